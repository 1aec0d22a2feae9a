/-
  The reference's windows.
  The reference's WindowsOf.
  Conditions: the pieces, pushes and spans are right. the fields are in their kinds' ranges.
-/
import Derived.Test.YtnabedhhflfepaaClkN
import Derived.Test.YtnabedhhflfepaaWin
import Derived.Test.YtnabedhhflfepaaPushes
import Derived.Test.YtnabedhhflfepaaVSpans
namespace Go.Proofs.Ytnabedhhflfepaa
open Go.RowKit
set_option linter.unusedSimpArgs false
set_option linter.unusedVariables false

set_option maxRecDepth 100000 in
set_option maxHeartbeats 2000000 in
theorem winds_S (base cb : Nat) (D : ClkD) (R : Rd) (w : World) (hD : D.Ok) (h : CkS w base cb D R) :
    Calls Try.prog 19 #[.pointer (some ⟨cb, 0, none⟩)] w (ResR Wn.enc 4 71 w (winL (mayT R.E R.L) R.E R.L D.xs.length)) := by
  obtain ⟨eg, lg, sg, ec, lc, sc, hc, hq, hsg, k4, k5, k6, hE, hL, hS, fc, fs, n1, n2, n3, n4, n5, b0, b1⟩ := h
  have hn := hD.n
  clear k6 hS fc fs n1 n2 n3 n4 n5 b0 b1 hq hsg
  generalize R.E = E at *
  generalize R.L = L at *
  have wl := winL_length (mayT E L) E L D.xs.length
  unfold ResR
  rw [wl]
  clear wl
  go_enter Try.func19, Try.ntmps19
  go_wp2_with fail
  go_loopw [3, 4] (fun o i wr => ∃ (k : Nat) (A : Option Addr) (c1 : Nat), k ≤ D.xs.length ∧ i = .int .i64 k ∧ o = .slice A k c1 ∧ wr.ownsRow w.heap.size 71 4 (.slice A k c1) k ((winL (mayT E L) E L k).flatMap Wn.enc) ∧ Below w.heap.size w wr) (fun _ i _ => D.xs.length - (intOf i).toNat)
  case atStart => exact ⟨0, _, _, Nat.zero_le _, rfl, rfl, by simpa [winL] using World.ownsRow_lit w #[] 0 (Nat.le_refl _) (by simp [maxLen]) (by simp), (Below.refl _ _).alloc (Nat.le_refl _) _⟩
  case round =>
    obtain ⟨k, A, c1, hk, rfl, rfl, own, hbl⟩ := hrel
    obtain ⟨V, hV⟩ : ∃ V, V = wr := ⟨_, rfl⟩
    subst hV
    have hcw := hc.below hbl
    have z0 := hcw.c0
    obtain ⟨g9, g0, g1, g2⟩ := hcw.bd
    have q4 := cell_on hbl k4
    have q5 := cell_on hbl k5
    have HE := hid (hE.below hbl hE.lt)
    have HL := hid (hL.below hbl hL.lt)
    have Ho := hid own
    have HB := hid hbl
    have hz := hbl.size
    clear own hbl
    by_cases hlt : k < D.xs.length
    · have hd : decide ((k : Int) < (D.xs.length : Int)) = true := by rw [decide_eq_true_iff]; omega
      have Hl := hid (least_S cb lg D.xs.length lc L k V hlt hn q5 HL.out)
      obtain ⟨v, hv⟩ : ∃ v, best4 (fun j => L (4 * k + j)) = v := ⟨_, rfl⟩
      rw [hv] at Hl
      have HV := hid hv
      obtain ⟨su, hsu⟩ : ∃ su : Bool, decide (v < big) = su := ⟨_, rfl⟩
      have hdn : decide (dn v ≥ 0) = su := by
        rw [← hsu]
        by_cases hvb : v < big
        · rw [dn_lt hvb, decide_eq_true hvb, decide_eq_true (by omega)]
        · rw [dn_ge hvb, decide_eq_false hvb]; rfl
      have HSU := hid hsu
      obtain ⟨dv, hdv⟩ : ∃ dv, dn v = dv := ⟨_, rfl⟩
      rw [hdv] at Hl hdn
      have HDV := hid hdv
      clear hv hsu hdv
      obtain ⟨W1, hW1⟩ : ∃ W, W = V.alloc (Obj.cells #[.int .u8 0, .bool su, .int .i64 (-1), .int .i64 dv] 71) := ⟨_, rfl⟩
      have B1 : Below V.heap.size V W1 := by rw [hW1]; exact (Below.refl _ _).alloc (Nat.le_refl _) _
      have hz1 : W1.heap.size = V.heap.size + 1 := by rw [hW1]; simp
      have fz1 : Fz W1 V.heap.size := by rw [hW1]; exact fz_made _ _ _
      have e0 : W1.cell? ⟨V.heap.size, 0, none⟩ = some (.int .u8 0) := by rw [hW1]; simp [go_sem]
      have e1 : W1.cell? ⟨V.heap.size, 1, none⟩ = some (.bool su) := by rw [hW1]; simp [go_sem]
      have e2 : W1.cell? ⟨V.heap.size, 2, none⟩ = some (.int .i64 (-1)) := by rw [hW1]; simp [go_sem]
      have e3 : W1.cell? ⟨V.heap.size, 3, none⟩ = some (.int .i64 dv) := by rw [hW1]; simp [go_sem]
      have HW1 := hid hW1
      clear hW1
      go_wp2_with fail
      refine Hl.out.mono ?_
      rintro e w1 ⟨rfl, rfl⟩
      go_wp2_with fail
      rw [← HW1.out]
      clear HW1
      go_loopw [6] (fun sv wx => ∃ s : Nat, s ≤ 4 ∧ sv = .int .i64 s ∧ W1.grownBy wx (some V.heap.size) ∧ Fz wx V.heap.size ∧ Wx wx V.heap.size (.int .u8 (sBits (upTo (mayT E L k) s))) (.bool su) (.int .i64 (dn (minW (mayT E L k) (fun j => E (4 * k + j)) s))) (.int .i64 dv)) (fun sv _ => 4 - (intOf sv).toNat)
      case atStart => exact ⟨0, Nat.zero_le _, rfl, World.grownBy.refl _ _, fz1, ⟨by rw [upTo_zero]; exact e0, e1, e2, e3⟩⟩
      case round =>
        obtain ⟨s, hs, rfl, hg, hfz, hx⟩ := hrel
        clear e0 e1 e2 e3 fz1
        have zg := hg.size
        have B2 : Below V.heap.size V wr := B1.grown hg (by omega) (fun j hj => by cases hj; exact Nat.le_refl _)
        have y0 := cell_on B2 z0
        have y4 := cell_on B2 q4
        have y5 := cell_on B2 q5
        by_cases hs4 : s < 4
        · have hds : decide ((s : Int) < 4) = true := by rw [decide_eq_true_iff]; omega
          have Hm := hid (may_S cb eg lg D.xs.length ec lc E L k s wr hlt hs4 hn y4 y5 (HE.out.below B2 HE.out.lt) (HL.out.below B2 HL.out.lt))
          obtain ⟨m, hm⟩ : ∃ m, mayT E L k s = m := ⟨_, rfl⟩
          rw [hm] at Hm
          have HG := hid hg
          have HF := hid hfz
          have HX := hid hx
          have cf : ∀ j, wr.frozen? ⟨V.heap.size, j, none⟩ = false := hfz
          obtain ⟨x0, x1, x2, x3⟩ := hx
          clear hg hfz
          cases m
          · have ub := upTo_no hm
            have um : minW (mayT E L k) (fun j => E (4 * k + j)) (s + 1) = minW (mayT E L k) (fun j => E (4 * k + j)) s := by rw [minW, hm]; simp
            have UB := hid ub
            have UM := hid um
            clear ub um hm
            go_wp2_with fail
            refine Hm.out.mono ?_
            rintro e w3 ⟨rfl, rfl⟩
            go_wp2_with fail
            exact ⟨⟨s + 1, by omega, by go_num, HG.out, HF.out, by rw [UB.out, UM.out]; exact HX.out⟩, by simp [intOf]; omega⟩
          · have ub := upTo_yes hs4 hm
            have um : minW (mayT E L k) (fun j => E (4 * k + j)) (s + 1) = min (minW (mayT E L k) (fun j => E (4 * k + j)) s) (E (4 * k + s)) := by rw [minW, hm]; simp
            have mle := minW_le (mayT E L k) (fun j => E (4 * k + j)) s
            have hfin : E (4 * k + s) < big := by
              unfold mayT at hm
              simp only [Bool.and_eq_true, decide_eq_true_eq] at hm
              exact hm.1
            have f0 := (HE.out.below B2 HE.out.lt).c k s hlt hs4
            rw [dn_lt hfin] at f0
            have HX := hid HX.out
            generalize sBits (upTo (mayT E L k) s) = bs at *
            obtain ⟨bs', hbs⟩ : ∃ b, sBits (upTo (mayT E L k) (s + 1)) = b := ⟨_, rfl⟩
            rw [hbs] at ub
            have HBS := hid hbs
            clear hbs
            generalize minW (mayT E L k) (fun j => E (4 * k + j)) s = mm at *
            generalize E (4 * k + s) = t at *
            have UB := hid ub
            have UM := hid um
            have HFI := hid hfin
            clear hfin
            have hki : (k : Int) < (D.xs.length : Int) := by omega
            have hegv := HE.out.lt
            have hne1 : ¬ eg = V.heap.size := by omega
            clear ub um hm
            have hsc := four_of hs4
            have hle : sBits (upTo (mayT E L k) 0) = sBits (upTo (mayT E L k) 0) := rfl
            clear hle
            rcases hsc with rfl | hsc
            · have ev : bits BinOp.or IntKind.u8 bs 1 = bs' := UB.out
              rw [Nat.add_zero] at f0
              by_cases hmb : mm < big
              · rw [dn_lt hmb] at x2 HX
                have em0 : decide ((mm : Int) < 0) = false := by rw [decide_eq_false_iff_not]; omega
                by_cases ht : t < mm
                · have et : decide ((t : Int) < (mm : Int)) = true := by rw [decide_eq_true_iff]; omega
                  go_wp2_with fail
                  refine Hm.out.mono ?_
                  rintro e w3 ⟨rfl, rfl⟩
                  go_wp2_with fail
                  refine ⟨⟨1, by omega, rfl, ((HG.out.trans (store_grown _ _ _ _)).trans (store_grown _ _ _ _)), ((HF.out.set _ _).set _ _), ?_⟩, by simp [intOf]⟩
                  show Wx _ _ (.int .u8 (sBits (upTo (mayT E L k) (0 + 1)))) _ (.int .i64 (dn (minW (mayT E L k) (fun j => E (4 * k + j)) (0 + 1)))) _
                  rw [HBS.out, UM.out, Nat.min_eq_right (by omega), dn_lt HFI.out]
                  exact ((HX.out.set0 (.int .u8 bs')).set2 (.int .i64 t))
                · have et : decide ((t : Int) < (mm : Int)) = false := by rw [decide_eq_false_iff_not]; omega
                  go_wp2_with fail
                  refine Hm.out.mono ?_
                  rintro e w3 ⟨rfl, rfl⟩
                  go_wp2_with fail
                  refine ⟨⟨1, by omega, rfl, (HG.out.trans (store_grown _ _ _ _)), (HF.out.set _ _), ?_⟩, by simp [intOf]⟩
                  show Wx _ _ (.int .u8 (sBits (upTo (mayT E L k) (0 + 1)))) _ (.int .i64 (dn (minW (mayT E L k) (fun j => E (4 * k + j)) (0 + 1)))) _
                  rw [HBS.out, UM.out, Nat.min_eq_left (by omega), dn_lt hmb]
                  exact (HX.out.set0 (.int .u8 bs'))
              · rw [dn_ge hmb] at x2 HX
                go_wp2_with fail
                refine Hm.out.mono ?_
                rintro e w3 ⟨rfl, rfl⟩
                go_wp2_with fail
                refine ⟨⟨1, by omega, rfl, ((HG.out.trans (store_grown _ _ _ _)).trans (store_grown _ _ _ _)), ((HF.out.set _ _).set _ _), ?_⟩, by simp [intOf]⟩
                show Wx _ _ (.int .u8 (sBits (upTo (mayT E L k) (0 + 1)))) _ (.int .i64 (dn (minW (mayT E L k) (fun j => E (4 * k + j)) (0 + 1)))) _
                rw [HBS.out, UM.out, Nat.min_eq_right (by have := HFI.out; omega), dn_lt HFI.out]
                exact ((HX.out.set0 (.int .u8 bs')).set2 (.int .i64 t))
            rcases hsc with rfl | hsc
            · have ev : bits BinOp.or IntKind.u8 bs 2 = bs' := UB.out
              by_cases hmb : mm < big
              · rw [dn_lt hmb] at x2 HX
                have em0 : decide ((mm : Int) < 0) = false := by rw [decide_eq_false_iff_not]; omega
                by_cases ht : t < mm
                · have et : decide ((t : Int) < (mm : Int)) = true := by rw [decide_eq_true_iff]; omega
                  go_wp2_with fail
                  refine Hm.out.mono ?_
                  rintro e w3 ⟨rfl, rfl⟩
                  go_wp2_with fail
                  refine ⟨⟨2, by omega, rfl, ((HG.out.trans (store_grown _ _ _ _)).trans (store_grown _ _ _ _)), ((HF.out.set _ _).set _ _), ?_⟩, by simp [intOf]⟩
                  show Wx _ _ (.int .u8 (sBits (upTo (mayT E L k) (1 + 1)))) _ (.int .i64 (dn (minW (mayT E L k) (fun j => E (4 * k + j)) (1 + 1)))) _
                  rw [HBS.out, UM.out, Nat.min_eq_right (by omega), dn_lt HFI.out]
                  exact ((HX.out.set0 (.int .u8 bs')).set2 (.int .i64 t))
                · have et : decide ((t : Int) < (mm : Int)) = false := by rw [decide_eq_false_iff_not]; omega
                  go_wp2_with fail
                  refine Hm.out.mono ?_
                  rintro e w3 ⟨rfl, rfl⟩
                  go_wp2_with fail
                  refine ⟨⟨2, by omega, rfl, (HG.out.trans (store_grown _ _ _ _)), (HF.out.set _ _), ?_⟩, by simp [intOf]⟩
                  show Wx _ _ (.int .u8 (sBits (upTo (mayT E L k) (1 + 1)))) _ (.int .i64 (dn (minW (mayT E L k) (fun j => E (4 * k + j)) (1 + 1)))) _
                  rw [HBS.out, UM.out, Nat.min_eq_left (by omega), dn_lt hmb]
                  exact (HX.out.set0 (.int .u8 bs'))
              · rw [dn_ge hmb] at x2 HX
                go_wp2_with fail
                refine Hm.out.mono ?_
                rintro e w3 ⟨rfl, rfl⟩
                go_wp2_with fail
                refine ⟨⟨2, by omega, rfl, ((HG.out.trans (store_grown _ _ _ _)).trans (store_grown _ _ _ _)), ((HF.out.set _ _).set _ _), ?_⟩, by simp [intOf]⟩
                show Wx _ _ (.int .u8 (sBits (upTo (mayT E L k) (1 + 1)))) _ (.int .i64 (dn (minW (mayT E L k) (fun j => E (4 * k + j)) (1 + 1)))) _
                rw [HBS.out, UM.out, Nat.min_eq_right (by have := HFI.out; omega), dn_lt HFI.out]
                exact ((HX.out.set0 (.int .u8 bs')).set2 (.int .i64 t))
            rcases hsc with rfl | rfl
            · have ev : bits BinOp.or IntKind.u8 bs 4 = bs' := UB.out
              by_cases hmb : mm < big
              · rw [dn_lt hmb] at x2 HX
                have em0 : decide ((mm : Int) < 0) = false := by rw [decide_eq_false_iff_not]; omega
                by_cases ht : t < mm
                · have et : decide ((t : Int) < (mm : Int)) = true := by rw [decide_eq_true_iff]; omega
                  go_wp2_with fail
                  refine Hm.out.mono ?_
                  rintro e w3 ⟨rfl, rfl⟩
                  go_wp2_with fail
                  refine ⟨⟨3, by omega, rfl, ((HG.out.trans (store_grown _ _ _ _)).trans (store_grown _ _ _ _)), ((HF.out.set _ _).set _ _), ?_⟩, by simp [intOf]⟩
                  show Wx _ _ (.int .u8 (sBits (upTo (mayT E L k) (2 + 1)))) _ (.int .i64 (dn (minW (mayT E L k) (fun j => E (4 * k + j)) (2 + 1)))) _
                  rw [HBS.out, UM.out, Nat.min_eq_right (by omega), dn_lt HFI.out]
                  exact ((HX.out.set0 (.int .u8 bs')).set2 (.int .i64 t))
                · have et : decide ((t : Int) < (mm : Int)) = false := by rw [decide_eq_false_iff_not]; omega
                  go_wp2_with fail
                  refine Hm.out.mono ?_
                  rintro e w3 ⟨rfl, rfl⟩
                  go_wp2_with fail
                  refine ⟨⟨3, by omega, rfl, (HG.out.trans (store_grown _ _ _ _)), (HF.out.set _ _), ?_⟩, by simp [intOf]⟩
                  show Wx _ _ (.int .u8 (sBits (upTo (mayT E L k) (2 + 1)))) _ (.int .i64 (dn (minW (mayT E L k) (fun j => E (4 * k + j)) (2 + 1)))) _
                  rw [HBS.out, UM.out, Nat.min_eq_left (by omega), dn_lt hmb]
                  exact (HX.out.set0 (.int .u8 bs'))
              · rw [dn_ge hmb] at x2 HX
                go_wp2_with fail
                refine Hm.out.mono ?_
                rintro e w3 ⟨rfl, rfl⟩
                go_wp2_with fail
                refine ⟨⟨3, by omega, rfl, ((HG.out.trans (store_grown _ _ _ _)).trans (store_grown _ _ _ _)), ((HF.out.set _ _).set _ _), ?_⟩, by simp [intOf]⟩
                show Wx _ _ (.int .u8 (sBits (upTo (mayT E L k) (2 + 1)))) _ (.int .i64 (dn (minW (mayT E L k) (fun j => E (4 * k + j)) (2 + 1)))) _
                rw [HBS.out, UM.out, Nat.min_eq_right (by have := HFI.out; omega), dn_lt HFI.out]
                exact ((HX.out.set0 (.int .u8 bs')).set2 (.int .i64 t))
            · have ev : bits BinOp.or IntKind.u8 bs 8 = bs' := UB.out
              by_cases hmb : mm < big
              · rw [dn_lt hmb] at x2 HX
                have em0 : decide ((mm : Int) < 0) = false := by rw [decide_eq_false_iff_not]; omega
                by_cases ht : t < mm
                · have et : decide ((t : Int) < (mm : Int)) = true := by rw [decide_eq_true_iff]; omega
                  go_wp2_with fail
                  refine Hm.out.mono ?_
                  rintro e w3 ⟨rfl, rfl⟩
                  go_wp2_with fail
                  refine ⟨⟨4, by omega, rfl, ((HG.out.trans (store_grown _ _ _ _)).trans (store_grown _ _ _ _)), ((HF.out.set _ _).set _ _), ?_⟩, by simp [intOf]⟩
                  show Wx _ _ (.int .u8 (sBits (upTo (mayT E L k) (3 + 1)))) _ (.int .i64 (dn (minW (mayT E L k) (fun j => E (4 * k + j)) (3 + 1)))) _
                  rw [HBS.out, UM.out, Nat.min_eq_right (by omega), dn_lt HFI.out]
                  exact ((HX.out.set0 (.int .u8 bs')).set2 (.int .i64 t))
                · have et : decide ((t : Int) < (mm : Int)) = false := by rw [decide_eq_false_iff_not]; omega
                  go_wp2_with fail
                  refine Hm.out.mono ?_
                  rintro e w3 ⟨rfl, rfl⟩
                  go_wp2_with fail
                  refine ⟨⟨4, by omega, rfl, (HG.out.trans (store_grown _ _ _ _)), (HF.out.set _ _), ?_⟩, by simp [intOf]⟩
                  show Wx _ _ (.int .u8 (sBits (upTo (mayT E L k) (3 + 1)))) _ (.int .i64 (dn (minW (mayT E L k) (fun j => E (4 * k + j)) (3 + 1)))) _
                  rw [HBS.out, UM.out, Nat.min_eq_left (by omega), dn_lt hmb]
                  exact (HX.out.set0 (.int .u8 bs'))
              · rw [dn_ge hmb] at x2 HX
                go_wp2_with fail
                refine Hm.out.mono ?_
                rintro e w3 ⟨rfl, rfl⟩
                go_wp2_with fail
                refine ⟨⟨4, by omega, rfl, ((HG.out.trans (store_grown _ _ _ _)).trans (store_grown _ _ _ _)), ((HF.out.set _ _).set _ _), ?_⟩, by simp [intOf]⟩
                show Wx _ _ (.int .u8 (sBits (upTo (mayT E L k) (3 + 1)))) _ (.int .i64 (dn (minW (mayT E L k) (fun j => E (4 * k + j)) (3 + 1)))) _
                rw [HBS.out, UM.out, Nat.min_eq_right (by have := HFI.out; omega), dn_lt HFI.out]
                exact ((HX.out.set0 (.int .u8 bs')).set2 (.int .i64 t))
        · obtain rfl : s = 4 := by omega
          have hds : decide (((4 : Nat) : Int) < 4) = false := by decide
          rw [upTo_four] at hx
          have OKW := hid (show winG (mayT E L) E L k = ⟨sBits (mayT E L k), su, dn (minW (mayT E L k) (fun j => E (4 * k + j)) 4), dv⟩ by unfold winG; rw [HV.out, HSU.out, HDV.out])
          generalize sBits (mayT E L k) = bs at *
          generalize dn (minW (mayT E L k) (fun j => E (4 * k + j)) 4) = ea at *
          obtain ⟨x0, x1, x2, x3⟩ := hx
          have Ho2 := hid (own_step Ho.out B2)
          have BB := hid (below_of HB.out hz B2)
          have hz2 := BB.out.size
          clear hg hfz B2 B1
          go_wp2_with (at_builtin; refine app_one (w := wr) 52 71 (.agg Wn.z.enc.toArray) 4 24 Try.underlying52 (by kernel_rfl) rfl (by decide) w.heap.size _ k _ Ho2.out ?c1 (by decide) hz2 [.int .u8 bs, .bool su, .int .i64 ea, .int .i64 dv] _ _ rfl rfl rfl _ rfl ?c3 rfl (by intro u hu; simp at hu; rcases hu with rfl | rfl | rfl | rfl <;> rfl) ?_)
          case c1 => omega
          case c3 => rfl
          intro A2 c2 w2 own2 hb2 hg2 hat2
          have HR := hid own2
          have HB2 := hid (BB.out.trans hb2)
          clear own2 hb2 hg2 hat2
          go_wp2_with fail
          refine ⟨⟨k + 1, A2, c2, by omega, by go_num, rfl, ?_, HB2.out⟩, by simp [intOf]; omega⟩
          have := HR.out
          rw [winL, List.flatMap_append, OKW.out]
          simpa [Wn.enc] using this
    · obtain rfl : k = D.xs.length := by omega
      have hd : decide ((D.xs.length : Int) < (D.xs.length : Int)) = false := by rw [decide_eq_false_iff_not]; omega
      go_wp2_with fail
      go_ret
      exact ⟨A, c1, rfl, HB.out, Ho.out⟩
theorem pcs_of {wi hi : Int} {xs : List Pc} (h : bdOk wi hi xs = true) : ∀ p ∈ xs, pcOk p = true := by
  unfold bdOk at h
  simp only [Bool.and_eq_true] at h
  obtain ⟨_, _, _, h⟩ := h
  rw [List.all_eq_true] at h
  intro p hp
  obtain ⟨k, hk, e⟩ := List.mem_iff_getElem.1 hp
  have := h k (List.mem_range.2 hk)
  unfold okAt at this
  rw [List.getElem?_eq_getElem hk, e] at this
  simp only [Bool.and_eq_true] at this
  exact this.1
theorem one_of {wi hi : Int} {xs : List Pc} (h : bdOk wi hi xs = true) : ∀ (i j : Nat) p q, xs[i]? = some p → xs[j]? = some q → p.x = q.x → p.y = q.y → i = j := by
  unfold bdOk at h
  simp only [Bool.and_eq_true] at h
  obtain ⟨_, _, _, h⟩ := h
  rw [List.all_eq_true] at h
  have key : ∀ (i j : Nat) p q, xs[i]? = some p → xs[j]? = some q → p.x = q.x → p.y = q.y → ¬ i < j := by
    intro i j p q hp hq hx hy hlt
    have hj := (List.getElem?_eq_some_iff.1 hq).1
    have := h j (List.mem_range.2 hj)
    unfold okAt at this
    rw [hq] at this
    simp only [Bool.and_eq_true, Bool.not_eq_true'] at this
    have h2 := this.2.2
    rw [List.any_eq_false] at h2
    refine h2 p ?_ (by unfold atC; simp [hx, hy])
    obtain ⟨hi', he⟩ := List.getElem?_eq_some_iff.1 hp
    exact List.mem_take_iff_getElem.2 ⟨i, by omega, he⟩
  intro i j p q hp hq hx hy
  have a := key i j p q hp hq hx hy
  have b := key j i q p hq hp hx.symm hy.symm
  omega
theorem inB_iff {n low high : Int} : inB n low high = true ↔ low ≤ n ∧ n ≤ high := by
  unfold inB
  simp
theorem cells_of {wi hi : Int} {xs : List Pc} (h : bdOk wi hi xs = true) : ∀ q ∈ xs, cellIn q.x q.y 24 24 = true := by
  intro q hq
  have := pcs_of h q hq
  unfold pcOk at this
  simp only [Bool.and_eq_true] at this
  exact this.2.2.2
theorem pc_nums {p : Pc} (h : pcOk p = true) : (0 ≤ p.x ∧ p.x ≤ 23) ∧ (0 ≤ p.y ∧ p.y ≤ 23) ∧ (0 ≤ p.k ∧ p.k ≤ 5) ∧ (0 ≤ p.t ∧ p.t ≤ 3) ∧ (1 ≤ p.d ∧ p.d ≤ 9) := by
  unfold pcOk cellIn at h
  simp only [Bool.and_eq_true, inB_iff] at h
  omega
/-- What is right with a board, its pushes and spans. -/
def timedB (wi hi : Int) (xs : List Pc) (ps : List Pu) (ss : List Sp) : Bool := ValidSpansG wi hi xs ss && pushesOk xs ps
theorem ok_of {wi hi : Int} {xs : List Pc} {ps : List Pu} {ss : List Sp} (h : timedB wi hi xs ps ss = true) (hn : xs.length ≤ 60) (b : Nat) (a : Option Addr) (c : Nat) (al : Option Addr) (cl : Nat) (sa : Option Addr) (sc : Nat) (na : Option Addr) (nc : Nat) :
    (ClkD.mk b wi hi a c xs al cl ps sa sc ss na nc).Ok := by
  unfold timedB ValidSpansG pushesOk at h
  simp only [Bool.and_eq_true, beq_iff_eq, decide_eq_true_eq] at h
  obtain ⟨⟨hb, hl, hs⟩, hp1, hp2, hp3⟩ := h
  rw [List.all_eq_true] at hs hp2 hp3
  refine ⟨hn, hp1, by dsimp only; omega, fun p hp => pc_nums (pcs_of hb p hp), fun p hp => ?_, fun p hp => ?_, one_of hb⟩
  · have h1 := hp2 p hp
    have h2 := onB_in (cells_of hb) (hp3 p hp)
    unfold puOk at h1
    unfold cellIn at h2
    simp only [Bool.and_eq_true, inB_iff] at h1 h2
    omega
  · have := hs p hp
    unfold spOk at this
    simp only [Bool.and_eq_true, decide_eq_true_eq] at this
    omega
def askedG (wi hi : Int) (xs : List Pc) (ps : List Pu) (ss : List Sp) : Int := if timedB wi hi xs ps ss = true then (if xs.length ≤ 60 then 0 else 3) else 1
/-- l06Time: the rounds at rest. -/
theorem time_S (b : Nat) (wi hi : Int) (a : Option Addr) (c : Nat) (xs : List Pc) (al : Option Addr) (cl : Nat) (ps : List Pu) (sa : Option Addr) (sc : Nat) (ss : List Sp) (w : World)
    (hb : BdA w b wi hi a xs.length c) (hx : SlA Pc.enc 5 w a xs) (hp : SlA Pu.enc 4 w al ps) (hs : SlA Sp.enc 2 w sa ss) (hD : ∀ na nc, (ClkD.mk b wi hi a c xs al cl ps sa sc ss na nc).Ok) :
    Calls Try.prog 16 #[.pointer (some ⟨b, 0, none⟩), .slice al ps.length cl, .slice sa ss.length sc] w fun e w' => ∃ cb na nc, e = .returned (.tuple #[.pointer (some ⟨cb, 0, none⟩), .int .i64 ((rest (netOf xs ps ss) + 1 : Nat) : Int)]) ∧ Below w.heap.size w w' ∧
      CkS w' w.heap.size cb (ClkD.mk b wi hi a c xs al cl ps sa sc ss na nc) (rd (netOf xs ps ss) (rest (netOf xs ps ss) + 1)) := by
  have okN : (netOf xs ps ss).Ok := net_ok (hD none 0)
  refine (time_of b al cl ps sa sc ss w (fun _ na nc => ClkD.mk b wi hi a c xs al cl ps sa sc ss na nc) (fun _ na nc => hD na nc) (netOf xs ps ss) (fun _ _ _ => rfl) ?_).mono ?_
  · refine (begin_S b wi hi a c xs al cl ps sa sc ss w hb hx hp hs hD).mono ?_
    rintro e w' ⟨cb, na, nc, h1, h2, h3⟩
    exact ⟨cb, 0, na, nc, h1, h2, h3⟩
  · rintro e w' ⟨cb, _, na, nc, k, h1, h2, h3, h4, h5⟩
    have := rest_eq okN h2 h3
    subst this
    exact ⟨cb, na, nc, h1, h4, h5⟩
def WindowsOfG (wi hi : Int) (xs : List Pc) (ps : List Pu) (ss : List Sp) : List Wn × Int × Int :=
  if askedG wi hi xs ps ss = 0 then (winsOf (netOf xs ps ss), ((rest (netOf xs ps ss) + 1 : Nat) : Int), 0) else ([], 0, askedG wi hi xs ps ss)
theorem asked_ok {wi hi : Int} {xs : List Pc} {ps : List Pu} {ss : List Sp} (h : askedG wi hi xs ps ss = 0) : timedB wi hi xs ps ss = true ∧ xs.length ≤ 60 := by
  unfold askedG at h
  split at h
  · rename_i h1
    split at h
    · rename_i h2; exact ⟨h1, h2⟩
    · cases h
  · cases h
theorem WindowsOf_len (wi hi : Int) (xs : List Pc) (ps : List Pu) (ss : List Sp) (h : xs.length ≤ 1048576) : (WindowsOfG wi hi xs ps ss).1.length ≤ 1048576 := by
  unfold WindowsOfG
  split
  · dsimp only
    rw [winsOf_length]
    exact h
  · simp
/-- A slice, a number and a code. -/
def ResS2 {α : Type} (enc : α → List Value) (n : Nat) (E : TypeId) (w : World) (R : List α) (sd cd : Int) (e : Ending) (w' : World) : Prop :=
  ∃ A c, e = .returned (.tuple #[.slice A R.length c, .int .i64 sd, .int .i64 cd]) ∧ Below w.heap.size w w' ∧ w'.ownsRow w.heap.size E n (.slice A R.length c) R.length (R.flatMap enc)
theorem ask_lt {wi hi : Int} {xs : List Pc} {ps : List Pu} {ss : List Sp} : askedG wi hi xs ps ss = 0 ∨ askedG wi hi xs ps ss = 1 ∨ askedG wi hi xs ps ss = 3 := by
  unfold askedG
  split
  · split <;> simp
  · simp
end Go.Proofs.Ytnabedhhflfepaa
