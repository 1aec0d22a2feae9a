/-
  The piece in a cell that is hit from one side and hits on another one, the program's.
  Conditions: the sides differ.
-/
import Derived.Test.YtgkgklgeobbmlaaLineV
import Derived.Test.YtgkgklgeobbmlaaFallsB
namespace Go.Proofs.Ytgkgklgeobbmlaa
open Go.RowKit
set_option linter.unusedSimpArgs false
set_option linter.unusedVariables false

theorem goes_falls (v : Int) (s : Nat) : (decide (0 ≤ v) && bitI (mx v) s) = (decide (0 < v) && decide (v / 2 ^ s % 2 = 1)) := by
  unfold mx bitI
  by_cases h : 0 ≤ v
  · rw [if_pos h]
    by_cases h2 : 0 < v
    · simp [h, h2]
    · have e : v = 0 := by omega
      subst e
      simp
  · rw [if_neg h]
    have h2 : ¬ 0 < v := by omega
    simp [h, h2]
theorem mx_hits {k f : Int} {t : Nat} (hk : k = 0 ∨ k = 1) (ht : t ≤ 3) (hf : 0 ≤ f ∧ f ≤ 3) : 0 ≤ mx (hitsG k (t : Int) f) ∧ mx (hitsG k (t : Int) f) ≤ 15 := by
  have h1 : t = 0 ∨ t = 1 ∨ t = 2 ∨ t = 3 := by omega
  have h2 : f = 0 ∨ f = 1 ∨ f = 2 ∨ f = 3 := by omega
  rcases hk with rfl | rfl <;> rcases h1 with rfl | rfl | rfl | rfl <;> rcases h2 with rfl | rfl | rfl | rfl <;> decide
set_option maxRecDepth 100000 in
set_option maxHeartbeats 8000000 in
theorem between_I (x y f : Int) (on : Nat) (w : World) (hf : 0 ≤ f ∧ f ≤ 3) (ho : 0 ≤ (on : Int) ∧ (on : Int) ≤ 3) (hne : f ≠ (on : Int)) :
    Calls Try.prog 101 #[.agg #[.int .i8 x, .int .i8 y], .int .i64 f, .int .i64 (on : Int)] w fun e w' => e = .returned (.agg #[.int .i8 x, .int .i8 y, .int .i8 (kindP f (on : Int)), .int .i8 (turnP f (on : Int) : Nat), .int .i8 1]) ∧ Below w.heap.size w w' := by
  obtain ⟨ht3, htok, htno⟩ := turn_ok hf ho hne
  have hk : 0 ≤ kindP f (on : Int) ∧ kindP f (on : Int) ≤ 5 := by unfold kindP; split <;> omega
  have HTok := hid htok
  have HTno := hid htno
  have HOp := hid (fun W => opp_I f W hf)
  have HK := hid (show kindP f (on : Int) = if (f + 2) % 4 = (on : Int) then 0 else 1 from rfl)
  generalize turnP f (on : Int) = tn at *
  generalize hkk : kindP f (on : Int) = kk at *
  clear htok htno hkk
  obtain ⟨WA, hWA⟩ : ∃ W, W = (w.alloc (.cells #[.int .i8 x, .int .i8 y] 36)).alloc (.cells #[.int .i8 0, .int .i8 0, .int .i8 0, .int .i8 0, .int .i8 0] 98) := ⟨_, rfl⟩
  obtain ⟨WB, hWB⟩ : ∃ W, W = WA.alloc (.cells #[.int .i8 x, .int .i8 y, .int .i8 0, .int .i8 0, .int .i8 1] 98) := ⟨_, rfl⟩
  have hA : Below w.heap.size w WA := by rw [hWA]; exact ((Below.refl _ _).alloc (Nat.le_refl _) _).alloc (by simp) _
  have hB : Below WA.heap.size WA WB := by rw [hWB]; exact (Below.refl _ _).alloc (Nat.le_refl _) _
  have hra : PcB WA (w.heap.size + 1) 0 0 0 0 0 := by
    have h := pcb_new (w.alloc (.cells #[.int .i8 x, .int .i8 y] 36)) 0 0 0 0 0 98
    rw [World.size_alloc] at h
    rw [hWA]
    exact h
  have HR := hid (hra.below hB)
  have hsz : WA.heap.size = w.heap.size + 1 + 1 := by rw [hWA]; simp
  have HP := hid (show PcB WB (w.heap.size + 1 + 1) x y 0 0 1 by
    have h := pcb_new WA x y 0 0 1 98
    rw [hsz] at h
    rw [hWB]
    exact h)
  have HB := hid (below_of hA hA.size hB)
  rw [hWA] at hWB
  clear hWA hA hB hra hsz
  go_enter Try.func101, Try.ntmps101
  go_upto_region 2 with fail
  rw [← hWB]
  clear hWB
  obtain ⟨rb, hrb⟩ : ∃ rb, w.heap.size + 1 = rb := ⟨_, rfl⟩
  rw [hrb] at HR HP ⊢
  obtain ⟨pb, hpb⟩ : ∃ pb, rb + 1 = pb := ⟨_, rfl⟩
  rw [hpb] at HP ⊢
  have hs : (kk = 0 ∧ ((on : Int) != ((f + 2) % 4)) = false) ∨ (kk = 1 ∧ ((on : Int) != ((f + 2) % 4)) = true) := by
    by_cases h : (f + 2) % 4 = (on : Int)
    · exact .inl ⟨by rw [HK.out, if_pos h], by rw [h]; simp⟩
    · exact .inr ⟨by rw [HK.out, if_neg h], by simpa using fun e : (on : Int) = (f + 2) % 4 => h e.symm⟩
  have hrbp : rb < pb := by omega
  have hwrb : w.heap.size < rb := by omega
  clear hrb hpb
  rcases hs with ⟨rfl, hs⟩ | ⟨rfl, hs⟩
  · have hbs0 := HB.out
    have hps0 := HP.out
    have hrs0 := HR.out
    go_wp2_with fail
    refine (HOp.out WB).mono ?_
    rintro e0 w0' ⟨rfl, rfl⟩
    go_wp2_with fail
    have HBs := hid hbs0
    have HPs := hid hps0
    have HRs := hid hrs0
    clear hbs0 hps0 hrs0
    obtain ⟨V, hV⟩ : ∃ V : World, V = WB := ⟨_, rfl⟩
    rw [← hV] at HBs HPs HRs ⊢
    clear hV
    go_loopw [8] (fun tv wr => ∃ (t : Nat), t ≤ tn ∧ PcB wr pb x y 0 (t : Int) 1 ∧ PcB wr rb 0 0 0 0 0 ∧ Below w.heap.size w wr) (fun _ wr => 4 - (intOf ((wr.cell? ⟨pb, 3, none⟩).getD undef)).toNat)
    case atStart => exact ⟨0, Nat.zero_le _, HPs.out, HRs.out, HBs.out⟩
    case round =>
      clear HBs HPs HRs
      obtain ⟨t, ht, hps, hrs, hbl⟩ := hrel
      have hti : (t : Int) ≤ 3 := by omega
      have hcell := hps.c3
      have hps2 := hps
      obtain ⟨-, y0, y1, y2, y3, y4, -⟩ := hps2
      have HPt := hid hps
      have HRt := hid hrs
      have HBt := hid hbl
      have HH := hid (falls_I x y 0 (t : Int) 1 f wr (by omega) (by omega) hf)
      clear hps hrs hbl
      go_wp2_with fail
      refine HH.out.mono ?_
      rintro e v1 ⟨rfl, hb1⟩
      have HPt := hid (HPt.out.below hb1)
      have HRt := hid (HRt.out.below hb1)
      have HBt := hid (below_of HBt.out HBt.out.size hb1)
      have hyes := HTok.out
      have hno := HTno.out t
      have hvin : hitsG 0 (t : Int) f ≤ 15 ∨ 15 < hitsG 0 (t : Int) f := by omega
      have hmx : 0 ≤ mx (hitsG 0 (t : Int) f) ∧ mx (hitsG 0 (t : Int) f) ≤ 15 := mx_hits (by simp) (by omega) hf
      have HV := hid (fun W => has_V (mx (hitsG 0 (t : Int) f)) on W hmx (by omega))
      have HG := hid (show goesP 0 f (on : Int) t = (decide (0 ≤ hitsG 0 (t : Int) f) && bitI (mx (hitsG 0 (t : Int) f)) on) from by
        rw [goes_falls]
        unfold goesP
        rw [Int.toNat_natCast])
      generalize hitsG 0 (t : Int) f = v at *
      generalize mx v = m at *
      have p3 := HPt.out.c3
      have w3 := HPt.out.fz 3
      have wt : IntKind.i8.wrap ((t : Int) + 1) = (t : Int) + 1 := IntWalk.i8_in _ (by omega)
      have HCe := hid hcell
      clear hb1 y0 y1 y2 y3 y4 hcell hvin hmx
      have hnext : ∀ W : World, W = v1.setCell ⟨pb, 3, none⟩ (.int .i8 ((t : Int) + 1)) → t < tn → ∃ t' : Nat, t' ≤ tn ∧ PcB W pb x y 0 (t' : Int) 1 ∧ PcB W rb 0 0 0 0 0 ∧ Below w.heap.size w W := fun W hW hlt => by
        subst hW
        exact ⟨t + 1, by omega, HPt.out.turn _, HRt.out.other (by omega), HBt.out.setCell (by show w.heap.size ≤ pb; omega) _⟩
      have HNx := hid hnext
      clear hnext
      rcases Nat.lt_or_ge t tn with hlt | hge
      · have hg := hno hlt
        rw [HG.out] at hg
        clear hyes hno
        cases hv0 : decide (0 ≤ v) with
        | false =>
          clear hg
          go_wp2_with fail
          refine ⟨HNx.out _ rfl hlt, ?_⟩
          have hcn : (v1.setCell ⟨pb, 3, none⟩ (.int .i8 ((t : Int) + 1))).cell? ⟨pb, 3, none⟩ = some (.int .i8 ((t : Int) + 1)) := World.cell?_setCell_same _ _ _ (by rw [HPt.out.c3])
          rw [hcn, HCe.out]
          simp [intOf]
          omega
        | true =>
          rw [hv0] at hg
          have hbit : bitI m on = false := by simpa using hg
          rw [hbit] at HV
          clear hg hbit
          go_wp2_with fail
          refine (HV.out v1).mono ?_
          rintro e9 w9 ⟨rfl, rfl⟩
          go_wp2_with fail
          refine ⟨HNx.out _ rfl hlt, ?_⟩
          have hcn : (v1.setCell ⟨pb, 3, none⟩ (.int .i8 ((t : Int) + 1))).cell? ⟨pb, 3, none⟩ = some (.int .i8 ((t : Int) + 1)) := World.cell?_setCell_same _ _ _ (by rw [HPt.out.c3])
          rw [hcn, HCe.out]
          simp [intOf]
          omega
      · have htt : t = tn := by omega
        subst htt
        rw [HG.out, Bool.and_eq_true] at hyes
        obtain ⟨d1, hbit⟩ := hyes
        rw [hbit] at HV
        clear hno hbit p3 w3
        obtain ⟨-, p0, p1, p2, p3, p4, -⟩ := HPt.out
        obtain ⟨-, r0, r1, r2, r3, r4, rz⟩ := HRt.out
        have z0 := rz 0
        have z1 := rz 1
        have z2 := rz 2
        have z3 := rz 3
        have z4 := rz 4
        clear rz
        go_wp2_with fail
        refine (HV.out v1).mono ?_
        rintro e9 w9 ⟨rfl, rfl⟩
        go_wp2_with fail
        refine bodyPost_ret (v := .agg #[.int .i8 x, .int .i8 y, .int .i8 0, .int .i8 (t : Int), .int .i8 1]) (by simp [results, Try.results101, go_sem, r0, r1, r2, r3, r4]) rfl ⟨rfl, ?_⟩
        exact ((((HBt.out.setCell (p := ⟨rb, 0, none⟩) (by show w.heap.size ≤ rb; omega) _).setCell (p := ⟨rb, 1, none⟩) (by show w.heap.size ≤ rb; omega) _).setCell (p := ⟨rb, 2, none⟩) (by show w.heap.size ≤ rb; omega) _).setCell (p := ⟨rb, 3, none⟩) (by show w.heap.size ≤ rb; omega) _).setCell (p := ⟨rb, 4, none⟩) (by show w.heap.size ≤ rb; omega) _
  · have z2 := HP.out.fz 2
    have y2 := HP.out.c2
    have hbs0 := HB.out.setCell (p := ⟨pb, 2, none⟩) (by show w.heap.size ≤ pb; omega) (.int .i8 1)
    have hps0 := HP.out.kind 1
    have hrs0 := HR.out.other (b' := pb) (j := 2) (v := .int .i8 1) (by omega)
    go_wp2_with fail
    refine (HOp.out WB).mono ?_
    rintro e0 w0' ⟨rfl, rfl⟩
    go_wp2_with fail
    clear z2 y2
    have HBs := hid hbs0
    have HPs := hid hps0
    have HRs := hid hrs0
    clear hbs0 hps0 hrs0
    obtain ⟨V, hV⟩ : ∃ V : World, V = WB.setCell ⟨pb, 2, none⟩ (.int .i8 1) := ⟨_, rfl⟩
    rw [← hV] at HBs HPs HRs ⊢
    clear hV
    go_loopw [8] (fun tv wr => ∃ (t : Nat), t ≤ tn ∧ PcB wr pb x y 1 (t : Int) 1 ∧ PcB wr rb 0 0 0 0 0 ∧ Below w.heap.size w wr) (fun _ wr => 4 - (intOf ((wr.cell? ⟨pb, 3, none⟩).getD undef)).toNat)
    case atStart => exact ⟨0, Nat.zero_le _, HPs.out, HRs.out, HBs.out⟩
    case round =>
      clear HBs HPs HRs
      obtain ⟨t, ht, hps, hrs, hbl⟩ := hrel
      have hti : (t : Int) ≤ 3 := by omega
      have hcell := hps.c3
      have hps2 := hps
      obtain ⟨-, y0, y1, y2, y3, y4, -⟩ := hps2
      have HPt := hid hps
      have HRt := hid hrs
      have HBt := hid hbl
      have HH := hid (falls_I x y 1 (t : Int) 1 f wr (by omega) (by omega) hf)
      clear hps hrs hbl
      go_wp2_with fail
      refine HH.out.mono ?_
      rintro e v1 ⟨rfl, hb1⟩
      have HPt := hid (HPt.out.below hb1)
      have HRt := hid (HRt.out.below hb1)
      have HBt := hid (below_of HBt.out HBt.out.size hb1)
      have hyes := HTok.out
      have hno := HTno.out t
      have hvin : hitsG 1 (t : Int) f ≤ 15 ∨ 15 < hitsG 1 (t : Int) f := by omega
      have hmx : 0 ≤ mx (hitsG 1 (t : Int) f) ∧ mx (hitsG 1 (t : Int) f) ≤ 15 := mx_hits (by simp) (by omega) hf
      have HV := hid (fun W => has_V (mx (hitsG 1 (t : Int) f)) on W hmx (by omega))
      have HG := hid (show goesP 1 f (on : Int) t = (decide (0 ≤ hitsG 1 (t : Int) f) && bitI (mx (hitsG 1 (t : Int) f)) on) from by
        rw [goes_falls]
        unfold goesP
        rw [Int.toNat_natCast])
      generalize hitsG 1 (t : Int) f = v at *
      generalize mx v = m at *
      have p3 := HPt.out.c3
      have w3 := HPt.out.fz 3
      have wt : IntKind.i8.wrap ((t : Int) + 1) = (t : Int) + 1 := IntWalk.i8_in _ (by omega)
      have HCe := hid hcell
      clear hb1 y0 y1 y2 y3 y4 hcell hvin hmx
      have hnext : ∀ W : World, W = v1.setCell ⟨pb, 3, none⟩ (.int .i8 ((t : Int) + 1)) → t < tn → ∃ t' : Nat, t' ≤ tn ∧ PcB W pb x y 1 (t' : Int) 1 ∧ PcB W rb 0 0 0 0 0 ∧ Below w.heap.size w W := fun W hW hlt => by
        subst hW
        exact ⟨t + 1, by omega, HPt.out.turn _, HRt.out.other (by omega), HBt.out.setCell (by show w.heap.size ≤ pb; omega) _⟩
      have HNx := hid hnext
      clear hnext
      rcases Nat.lt_or_ge t tn with hlt | hge
      · have hg := hno hlt
        rw [HG.out] at hg
        clear hyes hno
        cases hv0 : decide (0 ≤ v) with
        | false =>
          clear hg
          go_wp2_with fail
          refine ⟨HNx.out _ rfl hlt, ?_⟩
          have hcn : (v1.setCell ⟨pb, 3, none⟩ (.int .i8 ((t : Int) + 1))).cell? ⟨pb, 3, none⟩ = some (.int .i8 ((t : Int) + 1)) := World.cell?_setCell_same _ _ _ (by rw [HPt.out.c3])
          rw [hcn, HCe.out]
          simp [intOf]
          omega
        | true =>
          rw [hv0] at hg
          have hbit : bitI m on = false := by simpa using hg
          rw [hbit] at HV
          clear hg hbit
          go_wp2_with fail
          refine (HV.out v1).mono ?_
          rintro e9 w9 ⟨rfl, rfl⟩
          go_wp2_with fail
          refine ⟨HNx.out _ rfl hlt, ?_⟩
          have hcn : (v1.setCell ⟨pb, 3, none⟩ (.int .i8 ((t : Int) + 1))).cell? ⟨pb, 3, none⟩ = some (.int .i8 ((t : Int) + 1)) := World.cell?_setCell_same _ _ _ (by rw [HPt.out.c3])
          rw [hcn, HCe.out]
          simp [intOf]
          omega
      · have htt : t = tn := by omega
        subst htt
        rw [HG.out, Bool.and_eq_true] at hyes
        obtain ⟨d1, hbit⟩ := hyes
        rw [hbit] at HV
        clear hno hbit p3 w3
        obtain ⟨-, p0, p1, p2, p3, p4, -⟩ := HPt.out
        obtain ⟨-, r0, r1, r2, r3, r4, rz⟩ := HRt.out
        have z0 := rz 0
        have z1 := rz 1
        have z2 := rz 2
        have z3 := rz 3
        have z4 := rz 4
        clear rz
        go_wp2_with fail
        refine (HV.out v1).mono ?_
        rintro e9 w9 ⟨rfl, rfl⟩
        go_wp2_with fail
        refine bodyPost_ret (v := .agg #[.int .i8 x, .int .i8 y, .int .i8 1, .int .i8 (t : Int), .int .i8 1]) (by simp [results, Try.results101, go_sem, r0, r1, r2, r3, r4]) rfl ⟨rfl, ?_⟩
        exact ((((HBt.out.setCell (p := ⟨rb, 0, none⟩) (by show w.heap.size ≤ rb; omega) _).setCell (p := ⟨rb, 1, none⟩) (by show w.heap.size ≤ rb; omega) _).setCell (p := ⟨rb, 2, none⟩) (by show w.heap.size ≤ rb; omega) _).setCell (p := ⟨rb, 3, none⟩) (by show w.heap.size ≤ rb; omega) _).setCell (p := ⟨rb, 4, none⟩) (by show w.heap.size ≤ rb; omega) _
end Go.Proofs.Ytgkgklgeobbmlaa
