/-
  The pieces of a line, the reference's.
  Conditions: the cells are those of a line.
-/
import Derived.Test.YtgkgklgeobbmlaaLineT
namespace Go.Proofs.Ytgkgklgeobbmlaa
open Go.RowKit
set_option linter.unusedSimpArgs false
set_option linter.unusedVariables false

/-- A piece's box. -/
structure PcB (w : World) (b : Nat) (x y k t d : Int) : Prop where
  lt : b < w.heap.size
  c0 : w.cell? ⟨b, 0, none⟩ = some (.int .i8 x)
  c1 : w.cell? ⟨b, 1, none⟩ = some (.int .i8 y)
  c2 : w.cell? ⟨b, 2, none⟩ = some (.int .i8 k)
  c3 : w.cell? ⟨b, 3, none⟩ = some (.int .i8 t)
  c4 : w.cell? ⟨b, 4, none⟩ = some (.int .i8 d)
  fz : ∀ j, w.frozen? ⟨b, j, none⟩ = false
theorem PcB.below {w w1 : World} {b : Nat} {x y k t d : Int} (h : PcB w b x y k t d) (hb : Below w.heap.size w w1) : PcB w1 b x y k t d :=
  ⟨Nat.lt_of_lt_of_le h.lt hb.size, cell_on hb h.c0, cell_on hb h.c1, cell_on hb h.c2, cell_on hb h.c3, cell_on hb h.c4, fun j => (hb.frozen (p := ⟨b, j, none⟩) h.lt).trans (h.fz j)⟩
theorem PcB.turn {w : World} {b : Nat} {x y k t d : Int} (h : PcB w b x y k t d) (u : Int) : PcB (w.setCell ⟨b, 3, none⟩ (.int .i8 u)) b x y k u d :=
  ⟨by rw [World.size_setCell]; exact h.lt, by rw [World.cell?_setCell_other _ _ _ _ (by simp)]; exact h.c0, by rw [World.cell?_setCell_other _ _ _ _ (by simp)]; exact h.c1, by rw [World.cell?_setCell_other _ _ _ _ (by simp)]; exact h.c2, World.cell?_setCell_same _ _ _ (by rw [h.c3]), by rw [World.cell?_setCell_other _ _ _ _ (by simp)]; exact h.c4, fun j => by rw [World.frozen?_setCell]; exact h.fz j⟩
theorem PcB.kind {w : World} {b : Nat} {x y k t d : Int} (h : PcB w b x y k t d) (u : Int) : PcB (w.setCell ⟨b, 2, none⟩ (.int .i8 u)) b x y u t d :=
  ⟨by rw [World.size_setCell]; exact h.lt, by rw [World.cell?_setCell_other _ _ _ _ (by simp)]; exact h.c0, by rw [World.cell?_setCell_other _ _ _ _ (by simp)]; exact h.c1, World.cell?_setCell_same _ _ _ (by rw [h.c2]), by rw [World.cell?_setCell_other _ _ _ _ (by simp)]; exact h.c3, by rw [World.cell?_setCell_other _ _ _ _ (by simp)]; exact h.c4, fun j => by rw [World.frozen?_setCell]; exact h.fz j⟩
theorem PcB.other {w : World} {b b' j : Nat} {x y k t d : Int} {v : Value} (h : PcB w b x y k t d) (hn : b' ≠ b) : PcB (w.setCell ⟨b', j, none⟩ v) b x y k t d := by
  have n1 : ∀ o, (⟨b', j, none⟩ : Addr) ≠ ⟨b, o, none⟩ := fun o e => hn (by injection e)
  exact ⟨by rw [World.size_setCell]; exact h.lt, by rw [World.cell?_setCell_other _ _ _ _ (by first | exact n1 _ | exact (n1 _).symm)]; exact h.c0, by rw [World.cell?_setCell_other _ _ _ _ (by first | exact n1 _ | exact (n1 _).symm)]; exact h.c1, by rw [World.cell?_setCell_other _ _ _ _ (by first | exact n1 _ | exact (n1 _).symm)]; exact h.c2, by rw [World.cell?_setCell_other _ _ _ _ (by first | exact n1 _ | exact (n1 _).symm)]; exact h.c3, by rw [World.cell?_setCell_other _ _ _ _ (by first | exact n1 _ | exact (n1 _).symm)]; exact h.c4, fun j => by rw [World.frozen?_setCell]; exact h.fz j⟩
theorem pcb_new (w : World) (x y k t d : Int) (T : TypeId) : PcB (w.alloc (.cells #[.int .i8 x, .int .i8 y, .int .i8 k, .int .i8 t, .int .i8 d] T)) w.heap.size x y k t d :=
  ⟨by simp, by simp [go_sem], by simp [go_sem], by simp [go_sem], by simp [go_sem], by simp [go_sem], fun j => by simp [go_sem]⟩
set_option maxRecDepth 100000 in
set_option maxHeartbeats 8000000 in
theorem piece_LS (x y f o : Int) (w : World) (hf : 0 ≤ f ∧ f ≤ 3) (ho : 0 ≤ o ∧ o ≤ 3) (hne : f ≠ o) :
    Calls Try.prog 92 #[.agg #[.int .i8 x, .int .i8 y], .int .i64 f, .int .i64 o] w fun e w' => e = .returned (.agg #[.int .i8 x, .int .i8 y, .int .i8 (kindP f o), .int .i8 (turnP f o : Nat), .int .i8 1]) ∧ Below w.heap.size w w' := by
  obtain ⟨ht3, htok, htno⟩ := turn_ok hf ho hne
  have hk : 0 ≤ kindP f o ∧ kindP f o ≤ 5 := by unfold kindP; split <;> omega
  have HTok := hid htok
  have HTno := hid htno
  have w1 : IntKind.i64.wrap (f + 2) = f + 2 := IntWalk.i64_in _ (by omega)
  have e1 : (f + 2).tmod 4 = (f + 2) % 4 := Int.tmod_eq_emod_of_nonneg (by omega)
  have w2 : IntKind.i64.wrap ((f + 2) % 4) = (f + 2) % 4 := IntWalk.i64_in _ (by omega)
  have HK := hid (show kindP f o = if (f + 2) % 4 = o then 0 else 1 from rfl)
  generalize turnP f o = tn at *
  generalize hkk : kindP f o = kk at *
  clear htok htno hkk
  obtain ⟨WA, hWA⟩ : ∃ W, W = (w.alloc (.cells #[.int .i8 x, .int .i8 y] 36)).alloc (.cells #[.int .i8 0, .int .i8 0, .int .i8 0, .int .i8 0, .int .i8 0] 98) := ⟨_, rfl⟩
  obtain ⟨WB, hWB⟩ : ∃ W, W = WA.alloc (.cells #[.int .i8 x, .int .i8 y, .int .i8 0, .int .i8 0, .int .i8 1] 98) := ⟨_, rfl⟩
  have hA : Below w.heap.size w WA := by rw [hWA]; exact ((Below.refl _ _).alloc (Nat.le_refl _) _).alloc (by simp) _
  have hB : Below WA.heap.size WA WB := by rw [hWB]; exact (Below.refl _ _).alloc (Nat.le_refl _) _
  have hra : PcB WA (w.heap.size + 1) 0 0 0 0 0 := by
    have h := pcb_new (w.alloc (.cells #[.int .i8 x, .int .i8 y] 36)) 0 0 0 0 0 98
    rw [World.size_alloc] at h
    rw [hWA]
    exact h
  have HR := hid (hra.below hB)
  have hsz : WA.heap.size = w.heap.size + 1 + 1 := by rw [hWA]; simp
  have HP := hid (show PcB WB (w.heap.size + 1 + 1) x y 0 0 1 by
    have h := pcb_new WA x y 0 0 1 98
    rw [hsz] at h
    rw [hWB]
    exact h)
  have HB := hid (below_of hA hA.size hB)
  rw [hWA] at hWB
  clear hWA hA hB hra hsz
  go_enter Try.func92, Try.ntmps92
  go_upto_region 2 with fail
  rw [← hWB]
  clear hWB
  obtain ⟨rb, hrb⟩ : ∃ rb, w.heap.size + 1 = rb := ⟨_, rfl⟩
  rw [hrb] at HR HP ⊢
  obtain ⟨pb, hpb⟩ : ∃ pb, rb + 1 = pb := ⟨_, rfl⟩
  rw [hpb] at HP ⊢
  have hs : (kk = 0 ∧ (((f + 2) % 4) != o) = false) ∨ (kk = 1 ∧ (((f + 2) % 4) != o) = true) := by
    by_cases h : (f + 2) % 4 = o
    · exact .inl ⟨by rw [HK.out, if_pos h], by rw [h]; simp⟩
    · exact .inr ⟨by rw [HK.out, if_neg h], by simpa using h⟩
  have hrbp : rb < pb := by omega
  have hwrb : w.heap.size < rb := by omega
  clear hrb hpb
  rcases hs with ⟨rfl, hs⟩ | ⟨rfl, hs⟩
  · have hbs0 := HB.out
    have hps0 := HP.out
    have hrs0 := HR.out
    go_wp2_with fail
    have HBs := hid hbs0
    have HPs := hid hps0
    have HRs := hid hrs0
    clear hbs0 hps0 hrs0
    obtain ⟨V, hV⟩ : ∃ V : World, V = WB := ⟨_, rfl⟩
    rw [← hV] at HBs HPs HRs ⊢
    clear hV
    go_loopw [8] (fun tv wr => ∃ (t : Nat) (u : Int), t ≤ tn ∧ tv = .int .i8 t ∧ PcB wr pb x y 0 u 1 ∧ PcB wr rb 0 0 0 0 0 ∧ Below w.heap.size w wr) (fun tv _ => 4 - (intOf tv).toNat)
    case atStart => exact ⟨0, 0, Nat.zero_le _, rfl, HPs.out, HRs.out, HBs.out⟩
    case round =>
      clear HBs HPs HRs
      obtain ⟨t, u, ht, rfl, hps, hrs, hbl⟩ := hrel
      have hti : (t : Int) < 4 := by omega
      have hd1 : decide ((t : Int) < 4) = true := by rw [decide_eq_true_iff]; omega
      have wt : IntKind.i8.wrap ((t : Int) + 1) = (t : Int) + 1 := IntWalk.i8_in _ (by omega)
      have z3 := hps.fz 3
      have y3 := hps.c3
      have HPt := hid (hps.turn (t : Int))
      have HRt := hid (hrs.other (b' := pb) (j := 3) (v := .int .i8 (t : Int)) (by omega))
      have HBt := hid (hbl.setCell (p := ⟨pb, 3, none⟩) (by show w.heap.size ≤ pb; omega) (.int .i8 (t : Int)))
      clear hps hrs hbl
      obtain ⟨V2, hV2⟩ : ∃ V2, V2 = wr.setCell ⟨pb, 3, none⟩ (.int .i8 (t : Int)) := ⟨_, rfl⟩
      rw [← hV2] at HPt HRt HBt
      have HH := hid (hits_S pb 0 0 (t : Int) f V2 (by omega) (by omega) hf HPt.out.lt HPt.out.c2 HPt.out.c3)
      go_wp2_with fail
      rw [← hV2]
      clear hV2 y3 z3
      refine HH.out.mono ?_
      rintro e v1 ⟨rfl, hb1⟩
      have HPt := hid (HPt.out.below hb1)
      have HRt := hid (HRt.out.below hb1)
      have HBt := hid (below_of HBt.out HBt.out.size hb1)
      have hyes := HTok.out
      have hno := HTno.out t
      have hvin : -1 ≤ hitsG 0 (t : Int) f ∧ hitsG 0 (t : Int) f ≤ 32 := by
        unfold hitsG
        split
        · omega
        · have := rotTo_in (tab 0 ((f + 4 - (t : Int)) % 4)) (t : Int) 4
          omega
      have HG := hid (show goesP 0 f o t = (decide (0 < hitsG 0 (t : Int) f) && decide (hitsG 0 (t : Int) f / 2 ^ o.toNat % 2 = 1)) from rfl)
      generalize hitsG 0 (t : Int) f = v at *
      clear hb1
      have HPw := hid (show 0 < v → ((v / 2 ^ o.toNat).tmod 2 == 1) = decide (v / 2 ^ o.toNat % 2 = 1) from fun hv => by
        rw [Int.tmod_eq_emod_of_nonneg (Int.ediv_nonneg (by omega) (Int.pow_nonneg (by decide)))]
        rw [Bool.eq_iff_iff, decide_eq_true_iff]
        simp)
      obtain ⟨r, hr⟩ : ∃ r, (v / 2 ^ o.toNat) = r := ⟨_, rfl⟩
      rw [hr] at HPw HG
      rcases Nat.lt_or_ge t tn with hlt | hge
      · have hg := hno hlt
        rw [HG.out] at hg
        clear hyes hno
        by_cases hv0 : 0 < v
        · have d1 : decide (0 < v) = true := decide_eq_true hv0
          have d2 : (r.tmod 2 == 1) = false := by rw [HPw.out hv0]; rw [d1] at hg; simpa using hg
          clear hg
          go_wp2_with fail
          exact ⟨⟨t + 1, t, by omega, by go_num, HPt.out, HRt.out, HBt.out⟩, by simp [intOf]; omega⟩
        · have d1 : decide (0 < v) = false := decide_eq_false hv0
          clear hg
          go_wp2_with fail
          exact ⟨⟨t + 1, t, by omega, by go_num, HPt.out, HRt.out, HBt.out⟩, by simp [intOf]; omega⟩
      · have htt : t = tn := by omega
        subst htt
        rw [HG.out, Bool.and_eq_true] at hyes
        obtain ⟨d1, d3⟩ := hyes
        have hv0 : 0 < v := of_decide_eq_true d1
        have d2 : (r.tmod 2 == 1) = true := by rw [HPw.out hv0]; exact d3
        obtain ⟨-, p0, p1, p2, p3, p4, -⟩ := HPt.out
        obtain ⟨-, r0, r1, r2, r3, r4, rz⟩ := HRt.out
        have z0 := rz 0
        have z1 := rz 1
        have z2 := rz 2
        have z3 := rz 3
        have z4 := rz 4
        clear rz d3 hno
        go_wp2_with fail
        refine bodyPost_ret (v := .agg #[.int .i8 x, .int .i8 y, .int .i8 0, .int .i8 (t : Int), .int .i8 1]) (by simp [results, Try.results92, go_sem, r0, r1, r2, r3, r4]) rfl ⟨rfl, ?_⟩
        exact ((((HBt.out.setCell (p := ⟨rb, 0, none⟩) (by show w.heap.size ≤ rb; omega) _).setCell (p := ⟨rb, 1, none⟩) (by show w.heap.size ≤ rb; omega) _).setCell (p := ⟨rb, 2, none⟩) (by show w.heap.size ≤ rb; omega) _).setCell (p := ⟨rb, 3, none⟩) (by show w.heap.size ≤ rb; omega) _).setCell (p := ⟨rb, 4, none⟩) (by show w.heap.size ≤ rb; omega) _
  · have z2 := HP.out.fz 2
    have y2 := HP.out.c2
    have hbs0 := HB.out.setCell (p := ⟨pb, 2, none⟩) (by show w.heap.size ≤ pb; omega) (.int .i8 1)
    have hps0 := HP.out.kind 1
    have hrs0 := HR.out.other (b' := pb) (j := 2) (v := .int .i8 1) (by omega)
    go_wp2_with fail
    clear z2 y2
    have HBs := hid hbs0
    have HPs := hid hps0
    have HRs := hid hrs0
    clear hbs0 hps0 hrs0
    obtain ⟨V, hV⟩ : ∃ V : World, V = WB.setCell ⟨pb, 2, none⟩ (.int .i8 1) := ⟨_, rfl⟩
    rw [← hV] at HBs HPs HRs ⊢
    clear hV
    go_loopw [8] (fun tv wr => ∃ (t : Nat) (u : Int), t ≤ tn ∧ tv = .int .i8 t ∧ PcB wr pb x y 1 u 1 ∧ PcB wr rb 0 0 0 0 0 ∧ Below w.heap.size w wr) (fun tv _ => 4 - (intOf tv).toNat)
    case atStart => exact ⟨0, 0, Nat.zero_le _, rfl, HPs.out, HRs.out, HBs.out⟩
    case round =>
      clear HBs HPs HRs
      obtain ⟨t, u, ht, rfl, hps, hrs, hbl⟩ := hrel
      have hti : (t : Int) < 4 := by omega
      have hd1 : decide ((t : Int) < 4) = true := by rw [decide_eq_true_iff]; omega
      have wt : IntKind.i8.wrap ((t : Int) + 1) = (t : Int) + 1 := IntWalk.i8_in _ (by omega)
      have z3 := hps.fz 3
      have y3 := hps.c3
      have HPt := hid (hps.turn (t : Int))
      have HRt := hid (hrs.other (b' := pb) (j := 3) (v := .int .i8 (t : Int)) (by omega))
      have HBt := hid (hbl.setCell (p := ⟨pb, 3, none⟩) (by show w.heap.size ≤ pb; omega) (.int .i8 (t : Int)))
      clear hps hrs hbl
      obtain ⟨V2, hV2⟩ : ∃ V2, V2 = wr.setCell ⟨pb, 3, none⟩ (.int .i8 (t : Int)) := ⟨_, rfl⟩
      rw [← hV2] at HPt HRt HBt
      have HH := hid (hits_S pb 0 1 (t : Int) f V2 (by omega) (by omega) hf HPt.out.lt HPt.out.c2 HPt.out.c3)
      go_wp2_with fail
      rw [← hV2]
      clear hV2 y3 z3
      refine HH.out.mono ?_
      rintro e v1 ⟨rfl, hb1⟩
      have HPt := hid (HPt.out.below hb1)
      have HRt := hid (HRt.out.below hb1)
      have HBt := hid (below_of HBt.out HBt.out.size hb1)
      have hyes := HTok.out
      have hno := HTno.out t
      have hvin : -1 ≤ hitsG 1 (t : Int) f ∧ hitsG 1 (t : Int) f ≤ 32 := by
        unfold hitsG
        split
        · omega
        · have := rotTo_in (tab 1 ((f + 4 - (t : Int)) % 4)) (t : Int) 4
          omega
      have HG := hid (show goesP 1 f o t = (decide (0 < hitsG 1 (t : Int) f) && decide (hitsG 1 (t : Int) f / 2 ^ o.toNat % 2 = 1)) from rfl)
      generalize hitsG 1 (t : Int) f = v at *
      clear hb1
      have HPw := hid (show 0 < v → ((v / 2 ^ o.toNat).tmod 2 == 1) = decide (v / 2 ^ o.toNat % 2 = 1) from fun hv => by
        rw [Int.tmod_eq_emod_of_nonneg (Int.ediv_nonneg (by omega) (Int.pow_nonneg (by decide)))]
        rw [Bool.eq_iff_iff, decide_eq_true_iff]
        simp)
      obtain ⟨r, hr⟩ : ∃ r, (v / 2 ^ o.toNat) = r := ⟨_, rfl⟩
      rw [hr] at HPw HG
      rcases Nat.lt_or_ge t tn with hlt | hge
      · have hg := hno hlt
        rw [HG.out] at hg
        clear hyes hno
        by_cases hv0 : 0 < v
        · have d1 : decide (0 < v) = true := decide_eq_true hv0
          have d2 : (r.tmod 2 == 1) = false := by rw [HPw.out hv0]; rw [d1] at hg; simpa using hg
          clear hg
          go_wp2_with fail
          exact ⟨⟨t + 1, t, by omega, by go_num, HPt.out, HRt.out, HBt.out⟩, by simp [intOf]; omega⟩
        · have d1 : decide (0 < v) = false := decide_eq_false hv0
          clear hg
          go_wp2_with fail
          exact ⟨⟨t + 1, t, by omega, by go_num, HPt.out, HRt.out, HBt.out⟩, by simp [intOf]; omega⟩
      · have htt : t = tn := by omega
        subst htt
        rw [HG.out, Bool.and_eq_true] at hyes
        obtain ⟨d1, d3⟩ := hyes
        have hv0 : 0 < v := of_decide_eq_true d1
        have d2 : (r.tmod 2 == 1) = true := by rw [HPw.out hv0]; exact d3
        obtain ⟨-, p0, p1, p2, p3, p4, -⟩ := HPt.out
        obtain ⟨-, r0, r1, r2, r3, r4, rz⟩ := HRt.out
        have z0 := rz 0
        have z1 := rz 1
        have z2 := rz 2
        have z3 := rz 3
        have z4 := rz 4
        clear rz d3 hno
        go_wp2_with fail
        refine bodyPost_ret (v := .agg #[.int .i8 x, .int .i8 y, .int .i8 1, .int .i8 (t : Int), .int .i8 1]) (by simp [results, Try.results92, go_sem, r0, r1, r2, r3, r4]) rfl ⟨rfl, ?_⟩
        exact ((((HBt.out.setCell (p := ⟨rb, 0, none⟩) (by show w.heap.size ≤ rb; omega) _).setCell (p := ⟨rb, 1, none⟩) (by show w.heap.size ≤ rb; omega) _).setCell (p := ⟨rb, 2, none⟩) (by show w.heap.size ≤ rb; omega) _).setCell (p := ⟨rb, 3, none⟩) (by show w.heap.size ≤ rb; omega) _).setCell (p := ⟨rb, 4, none⟩) (by show w.heap.size ≤ rb; omega) _
end Go.Proofs.Ytgkgklgeobbmlaa
