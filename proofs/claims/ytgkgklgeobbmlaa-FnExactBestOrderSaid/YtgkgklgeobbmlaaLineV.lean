/-
  The pieces of a line, the reference's.
  The pieces of a line, the reference's: all of them.
  Conditions: the cells are those of a line.
-/
import Derived.Test.YtgkgklgeobbmlaaLineT
namespace Go.Proofs.Ytgkgklgeobbmlaa
open Go.RowKit
set_option linter.unusedSimpArgs false
set_option linter.unusedVariables false

/-- A piece's box. -/
structure PcB (w : World) (b : Nat) (x y k t d : Int) : Prop where
  lt : b < w.heap.size
  c0 : w.cell? ⟨b, 0, none⟩ = some (.int .i8 x)
  c1 : w.cell? ⟨b, 1, none⟩ = some (.int .i8 y)
  c2 : w.cell? ⟨b, 2, none⟩ = some (.int .i8 k)
  c3 : w.cell? ⟨b, 3, none⟩ = some (.int .i8 t)
  c4 : w.cell? ⟨b, 4, none⟩ = some (.int .i8 d)
  fz : ∀ j, w.frozen? ⟨b, j, none⟩ = false
theorem PcB.below {w w1 : World} {b : Nat} {x y k t d : Int} (h : PcB w b x y k t d) (hb : Below w.heap.size w w1) : PcB w1 b x y k t d :=
  ⟨Nat.lt_of_lt_of_le h.lt hb.size, cell_on hb h.c0, cell_on hb h.c1, cell_on hb h.c2, cell_on hb h.c3, cell_on hb h.c4, fun j => (hb.frozen (p := ⟨b, j, none⟩) h.lt).trans (h.fz j)⟩
theorem PcB.turn {w : World} {b : Nat} {x y k t d : Int} (h : PcB w b x y k t d) (u : Int) : PcB (w.setCell ⟨b, 3, none⟩ (.int .i8 u)) b x y k u d :=
  ⟨by rw [World.size_setCell]; exact h.lt, by rw [World.cell?_setCell_other _ _ _ _ (by simp)]; exact h.c0, by rw [World.cell?_setCell_other _ _ _ _ (by simp)]; exact h.c1, by rw [World.cell?_setCell_other _ _ _ _ (by simp)]; exact h.c2, World.cell?_setCell_same _ _ _ (by rw [h.c3]), by rw [World.cell?_setCell_other _ _ _ _ (by simp)]; exact h.c4, fun j => by rw [World.frozen?_setCell]; exact h.fz j⟩
theorem PcB.kind {w : World} {b : Nat} {x y k t d : Int} (h : PcB w b x y k t d) (u : Int) : PcB (w.setCell ⟨b, 2, none⟩ (.int .i8 u)) b x y u t d :=
  ⟨by rw [World.size_setCell]; exact h.lt, by rw [World.cell?_setCell_other _ _ _ _ (by simp)]; exact h.c0, by rw [World.cell?_setCell_other _ _ _ _ (by simp)]; exact h.c1, World.cell?_setCell_same _ _ _ (by rw [h.c2]), by rw [World.cell?_setCell_other _ _ _ _ (by simp)]; exact h.c3, by rw [World.cell?_setCell_other _ _ _ _ (by simp)]; exact h.c4, fun j => by rw [World.frozen?_setCell]; exact h.fz j⟩
theorem PcB.other {w : World} {b b' j : Nat} {x y k t d : Int} {v : Value} (h : PcB w b x y k t d) (hn : b' ≠ b) : PcB (w.setCell ⟨b', j, none⟩ v) b x y k t d := by
  have n1 : ∀ o, (⟨b', j, none⟩ : Addr) ≠ ⟨b, o, none⟩ := fun o e => hn (by injection e)
  exact ⟨by rw [World.size_setCell]; exact h.lt, by rw [World.cell?_setCell_other _ _ _ _ (by first | exact n1 _ | exact (n1 _).symm)]; exact h.c0, by rw [World.cell?_setCell_other _ _ _ _ (by first | exact n1 _ | exact (n1 _).symm)]; exact h.c1, by rw [World.cell?_setCell_other _ _ _ _ (by first | exact n1 _ | exact (n1 _).symm)]; exact h.c2, by rw [World.cell?_setCell_other _ _ _ _ (by first | exact n1 _ | exact (n1 _).symm)]; exact h.c3, by rw [World.cell?_setCell_other _ _ _ _ (by first | exact n1 _ | exact (n1 _).symm)]; exact h.c4, fun j => by rw [World.frozen?_setCell]; exact h.fz j⟩
theorem pcb_new (w : World) (x y k t d : Int) (T : TypeId) : PcB (w.alloc (.cells #[.int .i8 x, .int .i8 y, .int .i8 k, .int .i8 t, .int .i8 d] T)) w.heap.size x y k t d :=
  ⟨by simp, by simp [go_sem], by simp [go_sem], by simp [go_sem], by simp [go_sem], by simp [go_sem], fun j => by simp [go_sem]⟩
set_option maxRecDepth 100000 in
set_option maxHeartbeats 8000000 in
theorem piece_LS (x y f o : Int) (w : World) (hf : 0 ≤ f ∧ f ≤ 3) (ho : 0 ≤ o ∧ o ≤ 3) (hne : f ≠ o) :
    Calls Try.prog 92 #[.agg #[.int .i8 x, .int .i8 y], .int .i64 f, .int .i64 o] w fun e w' => e = .returned (.agg #[.int .i8 x, .int .i8 y, .int .i8 (kindP f o), .int .i8 (turnP f o : Nat), .int .i8 1]) ∧ Below w.heap.size w w' := by
  obtain ⟨ht3, htok, htno⟩ := turn_ok hf ho hne
  have hk : 0 ≤ kindP f o ∧ kindP f o ≤ 5 := by unfold kindP; split <;> omega
  have HTok := hid htok
  have HTno := hid htno
  have w1 : IntKind.i64.wrap (f + 2) = f + 2 := IntWalk.i64_in _ (by omega)
  have e1 : (f + 2).tmod 4 = (f + 2) % 4 := Int.tmod_eq_emod_of_nonneg (by omega)
  have w2 : IntKind.i64.wrap ((f + 2) % 4) = (f + 2) % 4 := IntWalk.i64_in _ (by omega)
  have HK := hid (show kindP f o = if (f + 2) % 4 = o then 0 else 1 from rfl)
  generalize turnP f o = tn at *
  generalize hkk : kindP f o = kk at *
  clear htok htno hkk
  obtain ⟨WA, hWA⟩ : ∃ W, W = (w.alloc (.cells #[.int .i8 x, .int .i8 y] 36)).alloc (.cells #[.int .i8 0, .int .i8 0, .int .i8 0, .int .i8 0, .int .i8 0] 98) := ⟨_, rfl⟩
  obtain ⟨WB, hWB⟩ : ∃ W, W = WA.alloc (.cells #[.int .i8 x, .int .i8 y, .int .i8 0, .int .i8 0, .int .i8 1] 98) := ⟨_, rfl⟩
  have hA : Below w.heap.size w WA := by rw [hWA]; exact ((Below.refl _ _).alloc (Nat.le_refl _) _).alloc (by simp) _
  have hB : Below WA.heap.size WA WB := by rw [hWB]; exact (Below.refl _ _).alloc (Nat.le_refl _) _
  have hra : PcB WA (w.heap.size + 1) 0 0 0 0 0 := by
    have h := pcb_new (w.alloc (.cells #[.int .i8 x, .int .i8 y] 36)) 0 0 0 0 0 98
    rw [World.size_alloc] at h
    rw [hWA]
    exact h
  have HR := hid (hra.below hB)
  have hsz : WA.heap.size = w.heap.size + 1 + 1 := by rw [hWA]; simp
  have HP := hid (show PcB WB (w.heap.size + 1 + 1) x y 0 0 1 by
    have h := pcb_new WA x y 0 0 1 98
    rw [hsz] at h
    rw [hWB]
    exact h)
  have HB := hid (below_of hA hA.size hB)
  rw [hWA] at hWB
  clear hWA hA hB hra hsz
  go_enter Try.func92, Try.ntmps92
  go_upto_region 2 with fail
  rw [← hWB]
  clear hWB
  obtain ⟨rb, hrb⟩ : ∃ rb, w.heap.size + 1 = rb := ⟨_, rfl⟩
  rw [hrb] at HR HP ⊢
  obtain ⟨pb, hpb⟩ : ∃ pb, rb + 1 = pb := ⟨_, rfl⟩
  rw [hpb] at HP ⊢
  have hs : (kk = 0 ∧ (((f + 2) % 4) != o) = false) ∨ (kk = 1 ∧ (((f + 2) % 4) != o) = true) := by
    by_cases h : (f + 2) % 4 = o
    · exact .inl ⟨by rw [HK.out, if_pos h], by rw [h]; simp⟩
    · exact .inr ⟨by rw [HK.out, if_neg h], by simpa using h⟩
  have hrbp : rb < pb := by omega
  have hwrb : w.heap.size < rb := by omega
  clear hrb hpb
  rcases hs with ⟨rfl, hs⟩ | ⟨rfl, hs⟩
  · have hbs0 := HB.out
    have hps0 := HP.out
    have hrs0 := HR.out
    go_wp2_with fail
    have HBs := hid hbs0
    have HPs := hid hps0
    have HRs := hid hrs0
    clear hbs0 hps0 hrs0
    obtain ⟨V, hV⟩ : ∃ V : World, V = WB := ⟨_, rfl⟩
    rw [← hV] at HBs HPs HRs ⊢
    clear hV
    go_loopw [8] (fun tv wr => ∃ (t : Nat) (u : Int), t ≤ tn ∧ tv = .int .i8 t ∧ PcB wr pb x y 0 u 1 ∧ PcB wr rb 0 0 0 0 0 ∧ Below w.heap.size w wr) (fun tv _ => 4 - (intOf tv).toNat)
    case atStart => exact ⟨0, 0, Nat.zero_le _, rfl, HPs.out, HRs.out, HBs.out⟩
    case round =>
      clear HBs HPs HRs
      obtain ⟨t, u, ht, rfl, hps, hrs, hbl⟩ := hrel
      have hti : (t : Int) < 4 := by omega
      have hd1 : decide ((t : Int) < 4) = true := by rw [decide_eq_true_iff]; omega
      have wt : IntKind.i8.wrap ((t : Int) + 1) = (t : Int) + 1 := IntWalk.i8_in _ (by omega)
      have z3 := hps.fz 3
      have y3 := hps.c3
      have HPt := hid (hps.turn (t : Int))
      have HRt := hid (hrs.other (b' := pb) (j := 3) (v := .int .i8 (t : Int)) (by omega))
      have HBt := hid (hbl.setCell (p := ⟨pb, 3, none⟩) (by show w.heap.size ≤ pb; omega) (.int .i8 (t : Int)))
      clear hps hrs hbl
      obtain ⟨V2, hV2⟩ : ∃ V2, V2 = wr.setCell ⟨pb, 3, none⟩ (.int .i8 (t : Int)) := ⟨_, rfl⟩
      rw [← hV2] at HPt HRt HBt
      have HH := hid (hits_S pb 0 0 (t : Int) f V2 (by omega) (by omega) hf HPt.out.lt HPt.out.c2 HPt.out.c3)
      go_wp2_with fail
      rw [← hV2]
      clear hV2 y3 z3
      refine HH.out.mono ?_
      rintro e v1 ⟨rfl, hb1⟩
      have HPt := hid (HPt.out.below hb1)
      have HRt := hid (HRt.out.below hb1)
      have HBt := hid (below_of HBt.out HBt.out.size hb1)
      have hyes := HTok.out
      have hno := HTno.out t
      have hvin : -1 ≤ hitsG 0 (t : Int) f ∧ hitsG 0 (t : Int) f ≤ 32 := by
        unfold hitsG
        split
        · omega
        · have := rotTo_in (tab 0 ((f + 4 - (t : Int)) % 4)) (t : Int) 4
          omega
      have HG := hid (show goesP 0 f o t = (decide (0 < hitsG 0 (t : Int) f) && decide (hitsG 0 (t : Int) f / 2 ^ o.toNat % 2 = 1)) from rfl)
      generalize hitsG 0 (t : Int) f = v at *
      clear hb1
      have HPw := hid (show 0 < v → ((v / 2 ^ o.toNat).tmod 2 == 1) = decide (v / 2 ^ o.toNat % 2 = 1) from fun hv => by
        rw [Int.tmod_eq_emod_of_nonneg (Int.ediv_nonneg (by omega) (Int.pow_nonneg (by decide)))]
        rw [Bool.eq_iff_iff, decide_eq_true_iff]
        simp)
      obtain ⟨r, hr⟩ : ∃ r, (v / 2 ^ o.toNat) = r := ⟨_, rfl⟩
      rw [hr] at HPw HG
      rcases Nat.lt_or_ge t tn with hlt | hge
      · have hg := hno hlt
        rw [HG.out] at hg
        clear hyes hno
        by_cases hv0 : 0 < v
        · have d1 : decide (0 < v) = true := decide_eq_true hv0
          have d2 : (r.tmod 2 == 1) = false := by rw [HPw.out hv0]; rw [d1] at hg; simpa using hg
          clear hg
          go_wp2_with fail
          exact ⟨⟨t + 1, t, by omega, by go_num, HPt.out, HRt.out, HBt.out⟩, by simp [intOf]; omega⟩
        · have d1 : decide (0 < v) = false := decide_eq_false hv0
          clear hg
          go_wp2_with fail
          exact ⟨⟨t + 1, t, by omega, by go_num, HPt.out, HRt.out, HBt.out⟩, by simp [intOf]; omega⟩
      · have htt : t = tn := by omega
        subst htt
        rw [HG.out, Bool.and_eq_true] at hyes
        obtain ⟨d1, d3⟩ := hyes
        have hv0 : 0 < v := of_decide_eq_true d1
        have d2 : (r.tmod 2 == 1) = true := by rw [HPw.out hv0]; exact d3
        obtain ⟨-, p0, p1, p2, p3, p4, -⟩ := HPt.out
        obtain ⟨-, r0, r1, r2, r3, r4, rz⟩ := HRt.out
        have z0 := rz 0
        have z1 := rz 1
        have z2 := rz 2
        have z3 := rz 3
        have z4 := rz 4
        clear rz d3 hno
        go_wp2_with fail
        refine bodyPost_ret (v := .agg #[.int .i8 x, .int .i8 y, .int .i8 0, .int .i8 (t : Int), .int .i8 1]) (by simp [results, Try.results92, go_sem, r0, r1, r2, r3, r4]) rfl ⟨rfl, ?_⟩
        exact ((((HBt.out.setCell (p := ⟨rb, 0, none⟩) (by show w.heap.size ≤ rb; omega) _).setCell (p := ⟨rb, 1, none⟩) (by show w.heap.size ≤ rb; omega) _).setCell (p := ⟨rb, 2, none⟩) (by show w.heap.size ≤ rb; omega) _).setCell (p := ⟨rb, 3, none⟩) (by show w.heap.size ≤ rb; omega) _).setCell (p := ⟨rb, 4, none⟩) (by show w.heap.size ≤ rb; omega) _
  · have z2 := HP.out.fz 2
    have y2 := HP.out.c2
    have hbs0 := HB.out.setCell (p := ⟨pb, 2, none⟩) (by show w.heap.size ≤ pb; omega) (.int .i8 1)
    have hps0 := HP.out.kind 1
    have hrs0 := HR.out.other (b' := pb) (j := 2) (v := .int .i8 1) (by omega)
    go_wp2_with fail
    clear z2 y2
    have HBs := hid hbs0
    have HPs := hid hps0
    have HRs := hid hrs0
    clear hbs0 hps0 hrs0
    obtain ⟨V, hV⟩ : ∃ V : World, V = WB.setCell ⟨pb, 2, none⟩ (.int .i8 1) := ⟨_, rfl⟩
    rw [← hV] at HBs HPs HRs ⊢
    clear hV
    go_loopw [8] (fun tv wr => ∃ (t : Nat) (u : Int), t ≤ tn ∧ tv = .int .i8 t ∧ PcB wr pb x y 1 u 1 ∧ PcB wr rb 0 0 0 0 0 ∧ Below w.heap.size w wr) (fun tv _ => 4 - (intOf tv).toNat)
    case atStart => exact ⟨0, 0, Nat.zero_le _, rfl, HPs.out, HRs.out, HBs.out⟩
    case round =>
      clear HBs HPs HRs
      obtain ⟨t, u, ht, rfl, hps, hrs, hbl⟩ := hrel
      have hti : (t : Int) < 4 := by omega
      have hd1 : decide ((t : Int) < 4) = true := by rw [decide_eq_true_iff]; omega
      have wt : IntKind.i8.wrap ((t : Int) + 1) = (t : Int) + 1 := IntWalk.i8_in _ (by omega)
      have z3 := hps.fz 3
      have y3 := hps.c3
      have HPt := hid (hps.turn (t : Int))
      have HRt := hid (hrs.other (b' := pb) (j := 3) (v := .int .i8 (t : Int)) (by omega))
      have HBt := hid (hbl.setCell (p := ⟨pb, 3, none⟩) (by show w.heap.size ≤ pb; omega) (.int .i8 (t : Int)))
      clear hps hrs hbl
      obtain ⟨V2, hV2⟩ : ∃ V2, V2 = wr.setCell ⟨pb, 3, none⟩ (.int .i8 (t : Int)) := ⟨_, rfl⟩
      rw [← hV2] at HPt HRt HBt
      have HH := hid (hits_S pb 0 1 (t : Int) f V2 (by omega) (by omega) hf HPt.out.lt HPt.out.c2 HPt.out.c3)
      go_wp2_with fail
      rw [← hV2]
      clear hV2 y3 z3
      refine HH.out.mono ?_
      rintro e v1 ⟨rfl, hb1⟩
      have HPt := hid (HPt.out.below hb1)
      have HRt := hid (HRt.out.below hb1)
      have HBt := hid (below_of HBt.out HBt.out.size hb1)
      have hyes := HTok.out
      have hno := HTno.out t
      have hvin : -1 ≤ hitsG 1 (t : Int) f ∧ hitsG 1 (t : Int) f ≤ 32 := by
        unfold hitsG
        split
        · omega
        · have := rotTo_in (tab 1 ((f + 4 - (t : Int)) % 4)) (t : Int) 4
          omega
      have HG := hid (show goesP 1 f o t = (decide (0 < hitsG 1 (t : Int) f) && decide (hitsG 1 (t : Int) f / 2 ^ o.toNat % 2 = 1)) from rfl)
      generalize hitsG 1 (t : Int) f = v at *
      clear hb1
      have HPw := hid (show 0 < v → ((v / 2 ^ o.toNat).tmod 2 == 1) = decide (v / 2 ^ o.toNat % 2 = 1) from fun hv => by
        rw [Int.tmod_eq_emod_of_nonneg (Int.ediv_nonneg (by omega) (Int.pow_nonneg (by decide)))]
        rw [Bool.eq_iff_iff, decide_eq_true_iff]
        simp)
      obtain ⟨r, hr⟩ : ∃ r, (v / 2 ^ o.toNat) = r := ⟨_, rfl⟩
      rw [hr] at HPw HG
      rcases Nat.lt_or_ge t tn with hlt | hge
      · have hg := hno hlt
        rw [HG.out] at hg
        clear hyes hno
        by_cases hv0 : 0 < v
        · have d1 : decide (0 < v) = true := decide_eq_true hv0
          have d2 : (r.tmod 2 == 1) = false := by rw [HPw.out hv0]; rw [d1] at hg; simpa using hg
          clear hg
          go_wp2_with fail
          exact ⟨⟨t + 1, t, by omega, by go_num, HPt.out, HRt.out, HBt.out⟩, by simp [intOf]; omega⟩
        · have d1 : decide (0 < v) = false := decide_eq_false hv0
          clear hg
          go_wp2_with fail
          exact ⟨⟨t + 1, t, by omega, by go_num, HPt.out, HRt.out, HBt.out⟩, by simp [intOf]; omega⟩
      · have htt : t = tn := by omega
        subst htt
        rw [HG.out, Bool.and_eq_true] at hyes
        obtain ⟨d1, d3⟩ := hyes
        have hv0 : 0 < v := of_decide_eq_true d1
        have d2 : (r.tmod 2 == 1) = true := by rw [HPw.out hv0]; exact d3
        obtain ⟨-, p0, p1, p2, p3, p4, -⟩ := HPt.out
        obtain ⟨-, r0, r1, r2, r3, r4, rz⟩ := HRt.out
        have z0 := rz 0
        have z1 := rz 1
        have z2 := rz 2
        have z3 := rz 3
        have z4 := rz 4
        clear rz d3 hno
        go_wp2_with fail
        refine bodyPost_ret (v := .agg #[.int .i8 x, .int .i8 y, .int .i8 1, .int .i8 (t : Int), .int .i8 1]) (by simp [results, Try.results92, go_sem, r0, r1, r2, r3, r4]) rfl ⟨rfl, ?_⟩
        exact ((((HBt.out.setCell (p := ⟨rb, 0, none⟩) (by show w.heap.size ≤ rb; omega) _).setCell (p := ⟨rb, 1, none⟩) (by show w.heap.size ≤ rb; omega) _).setCell (p := ⟨rb, 2, none⟩) (by show w.heap.size ≤ rb; omega) _).setCell (p := ⟨rb, 3, none⟩) (by show w.heap.size ≤ rb; omega) _).setCell (p := ⟨rb, 4, none⟩) (by show w.heap.size ≤ rb; omega) _
theorem lineL_at (P : List Ce) (side out : Int) {i : Nat} (hi : i < P.length) : ((List.range (i + 1)).map (linePc P side out)).flatMap Pc.enc = ((List.range i).map (linePc P side out)).flatMap Pc.enc ++ (linePc P side out i).enc := by
  rw [List.range_succ, List.map_append, List.flatMap_append]
  simp
theorem ce_at {w : World} {a : Option Addr} {P : List Ce} {b o : Nat} (hc : ∀ i p, P[i]? = some p → ∀ j u, (Ce.enc p)[j]? = some u → w.cell? ⟨b, o + (i * 2 + j), none⟩ = some u) {i : Nat} {p : Ce} (h : P[i]? = some p) : w.cell? ⟨b, o + i * 2, none⟩ = some (.int .i8 p.x) ∧ w.cell? ⟨b, o + i * 2 + 1, none⟩ = some (.int .i8 p.y) :=
  ⟨hc i p h 0 _ rfl, hc i p h 1 _ rfl⟩
set_option maxRecDepth 100000 in
set_option maxHeartbeats 16000000 in
theorem pieces_LS (A : Option Addr) (cA n : Nat) (P : List Ce) (side out : Int) (w : World) (hL : LineOk P side out) (hn : n = P.length) (hn2 : n ≤ 1000) (h : SlA Ce.enc 2 w A P) (hr : ∀ p ∈ P, (0 ≤ p.x ∧ p.x ≤ 23) ∧ (0 ≤ p.y ∧ p.y ≤ 23)) :
    Calls Try.prog 56 #[.slice A n cA, .int .i64 side, .int .i64 out] w fun e w' => ∃ A' c', e = .returned (.tuple #[.slice A' n c', .int .i64 0]) ∧ Below w.heap.size w w' ∧ w'.ownsRow w.heap.size 98 5 (.slice A' n c') n ((lineL P side out).flatMap Pc.enc) := by
  have hn0 := hL.n
  obtain ⟨ab, ao, rfl, hab, hcs⟩ := h.cells hn0
  have HC := hid (fun W (hW : Below w.heap.size w W) i p (hp : P[i]? = some p) => (⟨cell_on hW (ce_at (a := none) hcs hp).1, cell_on hW (ce_at (a := none) hcs hp).2⟩ : W.cell? ⟨ab, ao + i * 2, none⟩ = some (.int .i8 p.x) ∧ W.cell? ⟨ab, ao + i * 2 + 1, none⟩ = some (.int .i8 p.y)))
  have HS := hid (fun i (hi : i < n) => hL.sides (i := i) (by omega))
  have HN := hid hn
  have HR := hid hr
  have HLn := hid (show ∀ i, i < n → ((List.range (i + 1)).map (linePc P side out)).flatMap Pc.enc = ((List.range i).map (linePc P side out)).flatMap Pc.enc ++ (linePc P side out i).enc from fun i hi => lineL_at P side out (by omega))
  have HAll := hid (show lineL P side out = (List.range n).map (linePc P side out) by unfold lineL; rw [hn])
  clear hL h hcs hr hn0 hn
  go_enter Try.func56, Try.ntmps56
  go_wp2_with fail
  go_loopw [8, 10] (fun ov iv wr => ∃ (i : Nat) (B : Option Addr) (cB : Nat), i ≤ n ∧ iv = .int .i64 i ∧ ov = .slice B i cB ∧ wr.ownsRow w.heap.size 98 5 (.slice B i cB) i (((List.range i).map (linePc P side out)).flatMap Pc.enc) ∧ Below w.heap.size w wr) (fun _ iv _ => n - (intOf iv).toNat)
  case atStart => exact ⟨0, _, _, Nat.zero_le _, rfl, rfl, by simpa using World.ownsRow_lit w #[] 0 (Nat.le_refl _) (by simp [maxLen]) (by simp), (Below.refl _ _).alloc (Nat.le_refl _) _⟩
  case round =>
    obtain ⟨i, B, cB, hi', rfl, rfl, own, hbl⟩ := hrel
    by_cases hlt : i < n
    · have hd : decide ((i : Int) < (n : Int)) = true := by rw [decide_eq_true_iff]; omega
      have hii : (i : Int) < (n : Int) := by omega
      obtain ⟨q, hq⟩ : ∃ q, P[i]? = some q := ⟨_, List.getElem?_eq_getElem (by rw [← HN.out]; exact hlt)⟩
      obtain ⟨k, hk⟩ : ∃ k, i + 1 = k := ⟨_, rfl⟩
      have wk : IntKind.i64.wrap ((i : Int) + 1) = (k : Int) := by rw [show (i : Int) + 1 = (k : Int) by omega]; exact IntWalk.i64_in _ (by omega)
      have HOw := hid own
      have HBl := hid hbl
      obtain ⟨f0, f1⟩ := HC.out wr hbl i q hq
      obtain ⟨hsf, hst, hsn⟩ := HS.out i hlt
      have HPc := hid (show linePc P side out i = pieceP q (fromW P side i) (toW P out i) by unfold linePc; rw [getD_of hq])
      have hqr := HR.out q (List.mem_of_getElem? hq)
      have HLi := hid (HLn.out i hlt)
      rw [hk, HPc.out] at HLi
      have HK := hid hk
      have hqr2 : -100 ≤ q.x ∧ q.x ≤ 100 ∧ -100 ≤ q.y ∧ q.y ≤ 100 := by omega
      have hfw0 : i = 0 → fromW P side i = side := fun h => by subst h; rfl
      have hfw1 : ∀ j p, i = j + 1 → P[j]? = some p → sideG q.x q.y p.x p.y = fromW P side i := fun j p h hp => by
        subst h
        show _ = sideG (P.getD (j + 1) ⟨0, 0⟩).x (P.getD (j + 1) ⟨0, 0⟩).y (P.getD j ⟨0, 0⟩).x (P.getD j ⟨0, 0⟩).y
        rw [getD_of hq, getD_of hp]
      have htw0 : ¬ k < n → toW P out i = out := fun h => by unfold toW; rw [if_neg (by rw [← HN.out]; omega)]
      have htw1 : ∀ p, k < n → P[k]? = some p → sideG q.x q.y p.x p.y = toW P out i := fun p h hp => by
        unfold toW
        rw [if_pos (by rw [← HN.out]; omega), getD_of hq, hk, getD_of hp]
      have HF0 := hid hfw0
      have HF1 := hid hfw1
      have HT0 := hid htw0
      have HT1 := hid htw1
      have HPq := hid (show (pieceP q (fromW P side i) (toW P out i)).enc = [.int .i8 q.x, .int .i8 q.y, .int .i8 (kindP (fromW P side i) (toW P out i)), .int .i8 (turnP (fromW P side i) (toW P out i) : Nat), .int .i8 1] from rfl)
      have HPS := hid (fun W => piece_LS q.x q.y (fromW P side i) (toW P out i) W hsf hst hsn)
      have hsn2 : (fromW P side i == toW P out i) = false := by simpa using hsn
      generalize fromW P side i = fr at *
      generalize toW P out i = tt at *
      generalize (List.range i).map (linePc P side out) = L at *
      clear own hbl hsn hfw0 hfw1 htw0 htw1 hk
      rcases Nat.eq_zero_or_pos i with h0 | h0
      · have hd2 : decide ((0 : Int) < (i : Int)) = false := by rw [decide_eq_false_iff_not]; omega
        have hd9 : decide (0 < i) = false := by rw [decide_eq_false_iff_not]; omega
        have hff := HF0.out h0
        subst hff
        clear h0
        by_cases hkn : k < n
        · obtain ⟨pn, hpn⟩ : ∃ pn, P[k]? = some pn := ⟨_, List.getElem?_eq_getElem (by rw [← HN.out]; exact hkn)⟩
          have hd3 : decide ((k : Int) < (n : Int)) = true := by rw [decide_eq_true_iff]; omega
          have hki : (k : Int) < (n : Int) := by omega
          obtain ⟨g0, g1⟩ := HC.out wr HBl.out k pn hpn
          have hsd := HT1.out pn hkn hpn
          have HSd := hid (fun (X : Later wr) => sideOf_S q.x q.y pn.x pn.y X.w hqr2)
          rw [hsd] at HSd
          have hL := @later_cell wr
          have hal : ab < wr.heap.size := Nat.lt_of_lt_of_le hab HBl.out.size
          clear hpn hsd
          go_wp2_with fail
          refine wp_region_later (by kernel_rfl) (by kernel_rfl) ?_
          repeat (first | go_big_quiet_skip | (go_big_quiet_want; go_big_quiet_op; first | go_big_quiet_on | (apply Exists.intro; refine ⟨fun _ => ?_, ?_⟩; (go_at_call 91; with_reducible exact quiet_later (HSd.out _)); go_big_quiet_on)))
          refine wpQuiet_nil ?_
          rintro ⟨w5, hbn⟩
          dsimp only
          have HOw := hid (own_step HOw.out hbn)
          have HBl := hid (below_of HBl.out HBl.out.size hbn)
          clear hbn hL g0 g1 f0 f1
          obtain ⟨f0, f1⟩ := HC.out w5 HBl.out i q hq
          clear hal
          have HPw := hid (HPS.out w5)
          go_wp2_with fail
          refine HPw.out.mono ?_
          rintro e6 w6 ⟨rfl, hb6⟩
          have HOw := hid (own_step HOw.out hb6)
          have HBl := hid (below_of HBl.out HBl.out.size hb6)
          have hz6 := HBl.out.size
          clear hb6 f0 f1
          go_wp2_with (at_builtin; refine app_one (w := w6) 30 98 (.agg Pc.z.enc.toArray) 5 5 Try.underlying30 (by kernel_rfl) rfl (by decide) w.heap.size _ i _ HOw.out ?d1 (by decide) hz6 [.int .i8 q.x, .int .i8 q.y, .int .i8 (kindP fr tt), .int .i8 (turnP fr tt : Nat), .int .i8 1] _ _ rfl rfl rfl _ rfl ?d3 rfl (by intro u hu; simp at hu; rcases hu with rfl | rfl | rfl | rfl | rfl <;> rfl) ?_)
          case d1 => omega
          case d3 => rfl
          intro A7 c7 w7 own7 hb7 hg7 hat7
          have HO7 := hid own7
          have HB7 := hid (HBl.out.trans hb7)
          clear own7 hb7 hg7 hat7
          go_wp2_with fail
          have hk := HK.out
          subst hk
          exact ⟨⟨i + 1, A7, c7, by omega, by go_num, rfl, by rw [HLi.out, HPq.out]; exact HO7.out, HB7.out⟩, by simp [intOf]; omega⟩
        · have hd3 : decide ((k : Int) < (n : Int)) = false := by rw [decide_eq_false_iff_not]; omega
          have htt := HT0.out hkn
          subst htt
          have HPw := hid (HPS.out wr)
          go_wp2_with fail
          refine HPw.out.mono ?_
          rintro e6 w6 ⟨rfl, hb6⟩
          have HOw := hid (own_step HOw.out hb6)
          have HBl := hid (below_of HBl.out HBl.out.size hb6)
          have hz6 := HBl.out.size
          clear hb6 f0 f1
          go_wp2_with (at_builtin; refine app_one (w := w6) 30 98 (.agg Pc.z.enc.toArray) 5 5 Try.underlying30 (by kernel_rfl) rfl (by decide) w.heap.size _ i _ HOw.out ?d1 (by decide) hz6 [.int .i8 q.x, .int .i8 q.y, .int .i8 (kindP fr tt), .int .i8 (turnP fr tt : Nat), .int .i8 1] _ _ rfl rfl rfl _ rfl ?d3 rfl (by intro u hu; simp at hu; rcases hu with rfl | rfl | rfl | rfl | rfl <;> rfl) ?_)
          case d1 => omega
          case d3 => rfl
          intro A7 c7 w7 own7 hb7 hg7 hat7
          have HO7 := hid own7
          have HB7 := hid (HBl.out.trans hb7)
          clear own7 hb7 hg7 hat7
          go_wp2_with fail
          have hk := HK.out
          subst hk
          exact ⟨⟨i + 1, A7, c7, by omega, by go_num, rfl, by rw [HLi.out, HPq.out]; exact HO7.out, HB7.out⟩, by simp [intOf]; omega⟩
      · obtain ⟨j, hj⟩ : ∃ j, i = j + 1 := ⟨i - 1, by omega⟩
        obtain ⟨pv, hpv⟩ : ∃ pv, P[j]? = some pv := ⟨_, List.getElem?_eq_getElem (by rw [← HN.out]; omega)⟩
        have hd2 : decide ((0 : Int) < (i : Int)) = true := by rw [decide_eq_true_iff]; omega
        have hd9 : decide (0 < i) = true := by rw [decide_eq_true_iff]; omega
        have wj : IntKind.i64.wrap ((i : Int) - 1) = (j : Int) := by rw [show (i : Int) - 1 = (j : Int) by omega]; exact IntWalk.i64_in _ (by omega)
        have hji : (j : Int) < (n : Int) := by omega
        obtain ⟨g0, g1⟩ := HC.out wr HBl.out j pv hpv
        have hsd := HF1.out j pv hj hpv
        have HSd := hid (fun (X : Later wr) => sideOf_S q.x q.y pv.x pv.y X.w hqr2)
        rw [hsd] at HSd
        have hL := @later_cell wr
        have hal : ab < wr.heap.size := Nat.lt_of_lt_of_le hab HBl.out.size
        clear hpv hsd h0 hj
        go_wp2_with fail
        refine wp_region_later (by kernel_rfl) (by kernel_rfl) ?_
        repeat (first | go_big_quiet_skip | (go_big_quiet_want; go_big_quiet_op; first | go_big_quiet_on | (apply Exists.intro; refine ⟨fun _ => ?_, ?_⟩; (go_at_call 91; with_reducible exact quiet_later (HSd.out _)); go_big_quiet_on)))
        refine wpQuiet_nil ?_
        rintro ⟨w4, hbn⟩
        dsimp only
        have HOw := hid (own_step HOw.out hbn)
        have HBl := hid (below_of HBl.out HBl.out.size hbn)
        clear hbn hL g0 g1 f0 f1
        obtain ⟨f0, f1⟩ := HC.out w4 HBl.out i q hq
        clear hal wj hji hd2 hd9
        by_cases hkn : k < n
        · obtain ⟨pn, hpn⟩ : ∃ pn, P[k]? = some pn := ⟨_, List.getElem?_eq_getElem (by rw [← HN.out]; exact hkn)⟩
          have hd3 : decide ((k : Int) < (n : Int)) = true := by rw [decide_eq_true_iff]; omega
          have hki : (k : Int) < (n : Int) := by omega
          obtain ⟨g0, g1⟩ := HC.out w4 HBl.out k pn hpn
          have hsd := HT1.out pn hkn hpn
          have HSd := hid (fun (X : Later w4) => sideOf_S q.x q.y pn.x pn.y X.w hqr2)
          rw [hsd] at HSd
          have hL := @later_cell w4
          have hal : ab < w4.heap.size := Nat.lt_of_lt_of_le hab HBl.out.size
          clear hpn hsd
          go_wp2_with fail
          refine wp_region_later (by kernel_rfl) (by kernel_rfl) ?_
          repeat (first | go_big_quiet_skip | (go_big_quiet_want; go_big_quiet_op; first | go_big_quiet_on | (apply Exists.intro; refine ⟨fun _ => ?_, ?_⟩; (go_at_call 91; with_reducible exact quiet_later (HSd.out _)); go_big_quiet_on)))
          refine wpQuiet_nil ?_
          rintro ⟨w5, hbn⟩
          dsimp only
          have HOw := hid (own_step HOw.out hbn)
          have HBl := hid (below_of HBl.out HBl.out.size hbn)
          clear hbn hL g0 g1 f0 f1
          obtain ⟨f0, f1⟩ := HC.out w5 HBl.out i q hq
          clear hal
          have HPw := hid (HPS.out w5)
          go_wp2_with fail
          refine HPw.out.mono ?_
          rintro e6 w6 ⟨rfl, hb6⟩
          have HOw := hid (own_step HOw.out hb6)
          have HBl := hid (below_of HBl.out HBl.out.size hb6)
          have hz6 := HBl.out.size
          clear hb6 f0 f1
          go_wp2_with (at_builtin; refine app_one (w := w6) 30 98 (.agg Pc.z.enc.toArray) 5 5 Try.underlying30 (by kernel_rfl) rfl (by decide) w.heap.size _ i _ HOw.out ?d1 (by decide) hz6 [.int .i8 q.x, .int .i8 q.y, .int .i8 (kindP fr tt), .int .i8 (turnP fr tt : Nat), .int .i8 1] _ _ rfl rfl rfl _ rfl ?d3 rfl (by intro u hu; simp at hu; rcases hu with rfl | rfl | rfl | rfl | rfl <;> rfl) ?_)
          case d1 => omega
          case d3 => rfl
          intro A7 c7 w7 own7 hb7 hg7 hat7
          have HO7 := hid own7
          have HB7 := hid (HBl.out.trans hb7)
          clear own7 hb7 hg7 hat7
          go_wp2_with fail
          have hk := HK.out
          subst hk
          exact ⟨⟨i + 1, A7, c7, by omega, by go_num, rfl, by rw [HLi.out, HPq.out]; exact HO7.out, HB7.out⟩, by simp [intOf]; omega⟩
        · have hd3 : decide ((k : Int) < (n : Int)) = false := by rw [decide_eq_false_iff_not]; omega
          have htt := HT0.out hkn
          subst htt
          have HPw := hid (HPS.out w4)
          go_wp2_with fail
          refine HPw.out.mono ?_
          rintro e6 w6 ⟨rfl, hb6⟩
          have HOw := hid (own_step HOw.out hb6)
          have HBl := hid (below_of HBl.out HBl.out.size hb6)
          have hz6 := HBl.out.size
          clear hb6 f0 f1
          go_wp2_with (at_builtin; refine app_one (w := w6) 30 98 (.agg Pc.z.enc.toArray) 5 5 Try.underlying30 (by kernel_rfl) rfl (by decide) w.heap.size _ i _ HOw.out ?d1 (by decide) hz6 [.int .i8 q.x, .int .i8 q.y, .int .i8 (kindP fr tt), .int .i8 (turnP fr tt : Nat), .int .i8 1] _ _ rfl rfl rfl _ rfl ?d3 rfl (by intro u hu; simp at hu; rcases hu with rfl | rfl | rfl | rfl | rfl <;> rfl) ?_)
          case d1 => omega
          case d3 => rfl
          intro A7 c7 w7 own7 hb7 hg7 hat7
          have HO7 := hid own7
          have HB7 := hid (HBl.out.trans hb7)
          clear own7 hb7 hg7 hat7
          go_wp2_with fail
          have hk := HK.out
          subst hk
          exact ⟨⟨i + 1, A7, c7, by omega, by go_num, rfl, by rw [HLi.out, HPq.out]; exact HO7.out, HB7.out⟩, by simp [intOf]; omega⟩
    · have hin : i = n := by omega
      subst hin
      have hd : decide ((i : Int) < (i : Int)) = false := by rw [decide_eq_false_iff_not]; omega
      have HOw := hid own
      have HBl := hid hbl
      clear own hbl
      go_wp2_with fail
      refine bodyPost_ret (v := .tuple #[.slice B i cB, .int .i64 0]) (by simp [results, Try.results56, go_sem]) rfl ⟨B, cB, rfl, HBl.out, ?_⟩
      rw [HAll.out]
      exact HOw.out
end Go.Proofs.Ytgkgklgeobbmlaa
