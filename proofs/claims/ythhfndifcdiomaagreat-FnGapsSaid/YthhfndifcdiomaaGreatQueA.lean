/-
  The closure of a run that adds a hit to what waits.
  Conditions: ticks are small, rows are short.
-/
import Derived.Test.YthhfndifcdiomaaGreatQueI
import Derived.Deep.RegionLaw
import Derived.Deep.RegionHeld3
namespace Go.Proofs.YthhfndifcdiomaaGreat
open Go.RowKit
set_option linter.unusedSimpArgs false
set_option linter.unusedVariables false

theorem count_cast (T : List Nat) (t : Nat) : (((T.map (fun (n : Nat) => (n : Int))).take T.length).countP (· < (t : Int))) = T.countP (· < t) := by
  rw [List.take_of_length_le (by rw [List.length_map]; exact Nat.le_refl _), List.countP_map]
  congr 1
  funext n
  simp
theorem cast_at (T : List Nat) (j : Nat) (hj : j < T.length) : (T.map (fun (n : Nat) => (n : Int))).getD j 0 = ((T[j]'hj : Nat) : Int) := by
  rw [List.getD_eq_getElem?_getD, List.getElem?_map, List.getElem?_eq_getElem hj]
  rfl
theorem cast_sorted {T : List Nat} (h : T.Pairwise (· ≤ ·)) : ((T.map (fun (n : Nat) => (n : Int))).take T.length).Pairwise (· ≤ ·) := by
  rw [List.take_of_length_le (by rw [List.length_map]; exact Nat.le_refl _), List.pairwise_map]
  exact h.imp (fun h => by omega)
def BoxQ (W : World) (lb mb N : Nat) (t : Nat) (b_ c_ d_ : Int) : Prop := W.cell? ⟨lb, 0, none⟩ = some (.map (some mb)) ∧ W.cell? ⟨N, 0, none⟩ = some (.int .i64 (t : Int)) ∧ W.cell? ⟨N, 1, none⟩ = some (.int .i64 b_) ∧ W.cell? ⟨N, 2, none⟩ = some (.int .i64 c_) ∧ W.cell? ⟨N, 3, none⟩ = some (.int .i64 d_)
theorem insT_length (T : List Nat) (t : Nat) : (insT T t).length = T.length + 1 := by
  have : T.countP (· < t) ≤ T.length := List.countP_le_length
  unfold insT
  rw [List.length_append, List.length_take, List.length_cons, List.length_drop]
  omega
/-- slices.BinarySearch(ticks, t). -/
theorem tk_search (w : World) (q0 : Nat) (A : Option Addr) (c : Nat) (T : List Nat) (h : TkR w q0 A c T) (hA : A ≠ none) (t : Nat) (hs : T.Pairwise (· ≤ ·)) (hT : T.length ≤ 100000) :
    Calls Tryz.prog 134 #[.slice A T.length c, .int .i64 t] w fun e w' => ∃ fnd, e = .returned (.tuple #[.int .i64 (T.countP (· < t) : Nat), .bool fnd]) ∧ ∃ m, w' = w.drewN m := by
  rcases h.form with h1 | ⟨g, o, rfl, h1, h2, h3, h4, h5⟩
  · exact absurd h1.1 hA
  · refine (Any.slices_BinarySearch_int Tryz.lays2_25 g o T.length c (T.map (fun (n : Nat) => (n : Int))) t w (by rw [List.length_map]; exact Nat.le_refl _) (by omega) (fun j hj => ?_) (cast_sorted hs)).mono ?_
    · rw [List.length_map] at hj
      rw [cast_at T j hj]
      exact h5 j _ (List.getElem?_eq_getElem hj)
    · rintro e w' ⟨rfl, hq⟩
      rw [count_cast]
      exact ⟨_, rfl, hq⟩
def AddP (w : World) (q0 lb tb mb nm : Nat) (H : Nat → Value) (Q : Nat → List Q4) (A : Option Addr) (T : List Nat) (t : Nat) (b_ c_ d_ : Int) (e : Ending) (w' : World) : Prop :=
  ∃ H' A' c', e = .returned (.tuple #[]) ∧ A' ≠ none ∧ Que w' q0 lb tb mb (nm + 1) H' (updQ Q t (Q t ++ [⟨t, b_, c_, d_⟩])) A' c' (if Q t = [] then insT T t else T) ∧ QFr w w' lb tb mb H A H' A' ∧ ∀ s, s ≠ t → H' s = H s
set_option maxRecDepth 100000 in
set_option maxHeartbeats 2000000 in
theorem addQ_I (w : World) (q0 lb tb mb nm : Nat) (H : Nat → Value) (Q : Nat → List Q4) (A : Option Addr) (c : Nat) (T : List Nat) (hq : Que w q0 lb tb mb nm H Q A c T) (hA : A ≠ none) (hq0 : q0 ≤ w.heap.size) (t : Nat) (b_ c_ d_ : Int) (ht : t ≤ 100000) (hT : T.length ≤ 100000) (hs : T.Pairwise (· ≤ ·)) (hnm : nm ≤ 100000) (hQ : (Q t).length ≤ 100000) :
    Calls Tryz.prog 133 #[.agg #[.int .i64 t, .int .i64 b_, .int .i64 c_, .int .i64 d_], .pointer (some ⟨lb, 0, none⟩), .pointer (some ⟨tb, 0, none⟩)] w (AddP w q0 lb tb mb nm H Q A T t b_ c_ d_) := by
  obtain ⟨Ah, ch, hH⟩ := own_slice (hq.rows t)
  obtain ⟨W1, hW1⟩ : ∃ W, W = w.alloc (.cells #[.int .i64 (t : Int), .int .i64 b_, .int .i64 c_, .int .i64 d_] 161) := ⟨_, rfl⟩
  have B1 : Below w.heap.size w W1 := by rw [hW1]; exact (Below.refl _ _).alloc (Nat.le_refl _) _
  have Q1 := hq.below B1
  have c0 : W1.cell? ⟨w.heap.size, 0, none⟩ = some (.int .i64 (t : Int)) := by rw [hW1]; simp [go_sem]
  have c1 : W1.cell? ⟨w.heap.size, 1, none⟩ = some (.int .i64 b_) := by rw [hW1]; simp [go_sem]
  have c2 : W1.cell? ⟨w.heap.size, 2, none⟩ = some (.int .i64 c_) := by rw [hW1]; simp [go_sem]
  have c3 : W1.cell? ⟨w.heap.size, 3, none⟩ = some (.int .i64 d_) := by rw [hW1]; simp [go_sem]
  have b0 := hq.b0
  have b1 := hq.b1
  have hlb := (hq.lt (.inl rfl : QB lb tb mb H A lb)).1
  have htb := (hq.lt (.inr (.inl rfl) : QB lb tb mb H A tb)).1
  have hlook := Q1.mp.look (t := t) (by omega)
  rw [hH] at hlook
  by_cases hnil : Q t = []
  · have hlen : (Q t).length = 0 := by rw [hnil]; rfl
    rw [hlen, hW1] at hlook
    have HSe := hid (tk_search W1 q0 A c T Q1.tk hA t hs hT)
    have HQ := hid hq
    have HQ1 := hid Q1
    have HB1 := hid B1
    clear Q1 B1 hq
    go_enter Tryz.func133, Tryz.ntmps133
    go_wp2_with fail
    rw [← hW1]
    clear hlook hW1
    refine HSe.out.mono ?_
    rintro e w2 ⟨fnd, rfl, m, hm⟩
    have B2 : Below W1.heap.size W1 w2 := by rw [hm]; exact below_drewN (Below.refl _ _) _
    have Q2 := HQ1.out.below B2
    have hN : w.heap.size < w2.heap.size := by have : w.heap.size < W1.heap.size := World.block_lt_of_cell? W1 ⟨w.heap.size, 0, none⟩ c0; have := B2.size; omega
    have e0 := cell_on B2 c0
    have e1 := cell_on B2 c1
    have e2 := cell_on B2 c2
    have e3 := cell_on B2 c3
    have hlb2 := (Q2.lt (.inl rfl : QB lb tb mb H A lb)).1
    have htb2 := (Q2.lt (.inr (.inl rfl) : QB lb tb mb H A tb)).1
    have d0 := Q2.b0
    have d1 := Q2.b1
    obtain ⟨W3, hW3⟩ : ∃ W, W = w2.alloc (.cells #[.int .i64 (t : Int)] 3) := ⟨_, rfl⟩
    have B3 : Below w2.heap.size w2 W3 := by rw [hW3]; exact (Below.refl _ _).alloc (Nat.le_refl _) _
    have Q3 := Q2.below B3
    have v3 : W3.cell? ⟨w2.heap.size, 0, none⟩ = some (.int .i64 (t : Int)) := by rw [hW3]; simp [go_sem]
    have z3 : Fz W3 w2.heap.size := fun j => by rw [hW3]; simp [go_sem]
    have ltA : ∀ a, A = some a → a.block < w2.heap.size := fun a ha => (Q2.lt (.inr (.inr (.inr (.inl ⟨a, ha, rfl⟩))) : QB lb tb mb H A a.block)).1
    have HIn := hid (tk_insert W3 q0 A c T Q3.tk t (T.countP (· < t)) w2.heap.size List.countP_le_length v3 z3 (fun a ha e => by have := ltA a ha; omega) (by have := B3.size; omega) hT)
    have HQ3 := hid Q3
    have HB12 := hid (below_then B2 B3)
    have f0 := cell_on B3 e0
    have f1 := cell_on B3 e1
    have f2 := cell_on B3 e2
    have f3 := cell_on B3 e3
    obtain ⟨kk, hkk⟩ : ∃ k, T.countP (· < t) = k := ⟨_, rfl⟩
    rw [hkk] at HIn ⊢
    have HKK := hid hkk
    clear hkk b0 b1 hlb htb HSe hm v3 z3 B3 Q3 Q2 B2
    go_wp2_with fail
    rw [← hW3]
    clear hW3 e0 e1 e2 e3 d0 d1
    refine HIn.out.mono ?_
    rintro e w4 ⟨A', c', rfl, hk4, hg4, hn4⟩
    have hlen4 : (T.take kk ++ t :: T.drop kk).length = T.length + 1 := by have := insT_length T t; unfold insT at this; rw [HKK.out] at this; exact this
    obtain ⟨Q5, F5⟩ := HQ3.out.tick hk4 hg4 hn4
    rw [hlen4] at Q5 F5
    have s3 := HB12.out.size
    have notQ : ¬ QB lb tb mb H A w.heap.size := fun hx => by have := (HQ.out.lt hx).1; omega
    have hN3 : w.heap.size < W3.heap.size := World.block_lt_of_cell? W3 ⟨w.heap.size, 0, none⟩ f0
    have k5 := F5.block w.heap.size hN3 notQ
    have g0 := (World.cell?_of_block (a := ⟨w.heap.size, 0, none⟩) k5).trans f0
    have g1 := (World.cell?_of_block (a := ⟨w.heap.size, 1, none⟩) k5).trans f1
    have g2 := (World.cell?_of_block (a := ⟨w.heap.size, 2, none⟩) k5).trans f2
    have g3 := (World.cell?_of_block (a := ⟨w.heap.size, 3, none⟩) k5).trans f3
    have ntb : A.map (·.block) ≠ some tb := fun e => by
      cases A with
      | none => cases e
      | some a => exact (HQ.out.sepA a rfl).2.1 (by simpa using e)
    have ktb := hg4.block tb (by have := (HQ3.out.lt (.inr (.inl rfl) : QB lb tb mb H A tb)).1; exact this) (Ne.symm ntb)
    have h40 := (World.cell?_of_block (a := ⟨tb, 0, none⟩) ktb).trans HQ3.out.b1
    have h41 := (World.frozen?_of_block (a := ⟨tb, 0, none⟩) ktb).trans (HQ3.out.zt 0)
    obtain ⟨V5, hV5⟩ : ∃ V, V = w4.setCell ⟨tb, 0, none⟩ (.slice A' (T.length + 1) c') := ⟨_, rfl⟩
    rw [← hV5] at Q5 F5 g0 g1 g2 g3
    have j0 := Q5.b0
    have hlbV := (Q5.lt (.inl rfl : QB lb tb mb H A' lb)).1
    have hNV : w.heap.size < V5.heap.size := World.block_lt_of_cell? V5 ⟨w.heap.size, 0, none⟩ g0
    have hl1 := (Q5.below ((Below.refl _ _).drew)).mp.look (t := t) (by omega)
    have hl2 : ∀ o, _ := fun o => (Q5.below (((Below.refl _ _).alloc (Nat.le_refl _) o).drew)).mp.look (t := t) (by omega)
    rw [hH, hlen] at hl1 hl2
    have HQ5 := hid Q5
    have HF5 := hid F5
    clear ktb k5 notQ Q5 F5 hg4 hk4 hn4 f0 f1 f2 f3
    go_wp2_with fail
    rw [← hV5]
    clear hV5 h40 h41
    have HO := hid (show V5.ownsRow q0 161 4 (.slice Ah 0 ch) 0 [] by have := HQ5.out.rows t; rw [hH, hnil] at this; exact this)
    obtain ⟨i0, hi0, hz0, hz1', hz2'⟩ := info_parts (show (Tryz.prog.info? 161).map (fun i => (i.zero, i.size, i.bytes)) = some (some (.agg #[.int .i64 0, .int .i64 0, .int .i64 0, .int .i64 0]), 4, 32) by kernel_rfl)
    have hmlt := HQ5.out.mp.lt
    have hqV : q0 ≤ V5.heap.size := by have := (HQ5.out.lt (.inl rfl : QB lb tb mb H A' lb)); omega
    have hN6 : 0 + 1 ≤ maxLen := by unfold maxLen; omega
    have hN7 : (0 + 1) * 32 ≤ 140737488355328 := by omega
    have hfar : ∀ g, (Value.slice Ah 0 ch).ownBlock = some g → (H t).ownBlock = some g := fun g e => by rw [hH, hlen]; exact e
    have HNm := hid (show ∀ g, g = mb ∨ g = lb ∨ g = w.heap.size → some g ≠ (Value.slice Ah 0 ch).ownBlock from fun g hg e => by
      have hx := hfar g e.symm
      rcases hg with rfl | rfl | rfl
      · exact (HQ5.out.far t _ hx).2.2.1 rfl
      · exact (HQ5.out.far t _ hx).1 rfl
      · have := (HQ.out.lt (.inr (.inr (.inr (.inr ⟨t, hx⟩))) : QB lb tb mb H A w.heap.size)).1
        omega)
    clear hfar
    have hVA : BoxQ ((V5.alloc (.cells #[.int .i64 (t : Int), .int .i64 b_, .int .i64 c_, .int .i64 d_] 161)).drew) lb mb w.heap.size t b_ c_ d_ := by
      have BA := ((Below.refl V5.heap.size V5).alloc (Nat.le_refl _) (.cells #[.int .i64 (t : Int), .int .i64 b_, .int .i64 c_, .int .i64 d_] 161)).drew
      exact ⟨cell_on BA j0, cell_on BA g0, cell_on BA g1, cell_on BA g2, cell_on BA g3⟩
    have hV0 : BoxQ V5.drew lb mb w.heap.size t b_ c_ d_ := ⟨j0, g0, g1, g2, g3⟩
    refine wp_region_held_drew (S := fun W => W.cell? ⟨lb, 0, none⟩ = some (.map (some mb)) ∧ W.cell? ⟨w.heap.size, 0, none⟩ = some (.int .i64 (t : Int)) ∧ W.cell? ⟨w.heap.size, 1, none⟩ = some (.int .i64 b_) ∧ W.cell? ⟨w.heap.size, 2, none⟩ = some (.int .i64 c_) ∧ W.cell? ⟨w.heap.size, 3, none⟩ = some (.int .i64 d_)) (by kernel_rfl) hV0 (fun hH0 => ?_)
    refine wpAnyH_take (i := 0) (oi := ⟨some 25, _, _, _, _, _⟩) (v := ?_) rfl (by kernel_rfl) (by kernel_rfl) (by kernel_rfl) (fun _ _ _ h => h) (Or.inl ⟨by kernel_rfl, ?_⟩) hH0 ?_
    rotate_left 1
    · (intro W hSw; (try dsimp only at hSw); go_simp; try with_reducible rfl)
    try simp only [Act.put, List.setIfInBounds_toArray, List.set_cons_zero, List.set_cons_succ]
    refine wpAnyH_take (i := 1) (oi := ⟨some 26, _, _, _, _, _⟩) (v := ?_) rfl (by kernel_rfl) (by kernel_rfl) (by kernel_rfl) (fun _ _ _ h => h) (Or.inl ⟨by kernel_rfl, ?_⟩) hH0 ?_
    rotate_left 1
    · (intro W hSw; (try dsimp only at hSw); go_simp; try with_reducible rfl)
    try simp only [Act.put, List.setIfInBounds_toArray, List.set_cons_zero, List.set_cons_succ]
    refine wpAnyH_take (i := 2) (oi := ⟨some 27, _, _, _, _, _⟩) (v := ?_) rfl (by kernel_rfl) (by kernel_rfl) (by kernel_rfl) (fun _ _ _ h => h) (Or.inl ⟨by kernel_rfl, ?_⟩) hH0 ?_
    rotate_left 1
    · (intro W hSw; (try dsimp only at hSw); go_simp; try with_reducible rfl)
    try simp only [Act.put, List.setIfInBounds_toArray, List.set_cons_zero, List.set_cons_succ]
    refine wpAnyH_take (i := 3) (oi := ⟨some 28, _, _, _, _, _⟩) (v := ?_) rfl (by kernel_rfl) (by kernel_rfl) (by kernel_rfl) (fun _ _ _ h => h) (Or.inl ⟨by kernel_rfl, ?_⟩) hH0 ?_
    rotate_left 1
    · (intro W hSw; (try dsimp only at hSw); go_simp; try with_reducible rfl)
    try simp only [Act.put, List.setIfInBounds_toArray, List.set_cons_zero, List.set_cons_succ]
    refine wpAnyH_take (i := 4) (oi := ⟨some 29, _, _, _, _, _⟩) (v := ?_) rfl (by kernel_rfl) (by kernel_rfl) (by kernel_rfl) (fun _ _ _ h => h) (Or.inl ⟨by kernel_rfl, ?_⟩) hH0 ?_
    rotate_left 1
    · (intro W hSw; (try dsimp only at hSw); go_simp; try with_reducible rfl)
    try simp only [Act.put, List.setIfInBounds_toArray, List.set_cons_zero, List.set_cons_succ]
    refine wpAnyH_take (i := 5) (oi := ⟨some 30, _, _, _, _, _⟩) (v := ?_) rfl (by kernel_rfl) (by kernel_rfl) (by kernel_rfl) (fun _ _ _ h => h) (Or.inl ⟨by kernel_rfl, ?_⟩) hH0 ?_
    rotate_left 1
    · (intro W hSw; (try dsimp only at hSw); go_simp; try with_reducible rfl)
    try simp only [Act.put, List.setIfInBounds_toArray, List.set_cons_zero, List.set_cons_succ]
    refine wpAnyH_take (i := 7) (oi := ⟨some 32, _, _, _, _, _⟩) (v := ?_) rfl (by kernel_rfl) (by kernel_rfl) (by kernel_rfl) (fun _ _ _ h => h) (Or.inl ⟨by kernel_rfl, ?_⟩) hH0 ?_
    rotate_left 1
    · (intro W hSw; (try dsimp only at hSw); go_simp; try with_reducible rfl)
    try simp only [Act.put, List.setIfInBounds_toArray, List.set_cons_zero, List.set_cons_succ]
    refine wpAnyH_ready (rs := [6, 8]) (by kernel_rfl) (by simp) ?_
    refine AllReadyH.cons rfl (fun K hK => ?_) (AllReadyH.cons rfl (fun K hK => ?_) AllReadyH.nil)
    · go_simp
      refine hK.out _ _ hH0 (fun hH1 => ?_)
      clear hK K
      try simp only [Act.put, List.setIfInBounds_toArray, List.set_cons_zero, List.set_cons_succ]
      refine wpAnyH_ready (rs := [8]) (by kernel_rfl) (by simp) ?_
      refine AllReadyH.cons rfl (fun K hK => ?_) AllReadyH.nil
      go_simp
      refine hK.out _ _ hVA (fun hH2 => ?_)
      clear hK K
      try simp only [Act.put, List.setIfInBounds_toArray, List.set_cons_zero, List.set_cons_succ]
      refine wpAnyH_ready (rs := [9]) (by kernel_rfl) (by simp) ?_
      refine AllReadyH.cons rfl (fun K hK => ?_) AllReadyH.nil
      refine step_append_lies _ (by rfl) _ _ _ (by rfl) q0 161 i0 _ 4 32 Tryz.underlying162 hi0 hz0 hz1' hz2' rfl (by omega) (.slice Ah 0 ch) 0 [] (by rfl) ((HO.out.alloc _).drew) ⟨V5.heap.size, 0, none⟩ 1 1 [.int .i64 (t : Int), .int .i64 b_, .int .i64 c_, .int .i64 d_] (by rfl) (by rfl) (World.news_of_block (cs := #[.int .i64 (t : Int), .int .i64 b_, .int .i64 c_, .int .i64 d_]) (t := 161) (fr := (0, 0)) (heap_alloc_new V5 _)) (by simp [Value.oneCell']) (by omega) hN6 hN7 (by simp; omega) (V5.heap.size + 1) (by simp) ?_
      intro gg cap w6 hown2 hgrow hat hlt2
      obtain ⟨w7, hst, hm7, hg7⟩ := (HQ5.out.mp.same ((hgrow.block mb (by simp; omega) (HNm.out mb (.inl rfl))).trans ((((Below.refl V5.heap.size V5).alloc (Nat.le_refl _) (.cells #[.int .i64 (t : Int), .int .i64 b_, .int .i64 c_, .int .i64 d_] 161)).drew).block mb hmlt))).store (by unfold maxLen; omega) (t := t) (by omega) (.slice (some ⟨gg, 0, none⟩) 1 cap)
      have BV := ((Below.refl V5.heap.size V5).alloc (Nat.le_refl _) (.cells #[.int .i64 (t : Int), .int .i64 b_, .int .i64 c_, .int .i64 d_] 161)).drew
      have kN := hgrow.block w.heap.size (by simp; omega) (HNm.out w.heap.size (.inr (.inr rfl)))
      have kL := hgrow.block lb (by simp; omega) (HNm.out lb (.inr (.inl rfl)))
      have hS6 : BoxQ w6 lb mb w.heap.size t b_ c_ d_ := ⟨(World.cell?_of_block (a := ⟨lb, 0, none⟩) kL).trans hVA.1, (World.cell?_of_block (a := ⟨w.heap.size, 0, none⟩) kN).trans hVA.2.1, (World.cell?_of_block (a := ⟨w.heap.size, 1, none⟩) kN).trans hVA.2.2.1, (World.cell?_of_block (a := ⟨w.heap.size, 2, none⟩) kN).trans hVA.2.2.2.1, (World.cell?_of_block (a := ⟨w.heap.size, 3, none⟩) kN).trans hVA.2.2.2.2⟩
      have z6 := hgrow.size
      have kL7 := hg7.block lb (by simp at z6; omega) (fun e => HQ5.out.sep.2.1 (by cases e; rfl))
      have kN7 := hg7.block w.heap.size (by simp at z6; omega) (fun e => by have := (HQ.out.lt (.inr (.inr (.inl rfl)) : QB lb tb mb H A mb)).1; cases e; omega)
      have hS7 : BoxQ w7 lb mb w.heap.size t b_ c_ d_ := ⟨(World.cell?_of_block (a := ⟨lb, 0, none⟩) kL7).trans hS6.1, (World.cell?_of_block (a := ⟨w.heap.size, 0, none⟩) kN7).trans hS6.2.1, (World.cell?_of_block (a := ⟨w.heap.size, 1, none⟩) kN7).trans hS6.2.2.1, (World.cell?_of_block (a := ⟨w.heap.size, 2, none⟩) kN7).trans hS6.2.2.2.1, (World.cell?_of_block (a := ⟨w.heap.size, 3, none⟩) kN7).trans hS6.2.2.2.2⟩
      refine hK.out _ _ hS6 (fun hH3 => ?_)
      clear hK K
      try simp only [Act.put, List.setIfInBounds_toArray, List.set_cons_zero, List.set_cons_succ]
      refine wpAnyH_ready (rs := [10]) (by kernel_rfl) (by simp) ?_
      refine AllReadyH.cons rfl (fun K hK => ?_) AllReadyH.nil
      go_simp
      refine hK.out _ _ hS7 (fun hH4 => ?_)
      clear hK K
      try simp only [Act.put, List.setIfInBounds_toArray, List.set_cons_zero, List.set_cons_succ]
      refine wpAnyH_done (by kernel_rfl) ?_ _
      go_wp2_with fail
      first | go_end0 | refine bodyPost_ret (results_none rfl _ _ _) rfl ?_
      have hOB : (H t).ownBlock = (Value.slice Ah 0 ch).ownBlock := by rw [hH, hlen]
      have hTe : insT T t = T.take kk ++ t :: T.drop kk := by unfold insT; rw [HKK.out]
      have hT4 : (T.take kk ++ t :: T.drop kk).length = T.length + 1 := by rw [← hTe]; exact insT_length T t
      have PU := (HQ5.out.below BV).put (t := t) (l := [⟨t, b_, c_, d_⟩]) hown2 (by rw [hOB]; exact hgrow) (by rw [hOB]; exact hat.elim (fun e => .inl e.symm) (fun e => .inr (fun k hk => by cases hk; simp; omega))) hm7 hg7
      refine ⟨_, A', c', rfl, fun e => ?_, ?_, ((QFr.of_below (below_then HB1.out HB12.out) lb tb mb H A).trans HF5.out).trans ((QFr.of_below BV lb tb mb H A').trans PU.2), fun s hs => by unfold updV; exact if_neg hs⟩
      · rcases HQ5.out.tk.form with h9 | ⟨g, o, e9, _⟩
        · have := HQ5.out.tk.le; omega
        · rw [e] at e9; cases e9
      · rw [if_pos hnil, hnil, hTe]; exact PU.1
    · go_simp
      refine hK.out _ _ hVA (fun hH1 => ?_)
      clear hK K
      try simp only [Act.put, List.setIfInBounds_toArray, List.set_cons_zero, List.set_cons_succ]
      refine wpAnyH_ready (rs := [6]) (by kernel_rfl) (by simp) ?_
      refine AllReadyH.cons rfl (fun K hK => ?_) AllReadyH.nil
      go_simp
      refine hK.out _ _ hVA (fun hH2 => ?_)
      clear hK K
      try simp only [Act.put, List.setIfInBounds_toArray, List.set_cons_zero, List.set_cons_succ]
      refine wpAnyH_ready (rs := [9]) (by kernel_rfl) (by simp) ?_
      refine AllReadyH.cons rfl (fun K hK => ?_) AllReadyH.nil
      refine step_append_lies _ (by rfl) _ _ _ (by rfl) q0 161 i0 _ 4 32 Tryz.underlying162 hi0 hz0 hz1' hz2' rfl (by omega) (.slice Ah 0 ch) 0 [] (by rfl) ((HO.out.alloc _).drew) ⟨V5.heap.size, 0, none⟩ 1 1 [.int .i64 (t : Int), .int .i64 b_, .int .i64 c_, .int .i64 d_] (by rfl) (by rfl) (World.news_of_block (cs := #[.int .i64 (t : Int), .int .i64 b_, .int .i64 c_, .int .i64 d_]) (t := 161) (fr := (0, 0)) (heap_alloc_new V5 _)) (by simp [Value.oneCell']) (by omega) hN6 hN7 (by simp; omega) (V5.heap.size + 1) (by simp) ?_
      intro gg cap w6 hown2 hgrow hat hlt2
      obtain ⟨w7, hst, hm7, hg7⟩ := (HQ5.out.mp.same ((hgrow.block mb (by simp; omega) (HNm.out mb (.inl rfl))).trans ((((Below.refl V5.heap.size V5).alloc (Nat.le_refl _) (.cells #[.int .i64 (t : Int), .int .i64 b_, .int .i64 c_, .int .i64 d_] 161)).drew).block mb hmlt))).store (by unfold maxLen; omega) (t := t) (by omega) (.slice (some ⟨gg, 0, none⟩) 1 cap)
      have BV := ((Below.refl V5.heap.size V5).alloc (Nat.le_refl _) (.cells #[.int .i64 (t : Int), .int .i64 b_, .int .i64 c_, .int .i64 d_] 161)).drew
      have kN := hgrow.block w.heap.size (by simp; omega) (HNm.out w.heap.size (.inr (.inr rfl)))
      have kL := hgrow.block lb (by simp; omega) (HNm.out lb (.inr (.inl rfl)))
      have hS6 : BoxQ w6 lb mb w.heap.size t b_ c_ d_ := ⟨(World.cell?_of_block (a := ⟨lb, 0, none⟩) kL).trans hVA.1, (World.cell?_of_block (a := ⟨w.heap.size, 0, none⟩) kN).trans hVA.2.1, (World.cell?_of_block (a := ⟨w.heap.size, 1, none⟩) kN).trans hVA.2.2.1, (World.cell?_of_block (a := ⟨w.heap.size, 2, none⟩) kN).trans hVA.2.2.2.1, (World.cell?_of_block (a := ⟨w.heap.size, 3, none⟩) kN).trans hVA.2.2.2.2⟩
      have z6 := hgrow.size
      have kL7 := hg7.block lb (by simp at z6; omega) (fun e => HQ5.out.sep.2.1 (by cases e; rfl))
      have kN7 := hg7.block w.heap.size (by simp at z6; omega) (fun e => by have := (HQ.out.lt (.inr (.inr (.inl rfl)) : QB lb tb mb H A mb)).1; cases e; omega)
      have hS7 : BoxQ w7 lb mb w.heap.size t b_ c_ d_ := ⟨(World.cell?_of_block (a := ⟨lb, 0, none⟩) kL7).trans hS6.1, (World.cell?_of_block (a := ⟨w.heap.size, 0, none⟩) kN7).trans hS6.2.1, (World.cell?_of_block (a := ⟨w.heap.size, 1, none⟩) kN7).trans hS6.2.2.1, (World.cell?_of_block (a := ⟨w.heap.size, 2, none⟩) kN7).trans hS6.2.2.2.1, (World.cell?_of_block (a := ⟨w.heap.size, 3, none⟩) kN7).trans hS6.2.2.2.2⟩
      refine hK.out _ _ hS6 (fun hH3 => ?_)
      clear hK K
      try simp only [Act.put, List.setIfInBounds_toArray, List.set_cons_zero, List.set_cons_succ]
      refine wpAnyH_ready (rs := [10]) (by kernel_rfl) (by simp) ?_
      refine AllReadyH.cons rfl (fun K hK => ?_) AllReadyH.nil
      go_simp
      refine hK.out _ _ hS7 (fun hH4 => ?_)
      clear hK K
      try simp only [Act.put, List.setIfInBounds_toArray, List.set_cons_zero, List.set_cons_succ]
      refine wpAnyH_done (by kernel_rfl) ?_ _
      go_wp2_with fail
      first | go_end0 | refine bodyPost_ret (results_none rfl _ _ _) rfl ?_
      have hOB : (H t).ownBlock = (Value.slice Ah 0 ch).ownBlock := by rw [hH, hlen]
      have hTe : insT T t = T.take kk ++ t :: T.drop kk := by unfold insT; rw [HKK.out]
      have hT4 : (T.take kk ++ t :: T.drop kk).length = T.length + 1 := by rw [← hTe]; exact insT_length T t
      have PU := (HQ5.out.below BV).put (t := t) (l := [⟨t, b_, c_, d_⟩]) hown2 (by rw [hOB]; exact hgrow) (by rw [hOB]; exact hat.elim (fun e => .inl e.symm) (fun e => .inr (fun k hk => by cases hk; simp; omega))) hm7 hg7
      refine ⟨_, A', c', rfl, fun e => ?_, ?_, ((QFr.of_below (below_then HB1.out HB12.out) lb tb mb H A).trans HF5.out).trans ((QFr.of_below BV lb tb mb H A').trans PU.2), fun s hs => by unfold updV; exact if_neg hs⟩
      · rcases HQ5.out.tk.form with h9 | ⟨g, o, e9, _⟩
        · have := HQ5.out.tk.le; omega
        · rw [e] at e9; cases e9
      · rw [if_pos hnil, hnil, hTe]; exact PU.1
  · have hpos : 0 < (Q t).length := List.length_pos_iff.2 hnil
    have hne1 : (((Q t).length : Int) == 0) = false := by rw [beq_eq_false_iff_ne]; omega
    have hne2 : ((Q t).length == 0) = false := by rw [beq_eq_false_iff_ne]; omega
    have hlook1 := hlook
    rw [hW1] at hlook1
    have HQ := hid hq
    have HQ5 := hid Q1
    have HB1 := hid B1
    obtain ⟨V5, hV5⟩ : ∃ V, V = W1 := ⟨_, rfl⟩
    have g0 := c0
    have g1 := c1
    have g2 := c2
    have g3 := c3
    have j0 := Q1.b0
    rw [← hV5] at g0 g1 g2 g3 j0 HQ5 HB1
    have hlbV := (HQ5.out.lt (.inl rfl : QB lb tb mb H A lb)).1
    have hNV : w.heap.size < V5.heap.size := World.block_lt_of_cell? V5 ⟨w.heap.size, 0, none⟩ g0
    have hl1 := (HQ5.out.below ((Below.refl _ _).drew)).mp.look (t := t) (by omega)
    have hl2 : ∀ o, _ := fun o => (HQ5.out.below (((Below.refl _ _).alloc (Nat.le_refl _) o).drew)).mp.look (t := t) (by omega)
    rw [hH] at hl1 hl2
    clear Q1 B1 hq c0 c1 c2 c3 hlook
    go_enter Tryz.func133, Tryz.ntmps133
    go_wp2_with fail
    rw [← hW1, ← hV5]
    clear hV5 hW1 b0 b1 hlook1
    have HO := hid (show V5.ownsRow q0 161 4 (.slice Ah (Q t).length ch) (Q t).length ((Q t).flatMap Q4.e64) by have := HQ5.out.rows t; rw [hH] at this; exact this)
    obtain ⟨i0, hi0, hz0, hz1', hz2'⟩ := info_parts (show (Tryz.prog.info? 161).map (fun i => (i.zero, i.size, i.bytes)) = some (some (.agg #[.int .i64 0, .int .i64 0, .int .i64 0, .int .i64 0]), 4, 32) by kernel_rfl)
    have hmlt := HQ5.out.mp.lt
    have hqV : q0 ≤ V5.heap.size := by have := (HQ5.out.lt (.inl rfl : QB lb tb mb H A lb)); omega
    have hN6 : (Q t).length + 1 ≤ maxLen := by unfold maxLen; omega
    have hN7 : ((Q t).length + 1) * 32 ≤ 140737488355328 := by omega
    have hfar : ∀ g, (Value.slice Ah (Q t).length ch).ownBlock = some g → (H t).ownBlock = some g := fun g e => by rw [hH]; exact e
    have HNm := hid (show ∀ g, g = mb ∨ g = lb ∨ g = w.heap.size → some g ≠ (Value.slice Ah (Q t).length ch).ownBlock from fun g hg e => by
      have hx := hfar g e.symm
      rcases hg with rfl | rfl | rfl
      · exact (HQ5.out.far t _ hx).2.2.1 rfl
      · exact (HQ5.out.far t _ hx).1 rfl
      · have := (HQ.out.lt (.inr (.inr (.inr (.inr ⟨t, hx⟩))) : QB lb tb mb H A w.heap.size)).1
        omega)
    clear hfar
    have hVA : BoxQ ((V5.alloc (.cells #[.int .i64 (t : Int), .int .i64 b_, .int .i64 c_, .int .i64 d_] 161)).drew) lb mb w.heap.size t b_ c_ d_ := by
      have BA := ((Below.refl V5.heap.size V5).alloc (Nat.le_refl _) (.cells #[.int .i64 (t : Int), .int .i64 b_, .int .i64 c_, .int .i64 d_] 161)).drew
      exact ⟨cell_on BA j0, cell_on BA g0, cell_on BA g1, cell_on BA g2, cell_on BA g3⟩
    have hV0 : BoxQ V5.drew lb mb w.heap.size t b_ c_ d_ := ⟨j0, g0, g1, g2, g3⟩
    refine wp_region_held_drew (S := fun W => W.cell? ⟨lb, 0, none⟩ = some (.map (some mb)) ∧ W.cell? ⟨w.heap.size, 0, none⟩ = some (.int .i64 (t : Int)) ∧ W.cell? ⟨w.heap.size, 1, none⟩ = some (.int .i64 b_) ∧ W.cell? ⟨w.heap.size, 2, none⟩ = some (.int .i64 c_) ∧ W.cell? ⟨w.heap.size, 3, none⟩ = some (.int .i64 d_)) (by kernel_rfl) hV0 (fun hH0 => ?_)
    refine wpAnyH_take (i := 0) (oi := ⟨some 25, _, _, _, _, _⟩) (v := ?_) rfl (by kernel_rfl) (by kernel_rfl) (by kernel_rfl) (fun _ _ _ h => h) (Or.inl ⟨by kernel_rfl, ?_⟩) hH0 ?_
    rotate_left 1
    · (intro W hSw; (try dsimp only at hSw); go_simp; try with_reducible rfl)
    try simp only [Act.put, List.setIfInBounds_toArray, List.set_cons_zero, List.set_cons_succ]
    refine wpAnyH_take (i := 1) (oi := ⟨some 26, _, _, _, _, _⟩) (v := ?_) rfl (by kernel_rfl) (by kernel_rfl) (by kernel_rfl) (fun _ _ _ h => h) (Or.inl ⟨by kernel_rfl, ?_⟩) hH0 ?_
    rotate_left 1
    · (intro W hSw; (try dsimp only at hSw); go_simp; try with_reducible rfl)
    try simp only [Act.put, List.setIfInBounds_toArray, List.set_cons_zero, List.set_cons_succ]
    refine wpAnyH_take (i := 2) (oi := ⟨some 27, _, _, _, _, _⟩) (v := ?_) rfl (by kernel_rfl) (by kernel_rfl) (by kernel_rfl) (fun _ _ _ h => h) (Or.inl ⟨by kernel_rfl, ?_⟩) hH0 ?_
    rotate_left 1
    · (intro W hSw; (try dsimp only at hSw); go_simp; try with_reducible rfl)
    try simp only [Act.put, List.setIfInBounds_toArray, List.set_cons_zero, List.set_cons_succ]
    refine wpAnyH_take (i := 3) (oi := ⟨some 28, _, _, _, _, _⟩) (v := ?_) rfl (by kernel_rfl) (by kernel_rfl) (by kernel_rfl) (fun _ _ _ h => h) (Or.inl ⟨by kernel_rfl, ?_⟩) hH0 ?_
    rotate_left 1
    · (intro W hSw; (try dsimp only at hSw); go_simp; try with_reducible rfl)
    try simp only [Act.put, List.setIfInBounds_toArray, List.set_cons_zero, List.set_cons_succ]
    refine wpAnyH_take (i := 4) (oi := ⟨some 29, _, _, _, _, _⟩) (v := ?_) rfl (by kernel_rfl) (by kernel_rfl) (by kernel_rfl) (fun _ _ _ h => h) (Or.inl ⟨by kernel_rfl, ?_⟩) hH0 ?_
    rotate_left 1
    · (intro W hSw; (try dsimp only at hSw); go_simp; try with_reducible rfl)
    try simp only [Act.put, List.setIfInBounds_toArray, List.set_cons_zero, List.set_cons_succ]
    refine wpAnyH_take (i := 5) (oi := ⟨some 30, _, _, _, _, _⟩) (v := ?_) rfl (by kernel_rfl) (by kernel_rfl) (by kernel_rfl) (fun _ _ _ h => h) (Or.inl ⟨by kernel_rfl, ?_⟩) hH0 ?_
    rotate_left 1
    · (intro W hSw; (try dsimp only at hSw); go_simp; try with_reducible rfl)
    try simp only [Act.put, List.setIfInBounds_toArray, List.set_cons_zero, List.set_cons_succ]
    refine wpAnyH_take (i := 7) (oi := ⟨some 32, _, _, _, _, _⟩) (v := ?_) rfl (by kernel_rfl) (by kernel_rfl) (by kernel_rfl) (fun _ _ _ h => h) (Or.inl ⟨by kernel_rfl, ?_⟩) hH0 ?_
    rotate_left 1
    · (intro W hSw; (try dsimp only at hSw); go_simp; try with_reducible rfl)
    try simp only [Act.put, List.setIfInBounds_toArray, List.set_cons_zero, List.set_cons_succ]
    refine wpAnyH_ready (rs := [6, 8]) (by kernel_rfl) (by simp) ?_
    refine AllReadyH.cons rfl (fun K hK => ?_) (AllReadyH.cons rfl (fun K hK => ?_) AllReadyH.nil)
    · go_simp
      refine hK.out _ _ hH0 (fun hH1 => ?_)
      clear hK K
      try simp only [Act.put, List.setIfInBounds_toArray, List.set_cons_zero, List.set_cons_succ]
      refine wpAnyH_ready (rs := [8]) (by kernel_rfl) (by simp) ?_
      refine AllReadyH.cons rfl (fun K hK => ?_) AllReadyH.nil
      go_simp
      refine hK.out _ _ hVA (fun hH2 => ?_)
      clear hK K
      try simp only [Act.put, List.setIfInBounds_toArray, List.set_cons_zero, List.set_cons_succ]
      refine wpAnyH_ready (rs := [9]) (by kernel_rfl) (by simp) ?_
      refine AllReadyH.cons rfl (fun K hK => ?_) AllReadyH.nil
      refine step_append_lies _ (by rfl) _ _ _ (by rfl) q0 161 i0 _ 4 32 Tryz.underlying162 hi0 hz0 hz1' hz2' rfl (by omega) (.slice Ah (Q t).length ch) (Q t).length ((Q t).flatMap Q4.e64) (by rfl) ((HO.out.alloc _).drew) ⟨V5.heap.size, 0, none⟩ 1 1 [.int .i64 (t : Int), .int .i64 b_, .int .i64 c_, .int .i64 d_] (by rfl) (by rfl) (World.news_of_block (cs := #[.int .i64 (t : Int), .int .i64 b_, .int .i64 c_, .int .i64 d_]) (t := 161) (fr := (0, 0)) (heap_alloc_new V5 _)) (by simp [Value.oneCell']) (by omega) hN6 hN7 (by simp; omega) (V5.heap.size + 1) (by simp) ?_
      intro gg cap w6 hown2 hgrow hat hlt2
      obtain ⟨w7, hst, hm7, hg7⟩ := (HQ5.out.mp.same ((hgrow.block mb (by simp; omega) (HNm.out mb (.inl rfl))).trans ((((Below.refl V5.heap.size V5).alloc (Nat.le_refl _) (.cells #[.int .i64 (t : Int), .int .i64 b_, .int .i64 c_, .int .i64 d_] 161)).drew).block mb hmlt))).store (by unfold maxLen; omega) (t := t) (by omega) (.slice (some ⟨gg, 0, none⟩) ((Q t).length + 1) cap)
      have BV := ((Below.refl V5.heap.size V5).alloc (Nat.le_refl _) (.cells #[.int .i64 (t : Int), .int .i64 b_, .int .i64 c_, .int .i64 d_] 161)).drew
      have kN := hgrow.block w.heap.size (by simp; omega) (HNm.out w.heap.size (.inr (.inr rfl)))
      have kL := hgrow.block lb (by simp; omega) (HNm.out lb (.inr (.inl rfl)))
      have hS6 : BoxQ w6 lb mb w.heap.size t b_ c_ d_ := ⟨(World.cell?_of_block (a := ⟨lb, 0, none⟩) kL).trans hVA.1, (World.cell?_of_block (a := ⟨w.heap.size, 0, none⟩) kN).trans hVA.2.1, (World.cell?_of_block (a := ⟨w.heap.size, 1, none⟩) kN).trans hVA.2.2.1, (World.cell?_of_block (a := ⟨w.heap.size, 2, none⟩) kN).trans hVA.2.2.2.1, (World.cell?_of_block (a := ⟨w.heap.size, 3, none⟩) kN).trans hVA.2.2.2.2⟩
      have z6 := hgrow.size
      have kL7 := hg7.block lb (by simp at z6; omega) (fun e => HQ5.out.sep.2.1 (by cases e; rfl))
      have kN7 := hg7.block w.heap.size (by simp at z6; omega) (fun e => by have := (HQ.out.lt (.inr (.inr (.inl rfl)) : QB lb tb mb H A mb)).1; cases e; omega)
      have hS7 : BoxQ w7 lb mb w.heap.size t b_ c_ d_ := ⟨(World.cell?_of_block (a := ⟨lb, 0, none⟩) kL7).trans hS6.1, (World.cell?_of_block (a := ⟨w.heap.size, 0, none⟩) kN7).trans hS6.2.1, (World.cell?_of_block (a := ⟨w.heap.size, 1, none⟩) kN7).trans hS6.2.2.1, (World.cell?_of_block (a := ⟨w.heap.size, 2, none⟩) kN7).trans hS6.2.2.2.1, (World.cell?_of_block (a := ⟨w.heap.size, 3, none⟩) kN7).trans hS6.2.2.2.2⟩
      refine hK.out _ _ hS6 (fun hH3 => ?_)
      clear hK K
      try simp only [Act.put, List.setIfInBounds_toArray, List.set_cons_zero, List.set_cons_succ]
      refine wpAnyH_ready (rs := [10]) (by kernel_rfl) (by simp) ?_
      refine AllReadyH.cons rfl (fun K hK => ?_) AllReadyH.nil
      go_simp
      refine hK.out _ _ hS7 (fun hH4 => ?_)
      clear hK K
      try simp only [Act.put, List.setIfInBounds_toArray, List.set_cons_zero, List.set_cons_succ]
      refine wpAnyH_done (by kernel_rfl) ?_ _
      go_wp2_with fail
      first | go_end0 | refine bodyPost_ret (results_none rfl _ _ _) rfl ?_
      have hOB : (H t).ownBlock = (Value.slice Ah (Q t).length ch).ownBlock := by rw [hH]
      have PU := (HQ5.out.below BV).put (t := t) (l := Q t ++ [⟨t, b_, c_, d_⟩]) (by rw [List.length_append, List.flatMap_append]; exact hown2) (by rw [hOB]; exact hgrow) (by rw [hOB]; exact hat.elim (fun e => .inl e.symm) (fun e => .inr (fun k hk => by cases hk; simp; omega))) hm7 hg7
      refine ⟨_, A, c, rfl, hA, ?_, (QFr.of_below HB1.out lb tb mb H A).trans ((QFr.of_below BV lb tb mb H A).trans PU.2), fun s hs => by unfold updV; exact if_neg hs⟩
      rw [if_neg hnil]; exact PU.1
    · go_simp
      refine hK.out _ _ hVA (fun hH1 => ?_)
      clear hK K
      try simp only [Act.put, List.setIfInBounds_toArray, List.set_cons_zero, List.set_cons_succ]
      refine wpAnyH_ready (rs := [6]) (by kernel_rfl) (by simp) ?_
      refine AllReadyH.cons rfl (fun K hK => ?_) AllReadyH.nil
      go_simp
      refine hK.out _ _ hVA (fun hH2 => ?_)
      clear hK K
      try simp only [Act.put, List.setIfInBounds_toArray, List.set_cons_zero, List.set_cons_succ]
      refine wpAnyH_ready (rs := [9]) (by kernel_rfl) (by simp) ?_
      refine AllReadyH.cons rfl (fun K hK => ?_) AllReadyH.nil
      refine step_append_lies _ (by rfl) _ _ _ (by rfl) q0 161 i0 _ 4 32 Tryz.underlying162 hi0 hz0 hz1' hz2' rfl (by omega) (.slice Ah (Q t).length ch) (Q t).length ((Q t).flatMap Q4.e64) (by rfl) ((HO.out.alloc _).drew) ⟨V5.heap.size, 0, none⟩ 1 1 [.int .i64 (t : Int), .int .i64 b_, .int .i64 c_, .int .i64 d_] (by rfl) (by rfl) (World.news_of_block (cs := #[.int .i64 (t : Int), .int .i64 b_, .int .i64 c_, .int .i64 d_]) (t := 161) (fr := (0, 0)) (heap_alloc_new V5 _)) (by simp [Value.oneCell']) (by omega) hN6 hN7 (by simp; omega) (V5.heap.size + 1) (by simp) ?_
      intro gg cap w6 hown2 hgrow hat hlt2
      obtain ⟨w7, hst, hm7, hg7⟩ := (HQ5.out.mp.same ((hgrow.block mb (by simp; omega) (HNm.out mb (.inl rfl))).trans ((((Below.refl V5.heap.size V5).alloc (Nat.le_refl _) (.cells #[.int .i64 (t : Int), .int .i64 b_, .int .i64 c_, .int .i64 d_] 161)).drew).block mb hmlt))).store (by unfold maxLen; omega) (t := t) (by omega) (.slice (some ⟨gg, 0, none⟩) ((Q t).length + 1) cap)
      have BV := ((Below.refl V5.heap.size V5).alloc (Nat.le_refl _) (.cells #[.int .i64 (t : Int), .int .i64 b_, .int .i64 c_, .int .i64 d_] 161)).drew
      have kN := hgrow.block w.heap.size (by simp; omega) (HNm.out w.heap.size (.inr (.inr rfl)))
      have kL := hgrow.block lb (by simp; omega) (HNm.out lb (.inr (.inl rfl)))
      have hS6 : BoxQ w6 lb mb w.heap.size t b_ c_ d_ := ⟨(World.cell?_of_block (a := ⟨lb, 0, none⟩) kL).trans hVA.1, (World.cell?_of_block (a := ⟨w.heap.size, 0, none⟩) kN).trans hVA.2.1, (World.cell?_of_block (a := ⟨w.heap.size, 1, none⟩) kN).trans hVA.2.2.1, (World.cell?_of_block (a := ⟨w.heap.size, 2, none⟩) kN).trans hVA.2.2.2.1, (World.cell?_of_block (a := ⟨w.heap.size, 3, none⟩) kN).trans hVA.2.2.2.2⟩
      have z6 := hgrow.size
      have kL7 := hg7.block lb (by simp at z6; omega) (fun e => HQ5.out.sep.2.1 (by cases e; rfl))
      have kN7 := hg7.block w.heap.size (by simp at z6; omega) (fun e => by have := (HQ.out.lt (.inr (.inr (.inl rfl)) : QB lb tb mb H A mb)).1; cases e; omega)
      have hS7 : BoxQ w7 lb mb w.heap.size t b_ c_ d_ := ⟨(World.cell?_of_block (a := ⟨lb, 0, none⟩) kL7).trans hS6.1, (World.cell?_of_block (a := ⟨w.heap.size, 0, none⟩) kN7).trans hS6.2.1, (World.cell?_of_block (a := ⟨w.heap.size, 1, none⟩) kN7).trans hS6.2.2.1, (World.cell?_of_block (a := ⟨w.heap.size, 2, none⟩) kN7).trans hS6.2.2.2.1, (World.cell?_of_block (a := ⟨w.heap.size, 3, none⟩) kN7).trans hS6.2.2.2.2⟩
      refine hK.out _ _ hS6 (fun hH3 => ?_)
      clear hK K
      try simp only [Act.put, List.setIfInBounds_toArray, List.set_cons_zero, List.set_cons_succ]
      refine wpAnyH_ready (rs := [10]) (by kernel_rfl) (by simp) ?_
      refine AllReadyH.cons rfl (fun K hK => ?_) AllReadyH.nil
      go_simp
      refine hK.out _ _ hS7 (fun hH4 => ?_)
      clear hK K
      try simp only [Act.put, List.setIfInBounds_toArray, List.set_cons_zero, List.set_cons_succ]
      refine wpAnyH_done (by kernel_rfl) ?_ _
      go_wp2_with fail
      first | go_end0 | refine bodyPost_ret (results_none rfl _ _ _) rfl ?_
      have hOB : (H t).ownBlock = (Value.slice Ah (Q t).length ch).ownBlock := by rw [hH]
      have PU := (HQ5.out.below BV).put (t := t) (l := Q t ++ [⟨t, b_, c_, d_⟩]) (by rw [List.length_append, List.flatMap_append]; exact hown2) (by rw [hOB]; exact hgrow) (by rw [hOB]; exact hat.elim (fun e => .inl e.symm) (fun e => .inr (fun k hk => by cases hk; simp; omega))) hm7 hg7
      refine ⟨_, A, c, rfl, hA, ?_, (QFr.of_below HB1.out lb tb mb H A).trans ((QFr.of_below BV lb tb mb H A).trans PU.2), fun s hs => by unfold updV; exact if_neg hs⟩
      rw [if_neg hnil]; exact PU.1
end Go.Proofs.YthhfndifcdiomaaGreat
