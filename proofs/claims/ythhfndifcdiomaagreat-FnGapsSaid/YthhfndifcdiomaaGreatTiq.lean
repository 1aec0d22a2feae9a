/-
  The row of ticks that wait, at an offset in its block; one tick more is inserted.
  Conditions: the row is short.
-/
import Derived.Test.YthhfndifcdiomaaGreatLayQ
import Derived.Test.YthhfndifcdiomaaGreatHitMap
namespace Go.Proofs.YthhfndifcdiomaaGreat
open Go.RowKit
set_option linter.unusedSimpArgs false
set_option linter.unusedVariables false

theorem setCells_grown (g : Nat) : ∀ (vs : List Value) (o : Nat) (w : World), w.grownBy (w.setCells g o vs) (some g)
  | [], _, w => World.grownBy.refl w _
  | v :: r, o, w => (store_grown w g o v).trans (setCells_grown g r (o + 1) _)
/-- A row of ticks: it lies behind q0. -/
structure TkR (w : World) (q0 : Nat) (A : Option Addr) (c : Nat) (T : List Nat) : Prop where
  le : T.length ≤ c
  cm : c ≤ maxLen
  form : (A = none ∧ c = 0) ∨ ∃ g o, A = some ⟨g, o, none⟩ ∧ q0 ≤ g ∧ g < w.heap.size ∧ Fz w g ∧ (∀ j, j < c → (w.cell? ⟨g, o + j, none⟩).isSome = true) ∧ ∀ j t, T[j]? = some t → w.cell? ⟨g, o + j, none⟩ = some (.int .i64 (t : Nat))
theorem TkR.kept {w w1 : World} {q0 : Nat} {A : Option Addr} {c : Nat} {T : List Nat} (h : TkR w q0 A c T) (hs : w.heap.size ≤ w1.heap.size) (hb : ∀ a, A = some a → w1.heap[a.block]? = w.heap[a.block]?) : TkR w1 q0 A c T := by
  refine ⟨h.le, h.cm, ?_⟩
  rcases h.form with h1 | ⟨g, o, rfl, h1, h2, h3, h4, h5⟩
  · exact .inl h1
  · have hg := hb _ rfl
    have hc : ∀ j, w1.cell? ⟨g, j, none⟩ = w.cell? ⟨g, j, none⟩ := fun j => World.cell?_of_block (a := ⟨g, j, none⟩) hg
    exact .inr ⟨g, o, rfl, h1, Nat.lt_of_lt_of_le h2 hs, fun j => (World.frozen?_of_block (a := ⟨g, j, none⟩) hg).trans (h3 j), fun j hj => by rw [hc]; exact h4 j hj, fun j t ht => by rw [hc]; exact h5 j t ht⟩
theorem TkR.tail {w : World} {q0 g o c t : Nat} {T : List Nat} (h : TkR w q0 (some ⟨g, o, none⟩) c (t :: T)) : TkR w q0 (some ⟨g, o + 1, none⟩) (c - 1) T := by
  have hl := h.le
  simp only [List.length_cons] at hl
  refine ⟨by omega, by have := h.cm; omega, ?_⟩
  rcases h.form with h1 | ⟨g2, o2, e, h1, h2, h3, h4, h5⟩
  · cases h1.1
  · cases e
    exact .inr ⟨g, o + 1, rfl, h1, h2, h3, fun j hj => by rw [Nat.add_assoc, Nat.add_comm 1 j]; exact h4 (j + 1) (by omega), fun j u hu => by rw [Nat.add_assoc, Nat.add_comm 1 j]; exact h5 (j + 1) u (by simpa using hu)⟩
theorem ins_at (cs : List Value) (v : Value) (i : Nat) (hi : i ≤ cs.length) (j : Nat) (u : Value) (h : (cs.take i ++ v :: cs.drop i)[j]? = some u) : (j < i ∧ cs[j]? = some u) ∨ (j = i ∧ u = v) ∨ (i < j ∧ cs[j - 1]? = some u ∧ (cs.drop i)[j - (i + 1)]? = some u) := by
  have hl : (cs.take i).length = i := by rw [List.length_take]; omega
  by_cases h1 : j < i
  · rw [List.getElem?_append_left (by omega), List.getElem?_take_of_lt h1] at h
    exact .inl ⟨h1, h⟩
  · rw [List.getElem?_append_right (by omega), hl] at h
    by_cases h2 : j = i
    · subst h2
      rw [Nat.sub_self] at h
      simp only [List.getElem?_cons_zero, Option.some.injEq] at h
      exact .inr (.inl ⟨rfl, h.symm⟩)
    · refine .inr (.inr ⟨by omega, ?_, ?_⟩)
      · rw [show j - i = (j - (i + 1)) + 1 by omega, List.getElem?_cons_succ, List.getElem?_drop] at h
        rw [← h]; congr 1; omega
      · rw [show j - i = (j - (i + 1)) + 1 by omega, List.getElem?_cons_succ] at h
        exact h
theorem ins_shift {w : World} {g o c i : Nat} {cs : List Value} {v : Value} (hi : i ≤ cs.length) (hc : cs.length + 1 ≤ c) (hsp : ∀ j, j < c → (w.cell? ⟨g, o + j, none⟩).isSome = true) (hcs : ∀ j u, cs[j]? = some u → w.cell? ⟨g, o + j, none⟩ = some u) :
    (∀ j, j < c → (((w.setCells g (o + (i + 1)) (cs.drop i)).setCells g (o + i) [v]).cell? ⟨g, o + j, none⟩).isSome = true) ∧ ∀ j u, (cs.take i ++ v :: cs.drop i)[j]? = some u → ((w.setCells g (o + (i + 1)) (cs.drop i)).setCells g (o + i) [v]).cell? ⟨g, o + j, none⟩ = some u := by
  have hdl : (cs.drop i).length = cs.length - i := List.length_drop
  have h1 : ∀ j, j < (cs.drop i).length → (w.cell? ⟨g, o + (i + 1) + j, none⟩).isSome = true := fun j hj => by rw [Nat.add_assoc]; exact hsp _ (by omega)
  have h2 : ∀ j, j < c → ((w.setCells g (o + (i + 1)) (cs.drop i)).cell? ⟨g, o + j, none⟩).isSome = true := fun j hj => isSome_setCells g _ _ w h1 _ (hsp j hj)
  have h3 : ∀ j, j < [v].length → ((w.setCells g (o + (i + 1)) (cs.drop i)).cell? ⟨g, o + i + j, none⟩).isSome = true := fun j hj => by
    simp only [List.length_cons, List.length_nil] at hj
    rw [Nat.add_assoc]; exact h2 _ (by omega)
  refine ⟨fun j hj => isSome_setCells g _ _ _ h3 _ (h2 j hj), fun j u hu => ?_⟩
  rcases ins_at cs v i hi j u hu with ⟨ha, hb⟩ | ⟨rfl, rfl⟩ | ⟨ha, _, hb⟩
  · rw [World.cell?_setCells_out g _ _ _ _ (fun _ _ => by left; show o + j < o + i; omega), World.cell?_setCells_out g _ _ _ _ (fun _ _ => by left; show o + j < o + (i + 1); omega)]
    exact hcs j u hb
  · have := World.cell?_setCells_in g [u] (o + j) _ h3 0 (by simp)
    rw [Nat.add_zero] at this
    exact this
  · rw [World.cell?_setCells_out g _ _ _ _ (fun _ _ => by right; show o + i + 1 ≤ o + j; omega)]
    obtain ⟨hlt, he⟩ := List.getElem?_eq_some_iff.1 hb
    have := World.cell?_setCells_in g (cs.drop i) (o + (i + 1)) w h1 (j - (i + 1)) hlt
    rw [he, show o + (i + 1) + (j - (i + 1)) = o + j by omega] at this
    exact this
theorem ins_grow {w : World} {g c i : Nat} {cs : List Value} {v : Value} (hi : i ≤ cs.length) (hc : cs.length + 1 ≤ c) (hsp : ∀ j, j < c → (w.cell? ⟨g, j, none⟩).isSome = true) (hcs : ∀ j u, j < i → cs[j]? = some u → w.cell? ⟨g, j, none⟩ = some u) :
    (∀ j, j < c → (((w.setCells g i [v]).setCells g (i + 1) (cs.drop i)).cell? ⟨g, j, none⟩).isSome = true) ∧ ∀ j u, (cs.take i ++ v :: cs.drop i)[j]? = some u → ((w.setCells g i [v]).setCells g (i + 1) (cs.drop i)).cell? ⟨g, j, none⟩ = some u := by
  have hdl : (cs.drop i).length = cs.length - i := List.length_drop
  have h1 : ∀ j, j < [v].length → (w.cell? ⟨g, i + j, none⟩).isSome = true := fun j hj => by
    simp only [List.length_cons, List.length_nil] at hj
    exact hsp _ (by omega)
  have h2 : ∀ j, j < c → ((w.setCells g i [v]).cell? ⟨g, j, none⟩).isSome = true := fun j hj => isSome_setCells g _ _ w h1 _ (hsp j hj)
  have h3 : ∀ j, j < (cs.drop i).length → ((w.setCells g i [v]).cell? ⟨g, i + 1 + j, none⟩).isSome = true := fun j hj => h2 _ (by omega)
  refine ⟨fun j hj => isSome_setCells g _ _ _ h3 _ (h2 j hj), fun j u hu => ?_⟩
  rcases ins_at cs v i hi j u hu with ⟨ha, hb⟩ | ⟨rfl, rfl⟩ | ⟨ha, _, hb⟩
  · rw [World.cell?_setCells_out g _ _ _ _ (fun _ _ => by left; show j < i + 1; omega), World.cell?_setCells_out g _ _ _ _ (fun _ _ => by left; show j < i; omega)]
    exact hcs j u ha hb
  · rw [World.cell?_setCells_out g _ _ _ _ (fun _ _ => by left; show j < j + 1; omega)]
    have := World.cell?_setCells_in g [u] j w h1 0 (by simp)
    rw [Nat.add_zero] at this
    exact this
  · obtain ⟨hlt, he⟩ := List.getElem?_eq_some_iff.1 hb
    have := World.cell?_setCells_in g (cs.drop i) (i + 1) _ h3 (j - (i + 1)) hlt
    rw [he, show i + 1 + (j - (i + 1)) = j by omega] at this
    exact this
def tkV (T : List Nat) : List Value := T.map (fun (t : Nat) => Value.int .i64 (t : Int))
theorem tkV_ins (T : List Nat) (x i : Nat) : tkV (T.take i ++ x :: T.drop i) = (tkV T).take i ++ Value.int .i64 (x : Int) :: (tkV T).drop i := by
  unfold tkV
  rw [List.map_append, List.map_cons, List.map_take, List.map_drop]
theorem tkV_at {T : List Nat} {w : World} {g o : Nat} (h : ∀ j u, (tkV T)[j]? = some u → w.cell? ⟨g, o + j, none⟩ = some u) : ∀ j (t : Nat), T[j]? = some t → w.cell? ⟨g, o + j, none⟩ = some (.int .i64 (t : Nat)) :=
  fun j t ht => h j _ (by unfold tkV; rw [List.getElem?_map, ht]; rfl)
theorem tkV_of {T : List Nat} {w : World} {g o : Nat} (h : ∀ j (t : Nat), T[j]? = some t → w.cell? ⟨g, o + j, none⟩ = some (.int .i64 (t : Nat))) : ∀ j u, (tkV T)[j]? = some u → w.cell? ⟨g, o + j, none⟩ = some u := fun j u hu => by
  unfold tkV at hu
  rw [List.getElem?_map] at hu
  cases e : T[j]? with
  | none => rw [e] at hu; cases hu
  | some t => rw [e] at hu; cases hu; exact h j t e
theorem tkV_one (T : List Nat) : ∀ v ∈ tkV T, v.oneCell' = true := fun v hv => by
  unfold tkV at hv
  rw [List.mem_map] at hv
  obtain ⟨t, _, rfl⟩ := hv
  rfl
theorem tkV_len (T : List Nat) : (tkV T).length = T.length := List.length_map _
/-- slices.Insert(ticks, i, x). -/
theorem tk_insert (w : World) (q0 : Nat) (A : Option Addr) (c : Nat) (T : List Nat) (h : TkR w q0 A c T) (x i vb : Nat) (hi : i ≤ T.length) (hv : w.cell? ⟨vb, 0, none⟩ = some (.int .i64 (x : Nat))) (hvz : Fz w vb) (hne : ∀ a, A = some a → vb ≠ a.block) (hq : q0 ≤ w.heap.size) (hT : T.length ≤ 100000) :
    Calls Tryz.prog 135 #[.slice A T.length c, .int .i64 i, .slice (some ⟨vb, 0, none⟩) (1 : Nat) 1] w fun e w' => ∃ A' c', e = .returned (.slice A' (T.length + 1) c') ∧ TkR w' q0 A' c' (T.take i ++ x :: T.drop i) ∧ w.grownBy w' (A.map (·.block)) ∧ ∀ a', A' = some a' → (∃ a, A = some a ∧ a.block = a'.block) ∨ w.heap.size ≤ a'.block := by
  have hcl := tkV_len T
  have h1v : ∀ v ∈ ([.int .i64 (x : Int)] : List Value), v.oneCell' = true := by intro u hu; simp at hu; subst hu; rfl
  have hvs : ∀ j u, ([.int .i64 (x : Int)] : List Value)[j]? = some u → w.cell? ⟨vb, 0 + j, none⟩ = some u := fun j u hu => by
    have : j < 1 := (List.getElem?_eq_some_iff.1 hu).1
    obtain rfl : j = 0 := by omega
    cases hu
    exact hv
  have hle := h.le
  have hcm := h.cm
  have hlen : (T.take i ++ x :: T.drop i).length = T.length + 1 := by rw [List.length_append, List.length_take, List.length_cons, List.length_drop]; omega
  obtain ⟨tA, kA, hsa, hkA, _⟩ := World.shape?_of_cell? hv
  by_cases hin : i < T.length
  · rcases h.form with h1 | ⟨g, o, rfl, h1, h2, h3, h4, h5⟩
    · omega
    · have hcs := tkV_of h5
      have hvg : vb ≠ g := hne _ rfl
      have h40 := h4 0 (by omega)
      obtain ⟨u0, hu0⟩ := Option.isSome_iff_exists.1 h40
      obtain ⟨tB, kB, hsb, hkB, _⟩ := World.shape?_of_cell? hu0
      by_cases hroom : T.length + 1 ≤ c
      · refine (Any2.slices_Insert_int_shift Tryz.lays2_21 g o T.length c i vb 0 1 1 (tkV T) [.int .i64 (x : Int)] w hin (by omega) hroom (by unfold maxLen at hcm; omega) hvg hcl rfl hcs (fun j hj => h4 j (by omega)) (fun j _ => h3 _) hvs (tkV_one T) h1v tA tB kA kB hsa hsb (by dsimp only at hkB; omega) (hvz _) (hvz _)).mono ?_
        rintro e w' ⟨rfl, rfl⟩
        have hr := ins_shift (w := w.drew) (g := g) (o := o) (c := c) (v := .int .i64 (x : Int)) (i := i) (cs := tkV T) (by omega) (by omega) h4 hcs
        have gr : w.grownBy ((w.drew.setCells g (o + (i + 1)) ((tkV T).drop i)).setCells g (o + i) [.int .i64 (x : Int)]) (some g) := by
          have G := (setCells_grown g ((tkV T).drop i) (o + (i + 1)) w.drew).trans (setCells_grown g [.int .i64 (x : Int)] (o + i) _)
          exact ⟨G.os, G.tape, G.output, G.size, G.block⟩
        refine ⟨some ⟨g, o, none⟩, c, rfl, ⟨by omega, hcm, .inr ⟨g, o, rfl, h1, Nat.lt_of_lt_of_le h2 gr.size, fun j => ?_, hr.1, tkV_at (by rw [tkV_ins]; exact hr.2)⟩⟩, gr, fun a' ha => .inl ⟨_, rfl, by cases ha; rfl⟩⟩
        rw [World.frozen?_setCells, World.frozen?_setCells]
        exact h3 j
      · refine (Any2.slices_Insert_int_grow Tryz.lays2_21 g o T.length c i vb 0 1 1 (tkV T) [.int .i64 (x : Int)] w hin (by omega) hle (by omega) (by omega) hcl rfl hcs hvs (tkV_one T) h1v).mono ?_
        rintro e w' ⟨rfl, rfl⟩
        obtain ⟨G, hG⟩ : ∃ G, G = grownCap w (T.length + 1) c 3 := ⟨_, rfl⟩
        have hGn : T.length + 1 ≤ G := by rw [hG]; exact grownCap_ge w _ _ _
        have hGm : G ≤ maxLen := by rw [hG]; exact grownCap_le_maxLen w (T.length + 1) c 3 (by unfold maxLen; omega)
        have hG2 : grownCap w (T.length + 1) c (Tryz.lays2_21_ren.t 3) = G := hG.symm
        rw [hG2]
        obtain ⟨ROW, hROW⟩ : ∃ ROW : Array Value, ROW = ((tkV T).take i).toArray ++ Builtin.zeroCells (Value.int .i64 0).cells (T.length + 1 - i) ++ Builtin.zeroCells (Value.int .i64 0).cells (G - (T.length + 1)) := ⟨_, rfl⟩
        rw [← hROW]
        have e1 : ((tkV T).take i).length = i := by rw [List.length_take, hcl]; omega
        have e2 : ∀ k, (Builtin.zeroCells (Value.int .i64 0).cells k).size = k := fun k => by simp [Builtin.zeroCells, Value.cells]
        have hRs : ROW.size = G := by
          rw [hROW, Array.size_append, Array.size_append, List.size_toArray, e1, e2, e2]
          omega
        have hR1 : ∀ j u, j < i → (tkV T)[j]? = some u → ROW[j]? = some u := fun j u hj hu => by
          rw [hROW, Array.append_assoc, Array.getElem?_append_left (by rw [List.size_toArray, e1]; exact hj), List.getElem?_toArray, List.getElem?_take_of_lt hj]
          exact hu
        have hr := ins_grow (w := ((w.alloc (.cells ROW (Tryz.lays2_21_ren.t 3))).drew).drew) (g := w.heap.size) (c := G) (v := .int .i64 (x : Int)) (i := i) (cs := tkV T) (by omega) (by omega) (fun j hj => by
            show ((w.alloc (.cells ROW (Tryz.lays2_21_ren.t 3))).cell? ⟨w.heap.size, j, none⟩).isSome = true
            rw [World.cell?_alloc_new]
            show (ROW[j]?).isSome = true
            rw [Array.getElem?_eq_getElem (by omega)]; rfl) (fun j u hj hu => by
            show (w.alloc (.cells ROW (Tryz.lays2_21_ren.t 3))).cell? ⟨w.heap.size, j, none⟩ = some u
            rw [World.cell?_alloc_new]
            exact hR1 j u hj hu)
        rw [drew_setCells]
        have gr : w.grownBy (((((w.alloc (.cells ROW (Tryz.lays2_21_ren.t 3))).drew).drew).setCells w.heap.size i [.int .i64 (x : Int)]).setCells w.heap.size (i + 1) ((tkV T).drop i)) (some w.heap.size) := by
          have G0 := (setCells_grown w.heap.size [.int .i64 (x : Int)] i ((w.alloc (.cells ROW (Tryz.lays2_21_ren.t 3))).drew).drew).trans (setCells_grown w.heap.size ((tkV T).drop i) (i + 1) _)
          have B0 := ((Below.refl w.heap.size w).alloc (Nat.le_refl _) (.cells ROW (Tryz.lays2_21_ren.t 3))).drew.drew
          exact (grown_of (some w.heap.size) B0).trans G0
        refine ⟨some ⟨w.heap.size, 0, none⟩, G, rfl, ⟨by omega, hGm, .inr ⟨w.heap.size, 0, rfl, hq, ?_, fun j => ?_, fun j hj => by rw [Nat.zero_add]; exact hr.1 j hj, tkV_at (fun j u hu => by rw [Nat.zero_add]; rw [tkV_ins] at hu; exact hr.2 j u hu)⟩⟩, ⟨gr.os, gr.tape, gr.output, gr.size, fun k hk _ => gr.block k hk (by simp; omega)⟩, fun a' ha => .inr (by cases ha; exact Nat.le_refl _)⟩
        · have := (setCells_grown w.heap.size [.int .i64 (x : Int)] i ((w.alloc (.cells ROW (Tryz.lays2_21_ren.t 3))).drew).drew).trans (setCells_grown w.heap.size ((tkV T).drop i) (i + 1) _)
          have := this.size
          simp at this ⊢
          omega
        · rw [World.frozen?_setCells, World.frozen?_setCells]
          simp [go_sem]
  · obtain rfl : i = T.length := by omega
    rw [List.take_length, List.drop_length]
    by_cases hroom : T.length + 1 ≤ c
    · rcases h.form with h1 | ⟨g, o, rfl, h1, h2, h3, h4, h5⟩
      · omega
      · refine (Any2.slices_Insert_int_end_room Tryz.lays2_21 g o T.length c vb 0 1 1 [.int .i64 (x : Int)] w (by omega) hroom (by unfold maxLen at hcm; omega) rfl (fun j hj => by rw [Nat.add_assoc]; exact h4 _ (by omega)) (fun j _ => h3 _) hvs h1v).mono ?_
        rintro e w' ⟨rfl, rfl⟩
        have gr := setCells_grown g [.int .i64 (x : Int)] (o + T.length) w
        have h6 : ∀ j, j < [Value.int .i64 (x : Int)].length → (w.cell? ⟨g, o + T.length + j, none⟩).isSome = true := fun j hj => by
          simp only [List.length_cons, List.length_nil] at hj
          rw [Nat.add_assoc]; exact h4 _ (by omega)
        refine ⟨some ⟨g, o, none⟩, c, rfl, ⟨by simp; omega, hcm, .inr ⟨g, o, rfl, h1, Nat.lt_of_lt_of_le h2 gr.size, fun j => (World.frozen?_setCells _ _ _ _ _).trans (h3 j), fun j hj => isSome_setCells g _ _ _ h6 _ (h4 j hj), fun j t ht => ?_⟩⟩, gr, fun a' ha => .inl ⟨_, rfl, by cases ha; rfl⟩⟩
        by_cases hj : j < T.length
        · rw [List.getElem?_append_left hj] at ht
          rw [World.cell?_setCells_out g _ _ _ _ (fun _ _ => by left; show o + j < o + T.length; omega)]
          exact h5 j t ht
        · rw [List.getElem?_append_right (by omega)] at ht
          obtain ⟨hlt, he⟩ := List.getElem?_eq_some_iff.1 ht
          simp only [List.length_cons, List.length_nil] at hlt
          obtain rfl : j = T.length := by omega
          simp only [Nat.sub_self, List.getElem?_cons_zero, Option.some.injEq] at ht
          subst ht
          have := World.cell?_setCells_in g [Value.int .i64 (x : Int)] (o + T.length) w h6 0 (by simp)
          rw [Nat.add_zero] at this
          exact this
    · have hcs : ∀ a, A = some a → ∀ j v, (tkV T)[j]? = some v → w.cell? (a.add j) = some v := fun a ha j v hj => by
        rcases h.form with h1 | ⟨g, o, e, h1, h2, h3, h4, h5⟩
        · rw [h1.1] at ha; cases ha
        · rw [e] at ha; cases ha
          rw [Addr.add_lit]
          exact tkV_of h5 j v hj
      refine (Any2.slices_Insert_int_end_grow Tryz.lays2_21 A T.length c vb 0 1 1 (tkV T) [.int .i64 (x : Int)] w (by omega) hle (by omega) (by omega) hcl rfl (fun hA => by
        rcases h.form with h1 | ⟨g, o, e, _⟩
        · omega
        · rw [hA] at e; cases e) hcs hvs h1v).mono ?_
      rintro e w' ⟨rfl, rfl⟩
      obtain ⟨G, hG⟩ : ∃ G, G = grownCap w (T.length + 1) c 3 := ⟨_, rfl⟩
      have hGn : T.length + 1 ≤ G := by rw [hG]; exact grownCap_ge w _ _ _
      have hGm : G ≤ maxLen := by rw [hG]; exact grownCap_le_maxLen w (T.length + 1) c 3 (by unfold maxLen; omega)
      have hG2 : grownCap w (T.length + 1) c (Tryz.lays2_21_ren.t 3) = G := hG.symm
      rw [hG2]
      obtain ⟨ROW, hROW⟩ : ∃ ROW : Array Value, ROW = (tkV T ++ [Value.int .i64 (x : Int)]).toArray ++ Builtin.zeroCells (Value.int .i64 0).cells (G - (T.length + 1)) := ⟨_, rfl⟩
      rw [← hROW]
      have e1 : (tkV T ++ [Value.int .i64 (x : Int)]).length = T.length + 1 := by rw [List.length_append, hcl]; rfl
      have e2 : ∀ k, (Builtin.zeroCells (Value.int .i64 0).cells k).size = k := fun k => by simp [Builtin.zeroCells, Value.cells]
      have hRs : ROW.size = G := by
        rw [hROW, Array.size_append, List.size_toArray, e1, e2]
        omega
      have hR1 : ∀ j u, (tkV T ++ [Value.int .i64 (x : Int)])[j]? = some u → ROW[j]? = some u := fun j u hu => by
        have hj := (List.getElem?_eq_some_iff.1 hu).1
        rw [hROW, Array.getElem?_append_left (by rw [List.size_toArray]; exact hj), List.getElem?_toArray]
        exact hu
      have BB := (Below.refl w.heap.size w).drew.alloc (Nat.le_refl _) (.cells ROW (Tryz.lays2_21_ren.t 3))
      refine ⟨some ⟨w.heap.size, 0, none⟩, G, rfl, ⟨by simp; omega, hGm, .inr ⟨w.heap.size, 0, rfl, hq, by simp, fun j => by simp [go_sem], fun j hj => ?_, fun j t ht => ?_⟩⟩, grown_of _ BB, fun a' ha => .inr (by cases ha; exact Nat.le_refl _)⟩
      · rw [Nat.zero_add]
        show ((w.drew.alloc (.cells ROW (Tryz.lays2_21_ren.t 3))).cell? ⟨w.drew.heap.size, j, none⟩).isSome = true
        rw [World.cell?_alloc_new]
        show (ROW[j]?).isSome = true
        rw [Array.getElem?_eq_getElem (by omega)]; rfl
      · rw [Nat.zero_add]
        show (w.drew.alloc (.cells ROW (Tryz.lays2_21_ren.t 3))).cell? ⟨w.drew.heap.size, j, none⟩ = _
        rw [World.cell?_alloc_new]
        exact hR1 j _ (by
          have : (tkV (T ++ [x]))[j]? = some (Value.int .i64 ((t : Nat) : Int)) := by unfold tkV; rw [List.getElem?_map, ht]; rfl
          unfold tkV at this ⊢
          rw [List.map_append] at this
          exact this)
end Go.Proofs.YthhfndifcdiomaaGreat
