/-
  Plain law of lines: the search over free cells, and the way back.
  Conditions: none; plain law.
-/
import Derived.Test.YtgkgklgeobbmlaaCells
import Derived.Test.YtgkgklgeobbmlaaData
namespace Go.Proofs.Ytgkgklgeobbmlaa
open Go.RowKit
set_option linter.unusedSimpArgs false
set_option linter.unusedVariables false

abbrev DstT := Int → Int → Int
abbrev BfsT := List Ce × DstT
def updD (D : DstT) (x y v : Int) : DstT := fun a b => if a = x ∧ b = y then v else D a b
theorem updD_at (D : DstT) (x y v : Int) : updD D x y v x y = v := if_pos ⟨rfl, rfl⟩
theorem updD_ne {D : DstT} {x y v a b : Int} (h : ¬ (a = x ∧ b = y)) : updD D x y v a b = D a b := if_neg h
/-- One side of a cell of the queue. -/
def sideQ (F : Int → Int → Bool) (c : Ce) (s : Int) (st : BfsT) : BfsT :=
  if F (nx c.x s) (ny c.y s) = true ∧ st.2 (nx c.x s) (ny c.y s) < 0 then (st.1 ++ [⟨nx c.x s, ny c.y s⟩], updD st.2 (nx c.x s) (ny c.y s) (st.2 c.x c.y + 1)) else st
def sidesQ (F : Int → Int → Bool) (c : Ce) : Nat → BfsT → BfsT
  | 0, st => st
  | k + 1, st => sideQ F c (k : Int) (sidesQ F c k st)
def startQ (c : Ce) : BfsT := ([c], updD (fun _ _ => -1) c.x c.y 0)
def bfsQ (F : Int → Int → Bool) (c : Ce) : Nat → BfsT
  | 0 => startQ c
  | k + 1 => match (bfsQ F c k).1[k]? with
    | some e => sidesQ F e 4 (bfsQ F c k)
    | none => bfsQ F c k
/-- What holds all the while. -/
structure BfsOk (F : Int → Int → Bool) (c : Ce) (st : BfsT) : Prop where
  nd : st.1.Nodup
  fr : ∀ e ∈ st.1, F e.x e.y = true
  dom : ∀ x y, 0 ≤ st.2 x y ↔ (⟨x, y⟩ : Ce) ∈ st.1
  neg : ∀ x y, -1 ≤ st.2 x y
  zero : ∀ x y, st.2 x y = 0 ↔ (x = c.x ∧ y = c.y)
  par : ∀ x y, 0 < st.2 x y → ∃ s : Nat, s < 4 ∧ st.2 (nx x s) (ny y s) = st.2 x y - 1
  lt : ∀ x y, st.2 x y < st.1.length
theorem start_ok {F : Int → Int → Bool} {c : Ce} (hF : F c.x c.y = true) : BfsOk F c (startQ c) := by
  have hd : ∀ x y, (startQ c).2 x y = if x = c.x ∧ y = c.y then 0 else -1 := fun x y => rfl
  refine ⟨by simp [startQ], fun e he => ?_, fun x y => ?_, fun x y => ?_, fun x y => ?_, fun x y h => ?_, fun x y => ?_⟩
  · simp only [startQ, List.mem_singleton] at he
    rw [he]; exact hF
  · rw [hd]
    simp only [startQ, List.mem_singleton]
    constructor
    · intro h
      split at h
      · rename_i e; rw [Ce.mk.injEq]; exact e
      · omega
    · intro h
      rw [Ce.mk.injEq] at h
      rw [if_pos h]
      omega
  · rw [hd]; split <;> omega
  · rw [hd]; split
    · rename_i e; simp [e]
    · rename_i e; simp [e]
  · rw [hd] at h; split at h <;> omega
  · rw [hd]; simp only [startQ, List.length_singleton]; split <;> omega
/-- The side from which a side is seen. -/
theorem nx_back (x : Int) (s : Nat) (hs : s < 4) : nx (nx x s) (((s + 2) % 4 : Nat) : Int) = x := by
  have : s = 0 ∨ s = 1 ∨ s = 2 ∨ s = 3 := by omega
  rcases this with rfl | rfl | rfl | rfl <;> simp [nx] <;> omega
theorem ny_back (y : Int) (s : Nat) (hs : s < 4) : ny (ny y s) (((s + 2) % 4 : Nat) : Int) = y := by
  have : s = 0 ∨ s = 1 ∨ s = 2 ∨ s = 3 := by omega
  rcases this with rfl | rfl | rfl | rfl <;> simp [ny] <;> omega
theorem side_ok {F : Int → Int → Bool} {c e : Ce} {st : BfsT} (h : BfsOk F c st) (he : e ∈ st.1) {s : Nat} (hs : s < 4) : BfsOk F c (sideQ F e (s : Int) st) := by
  unfold sideQ
  split
  · rename_i hc
    obtain ⟨hf, hneg⟩ := hc
    obtain ⟨X, hX⟩ : ∃ X, nx e.x (s : Int) = X := ⟨_, rfl⟩
    obtain ⟨Y, hY⟩ : ∃ Y, ny e.y (s : Int) = Y := ⟨_, rfl⟩
    have hbx := nx_back e.x s hs
    have hby := ny_back e.y s hs
    rw [hX] at hf hneg hbx ⊢
    rw [hY] at hf hneg hby ⊢
    have hed : 0 ≤ st.2 e.x e.y := (h.dom e.x e.y).2 he
    have hne : ¬ (e.x = X ∧ e.y = Y) := fun ⟨a, b⟩ => by rw [a, b] at hed; omega
    have hnew : (⟨X, Y⟩ : Ce) ∉ st.1 := fun hm => by have := (h.dom X Y).2 hm; omega
    have hup : ∀ a b, ¬ (a = X ∧ b = Y) → updD st.2 X Y (st.2 e.x e.y + 1) a b = st.2 a b := fun a b hab => updD_ne hab
    have hat : updD st.2 X Y (st.2 e.x e.y + 1) X Y = st.2 e.x e.y + 1 := updD_at _ _ _ _
    refine ⟨?_, fun p hp => ?_, fun x y => ?_, fun x y => ?_, fun x y => ?_, fun x y hp => ?_, fun x y => ?_⟩
    · rw [List.nodup_append]
      refine ⟨h.nd, by simp, fun a ha b hb => ?_⟩
      rw [List.mem_singleton] at hb
      subst hb
      exact fun e => hnew (e ▸ ha)
    · rcases List.mem_append.1 hp with hp | hp
      · exact h.fr p hp
      · rw [List.mem_singleton] at hp
        rw [hp]; exact hf
    · show 0 ≤ updD st.2 X Y (st.2 e.x e.y + 1) x y ↔ _
      rw [List.mem_append, List.mem_singleton, Ce.mk.injEq]
      by_cases hxy : x = X ∧ y = Y
      · obtain ⟨rfl, rfl⟩ := hxy
        rw [hat]
        exact ⟨fun _ => .inr ⟨rfl, rfl⟩, fun _ => by omega⟩
      · rw [hup x y hxy, h.dom x y]
        exact ⟨.inl, fun hh => hh.elim id (fun hh => absurd hh hxy)⟩
    · show -1 ≤ updD st.2 X Y (st.2 e.x e.y + 1) x y
      by_cases hxy : x = X ∧ y = Y
      · obtain ⟨rfl, rfl⟩ := hxy
        rw [hat]; omega
      · rw [hup x y hxy]; exact h.neg x y
    · show updD st.2 X Y (st.2 e.x e.y + 1) x y = 0 ↔ _
      by_cases hxy : x = X ∧ y = Y
      · obtain ⟨rfl, rfl⟩ := hxy
        rw [hat]
        constructor
        · intro hh; omega
        · intro hh
          have := (h.zero x y).2 hh
          omega
      · rw [hup x y hxy]; exact h.zero x y
    · have hp' : 0 < updD st.2 X Y (st.2 e.x e.y + 1) x y := hp
      show ∃ t : Nat, t < 4 ∧ updD st.2 X Y (st.2 e.x e.y + 1) (nx x t) (ny y t) = updD st.2 X Y (st.2 e.x e.y + 1) x y - 1
      by_cases hxy : x = X ∧ y = Y
      · obtain ⟨rfl, rfl⟩ := hxy
        refine ⟨(s + 2) % 4, by omega, ?_⟩
        rw [hbx, hby, hat, hup _ _ hne]
        omega
      · rw [hup x y hxy] at hp' ⊢
        obtain ⟨t, ht, hv⟩ := h.par x y hp'
        refine ⟨t, ht, ?_⟩
        by_cases hxt : nx x t = X ∧ ny y t = Y
        · rw [hxt.1, hxt.2] at hv
          omega
        · rw [hup _ _ hxt]; exact hv
    · show updD st.2 X Y (st.2 e.x e.y + 1) x y < (((st.1 ++ [(⟨X, Y⟩ : Ce)]).length : Nat) : Int)
      rw [List.length_append, List.length_singleton]
      have h1 := h.lt e.x e.y
      have h2 := h.lt x y
      by_cases hxy : x = X ∧ y = Y
      · obtain ⟨rfl, rfl⟩ := hxy
        rw [hat]; omega
      · rw [hup x y hxy]; omega
  · exact h
theorem side_pre {F : Int → Int → Bool} {e : Ce} {s : Int} {st : BfsT} : ∃ l, (sideQ F e s st).1 = st.1 ++ l := by
  unfold sideQ
  split
  · exact ⟨_, rfl⟩
  · exact ⟨[], by simp⟩
theorem sides_pre {F : Int → Int → Bool} {e : Ce} {st : BfsT} : ∀ k, ∃ l, (sidesQ F e k st).1 = st.1 ++ l
  | 0 => ⟨[], by simp [sidesQ]⟩
  | k + 1 => by
    obtain ⟨l, hl⟩ := sides_pre (F := F) (e := e) (st := st) k
    obtain ⟨m, hm⟩ := side_pre (F := F) (e := e) (s := (k : Int)) (st := sidesQ F e k st)
    exact ⟨l ++ m, by unfold sidesQ; rw [hm, hl, List.append_assoc]⟩
theorem sides_ok {F : Int → Int → Bool} {c e : Ce} {st : BfsT} (h : BfsOk F c st) (he : e ∈ st.1) : ∀ k, k ≤ 4 → BfsOk F c (sidesQ F e k st)
  | 0, _ => h
  | k + 1, hk => by
    obtain ⟨l, hl⟩ := sides_pre (F := F) (e := e) (st := st) k
    exact side_ok (sides_ok h he k (by omega)) (by rw [hl]; exact List.mem_append_left _ he) (by omega)
theorem bfs_ok {F : Int → Int → Bool} {c : Ce} (hF : F c.x c.y = true) : ∀ k, BfsOk F c (bfsQ F c k)
  | 0 => start_ok hF
  | k + 1 => by
    unfold bfsQ
    split
    · rename_i e he
      exact sides_ok (bfs_ok hF k) (List.mem_of_getElem? he) 4 (Nat.le_refl _)
    · exact bfs_ok hF k
theorem bfs_stay {F : Int → Int → Bool} {c : Ce} {k : Nat} (h : (bfsQ F c k).1.length ≤ k) : ∀ m, k ≤ m → bfsQ F c m = bfsQ F c k
  | 0, hm => by rw [show k = 0 by omega]
  | m + 1, hm => by
    by_cases e : k = m + 1
    · rw [e]
    · have ih := bfs_stay h m (by omega)
      have hn : (bfsQ F c m).1[m]? = none := by rw [ih]; exact List.getElem?_eq_none (by omega)
      show (match (bfsQ F c m).1[m]? with | some e => sidesQ F e 4 (bfsQ F c m) | none => bfsQ F c m) = _
      rw [hn]
      exact ih
/-- Not more cells than the board has. -/
theorem nodup_board {wi hi : Nat} {l : List Ce} (hn : l.Nodup) (h : ∀ e ∈ l, (0 ≤ e.x ∧ e.x < wi) ∧ (0 ≤ e.y ∧ e.y < hi)) : l.length ≤ wi * hi := by
  have hm : (l.map (fun (e : Ce) => (e.y * (wi : Int) + e.x).toNat)).Nodup := by
    rw [List.Nodup, List.pairwise_map]
    refine hn.imp_of_mem (fun {a b} ha hb hab he => hab ?_)
    have h1 := h a ha
    have h2 := h b hb
    have p1 : 0 ≤ a.y * (wi : Int) := Int.mul_nonneg h1.2.1 (by omega)
    have p2 : 0 ≤ b.y * (wi : Int) := Int.mul_nonneg h2.2.1 (by omega)
    have e1 : a.y * wi + a.x = b.y * wi + b.x := by omega
    have ey : a.y = b.y := by
      have d1 : (a.y * wi + a.x) / wi = a.y := by rw [Int.add_comm, Int.add_mul_ediv_right _ _ (by omega), Int.ediv_eq_zero_of_lt h1.1.1 h1.1.2]; omega
      have d2 : (b.y * wi + b.x) / wi = b.y := by rw [Int.add_comm, Int.add_mul_ediv_right _ _ (by omega), Int.ediv_eq_zero_of_lt h2.1.1 h2.1.2]; omega
      rw [← d1, ← d2, e1]
    have ex : a.x = b.x := by rw [ey] at e1; omega
    cases a; cases b; simp_all
  have := hm.length_le_of_subset (l₂ := List.range (wi * hi)) (fun x hx => by
    obtain ⟨e, he, rfl⟩ := List.mem_map.1 hx
    have h1 := h e he
    have p1 : 0 ≤ e.y * (wi : Int) := Int.mul_nonneg h1.2.1 (by omega)
    have p2 : (e.y + 1) * (wi : Int) ≤ (hi : Int) * (wi : Int) := Int.mul_le_mul_of_nonneg_right (by omega) (by omega)
    rw [Int.add_mul, Int.one_mul] at p2
    have p3 : ((wi * hi : Nat) : Int) = (hi : Int) * (wi : Int) := by rw [Int.natCast_mul, Int.mul_comm]
    rw [List.mem_range]
    omega)
  simpa using this
/-- The cell before another one: on the first side on which the distance is right. -/
def backS (D : DstT) (x y d : Int) : Nat → Option Nat
  | 0 => none
  | k + 1 => match backS D x y d k with
    | some s => some s
    | none => if D (nx x (k : Nat)) (ny y (k : Nat)) = d then some k else none
def backC (D : DstT) (c : Ce) (d : Int) : Ce := match backS D c.x c.y d 4 with
  | some s => ⟨nx c.x s, ny c.y s⟩
  | none => c
/-- The cells from one back to the start. -/
def backL (D : DstT) : Nat → Ce → List Ce
  | 0, c => [c]
  | d + 1, c => c :: backL D d (backC D c d)
theorem backS_at {D : DstT} {x y d : Int} : ∀ {k s : Nat}, backS D x y d k = some s → s < k ∧ D (nx x s) (ny y s) = d ∧ ∀ t : Nat, t < s → D (nx x t) (ny y t) ≠ d
  | 0, s, h => by cases h
  | k + 1, s, h => by
    unfold backS at h
    cases hb : backS D x y d k with
    | some t =>
      rw [hb] at h
      injection h with h
      subst h
      obtain ⟨h1, h2, h3⟩ := backS_at hb
      exact ⟨by omega, h2, h3⟩
    | none =>
      rw [hb] at h
      dsimp only at h
      split at h
      · rename_i hd
        injection h with h
        subst h
        exact ⟨by omega, hd, backS_none hb⟩
      · cases h
where backS_none {D : DstT} {x y d : Int} : ∀ {k : Nat}, backS D x y d k = none → ∀ t : Nat, t < k → D (nx x t) (ny y t) ≠ d
  | 0, _, t, ht => absurd ht (by omega)
  | k + 1, h, t, ht => by
    unfold backS at h
    cases hb : backS D x y d k with
    | some s => rw [hb] at h; cases h
    | none =>
      rw [hb] at h
      dsimp only at h
      split at h
      · cases h
      · rename_i hd
        by_cases e : t = k
        · rw [e]; exact hd
        · exact backS_none hb t (by omega)
theorem backS_some {D : DstT} {x y d : Int} : ∀ {k t : Nat}, t < k → D (nx x t) (ny y t) = d → ∃ s, backS D x y d k = some s := by
  intro k t ht hv
  cases h : backS D x y d k with
  | some s => exact ⟨s, rfl⟩
  | none => exact absurd hv (backS_at.backS_none h t ht)
theorem backC_step {F : Int → Int → Bool} {c : Ce} {st : BfsT} (h : BfsOk F c st) {e : Ce} {d : Nat} (hd : st.2 e.x e.y = (d : Int) + 1) :
    ∃ s : Nat, s < 4 ∧ backS st.2 e.x e.y d 4 = some s ∧ backC st.2 e d = ⟨nx e.x s, ny e.y s⟩ ∧ st.2 (backC st.2 e d).x (backC st.2 e d).y = d := by
  obtain ⟨t, ht, hv⟩ := h.par e.x e.y (by omega)
  obtain ⟨s, hs⟩ := backS_some (D := st.2) (x := e.x) (y := e.y) (d := (d : Int)) ht (by omega)
  obtain ⟨h1, h2, _⟩ := backS_at hs
  have hc : backC st.2 e d = ⟨nx e.x s, ny e.y s⟩ := by unfold backC; rw [hs]
  exact ⟨s, h1, hs, hc, by rw [hc]; exact h2⟩
theorem backL_len (D : DstT) : ∀ d e, (backL D d e).length = d + 1
  | 0, _ => rfl
  | d + 1, e => by unfold backL; rw [List.length_cons, backL_len]
theorem backL_at {F : Int → Int → Bool} {c : Ce} {st : BfsT} (h : BfsOk F c st) : ∀ (d : Nat) (e : Ce), st.2 e.x e.y = d → ∀ i, i ≤ d → ∃ p, (backL st.2 d e)[i]? = some p ∧ st.2 p.x p.y = ((d - i : Nat) : Int) ∧ (i < d → ∃ s : Nat, s < 4 ∧ (backL st.2 d e)[i + 1]? = some ⟨nx p.x s, ny p.y s⟩)
  | 0, e, hd, i, hi => by
    obtain rfl : i = 0 := by omega
    exact ⟨e, rfl, hd, fun h => absurd h (by omega)⟩
  | d + 1, e, hd, i, hi => by
    obtain ⟨s, h1, h2, h3, h4⟩ := backC_step h (e := e) (d := d) (by rw [hd]; rfl)
    cases i with
    | zero =>
      refine ⟨e, rfl, hd, fun _ => ⟨s, h1, ?_⟩⟩
      obtain ⟨p, hp, _⟩ := backL_at h d _ h4 0 (Nat.zero_le _)
      have e0 : (backL st.2 d (backC st.2 e d))[0]? = some (backC st.2 e d) := by cases d <;> rfl
      show (e :: backL st.2 d (backC st.2 e d))[0 + 1]? = _
      rw [List.getElem?_cons_succ, e0, h3]
    | succ i =>
      obtain ⟨p, hp, hv, hn⟩ := backL_at h d _ h4 i (by omega)
      refine ⟨p, ?_, by rw [hv, Nat.add_sub_add_right], fun hi2 => ?_⟩
      · show (e :: backL st.2 d (backC st.2 e d))[i + 1]? = _
        rw [List.getElem?_cons_succ]; exact hp
      · obtain ⟨s2, hs2, hq⟩ := hn (Nat.lt_of_succ_lt_succ hi2)
        refine ⟨s2, hs2, ?_⟩
        show (e :: backL st.2 d (backC st.2 e d))[i + 1 + 1]? = _
        rw [List.getElem?_cons_succ]; exact hq
/-- A way from one cell to another one. -/
structure WayOk (F : Int → Int → Bool) (D : DstT) (c e : Ce) (d : Nat) (P : List Ce) : Prop where
  len : P.length = d + 1
  at_ : ∀ (i : Nat) (p : Ce), P[i]? = some p → D p.x p.y = (i : Int)
  fr : ∀ p ∈ P, F p.x p.y = true
  head : P[0]? = some c
  last : P[d]? = some e
  step : ∀ (i : Nat) (p q : Ce), P[i]? = some p → P[i + 1]? = some q → ∃ s : Nat, s < 4 ∧ p = ⟨nx q.x s, ny q.y s⟩
theorem way_ok {F : Int → Int → Bool} {c : Ce} {st : BfsT} (h : BfsOk F c st) {e : Ce} {d : Nat} (hd : st.2 e.x e.y = d) : WayOk F st.2 c e d (backL st.2 d e).reverse := by
  have hl := backL_len st.2 d e
  have hB := backL_at h d e hd
  have hr : ∀ i, i ≤ d → (backL st.2 d e).reverse[i]? = (backL st.2 d e)[d - i]? := fun i hi => by
    rw [List.getElem?_reverse (by omega), hl]
    congr 1
  have hat : ∀ i p, (backL st.2 d e).reverse[i]? = some p → i ≤ d ∧ st.2 p.x p.y = (i : Int) := fun i p hp => by
    have hi : i < d + 1 := by have := (List.getElem?_eq_some_iff.1 hp).1; rwa [List.length_reverse, hl] at this
    rw [hr i (by omega)] at hp
    obtain ⟨q, hq, hv, _⟩ := hB (d - i) (by omega)
    rw [hp] at hq
    injection hq with hq
    subst hq
    have hid : i ≤ d := Nat.lt_succ_iff.1 hi
    exact ⟨hid, by rw [hv, Nat.sub_sub_self hid]⟩
  refine ⟨by rw [List.length_reverse, hl], fun i p hp => (hat i p hp).2, fun p hp => ?_, ?_, ?_, fun i p q hp hq => ?_⟩
  · obtain ⟨i, hi⟩ := List.mem_iff_getElem?.1 hp
    have h1 := (hat i p hi).2
    exact h.fr ⟨p.x, p.y⟩ ((h.dom p.x p.y).1 (by omega))
  · obtain ⟨p, hp, hv, _⟩ := hB d (Nat.le_refl _)
    rw [hr 0 (Nat.zero_le _), Nat.sub_zero, hp]
    rw [Nat.sub_self] at hv
    have h1 := (h.zero p.x p.y).1 hv
    congr 1
    cases p; cases c
    simp_all
  · rw [hr d (Nat.le_refl _), Nat.sub_self]
    cases d <;> rfl
  · have h1 := hat (i + 1) q hq
    rw [hr i (by omega)] at hp
    rw [hr (i + 1) h1.1] at hq
    obtain ⟨q', hq', _, hn⟩ := hB (d - (i + 1)) (by omega)
    rw [hq] at hq'
    injection hq' with hq'
    subst hq'
    obtain ⟨s, hs, he⟩ := hn (by omega)
    rw [show d - (i + 1) + 1 = d - i by omega, hp] at he
    injection he with he
    exact ⟨s, hs, he⟩
theorem WayOk.inj {F : Int → Int → Bool} {D : DstT} {c e : Ce} {d : Nat} {P : List Ce} (h : WayOk F D c e d P) {i j : Nat} {p : Ce} (hi : P[i]? = some p) (hj : P[j]? = some p) : i = j := by
  have h1 := h.at_ i p hi
  have h2 := h.at_ j p hj
  omega
end Go.Proofs.Ytgkgklgeobbmlaa
