/-
  Plain law of lines: the search over free cells, and the way back.
  Plain law of lines: the array of distances, the pieces of a line, what LayLine tells.
  Conditions: none; plain law.
-/
import Derived.Test.YtgkgklgeobbmlaaCells
import Derived.Test.YtgkgklgeobbmlaaData
import Derived.Test.YtgkgklgeobbmlaaHits
import Derived.Test.YtgkgklgeobbmlaaPathC
namespace Go.Proofs.Ytgkgklgeobbmlaa
open Go.RowKit
set_option linter.unusedSimpArgs false
set_option linter.unusedVariables false

abbrev DstT := Int → Int → Int
abbrev BfsT := List Ce × DstT
def updD (D : DstT) (x y v : Int) : DstT := fun a b => if a = x ∧ b = y then v else D a b
theorem updD_at (D : DstT) (x y v : Int) : updD D x y v x y = v := if_pos ⟨rfl, rfl⟩
theorem updD_ne {D : DstT} {x y v a b : Int} (h : ¬ (a = x ∧ b = y)) : updD D x y v a b = D a b := if_neg h
/-- One side of a cell of the queue. -/
def sideQ (F : Int → Int → Bool) (c : Ce) (s : Int) (st : BfsT) : BfsT :=
  if F (nx c.x s) (ny c.y s) = true ∧ st.2 (nx c.x s) (ny c.y s) < 0 then (st.1 ++ [⟨nx c.x s, ny c.y s⟩], updD st.2 (nx c.x s) (ny c.y s) (st.2 c.x c.y + 1)) else st
def sidesQ (F : Int → Int → Bool) (c : Ce) : Nat → BfsT → BfsT
  | 0, st => st
  | k + 1, st => sideQ F c (k : Int) (sidesQ F c k st)
def startQ (c : Ce) : BfsT := ([c], updD (fun _ _ => -1) c.x c.y 0)
def bfsQ (F : Int → Int → Bool) (c : Ce) : Nat → BfsT
  | 0 => startQ c
  | k + 1 => match (bfsQ F c k).1[k]? with
    | some e => sidesQ F e 4 (bfsQ F c k)
    | none => bfsQ F c k
/-- What holds all the while. -/
structure BfsOk (F : Int → Int → Bool) (c : Ce) (st : BfsT) : Prop where
  nd : st.1.Nodup
  fr : ∀ e ∈ st.1, F e.x e.y = true
  dom : ∀ x y, 0 ≤ st.2 x y ↔ (⟨x, y⟩ : Ce) ∈ st.1
  neg : ∀ x y, -1 ≤ st.2 x y
  zero : ∀ x y, st.2 x y = 0 ↔ (x = c.x ∧ y = c.y)
  par : ∀ x y, 0 < st.2 x y → ∃ s : Nat, s < 4 ∧ st.2 (nx x s) (ny y s) = st.2 x y - 1
  lt : ∀ x y, st.2 x y < st.1.length
theorem start_ok {F : Int → Int → Bool} {c : Ce} (hF : F c.x c.y = true) : BfsOk F c (startQ c) := by
  have hd : ∀ x y, (startQ c).2 x y = if x = c.x ∧ y = c.y then 0 else -1 := fun x y => rfl
  refine ⟨by simp [startQ], fun e he => ?_, fun x y => ?_, fun x y => ?_, fun x y => ?_, fun x y h => ?_, fun x y => ?_⟩
  · simp only [startQ, List.mem_singleton] at he
    rw [he]; exact hF
  · rw [hd]
    simp only [startQ, List.mem_singleton]
    constructor
    · intro h
      split at h
      · rename_i e; rw [Ce.mk.injEq]; exact e
      · omega
    · intro h
      rw [Ce.mk.injEq] at h
      rw [if_pos h]
      omega
  · rw [hd]; split <;> omega
  · rw [hd]; split
    · rename_i e; simp [e]
    · rename_i e; simp [e]
  · rw [hd] at h; split at h <;> omega
  · rw [hd]; simp only [startQ, List.length_singleton]; split <;> omega
/-- The side from which a side is seen. -/
theorem nx_back (x : Int) (s : Nat) (hs : s < 4) : nx (nx x s) (((s + 2) % 4 : Nat) : Int) = x := by
  have : s = 0 ∨ s = 1 ∨ s = 2 ∨ s = 3 := by omega
  rcases this with rfl | rfl | rfl | rfl <;> simp [nx] <;> omega
theorem ny_back (y : Int) (s : Nat) (hs : s < 4) : ny (ny y s) (((s + 2) % 4 : Nat) : Int) = y := by
  have : s = 0 ∨ s = 1 ∨ s = 2 ∨ s = 3 := by omega
  rcases this with rfl | rfl | rfl | rfl <;> simp [ny] <;> omega
theorem side_ok {F : Int → Int → Bool} {c e : Ce} {st : BfsT} (h : BfsOk F c st) (he : e ∈ st.1) {s : Nat} (hs : s < 4) : BfsOk F c (sideQ F e (s : Int) st) := by
  unfold sideQ
  split
  · rename_i hc
    obtain ⟨hf, hneg⟩ := hc
    obtain ⟨X, hX⟩ : ∃ X, nx e.x (s : Int) = X := ⟨_, rfl⟩
    obtain ⟨Y, hY⟩ : ∃ Y, ny e.y (s : Int) = Y := ⟨_, rfl⟩
    have hbx := nx_back e.x s hs
    have hby := ny_back e.y s hs
    rw [hX] at hf hneg hbx ⊢
    rw [hY] at hf hneg hby ⊢
    have hed : 0 ≤ st.2 e.x e.y := (h.dom e.x e.y).2 he
    have hne : ¬ (e.x = X ∧ e.y = Y) := fun ⟨a, b⟩ => by rw [a, b] at hed; omega
    have hnew : (⟨X, Y⟩ : Ce) ∉ st.1 := fun hm => by have := (h.dom X Y).2 hm; omega
    have hup : ∀ a b, ¬ (a = X ∧ b = Y) → updD st.2 X Y (st.2 e.x e.y + 1) a b = st.2 a b := fun a b hab => updD_ne hab
    have hat : updD st.2 X Y (st.2 e.x e.y + 1) X Y = st.2 e.x e.y + 1 := updD_at _ _ _ _
    refine ⟨?_, fun p hp => ?_, fun x y => ?_, fun x y => ?_, fun x y => ?_, fun x y hp => ?_, fun x y => ?_⟩
    · rw [List.nodup_append]
      refine ⟨h.nd, by simp, fun a ha b hb => ?_⟩
      rw [List.mem_singleton] at hb
      subst hb
      exact fun e => hnew (e ▸ ha)
    · rcases List.mem_append.1 hp with hp | hp
      · exact h.fr p hp
      · rw [List.mem_singleton] at hp
        rw [hp]; exact hf
    · show 0 ≤ updD st.2 X Y (st.2 e.x e.y + 1) x y ↔ _
      rw [List.mem_append, List.mem_singleton, Ce.mk.injEq]
      by_cases hxy : x = X ∧ y = Y
      · obtain ⟨rfl, rfl⟩ := hxy
        rw [hat]
        exact ⟨fun _ => .inr ⟨rfl, rfl⟩, fun _ => by omega⟩
      · rw [hup x y hxy, h.dom x y]
        exact ⟨.inl, fun hh => hh.elim id (fun hh => absurd hh hxy)⟩
    · show -1 ≤ updD st.2 X Y (st.2 e.x e.y + 1) x y
      by_cases hxy : x = X ∧ y = Y
      · obtain ⟨rfl, rfl⟩ := hxy
        rw [hat]; omega
      · rw [hup x y hxy]; exact h.neg x y
    · show updD st.2 X Y (st.2 e.x e.y + 1) x y = 0 ↔ _
      by_cases hxy : x = X ∧ y = Y
      · obtain ⟨rfl, rfl⟩ := hxy
        rw [hat]
        constructor
        · intro hh; omega
        · intro hh
          have := (h.zero x y).2 hh
          omega
      · rw [hup x y hxy]; exact h.zero x y
    · have hp' : 0 < updD st.2 X Y (st.2 e.x e.y + 1) x y := hp
      show ∃ t : Nat, t < 4 ∧ updD st.2 X Y (st.2 e.x e.y + 1) (nx x t) (ny y t) = updD st.2 X Y (st.2 e.x e.y + 1) x y - 1
      by_cases hxy : x = X ∧ y = Y
      · obtain ⟨rfl, rfl⟩ := hxy
        refine ⟨(s + 2) % 4, by omega, ?_⟩
        rw [hbx, hby, hat, hup _ _ hne]
        omega
      · rw [hup x y hxy] at hp' ⊢
        obtain ⟨t, ht, hv⟩ := h.par x y hp'
        refine ⟨t, ht, ?_⟩
        by_cases hxt : nx x t = X ∧ ny y t = Y
        · rw [hxt.1, hxt.2] at hv
          omega
        · rw [hup _ _ hxt]; exact hv
    · show updD st.2 X Y (st.2 e.x e.y + 1) x y < (((st.1 ++ [(⟨X, Y⟩ : Ce)]).length : Nat) : Int)
      rw [List.length_append, List.length_singleton]
      have h1 := h.lt e.x e.y
      have h2 := h.lt x y
      by_cases hxy : x = X ∧ y = Y
      · obtain ⟨rfl, rfl⟩ := hxy
        rw [hat]; omega
      · rw [hup x y hxy]; omega
  · exact h
theorem side_pre {F : Int → Int → Bool} {e : Ce} {s : Int} {st : BfsT} : ∃ l, (sideQ F e s st).1 = st.1 ++ l := by
  unfold sideQ
  split
  · exact ⟨_, rfl⟩
  · exact ⟨[], by simp⟩
theorem sides_pre {F : Int → Int → Bool} {e : Ce} {st : BfsT} : ∀ k, ∃ l, (sidesQ F e k st).1 = st.1 ++ l
  | 0 => ⟨[], by simp [sidesQ]⟩
  | k + 1 => by
    obtain ⟨l, hl⟩ := sides_pre (F := F) (e := e) (st := st) k
    obtain ⟨m, hm⟩ := side_pre (F := F) (e := e) (s := (k : Int)) (st := sidesQ F e k st)
    exact ⟨l ++ m, by unfold sidesQ; rw [hm, hl, List.append_assoc]⟩
theorem sides_ok {F : Int → Int → Bool} {c e : Ce} {st : BfsT} (h : BfsOk F c st) (he : e ∈ st.1) : ∀ k, k ≤ 4 → BfsOk F c (sidesQ F e k st)
  | 0, _ => h
  | k + 1, hk => by
    obtain ⟨l, hl⟩ := sides_pre (F := F) (e := e) (st := st) k
    exact side_ok (sides_ok h he k (by omega)) (by rw [hl]; exact List.mem_append_left _ he) (by omega)
theorem bfs_ok {F : Int → Int → Bool} {c : Ce} (hF : F c.x c.y = true) : ∀ k, BfsOk F c (bfsQ F c k)
  | 0 => start_ok hF
  | k + 1 => by
    unfold bfsQ
    split
    · rename_i e he
      exact sides_ok (bfs_ok hF k) (List.mem_of_getElem? he) 4 (Nat.le_refl _)
    · exact bfs_ok hF k
theorem bfs_stay {F : Int → Int → Bool} {c : Ce} {k : Nat} (h : (bfsQ F c k).1.length ≤ k) : ∀ m, k ≤ m → bfsQ F c m = bfsQ F c k
  | 0, hm => by rw [show k = 0 by omega]
  | m + 1, hm => by
    by_cases e : k = m + 1
    · rw [e]
    · have ih := bfs_stay h m (by omega)
      have hn : (bfsQ F c m).1[m]? = none := by rw [ih]; exact List.getElem?_eq_none (by omega)
      show (match (bfsQ F c m).1[m]? with | some e => sidesQ F e 4 (bfsQ F c m) | none => bfsQ F c m) = _
      rw [hn]
      exact ih
/-- Not more cells than the board has. -/
theorem nodup_board {wi hi : Nat} {l : List Ce} (hn : l.Nodup) (h : ∀ e ∈ l, (0 ≤ e.x ∧ e.x < wi) ∧ (0 ≤ e.y ∧ e.y < hi)) : l.length ≤ wi * hi := by
  have hm : (l.map (fun (e : Ce) => (e.y * (wi : Int) + e.x).toNat)).Nodup := by
    rw [List.Nodup, List.pairwise_map]
    refine hn.imp_of_mem (fun {a b} ha hb hab he => hab ?_)
    have h1 := h a ha
    have h2 := h b hb
    have p1 : 0 ≤ a.y * (wi : Int) := Int.mul_nonneg h1.2.1 (by omega)
    have p2 : 0 ≤ b.y * (wi : Int) := Int.mul_nonneg h2.2.1 (by omega)
    have e1 : a.y * wi + a.x = b.y * wi + b.x := by omega
    have ey : a.y = b.y := by
      have d1 : (a.y * wi + a.x) / wi = a.y := by rw [Int.add_comm, Int.add_mul_ediv_right _ _ (by omega), Int.ediv_eq_zero_of_lt h1.1.1 h1.1.2]; omega
      have d2 : (b.y * wi + b.x) / wi = b.y := by rw [Int.add_comm, Int.add_mul_ediv_right _ _ (by omega), Int.ediv_eq_zero_of_lt h2.1.1 h2.1.2]; omega
      rw [← d1, ← d2, e1]
    have ex : a.x = b.x := by rw [ey] at e1; omega
    cases a; cases b; simp_all
  have := hm.length_le_of_subset (l₂ := List.range (wi * hi)) (fun x hx => by
    obtain ⟨e, he, rfl⟩ := List.mem_map.1 hx
    have h1 := h e he
    have p1 : 0 ≤ e.y * (wi : Int) := Int.mul_nonneg h1.2.1 (by omega)
    have p2 : (e.y + 1) * (wi : Int) ≤ (hi : Int) * (wi : Int) := Int.mul_le_mul_of_nonneg_right (by omega) (by omega)
    rw [Int.add_mul, Int.one_mul] at p2
    have p3 : ((wi * hi : Nat) : Int) = (hi : Int) * (wi : Int) := by rw [Int.natCast_mul, Int.mul_comm]
    rw [List.mem_range]
    omega)
  simpa using this
/-- The cell before another one: on the first side on which the distance is right. -/
def backS (D : DstT) (x y d : Int) : Nat → Option Nat
  | 0 => none
  | k + 1 => match backS D x y d k with
    | some s => some s
    | none => if D (nx x (k : Nat)) (ny y (k : Nat)) = d then some k else none
def backC (D : DstT) (c : Ce) (d : Int) : Ce := match backS D c.x c.y d 4 with
  | some s => ⟨nx c.x s, ny c.y s⟩
  | none => c
/-- The cells from one back to the start. -/
def backL (D : DstT) : Nat → Ce → List Ce
  | 0, c => [c]
  | d + 1, c => c :: backL D d (backC D c d)
theorem backS_at {D : DstT} {x y d : Int} : ∀ {k s : Nat}, backS D x y d k = some s → s < k ∧ D (nx x s) (ny y s) = d ∧ ∀ t : Nat, t < s → D (nx x t) (ny y t) ≠ d
  | 0, s, h => by cases h
  | k + 1, s, h => by
    unfold backS at h
    cases hb : backS D x y d k with
    | some t =>
      rw [hb] at h
      injection h with h
      subst h
      obtain ⟨h1, h2, h3⟩ := backS_at hb
      exact ⟨by omega, h2, h3⟩
    | none =>
      rw [hb] at h
      dsimp only at h
      split at h
      · rename_i hd
        injection h with h
        subst h
        exact ⟨by omega, hd, backS_none hb⟩
      · cases h
where backS_none {D : DstT} {x y d : Int} : ∀ {k : Nat}, backS D x y d k = none → ∀ t : Nat, t < k → D (nx x t) (ny y t) ≠ d
  | 0, _, t, ht => absurd ht (by omega)
  | k + 1, h, t, ht => by
    unfold backS at h
    cases hb : backS D x y d k with
    | some s => rw [hb] at h; cases h
    | none =>
      rw [hb] at h
      dsimp only at h
      split at h
      · cases h
      · rename_i hd
        by_cases e : t = k
        · rw [e]; exact hd
        · exact backS_none hb t (by omega)
theorem backS_some {D : DstT} {x y d : Int} : ∀ {k t : Nat}, t < k → D (nx x t) (ny y t) = d → ∃ s, backS D x y d k = some s := by
  intro k t ht hv
  cases h : backS D x y d k with
  | some s => exact ⟨s, rfl⟩
  | none => exact absurd hv (backS_at.backS_none h t ht)
theorem backC_step {F : Int → Int → Bool} {c : Ce} {st : BfsT} (h : BfsOk F c st) {e : Ce} {d : Nat} (hd : st.2 e.x e.y = (d : Int) + 1) :
    ∃ s : Nat, s < 4 ∧ backS st.2 e.x e.y d 4 = some s ∧ backC st.2 e d = ⟨nx e.x s, ny e.y s⟩ ∧ st.2 (backC st.2 e d).x (backC st.2 e d).y = d := by
  obtain ⟨t, ht, hv⟩ := h.par e.x e.y (by omega)
  obtain ⟨s, hs⟩ := backS_some (D := st.2) (x := e.x) (y := e.y) (d := (d : Int)) ht (by omega)
  obtain ⟨h1, h2, _⟩ := backS_at hs
  have hc : backC st.2 e d = ⟨nx e.x s, ny e.y s⟩ := by unfold backC; rw [hs]
  exact ⟨s, h1, hs, hc, by rw [hc]; exact h2⟩
theorem backL_len (D : DstT) : ∀ d e, (backL D d e).length = d + 1
  | 0, _ => rfl
  | d + 1, e => by unfold backL; rw [List.length_cons, backL_len]
theorem backL_at {F : Int → Int → Bool} {c : Ce} {st : BfsT} (h : BfsOk F c st) : ∀ (d : Nat) (e : Ce), st.2 e.x e.y = d → ∀ i, i ≤ d → ∃ p, (backL st.2 d e)[i]? = some p ∧ st.2 p.x p.y = ((d - i : Nat) : Int) ∧ (i < d → ∃ s : Nat, s < 4 ∧ (backL st.2 d e)[i + 1]? = some ⟨nx p.x s, ny p.y s⟩)
  | 0, e, hd, i, hi => by
    obtain rfl : i = 0 := by omega
    exact ⟨e, rfl, hd, fun h => absurd h (by omega)⟩
  | d + 1, e, hd, i, hi => by
    obtain ⟨s, h1, h2, h3, h4⟩ := backC_step h (e := e) (d := d) (by rw [hd]; rfl)
    cases i with
    | zero =>
      refine ⟨e, rfl, hd, fun _ => ⟨s, h1, ?_⟩⟩
      obtain ⟨p, hp, _⟩ := backL_at h d _ h4 0 (Nat.zero_le _)
      have e0 : (backL st.2 d (backC st.2 e d))[0]? = some (backC st.2 e d) := by cases d <;> rfl
      show (e :: backL st.2 d (backC st.2 e d))[0 + 1]? = _
      rw [List.getElem?_cons_succ, e0, h3]
    | succ i =>
      obtain ⟨p, hp, hv, hn⟩ := backL_at h d _ h4 i (by omega)
      refine ⟨p, ?_, by rw [hv, Nat.add_sub_add_right], fun hi2 => ?_⟩
      · show (e :: backL st.2 d (backC st.2 e d))[i + 1]? = _
        rw [List.getElem?_cons_succ]; exact hp
      · obtain ⟨s2, hs2, hq⟩ := hn (Nat.lt_of_succ_lt_succ hi2)
        refine ⟨s2, hs2, ?_⟩
        show (e :: backL st.2 d (backC st.2 e d))[i + 1 + 1]? = _
        rw [List.getElem?_cons_succ]; exact hq
/-- A way from one cell to another one. -/
structure WayOk (F : Int → Int → Bool) (D : DstT) (c e : Ce) (d : Nat) (P : List Ce) : Prop where
  len : P.length = d + 1
  at_ : ∀ (i : Nat) (p : Ce), P[i]? = some p → D p.x p.y = (i : Int)
  fr : ∀ p ∈ P, F p.x p.y = true
  head : P[0]? = some c
  last : P[d]? = some e
  step : ∀ (i : Nat) (p q : Ce), P[i]? = some p → P[i + 1]? = some q → ∃ s : Nat, s < 4 ∧ p = ⟨nx q.x s, ny q.y s⟩
theorem way_ok {F : Int → Int → Bool} {c : Ce} {st : BfsT} (h : BfsOk F c st) {e : Ce} {d : Nat} (hd : st.2 e.x e.y = d) : WayOk F st.2 c e d (backL st.2 d e).reverse := by
  have hl := backL_len st.2 d e
  have hB := backL_at h d e hd
  have hr : ∀ i, i ≤ d → (backL st.2 d e).reverse[i]? = (backL st.2 d e)[d - i]? := fun i hi => by
    rw [List.getElem?_reverse (by omega), hl]
    congr 1
  have hat : ∀ i p, (backL st.2 d e).reverse[i]? = some p → i ≤ d ∧ st.2 p.x p.y = (i : Int) := fun i p hp => by
    have hi : i < d + 1 := by have := (List.getElem?_eq_some_iff.1 hp).1; rwa [List.length_reverse, hl] at this
    rw [hr i (by omega)] at hp
    obtain ⟨q, hq, hv, _⟩ := hB (d - i) (by omega)
    rw [hp] at hq
    injection hq with hq
    subst hq
    have hid : i ≤ d := Nat.lt_succ_iff.1 hi
    exact ⟨hid, by rw [hv, Nat.sub_sub_self hid]⟩
  refine ⟨by rw [List.length_reverse, hl], fun i p hp => (hat i p hp).2, fun p hp => ?_, ?_, ?_, fun i p q hp hq => ?_⟩
  · obtain ⟨i, hi⟩ := List.mem_iff_getElem?.1 hp
    have h1 := (hat i p hi).2
    exact h.fr ⟨p.x, p.y⟩ ((h.dom p.x p.y).1 (by omega))
  · obtain ⟨p, hp, hv, _⟩ := hB d (Nat.le_refl _)
    rw [hr 0 (Nat.zero_le _), Nat.sub_zero, hp]
    rw [Nat.sub_self] at hv
    have h1 := (h.zero p.x p.y).1 hv
    congr 1
    cases p; cases c
    simp_all
  · rw [hr d (Nat.le_refl _), Nat.sub_self]
    cases d <;> rfl
  · have h1 := hat (i + 1) q hq
    rw [hr i (by omega)] at hp
    rw [hr (i + 1) h1.1] at hq
    obtain ⟨q', hq', _, hn⟩ := hB (d - (i + 1)) (by omega)
    rw [hq] at hq'
    injection hq' with hq'
    subst hq'
    obtain ⟨s, hs, he⟩ := hn (by omega)
    rw [show d - (i + 1) + 1 = d - i by omega, hp] at he
    injection he with he
    exact ⟨s, hs, he⟩
theorem WayOk.inj {F : Int → Int → Bool} {D : DstT} {c e : Ce} {d : Nat} {P : List Ce} (h : WayOk F D c e d P) {i j : Nat} {p : Ce} (hi : P[i]? = some p) (hj : P[j]? = some p) : i = j := by
  have h1 := h.at_ i p hi
  have h2 := h.at_ j p hj
  omega
/-- The distances in the order of rows. -/
def distL (wi hi : Nat) (D : DstT) : List Int := (List.range (wi * hi)).map (fun i => D ((i % wi : Nat) : Int) ((i / wi : Nat) : Int))
theorem distL_len (wi hi : Nat) (D : DstT) : (distL wi hi D).length = wi * hi := by unfold distL; rw [List.length_map, List.length_range]
/-- The place of a cell. -/
def plcN (wi : Nat) (x y : Int) : Nat := y.toNat * wi + x.toNat
theorem plc_lt {wi hi : Nat} {x y : Int} (hx : 0 ≤ x ∧ x < wi) (hy : 0 ≤ y ∧ y < hi) : plcN wi x y < wi * hi := by
  obtain ⟨a, rfl⟩ : ∃ a : Nat, x = (a : Int) := ⟨x.toNat, by omega⟩
  obtain ⟨b, rfl⟩ : ∃ b : Nat, y = (b : Int) := ⟨y.toNat, by omega⟩
  unfold plcN
  rw [Int.toNat_natCast, Int.toNat_natCast]
  have h1 : (b + 1) * wi ≤ hi * wi := Nat.mul_le_mul_right _ (by omega)
  rw [Nat.add_mul, Nat.one_mul, Nat.mul_comm hi wi] at h1
  omega
theorem plc_int {wi : Nat} {x y : Int} (hx : 0 ≤ x) (hy : 0 ≤ y) : y * (wi : Int) + x = (plcN wi x y : Int) := by
  obtain ⟨a, rfl⟩ : ∃ a : Nat, x = (a : Int) := ⟨x.toNat, by omega⟩
  obtain ⟨b, rfl⟩ : ∃ b : Nat, y = (b : Int) := ⟨y.toNat, by omega⟩
  unfold plcN
  rw [Int.toNat_natCast, Int.toNat_natCast, Int.natCast_add, Int.natCast_mul]
theorem plc_mod {wi : Nat} {x y : Int} (hx : 0 ≤ x ∧ x < wi) (hy : 0 ≤ y) : ((plcN wi x y % wi : Nat) : Int) = x ∧ ((plcN wi x y / wi : Nat) : Int) = y := by
  obtain ⟨a, rfl⟩ : ∃ a : Nat, x = (a : Int) := ⟨x.toNat, by omega⟩
  obtain ⟨b, rfl⟩ : ∃ b : Nat, y = (b : Int) := ⟨y.toNat, by omega⟩
  have ha : a < wi := by omega
  unfold plcN
  rw [Int.toNat_natCast, Int.toNat_natCast, Nat.mul_comm, Nat.mul_add_mod, Nat.mod_eq_of_lt ha, Nat.mul_add_div (by omega), Nat.div_eq_of_lt ha, Nat.add_zero]
  exact ⟨rfl, rfl⟩
theorem distL_at {wi hi : Nat} (D : DstT) {x y : Int} (hx : 0 ≤ x ∧ x < wi) (hy : 0 ≤ y ∧ y < hi) : (distL wi hi D)[plcN wi x y]? = some (D x y) := by
  unfold distL
  obtain ⟨h1, h2⟩ := plc_mod hx hy.1
  rw [List.getElem?_map, List.getElem?_range (plc_lt hx hy)]
  show some (D _ _) = _
  rw [h1, h2]
theorem distL_set {wi hi : Nat} (D : DstT) {x y : Int} (hx : 0 ≤ x ∧ x < wi) (hy : 0 ≤ y ∧ y < hi) (v : Int) : (distL wi hi D).set (plcN wi x y) v = distL wi hi (updD D x y v) := by
  refine List.ext_getElem? fun i => ?_
  rw [List.getElem?_set, distL_len]
  by_cases e : plcN wi x y = i
  · subst e
    rw [if_pos rfl, if_pos (plc_lt hx hy), distL_at _ hx hy, updD_at]
  · rw [if_neg e]
    unfold distL
    rw [List.getElem?_map, List.getElem?_map]
    by_cases hi' : i < wi * hi
    · rw [List.getElem?_range hi']
      show some (D _ _) = some (updD D x y v _ _)
      congr 1
      refine (updD_ne fun ⟨h1, h2⟩ => e ?_).symm
      have h3 := plc_int (wi := wi) hx.1 hy.1
      rw [← h1, ← h2] at h3
      have h4 := Nat.div_add_mod i wi
      have h5 : ((i / wi * wi + i % wi : Nat) : Int) = (plcN wi ((i % wi : Nat) : Int) ((i / wi : Nat) : Int) : Int) := by rw [← h3, Int.natCast_add, Int.natCast_mul]
      rw [Nat.mul_comm] at h4
      have h6 : i / wi * wi + i % wi = i := h4
      rw [h6] at h5
      rw [← h1, ← h2]
      omega
    · rw [List.getElem?_eq_none (by rw [List.length_range]; omega)]
      rfl
/-- All distances, none known. -/
theorem distL_none (wi hi : Nat) : distL wi hi (fun _ _ => -1) = List.replicate (wi * hi) (-1) := by
  unfold distL
  refine List.ext_getElem? fun i => ?_
  rw [List.getElem?_map, List.getElem?_replicate]
  by_cases h : i < wi * hi
  · rw [List.getElem?_range h, if_pos h]; rfl
  · rw [List.getElem?_eq_none (by rw [List.length_range]; omega), if_neg h]; rfl
/-- The piece that is hit from a side and hits on another one. -/
def goesP (k f o : Int) (t : Nat) : Bool := decide (0 < hitsG k (t : Int) f) && decide (hitsG k (t : Int) f / 2 ^ o.toNat % 2 = 1)
def kindP (f o : Int) : Int := if (f + 2) % 4 = o then 0 else 1
def turnP (f o : Int) : Nat := if goesP (kindP f o) f o 0 = true then 0 else if goesP (kindP f o) f o 1 = true then 1 else if goesP (kindP f o) f o 2 = true then 2 else 3
def pieceP (c : Ce) (f o : Int) : Pc := ⟨c.x, c.y, kindP f o, (turnP f o : Nat), 1⟩
theorem turn_ok {f o : Int} (hf : 0 ≤ f ∧ f ≤ 3) (ho : 0 ≤ o ∧ o ≤ 3) (hne : f ≠ o) : turnP f o ≤ 3 ∧ goesP (kindP f o) f o (turnP f o) = true ∧ ∀ t, t < turnP f o → goesP (kindP f o) f o t = false := by
  have h1 : f = 0 ∨ f = 1 ∨ f = 2 ∨ f = 3 := by omega
  have h2 : o = 0 ∨ o = 1 ∨ o = 2 ∨ o = 3 := by omega
  rcases h1 with rfl | rfl | rfl | rfl <;> rcases h2 with rfl | rfl | rfl | rfl <;> first | exact absurd rfl hne | decide
/-- The sides of the cells of a line. -/
def fromW (P : List Ce) (side : Int) (i : Nat) : Int := match i with
  | 0 => side
  | j + 1 => sideG (P.getD (j + 1) ⟨0, 0⟩).x (P.getD (j + 1) ⟨0, 0⟩).y (P.getD j ⟨0, 0⟩).x (P.getD j ⟨0, 0⟩).y
def toW (P : List Ce) (out : Int) (i : Nat) : Int := if i + 1 < P.length then sideG (P.getD i ⟨0, 0⟩).x (P.getD i ⟨0, 0⟩).y (P.getD (i + 1) ⟨0, 0⟩).x (P.getD (i + 1) ⟨0, 0⟩).y else out
def linePc (P : List Ce) (side out : Int) (i : Nat) : Pc := pieceP (P.getD i ⟨0, 0⟩) (fromW P side i) (toW P out i)
def lineL (P : List Ce) (side out : Int) : List Pc := (List.range P.length).map (linePc P side out)
theorem lineL_len (P : List Ce) (side out : Int) : (lineL P side out).length = P.length := by unfold lineL; rw [List.length_map, List.length_range]
theorem getD_of {P : List Ce} {i : Nat} {p : Ce} (h : P[i]? = some p) : P.getD i ⟨0, 0⟩ = p := by rw [List.getD_eq_getElem?_getD, h]; rfl
/-- A side on which the other cell is, and its opposite. -/
theorem sideG_nx (x y : Int) (s : Nat) (hs : s < 4) : sideG x y (nx x s) (ny y s) = s := by
  have : s = 0 ∨ s = 1 ∨ s = 2 ∨ s = 3 := by omega
  refine sideG_at hs (fun j hj => ?_) ?_
  · unfold onSide
    rw [decide_eq_false_iff_not]
    rcases this with rfl | rfl | rfl | rfl <;> (have hj' : j = 0 ∨ j = 1 ∨ j = 2 := by omega) <;> rcases hj' with rfl | rfl | rfl <;> simp [nx, ny] <;> omega
  · unfold onSide
    simp
theorem sideG_eq {x y a b : Int} {s : Int} (h : sideG x y a b = s) (hs : 0 ≤ s) : s ≤ 3 ∧ a = nx x s ∧ b = ny y s := by
  unfold sideG at h
  unfold onSide at h
  split at h
  · rename_i e; subst h; simp only [decide_eq_true_eq] at e; exact ⟨by omega, e.1.symm, e.2.symm⟩
  · split at h
    · rename_i e; subst h; simp only [decide_eq_true_eq] at e; exact ⟨by omega, e.1.symm, e.2.symm⟩
    · split at h
      · rename_i e; subst h; simp only [decide_eq_true_eq] at e; exact ⟨by omega, e.1.symm, e.2.symm⟩
      · split at h
        · rename_i e; subst h; simp only [decide_eq_true_eq] at e; exact ⟨by omega, e.1.symm, e.2.symm⟩
        · omega
/-- Cells of a line, none of the ends among them: each piece is hit from one side and hits on another one. -/
structure LineOk (P : List Ce) (side out : Int) : Prop where
  n : 0 < P.length
  sd : 0 ≤ side ∧ side ≤ 3
  ot : 0 ≤ out ∧ out ≤ 3
  one : P.length = 1 → side ≠ out
  adj : ∀ (i : Nat) (p q : Ce), P[i]? = some p → P[i + 1]? = some q → (∃ s : Nat, s < 4 ∧ q = ⟨nx p.x s, ny p.y s⟩) ∧ (∃ s : Nat, s < 4 ∧ p = ⟨nx q.x s, ny q.y s⟩)
  nd : ∀ (i j : Nat) (p : Ce), P[i]? = some p → P[j]? = some p → i = j
  h0 : ∀ p : Ce, P[0]? = some p → ∀ i : Nat, P[i]? ≠ some (⟨nx p.x side, ny p.y side⟩ : Ce)
  h1 : ∀ p : Ce, P[P.length - 1]? = some p → ∀ i : Nat, P[i]? ≠ some (⟨nx p.x out, ny p.y out⟩ : Ce)
theorem LineOk.sides {P : List Ce} {side out : Int} (h : LineOk P side out) {i : Nat} (hi : i < P.length) : (0 ≤ fromW P side i ∧ fromW P side i ≤ 3) ∧ (0 ≤ toW P out i ∧ toW P out i ≤ 3) ∧ fromW P side i ≠ toW P out i := by
  have hp : P[i]? = some P[i] := List.getElem?_eq_getElem hi
  have hF : (i = 0 ∧ fromW P side i = side) ∨ (∃ (j : Nat) (p : Ce) (s : Nat), i = j + 1 ∧ P[j]? = some p ∧ s < 4 ∧ p = ⟨nx P[i].x s, ny P[i].y s⟩ ∧ fromW P side i = s) := by
    cases i with
    | zero => exact .inl ⟨rfl, rfl⟩
    | succ j =>
      have hj : P[j]? = some P[j] := List.getElem?_eq_getElem (by omega)
      obtain ⟨_, s, hs, e⟩ := h.adj j _ _ hj hp
      refine .inr ⟨j, P[j], s, rfl, hj, hs, e, ?_⟩
      show sideG (P.getD (j + 1) ⟨0, 0⟩).x (P.getD (j + 1) ⟨0, 0⟩).y (P.getD j ⟨0, 0⟩).x (P.getD j ⟨0, 0⟩).y = _
      rw [getD_of hp, getD_of hj, e]
      exact sideG_nx _ _ s hs
  have hT : (i + 1 = P.length ∧ toW P out i = out) ∨ (∃ (q : Ce) (s : Nat), P[i + 1]? = some q ∧ s < 4 ∧ q = ⟨nx P[i].x s, ny P[i].y s⟩ ∧ toW P out i = s) := by
    by_cases hl : i + 1 < P.length
    · have hj : P[i + 1]? = some P[i + 1] := List.getElem?_eq_getElem hl
      obtain ⟨⟨s, hs, e⟩, _⟩ := h.adj i _ _ hp hj
      refine .inr ⟨P[i + 1], s, hj, hs, e, ?_⟩
      unfold toW
      rw [if_pos hl, getD_of hp, getD_of hj, e]
      exact sideG_nx _ _ s hs
    · refine .inl ⟨by omega, ?_⟩
      unfold toW
      rw [if_neg hl]
  have h1 := h.sd
  have h2 := h.ot
  rcases hF with ⟨e0, eF⟩ | ⟨j, p, s, ej, hpj, hs, ep, eF⟩
  · rcases hT with ⟨e1, eT⟩ | ⟨q, t, hq, ht, eq, eT⟩
    · rw [eF, eT]
      exact ⟨h1, h2, h.one (by omega)⟩
    · rw [eF, eT]
      refine ⟨h1, by omega, fun e => ?_⟩
      subst e0
      refine h.h0 _ hp 1 ?_
      rw [e]
      exact hq.trans (by rw [eq])
  · rcases hT with ⟨e1, eT⟩ | ⟨q, t, hq, ht, eq, eT⟩
    · rw [eF, eT]
      refine ⟨by omega, h2, fun e => ?_⟩
      refine h.h1 P[i] (by rw [← e1, Nat.add_sub_cancel]; exact hp) j ?_
      rw [← e]
      exact hpj.trans (by rw [ep])
    · rw [eF, eT]
      refine ⟨by omega, by omega, fun e => ?_⟩
      have est : s = t := by omega
      subst est
      have := h.nd j (i + 1) p hpj (by rw [hq, eq, ep])
      omega
end Go.Proofs.Ytgkgklgeobbmlaa
