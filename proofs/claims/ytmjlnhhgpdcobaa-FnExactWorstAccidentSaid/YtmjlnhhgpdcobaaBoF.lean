/-
  A right board as a system that falls.
  Conditions: the pieces are right, no two of them in one cell.
-/
import Derived.Test.YtmjlnhhgpdcobaaFallTell
import Derived.Test.YtmjlnhhgpdcobaaWin
namespace Go.Proofs.Ytmjlnhhgpdcobaa
open Go.RowKit
set_option linter.unusedSimpArgs false
set_option linter.unusedVariables false

def boOf (xs : List Pc) : Bo := ⟨xs.length, (netOf xs [] []).can, (netOf xs [] []).hit, (netOf xs [] []).near, fun i => match xs[i]? with | some p => p.d.toNat | none => 1⟩
/-- A right board. -/
structure BrdOk (xs : List Pc) : Prop where
  n : xs.length ≤ 200
  pc : ∀ p ∈ xs, (0 ≤ p.x ∧ p.x ≤ 23) ∧ (0 ≤ p.y ∧ p.y ≤ 23) ∧ (0 ≤ p.k ∧ p.k ≤ 5) ∧ (0 ≤ p.t ∧ p.t ≤ 3) ∧ (1 ≤ p.d ∧ p.d ≤ 9)
  one : ∀ (i j : Nat) p q, xs[i]? = some p → xs[j]? = some q → p.x = q.x → p.y = q.y → i = j
theorem place_of {xs : List Pc} (h1 : ∀ (i j : Nat) p q, xs[i]? = some p → xs[j]? = some q → p.x = q.x → p.y = q.y → i = j) {i : Nat} {p : Pc} (h : xs[i]? = some p) : idxOf (atC p.x p.y) xs = i := by
  refine idxOf_at ?_ h (by simp [atC])
  rw [List.any_eq_false]
  intro q hq hat
  obtain ⟨j, hj, e⟩ := List.mem_take_iff_getElem.1 hq
  have hj2 : xs[j]? = some q := by rw [List.getElem?_eq_getElem (by omega), e]
  unfold atC at hat
  simp only [decide_eq_true_eq] at hat
  have := h1 j i q p hj2 h hat.1 hat.2
  omega
theorem bo_near {xs : List Pc} {i s : Nat} : (boOf xs).near i s = if nearI xs i s < 0 then none else some (nearI xs i s).toNat := rfl
theorem bo_near_cases (xs : List Pc) (i s : Nat) : (∃ k : Nat, nearI xs i s = k ∧ (boOf xs).near i s = some k ∧ k < xs.length) ∨ (nearI xs i s < 0 ∧ (boOf xs).near i s = none) := by
  by_cases h : 0 ≤ nearI xs i s
  · obtain ⟨k, e, hk⟩ := near_nat h
    refine .inl ⟨k, e, ?_, hk⟩
    rw [bo_near, e, if_neg (by omega), Int.toNat_natCast]
  · refine .inr ⟨by omega, ?_⟩
    rw [bo_near, if_pos (by omega)]
theorem bo_ok {xs : List Pc} (h : BrdOk xs) : (boOf xs).Ok := by
  refine ⟨fun i s q hi hs hn => ?_, fun i => ?_⟩
  · have hi' : i < xs.length := hi
    have e1 : xs[i]? = some xs[i] := List.getElem?_eq_getElem hi'
    rcases bo_near_cases xs i s with ⟨k, ek, nk, hk⟩ | ⟨_, nk⟩
    · rw [hn] at nk
      injection nk with nk
      subst nk
      refine ⟨hk, ?_⟩
      have hu : nearI xs i s = idxOf (atC (nx xs[i].x s) (ny xs[i].y s)) xs := by unfold nearI; rw [e1]
      have hany : xs.any (atC (nx xs[i].x s) (ny xs[i].y s)) = true := by
        have := idxOf_ge (atC (nx xs[i].x s) (ny xs[i].y s)) xs
        rw [← this, decide_eq_true_iff, ← hu, ek]
        omega
      obtain ⟨k, x, h1, h2, h3, _⟩ := idxOf_some hany
      have hk2 : k = q := by rw [hu, h1] at ek; omega
      subst hk2
      unfold atC at h3
      simp only [decide_eq_true_eq] at h3
      have hb : nearI xs k (opp s) = (i : Int) := by
        unfold nearI
        rw [h2]
        dsimp only
        rw [h3.1, h3.2, nx_opp _ hs, ny_opp _ hs]
        exact place_of h.one e1
      rw [bo_near, hb, if_neg (by omega), Int.toNat_natCast]
    · rw [hn] at nk
      cases nk
  · show 1 ≤ (match xs[i]? with | some p => p.d.toNat | none => 1) ∧ (match xs[i]? with | some p => p.d.toNat | none => 1) ≤ 9
    cases e : xs[i]? with
    | none => simp
    | some p =>
      have := (h.pc p (List.mem_of_getElem? e)).2.2.2.2
      show 1 ≤ p.d.toNat ∧ p.d.toNat ≤ 9
      omega
theorem bo_can {xs : List Pc} {i : Nat} {p : Pc} (h : xs[i]? = some p) (s : Nat) : (boOf xs).can i s = decide (0 ≤ hitsG p.k p.t s) := by
  show (match xs[i]? with | some p => decide (0 ≤ hitsG p.k p.t s) | none => false) = _
  rw [h]
theorem bo_hit {xs : List Pc} {i : Nat} {p : Pc} (h : xs[i]? = some p) (f t : Nat) : (boOf xs).hit i f t = (decide (0 ≤ hitsG p.k p.t f) && bitI (hitsG p.k p.t f) t) := by
  show (match xs[i]? with | some p => decide (0 ≤ hitsG p.k p.t f) && bitI (hitsG p.k p.t f) t | none => false) = _
  rw [h]
theorem bo_d {xs : List Pc} {i : Nat} {p : Pc} (h : xs[i]? = some p) : (boOf xs).d i = p.d.toNat := by
  show (match xs[i]? with | some p => p.d.toNat | none => 1) = _
  rw [h]
/-! ### The falls in memory -/
def keyT (v : Nat) : Int := if v < big then ((v / 4 : Nat) : Int) else -1
def keyS (v : Nat) : Int := if v < big then ((v % 4 : Nat) : Int) else 0
theorem keyT_lt {v : Nat} (h : v < big) : keyT v = ((v / 4 : Nat) : Int) := if_pos h
theorem keyS_lt {v : Nat} (h : v < big) : keyS v = ((v % 4 : Nat) : Int) := if_pos h
theorem keyT_big : keyT big = -1 := if_neg (Nat.lt_irrefl _)
theorem keyS_big : keyS big = 0 := if_neg (Nat.lt_irrefl _)
/-- A row of falls: their ticks and sides; by what is not told. -/
structure FaA (w : World) (g n : Nat) (E : Nat → Nat) : Prop where
  lt : g < w.heap.size
  c0 : ∀ i, i < n → w.cell? ⟨g, i * 3, none⟩ = some (.int .i64 (keyT (E i)))
  c1 : ∀ i, i < n → w.cell? ⟨g, i * 3 + 1, none⟩ = some (.int .i8 (keyS (E i)))
  c2 : ∀ i, i < n → ∃ b : Int, w.cell? ⟨g, i * 3 + 2, none⟩ = some (.int .i64 b)
theorem FaA.below {w w1 : World} {g n B : Nat} {E : Nat → Nat} (h : FaA w g n E) (hb : Below B w w1) (hB : g < B) : FaA w1 g n E :=
  ⟨Nat.lt_of_lt_of_le h.lt hb.size, fun i hi => (hb.cell (p := ⟨g, _, none⟩) hB).trans (h.c0 i hi), fun i hi => (hb.cell (p := ⟨g, _, none⟩) hB).trans (h.c1 i hi), fun i hi => by obtain ⟨b, e⟩ := h.c2 i hi; exact ⟨b, (hb.cell (p := ⟨g, _, none⟩) hB).trans e⟩⟩
theorem FaA.kept {w w1 : World} {g n : Nat} {E : Nat → Nat} {r : Option Nat} (h : FaA w g n E) (hg : w.grownBy w1 r) (hne : some g ≠ r) : FaA w1 g n E :=
  ⟨Nat.lt_of_lt_of_le h.lt hg.size, fun i hi => (hg.cell_far ⟨g, _, none⟩ h.lt hne).trans (h.c0 i hi), fun i hi => (hg.cell_far ⟨g, _, none⟩ h.lt hne).trans (h.c1 i hi), fun i hi => by obtain ⟨b, e⟩ := h.c2 i hi; exact ⟨b, (hg.cell_far ⟨g, _, none⟩ h.lt hne).trans e⟩⟩
theorem FaA.congr {w : World} {g n : Nat} {E E' : Nat → Nat} (h : FaA w g n E) (e : ∀ y, y < n → E y = E' y) : FaA w g n E' :=
  ⟨h.lt, fun i hi => by rw [← e i hi]; exact h.c0 i hi, fun i hi => by rw [← e i hi]; exact h.c1 i hi, h.c2⟩
/-- One fall is stored, its three cells. -/
theorem FaA.set {w : World} {g n : Nat} {E : Nat → Nat} (h : FaA w g n E) {i : Nat} (hi : i < n) (v : Nat) (b : Int) :
    FaA (((w.setCell ⟨g, i * 3, none⟩ (.int .i64 (keyT v))).setCell ⟨g, i * 3 + 1, none⟩ (.int .i8 (keyS v))).setCell ⟨g, i * 3 + 2, none⟩ (.int .i64 b)) g n (upd E i v) := by
  have hk : ∀ (j o : Nat), j < n → o < 3 → j ≠ i → (((w.setCell ⟨g, i * 3, none⟩ (.int .i64 (keyT v))).setCell ⟨g, i * 3 + 1, none⟩ (.int .i8 (keyS v))).setCell ⟨g, i * 3 + 2, none⟩ (.int .i64 b)).cell? ⟨g, j * 3 + o, none⟩ = w.cell? ⟨g, j * 3 + o, none⟩ := by
    intro j o hj ho hne
    rw [World.cell?_setCell_other _ _ _ _ (by intro x; simp only [Addr.mk.injEq] at x; omega), World.cell?_setCell_other _ _ _ _ (by intro x; simp only [Addr.mk.injEq] at x; omega), World.cell?_setCell_other _ _ _ _ (by intro x; simp only [Addr.mk.injEq] at x; omega)]
  obtain ⟨b0, hb0⟩ := h.c2 i hi
  have a0 := h.c0 i hi
  have a1 := h.c1 i hi
  have b1 : (w.setCell ⟨g, i * 3, none⟩ (.int .i64 (keyT v))).cell? ⟨g, i * 3 + 1, none⟩ = some (.int .i8 (keyS (E i))) := (World.cell?_setCell_other _ _ _ _ (by intro x; simp only [Addr.mk.injEq] at x; omega)).trans a1
  have b2 : ((w.setCell ⟨g, i * 3, none⟩ (.int .i64 (keyT v))).setCell ⟨g, i * 3 + 1, none⟩ (.int .i8 (keyS v))).cell? ⟨g, i * 3 + 2, none⟩ = some (.int .i64 b0) :=
    (World.cell?_setCell_other _ _ _ _ (by intro x; simp only [Addr.mk.injEq] at x; omega)).trans ((World.cell?_setCell_other _ _ _ _ (by intro x; simp only [Addr.mk.injEq] at x; omega)).trans hb0)
  refine ⟨by simpa using h.lt, fun j hj => ?_, fun j hj => ?_, fun j hj => ?_⟩
  · by_cases e : j = i
    · subst e
      rw [upd_at, World.cell?_setCell_other _ _ _ _ (by intro x; simp only [Addr.mk.injEq] at x; omega), World.cell?_setCell_other _ _ _ _ (by intro x; simp only [Addr.mk.injEq] at x; omega), World.cell?_setCell_same _ _ _ a0]
    · rw [upd_ne _ _ e]
      exact (show _ = w.cell? ⟨g, j * 3, none⟩ from hk j 0 hj (by omega) e).trans (h.c0 j hj)
  · by_cases e : j = i
    · subst e
      rw [upd_at, World.cell?_setCell_other _ _ _ _ (by intro x; simp only [Addr.mk.injEq] at x; omega), World.cell?_setCell_same _ _ _ b1]
    · rw [upd_ne _ _ e, hk j 1 hj (by omega) e]
      exact h.c1 j hj
  · by_cases e : j = i
    · subst e
      exact ⟨b, World.cell?_setCell_same _ _ _ b2⟩
    · rw [hk j 2 hj (by omega) e]
      exact h.c2 j hj
end Go.Proofs.Ytmjlnhhgpdcobaa
