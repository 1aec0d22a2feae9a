/-
  Plain law of the reference's falls: the piece that is picked, and what it tells its neighbours.
  Conditions: none; plain law.
-/
import Derived.Test.YtmjlnhhgpdcobaaFallLaw
namespace Go.Proofs.Ytmjlnhhgpdcobaa
set_option linter.unusedSimpArgs false
set_option linter.unusedVariables false

/-- The undone piece with the least tick, the first one. -/
def pickR (D : Nat → Bool) (E : Nat → Nat) : Nat → Option Nat
  | 0 => none
  | k + 1 => match pickR D E k with
    | none => if D k = false ∧ E k < big then some k else none
    | some a => if D k = false ∧ E k < big ∧ E k / 4 < E a / 4 then some k else some a
theorem pickR_none {D : Nat → Bool} {E : Nat → Nat} : ∀ {k : Nat}, pickR D E k = none → ∀ y, y < k → D y = false → ¬ E y < big
  | 0, _, y, hy, _ => by omega
  | k + 1, h, y, hy, hd => by
    unfold pickR at h
    cases e : pickR D E k with
    | none =>
      rw [e] at h
      dsimp only at h
      split at h
      · cases h
      · rename_i hc
        by_cases e2 : y = k
        · subst e2; exact fun hb => hc ⟨hd, hb⟩
        · exact pickR_none e y (by omega) hd
    | some a =>
      rw [e] at h
      dsimp only at h
      split at h <;> cases h
theorem pickR_some {D : Nat → Bool} {E : Nat → Nat} : ∀ {k a : Nat}, pickR D E k = some a → a < k ∧ D a = false ∧ E a < big ∧ ∀ y, y < k → D y = false → E a / 4 ≤ E y / 4
  | 0, a, h => by cases h
  | k + 1, a, h => by
    unfold pickR at h
    have hb : big / 4 = 274877906944 := rfl
    have hb2 : big = 1099511627776 := rfl
    cases e : pickR D E k with
    | none =>
      rw [e] at h
      dsimp only at h
      have hn := pickR_none e
      split at h
      · rename_i hc
        injection h with h
        subst h
        refine ⟨by omega, hc.1, hc.2, fun y hy hd => ?_⟩
        by_cases e2 : y = k
        · subst e2; exact Nat.le_refl _
        · have := hn y (by omega) hd
          omega
      · cases h
    | some b =>
      rw [e] at h
      dsimp only at h
      obtain ⟨h1, h2, h3, h4⟩ := pickR_some e
      split at h
      · rename_i hc
        injection h with h
        subst h
        refine ⟨by omega, hc.1, hc.2.1, fun y hy hd => ?_⟩
        by_cases e2 : y = k
        · subst e2; exact Nat.le_refl _
        · have := h4 y (by omega) hd
          omega
      · rename_i hc
        injection h with h
        subst h
        refine ⟨by omega, h2, h3, fun y hy hd => ?_⟩
        by_cases e2 : y = k
        · subst e2
          by_cases h5 : E y < big
          · have : ¬ E y / 4 < E b / 4 := fun h6 => hc ⟨hd, h5, h6⟩
            omega
          · omega
        · exact h4 y (by omega) hd
/-- What piece x that falls with key v tells its neighbour on side s. -/
def tellR (B : Bo) (D : Nat → Bool) (x v : Nat) (E : Nat → Nat) (s : Nat) : Nat → Nat := match B.near x s with
  | some k => if B.hit x (v % 4) s = true ∧ D k = false ∧ B.can k (opp s) = true then upd E k (min (E k) (4 * (v / 4 + B.d x) + opp s)) else E
  | none => E
def tellsR (B : Bo) (D : Nat → Bool) (x v : Nat) (E : Nat → Nat) : Nat → Nat → Nat
  | 0 => E
  | s + 1 => tellR B D x v (tellsR B D x v E s) s
def leadTo (B : Bo) (x v y : Nat) : Nat → Nat
  | 0 => big
  | s + 1 => min (leadTo B x v y s) (if B.near x s = some y ∧ B.can y (opp s) = true then gK B x s (opp s) v else big)
theorem leadTo_le (B : Bo) (x v y : Nat) : ∀ s, leadTo B x v y s ≤ big
  | 0 => Nat.le_refl _
  | s + 1 => by have := leadTo_le B x v y s; unfold leadTo; omega
theorem tells_at {B : Bo} {D : Nat → Bool} {x v : Nat} {E : Nat → Nat} (hv : v < big) (hE : ∀ y, E y ≤ big) (y : Nat) : ∀ s, tellsR B D x v E s y = if D y = true then E y else min (E y) (leadTo B x v y s)
  | 0 => by
    have := hE y
    unfold tellsR leadTo
    split <;> omega
  | s + 1 => by
    have ih := tells_at (B := B) (D := D) (x := x) hv hE y s
    have hl := leadTo_le B x v y s
    have hEy := hE y
    unfold tellsR tellR leadTo
    cases hn : B.near x s with
    | none =>
      dsimp only
      rw [ih, if_neg (show ¬ (none = some y ∧ B.can y (opp s) = true) by simp)]
      split <;> omega
    | some k =>
      dsimp only
      by_cases hk : k = y
      · subst hk
        by_cases hc : B.hit x (v % 4) s = true ∧ D k = false ∧ B.can k (opp s) = true
        · rw [if_pos hc, upd_at, ih, if_neg (by rw [hc.2.1]; simp), if_neg (by rw [hc.2.1]; simp), if_pos ⟨rfl, hc.2.2⟩]
          unfold gK
          rw [if_pos ⟨hv, hc.1⟩]
          omega
        · rw [if_neg hc, ih]
          split
          · rfl
          · rename_i hd
            split
            · rename_i hx
              unfold gK
              rw [if_neg (fun h => hc ⟨h.2, by simpa using hd, hx.2⟩)]
              omega
            · omega
      · rw [if_neg (show ¬ (some k = some y ∧ B.can y (opp s) = true) by simp [hk])]
        have he : (if B.hit x (v % 4) s = true ∧ D k = false ∧ B.can k (opp s) = true then upd (tellsR B D x v E s) k (min (tellsR B D x v E s k) (4 * (v / 4 + B.d x) + opp s)) else tellsR B D x v E s) y = tellsR B D x v E s y := by
          split
          · exact upd_ne _ _ (Ne.symm hk)
          · rfl
        rw [he, ih]
        split <;> omega
theorem near_sym {B : Bo} (ok : B.Ok) {x y s : Nat} (hx : x < B.n) (hs : s < 4) : B.near x s = some y → y < B.n ∧ B.near y (opp s) = some x := ok.sym x s y hx hs
theorem opp_opp2 {s : Nat} (h : s < 4) : opp (opp s) = s := by unfold opp; omega
theorem leadTo_four {B : Bo} (ok : B.Ok) {x v y : Nat} (hx : x < B.n) : leadTo B x v y 4 = leadK B x v y := by
  have hf : ∀ s, s < 4 → (if B.near x s = some y ∧ B.can y (opp s) = true then gK B x s (opp s) v else big) = if y < B.n ∧ B.can y (opp s) = true ∧ B.near y (opp s) = some x then gK B x (opp (opp s)) (opp s) v else big := by
    intro s hs
    rw [opp_opp2 hs]
    by_cases h1 : B.near x s = some y
    · obtain ⟨h2, h3⟩ := ok.sym x s y hx hs h1
      by_cases hc : B.can y (opp s) = true
      · rw [if_pos ⟨h1, hc⟩, if_pos ⟨h2, hc, h3⟩]
      · rw [if_neg (fun h => hc h.2), if_neg (fun h => hc h.2.1)]
    · rw [if_neg (fun h => h1 h.1)]
      rw [if_neg]
      rintro ⟨h2, _, h3⟩
      have := (ok.sym y (opp s) x h2 (by unfold opp; omega) h3).2
      rw [opp_opp2 hs] at this
      exact h1 this
  have e4 : leadTo B x v y 4 = min (min (min (min big (if B.near x 0 = some y ∧ B.can y (opp 0) = true then gK B x 0 (opp 0) v else big)) (if B.near x 1 = some y ∧ B.can y (opp 1) = true then gK B x 1 (opp 1) v else big)) (if B.near x 2 = some y ∧ B.can y (opp 2) = true then gK B x 2 (opp 2) v else big)) (if B.near x 3 = some y ∧ B.can y (opp 3) = true then gK B x 3 (opp 3) v else big) := rfl
  rw [e4, hf 0 (by omega), hf 1 (by omega), hf 2 (by omega), hf 3 (by omega)]
  unfold leadK best4
  by_cases hy : y < B.n
  · simp only [hy, true_and, if_true, show opp 0 = 2 from rfl, show opp 1 = 3 from rfl, show opp 2 = 0 from rfl, show opp 3 = 1 from rfl]
    have g0 := gK_le B x 2 0 v
    have g1 := gK_le B x 3 1 v
    have g2 := gK_le B x 0 2 v
    have g3 := gK_le B x 1 3 v
    generalize (if B.can y 2 = true ∧ B.near y 2 = some x then gK B x 0 2 v else big) = a2
    generalize (if B.can y 3 = true ∧ B.near y 3 = some x then gK B x 1 3 v else big) = a3
    have h0 : (if B.can y 0 = true ∧ B.near y 0 = some x then gK B x 2 0 v else big) ≤ big := by split <;> omega
    generalize (if B.can y 0 = true ∧ B.near y 0 = some x then gK B x 2 0 v else big) = a0 at *
    generalize (if B.can y 1 = true ∧ B.near y 1 = some x then gK B x 3 1 v else big) = a1
    omega
  · simp only [hy, false_and, if_false]
    omega
/-- All four told: the next step of what has been found. -/
theorem tells_all {B : Bo} (ok : B.Ok) {P : Nat → Nat → Nat} {D : Nat → Bool} {E : Nat → Nat} {x : Nat} (h : Fnd (fallF B P) D E) (hE : ∀ y, E y ≤ big) (hx : x < B.n) (hd : D x = false) (hv : E x < big) :
    tellsR B (fun y => decide (y = x) || D y) x (E x) E 4 = fun y => min (E y) (leadK B x (E x) y) := by
  funext y
  rw [tells_at hv hE y 4, leadTo_four ok hx]
  split
  · rename_i hy
    have hm := lead_more ok hv (B := B) (x := x) y
    simp only [Bool.or_eq_true, decide_eq_true_eq] at hy
    rcases hy with rfl | hy
    · omega
    · have := h.ord y x hy hd
      omega
  · rfl
end Go.Proofs.Ytmjlnhhgpdcobaa
