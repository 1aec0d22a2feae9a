/-
  Plain law of accidents: how many fall at one push, the worst side, the worst piece.
  Conditions: none.
-/
import Derived.Test.YtmjlnhhgpdcobaaBoF
namespace Go.Proofs.Ytmjlnhhgpdcobaa
open Go.RowKit
set_option linter.unusedSimpArgs false
set_option linter.unusedVariables false

theorem cntF_all (E : Nat → Nat) (h : ∀ y, E y = big) : ∀ k, cntF E k = 0
  | 0 => rfl
  | k + 1 => by unfold cntF; rw [cntF_all E h k, h k, if_neg (Nat.lt_irrefl _)]
/-- A push from a side from which the piece cannot fall: none falls. -/
theorem cnt_cannot {B : Bo} (ok : B.Ok) {p sd : Nat} (hs : sd < 4) (hc : B.can p sd = false) : cntOf B p sd = 0 := by
  have hfix : ∀ y, (fun _ => big : Nat → Nat) y = fallF B (one1 p sd) (fun _ => big) y := by
    intro y
    show big = fallF B (one1 p sd) (fun _ => big) y
    unfold fallF
    split
    · have hk : ∀ s, hitK B (one1 p sd) (fun _ => big) y s = big := by
        intro s
        unfold hitK
        split
        · rename_i h1
          have : one1 p sd y s = big := by
            unfold one1
            rw [if_neg]
            rintro ⟨rfl, rfl⟩
            rw [hc] at h1
            cases h1
          rw [this]
          cases B.near y s with
          | none => exact Nat.min_self _
          | some q =>
            dsimp only
            rw [gK_big]
            exact Nat.min_self _
        · rfl
      unfold best4
      rw [hk, hk, hk, hk]
      simp
    · rfl
  have h := (fall_tk ok (one1_le hs)).is_fix hfix
  exact cntF_all _ (fun y => (h y).symm) _
theorem cntOf_le (B : Bo) (p sd : Nat) : cntOf B p sd ≤ B.n := cntF_le _ _
/-- The worst side of a piece so far: the side, and what it costs. -/
def sideW (xs : List Pc) (i : Nat) : Nat → Int × Int
  | 0 => (0, -1)
  | s + 1 => if (sideW xs i s).2 < (cntOf (boOf xs) i s : Int) then ((s : Int), (cntOf (boOf xs) i s : Int)) else sideW xs i s
theorem sideW_in (xs : List Pc) (i : Nat) : ∀ s, -1 ≤ (sideW xs i s).2 ∧ (sideW xs i s).2 ≤ xs.length ∧ 0 ≤ (sideW xs i s).1 ∧ (sideW xs i s).1 ≤ s ∧ (0 < s → 0 ≤ (sideW xs i s).2 ∧ (sideW xs i s).1 < s)
  | 0 => by simp [sideW]
  | s + 1 => by
    have ih := sideW_in xs i s
    have hc : cntOf (boOf xs) i s ≤ xs.length := cntOf_le _ _ _
    unfold sideW
    split
    · dsimp only; omega
    · rename_i h
      omega
def worstA (xs : List Pc) (i : Nat) : Int × Int := sideW xs i 4
theorem worstA_in (xs : List Pc) (i : Nat) : 0 ≤ (worstA xs i).2 ∧ (worstA xs i).2 ≤ xs.length ∧ 0 ≤ (worstA xs i).1 ∧ (worstA xs i).1 ≤ 3 := by
  have := sideW_in xs i 4
  unfold worstA
  omega
/-- The worst piece so far: piece, side, cost. -/
def pieceW (xs : List Pc) : Nat → Int × Int × Int
  | 0 => (-1, 0, 0)
  | i + 1 => if (pieceW xs i).1 < 0 ∨ (pieceW xs i).2.2 < (worstA xs i).2 then ((i : Int), (worstA xs i).1, (worstA xs i).2) else pieceW xs i
theorem pieceW_in (xs : List Pc) : ∀ k, -1 ≤ (pieceW xs k).1 ∧ (pieceW xs k).1 < k ∧ 0 ≤ (pieceW xs k).2.1 ∧ (pieceW xs k).2.1 ≤ 3 ∧ 0 ≤ (pieceW xs k).2.2 ∧ (pieceW xs k).2.2 ≤ xs.length ∧ (0 < k → 0 ≤ (pieceW xs k).1)
  | 0 => by simp [pieceW]
  | k + 1 => by
    have ih := pieceW_in xs k
    have hw := worstA_in xs k
    unfold pieceW
    split
    · dsimp only; omega
    · rename_i h
      omega
def worstG (xs : List Pc) : Int × Int × Int := pieceW xs xs.length
/-- The cost alone. -/
def costW (xs : List Pc) : Int := (worstG xs).2.2
/-- As the reference finds the cost: the greatest, from 0 on. -/
def maxW (xs : List Pc) : Nat → Int
  | 0 => 0
  | i + 1 => max (maxW xs i) (worstA xs i).2
theorem maxW_eq (xs : List Pc) : ∀ k, maxW xs k = (pieceW xs k).2.2
  | 0 => rfl
  | k + 1 => by
    have ih := maxW_eq xs k
    have h1 := pieceW_in xs k
    have hw := worstA_in xs k
    unfold maxW pieceW
    rw [ih]
    split
    · rename_i h
      rcases h with h | h
      · have : k = 0 := by
          rcases Nat.eq_zero_or_pos k with h2 | h2
          · exact h2
          · have := h1.2.2.2.2.2.2 h2
            omega
        subst this
        simp [pieceW]
        omega
      · dsimp only; omega
    · rename_i h
      omega
theorem costW_eq (xs : List Pc) : costW xs = maxW xs xs.length := (maxW_eq xs _).symm
/-- As the reference finds the worst accident: from piece 0, side 0 and cost -1 on. -/
def pieceR (xs : List Pc) : Nat → Int × Int × Int
  | 0 => (0, 0, -1)
  | i + 1 => if (pieceR xs i).2.2 < (worstA xs i).2 then ((i : Int), (worstA xs i).1, (worstA xs i).2) else pieceR xs i
theorem pieceR_eq (xs : List Pc) : ∀ k, 0 < k → pieceR xs k = pieceW xs k
  | 1, _ => by
    have hw := worstA_in xs 0
    unfold pieceR pieceW
    rw [if_pos (by show (-1 : Int) < _; omega), if_pos (.inl (by show (-1 : Int) < 0; omega))]
  | k + 2, _ => by
    have ih := pieceR_eq xs (k + 1) (by omega)
    have h1 := pieceW_in xs (k + 1)
    rw [pieceR, pieceW, ih]
    by_cases h : (pieceW xs (k + 1)).2.2 < (worstA xs (k + 1)).2
    · rw [if_pos h, if_pos (.inr h)]
    · rw [if_neg h, if_neg]
      rintro (h2 | h2)
      · have := h1.2.2.2.2.2.2 (by omega); omega
      · exact h h2
end Go.Proofs.Ytmjlnhhgpdcobaa
