/-
  The pieces of whose windows something is so, the program's.
  Conditions: the fields are in their kinds' ranges.
-/
import Derived.Test.YtnabedhhflfepaaWinsOf
import Derived.Test.YtnabedhhflfepaaOb
import Derived.Shelf.Abstract
namespace Go.Proofs.Ytnabedhhflfepaa
open Go.RowKit
set_option linter.unusedSimpArgs false
set_option linter.unusedVariables false

def idxP (P : Wn → Bool) (R : List Wn) : Nat → List Int
  | 0 => []
  | k + 1 => match R[k]? with
    | some p => if P p = true then idxP P R k ++ [(k : Int)] else idxP P R k
    | none => idxP P R k
theorem idxP_le (P : Wn → Bool) (R : List Wn) : ∀ k, (idxP P R k).length ≤ k
  | 0 => Nat.le_refl _
  | k + 1 => by
    have := idxP_le P R k
    unfold idxP
    split
    · split
      · simp; omega
      · omega
    · omega
theorem idxP_yes {P : Wn → Bool} {R : List Wn} {k : Nat} {p : Wn} (h : R[k]? = some p) (hp : P p = true) : idxP P R (k + 1) = idxP P R k ++ [(k : Int)] := by
  rw [idxP, h]
  simp [hp]
theorem idxP_no {P : Wn → Bool} {R : List Wn} {k : Nat} {p : Wn} (h : R[k]? = some p) (hp : P p = false) : idxP P R (k + 1) = idxP P R k := by
  rw [idxP, h]
  simp [hp]
def withG (P : Wn → Bool) (wi hi : Int) (xs : List Pc) (ps : List Pu) (ss : List Sp) : List Int × Int := (idxP P (WindowsOfG wi hi xs ps ss).1 (WindowsOfG wi hi xs ps ss).1.length, (WindowsOfG wi hi xs ps ss).2.2)
theorem with_len (P : Wn → Bool) (wi hi : Int) (xs : List Pc) (ps : List Pu) (ss : List Sp) (h : xs.length ≤ 1048576) : (withG P wi hi xs ps ss).1.length ≤ 1048576 :=
  Nat.le_trans (idxP_le _ _ _) (WindowsOf_len wi hi xs ps ss h)
theorem winL_si (M : Nat → Nat → Bool) (E L : Nat → Nat) : ∀ n, ∀ p ∈ winL M E L n, 0 ≤ p.si ∧ p.si ≤ 15
  | 0, p, h => by cases h
  | n + 1, p, h => by
    rw [winL, List.mem_append] at h
    rcases h with h | h
    · exact winL_si M E L n p h
    · rw [List.mem_singleton] at h
      subst h
      exact sBits_in _
theorem wins_si (wi hi : Int) (xs : List Pc) (ps : List Pu) (ss : List Sp) : ∀ p ∈ (WindowsOfG wi hi xs ps ss).1, 0 ≤ p.si ∧ p.si ≤ 15 := by
  unfold WindowsOfG
  split
  · exact winL_si _ _ _ _
  · intro p hp; cases hp
theorem wins_cd (wi hi : Int) (xs : List Pc) (ps : List Pu) (ss : List Sp) : (WindowsOfG wi hi xs ps ss).2.2 = 0 ∨ (((WindowsOfG wi hi xs ps ss).2.2 = 1 ∨ (WindowsOfG wi hi xs ps ss).2.2 = 3) ∧ (WindowsOfG wi hi xs ps ss).1 = []) := by
  unfold WindowsOfG
  rcases ask_lt (wi := wi) (hi := hi) (xs := xs) (ps := ps) (ss := ss) with h | h | h
  · rw [if_pos h]; exact .inl rfl
  · rw [if_neg (by rw [h]; decide)]; exact .inr ⟨.inl h, rfl⟩
  · rw [if_neg (by rw [h]; decide)]; exact .inr ⟨.inr h, rfl⟩
end Go.Proofs.Ytnabedhhflfepaa
