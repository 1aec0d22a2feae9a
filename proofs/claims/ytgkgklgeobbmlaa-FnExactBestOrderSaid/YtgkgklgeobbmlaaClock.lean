/-
  The reference's clock: the earliest and the latest hits in rows of four; from which sides a piece may fall; the least latest hit.
  Conditions: at most 60 pieces.
-/
import Derived.Test.YtgkgklgeobbmlaaTimeLaw
import Derived.Test.YtgkgklgeobbmlaaBoard
namespace Go.Proofs.Ytgkgklgeobbmlaa
open Go.RowKit
set_option linter.unusedSimpArgs false
set_option linter.unusedVariables false

/-- A tick as the reference writes it: -1 for none. -/
def dn (v : Nat) : Int := if v < big then (v : Int) else -1
theorem dn_lt {v : Nat} (h : v < big) : dn v = v := by unfold dn; rw [if_pos h]
theorem dn_ge {v : Nat} (h : ¬ v < big) : dn v = -1 := by unfold dn; rw [if_neg h]
structure TkA (w : World) (g n : Nat) (E : Nat → Nat) : Prop where
  lt : g < w.heap.size
  c : ∀ i s, i < n → s < 4 → w.cell? ⟨g, i * 4 + s, none⟩ = some (.int .i64 (dn (E (4 * i + s))))
theorem TkA.below {w w1 : World} {g n B : Nat} {E : Nat → Nat} (h : TkA w g n E) (hb : Below B w w1) (hB : g < B) : TkA w1 g n E :=
  ⟨Nat.lt_of_lt_of_le h.lt hb.size, fun i s hi hs => (hb.cell (p := ⟨g, _, none⟩) hB).trans (h.c i s hi hs)⟩
theorem bef_false {L : Nat → Nat} {q t side : Nat} (h : ∀ j, j < 4 → ¬ (L (4 * q + j) < t ∨ L (4 * q + j) = t ∧ j < side)) : bef L q t side = false := by
  cases hb : bef L q t side with
  | false => rfl
  | true =>
    obtain ⟨k, hk, e⟩ := bef_iff.1 hb
    exact absurd e (h k hk)
def minTo (f : Nat → Nat) : Nat → Nat
  | 0 => big
  | k + 1 => min (minTo f k) (f k)
theorem minTo_four (f : Nat → Nat) : minTo f 4 = min big (best4 f) := by
  simp only [minTo, best4]
  omega
theorem minTo_le (f : Nat → Nat) : ∀ k, minTo f k ≤ big
  | 0 => Nat.le_refl _
  | k + 1 => by have := minTo_le f k; simp only [minTo]; omega
end Go.Proofs.Ytgkgklgeobbmlaa
