/-
  SpansAround, both the program's and the reference's.
  Conditions: the fields are in their kinds' ranges.
-/
import Derived.Test.YtnabedhhflfepaaGreatVSpans
namespace Go.Proofs.YtnabedhhflfepaaGreat
open Go.RowKit
set_option linter.unusedSimpArgs false
set_option linter.unusedVariables false

def aroundG (less more : Int) (p : Pc) : Sp := ⟨max (p.d - less) 1, min (p.d + more) 9⟩
def SpansAroundG (wi hi : Int) (xs : List Pc) (less more : Int) : List Sp × Int :=
  if bdOk wi hi xs = true then (if 60 < xs.length then ([], 3) else if (inB less 0 9 && inB more 0 9) = true then (xs.map (aroundG less more), 0) else ([], 2)) else ([], 1)
theorem SpansAround_len (wi hi : Int) (xs : List Pc) (less more : Int) (h : xs.length ≤ 1048576) : (SpansAroundG wi hi xs less more).1.length ≤ 1048576 := by
  unfold SpansAroundG
  split
  · split
    · simp
    · split
      · simpa using h
      · simp
  · simp
theorem delays_of {wi hi : Int} {xs : List Pc} (h : bdOk wi hi xs = true) : ∀ p ∈ xs, 1 ≤ p.d ∧ p.d ≤ 9 := by
  intro p hp
  unfold bdOk at h
  simp only [Bool.and_eq_true, List.all_eq_true, List.mem_range] at h
  obtain ⟨_, _, _, h⟩ := h
  obtain ⟨k, hk, rfl⟩ := List.mem_iff_getElem.1 hp
  have h1 := h k hk
  unfold okAt at h1
  rw [List.getElem?_eq_getElem hk] at h1
  simp only [Bool.and_eq_true, pcOk, inB, decide_eq_true_eq] at h1
  obtain ⟨⟨_, _, h2, _⟩, _⟩ := h1
  exact h2
end Go.Proofs.YtnabedhhflfepaaGreat
