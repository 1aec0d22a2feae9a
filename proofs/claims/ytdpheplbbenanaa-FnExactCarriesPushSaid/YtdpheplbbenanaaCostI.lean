/-
  The program's accidents: how many fall at one push, the worst side of a piece, the worst piece.
  Conditions: the board is right.
-/
import Derived.Test.YtdpheplbbenanaaRunI
import Derived.Test.YtdpheplbbenanaaBoF
namespace Go.Proofs.Ytdpheplbbenanaa
open Go.RowKit
set_option linter.unusedSimpArgs false
set_option linter.unusedVariables false

theorem one_psh {n i sd : Nat} (hi : i < n) (hs : sd < 4) : Psh [⟨0, (i : Nat), (sd : Nat), -1⟩] (one1 i sd) n 1000 := by
  have hb2 : big = 1099511627776 := rfl
  refine ⟨fun h hh => ⟨0, by omega, ?_⟩, fun t p s d h => ?_, fun p s hs4 hp => ?_, one1_le hs⟩
  · rw [List.mem_singleton] at hh
    subst hh
    exact ⟨rfl, ⟨i, rfl, hi⟩, ⟨sd, rfl, hs⟩, by dsimp only; omega, by dsimp only; omega⟩
  · rw [List.mem_singleton] at h
    injection h with h1 h2 h3 h4
    unfold one1
    rw [if_pos (by omega)]
    omega
  · unfold one1 at hp ⊢
    by_cases h : p = i ∧ s = sd
    · obtain ⟨rfl, rfl⟩ := h
      rw [if_pos ⟨rfl, rfl⟩]
      exact ⟨0, -1, List.mem_singleton.2 rfl, by omega⟩
    · rw [if_neg h] at hp
      omega
theorem sla_one {w : World} {q : Q4} (e : TypeId) : SlA Q4.e64 4 (w.alloc (.cells #[.int .i64 q.a, .int .i64 q.b, .int .i64 q.c, .int .i64 q.d] e)) (some ⟨w.heap.size, 0, none⟩) [q] := by
  refine ⟨by simp, fun _ => ⟨_, 0, rfl, by simp, fun i p hi j u hu => ?_⟩⟩
  have hl := (List.getElem?_eq_some_iff.1 hi).1
  simp only [List.length_cons, List.length_nil] at hl
  obtain rfl : i = 0 := by omega
  cases hi
  have hj := (List.getElem?_eq_some_iff.1 hu).1
  have : j = 0 ∨ j = 1 ∨ j = 2 ∨ j = 3 := by simp [Q4.e64] at hj; omega
  rcases this with rfl | rfl | rfl | rfl <;> (cases hu; simp [go_sem])
end Go.Proofs.Ytdpheplbbenanaa
