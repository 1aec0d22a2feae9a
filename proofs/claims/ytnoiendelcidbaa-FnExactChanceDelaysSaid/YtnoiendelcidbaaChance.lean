/-
  ChanceDelays: the rounds, and the reference's walk.
  Conditions: the fields are in their kinds' ranges.
-/
import Derived.Test.YtnoiendelcidbaaCopy
import Derived.Test.YtnoiendelcidbaaVSpans
import Derived.StillTailTactics
namespace Go.Proofs.Ytnoiendelcidbaa
open Go.RowKit
set_option linter.unusedSimpArgs false
set_option linter.unusedVariables false

def seedN (s : Int) : Int := (1664525 * s + 1013904223) % 4294967296
def chanceD (q : Sp) (s : Int) : Int := q.lo + (s / 65536) % (q.hi - q.lo + 1)
/-- The pieces and the seed after k rounds. -/
def chanceK (s : Int) (xs : List Pc) (ys : List Sp) : Nat → List Pc × Int
  | 0 => (xs, s)
  | k + 1 => match (chanceK s xs ys k).1[k]?, ys[k]? with
    | some p, some q => ((chanceK s xs ys k).1.set k { p with d := chanceD q (seedN (chanceK s xs ys k).2) }, seedN (chanceK s xs ys k).2)
    | _, _ => chanceK s xs ys k
theorem chanceK_len (s : Int) (xs : List Pc) (ys : List Sp) : ∀ k, (chanceK s xs ys k).1.length = xs.length
  | 0 => rfl
  | k + 1 => by
    unfold chanceK
    split
    · rw [List.length_set, chanceK_len s xs ys k]
    · exact chanceK_len s xs ys k
theorem chanceK_step {s : Int} {xs : List Pc} {ys : List Sp} {k : Nat} {L : List Pc} {t : Int} {p : Pc} {q : Sp} (h : chanceK s xs ys k = (L, t)) (hp : L[k]? = some p) (hq : ys[k]? = some q) :
    chanceK s xs ys (k + 1) = (L.set k { p with d := chanceD q (seedN t) }, seedN t) := by
  unfold chanceK
  rw [h]
  simp only [hp, hq]
def ChanceDelaysG (wi hi : Int) (xs : List Pc) (ys : List Sp) (s : Int) : (Int × Int × List Pc) × Int × Int :=
  if ValidSpansG wi hi xs ys = true then (if 60 < xs.length then ((0, 0, []), 0, 3) else ((wi, hi, (chanceK s xs ys xs.length).1), (chanceK s xs ys xs.length).2, 0)) else ((0, 0, []), 0, 1)
theorem seedN_range (s : Int) : 0 ≤ seedN s ∧ seedN s ≤ 4294967295 := by
  unfold seedN
  omega
theorem chanceD_range {q : Sp} {t : Int} (h : spOk q = true) (ht : 0 ≤ t) : q.lo ≤ chanceD q t ∧ chanceD q t ≤ q.hi := by
  unfold spOk at h
  simp only [Bool.and_eq_true, decide_eq_true_eq] at h
  obtain ⟨⟨h1, h2⟩, h3⟩ := h
  unfold chanceD
  have e1 := Int.emod_nonneg (t / 65536) (show q.hi - q.lo + 1 ≠ 0 by omega)
  have e2 := Int.emod_lt_of_pos (t / 65536) (show 0 < q.hi - q.lo + 1 by omega)
  omega
end Go.Proofs.Ytnoiendelcidbaa
