/-
  The reference's clock: rows without hits; whether two rows are equal.
  Conditions: at most 60 pieces.
-/
import Derived.Test.YthhfndifcdiomaaGreatClkG
import Derived.Test.YthhfndifcdiomaaGreatApp
namespace Go.Proofs.YthhfndifcdiomaaGreat
open Go.RowKit
set_option linter.unusedSimpArgs false
set_option linter.unusedVariables false

theorem rep_four {v : Value} {k : Nat} : List.replicate (k * 4) v ++ [v, v, v, v] = List.replicate ((k + 1) * 4) v := by
  rw [show ([v, v, v, v] : List Value) = List.replicate 4 v from rfl, List.replicate_append_replicate, Nat.succ_mul]
theorem eql4 (a0 a1 a2 a3 b0 b1 b2 b3 : Int) (w : World) : (Op.equalIn 10000 183 (.agg #[.int .i64 a0, .int .i64 a1, .int .i64 a2, .int .i64 a3]) (.agg #[.int .i64 b0, .int .i64 b1, .int .i64 b2, .int .i64 b3])).run Tryz.prog w = .ok (decide (a0 = b0 ∧ a1 = b1 ∧ a2 = b2 ∧ a3 = b3)) w := by
  have hsome : (Tryz.prog.info? 2).isSome = true := by kernel_rfl
  obtain ⟨i, hi⟩ := Option.isSome_iff_exists.1 hsome
  clear hsome
  have hc : Tryz.prog.cellsOf 2 = 1 := by kernel_rfl
  have hv := Tryz.underlying2
  have hu := Tryz.underlying183
  rw [run_equalIn_array (P := Tryz.prog) (w := w) 9999 _ _ hu hi, show List.range 4 = [0, 1, 2, 3] from rfl]
  simp [go_sem, Op.eqItems, hc, part, hv]
  by_cases h1 : a0 = b0 <;> by_cases h2 : a1 = b1 <;> by_cases h3 : a2 = b2 <;> by_cases h4 : a3 = b3 <;> simp [h1, h2, h3, h4]
theorem dn_inj {a b : Nat} (ha : a ≤ big) (hb : b ≤ big) : dn a = dn b ↔ a = b := by
  constructor
  · intro e
    unfold dn at e
    split at e <;> split at e <;> omega
  · intro e; rw [e]
end Go.Proofs.YthhfndifcdiomaaGreat
