/-
  The laws' own helpers over cells ([2]int8): copies, comparisons.
  Conditions: none.
-/
import Derived.Test.YtemnglkenaklnaaProg
import Derived.Test.YtemnglkenaklnaaData
namespace Go.Proofs.Ytemnglkenaklnaa
open Go.RowKit

set_option maxHeartbeats 400000 in
theorem to_Ce_L (a b : Int) (w : World) :
    Calls Try.prog 38 #[.agg #[.int .i8 a, .int .i8 b]] w fun e w' => e = .returned (.agg #[.int .i8 a, .int .i8 b]) ∧ Below w.heap.size w w' := by
  go_enter Try.func38, Try.ntmps38
  go_wp2
  refine wp_loop_rounds 3 ?_
  rw [rounds_succ]
  go_wp2
  rw [rounds_succ]
  go_wp2
  rw [rounds_succ]
  go_wp2
  refine bodyPost_ret (v := .agg #[.int .i8 a, .int .i8 b]) (by simp [results, Try.results38, go_sem]) rfl ⟨rfl, ?_⟩
  exact (((Below.refl _ _).alloc (Nat.le_refl _) _).alloc (by simp) _).alloc (by simp; omega) _
set_option maxHeartbeats 400000 in
theorem eq_Ce_L (a b c d : Int) (w : World) :
    Calls Try.prog 45 #[.agg #[.int .i8 a, .int .i8 b], .agg #[.int .i8 c, .int .i8 d]] w fun e w' => e = .returned (.bool (decide (a = c ∧ b = d))) ∧ Below w.heap.size w w' := by
  have hB : ∀ (o1 o2 : Obj) (n : Nat), Below w.heap.size w (((w.alloc o1).alloc o2).drewN n) := fun o1 o2 n => below_drewN (((Below.refl _ _).alloc (Nat.le_refl _) _).alloc (by simp) _) n
  have HB := hid hB
  clear hB
  by_cases h1 : a = c
  · have e1 : (a != c) = false := by simp [h1]
    by_cases h2 : b = d
    · have e2 : (b != d) = false := by simp [h2]
      have H1 := hid h1
      have H2 := hid h2
      clear h1 h2
      go_enter Try.func45, Try.ntmps45
      go_wp2
      refine wp_loop_rounds 3 ?_
      rw [rounds_succ]
      go_wp2
      go_quiet (fail)
      go_wp2
      rw [rounds_succ]
      go_wp2
      go_quiet (fail)
      go_wp2
      rw [rounds_succ]
      go_wp2
      go_ret
      exact ⟨ret_bool (by simp [H1.out, H2.out]), HB.out _ _ _⟩
    · have e2 : (b != d) = true := by simp [h2]
      have H2 := hid h2
      clear h1 h2
      go_enter Try.func45, Try.ntmps45
      go_wp2
      refine wp_loop_rounds 3 ?_
      rw [rounds_succ]
      go_wp2
      go_quiet (fail)
      go_wp2
      rw [rounds_succ]
      go_wp2
      go_quiet (fail)
      go_wp2
      go_ret
      exact ⟨ret_bool (by simp [H2.out]), by rw [World.drewN_drewN]; exact HB.out _ _ _⟩
  · have e1 : (a != c) = true := by simp [h1]
    have H1 := hid h1
    clear h1
    go_enter Try.func45, Try.ntmps45
    go_wp2
    refine wp_loop_rounds 3 ?_
    rw [rounds_succ]
    go_wp2
    go_quiet (fail)
    go_wp2
    go_ret
    exact ⟨ret_bool (by simp [H1.out]), HB.out _ _ _⟩
end Go.Proofs.Ytemnglkenaklnaa
