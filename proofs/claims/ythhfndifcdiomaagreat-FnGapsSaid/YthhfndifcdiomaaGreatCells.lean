/-
  Cells: the cell beside another one; whether a list has a cell; both the program's and the reference's.
  Conditions: the numbers lie between -100 and 100.
-/
import Derived.Test.YthhfndifcdiomaaGreatValidI
namespace Go.Proofs.YthhfndifcdiomaaGreat
open Go.RowKit
set_option linter.unusedSimpArgs false
set_option linter.unusedVariables false

def nx (x s : Int) : Int := if s = 1 then x + 1 else if s = 3 then x - 1 else x
def ny (y s : Int) : Int := if s = 0 then y - 1 else if s = 2 then y + 1 else y
def isC (x y : Int) (c : Ce) : Bool := decide (c.x = x ∧ c.y = y)
theorem next_S (x y s : Int) (w : World) (h0 : -100 ≤ x ∧ x ≤ 100 ∧ -100 ≤ y ∧ y ≤ 100) (h1 : 0 ≤ s ∧ s ≤ 3) :
    Calls Tryz.prog 139 #[.agg #[.int .i8 x, .int .i8 y], .int .i64 s] w fun e w' => e = .returned (.agg #[.int .i8 (nx x s), .int .i8 (ny y s)]) ∧ Below w.heap.size w w' := by
  obtain ⟨_, _, _, _⟩ := h0
  obtain rfl | rfl | rfl | rfl : s = 0 ∨ s = 1 ∨ s = 2 ∨ s = 3 := by omega
  all_goals (
    go_enter Tryz.func139, Tryz.ntmps139
    go_wp2
    refine bodyPost_ret (by simp [results, Tryz.results139, go_sem]; rfl) rfl ⟨by simp [nx, ny], ?_⟩
    repeat (refine Below.setCell ?_ (by simp; try omega) _)
    exact ((Below.refl _ _).alloc (Nat.le_refl _) _).alloc (by simp) _)
theorem idx4_0 (W : World) : (Instr.index 137 (.agg #[.int .i8 0, .int .i8 (-1), .int .i8 1, .int .i8 0, .int .i8 0, .int .i8 1, .int .i8 (-1), .int .i8 0]) (.int .i64 0)).run Tryz.prog W = .ok (.agg #[.int .i8 0, .int .i8 (-1)]) W := by kernel_rfl
theorem idx4_1 (W : World) : (Instr.index 137 (.agg #[.int .i8 0, .int .i8 (-1), .int .i8 1, .int .i8 0, .int .i8 0, .int .i8 1, .int .i8 (-1), .int .i8 0]) (.int .i64 1)).run Tryz.prog W = .ok (.agg #[.int .i8 1, .int .i8 0]) W := by kernel_rfl
theorem idx4_2 (W : World) : (Instr.index 137 (.agg #[.int .i8 0, .int .i8 (-1), .int .i8 1, .int .i8 0, .int .i8 0, .int .i8 1, .int .i8 (-1), .int .i8 0]) (.int .i64 2)).run Tryz.prog W = .ok (.agg #[.int .i8 0, .int .i8 1]) W := by kernel_rfl
theorem idx4_3 (W : World) : (Instr.index 137 (.agg #[.int .i8 0, .int .i8 (-1), .int .i8 1, .int .i8 0, .int .i8 0, .int .i8 1, .int .i8 (-1), .int .i8 0]) (.int .i64 3)).run Tryz.prog W = .ok (.agg #[.int .i8 (-1), .int .i8 0]) W := by kernel_rfl
set_option maxRecDepth 100000 in
theorem next_I (x y s : Int) (w : World) (h0 : -100 ≤ x ∧ x ≤ 100 ∧ -100 ≤ y ∧ y ≤ 100) (h1 : 0 ≤ s ∧ s ≤ 3) :
    Calls Tryz.prog 84 #[.agg #[.int .i8 x, .int .i8 y], .int .i64 s] w fun e w' => e = .returned (.agg #[.int .i8 (nx x s), .int .i8 (ny y s)]) ∧ Below w.heap.size w w' := by
  obtain ⟨_, _, _, _⟩ := h0
  obtain rfl | rfl | rfl | rfl : s = 0 ∨ s = 1 ∨ s = 2 ∨ s = 3 := by omega
  all_goals (
    have i0 := idx4_0
    have i1 := idx4_1
    have i2 := idx4_2
    have i3 := idx4_3
    go_enter Tryz.func84, Tryz.ntmps84
    go_wp2
    refine bodyPost_ret (by simp [results, Tryz.results84, go_sem]; rfl) rfl ⟨by simp [nx, ny]; try omega, ?_⟩
    repeat (refine Below.setCell ?_ (by simp; try omega) _)
    exact (((Below.refl _ _).alloc (Nat.le_refl _) _).alloc (by simp) _).alloc (by simp; omega) _)
end Go.Proofs.YthhfndifcdiomaaGreat
