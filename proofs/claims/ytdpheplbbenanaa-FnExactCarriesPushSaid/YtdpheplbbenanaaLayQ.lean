/-
  The library's contracts for slices of numbers (Insert, BinarySearch), laid at this program.
  Conditions: none. Written by wip/genlay.py out of the kit's plain laying.
-/
import Derived.Test.YtdpheplbbenanaaProg
import Derived.Ground.Names2Prog
import Derived.Shelf.Slices.SearchI
import Derived.Shelf.Spec.SlicesInsertGrow
namespace Go.Proofs
open Go.Shelf
def Try.lays2_21_ren : Go.Shelf.Ren := ⟨fun | 21 => 43 | 27 => 56 | 28 => 57 | 35 => 67 | 39 => 78 | n => n, fun | 22 => 103 | 3 => 3 | 4 => 4 | 0 => 0 | n => n, fun | n => n⟩
theorem Try.lays2_21 : Go.Proofs.Lays2.n21 Try.prog Try.lays2_21_ren := {
  mixed := by kernel_rfl
  f21 := Try.func43.trans (congrArg some (by kernel_rfl))
  f27 := Try.func56.trans (congrArg some (by kernel_rfl))
  f28 := Try.func57.trans (congrArg some (by kernel_rfl))
  f35 := Try.func67.trans (congrArg some (by kernel_rfl))
  f39 := Try.func78.trans (congrArg some (by kernel_rfl))
  t0 := Try.underlying0
  a0 := Try.isAgg0
  z0 := Try.sizeOf0
  v0 := Try.zeroValue0
  t3 := Try.underlying3
  a3 := Try.isAgg3
  z3 := Try.sizeOf3
  v3 := Try.zeroValue3
  t4 := Try.underlying4
  a4 := Try.isAgg4
  z4 := Try.sizeOf4
  v4 := Try.zeroValue4
  t22 := Try.underlying103
  a22 := Try.isAgg103
  z22 := Try.sizeOf103
  v22 := Try.zeroValue103
  i3 := by kernel_rfl }
def Try.lays2_25_ren : Go.Shelf.Ren := ⟨fun | 25 => 42 | 31 => 54 | 32 => 55 | 37 => 66 | n => n, fun | 22 => 103 | 3 => 3 | 4 => 4 | 40 => 55 | 0 => 0 | n => n, fun | n => n⟩
theorem Try.lays2_25 : Go.Proofs.Lays2.n25 Try.prog Try.lays2_25_ren := {
  mixed := by kernel_rfl
  f25 := Try.func42.trans (congrArg some (by kernel_rfl))
  f31 := Try.func54.trans (congrArg some (by kernel_rfl))
  f32 := Try.func55.trans (congrArg some (by kernel_rfl))
  f37 := Try.func66.trans (congrArg some (by kernel_rfl))
  t0 := Try.underlying0
  a0 := Try.isAgg0
  z0 := Try.sizeOf0
  v0 := Try.zeroValue0
  t3 := Try.underlying3
  a3 := Try.isAgg3
  z3 := Try.sizeOf3
  v3 := Try.zeroValue3
  t4 := Try.underlying4
  a4 := Try.isAgg4
  z4 := Try.sizeOf4
  v4 := Try.zeroValue4
  t22 := Try.underlying103
  a22 := Try.isAgg103
  z22 := Try.sizeOf103
  v22 := Try.zeroValue103
  t40 := Try.underlying55
  a40 := Try.isAgg55
  z40 := Try.sizeOf55
  v40 := Try.zeroValue55 }
end Go.Proofs
