/-
  The library's contracts for slices of numbers (Insert, BinarySearch), laid at this program.
  Conditions: none. Written by wip/genlay.py out of the kit's plain laying.
-/
import Derived.Test.YtmjlnhhgpdcobaaProg
import Derived.Ground.Names2Prog
import Derived.Shelf.Slices.SearchI
import Derived.Shelf.Spec.SlicesInsertGrow
namespace Go.Proofs
open Go.Shelf
def Try.lays2_21_ren : Go.Shelf.Ren := ⟨fun | 21 => 57 | 27 => 65 | 28 => 66 | 35 => 74 | 39 => 85 | n => n, fun | 22 => 98 | 3 => 3 | 4 => 4 | 0 => 0 | n => n, fun | n => n⟩
theorem Try.lays2_21 : Go.Proofs.Lays2.n21 Try.prog Try.lays2_21_ren := {
  mixed := by kernel_rfl
  f21 := Try.func57.trans (congrArg some (by kernel_rfl))
  f27 := Try.func65.trans (congrArg some (by kernel_rfl))
  f28 := Try.func66.trans (congrArg some (by kernel_rfl))
  f35 := Try.func74.trans (congrArg some (by kernel_rfl))
  f39 := Try.func85.trans (congrArg some (by kernel_rfl))
  t0 := Try.underlying0
  a0 := Try.isAgg0
  z0 := Try.sizeOf0
  v0 := Try.zeroValue0
  t3 := Try.underlying3
  a3 := Try.isAgg3
  z3 := Try.sizeOf3
  v3 := Try.zeroValue3
  t4 := Try.underlying4
  a4 := Try.isAgg4
  z4 := Try.sizeOf4
  v4 := Try.zeroValue4
  t22 := Try.underlying98
  a22 := Try.isAgg98
  z22 := Try.sizeOf98
  v22 := Try.zeroValue98
  i3 := by kernel_rfl }
def Try.lays2_25_ren : Go.Shelf.Ren := ⟨fun | 25 => 56 | 31 => 63 | 32 => 64 | 37 => 73 | n => n, fun | 22 => 98 | 3 => 3 | 4 => 4 | 40 => 113 | 0 => 0 | n => n, fun | n => n⟩
theorem Try.lays2_25 : Go.Proofs.Lays2.n25 Try.prog Try.lays2_25_ren := {
  mixed := by kernel_rfl
  f25 := Try.func56.trans (congrArg some (by kernel_rfl))
  f31 := Try.func63.trans (congrArg some (by kernel_rfl))
  f32 := Try.func64.trans (congrArg some (by kernel_rfl))
  f37 := Try.func73.trans (congrArg some (by kernel_rfl))
  t0 := Try.underlying0
  a0 := Try.isAgg0
  z0 := Try.sizeOf0
  v0 := Try.zeroValue0
  t3 := Try.underlying3
  a3 := Try.isAgg3
  z3 := Try.sizeOf3
  v3 := Try.zeroValue3
  t4 := Try.underlying4
  a4 := Try.isAgg4
  z4 := Try.sizeOf4
  v4 := Try.zeroValue4
  t22 := Try.underlying98
  a22 := Try.isAgg98
  z22 := Try.sizeOf98
  v22 := Try.zeroValue98
  t40 := Try.underlying113
  a40 := Try.isAgg113
  z40 := Try.sizeOf113
  v40 := Try.zeroValue113 }
end Go.Proofs
