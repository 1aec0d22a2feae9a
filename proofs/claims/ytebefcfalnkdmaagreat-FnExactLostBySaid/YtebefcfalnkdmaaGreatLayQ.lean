/-
  The library's contracts for slices of numbers (Insert, BinarySearch), laid at this program.
  Conditions: none. Written by wip/genlay.py out of the kit's plain laying.
-/
import Derived.Test.YtebefcfalnkdmaaGreatProg
import Derived.Ground.Names2Prog
import Derived.Shelf.Slices.SearchI
import Derived.Shelf.Spec.SlicesInsertGrow
namespace Go.Proofs
open Go.Shelf
def Tryz.lays2_21_ren : Go.Shelf.Ren := ⟨fun | 21 => 113 | 27 => 137 | 28 => 138 | 35 => 153 | 39 => 163 | n => n, fun | 22 => 162 | 3 => 3 | 4 => 4 | 0 => 0 | n => n, fun | n => n⟩
theorem Tryz.lays2_21 : Go.Proofs.Lays2.n21 Tryz.prog Tryz.lays2_21_ren := {
  mixed := by kernel_rfl
  f21 := Tryz.func113.trans (congrArg some (by kernel_rfl))
  f27 := Tryz.func137.trans (congrArg some (by kernel_rfl))
  f28 := Tryz.func138.trans (congrArg some (by kernel_rfl))
  f35 := Tryz.func153.trans (congrArg some (by kernel_rfl))
  f39 := Tryz.func163.trans (congrArg some (by kernel_rfl))
  t0 := Tryz.underlying0
  a0 := Tryz.isAgg0
  z0 := Tryz.sizeOf0
  v0 := Tryz.zeroValue0
  t3 := Tryz.underlying3
  a3 := Tryz.isAgg3
  z3 := Tryz.sizeOf3
  v3 := Tryz.zeroValue3
  t4 := Tryz.underlying4
  a4 := Tryz.isAgg4
  z4 := Tryz.sizeOf4
  v4 := Tryz.zeroValue4
  t22 := Tryz.underlying162
  a22 := Tryz.isAgg162
  z22 := Tryz.sizeOf162
  v22 := Tryz.zeroValue162
  i3 := by kernel_rfl }
def Tryz.lays2_25_ren : Go.Shelf.Ren := ⟨fun | 25 => 112 | 31 => 135 | 32 => 136 | 37 => 152 | n => n, fun | 22 => 162 | 3 => 3 | 4 => 4 | 40 => 159 | 0 => 0 | n => n, fun | n => n⟩
theorem Tryz.lays2_25 : Go.Proofs.Lays2.n25 Tryz.prog Tryz.lays2_25_ren := {
  mixed := by kernel_rfl
  f25 := Tryz.func112.trans (congrArg some (by kernel_rfl))
  f31 := Tryz.func135.trans (congrArg some (by kernel_rfl))
  f32 := Tryz.func136.trans (congrArg some (by kernel_rfl))
  f37 := Tryz.func152.trans (congrArg some (by kernel_rfl))
  t0 := Tryz.underlying0
  a0 := Tryz.isAgg0
  z0 := Tryz.sizeOf0
  v0 := Tryz.zeroValue0
  t3 := Tryz.underlying3
  a3 := Tryz.isAgg3
  z3 := Tryz.sizeOf3
  v3 := Tryz.zeroValue3
  t4 := Tryz.underlying4
  a4 := Tryz.isAgg4
  z4 := Tryz.sizeOf4
  v4 := Tryz.zeroValue4
  t22 := Tryz.underlying162
  a22 := Tryz.isAgg162
  z22 := Tryz.sizeOf162
  v22 := Tryz.zeroValue162
  t40 := Tryz.underlying159
  a40 := Tryz.isAgg159
  z40 := Tryz.sizeOf159
  v40 := Tryz.zeroValue159 }
end Go.Proofs
