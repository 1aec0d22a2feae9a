/-
  The library's contracts for slices of numbers (Insert, BinarySearch), laid at this program.
  Conditions: none. Written by wip/genlay.py out of the kit's plain laying.
-/
import Derived.Test.YthhfndifcdiomaaGreatProg
import Derived.Ground.Names2Prog
import Derived.Shelf.Slices.SearchI
import Derived.Shelf.Spec.SlicesInsertGrow
namespace Go.Proofs
open Go.Shelf
def Tryz.lays2_21_ren : Go.Shelf.Ren := ⟨fun | 21 => 135 | 27 => 144 | 28 => 145 | 35 => 152 | 39 => 161 | n => n, fun | 22 => 136 | 3 => 3 | 4 => 4 | 0 => 0 | n => n, fun | n => n⟩
theorem Tryz.lays2_21 : Go.Proofs.Lays2.n21 Tryz.prog Tryz.lays2_21_ren := {
  mixed := by kernel_rfl
  f21 := Tryz.func135.trans (congrArg some (by kernel_rfl))
  f27 := Tryz.func144.trans (congrArg some (by kernel_rfl))
  f28 := Tryz.func145.trans (congrArg some (by kernel_rfl))
  f35 := Tryz.func152.trans (congrArg some (by kernel_rfl))
  f39 := Tryz.func161.trans (congrArg some (by kernel_rfl))
  t0 := Tryz.underlying0
  a0 := Tryz.isAgg0
  z0 := Tryz.sizeOf0
  v0 := Tryz.zeroValue0
  t3 := Tryz.underlying3
  a3 := Tryz.isAgg3
  z3 := Tryz.sizeOf3
  v3 := Tryz.zeroValue3
  t4 := Tryz.underlying4
  a4 := Tryz.isAgg4
  z4 := Tryz.sizeOf4
  v4 := Tryz.zeroValue4
  t22 := Tryz.underlying136
  a22 := Tryz.isAgg136
  z22 := Tryz.sizeOf136
  v22 := Tryz.zeroValue136
  i3 := by kernel_rfl }
def Tryz.lays2_25_ren : Go.Shelf.Ren := ⟨fun | 25 => 134 | 31 => 142 | 32 => 143 | 37 => 151 | n => n, fun | 22 => 136 | 3 => 3 | 4 => 4 | 40 => 102 | 0 => 0 | n => n, fun | n => n⟩
theorem Tryz.lays2_25 : Go.Proofs.Lays2.n25 Tryz.prog Tryz.lays2_25_ren := {
  mixed := by kernel_rfl
  f25 := Tryz.func134.trans (congrArg some (by kernel_rfl))
  f31 := Tryz.func142.trans (congrArg some (by kernel_rfl))
  f32 := Tryz.func143.trans (congrArg some (by kernel_rfl))
  f37 := Tryz.func151.trans (congrArg some (by kernel_rfl))
  t0 := Tryz.underlying0
  a0 := Tryz.isAgg0
  z0 := Tryz.sizeOf0
  v0 := Tryz.zeroValue0
  t3 := Tryz.underlying3
  a3 := Tryz.isAgg3
  z3 := Tryz.sizeOf3
  v3 := Tryz.zeroValue3
  t4 := Tryz.underlying4
  a4 := Tryz.isAgg4
  z4 := Tryz.sizeOf4
  v4 := Tryz.zeroValue4
  t22 := Tryz.underlying136
  a22 := Tryz.isAgg136
  z22 := Tryz.sizeOf136
  v22 := Tryz.zeroValue136
  t40 := Tryz.underlying102
  a40 := Tryz.isAgg102
  z40 := Tryz.sizeOf102
  v40 := Tryz.zeroValue102 }
end Go.Proofs
