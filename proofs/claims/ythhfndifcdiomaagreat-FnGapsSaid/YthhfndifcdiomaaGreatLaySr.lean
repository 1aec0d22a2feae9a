/-
  The library's contract for slices.BinarySearch at int64, laid at this program.
  Conditions: none. Written by wip/genlay.py out of the kit's plain laying.
-/
import Derived.Test.YthhfndifcdiomaaGreatProg
import Derived.Ground.SlgnProg
import Derived.Shelf.SlicesG.SearchI
namespace Go.Proofs
open Go.Shelf
def Tryz.searchN_ren : Go.Shelf.Ren := ⟨fun | 49 => 75 | 59 => 93 | 60 => 94 | 68 => 105 | n => n, fun | 22 => 29 | 23 => 2 | 3 => 3 | 4 => 4 | 51 => 102 | 0 => 0 | n => n, fun | n => n⟩
theorem Tryz.searchN : Go.Proofs.SlLaysN.n49 Tryz.prog Tryz.searchN_ren := {
  mixed := by kernel_rfl
  f49 := ⟨Tryz.f75.name, by decide, Tryz.func75.trans (congrArg some (by kernel_rfl))⟩
  f59 := ⟨Tryz.f93.name, by decide, Tryz.func93.trans (congrArg some (by kernel_rfl))⟩
  f60 := ⟨Tryz.f94.name, by decide, Tryz.func94.trans (congrArg some (by kernel_rfl))⟩
  f68 := ⟨Tryz.f105.name, by decide, Tryz.func105.trans (congrArg some (by kernel_rfl))⟩
  t0 := Tryz.underlying0
  a0 := Tryz.isAgg0
  z0 := Tryz.sizeOf0
  v0 := Tryz.zeroValue0
  t3 := Tryz.underlying3
  a3 := Tryz.isAgg3
  z3 := Tryz.sizeOf3
  v3 := Tryz.zeroValue3
  t4 := Tryz.underlying4
  a4 := Tryz.isAgg4
  z4 := Tryz.sizeOf4
  v4 := Tryz.zeroValue4
  t22 := Tryz.underlying29
  a22 := Tryz.isAgg29
  z22 := Tryz.sizeOf29
  v22 := Tryz.zeroValue29
  t23 := Tryz.underlying2
  a23 := Tryz.isAgg2
  z23 := Tryz.sizeOf2
  v23 := Tryz.zeroValue2
  t51 := Tryz.underlying102
  a51 := Tryz.isAgg102
  z51 := Tryz.sizeOf102
  v51 := Tryz.zeroValue102 }

end Go.Proofs
