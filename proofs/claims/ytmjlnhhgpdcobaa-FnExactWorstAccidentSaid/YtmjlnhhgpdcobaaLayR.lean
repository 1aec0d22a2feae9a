/-
  The library's sort of hits by a comparison, laid at this program.
  Conditions: none. Written by wip/genlay.py out of the kit's plain laying.
-/
import Derived.Test.YtmjlnhhgpdcobaaProg
import Derived.Ground.SlsfProg
import Derived.Shelf.SlSortCmp.WholeK
namespace Go.Proofs
open Go.Shelf
def Try.sortHit_ren : Go.Shelf.Ren := ⟨fun | 6 => 58 | 15 => 68 | 14 => 67 | 28 => 83 | 29 => 84 | 20 => 75 | 21 => 76 | 22 => 77 | 23 => 78 | 24 => 79 | 25 => 80 | 26 => 81 | 27 => 82 | 46 => 86 | 47 => 87 | 48 => 88 | 49 => 89 | 50 => 90 | 57 => 91 | n => n, fun | 22 => 105 | 24 => 104 | 25 => 123 | 3 => 3 | 39 => 113 | 0 => 0 | 53 => 137 | 55 => 140 | 4 => 4 | 46 => 145 | 45 => 144 | 50 => 77 | 5 => 5 | 9 => 9 | 66 => 153 | 70 => 157 | 76 => 159 | 77 => 160 | n => n, fun | n => n⟩
theorem Try.sortHit : Go.Proofs.SlLaysF0.n6 Try.prog Try.sortHit_ren := {
  mixed := by kernel_rfl
  f6 := ⟨Try.f58.name, by decide, Try.func58.trans (congrArg some (by kernel_rfl))⟩
  f14 := ⟨Try.f67.name, by decide, Try.func67.trans (congrArg some (by kernel_rfl))⟩
  f15 := Try.func68.trans (congrArg some (by kernel_rfl))
  f20 := ⟨Try.f75.name, by decide, Try.func75.trans (congrArg some (by kernel_rfl))⟩
  f21 := ⟨Try.f76.name, by decide, Try.func76.trans (congrArg some (by kernel_rfl))⟩
  f22 := ⟨Try.f77.name, by decide, Try.func77.trans (congrArg some (by kernel_rfl))⟩
  f23 := ⟨Try.f78.name, by decide, Try.func78.trans (congrArg some (by kernel_rfl))⟩
  f24 := ⟨Try.f79.name, by decide, Try.func79.trans (congrArg some (by kernel_rfl))⟩
  f25 := ⟨Try.f80.name, by decide, Try.func80.trans (congrArg some (by kernel_rfl))⟩
  f26 := ⟨Try.f81.name, by decide, Try.func81.trans (congrArg some (by kernel_rfl))⟩
  f27 := ⟨Try.f82.name, by decide, Try.func82.trans (congrArg some (by kernel_rfl))⟩
  f28 := Try.func83.trans (congrArg some (by kernel_rfl))
  f29 := Try.func84.trans (congrArg some (by kernel_rfl))
  f46 := ⟨Try.f86.name, by decide, Try.func86.trans (congrArg some (by kernel_rfl))⟩
  f47 := Try.func87.trans (congrArg some (by kernel_rfl))
  f48 := Try.func88.trans (congrArg some (by kernel_rfl))
  f49 := ⟨Try.f89.name, by decide, Try.func89.trans (congrArg some (by kernel_rfl))⟩
  f50 := ⟨Try.f90.name, by decide, Try.func90.trans (congrArg some (by kernel_rfl))⟩
  f57 := ⟨Try.f91.name, by decide, Try.func91.trans (congrArg some (by kernel_rfl))⟩
  t0 := Try.underlying0
  a0 := Try.isAgg0
  z0 := Try.sizeOf0
  v0 := Try.zeroValue0
  t3 := Try.underlying3
  a3 := Try.isAgg3
  z3 := Try.sizeOf3
  v3 := Try.zeroValue3
  t4 := Try.underlying4
  a4 := Try.isAgg4
  z4 := Try.sizeOf4
  v4 := Try.zeroValue4
  t5 := Try.underlying5
  a5 := Try.isAgg5
  z5 := Try.sizeOf5
  v5 := Try.zeroValue5
  t9 := Try.underlying9
  a9 := Try.isAgg9
  z9 := Try.sizeOf9
  v9 := Try.zeroValue9
  t22 := Try.underlying105
  a22 := Try.isAgg105
  z22 := Try.sizeOf105
  v22 := Try.zeroValue105
  t25 := Try.underlying123
  a25 := Try.isAgg123
  z25 := Try.sizeOf123
  v25 := Try.zeroValue123
  t39 := Try.underlying113
  a39 := Try.isAgg113
  z39 := Try.sizeOf113
  v39 := Try.zeroValue113
  t45 := Try.underlying144
  a45 := Try.isAgg144
  z45 := Try.sizeOf144
  v45 := Try.zeroValue144
  t46 := Try.underlying145
  a46 := Try.isAgg145
  z46 := Try.sizeOf145
  v46 := Try.zeroValue145
  t50 := Try.underlying77
  a50 := Try.isAgg77
  z50 := Try.sizeOf77
  v50 := Try.zeroValue77
  t53 := Try.underlying137
  a53 := Try.isAgg137
  z53 := Try.sizeOf137
  v53 := Try.zeroValue137
  t55 := Try.underlying140
  a55 := Try.isAgg140
  z55 := Try.sizeOf140
  v55 := Try.zeroValue140
  t66 := Try.underlying153
  a66 := Try.isAgg153
  z66 := Try.sizeOf153
  v66 := Try.zeroValue153
  t70 := Try.underlying157
  a70 := Try.isAgg157
  z70 := Try.sizeOf157
  v70 := Try.zeroValue157
  t76 := Try.underlying159
  a76 := Try.isAgg159
  z76 := Try.sizeOf159
  v76 := Try.zeroValue159
  t77 := Try.underlying160
  a77 := Try.isAgg160
  z77 := Try.sizeOf160
  v77 := Try.zeroValue160 }
end Go.Proofs
