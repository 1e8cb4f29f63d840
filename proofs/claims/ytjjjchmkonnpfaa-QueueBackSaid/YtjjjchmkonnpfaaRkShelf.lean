/- slices.SortFunc at items, laid by the kit's lay-plain.mjs. -/
import Derived.Shelf.SlSortCmp.HeapSortK
import Derived.Shelf.SlLaysF0
import Derived.Ground.SlsfProg
import Derived.Test.YtjjjchmkonnpfaaProg
set_option linter.unusedVariables false
set_option linter.unusedSimpArgs false
namespace Go.Proofs
open Go.Shelf
def Try.sortIt_ren : Go.Shelf.Ren := ⟨fun | 6 => 48 | 15 => 61 | 14 => 60 | 28 => 77 | 29 => 78 | 20 => 69 | 21 => 70 | 22 => 71 | 23 => 72 | 24 => 73 | 25 => 74 | 26 => 75 | 27 => 76 | 46 => 90 | 47 => 91 | 48 => 92 | 49 => 93 | 50 => 94 | 57 => 100 | n => n, fun | 22 => 68 | 24 => 71 | 25 => 94 | 3 => 3 | 39 => 105 | 0 => 0 | 53 => 131 | 55 => 133 | 4 => 4 | 46 => 125 | 45 => 124 | 50 => 29 | 5 => 5 | 9 => 9 | 66 => 143 | 70 => 147 | 76 => 153 | 77 => 46 | n => n, fun | n => n⟩
theorem Try.sortIt : Go.Proofs.SlLaysF0.n6 Try.prog Try.sortIt_ren := {
  mixed := by kernel_rfl
  f6 := ⟨Try.f48.name, by decide, Try.func48.trans (congrArg some (by kernel_rfl))⟩
  f14 := ⟨Try.f60.name, by decide, Try.func60.trans (congrArg some (by kernel_rfl))⟩
  f15 := Try.func61.trans (congrArg some (by kernel_rfl))
  f20 := ⟨Try.f69.name, by decide, Try.func69.trans (congrArg some (by kernel_rfl))⟩
  f21 := ⟨Try.f70.name, by decide, Try.func70.trans (congrArg some (by kernel_rfl))⟩
  f22 := ⟨Try.f71.name, by decide, Try.func71.trans (congrArg some (by kernel_rfl))⟩
  f23 := ⟨Try.f72.name, by decide, Try.func72.trans (congrArg some (by kernel_rfl))⟩
  f24 := ⟨Try.f73.name, by decide, Try.func73.trans (congrArg some (by kernel_rfl))⟩
  f25 := ⟨Try.f74.name, by decide, Try.func74.trans (congrArg some (by kernel_rfl))⟩
  f26 := ⟨Try.f75.name, by decide, Try.func75.trans (congrArg some (by kernel_rfl))⟩
  f27 := ⟨Try.f76.name, by decide, Try.func76.trans (congrArg some (by kernel_rfl))⟩
  f28 := Try.func77.trans (congrArg some (by kernel_rfl))
  f29 := Try.func78.trans (congrArg some (by kernel_rfl))
  f46 := ⟨Try.f90.name, by decide, Try.func90.trans (congrArg some (by kernel_rfl))⟩
  f47 := Try.func91.trans (congrArg some (by kernel_rfl))
  f48 := Try.func92.trans (congrArg some (by kernel_rfl))
  f49 := ⟨Try.f93.name, by decide, Try.func93.trans (congrArg some (by kernel_rfl))⟩
  f50 := ⟨Try.f94.name, by decide, Try.func94.trans (congrArg some (by kernel_rfl))⟩
  f57 := ⟨Try.f100.name, by decide, Try.func100.trans (congrArg some (by kernel_rfl))⟩
  t0 := Try.underlying0
  a0 := Try.isAgg0
  z0 := Try.sizeOf0
  v0 := Try.zeroValue0
  t3 := Try.underlying3
  a3 := Try.isAgg3
  z3 := Try.sizeOf3
  v3 := Try.zeroValue3
  t4 := Try.underlying4
  a4 := Try.isAgg4
  z4 := Try.sizeOf4
  v4 := Try.zeroValue4
  t5 := Try.underlying5
  a5 := Try.isAgg5
  z5 := Try.sizeOf5
  v5 := Try.zeroValue5
  t9 := Try.underlying9
  a9 := Try.isAgg9
  z9 := Try.sizeOf9
  v9 := Try.zeroValue9
  t22 := Try.underlying68
  a22 := Try.isAgg68
  z22 := Try.sizeOf68
  v22 := Try.zeroValue68
  t25 := Try.underlying94
  a25 := Try.isAgg94
  z25 := Try.sizeOf94
  v25 := Try.zeroValue94
  t39 := Try.underlying105
  a39 := Try.isAgg105
  z39 := Try.sizeOf105
  v39 := Try.zeroValue105
  t45 := Try.underlying124
  a45 := Try.isAgg124
  z45 := Try.sizeOf124
  v45 := Try.zeroValue124
  t46 := Try.underlying125
  a46 := Try.isAgg125
  z46 := Try.sizeOf125
  v46 := Try.zeroValue125
  t50 := Try.underlying29
  a50 := Try.isAgg29
  z50 := Try.sizeOf29
  v50 := Try.zeroValue29
  t53 := Try.underlying131
  a53 := Try.isAgg131
  z53 := Try.sizeOf131
  v53 := Try.zeroValue131
  t55 := Try.underlying133
  a55 := Try.isAgg133
  z55 := Try.sizeOf133
  v55 := Try.zeroValue133
  t66 := Try.underlying143
  a66 := Try.isAgg143
  z66 := Try.sizeOf143
  v66 := Try.zeroValue143
  t70 := Try.underlying147
  a70 := Try.isAgg147
  z70 := Try.sizeOf147
  v70 := Try.zeroValue147
  t76 := Try.underlying153
  a76 := Try.isAgg153
  z76 := Try.sizeOf153
  v76 := Try.zeroValue153
  t77 := Try.underlying46
  a77 := Try.isAgg46
  z77 := Try.sizeOf46
  v77 := Try.zeroValue46 }
end Go.Proofs
