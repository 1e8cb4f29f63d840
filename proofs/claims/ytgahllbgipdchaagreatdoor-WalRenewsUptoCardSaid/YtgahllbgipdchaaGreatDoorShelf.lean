/-
  DERIVED: THE SHELF's CONTRACTS AT THIS DUMP, IN PLAIN WORDS (tools/lay-plain.mjs out of 'YtgahllbgipdchaaGreatDoorShelf0.lean', which tools/lay-shelf.mjs wrote): THE SAME DECLARATIONS UNDER THE SAME NAMES: 'import', 'namespace', 'open', 'def', 'theorem' AND NOTHING ELSE: no command of the shelf's: FOR A HAND-IN. Each laying: the table of numbers ('.._ren') and one theorem, a field a fact of the dump's own or the kernel's comparison; each contract: ONE APPLICATION.
-/
import Derived.Shelf.SortM.Plain
import Derived.Shelf.SortM.SortNone
import Derived.Shelf.SlIter.Nil
import Derived.Ground.GgzProg
import Derived.Ground.SlgmProg
import Derived.Test.YtgahllbgipdchaaGreatDoorProg
set_option linter.unusedVariables false
set_option linter.unusedSimpArgs false
namespace Go.Proofs
open Go.Shelf
def Tryz.keys50_ren : Go.Shelf.Ren := ⟨fun | 7 => 50 | 10 => 66 | n => n, fun | 23 => 68 | 26 => 9 | 3 => 72 | 28 => 100 | 0 => 0 | 27 => 99 | 33 => 65 | 4 => 4 | n => n, fun | n => n⟩
theorem Tryz.keys50 : Go.Proofs.SlLaysZ.n7 Tryz.prog Tryz.keys50_ren := {
  mixed := by kernel_rfl
  f7 := ⟨Tryz.f50.name, by decide, Tryz.func50.trans (congrArg some (by kernel_rfl))⟩
  f10 := ⟨Tryz.f66.name, by decide, Tryz.func66.trans (congrArg some (by kernel_rfl))⟩
  t0 := Tryz.underlying0
  a0 := Tryz.isAgg0
  z0 := Tryz.sizeOf0
  v0 := Tryz.zeroValue0
  t4 := Tryz.underlying4
  a4 := Tryz.isAgg4
  z4 := Tryz.sizeOf4
  v4 := Tryz.zeroValue4
  t23 := Tryz.underlying68
  a23 := Tryz.isAgg68
  z23 := Tryz.sizeOf68
  v23 := Tryz.zeroValue68
  t26 := Tryz.underlying9
  a26 := Tryz.isAgg9
  z26 := Tryz.sizeOf9
  v26 := Tryz.zeroValue9
  t27 := Tryz.underlying99
  a27 := Tryz.isAgg99
  z27 := Tryz.sizeOf99
  v27 := Tryz.zeroValue99
  t28 := Tryz.underlying100
  a28 := Tryz.isAgg100
  z28 := Tryz.sizeOf100
  v28 := Tryz.zeroValue100
  t33 := Tryz.underlying65
  a33 := Tryz.isAgg65
  z33 := Tryz.sizeOf65
  v33 := Tryz.zeroValue65 }
def Tryz.sorted49_ren : Go.Shelf.Ren := ⟨fun | 6 => 49 | 8 => 64 | 9 => 65 | 11 => 84 | 13 => 86 | 12 => 85 | 23 => 111 | 24 => 112 | 14 => 102 | 15 => 103 | 16 => 104 | 17 => 105 | 18 => 106 | 19 => 107 | 20 => 108 | 21 => 109 | 22 => 110 | 25 => 123 | 26 => 124 | 27 => 125 | 28 => 126 | 29 => 127 | 30 => 128 | 31 => 135 | n => n, fun | 26 => 9 | 28 => 100 | 24 => 57 | 0 => 0 | 3 => 3 | 37 => 139 | 48 => 123 | 50 => 133 | 4 => 4 | 40 => 159 | 39 => 158 | 45 => 163 | 5 => 5 | 9 => 9 | 51 => 180 | 55 => 184 | 57 => 195 | 58 => 196 | 33 => 65 | n => n, fun | n => n⟩
theorem Tryz.sorted49 : Go.Proofs.SlLaysZ.n6 Tryz.prog Tryz.sorted49_ren := {
  mixed := by kernel_rfl
  f6 := ⟨Tryz.f49.name, by decide, Tryz.func49.trans (congrArg some (by kernel_rfl))⟩
  f8 := ⟨Tryz.f64.name, by decide, Tryz.func64.trans (congrArg some (by kernel_rfl))⟩
  f11 := ⟨Tryz.f84.name, by decide, Tryz.func84.trans (congrArg some (by kernel_rfl))⟩
  t0 := Tryz.underlying0
  a0 := Tryz.isAgg0
  z0 := Tryz.sizeOf0
  v0 := Tryz.zeroValue0
  t24 := Tryz.underlying57
  a24 := Tryz.isAgg57
  z24 := Tryz.sizeOf57
  v24 := Tryz.zeroValue57
  t26 := Tryz.underlying9
  a26 := Tryz.isAgg9
  z26 := Tryz.sizeOf9
  v26 := Tryz.zeroValue9
  t28 := Tryz.underlying100
  a28 := Tryz.isAgg100
  z28 := Tryz.sizeOf100
  v28 := Tryz.zeroValue100
  i26 := by kernel_rfl }
def Tryz.sort65_ren : Go.Shelf.Ren := ⟨fun | 6 => 65 | 8 => 86 | 9 => 85 | 19 => 111 | 20 => 112 | 21 => 102 | 22 => 103 | 23 => 104 | 24 => 105 | 25 => 106 | 26 => 107 | 27 => 108 | 28 => 109 | 29 => 110 | 36 => 123 | 31 => 124 | 32 => 125 | 37 => 126 | 38 => 127 | 39 => 128 | 41 => 135 | n => n, fun | 27 => 57 | 29 => 9 | 3 => 3 | 32 => 139 | 26 => 57 | 0 => 0 | 44 => 123 | 46 => 133 | 4 => 4 | 36 => 159 | 35 => 158 | 41 => 163 | 5 => 5 | 9 => 9 | 53 => 180 | 57 => 184 | 63 => 195 | 64 => 196 | n => n, fun | n => n⟩
theorem Tryz.sort65 : Go.Proofs.SlLaysM.n6 Tryz.prog Tryz.sort65_ren := {
  mixed := by kernel_rfl
  f6 := ⟨Tryz.f65.name, by decide, Tryz.func65.trans (congrArg some (by kernel_rfl))⟩
  f8 := Tryz.func86.trans (congrArg some (by kernel_rfl))
  f9 := ⟨Tryz.f85.name, by decide, Tryz.func85.trans (congrArg some (by kernel_rfl))⟩
  f19 := Tryz.func111.trans (congrArg some (by kernel_rfl))
  f20 := Tryz.func112.trans (congrArg some (by kernel_rfl))
  f21 := ⟨Tryz.f102.name, by decide, Tryz.func102.trans (congrArg some (by kernel_rfl))⟩
  f22 := ⟨Tryz.f103.name, by decide, Tryz.func103.trans (congrArg some (by kernel_rfl))⟩
  f23 := ⟨Tryz.f104.name, by decide, Tryz.func104.trans (congrArg some (by kernel_rfl))⟩
  f24 := ⟨Tryz.f105.name, by decide, Tryz.func105.trans (congrArg some (by kernel_rfl))⟩
  f25 := ⟨Tryz.f106.name, by decide, Tryz.func106.trans (congrArg some (by kernel_rfl))⟩
  f26 := ⟨Tryz.f107.name, by decide, Tryz.func107.trans (congrArg some (by kernel_rfl))⟩
  f27 := ⟨Tryz.f108.name, by decide, Tryz.func108.trans (congrArg some (by kernel_rfl))⟩
  f28 := ⟨Tryz.f109.name, by decide, Tryz.func109.trans (congrArg some (by kernel_rfl))⟩
  f29 := ⟨Tryz.f110.name, by decide, Tryz.func110.trans (congrArg some (by kernel_rfl))⟩
  f31 := Tryz.func124.trans (congrArg some (by kernel_rfl))
  f32 := Tryz.func125.trans (congrArg some (by kernel_rfl))
  f36 := ⟨Tryz.f123.name, by decide, Tryz.func123.trans (congrArg some (by kernel_rfl))⟩
  f37 := ⟨Tryz.f126.name, by decide, Tryz.func126.trans (congrArg some (by kernel_rfl))⟩
  f38 := ⟨Tryz.f127.name, by decide, Tryz.func127.trans (congrArg some (by kernel_rfl))⟩
  f39 := ⟨Tryz.f128.name, by decide, Tryz.func128.trans (congrArg some (by kernel_rfl))⟩
  f41 := ⟨Tryz.f135.name, by decide, Tryz.func135.trans (congrArg some (by kernel_rfl))⟩
  t0 := Tryz.underlying0
  a0 := Tryz.isAgg0
  z0 := Tryz.sizeOf0
  v0 := Tryz.zeroValue0
  t3 := Tryz.underlying3
  a3 := Tryz.isAgg3
  z3 := Tryz.sizeOf3
  v3 := Tryz.zeroValue3
  t4 := Tryz.underlying4
  a4 := Tryz.isAgg4
  z4 := Tryz.sizeOf4
  v4 := Tryz.zeroValue4
  t5 := Tryz.underlying5
  a5 := Tryz.isAgg5
  z5 := Tryz.sizeOf5
  v5 := Tryz.zeroValue5
  t9 := Tryz.underlying9
  a9 := Tryz.isAgg9
  z9 := Tryz.sizeOf9
  v9 := Tryz.zeroValue9
  t26 := Tryz.underlying57
  a26 := Tryz.isAgg57
  z26 := Tryz.sizeOf57
  v26 := Tryz.zeroValue57
  t27 := Tryz.underlying57
  a27 := Tryz.isAgg57
  z27 := Tryz.sizeOf57
  v27 := Tryz.zeroValue57
  t29 := Tryz.underlying9
  a29 := Tryz.isAgg9
  z29 := Tryz.sizeOf9
  v29 := Tryz.zeroValue9
  t32 := Tryz.underlying139
  a32 := Tryz.isAgg139
  z32 := Tryz.sizeOf139
  v32 := Tryz.zeroValue139
  t35 := Tryz.underlying158
  a35 := Tryz.isAgg158
  z35 := Tryz.sizeOf158
  v35 := Tryz.zeroValue158
  t36 := Tryz.underlying159
  a36 := Tryz.isAgg159
  z36 := Tryz.sizeOf159
  v36 := Tryz.zeroValue159
  t41 := Tryz.underlying163
  a41 := Tryz.isAgg163
  z41 := Tryz.sizeOf163
  v41 := Tryz.zeroValue163
  t44 := Tryz.underlying123
  a44 := Tryz.isAgg123
  z44 := Tryz.sizeOf123
  v44 := Tryz.zeroValue123
  t46 := Tryz.underlying133
  a46 := Tryz.isAgg133
  z46 := Tryz.sizeOf133
  v46 := Tryz.zeroValue133
  t53 := Tryz.underlying180
  a53 := Tryz.isAgg180
  z53 := Tryz.sizeOf180
  v53 := Tryz.zeroValue180
  t57 := Tryz.underlying184
  a57 := Tryz.isAgg184
  z57 := Tryz.sizeOf184
  v57 := Tryz.zeroValue184
  t63 := Tryz.underlying195
  a63 := Tryz.isAgg195
  z63 := Tryz.sizeOf195
  v63 := Tryz.zeroValue195
  t64 := Tryz.underlying196
  a64 := Tryz.isAgg196
  z64 := Tryz.sizeOf196
  v64 := Tryz.zeroValue196 }
end Go.Proofs
