/-
  DERIVED: THE SHELF's CONTRACTS AT THIS DUMP, IN PLAIN WORDS (tools/lay-plain.mjs out of 'YtbmoancedlbhlaaDoorShelf0.lean', which tools/lay-shelf.mjs wrote): THE SAME DECLARATIONS UNDER THE SAME NAMES: 'import', 'namespace', 'open', 'def', 'theorem' AND NOTHING ELSE: no command of the shelf's: FOR A HAND-IN. Each laying: the table of numbers ('.._ren') and one theorem, a field a fact of the dump's own or the kernel's comparison; each contract: ONE APPLICATION.
-/
import Derived.Shelf.SortM.Plain
import Derived.Shelf.SortM.SortNone
import Derived.Shelf.SlIter.Nil
import Derived.Ground.GgzProg
import Derived.Ground.SlgmProg
import Derived.Test.YtbmoancedlbhlaaDoorProg
import Derived.Shelf.SlMaps.Copy
import Derived.Ground.SlmpProg
set_option linter.unusedVariables false
set_option linter.unusedSimpArgs false
namespace Go.Proofs
open Go.Shelf
def Tryd.keys28_ren : Go.Shelf.Ren := ⟨fun | 7 => 28 | 10 => 33 | n => n, fun | 23 => 47 | 26 => 9 | 3 => 3 | 28 => 62 | 0 => 0 | 27 => 61 | 33 => 67 | 4 => 4 | n => n, fun | n => n⟩
theorem Tryd.keys28 : Go.Proofs.SlLaysZ.n7 Tryd.prog Tryd.keys28_ren := {
  mixed := by kernel_rfl
  f7 := ⟨Tryd.f28.name, by decide, Tryd.func28.trans (congrArg some (by kernel_rfl))⟩
  f10 := ⟨Tryd.f33.name, by decide, Tryd.func33.trans (congrArg some (by kernel_rfl))⟩
  t0 := Tryd.underlying0
  a0 := Tryd.isAgg0
  z0 := Tryd.sizeOf0
  v0 := Tryd.zeroValue0
  t4 := Tryd.underlying4
  a4 := Tryd.isAgg4
  z4 := Tryd.sizeOf4
  v4 := Tryd.zeroValue4
  t23 := Tryd.underlying47
  a23 := Tryd.isAgg47
  z23 := Tryd.sizeOf47
  v23 := Tryd.zeroValue47
  t26 := Tryd.underlying9
  a26 := Tryd.isAgg9
  z26 := Tryd.sizeOf9
  v26 := Tryd.zeroValue9
  t27 := Tryd.underlying61
  a27 := Tryd.isAgg61
  z27 := Tryd.sizeOf61
  v27 := Tryd.zeroValue61
  t28 := Tryd.underlying62
  a28 := Tryd.isAgg62
  z28 := Tryd.sizeOf62
  v28 := Tryd.zeroValue62
  t33 := Tryd.underlying67
  a33 := Tryd.isAgg67
  z33 := Tryd.sizeOf67
  v33 := Tryd.zeroValue67 }
def Tryd.sorted27_ren : Go.Shelf.Ren := ⟨fun | 6 => 27 | 8 => 31 | 9 => 32 | 11 => 35 | 13 => 37 | 12 => 36 | 23 => 50 | 24 => 51 | 14 => 41 | 15 => 42 | 16 => 43 | 17 => 44 | 18 => 45 | 19 => 46 | 20 => 47 | 21 => 48 | 22 => 49 | 25 => 56 | 26 => 57 | 27 => 58 | 28 => 59 | 29 => 60 | 30 => 61 | 31 => 67 | n => n, fun | 26 => 9 | 28 => 62 | 24 => 32 | 0 => 0 | 3 => 3 | 37 => 72 | 48 => 84 | 50 => 86 | 4 => 4 | 40 => 77 | 39 => 76 | 45 => 81 | 5 => 5 | 9 => 9 | 51 => 91 | 55 => 95 | 57 => 98 | 58 => 99 | 33 => 67 | n => n, fun | n => n⟩
theorem Tryd.sorted27 : Go.Proofs.SlLaysZ.n6 Tryd.prog Tryd.sorted27_ren := {
  mixed := by kernel_rfl
  f6 := ⟨Tryd.f27.name, by decide, Tryd.func27.trans (congrArg some (by kernel_rfl))⟩
  f8 := ⟨Tryd.f31.name, by decide, Tryd.func31.trans (congrArg some (by kernel_rfl))⟩
  f11 := ⟨Tryd.f35.name, by decide, Tryd.func35.trans (congrArg some (by kernel_rfl))⟩
  t0 := Tryd.underlying0
  a0 := Tryd.isAgg0
  z0 := Tryd.sizeOf0
  v0 := Tryd.zeroValue0
  t24 := Tryd.underlying32
  a24 := Tryd.isAgg32
  z24 := Tryd.sizeOf32
  v24 := Tryd.zeroValue32
  t26 := Tryd.underlying9
  a26 := Tryd.isAgg9
  z26 := Tryd.sizeOf9
  v26 := Tryd.zeroValue9
  t28 := Tryd.underlying62
  a28 := Tryd.isAgg62
  z28 := Tryd.sizeOf62
  v28 := Tryd.zeroValue62
  i26 := by kernel_rfl }
def Tryd.sort32_ren : Go.Shelf.Ren := ⟨fun | 6 => 32 | 8 => 37 | 9 => 36 | 19 => 50 | 20 => 51 | 21 => 41 | 22 => 42 | 23 => 43 | 24 => 44 | 25 => 45 | 26 => 46 | 27 => 47 | 28 => 48 | 29 => 49 | 36 => 56 | 31 => 57 | 32 => 58 | 37 => 59 | 38 => 60 | 39 => 61 | 41 => 67 | n => n, fun | 27 => 32 | 29 => 9 | 3 => 3 | 32 => 72 | 26 => 32 | 0 => 0 | 44 => 84 | 46 => 86 | 4 => 4 | 36 => 77 | 35 => 76 | 41 => 81 | 5 => 5 | 9 => 9 | 53 => 91 | 57 => 95 | 63 => 98 | 64 => 99 | n => n, fun | n => n⟩
theorem Tryd.sort32 : Go.Proofs.SlLaysM.n6 Tryd.prog Tryd.sort32_ren := {
  mixed := by kernel_rfl
  f6 := ⟨Tryd.f32.name, by decide, Tryd.func32.trans (congrArg some (by kernel_rfl))⟩
  f8 := Tryd.func37.trans (congrArg some (by kernel_rfl))
  f9 := ⟨Tryd.f36.name, by decide, Tryd.func36.trans (congrArg some (by kernel_rfl))⟩
  f19 := Tryd.func50.trans (congrArg some (by kernel_rfl))
  f20 := Tryd.func51.trans (congrArg some (by kernel_rfl))
  f21 := ⟨Tryd.f41.name, by decide, Tryd.func41.trans (congrArg some (by kernel_rfl))⟩
  f22 := ⟨Tryd.f42.name, by decide, Tryd.func42.trans (congrArg some (by kernel_rfl))⟩
  f23 := ⟨Tryd.f43.name, by decide, Tryd.func43.trans (congrArg some (by kernel_rfl))⟩
  f24 := ⟨Tryd.f44.name, by decide, Tryd.func44.trans (congrArg some (by kernel_rfl))⟩
  f25 := ⟨Tryd.f45.name, by decide, Tryd.func45.trans (congrArg some (by kernel_rfl))⟩
  f26 := ⟨Tryd.f46.name, by decide, Tryd.func46.trans (congrArg some (by kernel_rfl))⟩
  f27 := ⟨Tryd.f47.name, by decide, Tryd.func47.trans (congrArg some (by kernel_rfl))⟩
  f28 := ⟨Tryd.f48.name, by decide, Tryd.func48.trans (congrArg some (by kernel_rfl))⟩
  f29 := ⟨Tryd.f49.name, by decide, Tryd.func49.trans (congrArg some (by kernel_rfl))⟩
  f31 := Tryd.func57.trans (congrArg some (by kernel_rfl))
  f32 := Tryd.func58.trans (congrArg some (by kernel_rfl))
  f36 := ⟨Tryd.f56.name, by decide, Tryd.func56.trans (congrArg some (by kernel_rfl))⟩
  f37 := ⟨Tryd.f59.name, by decide, Tryd.func59.trans (congrArg some (by kernel_rfl))⟩
  f38 := ⟨Tryd.f60.name, by decide, Tryd.func60.trans (congrArg some (by kernel_rfl))⟩
  f39 := ⟨Tryd.f61.name, by decide, Tryd.func61.trans (congrArg some (by kernel_rfl))⟩
  f41 := ⟨Tryd.f67.name, by decide, Tryd.func67.trans (congrArg some (by kernel_rfl))⟩
  t0 := Tryd.underlying0
  a0 := Tryd.isAgg0
  z0 := Tryd.sizeOf0
  v0 := Tryd.zeroValue0
  t3 := Tryd.underlying3
  a3 := Tryd.isAgg3
  z3 := Tryd.sizeOf3
  v3 := Tryd.zeroValue3
  t4 := Tryd.underlying4
  a4 := Tryd.isAgg4
  z4 := Tryd.sizeOf4
  v4 := Tryd.zeroValue4
  t5 := Tryd.underlying5
  a5 := Tryd.isAgg5
  z5 := Tryd.sizeOf5
  v5 := Tryd.zeroValue5
  t9 := Tryd.underlying9
  a9 := Tryd.isAgg9
  z9 := Tryd.sizeOf9
  v9 := Tryd.zeroValue9
  t26 := Tryd.underlying32
  a26 := Tryd.isAgg32
  z26 := Tryd.sizeOf32
  v26 := Tryd.zeroValue32
  t27 := Tryd.underlying32
  a27 := Tryd.isAgg32
  z27 := Tryd.sizeOf32
  v27 := Tryd.zeroValue32
  t29 := Tryd.underlying9
  a29 := Tryd.isAgg9
  z29 := Tryd.sizeOf9
  v29 := Tryd.zeroValue9
  t32 := Tryd.underlying72
  a32 := Tryd.isAgg72
  z32 := Tryd.sizeOf72
  v32 := Tryd.zeroValue72
  t35 := Tryd.underlying76
  a35 := Tryd.isAgg76
  z35 := Tryd.sizeOf76
  v35 := Tryd.zeroValue76
  t36 := Tryd.underlying77
  a36 := Tryd.isAgg77
  z36 := Tryd.sizeOf77
  v36 := Tryd.zeroValue77
  t41 := Tryd.underlying81
  a41 := Tryd.isAgg81
  z41 := Tryd.sizeOf81
  v41 := Tryd.zeroValue81
  t44 := Tryd.underlying84
  a44 := Tryd.isAgg84
  z44 := Tryd.sizeOf84
  v44 := Tryd.zeroValue84
  t46 := Tryd.underlying86
  a46 := Tryd.isAgg86
  z46 := Tryd.sizeOf86
  v46 := Tryd.zeroValue86
  t53 := Tryd.underlying91
  a53 := Tryd.isAgg91
  z53 := Tryd.sizeOf91
  v53 := Tryd.zeroValue91
  t57 := Tryd.underlying95
  a57 := Tryd.isAgg95
  z57 := Tryd.sizeOf95
  v57 := Tryd.zeroValue95
  t63 := Tryd.underlying98
  a63 := Tryd.isAgg98
  z63 := Tryd.sizeOf98
  v63 := Tryd.zeroValue98
  t64 := Tryd.underlying99
  a64 := Tryd.isAgg99
  z64 := Tryd.sizeOf99
  v64 := Tryd.zeroValue99 }
def Tryd.copy26_ren : Go.Shelf.Ren := ⟨fun | 5 => 26 | n => n, fun | 23 => 47 | 24 => 47 | 26 => 9 | 27 => 3 | 0 => 0 | 4 => 4 | n => n, fun | n => n⟩
theorem Tryd.copy26 : Go.Proofs.SlLaysX.n5 Tryd.prog Tryd.copy26_ren := {
  mixed := by kernel_rfl
  f5 := ⟨Tryd.f26.name, by decide, Tryd.func26.trans (congrArg some (by kernel_rfl))⟩
  t0 := Tryd.underlying0
  a0 := Tryd.isAgg0
  z0 := Tryd.sizeOf0
  v0 := Tryd.zeroValue0
  t4 := Tryd.underlying4
  a4 := Tryd.isAgg4
  z4 := Tryd.sizeOf4
  v4 := Tryd.zeroValue4
  t23 := Tryd.underlying47
  a23 := Tryd.isAgg47
  z23 := Tryd.sizeOf47
  v23 := Tryd.zeroValue47
  t24 := Tryd.underlying47
  a24 := Tryd.isAgg47
  z24 := Tryd.sizeOf47
  v24 := Tryd.zeroValue47
  a26 := Tryd.isAgg9
  z26 := Tryd.sizeOf9
  a27 := Tryd.isAgg3
  z27 := Tryd.sizeOf3 }
end Go.Proofs
