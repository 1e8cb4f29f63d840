/- Parts of the proof, merged. -/
import Derived.Test.YtdphpillcaajpaaDoorProg
import Derived.KernelRfl
import Derived.WalkKit
import Derived.Shelf.RegionOpenPlain
import Derived.Lib.Strings
import Derived.Lib.Slices
import Derived.Lib.Walk
import Derived.Lib.Builder
import Derived.Lib.UnsafeStr
import Derived.Laws.Externs
set_option linter.unusedVariables false
set_option linter.unusedSimpArgs false
set_option maxRecDepth 100000
set_option linter.unusedSectionVars false
namespace Go.Proofs.YtdphpillcaajpaaDoor.Js
open Go Go.RowKit
set_option maxHeartbeats 4000000 in
theorem b4' (b g cap n : Nat) (l : List UInt8) (w : World) (h0 : l ≠ []) (hlc : l.length <= cap) (hn : l.length <= n) (h63 : l.length <= 9223372036854775807) (hcb : w.cell? ⟨b, 1, none⟩ = some (.slice (some ⟨g, 0, none⟩) l.length cap))
  (hsh : w.shape? g = some (5, n)) (hcell : ∀ j x, l[j]? = some x -> w.cell? ((⟨g, 0, none⟩ : Addr).add j) = some (.int .u8 x.toNat)) :
  Calls Tryd.prog 23 #[.pointer (some ⟨b, 0, none⟩)] w fun e w' => e = .returned (.string ⟨l.toArray⟩) /\ w' = w.drew.freeze ⟨g, 0, none⟩ l.length := by
 have UK' : Tryd.prog.follows .mixedOrders = true := by kernel_rfl
 have hl0 : l.length ≠ 0 := by simpa using h0
 have hcB : Tryd.prog.cellsOf 5 = 1 := by kernel_rfl
 have c1 : w.drew.cell? ⟨b, 1, none⟩ = some (.slice (some ⟨g, 0, none⟩) l.length cap) := hcb
 have hSD : (Builtin.unsafeSliceData_ #[47] 74 #[.slice (some ⟨g, 0, none⟩) l.length cap]).run Tryd.prog w.drew = .ok (.pointer (some ⟨g, 0, none⟩)) w.drew :=
  Lib.run_unsafeSliceData_row _ _ _ _ _ _ (by omega)
 have hUS : (Builtin.unsafeString_ #[74, 3] 9 #[.pointer (some ⟨g, 0, none⟩), .int .i64 l.length]).run Tryd.prog w.drew = .ok (.string ⟨l.toArray⟩) (w.drew.freeze ⟨g, 0, none⟩ l.length) :=
  Lib.run_unsafeString_row w.drew 74 3 9 5 Tryd.underlying74 hcB g n hsh l h0 hn h63 hcell
 go_enter Tryd.func23, Tryd.ntmps23
 go_wp2
 go_region_o
 all_goals (go_wp2; go_ret; exact ⟨rfl, rfl⟩)
theorem YG' {P : Program} {d c e : Nat} (hd : ∃ k, P.depth = k + 1) (hc : 1 <= c) (hs : P.cellsOf e ≠ 0) : liesAt P P.depth e c 0 e 1 = true := by
 obtain ⟨k, hk⟩ := hd; rw [hk]; unfold liesAt; rw [hk]; unfold rowAt; simp only [hs, if_false, Nat.zero_div, Nat.zero_mod, Nat.zero_add]; unfold sameLayout; simp [hc]
set_option maxHeartbeats 4000000 in
theorem n6' (b : Nat) (w : World) (h0 : w.cell? ⟨b, 0, none⟩ = some (.pointer (some ⟨b, 0, none⟩))) :
  Calls Tryd.prog 54 #[.pointer (some ⟨b, 0, none⟩)] w fun e w' => e = .returned (.tuple #[]) /\ w' = w := by
 have hj : Tryd.prog.info? 49 = some ((Tryd.prog.info? 49).getD default) := by kernel_rfl
 go_enter Tryd.func54, Tryd.ntmps54
 go_wp2
 rw [Lib.run_neq_ptr_same w _ Tryd.underlying46 hj]
 go_wp2
 go_end0
 exact ⟨rfl, rfl⟩
set_option maxHeartbeats 4000000 in
theorem f9' (b : Nat) (w : World) (n : Nat) (hn : 2 <= n) (h0 : w.cell? ⟨b, 0, none⟩ = some (.pointer none)) (hsh : w.shape? b = some (49, n)) (hfz : w.frozen? ⟨b, 0, none⟩ = false) :
  Calls Tryd.prog 54 #[.pointer (some ⟨b, 0, none⟩)] w fun e w' => e = .returned (.tuple #[]) /\ w' = w.setCell ⟨b, 0, none⟩ (.pointer (some ⟨b, 0, none⟩)) := by
 have hj : Tryd.prog.info? 49 = some ((Tryd.prog.info? 49).getD default) := by kernel_rfl
 have hjs : ((Tryd.prog.info? 49).getD default).size ≠ 0 := by decide +kernel
 have hc2 : Tryd.prog.cellsOf 49 = 2 := by kernel_rfl
 have hl : liesAt Tryd.prog Tryd.prog.depth 49 (n / Tryd.prog.cellsOf 49) 0 49 1 = true := YG' (d := 0) ⟨Tryd.prog.depth - 1, by kernel_rfl⟩ (by rw [hc2]; omega) (by rw [hc2]; decide)
 go_enter Tryd.func54, Tryd.ntmps54
 go_wp2
 rw [Lib.run_to_unsafe w ⟨b, 0, none⟩ Tryd.underlying46 Tryd.underlying101 hj hjs hsh (by show 0 < n; omega)]; simp only [Result.andThen]; rw [Oper.upon_value]
 go_wp2
 rw [run_callFunc_extern Tryd.func75 (by kernel_rfl) (by kernel_rfl) (by kernel_rfl) (e := Extern.AbiNoEscape.same) (by kernel_rfl)]; rw [Lib.run_noEscape]; simp only [Result.andThen]; rw [Oper.upon_value]
 go_wp2
 rw [Lib.run_from_unsafe w ⟨b, 0, none⟩ Tryd.underlying101 Tryd.underlying46 hj hsh hl]; simp only [Result.andThen]; rw [Oper.upon_value]
 go_wp2
 go_end0
 exact ⟨rfl, rfl⟩
end Go.Proofs.YtdphpillcaajpaaDoor.Js
