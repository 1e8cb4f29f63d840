/- What slices.Sorted(maps.Keys(m)) gives at this program: the library's contracts, in the engine's words. -/
import Derived.Test.YtbmoancedlbhlaaDoorShelf
import Derived.Test.YtbmoancedlbhlaaDoorEngSorted
set_option linter.unusedVariables false
set_option linter.unusedSimpArgs false
namespace Go.Proofs.YtbmoancedlbhlaaDoor.Eng
open Go Go.RowKit Go.Maps Go.Sort Go.Shelf Go.Proofs
theorem sorts27 (m : Nat) : AnyZ.SortsIn Tryd.prog Tryd.sorted27_ren Fence.wide m :=
  ⟨fun blk off cap ss W hH hblk hsz => callsIn_wide.2 (AnyM.slices_Sort_string Tryd.sort32 blk off cap ss W hH hblk hsz),
   fun p cap W => callsIn_wide.2 (AnyM.slices_Sort_string_none Tryd.sort32 p cap W)⟩
set_option maxHeartbeats 1000000 in
theorem sorted27_33 : SortsStr Tryd.prog 27 33 9 := by
  intro Bm b nn D0 R w hBm hcell hown hmax hbytes
  refine (callsIn_wide (n := 5)).1 ?_
  have hseq : SeqGives Fence.wide 2 Tryd.prog 33 #[.pointer (some ⟨Bm, 0, none⟩)] encStr (fun ss => ss.Perm (strKeys D0)) (Maps.size D0) w :=
    AnyZ.keys_gives (ρ := Tryd.keys28_ren) { Tryd.keys28 with } Fence.wide _ trivial rfl (by omega) Bm b nn D0 _ hBm hcell hown
  exact AnyZ.sorted_in Tryd.sorted27 Fence.wide 5 trivial trivial trivial trivial rfl (by omega) (sorts27 _) (enters_of Tryd.func32 (by kernel_rfl) rfl) 33 #[.pointer (some ⟨Bm, 0, none⟩)] trivial (enters_of Tryd.func33 (by kernel_rfl) rfl) _ _ hmax hbytes _ hseq
end Go.Proofs.YtbmoancedlbhlaaDoor.Eng
