/- What slices.Sorted(maps.Keys(m)) gives at this program: the library's contracts, in the engine's words. -/
import Derived.Test.YtfojlkdcjjhnmaaGreatDoorShelf
import Derived.Test.YtfojlkdcjjhnmaaGreatDoorEngSorted
set_option linter.unusedVariables false
set_option linter.unusedSimpArgs false
namespace Go.Proofs.YtfojlkdcjjhnmaaGreatDoor.Eng
open Go Go.RowKit Go.Maps Go.Sort Go.Shelf Go.Proofs
theorem sorts33 (m : Nat) : AnyZI.SortsIn Tryz.prog Tryz.sorted33_ren Fence.wide m :=
  ⟨fun blk off cap ss W hH hblk hsz => callsIn_wide.2 (AnyM.slices_Sort_int Tryz.sort58 blk off cap ss W hH hblk hsz),
   fun p cap W => callsIn_wide.2 (AnyM.slices_Sort_int_none Tryz.sort58 p cap W)⟩
set_option maxHeartbeats 1000000 in
theorem sorted33_59 : SortsInt Tryz.prog 33 59 3 := by
  intro Bm b nn D0 R w hBm hcell hown hmax hbytes
  refine (callsIn_wide (n := 5)).1 ?_
  have hseq : SeqGives Fence.wide 2 Tryz.prog 59 #[.pointer (some ⟨Bm, 0, none⟩)] encZ (fun ss => ss.Perm (intKeys D0)) (Maps.size D0) w :=
    AnyZI.keys_gives (ρ := Tryz.keys34_ren) { Tryz.keys34 with } Fence.wide _ trivial rfl (by omega) Bm b nn D0 _ hBm hcell hown
  exact AnyZI.sorted_in Tryz.sorted33 Fence.wide 5 trivial trivial trivial trivial rfl (by omega) (sorts33 _) (enters_of Tryz.func58 (by kernel_rfl) rfl) 59 #[.pointer (some ⟨Bm, 0, none⟩)] trivial (enters_of Tryz.func59 (by kernel_rfl) rfl) _ _ hmax hbytes _ hseq
set_option maxHeartbeats 1000000 in
theorem sorted33_63 : SortsInt Tryz.prog 33 63 3 := by
  intro Bm b nn D0 R w hBm hcell hown hmax hbytes
  refine (callsIn_wide (n := 5)).1 ?_
  have hseq : SeqGives Fence.wide 2 Tryz.prog 63 #[.pointer (some ⟨Bm, 0, none⟩)] encZ (fun ss => ss.Perm (intKeys D0)) (Maps.size D0) w :=
    AnyZI.keys_gives (ρ := Tryz.keys40_ren) { Tryz.keys40 with } Fence.wide _ trivial rfl (by omega) Bm b nn D0 _ hBm hcell hown
  exact AnyZI.sorted_in Tryz.sorted33 Fence.wide 5 trivial trivial trivial trivial rfl (by omega) (sorts33 _) (enters_of Tryz.func58 (by kernel_rfl) rfl) 63 #[.pointer (some ⟨Bm, 0, none⟩)] trivial (enters_of Tryz.func63 (by kernel_rfl) rfl) _ _ hmax hbytes _ hseq
theorem sorts64 (m : Nat) : AnyZ.SortsIn Tryz.prog Tryz.sorted64_ren Fence.wide m :=
  ⟨fun blk off cap ss W hH hblk hsz => callsIn_wide.2 (AnyM.slices_Sort_string Tryz.sort89 blk off cap ss W hH hblk hsz),
   fun p cap W => callsIn_wide.2 (AnyM.slices_Sort_string_none Tryz.sort89 p cap W)⟩
set_option maxHeartbeats 1000000 in
theorem sorted64_90 : SortsStr Tryz.prog 64 90 9 := by
  intro Bm b nn D0 R w hBm hcell hown hmax hbytes
  refine (callsIn_wide (n := 5)).1 ?_
  have hseq : SeqGives Fence.wide 2 Tryz.prog 90 #[.pointer (some ⟨Bm, 0, none⟩)] encStr (fun ss => ss.Perm (strKeys D0)) (Maps.size D0) w :=
    AnyZ.keys_gives (ρ := Tryz.keys65_ren) { Tryz.keys65 with } Fence.wide _ trivial rfl (by omega) Bm b nn D0 _ hBm hcell hown
  exact AnyZ.sorted_in Tryz.sorted64 Fence.wide 5 trivial trivial trivial trivial rfl (by omega) (sorts64 _) (enters_of Tryz.func89 (by kernel_rfl) rfl) 90 #[.pointer (some ⟨Bm, 0, none⟩)] trivial (enters_of Tryz.func90 (by kernel_rfl) rfl) _ _ hmax hbytes _ hseq
end Go.Proofs.YtfojlkdcjjhnmaaGreatDoor.Eng
