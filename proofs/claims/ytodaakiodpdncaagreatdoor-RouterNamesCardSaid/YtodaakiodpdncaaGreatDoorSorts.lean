/- What slices.Sorted(maps.Keys(m)) gives at this program: the library's contracts, in the engine's words. -/
import Derived.Test.YtodaakiodpdncaaGreatDoorShelf
import Derived.Test.YtodaakiodpdncaaGreatDoorEngSorted
set_option linter.unusedVariables false
set_option linter.unusedSimpArgs false
namespace Go.Proofs.YtodaakiodpdncaaGreatDoor.Eng
open Go Go.RowKit Go.Maps Go.Sort Go.Shelf Go.Proofs
theorem sorts36 (m : Nat) : AnyZ.SortsIn Tryz.prog Tryz.sorted36_ren Fence.wide m :=
  ⟨fun blk off cap ss W hH hblk hsz => callsIn_wide.2 (AnyM.slices_Sort_string Tryz.sort82 blk off cap ss W hH hblk hsz),
   fun p cap W => callsIn_wide.2 (AnyM.slices_Sort_string_none Tryz.sort82 p cap W)⟩
set_option maxHeartbeats 1000000 in
theorem sorted36_83 : SortsStr Tryz.prog 36 83 9 := by
  intro Bm b nn D0 R w hBm hcell hown hmax hbytes
  refine (callsIn_wide (n := 5)).1 ?_
  have hseq : SeqGives Fence.wide 2 Tryz.prog 83 #[.pointer (some ⟨Bm, 0, none⟩)] encStr (fun ss => ss.Perm (strKeys D0)) (Maps.size D0) w :=
    AnyZ.keys_gives (ρ := Tryz.keys37_ren) { Tryz.keys37 with } Fence.wide _ trivial rfl (by omega) Bm b nn D0 _ hBm hcell hown
  exact AnyZ.sorted_in Tryz.sorted36 Fence.wide 5 trivial trivial trivial trivial rfl (by omega) (sorts36 _) (enters_of Tryz.func82 (by kernel_rfl) rfl) 83 #[.pointer (some ⟨Bm, 0, none⟩)] trivial (enters_of Tryz.func83 (by kernel_rfl) rfl) _ _ hmax hbytes _ hseq
set_option maxHeartbeats 1000000 in
theorem sorted36_96 : SortsStr Tryz.prog 36 96 9 := by
  intro Bm b nn D0 R w hBm hcell hown hmax hbytes
  refine (callsIn_wide (n := 5)).1 ?_
  have hseq : SeqGives Fence.wide 2 Tryz.prog 96 #[.pointer (some ⟨Bm, 0, none⟩)] encStr (fun ss => ss.Perm (strKeys D0)) (Maps.size D0) w :=
    AnyZ.keys_gives (ρ := Tryz.keys50_ren) { Tryz.keys50 with } Fence.wide _ trivial rfl (by omega) Bm b nn D0 _ hBm hcell hown
  exact AnyZ.sorted_in Tryz.sorted36 Fence.wide 5 trivial trivial trivial trivial rfl (by omega) (sorts36 _) (enters_of Tryz.func82 (by kernel_rfl) rfl) 96 #[.pointer (some ⟨Bm, 0, none⟩)] trivial (enters_of Tryz.func96 (by kernel_rfl) rfl) _ _ hmax hbytes _ hseq
set_option maxHeartbeats 1000000 in
theorem sorted36_173 : SortsStr Tryz.prog 36 173 9 := by
  intro Bm b nn D0 R w hBm hcell hown hmax hbytes
  refine (callsIn_wide (n := 5)).1 ?_
  have hseq : SeqGives Fence.wide 2 Tryz.prog 173 #[.pointer (some ⟨Bm, 0, none⟩)] encStr (fun ss => ss.Perm (strKeys D0)) (Maps.size D0) w :=
    AnyZ.keys_gives (ρ := Tryz.keys140_ren) { Tryz.keys140 with } Fence.wide _ trivial rfl (by omega) Bm b nn D0 _ hBm hcell hown
  exact AnyZ.sorted_in Tryz.sorted36 Fence.wide 5 trivial trivial trivial trivial rfl (by omega) (sorts36 _) (enters_of Tryz.func82 (by kernel_rfl) rfl) 173 #[.pointer (some ⟨Bm, 0, none⟩)] trivial (enters_of Tryz.func173 (by kernel_rfl) rfl) _ _ hmax hbytes _ hseq
end Go.Proofs.YtodaakiodpdncaaGreatDoor.Eng
