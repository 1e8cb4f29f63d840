/- Parts of the proof, merged. -/
import Derived.Test.YtfledabgdcnkfaaPd3
import Derived.Test.YtfledabgdcnkfaaPd2
/- The walk of the law's own look at what the document fixes. -/
set_option linter.unusedVariables false
set_option linter.unusedSimpArgs false
namespace Go.Proofs.Ytfledabgdcnkfaa
open Go.RowKit
namespace Pol
def fldS : Fld := ⟨⟨#[120, 45, 109, 97, 120, 45, 108, 101, 110, 103, 116, 104]⟩, ⟨73, 3, ⟨#[]⟩, .slice none 0 0, .slice none 0 0⟩⟩
def confS : Conf := { Conf.none with mlen := 3 }
theorem argsS : setAll [fldS] Conf.none = (0, confS) := by
  simp [setAll, setCode, fldS, numCode, confS, Conf.none]
def polS : Pol := ⟨⟨#[47]⟩, ⟨#[110]⟩, ⟨#[113, 42]⟩, ⟨#[97, 108, 108]⟩, 0, Conf.zero⟩
theorem pickS : pick ⟨#[47]⟩ ⟨#[113, 49]⟩ ⟨#[113, 117, 101, 117, 101, 115]⟩ [polS] = (true, polS) := by
  simp [pick, pickStep, fits, polS, Glob.gm, Glob.gany]
def permS : Perm := ⟨⟨#[117]⟩, ⟨#[47]⟩, ⟨#[]⟩, ⟨#[]⟩, ⟨#[42]⟩⟩
theorem mayS : [permS].any (may1 ⟨#[117]⟩ ⟨#[47]⟩ 2 ⟨#[120]⟩) = true := by
  simp [may1, permS, Glob.gm, Glob.gany]
theorem globS1 : Glob.gm [97, 42, 99] [97, 98, 98, 99] = true := by decide
theorem globS2 : Glob.gm [97, 42, 99] [97, 98, 99, 100] = false := by decide
theorem mergeS : merge Conf.none confS = confS := rfl

theorem scInt : scalar Try.prog 3 = true := by kernel_rfl
theorem noneArr : Conf.none.cells.toArray = #[.int .i64 (-1), .int .i64 (-1), .int .i64 (-1), .int .i64 (-1), .string ⟨#[]⟩, .string ⟨#[]⟩, .string ⟨#[]⟩, .bool false, .bool false, .bool false] := rfl
theorem confArr : confS.cells.toArray = #[.int .i64 (-1), .int .i64 (-1), .int .i64 3, .int .i64 (-1), .string ⟨#[]⟩, .string ⟨#[]⟩, .string ⟨#[]⟩, .bool false, .bool false, .bool false] := rfl
set_option maxRecDepth 100000 in
set_option maxHeartbeats 2000000 in
theorem speaks_calls (w : World) : Calls Try.prog 9 #[] w fun e w' => e = .returned (.bool true) ∧ Below w.heap.size w w' := by
  have hw := Sat.refl w
  go_enter Try.func9, Try.ntmps9
  go_wp2_with fail
  have hr1 : Rd _ _ _ _ (fldCells [fldS]) := Rd.of_row (hw.row_lit 56 6 1 fldS.cells rfl (by decide))
  have a1 := args_calls _ 1 [fldS] _ (by decide) hr1 (by simp [Fld.ok, fldS, Value.oneCell'])
  rw [argsS] at a1
  refine a1.mono ?_
  rintro e w1 ⟨rfl, hb1⟩
  have h1 := (hw.alloc _).below hb1
  clear hb1 hr1 a1
  go_wp2_with (first
    | ((with_reducible refine wpl_alloc 25 ?_ ?_); rfl; intro K hK; refine wp_alloc_sat h1 _ _ _ _ tiConf rfl ?_; intro C w2 h2; refine hK _ _ ?_; clear hK K h1)
    | ((with_reducible refine wpl_store 25 _ _ ?_ ?_); rfl; intro K hK; refine wp_store_all h2 0 _ _ _ rfl _ _ _ tiConf C _ _ rfl rfl confS.cells rfl (conf_length _) rfl (conf_one _) ?_; intro w3 h3; refine hK _ _ ?_; clear hK K h2)
    | fail)
  have hr2 : Rd _ _ _ _ (polCells [polS]) := Rd.of_row (h3.row_lit 40 15 1 polS.cells rfl (by decide))
  have a2 := pick_calls _ 1 [polS] ⟨#[47]⟩ ⟨#[113, 49]⟩ ⟨#[113, 117, 101, 117, 101, 115]⟩ _ (by decide) hr2 (by decide) (by simp [polS]; decide)
  rw [pickS] at a2
  refine a2.mono ?_
  rintro e w4 ⟨rfl, hb4⟩
  have h4 := (h3.alloc _).below hb4
  clear hb4 hr2 a2 h3
  go_wp2_with (first
    | ((with_reducible refine wpl_alloc 40 ?_ ?_); rfl; intro K hK; refine wp_alloc_sat h4 _ _ _ _ tiPol rfl ?_; intro B w5 h5; refine hK _ _ ?_; clear hK K h4)
    | ((with_reducible refine wpl_store 40 _ _ ?_ ?_); rfl; intro K hK; refine wp_store_all h5 0 _ _ _ rfl _ _ _ tiPol B _ _ rfl rfl polS.cells rfl (pol_length _) rfl (pol_one _) ?_; intro w6 h6; refine hK _ _ ?_; clear hK K h5)
    | fail)
  have hI : Sat w [HP.pts B (.cells polS.cells.toArray 40 (0, 0)), HP.pts C (.cells confS.cells.toArray 25 (0, 0)), HP.old w] w6 := h6
  clear h6
  have f1 : ∀ w1, Sat w [HP.pts B (.cells polS.cells.toArray 40 (0, 0)), HP.pts C (.cells confS.cells.toArray 25 (0, 0)), HP.old w] w1 → w1.cell? ⟨B, 1, none⟩ = some (.string ⟨#[110]⟩) := fun w1 h => h.cell 0 rfl 1 rfl
  have f2 : ∀ w1, Sat w [HP.pts B (.cells polS.cells.toArray 40 (0, 0)), HP.pts C (.cells confS.cells.toArray 25 (0, 0)), HP.old w] w1 → w1.cell? ⟨C, 0, none⟩ = some (.int .i64 (-1)) := fun w1 h => h.cell 1 rfl 0 rfl
  have f3 : ∀ w1, Sat w [HP.pts B (.cells polS.cells.toArray 40 (0, 0)), HP.pts C (.cells confS.cells.toArray 25 (0, 0)), HP.old w] w1 → w1.cell? ⟨C, 2, none⟩ = some (.int .i64 3) := fun w1 h => h.cell 1 rfl 2 rfl
  try simp only [Act.put, List.setIfInBounds_toArray, List.set_cons_zero, List.set_cons_succ]
  refine Text.wp_region_text (Sat w [HP.pts B (.cells polS.cells.toArray 40 (0, 0)), HP.pts C (.cells confS.cells.toArray 25 (0, 0)), HP.old w]) [4, 9, 17, 34] (by kernel_rfl) (by kernel_rfl) hI.drew (fun K hK => ?_)
  have hID := hI.drew
  clear hI
  have hI := hID
  clear hID
  (repeat ((first | (refine Text.wpT_held (by rfl) (by rfl) (.agg confS.cells.toArray) (fun w1 h => exec_load rfl (run_load_agg aggConf tiConf (conf_length confS) (h.cellsAll 1 rfl))) ?_) | (refine Text.wpT_skip (by rfl) hI ?_) | (apply Text.wpT_held (by rfl) (by rfl); · (intro w1 hI1; go_simp; try with_reducible rfl)) | (refine Text.wpT_writeI (by rfl) (by rfl) (fun K' hK' => ?_); go_simp; go_at_call 10; refine (Glob.glob_calls _ _ _ (by decide) (by decide)).mono ?_; rintro e w' ⟨rfl, nn, rfl⟩; have hI' := hI.drewN nn; clear hI; have hI := hI'; clear hI'; simp only [globS1, globS2]; refine hK' _ _ (hI.like rfl rfl rfl rfl) (fun hI2 => ?_); clear hK' K' hI; have hI := hI2; clear hI2) | (refine Text.wpT_writeI (by rfl) (by rfl) (fun K' hK' => ?_); go_simp; go_at_call 12; refine (none_calls _).mono ?_; rintro e w' ⟨rfl, hb⟩; simp only [noneArr]; have hI' := hI.belowL hb rfl rfl rfl rfl; clear hI hb; have hI := hI'; clear hI'; refine hK' _ _ (hI.like rfl rfl rfl rfl) (fun hI2 => ?_); clear hK' K' hI; have hI := hI2; clear hI2) | (refine Text.wpT_writeI (by rfl) (by rfl) (fun K' hK' => ?_); go_simp; go_at_call 20; refine (merge_calls Conf.none confS _).mono ?_; rintro e w' ⟨rfl, hb⟩; have hI' := hI.belowL hb rfl rfl rfl rfl; clear hI hb; have hI := hI'; clear hI'; simp only [mergeS, confArr]; refine hK' _ _ (hI.like rfl rfl rfl rfl) (fun hI2 => ?_); clear hK' K' hI; have hI := hI2; clear hI2) | (refine Text.wpT_writeI (by rfl) (by rfl) (fun K' hK' => ?_); go_simp; have hI' := hI.alloc (.cells permS.cells.toArray 58); clear hI; have hI := hI'; clear hI'; refine hK' _ _ (hI.like rfl rfl rfl rfl) (fun hI2 => ?_); clear hK' K' hI; have hI := hI2; clear hI2) | (refine Text.wpT_writeI (by rfl) (by rfl) (fun K' hK' => ?_); go_simp; go_at_call 22; refine (may_calls _ 1 [permS] ⟨#[117]⟩ ⟨#[47]⟩ 2 ⟨#[120]⟩ _ (by decide) (Rd.lit _ 58 rfl) (by simp [Perm.ok, permS]; decide) (by decide)).mono ?_; rintro e w' ⟨rfl, hb⟩; have hI' := hI.belowL hb rfl rfl rfl rfl; clear hI hb; have hI := hI'; clear hI'; simp only [mayS]; refine hK' _ _ (hI.like rfl rfl rfl rfl) (fun hI2 => ?_); clear hK' K' hI; have hI := hI2; clear hI2) | (refine Text.wpT_held (by rfl) (by rfl) (.int _ _) (fun w1 _ => exec_field rfl (run_field Try.underlying25 rfl scInt rfl w1)) ?_)); try simp only [Act.put, List.setIfInBounds_toArray, List.set_cons_zero, List.set_cons_succ]))
  refine Text.wpT_nil (hK _ _ hI ?_)
  clear hK K
  go_wp2
  go_ret
  exact ⟨rfl, (hI.pick 2).old_below⟩
end Pol
end Go.Proofs.Ytfledabgdcnkfaa

