/- The walk of the law PolicyMerges. -/
import Derived.Test.YtfledabgdcnkfaaLawGlobs
import Derived.Test.YtfledabgdcnkfaaRefMergeWalk
set_option linter.unusedVariables false
set_option linter.unusedSimpArgs false
namespace Go.Proofs.Ytfledabgdcnkfaa
open Go.RowKit
namespace Pol
theorem either_none (x : Int) : either (either x (-1)) (-1) = either x (-1) := by unfold either; split <;> simp_all
theorem either_self (x : Int) : either x x = x := by unfold either; split <;> rfl
theorem merge_none2 (own : Conf) : merge (merge own Conf.none) Conf.none = merge own Conf.none := by
  obtain ⟨a, b, c, d, e, f, g, x, y, z⟩ := own
  cases x <;> cases y <;> cases z <;> simp [merge, Conf.none, either_none]
theorem merge_self (c : Conf) : merge c c = c := by
  obtain ⟨a, b, c, d, e, f, g, x, y, z⟩ := c
  cases x <;> cases y <;> cases z <;> simp [merge, either_self]
theorem confLit (c : Conf) : c.cells.toArray = #[.int .i64 c.ttl, .int .i64 c.exp, .int .i64 c.mlen, .int .i64 c.mprio, .string c.dlx, .string c.dlk, .string c.alt, .bool c.hdlx, .bool c.hdlk, .bool c.halt] := rfl
@[go_sem] theorem conf_equal (c : Conf) (w : World) : (Op.equalIn 10000 25 (.agg c.cells.toArray) (.agg c.cells.toArray)).run Try.prog w = .ok true w := by
  have u3 := Try.underlying3
  have a3 := Try.isAgg3
  have z3 := Try.sizeOf3
  have u9 := Try.underlying9
  have a9 := Try.isAgg9
  have z9 := Try.sizeOf9
  have u4 := Try.underlying4
  have a4 := Try.isAgg4
  have z4 := Try.sizeOf4
  have hS : Try.prog.underlying 25 = some (.struct (Try.prog.fieldsOf 25)) := by kernel_rfl
  rw [show (10000 : Nat) = 9999 + 1 from rfl, run_equalIn_agg w 9999 _ _ _ hS (by kernel_rfl), confLit]
  simp only [Program.fieldsOf, Try.underlying25]
  go_simp
  try simp
theorem cells_of_block {w : World} {b : Nat} {cs : List Value} {e : TypeId} {f : Nat × Nat} (h : w.heap[b]? = some (.cells cs.toArray e f)) : ∀ j u, cs[j]? = some u → w.cell? ((⟨b, 0, none⟩ : Addr).add j) = some u := fun j u hu => by
  have := cell_of_row w b j _ _ _ h
  rw [show ((⟨b, 0, none⟩ : Addr).add j) = ⟨b, j, none⟩ from by unfold Addr.add; simp; omega, this]
  simpa using hu

set_option maxRecDepth 100000 in
set_option maxHeartbeats 2000000 in
theorem merges_calls (own by_ : Conf) (w : World) : Calls Try.prog 6 #[.agg own.cells.toArray, .agg by_.cells.toArray] w fun e w' => e = .returned (.bool true) ∧ Below w.heap.size w w' := by
  have hw := Sat.refl w
  obtain ⟨v, hv⟩ : ∃ v, v = merge own Conf.none := ⟨_, rfl⟩
  have cv := refMerge_calls own Conf.none
  rw [← hv] at cv
  have cvn := merge_calls v Conf.none
  rw [show merge v Conf.none = v from by rw [hv]; exact merge_none2 own] at cvn
  have cvv := merge_calls v v
  rw [merge_self] at cvv
  have cvx : ∀ x, x = Conf.none ∨ x = v → ∀ w, Calls Try.prog 20 #[.agg v.cells.toArray, .agg x.cells.toArray] w fun e w' => e = .returned (.agg v.cells.toArray) ∧ Below w.heap.size w w' := by
    rintro x (rfl | rfl) w
    · exact cvn w
    · exact cvv w
  clear hv cvn cvv
  go_enter Try.func6, Try.ntmps6
  apply wp_seq_k; intro _ _
  apply wp_region_lit
  ((with_reducible refine wpl_box _ _ ?_ ?_); rfl; intro K hK; refine wp_box_sat hw _ _ (.agg own.cells.toArray) rfl rfl ?_; intro b2 w2 hs2; refine hK _ _ ?_; clear hK K hw)
  ((with_reducible refine wpl_box _ _ ?_ ?_); rfl; intro K hK; refine wp_box_sat hs2 _ _ (.agg by_.cells.toArray) rfl rfl ?_; intro b3 w3 hs3; refine hK _ _ ?_; clear hK K hs2)
  try simp only [Act.put, List.setIfInBounds_toArray, List.set_cons_zero, List.set_cons_succ]
  have hs : Sat w [HP.pts b3 (.cells by_.cells.toArray 25 (0, 0)), HP.pts b2 (.cells own.cells.toArray 25 (0, 0)), HP.old w] w3 := hs3
  clear hs3
  go_wp2_with (go_at_call 9; refine (speaks_calls _).mono ?_; rintro e w4 ⟨rfl, hb⟩; have hI := hs.belowL hb rfl rfl rfl rfl; clear hs hb)
  try simp only [Act.put, List.setIfInBounds_toArray, List.set_cons_zero, List.set_cons_succ]
  refine Text.wp_region_text (Sat w [HP.pts b3 (.cells by_.cells.toArray 25 (0, 0)), HP.pts b2 (.cells own.cells.toArray 25 (0, 0)), HP.old w]) [0, 1, 3, 4] (by kernel_rfl) (by kernel_rfl) hI.drew (fun K hK => ?_)
  (have hID := hI.drew; clear hI; have hI := hID; clear hID)
  (repeat ((first | (refine Text.wpT_held (by rfl) (by rfl) (.agg own.cells.toArray) (fun w1 h => exec_load rfl (run_load_agg aggConf tiConf (conf_length own) (h.cellsAll 1 rfl))) ?_) | (refine Text.wpT_held (by rfl) (by rfl) (.agg by_.cells.toArray) (fun w1 h => exec_load rfl (run_load_agg aggConf tiConf (conf_length by_) (h.cellsAll 0 rfl))) ?_) | (refine Text.wpT_skip (by rfl) hI ?_) | (apply Text.wpT_held (by rfl) (by rfl); · (intro w1 hI1; go_simp; try with_reducible rfl)) | (refine Text.wpT_writeI (by rfl) (by rfl) (fun K' hK' => ?_); go_simp; go_at_call 20; refine (merge_calls own by_ _).mono ?_; rintro e w' ⟨rfl, hb⟩; have hI' := hI.belowL hb rfl rfl rfl rfl; refine hK' _ _ (hI'.like rfl rfl rfl rfl) (fun hI2 => ?_); clear hK' K' hI hI'; have hI := hI2; clear hI2) | (refine Text.wpT_writeI (by rfl) (by rfl) (fun K' hK' => ?_); go_simp; go_at_call 21; refine (refMerge_calls own by_ _).mono ?_; rintro e w' ⟨rfl, hb⟩; have hI' := hI.belowL hb rfl rfl rfl rfl; refine hK' _ _ (hI'.like rfl rfl rfl rfl) (fun hI2 => ?_); clear hK' K' hI hI'; have hI := hI2; clear hI2)); try simp only [Act.put, List.setIfInBounds_toArray, List.set_cons_zero, List.set_cons_succ]))
  refine Text.wpT_held (by rfl) (by rfl) (.bool false) (fun w1 h => ?_) ?_
  · (simp only [confLit]; go_simp; try simp)
  refine Text.wpT_nil (hK _ _ hI ?_)
  clear hK K
  have hs := hI
  clear hI
  have hI : MI b2 b3 own by_ _ := ⟨hs.block 1 rfl, hs.block 0 rfl⟩
  go_wp2
  try simp only [Act.put, List.setIfInBounds_toArray, List.set_cons_zero, List.set_cons_succ]
  refine Ord.wp_region_orders (MI b2 b3 own by_) ⟨[0], []⟩ [[0, 1, 2, 3, 4], [0, 1, 3, 2, 4], [0, 3, 1, 2, 4]] (by kernel_rfl) (by kernel_rfl) hI.drew (fun K hK σ hσ => ?_)
  (have hsD := hs.drew; clear hs; have hs := hsD; clear hsD; have hID := MI.drew hI; clear hI; have hI := hID; clear hID)
  simp only [List.mem_cons, List.not_mem_nil, or_false] at hσ
  rcases hσ with rfl | rfl | rfl
  all_goals
    (repeat ((first
      | (refine Ord.u_held (by rfl) (by rfl) (by rfl) (.agg own.cells.toArray) (fun w1 h => exec_load rfl (run_load_agg aggConf tiConf (conf_length own) (cells_of_block h.1))) ?_)
      | (refine Ord.u_write (by rfl) (by rfl) (by rfl) (fun K' hK' => ?_); go_simp; go_at_call 13; refine (rnone_calls _).mono ?_; rintro e w' ⟨rfl, hb⟩; have hs' := hs.belowL hb rfl rfl rfl rfl; clear hI; have hI : MI b2 b3 own by_ w' := (by first | exact ⟨hs'.block 2 rfl, hs'.block 1 rfl⟩ | exact ⟨hs'.block 1 rfl, hs'.block 0 rfl⟩); refine hK' _ _ hI (fun _ => ?_); clear hK' K'; clear hs; have hs := hs'; clear hs'; clear hb)
      | (refine Ord.u_write (by rfl) (by rfl) (by rfl) (fun K' hK' => ?_); go_simp; go_at_call 21; refine (cv _).mono ?_; rintro e w' ⟨rfl, hb⟩; have hs' := hs.belowL hb rfl rfl rfl rfl; clear hI; have hI : MI b2 b3 own by_ w' := (by first | exact ⟨hs'.block 2 rfl, hs'.block 1 rfl⟩ | exact ⟨hs'.block 1 rfl, hs'.block 0 rfl⟩); refine hK' _ _ hI (fun _ => ?_); clear hK' K'; clear hs; have hs := hs'; clear hs'; clear hb)
      | (refine Ord.u_write (by rfl) (by rfl) (by rfl) (fun K' hK' => ?_); refine wp_alloc_sat hs _ _ _ _ tiConf rfl ?_; intro B5 w' hs'; clear hI; have hI : MI b2 b3 own by_ w' := (by first | exact ⟨hs'.block 2 rfl, hs'.block 1 rfl⟩ | exact ⟨hs'.block 1 rfl, hs'.block 0 rfl⟩); refine hK' _ _ hI (fun _ => ?_); clear hK' K'; clear hs; have hs := hs'; clear hs')
      | (refine Ord.u_write (by rfl) (by rfl) (by rfl) (fun K' hK' => ?_); refine wp_store_all hs 0 _ _ _ rfl _ _ _ tiConf B5 _ _ rfl rfl v.cells rfl (conf_length _) rfl (conf_one _) ?_; intro w' hs'; clear hI; have hI : MI b2 b3 own by_ w' := (by first | exact ⟨hs'.block 2 rfl, hs'.block 1 rfl⟩ | exact ⟨hs'.block 1 rfl, hs'.block 0 rfl⟩); refine hK' _ _ hI (fun _ => ?_); clear hK' K'; clear hs; have hs := hs'; clear hs')); try simp only [Act.put, List.setIfInBounds_toArray, List.set_cons_zero, List.set_cons_succ]))
  all_goals
    refine Ord.u_nil (hK _ _ hI ?_)
    clear hK K hI
    have hI : Sat w [HP.pts B5 (.cells v.cells.toArray 25 (0, 0)), HP.pts b3 (.cells by_.cells.toArray 25 (0, 0)), HP.pts b2 (.cells own.cells.toArray 25 (0, 0)), HP.old w] _ := hs
    clear hs
    go_wp2
    try simp only [Act.put, List.setIfInBounds_toArray, List.set_cons_zero, List.set_cons_succ]
    refine Text.wp_region_text (Sat w [HP.pts B5 (.cells v.cells.toArray 25 (0, 0)), HP.pts b3 (.cells by_.cells.toArray 25 (0, 0)), HP.pts b2 (.cells own.cells.toArray 25 (0, 0)), HP.old w]) [0, 3, 6, 7, 9] (by kernel_rfl) (by kernel_rfl) hI.drew (fun K hK => ?_)
    (have hID := hI.drew; clear hI; have hI := hID; clear hID)
    (repeat ((first | (refine Text.wpT_held (by rfl) (by rfl) (.agg v.cells.toArray) (fun w1 h => exec_load rfl (run_load_agg aggConf tiConf (conf_length v) (h.cellsAll 0 rfl))) ?_) | (refine Text.wpT_skip (by rfl) hI ?_) | (apply Text.wpT_held (by rfl) (by rfl); · (intro w1 hI1; go_simp; try with_reducible rfl)) | (refine Text.wpT_held (by rfl) (by rfl) (.bool true) (fun w1 h => ?_) ?_; · (simp only [confLit]; go_simp; try simp)) | (refine Text.wpT_writeI (by rfl) (by rfl) (fun K' hK' => ?_); go_simp; go_at_call 12; refine (none_calls _).mono ?_; rintro e w' ⟨rfl, hb⟩; have hI' := hI.belowL hb rfl rfl rfl rfl; refine hK' _ _ (hI'.like rfl rfl rfl rfl) (fun hI2 => ?_); clear hK' K' hI hI'; have hI := hI2; clear hI2) | (refine Text.wpT_writeI (by rfl) (by rfl) (fun K' hK' => ?_); go_simp; go_at_call 20; refine (cvx _ (by first | exact .inl rfl | exact .inr rfl) _).mono ?_; rintro e w' ⟨rfl, hb⟩; have hI' := hI.belowL hb rfl rfl rfl rfl; refine hK' _ _ (hI'.like rfl rfl rfl rfl) (fun hI2 => ?_); clear hK' K' hI hI'; have hI := hI2; clear hI2)); try simp only [Act.put, List.setIfInBounds_toArray, List.set_cons_zero, List.set_cons_succ]))
    refine Text.wpT_nil (hK _ _ hI ?_)
    clear hK K
    go_wp2
    go_ret
    exact ⟨rfl, (hI.pick 3).old_below⟩
end Pol
end Go.Proofs.Ytfledabgdcnkfaa
