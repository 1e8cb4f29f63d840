/- Parts of the proof, merged. -/
import Derived.Test.YtfledabgdcnkfaaRows
import Derived.Test.YtfledabgdcnkfaaMem
import Derived.Test.YtfledabgdcnkfaaPd1
/- The walks of policy.None, either and Merge. -/
set_option linter.unusedVariables false
set_option linter.unusedSimpArgs false
namespace Go.Proofs.Ytfledabgdcnkfaa
open Go.RowKit
namespace Pol
theorem tiConf : TI Try.prog 25 (.agg (Conf.cells Conf.zero).toArray) 10 88 := by unfold TI; kernel_rfl
theorem tiInt : TI Try.prog 3 (.int .i64 0) 1 8 := by unfold TI; kernel_rfl
theorem tiBool : TI Try.prog 4 (.bool false) 1 1 := by unfold TI; kernel_rfl
theorem tiStr : TI Try.prog 9 (.string ByteArray.empty) 1 16 := by unfold TI; kernel_rfl
theorem aggConf : aggregate Try.prog 25 = true := by kernel_rfl
theorem conf_length (c : Conf) : c.cells.length = 10 := rfl
theorem conf_one (p : Conf) : ∀ v ∈ p.cells, v.oneCell' = true := by
  intro v hv
  simp only [Conf.cells, List.mem_cons, List.not_mem_nil, or_false] at hv
  rcases hv with rfl | rfl | rfl | rfl | rfl | rfl | rfl | rfl | rfl | rfl <;> rfl

theorem either_calls (own by_ : Int) (w : World) : Calls Try.prog 27 #[.int .i64 own, .int .i64 by_] w fun e w' => e = .returned (.int .i64 (either own by_)) ∧ w = w' := by
  by_cases h : 0 ≤ own
  · have he : either own by_ = own := if_pos h
    have HE := Lib.hid he
    clear he
    go_enter Try.func27, Try.ntmps27
    go_wp2
    go_ret
    rw [HE.out]
    exact ⟨rfl, rfl⟩
  · have he : either own by_ = by_ := if_neg h
    have HE := Lib.hid he
    clear he
    go_enter Try.func27, Try.ntmps27
    go_wp2
    go_ret
    rw [HE.out]
    exact ⟨rfl, rfl⟩

theorem none_calls (w : World) : Calls Try.prog 12 #[] w fun e w' => e = .returned (.agg Conf.none.cells.toArray) ∧ Below w.heap.size w w' := by
  have hw := Sat.refl w
  go_enter Try.func12, Try.ntmps12
  go_wp2_with (first
    | ((with_reducible refine wpl_alloc _ ?_ ?_); rfl; intro K hK; refine wp_alloc_sat hw _ _ _ _ tiConf rfl ?_; intro B wB hs; refine hK _ _ ?_; clear hK K hw)
    | ((with_reducible refine wpl_store _ _ _ ?_ ?_); rfl; intro K hK; refine wp_store_all hs 0 _ _ _ rfl _ _ _ tiConf B _ _ rfl rfl Conf.none.cells rfl (conf_length _) rfl (conf_one _) ?_; intro w3 hs3; refine hK _ _ ?_; clear hK K))
  refine bodyPost_ret (v := .agg Conf.none.cells.toArray) ?_ rfl ⟨rfl, (hs3.pick 1).old_below⟩
  exact res_cell (fn := Try.f12) (p := 0) (ty := 25) (ad := ⟨B, 0, none⟩) rfl rfl (run_load_agg aggConf tiConf (conf_length Conf.none) (hs3.cellsAll 0 rfl))
def MI (b2 b3 : Nat) (own by_ : Conf) (w : World) : Prop := w.heap[b2]? = some (.cells own.cells.toArray 25 (0, 0)) ∧ w.heap[b3]? = some (.cells by_.cells.toArray 25 (0, 0))
theorem MI.drew {b2 b3 : Nat} {own by_ : Conf} {w : World} (h : MI b2 b3 own by_ w) : MI b2 b3 own by_ w.drew := h
theorem keepI {b2 b3 : Nat} {own by_ : Conf} {w0 w : World} {l : List HP} (hs : Sat w0 l w) (h3 : l[2]? = some (HP.pts b3 (.cells by_.cells.toArray 25 (0, 0)))) (h2 : l[3]? = some (HP.pts b2 (.cells own.cells.toArray 25 (0, 0)))) : MI b2 b3 own by_ w :=
  ⟨hs.block 3 h2, hs.block 2 h3⟩

set_option maxRecDepth 100000 in
set_option maxHeartbeats 4000000 in
theorem merge_calls (own by_ : Conf) (w : World) : Calls Try.prog 20 #[.agg own.cells.toArray, .agg by_.cells.toArray] w fun e w' =>
    e = .returned (.agg (merge own by_).cells.toArray) ∧ Below w.heap.size w w' := by
  have hw := Sat.refl w
  go_enter Try.func20, Try.ntmps20
  apply wp_seq_k; intro _ _
  apply wp_region_lit
  ((with_reducible refine wpl_box _ _ ?_ ?_); rfl; intro K hK; refine wp_box_sat hw _ _ (.agg own.cells.toArray) rfl rfl ?_; intro b2 w2 hs2; refine hK _ _ ?_; clear hK K hw)
  ((with_reducible refine wpl_box _ _ ?_ ?_); rfl; intro K hK; refine wp_box_sat hs2 _ _ (.agg by_.cells.toArray) rfl rfl ?_; intro b3 w3 hs3; refine hK _ _ ?_; clear hK K hs2)
  try simp only [Act.put, List.setIfInBounds_toArray, List.set_cons_zero, List.set_cons_succ]
  ((with_reducible refine wpl_alloc _ ?_ ?_); rfl; intro K hK; refine wp_alloc_sat hs3 _ _ _ _ tiConf rfl ?_; intro B4 w4 hs4; refine hK _ _ ?_; clear hK K hs3)
  try simp only [Act.put, List.setIfInBounds_toArray, List.set_cons_zero, List.set_cons_succ]
  go_wp2_with (first
    | ((with_reducible refine wpl_load 25 _ ?_ ?_); rfl; intro K hK; refine wp_load_agg 25 _ rfl aggConf _ _ _ tiConf ⟨b2, 0, none⟩ rfl _ (conf_length own) (hs4.cellsAll 2 rfl) ?_; refine hK _ _ ?_; clear hK K)
    | ((with_reducible refine wpl_alloc _ ?_ ?_); rfl; intro K hK; refine wp_alloc_sat hs4 _ _ _ _ tiConf rfl ?_; intro B5 w5 hs5; refine hK _ _ ?_; clear hK K hs4)
    | ((with_reducible refine wpl_store _ _ _ ?_ ?_); rfl; intro K hK; refine wp_store_all hs5 0 _ _ _ rfl _ _ _ tiConf B5 _ _ rfl rfl own.cells rfl (conf_length own) rfl (conf_one _) ?_; intro w6 hs6; have hs : Sat w [HP.pts B5 (.cells own.cells.toArray 25 (0, 0)), HP.pts B4 (.cells Conf.zero.cells.toArray 25 (0, 0)), HP.pts b3 (.cells by_.cells.toArray 25 (0, 0)), HP.pts b2 (.cells own.cells.toArray 25 (0, 0)), HP.old w] w6 := hs6; have hI := keepI hs rfl rfl; refine hK _ _ ?_; clear hK K hs5 hs6))
  try simp only [Act.put, List.setIfInBounds_toArray, List.set_cons_zero, List.set_cons_succ]
  have f0 : ∀ w1, MI b2 b3 own by_ w1 → w1.cell? ⟨b2, 0, none⟩ = some (.int .i64 own.ttl) := fun w1 h => (cell_of_row w1 b2 0 _ _ _ h.1).trans rfl
  have g0 : ∀ w1, MI b2 b3 own by_ w1 → w1.cell? ⟨b3, 0, none⟩ = some (.int .i64 by_.ttl) := fun w1 h => (cell_of_row w1 b3 0 _ _ _ h.2).trans rfl
  have f1 : ∀ w1, MI b2 b3 own by_ w1 → w1.cell? ⟨b2, 1, none⟩ = some (.int .i64 own.exp) := fun w1 h => (cell_of_row w1 b2 1 _ _ _ h.1).trans rfl
  have g1 : ∀ w1, MI b2 b3 own by_ w1 → w1.cell? ⟨b3, 1, none⟩ = some (.int .i64 by_.exp) := fun w1 h => (cell_of_row w1 b3 1 _ _ _ h.2).trans rfl
  (refine Text.wp_region_text (MI b2 b3 own by_) [1, 3, 6, 8] (by kernel_rfl) (by kernel_rfl) hI.drew (fun K hK => ?_); have hsD := hs.drew; clear hs; have hs := hsD; clear hsD; have hID := MI.drew hI; clear hI; have hI := hID; clear hID; (repeat ((first | (refine Text.wpT_skip (by rfl) hI ?_) | (apply Text.wpT_held (by rfl) (by rfl); · (intro w1 hI1; go_simp; try with_reducible rfl)) | (refine Text.wpT_write (by rfl) (by rfl) (fun K' hK' => ?_); go_simp; go_at_call 27; refine (either_calls _ _ _).mono ?_; rintro e w' ⟨rfl, rfl⟩; refine hK' _ _ hI ?_; clear hK' K') | (refine Text.wpT_write (by rfl) (by rfl) (fun K' hK' => ?_); (first | refine wp_store_one hs 0 _ _ _ rfl _ _ tiInt B5 _ _ _ rfl rfl (.int _ _) rfl (by simp [Conf.cells]) rfl ?_ | refine wp_store_one hs 0 _ _ _ rfl _ _ tiStr B5 _ _ _ rfl rfl (.string _) rfl (by simp [Conf.cells]) rfl ?_ | refine wp_store_one hs 0 _ _ _ rfl _ _ tiBool B5 _ _ _ rfl rfl (.bool _) rfl (by simp [Conf.cells]) rfl ?_); intro w' hs'; clear hI; have hI := keepI (Sat.mk hs'.os hs'.tape hs'.output hs'.sat) rfl rfl; refine hK' _ _ hI ?_; clear hK' K' hs; have hs := hs'; clear hs')); try simp only [Act.put, List.setIfInBounds_toArray, List.set_cons_zero, List.set_cons_succ])); refine Text.wpT_nil (hK _ _ hI ?_); clear hK K)
  clear f0 f1 g0 g1
  have f2 : ∀ w1, MI b2 b3 own by_ w1 → w1.cell? ⟨b2, 2, none⟩ = some (.int .i64 own.mlen) := fun w1 h => (cell_of_row w1 b2 2 _ _ _ h.1).trans rfl
  have g2 : ∀ w1, MI b2 b3 own by_ w1 → w1.cell? ⟨b3, 2, none⟩ = some (.int .i64 by_.mlen) := fun w1 h => (cell_of_row w1 b3 2 _ _ _ h.2).trans rfl
  have f3 : ∀ w1, MI b2 b3 own by_ w1 → w1.cell? ⟨b2, 3, none⟩ = some (.int .i64 own.mprio) := fun w1 h => (cell_of_row w1 b2 3 _ _ _ h.1).trans rfl
  have g3 : ∀ w1, MI b2 b3 own by_ w1 → w1.cell? ⟨b3, 3, none⟩ = some (.int .i64 by_.mprio) := fun w1 h => (cell_of_row w1 b3 3 _ _ _ h.2).trans rfl
  go_wp2
  try simp only [Act.put, List.setIfInBounds_toArray, List.set_cons_zero, List.set_cons_succ]
  (refine Text.wp_region_text (MI b2 b3 own by_) [1, 3, 6, 8] (by kernel_rfl) (by kernel_rfl) hI.drew (fun K hK => ?_); have hsD := hs.drew; clear hs; have hs := hsD; clear hsD; have hID := MI.drew hI; clear hI; have hI := hID; clear hID; (repeat ((first | (refine Text.wpT_skip (by rfl) hI ?_) | (apply Text.wpT_held (by rfl) (by rfl); · (intro w1 hI1; go_simp; try with_reducible rfl)) | (refine Text.wpT_write (by rfl) (by rfl) (fun K' hK' => ?_); go_simp; go_at_call 27; refine (either_calls _ _ _).mono ?_; rintro e w' ⟨rfl, rfl⟩; refine hK' _ _ hI ?_; clear hK' K') | (refine Text.wpT_write (by rfl) (by rfl) (fun K' hK' => ?_); (first | refine wp_store_one hs 0 _ _ _ rfl _ _ tiInt B5 _ _ _ rfl rfl (.int _ _) rfl (by simp [Conf.cells]) rfl ?_ | refine wp_store_one hs 0 _ _ _ rfl _ _ tiStr B5 _ _ _ rfl rfl (.string _) rfl (by simp [Conf.cells]) rfl ?_ | refine wp_store_one hs 0 _ _ _ rfl _ _ tiBool B5 _ _ _ rfl rfl (.bool _) rfl (by simp [Conf.cells]) rfl ?_); intro w' hs'; clear hI; have hI := keepI (Sat.mk hs'.os hs'.tape hs'.output hs'.sat) rfl rfl; refine hK' _ _ hI ?_; clear hK' K' hs; have hs := hs'; clear hs')); try simp only [Act.put, List.setIfInBounds_toArray, List.set_cons_zero, List.set_cons_succ])); refine Text.wpT_nil (hK _ _ hI ?_); clear hK K)
  clear f2 f3 g2 g3
  have g4 : ∀ w1, MI b2 b3 own by_ w1 → w1.cell? ⟨b3, 4, none⟩ = some (.string by_.dlx) := fun w1 h => (cell_of_row w1 b3 4 _ _ _ h.2).trans rfl
  have g5 : ∀ w1, MI b2 b3 own by_ w1 → w1.cell? ⟨b3, 5, none⟩ = some (.string by_.dlk) := fun w1 h => (cell_of_row w1 b3 5 _ _ _ h.2).trans rfl
  have g6 : ∀ w1, MI b2 b3 own by_ w1 → w1.cell? ⟨b3, 6, none⟩ = some (.string by_.alt) := fun w1 h => (cell_of_row w1 b3 6 _ _ _ h.2).trans rfl
  have f7 : ∀ w1, MI b2 b3 own by_ w1 → w1.cell? ⟨b2, 7, none⟩ = some (.bool own.hdlx) := fun w1 h => (cell_of_row w1 b2 7 _ _ _ h.1).trans rfl
  have g7 : ∀ w1, MI b2 b3 own by_ w1 → w1.cell? ⟨b3, 7, none⟩ = some (.bool by_.hdlx) := fun w1 h => (cell_of_row w1 b3 7 _ _ _ h.2).trans rfl
  have f8 : ∀ w1, MI b2 b3 own by_ w1 → w1.cell? ⟨b2, 8, none⟩ = some (.bool own.hdlk) := fun w1 h => (cell_of_row w1 b2 8 _ _ _ h.1).trans rfl
  have g8 : ∀ w1, MI b2 b3 own by_ w1 → w1.cell? ⟨b3, 8, none⟩ = some (.bool by_.hdlk) := fun w1 h => (cell_of_row w1 b3 8 _ _ _ h.2).trans rfl
  have f9 : ∀ w1, MI b2 b3 own by_ w1 → w1.cell? ⟨b2, 9, none⟩ = some (.bool own.halt) := fun w1 h => (cell_of_row w1 b2 9 _ _ _ h.1).trans rfl
  have g9 : ∀ w1, MI b2 b3 own by_ w1 → w1.cell? ⟨b3, 9, none⟩ = some (.bool by_.halt) := fun w1 h => (cell_of_row w1 b3 9 _ _ _ h.2).trans rfl
  rcases Bool.eq_false_or_eq_true own.hdlx with h7 | h7 <;> rcases Bool.eq_false_or_eq_true own.hdlk with h8 | h8 <;> rcases Bool.eq_false_or_eq_true own.halt with h9 | h9
  all_goals (go_wp2_with (first
    | ((with_reducible refine wpl_load 25 _ ?_ ?_); rfl; intro K hK; have hs9 := hs.cells_eq (c' := (merge own by_).cells.toArray) (by rw [merge_eq own by_ _ _ _ h7 h8 h9]; simp [Conf.cells]); refine wp_load_agg 25 _ rfl aggConf _ _ _ tiConf ⟨B5, 0, none⟩ rfl _ (conf_length (merge own by_)) (hs9.cellsAll 0 rfl) ?_; refine hK _ _ ?_; clear hK K)
    | ((with_reducible refine wpl_store 25 _ _ ?_ ?_); rfl; intro K hK; refine wp_store_all hs9 1 _ _ _ rfl _ _ _ tiConf B4 _ _ rfl rfl (merge own by_).cells rfl (conf_length _) rfl (conf_one _) ?_; intro w7 hs7; refine hK _ _ ?_; clear hK K)); try simp only [Act.put, List.setIfInBounds_toArray, List.set_cons_zero, List.set_cons_succ])
  all_goals try ((refine Text.wp_region_text (MI b2 b3 own by_) [1, 3] (by kernel_rfl) (by kernel_rfl) hI.drew (fun K hK => ?_); have hsD := hs.drew; clear hs; have hs := hsD; clear hsD; have hID := MI.drew hI; clear hI; have hI := hID; clear hID; (repeat ((first | (refine Text.wpT_skip (by rfl) hI ?_) | (apply Text.wpT_held (by rfl) (by rfl); · (intro w1 hI1; go_simp; try with_reducible rfl)) | (refine Text.wpT_write (by rfl) (by rfl) (fun K' hK' => ?_); go_simp; go_at_call 27; refine (either_calls _ _ _).mono ?_; rintro e w' ⟨rfl, rfl⟩; refine hK' _ _ hI ?_; clear hK' K') | (refine Text.wpT_write (by rfl) (by rfl) (fun K' hK' => ?_); (first | refine wp_store_one hs 0 _ _ _ rfl _ _ tiInt B5 _ _ _ rfl rfl (.int _ _) rfl (by simp [Conf.cells]) rfl ?_ | refine wp_store_one hs 0 _ _ _ rfl _ _ tiStr B5 _ _ _ rfl rfl (.string _) rfl (by simp [Conf.cells]) rfl ?_ | refine wp_store_one hs 0 _ _ _ rfl _ _ tiBool B5 _ _ _ rfl rfl (.bool _) rfl (by simp [Conf.cells]) rfl ?_); intro w' hs'; clear hI; have hI := keepI (Sat.mk hs'.os hs'.tape hs'.output hs'.sat) rfl rfl; refine hK' _ _ hI ?_; clear hK' K' hs; have hs := hs'; clear hs')); try simp only [Act.put, List.setIfInBounds_toArray, List.set_cons_zero, List.set_cons_succ])); refine Text.wpT_nil (hK _ _ hI ?_); clear hK K); go_wp2_with (first
    | ((with_reducible refine wpl_load 25 _ ?_ ?_); rfl; intro K hK; have hs9 := hs.cells_eq (c' := (merge own by_).cells.toArray) (by rw [merge_eq own by_ _ _ _ h7 h8 h9]; simp [Conf.cells]); refine wp_load_agg 25 _ rfl aggConf _ _ _ tiConf ⟨B5, 0, none⟩ rfl _ (conf_length (merge own by_)) (hs9.cellsAll 0 rfl) ?_; refine hK _ _ ?_; clear hK K)
    | ((with_reducible refine wpl_store 25 _ _ ?_ ?_); rfl; intro K hK; refine wp_store_all hs9 1 _ _ _ rfl _ _ _ tiConf B4 _ _ rfl rfl (merge own by_).cells rfl (conf_length _) rfl (conf_one _) ?_; intro w7 hs7; refine hK _ _ ?_; clear hK K)); try simp only [Act.put, List.setIfInBounds_toArray, List.set_cons_zero, List.set_cons_succ])
  all_goals try ((refine Text.wp_region_text (MI b2 b3 own by_) [1, 3] (by kernel_rfl) (by kernel_rfl) hI.drew (fun K hK => ?_); have hsD := hs.drew; clear hs; have hs := hsD; clear hsD; have hID := MI.drew hI; clear hI; have hI := hID; clear hID; (repeat ((first | (refine Text.wpT_skip (by rfl) hI ?_) | (apply Text.wpT_held (by rfl) (by rfl); · (intro w1 hI1; go_simp; try with_reducible rfl)) | (refine Text.wpT_write (by rfl) (by rfl) (fun K' hK' => ?_); go_simp; go_at_call 27; refine (either_calls _ _ _).mono ?_; rintro e w' ⟨rfl, rfl⟩; refine hK' _ _ hI ?_; clear hK' K') | (refine Text.wpT_write (by rfl) (by rfl) (fun K' hK' => ?_); (first | refine wp_store_one hs 0 _ _ _ rfl _ _ tiInt B5 _ _ _ rfl rfl (.int _ _) rfl (by simp [Conf.cells]) rfl ?_ | refine wp_store_one hs 0 _ _ _ rfl _ _ tiStr B5 _ _ _ rfl rfl (.string _) rfl (by simp [Conf.cells]) rfl ?_ | refine wp_store_one hs 0 _ _ _ rfl _ _ tiBool B5 _ _ _ rfl rfl (.bool _) rfl (by simp [Conf.cells]) rfl ?_); intro w' hs'; clear hI; have hI := keepI (Sat.mk hs'.os hs'.tape hs'.output hs'.sat) rfl rfl; refine hK' _ _ hI ?_; clear hK' K' hs; have hs := hs'; clear hs')); try simp only [Act.put, List.setIfInBounds_toArray, List.set_cons_zero, List.set_cons_succ])); refine Text.wpT_nil (hK _ _ hI ?_); clear hK K); go_wp2_with (first
    | ((with_reducible refine wpl_load 25 _ ?_ ?_); rfl; intro K hK; have hs9 := hs.cells_eq (c' := (merge own by_).cells.toArray) (by rw [merge_eq own by_ _ _ _ h7 h8 h9]; simp [Conf.cells]); refine wp_load_agg 25 _ rfl aggConf _ _ _ tiConf ⟨B5, 0, none⟩ rfl _ (conf_length (merge own by_)) (hs9.cellsAll 0 rfl) ?_; refine hK _ _ ?_; clear hK K)
    | ((with_reducible refine wpl_store 25 _ _ ?_ ?_); rfl; intro K hK; refine wp_store_all hs9 1 _ _ _ rfl _ _ _ tiConf B4 _ _ rfl rfl (merge own by_).cells rfl (conf_length _) rfl (conf_one _) ?_; intro w7 hs7; refine hK _ _ ?_; clear hK K)); try simp only [Act.put, List.setIfInBounds_toArray, List.set_cons_zero, List.set_cons_succ])
  all_goals try ((refine Text.wp_region_text (MI b2 b3 own by_) [1, 3] (by kernel_rfl) (by kernel_rfl) hI.drew (fun K hK => ?_); have hsD := hs.drew; clear hs; have hs := hsD; clear hsD; have hID := MI.drew hI; clear hI; have hI := hID; clear hID; (repeat ((first | (refine Text.wpT_skip (by rfl) hI ?_) | (apply Text.wpT_held (by rfl) (by rfl); · (intro w1 hI1; go_simp; try with_reducible rfl)) | (refine Text.wpT_write (by rfl) (by rfl) (fun K' hK' => ?_); go_simp; go_at_call 27; refine (either_calls _ _ _).mono ?_; rintro e w' ⟨rfl, rfl⟩; refine hK' _ _ hI ?_; clear hK' K') | (refine Text.wpT_write (by rfl) (by rfl) (fun K' hK' => ?_); (first | refine wp_store_one hs 0 _ _ _ rfl _ _ tiInt B5 _ _ _ rfl rfl (.int _ _) rfl (by simp [Conf.cells]) rfl ?_ | refine wp_store_one hs 0 _ _ _ rfl _ _ tiStr B5 _ _ _ rfl rfl (.string _) rfl (by simp [Conf.cells]) rfl ?_ | refine wp_store_one hs 0 _ _ _ rfl _ _ tiBool B5 _ _ _ rfl rfl (.bool _) rfl (by simp [Conf.cells]) rfl ?_); intro w' hs'; clear hI; have hI := keepI (Sat.mk hs'.os hs'.tape hs'.output hs'.sat) rfl rfl; refine hK' _ _ hI ?_; clear hK' K' hs; have hs := hs'; clear hs')); try simp only [Act.put, List.setIfInBounds_toArray, List.set_cons_zero, List.set_cons_succ])); refine Text.wpT_nil (hK _ _ hI ?_); clear hK K); go_wp2_with (first
    | ((with_reducible refine wpl_load 25 _ ?_ ?_); rfl; intro K hK; have hs9 := hs.cells_eq (c' := (merge own by_).cells.toArray) (by rw [merge_eq own by_ _ _ _ h7 h8 h9]; simp [Conf.cells]); refine wp_load_agg 25 _ rfl aggConf _ _ _ tiConf ⟨B5, 0, none⟩ rfl _ (conf_length (merge own by_)) (hs9.cellsAll 0 rfl) ?_; refine hK _ _ ?_; clear hK K)
    | ((with_reducible refine wpl_store 25 _ _ ?_ ?_); rfl; intro K hK; refine wp_store_all hs9 1 _ _ _ rfl _ _ _ tiConf B4 _ _ rfl rfl (merge own by_).cells rfl (conf_length _) rfl (conf_one _) ?_; intro w7 hs7; refine hK _ _ ?_; clear hK K)); try simp only [Act.put, List.setIfInBounds_toArray, List.set_cons_zero, List.set_cons_succ])
  all_goals go_wp2_with (first
    | ((with_reducible refine wpl_load 25 _ ?_ ?_); rfl; intro K hK; have hs9 := hs.cells_eq (c' := (merge own by_).cells.toArray) (by rw [merge_eq own by_ _ _ _ h7 h8 h9]; simp [Conf.cells]); refine wp_load_agg 25 _ rfl aggConf _ _ _ tiConf ⟨B5, 0, none⟩ rfl _ (conf_length (merge own by_)) (hs9.cellsAll 0 rfl) ?_; refine hK _ _ ?_; clear hK K)
    | ((with_reducible refine wpl_store 25 _ _ ?_ ?_); rfl; intro K hK; refine wp_store_all hs9 1 _ _ _ rfl _ _ _ tiConf B4 _ _ rfl rfl (merge own by_).cells rfl (conf_length _) rfl (conf_one _) ?_; intro w7 hs7; refine hK _ _ ?_; clear hK K))
  all_goals refine bodyPost_ret (v := .agg (merge own by_).cells.toArray) ?_ rfl ⟨rfl, (hs7.pick 4).old_below⟩
  all_goals exact res_cell (fn := Try.f20) (p := 4) (ty := 25) (ad := ⟨B4, 0, none⟩) rfl rfl (run_load_agg aggConf tiConf (conf_length (merge own by_)) (hs7.cellsAll 1 rfl))
end Pol
end Go.Proofs.Ytfledabgdcnkfaa

/- The walks of policy.number, text, set and Args. -/
set_option linter.unusedVariables false
set_option linter.unusedSimpArgs false
namespace Go.Proofs.Ytfledabgdcnkfaa
open Go.RowKit
namespace Pol
theorem num_bad {v : Val} {a b : Int} (h1 : ¬ v.kind = 98) (h2 : ¬ v.kind = 115) (h3 : ¬ v.kind = 73) (h4 : ¬ v.kind = 108) : numCode v a b = 30 := by
  unfold numCode; rw [if_neg (by simp [h1, h2, h3, h4])]
theorem num_out {v : Val} {a b : Int} (h : v.kind = 98 ∨ v.kind = 115 ∨ v.kind = 73 ∨ v.kind = 108) (ho : v.num < a ∨ b < v.num) : numCode v a b = 32 := by
  unfold numCode; rw [if_pos h, if_pos ho]
theorem num_ok {v : Val} {a b : Int} (h : v.kind = 98 ∨ v.kind = 115 ∨ v.kind = 73 ∨ v.kind = 108) (h1 : a ≤ v.num) (h2 : v.num ≤ b) : numCode v a b = 0 := by
  unfold numCode; rw [if_pos h, if_neg (by omega)]

def KOk (v : Val) : Prop := v.kind = 98 ∨ v.kind = 115 ∨ v.kind = 73 ∨ v.kind = 108
theorem k98 {v : Val} (h : (v.kind == 98) = true) : KOk v := .inl (beq_iff_eq.1 h)
theorem k115 {v : Val} (h : (v.kind == 115) = true) : KOk v := .inr (.inl (beq_iff_eq.1 h))
theorem k73 {v : Val} (h : (v.kind == 73) = true) : KOk v := .inr (.inr (.inl (beq_iff_eq.1 h)))
theorem k108 {v : Val} (h : (v.kind == 108) = true) : KOk v := .inr (.inr (.inr (beq_iff_eq.1 h)))
theorem kno {v : Val} {x : Int} (h : (v.kind == x) = false) : ¬ v.kind = x := fun e => by simp [e] at h
def NumPost (W0 : World) (t : List HP) (bc j : Nat) (c : Array Value) (e : TypeId) (code : Int) (x : Value) (en : Ending) (w' : World) : Prop :=
  en = .returned (.int .i64 code) ∧ Sat W0 (HP.pts bc (.cells (if code = 0 then c.setIfInBounds j x else c) e (0, 0)) :: t) w'
theorem numPost_no {W0 : World} {t : List HP} {bc j : Nat} {c : Array Value} {e : TypeId} {code k : Int} {x : Value} {w' : World} (hk : code = k) (h0 : k ≠ 0) (hs : Sat W0 (HP.pts bc (.cells c e (0, 0)) :: t) w') : NumPost W0 t bc j c e code x (.returned (.int .i64 k)) w' := by
  subst hk
  exact ⟨rfl, by rw [if_neg h0]; exact hs⟩
theorem numPost_yes {W0 : World} {t : List HP} {bc j : Nat} {c : Array Value} {e : TypeId} {code : Int} {x : Value} {w' : World} (hk : code = 0) (hs : Sat W0 (HP.pts bc (.cells (c.setIfInBounds j x) e (0, 0)) :: t) w') : NumPost W0 t bc j c e code x (.returned (.int .i64 0)) w' := by
  subst hk
  exact ⟨rfl, by rw [if_pos rfl]; exact hs⟩

set_option maxHeartbeats 1000000 in
theorem number_calls (W0 : World) (t : List HP) (bc j : Nat) (c : Array Value) (e : TypeId) (v : Val) (least most : Int) (w : World) (hs : Sat W0 (HP.pts bc (.cells c e (0, 0)) :: t) w) (hj : j < c.size) :
    Calls Try.prog 29 #[.pointer (some ⟨bc, j, none⟩), .agg v.cells.toArray, .int .i64 least, .int .i64 most] w (NumPost W0 t bc j c e (numCode v least most) (.int .i64 v.num)) := by
  go_enter Try.func29, Try.ntmps29
  go_wp2_with (first
    | ((with_reducible refine wpl_box _ _ ?_ ?_); rfl; intro K hK; refine wp_box_sat hs _ _ (.agg v.cells.toArray) rfl rfl ?_; intro B wB hs1; have c0 : wB.cell? ⟨B, 0, none⟩ = some (.int .i64 v.kind) := hs1.cell 0 rfl 0 rfl; have c1 : wB.cell? ⟨B, 1, none⟩ = some (.int .i64 v.num) := hs1.cell 0 rfl 1 rfl; refine hK _ _ ?_; clear hK K)
    | ((with_reducible refine wpl_store _ _ _ ?_ ?_); rfl; intro K hK; refine wp_store_one hs1 1 _ _ _ rfl _ _ tiInt bc j _ _ rfl rfl (.int _ _) rfl hj rfl ?_; intro w2 hs2; refine hK _ _ ?_; clear hK K))
  all_goals go_ret
  all_goals first
    | (refine numPost_no (k := 30) ?_ (by decide) hs1.drop; exact num_bad (kno (by assumption)) (kno (by assumption)) (kno (by assumption)) (kno (by assumption)))
    | (refine numPost_no (k := 32) ?_ (by decide) hs1.drop; exact num_out (by first | exact k98 (by assumption) | exact k115 (by assumption) | exact k73 (by assumption) | exact k108 (by assumption)) (by omega))
    | (refine numPost_yes ?_ hs2.drop; exact num_ok (by first | exact k98 (by assumption) | exact k115 (by assumption) | exact k73 (by assumption) | exact k108 (by assumption)) (by omega) (by omega))

def TextPost (W0 : World) (t : List HP) (bc j j' : Nat) (c : Array Value) (e : TypeId) (code : Int) (x : Value) (en : Ending) (w' : World) : Prop :=
  en = .returned (.int .i64 code) ∧ Sat W0 (HP.pts bc (.cells (if code = 0 then (c.setIfInBounds j x).setIfInBounds j' (.bool true) else c) e (0, 0)) :: t) w'
theorem textPost_no {W0 : World} {t : List HP} {bc j j' : Nat} {c : Array Value} {e : TypeId} {code k : Int} {x : Value} {w' : World} (hk : code = k) (h0 : k ≠ 0) (hs : Sat W0 (HP.pts bc (.cells c e (0, 0)) :: t) w') : TextPost W0 t bc j j' c e code x (.returned (.int .i64 k)) w' := by
  subst hk
  exact ⟨rfl, by rw [if_neg h0]; exact hs⟩
theorem textPost_yes {W0 : World} {t : List HP} {bc j j' : Nat} {c : Array Value} {e : TypeId} {code : Int} {x : Value} {w' : World} (hk : code = 0) (hs : Sat W0 (HP.pts bc (.cells ((c.setIfInBounds j x).setIfInBounds j' (.bool true)) e (0, 0)) :: t) w') : TextPost W0 t bc j j' c e code x (.returned (.int .i64 0)) w' := by
  subst hk
  exact ⟨rfl, by rw [if_pos rfl]; exact hs⟩
theorem text_kind {v : Val} (h : ¬ v.kind = 83) : textCode v = 30 := if_neg h
theorem text_long {v : Val} (h : v.kind = 83) (hl : 255 < v.text.size) : textCode v = 1 := by unfold textCode; rw [if_pos h, if_pos hl]
theorem text_ok {v : Val} (h : v.kind = 83) (hl : v.text.size ≤ 255) : textCode v = 0 := by unfold textCode; rw [if_pos h, if_neg (by omega)]

set_option maxHeartbeats 1000000 in
theorem text_calls (W0 : World) (t : List HP) (bc j j' : Nat) (c : Array Value) (e : TypeId) (v : Val) (w : World) (hs : Sat W0 (HP.pts bc (.cells c e (0, 0)) :: t) w) (hj : j < c.size) (hj' : j' < c.size) :
    Calls Try.prog 30 #[.pointer (some ⟨bc, j, none⟩), .pointer (some ⟨bc, j', none⟩), .agg v.cells.toArray] w (TextPost W0 t bc j j' c e (textCode v) (.string v.text)) := by
  have hj2 : j' < (c.setIfInBounds j (.string v.text)).size := by simpa using hj'
  go_enter Try.func30, Try.ntmps30
  by_cases hk : v.kind = 83
  · by_cases hl : 255 < v.text.size
    · have hk' : ((v.kind : Int) != 83) = false := by simp [hk]
      go_wp2_with (first
        | ((with_reducible refine wpl_box _ _ ?_ ?_); rfl; intro K hK; refine wp_box_sat hs _ _ (.agg v.cells.toArray) rfl rfl ?_; intro B wB hs1; have c0 : wB.cell? ⟨B, 0, none⟩ = some (.int .i64 v.kind) := hs1.cell 0 rfl 0 rfl; have c2 : wB.cell? ⟨B, 2, none⟩ = some (.string v.text) := hs1.cell 0 rfl 2 rfl; refine hK _ _ ?_; clear hK K))
      go_ret
      exact textPost_no (text_long hk hl) (by decide) hs1.drop
    · go_wp2_with (first
        | ((with_reducible refine wpl_box _ _ ?_ ?_); rfl; intro K hK; refine wp_box_sat hs _ _ (.agg v.cells.toArray) rfl rfl ?_; intro B wB hs1; have c0 : wB.cell? ⟨B, 0, none⟩ = some (.int .i64 v.kind) := hs1.cell 0 rfl 0 rfl; have c2 : wB.cell? ⟨B, 2, none⟩ = some (.string v.text) := hs1.cell 0 rfl 2 rfl; refine hK _ _ ?_; clear hK K)
        | ((with_reducible refine wpl_store 9 _ _ ?_ ?_); rfl; intro K hK; refine wp_store_one hs1 1 _ _ _ rfl _ _ tiStr bc j _ _ rfl rfl (.string _) rfl hj rfl ?_; intro w2 hs2; refine hK _ _ ?_; clear hK K)
        | ((with_reducible refine wpl_store 4 _ _ ?_ ?_); rfl; intro K hK; refine wp_store_one hs2 1 _ _ _ rfl _ _ tiBool bc j' _ _ rfl rfl (.bool _) rfl hj2 rfl ?_; intro w3 hs3; refine hK _ _ ?_; clear hK K))
      go_ret
      exact textPost_yes (text_ok hk (by omega)) hs3.drop
  · go_wp2_with (first
      | ((with_reducible refine wpl_box _ _ ?_ ?_); rfl; intro K hK; refine wp_box_sat hs _ _ (.agg v.cells.toArray) rfl rfl ?_; intro B wB hs1; have c0 : wB.cell? ⟨B, 0, none⟩ = some (.int .i64 v.kind) := hs1.cell 0 rfl 0 rfl; have c2 : wB.cell? ⟨B, 2, none⟩ = some (.string v.text) := hs1.cell 0 rfl 2 rfl; refine hK _ _ ?_; clear hK K))
    go_ret
    exact textPost_no (text_kind hk) (by decide) hs1.drop
/-! set -/
theorem tiVal : TI Try.prog 54 (.agg #[.int .i64 0, .int .i64 0, .string ByteArray.empty, .slice none 0 0, .slice none 0 0]) 5 80 := by unfold TI; kernel_rfl
theorem tiFld : TI Try.prog 56 (.agg #[.string ByteArray.empty, .int .i64 0, .int .i64 0, .string ByteArray.empty, .slice none 0 0, .slice none 0 0]) 6 96 := by unfold TI; kernel_rfl
theorem aggVal : aggregate Try.prog 54 = true := by kernel_rfl
theorem aggFld : aggregate Try.prog 56 = true := by kernel_rfl
theorem val_length (v : Val) : v.cells.length = 5 := rfl
theorem fld_val (f : Fld) : ∀ j u, f.val.cells[j]? = some u → f.cells[1 + j]? = some u := fun j u hu => by
  rw [Nat.add_comm]; exact hu

def SetPost (W0 : World) (t : List HP) (bc : Nat) (c : Conf) (r : Int × Conf) (en : Ending) (w' : World) : Prop :=
  en = .returned (.int .i64 r.1) ∧ Sat W0 (HP.pts bc (.cells r.2.cells.toArray 25 (0, 0)) :: t) w'
theorem setPost_num {W0 : World} {t : List HP} {bc j : Nat} {c c' : Conf} {r : Int × Conf} {k : Int} {x : Value} {w' : World} (h : r = (k, if k = 0 then c' else c)) (hc : c.cells.toArray.setIfInBounds j x = c'.cells.toArray)
    (hs : Sat W0 (HP.pts bc (.cells (if k = 0 then c.cells.toArray.setIfInBounds j x else c.cells.toArray) 25 (0, 0)) :: t) w') : SetPost W0 t bc c r (.returned (.int .i64 k)) w' := by
  subst h
  refine ⟨rfl, ?_⟩
  by_cases h0 : k = 0
  · rw [if_pos h0] at hs ⊢; rw [← hc]; exact hs
  · rw [if_neg h0] at hs ⊢; exact hs
theorem setPost_text {W0 : World} {t : List HP} {bc j j' : Nat} {c c' : Conf} {r : Int × Conf} {k : Int} {x : Value} {w' : World} (h : r = (k, if k = 0 then c' else c)) (hc : (c.cells.toArray.setIfInBounds j x).setIfInBounds j' (.bool true) = c'.cells.toArray)
    (hs : Sat W0 (HP.pts bc (.cells (if k = 0 then (c.cells.toArray.setIfInBounds j x).setIfInBounds j' (.bool true) else c.cells.toArray) 25 (0, 0)) :: t) w') : SetPost W0 t bc c r (.returned (.int .i64 k)) w' := by
  subst h
  refine ⟨rfl, ?_⟩
  by_cases h0 : k = 0
  · rw [if_pos h0] at hs ⊢; rw [← hc]; exact hs
  · rw [if_neg h0] at hs ⊢; exact hs

theorem set_code0 {c : Conf} {f : Fld}  (h0 : f.name.toList = [120, 45, 109, 101, 115, 115, 97, 103, 101, 45, 116, 116, 108]) : setCode c f = (numCode f.val 0 2147483647, if numCode f.val 0 2147483647 = 0 then { c with ttl := f.val.num } else c) := by
  unfold setCode;  rw [if_pos h0]
set_option maxHeartbeats 1000000 in
theorem set_calls0 (W0 : World) (t : List HP) (bc : Nat) (c : Conf) (f : Fld) (w : World) (hs : Sat W0 (HP.pts bc (.cells c.cells.toArray 25 (0, 0)) :: t) w)  (h0 : f.name.toList = [120, 45, 109, 101, 115, 115, 97, 103, 101, 45, 116, 116, 108]) :
    Calls Try.prog 25 #[.pointer (some ⟨bc, 0, none⟩), .agg f.cells.toArray] w (SetPost W0 t bc c (setCode c f)) := by
  have hcode := set_code0 (c := c) h0
  have HC := Lib.hid hcode
  clear hcode
  have b0 : (f.name.toList == [120, 45, 109, 101, 115, 115, 97, 103, 101, 45, 116, 116, 108]) = true := by simp [h0]
  clear h0
  have hj : 0 < c.cells.toArray.size := by simp [Conf.cells]
  go_enter Try.func25, Try.ntmps25
  go_wp2_with ((with_reducible refine wpl_box _ _ ?_ ?_); rfl; intro K hK; refine wp_box_sat hs _ _ (.agg f.cells.toArray) rfl rfl ?_; intro B wB hs1; have c0 : wB.cell? ⟨B, 0, none⟩ = some (.string f.name) := hs1.cell 0 rfl 0 rfl; refine hK _ _ ?_; clear hK K)
  all_goals
    refine Text.wp_region_text (fun _ => True) [] (by kernel_rfl) (by kernel_rfl) trivial (fun K hK => ?_)
    (repeat ((first | (refine Text.wpT_skip (by rfl) trivial ?_) | (apply Text.wpT_held (by rfl) (by rfl); · (intro w1 hI1; go_simp; try with_reducible rfl)) | (refine Text.wpT_read (by rfl) (by rfl) (.agg f.val.cells.toArray) (exec_load rfl (run_load_agg aggVal tiVal (val_length f.val) (hs1.drew.cellsAt 0 rfl 1 (fld_val f)))) ?_) | (refine Text.wpT_write (by rfl) (by rfl) (fun K' hK' => ?_); go_simp; go_at_call 29; refine (number_calls W0 _ bc 0 _ _ f.val 0 2147483647 _ (hs1.drew.swap) hj).mono ?_; rintro e' w' ⟨rfl, hs3⟩; refine hK' _ _ trivial ?_; clear hK' K')); try simp only [Act.put, List.setIfInBounds_toArray, List.set_cons_zero, List.set_cons_succ]))
    refine Text.wpT_nil (hK _ _ trivial ?_)
    clear hK K
    go_wp2
    go_ret
    exact setPost_num HC.out (by simp [Conf.cells]) hs3.swap.drop
theorem set_code1 {c : Conf} {f : Fld} (h0 : ¬ f.name.toList = [120, 45, 109, 101, 115, 115, 97, 103, 101, 45, 116, 116, 108]) (h1 : f.name.toList = [120, 45, 101, 120, 112, 105, 114, 101, 115]) : setCode c f = (numCode f.val 1 2147483647, if numCode f.val 1 2147483647 = 0 then { c with exp := f.val.num } else c) := by
  unfold setCode; rw [if_neg h0]; rw [if_pos h1]
set_option maxHeartbeats 1000000 in
theorem set_calls1 (W0 : World) (t : List HP) (bc : Nat) (c : Conf) (f : Fld) (w : World) (hs : Sat W0 (HP.pts bc (.cells c.cells.toArray 25 (0, 0)) :: t) w) (h0 : ¬ f.name.toList = [120, 45, 109, 101, 115, 115, 97, 103, 101, 45, 116, 116, 108]) (h1 : f.name.toList = [120, 45, 101, 120, 112, 105, 114, 101, 115]) :
    Calls Try.prog 25 #[.pointer (some ⟨bc, 0, none⟩), .agg f.cells.toArray] w (SetPost W0 t bc c (setCode c f)) := by
  have hcode := set_code1 (c := c) h0 h1
  have HC := Lib.hid hcode
  clear hcode
  have b0 : (f.name.toList == [120, 45, 109, 101, 115, 115, 97, 103, 101, 45, 116, 116, 108]) = false := by simp [h0]
  have b1 : (f.name.toList == [120, 45, 101, 120, 112, 105, 114, 101, 115]) = true := by simp [h1]
  clear h0 h1
  have hj : 1 < c.cells.toArray.size := by simp [Conf.cells]
  go_enter Try.func25, Try.ntmps25
  go_wp2_with ((with_reducible refine wpl_box _ _ ?_ ?_); rfl; intro K hK; refine wp_box_sat hs _ _ (.agg f.cells.toArray) rfl rfl ?_; intro B wB hs1; have c0 : wB.cell? ⟨B, 0, none⟩ = some (.string f.name) := hs1.cell 0 rfl 0 rfl; refine hK _ _ ?_; clear hK K)
  all_goals
    refine Text.wp_region_text (fun _ => True) [] (by kernel_rfl) (by kernel_rfl) trivial (fun K hK => ?_)
    (repeat ((first | (refine Text.wpT_skip (by rfl) trivial ?_) | (apply Text.wpT_held (by rfl) (by rfl); · (intro w1 hI1; go_simp; try with_reducible rfl)) | (refine Text.wpT_read (by rfl) (by rfl) (.agg f.val.cells.toArray) (exec_load rfl (run_load_agg aggVal tiVal (val_length f.val) (hs1.drew.cellsAt 0 rfl 1 (fld_val f)))) ?_) | (refine Text.wpT_write (by rfl) (by rfl) (fun K' hK' => ?_); go_simp; go_at_call 29; refine (number_calls W0 _ bc 1 _ _ f.val 1 2147483647 _ (hs1.drew.swap) hj).mono ?_; rintro e' w' ⟨rfl, hs3⟩; refine hK' _ _ trivial ?_; clear hK' K')); try simp only [Act.put, List.setIfInBounds_toArray, List.set_cons_zero, List.set_cons_succ]))
    refine Text.wpT_nil (hK _ _ trivial ?_)
    clear hK K
    go_wp2
    go_ret
    exact setPost_num HC.out (by simp [Conf.cells]) hs3.swap.drop
theorem set_code2 {c : Conf} {f : Fld} (h0 : ¬ f.name.toList = [120, 45, 109, 101, 115, 115, 97, 103, 101, 45, 116, 116, 108]) (h1 : ¬ f.name.toList = [120, 45, 101, 120, 112, 105, 114, 101, 115]) (h2 : f.name.toList = [120, 45, 109, 97, 120, 45, 108, 101, 110, 103, 116, 104]) : setCode c f = (numCode f.val 0 2147483647, if numCode f.val 0 2147483647 = 0 then { c with mlen := f.val.num } else c) := by
  unfold setCode; rw [if_neg h0]; rw [if_neg h1]; rw [if_pos h2]
set_option maxHeartbeats 1000000 in
theorem set_calls2 (W0 : World) (t : List HP) (bc : Nat) (c : Conf) (f : Fld) (w : World) (hs : Sat W0 (HP.pts bc (.cells c.cells.toArray 25 (0, 0)) :: t) w) (h0 : ¬ f.name.toList = [120, 45, 109, 101, 115, 115, 97, 103, 101, 45, 116, 116, 108]) (h1 : ¬ f.name.toList = [120, 45, 101, 120, 112, 105, 114, 101, 115]) (h2 : f.name.toList = [120, 45, 109, 97, 120, 45, 108, 101, 110, 103, 116, 104]) :
    Calls Try.prog 25 #[.pointer (some ⟨bc, 0, none⟩), .agg f.cells.toArray] w (SetPost W0 t bc c (setCode c f)) := by
  have hcode := set_code2 (c := c) h0 h1 h2
  have HC := Lib.hid hcode
  clear hcode
  have b0 : (f.name.toList == [120, 45, 109, 101, 115, 115, 97, 103, 101, 45, 116, 116, 108]) = false := by simp [h0]
  have b1 : (f.name.toList == [120, 45, 101, 120, 112, 105, 114, 101, 115]) = false := by simp [h1]
  have b2 : (f.name.toList == [120, 45, 109, 97, 120, 45, 108, 101, 110, 103, 116, 104]) = true := by simp [h2]
  clear h0 h1 h2
  have hj : 2 < c.cells.toArray.size := by simp [Conf.cells]
  go_enter Try.func25, Try.ntmps25
  go_wp2_with ((with_reducible refine wpl_box _ _ ?_ ?_); rfl; intro K hK; refine wp_box_sat hs _ _ (.agg f.cells.toArray) rfl rfl ?_; intro B wB hs1; have c0 : wB.cell? ⟨B, 0, none⟩ = some (.string f.name) := hs1.cell 0 rfl 0 rfl; refine hK _ _ ?_; clear hK K)
  all_goals
    refine Text.wp_region_text (fun _ => True) [] (by kernel_rfl) (by kernel_rfl) trivial (fun K hK => ?_)
    (repeat ((first | (refine Text.wpT_skip (by rfl) trivial ?_) | (apply Text.wpT_held (by rfl) (by rfl); · (intro w1 hI1; go_simp; try with_reducible rfl)) | (refine Text.wpT_read (by rfl) (by rfl) (.agg f.val.cells.toArray) (exec_load rfl (run_load_agg aggVal tiVal (val_length f.val) (hs1.drew.cellsAt 0 rfl 1 (fld_val f)))) ?_) | (refine Text.wpT_write (by rfl) (by rfl) (fun K' hK' => ?_); go_simp; go_at_call 29; refine (number_calls W0 _ bc 2 _ _ f.val 0 2147483647 _ (hs1.drew.swap) hj).mono ?_; rintro e' w' ⟨rfl, hs3⟩; refine hK' _ _ trivial ?_; clear hK' K')); try simp only [Act.put, List.setIfInBounds_toArray, List.set_cons_zero, List.set_cons_succ]))
    refine Text.wpT_nil (hK _ _ trivial ?_)
    clear hK K
    go_wp2
    go_ret
    exact setPost_num HC.out (by simp [Conf.cells]) hs3.swap.drop
theorem set_code3 {c : Conf} {f : Fld} (h0 : ¬ f.name.toList = [120, 45, 109, 101, 115, 115, 97, 103, 101, 45, 116, 116, 108]) (h1 : ¬ f.name.toList = [120, 45, 101, 120, 112, 105, 114, 101, 115]) (h2 : ¬ f.name.toList = [120, 45, 109, 97, 120, 45, 108, 101, 110, 103, 116, 104]) (h3 : f.name.toList = [120, 45, 109, 97, 120, 45, 112, 114, 105, 111, 114, 105, 116, 121]) : setCode c f = (numCode f.val 0 9, if numCode f.val 0 9 = 0 then { c with mprio := f.val.num } else c) := by
  unfold setCode; rw [if_neg h0]; rw [if_neg h1]; rw [if_neg h2]; rw [if_pos h3]
set_option maxHeartbeats 1000000 in
theorem set_calls3 (W0 : World) (t : List HP) (bc : Nat) (c : Conf) (f : Fld) (w : World) (hs : Sat W0 (HP.pts bc (.cells c.cells.toArray 25 (0, 0)) :: t) w) (h0 : ¬ f.name.toList = [120, 45, 109, 101, 115, 115, 97, 103, 101, 45, 116, 116, 108]) (h1 : ¬ f.name.toList = [120, 45, 101, 120, 112, 105, 114, 101, 115]) (h2 : ¬ f.name.toList = [120, 45, 109, 97, 120, 45, 108, 101, 110, 103, 116, 104]) (h3 : f.name.toList = [120, 45, 109, 97, 120, 45, 112, 114, 105, 111, 114, 105, 116, 121]) :
    Calls Try.prog 25 #[.pointer (some ⟨bc, 0, none⟩), .agg f.cells.toArray] w (SetPost W0 t bc c (setCode c f)) := by
  have hcode := set_code3 (c := c) h0 h1 h2 h3
  have HC := Lib.hid hcode
  clear hcode
  have b0 : (f.name.toList == [120, 45, 109, 101, 115, 115, 97, 103, 101, 45, 116, 116, 108]) = false := by simp [h0]
  have b1 : (f.name.toList == [120, 45, 101, 120, 112, 105, 114, 101, 115]) = false := by simp [h1]
  have b2 : (f.name.toList == [120, 45, 109, 97, 120, 45, 108, 101, 110, 103, 116, 104]) = false := by simp [h2]
  have b3 : (f.name.toList == [120, 45, 109, 97, 120, 45, 112, 114, 105, 111, 114, 105, 116, 121]) = true := by simp [h3]
  clear h0 h1 h2 h3
  have hj : 3 < c.cells.toArray.size := by simp [Conf.cells]
  go_enter Try.func25, Try.ntmps25
  go_wp2_with ((with_reducible refine wpl_box _ _ ?_ ?_); rfl; intro K hK; refine wp_box_sat hs _ _ (.agg f.cells.toArray) rfl rfl ?_; intro B wB hs1; have c0 : wB.cell? ⟨B, 0, none⟩ = some (.string f.name) := hs1.cell 0 rfl 0 rfl; refine hK _ _ ?_; clear hK K)
  all_goals
    refine Text.wp_region_text (fun _ => True) [] (by kernel_rfl) (by kernel_rfl) trivial (fun K hK => ?_)
    (repeat ((first | (refine Text.wpT_skip (by rfl) trivial ?_) | (apply Text.wpT_held (by rfl) (by rfl); · (intro w1 hI1; go_simp; try with_reducible rfl)) | (refine Text.wpT_read (by rfl) (by rfl) (.agg f.val.cells.toArray) (exec_load rfl (run_load_agg aggVal tiVal (val_length f.val) (hs1.drew.cellsAt 0 rfl 1 (fld_val f)))) ?_) | (refine Text.wpT_write (by rfl) (by rfl) (fun K' hK' => ?_); go_simp; go_at_call 29; refine (number_calls W0 _ bc 3 _ _ f.val 0 9 _ (hs1.drew.swap) hj).mono ?_; rintro e' w' ⟨rfl, hs3⟩; refine hK' _ _ trivial ?_; clear hK' K')); try simp only [Act.put, List.setIfInBounds_toArray, List.set_cons_zero, List.set_cons_succ]))
    refine Text.wpT_nil (hK _ _ trivial ?_)
    clear hK K
    go_wp2
    go_ret
    exact setPost_num HC.out (by simp [Conf.cells]) hs3.swap.drop
theorem set_code4 {c : Conf} {f : Fld} (h0 : ¬ f.name.toList = [120, 45, 109, 101, 115, 115, 97, 103, 101, 45, 116, 116, 108]) (h1 : ¬ f.name.toList = [120, 45, 101, 120, 112, 105, 114, 101, 115]) (h2 : ¬ f.name.toList = [120, 45, 109, 97, 120, 45, 108, 101, 110, 103, 116, 104]) (h3 : ¬ f.name.toList = [120, 45, 109, 97, 120, 45, 112, 114, 105, 111, 114, 105, 116, 121]) (h4 : f.name.toList = [120, 45, 100, 101, 97, 100, 45, 108, 101, 116, 116, 101, 114, 45, 101, 120, 99, 104, 97, 110, 103, 101]) : setCode c f = (textCode f.val, if textCode f.val = 0 then { c with dlx := f.val.text, hdlx := true } else c) := by
  unfold setCode; rw [if_neg h0]; rw [if_neg h1]; rw [if_neg h2]; rw [if_neg h3]; rw [if_pos h4]
set_option maxHeartbeats 1000000 in
theorem set_calls4 (W0 : World) (t : List HP) (bc : Nat) (c : Conf) (f : Fld) (w : World) (hs : Sat W0 (HP.pts bc (.cells c.cells.toArray 25 (0, 0)) :: t) w) (h0 : ¬ f.name.toList = [120, 45, 109, 101, 115, 115, 97, 103, 101, 45, 116, 116, 108]) (h1 : ¬ f.name.toList = [120, 45, 101, 120, 112, 105, 114, 101, 115]) (h2 : ¬ f.name.toList = [120, 45, 109, 97, 120, 45, 108, 101, 110, 103, 116, 104]) (h3 : ¬ f.name.toList = [120, 45, 109, 97, 120, 45, 112, 114, 105, 111, 114, 105, 116, 121]) (h4 : f.name.toList = [120, 45, 100, 101, 97, 100, 45, 108, 101, 116, 116, 101, 114, 45, 101, 120, 99, 104, 97, 110, 103, 101]) :
    Calls Try.prog 25 #[.pointer (some ⟨bc, 0, none⟩), .agg f.cells.toArray] w (SetPost W0 t bc c (setCode c f)) := by
  have hcode := set_code4 (c := c) h0 h1 h2 h3 h4
  have HC := Lib.hid hcode
  clear hcode
  have b0 : (f.name.toList == [120, 45, 109, 101, 115, 115, 97, 103, 101, 45, 116, 116, 108]) = false := by simp [h0]
  have b1 : (f.name.toList == [120, 45, 101, 120, 112, 105, 114, 101, 115]) = false := by simp [h1]
  have b2 : (f.name.toList == [120, 45, 109, 97, 120, 45, 108, 101, 110, 103, 116, 104]) = false := by simp [h2]
  have b3 : (f.name.toList == [120, 45, 109, 97, 120, 45, 112, 114, 105, 111, 114, 105, 116, 121]) = false := by simp [h3]
  have b4 : (f.name.toList == [120, 45, 100, 101, 97, 100, 45, 108, 101, 116, 116, 101, 114, 45, 101, 120, 99, 104, 97, 110, 103, 101]) = true := by simp [h4]
  clear h0 h1 h2 h3 h4
  have hj : 4 < c.cells.toArray.size := by simp [Conf.cells]
  have hj2 : 7 < c.cells.toArray.size := by simp [Conf.cells]
  go_enter Try.func25, Try.ntmps25
  go_wp2_with ((with_reducible refine wpl_box _ _ ?_ ?_); rfl; intro K hK; refine wp_box_sat hs _ _ (.agg f.cells.toArray) rfl rfl ?_; intro B wB hs1; have c0 : wB.cell? ⟨B, 0, none⟩ = some (.string f.name) := hs1.cell 0 rfl 0 rfl; refine hK _ _ ?_; clear hK K)
  all_goals
    refine Text.wp_region_text (fun _ => True) [] (by kernel_rfl) (by kernel_rfl) trivial (fun K hK => ?_)
    (repeat ((first | (refine Text.wpT_skip (by rfl) trivial ?_) | (apply Text.wpT_held (by rfl) (by rfl); · (intro w1 hI1; go_simp; try with_reducible rfl)) | (refine Text.wpT_read (by rfl) (by rfl) (.agg f.val.cells.toArray) (exec_load rfl (run_load_agg aggVal tiVal (val_length f.val) (hs1.drew.cellsAt 0 rfl 1 (fld_val f)))) ?_) | (refine Text.wpT_write (by rfl) (by rfl) (fun K' hK' => ?_); go_simp; go_at_call 30; refine (text_calls W0 _ bc 4 7 _ _ f.val _ (hs1.drew.swap) hj hj2).mono ?_; rintro e' w' ⟨rfl, hs3⟩; refine hK' _ _ trivial ?_; clear hK' K')); try simp only [Act.put, List.setIfInBounds_toArray, List.set_cons_zero, List.set_cons_succ]))
    refine Text.wpT_nil (hK _ _ trivial ?_)
    clear hK K
    go_wp2
    go_ret
    exact setPost_text HC.out (by simp [Conf.cells]) hs3.swap.drop
theorem set_code5 {c : Conf} {f : Fld} (h0 : ¬ f.name.toList = [120, 45, 109, 101, 115, 115, 97, 103, 101, 45, 116, 116, 108]) (h1 : ¬ f.name.toList = [120, 45, 101, 120, 112, 105, 114, 101, 115]) (h2 : ¬ f.name.toList = [120, 45, 109, 97, 120, 45, 108, 101, 110, 103, 116, 104]) (h3 : ¬ f.name.toList = [120, 45, 109, 97, 120, 45, 112, 114, 105, 111, 114, 105, 116, 121]) (h4 : ¬ f.name.toList = [120, 45, 100, 101, 97, 100, 45, 108, 101, 116, 116, 101, 114, 45, 101, 120, 99, 104, 97, 110, 103, 101]) (h5 : f.name.toList = [120, 45, 100, 101, 97, 100, 45, 108, 101, 116, 116, 101, 114, 45, 114, 111, 117, 116, 105, 110, 103, 45, 107, 101, 121]) : setCode c f = (textCode f.val, if textCode f.val = 0 then { c with dlk := f.val.text, hdlk := true } else c) := by
  unfold setCode; rw [if_neg h0]; rw [if_neg h1]; rw [if_neg h2]; rw [if_neg h3]; rw [if_neg h4]; rw [if_pos h5]
set_option maxHeartbeats 1000000 in
theorem set_calls5 (W0 : World) (t : List HP) (bc : Nat) (c : Conf) (f : Fld) (w : World) (hs : Sat W0 (HP.pts bc (.cells c.cells.toArray 25 (0, 0)) :: t) w) (h0 : ¬ f.name.toList = [120, 45, 109, 101, 115, 115, 97, 103, 101, 45, 116, 116, 108]) (h1 : ¬ f.name.toList = [120, 45, 101, 120, 112, 105, 114, 101, 115]) (h2 : ¬ f.name.toList = [120, 45, 109, 97, 120, 45, 108, 101, 110, 103, 116, 104]) (h3 : ¬ f.name.toList = [120, 45, 109, 97, 120, 45, 112, 114, 105, 111, 114, 105, 116, 121]) (h4 : ¬ f.name.toList = [120, 45, 100, 101, 97, 100, 45, 108, 101, 116, 116, 101, 114, 45, 101, 120, 99, 104, 97, 110, 103, 101]) (h5 : f.name.toList = [120, 45, 100, 101, 97, 100, 45, 108, 101, 116, 116, 101, 114, 45, 114, 111, 117, 116, 105, 110, 103, 45, 107, 101, 121]) :
    Calls Try.prog 25 #[.pointer (some ⟨bc, 0, none⟩), .agg f.cells.toArray] w (SetPost W0 t bc c (setCode c f)) := by
  have hcode := set_code5 (c := c) h0 h1 h2 h3 h4 h5
  have HC := Lib.hid hcode
  clear hcode
  have b0 : (f.name.toList == [120, 45, 109, 101, 115, 115, 97, 103, 101, 45, 116, 116, 108]) = false := by simp [h0]
  have b1 : (f.name.toList == [120, 45, 101, 120, 112, 105, 114, 101, 115]) = false := by simp [h1]
  have b2 : (f.name.toList == [120, 45, 109, 97, 120, 45, 108, 101, 110, 103, 116, 104]) = false := by simp [h2]
  have b3 : (f.name.toList == [120, 45, 109, 97, 120, 45, 112, 114, 105, 111, 114, 105, 116, 121]) = false := by simp [h3]
  have b4 : (f.name.toList == [120, 45, 100, 101, 97, 100, 45, 108, 101, 116, 116, 101, 114, 45, 101, 120, 99, 104, 97, 110, 103, 101]) = false := by simp [h4]
  have b5 : (f.name.toList == [120, 45, 100, 101, 97, 100, 45, 108, 101, 116, 116, 101, 114, 45, 114, 111, 117, 116, 105, 110, 103, 45, 107, 101, 121]) = true := by simp [h5]
  clear h0 h1 h2 h3 h4 h5
  have hj : 5 < c.cells.toArray.size := by simp [Conf.cells]
  have hj2 : 8 < c.cells.toArray.size := by simp [Conf.cells]
  go_enter Try.func25, Try.ntmps25
  go_wp2_with ((with_reducible refine wpl_box _ _ ?_ ?_); rfl; intro K hK; refine wp_box_sat hs _ _ (.agg f.cells.toArray) rfl rfl ?_; intro B wB hs1; have c0 : wB.cell? ⟨B, 0, none⟩ = some (.string f.name) := hs1.cell 0 rfl 0 rfl; refine hK _ _ ?_; clear hK K)
  all_goals
    refine Text.wp_region_text (fun _ => True) [] (by kernel_rfl) (by kernel_rfl) trivial (fun K hK => ?_)
    (repeat ((first | (refine Text.wpT_skip (by rfl) trivial ?_) | (apply Text.wpT_held (by rfl) (by rfl); · (intro w1 hI1; go_simp; try with_reducible rfl)) | (refine Text.wpT_read (by rfl) (by rfl) (.agg f.val.cells.toArray) (exec_load rfl (run_load_agg aggVal tiVal (val_length f.val) (hs1.drew.cellsAt 0 rfl 1 (fld_val f)))) ?_) | (refine Text.wpT_write (by rfl) (by rfl) (fun K' hK' => ?_); go_simp; go_at_call 30; refine (text_calls W0 _ bc 5 8 _ _ f.val _ (hs1.drew.swap) hj hj2).mono ?_; rintro e' w' ⟨rfl, hs3⟩; refine hK' _ _ trivial ?_; clear hK' K')); try simp only [Act.put, List.setIfInBounds_toArray, List.set_cons_zero, List.set_cons_succ]))
    refine Text.wpT_nil (hK _ _ trivial ?_)
    clear hK K
    go_wp2
    go_ret
    exact setPost_text HC.out (by simp [Conf.cells]) hs3.swap.drop
theorem set_code6 {c : Conf} {f : Fld} (h0 : ¬ f.name.toList = [120, 45, 109, 101, 115, 115, 97, 103, 101, 45, 116, 116, 108]) (h1 : ¬ f.name.toList = [120, 45, 101, 120, 112, 105, 114, 101, 115]) (h2 : ¬ f.name.toList = [120, 45, 109, 97, 120, 45, 108, 101, 110, 103, 116, 104]) (h3 : ¬ f.name.toList = [120, 45, 109, 97, 120, 45, 112, 114, 105, 111, 114, 105, 116, 121]) (h4 : ¬ f.name.toList = [120, 45, 100, 101, 97, 100, 45, 108, 101, 116, 116, 101, 114, 45, 101, 120, 99, 104, 97, 110, 103, 101]) (h5 : ¬ f.name.toList = [120, 45, 100, 101, 97, 100, 45, 108, 101, 116, 116, 101, 114, 45, 114, 111, 117, 116, 105, 110, 103, 45, 107, 101, 121]) : setCode c f = (0, c) := by
  unfold setCode; rw [if_neg h0]; rw [if_neg h1]; rw [if_neg h2]; rw [if_neg h3]; rw [if_neg h4]; rw [if_neg h5]; skip
set_option maxHeartbeats 1000000 in
theorem set_calls6 (W0 : World) (t : List HP) (bc : Nat) (c : Conf) (f : Fld) (w : World) (hs : Sat W0 (HP.pts bc (.cells c.cells.toArray 25 (0, 0)) :: t) w) (h0 : ¬ f.name.toList = [120, 45, 109, 101, 115, 115, 97, 103, 101, 45, 116, 116, 108]) (h1 : ¬ f.name.toList = [120, 45, 101, 120, 112, 105, 114, 101, 115]) (h2 : ¬ f.name.toList = [120, 45, 109, 97, 120, 45, 108, 101, 110, 103, 116, 104]) (h3 : ¬ f.name.toList = [120, 45, 109, 97, 120, 45, 112, 114, 105, 111, 114, 105, 116, 121]) (h4 : ¬ f.name.toList = [120, 45, 100, 101, 97, 100, 45, 108, 101, 116, 116, 101, 114, 45, 101, 120, 99, 104, 97, 110, 103, 101]) (h5 : ¬ f.name.toList = [120, 45, 100, 101, 97, 100, 45, 108, 101, 116, 116, 101, 114, 45, 114, 111, 117, 116, 105, 110, 103, 45, 107, 101, 121]) :
    Calls Try.prog 25 #[.pointer (some ⟨bc, 0, none⟩), .agg f.cells.toArray] w (SetPost W0 t bc c (setCode c f)) := by
  have hcode := set_code6 (c := c) h0 h1 h2 h3 h4 h5
  have HC := Lib.hid hcode
  clear hcode
  have b0 : (f.name.toList == [120, 45, 109, 101, 115, 115, 97, 103, 101, 45, 116, 116, 108]) = false := by simp [h0]
  have b1 : (f.name.toList == [120, 45, 101, 120, 112, 105, 114, 101, 115]) = false := by simp [h1]
  have b2 : (f.name.toList == [120, 45, 109, 97, 120, 45, 108, 101, 110, 103, 116, 104]) = false := by simp [h2]
  have b3 : (f.name.toList == [120, 45, 109, 97, 120, 45, 112, 114, 105, 111, 114, 105, 116, 121]) = false := by simp [h3]
  have b4 : (f.name.toList == [120, 45, 100, 101, 97, 100, 45, 108, 101, 116, 116, 101, 114, 45, 101, 120, 99, 104, 97, 110, 103, 101]) = false := by simp [h4]
  have b5 : (f.name.toList == [120, 45, 100, 101, 97, 100, 45, 108, 101, 116, 116, 101, 114, 45, 114, 111, 117, 116, 105, 110, 103, 45, 107, 101, 121]) = false := by simp [h5]
  clear h0 h1 h2 h3 h4 h5
  go_enter Try.func25, Try.ntmps25
  go_wp2_with ((with_reducible refine wpl_box _ _ ?_ ?_); rfl; intro K hK; refine wp_box_sat hs _ _ (.agg f.cells.toArray) rfl rfl ?_; intro B wB hs1; have c0 : wB.cell? ⟨B, 0, none⟩ = some (.string f.name) := hs1.cell 0 rfl 0 rfl; refine hK _ _ ?_; clear hK K)
  go_ret
  exact ⟨by rw [HC.out]; rfl, by rw [HC.out]; exact hs1.drop⟩
theorem set_calls (W0 : World) (t : List HP) (bc : Nat) (c : Conf) (f : Fld) (w : World) (hs : Sat W0 (HP.pts bc (.cells c.cells.toArray 25 (0, 0)) :: t) w) :
    Calls Try.prog 25 #[.pointer (some ⟨bc, 0, none⟩), .agg f.cells.toArray] w (SetPost W0 t bc c (setCode c f)) := by
  by_cases h0 : f.name.toList = [120, 45, 109, 101, 115, 115, 97, 103, 101, 45, 116, 116, 108]
  · exact set_calls0 W0 t bc c f w hs h0
  by_cases h1 : f.name.toList = [120, 45, 101, 120, 112, 105, 114, 101, 115]
  · exact set_calls1 W0 t bc c f w hs h0 h1
  by_cases h2 : f.name.toList = [120, 45, 109, 97, 120, 45, 108, 101, 110, 103, 116, 104]
  · exact set_calls2 W0 t bc c f w hs h0 h1 h2
  by_cases h3 : f.name.toList = [120, 45, 109, 97, 120, 45, 112, 114, 105, 111, 114, 105, 116, 121]
  · exact set_calls3 W0 t bc c f w hs h0 h1 h2 h3
  by_cases h4 : f.name.toList = [120, 45, 100, 101, 97, 100, 45, 108, 101, 116, 116, 101, 114, 45, 101, 120, 99, 104, 97, 110, 103, 101]
  · exact set_calls4 W0 t bc c f w hs h0 h1 h2 h3 h4
  by_cases h5 : f.name.toList = [120, 45, 100, 101, 97, 100, 45, 108, 101, 116, 116, 101, 114, 45, 114, 111, 117, 116, 105, 110, 103, 45, 107, 101, 121]
  · exact set_calls5 W0 t bc c f w hs h0 h1 h2 h3 h4 h5
  exact set_calls6 W0 t bc c f w hs h0 h1 h2 h3 h4 h5
end Pol
end Go.Proofs.Ytfledabgdcnkfaa

/- The walk of policy.Args. -/
set_option linter.unusedVariables false
set_option linter.unusedSimpArgs false
namespace Go.Proofs.Ytfledabgdcnkfaa
open Go.RowKit
namespace Pol
theorem fld_get {w : World} {ad : Addr} {n : Nat} {l : List Fld} (h : Rd w (some ad) n 6 (fldCells l)) {k : Nat} (hk : k < l.length) :
    ∀ j u, (l[k].cells)[j]? = some u → w.cell? ((ad.add (k * 6)).add j) = some u := fun j u hu => by
  rw [add_add']
  refine h.cells ad rfl _ u ?_
  rw [fldCells, pieces_get fld_length l k j hk, hu]
  exact (List.getElem?_eq_some_iff.1 hu).1
def Fld.ok (f : Fld) : Prop := f.val.list.oneCell' = true ∧ f.val.table.oneCell' = true
theorem fld_one {p : Fld} (h : p.ok) : ∀ v ∈ p.cells, v.oneCell' = true := by
  intro v hv
  simp only [Fld.cells, List.mem_cons, List.not_mem_nil, or_false] at hv
  rcases hv with rfl | rfl | rfl | rfl | rfl | rfl
  · rfl
  · rfl
  · rfl
  · rfl
  · exact h.1
  · exact h.2

def ArgsPost (w : World) (r : Int × Conf) (e : Ending) (w' : World) : Prop := e = .returned (.tuple #[.agg r.2.cells.toArray, .int .i64 r.1]) ∧ Below w.heap.size w w'
def ArgsRel (w : World) (R C : Nat) (l : List Fld) (v11 : Value) (wr : World) : Prop :=
  ∃ (k : Nat) (c : Conf), k ≤ l.length ∧ v11 = .int .i64 k ∧ Sat w [HP.pts C (.cells c.cells.toArray 25 (0, 0)), HP.pts R (.cells Conf.zero.cells.toArray 25 (0, 0)), HP.old w] wr ∧ setAll (l.drop k) c = setAll l Conf.none

theorem args_step {l : List Fld} {k : Nat} {c : Conf} (hk : k < l.length) : setAll (l.drop k) c = if (setCode c l[k]).1 = 0 then setAll (l.drop (k + 1)) (setCode c l[k]).2 else ((setCode c l[k]).1, Conf.zero) := by
  rw [List.drop_eq_getElem_cons hk]; rfl

set_option maxRecDepth 100000 in
set_option maxHeartbeats 2000000 in
theorem args_calls (A : Option Addr) (cap : Nat) (l : List Fld) (w : World) (hlen : l.length ≤ 140737488351232) (hr : Rd w A l.length 6 (fldCells l)) (hok : ∀ f ∈ l, f.ok) :
    Calls Try.prog 15 #[.slice A l.length cap] w (ArgsPost w (setAll l Conf.none)) := by
  have hw := Sat.refl w
  go_enter Try.func15, Try.ntmps15
  go_wp2_with (first
    | ((with_reducible refine wpl_alloc _ ?_ ?_); rfl; intro K hK; first | (refine wp_alloc_sat hw _ _ _ _ tiConf rfl ?_; intro R wR hs; refine hK _ _ ?_; clear hK K hw) | (refine wp_alloc_sat hs1 _ _ _ _ tiConf rfl ?_; intro C wC hs2; refine hK _ _ ?_; clear hK K hs1))
    | ((with_reducible refine wpl_store _ _ _ ?_ ?_); rfl; intro K hK; refine wp_store_all hs2 0 _ _ _ rfl _ _ _ tiConf C _ _ rfl rfl Conf.none.cells rfl (conf_length _) rfl (conf_one _) ?_; intro w3 hs3; refine hK _ _ ?_; clear hK K hs2)
    | (go_at_call 12; refine (none_calls _).mono ?_; rintro e w1 ⟨rfl, hb1⟩; have hs1 := hs.below hb1; clear hb1 hs))
  go_loopw [6, 7, 11] (fun v6 v7 v11 wr => ArgsRel w R C l v11 wr) (fun v6 v7 v11 wr => l.length - (intOf v11).toNat)
  case atStart => exact ⟨0, Conf.none, Nat.zero_le _, rfl, hs3, rfl⟩
  case round =>
    clear hs3
    obtain ⟨k, c, hk, rfl, hs, hall⟩ := hrel
    by_cases hlt : k < l.length
    · rw [args_step hlt] at hall
      obtain ⟨ad, rfl⟩ := hr.here (by omega)
      have hel := fld_get (hr.sat (hs.pick 2)) hlt
      have hokk := hok l[k] (List.getElem_mem hlt)
      have HALL := Lib.hid hall
      clear hall
      by_cases h0 : (setCode c l[k]).1 = 0
      · have hb : ((setCode c l[k]).1 != 0) = false := by simp [h0]
        have H0 := Lib.hid h0
        clear h0
        go_wp2_with (first
          | ((with_reducible refine wpl_indexAddr _ _ _ ?_ ?_); rfl; intro K hK; refine wp_indexAddr _ _ _ rfl _ Try.underlying27 _ _ _ tiFld ad _ _ _ _ rfl rfl (by omega) (by omega) ?_; refine hK _ _ ?_; clear hK K)
          | ((with_reducible refine wpl_load 56 _ ?_ ?_); rfl; intro K hK; first | refine wp_load_agg 56 _ rfl aggFld _ _ _ tiFld _ rfl _ (fld_length l[k]) hel ?_ | refine wp_load_agg 56 _ rfl aggFld _ _ _ tiFld _ rfl _ (fld_length l[k]) (hs2.cellsAll 0 rfl) ?_; refine hK _ _ ?_; clear hK K)
          | ((with_reducible refine wpl_alloc _ ?_ ?_); rfl; intro K hK; refine wp_alloc_sat hs _ _ _ _ tiFld rfl ?_; intro B1 w1 hs1; refine hK _ _ ?_; clear hK K)
          | ((with_reducible refine wpl_store 56 _ _ ?_ ?_); rfl; intro K hK; refine wp_store_all hs1 0 _ _ _ rfl _ _ _ tiFld B1 _ _ rfl rfl _ rfl (fld_length l[k]) rfl (fld_one hokk) ?_; intro w2 hs2; refine hK _ _ ?_; clear hK K hs1)
          | (go_at_call 25; refine (set_calls w _ C c l[k] _ hs2.swap).mono ?_; rintro e w4 ⟨rfl, hs4⟩))
        exact ⟨⟨k + 1, _, by omega, rfl, hs4.drop1, by rw [← HALL.out, if_pos H0.out]⟩, by simp [intOf]; omega⟩
      · have hb : ((setCode c l[k]).1 != 0) = true := by simp [h0]
        have H0 := Lib.hid h0
        clear h0
        go_wp2_with (first
          | ((with_reducible refine wpl_indexAddr _ _ _ ?_ ?_); rfl; intro K hK; refine wp_indexAddr _ _ _ rfl _ Try.underlying27 _ _ _ tiFld ad _ _ _ _ rfl rfl (by omega) (by omega) ?_; refine hK _ _ ?_; clear hK K)
          | ((with_reducible refine wpl_load 56 _ ?_ ?_); rfl; intro K hK; first | refine wp_load_agg 56 _ rfl aggFld _ _ _ tiFld _ rfl _ (fld_length l[k]) hel ?_ | refine wp_load_agg 56 _ rfl aggFld _ _ _ tiFld _ rfl _ (fld_length l[k]) (hs2.cellsAll 0 rfl) ?_; refine hK _ _ ?_; clear hK K)
          | ((with_reducible refine wpl_alloc _ ?_ ?_); rfl; intro K hK; refine wp_alloc_sat hs _ _ _ _ tiFld rfl ?_; intro B1 w1 hs1; refine hK _ _ ?_; clear hK K)
          | ((with_reducible refine wpl_store 56 _ _ ?_ ?_); rfl; intro K hK; refine wp_store_all hs1 0 _ _ _ rfl _ _ _ tiFld B1 _ _ rfl rfl _ rfl (fld_length l[k]) rfl (fld_one hokk) ?_; intro w2 hs2; refine hK _ _ ?_; clear hK K hs1)
          | (go_at_call 25; refine (set_calls w _ C c l[k] _ hs2.swap).mono ?_; rintro e w4 ⟨rfl, hs4⟩)
          | ((with_reducible refine wpl_store 25 _ _ ?_ ?_); rfl; intro K hK; refine wp_store_all hs4 2 _ _ _ rfl _ _ _ tiConf R _ _ rfl rfl Conf.zero.cells rfl (conf_length _) rfl (conf_one _) ?_; intro w5 hs5; refine hK _ _ ?_; clear hK K))
        refine bodyPost_ret (v := .tuple #[.agg Conf.zero.cells.toArray, .int .i64 (setCode c l[k]).1]) ?_ rfl ⟨by rw [← HALL.out, if_neg H0.out], (hs5.pick 3).old_below⟩
        exact res_cell_tmp (fn := Try.f15) (p := 2) (t := 3) (ty := 25) (v := .agg Conf.zero.cells.toArray) (ad := ⟨R, 0, none⟩) rfl rfl (run_load_agg aggConf tiConf (conf_length Conf.zero) (hs5.cellsAll 2 rfl))
    · obtain rfl : k = l.length := by omega
      rw [List.drop_length] at hall
      have HALL := Lib.hid hall
      clear hall
      have c7 : wr.cell? ⟨C, 7, none⟩ = some (.bool c.hdlx) := hs.cell 0 rfl 7 rfl
      have c8 : wr.cell? ⟨C, 8, none⟩ = some (.bool c.hdlk) := hs.cell 0 rfl 8 rfl
      by_cases h0 : c.hdlk = true ∧ c.hdlx = false
      · have hfin : setAll [] c = (2, Conf.zero) := if_pos h0
        have HF := Lib.hid hfin
        obtain ⟨h1, h2⟩ := h0
        rw [h1] at c8
        rw [h2] at c7
        clear hfin h1 h2
        go_wp2_with ((with_reducible refine wpl_store 25 _ _ ?_ ?_); rfl; intro K hK; refine wp_store_all hs 1 _ _ _ rfl _ _ _ tiConf R _ _ rfl rfl Conf.zero.cells rfl (conf_length _) rfl (conf_one _) ?_; intro w5 hs5; refine hK _ _ ?_; clear hK K)
        refine bodyPost_ret (v := .tuple #[.agg Conf.zero.cells.toArray, .int .i64 2]) ?_ rfl ⟨by rw [← HALL.out, HF.out], (hs5.pick 2).old_below⟩
        exact res_cell_tmp (fn := Try.f15) (p := 2) (t := 3) (ty := 25) (v := .agg Conf.zero.cells.toArray) (ad := ⟨R, 0, none⟩) rfl rfl (run_load_agg aggConf tiConf (conf_length Conf.zero) (hs5.cellsAll 1 rfl))
      · have hfin : setAll [] c = (0, c) := if_neg h0
        have HF := Lib.hid hfin
        have hgood : c.hdlk = false ∨ (c.hdlk = true ∧ c.hdlx = true) := by
          cases h1 : c.hdlk <;> cases h2 : c.hdlx <;> simp_all
        clear hfin h0
        have hcs := hs.cellsAll 0 rfl
        rcases hgood with h1 | ⟨h1, h2⟩
        · rw [h1] at c8
          clear h1
          go_wp2_with (first
            | ((with_reducible refine wpl_load 25 _ ?_ ?_); rfl; intro K hK; refine wp_load_agg 25 _ rfl aggConf _ _ _ tiConf _ rfl _ (conf_length c) hcs ?_; refine hK _ _ ?_; clear hK K)
            | ((with_reducible refine wpl_store 25 _ _ ?_ ?_); rfl; intro K hK; refine wp_store_all hs 1 _ _ _ rfl _ _ _ tiConf R _ _ rfl rfl c.cells rfl (conf_length _) rfl (conf_one _) ?_; intro w5 hs5; refine hK _ _ ?_; clear hK K))
          refine bodyPost_ret (v := .tuple #[.agg c.cells.toArray, .int .i64 0]) ?_ rfl ⟨by rw [← HALL.out, HF.out], (hs5.pick 2).old_below⟩
          exact res_cell_tmp (fn := Try.f15) (p := 2) (t := 3) (ty := 25) (v := .agg c.cells.toArray) (ad := ⟨R, 0, none⟩) rfl rfl (run_load_agg aggConf tiConf (conf_length c) (hs5.cellsAll 1 rfl))
        · rw [h1] at c8
          rw [h2] at c7
          clear h1 h2
          go_wp2_with (first
            | ((with_reducible refine wpl_load 25 _ ?_ ?_); rfl; intro K hK; refine wp_load_agg 25 _ rfl aggConf _ _ _ tiConf _ rfl _ (conf_length c) hcs ?_; refine hK _ _ ?_; clear hK K)
            | ((with_reducible refine wpl_store 25 _ _ ?_ ?_); rfl; intro K hK; refine wp_store_all hs 1 _ _ _ rfl _ _ _ tiConf R _ _ rfl rfl c.cells rfl (conf_length _) rfl (conf_one _) ?_; intro w5 hs5; refine hK _ _ ?_; clear hK K))
          refine bodyPost_ret (v := .tuple #[.agg c.cells.toArray, .int .i64 0]) ?_ rfl ⟨by rw [← HALL.out, HF.out], (hs5.pick 2).old_below⟩
          exact res_cell_tmp (fn := Try.f15) (p := 2) (t := 3) (ty := 25) (v := .agg c.cells.toArray) (ad := ⟨R, 0, none⟩) rfl rfl (run_load_agg aggConf tiConf (conf_length c) (hs5.cellsAll 1 rfl))
end Pol
end Go.Proofs.Ytfledabgdcnkfaa

