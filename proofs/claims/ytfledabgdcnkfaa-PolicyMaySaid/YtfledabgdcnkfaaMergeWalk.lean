/- The walks of policy.None, either and Merge. -/
import Derived.Test.YtfledabgdcnkfaaRows
import Derived.Test.YtfledabgdcnkfaaMem
import Derived.Test.YtfledabgdcnkfaaPolPlain
set_option linter.unusedVariables false
set_option linter.unusedSimpArgs false
namespace Go.Proofs.Ytfledabgdcnkfaa
open Go.RowKit
namespace Pol
theorem tiConf : TI Try.prog 25 (.agg (Conf.cells Conf.zero).toArray) 10 88 := by unfold TI; kernel_rfl
theorem tiInt : TI Try.prog 3 (.int .i64 0) 1 8 := by unfold TI; kernel_rfl
theorem tiBool : TI Try.prog 4 (.bool false) 1 1 := by unfold TI; kernel_rfl
theorem tiStr : TI Try.prog 9 (.string ByteArray.empty) 1 16 := by unfold TI; kernel_rfl
theorem aggConf : aggregate Try.prog 25 = true := by kernel_rfl
theorem conf_length (c : Conf) : c.cells.length = 10 := rfl
theorem conf_one (p : Conf) : ∀ v ∈ p.cells, v.oneCell' = true := by
  intro v hv
  simp only [Conf.cells, List.mem_cons, List.not_mem_nil, or_false] at hv
  rcases hv with rfl | rfl | rfl | rfl | rfl | rfl | rfl | rfl | rfl | rfl <;> rfl

theorem either_calls (own by_ : Int) (w : World) : Calls Try.prog 27 #[.int .i64 own, .int .i64 by_] w fun e w' => e = .returned (.int .i64 (either own by_)) ∧ w = w' := by
  by_cases h : 0 ≤ own
  · have he : either own by_ = own := if_pos h
    have HE := Lib.hid he
    clear he
    go_enter Try.func27, Try.ntmps27
    go_wp2
    go_ret
    rw [HE.out]
    exact ⟨rfl, rfl⟩
  · have he : either own by_ = by_ := if_neg h
    have HE := Lib.hid he
    clear he
    go_enter Try.func27, Try.ntmps27
    go_wp2
    go_ret
    rw [HE.out]
    exact ⟨rfl, rfl⟩

theorem none_calls (w : World) : Calls Try.prog 12 #[] w fun e w' => e = .returned (.agg Conf.none.cells.toArray) ∧ Below w.heap.size w w' := by
  have hw := Sat.refl w
  go_enter Try.func12, Try.ntmps12
  go_wp2_with (first
    | ((with_reducible refine wpl_alloc _ ?_ ?_); rfl; intro K hK; refine wp_alloc_sat hw _ _ _ _ tiConf rfl ?_; intro B wB hs; refine hK _ _ ?_; clear hK K hw)
    | ((with_reducible refine wpl_store _ _ _ ?_ ?_); rfl; intro K hK; refine wp_store_all hs 0 _ _ _ rfl _ _ _ tiConf B _ _ rfl rfl Conf.none.cells rfl (conf_length _) rfl (conf_one _) ?_; intro w3 hs3; refine hK _ _ ?_; clear hK K))
  refine bodyPost_ret (v := .agg Conf.none.cells.toArray) ?_ rfl ⟨rfl, (hs3.pick 1).old_below⟩
  exact res_cell (fn := Try.f12) (p := 0) (ty := 25) (ad := ⟨B, 0, none⟩) rfl rfl (run_load_agg aggConf tiConf (conf_length Conf.none) (hs3.cellsAll 0 rfl))
/-- What stays over the whole call: the two boxes. -/
def MI (b2 b3 : Nat) (own by_ : Conf) (w : World) : Prop := w.heap[b2]? = some (.cells own.cells.toArray 25 (0, 0)) ∧ w.heap[b3]? = some (.cells by_.cells.toArray 25 (0, 0))
theorem MI.drew {b2 b3 : Nat} {own by_ : Conf} {w : World} (h : MI b2 b3 own by_ w) : MI b2 b3 own by_ w.drew := h
theorem keepI {b2 b3 : Nat} {own by_ : Conf} {w0 w : World} {l : List HP} (hs : Sat w0 l w) (h3 : l[2]? = some (HP.pts b3 (.cells by_.cells.toArray 25 (0, 0)))) (h2 : l[3]? = some (HP.pts b2 (.cells own.cells.toArray 25 (0, 0)))) : MI b2 b3 own by_ w :=
  ⟨hs.block 3 h2, hs.block 2 h3⟩

set_option maxRecDepth 100000 in
set_option maxHeartbeats 4000000 in
theorem merge_calls (own by_ : Conf) (w : World) : Calls Try.prog 20 #[.agg own.cells.toArray, .agg by_.cells.toArray] w fun e w' =>
    e = .returned (.agg (merge own by_).cells.toArray) ∧ Below w.heap.size w w' := by
  have hw := Sat.refl w
  go_enter Try.func20, Try.ntmps20
  apply wp_seq_k; intro _ _
  apply wp_region_lit
  ((with_reducible refine wpl_box _ _ ?_ ?_); rfl; intro K hK; refine wp_box_sat hw _ _ (.agg own.cells.toArray) rfl rfl ?_; intro b2 w2 hs2; refine hK _ _ ?_; clear hK K hw)
  ((with_reducible refine wpl_box _ _ ?_ ?_); rfl; intro K hK; refine wp_box_sat hs2 _ _ (.agg by_.cells.toArray) rfl rfl ?_; intro b3 w3 hs3; refine hK _ _ ?_; clear hK K hs2)
  try simp only [Act.put, List.setIfInBounds_toArray, List.set_cons_zero, List.set_cons_succ]
  ((with_reducible refine wpl_alloc _ ?_ ?_); rfl; intro K hK; refine wp_alloc_sat hs3 _ _ _ _ tiConf rfl ?_; intro B4 w4 hs4; refine hK _ _ ?_; clear hK K hs3)
  try simp only [Act.put, List.setIfInBounds_toArray, List.set_cons_zero, List.set_cons_succ]
  go_wp2_with (first
    | ((with_reducible refine wpl_load 25 _ ?_ ?_); rfl; intro K hK; refine wp_load_agg 25 _ rfl aggConf _ _ _ tiConf ⟨b2, 0, none⟩ rfl _ (conf_length own) (hs4.cellsAll 2 rfl) ?_; refine hK _ _ ?_; clear hK K)
    | ((with_reducible refine wpl_alloc _ ?_ ?_); rfl; intro K hK; refine wp_alloc_sat hs4 _ _ _ _ tiConf rfl ?_; intro B5 w5 hs5; refine hK _ _ ?_; clear hK K hs4)
    | ((with_reducible refine wpl_store _ _ _ ?_ ?_); rfl; intro K hK; refine wp_store_all hs5 0 _ _ _ rfl _ _ _ tiConf B5 _ _ rfl rfl own.cells rfl (conf_length own) rfl (conf_one _) ?_; intro w6 hs6; have hs : Sat w [HP.pts B5 (.cells own.cells.toArray 25 (0, 0)), HP.pts B4 (.cells Conf.zero.cells.toArray 25 (0, 0)), HP.pts b3 (.cells by_.cells.toArray 25 (0, 0)), HP.pts b2 (.cells own.cells.toArray 25 (0, 0)), HP.old w] w6 := hs6; have hI := keepI hs rfl rfl; refine hK _ _ ?_; clear hK K hs5 hs6))
  try simp only [Act.put, List.setIfInBounds_toArray, List.set_cons_zero, List.set_cons_succ]
  have f0 : ∀ w1, MI b2 b3 own by_ w1 → w1.cell? ⟨b2, 0, none⟩ = some (.int .i64 own.ttl) := fun w1 h => (cell_of_row w1 b2 0 _ _ _ h.1).trans rfl
  have g0 : ∀ w1, MI b2 b3 own by_ w1 → w1.cell? ⟨b3, 0, none⟩ = some (.int .i64 by_.ttl) := fun w1 h => (cell_of_row w1 b3 0 _ _ _ h.2).trans rfl
  have f1 : ∀ w1, MI b2 b3 own by_ w1 → w1.cell? ⟨b2, 1, none⟩ = some (.int .i64 own.exp) := fun w1 h => (cell_of_row w1 b2 1 _ _ _ h.1).trans rfl
  have g1 : ∀ w1, MI b2 b3 own by_ w1 → w1.cell? ⟨b3, 1, none⟩ = some (.int .i64 by_.exp) := fun w1 h => (cell_of_row w1 b3 1 _ _ _ h.2).trans rfl
  (refine Text.wp_region_text (MI b2 b3 own by_) [1, 3, 6, 8] (by kernel_rfl) (by kernel_rfl) hI.drew (fun K hK => ?_); have hsD := hs.drew; clear hs; have hs := hsD; clear hsD; have hID := MI.drew hI; clear hI; have hI := hID; clear hID; (repeat ((first | (refine Text.wpT_skip (by rfl) hI ?_) | (apply Text.wpT_held (by rfl) (by rfl); · (intro w1 hI1; go_simp; try with_reducible rfl)) | (refine Text.wpT_write (by rfl) (by rfl) (fun K' hK' => ?_); go_simp; go_at_call 27; refine (either_calls _ _ _).mono ?_; rintro e w' ⟨rfl, rfl⟩; refine hK' _ _ hI ?_; clear hK' K') | (refine Text.wpT_write (by rfl) (by rfl) (fun K' hK' => ?_); (first | refine wp_store_one hs 0 _ _ _ rfl _ _ tiInt B5 _ _ _ rfl rfl (.int _ _) rfl (by simp [Conf.cells]) rfl ?_ | refine wp_store_one hs 0 _ _ _ rfl _ _ tiStr B5 _ _ _ rfl rfl (.string _) rfl (by simp [Conf.cells]) rfl ?_ | refine wp_store_one hs 0 _ _ _ rfl _ _ tiBool B5 _ _ _ rfl rfl (.bool _) rfl (by simp [Conf.cells]) rfl ?_); intro w' hs'; clear hI; have hI := keepI (Sat.mk hs'.os hs'.tape hs'.output hs'.sat) rfl rfl; refine hK' _ _ hI ?_; clear hK' K' hs; have hs := hs'; clear hs')); try simp only [Act.put, List.setIfInBounds_toArray, List.set_cons_zero, List.set_cons_succ])); refine Text.wpT_nil (hK _ _ hI ?_); clear hK K)
  clear f0 f1 g0 g1
  have f2 : ∀ w1, MI b2 b3 own by_ w1 → w1.cell? ⟨b2, 2, none⟩ = some (.int .i64 own.mlen) := fun w1 h => (cell_of_row w1 b2 2 _ _ _ h.1).trans rfl
  have g2 : ∀ w1, MI b2 b3 own by_ w1 → w1.cell? ⟨b3, 2, none⟩ = some (.int .i64 by_.mlen) := fun w1 h => (cell_of_row w1 b3 2 _ _ _ h.2).trans rfl
  have f3 : ∀ w1, MI b2 b3 own by_ w1 → w1.cell? ⟨b2, 3, none⟩ = some (.int .i64 own.mprio) := fun w1 h => (cell_of_row w1 b2 3 _ _ _ h.1).trans rfl
  have g3 : ∀ w1, MI b2 b3 own by_ w1 → w1.cell? ⟨b3, 3, none⟩ = some (.int .i64 by_.mprio) := fun w1 h => (cell_of_row w1 b3 3 _ _ _ h.2).trans rfl
  go_wp2
  try simp only [Act.put, List.setIfInBounds_toArray, List.set_cons_zero, List.set_cons_succ]
  (refine Text.wp_region_text (MI b2 b3 own by_) [1, 3, 6, 8] (by kernel_rfl) (by kernel_rfl) hI.drew (fun K hK => ?_); have hsD := hs.drew; clear hs; have hs := hsD; clear hsD; have hID := MI.drew hI; clear hI; have hI := hID; clear hID; (repeat ((first | (refine Text.wpT_skip (by rfl) hI ?_) | (apply Text.wpT_held (by rfl) (by rfl); · (intro w1 hI1; go_simp; try with_reducible rfl)) | (refine Text.wpT_write (by rfl) (by rfl) (fun K' hK' => ?_); go_simp; go_at_call 27; refine (either_calls _ _ _).mono ?_; rintro e w' ⟨rfl, rfl⟩; refine hK' _ _ hI ?_; clear hK' K') | (refine Text.wpT_write (by rfl) (by rfl) (fun K' hK' => ?_); (first | refine wp_store_one hs 0 _ _ _ rfl _ _ tiInt B5 _ _ _ rfl rfl (.int _ _) rfl (by simp [Conf.cells]) rfl ?_ | refine wp_store_one hs 0 _ _ _ rfl _ _ tiStr B5 _ _ _ rfl rfl (.string _) rfl (by simp [Conf.cells]) rfl ?_ | refine wp_store_one hs 0 _ _ _ rfl _ _ tiBool B5 _ _ _ rfl rfl (.bool _) rfl (by simp [Conf.cells]) rfl ?_); intro w' hs'; clear hI; have hI := keepI (Sat.mk hs'.os hs'.tape hs'.output hs'.sat) rfl rfl; refine hK' _ _ hI ?_; clear hK' K' hs; have hs := hs'; clear hs')); try simp only [Act.put, List.setIfInBounds_toArray, List.set_cons_zero, List.set_cons_succ])); refine Text.wpT_nil (hK _ _ hI ?_); clear hK K)
  clear f2 f3 g2 g3
  have g4 : ∀ w1, MI b2 b3 own by_ w1 → w1.cell? ⟨b3, 4, none⟩ = some (.string by_.dlx) := fun w1 h => (cell_of_row w1 b3 4 _ _ _ h.2).trans rfl
  have g5 : ∀ w1, MI b2 b3 own by_ w1 → w1.cell? ⟨b3, 5, none⟩ = some (.string by_.dlk) := fun w1 h => (cell_of_row w1 b3 5 _ _ _ h.2).trans rfl
  have g6 : ∀ w1, MI b2 b3 own by_ w1 → w1.cell? ⟨b3, 6, none⟩ = some (.string by_.alt) := fun w1 h => (cell_of_row w1 b3 6 _ _ _ h.2).trans rfl
  have f7 : ∀ w1, MI b2 b3 own by_ w1 → w1.cell? ⟨b2, 7, none⟩ = some (.bool own.hdlx) := fun w1 h => (cell_of_row w1 b2 7 _ _ _ h.1).trans rfl
  have g7 : ∀ w1, MI b2 b3 own by_ w1 → w1.cell? ⟨b3, 7, none⟩ = some (.bool by_.hdlx) := fun w1 h => (cell_of_row w1 b3 7 _ _ _ h.2).trans rfl
  have f8 : ∀ w1, MI b2 b3 own by_ w1 → w1.cell? ⟨b2, 8, none⟩ = some (.bool own.hdlk) := fun w1 h => (cell_of_row w1 b2 8 _ _ _ h.1).trans rfl
  have g8 : ∀ w1, MI b2 b3 own by_ w1 → w1.cell? ⟨b3, 8, none⟩ = some (.bool by_.hdlk) := fun w1 h => (cell_of_row w1 b3 8 _ _ _ h.2).trans rfl
  have f9 : ∀ w1, MI b2 b3 own by_ w1 → w1.cell? ⟨b2, 9, none⟩ = some (.bool own.halt) := fun w1 h => (cell_of_row w1 b2 9 _ _ _ h.1).trans rfl
  have g9 : ∀ w1, MI b2 b3 own by_ w1 → w1.cell? ⟨b3, 9, none⟩ = some (.bool by_.halt) := fun w1 h => (cell_of_row w1 b3 9 _ _ _ h.2).trans rfl
  rcases Bool.eq_false_or_eq_true own.hdlx with h7 | h7 <;> rcases Bool.eq_false_or_eq_true own.hdlk with h8 | h8 <;> rcases Bool.eq_false_or_eq_true own.halt with h9 | h9
  all_goals (go_wp2_with (first
    | ((with_reducible refine wpl_load 25 _ ?_ ?_); rfl; intro K hK; have hs9 := hs.cells_eq (c' := (merge own by_).cells.toArray) (by rw [merge_eq own by_ _ _ _ h7 h8 h9]; simp [Conf.cells]); refine wp_load_agg 25 _ rfl aggConf _ _ _ tiConf ⟨B5, 0, none⟩ rfl _ (conf_length (merge own by_)) (hs9.cellsAll 0 rfl) ?_; refine hK _ _ ?_; clear hK K)
    | ((with_reducible refine wpl_store 25 _ _ ?_ ?_); rfl; intro K hK; refine wp_store_all hs9 1 _ _ _ rfl _ _ _ tiConf B4 _ _ rfl rfl (merge own by_).cells rfl (conf_length _) rfl (conf_one _) ?_; intro w7 hs7; refine hK _ _ ?_; clear hK K)); try simp only [Act.put, List.setIfInBounds_toArray, List.set_cons_zero, List.set_cons_succ])
  all_goals try ((refine Text.wp_region_text (MI b2 b3 own by_) [1, 3] (by kernel_rfl) (by kernel_rfl) hI.drew (fun K hK => ?_); have hsD := hs.drew; clear hs; have hs := hsD; clear hsD; have hID := MI.drew hI; clear hI; have hI := hID; clear hID; (repeat ((first | (refine Text.wpT_skip (by rfl) hI ?_) | (apply Text.wpT_held (by rfl) (by rfl); · (intro w1 hI1; go_simp; try with_reducible rfl)) | (refine Text.wpT_write (by rfl) (by rfl) (fun K' hK' => ?_); go_simp; go_at_call 27; refine (either_calls _ _ _).mono ?_; rintro e w' ⟨rfl, rfl⟩; refine hK' _ _ hI ?_; clear hK' K') | (refine Text.wpT_write (by rfl) (by rfl) (fun K' hK' => ?_); (first | refine wp_store_one hs 0 _ _ _ rfl _ _ tiInt B5 _ _ _ rfl rfl (.int _ _) rfl (by simp [Conf.cells]) rfl ?_ | refine wp_store_one hs 0 _ _ _ rfl _ _ tiStr B5 _ _ _ rfl rfl (.string _) rfl (by simp [Conf.cells]) rfl ?_ | refine wp_store_one hs 0 _ _ _ rfl _ _ tiBool B5 _ _ _ rfl rfl (.bool _) rfl (by simp [Conf.cells]) rfl ?_); intro w' hs'; clear hI; have hI := keepI (Sat.mk hs'.os hs'.tape hs'.output hs'.sat) rfl rfl; refine hK' _ _ hI ?_; clear hK' K' hs; have hs := hs'; clear hs')); try simp only [Act.put, List.setIfInBounds_toArray, List.set_cons_zero, List.set_cons_succ])); refine Text.wpT_nil (hK _ _ hI ?_); clear hK K); go_wp2_with (first
    | ((with_reducible refine wpl_load 25 _ ?_ ?_); rfl; intro K hK; have hs9 := hs.cells_eq (c' := (merge own by_).cells.toArray) (by rw [merge_eq own by_ _ _ _ h7 h8 h9]; simp [Conf.cells]); refine wp_load_agg 25 _ rfl aggConf _ _ _ tiConf ⟨B5, 0, none⟩ rfl _ (conf_length (merge own by_)) (hs9.cellsAll 0 rfl) ?_; refine hK _ _ ?_; clear hK K)
    | ((with_reducible refine wpl_store 25 _ _ ?_ ?_); rfl; intro K hK; refine wp_store_all hs9 1 _ _ _ rfl _ _ _ tiConf B4 _ _ rfl rfl (merge own by_).cells rfl (conf_length _) rfl (conf_one _) ?_; intro w7 hs7; refine hK _ _ ?_; clear hK K)); try simp only [Act.put, List.setIfInBounds_toArray, List.set_cons_zero, List.set_cons_succ])
  all_goals try ((refine Text.wp_region_text (MI b2 b3 own by_) [1, 3] (by kernel_rfl) (by kernel_rfl) hI.drew (fun K hK => ?_); have hsD := hs.drew; clear hs; have hs := hsD; clear hsD; have hID := MI.drew hI; clear hI; have hI := hID; clear hID; (repeat ((first | (refine Text.wpT_skip (by rfl) hI ?_) | (apply Text.wpT_held (by rfl) (by rfl); · (intro w1 hI1; go_simp; try with_reducible rfl)) | (refine Text.wpT_write (by rfl) (by rfl) (fun K' hK' => ?_); go_simp; go_at_call 27; refine (either_calls _ _ _).mono ?_; rintro e w' ⟨rfl, rfl⟩; refine hK' _ _ hI ?_; clear hK' K') | (refine Text.wpT_write (by rfl) (by rfl) (fun K' hK' => ?_); (first | refine wp_store_one hs 0 _ _ _ rfl _ _ tiInt B5 _ _ _ rfl rfl (.int _ _) rfl (by simp [Conf.cells]) rfl ?_ | refine wp_store_one hs 0 _ _ _ rfl _ _ tiStr B5 _ _ _ rfl rfl (.string _) rfl (by simp [Conf.cells]) rfl ?_ | refine wp_store_one hs 0 _ _ _ rfl _ _ tiBool B5 _ _ _ rfl rfl (.bool _) rfl (by simp [Conf.cells]) rfl ?_); intro w' hs'; clear hI; have hI := keepI (Sat.mk hs'.os hs'.tape hs'.output hs'.sat) rfl rfl; refine hK' _ _ hI ?_; clear hK' K' hs; have hs := hs'; clear hs')); try simp only [Act.put, List.setIfInBounds_toArray, List.set_cons_zero, List.set_cons_succ])); refine Text.wpT_nil (hK _ _ hI ?_); clear hK K); go_wp2_with (first
    | ((with_reducible refine wpl_load 25 _ ?_ ?_); rfl; intro K hK; have hs9 := hs.cells_eq (c' := (merge own by_).cells.toArray) (by rw [merge_eq own by_ _ _ _ h7 h8 h9]; simp [Conf.cells]); refine wp_load_agg 25 _ rfl aggConf _ _ _ tiConf ⟨B5, 0, none⟩ rfl _ (conf_length (merge own by_)) (hs9.cellsAll 0 rfl) ?_; refine hK _ _ ?_; clear hK K)
    | ((with_reducible refine wpl_store 25 _ _ ?_ ?_); rfl; intro K hK; refine wp_store_all hs9 1 _ _ _ rfl _ _ _ tiConf B4 _ _ rfl rfl (merge own by_).cells rfl (conf_length _) rfl (conf_one _) ?_; intro w7 hs7; refine hK _ _ ?_; clear hK K)); try simp only [Act.put, List.setIfInBounds_toArray, List.set_cons_zero, List.set_cons_succ])
  all_goals try ((refine Text.wp_region_text (MI b2 b3 own by_) [1, 3] (by kernel_rfl) (by kernel_rfl) hI.drew (fun K hK => ?_); have hsD := hs.drew; clear hs; have hs := hsD; clear hsD; have hID := MI.drew hI; clear hI; have hI := hID; clear hID; (repeat ((first | (refine Text.wpT_skip (by rfl) hI ?_) | (apply Text.wpT_held (by rfl) (by rfl); · (intro w1 hI1; go_simp; try with_reducible rfl)) | (refine Text.wpT_write (by rfl) (by rfl) (fun K' hK' => ?_); go_simp; go_at_call 27; refine (either_calls _ _ _).mono ?_; rintro e w' ⟨rfl, rfl⟩; refine hK' _ _ hI ?_; clear hK' K') | (refine Text.wpT_write (by rfl) (by rfl) (fun K' hK' => ?_); (first | refine wp_store_one hs 0 _ _ _ rfl _ _ tiInt B5 _ _ _ rfl rfl (.int _ _) rfl (by simp [Conf.cells]) rfl ?_ | refine wp_store_one hs 0 _ _ _ rfl _ _ tiStr B5 _ _ _ rfl rfl (.string _) rfl (by simp [Conf.cells]) rfl ?_ | refine wp_store_one hs 0 _ _ _ rfl _ _ tiBool B5 _ _ _ rfl rfl (.bool _) rfl (by simp [Conf.cells]) rfl ?_); intro w' hs'; clear hI; have hI := keepI (Sat.mk hs'.os hs'.tape hs'.output hs'.sat) rfl rfl; refine hK' _ _ hI ?_; clear hK' K' hs; have hs := hs'; clear hs')); try simp only [Act.put, List.setIfInBounds_toArray, List.set_cons_zero, List.set_cons_succ])); refine Text.wpT_nil (hK _ _ hI ?_); clear hK K); go_wp2_with (first
    | ((with_reducible refine wpl_load 25 _ ?_ ?_); rfl; intro K hK; have hs9 := hs.cells_eq (c' := (merge own by_).cells.toArray) (by rw [merge_eq own by_ _ _ _ h7 h8 h9]; simp [Conf.cells]); refine wp_load_agg 25 _ rfl aggConf _ _ _ tiConf ⟨B5, 0, none⟩ rfl _ (conf_length (merge own by_)) (hs9.cellsAll 0 rfl) ?_; refine hK _ _ ?_; clear hK K)
    | ((with_reducible refine wpl_store 25 _ _ ?_ ?_); rfl; intro K hK; refine wp_store_all hs9 1 _ _ _ rfl _ _ _ tiConf B4 _ _ rfl rfl (merge own by_).cells rfl (conf_length _) rfl (conf_one _) ?_; intro w7 hs7; refine hK _ _ ?_; clear hK K)); try simp only [Act.put, List.setIfInBounds_toArray, List.set_cons_zero, List.set_cons_succ])
  all_goals go_wp2_with (first
    | ((with_reducible refine wpl_load 25 _ ?_ ?_); rfl; intro K hK; have hs9 := hs.cells_eq (c' := (merge own by_).cells.toArray) (by rw [merge_eq own by_ _ _ _ h7 h8 h9]; simp [Conf.cells]); refine wp_load_agg 25 _ rfl aggConf _ _ _ tiConf ⟨B5, 0, none⟩ rfl _ (conf_length (merge own by_)) (hs9.cellsAll 0 rfl) ?_; refine hK _ _ ?_; clear hK K)
    | ((with_reducible refine wpl_store 25 _ _ ?_ ?_); rfl; intro K hK; refine wp_store_all hs9 1 _ _ _ rfl _ _ _ tiConf B4 _ _ rfl rfl (merge own by_).cells rfl (conf_length _) rfl (conf_one _) ?_; intro w7 hs7; refine hK _ _ ?_; clear hK K))
  all_goals refine bodyPost_ret (v := .agg (merge own by_).cells.toArray) ?_ rfl ⟨rfl, (hs7.pick 4).old_below⟩
  all_goals exact res_cell (fn := Try.f20) (p := 4) (ty := 25) (ad := ⟨B4, 0, none⟩) rfl rfl (run_load_agg aggConf tiConf (conf_length (merge own by_)) (hs7.cellsAll 1 rfl))
end Pol
end Go.Proofs.Ytfledabgdcnkfaa
