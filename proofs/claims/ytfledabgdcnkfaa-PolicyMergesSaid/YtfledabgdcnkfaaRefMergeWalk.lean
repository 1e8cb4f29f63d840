/- The walk of the reference's Merge. -/
import Derived.Test.YtfledabgdcnkfaaMergeWalk
import Derived.Test.YtfledabgdcnkfaaOrders

set_option linter.unusedVariables false
set_option linter.unusedSimpArgs false
namespace Go.Proofs.Ytfledabgdcnkfaa
open Go.RowKit
namespace Pol
theorem first_calls (own by_ : Int) (w : World) : Calls Try.prog 28 #[.int .i64 own, .int .i64 by_] w fun e w' => e = .returned (.int .i64 (either own by_)) ∧ w = w' := by
  by_cases h : 0 ≤ own
  · have he : either own by_ = own := if_pos h
    have h2 : ¬ own < 0 := by omega
    have HE := Lib.hid he
    clear he
    go_enter Try.func28, Try.ntmps28
    go_wp2
    go_ret
    rw [HE.out]
    exact ⟨rfl, rfl⟩
  · have he : either own by_ = by_ := if_neg h
    have h2 : own < 0 := by omega
    have HE := Lib.hid he
    clear he
    go_enter Try.func28, Try.ntmps28
    go_wp2
    go_ret
    rw [HE.out]
    exact ⟨rfl, rfl⟩
theorem first_one {a b c d : Int} : ∀ v ∈ ([.int .i64 a, .int .i64 b, .int .i64 c, .int .i64 d, .string ByteArray.empty, .string ByteArray.empty, .string ByteArray.empty, .bool false, .bool false, .bool false] : List Value), v.oneCell' = true := by
  intro v hv
  simp only [List.mem_cons, List.not_mem_nil, or_false] at hv
  rcases hv with rfl | rfl | rfl | rfl | rfl | rfl | rfl | rfl | rfl | rfl <;> rfl

theorem scStr : scalar Try.prog 9 = true := by kernel_rfl
theorem scBool : scalar Try.prog 4 = true := by kernel_rfl
set_option maxRecDepth 100000 in
set_option maxHeartbeats 4000000 in
theorem refMerge_calls (own by_ : Conf) (w : World) : Calls Try.prog 21 #[.agg own.cells.toArray, .agg by_.cells.toArray] w fun e w' =>
    e = .returned (.agg (merge own by_).cells.toArray) ∧ Below w.heap.size w w' := by
  have hw := Sat.refl w
  go_enter Try.func21, Try.ntmps21
  apply wp_seq_k; intro _ _
  apply wp_region_lit
  ((with_reducible refine wpl_box _ _ ?_ ?_); rfl; intro K hK; refine wp_box_sat hw _ _ (.agg own.cells.toArray) rfl rfl ?_; intro b2 w2 hs2; refine hK _ _ ?_; clear hK K hw)
  ((with_reducible refine wpl_box _ _ ?_ ?_); rfl; intro K hK; refine wp_box_sat hs2 _ _ (.agg by_.cells.toArray) rfl rfl ?_; intro b3 w3 hs3; refine hK _ _ ?_; clear hK K hs2)
  try simp only [Act.put, List.setIfInBounds_toArray, List.set_cons_zero, List.set_cons_succ]
  ((with_reducible refine wpl_alloc _ ?_ ?_); rfl; intro K hK; refine wp_alloc_sat hs3 _ _ _ _ tiConf rfl ?_; intro B4 w4 hs4; refine hK _ _ ?_; clear hK K hs3)
  try simp only [Act.put, List.setIfInBounds_toArray, List.set_cons_zero, List.set_cons_succ]
  have hs : Sat w [HP.pts B4 (.cells Conf.zero.cells.toArray 25 (0, 0)), HP.pts b3 (.cells by_.cells.toArray 25 (0, 0)), HP.pts b2 (.cells own.cells.toArray 25 (0, 0)), HP.old w] w4 := hs4
  clear hs4
  have hI : MI b2 b3 own by_ w4 := ⟨hs.block 2 rfl, hs.block 1 rfl⟩
  go_wp2
  try simp only [Act.put, List.setIfInBounds_toArray, List.set_cons_zero, List.set_cons_succ]
  have f0 : ∀ w1, MI b2 b3 own by_ w1 → w1.cell? ⟨b2, 0, none⟩ = some (.int .i64 own.ttl) := fun w1 h => (cell_of_row w1 b2 0 _ _ _ h.1).trans rfl
  have g0 : ∀ w1, MI b2 b3 own by_ w1 → w1.cell? ⟨b3, 0, none⟩ = some (.int .i64 by_.ttl) := fun w1 h => (cell_of_row w1 b3 0 _ _ _ h.2).trans rfl
  have f1 : ∀ w1, MI b2 b3 own by_ w1 → w1.cell? ⟨b2, 1, none⟩ = some (.int .i64 own.exp) := fun w1 h => (cell_of_row w1 b2 1 _ _ _ h.1).trans rfl
  have g1 : ∀ w1, MI b2 b3 own by_ w1 → w1.cell? ⟨b3, 1, none⟩ = some (.int .i64 by_.exp) := fun w1 h => (cell_of_row w1 b3 1 _ _ _ h.2).trans rfl
  have f2 : ∀ w1, MI b2 b3 own by_ w1 → w1.cell? ⟨b2, 2, none⟩ = some (.int .i64 own.mlen) := fun w1 h => (cell_of_row w1 b2 2 _ _ _ h.1).trans rfl
  have g2 : ∀ w1, MI b2 b3 own by_ w1 → w1.cell? ⟨b3, 2, none⟩ = some (.int .i64 by_.mlen) := fun w1 h => (cell_of_row w1 b3 2 _ _ _ h.2).trans rfl
  have f3 : ∀ w1, MI b2 b3 own by_ w1 → w1.cell? ⟨b2, 3, none⟩ = some (.int .i64 own.mprio) := fun w1 h => (cell_of_row w1 b2 3 _ _ _ h.1).trans rfl
  have g3 : ∀ w1, MI b2 b3 own by_ w1 → w1.cell? ⟨b3, 3, none⟩ = some (.int .i64 by_.mprio) := fun w1 h => (cell_of_row w1 b3 3 _ _ _ h.2).trans rfl
  (refine Ord.wp_region_orders (MI b2 b3 own by_) ⟨[1, 3, 6, 8, 11, 13, 16, 18], [(4, .int .i64 (either own.ttl by_.ttl)), (9, .int .i64 (either own.exp by_.exp)), (14, .int .i64 (either own.mlen by_.mlen)), (19, .int .i64 (either own.mprio by_.mprio))]⟩ [[0, 1, 2, 3, 4, 5, 6, 7, 8, 9, 10, 11, 12, 13, 14, 15, 16, 17, 18, 19, 20, 21, 22]] (by kernel_rfl) (by kernel_rfl) hI.drew (fun K hK σ hσ => ?_))
  obtain rfl : σ = [0, 1, 2, 3, 4, 5, 6, 7, 8, 9, 10, 11, 12, 13, 14, 15, 16, 17, 18, 19, 20, 21, 22] := List.mem_singleton.1 hσ
  clear hσ
  (have hsD := hs.drew; clear hs; have hs := hsD; clear hsD; have hID := MI.drew hI; clear hI; have hI := hID; clear hID)
  (repeat ((first
    | (refine Ord.u_skip (by rfl) (by rfl) hI ?_)
    | (apply Ord.u_held (by rfl) (by rfl) (by rfl); · (intro w1 hI1; go_simp; try with_reducible rfl))
    | (refine Ord.u_call (by rfl) (by rfl) (by rfl) _ rfl (fun w1 _ => Ord.gives_call ?_ (first_calls _ _ _)) ?_; · go_simp)
    | (refine Ord.u_write (by rfl) (by rfl) (by rfl) (fun K' hK' => ?_); refine wp_alloc_sat hs _ _ _ _ tiConf rfl ?_; intro B5 w' hs'; clear hI; have hI : MI b2 b3 own by_ w' := ⟨hs'.block 3 rfl, hs'.block 2 rfl⟩; refine hK' _ _ hI (fun _ => ?_); clear hK' K'; clear hs; have hs := hs'; clear hs')
    | (refine Ord.u_write (by rfl) (by rfl) (by rfl) (fun K' hK' => ?_); refine wp_store_all hs 0 _ _ _ rfl _ _ _ tiConf B5 _ _ rfl rfl [.int .i64 (either own.ttl by_.ttl), .int .i64 (either own.exp by_.exp), .int .i64 (either own.mlen by_.mlen), .int .i64 (either own.mprio by_.mprio), .string ByteArray.empty, .string ByteArray.empty, .string ByteArray.empty, .bool false, .bool false, .bool false] rfl rfl rfl first_one ?_; intro w' hs'; clear hI; have hI : MI b2 b3 own by_ w' := ⟨hs'.block 3 rfl, hs'.block 2 rfl⟩; refine hK' _ _ hI (fun _ => ?_); clear hK' K'; clear hs; have hs := hs'; clear hs')); try simp only [Act.put, List.setIfInBounds_toArray, List.set_cons_zero, List.set_cons_succ]))
  refine Ord.u_nil (hK _ _ hI ?_)
  clear hK K
  clear f0 g0 f1 g1 f2 g2 f3 g3
  have f7 : ∀ w1, MI b2 b3 own by_ w1 → w1.cell? ⟨b2, 7, none⟩ = some (.bool own.hdlx) := fun w1 h => (cell_of_row w1 b2 7 _ _ _ h.1).trans rfl
  have f8 : ∀ w1, MI b2 b3 own by_ w1 → w1.cell? ⟨b2, 8, none⟩ = some (.bool own.hdlk) := fun w1 h => (cell_of_row w1 b2 8 _ _ _ h.1).trans rfl
  have f9 : ∀ w1, MI b2 b3 own by_ w1 → w1.cell? ⟨b2, 9, none⟩ = some (.bool own.halt) := fun w1 h => (cell_of_row w1 b2 9 _ _ _ h.1).trans rfl
  rcases Bool.eq_false_or_eq_true own.hdlx with h7 | h7 <;> rcases Bool.eq_false_or_eq_true own.hdlk with h8 | h8 <;> rcases Bool.eq_false_or_eq_true own.halt with h9 | h9
  all_goals (go_wp2_with (first
    | ((with_reducible refine wpl_alloc _ ?_ ?_); rfl; intro K hK; refine wp_alloc_sat hs _ _ _ _ tiConf rfl ?_; intro B6 w' hs'; refine hK _ _ ?_; clear hK K; clear hs; have hs := hs'; clear hs'; clear hI; have hI : MI b2 b3 own by_ w' := ⟨hs.block 4 rfl, hs.block 3 rfl⟩)
    | ((with_reducible refine wpl_load 25 _ ?_ ?_); rfl; intro K hK; first
      | (refine wp_load_agg 25 _ rfl aggConf _ _ _ tiConf ⟨b2, 0, none⟩ rfl _ (conf_length own) (hs.cellsAll 4 rfl) ?_; refine hK _ _ ?_; clear hK K)
      | (refine wp_load_agg 25 _ rfl aggConf _ _ _ tiConf ⟨b3, 0, none⟩ rfl _ (conf_length by_) (hs.cellsAll 3 rfl) ?_; refine hK _ _ ?_; clear hK K)
      | (refine wp_load_agg 25 _ rfl aggConf _ _ _ tiConf ⟨b2, 0, none⟩ rfl _ (conf_length own) (hs.cellsAll 3 rfl) ?_; refine hK _ _ ?_; clear hK K)
      | (have hs9 := (hs.pick 1).cells_eq (c' := (merge own by_).cells.toArray) (by rw [merge_eq own by_ _ _ _ h7 h8 h9]; simp [Conf.cells]); refine wp_load_agg 25 _ rfl aggConf _ _ _ tiConf ⟨B5, 0, none⟩ rfl _ (conf_length (merge own by_)) (hs9.cellsAll 0 rfl) ?_; refine hK _ _ ?_; clear hK K))
    | ((with_reducible refine wpl_store 25 _ _ ?_ ?_); rfl; intro K hK; first | ((refine wp_store_all hs 0 _ _ _ rfl _ _ _ tiConf B6 _ _ rfl rfl own.cells rfl (conf_length _) rfl (conf_one _) ?_; intro w' hs'; refine hK _ _ ?_; clear hK K; clear hs; have hs := hs'; clear hs'); clear hI; have hI : MI b2 b3 own by_ w' := ⟨hs.block 4 rfl, hs.block 3 rfl⟩) | ((refine wp_store_all hs 0 _ _ _ rfl _ _ _ tiConf B6 _ _ rfl rfl by_.cells rfl (conf_length _) rfl (conf_one _) ?_; intro w' hs'; refine hK _ _ ?_; clear hK K; clear hs; have hs := hs'; clear hs'); clear hI; have hI : MI b2 b3 own by_ w' := ⟨hs.block 4 rfl, hs.block 3 rfl⟩) | (refine wp_store_all hs9 2 _ _ _ rfl _ _ _ tiConf B4 _ _ rfl rfl (merge own by_).cells rfl (conf_length _) rfl (conf_one _) ?_; intro w7 hs7; refine hK _ _ ?_; clear hK K))
    | ((with_reducible refine wpl_load 9 _ ?_ ?_); rfl; intro K hK; (refine wp_load_one _ _ rfl scStr _ rfl _ (hs.cell 0 (b := B6) rfl _ rfl) ?_; refine hK _ _ ?_; clear hK K))
    | ((with_reducible refine wpl_load 4 _ ?_ ?_); rfl; intro K hK; (refine wp_load_one _ _ rfl scBool _ rfl _ (hs.cell 0 (b := B6) rfl _ rfl) ?_; refine hK _ _ ?_; clear hK K))
    | ((with_reducible refine wpl_store 9 _ _ ?_ ?_); rfl; intro K hK; (refine wp_store_one hs 1 _ _ _ rfl _ _ tiStr B5 _ _ _ rfl rfl (.string _) rfl (by simp [Conf.cells]) rfl ?_; intro w' hs'; refine hK _ _ ?_; clear hK K; clear hs; have hs := hs'; clear hs'); clear hI; have hI : MI b2 b3 own by_ w' := ⟨hs.block 4 rfl, hs.block 3 rfl⟩)
    | ((with_reducible refine wpl_store 4 _ _ ?_ ?_); rfl; intro K hK; (refine wp_store_one hs 1 _ _ _ rfl _ _ tiBool B5 _ _ _ rfl rfl (.bool _) rfl (by simp [Conf.cells]) rfl ?_; intro w' hs'; refine hK _ _ ?_; clear hK K; clear hs; have hs := hs'; clear hs'); clear hI; have hI : MI b2 b3 own by_ w' := ⟨hs.block 4 rfl, hs.block 3 rfl⟩)))
  all_goals refine bodyPost_ret (v := .agg (merge own by_).cells.toArray) ?_ rfl ⟨rfl, (hs7.pick 5).old_below⟩
  all_goals exact res_cell (fn := Try.f21) (p := 4) (ty := 25) (ad := ⟨B4, 0, none⟩) rfl rfl (run_load_agg aggConf tiConf (conf_length (merge own by_)) (hs7.cellsAll 2 rfl))
end Pol
end Go.Proofs.Ytfledabgdcnkfaa
