/- The walk of the law PolicyMay. -/
import Derived.Test.YtfledabgdcnkfaaSpeaks
import Derived.Test.YtfledabgdcnkfaaRefMayWalk
import Derived.Test.YtfledabgdcnkfaaMem3
set_option linter.unusedVariables false
set_option linter.unusedSimpArgs false
namespace Go.Proofs.Ytfledabgdcnkfaa
open Go.RowKit
namespace Pol
def askCells (user vhost name : ByteArray) (way : Int) : List Value := [.string user, .string vhost, .string name, .int .i64 way]
def AI (b3 : Nat) (user vhost name : ByteArray) (way : Int) (w : World) : Prop := w.heap[b3]? = some (.cells (askCells user vhost name way).toArray 48 (0, 0))
theorem perms_one (l : List Perm) : ∀ v ∈ permCells l, v.oneCell' = true := by
  intro v hv
  obtain ⟨p, _, hp⟩ := List.mem_flatMap.1 hv
  exact perm_one p v hp
set_option maxRecDepth 100000 in
set_option maxHeartbeats 2000000 in
theorem mayLaw_calls (A : Option Addr) (cap : Nat) (l : List Perm) (user vhost name : ByteArray) (way : Int) (w : World) (hlen : l.length * 80 ≤ 140737488351232) (hr : Rd w A l.length 5 (permCells l)) (hok : ∀ p ∈ l, p.user.size ≤ 140737488351232 ∧ p.vhost.size ≤ 140737488351232 ∧ p.conf.size ≤ 140737488351232 ∧ p.write.size ≤ 140737488351232 ∧ p.read.size ≤ 140737488351232) (hn : name.size ≤ 140737488351232) :
    Calls Try.prog 7 #[.slice A l.length cap, .agg (askCells user vhost name way).toArray] w fun e w' => e = .returned (.bool true) ∧ Below w.heap.size w w' := by
  have hw := Sat.refl w
  go_enter Try.func7, Try.ntmps7
  apply wp_seq_k; intro _ _
  apply wp_region_lit
  ((with_reducible refine wpl_box _ _ ?_ ?_); rfl; intro K hK; refine wp_box_sat hw _ _ (.agg (askCells user vhost name way).toArray) rfl rfl ?_; intro b3 w3 hs3; refine hK _ _ ?_; clear hK K hw)
  try simp only [Act.put, List.setIfInBounds_toArray, List.set_cons_zero, List.set_cons_succ]
  go_wp2_with (go_at_call 9; refine (speaks_calls _).mono ?_; rintro e w4 ⟨rfl, hb⟩; have hs := hs3.belowL hb rfl rfl rfl rfl; clear hs3 hb)
  try simp only [Act.put, List.setIfInBounds_toArray, List.set_cons_zero, List.set_cons_succ]
  have g0 : ∀ w1, AI b3 user vhost name way w1 → w1.cell? ⟨b3, 0, none⟩ = some (.string user) := fun w1 h => (cell_of_row w1 b3 0 _ _ _ h).trans rfl
  have g1 : ∀ w1, AI b3 user vhost name way w1 → w1.cell? ⟨b3, 1, none⟩ = some (.string vhost) := fun w1 h => (cell_of_row w1 b3 1 _ _ _ h).trans rfl
  have g2 : ∀ w1, AI b3 user vhost name way w1 → w1.cell? ⟨b3, 2, none⟩ = some (.string name) := fun w1 h => (cell_of_row w1 b3 2 _ _ _ h).trans rfl
  have g3 : ∀ w1, AI b3 user vhost name way w1 → w1.cell? ⟨b3, 3, none⟩ = some (.int .i64 way) := fun w1 h => (cell_of_row w1 b3 3 _ _ _ h).trans rfl
  have hI : AI b3 user vhost name way _ := hs.block 0 rfl
  refine Text.wp_region_text (AI b3 user vhost name way) [4, 6, 8, 10, 14, 16, 18, 20] (by kernel_rfl) (by kernel_rfl) hI (fun K hK => ?_)
  have hsD := hs.drew
  clear hs
  have hs := hsD
  clear hsD
  (repeat ((first | (refine Text.wpT_skip (by rfl) hI ?_) | (apply Text.wpT_held (by rfl) (by rfl); · (intro w1 hI1; go_simp; try with_reducible rfl))); try simp only [Act.put, List.setIfInBounds_toArray, List.set_cons_zero, List.set_cons_succ]))
  refine Text.wpT_writeI (by rfl) (by rfl) (fun K' hK' => ?_)
  go_simp
  have hs1 := hs.row_lit 58 5 0 [] rfl (by decide)
  refine hK' _ _ ((hs1.block 1 rfl : _)) (fun hI => ?_)
  clear hK' K' hs
  try simp only [Act.put, List.setIfInBounds_toArray, List.set_cons_zero, List.set_cons_succ]
  (repeat ((first | (refine Text.wpT_skip (by rfl) hI ?_) | (apply Text.wpT_held (by rfl) (by rfl); · (intro w1 hI1; go_simp; try with_reducible rfl))); try simp only [Act.put, List.setIfInBounds_toArray, List.set_cons_zero, List.set_cons_succ]))
  refine Text.wpT_writeI (by rfl) (by rfl) (fun K' hK' => ?_)
  have hrA : Rd (w4.drew.alloc (.cells #[] 58)) A l.length 5 (permCells l) := (hr.sat (hs1.pick 2)).keep fun _ _ hu => hu
  refine wp_append_rd (.tmp 7) (.tmp 8) _ rfl 58 _ 5 80 Try.underlying46 tiPerm rfl (by decide) _ 0 0 [] rfl hs1 A l.length cap (permCells l) rfl hrA (perms_one l) (by unfold maxLen; omega) (by omega) ?_
  intro A' cap' w5 hs5
  simp only [Nat.zero_add, List.nil_append] at hs5 ⊢
  refine hK' _ _ (hs5.block 1 rfl : _) (fun hI => ?_)
  clear hK' K' hs1 hrA
  try simp only [Act.put, List.setIfInBounds_toArray, List.set_cons_zero, List.set_cons_succ]
  (repeat ((first | (refine Text.wpT_skip (by rfl) hI ?_) | (apply Text.wpT_held (by rfl) (by rfl); · (intro w1 hI1; go_simp; try with_reducible rfl))); try simp only [Act.put, List.setIfInBounds_toArray, List.set_cons_zero, List.set_cons_succ]))
  refine Text.wpT_writeI (by rfl) (by rfl) (fun K' hK' => ?_)
  go_simp
  refine (may_calls A' cap' l user vhost way name _ (by omega) (Rd.of_row hs5) (fun p hp => by obtain ⟨_, _, h3, h4, h5⟩ := hok p hp; exact ⟨by unfold maxLen; omega, by unfold maxLen; omega, by unfold maxLen; omega⟩) (by unfold maxLen; omega)).mono ?_
  rintro e w6 ⟨rfl, hb⟩
  have hs6 := hs5.below hb
  refine hK' _ _ (hs6.block 1 rfl : _) (fun hI => ?_)
  clear hK' K' hb
  try simp only [Act.put, List.setIfInBounds_toArray, List.set_cons_zero, List.set_cons_succ]
  (repeat ((first | (refine Text.wpT_skip (by rfl) hI ?_) | (apply Text.wpT_held (by rfl) (by rfl); · (intro w1 hI1; go_simp; try with_reducible rfl))); try simp only [Act.put, List.setIfInBounds_toArray, List.set_cons_zero, List.set_cons_succ]))
  refine Text.wpT_writeI (by rfl) (by rfl) (fun K' hK' => ?_)
  go_simp
  refine (refMay_calls A cap l user vhost way name _ (by omega) (hr.sat (hs6.pick 2)) (fun p hp => (hok p hp).2.2) hn).mono ?_
  rintro e w7 ⟨rfl, hb⟩
  have hs7 := hs6.below hb
  refine hK' _ _ (hs7.block 1 rfl : _) (fun hI => ?_)
  clear hK' K' hb
  try simp only [Act.put, List.setIfInBounds_toArray, List.set_cons_zero, List.set_cons_succ]
  have hbb : (l.any (may1 user vhost way name) == l.any (may1 user vhost way name)) = true := beq_self_eq_true _
  (repeat ((first | (refine Text.wpT_skip (by rfl) hI ?_) | (apply Text.wpT_held (by rfl) (by rfl); · (intro w1 hI1; go_simp; try with_reducible rfl))); try simp only [Act.put, List.setIfInBounds_toArray, List.set_cons_zero, List.set_cons_succ]))
  refine Text.wpT_nil (hK _ _ hI ?_)
  clear hK K
  go_wp2
  go_ret
  exact ⟨rfl, (hs7.pick 2).old_below⟩
end Pol
end Go.Proofs.Ytfledabgdcnkfaa
