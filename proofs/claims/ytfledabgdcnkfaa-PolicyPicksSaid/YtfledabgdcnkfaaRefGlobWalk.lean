/- The walk of the reference's Glob: it tells the same. -/
import Derived.Test.YtfledabgdcnkfaaGlobWalk
import Derived.Test.YtfledabgdcnkfaaSatOps
import Derived.Test.YtfledabgdcnkfaaRegion
set_option linter.unusedVariables false
set_option linter.unusedSimpArgs false
namespace Go.Proofs.Ytfledabgdcnkfaa
open Go.RowKit
namespace Glob
theorem infoB : (Try.prog.info? 4).map (fun i => (i.zero, i.size, i.bytes)) = some (some (.bool false), 1, 1) := by kernel_rfl

def bools (l : List Bool) : List Value := l.map Value.bool
theorem bools_one (l : List Bool) : ∀ u ∈ bools l, u.oneCell' = true := by
  intro u hu
  obtain ⟨b, _, rfl⟩ := List.mem_map.1 hu
  rfl
theorem cell1 (w : World) (b : Bool) (e : TypeId) : ∀ j u, [Value.bool b][j]? = some u → (w.alloc (.cells #[Value.bool b] e)).cell? ((⟨w.heap.size, 0, none⟩ : Addr).add j) = some u := fun j u h => cell_one_new _ _ _ j u h

theorem bools_get {p t : List UInt8} {j m : Nat} (h : j ≤ t.length) (hm : j < m) : (bools ((row p t).take m))[j]? = some (.bool (gm p (t.take j))) := by
  rw [bools, List.getElem?_map, List.getElem?_take_of_lt hm, row_get p t j h]; rfl
theorem bools_all {p t : List UInt8} {j : Nat} (h : j ≤ t.length) : (bools (row p t))[j]? = some (.bool (gm p (t.take j))) := by
  rw [bools, List.getElem?_map, row_get p t j h]; rfl
theorem bools_step (p t : List UInt8) (j : Nat) (h : j + 1 ≤ t.length) (b : Bool) (hb : b = gm p (t.take (j + 1))) : bools ((row p t).take (j + 1)) ++ [.bool b] = bools ((row p t).take (j + 1 + 1)) := by
  rw [row_take p t j h, hb]; simp [bools]
theorem bools_first (p t : List UInt8) (b : Bool) (hb : b = gm p []) : [Value.bool b] = bools ((row p t).take 1) := by
  rw [row_take_one, hb]; rfl
theorem bools_full (p t : List UInt8) : (row p t).take (t.length + 1) = row p t := List.take_of_length_le (by rw [row_length]; omega)

def RelA (t : ByteArray) (w : World) (v5 v6 : Value) (wr : World) : Prop :=
  ∃ k : Nat, k ≤ t.size ∧ v6 = .int .i64 k ∧ Sat w [HP.row 4 1 v5 (k + 1) (bools (true :: List.replicate k false)), HP.old w] wr
def RelB (p t : ByteArray) (w : World) (v5 v7 : Value) (wr : World) : Prop :=
  ∃ k : Nat, k ≤ p.size ∧ v7 = .int .i64 k ∧ Sat w [HP.row 4 1 v5 (t.size + 1) (bools (row (p.data.toList.take k) t.data.toList)), HP.old w] wr
def RelC (p t : ByteArray) (w : World) (k : Nat) (v5 v8 v9 : Value) (wr : World) : Prop :=
  ∃ j : Nat, j ≤ t.size ∧ v9 = .int .i64 j ∧ Sat w [HP.row 4 1 v8 (j + 1) (bools ((row (p.data.toList.take (k + 1)) t.data.toList).take (j + 1))), HP.row 4 1 v5 (t.size + 1) (bools (row (p.data.toList.take k) t.data.toList)), HP.old w] wr

theorem take_succ_get (p : ByteArray) (k : Nat) (h : k < p.size) : p.data.toList.take (k + 1) = p.data.toList.take k ++ [p[k]] :=
  List.take_succ_eq_append_getElem (show k < p.data.toList.length from h)

set_option maxHeartbeats 1000000 in
theorem refGlob_calls (p t : ByteArray) (w : World) (hp : p.size ≤ 140737488351232) (ht : t.size ≤ 140737488351232) :
    Calls Try.prog 11 #[.string p, .string t] w fun e w' => e = .returned (.bool (gm p.data.toList t.data.toList)) ∧ Below w.heap.size w w' := by
  obtain ⟨i0, hi, hz0, hz1, hz2⟩ := info_parts infoB
  go_enter Try.func11, Try.ntmps11
  go_wp2
  have hw0 := Sat.refl w
  go_loopw [5, 6] (fun v5 v6 wr => RelA t w v5 v6 wr) (fun v5 v6 wr => t.size - (intOf v6).toNat)
  case atStart =>
    exact ⟨0, Nat.zero_le _, rfl, hw0.row_lit 4 1 1 [.bool true] rfl (by decide)⟩
  case round =>
    obtain ⟨k, hk, rfl, hs⟩ := hrel
    by_cases hkt : k < t.size
    · go_wp2_with (at_builtin; refine wpList_append_sat rfl (.tmp 17) (.tmp 18) 59 rfl 4 i0 (.bool false) 1 1 Try.underlying59 hi hz0 hz1 hz2 rfl (by decide) _ _ _ rfl (hs.alloc _) _ 1 1 [.bool false] rfl rfl (cell1 _ _ _) (bools_one [false]) ?_ ?_ ?_)
      · unfold maxLen; omega
      · omega
      · intro v' w' hs' _
        clear hs
        go_wp2
        refine ⟨⟨k + 1, by omega, rfl, ?_⟩, by simp [intOf]; omega⟩
        have e : bools (true :: List.replicate k false) ++ [.bool false] = bools (true :: List.replicate (k + 1) false) := by
          rw [List.replicate_succ' (n := k)]; simp [bools]
        rw [e] at hs'
        exact hs'
    · obtain rfl : k = t.size := by omega
      go_wp2
      go_loopw [5, 7, 8, 9] (fun v5 v7 v8 v9 wr => RelB p t w v5 v7 wr) (fun v5 v7 v8 v9 wr => p.size - (intOf v7).toNat)
      case atStart =>
        refine ⟨0, Nat.zero_le _, rfl, ?_⟩
        rw [List.take_zero, row_nil]
        exact hs
      case round =>
        clear hs
        obtain ⟨k, hk, rfl, hs⟩ := hrel
        by_cases hkp : k < p.size
        · obtain ⟨g, cap, rfl, hgc, hgm, hcell⟩ := row_cells hs (by omega)
          have hc0 : wr.cell? ⟨g, 0, none⟩ = some (.bool (gm (p.data.toList.take k) [])) := hcell 0 _ (by rw [bools_all (Nat.zero_le _)]; rfl)
          have hc1 : ∀ j : Nat, j ≤ t.size → wr.cell? ⟨g, j, none⟩ = some (.bool (gm (p.data.toList.take k) (t.data.toList.take j))) := fun j hj => hcell j _ (bools_all hj)
          clear hcell
          have HC := Lib.hid hc1
          clear hc1
          have htp := take_succ_get p k hkp
          have hsz : (0 : Int) < (t.size : Int) + 1 := by omega
          rcases Bool.eq_false_or_eq_true ((p[k].toNat : Int) == 42) with h42 | h42
          · have h0 : gm (p.data.toList.take k) [] = gm (p.data.toList.take (k + 1)) [] := by
              rw [htp, eq42 h42]; exact (snoc_star_zero _ t.data.toList).symm
            have HT := Lib.hid htp
            have H0 := Lib.hid h0
            clear htp h0
            go_wp2
            go_loopw [8, 9] (fun v8 v9 wr => RelC p t w k (.slice (some ⟨g, 0, none⟩) (t.size + 1) cap) v8 v9 wr) (fun v8 v9 wr => t.size - (intOf v9).toNat)
            case atStart =>
              refine ⟨0, Nat.zero_le _, rfl, ?_⟩
              rw [← bools_first _ _ _ H0.out]
              exact hs.row_lit 4 1 1 [.bool (gm (p.data.toList.take k) [])] rfl (by decide)
            case round =>
              clear hs hc0
              obtain ⟨j, hj, rfl, hs⟩ := hrel
              by_cases hjt : j < t.size
              · obtain ⟨g8, cap8, rfl, hgc8, hgm8, hcell8⟩ := row_cells hs (by omega)
                have hn8 : wr.cell? ⟨g8, j, none⟩ = some (.bool (gm (p.data.toList.take (k + 1)) (t.data.toList.take j))) := hcell8 j _ (bools_get hj (by omega))
                have hr5 : wr.cell? ⟨g, j + 1, none⟩ = some (.bool (gm (p.data.toList.take k) (t.data.toList.take (j + 1)))) := row_cell (hs.pick 1) (bools_all (show j + 1 ≤ t.data.toList.length from hjt))
                clear hcell8
                have hstep := snoc_star_succ (p.data.toList.take k) t.data.toList j hjt
                rw [← eq42 h42, ← HT.out] at hstep
                rcases Bool.eq_false_or_eq_true (gm (p.data.toList.take k) (t.data.toList.take (j + 1))) with hb | hb
                · rw [hb, Bool.true_or] at hstep
                  rw [hb] at hr5
                  have HS := Lib.hid hstep
                  clear hstep hb
                  go_wp2_with (at_builtin; refine wpList_append_sat rfl (.tmp 46) (.tmp 58) 59 rfl 4 i0 (.bool false) 1 1 Try.underlying59 hi hz0 hz1 hz2 rfl (by decide) _ _ _ rfl (hs.alloc _) _ 1 1 [.bool true] rfl rfl (cell1 _ _ _) (bools_one [true]) ?_ ?_ ?_)
                  · unfold maxLen; omega
                  · omega
                  · intro v' w' hs' _
                    rw [bools_step _ _ _ (show j + 1 ≤ t.data.toList.length from hjt) _ HS.out.symm] at hs'
                    clear hs
                    go_wp2
                    exact ⟨⟨j + 1, by omega, rfl, hs'⟩, by simp [intOf]; omega⟩
                · rw [hb, Bool.false_or] at hstep
                  rw [hb] at hr5
                  have HS := Lib.hid hstep
                  clear hstep hb
                  go_wp2_with (at_builtin; refine wpList_append_sat rfl (.tmp 46) (.tmp 58) 59 rfl 4 i0 (.bool false) 1 1 Try.underlying59 hi hz0 hz1 hz2 rfl (by decide) _ _ _ rfl (hs.alloc _) _ 1 1 [.bool (gm (p.data.toList.take (k + 1)) (t.data.toList.take j))] rfl rfl (cell1 _ _ _) (bools_one [_]) ?_ ?_ ?_)
                  · unfold maxLen; omega
                  · omega
                  · intro v' w' hs' _
                    rw [bools_step _ _ _ (show j + 1 ≤ t.data.toList.length from hjt) _ HS.out.symm] at hs'
                    clear hs
                    go_wp2
                    exact ⟨⟨j + 1, by omega, rfl, hs'⟩, by simp [intOf]; omega⟩
              · obtain rfl : j = t.size := by omega
                have hs' := hs.drop1
                rw [show t.size + 1 = t.data.toList.length + 1 from rfl, bools_full (p.data.toList.take (k + 1)) t.data.toList] at hs'
                clear hs
                go_wp2
                exact ⟨⟨k + 1, by omega, rfl, hs'⟩, by simp [intOf]; omega⟩
          · have hno := ne42 h42
            have h0 : gm (p.data.toList.take (k + 1)) [] = false := by rw [htp]; exact gm_snoc_lit_nil hno _
            have HT := Lib.hid htp
            have H0 := Lib.hid h0
            clear htp h0
            go_wp2
            go_loopw [8, 9] (fun v8 v9 wr => RelC p t w k (.slice (some ⟨g, 0, none⟩) (t.size + 1) cap) v8 v9 wr) (fun v8 v9 wr => t.size - (intOf v9).toNat)
            case atStart =>
              refine ⟨0, Nat.zero_le _, rfl, ?_⟩
              rw [← bools_first _ _ _ H0.out.symm]
              exact hs.row_lit 4 1 1 [.bool false] rfl (by decide)
            case round =>
              clear hs hc0
              obtain ⟨j, hj, rfl, hs⟩ := hrel
              by_cases hjt : j < t.size
              · have hr5 : wr.cell? ⟨g, j, none⟩ = some (.bool (gm (p.data.toList.take k) (t.data.toList.take j))) := row_cell (hs.pick 1) (bools_all (show j ≤ t.data.toList.length from hj))
                have hstep := snoc_lit_succ hno (p.data.toList.take k) t.data.toList j hjt
                rw [← HT.out, get_data t j hjt] at hstep
                have hj1 : (j : Int) < (t.size : Int) + 1 := by omega
                rcases Bool.eq_false_or_eq_true (gm (p.data.toList.take k) (t.data.toList.take j)) with hb | hb
                · rw [hb, Bool.true_and] at hstep
                  rw [hb] at hr5
                  clear hb
                  rcases Bool.eq_false_or_eq_true ((p[k].toNat : Int) == 63) with h63 | h63
                  · rw [eq63 h63, Bool.true_or] at hstep
                    have HS := Lib.hid hstep
                    clear hstep
                    go_wp2
                    refine Text.wp_region_text (fun _ => True) [] (by kernel_rfl) (by kernel_rfl) trivial (fun K hK => ?_)
                    repeat ((first | (refine Text.wpT_skip (by rfl) trivial ?_) | (apply Text.wpT_held (by rfl) (by rfl); · (intro w1 hI1; go_simp; try with_reducible rfl)) | (apply Text.wpT_read (by rfl) (by rfl); · (go_simp; try with_reducible rfl))); simp only [Act.put, List.setIfInBounds_toArray, List.set_cons_zero, List.set_cons_succ])
                    refine Text.wpT_write (by rfl) (by rfl) (fun K' hK' => ?_)
                    go_simp
                    refine hK' _ _ trivial ?_
                    try simp only [Act.put, List.setIfInBounds_toArray, List.set_cons_zero, List.set_cons_succ]
                    refine Text.wpT_write (by rfl) (by rfl) (fun K' hK' => ?_)
                    refine wp_append_sat (.tmp 60) (.tmp 80) 59 rfl 4 i0 (.bool false) 1 1 Try.underlying59 hi hz0 hz1 hz2 rfl (by decide) _ _ _ rfl (hs.drew.alloc _) _ 1 1 [.bool true] rfl rfl (cell1 _ _ _) (bools_one [_]) (by unfold maxLen; omega) (by omega) (fun v' w' hs' _ => ?_)
                    refine hK' _ _ trivial ?_
                    try simp only [Act.put, List.setIfInBounds_toArray, List.set_cons_zero, List.set_cons_succ]
                    repeat ((first | (refine Text.wpT_skip (by rfl) trivial ?_) | (apply Text.wpT_held (by rfl) (by rfl); · (intro w1 hI1; go_simp; try with_reducible rfl)) | (apply Text.wpT_read (by rfl) (by rfl); · (go_simp; try with_reducible rfl))); simp only [Act.put, List.setIfInBounds_toArray, List.set_cons_zero, List.set_cons_succ])
                    refine Text.wpT_nil (hK _ _ trivial ?_)
                    rw [bools_step _ _ _ (show j + 1 ≤ t.data.toList.length from hjt) _ HS.out.symm] at hs'
                    clear hs
                    go_wp2
                    exact ⟨⟨j + 1, by omega, rfl, hs'⟩, by simp [intOf]; omega⟩
                  · rw [ne63 h63, Bool.false_or] at hstep
                    rcases Bool.eq_false_or_eq_true ((p[k].toNat : Int) == (t[j].toNat : Int)) with hpt | hpt
                    · rw [eqB hpt] at hstep
                      have HS := Lib.hid hstep
                      clear hstep
                      go_wp2
                      refine Text.wp_region_text (fun _ => True) [] (by kernel_rfl) (by kernel_rfl) trivial (fun K hK => ?_)
                      repeat ((first | (refine Text.wpT_skip (by rfl) trivial ?_) | (apply Text.wpT_held (by rfl) (by rfl); · (intro w1 hI1; go_simp; try with_reducible rfl)) | (apply Text.wpT_read (by rfl) (by rfl); · (go_simp; try with_reducible rfl))); simp only [Act.put, List.setIfInBounds_toArray, List.set_cons_zero, List.set_cons_succ])
                      refine Text.wpT_write (by rfl) (by rfl) (fun K' hK' => ?_)
                      go_simp
                      refine hK' _ _ trivial ?_
                      try simp only [Act.put, List.setIfInBounds_toArray, List.set_cons_zero, List.set_cons_succ]
                      refine Text.wpT_write (by rfl) (by rfl) (fun K' hK' => ?_)
                      refine wp_append_sat (.tmp 60) (.tmp 80) 59 rfl 4 i0 (.bool false) 1 1 Try.underlying59 hi hz0 hz1 hz2 rfl (by decide) _ _ _ rfl (hs.drew.alloc _) _ 1 1 [.bool true] rfl rfl (cell1 _ _ _) (bools_one [_]) (by unfold maxLen; omega) (by omega) (fun v' w' hs' _ => ?_)
                      refine hK' _ _ trivial ?_
                      try simp only [Act.put, List.setIfInBounds_toArray, List.set_cons_zero, List.set_cons_succ]
                      repeat ((first | (refine Text.wpT_skip (by rfl) trivial ?_) | (apply Text.wpT_held (by rfl) (by rfl); · (intro w1 hI1; go_simp; try with_reducible rfl)) | (apply Text.wpT_read (by rfl) (by rfl); · (go_simp; try with_reducible rfl))); simp only [Act.put, List.setIfInBounds_toArray, List.set_cons_zero, List.set_cons_succ])
                      refine Text.wpT_nil (hK _ _ trivial ?_)
                      rw [bools_step _ _ _ (show j + 1 ≤ t.data.toList.length from hjt) _ HS.out.symm] at hs'
                      clear hs
                      go_wp2
                      exact ⟨⟨j + 1, by omega, rfl, hs'⟩, by simp [intOf]; omega⟩
                    · rw [neB hpt] at hstep
                      have HS := Lib.hid hstep
                      clear hstep
                      go_wp2
                      refine Text.wp_region_text (fun _ => True) [] (by kernel_rfl) (by kernel_rfl) trivial (fun K hK => ?_)
                      repeat ((first | (refine Text.wpT_skip (by rfl) trivial ?_) | (apply Text.wpT_held (by rfl) (by rfl); · (intro w1 hI1; go_simp; try with_reducible rfl)) | (apply Text.wpT_read (by rfl) (by rfl); · (go_simp; try with_reducible rfl))); simp only [Act.put, List.setIfInBounds_toArray, List.set_cons_zero, List.set_cons_succ])
                      refine Text.wpT_write (by rfl) (by rfl) (fun K' hK' => ?_)
                      go_simp
                      refine hK' _ _ trivial ?_
                      try simp only [Act.put, List.setIfInBounds_toArray, List.set_cons_zero, List.set_cons_succ]
                      refine Text.wpT_write (by rfl) (by rfl) (fun K' hK' => ?_)
                      refine wp_append_sat (.tmp 60) (.tmp 80) 59 rfl 4 i0 (.bool false) 1 1 Try.underlying59 hi hz0 hz1 hz2 rfl (by decide) _ _ _ rfl (hs.drew.alloc _) _ 1 1 [.bool false] rfl rfl (cell1 _ _ _) (bools_one [_]) (by unfold maxLen; omega) (by omega) (fun v' w' hs' _ => ?_)
                      refine hK' _ _ trivial ?_
                      try simp only [Act.put, List.setIfInBounds_toArray, List.set_cons_zero, List.set_cons_succ]
                      repeat ((first | (refine Text.wpT_skip (by rfl) trivial ?_) | (apply Text.wpT_held (by rfl) (by rfl); · (intro w1 hI1; go_simp; try with_reducible rfl)) | (apply Text.wpT_read (by rfl) (by rfl); · (go_simp; try with_reducible rfl))); simp only [Act.put, List.setIfInBounds_toArray, List.set_cons_zero, List.set_cons_succ])
                      refine Text.wpT_nil (hK _ _ trivial ?_)
                      rw [bools_step _ _ _ (show j + 1 ≤ t.data.toList.length from hjt) _ HS.out.symm] at hs'
                      clear hs
                      go_wp2
                      exact ⟨⟨j + 1, by omega, rfl, hs'⟩, by simp [intOf]; omega⟩
                · rw [hb, Bool.false_and] at hstep
                  rw [hb] at hr5
                  have HS := Lib.hid hstep
                  clear hstep hb
                  go_wp2
                  refine Text.wp_region_text (fun _ => True) [] (by kernel_rfl) (by kernel_rfl) trivial (fun K hK => ?_)
                  repeat ((first | (refine Text.wpT_skip (by rfl) trivial ?_) | (apply Text.wpT_held (by rfl) (by rfl); · (intro w1 hI1; go_simp; try with_reducible rfl)) | (apply Text.wpT_read (by rfl) (by rfl); · (go_simp; try with_reducible rfl))); simp only [Act.put, List.setIfInBounds_toArray, List.set_cons_zero, List.set_cons_succ])
                  refine Text.wpT_write (by rfl) (by rfl) (fun K' hK' => ?_)
                  go_simp
                  refine hK' _ _ trivial ?_
                  try simp only [Act.put, List.setIfInBounds_toArray, List.set_cons_zero, List.set_cons_succ]
                  refine Text.wpT_write (by rfl) (by rfl) (fun K' hK' => ?_)
                  refine wp_append_sat (.tmp 60) (.tmp 80) 59 rfl 4 i0 (.bool false) 1 1 Try.underlying59 hi hz0 hz1 hz2 rfl (by decide) _ _ _ rfl (hs.drew.alloc _) _ 1 1 [.bool false] rfl rfl (cell1 _ _ _) (bools_one [_]) (by unfold maxLen; omega) (by omega) (fun v' w' hs' _ => ?_)
                  refine hK' _ _ trivial ?_
                  try simp only [Act.put, List.setIfInBounds_toArray, List.set_cons_zero, List.set_cons_succ]
                  repeat ((first | (refine Text.wpT_skip (by rfl) trivial ?_) | (apply Text.wpT_held (by rfl) (by rfl); · (intro w1 hI1; go_simp; try with_reducible rfl)) | (apply Text.wpT_read (by rfl) (by rfl); · (go_simp; try with_reducible rfl))); simp only [Act.put, List.setIfInBounds_toArray, List.set_cons_zero, List.set_cons_succ])
                  refine Text.wpT_nil (hK _ _ trivial ?_)
                  rw [bools_step _ _ _ (show j + 1 ≤ t.data.toList.length from hjt) _ HS.out.symm] at hs'
                  clear hs
                  go_wp2
                  exact ⟨⟨j + 1, by omega, rfl, hs'⟩, by simp [intOf]; omega⟩
              · obtain rfl : j = t.size := by omega
                have hs' := hs.drop1
                rw [show t.size + 1 = t.data.toList.length + 1 from rfl, bools_full (p.data.toList.take (k + 1)) t.data.toList] at hs'
                clear hs
                go_wp2
                exact ⟨⟨k + 1, by omega, rfl, hs'⟩, by simp [intOf]; omega⟩
        · obtain rfl : k = p.size := by omega
          obtain ⟨g, cap, rfl, hgc, hgm, hcell⟩ := row_cells hs (by omega)
          have hc1 : wr.cell? ⟨g, t.size, none⟩ = some (.bool (gm p.data.toList t.data.toList)) := by
            have h1 := hcell t.size _ (bools_all (Nat.le_refl _))
            rw [List.take_of_length_le (show t.data.toList.length ≤ t.size from Nat.le_refl _), List.take_of_length_le (show p.data.toList.length ≤ p.size from Nat.le_refl _)] at h1
            exact h1
          clear hcell
          go_wp2
          go_ret
          exact ⟨rfl, (hs.pick 1).old_below⟩
end Glob
end Go.Proofs.Ytfledabgdcnkfaa
