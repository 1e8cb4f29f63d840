/- The walk of the law PolicyGlobs. -/
import Derived.Test.YtfledabgdcnkfaaSpeaks
import Derived.Test.YtfledabgdcnkfaaRefGlobWalk
set_option linter.unusedVariables false
set_option linter.unusedSimpArgs false
namespace Go.Proofs.Ytfledabgdcnkfaa
open Go.RowKit
namespace Pol
theorem rnone_calls (w : World) : Calls Try.prog 13 #[] w fun e w' => e = .returned (.agg Conf.none.cells.toArray) ∧ Below w.heap.size w w' := by
  have hw := Sat.refl w
  go_enter Try.func13, Try.ntmps13
  go_wp2_with (first
    | ((with_reducible refine wpl_alloc _ ?_ ?_); rfl; intro K hK; refine wp_alloc_sat hw _ _ _ _ tiConf rfl ?_; intro B wB hs; refine hK _ _ ?_; clear hK K hw)
    | ((with_reducible refine wpl_store _ _ _ ?_ ?_); rfl; intro K hK; refine wp_store_all hs 0 _ _ _ rfl _ _ _ tiConf B _ _ rfl rfl Conf.none.cells rfl (conf_length _) rfl (conf_one _) ?_; intro w3 hs3; refine hK _ _ ?_; clear hK K))
  refine bodyPost_ret (v := .agg Conf.none.cells.toArray) ?_ rfl ⟨rfl, (hs3.pick 1).old_below⟩
  exact res_cell (fn := Try.f13) (p := 0) (ty := 25) (ad := ⟨B, 0, none⟩) rfl rfl (run_load_agg aggConf tiConf (conf_length Conf.none) (hs3.cellsAll 0 rfl))

set_option maxRecDepth 100000 in
set_option maxHeartbeats 1000000 in
theorem globs_calls (p t : ByteArray) (w : World) (hp : p.size ≤ 140737488351232) (ht : t.size ≤ 140737488351232) :
    Calls Try.prog 3 #[.string p, .string t] w fun e w' => e = .returned (.bool true) ∧ Below w.heap.size w w' := by
  have hs := Sat.refl w
  go_enter Try.func3, Try.ntmps3
  go_wp2_with (go_at_call 9; refine (speaks_calls _).mono ?_; rintro e w1 ⟨rfl, hb⟩; have hs1 := hs.below hb; clear hs hb)
  refine (Glob.glob_calls _ _ _ (by unfold maxLen; omega) (by unfold maxLen; omega)).mono ?_
  rintro e w2 ⟨rfl, n, rfl⟩
  have hs2 := hs1.drewN n
  clear hs1
  go_wp2_with fail
  refine (Glob.refGlob_calls _ _ _ hp ht).mono ?_
  rintro e w3 ⟨rfl, hb⟩
  have hs3 := hs2.belowL hb rfl rfl rfl rfl
  clear hb hs2
  have he : (Glob.gm p.data.toList t.data.toList == Glob.gm p.data.toList t.data.toList) = true := beq_self_eq_true _
  go_wp2_with fail
  refine (none_calls _).mono ?_
  rintro e w4 ⟨rfl, hb⟩
  have hs4 := hs3.belowL hb rfl rfl rfl rfl
  clear hb hs3
  simp only [noneArr]
  go_wp2_with fail
  refine (rnone_calls _).mono ?_
  rintro e w5 ⟨rfl, hb⟩
  have hs5 := hs4.belowL hb rfl rfl rfl rfl
  clear hb hs4
  simp only [noneArr]
  go_wp2_with fail
  go_ret
  exact ⟨rfl, hs5.old_below⟩
end Pol
end Go.Proofs.Ytfledabgdcnkfaa
