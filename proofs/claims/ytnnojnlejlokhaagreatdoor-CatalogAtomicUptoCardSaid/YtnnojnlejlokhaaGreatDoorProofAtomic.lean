/- For all changes and fates, where what is read is of bulk at most 1048576: changes that are refused have changed nothing, those that are made are all there, behind any crash. -/
import Derived.Test.YtnnojnlejlokhaaGreatDoorCards
import Derived.Test.YtnnojnlejlokhaaGreatDoorTie
import Derived.Test.YtnnojnlejlokhaaGreatDoorCat6
import Derived.ProofKit
import Derived.Shelf.Vars
import Derived.LaidMore
import Derived.LaidLaws
import Derived.Lib.LaidU8
import Derived.OpenShut
import Derived.ShutString
import Derived.ChangeMaps5
import Derived.ChangeBears2
import Derived.Lay
import Derived.Deep.DeepHandedRow
set_option linter.unusedVariables false
set_option linter.unusedSimpArgs false
set_option linter.unusedSectionVars false
namespace Go.Proofs.YtnnojnlejlokhaaGreatDoor.catalogAtomic
open Go.ChangeShapes Go.WideShapes Go.ChangeAt Go.RowKit Go.Deep Eng Kit
theorem own : ownKnob Θ.godebug = none := χ
theorem laidOut : laidOutB Θ = true := χ
theorem reads (os : Os) {H : Type} (enc : TypeId × Value -> H) : ∃ places, DataW.whole enc Θ ((World.laidAll Θ os Rows.catalogAtomicUptoRow.laid).forCall (fun _ _ => 0) ⟨#[], #[.slice none 0 0, .slice none 0 0, .agg #[.slice none 0 0, .int .i64 0]], []⟩).memory Tryz.f5.params.toList Rows.catalogAtomicSpec.vars false #[Value.slice none 0 0, .slice none 0 0, .agg #[.slice none 0 0, .int .i64 0]].toList 8 = some ([.nil, .nil, .agg [.nil, .lit (.int .i64 0)]], [], places) :=
 ⟨[], by kernel_rfl⟩
def nibZ : List Int := [0, 274646895, 549293790, 820201905, 1098587580, 1361435347, 1640403810, 1905808397, 2197175160, 2460548119, 2722870694, 2987750089, 3280807620, 3553878443, 3811616794, 4084100981]
theorem at_nib : Rows.catalogAtomicUptoRow.laid[5]? = some ("warren/seal.nibble", Lib.tabData .u32 nibZ) := χ
theorem ln_of {W : World} (h : laidMetH Θ Rows.catalogAtomicUptoRow.laid W) : Wk.LN W where
 tab := fun k hk => by
  rw [MakeChecks.laidMetH_plain _ _ _ χ] at h; obtain ⟨g, t, cs, fuel, p, hg, ht, hv, hd⟩ := Lib.laidMet.reads h (List.mem_of_getElem? at_nib); obtain rfl := Option.some.inj ((show Θ.globalNamed "warren/seal.nibble" = some 0 by kernel_rfl).symm.trans hg); obtain rfl := Option.some.inj ((show (Θ.globals[0]?).map (·.type) = some 168 by kernel_rfl).symm.trans ht); have hc := Lib.cells_of_tab Tryz.underlying168 Tryz.underlying149 χ χ hd
  have e : (Addr.mk 0 0 none).add (k * 1) = Addr.mk 0 k none := by
   rw [Nat.mul_one]; unfold Addr.add; split
   ·rename_i h; subst h; rfl
   ·show Addr.mk _ (0 + k) none = _; rw [Nat.zero_add]
  rw [e, var?_cell (show Θ.globalNamed "warren/seal.nibble" = some 0 by kernel_rfl) hv k, <- Array.getElem?_toList, hc]
  rcases k with _|_|_|_|_|_|_|_|_|_|_|_|_|_|_|_|k
  all_goals first | rfl | omega
set_option maxRecDepth 100000 in
theorem lifted (os : Os) (started : os.Started) (H : Type) (enc : TypeId × Value -> H) (F : Stop.Interp) :
  ReturnsInHanded {} Tryz.checked os 5 .any ((Rows.OpenSpec.upto Rows.catalogAtomicSpec).preRow enc Θ Tryz.f5 Rows.catalogAtomicUptoRow.domain false Rows.catalogAtomicUptoRow.laid) (((Rows.OpenSpec.upto Rows.catalogAtomicSpec).at F).post enc Θ Tryz.f5 false true false false) := by
 obtain ⟨places, hx⟩ := reads os enc
 refine returnsInHanded_of_row (C := Tryz.checked) (s := Rows.OpenSpec.upto Rows.catalogAtomicSpec) own started χ Tryz.func5
  (Wit.row_zip (enc := enc) (C := Tryz.checked) (World.laidAll Θ os Rows.catalogAtomicUptoRow.laid) #[.slice none 0 0, .slice none 0 0, .agg #[.slice none 0 0, .int .i64 0]] (World.laidAll_os _ _ _) χ χ χ
   (OpenSpec.preRow_of_cond 8 hx χ (fun k hk => by cases hk; kernel_rfl) χ (laidMet_laidAll _ χ χ))) ?_
 intro W base args ds gs before hval0 hW _ hcond _ hL hSh _; have hk := hcond _ rfl; have hval : ∀ (j : Nat) t v, Tryz.f5.params[j]? = some t -> args[j]? = some v -> Value.okWide Θ W .any base t v := hval0; have hW' := hW; obtain ⟨p, q, hA0, hV, rfl, hfz, hnd⟩ := hW; have hA : DataW.TrodAll enc Θ W 0 (fun _ => true) true Tryz.f5.params.toList args.toList ds p := hA0; rw [Tryz.params5] at hA hval; obtain ⟨v0, vs0, d0, ds0, p0, q0, hargs, rfl, rfl, h0, r0⟩ := trodAll_cons hA; obtain ⟨v1, vs1, d1, ds1, p1, q1, rfl, rfl, rfl, h1, r1⟩ := trodAll_cons r0; obtain ⟨v2, vs2, d2, ds2, p2, q2, rfl, rfl, rfl, h2, r2⟩ := trodAll_cons r1; obtain ⟨rfl, rfl, rfl⟩ := trodAll_nil r2
 obtain rfl : args = #[v0, v1, v2] := by cases args; simp_all
 obtain ⟨rfl, rfl⟩ := trodVars_none hV; have k0 := h0
 have lt0 : ∀ x ∈ p0, x.block < W.heap.size := by obtain ⟨m, hm⟩ := k0; exact DataW.trod_lt m _ _ _ hm
 obtain ⟨A0, len0, cap0, rfl⟩ := okWide_slice Tryz.underlying23 (hval 0 23 v0 rfl rfl); obtain ⟨fu0, hf0⟩ := h0; obtain ⟨l0, rfl, hrd0, hq0, hw0⟩ := Upto.open_rdU (Q := fun _ => True) Wk.chV δ Wk.chV_len Tryz.underlying23 χ Wk.wtC (fun n cs x h => Wk.open_ch n cs x h) hf0; have hw0 : (l0.map Wk.wtC).sum + 1 <= Rows.uptoBulk d0 := hw0; have k1 := h1
 have lt1 : ∀ x ∈ p1, x.block < W.heap.size := by obtain ⟨m, hm⟩ := k1; exact DataW.trod_lt m _ _ _ hm
 obtain ⟨A1, len1, cap1, rfl⟩ := okWide_slice Tryz.underlying23 (hval 1 23 v1 rfl rfl); obtain ⟨fu1, hf1⟩ := h1; have hcap := Wk.cap_of hf1; obtain ⟨l1, rfl, hrd1, hq1, hw1⟩ := Upto.open_rdU (Q := fun _ => True) Wk.chV δ Wk.chV_len Tryz.underlying23 χ Wk.wtC (fun n cs x h => Wk.open_ch n cs x h) hf1; have hw1 : (l1.map Wk.wtC).sum + 1 <= Rows.uptoBulk d1 := hw1; have k2 := h2
 have lt2 : ∀ x ∈ p2, x.block < W.heap.size := by obtain ⟨m, hm⟩ := k2; exact DataW.trod_lt m _ _ _ hm
 obtain ⟨ok, kp, ck, tr, rfl, hkp, hw2⟩ := Wk.open_fate (hval 2 38 v2 rfl rfl) h2; have hbd := Upto.bound hk; have hsz : Rows.uptoBulkAll (H := H) ([d0, d1, d2] ++ []) <= 1048576 := hbd; simp only [List.append_nil, Rows.uptoBulkAll, Nat.add_zero] at hsz; have g0 := Wk.wtC_sum l0; have g1 := Wk.wtC_sum l1; clear hA0 hval0
 refine (Wk.atomic_calls (ln_of hL) cap0 cap1 ck tr (Wk.cat_of hrd0 ω) (Wk.cat_of hrd1 ω) hcap ⟨by show _ <= 140737488351232; omega, hkp⟩ ω ω).mono fun e W' ⟨he, bel⟩ => ?_
 subst he
 exact ⟨_, rfl, _, _, _, [], _, [], hW', trodAll_mk1 (shut_bool Tryz.underlying4 _), (trodAll_cons_mk (Below.trod laidOut χ (of_decide_eq_true χ) k0 bel lt0) (trodAll_cons_mk (Below.trod laidOut χ (of_decide_eq_true χ) k1 bel lt1) (trodAll_cons_mk (Below.trod laidOut χ (of_decide_eq_true χ) k2 bel lt2) trodAll_mk0))), rfl, bel.frame _, fun h => by cases h⟩
theorem saidUpto : Rows.CatalogAtomicUptoSaid :=
 OpenClaim.holds_of_cond 5 Tryz.f5 rfl rfl rfl rfl rfl rfl rfl ⟨rfl, rfl, rfl, rfl, rfl⟩ rfl rfl rfl rfl rfl χ Tryz.func5 χ
  (of_decide_eq_true χ) (by unfold Func.isWrapper; first | (rw [if_pos (by decide +kernel)]; kernel_rfl) | (rw [if_neg (by decide +kernel)]; exact ⟨rfl, rfl⟩))
  (fun os started H enc _ F => by rw [OpenClaim.pre_eq_preRow]; exact lifted os started H enc F)
theorem plain (f : FuncId) (fn : Func) (hf : Tryz.pinned.checked.prog.funcNamed "warren/warrenlaw13.CatalogAtomic" = some f) (hfn : Tryz.pinned.checked.prog.funcs[f]? = some fn) :
  true = Tryz.pinned.checked.prog.looks [] /\ ∀ (j : Nat) t, fn.params[j]? = some t -> Tryz.pinned.checked.prog.wantsStandIn t = false := by
 obtain rfl : f = 5 := Option.some.inj ((show Θ.funcNamed "warren/warrenlaw13.CatalogAtomic" = some 5 by kernel_rfl).symm.trans hf) |>.symm; obtain rfl : fn = Tryz.f5 := (Option.some.inj (Tryz.func5.symm.trans hfn)).symm
 refine ⟨χ, fun j t ht => ?_⟩
 rw [Tryz.params5] at ht
 have hm : t ∈ [23, 38] := by
  have := Array.mem_of_getElem? ht; simpa using this
 simp only [List.mem_cons, List.not_mem_nil, or_false] at hm
 rcases hm with rfl | rfl
 ·exact (show Θ.wantsStandIn 23 = false by kernel_rfl)
 ·exact (show Θ.wantsStandIn 38 = false by kernel_rfl)
theorem proved : Rows.CatalogAtomicUptoCardSaid :=
 Claim7.holds_tied_plain_at .later [] _ _ _ _ saidUpto (fun _ h => by cases h) χ (fun _ h => by cases h) catalogAtomicUpto_row_tie rfl ⟨rfl, rfl⟩ χ rfl plain χ
#print axioms proved
end Go.Proofs.YtnnojnlejlokhaaGreatDoor.catalogAtomic
