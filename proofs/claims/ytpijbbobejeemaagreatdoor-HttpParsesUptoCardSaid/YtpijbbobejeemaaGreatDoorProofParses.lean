/- For all scripts, where what is read is of bulk at most 1048576: the parser and the document tell the same. -/
import Derived.Test.YtpijbbobejeemaaGreatDoorCards
import Derived.Test.YtpijbbobejeemaaGreatDoorTie
import Derived.Test.YtpijbbobejeemaaGreatDoorPrs9
import Derived.ProofKit
import Derived.Shelf.Vars
import Derived.LaidMore
import Derived.LaidLaws
import Derived.Lib.LaidU8
import Derived.OpenShut
import Derived.ShutString
import Derived.ChangeMaps5
import Derived.Lay
import Derived.Deep.DeepHandedRow
set_option linter.unusedVariables false
set_option linter.unusedSimpArgs false
set_option linter.unusedSectionVars false
namespace Go.Proofs.YtpijbbobejeemaaGreatDoor.httpParses
open Go.ChangeShapes Go.WideShapes Go.ChangeAt Go.RowKit Go.Deep Eng Kit
theorem own : ownKnob Tryz.prog.godebug = none := by kernel_rfl
theorem laidOut : laidOutB Tryz.prog = true := by kernel_rfl
theorem any_world {f : FuncId} {A : List AV} {H H' : LH} {v : AV} (W : World) (h : Tri Tryz.prog default f A H v H') : Tri Tryz.prog W f A H v H' :=
 fun W0 F N w vargs hF => h W0 F N w vargs (AE'.nothing F)
theorem reads (os : Os) {H : Type} (enc : TypeId × Value → H) : ∃ places, DataW.whole enc Tryz.prog ((World.laidAll Tryz.prog os Rows.httpParsesUptoRow.laid).forCall (fun _ _ => 0) ⟨#[], #[.slice none 0 0], []⟩).memory Tryz.f3.params.toList Rows.httpParsesSpec.vars false #[Value.slice none 0 0].toList 8 = some ([.nil], [], places) :=
 ⟨[], by kernel_rfl⟩
theorem at_pows : Rows.httpParsesUptoRow.laid[2]? = some ("internal/strconv.uint64pow10", Lib.tabData .u64 Lib.pow10Tab) := by kernel_rfl
theorem lw_of {W : World} (h : laidMetH Tryz.prog Rows.httpParsesUptoRow.laid W) (hs : W.ShapedOpen Tryz.prog) : Htp.LW W where
 maxLen := cell_of_shapedOpen_int hs (g := 0) (t := 3) (zero := #[.int .i64 0]) (of_decide_eq_true (by kernel_rfl)) (by kernel_rfl) (by kernel_rfl) (by kernel_rfl) (by kernel_rfl) (by kernel_rfl)
 pows := by
  rw [MakeChecks.laidMetH_plain _ _ _ (by kernel_rfl)] at h
  obtain ⟨g, t, cs, fuel, p, hg, ht, hv, hd⟩ := Lib.laidMet.reads h (List.mem_of_getElem? at_pows)
  obtain rfl := Option.some.inj ((show Tryz.prog.globalNamed "internal/strconv.uint64pow10" = some 4 by kernel_rfl).symm.trans hg)
  obtain rfl := Option.some.inj ((show (Tryz.prog.globals[4]?).map (·.type) = some 164 by kernel_rfl).symm.trans ht)
  have hc := Lib.cells_of_tab Tryz.underlying164 Tryz.underlying106 (by kernel_rfl) (by kernel_rfl) hd
  show W.var? Tryz.prog _ = _
  rw [hv]
  exact congrArg some (Array.ext' (by rw [hc]))
set_option maxRecDepth 100000 in
theorem lifted (os : Os) (started : os.Started) (H : Type) (enc : TypeId × Value → H) (F : Stop.Interp) :
  ReturnsInHanded {} Tryz.checked os 3 .any ((Rows.OpenSpec.upto Rows.httpParsesSpec).preRow enc Tryz.prog Tryz.f3 Rows.httpParsesUptoRow.domain false Rows.httpParsesUptoRow.laid) (((Rows.OpenSpec.upto Rows.httpParsesSpec).at F).post enc Tryz.prog Tryz.f3 false true false false) := by
 obtain ⟨places, hx⟩ := reads os enc
 refine returnsInHanded_of_row (C := Tryz.checked) (s := Rows.OpenSpec.upto Rows.httpParsesSpec) own started (by kernel_rfl) Tryz.func3
  (Wit.row_zip (enc := enc) (C := Tryz.checked) (World.laidAll Tryz.prog os Rows.httpParsesUptoRow.laid) #[.slice none 0 0] (World.laidAll_os _ _ _) (by kernel_rfl) (by kernel_rfl) (by kernel_rfl)
   (OpenSpec.preRow_of_cond 8 hx (by kernel_rfl) (fun k hk => by cases hk; kernel_rfl) (by kernel_rfl) (laidMet_laidAll _ (by kernel_rfl) (by kernel_rfl)))) ?_
 intro W base args ds gs before hval0 hW _ hcond _ hL hSh _
 have hk := hcond _ rfl
 have hval : ∀ (j : Nat) t v, Tryz.f3.params[j]? = some t → args[j]? = some v → Value.okWide Tryz.prog W .any base t v := hval0
 have hW' := hW
 obtain ⟨p, q, hA0, hV, rfl, hfz, hnd⟩ := hW
 have hA : DataW.TrodAll enc Tryz.prog W 0 (fun _ => true) true Tryz.f3.params.toList args.toList ds p := hA0
 rw [Tryz.params3] at hA hval
 obtain ⟨v0, vs0, d0, ds0, p0, q0, hargs, rfl, rfl, h0, r0⟩ := trodAll_cons hA
 obtain ⟨rfl, rfl, rfl⟩ := trodAll_nil r0
 obtain rfl : args = #[v0] := by cases args; simp_all
 obtain ⟨rfl, rfl⟩ := trodVars_none hV
 have k0 := h0
 have lt0 : ∀ x ∈ p0, x.block < W.heap.size := by obtain ⟨m, hm⟩ := k0; exact DataW.trod_lt m _ _ _ hm
 obtain ⟨A0, len0, cap0, rfl⟩ := okWide_slice Tryz.underlying22 (hval 0 22 v0 rfl rfl)
 obtain ⟨fu0, hf0⟩ := h0
 obtain ⟨l0, rfl, hrd0, hq0, hw0⟩ := Upto.open_rdU (Q := fun p : Htp.StepR => Htp.BArg W (.slice p.a p.n p.c) p.bs) Htp.encS2 (by decide) Htp.encS2_len Tryz.underlying22 (by kernel_rfl) Htp.wtS (fun n cs x h => Htp.cells_step h) hf0
 have hw0 : (l0.map Htp.wtS).sum + 1 ≤ Rows.uptoBulk d0 := hw0
 rw [Htp.tot_sum] at hw0
 have hbd := Upto.bound hk
 have hsz : Rows.uptoBulkAll (H := H) ([d0] ++ []) ≤ 1048576 := hbd
 simp only [List.append_nil, Rows.uptoBulkAll, Nat.add_zero] at hsz
 clear hA0 hval0
 refine (V3' (args := [.slice A0 l0.length cap0]) (Htp.Parses_tri (lw_of hL hSh) (Htp.sarg_of_rd hrd0 (fun _ => rfl) hq0) (by omega))).mono fun e W' ⟨he, bel⟩ => ?_
 subst he
 exact ⟨_, rfl, _, _, _, [], _, [], hW', trodAll_mk1 (shut_bool Tryz.underlying4 _), (trodAll_cons_mk (Below.trod laidOut (by kernel_rfl) (of_decide_eq_true (by kernel_rfl)) k0 bel lt0) trodAll_mk0), rfl, bel.frame _, fun h => by cases h⟩
theorem saidUpto : Rows.HttpParsesUptoSaid :=
 OpenClaim.holds_of_cond 3 Tryz.f3 rfl rfl rfl rfl rfl rfl rfl ⟨rfl, rfl, rfl, rfl, rfl⟩ rfl rfl rfl rfl rfl (by kernel_rfl) Tryz.func3 (by kernel_rfl)
  (of_decide_eq_true (by kernel_rfl)) (by unfold Func.isWrapper; first | (rw [if_pos (by decide +kernel)]; kernel_rfl) | (rw [if_neg (by decide +kernel)]; exact ⟨rfl, rfl⟩))
  (fun os started H enc _ F => by rw [OpenClaim.pre_eq_preRow]; exact lifted os started H enc F)
theorem plain (f : FuncId) (fn : Func) (hf : Tryz.pinned.checked.prog.funcNamed "warren/warrenlaw24.HttpParses" = some f) (hfn : Tryz.pinned.checked.prog.funcs[f]? = some fn) :
  true = Tryz.pinned.checked.prog.looks [] ∧ ∀ (j : Nat) t, fn.params[j]? = some t → Tryz.pinned.checked.prog.wantsStandIn t = false := by
 obtain rfl : f = 3 := Option.some.inj ((show Tryz.prog.funcNamed "warren/warrenlaw24.HttpParses" = some 3 by kernel_rfl).symm.trans hf) |>.symm
 obtain rfl : fn = Tryz.f3 := (Option.some.inj (Tryz.func3.symm.trans hfn)).symm
 refine ⟨by kernel_rfl, fun j t ht => ?_⟩
 rw [Tryz.params3] at ht
 have hm : t ∈ [22] := by
  have := Array.mem_of_getElem? ht
  simpa using this
 obtain rfl : t = 22 := by simpa using hm
 exact (show Tryz.prog.wantsStandIn 22 = false by kernel_rfl)
theorem proved : Rows.HttpParsesUptoCardSaid :=
 Claim7.holds_tied_plain_at .later [] _ _ _ _ saidUpto (fun _ h => by cases h) (by kernel_rfl) (fun _ h => by cases h) httpParsesUpto_row_tie rfl ⟨rfl, rfl⟩ (by kernel_rfl) rfl plain (by kernel_rfl)
#print axioms proved
end Go.Proofs.YtpijbbobejeemaaGreatDoor.httpParses
