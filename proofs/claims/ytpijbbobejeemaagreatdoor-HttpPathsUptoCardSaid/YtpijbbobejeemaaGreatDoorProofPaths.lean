/- For every request, where what is read is of bulk at most 1048576: the path that its target asks for is the reference's. -/
import Derived.Test.YtpijbbobejeemaaGreatDoorCards
import Derived.Test.YtpijbbobejeemaaGreatDoorTie
import Derived.Test.YtpijbbobejeemaaGreatDoorHp2
import Derived.ProofKit
import Derived.Shelf.Vars
import Derived.LaidMore
import Derived.LaidLaws
import Derived.Lib.LaidU8
import Derived.OpenShut
import Derived.ShutString
import Derived.ChangeMaps5
import Derived.Lay
import Derived.Deep.DeepHandedRow
set_option linter.unusedVariables false
set_option linter.unusedSimpArgs false
namespace Go.Proofs.YtpijbbobejeemaaGreatDoor.httpPaths
open Go.ChangeShapes Go.WideShapes Go.ChangeAt Go.RowKit Go.Deep Go.Proofs.YtpijbbobejeemaaGreatDoor.Eng Go.Proofs.YtpijbbobejeemaaGreatDoor.Kit

theorem own : ownKnob Tryz.prog.godebug = none := by kernel_rfl
theorem laidOut : laidOutB Tryz.prog = true := by kernel_rfl
theorem any_world {f : FuncId} {A : List AV} {H H' : LH} {v : AV} (W : World) (h : Tri Tryz.prog default f A H v H') : Tri Tryz.prog W f A H v H' :=
  fun W0 F N w vargs hF => h W0 F N w vargs (OldOK.nothing F)
theorem reads (os : Os) {H : Type} (enc : TypeId × Value → H) : ∃ places, DataW.whole enc Tryz.prog ((World.laidAll Tryz.prog os Rows.httpPathsUptoRow.laid).forCall (fun _ _ => 0) ⟨#[], #[.agg #[.string .empty, .string .empty, .slice none 0 0, .slice none 0 0]], []⟩).memory Tryz.f7.params.toList Rows.httpPathsSpec.vars false #[Value.agg #[.string .empty, .string .empty, .slice none 0 0, .slice none 0 0]].toList 8 = some ([.agg [.lit (.string []), .lit (.string []), .nil, .nil]], [], places) :=
  ⟨[], by kernel_rfl⟩

theorem at_pows : Rows.httpPathsUptoRow.laid[2]? = some ("internal/strconv.uint64pow10", Lib.tabData .u64 Lib.pow10Tab) := by kernel_rfl
theorem lw_of {W : World} (h : laidMetH Tryz.prog Rows.httpPathsUptoRow.laid W) (hs : W.ShapedOpen Tryz.prog) : Htp.LW W where
  maxLen := cell_of_shapedOpen_int hs (g := 0) (t := 3) (zero := #[.int .i64 0]) (of_decide_eq_true (by kernel_rfl)) (by kernel_rfl) (by kernel_rfl) (by kernel_rfl) (by kernel_rfl) (by kernel_rfl)
  pows := by
    rw [MakeChecks.laidMetH_plain _ _ _ (by kernel_rfl)] at h
    obtain ⟨g, t, cs, fuel, p, hg, ht, hv, hd⟩ := Lib.laidMet.reads h (List.mem_of_getElem? at_pows)
    obtain rfl := Option.some.inj ((show Tryz.prog.globalNamed "internal/strconv.uint64pow10" = some 4 by kernel_rfl).symm.trans hg)
    obtain rfl := Option.some.inj ((show (Tryz.prog.globals[4]?).map (·.type) = some 164 by kernel_rfl).symm.trans ht)
    have hc := Lib.cells_of_tab Tryz.underlying164 Tryz.underlying106 (by kernel_rfl) (by kernel_rfl) hd
    show W.var? Tryz.prog _ = _
    rw [hv]
    exact congrArg some (Array.ext' (by rw [hc]))
theorem at_errS : Rows.httpPathsUptoRow.laid[5]? = some ("strconv.ErrSyntax", .iface "*errors.errorString" (.ptr (.agg [.lit (.string [105, 110, 118, 97, 108, 105, 100, 32, 115, 121, 110, 116, 97, 120])]))) := by kernel_rfl
theorem lw2_of {W : World} (h : laidMetH Tryz.prog Rows.httpPathsUptoRow.laid W) (hs : W.ShapedOpen Tryz.prog) : Htp.LW2 W where
  toLW := lw_of h hs
  errS := by
    rw [MakeChecks.laidMetH_plain _ _ _ (by kernel_rfl)] at h
    obtain ⟨g, t, cs, fuel, p, hg, ht, hv, hd⟩ := Lib.laidMet.reads h (List.mem_of_getElem? at_errS)
    have hg' := hg
    obtain rfl := Option.some.inj ((show Tryz.prog.globalNamed "strconv.ErrSyntax" = some 2 by kernel_rfl).symm.trans hg)
    obtain rfl := Option.some.inj ((show (Tryz.prog.globals[2]?).map (·.type) = some 94 by kernel_rfl).symm.trans ht)
    obtain ⟨_, u, v, hc, _, _⟩ := iface_of_trod Tryz.underlying94 hd
    refine ⟨u, v, ?_⟩
    rw [World.var?_cell hg' hv 0, ← Array.getElem?_toList, hc]
    rfl
set_option maxRecDepth 100000 in
theorem lifted (os : Os) (started : os.Started) (H : Type) (enc : TypeId × Value → H) (F : Stop.Interp) :
    ReturnsInHanded {} Tryz.checked os 7 .any ((Rows.OpenSpec.upto Rows.httpPathsSpec).preRow enc Tryz.prog Tryz.f7 Rows.httpPathsUptoRow.domain false Rows.httpPathsUptoRow.laid) (((Rows.OpenSpec.upto Rows.httpPathsSpec).at F).post enc Tryz.prog Tryz.f7 false true false false) := by
  obtain ⟨places, hx⟩ := reads os enc
  refine returnsInHanded_of_row (C := Tryz.checked) (s := Rows.OpenSpec.upto Rows.httpPathsSpec) own started (by kernel_rfl) Tryz.func7
    (Wit.row_zip (enc := enc) (C := Tryz.checked) (World.laidAll Tryz.prog os Rows.httpPathsUptoRow.laid) #[.agg #[.string .empty, .string .empty, .slice none 0 0, .slice none 0 0]] (World.laidAll_os _ _ _) (by kernel_rfl) (by kernel_rfl) (by kernel_rfl)
      (OpenSpec.preRow_of_cond 8 hx (by kernel_rfl) (fun k hk => by cases hk; kernel_rfl) (by kernel_rfl) (laidMet_laidAll _ (by kernel_rfl) (by kernel_rfl)))) ?_
  intro W base args ds gs before hval0 hW _ hcond _ hL hSh _
  have hk := hcond _ rfl
  have hval : ∀ (j : Nat) t v, Tryz.f7.params[j]? = some t → args[j]? = some v → Value.okWide Tryz.prog W .any base t v := hval0
  have hW' := hW
  obtain ⟨p, q, hA0, hV, rfl, hfz, hnd⟩ := hW
  have hA : DataW.TrodAll enc Tryz.prog W 0 (fun _ => true) true Tryz.f7.params.toList args.toList ds p := hA0
  rw [Tryz.params7] at hA hval
  obtain ⟨v0, vs0, d0, ds0, p0, q0, hargs, rfl, rfl, h0, r0⟩ := trodAll_cons hA
  obtain ⟨rfl, rfl, rfl⟩ := trodAll_nil r0
  obtain rfl : args = #[v0] := by cases args; simp_all
  obtain ⟨rfl, rfl⟩ := trodVars_none hV
  have k0 := h0
  have lt0 : ∀ x ∈ p0, x.block < W.heap.size := by obtain ⟨m, hm⟩ := k0; exact DataW.trod_lt m _ _ _ hm
  obtain ⟨m, t, hs, bd, rfl, hb⟩ := Htp.open_req (hval 0 32 v0 rfl rfl) h0
  have hbd := Upto.bound hk
  have hsz : Rows.uptoBulkAll (H := H) ([d0] ++ []) ≤ 1048576 := hbd
  simp only [List.append_nil, Rows.uptoBulkAll, Nat.add_zero] at hsz
  clear hA0 hval0
  refine (law_calls (args := [.agg #[.string m, .string t, hs, bd]]) (Htp.Paths_tri (lw2_of hL hSh) m t hs bd (by omega))).mono fun e W' ⟨he, bel⟩ => ?_
  subst he
  exact ⟨_, rfl, _, _, _, [], _, [], hW', trodAll_mk1 (shut_bool Tryz.underlying4 _), (trodAll_cons_mk (Below.trod laidOut (by kernel_rfl) (of_decide_eq_true (by kernel_rfl)) k0 bel lt0) trodAll_mk0), rfl, bel.frame _, fun h => by cases h⟩

theorem saidUpto : Rows.HttpPathsUptoSaid :=
  OpenClaim.holds_of_cond 7 Tryz.f7 rfl rfl rfl rfl rfl rfl rfl ⟨rfl, rfl, rfl, rfl, rfl⟩ rfl rfl rfl rfl rfl (by kernel_rfl) Tryz.func7 (by kernel_rfl)
    (of_decide_eq_true (by kernel_rfl)) (by unfold Func.isWrapper; first | (rw [if_pos (by decide +kernel)]; kernel_rfl) | (rw [if_neg (by decide +kernel)]; exact ⟨rfl, rfl⟩))
    (fun os started H enc _ F => by rw [OpenClaim.pre_eq_preRow]; exact lifted os started H enc F)
theorem plain (f : FuncId) (fn : Func) (hf : Tryz.pinned.checked.prog.funcNamed "warren/warrenlaw24.HttpPaths" = some f) (hfn : Tryz.pinned.checked.prog.funcs[f]? = some fn) :
    true = Tryz.pinned.checked.prog.looks [] ∧ ∀ (j : Nat) t, fn.params[j]? = some t → Tryz.pinned.checked.prog.wantsStandIn t = false := by
  obtain rfl : f = 7 := Option.some.inj ((show Tryz.prog.funcNamed "warren/warrenlaw24.HttpPaths" = some 7 by kernel_rfl).symm.trans hf) |>.symm
  obtain rfl : fn = Tryz.f7 := (Option.some.inj (Tryz.func7.symm.trans hfn)).symm
  refine ⟨by kernel_rfl, fun j t ht => ?_⟩
  rw [Tryz.params7] at ht
  have hm : t ∈ [32] := by
    have := Array.mem_of_getElem? ht
    simpa using this
  obtain rfl : t = 32 := by simpa using hm
  exact (show Tryz.prog.wantsStandIn 32 = false by kernel_rfl)
theorem proved : Rows.HttpPathsUptoCardSaid :=
  Claim7.holds_tied_plain_at .later [] _ _ _ _ saidUpto (fun _ h => by cases h) (by kernel_rfl) (fun _ h => by cases h) httpPathsUpto_row_tie rfl ⟨rfl, rfl⟩ (by kernel_rfl) rfl plain (by kernel_rfl)
#print axioms proved
end Go.Proofs.YtpijbbobejeemaaGreatDoor.httpPaths
