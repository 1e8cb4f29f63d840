/- For all octets and cuts, where what is read is of bulk at most 1048576: in whatever pieces octets come, the same requests are told, and the same status at the end. -/
import Derived.Test.YtpijbbobejeemaaGreatDoorCards
import Derived.Test.YtpijbbobejeemaaGreatDoorTie
import Derived.Test.YtpijbbobejeemaaGreatDoorPcs5
import Derived.ProofKit
import Derived.Shelf.Vars
import Derived.LaidMore
import Derived.LaidLaws
import Derived.Lib.LaidU8
import Derived.OpenShut
import Derived.ShutString
import Derived.ChangeMaps5
import Derived.Lay
import Derived.Deep.DeepHandedRow
set_option linter.unusedVariables false
set_option linter.unusedSimpArgs false
namespace Go.Proofs.YtpijbbobejeemaaGreatDoor.httpPieces
open Go.ChangeShapes Go.WideShapes Go.ChangeAt Go.RowKit Go.Deep Go.Proofs.YtpijbbobejeemaaGreatDoor.Eng Go.Proofs.YtpijbbobejeemaaGreatDoor.Kit

theorem own : ownKnob Tryz.prog.godebug = none := by kernel_rfl
theorem laidOut : laidOutB Tryz.prog = true := by kernel_rfl
theorem any_world {f : FuncId} {A : List AV} {H H' : LH} {v : AV} (W : World) (h : Tri Tryz.prog default f A H v H') : Tri Tryz.prog W f A H v H' :=
  fun W0 F N w vargs hF => h W0 F N w vargs (OldOK.nothing F)
theorem reads (os : Os) {H : Type} (enc : TypeId × Value → H) : ∃ places, DataW.whole enc Tryz.prog ((World.laidAll Tryz.prog os Rows.httpPiecesUptoRow.laid).forCall (fun _ _ => 0) ⟨#[], #[.slice none 0 0, .slice none 0 0], []⟩).memory Tryz.f4.params.toList Rows.httpPiecesSpec.vars false #[Value.slice none 0 0, .slice none 0 0].toList 8 = some ([.nil, .nil], [], places) :=
  ⟨[], by kernel_rfl⟩

theorem at_pows : Rows.httpPiecesUptoRow.laid[2]? = some ("internal/strconv.uint64pow10", Lib.tabData .u64 Lib.pow10Tab) := by kernel_rfl
theorem lw_of {W : World} (h : laidMetH Tryz.prog Rows.httpPiecesUptoRow.laid W) (hs : W.ShapedOpen Tryz.prog) : Htp.LW W where
  maxLen := cell_of_shapedOpen_int hs (g := 0) (t := 3) (zero := #[.int .i64 0]) (of_decide_eq_true (by kernel_rfl)) (by kernel_rfl) (by kernel_rfl) (by kernel_rfl) (by kernel_rfl) (by kernel_rfl)
  pows := by
    rw [MakeChecks.laidMetH_plain _ _ _ (by kernel_rfl)] at h
    obtain ⟨g, t, cs, fuel, p, hg, ht, hv, hd⟩ := Lib.laidMet.reads h (List.mem_of_getElem? at_pows)
    obtain rfl := Option.some.inj ((show Tryz.prog.globalNamed "internal/strconv.uint64pow10" = some 4 by kernel_rfl).symm.trans hg)
    obtain rfl := Option.some.inj ((show (Tryz.prog.globals[4]?).map (·.type) = some 164 by kernel_rfl).symm.trans ht)
    have hc := Lib.cells_of_tab Tryz.underlying164 Tryz.underlying106 (by kernel_rfl) (by kernel_rfl) hd
    show W.var? Tryz.prog _ = _
    rw [hv]
    exact congrArg some (Array.ext' (by rw [hc]))
set_option maxRecDepth 100000 in
theorem lifted (os : Os) (started : os.Started) (H : Type) (enc : TypeId × Value → H) (F : Stop.Interp) :
    ReturnsInHanded {} Tryz.checked os 4 .any ((Rows.OpenSpec.upto Rows.httpPiecesSpec).preRow enc Tryz.prog Tryz.f4 Rows.httpPiecesUptoRow.domain false Rows.httpPiecesUptoRow.laid) (((Rows.OpenSpec.upto Rows.httpPiecesSpec).at F).post enc Tryz.prog Tryz.f4 false true false false) := by
  obtain ⟨places, hx⟩ := reads os enc
  refine returnsInHanded_of_row (C := Tryz.checked) (s := Rows.OpenSpec.upto Rows.httpPiecesSpec) own started (by kernel_rfl) Tryz.func4
    (Wit.row_zip (enc := enc) (C := Tryz.checked) (World.laidAll Tryz.prog os Rows.httpPiecesUptoRow.laid) #[.slice none 0 0, .slice none 0 0] (World.laidAll_os _ _ _) (by kernel_rfl) (by kernel_rfl) (by kernel_rfl)
      (OpenSpec.preRow_of_cond 8 hx (by kernel_rfl) (fun k hk => by cases hk; kernel_rfl) (by kernel_rfl) (laidMet_laidAll _ (by kernel_rfl) (by kernel_rfl)))) ?_
  intro W base args ds gs before hval0 hW _ hcond _ hL hSh _
  have hk := hcond _ rfl
  have hval : ∀ (j : Nat) t v, Tryz.f4.params[j]? = some t → args[j]? = some v → Value.okWide Tryz.prog W .any base t v := hval0
  have hW' := hW
  obtain ⟨p, q, hA0, hV, rfl, hfz, hnd⟩ := hW
  have hA : DataW.TrodAll enc Tryz.prog W 0 (fun _ => true) true Tryz.f4.params.toList args.toList ds p := hA0
  rw [Tryz.params4] at hA hval
  obtain ⟨v0, vs0, d0, ds0, p0, q0, hargs, rfl, rfl, h0, r0⟩ := trodAll_cons hA
  obtain ⟨v1, vs1, d1, ds1, p1, q1, rfl, rfl, rfl, h1, r1⟩ := trodAll_cons r0
  obtain ⟨rfl, rfl, rfl⟩ := trodAll_nil r1
  obtain rfl : args = #[v0, v1] := by cases args; simp_all
  obtain ⟨rfl, rfl⟩ := trodVars_none hV
  have k0 := h0
  have lt0 : ∀ x ∈ p0, x.block < W.heap.size := by obtain ⟨m, hm⟩ := k0; exact DataW.trod_lt m _ _ _ hm
  have k1 := h1
  have lt1 : ∀ x ∈ p1, x.block < W.heap.size := by obtain ⟨m, hm⟩ := k1; exact DataW.trod_lt m _ _ _ hm
  obtain ⟨A0, len0, cap0, rfl⟩ := okWide_slice Tryz.underlying26 (hval 0 26 v0 rfl rfl)
  obtain ⟨A1, len1, cap1, rfl⟩ := okWide_slice Tryz.underlying42 (hval 1 42 v1 rfl rfl)
  obtain ⟨fu0, hf0⟩ := h0
  obtain ⟨fu1, hf1⟩ := h1
  obtain ⟨bs, hB, hb0⟩ := Htp.open_bytes hf0
  obtain ⟨zs, hC, hb1⟩ := Htp.open_ints hf1
  have hb0 : bs.length + 1 ≤ Rows.uptoBulk d0 := hb0
  have hb1 : zs.length + 1 ≤ Rows.uptoBulk d1 := hb1
  have hbd := Upto.bound hk
  have hsz : Rows.uptoBulkAll (H := H) ([d0, d1] ++ []) ≤ 1048576 := hbd
  simp only [List.append_nil, Rows.uptoBulkAll, Nat.add_zero] at hsz
  clear hA0 hval0
  refine (law_calls (args := [.slice A0 len0 cap0, .slice A1 len1 cap1]) (Htp.Pieces_tri (lw_of hL hSh) hB hC (by omega) (by omega))).mono fun e W' ⟨he, bel⟩ => ?_
  subst he
  exact ⟨_, rfl, _, _, _, [], _, [], hW', trodAll_mk1 (shut_bool Tryz.underlying4 _), (trodAll_cons_mk (Below.trod laidOut (by kernel_rfl) (of_decide_eq_true (by kernel_rfl)) k0 bel lt0) (trodAll_cons_mk (Below.trod laidOut (by kernel_rfl) (of_decide_eq_true (by kernel_rfl)) k1 bel lt1) trodAll_mk0)), rfl, bel.frame _, fun h => by cases h⟩

theorem saidUpto : Rows.HttpPiecesUptoSaid :=
  OpenClaim.holds_of_cond 4 Tryz.f4 rfl rfl rfl rfl rfl rfl rfl ⟨rfl, rfl, rfl, rfl, rfl⟩ rfl rfl rfl rfl rfl (by kernel_rfl) Tryz.func4 (by kernel_rfl)
    (of_decide_eq_true (by kernel_rfl)) (by unfold Func.isWrapper; first | (rw [if_pos (by decide +kernel)]; kernel_rfl) | (rw [if_neg (by decide +kernel)]; exact ⟨rfl, rfl⟩))
    (fun os started H enc _ F => by rw [OpenClaim.pre_eq_preRow]; exact lifted os started H enc F)
theorem plain (f : FuncId) (fn : Func) (hf : Tryz.pinned.checked.prog.funcNamed "warren/warrenlaw24.HttpPieces" = some f) (hfn : Tryz.pinned.checked.prog.funcs[f]? = some fn) :
    true = Tryz.pinned.checked.prog.looks [] ∧ ∀ (j : Nat) t, fn.params[j]? = some t → Tryz.pinned.checked.prog.wantsStandIn t = false := by
  obtain rfl : f = 4 := Option.some.inj ((show Tryz.prog.funcNamed "warren/warrenlaw24.HttpPieces" = some 4 by kernel_rfl).symm.trans hf) |>.symm
  obtain rfl : fn = Tryz.f4 := (Option.some.inj (Tryz.func4.symm.trans hfn)).symm
  refine ⟨by kernel_rfl, fun j t ht => ?_⟩
  rw [Tryz.params4] at ht
  have hm : t ∈ [26, 42] := by
    have := Array.mem_of_getElem? ht
    simpa using this
  simp only [List.mem_cons, List.not_mem_nil, or_false] at hm
  rcases hm with rfl | rfl
  · exact (show Tryz.prog.wantsStandIn 26 = false by kernel_rfl)
  · exact (show Tryz.prog.wantsStandIn 42 = false by kernel_rfl)
theorem proved : Rows.HttpPiecesUptoCardSaid :=
  Claim7.holds_tied_plain_at .later [] _ _ _ _ saidUpto (fun _ h => by cases h) (by kernel_rfl) (fun _ h => by cases h) httpPiecesUpto_row_tie rfl ⟨rfl, rfl⟩ (by kernel_rfl) rfl plain (by kernel_rfl)
#print axioms proved
end Go.Proofs.YtpijbbobejeemaaGreatDoor.httpPieces
