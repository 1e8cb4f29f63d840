/- For every value, where what is read is of bulk at most 1048576: it is written, or refused, exactly as the document says; it stays as it was. -/
import Derived.Test.YtdphpillcaajpaaGreatDoorCards
import Derived.Test.YtdphpillcaajpaaGreatDoorTie
import Derived.Test.YtdphpillcaajpaaGreatDoorWrs8
import Derived.ProofKit
import Derived.Shelf.Vars
import Derived.LaidMore
import Derived.Lib.LaidU8
import Derived.OpenShut
import Derived.ShutString
import Derived.ChangeMaps5
import Derived.Lay
import Derived.Deep.DeepHandedRow
set_option linter.unusedVariables false
set_option linter.unusedSimpArgs false
set_option linter.unusedSectionVars false
namespace Go.Proofs.YtdphpillcaajpaaGreatDoor.jsonWrites
open Go.ChangeShapes Go.WideShapes Go.ChangeAt Go.RowKit Go.Deep Eng Kit
theorem own : ownKnob Tryz.prog.godebug = none := by kernel_rfl
theorem laidOut : laidOutB Tryz.prog = true := by kernel_rfl
theorem range64 {n : Int} (h : (Lit.int .i64 n).wf = true) : -9223372036854775808 ≤ n ∧ n ≤ 9223372036854775807 := by
 simpa [Lit.wf, IntKind.min, IntKind.max, IntKind.signed, IntKind.bits] using h
theorem any_world {f : FuncId} {A : List AV} {H H' : LH} {v : AV} (W : World) (h : Tri Tryz.prog default f A H v H') : Tri Tryz.prog W f A H v H' :=
 fun W0 F N w vargs hF => h W0 F N w vargs (AK'.nothing F)
theorem reads (os : Os) {H : Type} (enc : TypeId × Value → H) : ∃ places, DataW.whole enc Tryz.prog ((World.laidAll Tryz.prog os Rows.jsonWritesUptoRow.laid).forCall (fun _ _ => 0) ⟨#[], #[.agg #[.int .i64 0, .int .i64 0, .string .empty, .slice none 0 0, .slice none 0 0]], []⟩).memory Tryz.f3.params.toList Rows.jsonWritesSpec.vars false #[Value.agg #[.int .i64 0, .int .i64 0, .string .empty, .slice none 0 0, .slice none 0 0]].toList 8 = some ([.agg [.lit (.int .i64 0), .lit (.int .i64 0), .lit (.string []), .nil, .nil]], [], places) :=
 ⟨[], by kernel_rfl⟩
theorem at_pows : Rows.jsonWritesUptoRow.laid[2]? = some ("internal/strconv.uint64pow10", Lib.tabData .u64 Lib.pow10Tab) := by kernel_rfl
theorem UI' {P : Program} {fs : Array Field} (h : ((List.range fs.size).all fun i => match fs[i]? with | some f => (match P.underlying f.type with | some (.int .u8) => true | _ => false) && Nat.beq f.offset i && Nat.beq (P.cellsOf f.type) 1 | none => false) = true) (i : Nat) (f : Field) (hf : fs[i]? = some f) : P.underlying f.type = some (.int .u8) ∧ f.offset = i ∧ P.cellsOf f.type = 1 := by
 have hi : i < fs.size := (Array.getElem?_eq_some_iff.1 hf).1
 have h1 := List.all_eq_true.1 h i (List.mem_range.2 hi)
 rw [hf] at h1
 simp only [Bool.and_eq_true] at h1
 refine ⟨?_, Nat.eq_of_beq_eq_true h1.1.2, Nat.eq_of_beq_eq_true h1.2⟩
 have h2 := h1.1.1
 split at h2
 ·rename_i hq; exact hq
 ·cases h2
theorem PD' : ∀ (l : List (Int × Int)) (j : Nat), (l.flatMap fun x => [Value.int .u8 x.1, .int .u8 x.2])[j]? = (l[j / 2]?).map fun x => if j % 2 = 0 then .int .u8 x.1 else .int .u8 x.2 := by
 intro l
 induction l with
 | nil => intro j; simp
 | cons a l ih =>
  intro j
  match j with
  | 0 => rfl
  | 1 => rfl
  | j + 2 =>
   have h1 : (j + 2) / 2 = j / 2 + 1 := by omega
   have h2 : (j + 2) % 2 = j % 2 := by omega
   rw [h1, h2, List.getElem?_cons_succ, ← ih j]
   rfl
theorem KJ' {P : Program} {W : World} {fuel : Nat} {t e : TypeId} {n : Nat} {fs : Array Field} {cs : List Value} {zs : List (Int × Int)} {p : List MemPlace} (ht : P.underlying t = some (.array n e)) (he : P.underlying e = some (.struct fs)) (hf : ∀ (i : Nat) (f : Field), fs[i]? = some f → P.underlying f.type = some (.int .u8) ∧ f.offset = i ∧ P.cellsOf f.type = 1) (hct : P.cellsOf e = 2) (hfs : fs.size = 2) (hz : zs.length = n)
  (h : DataW.trod (fun _ => ()) P W 0 (fun _ => true) false fuel t cs = some (.agg (zs.map fun x => .agg ([x.1, x.2].map fun z => .lit (.int .u8 z))), p)) (j : Nat) (v : Value) (hj : (zs.flatMap fun x => [Value.int .u8 x.1, .int .u8 x.2])[j]? = some v) : cs[j]? = some v := by
 rw [PD'] at hj
 cases hq : zs[j / 2]? with
 | none => rw [hq] at hj; cases hj
 | some x =>
  rw [hq] at hj
  have hi : j / 2 < n := by rw [← hz]; exact (List.getElem?_eq_some_iff.1 hq).1
  obtain ⟨fuel', d, q, hd, htr⟩ := Lib.array_elem ht h (j / 2) hi
  rw [List.getElem?_map, hq] at hd
  cases hd
  have hc := Lib.ints_of_struct he hf (hct.trans hfs.symm) htr
  rw [hct] at hc
  have hat := congrArg (·[j % 2]?) hc
  simp only [List.getElem?_take, List.getElem?_drop, List.getElem?_map] at hat
  rw [if_pos (Nat.mod_lt _ (by decide)), show j / 2 * 2 + j % 2 = j from by omega] at hat
  rw [hat, ← hj]
  rcases Nat.mod_two_eq_zero_or_one j with h0 | h0 <;> rw [h0] <;> rfl
theorem V3' : Rows.jsonWritesUptoRow.laid[6]? = some ("unicode/utf8.first", Lib.tabData .u8 Sp.firsts) := by kernel_rfl
theorem RS' : Rows.jsonWritesUptoRow.laid[3]? = some ("unicode/utf8.acceptRanges", .agg (Sp.accepts.map fun x => .agg ([x.1, x.2].map fun z => .lit (.int .u8 z)))) := by kernel_rfl
theorem U1' {W : World} (h : laidMet Tryz.prog Rows.jsonWritesUptoRow.laid W) (j : Nat) (v : Value) (hj : (Sp.pows.map (Value.int .u64))[j]? = some v) : W.cell? ⟨5, j, none⟩ = some v := by
 obtain ⟨g, t, cs, fuel, p, hg, ht, hv, hd⟩ := Lib.laidMet.reads h (List.mem_of_getElem? at_pows)
 obtain rfl := Option.some.inj ((show Tryz.prog.globalNamed "internal/strconv.uint64pow10" = some 5 by kernel_rfl).symm.trans hg)
 obtain rfl := Option.some.inj ((show (Tryz.prog.globals[5]?).map (·.type) = some 149 by kernel_rfl).symm.trans ht)
 rw [World.var?_cell hg hv j]
 have hc := Lib.cells_of_tab Tryz.underlying149 Tryz.underlying128 (by kernel_rfl) (by kernel_rfl) hd
 have h2 : cs.toList[j]? = some v := by rw [hc]; exact hj
 simpa using h2
theorem JM' {W : World} (h : laidMet Tryz.prog Rows.jsonWritesUptoRow.laid W) (j : Nat) (v : Value) (hj : (Sp.firsts.map (Value.int .u8))[j]? = some v) : W.cell? ⟨2, j, none⟩ = some v := by
 obtain ⟨g, t, cs, fuel, p, hg, ht, hv, hd⟩ := Lib.laidMet.reads h (List.mem_of_getElem? V3')
 obtain rfl := Option.some.inj ((show Tryz.prog.globalNamed "unicode/utf8.first" = some 2 by kernel_rfl).symm.trans hg)
 obtain rfl := Option.some.inj ((show (Tryz.prog.globals[2]?).map (·.type) = some 139 by kernel_rfl).symm.trans ht)
 rw [World.var?_cell hg hv j]
 have hc := Lib.cells_of_tab Tryz.underlying139 Tryz.underlying5 (by kernel_rfl) (by kernel_rfl) hd
 have h2 : cs.toList[j]? = some v := by rw [hc]; exact hj
 simpa using h2
theorem EL' {W : World} (h : laidMet Tryz.prog Rows.jsonWritesUptoRow.laid W) (j : Nat) (v : Value) (hj : (Sp.accepts.flatMap fun x => [Value.int .u8 x.1, .int .u8 x.2])[j]? = some v) : W.cell? ⟨3, j, none⟩ = some v := by
 obtain ⟨g, t, cs, fuel, p, hg, ht, hv, hd⟩ := Lib.laidMet.reads h (List.mem_of_getElem? RS')
 obtain rfl := Option.some.inj ((show Tryz.prog.globalNamed "unicode/utf8.acceptRanges" = some 3 by kernel_rfl).symm.trans hg)
 obtain rfl := Option.some.inj ((show (Tryz.prog.globals[3]?).map (·.type) = some 142 by kernel_rfl).symm.trans ht)
 rw [World.var?_cell hg hv j]
 have h2 := KJ' Tryz.underlying142 (fs := Tryz.prog.fieldsOf 141) (by kernel_rfl) (UI' (by kernel_rfl)) (by kernel_rfl) (by kernel_rfl) (by kernel_rfl) hd j v hj
 simpa using h2
theorem dK' : ∀ c : Fin 256, Sp.firsts[c.val]? = some ((Lib.firstT c.val : Nat) : Int) := by decide +kernel
theorem Y2' : ∀ i : Fin 16, Sp.accepts[i.val]? = some (((Lib.accLo i.val : Nat) : Int), ((Lib.accHi i.val : Nat) : Int)) := by decide +kernel
theorem XO' (c : Fin 256) : (Sp.firsts.map (Value.int .u8))[c.val]? = some (.int .u8 (Lib.firstT c.val)) := by
 rw [List.getElem?_map, dK' c]
 rfl
theorem OF' (i : Fin 16) : (Sp.accepts.flatMap fun x => [Value.int .u8 x.1, .int .u8 x.2])[2 * i.val]? = some (.int .u8 (Lib.accLo i.val)) ∧ (Sp.accepts.flatMap fun x => [Value.int .u8 x.1, .int .u8 x.2])[2 * i.val + 1]? = some (.int .u8 (Lib.accHi i.val)) := by
 rw [PD', PD', show 2 * i.val / 2 = i.val from by omega, show (2 * i.val + 1) / 2 = i.val from by omega, show 2 * i.val % 2 = 0 from by omega, show (2 * i.val + 1) % 2 = 1 from by omega, Y2' i]
 exact ⟨rfl, rfl⟩
theorem lw_of {W : World} (h : laidMetH Tryz.prog Rows.jsonWritesUptoRow.laid W) : Js.LW3 W := by
 rw [MakeChecks.laidMetH_plain _ _ _ (by kernel_rfl)] at h
 refine { tabs := ⟨fun c hc => JM' h c _ (XO' ⟨c, hc⟩), fun i hi => ⟨EL' h (2 * i) _ (OF' ⟨i, hi⟩).1, EL' h (2 * i + 1) _ (OF' ⟨i, hi⟩).2⟩⟩, laid := ?_ }
 intro x hx j v hj
 rcases List.mem_cons.1 hx with rfl | hx
 ·exact U1' h j v hj
 rcases List.mem_cons.1 hx with rfl | hx
 ·exact JM' h j v hj
 rcases List.mem_cons.1 hx with rfl | hx
 ·exact EL' h j v hj
 cases hx
set_option maxRecDepth 100000 in
theorem lifted (os : Os) (started : os.Started) (H : Type) (enc : TypeId × Value → H) (F : Stop.Interp) :
  ReturnsInHanded {} Tryz.checked os 3 .any ((Rows.OpenSpec.upto Rows.jsonWritesSpec).preRow enc Tryz.prog Tryz.f3 Rows.jsonWritesUptoRow.domain false Rows.jsonWritesUptoRow.laid) (((Rows.OpenSpec.upto Rows.jsonWritesSpec).at F).post enc Tryz.prog Tryz.f3 false true false false) := by
 obtain ⟨places, hx⟩ := reads os enc
 refine returnsInHanded_of_row (C := Tryz.checked) (s := Rows.OpenSpec.upto Rows.jsonWritesSpec) own started (by kernel_rfl) Tryz.func3
  (Wit.row_zip (enc := enc) (C := Tryz.checked) (World.laidAll Tryz.prog os Rows.jsonWritesUptoRow.laid) #[.agg #[.int .i64 0, .int .i64 0, .string .empty, .slice none 0 0, .slice none 0 0]] (World.laidAll_os _ _ _) (by kernel_rfl) (by kernel_rfl) (by kernel_rfl)
   (OpenSpec.preRow_of_cond 8 hx (by kernel_rfl) (fun k hk => by cases hk; kernel_rfl) (by kernel_rfl) (laidMet_laidAll _ (by kernel_rfl) (by kernel_rfl)))) ?_
 intro W base args ds gs before hval0 hW _ hcond _ hL _ _
 have hk := hcond _ rfl
 have hval : ∀ (j : Nat) t v, Tryz.f3.params[j]? = some t → args[j]? = some v → Value.okWide Tryz.prog W .any base t v := hval0
 have hW' := hW
 obtain ⟨p, q, hA0, hV, rfl, hfz, hnd⟩ := hW
 have hA : DataW.TrodAll enc Tryz.prog W 0 (fun _ => true) true Tryz.f3.params.toList args.toList ds p := hA0
 rw [Tryz.params3] at hA hval
 obtain ⟨v0, vs0, d0, ds0, p0, q0, hargs, rfl, rfl, h0, r0⟩ := trodAll_cons hA
 obtain ⟨rfl, rfl, rfl⟩ := trodAll_nil r0
 obtain rfl : args = #[v0] := by cases args; simp_all
 obtain ⟨rfl, rfl⟩ := trodVars_none hV
 have k0 := h0
 have lt0 : ∀ x ∈ p0, x.block < W.heap.size := by obtain ⟨m, hm⟩ := k0; exact DataW.trod_lt m _ _ _ hm
 have hbd := Upto.bound hk
 have hs : Rows.uptoBulkAll (H := H) ([d0] ++ []) ≤ 1048576 := hbd
 simp only [List.append_nil, Rows.uptoBulkAll, Nat.add_zero] at hs
 obtain ⟨u, r, k, rfl, hj, hwt⟩ := Js.open_argW (by omega) (hval 0 25 v0 rfl rfl) h0
 clear hA0 hval0
 refine (Js.writes_calls (Js.Writes_tri (lw_of hL) hj (by omega))).mono fun e W' ⟨he, bel⟩ => ?_
 subst he
 exact ⟨_, rfl, _, _, _, [], _, [], hW', trodAll_mk1 (shut_bool Tryz.underlying4 _), (trodAll_cons_mk (Below.trod laidOut (by kernel_rfl) (of_decide_eq_true (by kernel_rfl)) k0 bel lt0) trodAll_mk0), rfl, bel.frame _, fun h => by cases h⟩
theorem saidUpto : Rows.JsonWritesUptoSaid :=
 OpenClaim.holds_of_cond 3 Tryz.f3 rfl rfl rfl rfl rfl rfl rfl ⟨rfl, rfl, rfl, rfl, rfl⟩ rfl rfl rfl rfl rfl (by kernel_rfl) Tryz.func3 (by kernel_rfl)
  (of_decide_eq_true (by kernel_rfl)) (by unfold Func.isWrapper; first | (rw [if_pos (by decide +kernel)]; kernel_rfl) | (rw [if_neg (by decide +kernel)]; exact ⟨rfl, rfl⟩))
  (fun os started H enc _ F => by rw [OpenClaim.pre_eq_preRow]; exact lifted os started H enc F)
theorem plain (f : FuncId) (fn : Func) (hf : Tryz.pinned.checked.prog.funcNamed "warren/warrenlaw23.JsonWrites" = some f) (hfn : Tryz.pinned.checked.prog.funcs[f]? = some fn) :
  true = Tryz.pinned.checked.prog.looks [] ∧ ∀ (j : Nat) t, fn.params[j]? = some t → Tryz.pinned.checked.prog.wantsStandIn t = false := by
 obtain rfl : f = 3 := Option.some.inj ((show Tryz.prog.funcNamed "warren/warrenlaw23.JsonWrites" = some 3 by kernel_rfl).symm.trans hf) |>.symm
 obtain rfl : fn = Tryz.f3 := (Option.some.inj (Tryz.func3.symm.trans hfn)).symm
 refine ⟨by kernel_rfl, fun j t ht => ?_⟩
 rw [Tryz.params3] at ht
 have hm : t ∈ [25] := by
  have := Array.mem_of_getElem? ht
  simpa using this
 simp only [List.mem_cons, List.not_mem_nil, or_false] at hm
 rcases hm with rfl
 exact (show Tryz.prog.wantsStandIn 25 = false by kernel_rfl)
theorem proved : Rows.JsonWritesUptoCardSaid :=
 Claim7.holds_tied_plain_at .later [] _ _ _ _ saidUpto (fun _ h => by cases h) (by kernel_rfl) (fun _ h => by cases h) jsonWritesUpto_row_tie rfl ⟨rfl, rfl⟩ (by kernel_rfl) rfl plain (by kernel_rfl)
#print axioms proved
end Go.Proofs.YtdphpillcaajpaaGreatDoor.jsonWrites
