/- For every text: what is read is a right value; written and read again it is the same. -/
import Derived.Test.YtdphpillcaajpaaDoorCards
import Derived.Test.YtdphpillcaajpaaDoorTie
import Derived.Test.YtdphpillcaajpaaDoorBck10
import Derived.ProofKit
import Derived.Shelf.Vars
import Derived.LaidMore
import Derived.Lib.LaidU8
import Derived.OpenShut
import Derived.ShutString
import Derived.ChangeMaps5
import Derived.Lay
import Derived.Deep.DeepHandedRow
import Derived.SevenTiedAt
import Derived.Stop.Joined
set_option linter.unusedVariables false
set_option linter.unusedSimpArgs false
set_option linter.unusedSectionVars false
namespace Go.Proofs.YtdphpillcaajpaaDoor.jsonBack
open Go.ChangeShapes Go.WideShapes Go.ChangeAt Go.WideMaps Go.WideElems Go.RowKit Go.Deep Eng Kit
open Go.Value renaming int -> vi'
variable {W : World}
theorem own : ownKnob Θ.godebug = none := χ
theorem laidOut : laidOutB Θ = true := χ
theorem at_pows : Rows.jsonBackRow.laid[2]? = some ("internal/strconv.uint64pow10", Lib.tabData .u64 Lib.pow10Tab) := χ
theorem Z6' {P : Program} {fs : Array Field} (h : ((List.range fs.size).all fun i => match fs[i]? with | some f => (match P.underlying f.type with | some (.int .u8) => true | _ => false) && Nat.beq f.offset i && Nat.beq (P.cellsOf f.type) 1 | none => false) = true) (i : Nat) (f : Field) (hf : fs[i]? = some f) : P.underlying f.type = some (.int .u8) /\ f.offset = i /\ P.cellsOf f.type = 1 := by
 have hi : i < fs.size := (Array.getElem?_eq_some_iff.1 hf).1; have h1 := List.all_eq_true.1 h i (List.mem_range.2 hi); rw [hf] at h1; simp only [Bool.and_eq_true] at h1; refine ⟨?_, Nat.eq_of_beq_eq_true h1.1.2, Nat.eq_of_beq_eq_true h1.2⟩; have h2 := h1.1.1; split at h2
 ·rename_i hq; exact hq
 ·cases h2
theorem RF' : ∀ (l : List (Int × Int)) (j : Nat), (l.flatMap fun x => [vi' .u8 x.1, .int .u8 x.2])[j]? = (l[j / 2]?).map fun x => if j % 2 = 0 then .int .u8 x.1 else .int .u8 x.2 := by
 intro l
 induction l with
 | nil => intro j; simp
 | cons a l ih =>
  intro j
  match j with
  | 0 => rfl
  | 1 => rfl
  | j + 2 =>
   have h1 : (j + 2) / 2 = j / 2 + 1 := ω
   have h2 : (j + 2) % 2 = j % 2 := ω
   rw [h1, h2, List.getElem?_cons_succ, <- ih j]; rfl
theorem M2' {P : Program} {fuel : Nat} {t e : TypeId} {n : Nat} {fs : Array Field} {cs : List Value} {zs : List (Int × Int)} {p : List MemPlace} (ht : P.underlying t = some (.array n e)) (he : P.underlying e = some (.struct fs)) (hf : ∀ (i : Nat) (f : Field), fs[i]? = some f -> P.underlying f.type = some (.int .u8) /\ f.offset = i /\ P.cellsOf f.type = 1) (hct : P.cellsOf e = 2) (hfs : fs.size = 2) (hz : zs.length = n)
  (h : DataW.trod (fun _ => ()) P W 0 (fun _ => true) false fuel t cs = some (.agg (zs.map fun x => .agg ([x.1, x.2].map fun z => .lit (.int .u8 z))), p)) (j : Nat) (v : Value) (hj : (zs.flatMap fun x => [vi' .u8 x.1, .int .u8 x.2])[j]? = some v) : cs[j]? = some v := by
 rw [RF'] at hj
 cases hq : zs[j / 2]? with
 | none => rw [hq] at hj; cases hj
 | some x =>
  rw [hq] at hj
  have hi : j / 2 < n := by rw [<- hz]; exact (List.getElem?_eq_some_iff.1 hq).1
  obtain ⟨fuel', d, q, hd, htr⟩ := Lib.array_elem ht h (j / 2) hi; rw [List.getElem?_map, hq] at hd; cases hd; have hc := Lib.ints_of_struct he hf (hct.trans hfs.symm) htr; rw [hct] at hc; have hat := congrArg (·[j % 2]?) hc; simp only [List.getElem?_take, List.getElem?_drop, List.getElem?_map] at hat
  rw [if_pos (Nat.mod_lt _ δ), show j / 2 * 2 + j % 2 = j from ω] at hat
  rw [hat, <- hj]
  rcases Nat.mod_two_eq_zero_or_one j with h0 | h0 <;> rw [h0] <;> rfl
theorem a3' : Rows.jsonBackRow.laid[6]? = some ("unicode/utf8.first", Lib.tabData .u8 Sp.firsts) := χ
theorem V4' : Rows.jsonBackRow.laid[3]? = some ("unicode/utf8.acceptRanges", .agg (Sp.accepts.map fun x => .agg ([x.1, x.2].map fun z => .lit (.int .u8 z)))) := χ
theorem YH' (h : laidMet Θ Rows.jsonBackRow.laid W) (j : Nat) (v : Value) (hj : (Sp.pows.map (vi' .u64))[j]? = some v) : W.cell? ⟨5, j, none⟩ = some v := by
 obtain ⟨g, t, cs, fuel, p, hg, ht, hv, hd⟩ := Lib.laidMet.reads h (List.mem_of_getElem? at_pows); obtain rfl := Option.some.inj ((show Θ.globalNamed "internal/strconv.uint64pow10" = some 5 by kernel_rfl).symm.trans hg); obtain rfl := Option.some.inj ((show (Θ.globals[5]?).map (·.type) = some 130 by kernel_rfl).symm.trans ht); rw [World.var?_cell hg hv j]; have hc := Lib.cells_of_tab Tryd.underlying130 Tryd.underlying108 χ χ hd
 have h2 : cs.toList[j]? = some v := by rw [hc]; exact hj
 simpa using h2
theorem L6' (h : laidMet Θ Rows.jsonBackRow.laid W) (j : Nat) (v : Value) (hj : (Sp.firsts.map (vi' .u8))[j]? = some v) : W.cell? ⟨2, j, none⟩ = some v := by
 obtain ⟨g, t, cs, fuel, p, hg, ht, hv, hd⟩ := Lib.laidMet.reads h (List.mem_of_getElem? a3'); obtain rfl := Option.some.inj ((show Θ.globalNamed "unicode/utf8.first" = some 2 by kernel_rfl).symm.trans hg); obtain rfl := Option.some.inj ((show (Θ.globals[2]?).map (·.type) = some 120 by kernel_rfl).symm.trans ht); rw [World.var?_cell hg hv j]; have hc := Lib.cells_of_tab Tryd.underlying120 Tryd.underlying5 χ χ hd
 have h2 : cs.toList[j]? = some v := by rw [hc]; exact hj
 simpa using h2
theorem GP' (h : laidMet Θ Rows.jsonBackRow.laid W) (j : Nat) (v : Value) (hj : (Sp.accepts.flatMap fun x => [vi' .u8 x.1, .int .u8 x.2])[j]? = some v) : W.cell? ⟨3, j, none⟩ = some v := by
 obtain ⟨g, t, cs, fuel, p, hg, ht, hv, hd⟩ := Lib.laidMet.reads h (List.mem_of_getElem? V4'); obtain rfl := Option.some.inj ((show Θ.globalNamed "unicode/utf8.acceptRanges" = some 3 by kernel_rfl).symm.trans hg); obtain rfl := Option.some.inj ((show (Θ.globals[3]?).map (·.type) = some 123 by kernel_rfl).symm.trans ht); rw [World.var?_cell hg hv j]; have h2 := M2' Tryd.underlying123 (fs := Θ.fieldsOf 122) χ (Z6' χ) χ χ χ hd j v hj; simpa using h2
theorem mU' : ∀ c : Fin 256, Sp.firsts[c.val]? = some ((Lib.firstT c.val : Nat) : Int) := by decide +kernel
theorem fG' : ∀ i : Fin 16, Sp.accepts[i.val]? = some (((Lib.accLo i.val : Nat) : Int), ((Lib.accHi i.val : Nat) : Int)) := by decide +kernel
theorem eT' (c : Fin 256) : (Sp.firsts.map (vi' .u8))[c.val]? = some (.int .u8 (Lib.firstT c.val)) := by
 rw [List.getElem?_map, mU' c]; rfl
theorem QI' (i : Fin 16) : (Sp.accepts.flatMap fun x => [vi' .u8 x.1, .int .u8 x.2])[2 * i.val]? = some (.int .u8 (Lib.accLo i.val)) /\ (Sp.accepts.flatMap fun x => [vi' .u8 x.1, .int .u8 x.2])[2 * i.val + 1]? = some (.int .u8 (Lib.accHi i.val)) := by
 rw [RF', RF', show 2 * i.val / 2 = i.val from ω, show (2 * i.val + 1) / 2 = i.val from ω, show 2 * i.val % 2 = 0 from ω, show (2 * i.val + 1) % 2 = 1 from ω, fG' i]
 exact ⟨rfl, rfl⟩
theorem nJ' : Rows.jsonBackRow.laid[5]? = some ("strconv.ErrSyntax", .iface "*errors.errorString" (.ptr (.agg [.lit (.string [105, 110, 118, 97, 108, 105, 100, 32, 115, 121, 110, 116, 97, 120])]))) := χ
theorem lwt_of (h : laidMetH Θ Rows.jsonBackRow.laid W) : Js.LWT W where
 q := by
  rw [MakeChecks.laidMetH_plain _ _ _ χ] at h
  exact ⟨⟨fun c hc => L6' h c _ (eT' ⟨c, hc⟩), fun i hi => ⟨GP' h (2 * i) _ (QI' ⟨i, hi⟩).1, GP' h (2 * i + 1) _ (QI' ⟨i, hi⟩).2⟩⟩⟩
 p := by
  rw [MakeChecks.laidMetH_plain _ _ _ χ] at h; refine { pows := ?_, errS := ?_ }
  ·obtain ⟨g, t, cs, fuel, p, hg, ht, hv, hd⟩ := Lib.laidMet.reads h (List.mem_of_getElem? at_pows); obtain rfl := Option.some.inj ((show Θ.globalNamed "internal/strconv.uint64pow10" = some 5 by kernel_rfl).symm.trans hg); obtain rfl := Option.some.inj ((show (Θ.globals[5]?).map (·.type) = some 130 by kernel_rfl).symm.trans ht); have hc := Lib.cells_of_tab Tryd.underlying130 Tryd.underlying108 χ χ hd; show W.var? Θ _ = _; rw [hv]; exact congrArg some (Array.ext' (by rw [hc]))
  ·obtain ⟨g, t, cs, fuel, p, hg, ht, hv, hd⟩ := Lib.laidMet.reads h (List.mem_of_getElem? nJ'); have hg' := hg; obtain rfl := Option.some.inj ((show Θ.globalNamed "strconv.ErrSyntax" = some 0 by kernel_rfl).symm.trans hg); obtain rfl := Option.some.inj ((show (Θ.globals[0]?).map (·.type) = some 64 by kernel_rfl).symm.trans ht); obtain ⟨_, u, v, hc, _, _⟩ := iface_of_trod Tryd.underlying64 hd; refine ⟨u, v, ?_⟩; rw [World.var?_cell hg' hv 0, <- Array.getElem?_toList, hc]; rfl
theorem m9' (h : laidMetH Θ Rows.jsonBackRow.laid W) : H1' Sp.cfg W := by
 rw [MakeChecks.laidMetH_plain _ _ _ χ] at h; intro x hx j v hj
 rcases List.mem_cons.1 hx with rfl | hx
 ·exact YH' h j v hj
 rcases List.mem_cons.1 hx with rfl | hx
 ·exact L6' h j v hj
 rcases List.mem_cons.1 hx with rfl | hx
 ·exact GP' h j v hj
 cases hx
theorem V2' {args : List Value} {f : FuncId} (h : Tri Θ W f (vmap args) [] (bv true) []) : Calls Θ f args.toArray W fun e W' => e = .returned (.bool true) /\ Below W.heap.size W W' :=
 Js.calls_at h (VRs.vmap args) fun N y h => VR_v.1 h
set_option maxRecDepth 100000 in
theorem lifted (os : Os) (started : os.Started) (H : Type) (enc : TypeId × Value -> H) :
  ReturnsInHanded {} Tryd.checked os 5 .any (fun w args => (Rows.jsonBackSpec.pre enc Θ Tryd.f5 [] false w args /\ laidMetH Θ Rows.jsonBackRow.laid w) /\ sizedMet enc Θ Tryd.f5 (OpenSpec.ofChange Rows.jsonBackSpec) false w args)
   (Rows.jsonBackSpec.post enc Θ Tryd.f5 false true false false) := by
 refine returnsInHanded_of_change_and (C := Tryd.checked) (X := fun w _ => laidMetH Θ Rows.jsonBackRow.laid w) (fun _ _ _ hh h => h.of_heap hh) own started χ Tryd.func5
  (ChangeSpec.witness_shaped (enc := enc) (C := Tryd.checked) (os := os) (X := fun w _ => laidMetH Θ Rows.jsonBackRow.laid w) false (World.laidAll Θ os Rows.jsonBackRow.laid) #[.string .empty] 8 (World.laidAll_os _ _ _)
   (World.shaped_of_ZipB χ χ) χ χ χ
   (by rw [MakeChecks.laidMetH_plain _ _ _ χ]; exact laidMet_laidAll _ χ χ)) ?_
 intro W base args ds gs before hval0 hW _ hsz0 hL _; have hsz : (DataW.weightsEach Θ (Tryd.f5.params.toList ++ Rows.jsonBackSpec.plain.varTypes Θ) (ds ++ gs)).all (· <= reachBytes) = true := hsz0; have hval : ∀ (j : Nat) t v, Tryd.f5.params[j]? = some t -> args[j]? = some v -> Value.okWide Θ W .any base t v := hval0; have hW' := hW; obtain ⟨p, q, hA0, hV, rfl, hfz, hnd⟩ := hW; have hA : DataW.TrodAll enc Θ W 0 (fun _ => true) true Tryd.f5.params.toList args.toList ds p := hA0; rw [Tryd.params5] at hA hval hsz; obtain ⟨v0, vs0, d0, ds0, p0, q0, hargs, rfl, rfl, h0, r0⟩ := trodAll_cons hA; obtain ⟨rfl, rfl, rfl⟩ := trodAll_nil r0
 obtain rfl : args = #[v0] := by cases args; simp_all
 obtain ⟨rfl, rfl⟩ := trodVars_none hV; obtain ⟨s0, rfl, rfl, rfl, w0⟩ := Go.ChangeMaps.open_string Tryd.underlying9 (hval 0 9 v0 rfl rfl) h0; clear hA0 hval0
 refine (V2' (args := [.string s0]) (Js.Back_tri (lwt_of hL) (m9' hL) s0)).mono fun e W' ⟨he, bel⟩ => ?_
 subst he
 exact ⟨_, rfl, _, _, _, [], _, [], hW', trodAll_mk1 (shut_bool Tryd.underlying4 _), (trodAll_cons_mk (Go.ChangeMaps.shut_string Tryd.underlying9 w0) trodAll_mk0), rfl, bel.frame _, fun h => by cases h⟩
theorem over : Rows.JsonBackSaid :=
 OpenClaim.holds_of_wide 5 Tryd.f5 rfl rfl rfl rfl rfl rfl rfl ⟨rfl, rfl, rfl, rfl, rfl⟩ rfl rfl rfl rfl rfl χ Tryd.func5 χ
  (of_decide_eq_true χ) (by unfold Func.isWrapper; first | (rw [if_pos (by decide +kernel)]; kernel_rfl) | (rw [if_neg (by decide +kernel)]; exact ⟨rfl, rfl⟩))
  (fun os started H enc _ => lifted os started H enc)
theorem plain (f : FuncId) (fn : Func) (hf : Tryd.pinned.checked.prog.funcNamed "warren/warrenlaw23.JsonBack" = some f) (hfn : Tryd.pinned.checked.prog.funcs[f]? = some fn) :
  true = Tryd.pinned.checked.prog.looks [] /\ ∀ (j : Nat) t, fn.params[j]? = some t -> Tryd.pinned.checked.prog.wantsStandIn t = false := by
 obtain rfl : f = 5 := Option.some.inj ((show Θ.funcNamed "warren/warrenlaw23.JsonBack" = some 5 by kernel_rfl).symm.trans hf) |>.symm; obtain rfl : fn = Tryd.f5 := (Option.some.inj (Tryd.func5.symm.trans hfn)).symm
 refine ⟨χ, fun j t ht => ?_⟩
 rw [Tryd.params5] at ht
 have hm : t ∈ [9] := by
  have := Array.mem_of_getElem? ht; simpa using this
 obtain rfl : t = 9 := by simpa using hm
 exact (show Θ.wantsStandIn 9 = false by kernel_rfl)
theorem proved : Rows.JsonBackCardSaid :=
 Claim7.holds_tied_plain_at .later [] _ _ _ _ over (fun _ h => by cases h) χ (fun _ h => by cases h) jsonBack_row_tie rfl ⟨rfl, rfl⟩ χ rfl plain χ
#print axioms proved
end Go.Proofs.YtdphpillcaajpaaDoor.jsonBack
