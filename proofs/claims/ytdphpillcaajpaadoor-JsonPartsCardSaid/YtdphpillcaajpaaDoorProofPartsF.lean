/- For all values, texts and numbers: members, whole numbers and simple values are told exactly. -/
import Derived.Test.YtdphpillcaajpaaDoorCards
import Derived.Test.YtdphpillcaajpaaDoorTie
import Derived.Test.YtdphpillcaajpaaDoorJpf4
import Derived.ProofKit
import Derived.Shelf.Vars
import Derived.LaidMore
import Derived.Lib.LaidU8
import Derived.OpenShut
import Derived.ShutString
import Derived.ChangeMaps5
import Derived.Lay
import Derived.Deep.DeepHandedRow
import Derived.SevenTiedAt
import Derived.Stop.Joined
set_option linter.unusedVariables false
set_option linter.unusedSimpArgs false
namespace Go.Proofs.YtdphpillcaajpaaDoor.jsonPartsF
open Go.ChangeShapes Go.WideShapes Go.ChangeAt Go.WideMaps Go.WideElems Go.RowKit Go.Deep Go.Proofs.YtdphpillcaajpaaDoor.Eng Go.Proofs.YtdphpillcaajpaaDoor.Kit

theorem own : ownKnob Tryd.prog.godebug = none := by kernel_rfl
theorem laidOut : laidOutB Tryd.prog = true := by kernel_rfl
theorem range64 {n : Int} (h : (Lit.int .i64 n).wf = true) : -9223372036854775808 ≤ n ∧ n ≤ 9223372036854775807 := by
  simpa [Lit.wf, IntKind.min, IntKind.max, IntKind.signed, IntKind.bits] using h
theorem any_world {f : FuncId} {A : List AV} {H H' : LH} {v : AV} (W : World) (h : Tri Tryd.prog default f A H v H') : Tri Tryd.prog W f A H v H' :=
  fun W0 F N w vargs hF => h W0 F N w vargs (OldOK.nothing F)
theorem at_pows : Rows.jsonPartsRow.laid[2]? = some ("internal/strconv.uint64pow10", Lib.tabData .u64 Lib.pow10Tab) := by kernel_rfl
theorem fields_ok {P : Program} {fs : Array Field} (h : ((List.range fs.size).all fun i => match fs[i]? with | some f => (match P.underlying f.type with | some (.int .u8) => true | _ => false) && Nat.beq f.offset i && Nat.beq (P.cellsOf f.type) 1 | none => false) = true) (i : Nat) (f : Field) (hf : fs[i]? = some f) : P.underlying f.type = some (.int .u8) ∧ f.offset = i ∧ P.cellsOf f.type = 1 := by
  have hi : i < fs.size := (Array.getElem?_eq_some_iff.1 hf).1
  have h1 := List.all_eq_true.1 h i (List.mem_range.2 hi)
  rw [hf] at h1
  simp only [Bool.and_eq_true] at h1
  refine ⟨?_, Nat.eq_of_beq_eq_true h1.1.2, Nat.eq_of_beq_eq_true h1.2⟩
  have h2 := h1.1.1
  split at h2
  · rename_i hq; exact hq
  · cases h2
theorem cells_of_pairs {P : Program} {W : World} {fuel : Nat} {t e : TypeId} {n : Nat} {fs : Array Field} {cs : List Value} {zs : List (Int × Int)} {p : List MemPlace} (ht : P.underlying t = some (.array n e)) (he : P.underlying e = some (.struct fs)) (hf : ∀ (i : Nat) (f : Field), fs[i]? = some f → P.underlying f.type = some (.int .u8) ∧ f.offset = i ∧ P.cellsOf f.type = 1) (hct : P.cellsOf e = 2) (hfs : fs.size = 2) (hz : zs.length = n)
    (h : DataW.trod (fun _ => ()) P W 0 (fun _ => true) false fuel t cs = some (.agg (zs.map fun x => .agg ([x.1, x.2].map fun z => .lit (.int .u8 z))), p)) (j : Nat) (v : Value) (hj : (zs.flatMap fun x => [Value.int .u8 x.1, .int .u8 x.2])[j]? = some v) : cs[j]? = some v := by
  have hlen : ∀ (l : List (Int × Int)) (j : Nat), (l.flatMap fun x => [Value.int .u8 x.1, .int .u8 x.2])[j]? = (l[j / 2]?).map fun x => if j % 2 = 0 then .int .u8 x.1 else .int .u8 x.2 := by
    intro l
    induction l with
    | nil => intro j; simp
    | cons a l ih =>
      intro j
      match j with
      | 0 => rfl
      | 1 => rfl
      | j + 2 =>
        have h1 : (j + 2) / 2 = j / 2 + 1 := by omega
        have h2 : (j + 2) % 2 = j % 2 := by omega
        rw [h1, h2, List.getElem?_cons_succ, ← ih j]
        rfl
  rw [hlen] at hj
  cases hq : zs[j / 2]? with
  | none => rw [hq] at hj; cases hj
  | some x =>
    rw [hq] at hj
    have hi : j / 2 < n := by rw [← hz]; exact (List.getElem?_eq_some_iff.1 hq).1
    obtain ⟨fuel', d, q, hd, htr⟩ := Lib.array_elem ht h (j / 2) hi
    rw [List.getElem?_map, hq] at hd
    cases hd
    have hc := Lib.ints_of_struct he hf (hct.trans hfs.symm) htr
    rw [hct] at hc
    have hat := congrArg (·[j % 2]?) hc
    simp only [List.getElem?_take, List.getElem?_drop, List.getElem?_map] at hat
    rw [if_pos (Nat.mod_lt _ (by decide)), show j / 2 * 2 + j % 2 = j from by omega] at hat
    rw [hat, ← hj]
    rcases Nat.mod_two_eq_zero_or_one j with h0 | h0 <;> rw [h0] <;> rfl
theorem at_firsts : Rows.jsonPartsRow.laid[6]? = some ("unicode/utf8.first", Lib.tabData .u8 Sp.firsts) := by kernel_rfl
theorem at_accepts : Rows.jsonPartsRow.laid[3]? = some ("unicode/utf8.acceptRanges", .agg (Sp.accepts.map fun x => .agg ([x.1, x.2].map fun z => .lit (.int .u8 z)))) := by kernel_rfl
theorem laid_pows {W : World} (h : laidMet Tryd.prog Rows.jsonPartsRow.laid W) (j : Nat) (v : Value) (hj : (Sp.pows.map (Value.int .u64))[j]? = some v) : W.cell? ⟨5, j, none⟩ = some v := by
  obtain ⟨g, t, cs, fuel, p, hg, ht, hv, hd⟩ := Lib.laidMet.reads h (List.mem_of_getElem? at_pows)
  obtain rfl := Option.some.inj ((show Tryd.prog.globalNamed "internal/strconv.uint64pow10" = some 5 by kernel_rfl).symm.trans hg)
  obtain rfl := Option.some.inj ((show (Tryd.prog.globals[5]?).map (·.type) = some 130 by kernel_rfl).symm.trans ht)
  rw [World.var?_cell hg hv j]
  have hc := Lib.cells_of_tab Tryd.underlying130 Tryd.underlying108 (by kernel_rfl) (by kernel_rfl) hd
  have h2 : cs.toList[j]? = some v := by rw [hc]; exact hj
  simpa using h2
theorem laid_firsts {W : World} (h : laidMet Tryd.prog Rows.jsonPartsRow.laid W) (j : Nat) (v : Value) (hj : (Sp.firsts.map (Value.int .u8))[j]? = some v) : W.cell? ⟨2, j, none⟩ = some v := by
  obtain ⟨g, t, cs, fuel, p, hg, ht, hv, hd⟩ := Lib.laidMet.reads h (List.mem_of_getElem? at_firsts)
  obtain rfl := Option.some.inj ((show Tryd.prog.globalNamed "unicode/utf8.first" = some 2 by kernel_rfl).symm.trans hg)
  obtain rfl := Option.some.inj ((show (Tryd.prog.globals[2]?).map (·.type) = some 120 by kernel_rfl).symm.trans ht)
  rw [World.var?_cell hg hv j]
  have hc := Lib.cells_of_tab Tryd.underlying120 Tryd.underlying5 (by kernel_rfl) (by kernel_rfl) hd
  have h2 : cs.toList[j]? = some v := by rw [hc]; exact hj
  simpa using h2
theorem laid_accepts {W : World} (h : laidMet Tryd.prog Rows.jsonPartsRow.laid W) (j : Nat) (v : Value) (hj : (Sp.accepts.flatMap fun x => [Value.int .u8 x.1, .int .u8 x.2])[j]? = some v) : W.cell? ⟨3, j, none⟩ = some v := by
  obtain ⟨g, t, cs, fuel, p, hg, ht, hv, hd⟩ := Lib.laidMet.reads h (List.mem_of_getElem? at_accepts)
  obtain rfl := Option.some.inj ((show Tryd.prog.globalNamed "unicode/utf8.acceptRanges" = some 3 by kernel_rfl).symm.trans hg)
  obtain rfl := Option.some.inj ((show (Tryd.prog.globals[3]?).map (·.type) = some 123 by kernel_rfl).symm.trans ht)
  rw [World.var?_cell hg hv j]
  have h2 := cells_of_pairs Tryd.underlying123 (fs := Tryd.prog.fieldsOf 122) (by kernel_rfl) (fields_ok (by kernel_rfl)) (by kernel_rfl) (by kernel_rfl) (by kernel_rfl) hd j v hj
  simpa using h2
theorem lw_of {W : World} (h : laidMetH Tryd.prog Rows.jsonPartsRow.laid W) : Js.LW2 W := by
  rw [MakeChecks.laidMetH_plain _ _ _ (by kernel_rfl)] at h
  refine { pows := ?_, laid := ?_ }
  · obtain ⟨g, t, cs, fuel, p, hg, ht, hv, hd⟩ := Lib.laidMet.reads h (List.mem_of_getElem? at_pows)
    obtain rfl := Option.some.inj ((show Tryd.prog.globalNamed "internal/strconv.uint64pow10" = some 5 by kernel_rfl).symm.trans hg)
    obtain rfl := Option.some.inj ((show (Tryd.prog.globals[5]?).map (·.type) = some 130 by kernel_rfl).symm.trans ht)
    have hc := Lib.cells_of_tab Tryd.underlying130 Tryd.underlying108 (by kernel_rfl) (by kernel_rfl) hd
    show W.var? Tryd.prog _ = _
    rw [hv]
    exact congrArg some (Array.ext' (by rw [hc]))
  · intro x hx j v hj
    rcases List.mem_cons.1 hx with rfl | hx
    · exact laid_pows h j v hj
    rcases List.mem_cons.1 hx with rfl | hx
    · exact laid_firsts h j v hj
    rcases List.mem_cons.1 hx with rfl | hx
    · exact laid_accepts h j v hj
    cases hx
set_option maxRecDepth 100000 in
theorem lifted (os : Os) (started : os.Started) (H : Type) (enc : TypeId × Value → H) :
    ReturnsInHanded {} Tryd.checked os 6 .any (fun w args => (Rows.jsonPartsSpec.pre enc Tryd.prog Tryd.f6 [] false w args ∧ laidMetH Tryd.prog Rows.jsonPartsRow.laid w) ∧ sizedMet enc Tryd.prog Tryd.f6 (OpenSpec.ofChange Rows.jsonPartsSpec) false w args)
      (Rows.jsonPartsSpec.post enc Tryd.prog Tryd.f6 false true false false) := by
  refine returnsInHanded_of_change_and (C := Tryd.checked) (X := fun w _ => laidMetH Tryd.prog Rows.jsonPartsRow.laid w) (fun _ _ _ hh h => h.of_heap hh) own started (by kernel_rfl) Tryd.func6
    (ChangeSpec.witness_shaped (enc := enc) (C := Tryd.checked) (os := os) (X := fun w _ => laidMetH Tryd.prog Rows.jsonPartsRow.laid w) false (World.laidAll Tryd.prog os Rows.jsonPartsRow.laid) #[.agg #[.int .i64 0, .int .i64 0, .string .empty, .slice none 0 0, .slice none 0 0], .string .empty, .int .i64 0] 8 (World.laidAll_os _ _ _)
      (World.shaped_of_ZipB (by kernel_rfl) (by kernel_rfl)) (by kernel_rfl) (by kernel_rfl) (by kernel_rfl)
      (by rw [MakeChecks.laidMetH_plain _ _ _ (by kernel_rfl)]; exact laidMet_laidAll _ (by kernel_rfl) (by kernel_rfl))) ?_
  intro W base args ds gs before hval0 hW _ hsz0 hL _
  have hsz : (DataW.weightsEach Tryd.prog (Tryd.f6.params.toList ++ Rows.jsonPartsSpec.plain.varTypes Tryd.prog) (ds ++ gs)).all (· ≤ reachBytes) = true := hsz0
  have hval : ∀ (j : Nat) t v, Tryd.f6.params[j]? = some t → args[j]? = some v → Value.okWide Tryd.prog W .any base t v := hval0
  have hW' := hW
  obtain ⟨p, q, hA0, hV, rfl, hfz, hnd⟩ := hW
  have hA : DataW.TrodAll enc Tryd.prog W 0 (fun _ => true) true Tryd.f6.params.toList args.toList ds p := hA0
  rw [Tryd.params6] at hA hval hsz
  obtain ⟨v0, vs0, d0, ds0, p0, q0, hargs, rfl, rfl, h0, r0⟩ := trodAll_cons hA
  obtain ⟨v1, vs1, d1, ds1, p1, q1, rfl, rfl, rfl, h1, r1⟩ := trodAll_cons r0
  obtain ⟨v2, vs2, d2, ds2, p2, q2, rfl, rfl, rfl, h2, r2⟩ := trodAll_cons r1
  obtain ⟨rfl, rfl, rfl⟩ := trodAll_nil r2
  obtain rfl : args = #[v0, v1, v2] := by cases args; simp_all
  obtain ⟨rfl, rfl⟩ := trodVars_none hV
  have k0 := h0
  have lt0 : ∀ x ∈ p0, x.block < W.heap.size := by obtain ⟨m, hm⟩ := k0; exact DataW.trod_lt m _ _ _ hm
  obtain ⟨s1, rfl, rfl, rfl, w1⟩ := Go.ChangeMaps.open_string Tryd.underlying9 (hval 1 9 v1 rfl rfl) h1
  obtain ⟨a2, rfl, rfl, rfl, w2⟩ := open_int Tryd.underlying3 (hval 2 3 v2 rfl rfl) h2
  obtain ⟨u, r, k, rfl, hj, hrt⟩ := Jf.open_arg (light_args hsz (j := 0) rfl rfl) (hval 0 26 v0 rfl rfl) h0
  have hrb : reachBytes = 140737488351232 := rfl
  clear hA0 hval0
  refine (Js.parts_calls (Js.Parts_tri (lw_of hL) hj s1 a2 (by omega) (range64 w2).1 (range64 w2).2)).mono fun e W' ⟨he, bel⟩ => ?_
  subst he
  exact ⟨_, rfl, _, _, _, [], _, [], hW', trodAll_mk1 (shut_bool Tryd.underlying4 _), (trodAll_cons_mk (Below.trod laidOut (by kernel_rfl) (of_decide_eq_true (by kernel_rfl)) k0 bel lt0) (trodAll_cons_mk (Go.ChangeMaps.shut_string Tryd.underlying9 w1) (trodAll_cons_mk (shut_int Tryd.underlying3 w2) trodAll_mk0))), rfl, bel.frame _, fun h => by cases h⟩

theorem over : Rows.JsonPartsSaid :=
  OpenClaim.holds_of_wide 6 Tryd.f6 rfl rfl rfl rfl rfl rfl rfl ⟨rfl, rfl, rfl, rfl, rfl⟩ rfl rfl rfl rfl rfl (by kernel_rfl) Tryd.func6 (by kernel_rfl)
    (of_decide_eq_true (by kernel_rfl)) (by unfold Func.isWrapper; first | (rw [if_pos (by decide +kernel)]; kernel_rfl) | (rw [if_neg (by decide +kernel)]; exact ⟨rfl, rfl⟩))
    (fun os started H enc _ => lifted os started H enc)
theorem plain (f : FuncId) (fn : Func) (hf : Tryd.pinned.checked.prog.funcNamed "warren/warrenlaw23.JsonParts" = some f) (hfn : Tryd.pinned.checked.prog.funcs[f]? = some fn) :
    true = Tryd.pinned.checked.prog.looks [] ∧ ∀ (j : Nat) t, fn.params[j]? = some t → Tryd.pinned.checked.prog.wantsStandIn t = false := by
  obtain rfl : f = 6 := Option.some.inj ((show Tryd.prog.funcNamed "warren/warrenlaw23.JsonParts" = some 6 by kernel_rfl).symm.trans hf) |>.symm
  obtain rfl : fn = Tryd.f6 := (Option.some.inj (Tryd.func6.symm.trans hfn)).symm
  refine ⟨by kernel_rfl, fun j t ht => ?_⟩
  rw [Tryd.params6] at ht
  have hm : t ∈ [26, 9, 3] := by
    have := Array.mem_of_getElem? ht
    simpa using this
  simp only [List.mem_cons, List.not_mem_nil, or_false] at hm
  rcases hm with rfl | rfl | rfl
  · exact (show Tryd.prog.wantsStandIn 26 = false by kernel_rfl)
  · exact (show Tryd.prog.wantsStandIn 9 = false by kernel_rfl)
  · exact (show Tryd.prog.wantsStandIn 3 = false by kernel_rfl)
theorem proved : Rows.JsonPartsCardSaid :=
  Claim7.holds_tied_plain_at .later [] _ _ _ _ over (fun _ h => by cases h) (by kernel_rfl) (fun _ h => by cases h) jsonParts_row_tie rfl ⟨rfl, rfl⟩ (by kernel_rfl) rfl plain (by kernel_rfl)
#print axioms proved
end Go.Proofs.YtdphpillcaajpaaDoor.jsonPartsF
