/- For every run: JsonNames returns true (numbers of kinds, errors and limits). -/
import Derived.Test.YtdphpillcaajpaaDoorNamesC
import Derived.Test.YtdphpillcaajpaaDoorRows
import Derived.Test.YtdphpillcaajpaaDoorCards
import Derived.Test.YtdphpillcaajpaaDoorTie
import Derived.ProofKit
import Derived.LaidMore
import Derived.Lib.LaidU8
import Derived.Lay
import Derived.OpenShut
import Derived.Stop.Joined
import Derived.SevenTiedAt
set_option linter.unusedVariables false
set_option linter.unusedSimpArgs false
namespace Go.Proofs.YtdphpillcaajpaaDoor.jsonNames
open Go.ChangeShapes Go.WideShapes Go.ChangeAt Go.WideMaps Go.WideElems Go.RowKit

theorem own : ownKnob Tryd.prog.godebug = none := by kernel_rfl
theorem fields_ok {P : Program} {fs : Array Field} (h : ((List.range fs.size).all fun i => match fs[i]? with | some f => (match P.underlying f.type with | some (.int .u8) => true | _ => false) && Nat.beq f.offset i && Nat.beq (P.cellsOf f.type) 1 | none => false) = true) (i : Nat) (f : Field) (hf : fs[i]? = some f) : P.underlying f.type = some (.int .u8) ∧ f.offset = i ∧ P.cellsOf f.type = 1 := by
  have hi : i < fs.size := (Array.getElem?_eq_some_iff.1 hf).1
  have h1 := List.all_eq_true.1 h i (List.mem_range.2 hi)
  rw [hf] at h1
  simp only [Bool.and_eq_true] at h1
  refine ⟨?_, Nat.eq_of_beq_eq_true h1.1.2, Nat.eq_of_beq_eq_true h1.2⟩
  have h2 := h1.1.1
  split at h2
  · rename_i hq; exact hq
  · cases h2
theorem cells_of_pairs {P : Program} {W : World} {fuel : Nat} {t e : TypeId} {n : Nat} {fs : Array Field} {cs : List Value} {zs : List (Int × Int)} {p : List MemPlace} (ht : P.underlying t = some (.array n e)) (he : P.underlying e = some (.struct fs)) (hf : ∀ (i : Nat) (f : Field), fs[i]? = some f → P.underlying f.type = some (.int .u8) ∧ f.offset = i ∧ P.cellsOf f.type = 1) (hct : P.cellsOf e = 2) (hfs : fs.size = 2) (hz : zs.length = n)
    (h : DataW.trod (fun _ => ()) P W 0 (fun _ => true) false fuel t cs = some (.agg (zs.map fun x => .agg ([x.1, x.2].map fun z => .lit (.int .u8 z))), p)) (j : Nat) (v : Value) (hj : (zs.flatMap fun x => [Value.int .u8 x.1, .int .u8 x.2])[j]? = some v) : cs[j]? = some v := by
  have hlen : ∀ (l : List (Int × Int)) (j : Nat), (l.flatMap fun x => [Value.int .u8 x.1, .int .u8 x.2])[j]? = (l[j / 2]?).map fun x => if j % 2 = 0 then .int .u8 x.1 else .int .u8 x.2 := by
    intro l
    induction l with
    | nil => intro j; simp
    | cons a l ih =>
      intro j
      match j with
      | 0 => rfl
      | 1 => rfl
      | j + 2 =>
        have h1 : (j + 2) / 2 = j / 2 + 1 := by omega
        have h2 : (j + 2) % 2 = j % 2 := by omega
        rw [h1, h2, List.getElem?_cons_succ, ← ih j]
        rfl
  rw [hlen] at hj
  cases hq : zs[j / 2]? with
  | none => rw [hq] at hj; cases hj
  | some x =>
    rw [hq] at hj
    have hi : j / 2 < n := by rw [← hz]; exact (List.getElem?_eq_some_iff.1 hq).1
    obtain ⟨fuel', d, q, hd, htr⟩ := Lib.array_elem ht h (j / 2) hi
    rw [List.getElem?_map, hq] at hd
    cases hd
    have hc := Lib.ints_of_struct he hf (hct.trans hfs.symm) htr
    rw [hct] at hc
    have hat := congrArg (·[j % 2]?) hc
    simp only [List.getElem?_take, List.getElem?_drop, List.getElem?_map] at hat
    rw [if_pos (Nat.mod_lt _ (by decide)), show j / 2 * 2 + j % 2 = j from by omega] at hat
    rw [hat, ← hj]
    rcases Nat.mod_two_eq_zero_or_one j with h0 | h0 <;> rw [h0] <;> rfl
theorem at_pows : Rows.jsonNamesRow.laid[2]? = some ((Rows.jsonNamesRow.laid[2]?.getD ("", .nil)).1, Lib.tabData .u64 Eng.pows) := by kernel_rfl
/-- What the condition gives the run: the cells of one variable. -/
theorem laid_pows {W : World} (h : laidMet Tryd.prog Rows.jsonNamesRow.laid W) (j : Nat) (v : Value) (hj : (Eng.pows.map (Value.int .u64))[j]? = some v) : W.cell? ⟨5, j, none⟩ = some v := by
  obtain ⟨g, t, cs, fuel, p, hg, ht, hv, hd⟩ := Lib.laidMet.reads h (List.mem_of_getElem? at_pows)
  obtain rfl := Option.some.inj ((show Tryd.prog.globalNamed (Rows.jsonNamesRow.laid[2]?.getD ("", .nil)).1 = some 5 by kernel_rfl).symm.trans hg)
  obtain rfl := Option.some.inj ((show (Tryd.prog.globals[5]?).map (·.type) = some 130 by kernel_rfl).symm.trans ht)
  rw [World.var?_cell hg hv j]
  have hc := Lib.cells_of_tab Tryd.underlying130 Tryd.underlying108 (by kernel_rfl) (by kernel_rfl) hd
  have h2 : cs.toList[j]? = some v := by rw [hc]; exact hj
  simpa using h2
theorem at_firsts : Rows.jsonNamesRow.laid[6]? = some ((Rows.jsonNamesRow.laid[6]?.getD ("", .nil)).1, Lib.tabData .u8 Eng.firsts) := by kernel_rfl
/-- What the condition gives the run: the cells of one variable. -/
theorem laid_firsts {W : World} (h : laidMet Tryd.prog Rows.jsonNamesRow.laid W) (j : Nat) (v : Value) (hj : (Eng.firsts.map (Value.int .u8))[j]? = some v) : W.cell? ⟨2, j, none⟩ = some v := by
  obtain ⟨g, t, cs, fuel, p, hg, ht, hv, hd⟩ := Lib.laidMet.reads h (List.mem_of_getElem? at_firsts)
  obtain rfl := Option.some.inj ((show Tryd.prog.globalNamed (Rows.jsonNamesRow.laid[6]?.getD ("", .nil)).1 = some 2 by kernel_rfl).symm.trans hg)
  obtain rfl := Option.some.inj ((show (Tryd.prog.globals[2]?).map (·.type) = some 120 by kernel_rfl).symm.trans ht)
  rw [World.var?_cell hg hv j]
  have hc := Lib.cells_of_tab Tryd.underlying120 Tryd.underlying5 (by kernel_rfl) (by kernel_rfl) hd
  have h2 : cs.toList[j]? = some v := by rw [hc]; exact hj
  simpa using h2
theorem at_accepts : Rows.jsonNamesRow.laid[3]? = some ((Rows.jsonNamesRow.laid[3]?.getD ("", .nil)).1, .agg (Eng.accepts.map fun x => .agg ([x.1, x.2].map fun z => .lit (.int .u8 z)))) := by kernel_rfl
/-- What the condition gives the run: the cells of one variable. -/
theorem laid_accepts {W : World} (h : laidMet Tryd.prog Rows.jsonNamesRow.laid W) (j : Nat) (v : Value) (hj : (Eng.accepts.flatMap fun x => [Value.int .u8 x.1, .int .u8 x.2])[j]? = some v) : W.cell? ⟨3, j, none⟩ = some v := by
  obtain ⟨g, t, cs, fuel, p, hg, ht, hv, hd⟩ := Lib.laidMet.reads h (List.mem_of_getElem? at_accepts)
  obtain rfl := Option.some.inj ((show Tryd.prog.globalNamed (Rows.jsonNamesRow.laid[3]?.getD ("", .nil)).1 = some 3 by kernel_rfl).symm.trans hg)
  obtain rfl := Option.some.inj ((show (Tryd.prog.globals[3]?).map (·.type) = some 123 by kernel_rfl).symm.trans ht)
  rw [World.var?_cell hg hv j]
  have h2 := cells_of_pairs Tryd.underlying123 (fs := Tryd.prog.fieldsOf 122) (by kernel_rfl) (fields_ok (by kernel_rfl)) (by kernel_rfl) (by kernel_rfl) (by kernel_rfl) hd j v hj
  simpa using h2
set_option maxRecDepth 100000 in
theorem laid_ok {W : World} (h : laidMetH Tryd.prog Rows.jsonNamesRow.laid W) : Eng.LaidOk Eng.cfg W := by
  rw [MakeChecks.laidMetH_plain _ _ _ (by kernel_rfl)] at h
  intro x hx j v hj
  rcases List.mem_cons.1 hx with rfl | hx
  · exact laid_pows h j v hj
  rcases List.mem_cons.1 hx with rfl | hx
  · exact laid_firsts h j v hj
  rcases List.mem_cons.1 hx with rfl | hx
  · exact laid_accepts h j v hj
  cases hx
set_option maxRecDepth 100000 in
theorem lifted (os : Os) (started : os.Started) (H : Type) (enc : TypeId × Value → H) :
    ReturnsInHanded {} Tryd.checked os 3 .any (fun w args => (Rows.jsonNamesSpec.pre enc Tryd.prog Tryd.f3 [] false w args ∧ laidMetH Tryd.prog Rows.jsonNamesRow.laid w) ∧ sizedMet enc Tryd.prog Tryd.f3 (OpenSpec.ofChange Rows.jsonNamesSpec) false w args)
      (Rows.jsonNamesSpec.post enc Tryd.prog Tryd.f3 false true false false) := by
  refine returnsInHanded_of_change_and (C := Tryd.checked) (X := fun w _ => laidMetH Tryd.prog Rows.jsonNamesRow.laid w) (fun _ _ _ hh h => h.of_heap hh) own started (by kernel_rfl) Tryd.func3
    (ChangeSpec.witness_shaped (enc := enc) (C := Tryd.checked) (os := os) (X := fun w _ => laidMetH Tryd.prog Rows.jsonNamesRow.laid w) false (World.laidAll Tryd.prog os Rows.jsonNamesRow.laid) #[] 8 (World.laidAll_os _ _ _)
      (World.shaped_of_ZipB (by kernel_rfl) (by kernel_rfl)) (by kernel_rfl) (by kernel_rfl) (by kernel_rfl)
      (by rw [MakeChecks.laidMetH_plain _ _ _ (by kernel_rfl)]; exact laidMet_laidAll _ (by kernel_rfl) (by kernel_rfl))) ?_
  intro W base args ds gs before hval0 hW _ _ hL _
  have hW' := hW
  obtain ⟨p, q, hA0, hV, rfl, hfz, hnd⟩ := hW
  have hA : DataW.TrodAll enc Tryd.prog W 0 (fun _ => true) true Tryd.f3.params.toList args.toList ds p := hA0
  rw [Tryd.params3] at hA
  obtain ⟨rfl, rfl, rfl⟩ := trodAll_none hA
  obtain ⟨rfl, rfl⟩ := trodVars_none hV
  clear hA0 hval0
  simp only [List.append_nil] at hW'
  refine (Eng.names_closed (laid_ok hL)).mono fun e W' ⟨he, bel⟩ => ?_
  subst he
  exact ⟨_, rfl, _, _, _, [], [], [], hW', trodAll_mk1 (shut_bool Tryd.underlying4 _), trodAll_mk0, rfl, bel.frame _, fun h => by cases h⟩
theorem over : Rows.JsonNamesSaid :=
  OpenClaim.holds_of_wide 3 Tryd.f3 rfl rfl rfl rfl rfl rfl rfl ⟨rfl, rfl, rfl, rfl, rfl⟩ rfl rfl rfl rfl rfl (by kernel_rfl) Tryd.func3 (by kernel_rfl)
    (of_decide_eq_true (by kernel_rfl)) (by unfold Func.isWrapper; first | (rw [if_pos (by decide +kernel)]; kernel_rfl) | (rw [if_neg (by decide +kernel)]; exact ⟨rfl, rfl⟩))
    (fun os started H enc _ => lifted os started H enc)
theorem proved : Rows.JsonNamesCardSaid :=
  Claim7.holds_tied_plain_at .later [] [.data, .data, .data, .data, .sentinel, .sentinel, .pinned] true (true, "37231c767ead11a11195e285b695ebbd69b6501d16f35ebd10c41484ebfab96b") true
    over (fun _ h => by cases h) (by kernel_rfl) (fun _ h => by cases h) jsonNames_row_tie rfl ⟨rfl, rfl⟩ (by kernel_rfl) rfl
    (fun f fn hf hfn => by
      obtain rfl : f = 3 := Option.some.inj ((show Tryd.prog.funcNamed Tryd.f3.name = some 3 by kernel_rfl).symm.trans hf) |>.symm
      obtain rfl : fn = Tryd.f3 := (Option.some.inj (Tryd.func3.symm.trans hfn)).symm
      exact ⟨by kernel_rfl, fun j t ht => by
        rw [Tryd.params3] at ht
        simp at ht⟩)
    (by kernel_rfl)
#print axioms proved
end Go.Proofs.YtdphpillcaajpaaDoor.jsonNames
