/- For every run: CatalogNames returns true (numbers of kinds, errors and limits). -/
import Derived.Test.YtnnojnlejlokhaaGreatDoorNamesC
import Derived.Test.YtnnojnlejlokhaaGreatDoorRows
import Derived.Test.YtnnojnlejlokhaaGreatDoorCards
import Derived.Test.YtnnojnlejlokhaaGreatDoorTie
import Derived.ProofKit
import Derived.LaidMore
import Derived.Lay
import Derived.OpenShut
import Derived.Stop.Joined
import Derived.SevenTiedAt
set_option linter.unusedVariables false
set_option linter.unusedSimpArgs false
namespace Go.Proofs.YtnnojnlejlokhaaGreatDoor.catalogNames
open Go.ChangeShapes Go.WideShapes Go.ChangeAt Go.WideMaps Go.WideElems Go.RowKit

theorem own : ownKnob Tryz.prog.godebug = none := by kernel_rfl
theorem at_nibble : Rows.catalogNamesRow.laid[5]? = some ((Rows.catalogNamesRow.laid[5]?.getD ("", .nil)).1, .agg (Eng.nibble.map fun n => .lit (.int .u32 n))) := by kernel_rfl
/-- What the condition gives the run: the cells of one variable. -/
theorem laid_ok {W : World} (h : laidMetH Tryz.prog Rows.catalogNamesRow.laid W) : Eng.LaidOk Eng.cfg W := by
  rw [MakeChecks.laidMetH_plain _ _ _ (by kernel_rfl)] at h
  obtain ⟨ps, hall, _, _⟩ := h
  obtain ⟨_, _, _, _, _, _, _, _, _, _, ⟨_, _, _, _, _, _, _, _, _, _, ⟨_, _, _, _, _, _, _, _, _, _, ⟨_, _, _, _, _, _, _, _, _, _, ⟨_, _, _, _, _, _, _, _, _, _, ⟨g, t, cs, fuel, p, q, hg, ht, hv, hd, _, _⟩, _⟩, _⟩, _⟩, _⟩, _⟩ := hall
  obtain rfl := Option.some.inj ((show Tryz.prog.globalNamed (Rows.catalogNamesRow.laid[5]?.getD ("", .nil)).1 = some 0 by kernel_rfl).symm.trans hg)
  obtain rfl := Option.some.inj ((show (Tryz.prog.globals[0]?).map (·.type) = some 168 by kernel_rfl).symm.trans ht)
  obtain ⟨xs, m, _, ex, _, hl, hel⟩ := DataW.trod_array Tryz.underlying168 hd
  intro x hx j v hj
  obtain rfl := List.mem_singleton.1 hx
  have hr : j < 16 := (List.getElem?_eq_some_iff.1 hj).1
  have c5 : Tryz.prog.cellsOf 149 = 1 := by kernel_rfl
  have hE := hel j hr
  rw [c5, Nat.mul_one, List.getElem?_eq_getElem (by omega)] at hE
  obtain ⟨z, e1, e2, _⟩ := DataW.trod_int Tryz.underlying149 hE
  have e3 : (xs.map (·.1)) = Eng.nibble.map fun n => .lit (.int .u32 n) := (DataW.agg.inj (Prod.mk.inj ex).1).symm
  have e4 : (xs.map (·.1))[j]? = (Eng.nibble.map fun n => (DataW.lit (.int .u32 n) : DataW Unit))[j]? := by rw [e3]
  rw [List.getElem?_map, List.getElem?_map, List.getElem?_eq_getElem (by omega : j < xs.length), List.getElem?_eq_getElem (show j < Eng.nibble.length from hr), e2] at e4
  have hz : z = Eng.nibble[j]'hr := by
    simp only [Option.map_some, Option.some.injEq, DataW.lit.injEq, Lit.int.injEq, true_and] at e4
    exact e4
  have hvj : v = .int .u32 z := by
    have h1 : (Eng.nibble.map (Value.int .u32))[j]? = some v := hj
    rw [List.getElem?_map, List.getElem?_eq_getElem (show j < Eng.nibble.length from hr), Option.map_some, Option.some.injEq] at h1
    exact h1.symm.trans (congrArg _ hz.symm)
  show W.cell? ⟨0, j, none⟩ = _
  rw [World.var?_cell hg hv j, hvj]
  have h0 : ((cs.toList.drop j).take 1)[0]? = some (.int .u32 z) := by rw [e1]; rfl
  rw [List.getElem?_take, if_pos (by decide), List.getElem?_drop, Nat.add_zero] at h0
  simpa using h0
set_option maxRecDepth 100000 in
theorem lifted (os : Os) (started : os.Started) (H : Type) (enc : TypeId × Value → H) :
    ReturnsInHanded {} Tryz.checked os 3 .any (fun w args => (Rows.catalogNamesSpec.pre enc Tryz.prog Tryz.f3 [] false w args ∧ laidMetH Tryz.prog Rows.catalogNamesRow.laid w) ∧ sizedMet enc Tryz.prog Tryz.f3 (OpenSpec.ofChange Rows.catalogNamesSpec) false w args)
      (Rows.catalogNamesSpec.post enc Tryz.prog Tryz.f3 false true false false) := by
  refine returnsInHanded_of_change_and (C := Tryz.checked) (X := fun w _ => laidMetH Tryz.prog Rows.catalogNamesRow.laid w) (fun _ _ _ hh h => h.of_heap hh) own started (by kernel_rfl) Tryz.func3
    (ChangeSpec.witness_shaped (enc := enc) (C := Tryz.checked) (os := os) (X := fun w _ => laidMetH Tryz.prog Rows.catalogNamesRow.laid w) false (World.laidAll Tryz.prog os Rows.catalogNamesRow.laid) #[] 8 (World.laidAll_os _ _ _)
      (World.shaped_of_ZipB (by kernel_rfl) (by kernel_rfl)) (by kernel_rfl) (by kernel_rfl) (by kernel_rfl)
      (by rw [MakeChecks.laidMetH_plain _ _ _ (by kernel_rfl)]; exact laidMet_laidAll _ (by kernel_rfl) (by kernel_rfl))) ?_
  intro W base args ds gs before hval0 hW _ _ hL _
  have hW' := hW
  obtain ⟨p, q, hA0, hV, rfl, hfz, hnd⟩ := hW
  have hA : DataW.TrodAll enc Tryz.prog W 0 (fun _ => true) true Tryz.f3.params.toList args.toList ds p := hA0
  rw [Tryz.params3] at hA
  obtain ⟨rfl, rfl, rfl⟩ := trodAll_none hA
  obtain ⟨rfl, rfl⟩ := trodVars_none hV
  clear hA0 hval0
  simp only [List.append_nil] at hW'
  refine (Eng.names_closed (laid_ok hL)).mono fun e W' ⟨he, bel⟩ => ?_
  subst he
  exact ⟨_, rfl, _, _, _, [], [], [], hW', trodAll_mk1 (shut_bool Tryz.underlying4 _), trodAll_mk0, rfl, bel.frame _, fun h => by cases h⟩
theorem over : Rows.CatalogNamesSaid :=
  OpenClaim.holds_of_wide 3 Tryz.f3 rfl rfl rfl rfl rfl rfl rfl ⟨rfl, rfl, rfl, rfl, rfl⟩ rfl rfl rfl rfl rfl (by kernel_rfl) Tryz.func3 (by kernel_rfl)
    (of_decide_eq_true (by kernel_rfl)) (by unfold Func.isWrapper; first | (rw [if_pos (by decide +kernel)]; kernel_rfl) | (rw [if_neg (by decide +kernel)]; exact ⟨rfl, rfl⟩))
    (fun os started H enc _ => lifted os started H enc)
theorem proved : Rows.CatalogNamesCardSaid :=
  Claim7.holds_tied_plain_at .later [] [.data, .data, .data, .sentinel, .sentinel, .data] true (true, "9e4f0c1761517fca194e06add79a16542dac82bd007677be993cb1d5430cbd81") true
    over (fun _ h => by cases h) (by kernel_rfl) (fun _ h => by cases h) catalogNames_row_tie rfl ⟨rfl, rfl⟩ (by kernel_rfl) rfl
    (fun f fn hf hfn => by
      obtain rfl : f = 3 := Option.some.inj ((show Tryz.prog.funcNamed Tryz.f3.name = some 3 by kernel_rfl).symm.trans hf) |>.symm
      obtain rfl : fn = Tryz.f3 := (Option.some.inj (Tryz.func3.symm.trans hfn)).symm
      exact ⟨by kernel_rfl, fun j t ht => by
        rw [Tryz.params3] at ht
        simp at ht⟩)
    (by kernel_rfl)
#print axioms proved
end Go.Proofs.YtnnojnlejlokhaaGreatDoor.catalogNames
