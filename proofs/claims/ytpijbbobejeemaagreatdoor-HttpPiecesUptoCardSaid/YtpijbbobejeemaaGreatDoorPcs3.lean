/- Parts of the proof, merged. -/
import Derived.Test.YtpijbbobejeemaaGreatDoorPcs2
import Derived.Test.YtpijbbobejeemaaGreatDoorEngKit
import Derived.Test.YtpijbbobejeemaaGreatDoorEngFamS
/- Http: all: a text's bytes, one predicate after another. -/
set_option linter.unusedVariables false
set_option linter.unusedSimpArgs false
set_option maxRecDepth 100000
namespace Go.Proofs.YtpijbbobejeemaaGreatDoor.Htp
open Go Go.RowKit Go.Proofs.YtpijbbobejeemaaGreatDoor.Eng Go.Proofs.YtpijbbobejeemaaGreatDoor.Kit
def AskAll (f : Nat) (q : UInt8 → Bool) (w : World) : Prop := ((List.range 256).all fun c => match closedVal ((runCall Tryz.prog (envK Tryz.prog cfg0 w) 1000 f [.v (.int .u8 (Int.ofNat c))]).run true .nil 0 []) with
    | some (.bool n) => n == q (UInt8.ofNat c)
    | _ => false) = true
theorem ask_one {f : Nat} {q : UInt8 → Bool} {w : World} (h : AskAll f q w) (c : UInt8) : closedVal ((runCall Tryz.prog (envK Tryz.prog cfg0 w) 1000 f (vmap [.int .u8 (c.toNat : Int)])).run true .nil 0 []) = some (.bool (q c)) := by
  have h := List.all_eq_true.1 h c.toNat (List.mem_range.2 c.toNat_lt)
  simp only [UInt8.ofNat_toNat] at h
  show closedVal ((runCall Tryz.prog (envK Tryz.prog cfg0 w) 1000 f [.v (.int .u8 (Int.ofNat c.toNat))]).run true .nil 0 []) = _
  split at h
  · rename_i n he
    rw [he, eq_of_beq h]
  · cases h
theorem ask_calls {f : Nat} {q : UInt8 → Bool} (h : ∀ w, AskAll f q w) (c : UInt8) (w : World) : Calls Tryz.prog f #[.int .u8 (c.toNat : Int)] w fun e w' => e = .returned (.bool (q c)) ∧ Below w.heap.size w w' :=
  closed_callK (args := [.int .u8 (c.toNat : Int)]) cfg0_ok (by kernel_rfl) (fuel := 1000) (fun w => ask_one (h w) c) (fun x hx => by cases hx)
theorem cW_ok {F : HP} (hF : OldOK default F) {f : Nat} {q : UInt8 → Bool} (h : ∀ w, AskAll f q w) {x : UInt8} {b : Bool} (hb : q x = b) : C1OK Tryz.prog F f (cW x b) :=
  vC_ok hF (fun c => [.int .u8 c]) (fun _ => .bool b) gHx_spec (fun p N => vr_v N _) fun c hc w hw => by
    subst hc hb
    exact ask_calls h x w
theorem box_ow' (σ : Nat → Nat) (k : Nat) : OW (.cells [fnV k] tFun) ((boxF k).ren σ) := OW.refl _
theorem gAl_ro : ∀ args, RO (gAl args) := by
  intro args
  unfold gAl
  split
  · exact RO.ret _
  · exact RO.fail _
theorem gB1 (L : List UInt8) (i : Nat) (hi : i < L.length) : ∀ d, (rowV encB L).getD (0 + i * 1) d = byv (L.getD i 0) := rB_get L i hi
theorem tri_calls {W : World} {f : FuncId} {args : List Value} {y : Value} (h : Tri Tryz.prog W f (vmap args) [] (.v y) []) {w : World} (hw : Stays W w) : Calls Tryz.prog f args.toArray w fun e w' => e = .returned y ∧ Below w.heap.size w w' := by
  refine (h w (HP.old w) (fun _ => none) w args.toArray (fun D w' hF b o hv => old_here w D w' hF b o (hw b o hv)) (fun _ _ _ => rfl) (rep_nil w) (VRs.vmap args)).mono ?_
  rintro e w' ⟨z, rfl, N', _, _, r, hv⟩
  have hy : z = y := VR_v.1 (VRs_cons.1 hv).1
  subst hy
  exact ⟨rfl, r.old_below⟩
theorem first_bad {q : UInt8 → Bool} {L : List UInt8} (h : L.all q = false) : ∃ i, i < L.length ∧ q (L.getD i 0) = false ∧ ∀ j, j < i → q (L.getD j 0) = true := by
  induction L with
  | nil => cases h
  | cons c l ih =>
    cases hc : q c with
    | false => exact ⟨0, by simp, hc, fun j hj => absurd hj (Nat.not_lt_zero _)⟩
    | true =>
      rw [List.all_cons, hc, Bool.true_and] at h
      obtain ⟨i, h1, h2, h3⟩ := ih h
      refine ⟨i + 1, by simp; omega, h2, fun j hj => ?_⟩
      cases j with
      | zero => exact hc
      | succ j => exact h3 j (by omega)
theorem all_good {q : UInt8 → Bool} {L : List UInt8} (h : L.all q = true) (j : Nat) (hj : j < L.length) : q (L.getD j 0) = true := by
  have := List.all_eq_true.1 h L[j] (List.getElem_mem hj)
  simpa [List.getD_eq_getElem?_getD, List.getElem?_eq_getElem hj] using this
theorem ge0 (i : Nat) : decide (Int.ofNat i ≥ Int.ofNat 0) = true := decide_eq_true (by simp only [Int.ofNat_eq_natCast]; omega)
def qL (c : UInt8) : Bool := 65 ≤ c && c ≤ 90
theorem askL (w : World) : AskAll fQl qL w := by unfold AskAll; kernel_rfl
theorem alL_loop (L : List UInt8) (hn : L.length ≤ 4000000) (h : L.all qL = true) :
    LTri Tryz.prog default (loopN fIxF 2) (tms 0 19 (aAl L.length 0)) [(1000, boxF fQl), (1001, rB1 L)] (.exit 0) (tms 0 19 []) [] := by
  refine ltri_run (W := default) (g := fIxF) (b := loopN fIxF 2) (σ := {i : Nat // i ≤ L.length}) 19 (fun i => aAl L.length i.1) (fun _ => [(1000, boxF fQl), (1001, rB1 L)]) (.exit 0) [] [] (fun i => L.length - i.1) [1000, 1001] [0, 1, 4, 7, 8] (by intro h; cases h) (fun _ => rfl) rfl ?_ ⟨0, Nat.zero_le _⟩
  rintro ⟨i, hi⟩
  simp only
  by_cases h1 : i < L.length
  · have g0 := gB1 L i h1
    have g1 := rB_lt L i h1
    have e1 := ltTN h1
    have hw := wrap_succ i (by omega)
    have hq := all_good h i h1
    generalize L.getD i 0 = x at *
    refine ⟨[(fQl, cW x true)], hAl i x false, [], fun F hF => one_c (cW_ok hF askL hq), fun _ _ => noL, fun F => ?_⟩
    refine cast (congrArg (VAll _) (oAllN_eq L L.length i x F).symm) ⟨⟨?_, rfl, .inl ⟨rfl, ⟨i + 1, h1⟩, sub_down h1, [(1000, 1000), (1001, 1001)], by kernel_rfl, by kernel_rfl, ⟨Wk.refl _, Wk.refl _, Wk.refl _, Wk.refl _, trivial⟩, ⟨_, rfl, box_ow' _ _⟩, ⟨_, rfl, rB1_ow rfl rfl⟩, trivial⟩⟩⟩
    simp only [Cnd.holds, g0, g1, e1, h1, Nat.blt_eq, true_and, and_true]
    and_intros
    all_goals first
      | (with_reducible exact wk_int hw)
      | (with_reducible exact trivial)
      | (with_reducible exact rfl)
      | (with_reducible exact Wk.refl _)
      | (with_reducible exact VW.refl _)
      | (with_reducible exact OW.refl _)
      | (with_reducible exact wk_lit _)
      | (with_reducible assumption)
      | exact rfl
      | exact Wk.refl _
      | exact VW.refl _
      | exact OW.refl _
      | ((repeat (first | exact VW.nil | refine VW.cons (Wk.refl _) ?_ | refine VW.cons (Wk.any _) ?_ | refine VW.cons (wk_cap (Nat.le_refl _)) ?_)); done)
  · have hke : i = L.length := by omega
    subst hke
    refine ⟨[], hintL [(fIxF, 2, 0, hv (.lit false))], [], fun _ _ => noC, fun _ _ => noL, fun F => ?_⟩
    refine cast (congrArg (VAll _) (oAllE_eq L L.length L.length F).symm) ⟨⟨?_, rfl, .inr ⟨rfl, [], rfl, rfl, trivial, trivial⟩⟩⟩
    simp only [Cnd.holds, and_true]
    exact wk_litE (ltFN (Nat.le_refl _))
theorem alL_loopx (L : List UInt8) (hn : L.length ≤ 4000000) (k : Nat) (hk : k < L.length) (hbad : qL (L.getD k 0) = false) (hgood : ∀ j, j < k → qL (L.getD j 0) = true) :
    LTri Tryz.prog default (loopN fIxF 2) (tms 0 19 (aAl L.length 0)) [(1000, boxF fQl), (1001, rB1 L)] .ret (tms 0 19 [(4, iv (Int.ofNat k))]) [] := by
  refine ltri_run (W := default) (g := fIxF) (b := loopN fIxF 2) (σ := {i : Nat // i ≤ k}) 19 (fun i => aAl L.length i.1) (fun _ => [(1000, boxF fQl), (1001, rB1 L)]) .ret [(4, iv (Int.ofNat k))] [] (fun i => L.length - i.1) [1000, 1001] [0, 1, 4, 7, 8] (by intro h; cases h) (fun _ => rfl) rfl ?_ ⟨0, Nat.zero_le _⟩
  rintro ⟨i, hi⟩
  simp only
  have h1 : i < L.length := by omega
  have g0 := gB1 L i h1
  have g1 := rB_lt L i h1
  have e1 := ltTN h1
  have hw := wrap_succ i (by omega)
  by_cases h2 : i < k
  · have hq := hgood i h2
    generalize L.getD i 0 = x at *
    refine ⟨[(fQl, cW x true)], hAl i x false, [], fun F hF => one_c (cW_ok hF askL hq), fun _ _ => noL, fun F => ?_⟩
    refine cast (congrArg (VAll _) (oAllN_eq L L.length i x F).symm) ⟨⟨?_, rfl, .inl ⟨rfl, ⟨i + 1, h2⟩, sub_down h1, [(1000, 1000), (1001, 1001)], by kernel_rfl, by kernel_rfl, ⟨Wk.refl _, Wk.refl _, Wk.refl _, Wk.refl _, trivial⟩, ⟨_, rfl, box_ow' _ _⟩, ⟨_, rfl, rB1_ow rfl rfl⟩, trivial⟩⟩⟩
    simp only [Cnd.holds, g0, g1, e1, h1, Nat.blt_eq, true_and, and_true]
    and_intros
    all_goals first
      | (with_reducible exact wk_int hw)
      | (with_reducible exact trivial)
      | (with_reducible exact rfl)
      | (with_reducible exact Wk.refl _)
      | (with_reducible exact VW.refl _)
      | (with_reducible exact OW.refl _)
      | (with_reducible exact wk_lit _)
      | (with_reducible assumption)
      | exact rfl
      | exact Wk.refl _
      | exact VW.refl _
      | exact OW.refl _
      | ((repeat (first | exact VW.nil | refine VW.cons (Wk.refl _) ?_ | refine VW.cons (Wk.any _) ?_ | refine VW.cons (wk_cap (Nat.le_refl _)) ?_)); done)
  · have hke : i = k := by omega
    subst hke
    generalize L.getD i 0 = x at *
    refine ⟨[(fQl, cW x false)], hAl i x true, [], fun F hF => one_c (cW_ok hF askL hbad), fun _ _ => noL, fun F => ?_⟩
    refine cast (congrArg (VAll _) (oAllH_eq L L.length i x F).symm) ⟨⟨?_, rfl, .inr ⟨rfl, [], rfl, rfl, ⟨Wk.refl _, trivial⟩, trivial⟩⟩⟩
    simp only [Cnd.holds, g0, g1, e1, h1, Nat.blt_eq, true_and, and_true]
    and_intros
    all_goals first
      | (with_reducible exact trivial)
      | (with_reducible exact rfl)
      | (with_reducible exact Wk.refl _)
      | (with_reducible exact VW.refl _)
      | (with_reducible exact OW.refl _)
      | (with_reducible exact wk_lit _)
      | (with_reducible assumption)
      | exact rfl
      | exact Wk.refl _
      | exact VW.refl _
      | exact OW.refl _
      | ((repeat (first | exact VW.nil | refine VW.cons (Wk.refl _) ?_ | refine VW.cons (Wk.any _) ?_ | refine VW.cons (wk_cap (Nat.le_refl _)) ?_)); done)
theorem allL_tri (s : ByteArray) (hs : s.size ≤ 4000000) : Tri Tryz.prog default fAll [sv s, fnV fQl] [] (bv (s.data.toList.all qL)) [] := by
  have hl : s.data.toList.length = s.size := rfl
  cases h : s.data.toList.all qL with
  | true =>
    refine tri_run (con := []) (hints := hAt s.data.toList false) (lc := [(fIxF, 2, loopN fIxF 2, lAl s.data.toList fQl s.size)]) [] rfl (fun _ _ => noC) (fun F hF => one_l (mkL_ok hF gAl_ro (fun _ _ => by
      have := alL_loop s.data.toList (by omega) h
      rw [hl] at this
      simp only [RT.pick]
      exact this) fun _ => by
      simp only [RT.pick]
      exact closedT rfl rfl (all_cons rfl (all_cons ⟨trivial, rfl, trivial⟩ (all_cons trivial (all_cons trivial all_nil)))) (all_cons ⟨trivial, trivial⟩ (all_cons (rB1_cl _ _) all_nil)) all_nil all_nil)) fun F => ?_
    refine cast (congrArg (VAll _) (oAllT_eq s F).symm) ⟨⟨?_, (fit_mk (vs' := [bv true]) (H' := []) [] rfl rfl (VW.refl _) trivial).fits rfl⟩⟩
    simp only [Cnd.holds, hl, Nat.blt_eq, true_and, and_true]
    and_intros
    all_goals first
      | exact ow_cells (rowB_map _).symm
      | (rw [rens_rowV]; exact OW.refl _)
      | (with_reducible exact trivial)
      | (with_reducible exact rfl)
      | (with_reducible exact Wk.refl _)
      | (with_reducible exact VW.refl _)
      | (with_reducible exact OW.refl _)
      | (with_reducible exact wk_lit _)
      | (with_reducible assumption)
      | exact rfl
      | exact Wk.refl _
      | exact VW.refl _
      | exact OW.refl _
      | ((repeat (first | exact VW.nil | refine VW.cons (Wk.refl _) ?_ | refine VW.cons (Wk.any _) ?_ | refine VW.cons (wk_cap (Nat.le_refl _)) ?_)); done)
  | false =>
    obtain ⟨i, h1, h2, h3⟩ := first_bad h
    refine tri_run (con := []) (hints := hAt s.data.toList true) (lc := [(fIxF, 2, loopN fIxF 2, lAlx s.data.toList fQl s.size i)]) [] rfl (fun _ _ => noC) (fun F hF => one_l (mkL_ok hF gAl_ro (fun _ _ => by
      have := alL_loopx s.data.toList (by omega) i h1 h2 h3
      rw [hl] at this
      simp only [RT.pick]
      exact this) fun _ => by
      simp only [RT.pick]
      exact closedT rfl rfl (all_cons rfl (all_cons ⟨trivial, rfl, trivial⟩ (all_cons trivial (all_cons trivial all_nil)))) (all_cons ⟨trivial, trivial⟩ (all_cons (rB1_cl _ _) all_nil)) (all_cons trivial all_nil) all_nil)) fun F => ?_
    refine cast (congrArg (VAll _) (oAllF_eq s i F).symm) ⟨⟨?_, (fit_mk (vs' := [bv false]) (H' := []) [] rfl rfl (VW.refl _) trivial).fits rfl⟩⟩
    have e3 := ge0 i
    simp only [Cnd.holds, hl, e3, Nat.blt_eq, true_and, and_true]
    and_intros
    all_goals first
      | exact ow_cells (rowB_map _).symm
      | (rw [rens_rowV]; exact OW.refl _)
      | (with_reducible exact trivial)
      | (with_reducible exact rfl)
      | (with_reducible exact Wk.refl _)
      | (with_reducible exact VW.refl _)
      | (with_reducible exact OW.refl _)
      | (with_reducible exact wk_lit _)
      | (with_reducible assumption)
      | exact rfl
      | exact Wk.refl _
      | exact VW.refl _
      | exact OW.refl _
      | ((repeat (first | exact VW.nil | refine VW.cons (Wk.refl _) ?_ | refine VW.cons (Wk.any _) ?_ | refine VW.cons (wk_cap (Nat.le_refl _)) ?_)); done)
def qD (c : UInt8) : Bool := 48 ≤ c && c ≤ 57
theorem askD (w : World) : AskAll fQd qD w := by unfold AskAll; kernel_rfl
theorem alD_loop (L : List UInt8) (hn : L.length ≤ 4000000) (h : L.all qD = true) :
    LTri Tryz.prog default (loopN fIxF 2) (tms 0 19 (aAl L.length 0)) [(1000, boxF fQd), (1001, rB1 L)] (.exit 0) (tms 0 19 []) [] := by
  refine ltri_run (W := default) (g := fIxF) (b := loopN fIxF 2) (σ := {i : Nat // i ≤ L.length}) 19 (fun i => aAl L.length i.1) (fun _ => [(1000, boxF fQd), (1001, rB1 L)]) (.exit 0) [] [] (fun i => L.length - i.1) [1000, 1001] [0, 1, 4, 7, 8] (by intro h; cases h) (fun _ => rfl) rfl ?_ ⟨0, Nat.zero_le _⟩
  rintro ⟨i, hi⟩
  simp only
  by_cases h1 : i < L.length
  · have g0 := gB1 L i h1
    have g1 := rB_lt L i h1
    have e1 := ltTN h1
    have hw := wrap_succ i (by omega)
    have hq := all_good h i h1
    generalize L.getD i 0 = x at *
    refine ⟨[(fQd, cW x true)], hAl i x false, [], fun F hF => one_c (cW_ok hF askD hq), fun _ _ => noL, fun F => ?_⟩
    refine cast (congrArg (VAll _) (oAldN_eq L L.length i x F).symm) ⟨⟨?_, rfl, .inl ⟨rfl, ⟨i + 1, h1⟩, sub_down h1, [(1000, 1000), (1001, 1001)], by kernel_rfl, by kernel_rfl, ⟨Wk.refl _, Wk.refl _, Wk.refl _, Wk.refl _, trivial⟩, ⟨_, rfl, box_ow' _ _⟩, ⟨_, rfl, rB1_ow rfl rfl⟩, trivial⟩⟩⟩
    simp only [Cnd.holds, g0, g1, e1, h1, Nat.blt_eq, true_and, and_true]
    and_intros
    all_goals first
      | (with_reducible exact wk_int hw)
      | (with_reducible exact trivial)
      | (with_reducible exact rfl)
      | (with_reducible exact Wk.refl _)
      | (with_reducible exact VW.refl _)
      | (with_reducible exact OW.refl _)
      | (with_reducible exact wk_lit _)
      | (with_reducible assumption)
      | exact rfl
      | exact Wk.refl _
      | exact VW.refl _
      | exact OW.refl _
      | ((repeat (first | exact VW.nil | refine VW.cons (Wk.refl _) ?_ | refine VW.cons (Wk.any _) ?_ | refine VW.cons (wk_cap (Nat.le_refl _)) ?_)); done)
  · have hke : i = L.length := by omega
    subst hke
    refine ⟨[], hintL [(fIxF, 2, 0, hv (.lit false))], [], fun _ _ => noC, fun _ _ => noL, fun F => ?_⟩
    refine cast (congrArg (VAll _) (oAldE_eq L L.length L.length F).symm) ⟨⟨?_, rfl, .inr ⟨rfl, [], rfl, rfl, trivial, trivial⟩⟩⟩
    simp only [Cnd.holds, and_true]
    exact wk_litE (ltFN (Nat.le_refl _))
theorem alD_loopx (L : List UInt8) (hn : L.length ≤ 4000000) (k : Nat) (hk : k < L.length) (hbad : qD (L.getD k 0) = false) (hgood : ∀ j, j < k → qD (L.getD j 0) = true) :
    LTri Tryz.prog default (loopN fIxF 2) (tms 0 19 (aAl L.length 0)) [(1000, boxF fQd), (1001, rB1 L)] .ret (tms 0 19 [(4, iv (Int.ofNat k))]) [] := by
  refine ltri_run (W := default) (g := fIxF) (b := loopN fIxF 2) (σ := {i : Nat // i ≤ k}) 19 (fun i => aAl L.length i.1) (fun _ => [(1000, boxF fQd), (1001, rB1 L)]) .ret [(4, iv (Int.ofNat k))] [] (fun i => L.length - i.1) [1000, 1001] [0, 1, 4, 7, 8] (by intro h; cases h) (fun _ => rfl) rfl ?_ ⟨0, Nat.zero_le _⟩
  rintro ⟨i, hi⟩
  simp only
  have h1 : i < L.length := by omega
  have g0 := gB1 L i h1
  have g1 := rB_lt L i h1
  have e1 := ltTN h1
  have hw := wrap_succ i (by omega)
  by_cases h2 : i < k
  · have hq := hgood i h2
    generalize L.getD i 0 = x at *
    refine ⟨[(fQd, cW x true)], hAl i x false, [], fun F hF => one_c (cW_ok hF askD hq), fun _ _ => noL, fun F => ?_⟩
    refine cast (congrArg (VAll _) (oAldN_eq L L.length i x F).symm) ⟨⟨?_, rfl, .inl ⟨rfl, ⟨i + 1, h2⟩, sub_down h1, [(1000, 1000), (1001, 1001)], by kernel_rfl, by kernel_rfl, ⟨Wk.refl _, Wk.refl _, Wk.refl _, Wk.refl _, trivial⟩, ⟨_, rfl, box_ow' _ _⟩, ⟨_, rfl, rB1_ow rfl rfl⟩, trivial⟩⟩⟩
    simp only [Cnd.holds, g0, g1, e1, h1, Nat.blt_eq, true_and, and_true]
    and_intros
    all_goals first
      | (with_reducible exact wk_int hw)
      | (with_reducible exact trivial)
      | (with_reducible exact rfl)
      | (with_reducible exact Wk.refl _)
      | (with_reducible exact VW.refl _)
      | (with_reducible exact OW.refl _)
      | (with_reducible exact wk_lit _)
      | (with_reducible assumption)
      | exact rfl
      | exact Wk.refl _
      | exact VW.refl _
      | exact OW.refl _
      | ((repeat (first | exact VW.nil | refine VW.cons (Wk.refl _) ?_ | refine VW.cons (Wk.any _) ?_ | refine VW.cons (wk_cap (Nat.le_refl _)) ?_)); done)
  · have hke : i = k := by omega
    subst hke
    generalize L.getD i 0 = x at *
    refine ⟨[(fQd, cW x false)], hAl i x true, [], fun F hF => one_c (cW_ok hF askD hbad), fun _ _ => noL, fun F => ?_⟩
    refine cast (congrArg (VAll _) (oAldH_eq L L.length i x F).symm) ⟨⟨?_, rfl, .inr ⟨rfl, [], rfl, rfl, ⟨Wk.refl _, trivial⟩, trivial⟩⟩⟩
    simp only [Cnd.holds, g0, g1, e1, h1, Nat.blt_eq, true_and, and_true]
    and_intros
    all_goals first
      | (with_reducible exact trivial)
      | (with_reducible exact rfl)
      | (with_reducible exact Wk.refl _)
      | (with_reducible exact VW.refl _)
      | (with_reducible exact OW.refl _)
      | (with_reducible exact wk_lit _)
      | (with_reducible assumption)
      | exact rfl
      | exact Wk.refl _
      | exact VW.refl _
      | exact OW.refl _
      | ((repeat (first | exact VW.nil | refine VW.cons (Wk.refl _) ?_ | refine VW.cons (Wk.any _) ?_ | refine VW.cons (wk_cap (Nat.le_refl _)) ?_)); done)
theorem allD_tri (s : ByteArray) (hs : s.size ≤ 4000000) : Tri Tryz.prog default fAll [sv s, fnV fQd] [] (bv (s.data.toList.all qD)) [] := by
  have hl : s.data.toList.length = s.size := rfl
  cases h : s.data.toList.all qD with
  | true =>
    refine tri_run (con := []) (hints := hAt s.data.toList false) (lc := [(fIxF, 2, loopN fIxF 2, lAl s.data.toList fQd s.size)]) [] rfl (fun _ _ => noC) (fun F hF => one_l (mkL_ok hF gAl_ro (fun _ _ => by
      have := alD_loop s.data.toList (by omega) h
      rw [hl] at this
      simp only [RT.pick]
      exact this) fun _ => by
      simp only [RT.pick]
      exact closedT rfl rfl (all_cons rfl (all_cons ⟨trivial, rfl, trivial⟩ (all_cons trivial (all_cons trivial all_nil)))) (all_cons ⟨trivial, trivial⟩ (all_cons (rB1_cl _ _) all_nil)) all_nil all_nil)) fun F => ?_
    refine cast (congrArg (VAll _) (oAldT_eq s F).symm) ⟨⟨?_, (fit_mk (vs' := [bv true]) (H' := []) [] rfl rfl (VW.refl _) trivial).fits rfl⟩⟩
    simp only [Cnd.holds, hl, Nat.blt_eq, true_and, and_true]
    and_intros
    all_goals first
      | exact ow_cells (rowB_map _).symm
      | (rw [rens_rowV]; exact OW.refl _)
      | (with_reducible exact trivial)
      | (with_reducible exact rfl)
      | (with_reducible exact Wk.refl _)
      | (with_reducible exact VW.refl _)
      | (with_reducible exact OW.refl _)
      | (with_reducible exact wk_lit _)
      | (with_reducible assumption)
      | exact rfl
      | exact Wk.refl _
      | exact VW.refl _
      | exact OW.refl _
      | ((repeat (first | exact VW.nil | refine VW.cons (Wk.refl _) ?_ | refine VW.cons (Wk.any _) ?_ | refine VW.cons (wk_cap (Nat.le_refl _)) ?_)); done)
  | false =>
    obtain ⟨i, h1, h2, h3⟩ := first_bad h
    refine tri_run (con := []) (hints := hAt s.data.toList true) (lc := [(fIxF, 2, loopN fIxF 2, lAlx s.data.toList fQd s.size i)]) [] rfl (fun _ _ => noC) (fun F hF => one_l (mkL_ok hF gAl_ro (fun _ _ => by
      have := alD_loopx s.data.toList (by omega) i h1 h2 h3
      rw [hl] at this
      simp only [RT.pick]
      exact this) fun _ => by
      simp only [RT.pick]
      exact closedT rfl rfl (all_cons rfl (all_cons ⟨trivial, rfl, trivial⟩ (all_cons trivial (all_cons trivial all_nil)))) (all_cons ⟨trivial, trivial⟩ (all_cons (rB1_cl _ _) all_nil)) (all_cons trivial all_nil) all_nil)) fun F => ?_
    refine cast (congrArg (VAll _) (oAldF_eq s i F).symm) ⟨⟨?_, (fit_mk (vs' := [bv false]) (H' := []) [] rfl rfl (VW.refl _) trivial).fits rfl⟩⟩
    have e3 := ge0 i
    simp only [Cnd.holds, hl, e3, Nat.blt_eq, true_and, and_true]
    and_intros
    all_goals first
      | exact ow_cells (rowB_map _).symm
      | (rw [rens_rowV]; exact OW.refl _)
      | (with_reducible exact trivial)
      | (with_reducible exact rfl)
      | (with_reducible exact Wk.refl _)
      | (with_reducible exact VW.refl _)
      | (with_reducible exact OW.refl _)
      | (with_reducible exact wk_lit _)
      | (with_reducible assumption)
      | exact rfl
      | exact Wk.refl _
      | exact VW.refl _
      | exact OW.refl _
      | ((repeat (first | exact VW.nil | refine VW.cons (Wk.refl _) ?_ | refine VW.cons (Wk.any _) ?_ | refine VW.cons (wk_cap (Nat.le_refl _)) ?_)); done)
def qS (c : UInt8) : Bool := 33 ≤ c && c ≤ 126
theorem askS (w : World) : AskAll fQs qS w := by unfold AskAll; kernel_rfl
theorem alS_loop (L : List UInt8) (hn : L.length ≤ 4000000) (h : L.all qS = true) :
    LTri Tryz.prog default (loopN fIxF 2) (tms 0 19 (aAl L.length 0)) [(1000, boxF fQs), (1001, rB1 L)] (.exit 0) (tms 0 19 []) [] := by
  refine ltri_run (W := default) (g := fIxF) (b := loopN fIxF 2) (σ := {i : Nat // i ≤ L.length}) 19 (fun i => aAl L.length i.1) (fun _ => [(1000, boxF fQs), (1001, rB1 L)]) (.exit 0) [] [] (fun i => L.length - i.1) [1000, 1001] [0, 1, 4, 7, 8] (by intro h; cases h) (fun _ => rfl) rfl ?_ ⟨0, Nat.zero_le _⟩
  rintro ⟨i, hi⟩
  simp only
  by_cases h1 : i < L.length
  · have g0 := gB1 L i h1
    have g1 := rB_lt L i h1
    have e1 := ltTN h1
    have hw := wrap_succ i (by omega)
    have hq := all_good h i h1
    generalize L.getD i 0 = x at *
    refine ⟨[(fQs, cW x true)], hAl i x false, [], fun F hF => one_c (cW_ok hF askS hq), fun _ _ => noL, fun F => ?_⟩
    refine cast (congrArg (VAll _) (oAlsN_eq L L.length i x F).symm) ⟨⟨?_, rfl, .inl ⟨rfl, ⟨i + 1, h1⟩, sub_down h1, [(1000, 1000), (1001, 1001)], by kernel_rfl, by kernel_rfl, ⟨Wk.refl _, Wk.refl _, Wk.refl _, Wk.refl _, trivial⟩, ⟨_, rfl, box_ow' _ _⟩, ⟨_, rfl, rB1_ow rfl rfl⟩, trivial⟩⟩⟩
    simp only [Cnd.holds, g0, g1, e1, h1, Nat.blt_eq, true_and, and_true]
    and_intros
    all_goals first
      | (with_reducible exact wk_int hw)
      | (with_reducible exact trivial)
      | (with_reducible exact rfl)
      | (with_reducible exact Wk.refl _)
      | (with_reducible exact VW.refl _)
      | (with_reducible exact OW.refl _)
      | (with_reducible exact wk_lit _)
      | (with_reducible assumption)
      | exact rfl
      | exact Wk.refl _
      | exact VW.refl _
      | exact OW.refl _
      | ((repeat (first | exact VW.nil | refine VW.cons (Wk.refl _) ?_ | refine VW.cons (Wk.any _) ?_ | refine VW.cons (wk_cap (Nat.le_refl _)) ?_)); done)
  · have hke : i = L.length := by omega
    subst hke
    refine ⟨[], hintL [(fIxF, 2, 0, hv (.lit false))], [], fun _ _ => noC, fun _ _ => noL, fun F => ?_⟩
    refine cast (congrArg (VAll _) (oAlsE_eq L L.length L.length F).symm) ⟨⟨?_, rfl, .inr ⟨rfl, [], rfl, rfl, trivial, trivial⟩⟩⟩
    simp only [Cnd.holds, and_true]
    exact wk_litE (ltFN (Nat.le_refl _))
theorem alS_loopx (L : List UInt8) (hn : L.length ≤ 4000000) (k : Nat) (hk : k < L.length) (hbad : qS (L.getD k 0) = false) (hgood : ∀ j, j < k → qS (L.getD j 0) = true) :
    LTri Tryz.prog default (loopN fIxF 2) (tms 0 19 (aAl L.length 0)) [(1000, boxF fQs), (1001, rB1 L)] .ret (tms 0 19 [(4, iv (Int.ofNat k))]) [] := by
  refine ltri_run (W := default) (g := fIxF) (b := loopN fIxF 2) (σ := {i : Nat // i ≤ k}) 19 (fun i => aAl L.length i.1) (fun _ => [(1000, boxF fQs), (1001, rB1 L)]) .ret [(4, iv (Int.ofNat k))] [] (fun i => L.length - i.1) [1000, 1001] [0, 1, 4, 7, 8] (by intro h; cases h) (fun _ => rfl) rfl ?_ ⟨0, Nat.zero_le _⟩
  rintro ⟨i, hi⟩
  simp only
  have h1 : i < L.length := by omega
  have g0 := gB1 L i h1
  have g1 := rB_lt L i h1
  have e1 := ltTN h1
  have hw := wrap_succ i (by omega)
  by_cases h2 : i < k
  · have hq := hgood i h2
    generalize L.getD i 0 = x at *
    refine ⟨[(fQs, cW x true)], hAl i x false, [], fun F hF => one_c (cW_ok hF askS hq), fun _ _ => noL, fun F => ?_⟩
    refine cast (congrArg (VAll _) (oAlsN_eq L L.length i x F).symm) ⟨⟨?_, rfl, .inl ⟨rfl, ⟨i + 1, h2⟩, sub_down h1, [(1000, 1000), (1001, 1001)], by kernel_rfl, by kernel_rfl, ⟨Wk.refl _, Wk.refl _, Wk.refl _, Wk.refl _, trivial⟩, ⟨_, rfl, box_ow' _ _⟩, ⟨_, rfl, rB1_ow rfl rfl⟩, trivial⟩⟩⟩
    simp only [Cnd.holds, g0, g1, e1, h1, Nat.blt_eq, true_and, and_true]
    and_intros
    all_goals first
      | (with_reducible exact wk_int hw)
      | (with_reducible exact trivial)
      | (with_reducible exact rfl)
      | (with_reducible exact Wk.refl _)
      | (with_reducible exact VW.refl _)
      | (with_reducible exact OW.refl _)
      | (with_reducible exact wk_lit _)
      | (with_reducible assumption)
      | exact rfl
      | exact Wk.refl _
      | exact VW.refl _
      | exact OW.refl _
      | ((repeat (first | exact VW.nil | refine VW.cons (Wk.refl _) ?_ | refine VW.cons (Wk.any _) ?_ | refine VW.cons (wk_cap (Nat.le_refl _)) ?_)); done)
  · have hke : i = k := by omega
    subst hke
    generalize L.getD i 0 = x at *
    refine ⟨[(fQs, cW x false)], hAl i x true, [], fun F hF => one_c (cW_ok hF askS hbad), fun _ _ => noL, fun F => ?_⟩
    refine cast (congrArg (VAll _) (oAlsH_eq L L.length i x F).symm) ⟨⟨?_, rfl, .inr ⟨rfl, [], rfl, rfl, ⟨Wk.refl _, trivial⟩, trivial⟩⟩⟩
    simp only [Cnd.holds, g0, g1, e1, h1, Nat.blt_eq, true_and, and_true]
    and_intros
    all_goals first
      | (with_reducible exact trivial)
      | (with_reducible exact rfl)
      | (with_reducible exact Wk.refl _)
      | (with_reducible exact VW.refl _)
      | (with_reducible exact OW.refl _)
      | (with_reducible exact wk_lit _)
      | (with_reducible assumption)
      | exact rfl
      | exact Wk.refl _
      | exact VW.refl _
      | exact OW.refl _
      | ((repeat (first | exact VW.nil | refine VW.cons (Wk.refl _) ?_ | refine VW.cons (Wk.any _) ?_ | refine VW.cons (wk_cap (Nat.le_refl _)) ?_)); done)
theorem allS_tri (s : ByteArray) (hs : s.size ≤ 4000000) : Tri Tryz.prog default fAll [sv s, fnV fQs] [] (bv (s.data.toList.all qS)) [] := by
  have hl : s.data.toList.length = s.size := rfl
  cases h : s.data.toList.all qS with
  | true =>
    refine tri_run (con := []) (hints := hAt s.data.toList false) (lc := [(fIxF, 2, loopN fIxF 2, lAl s.data.toList fQs s.size)]) [] rfl (fun _ _ => noC) (fun F hF => one_l (mkL_ok hF gAl_ro (fun _ _ => by
      have := alS_loop s.data.toList (by omega) h
      rw [hl] at this
      simp only [RT.pick]
      exact this) fun _ => by
      simp only [RT.pick]
      exact closedT rfl rfl (all_cons rfl (all_cons ⟨trivial, rfl, trivial⟩ (all_cons trivial (all_cons trivial all_nil)))) (all_cons ⟨trivial, trivial⟩ (all_cons (rB1_cl _ _) all_nil)) all_nil all_nil)) fun F => ?_
    refine cast (congrArg (VAll _) (oAlsT_eq s F).symm) ⟨⟨?_, (fit_mk (vs' := [bv true]) (H' := []) [] rfl rfl (VW.refl _) trivial).fits rfl⟩⟩
    simp only [Cnd.holds, hl, Nat.blt_eq, true_and, and_true]
    and_intros
    all_goals first
      | exact ow_cells (rowB_map _).symm
      | (rw [rens_rowV]; exact OW.refl _)
      | (with_reducible exact trivial)
      | (with_reducible exact rfl)
      | (with_reducible exact Wk.refl _)
      | (with_reducible exact VW.refl _)
      | (with_reducible exact OW.refl _)
      | (with_reducible exact wk_lit _)
      | (with_reducible assumption)
      | exact rfl
      | exact Wk.refl _
      | exact VW.refl _
      | exact OW.refl _
      | ((repeat (first | exact VW.nil | refine VW.cons (Wk.refl _) ?_ | refine VW.cons (Wk.any _) ?_ | refine VW.cons (wk_cap (Nat.le_refl _)) ?_)); done)
  | false =>
    obtain ⟨i, h1, h2, h3⟩ := first_bad h
    refine tri_run (con := []) (hints := hAt s.data.toList true) (lc := [(fIxF, 2, loopN fIxF 2, lAlx s.data.toList fQs s.size i)]) [] rfl (fun _ _ => noC) (fun F hF => one_l (mkL_ok hF gAl_ro (fun _ _ => by
      have := alS_loopx s.data.toList (by omega) i h1 h2 h3
      rw [hl] at this
      simp only [RT.pick]
      exact this) fun _ => by
      simp only [RT.pick]
      exact closedT rfl rfl (all_cons rfl (all_cons ⟨trivial, rfl, trivial⟩ (all_cons trivial (all_cons trivial all_nil)))) (all_cons ⟨trivial, trivial⟩ (all_cons (rB1_cl _ _) all_nil)) (all_cons trivial all_nil) all_nil)) fun F => ?_
    refine cast (congrArg (VAll _) (oAlsF_eq s i F).symm) ⟨⟨?_, (fit_mk (vs' := [bv false]) (H' := []) [] rfl rfl (VW.refl _) trivial).fits rfl⟩⟩
    have e3 := ge0 i
    simp only [Cnd.holds, hl, e3, Nat.blt_eq, true_and, and_true]
    and_intros
    all_goals first
      | exact ow_cells (rowB_map _).symm
      | (rw [rens_rowV]; exact OW.refl _)
      | (with_reducible exact trivial)
      | (with_reducible exact rfl)
      | (with_reducible exact Wk.refl _)
      | (with_reducible exact VW.refl _)
      | (with_reducible exact OW.refl _)
      | (with_reducible exact wk_lit _)
      | (with_reducible assumption)
      | exact rfl
      | exact Wk.refl _
      | exact VW.refl _
      | exact OW.refl _
      | ((repeat (first | exact VW.nil | refine VW.cons (Wk.refl _) ?_ | refine VW.cons (Wk.any _) ?_ | refine VW.cons (wk_cap (Nat.le_refl _)) ?_)); done)
def qN (c : UInt8) : Bool := qL c || qD c || (97 ≤ c && c ≤ 122) || c == 45
theorem askN (w : World) : AskAll fQn qN w := by unfold AskAll; kernel_rfl
theorem alN_loop (L : List UInt8) (hn : L.length ≤ 4000000) (h : L.all qN = true) :
    LTri Tryz.prog default (loopN fIxF 2) (tms 0 19 (aAl L.length 0)) [(1000, boxF fQn), (1001, rB1 L)] (.exit 0) (tms 0 19 []) [] := by
  refine ltri_run (W := default) (g := fIxF) (b := loopN fIxF 2) (σ := {i : Nat // i ≤ L.length}) 19 (fun i => aAl L.length i.1) (fun _ => [(1000, boxF fQn), (1001, rB1 L)]) (.exit 0) [] [] (fun i => L.length - i.1) [1000, 1001] [0, 1, 4, 7, 8] (by intro h; cases h) (fun _ => rfl) rfl ?_ ⟨0, Nat.zero_le _⟩
  rintro ⟨i, hi⟩
  simp only
  by_cases h1 : i < L.length
  · have g0 := gB1 L i h1
    have g1 := rB_lt L i h1
    have e1 := ltTN h1
    have hw := wrap_succ i (by omega)
    have hq := all_good h i h1
    generalize L.getD i 0 = x at *
    refine ⟨[(fQn, cW x true)], hAl i x false, [], fun F hF => one_c (cW_ok hF askN hq), fun _ _ => noL, fun F => ?_⟩
    refine cast (congrArg (VAll _) (oAlnN_eq L L.length i x F).symm) ⟨⟨?_, rfl, .inl ⟨rfl, ⟨i + 1, h1⟩, sub_down h1, [(1000, 1000), (1001, 1001)], by kernel_rfl, by kernel_rfl, ⟨Wk.refl _, Wk.refl _, Wk.refl _, Wk.refl _, trivial⟩, ⟨_, rfl, box_ow' _ _⟩, ⟨_, rfl, rB1_ow rfl rfl⟩, trivial⟩⟩⟩
    simp only [Cnd.holds, g0, g1, e1, h1, Nat.blt_eq, true_and, and_true]
    and_intros
    all_goals first
      | (with_reducible exact wk_int hw)
      | (with_reducible exact trivial)
      | (with_reducible exact rfl)
      | (with_reducible exact Wk.refl _)
      | (with_reducible exact VW.refl _)
      | (with_reducible exact OW.refl _)
      | (with_reducible exact wk_lit _)
      | (with_reducible assumption)
      | exact rfl
      | exact Wk.refl _
      | exact VW.refl _
      | exact OW.refl _
      | ((repeat (first | exact VW.nil | refine VW.cons (Wk.refl _) ?_ | refine VW.cons (Wk.any _) ?_ | refine VW.cons (wk_cap (Nat.le_refl _)) ?_)); done)
  · have hke : i = L.length := by omega
    subst hke
    refine ⟨[], hintL [(fIxF, 2, 0, hv (.lit false))], [], fun _ _ => noC, fun _ _ => noL, fun F => ?_⟩
    refine cast (congrArg (VAll _) (oAlnE_eq L L.length L.length F).symm) ⟨⟨?_, rfl, .inr ⟨rfl, [], rfl, rfl, trivial, trivial⟩⟩⟩
    simp only [Cnd.holds, and_true]
    exact wk_litE (ltFN (Nat.le_refl _))
theorem alN_loopx (L : List UInt8) (hn : L.length ≤ 4000000) (k : Nat) (hk : k < L.length) (hbad : qN (L.getD k 0) = false) (hgood : ∀ j, j < k → qN (L.getD j 0) = true) :
    LTri Tryz.prog default (loopN fIxF 2) (tms 0 19 (aAl L.length 0)) [(1000, boxF fQn), (1001, rB1 L)] .ret (tms 0 19 [(4, iv (Int.ofNat k))]) [] := by
  refine ltri_run (W := default) (g := fIxF) (b := loopN fIxF 2) (σ := {i : Nat // i ≤ k}) 19 (fun i => aAl L.length i.1) (fun _ => [(1000, boxF fQn), (1001, rB1 L)]) .ret [(4, iv (Int.ofNat k))] [] (fun i => L.length - i.1) [1000, 1001] [0, 1, 4, 7, 8] (by intro h; cases h) (fun _ => rfl) rfl ?_ ⟨0, Nat.zero_le _⟩
  rintro ⟨i, hi⟩
  simp only
  have h1 : i < L.length := by omega
  have g0 := gB1 L i h1
  have g1 := rB_lt L i h1
  have e1 := ltTN h1
  have hw := wrap_succ i (by omega)
  by_cases h2 : i < k
  · have hq := hgood i h2
    generalize L.getD i 0 = x at *
    refine ⟨[(fQn, cW x true)], hAl i x false, [], fun F hF => one_c (cW_ok hF askN hq), fun _ _ => noL, fun F => ?_⟩
    refine cast (congrArg (VAll _) (oAlnN_eq L L.length i x F).symm) ⟨⟨?_, rfl, .inl ⟨rfl, ⟨i + 1, h2⟩, sub_down h1, [(1000, 1000), (1001, 1001)], by kernel_rfl, by kernel_rfl, ⟨Wk.refl _, Wk.refl _, Wk.refl _, Wk.refl _, trivial⟩, ⟨_, rfl, box_ow' _ _⟩, ⟨_, rfl, rB1_ow rfl rfl⟩, trivial⟩⟩⟩
    simp only [Cnd.holds, g0, g1, e1, h1, Nat.blt_eq, true_and, and_true]
    and_intros
    all_goals first
      | (with_reducible exact wk_int hw)
      | (with_reducible exact trivial)
      | (with_reducible exact rfl)
      | (with_reducible exact Wk.refl _)
      | (with_reducible exact VW.refl _)
      | (with_reducible exact OW.refl _)
      | (with_reducible exact wk_lit _)
      | (with_reducible assumption)
      | exact rfl
      | exact Wk.refl _
      | exact VW.refl _
      | exact OW.refl _
      | ((repeat (first | exact VW.nil | refine VW.cons (Wk.refl _) ?_ | refine VW.cons (Wk.any _) ?_ | refine VW.cons (wk_cap (Nat.le_refl _)) ?_)); done)
  · have hke : i = k := by omega
    subst hke
    generalize L.getD i 0 = x at *
    refine ⟨[(fQn, cW x false)], hAl i x true, [], fun F hF => one_c (cW_ok hF askN hbad), fun _ _ => noL, fun F => ?_⟩
    refine cast (congrArg (VAll _) (oAlnH_eq L L.length i x F).symm) ⟨⟨?_, rfl, .inr ⟨rfl, [], rfl, rfl, ⟨Wk.refl _, trivial⟩, trivial⟩⟩⟩
    simp only [Cnd.holds, g0, g1, e1, h1, Nat.blt_eq, true_and, and_true]
    and_intros
    all_goals first
      | (with_reducible exact trivial)
      | (with_reducible exact rfl)
      | (with_reducible exact Wk.refl _)
      | (with_reducible exact VW.refl _)
      | (with_reducible exact OW.refl _)
      | (with_reducible exact wk_lit _)
      | (with_reducible assumption)
      | exact rfl
      | exact Wk.refl _
      | exact VW.refl _
      | exact OW.refl _
      | ((repeat (first | exact VW.nil | refine VW.cons (Wk.refl _) ?_ | refine VW.cons (Wk.any _) ?_ | refine VW.cons (wk_cap (Nat.le_refl _)) ?_)); done)
theorem allN_tri (s : ByteArray) (hs : s.size ≤ 4000000) : Tri Tryz.prog default fAll [sv s, fnV fQn] [] (bv (s.data.toList.all qN)) [] := by
  have hl : s.data.toList.length = s.size := rfl
  cases h : s.data.toList.all qN with
  | true =>
    refine tri_run (con := []) (hints := hAt s.data.toList false) (lc := [(fIxF, 2, loopN fIxF 2, lAl s.data.toList fQn s.size)]) [] rfl (fun _ _ => noC) (fun F hF => one_l (mkL_ok hF gAl_ro (fun _ _ => by
      have := alN_loop s.data.toList (by omega) h
      rw [hl] at this
      simp only [RT.pick]
      exact this) fun _ => by
      simp only [RT.pick]
      exact closedT rfl rfl (all_cons rfl (all_cons ⟨trivial, rfl, trivial⟩ (all_cons trivial (all_cons trivial all_nil)))) (all_cons ⟨trivial, trivial⟩ (all_cons (rB1_cl _ _) all_nil)) all_nil all_nil)) fun F => ?_
    refine cast (congrArg (VAll _) (oAlnT_eq s F).symm) ⟨⟨?_, (fit_mk (vs' := [bv true]) (H' := []) [] rfl rfl (VW.refl _) trivial).fits rfl⟩⟩
    simp only [Cnd.holds, hl, Nat.blt_eq, true_and, and_true]
    and_intros
    all_goals first
      | exact ow_cells (rowB_map _).symm
      | (rw [rens_rowV]; exact OW.refl _)
      | (with_reducible exact trivial)
      | (with_reducible exact rfl)
      | (with_reducible exact Wk.refl _)
      | (with_reducible exact VW.refl _)
      | (with_reducible exact OW.refl _)
      | (with_reducible exact wk_lit _)
      | (with_reducible assumption)
      | exact rfl
      | exact Wk.refl _
      | exact VW.refl _
      | exact OW.refl _
      | ((repeat (first | exact VW.nil | refine VW.cons (Wk.refl _) ?_ | refine VW.cons (Wk.any _) ?_ | refine VW.cons (wk_cap (Nat.le_refl _)) ?_)); done)
  | false =>
    obtain ⟨i, h1, h2, h3⟩ := first_bad h
    refine tri_run (con := []) (hints := hAt s.data.toList true) (lc := [(fIxF, 2, loopN fIxF 2, lAlx s.data.toList fQn s.size i)]) [] rfl (fun _ _ => noC) (fun F hF => one_l (mkL_ok hF gAl_ro (fun _ _ => by
      have := alN_loopx s.data.toList (by omega) i h1 h2 h3
      rw [hl] at this
      simp only [RT.pick]
      exact this) fun _ => by
      simp only [RT.pick]
      exact closedT rfl rfl (all_cons rfl (all_cons ⟨trivial, rfl, trivial⟩ (all_cons trivial (all_cons trivial all_nil)))) (all_cons ⟨trivial, trivial⟩ (all_cons (rB1_cl _ _) all_nil)) (all_cons trivial all_nil) all_nil)) fun F => ?_
    refine cast (congrArg (VAll _) (oAlnF_eq s i F).symm) ⟨⟨?_, (fit_mk (vs' := [bv false]) (H' := []) [] rfl rfl (VW.refl _) trivial).fits rfl⟩⟩
    have e3 := ge0 i
    simp only [Cnd.holds, hl, e3, Nat.blt_eq, true_and, and_true]
    and_intros
    all_goals first
      | exact ow_cells (rowB_map _).symm
      | (rw [rens_rowV]; exact OW.refl _)
      | (with_reducible exact trivial)
      | (with_reducible exact rfl)
      | (with_reducible exact Wk.refl _)
      | (with_reducible exact VW.refl _)
      | (with_reducible exact OW.refl _)
      | (with_reducible exact wk_lit _)
      | (with_reducible assumption)
      | exact rfl
      | exact Wk.refl _
      | exact VW.refl _
      | exact OW.refl _
      | ((repeat (first | exact VW.nil | refine VW.cons (Wk.refl _) ?_ | refine VW.cons (Wk.any _) ?_ | refine VW.cons (wk_cap (Nat.le_refl _)) ?_)); done)
def qH (c : UInt8) : Bool := qS c || c == 32 || c == 9
theorem askH (w : World) : AskAll fQh qH w := by unfold AskAll; kernel_rfl
theorem alH_loop (L : List UInt8) (hn : L.length ≤ 4000000) (h : L.all qH = true) :
    LTri Tryz.prog default (loopN fIxF 2) (tms 0 19 (aAl L.length 0)) [(1000, boxF fQh), (1001, rB1 L)] (.exit 0) (tms 0 19 []) [] := by
  refine ltri_run (W := default) (g := fIxF) (b := loopN fIxF 2) (σ := {i : Nat // i ≤ L.length}) 19 (fun i => aAl L.length i.1) (fun _ => [(1000, boxF fQh), (1001, rB1 L)]) (.exit 0) [] [] (fun i => L.length - i.1) [1000, 1001] [0, 1, 4, 7, 8] (by intro h; cases h) (fun _ => rfl) rfl ?_ ⟨0, Nat.zero_le _⟩
  rintro ⟨i, hi⟩
  simp only
  by_cases h1 : i < L.length
  · have g0 := gB1 L i h1
    have g1 := rB_lt L i h1
    have e1 := ltTN h1
    have hw := wrap_succ i (by omega)
    have hq := all_good h i h1
    generalize L.getD i 0 = x at *
    refine ⟨[(fQh, cW x true)], hAl i x false, [], fun F hF => one_c (cW_ok hF askH hq), fun _ _ => noL, fun F => ?_⟩
    refine cast (congrArg (VAll _) (oAlhN_eq L L.length i x F).symm) ⟨⟨?_, rfl, .inl ⟨rfl, ⟨i + 1, h1⟩, sub_down h1, [(1000, 1000), (1001, 1001)], by kernel_rfl, by kernel_rfl, ⟨Wk.refl _, Wk.refl _, Wk.refl _, Wk.refl _, trivial⟩, ⟨_, rfl, box_ow' _ _⟩, ⟨_, rfl, rB1_ow rfl rfl⟩, trivial⟩⟩⟩
    simp only [Cnd.holds, g0, g1, e1, h1, Nat.blt_eq, true_and, and_true]
    and_intros
    all_goals first
      | (with_reducible exact wk_int hw)
      | (with_reducible exact trivial)
      | (with_reducible exact rfl)
      | (with_reducible exact Wk.refl _)
      | (with_reducible exact VW.refl _)
      | (with_reducible exact OW.refl _)
      | (with_reducible exact wk_lit _)
      | (with_reducible assumption)
      | exact rfl
      | exact Wk.refl _
      | exact VW.refl _
      | exact OW.refl _
      | ((repeat (first | exact VW.nil | refine VW.cons (Wk.refl _) ?_ | refine VW.cons (Wk.any _) ?_ | refine VW.cons (wk_cap (Nat.le_refl _)) ?_)); done)
  · have hke : i = L.length := by omega
    subst hke
    refine ⟨[], hintL [(fIxF, 2, 0, hv (.lit false))], [], fun _ _ => noC, fun _ _ => noL, fun F => ?_⟩
    refine cast (congrArg (VAll _) (oAlhE_eq L L.length L.length F).symm) ⟨⟨?_, rfl, .inr ⟨rfl, [], rfl, rfl, trivial, trivial⟩⟩⟩
    simp only [Cnd.holds, and_true]
    exact wk_litE (ltFN (Nat.le_refl _))
theorem alH_loopx (L : List UInt8) (hn : L.length ≤ 4000000) (k : Nat) (hk : k < L.length) (hbad : qH (L.getD k 0) = false) (hgood : ∀ j, j < k → qH (L.getD j 0) = true) :
    LTri Tryz.prog default (loopN fIxF 2) (tms 0 19 (aAl L.length 0)) [(1000, boxF fQh), (1001, rB1 L)] .ret (tms 0 19 [(4, iv (Int.ofNat k))]) [] := by
  refine ltri_run (W := default) (g := fIxF) (b := loopN fIxF 2) (σ := {i : Nat // i ≤ k}) 19 (fun i => aAl L.length i.1) (fun _ => [(1000, boxF fQh), (1001, rB1 L)]) .ret [(4, iv (Int.ofNat k))] [] (fun i => L.length - i.1) [1000, 1001] [0, 1, 4, 7, 8] (by intro h; cases h) (fun _ => rfl) rfl ?_ ⟨0, Nat.zero_le _⟩
  rintro ⟨i, hi⟩
  simp only
  have h1 : i < L.length := by omega
  have g0 := gB1 L i h1
  have g1 := rB_lt L i h1
  have e1 := ltTN h1
  have hw := wrap_succ i (by omega)
  by_cases h2 : i < k
  · have hq := hgood i h2
    generalize L.getD i 0 = x at *
    refine ⟨[(fQh, cW x true)], hAl i x false, [], fun F hF => one_c (cW_ok hF askH hq), fun _ _ => noL, fun F => ?_⟩
    refine cast (congrArg (VAll _) (oAlhN_eq L L.length i x F).symm) ⟨⟨?_, rfl, .inl ⟨rfl, ⟨i + 1, h2⟩, sub_down h1, [(1000, 1000), (1001, 1001)], by kernel_rfl, by kernel_rfl, ⟨Wk.refl _, Wk.refl _, Wk.refl _, Wk.refl _, trivial⟩, ⟨_, rfl, box_ow' _ _⟩, ⟨_, rfl, rB1_ow rfl rfl⟩, trivial⟩⟩⟩
    simp only [Cnd.holds, g0, g1, e1, h1, Nat.blt_eq, true_and, and_true]
    and_intros
    all_goals first
      | (with_reducible exact wk_int hw)
      | (with_reducible exact trivial)
      | (with_reducible exact rfl)
      | (with_reducible exact Wk.refl _)
      | (with_reducible exact VW.refl _)
      | (with_reducible exact OW.refl _)
      | (with_reducible exact wk_lit _)
      | (with_reducible assumption)
      | exact rfl
      | exact Wk.refl _
      | exact VW.refl _
      | exact OW.refl _
      | ((repeat (first | exact VW.nil | refine VW.cons (Wk.refl _) ?_ | refine VW.cons (Wk.any _) ?_ | refine VW.cons (wk_cap (Nat.le_refl _)) ?_)); done)
  · have hke : i = k := by omega
    subst hke
    generalize L.getD i 0 = x at *
    refine ⟨[(fQh, cW x false)], hAl i x true, [], fun F hF => one_c (cW_ok hF askH hbad), fun _ _ => noL, fun F => ?_⟩
    refine cast (congrArg (VAll _) (oAlhH_eq L L.length i x F).symm) ⟨⟨?_, rfl, .inr ⟨rfl, [], rfl, rfl, ⟨Wk.refl _, trivial⟩, trivial⟩⟩⟩
    simp only [Cnd.holds, g0, g1, e1, h1, Nat.blt_eq, true_and, and_true]
    and_intros
    all_goals first
      | (with_reducible exact trivial)
      | (with_reducible exact rfl)
      | (with_reducible exact Wk.refl _)
      | (with_reducible exact VW.refl _)
      | (with_reducible exact OW.refl _)
      | (with_reducible exact wk_lit _)
      | (with_reducible assumption)
      | exact rfl
      | exact Wk.refl _
      | exact VW.refl _
      | exact OW.refl _
      | ((repeat (first | exact VW.nil | refine VW.cons (Wk.refl _) ?_ | refine VW.cons (Wk.any _) ?_ | refine VW.cons (wk_cap (Nat.le_refl _)) ?_)); done)
theorem allH_tri (s : ByteArray) (hs : s.size ≤ 4000000) : Tri Tryz.prog default fAll [sv s, fnV fQh] [] (bv (s.data.toList.all qH)) [] := by
  have hl : s.data.toList.length = s.size := rfl
  cases h : s.data.toList.all qH with
  | true =>
    refine tri_run (con := []) (hints := hAt s.data.toList false) (lc := [(fIxF, 2, loopN fIxF 2, lAl s.data.toList fQh s.size)]) [] rfl (fun _ _ => noC) (fun F hF => one_l (mkL_ok hF gAl_ro (fun _ _ => by
      have := alH_loop s.data.toList (by omega) h
      rw [hl] at this
      simp only [RT.pick]
      exact this) fun _ => by
      simp only [RT.pick]
      exact closedT rfl rfl (all_cons rfl (all_cons ⟨trivial, rfl, trivial⟩ (all_cons trivial (all_cons trivial all_nil)))) (all_cons ⟨trivial, trivial⟩ (all_cons (rB1_cl _ _) all_nil)) all_nil all_nil)) fun F => ?_
    refine cast (congrArg (VAll _) (oAlhT_eq s F).symm) ⟨⟨?_, (fit_mk (vs' := [bv true]) (H' := []) [] rfl rfl (VW.refl _) trivial).fits rfl⟩⟩
    simp only [Cnd.holds, hl, Nat.blt_eq, true_and, and_true]
    and_intros
    all_goals first
      | exact ow_cells (rowB_map _).symm
      | (rw [rens_rowV]; exact OW.refl _)
      | (with_reducible exact trivial)
      | (with_reducible exact rfl)
      | (with_reducible exact Wk.refl _)
      | (with_reducible exact VW.refl _)
      | (with_reducible exact OW.refl _)
      | (with_reducible exact wk_lit _)
      | (with_reducible assumption)
      | exact rfl
      | exact Wk.refl _
      | exact VW.refl _
      | exact OW.refl _
      | ((repeat (first | exact VW.nil | refine VW.cons (Wk.refl _) ?_ | refine VW.cons (Wk.any _) ?_ | refine VW.cons (wk_cap (Nat.le_refl _)) ?_)); done)
  | false =>
    obtain ⟨i, h1, h2, h3⟩ := first_bad h
    refine tri_run (con := []) (hints := hAt s.data.toList true) (lc := [(fIxF, 2, loopN fIxF 2, lAlx s.data.toList fQh s.size i)]) [] rfl (fun _ _ => noC) (fun F hF => one_l (mkL_ok hF gAl_ro (fun _ _ => by
      have := alH_loopx s.data.toList (by omega) i h1 h2 h3
      rw [hl] at this
      simp only [RT.pick]
      exact this) fun _ => by
      simp only [RT.pick]
      exact closedT rfl rfl (all_cons rfl (all_cons ⟨trivial, rfl, trivial⟩ (all_cons trivial (all_cons trivial all_nil)))) (all_cons ⟨trivial, trivial⟩ (all_cons (rB1_cl _ _) all_nil)) (all_cons trivial all_nil) all_nil)) fun F => ?_
    refine cast (congrArg (VAll _) (oAlhF_eq s i F).symm) ⟨⟨?_, (fit_mk (vs' := [bv false]) (H' := []) [] rfl rfl (VW.refl _) trivial).fits rfl⟩⟩
    have e3 := ge0 i
    simp only [Cnd.holds, hl, e3, Nat.blt_eq, true_and, and_true]
    and_intros
    all_goals first
      | exact ow_cells (rowB_map _).symm
      | (rw [rens_rowV]; exact OW.refl _)
      | (with_reducible exact trivial)
      | (with_reducible exact rfl)
      | (with_reducible exact Wk.refl _)
      | (with_reducible exact VW.refl _)
      | (with_reducible exact OW.refl _)
      | (with_reducible exact wk_lit _)
      | (with_reducible assumption)
      | exact rfl
      | exact Wk.refl _
      | exact VW.refl _
      | exact OW.refl _
      | ((repeat (first | exact VW.nil | refine VW.cons (Wk.refl _) ?_ | refine VW.cons (Wk.any _) ?_ | refine VW.cons (wk_cap (Nat.le_refl _)) ?_)); done)
def qOf (k : Nat) : Option (UInt8 → Bool) := if k = fQl then some qL else if k = fQd then some qD else if k = fQs then some qS else if k = fQn then some qN else if k = fQh then some qH else none
def qIn (k : Nat) (s : ByteArray) : Bool := match qOf k with
  | some q => s.data.toList.all q
  | none => false
def Five (k : Nat) : Prop := k = fQl ∨ k = fQd ∨ k = fQs ∨ k = fQn ∨ k = fQh
def gAq : List AV → Option (ByteArray × Nat)
  | [.v (.string s), .v (.func (.func k) ⟨[]⟩ ⟨[]⟩)] => some (s, k)
  | _ => none
theorem gAq_spec (A : List AV) (p : ByteArray × Nat) (h : gAq A = some p) : A = vmap [.string p.1, .func (.func p.2) #[] #[]] := by
  unfold gAq at h
  split at h
  · cases h; rfl
  · cases h
noncomputable def cAll : List AV → Option (AP AV) := vC gAq (fun p => Five p.2 ∧ p.1.size ≤ 4000000) (fun p => bv (qIn p.2 p.1))
theorem cAll_ok {W : World} {F : HP} (hF : OldOK W F) : C1OK Tryz.prog F fAll cAll :=
  vC_ok hF (fun p => [.string p.1, .func (.func p.2) #[] #[]]) (fun p => .bool (qIn p.2 p.1)) gAq_spec (fun p N => vr_v N _) fun p hp w hw => by
    obtain ⟨s, k⟩ := p
    obtain ⟨h1, h2⟩ := hp
    have nw : Stays default w := fun b o h => by cases h
    rcases h1 with rfl | rfl | rfl | rfl | rfl
    · exact tri_calls (allL_tri s h2) nw
    · exact tri_calls (allD_tri s h2) nw
    · exact tri_calls (allS_tri s h2) nw
    · exact tri_calls (allN_tri s h2) nw
    · exact tri_calls (allH_tri s h2) nw
end Go.Proofs.YtpijbbobejeemaaGreatDoor.Htp

/- Http: get, head: runs. -/
set_option linter.unusedVariables false
set_option linter.unusedSimpArgs false
set_option maxRecDepth 100000
namespace Go.Proofs.YtpijbbobejeemaaGreatDoor.Htp
open Go Go.RowKit Go.Proofs.YtpijbbobejeemaaGreatDoor.Eng Go.Proofs.YtpijbbobejeemaaGreatDoor.Kit
noncomputable section
abbrev Hds : Type := List (ByteArray × ByteArray)
def encP (p : ByteArray × ByteArray) : List Value := [.string p.1, .string p.2]
abbrev tPr : TypeId := 2 * 39
def rP (L : Hds) : AO := .cells (rowV encP L) tPr
def sP (i n : Nat) : AV := .slice i 0 n 2 (.lo n)
def nilP : AV := .v (.slice none 0 0)
def rqV (m t : ByteArray) (h b : AV) : AV := .agg [sv m, sv t, h, b]
abbrev fHead : Nat := 25
abbrev tPar : TypeId := 2 * 61
/-! get -/
def aGt (name : ByteArray) (n i : Nat) : List (Nat × AV) := [(1, sv name), (9, sP 0 n), (10, iv (Int.ofNat n)), (11, iv (Int.ofNat i))]
def hGt (k v : ByteArray) (i : Nat) (b : Bool) : ClaimT := hintL [(fGet, 2, 0, hv (.lit true)), (fGet, 3, 1, hv (.agg [sv k, sv v])), (fGet, 4, 3, hv (.lit b)), (fGet, 6, 0, hv (iv (Int.ofNat (i + 1))))]
theorem oGtH_eq (L : Hds) (name k v : ByteArray) (n i : Nat) (F : HP) : wLoop [] (hGt k v i true) [] default fGet (loopN fGet 2) (tms 0 22 (aGt name n i)) [(0, rP L)] [0] [1, 9, 10, 11, 4, 5] F = VT.leaf (AX.ret, [AV.v (Value.string name), AV.slice 0 0 n 2 (Cp.lo n), AV.v (Value.int IntKind.i64 (Int.ofNat n)), AV.v (Value.int IntKind.i64 (Int.ofNat i)), AV.v (Value.string v), AV.v (Value.bool true)], 22) [some (AO.cells (rowV encP L) 78)] 1101 (((Cnd.p (Wk (AV.v (Value.bool (decide (Int.ofNat i < Int.ofNat n)))) (AV.lit true))).a Cnd.t).a (((Cnd.p (i.blt n = true)).a Cnd.t).a (((Cnd.p ((List.take 2 (List.drop (0 + i * 2) (rowV encP L))).length.beq 2 = true)).a ((Cnd.p (List.take 2 (List.drop (0 + i * 2) (rowV encP L)) = [AV.v (Value.string ((List.take 2 (List.drop (0 + i * 2) (rowV encP L))).getD 0 (AV.undef)).strOf), AV.v (Value.string ((List.take 2 (List.drop (0 + i * 2) (rowV encP L))).getD 1 (AV.undef)).strOf)])).a ((Cnd.p (Wk (AV.agg [AV.v (Value.string ((List.take 2 (List.drop (0 + i * 2) (rowV encP L))).getD 0 (AV.undef)).strOf), AV.v (Value.string ((List.take 2 (List.drop (0 + i * 2) (rowV encP L))).getD 1 (AV.undef)).strOf)]) (AV.agg [AV.v (Value.string k), AV.v (Value.string v)]))).a Cnd.t))).a (((Cnd.p (true = true)).a Cnd.t).a (((Cnd.p (true = true)).a ((Cnd.p (AV.v (Value.string k) = AV.v (Value.string k))).a Cnd.t)).a (((Cnd.p (Wk (AV.v (Value.bool (k.toList == name.toList))) (AV.lit true))).a Cnd.t).a (((Cnd.p (true = true)).a ((Cnd.p (AV.v (Value.string v) = AV.v (Value.string v))).a Cnd.t)).a Cnd.t))))))) := by kernel_rfl
theorem oGtN_eq (L : Hds) (name k v : ByteArray) (n i : Nat) (F : HP) : wLoop [] (hGt k v i false) [] default fGet (loopN fGet 2) (tms 0 22 (aGt name n i)) [(0, rP L)] [0] [1, 9, 10, 11, 4, 5] F = VT.leaf (AX.normal, [AV.v (Value.string name), AV.slice 0 0 n 2 (Cp.lo n), AV.v (Value.int IntKind.i64 (Int.ofNat n)), AV.v (Value.int IntKind.i64 (Int.ofNat (i + 1))), AV.any, AV.any], 22) [some (AO.cells (rowV encP L) 78)] 1101 (((Cnd.p (Wk (AV.v (Value.bool (decide (Int.ofNat i < Int.ofNat n)))) (AV.lit true))).a Cnd.t).a (((Cnd.p (i.blt n = true)).a Cnd.t).a (((Cnd.p ((List.take 2 (List.drop (0 + i * 2) (rowV encP L))).length.beq 2 = true)).a ((Cnd.p (List.take 2 (List.drop (0 + i * 2) (rowV encP L)) = [AV.v (Value.string ((List.take 2 (List.drop (0 + i * 2) (rowV encP L))).getD 0 (AV.undef)).strOf), AV.v (Value.string ((List.take 2 (List.drop (0 + i * 2) (rowV encP L))).getD 1 (AV.undef)).strOf)])).a ((Cnd.p (Wk (AV.agg [AV.v (Value.string ((List.take 2 (List.drop (0 + i * 2) (rowV encP L))).getD 0 (AV.undef)).strOf), AV.v (Value.string ((List.take 2 (List.drop (0 + i * 2) (rowV encP L))).getD 1 (AV.undef)).strOf)]) (AV.agg [AV.v (Value.string k), AV.v (Value.string v)]))).a Cnd.t))).a (((Cnd.p (true = true)).a Cnd.t).a (((Cnd.p (true = true)).a ((Cnd.p (AV.v (Value.string k) = AV.v (Value.string k))).a Cnd.t)).a (((Cnd.p (Wk (AV.v (Value.bool (k.toList == name.toList))) (AV.lit false))).a Cnd.t).a (((Cnd.p (Wk (AV.v (Value.int IntKind.i64 (IntKind.i64.wrap (Int.ofNat i + Int.ofNat 1)))) (AV.v (Value.int IntKind.i64 (Int.ofNat (i + 1)))))).a Cnd.t).a Cnd.t))))))) := by kernel_rfl
theorem oGtE_eq (L : Hds) (name : ByteArray) (n : Nat) (F : HP) : wLoop [] (hintL [(fGet, 2, 0, hv (.lit false))]) [] default fGet (loopN fGet 2) (tms 0 22 (aGt name n n)) [(0, rP L)] [0] [1, 9, 10, 11, 4, 5] F = VT.leaf (AX.exit 0, [AV.v (Value.string name), AV.slice 0 0 n 2 (Cp.lo n), AV.v (Value.int IntKind.i64 (Int.ofNat n)), AV.v (Value.int IntKind.i64 (Int.ofNat n)), AV.any, AV.any], 22) [some (AO.cells (rowV encP L) 78)] 1100 (((Cnd.p (Wk (AV.v (Value.bool (decide (Int.ofNat n < Int.ofNat n)))) (AV.lit false))).a Cnd.t).a Cnd.t) := by kernel_rfl
def gG0 : List AV → AP Unit := fun _ => .ret ()
def lGt (L : Hds) (name : ByteArray) (n : Nat) : List AV → AP (AX × List AV) := mkL gG0 (fun _ => True) (fun _ k => k) (fun _ => tms 0 22 (aGt name n 0)) (fun _ => [(0, rP L)]) (fun _ => .leaf (.exit 0) (tms 0 22 []) [(0, rP L)])
def lGtx (L : Hds) (name v : ByteArray) (n : Nat) : List AV → AP (AX × List AV) := mkL gG0 (fun _ => True) (fun _ k => k) (fun _ => tms 0 22 (aGt name n 0)) (fun _ => [(0, rP L)]) (fun _ => .leaf .ret (tms 0 22 [(4, sv v), (5, bv true)]) [(0, rP L)])
theorem oGtT_eq (L : Hds) (m t name : ByteArray) (n : Nat) (F : HP) : wRun [] noHints [(fGet, 2, loopN fGet 2, lGt L name n)] default fGet [rqV m t (sP 0 n) nilB, sv name] [(0, rP L)] [0] F = VT.leaf (AV.tuple [AV.v (Value.string (ByteArray.mk (Array.mk []))), AV.v (Value.bool false)]) [some (AO.cells (AV.rens (sgN (fun k => k) [] 0) (rowV encP L)) 78)] 1101 (((Cnd.p (true = true)).a Cnd.t).a ((Cnd.p ((fGet, 2, loopN fGet 2, lGt L name n).snd.snd.fst = (fGet, 2, loopN fGet 2, lGt L name n).snd.snd.fst)).a ((Cnd.p True).a ((Cnd.p (VW [AV.agg [AV.v (Value.string m), AV.v (Value.string t), AV.slice 0 0 n 2 (Cp.lo n), AV.v (Value.slice none 0 0)], AV.v (Value.string name), AV.ptr 1100 0, AV.undef, AV.v (Value.string (ByteArray.mk (Array.mk []))), AV.v (Value.bool false), AV.undef, AV.undef, AV.ptr 1100 2, AV.slice 0 0 n 2 (Cp.lo n), AV.v (Value.int IntKind.i64 ↑n), AV.v (Value.int IntKind.i64 (Int.ofNat 0)), AV.undef, AV.undef, AV.undef, AV.undef, AV.undef, AV.undef, AV.undef, AV.undef, AV.undef, AV.undef] [AV.any, AV.v (Value.string name), AV.any, AV.any, AV.any, AV.any, AV.any, AV.any, AV.any, AV.slice 0 0 n 2 (Cp.lo n), AV.v (Value.int IntKind.i64 (Int.ofNat n)), AV.v (Value.int IntKind.i64 (Int.ofNat 0)), AV.any, AV.any, AV.any, AV.any, AV.any, AV.any, AV.any, AV.any, AV.any, AV.any])).a ((Cnd.p (OW (AO.cells (rowV encP L) 78) (AO.cells (AV.rens (fun k => k) (rowV encP L)) 78))).a Cnd.t))))) := by kernel_rfl
theorem oGtX_eq (L : Hds) (m t name v : ByteArray) (n : Nat) (F : HP) : wRun [] noHints [(fGet, 2, loopN fGet 2, lGtx L name v n)] default fGet [rqV m t (sP 0 n) nilB, sv name] [(0, rP L)] [0] F = VT.leaf (AV.tuple [AV.v (Value.string v), AV.v (Value.bool true)]) [some (AO.cells (AV.rens (sgN (fun k => k) [] 0) (rowV encP L)) 78)] 1101 (((Cnd.p (true = true)).a Cnd.t).a ((Cnd.p ((fGet, 2, loopN fGet 2, lGtx L name v n).snd.snd.fst = (fGet, 2, loopN fGet 2, lGtx L name v n).snd.snd.fst)).a ((Cnd.p True).a ((Cnd.p (VW [AV.agg [AV.v (Value.string m), AV.v (Value.string t), AV.slice 0 0 n 2 (Cp.lo n), AV.v (Value.slice none 0 0)], AV.v (Value.string name), AV.ptr 1100 0, AV.undef, AV.v (Value.string (ByteArray.mk (Array.mk []))), AV.v (Value.bool false), AV.undef, AV.undef, AV.ptr 1100 2, AV.slice 0 0 n 2 (Cp.lo n), AV.v (Value.int IntKind.i64 ↑n), AV.v (Value.int IntKind.i64 (Int.ofNat 0)), AV.undef, AV.undef, AV.undef, AV.undef, AV.undef, AV.undef, AV.undef, AV.undef, AV.undef, AV.undef] [AV.any, AV.v (Value.string name), AV.any, AV.any, AV.any, AV.any, AV.any, AV.any, AV.any, AV.slice 0 0 n 2 (Cp.lo n), AV.v (Value.int IntKind.i64 (Int.ofNat n)), AV.v (Value.int IntKind.i64 (Int.ofNat 0)), AV.any, AV.any, AV.any, AV.any, AV.any, AV.any, AV.any, AV.any, AV.any, AV.any])).a ((Cnd.p (OW (AO.cells (rowV encP L) 78) (AO.cells (AV.rens (fun k => k) (rowV encP L)) 78))).a Cnd.t))))) := by kernel_rfl
theorem oGtZ_eq (m t name : ByteArray) (F : HP) : wRun [] (hintL [(fGet, 2, 0, hv (.lit false))]) [] default fGet [rqV m t nilP nilB, sv name] [] [] F = VT.leaf (AV.tuple [AV.v (Value.string (ByteArray.mk (Array.mk []))), AV.v (Value.bool false)]) [] 1101 (((Cnd.p (true = true)).a Cnd.t).a (((Cnd.p (Wk (AV.v (Value.bool false)) (AV.lit false))).a Cnd.t).a Cnd.t)) := by kernel_rfl
/-! head -/
def pO (i off n : Nat) : AO := .cells [.slice i off n 1 (.lo n)] tPar
def pZ : AO := .cells [nilB] tPar
theorem oHdP_eq (L w : List UInt8) (off n : Nat) (F : HP) : wRun [(fBPre, cBPre w crlf)] (hintL [(fHead, 1, 6, hv (.lit true))]) [] default fHead [.ptr 0 0] [(0, pO 1 off n), (1, rB1 L)] [0, 1] F = VT.leaf (AV.v (Value.int IntKind.i64 (Int.ofNat 2))) [some (AO.cells [AV.slice 1 off n 1 (Cp.lo n)] 122), some (AO.cells (rowV encB L) 11)] 1101 (((Cnd.p (true = true)).a Cnd.t).a (((Cnd.p ((1 = 1 ∧ 1 = 1) ∧ (List.take n (List.drop off (rowV encB L)) = rowV encB w ∧ w.length = n) ∧ [AV.v (Value.int IntKind.u8 (Int.ofNat 13)), AV.v (Value.int IntKind.u8 (Int.ofNat 10))] = [AV.v (Value.int IntKind.u8 (Int.ofNat 13)), AV.v (Value.int IntKind.u8 (Int.ofNat 10))] ∧ 2 = 2)).a ((Cnd.p (Wk (AV.v (Value.bool (Lib.hasPrefix w [13, 10]))) (AV.lit true))).a Cnd.t)).a Cnd.t)) := by kernel_rfl
theorem oHdN_eq (W : World) (L w : List UInt8) (off n : Nat) (x : Int) (F : HP) : wRun [(fBPre, cBPre w crlf), (fBIndex, cBIdx w crlf2)] (hintL [(fHead, 1, 6, hv (.lit false)), (fHead, 3, 7, hv (iv x))]) [] W fHead [.ptr 0 0] [(0, pO 1 off n), (1, rB1 L)] [0, 1] F = VT.leaf (AV.v (Value.int IntKind.i64 x)) [some (AO.cells [AV.slice 1 off n 1 (Cp.lo n)] 122), some (AO.cells (rowV encB L) 11)] 1102 (((Cnd.p (true = true)).a Cnd.t).a (((Cnd.p ((1 = 1 ∧ 1 = 1) ∧ (List.take n (List.drop off (rowV encB L)) = rowV encB w ∧ w.length = n) ∧ [AV.v (Value.int IntKind.u8 (Int.ofNat 13)), AV.v (Value.int IntKind.u8 (Int.ofNat 10))] = [AV.v (Value.int IntKind.u8 (Int.ofNat 13)), AV.v (Value.int IntKind.u8 (Int.ofNat 10))] ∧ 2 = 2)).a ((Cnd.p (Wk (AV.v (Value.bool (Lib.hasPrefix w [13, 10]))) (AV.lit false))).a Cnd.t)).a (((Cnd.p (true = true)).a Cnd.t).a (((Cnd.p ((1 = 1 ∧ 1 = 1) ∧ (List.take n (List.drop off (rowV encB L)) = rowV encB w ∧ w.length = n) ∧ [AV.v (Value.int IntKind.u8 (Int.ofNat 13)), AV.v (Value.int IntKind.u8 (Int.ofNat 10)), AV.v (Value.int IntKind.u8 (Int.ofNat 13)), AV.v (Value.int IntKind.u8 (Int.ofNat 10))] = [AV.v (Value.int IntKind.u8 (Int.ofNat 13)), AV.v (Value.int IntKind.u8 (Int.ofNat 10)), AV.v (Value.int IntKind.u8 (Int.ofNat 13)), AV.v (Value.int IntKind.u8 (Int.ofNat 10))] ∧ 4 = 4)).a Cnd.t).a (((Cnd.p (Wk (AV.v (Value.int IntKind.i64 (IntKind.i64.wrap (Lib.index w [13, 10, 13, 10] + Int.ofNat 4)))) (AV.v (Value.int IntKind.i64 x)))).a Cnd.t).a Cnd.t))))) := by kernel_rfl
theorem oHdZ_eq (F : HP) : wRun [(fBPre, cBPre0 crlf), (fBIndex, cBIdx0 crlf2)] (hintL [(fHead, 1, 6, hv (.lit false)), (fHead, 3, 7, hv (iv 3))]) [] default fHead [.ptr 0 0] [(0, pZ)] [0] F = VT.leaf (AV.v (Value.int IntKind.i64 (Int.ofNat 3))) [some (AO.cells [AV.v (Value.slice none 0 0)] 122)] 1102 (((Cnd.p (true = true)).a Cnd.t).a (((Cnd.p (1 = 1 ∧ [AV.v (Value.int IntKind.u8 (Int.ofNat 13)), AV.v (Value.int IntKind.u8 (Int.ofNat 10))] = [AV.v (Value.int IntKind.u8 (Int.ofNat 13)), AV.v (Value.int IntKind.u8 (Int.ofNat 10))] ∧ 2 = 2)).a ((Cnd.p (Wk (AV.v (Value.bool false)) (AV.lit false))).a Cnd.t)).a (((Cnd.p (true = true)).a Cnd.t).a (((Cnd.p (1 = 1 ∧ [AV.v (Value.int IntKind.u8 (Int.ofNat 13)), AV.v (Value.int IntKind.u8 (Int.ofNat 10)), AV.v (Value.int IntKind.u8 (Int.ofNat 13)), AV.v (Value.int IntKind.u8 (Int.ofNat 10))] = [AV.v (Value.int IntKind.u8 (Int.ofNat 13)), AV.v (Value.int IntKind.u8 (Int.ofNat 10)), AV.v (Value.int IntKind.u8 (Int.ofNat 13)), AV.v (Value.int IntKind.u8 (Int.ofNat 10))] ∧ 4 = 4)).a Cnd.t).a (((Cnd.p (Wk (AV.v (Value.int IntKind.i64 (Int.ofNat 3))) (AV.v (Value.int IntKind.i64 (Int.ofNat 3))))).a Cnd.t).a Cnd.t))))) := by kernel_rfl
end
end Go.Proofs.YtpijbbobejeemaaGreatDoor.Htp

/- Http: get, head. -/
set_option linter.unusedVariables false
set_option linter.unusedSimpArgs false
set_option maxRecDepth 100000
namespace Go.Proofs.YtpijbbobejeemaaGreatDoor.Htp
open Go Go.RowKit Go.Proofs.YtpijbbobejeemaaGreatDoor.Eng Go.Proofs.YtpijbbobejeemaaGreatDoor.Kit
def pr0 : ByteArray × ByteArray := (nil0, nil0)
theorem encP_len (x : ByteArray × ByteArray) : (encP x).length = 2 := rfl
theorem rP_len (M : Hds) : (rowV encP M).length = M.length * 2 := rowV_length (k := 2) encP_len M
theorem rP_ren (σ : Nat → Nat) (L : Hds) : (rP L).ren σ = rP L := by simp only [rP, AO.ren, rens_rowV]
theorem rP_ow {x : List AV} {L : Hds} {e : TypeId} {σ : Nat → Nat} (h : x = rowV encP L) (he : e = tPr) : OW (.cells x e) ((rP L).ren σ) := by rw [rP_ren]; subst h he; exact OW.refl _
theorem rP_cl (K : Nat → Bool) (L : Hds) : (rP L).cl K := cls_rowV _ _
theorem rP_at (L : Hds) (i : Nat) (hi : i < L.length) : List.take 2 (List.drop (0 + i * 2) (rowV encP L)) = vmap (encP (L.getD i pr0)) := by
  have := rowO_at encP_len [] L pr0 i hi
  simpa using this
theorem rP_in (L : Hds) (i : Nat) (hi : i < L.length) : (0 + i * 2 + 2).ble (rowV encP L).length = true := by rw [rP_len, Nat.ble_eq]; omega
theorem rP_lt (L : Hds) (i : Nat) (hi : i < L.length) : (0 + i * 2).blt (rowV encP L).length = true := by rw [rP_len, Nat.blt_eq]; omega
def getP (L : Hds) (name : ByteArray) : Option ByteArray := match L with
  | [] => none
  | p :: r => if p.1 = name then some p.2 else getP r name
theorem getP_none {name : ByteArray} : ∀ {L : Hds}, getP L name = none → ∀ i, i < L.length → (L.getD i pr0).1 ≠ name
  | [], _, i, hi => absurd hi (Nat.not_lt_zero _)
  | p :: r, h, i, hi => by
    unfold getP at h
    split at h
    · cases h
    · rename_i hp
      cases i with
      | zero => exact hp
      | succ i => exact getP_none h i (by simpa using hi)
theorem getP_some {name v : ByteArray} : ∀ {L : Hds}, getP L name = some v → ∃ i, i < L.length ∧ L.getD i pr0 = (name, v) ∧ ∀ j, j < i → (L.getD j pr0).1 ≠ name
  | [], h => by cases h
  | p :: r, h => by
    unfold getP at h
    split at h
    · rename_i hp
      refine ⟨0, by simp, ?_, fun j hj => absurd hj (Nat.not_lt_zero _)⟩
      cases h
      obtain ⟨a, b⟩ := p
      simp only at hp
      subst hp
      rfl
    · rename_i hp
      obtain ⟨i, h1, h2, h3⟩ := getP_some h
      refine ⟨i + 1, by simp; omega, h2, fun j hj => ?_⟩
      cases j with
      | zero => exact hp
      | succ j => exact h3 j (by omega)
theorem gt_loop (L : Hds) (name : ByteArray) (hL : L.length ≤ 4000000) (h : getP L name = none) :
    LTri Tryz.prog default (loopN fGet 2) (tms 0 22 (aGt name L.length 0)) [(0, rP L)] (.exit 0) (tms 0 22 []) [(0, rP L)] := by
  refine ltri_run (W := default) (g := fGet) (b := loopN fGet 2) (σ := {i : Nat // i ≤ L.length}) 22 (fun i => aGt name L.length i.1) (fun _ => [(0, rP L)]) (.exit 0) [] [(0, rP L)] (fun i => L.length - i.1) [0] [1, 9, 10, 11, 4, 5] (by intro h; cases h) (fun _ => rfl) rfl ?_ ⟨0, Nat.zero_le _⟩
  rintro ⟨i, hi⟩
  simp only
  by_cases h1 : i < L.length
  · have g0 := rP_at L i h1
    have g1 := rP_lt L i h1
    have g2 := rP_in L i h1
    have e1 := ltTN h1
    have hw := wrap_succ i (by omega)
    have hne := getP_none h i h1
    generalize L.getD i pr0 = p at *
    obtain ⟨k, v⟩ := p
    simp only at hne
    have hb : (k.toList == name.toList) = false := by rw [ba_eq]; exact decide_eq_false hne
    refine ⟨[], hGt k v i false, [], fun F hF => noC, fun _ _ => noL, fun F => ?_⟩
    refine cast (congrArg (VAll _) (oGtN_eq L name k v L.length i F).symm) ⟨⟨?_, rfl, .inl ⟨rfl, ⟨i + 1, h1⟩, sub_down h1, [], rfl, rfl, ⟨Wk.refl _, Wk.refl _, Wk.refl _, Wk.refl _, trivial⟩, ⟨_, rfl, rP_ow rfl rfl⟩, trivial⟩⟩⟩
    simp only [Cnd.holds, g0, g1, g2, e1, h1, hb, hne, sv, AV.strOf, encP, Nat.blt_eq, true_and, and_true]
    and_intros
    all_goals first
      | (with_reducible exact wk_int hw)
      | (with_reducible exact trivial)
      | (with_reducible exact rfl)
      | (with_reducible exact Wk.refl _)
      | (with_reducible exact VW.refl _)
      | (with_reducible exact OW.refl _)
      | (with_reducible exact wk_lit _)
      | (with_reducible assumption)
      | exact rfl
      | exact Wk.refl _
      | exact VW.refl _
      | exact OW.refl _
      | ((repeat (first | exact VW.nil | refine VW.cons (Wk.refl _) ?_ | refine VW.cons (Wk.any _) ?_ | refine VW.cons (wk_cap (Nat.le_refl _)) ?_)); done)
  · have hke : i = L.length := by omega
    subst hke
    refine ⟨[], hintL [(fGet, 2, 0, hv (.lit false))], [], fun _ _ => noC, fun _ _ => noL, fun F => ?_⟩
    refine cast (congrArg (VAll _) (oGtE_eq L name L.length F).symm) ⟨⟨?_, rfl, .inr ⟨rfl, [], rfl, rfl, trivial, ⟨_, rfl, rP_ow rfl rfl⟩, trivial⟩⟩⟩
    simp only [Cnd.holds, and_true]
    exact wk_litE (ltFN (Nat.le_refl _))
theorem gtx_loop (L : Hds) (name v : ByteArray) (hL : L.length ≤ 4000000) (h : getP L name = some v) :
    LTri Tryz.prog default (loopN fGet 2) (tms 0 22 (aGt name L.length 0)) [(0, rP L)] .ret (tms 0 22 [(4, sv v), (5, bv true)]) [(0, rP L)] := by
  obtain ⟨q, hq, hv, hgood⟩ := getP_some h
  refine ltri_run (W := default) (g := fGet) (b := loopN fGet 2) (σ := {i : Nat // i ≤ q}) 22 (fun i => aGt name L.length i.1) (fun _ => [(0, rP L)]) .ret [(4, sv v), (5, bv true)] [(0, rP L)] (fun i => L.length - i.1) [0] [1, 9, 10, 11, 4, 5] (by intro h; cases h) (fun _ => rfl) rfl ?_ ⟨0, Nat.zero_le _⟩
  rintro ⟨i, hi⟩
  simp only
  have h1 : i < L.length := by omega
  have g0 := rP_at L i h1
  have g1 := rP_lt L i h1
  have g2 := rP_in L i h1
  have e1 := ltTN h1
  have hw := wrap_succ i (by omega)
  by_cases h2 : i < q
  · have hne := hgood i h2
    generalize L.getD i pr0 = p at *
    obtain ⟨k, v'⟩ := p
    simp only at hne
    have hb : (k.toList == name.toList) = false := by rw [ba_eq]; exact decide_eq_false hne
    refine ⟨[], hGt k v' i false, [], fun F hF => noC, fun _ _ => noL, fun F => ?_⟩
    refine cast (congrArg (VAll _) (oGtN_eq L name k v' L.length i F).symm) ⟨⟨?_, rfl, .inl ⟨rfl, ⟨i + 1, h2⟩, sub_down h1, [], rfl, rfl, ⟨Wk.refl _, Wk.refl _, Wk.refl _, Wk.refl _, trivial⟩, ⟨_, rfl, rP_ow rfl rfl⟩, trivial⟩⟩⟩
    simp only [Cnd.holds, g0, g1, g2, e1, h1, hb, hne, sv, AV.strOf, encP, Nat.blt_eq, true_and, and_true]
    and_intros
    all_goals first
      | (with_reducible exact wk_int hw)
      | (with_reducible exact trivial)
      | (with_reducible exact rfl)
      | (with_reducible exact Wk.refl _)
      | (with_reducible exact VW.refl _)
      | (with_reducible exact OW.refl _)
      | (with_reducible exact wk_lit _)
      | (with_reducible assumption)
      | exact rfl
      | exact Wk.refl _
      | exact VW.refl _
      | exact OW.refl _
      | ((repeat (first | exact VW.nil | refine VW.cons (Wk.refl _) ?_ | refine VW.cons (Wk.any _) ?_ | refine VW.cons (wk_cap (Nat.le_refl _)) ?_)); done)
  · have hke : i = q := by omega
    subst hke
    rw [hv] at g0
    have hb : (name.toList == name.toList) = true := by rw [ba_eq]; exact decide_eq_true rfl
    refine ⟨[], hGt name v i true, [], fun F hF => noC, fun _ _ => noL, fun F => ?_⟩
    refine cast (congrArg (VAll _) (oGtH_eq L name name v L.length i F).symm) ⟨⟨?_, rfl, .inr ⟨rfl, [], rfl, rfl, ⟨Wk.refl _, Wk.refl _, trivial⟩, ⟨_, rfl, rP_ow rfl rfl⟩, trivial⟩⟩⟩
    simp only [Cnd.holds, g0, g1, g2, e1, h1, hb, sv, AV.strOf, encP, Nat.blt_eq, true_and, and_true]
    and_intros
    all_goals first
      | (with_reducible exact trivial)
      | (with_reducible exact rfl)
      | (with_reducible exact Wk.refl _)
      | (with_reducible exact VW.refl _)
      | (with_reducible exact OW.refl _)
      | (with_reducible exact wk_lit _)
      | (with_reducible assumption)
      | exact rfl
      | exact Wk.refl _
      | exact VW.refl _
      | exact OW.refl _
      | ((repeat (first | exact VW.nil | refine VW.cons (Wk.refl _) ?_ | refine VW.cons (Wk.any _) ?_ | refine VW.cons (wk_cap (Nat.le_refl _)) ?_)); done)
def gotV : Option ByteArray → AV
  | some v => .tuple [sv v, bv true]
  | none => .tuple [sv nil0, bv false]
theorem gG0_ro : ∀ args, RO (gG0 args) := fun _ => RO.ret _
theorem Get_tri (L : Hds) (m t name : ByteArray) (hL : L.length ≤ 4000000) : Tri Tryz.prog default fGet [rqV m t (sP 0 L.length) nilB, sv name] [(0, rP L)] (gotV (getP L name)) [(0, rP L)] := by
  cases h : getP L name with
  | none =>
    refine tri_run (con := []) (hints := noHints) (lc := [(fGet, 2, loopN fGet 2, lGt L name L.length)]) [0] rfl (fun _ _ => noC) (fun F hF => one_l (mkL_ok hF gG0_ro (fun _ _ => by
      simp only [RT.pick]
      exact gt_loop L name hL h) fun _ => by
      simp only [RT.pick]
      exact closedT rfl rfl (all_cons trivial (all_cons rfl (all_cons trivial (all_cons trivial all_nil)))) (all_cons (rP_cl _ _) all_nil) all_nil (all_cons (rP_cl _ _) all_nil))) fun F => ?_
    refine cast (congrArg (VAll _) (oGtT_eq L m t name L.length F).symm) ⟨⟨?_, (fit_mk (vs' := [gotV none]) (H' := [(0, rP L)]) [] rfl rfl (VW.refl _) ⟨⟨_, rfl, rP_ow (by rw [rens_rowV]) rfl⟩, trivial⟩).fits rfl⟩⟩
    simp only [Cnd.holds, rens_rowV, Nat.blt_eq, true_and, and_true]
    and_intros
    all_goals first
      | (with_reducible exact trivial)
      | (with_reducible exact rfl)
      | (with_reducible exact Wk.refl _)
      | (with_reducible exact VW.refl _)
      | (with_reducible exact OW.refl _)
      | (with_reducible exact wk_lit _)
      | (with_reducible assumption)
      | exact rfl
      | exact Wk.refl _
      | exact VW.refl _
      | exact OW.refl _
      | ((repeat (first | exact VW.nil | refine VW.cons (Wk.refl _) ?_ | refine VW.cons (Wk.any _) ?_ | refine VW.cons (wk_cap (Nat.le_refl _)) ?_)); done)
  | some v =>
    refine tri_run (con := []) (hints := noHints) (lc := [(fGet, 2, loopN fGet 2, lGtx L name v L.length)]) [0] rfl (fun _ _ => noC) (fun F hF => one_l (mkL_ok hF gG0_ro (fun _ _ => by
      simp only [RT.pick]
      exact gtx_loop L name v hL h) fun _ => by
      simp only [RT.pick]
      exact closedT rfl rfl (all_cons trivial (all_cons rfl (all_cons trivial (all_cons trivial all_nil)))) (all_cons (rP_cl _ _) all_nil) (all_cons trivial (all_cons trivial all_nil)) (all_cons (rP_cl _ _) all_nil))) fun F => ?_
    refine cast (congrArg (VAll _) (oGtX_eq L m t name v L.length F).symm) ⟨⟨?_, (fit_mk (vs' := [gotV (some v)]) (H' := [(0, rP L)]) [] rfl rfl (VW.refl _) ⟨⟨_, rfl, rP_ow (by rw [rens_rowV]) rfl⟩, trivial⟩).fits rfl⟩⟩
    simp only [Cnd.holds, rens_rowV, Nat.blt_eq, true_and, and_true]
    and_intros
    all_goals first
      | (with_reducible exact trivial)
      | (with_reducible exact rfl)
      | (with_reducible exact Wk.refl _)
      | (with_reducible exact VW.refl _)
      | (with_reducible exact OW.refl _)
      | (with_reducible exact wk_lit _)
      | (with_reducible assumption)
      | exact rfl
      | exact Wk.refl _
      | exact VW.refl _
      | exact OW.refl _
      | ((repeat (first | exact VW.nil | refine VW.cons (Wk.refl _) ?_ | refine VW.cons (Wk.any _) ?_ | refine VW.cons (wk_cap (Nat.le_refl _)) ?_)); done)
theorem Get0_tri (m t name : ByteArray) : Tri Tryz.prog default fGet [rqV m t nilP nilB, sv name] [] (gotV none) [] := by
  refine tri_run (con := []) (hints := hintL [(fGet, 2, 0, hv (.lit false))]) (lc := []) [] rfl (fun _ _ => noC) (fun F hF => noL) fun F => ?_
  refine cast (congrArg (VAll _) (oGtZ_eq m t name F).symm) ⟨⟨?_, (fit_mk (vs' := [gotV none]) (H' := []) [] rfl rfl (VW.refl _) trivial).fits rfl⟩⟩
  simp only [Cnd.holds, rens_rowV, Nat.blt_eq, true_and, and_true]
  and_intros
  all_goals first
    | (with_reducible exact trivial)
    | (with_reducible exact rfl)
    | (with_reducible exact Wk.refl _)
    | (with_reducible exact VW.refl _)
    | (with_reducible exact OW.refl _)
    | (with_reducible exact wk_lit _)
    | (with_reducible assumption)
    | exact rfl
    | exact Wk.refl _
    | exact VW.refl _
    | exact OW.refl _
    | ((repeat (first | exact VW.nil | refine VW.cons (Wk.refl _) ?_ | refine VW.cons (Wk.any _) ?_ | refine VW.cons (wk_cap (Nat.le_refl _)) ?_)); done)
end Go.Proofs.YtpijbbobejeemaaGreatDoor.Htp

/- Http: head; the parser's state. -/
set_option linter.unusedVariables false
set_option linter.unusedSimpArgs false
set_option maxRecDepth 100000
namespace Go.Proofs.YtpijbbobejeemaaGreatDoor.Htp
open Go Go.RowKit Go.Proofs.YtpijbbobejeemaaGreatDoor.Eng Go.Proofs.YtpijbbobejeemaaGreatDoor.Kit
theorem index_f4 : ∀ l : List UInt8, Lib.index l crlf2 = match f4 l with
    | some k => (k : Int)
    | none => -1
  | [] => by simp [Lib.index, f4, crlf2]
  | b :: l => by
    rw [Lib.index, f4]
    split
    · rfl
    · rw [index_f4 l]
      cases f4 l with
      | none => rfl
      | some k =>
        have hne : ((k : Int) == -1) = false := by
          rw [beq_eq_false_iff_ne]; omega
        simp only [hne, Option.map_some, Bool.false_eq_true, if_false]
        simp
def headZ (w : List UInt8) : Int := match hdN w with
  | some n => (n : Int)
  | none => 3
theorem headZ_pre {w : List UInt8} (h : Lib.hasPrefix w crlf = true) : headZ w = 2 := by
  have h : crlf.isPrefixOf w = true := h
  unfold headZ hdN
  rw [if_pos h]
  rfl
theorem headZ_no {w : List UInt8} (h : Lib.hasPrefix w crlf = false) : headZ w = Lib.index w crlf2 + 4 := by
  have h : crlf.isPrefixOf w = false := h
  unfold headZ hdN
  rw [h, index_f4]
  cases f4 w with
  | none => rfl
  | some k => simp
theorem headZ_in (w : List UInt8) (h : w.length ≤ 4000000) : 2 ≤ headZ w ∧ headZ w ≤ 4000003 := by
  unfold headZ
  cases hn : hdN w with
  | none => simp
  | some n =>
    have := hdN_len hn
    simp only
    omega
theorem rowB_drop (L : List UInt8) (i : Nat) : List.drop i (rowV encB L) = rowV encB (L.drop i) := by
  rw [rowB_map, rowB_map, vmap, vmap, ← List.map_drop, ← List.map_drop]
theorem rowB_take (L : List UInt8) (i : Nat) : List.take i (rowV encB L) = rowV encB (L.take i) := by
  rw [rowB_map, rowB_map, vmap, vmap, ← List.map_take, ← List.map_take]
theorem rowB_wait {L w : List UInt8} {off : Nat} (h : L.drop off = w) : List.take w.length (List.drop off (rowV encB L)) = rowV encB w := by
  rw [rowB_drop, h, rowB_take, List.take_length]
theorem pO_ow {i off n : Nat} {e : TypeId} {σ : Nat → Nat} (hi : σ i = i) (he : e = tPar) : OW (.cells [.slice i off n 1 (.lo n)] e) ((pO i off n).ren σ) := by
  subst he
  simp only [pO, AO.ren, AV.rens, AV.ren, hi]
  exact OW.refl _
theorem Head_tri {W : World} (hW : LW W) (L w : List UInt8) (off : Nat) (hw : L.drop off = w) (hl : w.length ≤ 4000000) : Tri Tryz.prog W fHead [.ptr 0 0] [(0, pO 1 off w.length), (1, rB1 L)] (iv (headZ w)) [(0, pO 1 off w.length), (1, rB1 L)] := by
  have hr := rowB_wait hw
  cases hp : Lib.hasPrefix w crlf with
  | true =>
    have hp' : Lib.hasPrefix w [13, 10] = true := hp
    rw [headZ_pre hp]
    intro W0 F N w0 vargs hF
    refine tri_run (W := default) (con := [(fBPre, cBPre w crlf)]) (hints := hintL [(fHead, 1, 6, hv (.lit true))]) (lc := []) [0, 1] rfl (fun F hF => one_c (cBPre_ok hF _ _)) (fun F hF => noL) (fun F => ?_) W0 F N w0 vargs (OldOK.nothing F)
    refine cast (congrArg (VAll _) (oHdP_eq L w off w.length F).symm) ⟨⟨?_, (fit_mk (vs' := [iv 2]) (H' := [(0, pO 1 off w.length), (1, rB1 L)]) [] rfl rfl (VW.refl _) ⟨⟨_, rfl, pO_ow rfl rfl⟩, ⟨_, rfl, rB1_ow rfl rfl⟩, trivial⟩).fits rfl⟩⟩
    simp only [Cnd.holds, hr, hp', rens_rowV, Nat.blt_eq, true_and, and_true]
    and_intros
    all_goals first
      | (with_reducible exact trivial)
      | (with_reducible exact rfl)
      | (with_reducible exact Wk.refl _)
      | (with_reducible exact VW.refl _)
      | (with_reducible exact OW.refl _)
      | (with_reducible exact wk_lit _)
      | (with_reducible assumption)
      | exact rfl
      | exact Wk.refl _
      | exact VW.refl _
      | exact OW.refl _
      | ((repeat (first | exact VW.nil | refine VW.cons (Wk.refl _) ?_ | refine VW.cons (Wk.any _) ?_ | refine VW.cons (wk_cap (Nat.le_refl _)) ?_)); done)
  | false =>
    have hp' : Lib.hasPrefix w [13, 10] = false := hp
    have hz : IntKind.i64.wrap (Lib.index w [13, 10, 13, 10] + Int.ofNat 4) = headZ w := by
      have h1 := headZ_no hp
      have h2 := headZ_in w hl
      have h3 : Lib.index w [13, 10, 13, 10] + Int.ofNat 4 = headZ w := h1.symm
      rw [h3]
      exact IntWalk.i64_in _ (by omega)
    refine tri_run (con := [(fBPre, cBPre w crlf), (fBIndex, cBIdx w crlf2)]) (hints := hintL [(fHead, 1, 6, hv (.lit false)), (fHead, 3, 7, hv (iv (headZ w)))]) (lc := []) [0, 1] rfl (fun F hF => con_cons (cBPre_ok hF _ _) (one_c (cBIdx_ok hW hF _ _ hl (by decide)))) (fun F hF => noL) fun F => ?_
    refine cast (congrArg (VAll _) (oHdN_eq W L w off w.length (headZ w) F).symm) ⟨⟨?_, (fit_mk (vs' := [iv (headZ w)]) (H' := [(0, pO 1 off w.length), (1, rB1 L)]) [] rfl rfl (VW.refl _) ⟨⟨_, rfl, pO_ow rfl rfl⟩, ⟨_, rfl, rB1_ow rfl rfl⟩, trivial⟩).fits rfl⟩⟩
    simp only [Cnd.holds, hr, hp', rens_rowV, Nat.blt_eq, true_and, and_true]
    and_intros
    all_goals first
      | exact wk_int hz
      | (with_reducible exact trivial)
      | (with_reducible exact rfl)
      | (with_reducible exact Wk.refl _)
      | (with_reducible exact VW.refl _)
      | (with_reducible exact OW.refl _)
      | (with_reducible exact wk_lit _)
      | (with_reducible assumption)
      | exact rfl
      | exact Wk.refl _
      | exact VW.refl _
      | exact OW.refl _
      | ((repeat (first | exact VW.nil | refine VW.cons (Wk.refl _) ?_ | refine VW.cons (Wk.any _) ?_ | refine VW.cons (wk_cap (Nat.le_refl _)) ?_)); done)
theorem pZ_ow {e : TypeId} {σ : Nat → Nat} (he : e = tPar) : OW (.cells [.v (.slice none 0 0)] e) (pZ.ren σ) := by
  subst he
  exact OW.refl _
theorem Head0_tri : Tri Tryz.prog default fHead [.ptr 0 0] [(0, pZ)] (iv 3) [(0, pZ)] := by
  refine tri_run (con := [(fBPre, cBPre0 crlf), (fBIndex, cBIdx0 crlf2)]) (hints := hintL [(fHead, 1, 6, hv (.lit false)), (fHead, 3, 7, hv (iv 3))]) (lc := []) [0] rfl (fun F hF => con_cons (cBPre0_ok hF _) (one_c (cBIdx0_ok hF _ (by decide) (by decide)))) (fun F hF => noL) fun F => ?_
  refine cast (congrArg (VAll _) (oHdZ_eq F).symm) ⟨⟨?_, (fit_mk (vs' := [iv 3]) (H' := [(0, pZ)]) [] rfl rfl (VW.refl _) ⟨⟨_, rfl, pZ_ow rfl⟩, trivial⟩).fits rfl⟩⟩
  have e1 : Lib.hasPrefix [] [13, 10] = false := rfl
  simp only [Cnd.holds, e1, rens_rowV, Nat.blt_eq, true_and, and_true]
  and_intros
  all_goals first
    | (with_reducible exact trivial)
    | (with_reducible exact rfl)
    | (with_reducible exact Wk.refl _)
    | (with_reducible exact VW.refl _)
    | (with_reducible exact OW.refl _)
    | (with_reducible exact wk_lit _)
    | (with_reducible assumption)
    | exact rfl
    | exact Wk.refl _
    | exact VW.refl _
    | exact OW.refl _
    | ((repeat (first | exact VW.nil | refine VW.cons (Wk.refl _) ?_ | refine VW.cons (Wk.any _) ?_ | refine VW.cons (wk_cap (Nat.le_refl _)) ?_)); done)
end Go.Proofs.YtpijbbobejeemaaGreatDoor.Htp

/- Http: what a head's lines tell. No program's step. -/
set_option linter.unusedVariables false
set_option linter.unusedSimpArgs false
set_option maxRecDepth 100000
namespace Go.Proofs.YtpijbbobejeemaaGreatDoor.Htp
open Go Go.RowKit Go.Proofs.YtpijbbobejeemaaGreatDoor.Eng Go.Proofs.YtpijbbobejeemaaGreatDoor.Kit
def spB : ByteArray := ⟨#[32]⟩
def slB : ByteArray := ⟨#[47]⟩
def coB : ByteArray := ⟨#[58]⟩
def verB : ByteArray := ⟨#[72, 84, 84, 80, 47, 49, 46, 49]⟩
def wsB : ByteArray := ⟨#[32, 9]⟩
def teB : ByteArray := ⟨#[116, 114, 97, 110, 115, 102, 101, 114, 45, 101, 110, 99, 111, 100, 105, 110, 103]⟩
def clB : ByteArray := ⟨#[99, 111, 110, 116, 101, 110, 116, 45, 108, 101, 110, 103, 116, 104]⟩
def crB : ByteArray := ⟨#[13, 10]⟩
def crB2 : ByteArray := ⟨#[13, 10, 13, 10]⟩
theorem splitB_sizes (t : ByteArray) : ∀ (k : Nat) (s x : ByteArray), x ∈ Lib.splitB t 0 k s → x.size ≤ s.size
  | 0, s, x, h => by
    rw [Lib.splitB_zero] at h
    rw [List.mem_singleton.1 h]; exact Nat.le_refl _
  | k + 1, s, x, h => by
    unfold Lib.splitB at h
    split at h
    · rw [List.mem_singleton.1 h]; exact Nat.le_refl _
    · rcases List.mem_cons.1 h with rfl | h
      · rw [ByteArray.size_extract]; omega
      · have := splitB_sizes t k _ x h
        rw [ByteArray.size_extract] at this
        omega
theorem splB_size {s t x : ByteArray} (h : x ∈ splB s t) : x.size ≤ s.size := splitB_sizes t _ s x h
theorem splB_len (s t : ByteArray) (h : 1 ≤ t.size) : (splB s t).length ≤ s.size + 1 := by
  unfold splB
  rw [Lib.splitB_all t h 0 _ s rfl]
  have := Lib.countB_le t h s.size s (Nat.le_refl _)
  omega
theorem sufB_size (s t : ByteArray) : (sufB s t).size ≤ s.size := by
  unfold sufB Lib.trimSuffix
  rw [tB_size]
  split
  · rw [List.length_take]; exact Nat.le_trans (Nat.min_le_right _ _) (Nat.le_refl _)
  · exact Nat.le_refl _
def lnW (a b c : ByteArray) : Option (ByteArray × ByteArray) :=
  if a.size = 0 then none else if 20 < a.size then none else if qIn fQl a = false then none else if hpreB b slB = false then none else if qIn fQs b = false then none else if c = verB then some (a, b) else none
def lnB (s : ByteArray) : Option (ByteArray × ByteArray) := match splB s spB with
  | [a, b, c] => lnW a b c
  | _ => none
def hdrW (L : Hds) (nm vl : ByteArray) (k : Bool) : Option (ByteArray × ByteArray) :=
  if k = false then none else if nm.size = 0 then none else if qIn fQn nm = false then none else if qIn fQh vl = false then none else
  if (getP L (lowB nm)).isSome = true then none else if lowB nm = teB then none else some (lowB nm, trimB vl wsB)
def hdrB (L : Hds) (s : ByteArray) : Option (ByteArray × ByteArray) := hdrW L (cut1 s coB) (cut2 s coB) (cutK s coB)
def hdrsB : Hds → List ByteArray → Option Hds
  | L, [] => some L
  | L, s :: r => match hdrB L s with
    | none => none
    | some p => hdrsB (L ++ [p]) r
theorem hdrsB_len : ∀ {l : List ByteArray} {L M : Hds}, hdrsB L l = some M → M.length = L.length + l.length
  | [], L, M, h => by cases h; rfl
  | s :: r, L, M, h => by
    unfold hdrsB at h
    split at h
    · cases h
    · have := hdrsB_len h
      rw [this, List.length_append, List.length_cons (a := s), List.length_singleton]; omega
def atoiN (v : ByteArray) : Nat := match Lib.atoiAll v.data.toList with
  | .ok z => z.toNat
  | _ => 0
def lenB (L : Hds) : Option Nat := match getP L clB with
  | none => some 0
  | some v => if v.size = 0 then none else if 9 < v.size then none else if qIn fQd v = false then none else some (atoiN v)
theorem pu_digits : ∀ (l : List UInt8) (acc : Nat), l.all qD = true → acc < 10 ^ 9 → (acc + 1) * 10 ^ l.length ≤ 10 ^ 9 → ∃ u, Lib.parseUint10 acc l = .ok u ∧ u < 10 ^ 9
  | [], acc, _, ha, _ => ⟨acc, rfl, ha⟩
  | c :: r, acc, h, ha, hp => by
    rw [List.all_cons, Bool.and_eq_true] at h
    obtain ⟨h1, h2⟩ := h
    have hc : 48 ≤ c.toNat ∧ c.toNat ≤ 57 := by
      unfold qD at h1
      rw [Bool.and_eq_true, decide_eq_true_eq, decide_eq_true_eq] at h1
      exact ⟨h1.1, h1.2⟩
    rw [List.length_cons, Nat.pow_succ] at hp
    have hp1 : 1 ≤ 10 ^ r.length := Nat.pos_of_ne_zero (by simp)
    have hm : (acc * 10 + (c.toNat - 48) + 1) * 10 ^ r.length ≤ 10 ^ 9 := by
      refine Nat.le_trans (Nat.mul_le_mul_right _ (?_ : acc * 10 + (c.toNat - 48) + 1 ≤ (acc + 1) * 10)) ?_
      · omega
      · rw [Nat.mul_assoc, Nat.mul_comm 10]; exact hp
    have hm1 : acc * 10 + (c.toNat - 48) + 1 ≤ 10 ^ 9 := Nat.le_trans (Nat.le_mul_of_pos_right _ hp1) hm
    have e9 : (10 : Nat) ^ 9 = 1000000000 := rfl
    rw [e9] at ha hm1
    obtain ⟨u, q1, q2⟩ := pu_digits r (acc * 10 + (c.toNat - 48)) h2 (by rw [e9]; omega) hm
    refine ⟨u, ?_, q2⟩
    unfold Lib.parseUint10
    rw [if_pos hc, if_neg (by omega), if_neg (by omega)]
    exact q1
theorem atoi_digits (v : ByteArray) (h0 : v.size ≠ 0) (h9 : v.size ≤ 9) (hq : v.data.toList.all qD = true) : ∃ u : Nat, Lib.atoiAll v.data.toList = .ok (u : Int) ∧ u < 1000000000 := by
  have hl : v.data.toList.length = v.size := rfl
  cases h : v.data.toList with
  | nil => rw [h] at hl; simp at hl; omega
  | cons c r =>
    rw [h] at hq hl
    have hc : 48 ≤ c.toNat ∧ c.toNat ≤ 57 := by
      rw [List.all_cons, Bool.and_eq_true] at hq
      have h1 := hq.1
      unfold qD at h1
      rw [Bool.and_eq_true, decide_eq_true_eq, decide_eq_true_eq] at h1
      exact ⟨h1.1, h1.2⟩
    obtain ⟨u, q1, q2⟩ := pu_digits (c :: r) 0 hq (by decide) (by
      rw [hl, Nat.zero_add, Nat.one_mul]
      exact Nat.pow_le_pow_right (by decide) h9)
    have e9 : (10 : Nat) ^ 9 = 1000000000 := rfl
    rw [e9] at q2
    refine ⟨u, ?_, q2⟩
    unfold Lib.atoiAll
    have e1 : ¬ (c.toNat = 43 ∨ c.toNat = 45) := by omega
    have e2 : ¬ (c.toNat = 45) := by omega
    simp only [if_neg e1, Lib.parseMag, if_neg (List.cons_ne_nil c r), q1]
    rw [if_neg (by omega), if_neg (by rintro ⟨h, _⟩; exact e2 h), if_neg e2]
theorem atoiN_eq (v : ByteArray) (h0 : v.size ≠ 0) (h9 : v.size ≤ 9) (hq : v.data.toList.all qD = true) : Lib.atoiAll v.data.toList = .ok (atoiN v : Int) ∧ atoiN v < 1000000000 := by
  obtain ⟨u, h1, h2⟩ := atoi_digits v h0 h9 hq
  unfold atoiN
  rw [h1]
  exact ⟨rfl, h2⟩
theorem qN_ascii (s : ByteArray) (h : s.data.toList.all qN = true) : asciiB s := by
  intro j b hb
  have hm : b ∈ s.data.toList := List.mem_of_getElem? hb
  have := List.all_eq_true.1 h b hm
  have key : ∀ c : Fin 256, qN (UInt8.ofNat c.val) = true → c.val < 128 := by decide
  have hb : UInt8.ofNat b.toNat = b := UInt8.ofNat_toNat
  exact key ⟨b.toNat, b.toNat_lt⟩ (by rw [hb]; exact this)
theorem cut1_size (s t : ByteArray) : (cut1 s t).size ≤ s.size := by
  unfold cut1
  rw [tB_size]
  have hl : s.data.toList.length = s.size := rfl
  unfold Lib.cut
  split
  · simp only [List.length_take]; omega
  · simp only; omega
theorem cut2_size (s t : ByteArray) : (cut2 s t).size ≤ s.size := by
  unfold cut2
  rw [tB_size]
  have hl : s.data.toList.length = s.size := rfl
  unfold Lib.cut
  split
  · simp only [List.length_drop]; omega
  · simp
abbrev Rq0 : Type := ByteArray × ByteArray × Hds
def hdL (ls : List ByteArray) : Hd Rq0 := match ls with
  | [] => .bad 400
  | l :: r => match lnB l with
    | none => .bad 400
    | some (m, t) => match hdrsB [] r with
      | none => .bad 400
      | some L => match lenB L with
        | none => .bad 400
        | some n => if 65536 < n then .bad 413 else .ok (m, t, L) n
def linesB (w : List UInt8) : List ByteArray := splB (sufB (tB w) crB2) crB
def hdB (w : List UInt8) : Hd Rq0 := hdL (linesB w)
end Go.Proofs.YtpijbbobejeemaaGreatDoor.Htp

/- Trees of values as cells tell them. No program. -/
set_option linter.unusedVariables false
set_option linter.unusedSimpArgs false
namespace Go.Proofs.YtpijbbobejeemaaGreatDoor.Tree
open Go Go.RowKit Go.Proofs.YtpijbbobejeemaaGreatDoor.Eng Go.Proofs.YtpijbbobejeemaaGreatDoor.Kit
inductive Tv where
  | mk (kind num : Int) (text : ByteArray) (list : List Tv) (tab : List (ByteArray × Tv))
  deriving Inhabited
abbrev Tf := List (ByteArray × Tv)
def Tv.kind : Tv → Int
  | .mk k _ _ _ _ => k
def Tv.num : Tv → Int
  | .mk _ n _ _ _ => n
def Tv.text : Tv → ByteArray
  | .mk _ _ t _ _ => t
def Tv.list : Tv → List Tv
  | .mk _ _ _ l _ => l
def Tv.tab : Tv → Tf
  | .mk _ _ _ _ f => f
structure Rv where
  k : Int
  n : Int
  t : ByteArray
  la : Option Addr
  ll : Nat
  lc : Nat
  ta : Option Addr
  tl : Nat
  tc : Nat
  deriving Inhabited
def Rv.cells (r : Rv) : List Value := [.int .i64 r.k, .int .i64 r.n, .string r.t, .slice r.la r.ll r.lc, .slice r.ta r.tl r.tc]
abbrev Mem := Addr → Option Value
def Cells (C : Mem) (a : Addr) (cs : List Value) : Prop := ∀ j u, cs[j]? = some u → C (a.add j) = some u
def big : Nat := 140737488351232
def LOf (V : Tv → Rv → Prop) (C : Mem) (oa : Option Addr) (l : List Tv) : Prop := l.length * 80 ≤ big ∧ ∀ i x, l[i]? = some x → ∃ a r, oa = some a ∧ Cells C (a.add (i * 5)) r.cells ∧ V x r
def FOf (V : Tv → Rv → Prop) (C : Mem) (oa : Option Addr) (f : Tf) : Prop := f.length * 96 ≤ big ∧ ∀ i nm x, f[i]? = some (nm, x) → ∃ a r, oa = some a ∧ Cells C (a.add (i * 6)) (.string nm :: r.cells) ∧ V x r
def VAt (C : Mem) : Nat → Tv → Rv → Prop
  | 0 => fun _ _ => False
  | d + 1 => fun v r => (r.k = v.kind ∧ r.n = v.num ∧ r.t = v.text ∧ r.ll = v.list.length ∧ r.tl = v.tab.length) ∧ LOf (VAt C d) C r.la v.list ∧ FOf (VAt C d) C r.ta v.tab
abbrev LAt (C : Mem) (d : Nat) := LOf (VAt C d) C
abbrev FAt (C : Mem) (d : Nat) := FOf (VAt C d) C
theorem Cells.mono {C C' : Mem} (h : ∀ a v, C a = some v → C' a = some v) {a : Addr} {cs : List Value} (hc : Cells C a cs) : Cells C' a cs := fun j u hu => h _ _ (hc j u hu)
theorem LOf.mono {V V' : Tv → Rv → Prop} (hV : ∀ x r, V x r → V' x r) {C C' : Mem} (h : ∀ a v, C a = some v → C' a = some v) {oa : Option Addr} {l : List Tv} (hl : LOf V C oa l) : LOf V' C' oa l :=
  ⟨hl.1, fun i x hx => by
    obtain ⟨a, r, h1, h2, h3⟩ := hl.2 i x hx
    exact ⟨a, r, h1, h2.mono h, hV _ _ h3⟩⟩
theorem FOf.mono {V V' : Tv → Rv → Prop} (hV : ∀ x r, V x r → V' x r) {C C' : Mem} (h : ∀ a v, C a = some v → C' a = some v) {oa : Option Addr} {f : Tf} (hf : FOf V C oa f) : FOf V' C' oa f :=
  ⟨hf.1, fun i nm x hx => by
    obtain ⟨a, r, h1, h2, h3⟩ := hf.2 i nm x hx
    exact ⟨a, r, h1, h2.mono h, hV _ _ h3⟩⟩
theorem VAt.mono {C C' : Mem} (h : ∀ a v, C a = some v → C' a = some v) : ∀ {d : Nat} {v : Tv} {r : Rv}, VAt C d v r → VAt C' d v r
  | 0, _, _, hv => hv.elim
  | d + 1, v, r, hv => ⟨hv.1, hv.2.1.mono (fun x r hx => VAt.mono h hx) h, hv.2.2.mono (fun x r hx => VAt.mono h hx) h⟩
theorem LAt.mono {C C' : Mem} (h : ∀ a v, C a = some v → C' a = some v) {d : Nat} {oa : Option Addr} {l : List Tv} (hl : LAt C d oa l) : LAt C' d oa l := LOf.mono (fun _ _ hx => VAt.mono h hx) h hl
theorem FAt.mono {C C' : Mem} (h : ∀ a v, C a = some v → C' a = some v) {d : Nat} {oa : Option Addr} {l : Tf} (hl : FAt C d oa l) : FAt C' d oa l := FOf.mono (fun _ _ hx => VAt.mono h hx) h hl
end Go.Proofs.YtpijbbobejeemaaGreatDoor.Tree

/- Trees in memory of our own: as named objects; many of them taken into one. No program. -/
set_option linter.unusedVariables false
set_option linter.unusedSimpArgs false
namespace Go.Proofs.YtpijbbobejeemaaGreatDoor.Tree
open Go Go.RowKit Go.Proofs.YtpijbbobejeemaaGreatDoor.Eng Go.Proofs.YtpijbbobejeemaaGreatDoor.Kit
noncomputable section
def memOn (D : Nat → Prop) (w : World) : Mem := fun a => by classical exact if D a.block then w.cell? a else none
theorem memOn_at {D : Nat → Prop} {w : World} {a : Addr} (h : D a.block) : memOn D w a = w.cell? a := by unfold memOn; rw [if_pos h]
theorem memOn_some {D : Nat → Prop} {w : World} {a : Addr} {v : Value} (h : memOn D w a = some v) : D a.block ∧ w.cell? a = some v := by
  unfold memOn at h
  split at h
  · rename_i hd; exact ⟨hd, h⟩
  · cases h
theorem memOn_mono {D D' : Nat → Prop} {w : World} (h : ∀ b, D b → D' b) : ∀ a v, memOn D w a = some v → memOn D' w a = some v := fun a v ha => by
  obtain ⟨h1, h2⟩ := memOn_some ha
  rw [memOn_at (h _ h1)]; exact h2
theorem cell_far {w w' : World} {a : Addr} (h : w'.heap[a.block]? = w.heap[a.block]?) : w'.cell? a = w.cell? a := by unfold World.cell?; rw [h]
theorem memOn_far {D : Nat → Prop} {w w' : World} (h : ∀ b, D b → w'.heap[b]? = w.heap[b]?) : memOn D w' = memOn D w := by
  funext a
  unfold memOn
  split
  · rename_i hd; exact cell_far (h _ hd)
  · rfl
def frz (P : Mem → Prop) : HP where
  on D w := P (memOn D w) ∧ ∀ b, D b → b < w.heap.size
  far {D w w'} hf := fun ⟨h1, h2⟩ => ⟨by rw [memOn_far hf]; exact h1, fun b hb => by
    have h3 := hf b hb
    rw [Array.getElem?_eq_getElem (h2 b hb)] at h3
    exact (Array.getElem?_eq_some_iff.1 h3).1⟩
  lt {D w} := fun ⟨_, h2⟩ => h2
theorem rep_absorb {W0 w : World} {F : HP} {N1 : Names} {H H' : LH} {D0 : Nat → Prop} {D : Nat → Nat → Prop} (hl : namesLt 1100 H = true) (hl' : namesLt 1100 H' = true) (r : Rep W0 N1 F (heapOf H) w)
    (h1 : F.on D0 w) (h2 : ∀ i o, getO H i = some o → OR N1 i o (D i) w ∧ ∀ b, D i b → ¬ D0 b) (h3 : ∀ i j o o', getO H i = some o → getO H j = some o' → i ≠ j → ∀ b, D i b → ¬ D j b)
    (k : Nat) (S : Nat → Prop) (hkS : ¬ S k) {ok : AO} (hk0 : getO H k = some ok)
    (hn : ∀ n o', n ≠ k → getO H' n = some o' → ¬ S n ∧ ∃ o, getO H n = some o ∧ OR N1 n o' (D n) w)
    (hk : ∀ o', getO H' k = some o' → OR N1 k o' (fun x => D k x ∨ ∃ j, S j ∧ (∃ o, getO H j = some o) ∧ D j x) w) : Rep W0 N1 F (heapOf H') w := by
  classical
  have hf' : ∀ n, (heapOf H').find n = getO H' n := find_heapOf (lt_lim hl')
  refine ⟨r.os, r.tape, r.output, D0, fun n x => if n = k then (D k x ∨ ∃ j, S j ∧ (∃ o, getO H j = some o) ∧ D j x) else D n x, h1, fun n o hno => ?_, fun n m o o' hno hmo hnm b hb hb' => ?_⟩
  · rw [hf'] at hno
    by_cases e : n = k
    · subst e
      simp only [if_true]
      refine ⟨hk o hno, fun b hb => ?_⟩
      rcases hb with hb | ⟨j, _, ⟨oj, hj⟩, hb⟩
      · exact (h2 n _ hk0).2 b hb
      · exact (h2 j _ hj).2 b hb
    · simp only [if_neg e]
      obtain ⟨_, o0, q1, q2⟩ := hn n o e hno
      exact ⟨q2, (h2 n _ q1).2⟩
  · rw [hf'] at hno hmo
    have key : ∀ m o', getO H' m = some o' → m ≠ k → ∀ b, (D k b ∨ ∃ j, S j ∧ (∃ o, getO H j = some o) ∧ D j b) → ¬ D m b := by
      intro m o' hm hmk b hb
      obtain ⟨q0, o1, q1, _⟩ := hn m o' hmk hm
      rcases hb with hb | ⟨j, hj, ⟨oj, hjo⟩, hb⟩
      · exact h3 k m _ _ hk0 q1 (Ne.symm hmk) b hb
      · exact h3 j m _ _ hjo q1 (fun e => q0 (e ▸ hj)) b hb
    by_cases e : n = k
    · subst e
      simp only [if_true] at hb
      have e' : m ≠ n := Ne.symm hnm
      simp only [if_neg e'] at hb'
      exact key m o' hmo e' b hb hb'
    · simp only [if_neg e] at hb
      by_cases e' : m = k
      · subst e'
        simp only [if_true] at hb'
        exact key n o hno e b hb' hb
      · simp only [if_neg e'] at hb'
        obtain ⟨_, o1, q1, _⟩ := hn n o e hno
        obtain ⟨_, o2, q2, _⟩ := hn m o' e' hmo
        exact h3 n m _ _ q1 q2 hnm b hb hb'
/-! Named objects. -/
variable (m : Md)
def ownL (d : Nat) (l : List Tv) : AO := .own m fun b _ => frz fun C => LAt C d (some ⟨b, 0, none⟩) l
variable {m}
theorem LOf.nil {V : Tv → Rv → Prop} {C : Mem} (oa : Option Addr) : LOf V C oa [] := ⟨Nat.zero_le _, fun i x h => by simp at h⟩
theorem FOf.nil {V : Tv → Rv → Prop} {C : Mem} (oa : Option Addr) : FOf V C oa [] := ⟨Nat.zero_le _, fun i nm x h => by simp at h⟩
theorem slice_raw {N : Names} {k n sz : Nat} {y : Value} (h : VR N (.slice k 0 n sz (.lo n)) y) : ∃ l x c, N k = some l ∧ y = .slice (some ⟨l.blk, x, none⟩) n c ∧ (0 < n → x = l.off) := by
  simp only [VR] at h
  obtain ⟨l, x, c, h1, h2, h3, h4, h5, h6⟩ := h
  refine ⟨l, x, c, h1, h2, fun hn => ?_⟩
  rcases h3 with h3 | h3
  · rw [h3, Nat.add_zero]
  · omega
/-! Rows that are being made: their cells, and what lies behind them. -/
def PF (d : Nat) (R : List (ByteArray × Rv)) (f : Tf) (C : Mem) : Prop := R.length = f.length ∧ ∀ (i : Nat) (nm : ByteArray) (x : Tv), f[i]? = some (nm, x) → ∃ r, R[i]? = some (nm, r) ∧ VAt C d x r
def PV (d : Nat) (R : List Rv) (l : List Tv) (C : Mem) : Prop := R.length = l.length ∧ ∀ (i : Nat) (x : Tv), l[i]? = some x → ∃ r, R[i]? = some r ∧ VAt C d x r
theorem PF.mono {d : Nat} {R : List (ByteArray × Rv)} {f : Tf} {C C' : Mem} (h : ∀ a v, C a = some v → C' a = some v) (hp : PF d R f C) : PF d R f C' := ⟨hp.1, fun i nm x hx => by
  obtain ⟨r, h1, h2⟩ := hp.2 i nm x hx
  exact ⟨r, h1, h2.mono h⟩⟩
theorem PV.mono {d : Nat} {R : List Rv} {l : List Tv} {C C' : Mem} (h : ∀ a v, C a = some v → C' a = some v) (hp : PV d R l C) : PV d R l C' := ⟨hp.1, fun i x hx => by
  obtain ⟨r, h1, h2⟩ := hp.2 i x hx
  exact ⟨r, h1, h2.mono h⟩⟩
theorem PF.add {d : Nat} {R : List (ByteArray × Rv)} {f : Tf} {C : Mem} (hp : PF d R f C) {nm : ByteArray} {x : Tv} {r : Rv} (hx : VAt C d x r) : PF d (R ++ [(nm, r)]) (f ++ [(nm, x)]) C := by
  refine ⟨by simp [hp.1], fun i n y hy => ?_⟩
  rcases Nat.lt_or_ge i f.length with h | h
  · rw [List.getElem?_append_left h] at hy
    obtain ⟨s, h1, h2⟩ := hp.2 i n y hy
    exact ⟨s, by rw [List.getElem?_append_left (by have := hp.1; omega)]; exact h1, h2⟩
  · rw [List.getElem?_append_right h] at hy
    have : i - f.length = 0 := by
      cases hk : i - f.length with
      | zero => rfl
      | succ n => rw [hk] at hy; simp at hy
    rw [this] at hy
    simp only [List.getElem?_cons_zero, Option.some.injEq, Prod.mk.injEq] at hy
    obtain ⟨rfl, rfl⟩ := hy
    refine ⟨r, ?_, hx⟩
    rw [List.getElem?_append_right (by have := hp.1; omega), show i - R.length = 0 by have := hp.1; omega]
    rfl
theorem PV.add {d : Nat} {R : List Rv} {f : List Tv} {C : Mem} (hp : PV d R f C) {x : Tv} {r : Rv} (hx : VAt C d x r) : PV d (R ++ [r]) (f ++ [x]) C := by
  refine ⟨by simp [hp.1], fun i y hy => ?_⟩
  rcases Nat.lt_or_ge i f.length with h | h
  · rw [List.getElem?_append_left h] at hy
    obtain ⟨s, h1, h2⟩ := hp.2 i y hy
    exact ⟨s, by rw [List.getElem?_append_left (by have := hp.1; omega)]; exact h1, h2⟩
  · rw [List.getElem?_append_right h] at hy
    have : i - f.length = 0 := by
      cases hk : i - f.length with
      | zero => rfl
      | succ n => rw [hk] at hy; simp at hy
    rw [this] at hy
    simp only [List.getElem?_cons_zero, Option.some.injEq] at hy
    subst hy
    refine ⟨r, ?_, hx⟩
    rw [List.getElem?_append_right (by have := hp.1; omega), show i - R.length = 0 by have := hp.1; omega]
    rfl
end
end Go.Proofs.YtpijbbobejeemaaGreatDoor.Tree

/- A row's last value, with what lies behind it, is taken in. No program. -/
set_option linter.unusedVariables false
set_option linter.unusedSimpArgs false
namespace Go.Proofs.YtpijbbobejeemaaGreatDoor.Tree
open Go Go.RowKit Go.Proofs.YtpijbbobejeemaaGreatDoor.Eng Go.Proofs.YtpijbbobejeemaaGreatDoor.Kit
noncomputable section
theorem cells_split {N : Names} {i : Nat} {a b : List AV} {e : TypeId} {D : Nat → Prop} {w : World} (h : OR N i (.cells (a ++ b) e) D w) : ∃ yb, VRs N b yb ∧ ∀ c : List AV, c.length = b.length → VRs N c yb → OR N i (.cells (a ++ c) e) D w := by
  obtain ⟨l, arr, fz, h1, h2, h3, h4, h5, h6, h7, h8⟩ := h
  obtain ⟨ys, hys⟩ : ∃ ys, (arr.toList.drop l.off).take (a ++ b).length = ys := ⟨_, rfl⟩
  have key : ∀ (a : List AV) (ys : List Value), VRs N (a ++ b) ys → ∃ yb, VRs N b yb ∧ ∀ c : List AV, VRs N c yb → VRs N (a ++ c) ys := by
    intro a
    induction a with
    | nil => exact fun ys hy => ⟨ys, hy, fun c hc => hc⟩
    | cons x a ih =>
      intro ys hy
      obtain ⟨y, r, q1, q2, rfl⟩ := hy
      obtain ⟨yb, q3, q4⟩ := ih r q2
      exact ⟨yb, q3, fun c hc => ⟨y, r, q1, q4 c hc, rfl⟩⟩
  rw [hys] at h7
  obtain ⟨yb, q3, q4⟩ := key a ys h7
  refine ⟨yb, q3, fun c hc hv => ⟨l, arr, fz, h1, h2, h3, h4, ?_, h6, ?_, h8⟩⟩
  · rw [List.length_append, hc, ← List.length_append]; exact h5
  · rw [List.length_append, hc, ← List.length_append, hys]; exact q4 c hv
theorem st_abs {W0 w : World} {F : HP} {N : Names} {H : LH} {vs : List AV} {ys : List Value} (hl : namesLt 1100 H = true) (hs : St W0 F N H vs ys w) (i k : Nat) (S : List Nat) (hik : i ≠ k) (hiS : i ∉ S) (hkS : k ∉ S) {a b : List AV} {e : TypeId} {ok : AO}
    (hi : getO H i = some (.cells (a ++ b) e)) (hk : getO H k = some ok) (hkl : ∀ N1 D w, OR N1 k ok D w → ∀ b, D b → b < w.heap.size) (Q : List Value → Mem → Prop)
    (core : ∀ (N1 : Names) (D : Nat → Nat → Prop), (∀ n o, getO H n = some o → OR N1 n o (D n) w) → ∀ yb, VRs N1 b yb → ∃ c : List Value, c.length = b.length ∧ VRs N1 (vmap c) yb ∧ Q c (memOn (fun x => D k x ∨ ∃ j, j ∈ S ∧ (∃ o, getO H j = some o) ∧ D j x) w)) :
    ∃ c, (∃ C, Q c C) ∧ ∀ (H' : LH) (Q' : Mem → Prop), namesLt 1100 H' = true → getO H' i = some (.cells (a ++ vmap c) e) → getO H' k = some (.any (frz Q')) → (∀ C, Q c C → Q' C) → (∀ n o, n ≠ i → n ≠ k → getO H' n = some o → n ∉ S ∧ getO H n = some o) →
      AV.cls (fun n => Nat.blt n 1000 || (getO H' n).isSome) vs → (∀ x ∈ H', x.2.cl (fun n => Nat.blt n 1000 || (getO H' n).isSome)) → St W0 F N H' vs ys w := by
  obtain ⟨N1, g1, g2, r, hvs⟩ := hs
  obtain ⟨D0, D, h1, h2, h3⟩ := r.sat
  have hf : ∀ n, (heapOf H).find n = getO H n := find_heapOf (lt_lim hl)
  have h2' : ∀ n o, getO H n = some o → OR N1 n o (D n) w ∧ ∀ b, D n b → ¬ D0 b := fun n o hn => h2 n o (by rw [hf]; exact hn)
  obtain ⟨yb, q1, q2⟩ := cells_split (h2' i _ hi).1
  obtain ⟨c, c1, c2, c3⟩ := core N1 D (fun n o hn => (h2' n o hn).1) yb q1
  refine ⟨c, ⟨_, c3⟩, fun H' Q' hl' hi' hk' hQ hn hv ho => st_restrict hl' g1 (rep_absorb hl hl' r h1 h2' (fun n m o o' hn hm => h3 n m o o' (by rw [hf]; exact hn) (by rw [hf]; exact hm)) k (fun n => n ∈ S) hkS hk (fun n o' hnk hno => ?_) fun o' hko => ?_) hvs hv ho⟩
  · by_cases hni : n = i
    · subst hni
      rw [hi'] at hno
      cases hno
      exact ⟨hiS, _, hi, q2 _ (by rw [show (vmap c).length = c.length by simp [vmap]]; exact c1) c2⟩
    · obtain ⟨a1, a2⟩ := hn n o' hni hnk hno
      exact ⟨a1, o', a2, (h2' n o' a2).1⟩
  · rw [hk'] at hko
    cases hko
    refine ⟨hQ _ c3, fun b hb => ?_⟩
    rcases hb with hb | ⟨j, _, ⟨oj, hj⟩, hb⟩
    · exact (h2' k _ hk).1.lt b hb
    · exact (h2' j _ hj).1.lt b hb
/-! A row that is whole, with what lies behind it. -/
theorem cells_mem {N : Names} {i : Nat} {cs : List Value} {e : TypeId} {D : Nat → Prop} {w : World} (h : OR N i (.cells (vmap cs) (2 * e)) D w) : ∃ l, N i = some l ∧ l.off = 0 ∧ ∀ j u, cs[j]? = some u → memOn D w ⟨l.blk, j, none⟩ = some u := by
  obtain ⟨l, arr, fz, h1, h2, h3, h4, h5, h6, h7, h8⟩ := h
  obtain ⟨z, _⟩ := h8 (Nat.mul_mod_right 2 e)
  refine ⟨l, h1, z, fun j u hj => ?_⟩
  rw [memOn_at ((h2 _).2 rfl)]
  have h7 := VRs.of_vmap h7
  have hlen : (vmap cs).length = cs.length := by simp [vmap]
  rw [z, List.drop_zero, hlen] at h7
  unfold World.cell?
  simp only [h3]
  have hj' := (List.getElem?_eq_some_iff.1 hj).1
  have : (arr.toList.take cs.length)[j]? = some u := by rw [h7]; exact hj
  rw [List.getElem?_take_of_lt hj'] at this
  simpa using this
theorem pieces {α : Type} {f : α → List Value} {m : Nat} (hf : ∀ x, (f x).length = m) : ∀ (l : List α) (k j : Nat) (x : α), l[k]? = some x → j < m → (l.flatMap f)[k * m + j]? = (f x)[j]?
  | [], k, j, x, h, _ => by simp at h
  | y :: l, 0, j, x, h, hj => by
    simp only [List.getElem?_cons_zero, Option.some.injEq] at h
    subst h
    rw [List.flatMap_cons, Nat.zero_mul, Nat.zero_add, List.getElem?_append_left (by rw [hf]; exact hj)]
  | y :: l, k + 1, j, x, h, hj => by
    rw [List.getElem?_cons_succ] at h
    rw [List.flatMap_cons, List.getElem?_append_right (by rw [hf, Nat.succ_mul]; omega), hf, show (k + 1) * m + j - m = k * m + j from by rw [Nat.succ_mul]; omega]
    exact pieces hf l k j x h hj
theorem addr_at (b n j : Nat) : ((Addr.mk b 0 none).add n).add j = Addr.mk b (n + j) none := by
  unfold Addr.add
  split
  · rename_i hj
    subst hj
    split
    · rename_i hn; subst hn; rfl
    · show Addr.mk b (0 + n) none = _; rw [Nat.zero_add, Nat.add_zero]
  · split
    · rename_i hn; subst hn; rfl
    · show Addr.mk b (0 + n + j) none = _; rw [Nat.zero_add]
theorem row_mem {α : Type} {f : α → List Value} {m : Nat} (hf : ∀ x, (f x).length = m) {N : Names} {i : Nat} {R : List α} {e : TypeId} {D : Nat → Prop} {w : World} (h : OR N i (.cells (rowV f R) (2 * e)) D w) :
    ∃ l, N i = some l ∧ l.off = 0 ∧ ∀ k x, R[k]? = some x → Cells (memOn D w) ((Addr.mk l.blk 0 none).add (k * m)) (f x) := by
  obtain ⟨l, h1, h2, h3⟩ := cells_mem (cs := R.flatMap f) h
  refine ⟨l, h1, h2, fun k x hx j u hu => ?_⟩
  rw [addr_at]
  refine h3 _ _ ?_
  rw [pieces hf R k j x hx (by rw [← hf x]; exact (List.getElem?_eq_some_iff.1 hu).1)]
  exact hu
theorem st_whole {W0 w : World} {F : HP} {N : Names} {H H' : LH} {vs : List AV} {ys : List Value} (hl : namesLt 1100 H = true) (hl' : namesLt 1100 H' = true) (hs : St W0 F N H vs ys w) (i k : Nat) (hik : i ≠ k) {oi o2 : AO} {P : Mem → Prop}
    (hi : getO H i = some oi) (hk : getO H k = some (.any (frz P))) (hi' : getO H' i = some o2) (hk' : getO H' k = none) (hn : ∀ n o, n ≠ i → n ≠ k → getO H' n = some o → getO H n = some o)
    (core : ∀ N1 Di Dk, OR N1 i oi Di w → P (memOn Dk w) → (∀ b, Dk b → b < w.heap.size) → (∀ b, Di b → ¬ Dk b) → OR N1 i o2 (fun x => Di x ∨ Dk x) w)
    (hv : AV.cls (fun n => Nat.blt n 1000 || (getO H' n).isSome) vs) (ho : ∀ x ∈ H', x.2.cl (fun n => Nat.blt n 1000 || (getO H' n).isSome)) : St W0 F N H' vs ys w := by
  obtain ⟨N1, g1, g2, r, hvs⟩ := hs
  obtain ⟨D0, D, h1, h2, h3⟩ := r.sat
  have hf : ∀ n, (heapOf H).find n = getO H n := find_heapOf (lt_lim hl)
  have h2' : ∀ n o, getO H n = some o → OR N1 n o (D n) w ∧ ∀ b, D n b → ¬ D0 b := fun n o hn => h2 n o (by rw [hf]; exact hn)
  have h3' : ∀ n m o o', getO H n = some o → getO H m = some o' → n ≠ m → ∀ b, D n b → ¬ D m b := fun n m o o' hn hm => h3 n m o o' (by rw [hf]; exact hn) (by rw [hf]; exact hm)
  refine st_restrict hl' g1 (rep_absorb hl hl' r h1 h2' h3' i (fun n => n = k) hik hi (fun n o' hni hno => ?_) fun o' hio => ?_) hvs hv ho
  · have hnk : n ≠ k := fun e => by rw [e, hk'] at hno; cases hno
    have := hn n o' hni hnk hno
    exact ⟨hnk, o', this, (h2' n o' this).1⟩
  · rw [hi'] at hio
    cases hio
    have hkk := (h2' k _ hk).1
    have := core N1 (D i) (D k) (h2' i _ hi).1 hkk.1 hkk.2 (h3' i k _ _ hi hk hik)
    have e : (fun x => D i x ∨ ∃ j, j = k ∧ (∃ o, getO H j = some o) ∧ D j x) = fun x => D i x ∨ D k x := by
      funext x
      refine propext ⟨?_, ?_⟩
      · rintro (h | ⟨j, rfl, _, h⟩)
        · exact .inl h
        · exact .inr h
      · rintro (h | h)
        · exact .inl h
        · exact .inr ⟨k, rfl, ⟨_, hk⟩, h⟩
    rw [e]
    exact this
end
end Go.Proofs.YtpijbbobejeemaaGreatDoor.Tree

/- Http: requests that lie in memory of our own. No program's step. -/
set_option linter.unusedVariables false
set_option linter.unusedSimpArgs false
set_option maxRecDepth 100000
namespace Go.Proofs.YtpijbbobejeemaaGreatDoor.Htp
open Go Go.RowKit Go.Proofs.YtpijbbobejeemaaGreatDoor.Eng Go.Proofs.YtpijbbobejeemaaGreatDoor.Kit Go.Proofs.YtpijbbobejeemaaGreatDoor.Tree
noncomputable section
abbrev tRqs : TypeId := 2 * 32
abbrev Rqm : Type := Rq0 × List UInt8
structure Rqr where
  m : ByteArray
  t : ByteArray
  ha : Option Addr
  hn : Nat
  hc : Nat
  ba : Addr
  bn : Nat
  bc : Nat
def encQ (r : Rqr) : List Value := [.string r.m, .string r.t, .slice r.ha r.hn r.hc, .slice (some r.ba) r.bn r.bc]
theorem encQ_len (r : Rqr) : (encQ r).length = 4 := rfl
def HAt (C : Mem) (a : Option Addr) (l : Hds) : Prop := ∀ (i : Nat) p, l[i]? = some p → ∃ x, a = some x ∧ Tree.Cells C (x.add (i * 2)) (encP p)
def BAt (C : Mem) (a : Addr) (l : List UInt8) : Prop := ∀ (i : Nat) b, l[i]? = some b → C (a.add i) = some (.int .u8 b.toNat)
def HNil (a : Option Addr) (c : Nat) (l : Hds) : Prop := (l = [] → a = none ∧ c = 0) ∧ (l ≠ [] → ∃ x, a = some x)
def QAt (C : Mem) (x : Rqm) (r : Rqr) : Prop := r.m = x.1.1 ∧ r.t = x.1.2.1 ∧ r.hn = x.1.2.2.length ∧ r.bn = x.2.length ∧ HAt C r.ha x.1.2.2 ∧ BAt C r.ba x.2 ∧ HNil r.ha r.hc x.1.2.2
theorem HAt.mono {C C' : Mem} (h : ∀ a v, C a = some v → C' a = some v) {a : Option Addr} {l : Hds} (hp : HAt C a l) : HAt C' a l := fun i p hi => by
  obtain ⟨x, h1, h2⟩ := hp i p hi
  exact ⟨x, h1, h2.mono h⟩
theorem BAt.mono {C C' : Mem} (h : ∀ a v, C a = some v → C' a = some v) {a : Addr} {l : List UInt8} (hp : BAt C a l) : BAt C' a l := fun i p hi => h _ _ (hp i p hi)
theorem QAt.mono {C C' : Mem} (h : ∀ a v, C a = some v → C' a = some v) {x : Rqm} {r : Rqr} (hp : QAt C x r) : QAt C' x r := ⟨hp.1, hp.2.1, hp.2.2.1, hp.2.2.2.1, hp.2.2.2.2.1.mono h, hp.2.2.2.2.2.1.mono h, hp.2.2.2.2.2.2⟩
def PQ (R : List Rqr) (M : List Rqm) (C : Mem) : Prop := R.length = M.length ∧ ∀ (i : Nat) (x : Rqm), M[i]? = some x → ∃ r, R[i]? = some r ∧ QAt C x r
theorem PQ.mono {C C' : Mem} (h : ∀ a v, C a = some v → C' a = some v) {R : List Rqr} {M : List Rqm} (hp : PQ R M C) : PQ R M C' := ⟨hp.1, fun i x hx => by
  obtain ⟨r, h1, h2⟩ := hp.2 i x hx
  exact ⟨r, h1, h2.mono h⟩⟩
theorem PQ.add {R : List Rqr} {M : List Rqm} {C : Mem} (hp : PQ R M C) {x : Rqm} {r : Rqr} (hx : QAt C x r) : PQ (R ++ [r]) (M ++ [x]) C := by
  refine ⟨by simp [hp.1], fun i y hy => ?_⟩
  rcases Nat.lt_or_ge i M.length with h | h
  · rw [List.getElem?_append_left h] at hy
    obtain ⟨s, h1, h2⟩ := hp.2 i y hy
    exact ⟨s, by rw [List.getElem?_append_left (by have := hp.1; omega)]; exact h1, h2⟩
  · rw [List.getElem?_append_right h] at hy
    have : i - M.length = 0 := by
      cases hk : i - M.length with
      | zero => rfl
      | succ n => rw [hk] at hy; simp at hy
    rw [this] at hy
    simp only [List.getElem?_cons_zero, Option.some.injEq] at hy
    subst hy
    refine ⟨r, ?_, hx⟩
    rw [List.getElem?_append_right (by have := hp.1; omega), show i - R.length = 0 by have := hp.1; omega]
    rfl
theorem PQ.nil (C : Mem) : PQ [] [] C := ⟨rfl, fun i x h => by simp at h⟩
/-! What named slices are. -/
theorem hd_raw {N : Names} {k : Nat} {l : Hds} {y : Value} {D : Nat → Prop} {w : World} (ho : OR N k (rP l) D w) (hy : VR N (sP k l.length) y) : ∃ a c, y = .slice (some a) l.length c ∧ HAt (memOn D w) (some a) l := by
  obtain ⟨lo, x, c, h1, rfl, h3⟩ := slice_raw hy
  obtain ⟨lo', h1', h0, h2⟩ := row_mem (f := encP) (m := 2) encP_len ho
  rw [h1] at h1'
  cases h1'
  refine ⟨_, _, rfl, fun i p hi => ⟨_, rfl, ?_⟩⟩
  have hil := (List.getElem?_eq_some_iff.1 hi).1
  rw [h3 (by omega), h0]
  exact h2 i p hi
theorem bd_raw {N : Names} {k : Nat} {l : List UInt8} {y : Value} {D : Nat → Prop} {w : World} (ho : OR N k (rB l) D w) (hy : VR N (sB k l.length) y) : ∃ a c, y = .slice (some a) l.length c ∧ BAt (memOn D w) a l := by
  obtain ⟨lo, x, c, h1, rfl, h3⟩ := slice_raw hy
  obtain ⟨lo', h1', h0, h2⟩ := row_mem (f := encB) (m := 1) encB_len ho
  rw [h1] at h1'
  cases h1'
  refine ⟨_, _, rfl, fun i b hi => ?_⟩
  have hil := (List.getElem?_eq_some_iff.1 hi).1
  rw [h3 (by omega), h0]
  have := h2 i b hi 0 (.int .u8 b.toNat) rfl
  rw [Nat.mul_one, addr_at] at this
  have e : ∀ (bl n : Nat), ((Addr.mk bl 0 none).add n) = Addr.mk bl (n + 0) none := fun bl n => by
    have := addr_at bl n 0
    rw [← this]
    rfl
  rw [e]
  exact this
/-! Many, taken as one. -/
def outL (M : List Rqm) (R : List Rqr) : LH := [(0, .cells (rowV encQ R) tRqs), (1000, .any (frz (PQ R M)))]
def outO (M : List Rqm) : AO := .own .nothing (exHP (fun R : List Rqr => R.length = M.length) (outL M))
def outN (P : AO) (R : List Rqr) (M : List Rqm) : LH := [(1, P), (1000, .any (frz (PQ R M))), (1001, .cells (rowV encQ R) tRqs)]
theorem outL_own (M : List Rqm) (H0 : LH) (h : (getO H0 0).isNone = true ∧ (getO H0 1000).isNone = true ∧ namesLt 1100 H0 = true) (R : List Rqr) : Eng.ownL H0 (outL M R) = true := by
  obtain ⟨h1, h2, h3⟩ := h
  unfold Eng.ownL outL
  simp only [List.all_cons, List.all_nil, h1, h2, h3, Bool.and_true]
  rfl
theorem outL_cl (M : List Rqm) (R : List Rqr) : ∀ x ∈ outL M R, x.2.cl (kH (outL M R)) := all_cons (cls_rowV _ _) (all_cons trivial all_nil)
theorem out_core {M : List Rqm} {R : List Rqr} {N1 : Names} {i : Nat} {Di Dk : Nat → Prop} {w : World} (h : OR N1 i (.cells (rowV encQ R) tRqs) Di w) (hp : PQ R M (memOn Dk w)) (hlt : ∀ b, Dk b → b < w.heap.size) (hd : ∀ b, Di b → ¬ Dk b) : OR N1 i (outO M) (fun x => Di x ∨ Dk x) w := by
  obtain ⟨l, arr, fz, h1, h2, h3, h4, h5, h6, h7, h8⟩ := h
  obtain ⟨z0, z1⟩ := h8 (Nat.mul_mod_right 2 _)
  refine ⟨l, h1, z0, R, hp.1, fun k => if k = 0 then some l else none, fun k => if k = 0 then Di else Dk, ?_, fun k o hk => ?_, fun j k o o' hj hk hjk => ?_, fun x => ⟨?_, ?_⟩⟩
  · show some l = _
    cases l; cases z0; rfl
  · simp only [outL, getO] at hk
    by_cases e : k = 0
    · subst e
      simp only [if_true] at hk ⊢
      cases hk
      exact ⟨l, arr, fz, rfl, h2, h3, h4, h5, h6, by
        have := VRs.of_vmap h7
        rw [this]
        exact VRs.vmap _, h8⟩
    · simp only [e, if_false] at hk ⊢
      by_cases e2 : k = 1000
      · subst e2
        simp only [if_true] at hk
        cases hk
        exact ⟨hp, hlt⟩
      · simp only [e2, if_false] at hk
        cases hk
  · have key : ∀ k o, getO (outL M R) k = some o → k = 0 ∨ k = 1000 := fun k o hk => by
      simp only [outL, getO] at hk
      by_cases e : k = 0
      · exact .inl e
      · simp only [e, if_false] at hk
        by_cases e2 : k = 1000
        · exact .inr e2
        · simp only [e2, if_false] at hk
          cases hk
    rcases key j o hj with rfl | rfl <;> rcases key k o' hk with rfl | rfl
    · exact absurd rfl hjk
    · exact fun x hx hx' => hd x hx hx'
    · exact fun x hx hx' => hd x hx' hx
    · exact absurd rfl hjk
  · rintro (hx | hx)
    · exact ⟨0, _, rfl, hx⟩
    · exact ⟨1000, _, rfl, hx⟩
  · rintro ⟨k, o, hk, hx⟩
    by_cases e : k = 0
    · subst e; exact .inl hx
    · simp only [e, if_false] at hx
      exact .inr hx
theorem out_nil : OW (.cells [] tRqs) (outO []) := fun N i D w h => by
  have := out_core (M := []) (R := []) (Dk := fun _ => False) h (PQ.nil _) (fun _ h => h.elim) (fun _ _ h => h)
  have e : (fun x => D x ∨ False) = D := funext fun x => propext ⟨fun h => h.elim id False.elim, .inl⟩
  rwa [e] at this
def QQ (x : Rqm) (c : List Value) (C : Mem) : Prop := ∃ r : Rqr, c = encQ r ∧ QAt C x r
theorem encQ_inj {r r' : Rqr} (h : encQ r = encQ r') : r = r' := by
  obtain ⟨a, b, c, d, e, f, g, i⟩ := r
  obtain ⟨a', b', c', d', e', f', g', i'⟩ := r'
  simp only [encQ, List.cons.injEq, Value.string.injEq, Value.slice.injEq, Option.some.injEq, and_true] at h
  obtain ⟨rfl, rfl, ⟨rfl, rfl, rfl⟩, rfl, rfl, rfl⟩ := h
  rfl
theorem fourV {N : Names} {m t : ByteArray} {HV BV : AV} {yb : List Value} (h : VRs N [sv m, sv t, HV, BV] yb) : ∃ yl yt, VR N HV yl ∧ VR N BV yt ∧ yb = [.string m, .string t, yl, yt] := by
  obtain ⟨y0, r0, a0, h, rfl⟩ := h
  obtain ⟨y1, r1, a1, h, rfl⟩ := h
  obtain ⟨y2, r2, a2, h, rfl⟩ := h
  obtain ⟨y3, r3, a3, h, rfl⟩ := h
  have h : r3 = [] := h
  subst h
  have a0 : y0 = .string m := VR_v.1 a0
  have a1 : y1 = .string t := VR_v.1 a1
  subst a0 a1
  exact ⟨y2, y3, a2, a3, rfl⟩
theorem core_rq {N1 : Names} {H : LH} {D : Nat → Nat → Prop} {w : World} {m t : ByteArray} {L : Hds} {B : List UInt8} {HV : AV} {kb : Nat} {DD : Nat → Prop}
    (hD : ∀ n o, getO H n = some o → OR N1 n o (D n) w) (hkb : getO H kb = some (rB B)) (hDb : ∀ b, D kb b → DD b)
    (hHV : ∀ y, VR N1 HV y → ∃ a c, y = .slice a L.length c ∧ HAt (memOn DD w) a L ∧ HNil a c L) :
    ∀ yb, VRs N1 [sv m, sv t, HV, sB kb B.length] yb → ∃ c : List Value, c.length = 4 ∧ VRs N1 (vmap c) yb ∧ QQ ((m, t, L), B) c (memOn DD w) := by
  intro yb hy
  obtain ⟨yl, yt, a1, a2, rfl⟩ := fourV hy
  obtain ⟨la, lc, rfl, b1, b3⟩ := hHV yl a1
  obtain ⟨ta, tc, rfl, b2⟩ := bd_raw (hD kb _ hkb) a2
  exact ⟨_, rfl, VRs.vmap _, ⟨m, t, la, L.length, lc, ta, B.length, tc⟩, rfl, rfl, rfl, rfl, rfl, b1, b2.mono (memOn_mono hDb), b3⟩
theorem nil_raw {N1 : Names} {C : Mem} : ∀ y, VR N1 nilP y → ∃ a c, y = .slice a ([] : Hds).length c ∧ HAt C a [] ∧ HNil a c [] := by
  intro y hy
  have := VR_v.1 hy
  subst this
  exact ⟨_, _, rfl, (fun i p h => by simp at h), fun _ => ⟨rfl, rfl⟩, fun h => absurd rfl h⟩
theorem hdr_raw {N1 : Names} {H : LH} {D : Nat → Nat → Prop} {w : World} {kl : Nat} {l : Hds} {DD : Nat → Prop} (hD : ∀ n o, getO H n = some o → OR N1 n o (D n) w) (hkl : getO H kl = some (rP l)) (hDl : ∀ b, D kl b → DD b) (hne : l ≠ []) :
    ∀ y, VR N1 (sP kl l.length) y → ∃ a c, y = .slice a l.length c ∧ HAt (memOn DD w) a l ∧ HNil a c l := by
  intro y hy
  obtain ⟨la, lc, e, h⟩ := hd_raw (hD kl _ hkl) hy
  exact ⟨_, lc, e, h.mono (memOn_mono hDl), fun h => absurd h hne, fun _ => ⟨la, rfl⟩⟩
theorem row_snoc (R : List Rqr) (r : Rqr) : rowV encQ R ++ vmap (encQ r) = rowV encQ (R ++ [r]) := by
  rw [rowV_append]
  rfl
theorem out_add {W0 w : World} {F : HP} {N : Names} {R : List Rqr} {M : List Rqm} {m t : ByteArray} {L : Hds} (hne : L ≠ []) {B : List UInt8} {P : AO} {vs : List AV} {ys : List Value} (hP : ∀ K, P.cl K) (hv : ∀ K : Nat → Bool, (∀ n, n < 1000 → K n = true) → K 1001 = true → AV.cls K vs)
    (hs : St W0 F N [(1, P), (1000, .any (frz (PQ R M))), (1001, .cells (rowV encQ R ++ [sv m, sv t, sP 1002 L.length, sB 1003 B.length]) tRqs), (1002, rP L), (1003, rB B)] vs ys w) :
    ∃ r : Rqr, St W0 F N (outN P (R ++ [r]) (M ++ [((m, t, L), B)])) vs ys w := by
  obtain ⟨c, ⟨C, ⟨r, hc, _⟩, _⟩, hgo⟩ := st_abs (by rfl) hs 1001 1000 [1002, 1003] (by decide) (by decide) (by decide) rfl rfl (fun N1 D w h => h.2) (fun c C => QQ ((m, t, L), B) c C ∧ PQ R M C) (fun N1 D hD yb hy => by
    have hk : PQ R M (memOn (D 1000) w) := (hD 1000 _ rfl).1
    obtain ⟨c, c1, c2, c3⟩ := core_rq (kb := 1003) (DD := fun x => D 1000 x ∨ ∃ j, j ∈ [1002, 1003] ∧ (∃ o, getO [(1, P), (1000, AO.any (frz (PQ R M))), (1001, AO.cells (rowV encQ R ++ [sv m, sv t, sP 1002 L.length, sB 1003 B.length]) tRqs), (1002, rP L), (1003, rB B)] j = some o) ∧ D j x) hD rfl (fun b hb => .inr ⟨1003, by decide, ⟨_, rfl⟩, hb⟩) (hdr_raw (kl := 1002) hD rfl (fun b hb => .inr ⟨1002, by decide, ⟨_, rfl⟩, hb⟩) hne) yb hy
    exact ⟨c, c1, c2, c3, hk.mono (memOn_mono fun b hb => .inl hb)⟩)
  refine ⟨r, hgo (outN P (R ++ [r]) (M ++ [((m, t, L), B)])) (PQ (R ++ [r]) (M ++ [((m, t, L), B)])) (by rfl) ?_ rfl ?_ ?_ (hv _ (fun n hn => by simp [Nat.blt_eq, hn]) rfl) ?_⟩
  · rw [hc, row_snoc]; rfl
  · rintro C ⟨⟨r', h1, h2⟩, h3⟩
    have := encQ_inj (hc.symm.trans h1)
    subst this
    exact h3.add h2
  · intro n o h1 h2 hn
    simp only [outN, getO, h1, h2, if_false] at hn
    by_cases e : n = 1
    · subst e
      simp only [if_true] at hn
      cases hn
      exact ⟨by decide, rfl⟩
    · simp only [e, if_false] at hn
      cases hn
  · exact all_cons (hP _) (all_cons trivial (all_cons (cls_rowV _ _) all_nil))
theorem out_add0 {W0 w : World} {F : HP} {N : Names} {R : List Rqr} {M : List Rqm} {m t : ByteArray} {B : List UInt8} {P : AO} {vs : List AV} {ys : List Value} (hP : ∀ K, P.cl K) (hv : ∀ K : Nat → Bool, (∀ n, n < 1000 → K n = true) → K 1001 = true → AV.cls K vs)
    (hs : St W0 F N [(1, P), (1000, .any (frz (PQ R M))), (1001, .cells (rowV encQ R ++ [sv m, sv t, nilP, sB 1003 B.length]) tRqs), (1003, rB B)] vs ys w) :
    ∃ r : Rqr, St W0 F N (outN P (R ++ [r]) (M ++ [((m, t, []), B)])) vs ys w := by
  obtain ⟨c, ⟨C, ⟨r, hc, _⟩, _⟩, hgo⟩ := st_abs (by rfl) hs 1001 1000 [1003] (by decide) (by decide) (by decide) rfl rfl (fun N1 D w h => h.2) (fun c C => QQ ((m, t, []), B) c C ∧ PQ R M C) (fun N1 D hD yb hy => by
    have hk : PQ R M (memOn (D 1000) w) := (hD 1000 _ rfl).1
    obtain ⟨c, c1, c2, c3⟩ := core_rq (kb := 1003) (DD := fun x => D 1000 x ∨ ∃ j, j ∈ [1003] ∧ (∃ o, getO [(1, P), (1000, AO.any (frz (PQ R M))), (1001, AO.cells (rowV encQ R ++ [sv m, sv t, nilP, sB 1003 B.length]) tRqs), (1003, rB B)] j = some o) ∧ D j x) hD rfl (fun b hb => .inr ⟨1003, by decide, ⟨_, rfl⟩, hb⟩) nil_raw yb hy
    exact ⟨c, c1, c2, c3, hk.mono (memOn_mono fun b hb => .inl hb)⟩)
  refine ⟨r, hgo (outN P (R ++ [r]) (M ++ [((m, t, []), B)])) (PQ (R ++ [r]) (M ++ [((m, t, []), B)])) (by rfl) ?_ rfl ?_ ?_ (hv _ (fun n hn => by simp [Nat.blt_eq, hn]) rfl) ?_⟩
  · rw [hc, row_snoc]; rfl
  · rintro C ⟨⟨r', h1, h2⟩, h3⟩
    have := encQ_inj (hc.symm.trans h1)
    subst this
    exact h3.add h2
  · intro n o h1 h2 hn
    simp only [outN, getO, h1, h2, if_false] at hn
    by_cases e : n = 1
    · subst e
      simp only [if_true] at hn
      cases hn
      exact ⟨by decide, rfl⟩
    · simp only [e, if_false] at hn
      cases hn
  · exact all_cons (hP _) (all_cons trivial (all_cons (cls_rowV _ _) all_nil))
end
end Go.Proofs.YtpijbbobejeemaaGreatDoor.Htp

/- Http: a parser whole; renaming. No program's step. -/
set_option linter.unusedVariables false
set_option linter.unusedSimpArgs false
set_option maxRecDepth 100000
namespace Go.Proofs.YtpijbbobejeemaaGreatDoor.Htp
open Go Go.RowKit Go.Proofs.YtpijbbobejeemaaGreatDoor.Eng Go.Proofs.YtpijbbobejeemaaGreatDoor.Kit Go.Proofs.YtpijbbobejeemaaGreatDoor.Tree
noncomputable section
theorem ow_mark {x : List AV} {t : TypeId} : OW (.cells x (2 * t)) (.cells x (2 * t + 1)) := fun N i D w h => by
  obtain ⟨l, arr, fz, h1, h2, h3, h4, h5, h6, h7, h8⟩ := h
  refine ⟨l, arr, fz, h1, h2, ?_, h4, h5, h6, h7, fun e => ?_⟩
  · have e : ∀ n : Nat, (2 * n + 1) / 2 = 2 * n / 2 := fun n => by omega
    rw [e t]; exact h3
  · have e2 : ∀ n : Nat, (2 * n + 1) % 2 = 1 := fun n => by omega
    rw [e2 t] at e; cases e
theorem rB_rB1 (l : List UInt8) : OW (rB l) (rB1 l) := ow_mark
def parL : Option (List UInt8 × Nat × Nat) → LH
  | none => [(0, pZ)]
  | some (P, off, n) => [(0, pO 1002 off n), (1002, rB1 P)]
def parR (w : List UInt8) : Option (List UInt8 × Nat × Nat) → Prop
  | none => w = []
  | some (P, off, n) => P.drop off = w ∧ n = w.length ∧ off + n = P.length
def parO (w : List UInt8) : AO := .own .nothing (exHP (parR w) parL)
theorem parL_cl (z : Option (List UInt8 × Nat × Nat)) : ∀ x ∈ parL z, x.2.cl (kH (parL z)) := by
  cases z with
  | none => exact all_cons ⟨trivial, trivial⟩ all_nil
  | some z => exact all_cons ⟨rfl, trivial⟩ (all_cons (rB1_cl _ _) all_nil)
theorem parL_root (z : Option (List UInt8 × Nat × Nat)) : ∃ o, getO (parL z) 0 = some o := by cases z <;> exact ⟨_, rfl⟩
theorem parL_own (H0 : LH) (h : (getO H0 0).isNone = true ∧ (getO H0 1002).isNone = true ∧ namesLt 1100 H0 = true) (z : Option (List UInt8 × Nat × Nat)) : Eng.ownL H0 (parL z) = true := by
  obtain ⟨h1, h2, h3⟩ := h
  cases z with
  | none =>
    unfold Eng.ownL parL
    simp only [List.all_cons, List.all_nil, h1, h2, h3, Bool.and_true]
    rfl
  | some z =>
    unfold Eng.ownL parL
    simp only [List.all_cons, List.all_nil, h1, h2, h3, Bool.and_true]
    rfl
theorem open_par {W : World} {f : FuncId} {A : List AV} {w : List UInt8} {H0 : LH} (h : (getO H0 0).isNone = true ∧ (getO H0 1002).isNone = true ∧ namesLt 1100 H0 = true) {v : AV} {H' : LH} (h0 : w = [] → Tri Tryz.prog W f A ((0, pZ) :: H0) v H')
    (h1 : ∀ P off, P.drop off = w → off + w.length = P.length → Tri Tryz.prog W f A ((0, pO 1002 off w.length) :: (1002, rB1 P) :: H0) v H') : Tri Tryz.prog W f A ((0, parO w) :: H0) v H' :=
  Tri.open (R := parR w) (L := parL) (H0 := H0) (parL_own H0 h) parL_cl parL_root fun z hz => by
    cases z with
    | none => exact h0 hz
    | some z =>
      obtain ⟨P, off, n⟩ := z
      obtain ⟨q1, rfl, q3⟩ := hz
      exact h1 P off q1 q3
theorem shut_par {w P : List UInt8} {off : Nat} {H0 : LH} {vs : List AV} (h : (getO H0 0).isNone = true ∧ (getO H0 1002).isNone = true ∧ namesLt 1100 H0 = true) (h1 : P.drop off = w) (h2 : off + w.length = P.length) (hv : AV.cls (fun i => Nat.blt i 1000 || (getO H0 i).isSome) vs)
    (ho : ∀ x ∈ H0, x.2.cl (fun i => Nat.blt i 1000 || (getO H0 i).isSome)) : Goes vs ((0, pO 1002 off w.length) :: (1002, rB1 P) :: H0) vs ((0, parO w) :: H0) :=
  Goes.shut (R := parR w) (L := parL) (m := .nothing) (H0 := H0) (some (P, off, w.length)) ⟨h1, rfl, h2⟩ (parL_own H0 h _) ⟨_, _, rfl, rfl⟩ hv ho
theorem shut_par0 {H0 : LH} {vs : List AV} (h : (getO H0 0).isNone = true ∧ (getO H0 1002).isNone = true ∧ namesLt 1100 H0 = true) (hv : AV.cls (fun i => Nat.blt i 1000 || (getO H0 i).isSome) vs)
    (ho : ∀ x ∈ H0, x.2.cl (fun i => Nat.blt i 1000 || (getO H0 i).isSome)) : Goes vs ((0, pZ) :: H0) vs ((0, parO []) :: H0) :=
  Goes.shut (R := parR []) (L := parL) (m := .nothing) (H0 := H0) none rfl (parL_own H0 h _) ⟨_, _, rfl, rfl⟩ hv ho
theorem pZ_par : OW pZ (parO []) := fun N i D w h => by
  obtain ⟨l, arr, fz, h1, h2, h3, h4, h5, h6, h7, h8⟩ := h
  obtain ⟨z0, z1⟩ := h8 rfl
  refine ⟨l, h1, z0, none, rfl, fun k => if k = 0 then some l else none, fun _ => D, ?_, fun k o hk => ?_, fun j k o o' hj hk hjk => ?_, fun x => ⟨fun hx => ⟨0, pZ, rfl, hx⟩, fun ⟨_, _, _, hx⟩ => hx⟩⟩
  · show some l = _
    cases l; cases z0; rfl
  · simp only [parL, getO] at hk
    by_cases e : k = 0
    · subst e
      simp only [if_true] at hk
      cases hk
      obtain ⟨y, r, a0, h, e1⟩ := h7
      have a0 := VR_v.1 a0
      exact ⟨l, arr, fz, rfl, h2, h3, h4, h5, h6, ⟨y, r, VR_v.2 a0, h, e1⟩, h8⟩
    · simp only [e, if_false] at hk
      cases hk
  · exfalso
    simp only [parL, getO] at hj hk
    by_cases e : j = 0
    · by_cases e2 : k = 0
      · exact hjk (e.trans e2.symm)
      · simp only [e2, if_false] at hk; cases hk
    · simp only [e, if_false] at hj; cases hj
/-! Other names. -/
theorem Goes.ren {vs vs' : List AV} {H H' : LH} (σ : Nat → Nat) (hσ : ∀ i, i < 1000 → σ i = i) (hl : namesLt 1100 H = true) (hl' : namesLt 1100 H' = true) (hn : ∀ i, 1000 ≤ i → getO H' i = none → 1000 ≤ σ i ∧ getO H (σ i) = none) (hinj : injB (H'.map (·.1)) σ = true)
    (hf : ∀ x ∈ H', ∃ o, getO H (σ x.1) = some o ∧ OW o (x.2.ren σ)) (hv : vs = AV.rens σ vs') : Goes vs H vs' H' := by
  rintro W0 F N ys w ⟨N1, g1, g2, r, hvs⟩
  refine ⟨fun i => N1 (σ i), fun i hi => by show N1 (σ i) = N i; rw [hσ i hi]; exact g1 i hi, fun i hi hg => ?_, r.pull (lt_lim hl') hinj fun x hx => ?_, ?_⟩
  · obtain ⟨a1, a2⟩ := hn i hi hg
    exact g2 _ a1 a2
  · obtain ⟨o, h1, h2⟩ := hf x hx
    exact ⟨o, by rw [find_heapOf (lt_lim hl)]; exact h1, h2⟩
  · rw [hv] at hvs
    exact VRs_ren.1 hvs
end
end Go.Proofs.YtpijbbobejeemaaGreatDoor.Htp

/- Http: Feed: runs. -/
set_option linter.unusedVariables false
set_option linter.unusedSimpArgs false
set_option maxRecDepth 100000
namespace Go.Proofs.YtpijbbobejeemaaGreatDoor.Htp
open Go Go.RowKit Go.Proofs.YtpijbbobejeemaaGreatDoor.Eng Go.Proofs.YtpijbbobejeemaaGreatDoor.Kit
noncomputable section
abbrev fFeed : Nat := 10
def kFe : List Nat := [0, 1001, 1002, 1100, 1101]
theorem oFeZ_eq (x : List UInt8) (n : Nat) (F : HP) : wRun [] noHints [] default fFeed [.ptr 0 0, sB 1001 n] [(0, pZ), (1001, rB x)] kFe F = VT.leaf (AV.tuple []) [some (AO.cells [AV.slice 1100 0 n 1 (Cp.lo n)] 122), some (AO.cells (rowV encB x) 10), none, some (AO.cells (List.take (n * 1) (List.drop 0 (rowV encB x))) 10), none] 1101 (((Cnd.p (true = true)).a Cnd.t).a (((Cnd.p (n.ble n = true)).a ((Cnd.p ((List.take (n * 1) (List.drop 0 (rowV encB x))).length.beq (n * 1) = true)).a ((Cnd.p ((List.take (n * 1) (List.drop 0 (rowV encB x))).all AV.one = true)).a ((Cnd.p (Nat.blt 0 n = true)).a ((Cnd.p ((n * 1).ble 140737488355328 = true)).a ((Cnd.p (n.ble 9223372036854775807 = true)).a Cnd.t)))))).a (((Cnd.p (true = true)).a Cnd.t).a Cnd.t))) := by kernel_rfl
theorem oFeZ0_eq (F : HP) : wRun [] (hintL [(fFeed, 0, 6, h0)]) [] default fFeed [.ptr 0 0, sB 1001 0] [(0, pZ), (1001, rB [])] kFe F = VT.leaf (AV.tuple []) [some (AO.cells [AV.v (Value.slice none 0 0)] 122), some (AO.cells [] 10), none, none, none] 1100 (((Cnd.p (true = true)).a Cnd.t).a (((Cnd.p (0 = 0)).a Cnd.t).a (((Cnd.p (true = true)).a Cnd.t).a Cnd.t))) := by kernel_rfl
theorem oFeR_eq (P x : List UInt8) (off len n : Nat) (F : HP) : wRun [] noHints [] default fFeed [.ptr 0 0, sB 1001 n] [(0, pO 1002 off len), (1002, rB1 P), (1001, rB x)] kFe F = VT.leaf (AV.tuple []) [some (AO.cells [AV.slice 1100 0 (len + n) 1 (Cp.lo (len + n))] 122), some (AO.cells (rowV encB x) 10), none, some (AO.cells (List.take (len * 1) (List.drop off (rowV encB P)) ++ List.take (n * 1) (List.drop 0 (rowV encB x))) (moved off 11)), none] 1101 (((Cnd.p (true = true)).a Cnd.t).a (((Cnd.p (n.ble n = true)).a ((Cnd.p ((List.take (n * 1) (List.drop 0 (rowV encB x))).length.beq (n * 1) = true)).a ((Cnd.p ((List.take (n * 1) (List.drop 0 (rowV encB x))).all AV.one = true)).a ((Cnd.p (Nat.blt 0 n = true)).a ((Cnd.p ((off + len * 1).ble (rowV encB P).length = true)).a ((Cnd.p (((len + n) * 1).ble 140737488355328 = true)).a ((Cnd.p ((len + n).ble 9223372036854775807 = true)).a ((Cnd.p ((List.take (len * 1) (List.drop off (rowV encB P))).length.beq (len * 1) = true)).a Cnd.t)))))))).a (((Cnd.p (true = true)).a Cnd.t).a Cnd.t))) := by kernel_rfl
theorem oFeR0_eq (P : List UInt8) (off len : Nat) (F : HP) : wRun [] (hintL [(fFeed, 0, 6, h0)]) [] default fFeed [.ptr 0 0, sB 1001 0] [(0, pO 1002 off len), (1002, rB1 P), (1001, rB [])] kFe F = VT.leaf (AV.tuple []) [some (AO.cells [AV.slice 1002 off len 1 (Cp.lo len)] 122), some (AO.cells [] 10), some (AO.cells (rowV encB P) 11), none, none] 1100 (((Cnd.p (true = true)).a Cnd.t).a (((Cnd.p (0 = 0)).a Cnd.t).a (((Cnd.p (true = true)).a Cnd.t).a Cnd.t))) := by kernel_rfl
end
end Go.Proofs.YtpijbbobejeemaaGreatDoor.Htp

/- Http: line, header, length: runs. -/
set_option linter.unusedVariables false
set_option linter.unusedSimpArgs false
set_option maxRecDepth 100000
namespace Go.Proofs.YtpijbbobejeemaaGreatDoor.Htp
open Go Go.RowKit Go.Proofs.YtpijbbobejeemaaGreatDoor.Eng Go.Proofs.YtpijbbobejeemaaGreatDoor.Kit
noncomputable section
abbrev fLine : Nat := 28
abbrev fHdr : Nat := 29
abbrev fLen : Nat := 30
abbrev tReq : TypeId := 2 * 32
def rqO (m t : ByteArray) (h b : AV) : AO := .cells [sv m, sv t, h, b] tReq
/-! line -/
def hLn (s a b c : ByteArray) (L : List ByteArray) (n : Nat) (b1 b2 b3 b4 b5 b6 b7 r : Bool) : ClaimT := hintL [(fLine, 1, 1, hvo (sB 1100 n) 1100 (rS L)), (fLine, 2, 2, hv (.lit b1)), (fLine, 2, 6, hv (sv a)), (fLine, 2, 7, hv (.lit b2)), (fLine, 2, 12, hv (sv a)), (fLine, 2, 14, hv (.lit b3)), (fLine, 2, 19, hv (sv a)), (fLine, 2, 21, hv (.lit b4)), (fLine, 2, 26, hv (sv b)), (fLine, 2, 28, hv (.lit b5)), (fLine, 2, 33, hv (sv b)), (fLine, 2, 35, hv (.lit b6)), (fLine, 2, 40, hv (sv c)), (fLine, 2, 41, hv (.lit b7)), (fLine, 2, 42, hv (.lit r)), (fLine, 4, 4, hv (sv a)), (fLine, 4, 7, hv (sv b))]
def cnLn : ConsL := [(fSplit, cSplt), (fAll, cAll), (fHPre, cHPre)]
theorem oLn1_eq (W : World) (s : ByteArray) (L : List ByteArray) (n : Nat) (F : HP) : wRun cnLn (hLn s s s s L n true false false false false false false true) [] W fLine [sv s, .ptr 0 0] [(0, rqO nil0 nil0 nilP nilB)] [0] F = VT.leaf (AV.v (Value.bool false)) [some (AO.cells [AV.v (Value.string nil0), AV.v (Value.string nil0), AV.v (Value.slice none 0 0), AV.v (Value.slice none 0 0)] 64)] 1101 (((Cnd.p (1 ≤ 1 ∧ s.size < 4294967281)).a ((Cnd.p (OW (AO.cells (vmap (List.map Value.string (splB s (ByteArray.mk (Array.mk [32]))))) 18) (AO.cells (rowV encS L) 18))).a ((Cnd.p (Wk (AV.slice 1100 0 (List.map Value.string (splB s (ByteArray.mk (Array.mk [32])))).length 1 (Cp.lo (List.map Value.string (splB s (ByteArray.mk (Array.mk [32])))).length)) (AV.slice 1100 0 n 1 (Cp.lo n)))).a Cnd.t))).a (((Cnd.p (Wk (AV.v (Value.bool (↑n != Int.ofNat 3))) (AV.lit true))).a Cnd.t).a (((Cnd.p (Wk (AV.lit true) (AV.lit true))).a Cnd.t).a Cnd.t))) := by kernel_rfl
theorem oLn2_eq (W : World) (s a b c : ByteArray) (F : HP) : wRun cnLn (hLn s a b c [a, b, c] 3 false true false false false false false true) [] W fLine [sv s, .ptr 0 0] [(0, rqO nil0 nil0 nilP nilB)] [0] F = VT.leaf (AV.v (Value.bool false)) [some (AO.cells [AV.v (Value.string nil0), AV.v (Value.string nil0), AV.v (Value.slice none 0 0), AV.v (Value.slice none 0 0)] 64)] 1101 (((Cnd.p (1 ≤ 1 ∧ s.size < 4294967281)).a ((Cnd.p (OW (AO.cells (vmap (List.map Value.string (splB s (ByteArray.mk (Array.mk [32]))))) 18) (AO.cells [AV.v (Value.string a), AV.v (Value.string b), AV.v (Value.string c)] 18))).a ((Cnd.p (Wk (AV.slice 1100 0 (List.map Value.string (splB s (ByteArray.mk (Array.mk [32])))).length 1 (Cp.lo (List.map Value.string (splB s (ByteArray.mk (Array.mk [32])))).length)) (AV.slice 1100 0 3 1 (Cp.lo 3)))).a Cnd.t))).a (((Cnd.p (Wk (AV.v (Value.bool false)) (AV.lit false))).a Cnd.t).a (((Cnd.p (true = true)).a Cnd.t).a (((Cnd.p (true = true)).a ((Cnd.p (AV.v (Value.string a) = AV.v (Value.string a))).a ((Cnd.p (Wk (AV.v (Value.string a)) (AV.v (Value.string a)))).a Cnd.t))).a (((Cnd.p (Wk (AV.v (Value.bool (a.toList == []))) (AV.lit true))).a Cnd.t).a (((Cnd.p (Wk (AV.lit true) (AV.lit true))).a Cnd.t).a Cnd.t)))))) := by kernel_rfl
theorem oLn3_eq (W : World) (s a b c : ByteArray) (F : HP) : wRun cnLn (hLn s a b c [a, b, c] 3 false false true false false false false true) [] W fLine [sv s, .ptr 0 0] [(0, rqO nil0 nil0 nilP nilB)] [0] F = VT.leaf (AV.v (Value.bool false)) [some (AO.cells [AV.v (Value.string nil0), AV.v (Value.string nil0), AV.v (Value.slice none 0 0), AV.v (Value.slice none 0 0)] 64)] 1101 (((Cnd.p (1 ≤ 1 ∧ s.size < 4294967281)).a ((Cnd.p (OW (AO.cells (vmap (List.map Value.string (splB s (ByteArray.mk (Array.mk [32]))))) 18) (AO.cells [AV.v (Value.string a), AV.v (Value.string b), AV.v (Value.string c)] 18))).a ((Cnd.p (Wk (AV.slice 1100 0 (List.map Value.string (splB s (ByteArray.mk (Array.mk [32])))).length 1 (Cp.lo (List.map Value.string (splB s (ByteArray.mk (Array.mk [32])))).length)) (AV.slice 1100 0 3 1 (Cp.lo 3)))).a Cnd.t))).a (((Cnd.p (Wk (AV.v (Value.bool false)) (AV.lit false))).a Cnd.t).a (((Cnd.p (true = true)).a Cnd.t).a (((Cnd.p (true = true)).a ((Cnd.p (AV.v (Value.string a) = AV.v (Value.string a))).a ((Cnd.p (Wk (AV.v (Value.string a)) (AV.v (Value.string a)))).a Cnd.t))).a (((Cnd.p (Wk (AV.v (Value.bool (a.toList == []))) (AV.lit false))).a Cnd.t).a (((Cnd.p (true = true)).a Cnd.t).a (((Cnd.p (true = true)).a ((Cnd.p (AV.v (Value.string a) = AV.v (Value.string a))).a ((Cnd.p (Wk (AV.v (Value.string a)) (AV.v (Value.string a)))).a Cnd.t))).a (((Cnd.p (Wk (AV.v (Value.bool (decide (↑a.size > Int.ofNat 20)))) (AV.lit true))).a Cnd.t).a (((Cnd.p (Wk (AV.lit true) (AV.lit true))).a Cnd.t).a Cnd.t))))))))) := by kernel_rfl
theorem oLn4_eq (W : World) (s a b c : ByteArray) (F : HP) : wRun cnLn (hLn s a b c [a, b, c] 3 false false false true false false false true) [] W fLine [sv s, .ptr 0 0] [(0, rqO nil0 nil0 nilP nilB)] [0] F = VT.leaf (AV.v (Value.bool false)) [some (AO.cells [AV.v (Value.string nil0), AV.v (Value.string nil0), AV.v (Value.slice none 0 0), AV.v (Value.slice none 0 0)] 64)] 1101 (((Cnd.p (1 ≤ 1 ∧ s.size < 4294967281)).a ((Cnd.p (OW (AO.cells (vmap (List.map Value.string (splB s (ByteArray.mk (Array.mk [32]))))) 18) (AO.cells [AV.v (Value.string a), AV.v (Value.string b), AV.v (Value.string c)] 18))).a ((Cnd.p (Wk (AV.slice 1100 0 (List.map Value.string (splB s (ByteArray.mk (Array.mk [32])))).length 1 (Cp.lo (List.map Value.string (splB s (ByteArray.mk (Array.mk [32])))).length)) (AV.slice 1100 0 3 1 (Cp.lo 3)))).a Cnd.t))).a (((Cnd.p (Wk (AV.v (Value.bool false)) (AV.lit false))).a Cnd.t).a (((Cnd.p (true = true)).a Cnd.t).a (((Cnd.p (true = true)).a ((Cnd.p (AV.v (Value.string a) = AV.v (Value.string a))).a ((Cnd.p (Wk (AV.v (Value.string a)) (AV.v (Value.string a)))).a Cnd.t))).a (((Cnd.p (Wk (AV.v (Value.bool (a.toList == []))) (AV.lit false))).a Cnd.t).a (((Cnd.p (true = true)).a Cnd.t).a (((Cnd.p (true = true)).a ((Cnd.p (AV.v (Value.string a) = AV.v (Value.string a))).a ((Cnd.p (Wk (AV.v (Value.string a)) (AV.v (Value.string a)))).a Cnd.t))).a (((Cnd.p (Wk (AV.v (Value.bool (decide (↑a.size > Int.ofNat 20)))) (AV.lit false))).a Cnd.t).a (((Cnd.p (true = true)).a Cnd.t).a (((Cnd.p (true = true)).a ((Cnd.p (AV.v (Value.string a) = AV.v (Value.string a))).a ((Cnd.p (Wk (AV.v (Value.string a)) (AV.v (Value.string a)))).a Cnd.t))).a (((Cnd.p (Five 53 ∧ a.size ≤ 4000000)).a Cnd.t).a (((Cnd.p (Wk (AV.v (Value.bool !qIn 53 a)) (AV.lit true))).a Cnd.t).a (((Cnd.p (Wk (AV.lit true) (AV.lit true))).a Cnd.t).a Cnd.t))))))))))))) := by kernel_rfl
theorem oLn5_eq (W : World) (s a b c : ByteArray) (F : HP) : wRun cnLn (hLn s a b c [a, b, c] 3 false false false false true false false true) [] W fLine [sv s, .ptr 0 0] [(0, rqO nil0 nil0 nilP nilB)] [0] F = VT.leaf (AV.v (Value.bool false)) [some (AO.cells [AV.v (Value.string nil0), AV.v (Value.string nil0), AV.v (Value.slice none 0 0), AV.v (Value.slice none 0 0)] 64)] 1101 (((Cnd.p (1 ≤ 1 ∧ s.size < 4294967281)).a ((Cnd.p (OW (AO.cells (vmap (List.map Value.string (splB s (ByteArray.mk (Array.mk [32]))))) 18) (AO.cells [AV.v (Value.string a), AV.v (Value.string b), AV.v (Value.string c)] 18))).a ((Cnd.p (Wk (AV.slice 1100 0 (List.map Value.string (splB s (ByteArray.mk (Array.mk [32])))).length 1 (Cp.lo (List.map Value.string (splB s (ByteArray.mk (Array.mk [32])))).length)) (AV.slice 1100 0 3 1 (Cp.lo 3)))).a Cnd.t))).a (((Cnd.p (Wk (AV.v (Value.bool false)) (AV.lit false))).a Cnd.t).a (((Cnd.p (true = true)).a Cnd.t).a (((Cnd.p (true = true)).a ((Cnd.p (AV.v (Value.string a) = AV.v (Value.string a))).a ((Cnd.p (Wk (AV.v (Value.string a)) (AV.v (Value.string a)))).a Cnd.t))).a (((Cnd.p (Wk (AV.v (Value.bool (a.toList == []))) (AV.lit false))).a Cnd.t).a (((Cnd.p (true = true)).a Cnd.t).a (((Cnd.p (true = true)).a ((Cnd.p (AV.v (Value.string a) = AV.v (Value.string a))).a ((Cnd.p (Wk (AV.v (Value.string a)) (AV.v (Value.string a)))).a Cnd.t))).a (((Cnd.p (Wk (AV.v (Value.bool (decide (↑a.size > Int.ofNat 20)))) (AV.lit false))).a Cnd.t).a (((Cnd.p (true = true)).a Cnd.t).a (((Cnd.p (true = true)).a ((Cnd.p (AV.v (Value.string a) = AV.v (Value.string a))).a ((Cnd.p (Wk (AV.v (Value.string a)) (AV.v (Value.string a)))).a Cnd.t))).a (((Cnd.p (Five 53 ∧ a.size ≤ 4000000)).a Cnd.t).a (((Cnd.p (Wk (AV.v (Value.bool !qIn 53 a)) (AV.lit false))).a Cnd.t).a (((Cnd.p (true = true)).a Cnd.t).a (((Cnd.p (true = true)).a ((Cnd.p (AV.v (Value.string b) = AV.v (Value.string b))).a ((Cnd.p (Wk (AV.v (Value.string b)) (AV.v (Value.string b)))).a Cnd.t))).a (((Cnd.p True).a Cnd.t).a (((Cnd.p (Wk (AV.v (Value.bool !hpreB b (ByteArray.mk (Array.mk [47])))) (AV.lit true))).a Cnd.t).a (((Cnd.p (Wk (AV.lit true) (AV.lit true))).a Cnd.t).a Cnd.t))))))))))))))))) := by kernel_rfl
theorem oLn6_eq (W : World) (s a b c : ByteArray) (F : HP) : wRun cnLn (hLn s a b c [a, b, c] 3 false false false false false true false true) [] W fLine [sv s, .ptr 0 0] [(0, rqO nil0 nil0 nilP nilB)] [0] F = VT.leaf (AV.v (Value.bool false)) [some (AO.cells [AV.v (Value.string nil0), AV.v (Value.string nil0), AV.v (Value.slice none 0 0), AV.v (Value.slice none 0 0)] 64)] 1101 (((Cnd.p (1 ≤ 1 ∧ s.size < 4294967281)).a ((Cnd.p (OW (AO.cells (vmap (List.map Value.string (splB s (ByteArray.mk (Array.mk [32]))))) 18) (AO.cells [AV.v (Value.string a), AV.v (Value.string b), AV.v (Value.string c)] 18))).a ((Cnd.p (Wk (AV.slice 1100 0 (List.map Value.string (splB s (ByteArray.mk (Array.mk [32])))).length 1 (Cp.lo (List.map Value.string (splB s (ByteArray.mk (Array.mk [32])))).length)) (AV.slice 1100 0 3 1 (Cp.lo 3)))).a Cnd.t))).a (((Cnd.p (Wk (AV.v (Value.bool false)) (AV.lit false))).a Cnd.t).a (((Cnd.p (true = true)).a Cnd.t).a (((Cnd.p (true = true)).a ((Cnd.p (AV.v (Value.string a) = AV.v (Value.string a))).a ((Cnd.p (Wk (AV.v (Value.string a)) (AV.v (Value.string a)))).a Cnd.t))).a (((Cnd.p (Wk (AV.v (Value.bool (a.toList == []))) (AV.lit false))).a Cnd.t).a (((Cnd.p (true = true)).a Cnd.t).a (((Cnd.p (true = true)).a ((Cnd.p (AV.v (Value.string a) = AV.v (Value.string a))).a ((Cnd.p (Wk (AV.v (Value.string a)) (AV.v (Value.string a)))).a Cnd.t))).a (((Cnd.p (Wk (AV.v (Value.bool (decide (↑a.size > Int.ofNat 20)))) (AV.lit false))).a Cnd.t).a (((Cnd.p (true = true)).a Cnd.t).a (((Cnd.p (true = true)).a ((Cnd.p (AV.v (Value.string a) = AV.v (Value.string a))).a ((Cnd.p (Wk (AV.v (Value.string a)) (AV.v (Value.string a)))).a Cnd.t))).a (((Cnd.p (Five 53 ∧ a.size ≤ 4000000)).a Cnd.t).a (((Cnd.p (Wk (AV.v (Value.bool !qIn 53 a)) (AV.lit false))).a Cnd.t).a (((Cnd.p (true = true)).a Cnd.t).a (((Cnd.p (true = true)).a ((Cnd.p (AV.v (Value.string b) = AV.v (Value.string b))).a ((Cnd.p (Wk (AV.v (Value.string b)) (AV.v (Value.string b)))).a Cnd.t))).a (((Cnd.p True).a Cnd.t).a (((Cnd.p (Wk (AV.v (Value.bool !hpreB b (ByteArray.mk (Array.mk [47])))) (AV.lit false))).a Cnd.t).a (((Cnd.p (true = true)).a Cnd.t).a (((Cnd.p (true = true)).a ((Cnd.p (AV.v (Value.string b) = AV.v (Value.string b))).a ((Cnd.p (Wk (AV.v (Value.string b)) (AV.v (Value.string b)))).a Cnd.t))).a (((Cnd.p (Five 55 ∧ b.size ≤ 4000000)).a Cnd.t).a (((Cnd.p (Wk (AV.v (Value.bool !qIn 55 b)) (AV.lit true))).a Cnd.t).a (((Cnd.p (Wk (AV.lit true) (AV.lit true))).a Cnd.t).a Cnd.t))))))))))))))))))))) := by kernel_rfl
theorem oLn7_eq (W : World) (s a b c : ByteArray) (F : HP) : wRun cnLn (hLn s a b c [a, b, c] 3 false false false false false false true true) [] W fLine [sv s, .ptr 0 0] [(0, rqO nil0 nil0 nilP nilB)] [0] F = VT.leaf (AV.v (Value.bool false)) [some (AO.cells [AV.v (Value.string nil0), AV.v (Value.string nil0), AV.v (Value.slice none 0 0), AV.v (Value.slice none 0 0)] 64)] 1101 (((Cnd.p (1 ≤ 1 ∧ s.size < 4294967281)).a ((Cnd.p (OW (AO.cells (vmap (List.map Value.string (splB s (ByteArray.mk (Array.mk [32]))))) 18) (AO.cells [AV.v (Value.string a), AV.v (Value.string b), AV.v (Value.string c)] 18))).a ((Cnd.p (Wk (AV.slice 1100 0 (List.map Value.string (splB s (ByteArray.mk (Array.mk [32])))).length 1 (Cp.lo (List.map Value.string (splB s (ByteArray.mk (Array.mk [32])))).length)) (AV.slice 1100 0 3 1 (Cp.lo 3)))).a Cnd.t))).a (((Cnd.p (Wk (AV.v (Value.bool false)) (AV.lit false))).a Cnd.t).a (((Cnd.p (true = true)).a Cnd.t).a (((Cnd.p (true = true)).a ((Cnd.p (AV.v (Value.string a) = AV.v (Value.string a))).a ((Cnd.p (Wk (AV.v (Value.string a)) (AV.v (Value.string a)))).a Cnd.t))).a (((Cnd.p (Wk (AV.v (Value.bool (a.toList == []))) (AV.lit false))).a Cnd.t).a (((Cnd.p (true = true)).a Cnd.t).a (((Cnd.p (true = true)).a ((Cnd.p (AV.v (Value.string a) = AV.v (Value.string a))).a ((Cnd.p (Wk (AV.v (Value.string a)) (AV.v (Value.string a)))).a Cnd.t))).a (((Cnd.p (Wk (AV.v (Value.bool (decide (↑a.size > Int.ofNat 20)))) (AV.lit false))).a Cnd.t).a (((Cnd.p (true = true)).a Cnd.t).a (((Cnd.p (true = true)).a ((Cnd.p (AV.v (Value.string a) = AV.v (Value.string a))).a ((Cnd.p (Wk (AV.v (Value.string a)) (AV.v (Value.string a)))).a Cnd.t))).a (((Cnd.p (Five 53 ∧ a.size ≤ 4000000)).a Cnd.t).a (((Cnd.p (Wk (AV.v (Value.bool !qIn 53 a)) (AV.lit false))).a Cnd.t).a (((Cnd.p (true = true)).a Cnd.t).a (((Cnd.p (true = true)).a ((Cnd.p (AV.v (Value.string b) = AV.v (Value.string b))).a ((Cnd.p (Wk (AV.v (Value.string b)) (AV.v (Value.string b)))).a Cnd.t))).a (((Cnd.p True).a Cnd.t).a (((Cnd.p (Wk (AV.v (Value.bool !hpreB b (ByteArray.mk (Array.mk [47])))) (AV.lit false))).a Cnd.t).a (((Cnd.p (true = true)).a Cnd.t).a (((Cnd.p (true = true)).a ((Cnd.p (AV.v (Value.string b) = AV.v (Value.string b))).a ((Cnd.p (Wk (AV.v (Value.string b)) (AV.v (Value.string b)))).a Cnd.t))).a (((Cnd.p (Five 55 ∧ b.size ≤ 4000000)).a Cnd.t).a (((Cnd.p (Wk (AV.v (Value.bool !qIn 55 b)) (AV.lit false))).a Cnd.t).a (((Cnd.p (true = true)).a Cnd.t).a (((Cnd.p (true = true)).a ((Cnd.p (AV.v (Value.string c) = AV.v (Value.string c))).a ((Cnd.p (Wk (AV.v (Value.string c)) (AV.v (Value.string c)))).a Cnd.t))).a (((Cnd.p (Wk (AV.v (Value.bool !c.toList == [(ByteArray.mk (Array.mk [72, 84, 84, 80, 47, 49, 46, 49])).get! 0, (ByteArray.mk (Array.mk [72, 84, 84, 80, 47, 49, 46, 49])).get! 1, (ByteArray.mk (Array.mk [72, 84, 84, 80, 47, 49, 46, 49])).get! 2, (ByteArray.mk (Array.mk [72, 84, 84, 80, 47, 49, 46, 49])).get! 3, (ByteArray.mk (Array.mk [72, 84, 84, 80, 47, 49, 46, 49])).get! 4, (ByteArray.mk (Array.mk [72, 84, 84, 80, 47, 49, 46, 49])).get! 5, (ByteArray.mk (Array.mk [72, 84, 84, 80, 47, 49, 46, 49])).get! 6, (ByteArray.mk (Array.mk [72, 84, 84, 80, 47, 49, 46, 49])).get! 7])) (AV.lit true))).a Cnd.t).a (((Cnd.p (Wk (AV.lit true) (AV.lit true))).a Cnd.t).a Cnd.t)))))))))))))))))))))))) := by kernel_rfl
theorem oLn8_eq (W : World) (s a b c : ByteArray) (F : HP) : wRun cnLn (hLn s a b c [a, b, c] 3 false false false false false false false false) [] W fLine [sv s, .ptr 0 0] [(0, rqO nil0 nil0 nilP nilB)] [0] F = VT.leaf (AV.v (Value.bool true)) [some (AO.cells [AV.v (Value.string a), AV.v (Value.string b), AV.v (Value.slice none 0 0), AV.v (Value.slice none 0 0)] 64)] 1101 (((Cnd.p (1 ≤ 1 ∧ s.size < 4294967281)).a ((Cnd.p (OW (AO.cells (vmap (List.map Value.string (splB s (ByteArray.mk (Array.mk [32]))))) 18) (AO.cells [AV.v (Value.string a), AV.v (Value.string b), AV.v (Value.string c)] 18))).a ((Cnd.p (Wk (AV.slice 1100 0 (List.map Value.string (splB s (ByteArray.mk (Array.mk [32])))).length 1 (Cp.lo (List.map Value.string (splB s (ByteArray.mk (Array.mk [32])))).length)) (AV.slice 1100 0 3 1 (Cp.lo 3)))).a Cnd.t))).a (((Cnd.p (Wk (AV.v (Value.bool false)) (AV.lit false))).a Cnd.t).a (((Cnd.p (true = true)).a Cnd.t).a (((Cnd.p (true = true)).a ((Cnd.p (AV.v (Value.string a) = AV.v (Value.string a))).a ((Cnd.p (Wk (AV.v (Value.string a)) (AV.v (Value.string a)))).a Cnd.t))).a (((Cnd.p (Wk (AV.v (Value.bool (a.toList == []))) (AV.lit false))).a Cnd.t).a (((Cnd.p (true = true)).a Cnd.t).a (((Cnd.p (true = true)).a ((Cnd.p (AV.v (Value.string a) = AV.v (Value.string a))).a ((Cnd.p (Wk (AV.v (Value.string a)) (AV.v (Value.string a)))).a Cnd.t))).a (((Cnd.p (Wk (AV.v (Value.bool (decide (↑a.size > Int.ofNat 20)))) (AV.lit false))).a Cnd.t).a (((Cnd.p (true = true)).a Cnd.t).a (((Cnd.p (true = true)).a ((Cnd.p (AV.v (Value.string a) = AV.v (Value.string a))).a ((Cnd.p (Wk (AV.v (Value.string a)) (AV.v (Value.string a)))).a Cnd.t))).a (((Cnd.p (Five 53 ∧ a.size ≤ 4000000)).a Cnd.t).a (((Cnd.p (Wk (AV.v (Value.bool !qIn 53 a)) (AV.lit false))).a Cnd.t).a (((Cnd.p (true = true)).a Cnd.t).a (((Cnd.p (true = true)).a ((Cnd.p (AV.v (Value.string b) = AV.v (Value.string b))).a ((Cnd.p (Wk (AV.v (Value.string b)) (AV.v (Value.string b)))).a Cnd.t))).a (((Cnd.p True).a Cnd.t).a (((Cnd.p (Wk (AV.v (Value.bool !hpreB b (ByteArray.mk (Array.mk [47])))) (AV.lit false))).a Cnd.t).a (((Cnd.p (true = true)).a Cnd.t).a (((Cnd.p (true = true)).a ((Cnd.p (AV.v (Value.string b) = AV.v (Value.string b))).a ((Cnd.p (Wk (AV.v (Value.string b)) (AV.v (Value.string b)))).a Cnd.t))).a (((Cnd.p (Five 55 ∧ b.size ≤ 4000000)).a Cnd.t).a (((Cnd.p (Wk (AV.v (Value.bool !qIn 55 b)) (AV.lit false))).a Cnd.t).a (((Cnd.p (true = true)).a Cnd.t).a (((Cnd.p (true = true)).a ((Cnd.p (AV.v (Value.string c) = AV.v (Value.string c))).a ((Cnd.p (Wk (AV.v (Value.string c)) (AV.v (Value.string c)))).a Cnd.t))).a (((Cnd.p (Wk (AV.v (Value.bool !c.toList == [(ByteArray.mk (Array.mk [72, 84, 84, 80, 47, 49, 46, 49])).get! 0, (ByteArray.mk (Array.mk [72, 84, 84, 80, 47, 49, 46, 49])).get! 1, (ByteArray.mk (Array.mk [72, 84, 84, 80, 47, 49, 46, 49])).get! 2, (ByteArray.mk (Array.mk [72, 84, 84, 80, 47, 49, 46, 49])).get! 3, (ByteArray.mk (Array.mk [72, 84, 84, 80, 47, 49, 46, 49])).get! 4, (ByteArray.mk (Array.mk [72, 84, 84, 80, 47, 49, 46, 49])).get! 5, (ByteArray.mk (Array.mk [72, 84, 84, 80, 47, 49, 46, 49])).get! 6, (ByteArray.mk (Array.mk [72, 84, 84, 80, 47, 49, 46, 49])).get! 7])) (AV.lit false))).a Cnd.t).a (((Cnd.p (Wk (AV.lit false) (AV.lit false))).a Cnd.t).a (((Cnd.p (true = true)).a Cnd.t).a (((Cnd.p (true = true)).a ((Cnd.p (AV.v (Value.string a) = AV.v (Value.string a))).a ((Cnd.p (Wk (AV.v (Value.string a)) (AV.v (Value.string a)))).a Cnd.t))).a (((Cnd.p (true = true)).a Cnd.t).a (((Cnd.p (true = true)).a ((Cnd.p (AV.v (Value.string b) = AV.v (Value.string b))).a ((Cnd.p (Wk (AV.v (Value.string b)) (AV.v (Value.string b)))).a Cnd.t))).a (((Cnd.p (true = true)).a Cnd.t).a (((Cnd.p (true = true)).a Cnd.t).a Cnd.t)))))))))))))))))))))))))))))) := by kernel_rfl
/-! header -/
def gGr : List AV → AP Nat := fun args => match args with
  | [.agg [_, _, .slice a _ _ _ _, _], _] => .ret a
  | _ => .fail "get"
def nm0 (a : Nat) : Nat → Nat := fun k => match Nat.beq k 0 with
  | true => a
  | false => k
def cGet (L : Hds) (m t name v : ByteArray) (ok : Bool) : List AV → Option (AP AV) := mkC gGr (fun _ => True) nm0 (fun _ => [rqV m t (sP 0 L.length) nilB, sv name]) (fun _ => [(0, rP L)]) (fun _ => .leaf .ret [.tuple [sv v, bv ok]] [(0, rP L)])
def cGet0 (m t name : ByteArray) : List AV → Option (AP AV) := mkC gG0 (fun _ => True) (fun _ k => k) (fun _ => [rqV m t nilP nilB, sv name]) (fun _ => []) (fun _ => .leaf .ret [.tuple [sv nil0, bv false]] [])
def hHd (nm vl lw tv gv : ByteArray) (ok n1 b1 b2 b3 r1 tw b5 : Bool) : ClaimT := hintL [(fHdr, 1, 1, hv (.tuple [sv nm, sv vl, .lit ok])), (fHdr, 2, 1, hv (.lit n1)), (fHdr, 2, 4, hv (.lit b1)), (fHdr, 2, 9, hv (.lit b2)), (fHdr, 2, 14, hv (.lit b3)), (fHdr, 2, 15, hv (.lit r1)), (fHdr, 4, 1, hv (sv lw)), (fHdr, 5, 4, hv (.tuple [sv gv, .lit tw])), (fHdr, 6, 3, hv (.lit b5)), (fHdr, 8, 7, hv (sv tv))]
theorem oHdZ1_eq (W : World) (s m t nm vl lw tv : ByteArray) (F : HP) : wRun [(fCut, cCut), (fAll, cAll), (fLower, cLow), (fTrim, cTrim), (fGet, cGet0 m t lw)] (hHd nm vl lw tv nil0 false true false false false true false false) [] W fHdr [sv s, .ptr 0 0] [(0, rqO m t nilP nilB)] [0, 1100, 1101, 1102] F = VT.leaf (AV.v (Value.bool false)) [some (AO.cells [AV.v (Value.string m), AV.v (Value.string t), AV.v (Value.slice none 0 0), AV.v (Value.slice none 0 0)] 64), none, none, none] 1100 (((Cnd.p (s.size < 4294967281)).a ((Cnd.p (Wk (AV.tuple [AV.v (Value.string (cut1 s (ByteArray.mk (Array.mk [58])))), AV.v (Value.string (cut2 s (ByteArray.mk (Array.mk [58])))), AV.v (Value.bool (cutK s (ByteArray.mk (Array.mk [58]))))]) (AV.tuple [AV.v (Value.string nm), AV.v (Value.string vl), AV.lit false]))).a Cnd.t)).a (((Cnd.p (Wk (AV.v (Value.bool true)) (AV.lit true))).a Cnd.t).a (((Cnd.p (Wk (AV.lit true) (AV.lit true))).a Cnd.t).a Cnd.t))) := by kernel_rfl
theorem oHdR1_eq (W : World) (L : Hds) (s m t nm vl lw tv gv : ByteArray) (F : HP) : wRun [(fCut, cCut), (fAll, cAll), (fLower, cLow), (fTrim, cTrim)] (hHd nm vl lw tv gv false true false false false true false false) [] W fHdr [sv s, .ptr 0 0] [(0, rqO m t (sP 1000 L.length) nilB), (1000, rP L)] [0, 1000, 1100, 1101, 1102] F = VT.leaf (AV.v (Value.bool false)) [some (AO.cells [AV.v (Value.string m), AV.v (Value.string t), AV.slice 1000 0 (List.length L) 2 (Cp.lo (List.length L)), AV.v (Value.slice none 0 0)] 64), some (AO.cells (rowV encP L) 78), none, none, none] 1100 (((Cnd.p (s.size < 4294967281)).a ((Cnd.p (Wk (AV.tuple [AV.v (Value.string (cut1 s (ByteArray.mk (Array.mk [58])))), AV.v (Value.string (cut2 s (ByteArray.mk (Array.mk [58])))), AV.v (Value.bool (cutK s (ByteArray.mk (Array.mk [58]))))]) (AV.tuple [AV.v (Value.string nm), AV.v (Value.string vl), AV.lit false]))).a Cnd.t)).a (((Cnd.p (Wk (AV.v (Value.bool true)) (AV.lit true))).a Cnd.t).a (((Cnd.p (Wk (AV.lit true) (AV.lit true))).a Cnd.t).a Cnd.t))) := by kernel_rfl
theorem oHdZ2_eq (W : World) (s m t nm vl lw tv : ByteArray) (F : HP) : wRun [(fCut, cCut), (fAll, cAll), (fLower, cLow), (fTrim, cTrim), (fGet, cGet0 m t lw)] (hHd nm vl lw tv nil0 true false true false false true false false) [] W fHdr [sv s, .ptr 0 0] [(0, rqO m t nilP nilB)] [0, 1100, 1101, 1102] F = VT.leaf (AV.v (Value.bool false)) [some (AO.cells [AV.v (Value.string m), AV.v (Value.string t), AV.v (Value.slice none 0 0), AV.v (Value.slice none 0 0)] 64), none, none, none] 1100 (((Cnd.p (s.size < 4294967281)).a ((Cnd.p (Wk (AV.tuple [AV.v (Value.string (cut1 s (ByteArray.mk (Array.mk [58])))), AV.v (Value.string (cut2 s (ByteArray.mk (Array.mk [58])))), AV.v (Value.bool (cutK s (ByteArray.mk (Array.mk [58]))))]) (AV.tuple [AV.v (Value.string nm), AV.v (Value.string vl), AV.lit true]))).a Cnd.t)).a (((Cnd.p (Wk (AV.v (Value.bool false)) (AV.lit false))).a Cnd.t).a (((Cnd.p (Wk (AV.v (Value.bool (nm.toList == []))) (AV.lit true))).a Cnd.t).a (((Cnd.p (Wk (AV.lit true) (AV.lit true))).a Cnd.t).a Cnd.t)))) := by kernel_rfl
theorem oHdR2_eq (W : World) (L : Hds) (s m t nm vl lw tv gv : ByteArray) (F : HP) : wRun [(fCut, cCut), (fAll, cAll), (fLower, cLow), (fTrim, cTrim)] (hHd nm vl lw tv gv true false true false false true false false) [] W fHdr [sv s, .ptr 0 0] [(0, rqO m t (sP 1000 L.length) nilB), (1000, rP L)] [0, 1000, 1100, 1101, 1102] F = VT.leaf (AV.v (Value.bool false)) [some (AO.cells [AV.v (Value.string m), AV.v (Value.string t), AV.slice 1000 0 (List.length L) 2 (Cp.lo (List.length L)), AV.v (Value.slice none 0 0)] 64), some (AO.cells (rowV encP L) 78), none, none, none] 1100 (((Cnd.p (s.size < 4294967281)).a ((Cnd.p (Wk (AV.tuple [AV.v (Value.string (cut1 s (ByteArray.mk (Array.mk [58])))), AV.v (Value.string (cut2 s (ByteArray.mk (Array.mk [58])))), AV.v (Value.bool (cutK s (ByteArray.mk (Array.mk [58]))))]) (AV.tuple [AV.v (Value.string nm), AV.v (Value.string vl), AV.lit true]))).a Cnd.t)).a (((Cnd.p (Wk (AV.v (Value.bool false)) (AV.lit false))).a Cnd.t).a (((Cnd.p (Wk (AV.v (Value.bool (nm.toList == []))) (AV.lit true))).a Cnd.t).a (((Cnd.p (Wk (AV.lit true) (AV.lit true))).a Cnd.t).a Cnd.t)))) := by kernel_rfl
theorem oHdZ3_eq (W : World) (s m t nm vl lw tv : ByteArray) (F : HP) : wRun [(fCut, cCut), (fAll, cAll), (fLower, cLow), (fTrim, cTrim), (fGet, cGet0 m t lw)] (hHd nm vl lw tv nil0 true false false true false true false false) [] W fHdr [sv s, .ptr 0 0] [(0, rqO m t nilP nilB)] [0, 1100, 1101, 1102] F = VT.leaf (AV.v (Value.bool false)) [some (AO.cells [AV.v (Value.string m), AV.v (Value.string t), AV.v (Value.slice none 0 0), AV.v (Value.slice none 0 0)] 64), none, none, none] 1100 (((Cnd.p (s.size < 4294967281)).a ((Cnd.p (Wk (AV.tuple [AV.v (Value.string (cut1 s (ByteArray.mk (Array.mk [58])))), AV.v (Value.string (cut2 s (ByteArray.mk (Array.mk [58])))), AV.v (Value.bool (cutK s (ByteArray.mk (Array.mk [58]))))]) (AV.tuple [AV.v (Value.string nm), AV.v (Value.string vl), AV.lit true]))).a Cnd.t)).a (((Cnd.p (Wk (AV.v (Value.bool false)) (AV.lit false))).a Cnd.t).a (((Cnd.p (Wk (AV.v (Value.bool (nm.toList == []))) (AV.lit false))).a Cnd.t).a (((Cnd.p (Five 56 ∧ nm.size ≤ 4000000)).a Cnd.t).a (((Cnd.p (Wk (AV.v (Value.bool !qIn 56 nm)) (AV.lit true))).a Cnd.t).a (((Cnd.p (Wk (AV.lit true) (AV.lit true))).a Cnd.t).a Cnd.t)))))) := by kernel_rfl
theorem oHdR3_eq (W : World) (L : Hds) (s m t nm vl lw tv gv : ByteArray) (F : HP) : wRun [(fCut, cCut), (fAll, cAll), (fLower, cLow), (fTrim, cTrim)] (hHd nm vl lw tv gv true false false true false true false false) [] W fHdr [sv s, .ptr 0 0] [(0, rqO m t (sP 1000 L.length) nilB), (1000, rP L)] [0, 1000, 1100, 1101, 1102] F = VT.leaf (AV.v (Value.bool false)) [some (AO.cells [AV.v (Value.string m), AV.v (Value.string t), AV.slice 1000 0 (List.length L) 2 (Cp.lo (List.length L)), AV.v (Value.slice none 0 0)] 64), some (AO.cells (rowV encP L) 78), none, none, none] 1100 (((Cnd.p (s.size < 4294967281)).a ((Cnd.p (Wk (AV.tuple [AV.v (Value.string (cut1 s (ByteArray.mk (Array.mk [58])))), AV.v (Value.string (cut2 s (ByteArray.mk (Array.mk [58])))), AV.v (Value.bool (cutK s (ByteArray.mk (Array.mk [58]))))]) (AV.tuple [AV.v (Value.string nm), AV.v (Value.string vl), AV.lit true]))).a Cnd.t)).a (((Cnd.p (Wk (AV.v (Value.bool false)) (AV.lit false))).a Cnd.t).a (((Cnd.p (Wk (AV.v (Value.bool (nm.toList == []))) (AV.lit false))).a Cnd.t).a (((Cnd.p (Five 56 ∧ nm.size ≤ 4000000)).a Cnd.t).a (((Cnd.p (Wk (AV.v (Value.bool !qIn 56 nm)) (AV.lit true))).a Cnd.t).a (((Cnd.p (Wk (AV.lit true) (AV.lit true))).a Cnd.t).a Cnd.t)))))) := by kernel_rfl
theorem oHdZ4_eq (W : World) (s m t nm vl lw tv : ByteArray) (F : HP) : wRun [(fCut, cCut), (fAll, cAll), (fLower, cLow), (fTrim, cTrim), (fGet, cGet0 m t lw)] (hHd nm vl lw tv nil0 true false false false true true false false) [] W fHdr [sv s, .ptr 0 0] [(0, rqO m t nilP nilB)] [0, 1100, 1101, 1102] F = VT.leaf (AV.v (Value.bool false)) [some (AO.cells [AV.v (Value.string m), AV.v (Value.string t), AV.v (Value.slice none 0 0), AV.v (Value.slice none 0 0)] 64), none, none, none] 1100 (((Cnd.p (s.size < 4294967281)).a ((Cnd.p (Wk (AV.tuple [AV.v (Value.string (cut1 s (ByteArray.mk (Array.mk [58])))), AV.v (Value.string (cut2 s (ByteArray.mk (Array.mk [58])))), AV.v (Value.bool (cutK s (ByteArray.mk (Array.mk [58]))))]) (AV.tuple [AV.v (Value.string nm), AV.v (Value.string vl), AV.lit true]))).a Cnd.t)).a (((Cnd.p (Wk (AV.v (Value.bool false)) (AV.lit false))).a Cnd.t).a (((Cnd.p (Wk (AV.v (Value.bool (nm.toList == []))) (AV.lit false))).a Cnd.t).a (((Cnd.p (Five 56 ∧ nm.size ≤ 4000000)).a Cnd.t).a (((Cnd.p (Wk (AV.v (Value.bool !qIn 56 nm)) (AV.lit false))).a Cnd.t).a (((Cnd.p (Five 57 ∧ vl.size ≤ 4000000)).a Cnd.t).a (((Cnd.p (Wk (AV.v (Value.bool !qIn 57 vl)) (AV.lit true))).a Cnd.t).a (((Cnd.p (Wk (AV.lit true) (AV.lit true))).a Cnd.t).a Cnd.t)))))))) := by kernel_rfl
theorem oHdR4_eq (W : World) (L : Hds) (s m t nm vl lw tv gv : ByteArray) (F : HP) : wRun [(fCut, cCut), (fAll, cAll), (fLower, cLow), (fTrim, cTrim)] (hHd nm vl lw tv gv true false false false true true false false) [] W fHdr [sv s, .ptr 0 0] [(0, rqO m t (sP 1000 L.length) nilB), (1000, rP L)] [0, 1000, 1100, 1101, 1102] F = VT.leaf (AV.v (Value.bool false)) [some (AO.cells [AV.v (Value.string m), AV.v (Value.string t), AV.slice 1000 0 (List.length L) 2 (Cp.lo (List.length L)), AV.v (Value.slice none 0 0)] 64), some (AO.cells (rowV encP L) 78), none, none, none] 1100 (((Cnd.p (s.size < 4294967281)).a ((Cnd.p (Wk (AV.tuple [AV.v (Value.string (cut1 s (ByteArray.mk (Array.mk [58])))), AV.v (Value.string (cut2 s (ByteArray.mk (Array.mk [58])))), AV.v (Value.bool (cutK s (ByteArray.mk (Array.mk [58]))))]) (AV.tuple [AV.v (Value.string nm), AV.v (Value.string vl), AV.lit true]))).a Cnd.t)).a (((Cnd.p (Wk (AV.v (Value.bool false)) (AV.lit false))).a Cnd.t).a (((Cnd.p (Wk (AV.v (Value.bool (nm.toList == []))) (AV.lit false))).a Cnd.t).a (((Cnd.p (Five 56 ∧ nm.size ≤ 4000000)).a Cnd.t).a (((Cnd.p (Wk (AV.v (Value.bool !qIn 56 nm)) (AV.lit false))).a Cnd.t).a (((Cnd.p (Five 57 ∧ vl.size ≤ 4000000)).a Cnd.t).a (((Cnd.p (Wk (AV.v (Value.bool !qIn 57 vl)) (AV.lit true))).a Cnd.t).a (((Cnd.p (Wk (AV.lit true) (AV.lit true))).a Cnd.t).a Cnd.t)))))))) := by kernel_rfl
theorem oHdR5_eq (W : World) (L : Hds) (s m t nm vl lw tv gv : ByteArray) (F : HP) : wRun [(fCut, cCut), (fAll, cAll), (fLower, cLow), (fTrim, cTrim), (fGet, cGet L m t lw gv true)] (hHd nm vl lw tv gv true false false false false false true false) [] W fHdr [sv s, .ptr 0 0] [(0, rqO m t (sP 1000 L.length) nilB), (1000, rP L)] [0, 1000, 1100, 1101, 1102] F = VT.leaf (AV.v (Value.bool false)) [some (AO.cells [AV.v (Value.string m), AV.v (Value.string t), AV.slice 1000 0 (List.length L) 2 (Cp.lo (List.length L)), AV.v (Value.slice none 0 0)] 64), some (AO.cells (AV.rens (sgN (nm0 1000) [] 0) (rowV encP L)) 78), none, none, none] 1100 (((Cnd.p (s.size < 4294967281)).a ((Cnd.p (Wk (AV.tuple [AV.v (Value.string (cut1 s (ByteArray.mk (Array.mk [58])))), AV.v (Value.string (cut2 s (ByteArray.mk (Array.mk [58])))), AV.v (Value.bool (cutK s (ByteArray.mk (Array.mk [58]))))]) (AV.tuple [AV.v (Value.string nm), AV.v (Value.string vl), AV.lit true]))).a Cnd.t)).a (((Cnd.p (Wk (AV.v (Value.bool false)) (AV.lit false))).a Cnd.t).a (((Cnd.p (Wk (AV.v (Value.bool (nm.toList == []))) (AV.lit false))).a Cnd.t).a (((Cnd.p (Five 56 ∧ nm.size ≤ 4000000)).a Cnd.t).a (((Cnd.p (Wk (AV.v (Value.bool !qIn 56 nm)) (AV.lit false))).a Cnd.t).a (((Cnd.p (Five 57 ∧ vl.size ≤ 4000000)).a Cnd.t).a (((Cnd.p (Wk (AV.v (Value.bool !qIn 57 vl)) (AV.lit false))).a Cnd.t).a (((Cnd.p (Wk (AV.lit false) (AV.lit false))).a Cnd.t).a (((Cnd.p (nm.size ≤ 140737488355328 ∧ asciiB nm)).a ((Cnd.p (Wk (AV.v (Value.string (lowB nm))) (AV.v (Value.string lw)))).a Cnd.t)).a (((Cnd.p (true = true)).a ((Cnd.p ([AV.v (Value.string m), AV.v (Value.string t), AV.slice 1000 0 (List.length L) 2 (Cp.lo (List.length L)), AV.v (Value.slice none 0 0)] = [AV.v (Value.string m), AV.v (Value.string t), AV.slice 1000 0 (List.length L) 2 (Cp.lo (List.length L)), AV.v (Value.slice none 0 0)])).a Cnd.t)).a (((Cnd.p True).a ((Cnd.p (VW [AV.agg [AV.v (Value.string m), AV.v (Value.string t), AV.slice 1000 0 (List.length L) 2 (Cp.lo (List.length L)), AV.v (Value.slice none 0 0)], AV.v (Value.string lw)] [AV.agg [AV.v (Value.string m), AV.v (Value.string t), AV.slice 1000 0 (List.length L) 2 (Cp.lo (List.length L)), AV.v (Value.slice none 0 0)], AV.v (Value.string lw)])).a ((Cnd.p (OW (AO.cells (rowV encP L) 78) (AO.cells (AV.rens (nm0 1000) (rowV encP L)) 78))).a ((Cnd.p (Wk (AV.tuple [AV.v (Value.string gv), AV.v (Value.bool true)]) (AV.tuple [AV.v (Value.string gv), AV.lit true]))).a Cnd.t)))).a Cnd.t))))))))))) := by kernel_rfl
theorem oHdZ6_eq (W : World) (s m t nm vl lw tv : ByteArray) (F : HP) : wRun [(fCut, cCut), (fAll, cAll), (fLower, cLow), (fTrim, cTrim), (fGet, cGet0 m t lw)] (hHd nm vl lw tv nil0 true false false false false false false true) [] W fHdr [sv s, .ptr 0 0] [(0, rqO m t nilP nilB)] [0, 1100, 1101, 1102] F = VT.leaf (AV.v (Value.bool false)) [some (AO.cells [AV.v (Value.string m), AV.v (Value.string t), AV.v (Value.slice none 0 0), AV.v (Value.slice none 0 0)] 64), none, none, none] 1100 (((Cnd.p (s.size < 4294967281)).a ((Cnd.p (Wk (AV.tuple [AV.v (Value.string (cut1 s (ByteArray.mk (Array.mk [58])))), AV.v (Value.string (cut2 s (ByteArray.mk (Array.mk [58])))), AV.v (Value.bool (cutK s (ByteArray.mk (Array.mk [58]))))]) (AV.tuple [AV.v (Value.string nm), AV.v (Value.string vl), AV.lit true]))).a Cnd.t)).a (((Cnd.p (Wk (AV.v (Value.bool false)) (AV.lit false))).a Cnd.t).a (((Cnd.p (Wk (AV.v (Value.bool (nm.toList == []))) (AV.lit false))).a Cnd.t).a (((Cnd.p (Five 56 ∧ nm.size ≤ 4000000)).a Cnd.t).a (((Cnd.p (Wk (AV.v (Value.bool !qIn 56 nm)) (AV.lit false))).a Cnd.t).a (((Cnd.p (Five 57 ∧ vl.size ≤ 4000000)).a Cnd.t).a (((Cnd.p (Wk (AV.v (Value.bool !qIn 57 vl)) (AV.lit false))).a Cnd.t).a (((Cnd.p (Wk (AV.lit false) (AV.lit false))).a Cnd.t).a (((Cnd.p (nm.size ≤ 140737488355328 ∧ asciiB nm)).a ((Cnd.p (Wk (AV.v (Value.string (lowB nm))) (AV.v (Value.string lw)))).a Cnd.t)).a (((Cnd.p (true = true)).a ((Cnd.p ([AV.v (Value.string m), AV.v (Value.string t), AV.v (Value.slice none 0 0), AV.v (Value.slice none 0 0)] = [AV.v (Value.string m), AV.v (Value.string t), AV.v (Value.slice none 0 0), AV.v (Value.slice none 0 0)])).a Cnd.t)).a (((Cnd.p True).a ((Cnd.p (VW [AV.agg [AV.v (Value.string m), AV.v (Value.string t), AV.v (Value.slice none 0 0), AV.v (Value.slice none 0 0)], AV.v (Value.string lw)] [AV.agg [AV.v (Value.string m), AV.v (Value.string t), AV.v (Value.slice none 0 0), AV.v (Value.slice none 0 0)], AV.v (Value.string lw)])).a ((Cnd.p (Wk (AV.tuple [AV.v (Value.string nil0), AV.v (Value.bool false)]) (AV.tuple [AV.v (Value.string nil0), AV.lit false]))).a Cnd.t))).a (((Cnd.p (Wk (AV.v (Value.bool (lw.toList == [(ByteArray.mk (Array.mk [116, 114, 97, 110, 115, 102, 101, 114, 45, 101, 110, 99, 111, 100, 105, 110, 103])).get! 0, (ByteArray.mk (Array.mk [116, 114, 97, 110, 115, 102, 101, 114, 45, 101, 110, 99, 111, 100, 105, 110, 103])).get! 1, (ByteArray.mk (Array.mk [116, 114, 97, 110, 115, 102, 101, 114, 45, 101, 110, 99, 111, 100, 105, 110, 103])).get! 2, (ByteArray.mk (Array.mk [116, 114, 97, 110, 115, 102, 101, 114, 45, 101, 110, 99, 111, 100, 105, 110, 103])).get! 3, (ByteArray.mk (Array.mk [116, 114, 97, 110, 115, 102, 101, 114, 45, 101, 110, 99, 111, 100, 105, 110, 103])).get! 4, (ByteArray.mk (Array.mk [116, 114, 97, 110, 115, 102, 101, 114, 45, 101, 110, 99, 111, 100, 105, 110, 103])).get! 5, (ByteArray.mk (Array.mk [116, 114, 97, 110, 115, 102, 101, 114, 45, 101, 110, 99, 111, 100, 105, 110, 103])).get! 6, (ByteArray.mk (Array.mk [116, 114, 97, 110, 115, 102, 101, 114, 45, 101, 110, 99, 111, 100, 105, 110, 103])).get! 7, (ByteArray.mk (Array.mk [116, 114, 97, 110, 115, 102, 101, 114, 45, 101, 110, 99, 111, 100, 105, 110, 103])).get! 8, (ByteArray.mk (Array.mk [116, 114, 97, 110, 115, 102, 101, 114, 45, 101, 110, 99, 111, 100, 105, 110, 103])).get! 9, (ByteArray.mk (Array.mk [116, 114, 97, 110, 115, 102, 101, 114, 45, 101, 110, 99, 111, 100, 105, 110, 103])).get! 10, (ByteArray.mk (Array.mk [116, 114, 97, 110, 115, 102, 101, 114, 45, 101, 110, 99, 111, 100, 105, 110, 103])).get! 11, (ByteArray.mk (Array.mk [116, 114, 97, 110, 115, 102, 101, 114, 45, 101, 110, 99, 111, 100, 105, 110, 103])).get! 12, (ByteArray.mk (Array.mk [116, 114, 97, 110, 115, 102, 101, 114, 45, 101, 110, 99, 111, 100, 105, 110, 103])).get! 13, (ByteArray.mk (Array.mk [116, 114, 97, 110, 115, 102, 101, 114, 45, 101, 110, 99, 111, 100, 105, 110, 103])).get! 14, (ByteArray.mk (Array.mk [116, 114, 97, 110, 115, 102, 101, 114, 45, 101, 110, 99, 111, 100, 105, 110, 103])).get! 15, (ByteArray.mk (Array.mk [116, 114, 97, 110, 115, 102, 101, 114, 45, 101, 110, 99, 111, 100, 105, 110, 103])).get! 16]))) (AV.lit true))).a Cnd.t).a Cnd.t)))))))))))) := by kernel_rfl
theorem oHdR6_eq (W : World) (L : Hds) (s m t nm vl lw tv gv : ByteArray) (F : HP) : wRun [(fCut, cCut), (fAll, cAll), (fLower, cLow), (fTrim, cTrim), (fGet, cGet L m t lw gv false)] (hHd nm vl lw tv gv true false false false false false false true) [] W fHdr [sv s, .ptr 0 0] [(0, rqO m t (sP 1000 L.length) nilB), (1000, rP L)] [0, 1000, 1100, 1101, 1102] F = VT.leaf (AV.v (Value.bool false)) [some (AO.cells [AV.v (Value.string m), AV.v (Value.string t), AV.slice 1000 0 (List.length L) 2 (Cp.lo (List.length L)), AV.v (Value.slice none 0 0)] 64), some (AO.cells (AV.rens (sgN (nm0 1000) [] 0) (rowV encP L)) 78), none, none, none] 1100 (((Cnd.p (s.size < 4294967281)).a ((Cnd.p (Wk (AV.tuple [AV.v (Value.string (cut1 s (ByteArray.mk (Array.mk [58])))), AV.v (Value.string (cut2 s (ByteArray.mk (Array.mk [58])))), AV.v (Value.bool (cutK s (ByteArray.mk (Array.mk [58]))))]) (AV.tuple [AV.v (Value.string nm), AV.v (Value.string vl), AV.lit true]))).a Cnd.t)).a (((Cnd.p (Wk (AV.v (Value.bool false)) (AV.lit false))).a Cnd.t).a (((Cnd.p (Wk (AV.v (Value.bool (nm.toList == []))) (AV.lit false))).a Cnd.t).a (((Cnd.p (Five 56 ∧ nm.size ≤ 4000000)).a Cnd.t).a (((Cnd.p (Wk (AV.v (Value.bool !qIn 56 nm)) (AV.lit false))).a Cnd.t).a (((Cnd.p (Five 57 ∧ vl.size ≤ 4000000)).a Cnd.t).a (((Cnd.p (Wk (AV.v (Value.bool !qIn 57 vl)) (AV.lit false))).a Cnd.t).a (((Cnd.p (Wk (AV.lit false) (AV.lit false))).a Cnd.t).a (((Cnd.p (nm.size ≤ 140737488355328 ∧ asciiB nm)).a ((Cnd.p (Wk (AV.v (Value.string (lowB nm))) (AV.v (Value.string lw)))).a Cnd.t)).a (((Cnd.p (true = true)).a ((Cnd.p ([AV.v (Value.string m), AV.v (Value.string t), AV.slice 1000 0 (List.length L) 2 (Cp.lo (List.length L)), AV.v (Value.slice none 0 0)] = [AV.v (Value.string m), AV.v (Value.string t), AV.slice 1000 0 (List.length L) 2 (Cp.lo (List.length L)), AV.v (Value.slice none 0 0)])).a Cnd.t)).a (((Cnd.p True).a ((Cnd.p (VW [AV.agg [AV.v (Value.string m), AV.v (Value.string t), AV.slice 1000 0 (List.length L) 2 (Cp.lo (List.length L)), AV.v (Value.slice none 0 0)], AV.v (Value.string lw)] [AV.agg [AV.v (Value.string m), AV.v (Value.string t), AV.slice 1000 0 (List.length L) 2 (Cp.lo (List.length L)), AV.v (Value.slice none 0 0)], AV.v (Value.string lw)])).a ((Cnd.p (OW (AO.cells (rowV encP L) 78) (AO.cells (AV.rens (nm0 1000) (rowV encP L)) 78))).a ((Cnd.p (Wk (AV.tuple [AV.v (Value.string gv), AV.v (Value.bool false)]) (AV.tuple [AV.v (Value.string gv), AV.lit false]))).a Cnd.t)))).a (((Cnd.p (Wk (AV.v (Value.bool (lw.toList == [(ByteArray.mk (Array.mk [116, 114, 97, 110, 115, 102, 101, 114, 45, 101, 110, 99, 111, 100, 105, 110, 103])).get! 0, (ByteArray.mk (Array.mk [116, 114, 97, 110, 115, 102, 101, 114, 45, 101, 110, 99, 111, 100, 105, 110, 103])).get! 1, (ByteArray.mk (Array.mk [116, 114, 97, 110, 115, 102, 101, 114, 45, 101, 110, 99, 111, 100, 105, 110, 103])).get! 2, (ByteArray.mk (Array.mk [116, 114, 97, 110, 115, 102, 101, 114, 45, 101, 110, 99, 111, 100, 105, 110, 103])).get! 3, (ByteArray.mk (Array.mk [116, 114, 97, 110, 115, 102, 101, 114, 45, 101, 110, 99, 111, 100, 105, 110, 103])).get! 4, (ByteArray.mk (Array.mk [116, 114, 97, 110, 115, 102, 101, 114, 45, 101, 110, 99, 111, 100, 105, 110, 103])).get! 5, (ByteArray.mk (Array.mk [116, 114, 97, 110, 115, 102, 101, 114, 45, 101, 110, 99, 111, 100, 105, 110, 103])).get! 6, (ByteArray.mk (Array.mk [116, 114, 97, 110, 115, 102, 101, 114, 45, 101, 110, 99, 111, 100, 105, 110, 103])).get! 7, (ByteArray.mk (Array.mk [116, 114, 97, 110, 115, 102, 101, 114, 45, 101, 110, 99, 111, 100, 105, 110, 103])).get! 8, (ByteArray.mk (Array.mk [116, 114, 97, 110, 115, 102, 101, 114, 45, 101, 110, 99, 111, 100, 105, 110, 103])).get! 9, (ByteArray.mk (Array.mk [116, 114, 97, 110, 115, 102, 101, 114, 45, 101, 110, 99, 111, 100, 105, 110, 103])).get! 10, (ByteArray.mk (Array.mk [116, 114, 97, 110, 115, 102, 101, 114, 45, 101, 110, 99, 111, 100, 105, 110, 103])).get! 11, (ByteArray.mk (Array.mk [116, 114, 97, 110, 115, 102, 101, 114, 45, 101, 110, 99, 111, 100, 105, 110, 103])).get! 12, (ByteArray.mk (Array.mk [116, 114, 97, 110, 115, 102, 101, 114, 45, 101, 110, 99, 111, 100, 105, 110, 103])).get! 13, (ByteArray.mk (Array.mk [116, 114, 97, 110, 115, 102, 101, 114, 45, 101, 110, 99, 111, 100, 105, 110, 103])).get! 14, (ByteArray.mk (Array.mk [116, 114, 97, 110, 115, 102, 101, 114, 45, 101, 110, 99, 111, 100, 105, 110, 103])).get! 15, (ByteArray.mk (Array.mk [116, 114, 97, 110, 115, 102, 101, 114, 45, 101, 110, 99, 111, 100, 105, 110, 103])).get! 16]))) (AV.lit true))).a Cnd.t).a Cnd.t)))))))))))) := by kernel_rfl
theorem oHdZ7_eq (W : World) (s m t nm vl lw tv : ByteArray) (F : HP) : wRun [(fCut, cCut), (fAll, cAll), (fLower, cLow), (fTrim, cTrim), (fGet, cGet0 m t lw)] (hHd nm vl lw tv nil0 true false false false false false false false) [] W fHdr [sv s, .ptr 0 0] [(0, rqO m t nilP nilB)] [0, 1100, 1101, 1102] F = VT.leaf (AV.v (Value.bool true)) [some (AO.cells [AV.v (Value.string m), AV.v (Value.string t), AV.slice 1101 0 1 2 (Cp.lo 1), AV.v (Value.slice none 0 0)] 64), some (AO.cells [AV.v (Value.string lw), AV.v (Value.string tv)] 78), some (AO.cells [AV.v (Value.string lw), AV.v (Value.string tv)] 78), none] 1102 (((Cnd.p (s.size < 4294967281)).a ((Cnd.p (Wk (AV.tuple [AV.v (Value.string (cut1 s (ByteArray.mk (Array.mk [58])))), AV.v (Value.string (cut2 s (ByteArray.mk (Array.mk [58])))), AV.v (Value.bool (cutK s (ByteArray.mk (Array.mk [58]))))]) (AV.tuple [AV.v (Value.string nm), AV.v (Value.string vl), AV.lit true]))).a Cnd.t)).a (((Cnd.p (Wk (AV.v (Value.bool false)) (AV.lit false))).a Cnd.t).a (((Cnd.p (Wk (AV.v (Value.bool (nm.toList == []))) (AV.lit false))).a Cnd.t).a (((Cnd.p (Five 56 ∧ nm.size ≤ 4000000)).a Cnd.t).a (((Cnd.p (Wk (AV.v (Value.bool !qIn 56 nm)) (AV.lit false))).a Cnd.t).a (((Cnd.p (Five 57 ∧ vl.size ≤ 4000000)).a Cnd.t).a (((Cnd.p (Wk (AV.v (Value.bool !qIn 57 vl)) (AV.lit false))).a Cnd.t).a (((Cnd.p (Wk (AV.lit false) (AV.lit false))).a Cnd.t).a (((Cnd.p (nm.size ≤ 140737488355328 ∧ asciiB nm)).a ((Cnd.p (Wk (AV.v (Value.string (lowB nm))) (AV.v (Value.string lw)))).a Cnd.t)).a (((Cnd.p (true = true)).a ((Cnd.p ([AV.v (Value.string m), AV.v (Value.string t), AV.v (Value.slice none 0 0), AV.v (Value.slice none 0 0)] = [AV.v (Value.string m), AV.v (Value.string t), AV.v (Value.slice none 0 0), AV.v (Value.slice none 0 0)])).a Cnd.t)).a (((Cnd.p True).a ((Cnd.p (VW [AV.agg [AV.v (Value.string m), AV.v (Value.string t), AV.v (Value.slice none 0 0), AV.v (Value.slice none 0 0)], AV.v (Value.string lw)] [AV.agg [AV.v (Value.string m), AV.v (Value.string t), AV.v (Value.slice none 0 0), AV.v (Value.slice none 0 0)], AV.v (Value.string lw)])).a ((Cnd.p (Wk (AV.tuple [AV.v (Value.string nil0), AV.v (Value.bool false)]) (AV.tuple [AV.v (Value.string nil0), AV.lit false]))).a Cnd.t))).a (((Cnd.p (Wk (AV.v (Value.bool (lw.toList == [(ByteArray.mk (Array.mk [116, 114, 97, 110, 115, 102, 101, 114, 45, 101, 110, 99, 111, 100, 105, 110, 103])).get! 0, (ByteArray.mk (Array.mk [116, 114, 97, 110, 115, 102, 101, 114, 45, 101, 110, 99, 111, 100, 105, 110, 103])).get! 1, (ByteArray.mk (Array.mk [116, 114, 97, 110, 115, 102, 101, 114, 45, 101, 110, 99, 111, 100, 105, 110, 103])).get! 2, (ByteArray.mk (Array.mk [116, 114, 97, 110, 115, 102, 101, 114, 45, 101, 110, 99, 111, 100, 105, 110, 103])).get! 3, (ByteArray.mk (Array.mk [116, 114, 97, 110, 115, 102, 101, 114, 45, 101, 110, 99, 111, 100, 105, 110, 103])).get! 4, (ByteArray.mk (Array.mk [116, 114, 97, 110, 115, 102, 101, 114, 45, 101, 110, 99, 111, 100, 105, 110, 103])).get! 5, (ByteArray.mk (Array.mk [116, 114, 97, 110, 115, 102, 101, 114, 45, 101, 110, 99, 111, 100, 105, 110, 103])).get! 6, (ByteArray.mk (Array.mk [116, 114, 97, 110, 115, 102, 101, 114, 45, 101, 110, 99, 111, 100, 105, 110, 103])).get! 7, (ByteArray.mk (Array.mk [116, 114, 97, 110, 115, 102, 101, 114, 45, 101, 110, 99, 111, 100, 105, 110, 103])).get! 8, (ByteArray.mk (Array.mk [116, 114, 97, 110, 115, 102, 101, 114, 45, 101, 110, 99, 111, 100, 105, 110, 103])).get! 9, (ByteArray.mk (Array.mk [116, 114, 97, 110, 115, 102, 101, 114, 45, 101, 110, 99, 111, 100, 105, 110, 103])).get! 10, (ByteArray.mk (Array.mk [116, 114, 97, 110, 115, 102, 101, 114, 45, 101, 110, 99, 111, 100, 105, 110, 103])).get! 11, (ByteArray.mk (Array.mk [116, 114, 97, 110, 115, 102, 101, 114, 45, 101, 110, 99, 111, 100, 105, 110, 103])).get! 12, (ByteArray.mk (Array.mk [116, 114, 97, 110, 115, 102, 101, 114, 45, 101, 110, 99, 111, 100, 105, 110, 103])).get! 13, (ByteArray.mk (Array.mk [116, 114, 97, 110, 115, 102, 101, 114, 45, 101, 110, 99, 111, 100, 105, 110, 103])).get! 14, (ByteArray.mk (Array.mk [116, 114, 97, 110, 115, 102, 101, 114, 45, 101, 110, 99, 111, 100, 105, 110, 103])).get! 15, (ByteArray.mk (Array.mk [116, 114, 97, 110, 115, 102, 101, 114, 45, 101, 110, 99, 111, 100, 105, 110, 103])).get! 16]))) (AV.lit false))).a Cnd.t).a (((Cnd.p (true = true)).a Cnd.t).a (((Cnd.p (vl.size < 4294967281 ∧ 2 < 4294967281 ∧ asciiB (ByteArray.mk (Array.mk [32, 9])))).a ((Cnd.p (Wk (AV.v (Value.string (trimB vl (ByteArray.mk (Array.mk [32, 9]))))) (AV.v (Value.string tv)))).a Cnd.t)).a (((Cnd.p (true = true)).a ((Cnd.p (true = true)).a ((Cnd.p (true = true)).a ((Cnd.p (true = true)).a ((Cnd.p (true = true)).a ((Cnd.p (true = true)).a Cnd.t)))))).a (((Cnd.p (true = true)).a Cnd.t).a Cnd.t)))))))))))))))) := by kernel_rfl
theorem oHdR7_eq (W : World) (L : Hds) (s m t nm vl lw tv gv : ByteArray) (F : HP) : wRun [(fCut, cCut), (fAll, cAll), (fLower, cLow), (fTrim, cTrim), (fGet, cGet L m t lw gv false)] (hHd nm vl lw tv gv true false false false false false false false) [] W fHdr [sv s, .ptr 0 0] [(0, rqO m t (sP 1000 L.length) nilB), (1000, rP L)] [0, 1000, 1100, 1101, 1102] F = VT.leaf (AV.v (Value.bool true)) [some (AO.cells [AV.v (Value.string m), AV.v (Value.string t), AV.slice 1101 0 (List.length L + 1) 2 (Cp.lo (List.length L + 1)), AV.v (Value.slice none 0 0)] 64), none, some (AO.cells [AV.v (Value.string lw), AV.v (Value.string tv)] 78), some (AO.cells (List.take (List.length L * 2) (List.drop 0 (AV.rens (sgN (nm0 1000) [] 0) (rowV encP L))) ++ [AV.v (Value.string lw), AV.v (Value.string tv)]) 78), none] 1102 (((Cnd.p (s.size < 4294967281)).a ((Cnd.p (Wk (AV.tuple [AV.v (Value.string (cut1 s (ByteArray.mk (Array.mk [58])))), AV.v (Value.string (cut2 s (ByteArray.mk (Array.mk [58])))), AV.v (Value.bool (cutK s (ByteArray.mk (Array.mk [58]))))]) (AV.tuple [AV.v (Value.string nm), AV.v (Value.string vl), AV.lit true]))).a Cnd.t)).a (((Cnd.p (Wk (AV.v (Value.bool false)) (AV.lit false))).a Cnd.t).a (((Cnd.p (Wk (AV.v (Value.bool (nm.toList == []))) (AV.lit false))).a Cnd.t).a (((Cnd.p (Five 56 ∧ nm.size ≤ 4000000)).a Cnd.t).a (((Cnd.p (Wk (AV.v (Value.bool !qIn 56 nm)) (AV.lit false))).a Cnd.t).a (((Cnd.p (Five 57 ∧ vl.size ≤ 4000000)).a Cnd.t).a (((Cnd.p (Wk (AV.v (Value.bool !qIn 57 vl)) (AV.lit false))).a Cnd.t).a (((Cnd.p (Wk (AV.lit false) (AV.lit false))).a Cnd.t).a (((Cnd.p (nm.size ≤ 140737488355328 ∧ asciiB nm)).a ((Cnd.p (Wk (AV.v (Value.string (lowB nm))) (AV.v (Value.string lw)))).a Cnd.t)).a (((Cnd.p (true = true)).a ((Cnd.p ([AV.v (Value.string m), AV.v (Value.string t), AV.slice 1000 0 (List.length L) 2 (Cp.lo (List.length L)), AV.v (Value.slice none 0 0)] = [AV.v (Value.string m), AV.v (Value.string t), AV.slice 1000 0 (List.length L) 2 (Cp.lo (List.length L)), AV.v (Value.slice none 0 0)])).a Cnd.t)).a (((Cnd.p True).a ((Cnd.p (VW [AV.agg [AV.v (Value.string m), AV.v (Value.string t), AV.slice 1000 0 (List.length L) 2 (Cp.lo (List.length L)), AV.v (Value.slice none 0 0)], AV.v (Value.string lw)] [AV.agg [AV.v (Value.string m), AV.v (Value.string t), AV.slice 1000 0 (List.length L) 2 (Cp.lo (List.length L)), AV.v (Value.slice none 0 0)], AV.v (Value.string lw)])).a ((Cnd.p (OW (AO.cells (rowV encP L) 78) (AO.cells (AV.rens (nm0 1000) (rowV encP L)) 78))).a ((Cnd.p (Wk (AV.tuple [AV.v (Value.string gv), AV.v (Value.bool false)]) (AV.tuple [AV.v (Value.string gv), AV.lit false]))).a Cnd.t)))).a (((Cnd.p (Wk (AV.v (Value.bool (lw.toList == [(ByteArray.mk (Array.mk [116, 114, 97, 110, 115, 102, 101, 114, 45, 101, 110, 99, 111, 100, 105, 110, 103])).get! 0, (ByteArray.mk (Array.mk [116, 114, 97, 110, 115, 102, 101, 114, 45, 101, 110, 99, 111, 100, 105, 110, 103])).get! 1, (ByteArray.mk (Array.mk [116, 114, 97, 110, 115, 102, 101, 114, 45, 101, 110, 99, 111, 100, 105, 110, 103])).get! 2, (ByteArray.mk (Array.mk [116, 114, 97, 110, 115, 102, 101, 114, 45, 101, 110, 99, 111, 100, 105, 110, 103])).get! 3, (ByteArray.mk (Array.mk [116, 114, 97, 110, 115, 102, 101, 114, 45, 101, 110, 99, 111, 100, 105, 110, 103])).get! 4, (ByteArray.mk (Array.mk [116, 114, 97, 110, 115, 102, 101, 114, 45, 101, 110, 99, 111, 100, 105, 110, 103])).get! 5, (ByteArray.mk (Array.mk [116, 114, 97, 110, 115, 102, 101, 114, 45, 101, 110, 99, 111, 100, 105, 110, 103])).get! 6, (ByteArray.mk (Array.mk [116, 114, 97, 110, 115, 102, 101, 114, 45, 101, 110, 99, 111, 100, 105, 110, 103])).get! 7, (ByteArray.mk (Array.mk [116, 114, 97, 110, 115, 102, 101, 114, 45, 101, 110, 99, 111, 100, 105, 110, 103])).get! 8, (ByteArray.mk (Array.mk [116, 114, 97, 110, 115, 102, 101, 114, 45, 101, 110, 99, 111, 100, 105, 110, 103])).get! 9, (ByteArray.mk (Array.mk [116, 114, 97, 110, 115, 102, 101, 114, 45, 101, 110, 99, 111, 100, 105, 110, 103])).get! 10, (ByteArray.mk (Array.mk [116, 114, 97, 110, 115, 102, 101, 114, 45, 101, 110, 99, 111, 100, 105, 110, 103])).get! 11, (ByteArray.mk (Array.mk [116, 114, 97, 110, 115, 102, 101, 114, 45, 101, 110, 99, 111, 100, 105, 110, 103])).get! 12, (ByteArray.mk (Array.mk [116, 114, 97, 110, 115, 102, 101, 114, 45, 101, 110, 99, 111, 100, 105, 110, 103])).get! 13, (ByteArray.mk (Array.mk [116, 114, 97, 110, 115, 102, 101, 114, 45, 101, 110, 99, 111, 100, 105, 110, 103])).get! 14, (ByteArray.mk (Array.mk [116, 114, 97, 110, 115, 102, 101, 114, 45, 101, 110, 99, 111, 100, 105, 110, 103])).get! 15, (ByteArray.mk (Array.mk [116, 114, 97, 110, 115, 102, 101, 114, 45, 101, 110, 99, 111, 100, 105, 110, 103])).get! 16]))) (AV.lit false))).a Cnd.t).a (((Cnd.p (true = true)).a Cnd.t).a (((Cnd.p (vl.size < 4294967281 ∧ 2 < 4294967281 ∧ asciiB (ByteArray.mk (Array.mk [32, 9])))).a ((Cnd.p (Wk (AV.v (Value.string (trimB vl (ByteArray.mk (Array.mk [32, 9]))))) (AV.v (Value.string tv)))).a Cnd.t)).a (((Cnd.p (true = true)).a ((Cnd.p (true = true)).a ((Cnd.p (true = true)).a ((Cnd.p (true = true)).a ((Cnd.p ((0 + List.length L * 2).ble (AV.rens (sgN (nm0 1000) [] 0) (rowV encP L)).length = true)).a ((Cnd.p (((List.length L + 1) * 32).ble 140737488355328 = true)).a ((Cnd.p ((List.length L + 1).ble 9223372036854775807 = true)).a ((Cnd.p ((List.take (List.length L * 2) (List.drop 0 (AV.rens (sgN (nm0 1000) [] 0) (rowV encP L)))).length.beq (List.length L * 2) = true)).a Cnd.t)))))))).a (((Cnd.p (true = true)).a Cnd.t).a Cnd.t)))))))))))))))) := by kernel_rfl
/-! length -/

def hLe (v : ByteArray) (ok n1 b1 b2 b3 r : Bool) : ClaimT := hintL [(fLen, 1, 1, hv (.tuple [sv v, .lit ok])), (fLen, 2, 1, hv (.lit n1)), (fLen, 4, 1, hv (.lit b1)), (fLen, 4, 5, hv (.lit b2)), (fLen, 4, 10, hv (.lit b3)), (fLen, 4, 11, hv (.lit r))]
theorem oLe0_eq (W : World) (m t : ByteArray) (F : HP) : wRun [(fGet, cGet0 m t clB)] (hLe nil0 false true false false false false) [] W fLen [rqV m t nilP nilB] [] [] F = VT.leaf (AV.tuple [AV.v (Value.int IntKind.i64 (Int.ofNat 0)), AV.v (Value.bool true)]) [] 1101 (((Cnd.p (true = true)).a ((Cnd.p ([AV.v (Value.string m), AV.v (Value.string t), AV.v (Value.slice none 0 0), AV.v (Value.slice none 0 0)] = [AV.v (Value.string m), AV.v (Value.string t), AV.v (Value.slice none 0 0), AV.v (Value.slice none 0 0)])).a Cnd.t)).a (((Cnd.p True).a ((Cnd.p (VW [AV.agg [AV.v (Value.string m), AV.v (Value.string t), AV.v (Value.slice none 0 0), AV.v (Value.slice none 0 0)], AV.v (Value.string (ByteArray.mk (Array.mk [99, 111, 110, 116, 101, 110, 116, 45, 108, 101, 110, 103, 116, 104])))] [AV.agg [AV.v (Value.string m), AV.v (Value.string t), AV.v (Value.slice none 0 0), AV.v (Value.slice none 0 0)], AV.v (Value.string clB)])).a ((Cnd.p (Wk (AV.tuple [AV.v (Value.string nil0), AV.v (Value.bool false)]) (AV.tuple [AV.v (Value.string nil0), AV.lit false]))).a Cnd.t))).a (((Cnd.p (Wk (AV.v (Value.bool true)) (AV.lit true))).a Cnd.t).a Cnd.t))) := by kernel_rfl
theorem oLe1_eq (W : World) (L : Hds) (m t v : ByteArray) (F : HP) : wRun [(fGet, cGet L m t clB v false), (fAll, cAll)] (hLe v false true false false false false) [] W fLen [rqV m t (sP 0 L.length) nilB] [(0, rP L)] [0] F = VT.leaf (AV.tuple [AV.v (Value.int IntKind.i64 (Int.ofNat 0)), AV.v (Value.bool true)]) [some (AO.cells (AV.rens (sgN (nm0 0) [] 0) (rowV encP L)) 78)] 1101 (((Cnd.p (true = true)).a ((Cnd.p ([AV.v (Value.string m), AV.v (Value.string t), AV.slice 0 0 (List.length L) 2 (Cp.lo (List.length L)), AV.v (Value.slice none 0 0)] = [AV.v (Value.string m), AV.v (Value.string t), AV.slice 0 0 (List.length L) 2 (Cp.lo (List.length L)), AV.v (Value.slice none 0 0)])).a Cnd.t)).a (((Cnd.p True).a ((Cnd.p (VW [AV.agg [AV.v (Value.string m), AV.v (Value.string t), AV.slice 0 0 (List.length L) 2 (Cp.lo (List.length L)), AV.v (Value.slice none 0 0)], AV.v (Value.string (ByteArray.mk (Array.mk [99, 111, 110, 116, 101, 110, 116, 45, 108, 101, 110, 103, 116, 104])))] [AV.agg [AV.v (Value.string m), AV.v (Value.string t), AV.slice 0 0 (List.length L) 2 (Cp.lo (List.length L)), AV.v (Value.slice none 0 0)], AV.v (Value.string clB)])).a ((Cnd.p (OW (AO.cells (rowV encP L) 78) (AO.cells (AV.rens (nm0 0) (rowV encP L)) 78))).a ((Cnd.p (Wk (AV.tuple [AV.v (Value.string v), AV.v (Value.bool false)]) (AV.tuple [AV.v (Value.string v), AV.lit false]))).a Cnd.t)))).a (((Cnd.p (Wk (AV.v (Value.bool true)) (AV.lit true))).a Cnd.t).a Cnd.t))) := by kernel_rfl
theorem oLe2_eq (W : World) (L : Hds) (m t v : ByteArray) (F : HP) : wRun [(fGet, cGet L m t clB v true), (fAll, cAll)] (hLe v true false true false false true) [] W fLen [rqV m t (sP 0 L.length) nilB] [(0, rP L)] [0] F = VT.leaf (AV.tuple [AV.v (Value.int IntKind.i64 (Int.ofNat 0)), AV.v (Value.bool false)]) [some (AO.cells (AV.rens (sgN (nm0 0) [] 0) (rowV encP L)) 78)] 1101 (((Cnd.p (true = true)).a ((Cnd.p ([AV.v (Value.string m), AV.v (Value.string t), AV.slice 0 0 (List.length L) 2 (Cp.lo (List.length L)), AV.v (Value.slice none 0 0)] = [AV.v (Value.string m), AV.v (Value.string t), AV.slice 0 0 (List.length L) 2 (Cp.lo (List.length L)), AV.v (Value.slice none 0 0)])).a Cnd.t)).a (((Cnd.p True).a ((Cnd.p (VW [AV.agg [AV.v (Value.string m), AV.v (Value.string t), AV.slice 0 0 (List.length L) 2 (Cp.lo (List.length L)), AV.v (Value.slice none 0 0)], AV.v (Value.string (ByteArray.mk (Array.mk [99, 111, 110, 116, 101, 110, 116, 45, 108, 101, 110, 103, 116, 104])))] [AV.agg [AV.v (Value.string m), AV.v (Value.string t), AV.slice 0 0 (List.length L) 2 (Cp.lo (List.length L)), AV.v (Value.slice none 0 0)], AV.v (Value.string clB)])).a ((Cnd.p (OW (AO.cells (rowV encP L) 78) (AO.cells (AV.rens (nm0 0) (rowV encP L)) 78))).a ((Cnd.p (Wk (AV.tuple [AV.v (Value.string v), AV.v (Value.bool true)]) (AV.tuple [AV.v (Value.string v), AV.lit true]))).a Cnd.t)))).a (((Cnd.p (Wk (AV.v (Value.bool false)) (AV.lit false))).a Cnd.t).a (((Cnd.p (Wk (AV.v (Value.bool (v.toList == []))) (AV.lit true))).a Cnd.t).a (((Cnd.p (Wk (AV.lit true) (AV.lit true))).a Cnd.t).a Cnd.t))))) := by kernel_rfl
theorem oLe3_eq (W : World) (L : Hds) (m t v : ByteArray) (F : HP) : wRun [(fGet, cGet L m t clB v true), (fAll, cAll)] (hLe v true false false true false true) [] W fLen [rqV m t (sP 0 L.length) nilB] [(0, rP L)] [0] F = VT.leaf (AV.tuple [AV.v (Value.int IntKind.i64 (Int.ofNat 0)), AV.v (Value.bool false)]) [some (AO.cells (AV.rens (sgN (nm0 0) [] 0) (rowV encP L)) 78)] 1101 (((Cnd.p (true = true)).a ((Cnd.p ([AV.v (Value.string m), AV.v (Value.string t), AV.slice 0 0 (List.length L) 2 (Cp.lo (List.length L)), AV.v (Value.slice none 0 0)] = [AV.v (Value.string m), AV.v (Value.string t), AV.slice 0 0 (List.length L) 2 (Cp.lo (List.length L)), AV.v (Value.slice none 0 0)])).a Cnd.t)).a (((Cnd.p True).a ((Cnd.p (VW [AV.agg [AV.v (Value.string m), AV.v (Value.string t), AV.slice 0 0 (List.length L) 2 (Cp.lo (List.length L)), AV.v (Value.slice none 0 0)], AV.v (Value.string (ByteArray.mk (Array.mk [99, 111, 110, 116, 101, 110, 116, 45, 108, 101, 110, 103, 116, 104])))] [AV.agg [AV.v (Value.string m), AV.v (Value.string t), AV.slice 0 0 (List.length L) 2 (Cp.lo (List.length L)), AV.v (Value.slice none 0 0)], AV.v (Value.string clB)])).a ((Cnd.p (OW (AO.cells (rowV encP L) 78) (AO.cells (AV.rens (nm0 0) (rowV encP L)) 78))).a ((Cnd.p (Wk (AV.tuple [AV.v (Value.string v), AV.v (Value.bool true)]) (AV.tuple [AV.v (Value.string v), AV.lit true]))).a Cnd.t)))).a (((Cnd.p (Wk (AV.v (Value.bool false)) (AV.lit false))).a Cnd.t).a (((Cnd.p (Wk (AV.v (Value.bool (v.toList == []))) (AV.lit false))).a Cnd.t).a (((Cnd.p (Wk (AV.v (Value.bool (decide (↑v.size > Int.ofNat 9)))) (AV.lit true))).a Cnd.t).a (((Cnd.p (Wk (AV.lit true) (AV.lit true))).a Cnd.t).a Cnd.t)))))) := by kernel_rfl
theorem oLe4_eq (W : World) (L : Hds) (m t v : ByteArray) (F : HP) : wRun [(fGet, cGet L m t clB v true), (fAll, cAll)] (hLe v true false false false true true) [] W fLen [rqV m t (sP 0 L.length) nilB] [(0, rP L)] [0] F = VT.leaf (AV.tuple [AV.v (Value.int IntKind.i64 (Int.ofNat 0)), AV.v (Value.bool false)]) [some (AO.cells (AV.rens (sgN (nm0 0) [] 0) (rowV encP L)) 78)] 1101 (((Cnd.p (true = true)).a ((Cnd.p ([AV.v (Value.string m), AV.v (Value.string t), AV.slice 0 0 (List.length L) 2 (Cp.lo (List.length L)), AV.v (Value.slice none 0 0)] = [AV.v (Value.string m), AV.v (Value.string t), AV.slice 0 0 (List.length L) 2 (Cp.lo (List.length L)), AV.v (Value.slice none 0 0)])).a Cnd.t)).a (((Cnd.p True).a ((Cnd.p (VW [AV.agg [AV.v (Value.string m), AV.v (Value.string t), AV.slice 0 0 (List.length L) 2 (Cp.lo (List.length L)), AV.v (Value.slice none 0 0)], AV.v (Value.string (ByteArray.mk (Array.mk [99, 111, 110, 116, 101, 110, 116, 45, 108, 101, 110, 103, 116, 104])))] [AV.agg [AV.v (Value.string m), AV.v (Value.string t), AV.slice 0 0 (List.length L) 2 (Cp.lo (List.length L)), AV.v (Value.slice none 0 0)], AV.v (Value.string clB)])).a ((Cnd.p (OW (AO.cells (rowV encP L) 78) (AO.cells (AV.rens (nm0 0) (rowV encP L)) 78))).a ((Cnd.p (Wk (AV.tuple [AV.v (Value.string v), AV.v (Value.bool true)]) (AV.tuple [AV.v (Value.string v), AV.lit true]))).a Cnd.t)))).a (((Cnd.p (Wk (AV.v (Value.bool false)) (AV.lit false))).a Cnd.t).a (((Cnd.p (Wk (AV.v (Value.bool (v.toList == []))) (AV.lit false))).a Cnd.t).a (((Cnd.p (Wk (AV.v (Value.bool (decide (↑v.size > Int.ofNat 9)))) (AV.lit false))).a Cnd.t).a (((Cnd.p (Five 60 ∧ v.size ≤ 4000000)).a Cnd.t).a (((Cnd.p (Wk (AV.v (Value.bool !qIn 60 v)) (AV.lit true))).a Cnd.t).a (((Cnd.p (Wk (AV.lit true) (AV.lit true))).a Cnd.t).a Cnd.t)))))))) := by kernel_rfl
theorem oLe5_eq (W : World) (L : Hds) (m t v : ByteArray) (z : Int) (F : HP) : wRun [(fGet, cGet L m t clB v true), (fAll, cAll), (fAtoi, cAtoi v z)] (hLe v true false false false false false) [] W fLen [rqV m t (sP 0 L.length) nilB] [(0, rP L)] [0] F = VT.leaf (AV.tuple [AV.v (Value.int IntKind.i64 z), AV.v (Value.bool true)]) [some (AO.cells (AV.rens (sgN (nm0 0) [] 0) (rowV encP L)) 78)] 1101 (((Cnd.p (true = true)).a ((Cnd.p ([AV.v (Value.string m), AV.v (Value.string t), AV.slice 0 0 (List.length L) 2 (Cp.lo (List.length L)), AV.v (Value.slice none 0 0)] = [AV.v (Value.string m), AV.v (Value.string t), AV.slice 0 0 (List.length L) 2 (Cp.lo (List.length L)), AV.v (Value.slice none 0 0)])).a Cnd.t)).a (((Cnd.p True).a ((Cnd.p (VW [AV.agg [AV.v (Value.string m), AV.v (Value.string t), AV.slice 0 0 (List.length L) 2 (Cp.lo (List.length L)), AV.v (Value.slice none 0 0)], AV.v (Value.string (ByteArray.mk (Array.mk [99, 111, 110, 116, 101, 110, 116, 45, 108, 101, 110, 103, 116, 104])))] [AV.agg [AV.v (Value.string m), AV.v (Value.string t), AV.slice 0 0 (List.length L) 2 (Cp.lo (List.length L)), AV.v (Value.slice none 0 0)], AV.v (Value.string clB)])).a ((Cnd.p (OW (AO.cells (rowV encP L) 78) (AO.cells (AV.rens (nm0 0) (rowV encP L)) 78))).a ((Cnd.p (Wk (AV.tuple [AV.v (Value.string v), AV.v (Value.bool true)]) (AV.tuple [AV.v (Value.string v), AV.lit true]))).a Cnd.t)))).a (((Cnd.p (Wk (AV.v (Value.bool false)) (AV.lit false))).a Cnd.t).a (((Cnd.p (Wk (AV.v (Value.bool (v.toList == []))) (AV.lit false))).a Cnd.t).a (((Cnd.p (Wk (AV.v (Value.bool (decide (↑v.size > Int.ofNat 9)))) (AV.lit false))).a Cnd.t).a (((Cnd.p (Five 60 ∧ v.size ≤ 4000000)).a Cnd.t).a (((Cnd.p (Wk (AV.v (Value.bool !qIn 60 v)) (AV.lit false))).a Cnd.t).a (((Cnd.p (Wk (AV.lit false) (AV.lit false))).a Cnd.t).a (((Cnd.p (v = v)).a Cnd.t).a Cnd.t))))))))) := by kernel_rfl
end
end Go.Proofs.YtpijbbobejeemaaGreatDoor.Htp

