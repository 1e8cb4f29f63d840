/- Parts of the proof, merged. -/
import Derived.Test.YtbmoancedlbhlaaDoorTpl3
import Derived.Test.YtbmoancedlbhlaaDoorMem
import Derived.Deep.Slices
import Derived.SizedLaws
import Derived.Test.YtbmoancedlbhlaaDoorRows
import Derived.ProofKit
import Derived.OpenShut
import Derived.Deep.Fields
/- Topic: the document's Sorted. -/
set_option linter.unusedVariables false
set_option linter.unusedSimpArgs false
set_option maxRecDepth 100000
namespace Go.Proofs.YtbmoancedlbhlaaDoor.Tpc.Srt
open Go Go.RowKit Go.Proofs.YtbmoancedlbhlaaDoor.Eng Go.Proofs.YtbmoancedlbhlaaDoor.Kit
theorem bl_lt (a b : ByteArray) : Op.bytesLess a.toList b.toList = decide (lt a b) := by
  rw [bytesLess_eq, Lib.toList_data, Lib.toList_data]; rfl
theorem bl_eq (a b : ByteArray) : (a.toList == b.toList) = decide (a = b) := by
  by_cases h : a = b
  · subst h; rw [decide_eq_true rfl]; exact beq_self_eq_true _
  · rw [decide_eq_false h]; exact bs_ne h
theorem ow_eqc {x y : List AV} {e : TypeId} (h : x = y) : OW (.cells x e) (.cells y e) := by subst h; exact OW.refl _
theorem fi_loop (T S : List ByteArray) (i : Nat) (x : ByteArray) (hx : T.getD i nil0 = x) (hi : i < T.length) (hT : T.length ≤ 9000000) (hS : S.length ≤ 9000000) :
    LTri Tryd.prog default (loopN fSo 6) (tms 0 73 (aFi T.length S.length i 0)) (oSo T S) (.exit 2) (tms 0 73 (aFi T.length S.length i (atS S x))) (oSo T S) := by
  refine ltri_run (W := default) (g := fSo) (b := loopN fSo 6) (σ := {j : Nat // j ≤ atS S x}) 73 (fun j => aFi T.length S.length i j.1) (fun j => oSo T S) (.exit 2) (aFi T.length S.length i (atS S x)) (oSo T S) (fun j => S.length - j.1) [0, 1000] [0, 3, 4, 5] (by intro h; cases h) (fun _ => rfl) rfl ?_ ⟨0, Nat.zero_le _⟩
  rintro ⟨j, hj⟩
  simp only
  have hle := atS_le S x
  by_cases h1 : j < S.length
  · have hw := wrap_succ j (by omega)
    have e1 : decide (Int.ofNat j < (S.length : Int)) = true := ltTC h1
    have g0 := rS_get S j h1
    have g1 := rS_lt S j h1
    have g2 := rS_get T i hi
    have g3 := rS_lt T i hi
    rw [hx] at g2
    by_cases h2 : j < atS S x
    · have hlt := atS_lt h2
      have c1 : Op.bytesLess (S.getD j nil0).toList x.toList = true := (bl_lt _ _).trans (decide_eq_true hlt)
      generalize S.getD j nil0 = y at g0 c1
      refine ⟨[], hFi j y x true, [], fun _ _ => noC, fun _ _ => noL, fun F => ?_⟩
      refine cast (congrArg (VAll _) (oFiR_eq T S y x T.length S.length i j F).symm) ⟨⟨?_, rfl, .inl ⟨rfl, ⟨j + 1, h2⟩, sub_down h1, [(1000, 1000)], by kernel_rfl, by kernel_rfl, ⟨Wk.refl _, Wk.refl _, Wk.refl _, Wk.refl _, trivial⟩, ⟨_, rfl, rS_ow rfl rfl⟩, ⟨_, rfl, rS_ow rfl rfl⟩, trivial⟩⟩⟩
      simp only [Cnd.holds, e1, g0, g1, g2, g3, h1, hi, AV.strOf, sv, Nat.blt_eq, true_and, and_true]
      and_intros
      all_goals first
        | (with_reducible exact wk_int hw)
        | exact wk_litE e1
        | exact wk_litE c1 | (with_reducible first | exact trivial | exact rfl | exact Wk.refl _ | exact VW.refl _ | exact OW.refl _ | exact wk_lit _ | assumption) | exact rfl | exact Wk.refl _ | exact VW.refl _ | exact OW.refl _ | ((repeat (first | exact VW.nil | refine VW.cons (Wk.refl _) ?_ | refine VW.cons (Wk.any _) ?_ | refine VW.cons (wk_cap (Nat.le_refl _)) ?_)); done)
    · have hj2 : j = atS S x := by omega
      subst hj2
      have hlt := atS_not h1
      have c1 : Op.bytesLess (S.getD (atS S x) nil0).toList x.toList = false := (bl_lt _ _).trans (decide_eq_false hlt)
      generalize S.getD (atS S x) nil0 = y at g0 c1
      refine ⟨[], hFi (atS S x) y x false, [], fun _ _ => noC, fun _ _ => noL, fun F => ?_⟩
      refine cast (congrArg (VAll _) (oFiN_eq T S y x T.length S.length i (atS S x) F).symm) ⟨⟨?_, rfl, .inr ⟨rfl, [(1000, 1000)], by kernel_rfl, by kernel_rfl, ⟨Wk.refl _, Wk.refl _, Wk.refl _, Wk.refl _, trivial⟩, ⟨_, rfl, rS_ow rfl rfl⟩, ⟨_, rfl, rS_ow rfl rfl⟩, trivial⟩⟩⟩
      simp only [Cnd.holds, e1, g0, g1, g2, g3, h1, hi, AV.strOf, sv, Nat.blt_eq, true_and, and_true]
      and_intros
      all_goals first
        | exact wk_litE e1
        | exact wk_litE c1 | (with_reducible first | exact trivial | exact rfl | exact Wk.refl _ | exact VW.refl _ | exact OW.refl _ | exact wk_lit _ | assumption) | exact rfl | exact Wk.refl _ | exact VW.refl _ | exact OW.refl _ | ((repeat (first | exact VW.nil | refine VW.cons (Wk.refl _) ?_ | refine VW.cons (Wk.any _) ?_ | refine VW.cons (wk_cap (Nat.le_refl _)) ?_)); done)
  · have hj2 : j = S.length := by omega
    have hj3 : atS S x = S.length := by omega
    subst hj2
    rw [hj3]
    refine ⟨[], hFE, [], fun _ _ => noC, fun _ _ => noL, fun F => ?_⟩
    refine cast (congrArg (VAll _) (oFiE_eq T S T.length S.length i F).symm) ⟨⟨?_, rfl, .inr ⟨rfl, [(1000, 1000)], by kernel_rfl, by kernel_rfl, ⟨Wk.refl _, Wk.refl _, Wk.refl _, Wk.refl _, trivial⟩, ⟨_, rfl, rS_ow rfl rfl⟩, ⟨_, rfl, rS_ow rfl rfl⟩, trivial⟩⟩⟩
    simp only [Cnd.holds, and_true]
    exact wk_litE ltFC
theorem sh_loop (T S : List ByteArray) (i a : Nat) (ha : a ≤ S.length) (hS : S.length ≤ 9000000) :
    LTri Tryd.prog default (loopN fSo 11) (tms 0 73 (aSh T.length (S.length + 1) i a S.length)) (oSo T (S ++ [nil0])) (.exit 4) (tms 0 73 (aFi T.length (S.length + 1) i a)) (oSo T (rowK S a)) := by
  rw [← rowK_end]
  refine ltri_run (W := default) (g := fSo) (b := loopN fSo 11) (σ := {k : Nat // a ≤ k ∧ k ≤ S.length}) 73 (fun k => aSh T.length (S.length + 1) i a k.1) (fun k => oSo T (rowK S k.1)) (.exit 4) (aFi T.length (S.length + 1) i a) (oSo T (rowK S a)) (fun k => k.1) [0, 1000] [0, 3, 4, 5, 6] (by intro h; cases h) (fun _ => rfl) rfl ?_ ⟨S.length, ha, Nat.le_refl _⟩
  rintro ⟨k, hk1, hk2⟩
  simp only
  rcases Nat.lt_or_ge a k with h1 | h1
  · obtain ⟨m, rfl⟩ : ∃ m, k = m + 1 := ⟨k - 1, by omega⟩
    have e1 : decide (Int.ofNat (m + 1) > Int.ofNat a) = true := decide_eq_true (by simp only [Int.ofNat_eq_natCast]; omega)
    have e2 : IntKind.i64.wrap (Int.ofNat (m + 1) - Int.ofNat 1) = Int.ofNat m := by
      rw [show Int.ofNat (m + 1) - Int.ofNat 1 = Int.ofNat m from by simp only [Int.ofNat_eq_natCast]; omega]
      exact wrap_in _ (by simp only [Int.ofNat_eq_natCast]; omega) (by simp only [Int.ofNat_eq_natCast]; omega)
    have hl := rowK_len S (m + 1) hk2
    have g0 := rS_get (rowK S (m + 1)) m (by omega)
    have g1 := rS_lt (rowK S (m + 1)) m (by omega)
    have g2 : m < S.length + 1 := by omega
    have g3 : m + 1 < S.length + 1 := by omega
    have g4 := rS_in (rowK S (m + 1)) (m + 1) (by omega)
    rw [rowK_get S m (by omega)] at g0
    have hset := rowK_set S m (by omega)
    have hsp := rS_set (rowK S (m + 1)) (m + 1) (S.getD m nil0) (by omega)
    rw [hset] at hsp
    generalize S.getD m nil0 = y at g0 hset hsp
    generalize rowK S (m + 1) = R at *
    refine ⟨[], hSh m y, [], fun _ _ => noC, fun _ _ => noL, fun F => ?_⟩
    refine cast (congrArg (VAll _) (oShR_eq T R y T.length (S.length + 1) i a m F).symm) ⟨⟨?_, rfl, .inl ⟨rfl, ⟨m, by omega, by omega⟩, Nat.lt_succ_self m, [(1000, 1000)], by kernel_rfl, by kernel_rfl, ⟨Wk.refl _, Wk.refl _, Wk.refl _, Wk.refl _, Wk.refl _, trivial⟩, ⟨_, rfl, rS_ow rfl rfl⟩, ⟨_, rfl, rS_ow hsp rfl⟩, trivial⟩⟩⟩
    simp only [Cnd.holds, e1, g0, g1, g2, g3, g4, AV.strOf, sv, Nat.blt_eq, true_and, and_true]
    and_intros
    all_goals first
      | (with_reducible exact wk_int e2)
      | exact wk_litE e1 | (with_reducible first | exact trivial | exact rfl | exact Wk.refl _ | exact VW.refl _ | exact OW.refl _ | exact wk_lit _ | assumption) | exact rfl | exact Wk.refl _ | exact VW.refl _ | exact OW.refl _ | ((repeat (first | exact VW.nil | refine VW.cons (Wk.refl _) ?_ | refine VW.cons (Wk.any _) ?_ | refine VW.cons (wk_cap (Nat.le_refl _)) ?_)); done)
  · have hj2 : k = a := by omega
    subst hj2
    have e1 : decide (Int.ofNat k > Int.ofNat k) = false := decide_eq_false (by simp)
    refine ⟨[], hShE, [], fun _ _ => noC, fun _ _ => noL, fun F => ?_⟩
    refine cast (congrArg (VAll _) (oShE_eq T (rowK S k) T.length (S.length + 1) i k F).symm) ⟨⟨?_, rfl, .inr ⟨rfl, [(1000, 1000)], by kernel_rfl, by kernel_rfl, ⟨Wk.refl _, Wk.refl _, Wk.refl _, Wk.refl _, trivial⟩, ⟨_, rfl, rS_ow rfl rfl⟩, ⟨_, rfl, rS_ow rfl rfl⟩, trivial⟩⟩⟩
    simp only [Cnd.holds, and_true]
    exact wk_litE e1
theorem gSo_ro : ∀ args, RO (gSo args) := by
  intro args
  unfold gSo
  split
  · split
    · exact RO.ret _
    · exact RO.fail _
  · exact RO.fail _
theorem lFi_ok (T S : List ByteArray) (i : Nat) (x : ByteArray) (hx : T.getD i nil0 = x) (hi : i < T.length) (hT : T.length ≤ 9000000) (hS : S.length ≤ 9000000) (F : HP) : L1OK Tryd.prog F (loopN fSo 6) (lFi T S T.length S.length i (atS S x)) :=
  mkL_ok (W := default) oldDef gSo_ro (fun _ _ => fi_loop T S i x hx hi hT hS) fun _ => by
    simp only [RT.pick]
    exact closedT rfl rfl (all_cons rfl (all_cons rfl (all_cons trivial (all_cons trivial all_nil)))) (all_cons (rS_cl _ _) (all_cons (rS_cl _ _) all_nil)) (all_cons rfl (all_cons rfl (all_cons trivial (all_cons trivial all_nil)))) (all_cons (rS_cl _ _) (all_cons (rS_cl _ _) all_nil))
theorem lSh_ok (T S : List ByteArray) (i a : Nat) (ha : a ≤ S.length) (hS : S.length ≤ 9000000) (F : HP) : L1OK Tryd.prog F (loopN fSo 11) (lSh T (S ++ [nil0]) (rowK S a) T.length (S.length + 1) i a S.length) :=
  mkL_ok (W := default) oldDef gSo_ro (fun _ _ => sh_loop T S i a ha hS) fun _ => by
    simp only [RT.pick]
    exact closedT rfl rfl (all_cons rfl (all_cons rfl (all_cons trivial (all_cons trivial (all_cons trivial all_nil))))) (all_cons (rS_cl _ _) (all_cons (rS_cl _ _) all_nil)) (all_cons rfl (all_cons rfl (all_cons trivial (all_cons trivial all_nil)))) (all_cons (rS_cl _ _) (all_cons (rS_cl _ _) all_nil))
structure SoI (T : List ByteArray) (z : Nat × List ByteArray) : Prop where
  le : z.1 ≤ T.length
  pw : z.2.Pairwise lt
  mem : ∀ x, x ∈ z.2 ↔ x ∈ T.take z.1
  len : z.2.length ≤ z.1
theorem so_loop (T : List ByteArray) (hT : T.length ≤ 8000000) :
    LTri Tryd.prog default (loopN fSo 3) (tms 0 73 (aSo T.length 0 0)) (oSo T []) (.exit 0) (tms 0 73 (aSo T.length (sortT T).length T.length)) (oSo T (sortT T)) := by
  refine ltri_run (W := default) (g := fSo) (b := loopN fSo 3) (σ := {z : Nat × List ByteArray // SoI T z}) 73 (fun z => aSo T.length z.1.2.length z.1.1) (fun z => oSo T z.1.2) (.exit 0) (aSo T.length (sortT T).length T.length) (oSo T (sortT T)) (fun z => T.length - z.1.1) [0, 1000, 1100, 1103] [0, 3, 4] (by intro h; cases h) (fun _ => rfl) rfl ?_ ⟨(0, []), Nat.zero_le _, List.Pairwise.nil, fun x => by simp, Nat.zero_le _⟩
  rintro ⟨⟨i, S⟩, hI⟩
  simp only
  have hle : i ≤ T.length := hI.le
  have hpw : S.Pairwise lt := hI.pw
  have hmem : ∀ x, x ∈ S ↔ x ∈ T.take i := hI.mem
  have hlen : S.length ≤ i := hI.len
  by_cases h1 : i < T.length
  · have hw := wrap_succ i (by omega)
    have e1 : decide (Int.ofNat i < (T.length : Int)) = true := ltTC h1
    have g2 := rS_get T i h1
    have g3 := rS_lt T i h1
    have hnx := take_next T nil0 i h1
    obtain ⟨x, hx⟩ : ∃ x, T.getD i nil0 = x := ⟨_, rfl⟩
    rw [hx] at g2 hnx
    have hmem' : ∀ y, y ∈ T.take (i + 1) ↔ y ∈ S ∨ y = x := fun y => by rw [hnx, List.mem_append, List.mem_singleton, hmem]
    have hfi := lFi_ok T S i x hx h1 (by omega) (by omega)
    have hsh := lSh_ok T S i (atS S x) (atS_le S x) (by omega)
    have hlt0 := atS_le S x
    by_cases hd : x ∈ S
    · obtain ⟨d1, d2⟩ := (atS_dup hpw).1 hd
      have g0 := rS_get S (atS S x) d1
      have g1 := rS_lt S (atS S x) d1
      rw [d2] at g0
      have e2 : decide (Int.ofNat (atS S x) < (S.length : Int)) = true := ltTC d1
      have c1 : (x.toList == x.toList) = true := beq_self_eq_true _
      refine ⟨[], hSoD i x x, [(fSo, 6, loopN fSo 6, lFi T S T.length S.length i (atS S x))], fun _ _ => noC, fun F _ => one_l (hfi F), fun F => ?_⟩
      refine cast (congrArg (VAll _) (oSoD_eq T S x x T.length S.length i (atS S x) F).symm) ⟨⟨?_, rfl, .inl ⟨rfl, ⟨(i + 1, S), h1, hpw, fun y => by rw [hmem' y]; exact ⟨.inl, fun h => h.elim id fun e => e ▸ hd⟩, by show S.length ≤ i + 1; omega⟩, sub_down h1, [(1000, 1100)], by kernel_rfl, by kernel_rfl, ⟨Wk.refl _, Wk.refl _, Wk.refl _, trivial⟩, ⟨_, rfl, rS_ow (by simp only [rens_rowV]) rfl⟩, ⟨_, rfl, rS_ow (by simp only [rens_rowV]) rfl⟩, trivial⟩⟩⟩
      simp only [Cnd.holds, rens_rowV, e1, e2, g0, g1, g2, g3, d1, h1, AV.strOf, sv, Nat.blt_eq, true_and, and_true]
      and_intros
      all_goals first
        | (with_reducible exact wk_int hw)
        | exact wk_litE e1
        | exact wk_litE e2
        | exact wk_litE c1 | (with_reducible first | exact trivial | exact rfl | exact Wk.refl _ | exact VW.refl _ | exact OW.refl _ | exact wk_lit _ | assumption) | exact rfl | exact Wk.refl _ | exact VW.refl _ | exact OW.refl _ | ((repeat (first | exact VW.nil | refine VW.cons (Wk.refl _) ?_ | refine VW.cons (Wk.any _) ?_ | refine VW.cons (wk_cap (Nat.le_refl _)) ?_)); done)
    · have hnew : SoI T (i + 1, insT S x) := ⟨h1, insT_pw hpw hd, fun y => by rw [hmem' y]; exact insT_mem, by
        have : (insT S x).length = S.length + 1 := by
          unfold insT
          rw [List.length_append, List.length_take, List.length_cons, List.length_drop]; omega
        show (insT S x).length ≤ i + 1
        omega⟩
      have hil : (insT S x).length = S.length + 1 := by
        unfold insT
        rw [List.length_append, List.length_take, List.length_cons, List.length_drop]; omega
      have k1 : (0 + S.length * 1).ble (rowV encS S).length = true := row_in encS_len S
      have k2 : ((S.length + 1) * 16).ble 140737488355328 = true := by rw [Nat.ble_eq]; omega
      have k3 : (S.length + 1).ble 9223372036854775807 = true := by rw [Nat.ble_eq]; omega
      have k4 := row_full encS_len S
      have hrow : List.take (S.length * 1) (List.drop 0 (rowV encS S)) ++ [AV.v (Value.string nil0)] = rowV encS (S ++ [nil0]) := row_addW encS_len S nil0
      have hkl := rowK_len S (atS S x) hlt0
      have hin := rS_in (rowK S (atS S x)) (atS S x) (by omega)
      have hsp := rS_set (rowK S (atS S x)) (atS S x) x (by omega)
      rw [rowK_ins] at hsp
      have e5 : IntKind.i64.wrap (((S.length + 1 : Nat) : Int) - Int.ofNat 1) = Int.ofNat S.length := by
        rw [show ((S.length + 1 : Nat) : Int) - Int.ofNat 1 = Int.ofNat S.length from by simp only [Int.ofNat_eq_natCast]; omega]
        exact wrap_in _ (by simp only [Int.ofNat_eq_natCast]; omega) (by simp only [Int.ofNat_eq_natCast]; omega)
      have q1 : atS S x < S.length + 1 := by omega
      rcases Nat.lt_or_ge (atS S x) S.length with h2 | h2
      · have g0 := rS_get S (atS S x) h2
        have g1 := rS_lt S (atS S x) h2
        have e2 : decide (Int.ofNat (atS S x) < (S.length : Int)) = true := ltTC h2
        have hne : S.getD (atS S x) nil0 ≠ x := fun e => hd ((atS_dup hpw).2 ⟨h2, e⟩)
        have c1 : ((S.getD (atS S x) nil0).toList == x.toList) = false := (bl_eq _ _).trans (decide_eq_false hne)
        generalize S.getD (atS S x) nil0 = y at g0 c1
        refine ⟨[], hSoI i S.length y x, [(fSo, 6, loopN fSo 6, lFi T S T.length S.length i (atS S x)), (fSo, 11, loopN fSo 11, lSh T (S ++ [nil0]) (rowK S (atS S x)) T.length (S.length + 1) i (atS S x) S.length)], fun _ _ => noC, fun F _ => lc_cons (hfi F) (one_l (hsh F)), fun F => ?_⟩
        refine cast (congrArg (VAll _) (oSoI_eq T S (S ++ [nil0]) (rowK S (atS S x)) y x T.length S.length i (atS S x) F).symm) ⟨⟨?_, rfl, .inl ⟨rfl, ⟨(i + 1, insT S x), hnew⟩, sub_down h1, [(1000, 1103)], by kernel_rfl, by kernel_rfl, ⟨Wk.refl _, ?_, Wk.refl _, trivial⟩, ⟨_, rfl, rS_ow (by simp only [rens_rowV]) rfl⟩, ⟨_, rfl, rS_ow (by simp only [rens_rowV]; exact hsp) rfl⟩, trivial⟩⟩⟩
        · simp only [Cnd.holds, rens_rowV, e1, e2, g0, g1, g2, g3, h2, h1, k1, k2, k3, k4, hin, q1, AV.strOf, sv, Nat.blt_eq, true_and, and_true]
          and_intros
          all_goals first
            | (with_reducible exact wk_int hw)
            | (with_reducible exact wk_int e5)
            | exact ow_eqc hrow
            | exact wk_litE e1
            | exact wk_litE e2
            | exact wk_litE c1 | (with_reducible first | exact trivial | exact rfl | exact Wk.refl _ | exact VW.refl _ | exact OW.refl _ | exact wk_lit _ | assumption) | exact rfl | exact Wk.refl _ | exact VW.refl _ | exact OW.refl _ | ((repeat (first | exact VW.nil | refine VW.cons (Wk.refl _) ?_ | refine VW.cons (Wk.any _) ?_ | refine VW.cons (wk_cap (Nat.le_refl _)) ?_)); done)
        · rw [hil]; exact Wk.refl _
      · have ha : atS S x = S.length := by omega
        have e2 : decide (Int.ofNat (atS S x) < (S.length : Int)) = false := by rw [ha]; exact ltFC
        refine ⟨[], hSoL i S.length x, [(fSo, 6, loopN fSo 6, lFi T S T.length S.length i (atS S x)), (fSo, 11, loopN fSo 11, lSh T (S ++ [nil0]) (rowK S (atS S x)) T.length (S.length + 1) i (atS S x) S.length)], fun _ _ => noC, fun F _ => lc_cons (hfi F) (one_l (hsh F)), fun F => ?_⟩
        refine cast (congrArg (VAll _) (oSoL_eq T S (S ++ [nil0]) (rowK S (atS S x)) x T.length S.length i (atS S x) F).symm) ⟨⟨?_, rfl, .inl ⟨rfl, ⟨(i + 1, insT S x), hnew⟩, sub_down h1, [(1000, 1103)], by kernel_rfl, by kernel_rfl, ⟨Wk.refl _, ?_, Wk.refl _, trivial⟩, ⟨_, rfl, rS_ow (by simp only [rens_rowV]) rfl⟩, ⟨_, rfl, rS_ow (by simp only [rens_rowV]; exact hsp) rfl⟩, trivial⟩⟩⟩
        · simp only [Cnd.holds, rens_rowV, e1, e2, g2, g3, h1, k1, k2, k3, k4, hin, q1, AV.strOf, sv, Nat.blt_eq, true_and, and_true]
          and_intros
          all_goals first
            | (with_reducible exact wk_int hw)
            | (with_reducible exact wk_int e5)
            | exact ow_eqc hrow
            | exact wk_litE e1
            | exact wk_litE e2 | (with_reducible first | exact trivial | exact rfl | exact Wk.refl _ | exact VW.refl _ | exact OW.refl _ | exact wk_lit _ | assumption) | exact rfl | exact Wk.refl _ | exact VW.refl _ | exact OW.refl _ | ((repeat (first | exact VW.nil | refine VW.cons (Wk.refl _) ?_ | refine VW.cons (Wk.any _) ?_ | refine VW.cons (wk_cap (Nat.le_refl _)) ?_)); done)
        · rw [hil]; exact Wk.refl _
  · have hje : i = T.length := by omega
    subst hje
    have ht : S = sortT T := sortT_char hpw fun x => by rw [hmem, List.take_length]
    subst ht
    refine ⟨[], hSoE, [], fun _ _ => noC, fun _ _ => noL, fun F => ?_⟩
    refine cast (congrArg (VAll _) (oSoE_eq T (sortT T) T.length (sortT T).length F).symm) ⟨⟨?_, rfl, .inr ⟨rfl, [(1000, 1000)], by kernel_rfl, by kernel_rfl, ⟨Wk.refl _, Wk.refl _, Wk.refl _, trivial⟩, ⟨_, rfl, rS_ow rfl rfl⟩, ⟨_, rfl, rS_ow rfl rfl⟩, trivial⟩⟩⟩
    simp only [Cnd.holds, and_true]
    exact wk_litE ltFC
theorem lSo_ok (T : List ByteArray) (hT : T.length ≤ 8000000) (F : HP) : L1OK Tryd.prog F (loopN fSo 3) (lSo T (sortT T) T.length (sortT T).length) :=
  mkL_ok (W := default) oldDef gSo_ro (fun _ _ => so_loop T hT) fun _ => by
    simp only [RT.pick]
    exact closedT rfl rfl (all_cons rfl (all_cons rfl (all_cons trivial all_nil))) (all_cons (rS_cl _ _) (all_cons (rS_cl _ _) all_nil)) (all_cons rfl (all_cons rfl (all_cons trivial all_nil))) (all_cons (rS_cl _ _) (all_cons (rS_cl _ _) all_nil))
theorem Sorted_tri (T : List ByteArray) (hT : T.length ≤ 8000000) : Tri Tryd.prog default fSo [sB 0 T.length] [(0, rS T)] (sB 1000 (sortT T).length) [(1000, rS (sortT T))] := by
  refine tri_run (con := []) (hints := noHints) (lc := [(fSo, 3, loopN fSo 3, lSo T (sortT T) T.length (sortT T).length)]) [0, 1100, 1101] rfl (fun F _ => noC) (fun F _ => one_l (lSo_ok T hT F)) fun F => ?_
  refine cast (congrArg (VAll _) (oSo_eq T (sortT T) T.length (sortT T).length F).symm) ⟨⟨?_, (fit_mk (vs' := [sB 1000 (sortT T).length]) (H' := [(1000, rS (sortT T))]) [(1000, 1101)] rfl rfl (VW.refl _) ⟨⟨_, rfl, rS_ow (by simp only [rens_rowV]) rfl⟩, trivial⟩).fits rfl⟩⟩
  simp only [Cnd.holds, rens_rowV, Nat.blt_eq, true_and, and_true]
  and_intros
  all_goals first | (with_reducible first | exact trivial | exact rfl | exact Wk.refl _ | exact VW.refl _ | exact OW.refl _ | exact wk_lit _ | assumption) | exact rfl | exact Wk.refl _ | exact VW.refl _ | exact OW.refl _ | ((repeat (first | exact VW.nil | refine VW.cons (Wk.refl _) ?_ | refine VW.cons (Wk.any _) ?_ | refine VW.cons (wk_cap (Nat.le_refl _)) ?_)); done)
end Go.Proofs.YtbmoancedlbhlaaDoor.Tpc.Srt

/- Topic: the document's Match over pairs: runs. -/
set_option linter.unusedVariables false
set_option linter.unusedSimpArgs false
set_option maxRecDepth 100000
namespace Go.Proofs.YtbmoancedlbhlaaDoor.Tpc.Srt
open Go Go.RowKit Go.Proofs.YtbmoancedlbhlaaDoor.Eng Go.Proofs.YtbmoancedlbhlaaDoor.Kit
noncomputable section
abbrev fPM : Nat := 15
abbrev tPr : TypeId := 2 * 31
def encPr (p : ByteArray × ByteArray) : List Value := [.string p.1, .string p.2]
def rPr (L : Pairs) : AO := .cells (rowV encPr L) tPr
def sP (i n : Nat) : AV := .slice i 0 n 2 (.lo n)
def gSor : List AV → AP (Nat × List ByteArray) := fun args => match args with
  | .slice a _ _ _ _ :: _ => .ret (a, [])
  | _ => .fail "sorted"
def nmA (a : Nat) : Nat → Nat := fun k => match Nat.beq k 0 with
  | true => a
  | false => k
def cSor (T S : List ByteArray) (nT nS : Nat) : List AV → Option (AP AV) := mkC gSor (fun _ => True) (fun q => nmA q.1) (fun _ => [sB 0 nT]) (fun _ => [(0, rS T)]) (fun _ => .leaf .ret [sB 1000 nS] [(1000, rS S)])
def aPM (key : ByteArray) (n m j : Nat) : List (Nat × AV) := [(0, sP 0 n), (1, sv key), (5, sB 1000 m), (6, iv (Int.ofNat j))]
def oPM (L : Pairs) (S : List ByteArray) : LH := [(0, rPr L), (1000, rS S)]
def hPM (j : Nat) (p : ByteArray × ByteArray) (b : Bool) : ClaimT := hintL [(fPM, 3, 3, hv (.lit true)), (fPM, 5, 4, hv (sv p.1)), (fPM, 5, 6, hv (.lit b)), (fPM, 6, 5, hv (sv p.2)), (fPM, 4, 1, hv (iv (Int.ofNat (j + 1))))]
def hPME : ClaimT := hintL [(fPM, 3, 3, hv (.lit false))]
theorem oPmT_eq (L : Pairs) (S : List ByteArray) (key : ByteArray) (p : ByteArray × ByteArray) (n m j : Nat) (F : HP) : wLoop [(fRM, cMs)] (hPM j p true) [] default fPM (loopN fPM 3) (tms 0 31 (aPM key n m j)) (oPM L S) [0, 1000, 1100, 1101] [0, 1, 5, 6] F = VT.leaf (AX.normal,[AV.slice 0 0 n 2 (Cp.lo n),s' key,AV.slice 1101 0 (m + 1) 1 (Cp.lo (m + 1)),i' (j + 1)],31) [some (AO.cells (rowV encPr L) 62),none,some (AO.cells [s' p.snd] 18),some (AO.cells (List.take (m * 1) (List.drop 0 (rowV encS S)) ++ [s' p.snd]) 18)] 1102 (((p' (Wk (b' (decide (Int.ofNat j < ↑n))) (AV.lit true))).a t').a (((p' (j.blt n = true)).a t').a (((p' ((0 + j * 2 + 0).blt (rowV encPr L).length = true)).a ((p' ((rowV encPr L).getD (0 + j * 2 + 0) (u') = AV.v (Value.string ((rowV encPr L).getD (0 + j * 2 + 0) (u')).strOf))).a ((p' (Wk (AV.v (Value.string ((rowV encPr L).getD (0 + j * 2 + 0) (u')).strOf)) (s' p.fst))).a t'))).a (((p' (p.fst.size ≤ 1100000 ∧ key.size ≤ 1100000)).a ((p' (VW [s' p.fst,s' key] [s' p.fst,s' key])).a ((p' (Wk (b' (mtB p.fst key)) (AV.lit true))).a t'))).a (((p' (j.blt n = true)).a t').a (((p' ((0 + j * 2 + 1).blt (rowV encPr L).length = true)).a ((p' ((rowV encPr L).getD (0 + j * 2 + 1) (u') = AV.v (Value.string ((rowV encPr L).getD (0 + j * 2 + 1) (u')).strOf))).a ((p' (Wk (AV.v (Value.string ((rowV encPr L).getD (0 + j * 2 + 1) (u')).strOf)) (s' p.snd))).a t'))).a (((p' (true = true)).a ((p' (true = true)).a ((p' (true = true)).a ((p' (true = true)).a ((p' ((0 + m * 1).ble (rowV encS S).length = true)).a ((p' (((m + 1) * 16).ble 140737488355328 = true)).a ((p' ((m + 1).ble 9223372036854775807 = true)).a ((p' ((List.take (m * 1) (List.drop 0 (rowV encS S))).length.beq (m * 1) = true)).a t')))))))).a (((p' (Wk (z' (IntKind.i64.wrap (Int.ofNat j + Int.ofNat 1))) (i' (j + 1)))).a t').a t')))))))) := by kernel_rfl
theorem oPmF_eq (L : Pairs) (S : List ByteArray) (key : ByteArray) (p : ByteArray × ByteArray) (n m j : Nat) (F : HP) : wLoop [(fRM, cMs)] (hPM j p false) [] default fPM (loopN fPM 3) (tms 0 31 (aPM key n m j)) (oPM L S) [0, 1000, 1100, 1101] [0, 1, 5, 6] F = VT.leaf (AX.normal,[AV.slice 0 0 n 2 (Cp.lo n),s' key,AV.slice 1000 0 m 1 (Cp.lo m),i' (j + 1)],31) [some (AO.cells (rowV encPr L) 62),some (AO.cells (rowV encS S) 18),none,none] 1100 (((p' (Wk (b' (decide (Int.ofNat j < ↑n))) (AV.lit true))).a t').a (((p' (j.blt n = true)).a t').a (((p' ((0 + j * 2 + 0).blt (rowV encPr L).length = true)).a ((p' ((rowV encPr L).getD (0 + j * 2 + 0) (u') = AV.v (Value.string ((rowV encPr L).getD (0 + j * 2 + 0) (u')).strOf))).a ((p' (Wk (AV.v (Value.string ((rowV encPr L).getD (0 + j * 2 + 0) (u')).strOf)) (s' p.fst))).a t'))).a (((p' (p.fst.size ≤ 1100000 ∧ key.size ≤ 1100000)).a ((p' (VW [s' p.fst,s' key] [s' p.fst,s' key])).a ((p' (Wk (b' (mtB p.fst key)) (AV.lit false))).a t'))).a (((p' (Wk (z' (IntKind.i64.wrap (Int.ofNat j + Int.ofNat 1))) (i' (j + 1)))).a t').a t'))))) := by kernel_rfl
theorem oPmE_eq (L : Pairs) (S : List ByteArray) (key : ByteArray) (n m : Nat) (F : HP) : wLoop [] hPME [] default fPM (loopN fPM 3) (tms 0 31 (aPM key n m n)) (oPM L S) [0, 1000, 1100, 1101] [0, 1, 5, 6] F = VT.leaf (AX.exit 0,[AV.slice 0 0 n 2 (Cp.lo n),s' key,AV.slice 1000 0 m 1 (Cp.lo m),i' n],31) [some (AO.cells (rowV encPr L) 62),some (AO.cells (rowV encS S) 18),none,none] 1100 (((p' (Wk (b' (decide (Int.ofNat n < ↑n))) (AV.lit false))).a t').a t') := by kernel_rfl
def gPM : List AV → AP (Nat × Nat) := fun tmps => match getL tmps 0 with
  | .slice a _ _ _ _ => match getL tmps 5 with
    | .slice b _ _ _ _ => .ret (a, b)
    | _ => .fail "match"
  | _ => .fail "match"
def lPM (L : Pairs) (S : List ByteArray) (key : ByteArray) (n m : Nat) : List AV → AP (AX × List AV) := mkL gPM (fun _ => True) (fun q => nmSo q.1 q.2) (fun _ => tms 0 31 (aPM key n 0 0)) (fun _ => oPM L []) (fun _ => .leaf (.exit 0) (tms 0 31 (aPM key n m n)) (oPM L S))
theorem oPm_eq (L : Pairs) (S S2 : List ByteArray) (key : ByteArray) (n m m2 : Nat) (F : HP) : wRun [(fSo, cSor S S2 m m2)] noHints [(fPM, 3, loopN fPM 3, lPM L S key n m)] default fPM [sP 0 n, sv key] [(0, rPr L)] [0, 1100, 1101, 1102, 1103] F = VT.leaf (AV.slice 1102 0 m2 1 (Cp.lo m2)) [some (AO.cells (AV.rens (sgN (nmSo 0 1100) [1000] 1101) (rowV encPr L)) 62),none,none,some (AO.cells (AV.rens (sgN (nmA 1101) [1000] 1102) (rowV encS S2)) 18),none] 1103 ((p' ((fPM,3,loopN fPM 3,lPM L S key n m).snd.snd.fst = (fPM,3,loopN fPM 3,lPM L S key n m).snd.snd.fst)).a ((Cnd.p True).a ((p' (VW [AV.slice 0 0 n 2 (Cp.lo n),s' key,u',u',AV.v (Value.slice none 0 0),AV.slice 1100 0 0 1 (Cp.ex 0),i' 0,AV.slice 1100 0 0 1 (Cp.ex 0),u',u',u',u',u',u',u',u',u',u',u',u',u',u',u',u',u',u',u',u',u',u',u'] [AV.slice 0 0 n 2 (Cp.lo n),s' key,a',a',a',AV.slice 1100 0 0 1 (Cp.lo 0),i' 0,a',a',a',a',a',a',a',a',a',a',a',a',a',a',a',a',a',a',a',a',a',a',a',a'])).a ((p' (OW (AO.cells (rowV encPr L) 62) (AO.cells (AV.rens (nmSo 0 1100) (rowV encPr L)) 62))).a ((p' (OW (AO.cells (rep [s' (ByteArray.mk (Array.mk []))] 0) 18) (AO.cells [] 18))).a (((Cnd.p True).a ((p' (VW [AV.slice 1101 0 m 1 (Cp.lo m)] [AV.slice 1101 0 m 1 (Cp.lo m)])).a ((p' (OW (AO.cells (AV.rens (sgN (nmSo 0 1100) [1000] 1101) (rowV encS S)) 18) (AO.cells (AV.rens (nmA 1101) (rowV encS S)) 18))).a t'))).a t')))))) := by kernel_rfl
end
end Go.Proofs.YtbmoancedlbhlaaDoor.Tpc.Srt

/- Topic: the document's Match over pairs. -/
set_option linter.unusedVariables false
set_option linter.unusedSimpArgs false
set_option maxRecDepth 100000
namespace Go.Proofs.YtbmoancedlbhlaaDoor.Tpc.Srt
open Go Go.RowKit Go.Proofs.YtbmoancedlbhlaaDoor.Eng Go.Proofs.YtbmoancedlbhlaaDoor.Kit
theorem encPr_len (x : ByteArray × ByteArray) : (encPr x).length = 2 := rfl
theorem rPr_len (M : Pairs) : (rowV encPr M).length = M.length * 2 := rowV_length encPr_len M
theorem getD_front {α : Type} (M X : List α) (i : Nat) (hi : i < M.length) (d : α) : (M ++ X).getD i d = M.getD i d := by
  rw [List.getD_eq_getElem?_getD, List.getD_eq_getElem?_getD, List.getElem?_append_left hi]
theorem rPr_g0 (M X : Pairs) (i : Nat) (hi : i < M.length) (d : AV) : (rowV encPr (M ++ X)).getD (0 + i * 2 + 0) d = sv (M.getD i (nil0, nil0)).1 := by
  have := row_getD encPr_len (M ++ X) (nil0, nil0) i (by rw [List.length_append]; omega) 0 (by decide) _ rfl d
  rwa [getD_front M X i hi] at this
theorem rPr_g1 (M X : Pairs) (i : Nat) (hi : i < M.length) (d : AV) : (rowV encPr (M ++ X)).getD (0 + i * 2 + 1) d = sv (M.getD i (nil0, nil0)).2 := by
  have := row_getD encPr_len (M ++ X) (nil0, nil0) i (by rw [List.length_append]; omega) 1 (by decide) _ rfl d
  rwa [getD_front M X i hi] at this
theorem rPr_l0 (M X : Pairs) (i : Nat) (hi : i < M.length) : (0 + i * 2 + 0).blt (rowV encPr (M ++ X)).length = true := by rw [rPr_len, Nat.blt_eq, List.length_append]; omega
theorem rPr_l1 (M X : Pairs) (i : Nat) (hi : i < M.length) : (0 + i * 2 + 1).blt (rowV encPr (M ++ X)).length = true := by rw [rPr_len, Nat.blt_eq, List.length_append]; omega
theorem rPr_ren (σ : Nat → Nat) (L : Pairs) : (rPr L).ren σ = rPr L := by simp only [rPr, AO.ren, rens_rowV]
theorem rPr_ow {x : List AV} {L : Pairs} {e : TypeId} {σ : Nat → Nat} (h : x = rowV encPr L) (he : e = tPr) : OW (.cells x e) ((rPr L).ren σ) := by rw [rPr_ren]; subst h he; exact OW.refl _
theorem rPr_cl (K : Nat → Bool) (L : Pairs) : (rPr L).cl K := cls_rowV _ _
def mL (L : Pairs) (key : ByteArray) : List ByteArray := (L.filter fun e => mtB e.1 key).map (·.2)
theorem mL_len (L : Pairs) (key : ByteArray) : (mL L key).length ≤ L.length := by
  unfold mL
  rw [List.length_map]
  exact List.length_filter_le _ _
theorem mL_next (L : Pairs) (key : ByteArray) (j : Nat) (hj : j < L.length) : mL (L.take (j + 1)) key = if mtB (L.getD j (nil0, nil0)).1 key = true then mL (L.take j) key ++ [(L.getD j (nil0, nil0)).2] else mL (L.take j) key := by
  rw [take_next L (nil0, nil0) j hj]
  unfold mL
  rw [List.filter_append, List.map_append, List.filter_cons]
  split
  · rw [List.filter_nil, List.map_cons, List.map_nil]
  · rw [List.filter_nil, List.map_nil, List.append_nil]
theorem pm_loop (L X : Pairs) (key : ByteArray) (hk : key.size ≤ 1100000) (hL : L.length ≤ 8000000) (hp : ∀ p ∈ L, p.1.size ≤ 1100000) :
    LTri Tryd.prog default (loopN fPM 3) (tms 0 31 (aPM key L.length 0 0)) (oPM (L ++ X) []) (.exit 0) (tms 0 31 (aPM key L.length (mL L key).length L.length)) (oPM (L ++ X) (mL L key)) := by
  refine ltri_run (W := default) (g := fPM) (b := loopN fPM 3) (σ := {j : Nat // j ≤ L.length}) 31 (fun j => aPM key L.length (mL (L.take j.1) key).length j.1) (fun j => oPM (L ++ X) (mL (L.take j.1) key)) (.exit 0) (aPM key L.length (mL L key).length L.length) (oPM (L ++ X) (mL L key)) (fun j => L.length - j.1) [0, 1000, 1100, 1101] [0, 1, 5, 6] (by intro h; cases h) (fun _ => rfl) rfl ?_ ⟨0, Nat.zero_le _⟩
  rintro ⟨j, hj⟩
  simp only
  by_cases h1 : j < L.length
  · have hw := wrap_succ j (by omega)
    have e1 : decide (Int.ofNat j < (L.length : Int)) = true := ltTC h1
    have g0 := rPr_g0 L X j h1
    have g1 := rPr_g1 L X j h1
    have g2 := rPr_l0 L X j h1
    have g3 := rPr_l1 L X j h1
    have hn := mL_next L key j h1
    have hm : L.getD j (nil0, nil0) ∈ L := by
      rw [List.getD_eq_getElem?_getD, List.getElem?_eq_getElem h1]
      exact List.getElem_mem h1
    have hl := mL_len (L.take j) key
    rw [List.length_take] at hl
    have hs := hp _ hm
    generalize L.getD j (nil0, nil0) = p at *
    generalize mL (L.take j) key = S at *
    have k1 : (0 + S.length * 1).ble (rowV encS S).length = true := row_in encS_len S
    have k2 : ((S.length + 1) * 16).ble 140737488355328 = true := by rw [Nat.ble_eq]; omega
    have k3 : (S.length + 1).ble 9223372036854775807 = true := by rw [Nat.ble_eq]; omega
    have k4 := row_full encS_len S
    have hrow : List.take (S.length * 1) (List.drop 0 (rowV encS S)) ++ [AV.v (Value.string p.2)] = rowV encS (S ++ [p.2]) := row_addW encS_len S p.2
    cases hb : mtB p.1 key with
    | true =>
      rw [if_pos hb] at hn
      refine ⟨[(fRM, cMs)], hPM j p true, [], fun F _ => one_c (cMs_ok (fun p k hp hk => RMatches_tri p k hp hk) F), fun _ _ => noL, fun F => ?_⟩
      refine cast (congrArg (VAll _) (oPmT_eq (L ++ X) S key p L.length S.length j F).symm) ⟨⟨?_, rfl, .inl ⟨rfl, ⟨j + 1, h1⟩, sub_down h1, [(1000, 1101)], by kernel_rfl, by kernel_rfl, ⟨Wk.refl _, Wk.refl _, ?_, Wk.refl _, trivial⟩, ⟨_, rfl, rPr_ow rfl rfl⟩, ⟨_, rfl, rS_ow ?_ rfl⟩, trivial⟩⟩⟩
      · simp only [Cnd.holds, e1, g0, g1, g2, g3, h1, k1, k2, k3, k4, AV.strOf, sv, Nat.blt_eq, true_and, and_true]
        and_intros
        all_goals first
          | (with_reducible exact wk_int hw)
          | exact wk_litE e1
          | exact wk_litE hb | (with_reducible first | exact trivial | exact rfl | exact Wk.refl _ | exact VW.refl _ | exact OW.refl _ | exact wk_lit _ | assumption) | exact rfl | exact Wk.refl _ | exact VW.refl _ | exact OW.refl _ | ((repeat (first | exact VW.nil | refine VW.cons (Wk.refl _) ?_ | refine VW.cons (Wk.any _) ?_ | refine VW.cons (wk_cap (Nat.le_refl _)) ?_)); done)
      · rw [hn, List.length_append]; exact Wk.refl _
      · rw [hn]; exact hrow
    | false =>
      rw [if_neg (by rw [hb]; simp)] at hn
      refine ⟨[(fRM, cMs)], hPM j p false, [], fun F _ => one_c (cMs_ok (fun p k hp hk => RMatches_tri p k hp hk) F), fun _ _ => noL, fun F => ?_⟩
      refine cast (congrArg (VAll _) (oPmF_eq (L ++ X) S key p L.length S.length j F).symm) ⟨⟨?_, rfl, .inl ⟨rfl, ⟨j + 1, h1⟩, sub_down h1, [(1000, 1000)], by kernel_rfl, by kernel_rfl, ⟨Wk.refl _, Wk.refl _, ?_, Wk.refl _, trivial⟩, ⟨_, rfl, rPr_ow rfl rfl⟩, ⟨_, rfl, rS_ow ?_ rfl⟩, trivial⟩⟩⟩
      · simp only [Cnd.holds, e1, g0, g1, g2, g3, h1, AV.strOf, sv, Nat.blt_eq, true_and, and_true]
        and_intros
        all_goals first
          | (with_reducible exact wk_int hw)
          | exact wk_litE e1
          | exact wk_litE hb | (with_reducible first | exact trivial | exact rfl | exact Wk.refl _ | exact VW.refl _ | exact OW.refl _ | exact wk_lit _ | assumption) | exact rfl | exact Wk.refl _ | exact VW.refl _ | exact OW.refl _ | ((repeat (first | exact VW.nil | refine VW.cons (Wk.refl _) ?_ | refine VW.cons (Wk.any _) ?_ | refine VW.cons (wk_cap (Nat.le_refl _)) ?_)); done)
      · rw [hn]; exact Wk.refl _
      · rw [hn]
  · have hje : j = L.length := by omega
    subst hje
    have ht : L.take L.length = L := List.take_length
    simp only [ht]
    refine ⟨[], hPME, [], fun _ _ => noC, fun _ _ => noL, fun F => ?_⟩
    refine cast (congrArg (VAll _) (oPmE_eq (L ++ X) (mL L key) key L.length (mL L key).length F).symm) ⟨⟨?_, rfl, .inr ⟨rfl, [(1000, 1000)], by kernel_rfl, by kernel_rfl, ⟨Wk.refl _, Wk.refl _, Wk.refl _, Wk.refl _, trivial⟩, ⟨_, rfl, rPr_ow rfl rfl⟩, ⟨_, rfl, rS_ow rfl rfl⟩, trivial⟩⟩⟩
    simp only [Cnd.holds, and_true]
    exact wk_litE ltFC
theorem gPM_ro : ∀ args, RO (gPM args) := by
  intro args
  unfold gPM
  split
  · split
    · exact RO.ret _
    · exact RO.fail _
  · exact RO.fail _
theorem gSor_ro : ∀ args, RO (gSor args) := by
  intro args
  unfold gSor
  split
  · exact RO.ret _
  · exact RO.fail _
theorem lPM_ok (L X : Pairs) (key : ByteArray) (hk : key.size ≤ 1100000) (hL : L.length ≤ 8000000) (hp : ∀ p ∈ L, p.1.size ≤ 1100000) (F : HP) : L1OK Tryd.prog F (loopN fPM 3) (lPM (L ++ X) (mL L key) key L.length (mL L key).length) :=
  mkL_ok (W := default) oldDef gPM_ro (fun _ _ => pm_loop L X key hk hL hp) fun _ => by
    simp only [RT.pick]
    exact closedT rfl rfl (all_cons rfl (all_cons trivial (all_cons rfl (all_cons trivial all_nil)))) (all_cons (rPr_cl _ _) (all_cons (rS_cl _ _) all_nil)) (all_cons rfl (all_cons trivial (all_cons rfl (all_cons trivial all_nil)))) (all_cons (rPr_cl _ _) (all_cons (rS_cl _ _) all_nil))
theorem cSor_ok (T : List ByteArray) (hT : T.length ≤ 8000000) (F : HP) : C1OK Tryd.prog F fSo (cSor T (sortT T) T.length (sortT T).length) :=
  mkC_ok (W := default) oldDef (fun _ => sB 1000 (sortT T).length) gSor_ro (fun _ => rfl) (fun _ _ => Sorted_tri T hT) fun q => ⟨rfl, rfl, ⟨rfl, trivial⟩, all_cons (rS_cl _ _) all_nil, ⟨rfl, trivial⟩, all_cons (rS_cl _ _) all_nil⟩
theorem PM_tri (L X : Pairs) (key : ByteArray) (hk : key.size ≤ 1100000) (hL : L.length ≤ 8000000) (hp : ∀ p ∈ L, p.1.size ≤ 1100000) : Tri Tryd.prog default fPM [sP 0 L.length, sv key] [(0, rPr (L ++ X))] (sB 1000 (matchA L key).length) [(0, rPr (L ++ X)), (1000, rS (matchA L key))] := by
  have hl := mL_len L key
  refine tri_run (con := [(fSo, cSor (mL L key) (matchA L key) (mL L key).length (matchA L key).length)]) (hints := noHints) (lc := [(fPM, 3, loopN fPM 3, lPM (L ++ X) (mL L key) key L.length (mL L key).length)]) [0, 1100, 1101, 1102, 1103] rfl (fun F _ => one_c (cSor_ok (mL L key) (by omega) F)) (fun F _ => one_l (lPM_ok L X key hk hL hp F)) fun F => ?_
  refine cast (congrArg (VAll _) (oPm_eq (L ++ X) (mL L key) (matchA L key) key L.length (mL L key).length (matchA L key).length F).symm) ⟨⟨?_, (fit_mk (vs' := [sB 1000 (matchA L key).length]) (H' := [(0, rPr (L ++ X)), (1000, rS (matchA L key))]) [(1000, 1102)] rfl rfl (VW.refl _) ⟨⟨_, rfl, rPr_ow (by simp only [rens_rowV]) rfl⟩, ⟨_, rfl, rS_ow (by simp only [rens_rowV]) rfl⟩, trivial⟩).fits rfl⟩⟩
  simp only [Cnd.holds, rens_rowV, Nat.blt_eq, true_and, and_true]
  and_intros
  all_goals first | (with_reducible first | exact trivial | exact rfl | exact Wk.refl _ | exact VW.refl _ | exact OW.refl _ | exact wk_lit _ | assumption) | exact rfl | exact Wk.refl _ | exact VW.refl _ | exact OW.refl _ | ((repeat (first | exact VW.nil | refine VW.cons (Wk.refl _) ?_ | refine VW.cons (Wk.any _) ?_ | refine VW.cons (wk_cap (Nat.le_refl _)) ?_)); done)
end Go.Proofs.YtbmoancedlbhlaaDoor.Tpc.Srt

/- Topic: TopicPlays: runs. -/
set_option linter.unusedVariables false
set_option linter.unusedSimpArgs false
set_option maxRecDepth 100000
namespace Go.Proofs.YtbmoancedlbhlaaDoor.Tpc.Srt
open Go Go.RowKit Go.Proofs.YtbmoancedlbhlaaDoor.Eng Go.Proofs.YtbmoancedlbhlaaDoor.Kit
noncomputable section
abbrev fPl : Nat := 4
abbrev tOp : TypeId := 2 * 29
structure OpT where
  kd : Int
  tx : ByteArray
  ds : ByteArray
def encO (x : OpT) : List Value := [.int .i64 x.kd, .string x.tx, .string x.ds]
def nm3 (a b c : Nat) : Nat → Nat := fun k => match Nat.beq k 1000 with
  | true => a
  | false => match Nat.beq k 1001 with
    | true => b
    | false => c
def nm5 (a b c d e : Nat) : Nat → Nat := fun k => match Nat.beq k 1000 with
  | true => a
  | false => match Nat.beq k 1001 with
    | true => b
    | false => match Nat.beq k 1002 with
      | true => c
      | false => match Nat.beq k 1003 with
        | true => d
        | false => e
/-! The list's own look-up. -/
def aLk (V : AV) (nL n k i : Nat) (at_ : Int) : List (Nat × AV) := [(3, .ptr 1000 0), (4, sP 1001 nL), (6, .ptr 1002 0), (7, iv at_), (19, V), (20, iv (Int.ofNat n)), (21, iv (Int.ofNat k)), (26, iv (Int.ofNat nL)), (27, iv (Int.ofNat i))]
def oLk (T : AO) (L : Pairs) (o : OpT) : LH := [(1000, T), (1001, rPr L), (1002, .cells (vmap (encO o)) tOp)]
def hLk (i : Nat) (p : ByteArray × ByteArray) (b1 b2 : Bool) : ClaimT := hintL [(fPl, 12, 0, hv (.lit true)), (fPl, 14, 4, hv (sv p.1)), (fPl, 14, 7, hv (.lit b1)), (fPl, 14, 13, hv (sv p.2)), (fPl, 14, 16, hv (.lit b2)), (fPl, 16, 0, hv (iv (Int.ofNat (i + 1))))]
def hLkE : ClaimT := hintL [(fPl, 12, 0, hv (.lit false))]
theorem oLkN_eq (V : AV) (L M : Pairs) (g : Nat) (o : OpT) (p : ByteArray × ByteArray) (nL n k i : Nat) (at_ : Int) (F : HP) : wLoop [] (hLk i p false false) [] default fPl (loopN fPl 12) (tms 0 134 (aLk V nL n k i at_)) (oLk (trO M g) L o) [1000, 1001, 1002] [3, 4, 6, 7, 19, 20, 21, 26, 27] F = VT.leaf (AX.normal,[AV.ptr 1000 0,AV.slice 1001 0 nL 2 (Cp.lo nL),AV.ptr 1002 0,z' at_,getL [a',a',a',AV.ptr 1000 0,AV.slice 1001 0 nL 2 (Cp.lo nL),a',AV.ptr 1002 0,z' at_,i' i,a',a',a',a',a',a',a',a',a',a',V,i' n,i' k,a',a',a',a',i' nL,i' (i + 1),AV.lit true,i' i,AV.slice 1001 0 nL 2 (Cp.lo nL),i' i,AV.ptr 1001 (0 + i * 2),AV.ptr 1001 (0 + i * 2 + 0),s' p.fst,AV.ptr 1002 1,s' o.tx,AV.lit false,AV.lit false,u',u',u',u',u',u',u',u',AV.lit false,a',i' (i + 1),a',a',a',a',a',a',a',a',a',a',a',a',a',a',a',a',a',a',a',a',a',a',a',a',a',a',a',a',a',a',a',a',a',a',a',a',a',a',a',a',a',a',a',a',a',a',a',a',a',a',a',a',a',a',a',a',a',a',a',a',a',a',a',a',a',a',a',a',a',a',a',a',a',a',a',a',a',a',a',a',a',a',a',a'] 19,i' n,i' k,i' nL,i' (i + 1)],134) [some (AO.own (Md.trie M g) (trHP M g)),some (AO.cells (rowV encPr L) 62),some (AO.cells [z' o.kd,s' o.tx,s' o.ds] 58)] 1100 (((p' (Wk (b' (decide (Int.ofNat i < Int.ofNat nL))) (AV.lit true))).a t').a (((p' (i.blt nL = true)).a t').a (((p' ((0 + i * 2 + 0).blt (rowV encPr L).length = true)).a ((p' ((rowV encPr L).getD (0 + i * 2 + 0) (u') = AV.v (Value.string ((rowV encPr L).getD (0 + i * 2 + 0) (u')).strOf))).a ((p' (Wk (AV.v (Value.string ((rowV encPr L).getD (0 + i * 2 + 0) (u')).strOf)) (s' p.fst))).a t'))).a (((p' (true = true)).a ((p' (s' o.tx = s' o.tx)).a t')).a (((p' (Wk (b' (p.fst.toList == o.tx.toList)) (AV.lit false))).a t').a (((p' (Wk (z' (IntKind.i64.wrap (Int.ofNat i + Int.ofNat 1))) (i' (i + 1)))).a t').a t')))))) := by kernel_rfl
theorem oLkM_eq (V : AV) (L M : Pairs) (g : Nat) (o : OpT) (p : ByteArray × ByteArray) (nL n k i : Nat) (at_ : Int) (F : HP) : wLoop [] (hLk i p true false) [] default fPl (loopN fPl 12) (tms 0 134 (aLk V nL n k i at_)) (oLk (trO M g) L o) [1000, 1001, 1002] [3, 4, 6, 7, 19, 20, 21, 26, 27] F = VT.leaf (AX.normal,[AV.ptr 1000 0,AV.slice 1001 0 nL 2 (Cp.lo nL),AV.ptr 1002 0,z' at_,getL [a',a',a',AV.ptr 1000 0,AV.slice 1001 0 nL 2 (Cp.lo nL),a',AV.ptr 1002 0,z' at_,i' i,a',a',a',a',a',a',a',a',a',a',V,i' n,i' k,a',a',a',a',i' nL,i' (i + 1),AV.lit true,i' i,AV.slice 1001 0 nL 2 (Cp.lo nL),i' i,AV.ptr 1001 (0 + i * 2),AV.ptr 1001 (0 + i * 2 + 0),s' p.fst,AV.ptr 1002 1,s' o.tx,AV.lit true,AV.lit true,AV.slice 1001 0 nL 2 (Cp.lo nL),i' i,AV.ptr 1001 (0 + i * 2),AV.ptr 1001 (0 + i * 2 + 1),s' p.snd,AV.ptr 1002 2,s' o.ds,AV.lit false,AV.lit false,a',i' (i + 1),a',a',a',a',a',a',a',a',a',a',a',a',a',a',a',a',a',a',a',a',a',a',a',a',a',a',a',a',a',a',a',a',a',a',a',a',a',a',a',a',a',a',a',a',a',a',a',a',a',a',a',a',a',a',a',a',a',a',a',a',a',a',a',a',a',a',a',a',a',a',a',a',a',a',a',a',a',a',a',a',a',a',a',a'] 19,i' n,i' k,i' nL,i' (i + 1)],134) [some (AO.own (Md.trie M g) (trHP M g)),some (AO.cells (rowV encPr L) 62),some (AO.cells [z' o.kd,s' o.tx,s' o.ds] 58)] 1100 (((p' (Wk (b' (decide (Int.ofNat i < Int.ofNat nL))) (AV.lit true))).a t').a (((p' (i.blt nL = true)).a t').a (((p' ((0 + i * 2 + 0).blt (rowV encPr L).length = true)).a ((p' ((rowV encPr L).getD (0 + i * 2 + 0) (u') = AV.v (Value.string ((rowV encPr L).getD (0 + i * 2 + 0) (u')).strOf))).a ((p' (Wk (AV.v (Value.string ((rowV encPr L).getD (0 + i * 2 + 0) (u')).strOf)) (s' p.fst))).a t'))).a (((p' (true = true)).a ((p' (s' o.tx = s' o.tx)).a t')).a (((p' (Wk (b' (p.fst.toList == o.tx.toList)) (AV.lit true))).a t').a (((p' (i.blt nL = true)).a t').a (((p' ((0 + i * 2 + 1).blt (rowV encPr L).length = true)).a ((p' ((rowV encPr L).getD (0 + i * 2 + 1) (u') = AV.v (Value.string ((rowV encPr L).getD (0 + i * 2 + 1) (u')).strOf))).a ((p' (Wk (AV.v (Value.string ((rowV encPr L).getD (0 + i * 2 + 1) (u')).strOf)) (s' p.snd))).a t'))).a (((p' (true = true)).a ((p' (s' o.ds = s' o.ds)).a t')).a (((p' (Wk (b' (p.snd.toList == o.ds.toList)) (AV.lit false))).a t').a (((p' (Wk (z' (IntKind.i64.wrap (Int.ofNat i + Int.ofNat 1))) (i' (i + 1)))).a t').a t')))))))))) := by kernel_rfl
theorem oLkH_eq (V : AV) (L M : Pairs) (g : Nat) (o : OpT) (p : ByteArray × ByteArray) (nL n k i : Nat) (at_ : Int) (F : HP) : wLoop [] (hLk i p true true) [] default fPl (loopN fPl 12) (tms 0 134 (aLk V nL n k i at_)) (oLk (trO M g) L o) [1000, 1001, 1002] [3, 4, 6, 7, 19, 20, 21, 26, 27] F = VT.leaf (AX.normal,[AV.ptr 1000 0,AV.slice 1001 0 nL 2 (Cp.lo nL),AV.ptr 1002 0,i' i,getL [a',a',a',AV.ptr 1000 0,AV.slice 1001 0 nL 2 (Cp.lo nL),a',AV.ptr 1002 0,i' i,i' i,a',a',a',a',a',a',a',a',a',a',V,i' n,i' k,a',a',a',a',i' nL,i' (i + 1),AV.lit true,i' i,AV.slice 1001 0 nL 2 (Cp.lo nL),i' i,AV.ptr 1001 (0 + i * 2),AV.ptr 1001 (0 + i * 2 + 0),s' p.fst,AV.ptr 1002 1,s' o.tx,AV.lit true,AV.lit true,AV.slice 1001 0 nL 2 (Cp.lo nL),i' i,AV.ptr 1001 (0 + i * 2),AV.ptr 1001 (0 + i * 2 + 1),s' p.snd,AV.ptr 1002 2,s' o.ds,AV.lit true,AV.lit true,i' i,i' (i + 1),a',a',a',a',a',a',a',a',a',a',a',a',a',a',a',a',a',a',a',a',a',a',a',a',a',a',a',a',a',a',a',a',a',a',a',a',a',a',a',a',a',a',a',a',a',a',a',a',a',a',a',a',a',a',a',a',a',a',a',a',a',a',a',a',a',a',a',a',a',a',a',a',a',a',a',a',a',a',a',a',a',a',a',a'] 19,i' n,i' k,i' nL,i' (i + 1)],134) [some (AO.own (Md.trie M g) (trHP M g)),some (AO.cells (rowV encPr L) 62),some (AO.cells [z' o.kd,s' o.tx,s' o.ds] 58)] 1100 (((p' (Wk (b' (decide (Int.ofNat i < Int.ofNat nL))) (AV.lit true))).a t').a (((p' (i.blt nL = true)).a t').a (((p' ((0 + i * 2 + 0).blt (rowV encPr L).length = true)).a ((p' ((rowV encPr L).getD (0 + i * 2 + 0) (u') = AV.v (Value.string ((rowV encPr L).getD (0 + i * 2 + 0) (u')).strOf))).a ((p' (Wk (AV.v (Value.string ((rowV encPr L).getD (0 + i * 2 + 0) (u')).strOf)) (s' p.fst))).a t'))).a (((p' (true = true)).a ((p' (s' o.tx = s' o.tx)).a t')).a (((p' (Wk (b' (p.fst.toList == o.tx.toList)) (AV.lit true))).a t').a (((p' (i.blt nL = true)).a t').a (((p' ((0 + i * 2 + 1).blt (rowV encPr L).length = true)).a ((p' ((rowV encPr L).getD (0 + i * 2 + 1) (u') = AV.v (Value.string ((rowV encPr L).getD (0 + i * 2 + 1) (u')).strOf))).a ((p' (Wk (AV.v (Value.string ((rowV encPr L).getD (0 + i * 2 + 1) (u')).strOf)) (s' p.snd))).a t'))).a (((p' (true = true)).a ((p' (s' o.ds = s' o.ds)).a t')).a (((p' (Wk (b' (p.snd.toList == o.ds.toList)) (AV.lit true))).a t').a (((p' (Wk (z' (IntKind.i64.wrap (Int.ofNat i + Int.ofNat 1))) (i' (i + 1)))).a t').a t')))))))))) := by kernel_rfl
theorem oLkE_eq (V : AV) (L M : Pairs) (g : Nat) (o : OpT) (nL n k : Nat) (at_ : Int) (F : HP) : wLoop [] hLkE [] default fPl (loopN fPl 12) (tms 0 134 (aLk V nL n k nL at_)) (oLk (trO M g) L o) [1000, 1001, 1002] [3, 4, 6, 7, 19, 20, 21, 26, 27] F = VT.leaf (AX.exit 2,[AV.ptr 1000 0,AV.slice 1001 0 nL 2 (Cp.lo nL),AV.ptr 1002 0,z' at_,getL [a',a',a',AV.ptr 1000 0,AV.slice 1001 0 nL 2 (Cp.lo nL),a',AV.ptr 1002 0,z' at_,a',a',a',a',a',a',a',a',a',a',a',V,i' n,i' k,a',a',a',a',i' nL,i' nL,AV.lit false,a',a',a',a',a',a',a',a',a',a',a',a',a',a',a',a',a',a',a',a',a',a',a',a',a',a',a',a',a',a',a',a',a',a',a',a',a',a',a',a',a',a',a',a',a',a',a',a',a',a',a',a',a',a',a',a',a',a',a',a',a',a',a',a',a',a',a',a',a',a',a',a',a',a',a',a',a',a',a',a',a',a',a',a',a',a',a',a',a',a',a',a',a',a',a',a',a',a',a',a',a',a',a',a',a'] 19,i' n,i' k,i' nL,i' nL],134) [some (AO.own (Md.trie M g) (trHP M g)),some (AO.cells (rowV encPr L) 62),some (AO.cells [z' o.kd,s' o.tx,s' o.ds] 58)] 1100 (((p' (Wk (b' (decide (Int.ofNat nL < Int.ofNat nL))) (AV.lit false))).a t').a t') := by kernel_rfl
def gLk : List AV → AP (Nat × Nat × Nat) := fun tmps => match getL tmps 3 with
  | .ptr a _ => match getL tmps 4 with
    | .slice b _ _ _ _ => match getL tmps 6 with
      | .ptr c _ => .ret (a, b, c)
      | _ => .fail "look"
    | _ => .fail "look"
  | _ => .fail "look"
def zLk (V : AV) (nL n k : Nat) (at_ : Int) : List (Nat × AV) := [(3, .ptr 1000 0), (4, sP 1001 nL), (6, .ptr 1002 0), (7, iv at_), (19, V), (20, iv (Int.ofNat n)), (21, iv (Int.ofNat k))]
def lLk (V : AV) (L M : Pairs) (g : Nat) (o : OpT) (nL n k : Nat) (at_ : Int) : List AV → AP (AX × List AV) := mkL gLk (fun _ => True) (fun q => nm3 q.1 q.2.1 q.2.2) (fun _ => tms 0 134 (aLk V nL n k 0 (-1))) (fun _ => oLk (trO M g) L o) (fun _ => .leaf (.exit 2) (tms 0 134 (zLk V nL n k at_)) (oLk (trO M g) L o))
/-! What was told is spoilt. -/
def aSp (V : AV) (nL n k m i : Nat) : List (Nat × AV) := [(3, .ptr 1000 0), (4, sP 1001 nL), (9, sB 1002 m), (10, sB 1003 m), (11, sB 1004 m), (19, V), (20, iv (Int.ofNat n)), (21, iv (Int.ofNat k)), (70, iv (Int.ofNat m)), (71, iv (Int.ofNat i))]
def oSp (T : AO) (L : Pairs) (R l : List ByteArray) : LH := [(1000, T), (1001, rPr L), (1002, rS R), (1003, rS l), (1004, rS l)]
def hSp (i : Nat) : ClaimT := hintL [(fPl, 23, 0, hv (.lit true)), (fPl, 26, 0, hv (iv (Int.ofNat (i + 1))))]
def hSpE : ClaimT := hintL [(fPl, 23, 0, hv (.lit false))]
theorem oSpR_eq (V : AV) (L M : Pairs) (g : Nat) (R l : List ByteArray) (nL n k m i : Nat) (F : HP) : wLoop [] (hSp i) [] default fPl (loopN fPl 23) (tms 0 134 (aSp V nL n k m i)) (oSp (trO M g) L R l) [1000, 1001, 1002, 1003, 1004] [3, 4, 9, 10, 11, 19, 20, 21, 70, 71] F = VT.leaf (AX.normal,[AV.ptr 1000 0,AV.slice 1001 0 nL 2 (Cp.lo nL),AV.slice 1002 0 m 1 (Cp.lo m),AV.slice 1003 0 m 1 (Cp.lo m),AV.slice 1004 0 m 1 (Cp.lo m),getL [a',a',a',AV.ptr 1000 0,AV.slice 1001 0 nL 2 (Cp.lo nL),a',a',a',a',AV.slice 1002 0 m 1 (Cp.lo m),AV.slice 1003 0 m 1 (Cp.lo m),AV.slice 1004 0 m 1 (Cp.lo m),i' i,a',a',a',a',a',a',V,i' n,i' k,a',a',a',a',a',a',a',a',a',a',a',a',a',a',a',a',a',a',a',a',a',a',a',a',a',a',a',a',a',a',a',a',a',a',a',a',a',a',a',a',a',a',a',a',a',a',a',a',i' m,i' (i + 1),AV.lit true,i' i,AV.slice 1002 0 m 1 (Cp.lo m),i' i,AV.ptr 1002 (0 + i * 1),i' (i + 1),a',a',a',a',a',a',a',a',a',a',a',a',a',a',a',a',a',a',a',a',a',a',a',a',a',a',a',a',a',a',a',a',a',a',a',a',a',a',a',a',a',a',a',a',a',a',a',a',a',a',a',a',a',a',a',a'] 19,i' n,i' k,i' m,i' (i + 1)],134) [some (AO.own (Md.trie M g) (trHP M g)),some (AO.cells (rowV encPr L) 62),some (AO.cells (splice (rowV encS R) (0 + i * 1) [s' (ByteArray.mk (Array.mk [42]))]) 18),some (AO.cells (rowV encS l) 18),some (AO.cells (rowV encS l) 18)] 1100 (((p' (Wk (b' (decide (Int.ofNat i < Int.ofNat m))) (AV.lit true))).a t').a (((p' (i.blt m = true)).a t').a (((p' ((0 + i * 1 + 1).ble (rowV encS R).length = true)).a t').a (((p' (Wk (z' (IntKind.i64.wrap (Int.ofNat i + Int.ofNat 1))) (i' (i + 1)))).a t').a t')))) := by kernel_rfl
theorem oSpE_eq (V : AV) (L M : Pairs) (g : Nat) (R l : List ByteArray) (nL n k m : Nat) (F : HP) : wLoop [] hSpE [] default fPl (loopN fPl 23) (tms 0 134 (aSp V nL n k m m)) (oSp (trO M g) L R l) [1000, 1001, 1002, 1003, 1004] [3, 4, 9, 10, 11, 19, 20, 21, 70, 71] F = VT.leaf (AX.exit 5,[AV.ptr 1000 0,AV.slice 1001 0 nL 2 (Cp.lo nL),AV.slice 1002 0 m 1 (Cp.lo m),AV.slice 1003 0 m 1 (Cp.lo m),AV.slice 1004 0 m 1 (Cp.lo m),getL [a',a',a',AV.ptr 1000 0,AV.slice 1001 0 nL 2 (Cp.lo nL),a',a',a',a',AV.slice 1002 0 m 1 (Cp.lo m),AV.slice 1003 0 m 1 (Cp.lo m),AV.slice 1004 0 m 1 (Cp.lo m),a',a',a',a',a',a',a',V,i' n,i' k,a',a',a',a',a',a',a',a',a',a',a',a',a',a',a',a',a',a',a',a',a',a',a',a',a',a',a',a',a',a',a',a',a',a',a',a',a',a',a',a',a',a',a',a',a',a',a',a',i' m,i' m,AV.lit false,a',a',a',a',a',a',a',a',a',a',a',a',a',a',a',a',a',a',a',a',a',a',a',a',a',a',a',a',a',a',a',a',a',a',a',a',a',a',a',a',a',a',a',a',a',a',a',a',a',a',a',a',a',a',a',a',a',a',a',a',a'] 19,i' n,i' k,i' m,i' m],134) [some (AO.own (Md.trie M g) (trHP M g)),some (AO.cells (rowV encPr L) 62),some (AO.cells (rowV encS R) 18),some (AO.cells (rowV encS l) 18),some (AO.cells (rowV encS l) 18)] 1100 (((p' (Wk (b' (decide (Int.ofNat m < Int.ofNat m))) (AV.lit false))).a t').a t') := by kernel_rfl
def gSp : List AV → AP (Nat × Nat × Nat × Nat × Nat) := fun tmps => match getL tmps 3 with
  | .ptr a _ => match getL tmps 4 with
    | .slice b _ _ _ _ => match getL tmps 9 with
      | .slice c _ _ _ _ => match getL tmps 10 with
        | .slice d _ _ _ _ => match getL tmps 11 with
          | .slice e _ _ _ _ => .ret (a, b, c, d, e)
          | _ => .fail "spoil"
        | _ => .fail "spoil"
      | _ => .fail "spoil"
    | _ => .fail "spoil"
  | _ => .fail "spoil"
def zSp (V : AV) (nL n k m : Nat) : List (Nat × AV) := [(3, .ptr 1000 0), (4, sP 1001 nL), (9, sB 1002 m), (10, sB 1003 m), (11, sB 1004 m), (19, V), (20, iv (Int.ofNat n)), (21, iv (Int.ofNat k))]
def lSp (V : AV) (L M : Pairs) (g : Nat) (R l : List ByteArray) (nL n k m : Nat) : List AV → AP (AX × List AV) := mkL gSp (fun _ => True) (fun q => nm5 q.1 q.2.1 q.2.2.1 q.2.2.2.1 q.2.2.2.2) (fun _ => tms 0 134 (aSp V nL n k m 0)) (fun _ => oSp (trO M g) L l l) (fun _ => .leaf (.exit 5) (tms 0 134 (zSp V nL n k m)) (oSp (trO M g) L R l))
/-! The script's rounds. -/
abbrev ksP : List Nat := [1000, 1001, 1100, 1101, 1102, 1103, 1104, 1105, 1106, 1107, 1108, 1109, 1110]
def aPl (V : AV) (nL n k : Nat) : List (Nat × AV) := [(3, .ptr 1000 0), (4, sP 1001 nL), (19, V), (20, iv (Int.ofNat n)), (21, iv (Int.ofNat k))]
def oPl (M : Pairs) (g : Nat) (L : Pairs) : LH := [(1000, trO M g), (1001, rPr L)]
def cRmv : List AV → Option (AP AV) := mkC gAdd (fun q => q.2.2.2.1.size ≤ 1100000 ∧ q.2.1.length ≤ 4611686018427387904) (fun q => nm0 q.1) (fun q => [.ptr 0 0, sv q.2.2.2.1, sv q.2.2.2.2]) (fun q => [(0, trO q.2.1 q.2.2.1)]) (fun q => .leaf .ret [bv (inB q.2.1 q.2.2.2.1 q.2.2.2.2)] [(0, trO (delL q.2.1 q.2.2.2.1 q.2.2.2.2) q.2.2.1)])
def gPm : List AV → AP (Nat × ByteArray × Nat) := fun args => match args with
  | .slice a _ n _ _ :: .v (.string s) :: _ => .ret (a, s, n)
  | _ => .fail "match pairs"
def cPm (L LX : Pairs) (l : List ByteArray) : List AV → Option (AP AV) := mkC gPm (fun q => q.2.2 = L.length ∧ matchA L q.2.1 = l ∧ q.2.1.size ≤ 1100000) (fun q => nmA q.1) (fun q => [sP 0 q.2.2, sv q.2.1]) (fun _ => [(0, rPr LX)]) (fun _ => .leaf .ret [sB 1000 l.length] [(0, rPr LX), (1000, rS l)])
def hP0 (k : Nat) (o : OpT) (q : Int) : List (FuncId × Nat × Nat × Hint) := [(fPl, 8, 0, hv (.lit true)), (fPl, 9, 1, hv (.agg (vmap (encO o)))), (fPl, 17, 2, hv (iv q)), (fPl, 40, 4, hv (.lit false)), (fPl, 42, 0, hv (iv (Int.ofNat (k + 1))))]
def hA (k : Nat) (o : OpT) (q : Int) (b : Bool) : ClaimT := hintL (hP0 k o q ++ [(fPl, 30, 0, hv (.lit true)), (fPl, 31, 8, hv (.lit false)), (fPl, 33, 1, hv (.lit b))])
def hR (k : Nat) (o : OpT) (q : Int) (b : Bool) (e : List (FuncId × Nat × Nat × Hint)) : ClaimT := hintL (hP0 k o q ++ [(fPl, 30, 0, hv (.lit false)), (fPl, 35, 0, hv (.lit true)), (fPl, 36, 8, hv (.lit false)), (fPl, 38, 1, hv (.lit b))] ++ e)
def hM (k : Nat) (o : OpT) (q : Int) (e : List (FuncId × Nat × Nat × Hint)) : ClaimT := hintL (hP0 k o q ++ [(fPl, 30, 0, hv (.lit false)), (fPl, 35, 0, hv (.lit false)), (fPl, 20, 3, hv (.lit false)), (fPl, 28, 3, hv (.lit false))] ++ e)
theorem oA0_eq (W : World) (ad : Addr) (c : Nat) (L LX : Pairs) (g : Nat) (o : OpT) (q : Int) (nL n k : Nat) (at_ : Int) (F : HP) : wLoop [(fAdd, cAdd), (fLen, cLn)] (hA k o q true) [(fPl, 12, loopN fPl 12, lLk (slV (some ad) n c) LX L g o nL n k at_)] W fPl (loopN fPl 8) (tms 0 134 (aPl (slV (some ad) n c) nL n k)) (oPl L g LX) ksP [3, 4, 19, 20, 21] F = VT.leaf (AX.normal,[AV.ptr 1101 0,AV.slice 1105 0 (nL + 1) 2 (Cp.lo (nL + 1)),AV.v (Value.slice (some ad) n c),i' n,i' (k + 1)],134) [none,none,none,some (AO.own (Md.trie (addL L o.tx o.ds) (g + (dots o.tx).length + 1)) (trHP (addL L o.tx o.ds) (g + (dots o.tx).length + 1))),none,some (AO.cells [z' o.kd,s' o.tx,s' o.ds] 58),some (AO.cells [s' o.tx,s' o.ds] 62),some (AO.cells (List.take (nL * 2) (List.drop 0 (AV.rens (sgN (nm3 1000 1001 1100) [1000,1001,1002] 1101) (rowV encPr LX))) ++ [s' o.tx,s' o.ds]) 62),none,none,none,none,none] 1106 (((p' (Wk (b' (decide (Int.ofNat k < Int.ofNat n))) (AV.lit true))).a t').a (((p' (k.blt n = true)).a t').a (((p' (([0,1,2].all fun j => (W.cell? ((ad.add (k * 3)).add j)).isSome) = true)).a ((p' ([AV.v ((W.cell? ((ad.add (k * 3)).add 0)).getD (Value.tuple (Array.mk []))),AV.v ((W.cell? (Addr.mk (ad.add (k * 3)).block ((ad.add (k * 3)).off + 1) none)).getD (Value.tuple (Array.mk []))),AV.v ((W.cell? (Addr.mk (ad.add (k * 3)).block ((ad.add (k * 3)).off + 2) none)).getD (Value.tuple (Array.mk [])))] = [AV.v (Value.int IntKind.i64 (AV.v ((W.cell? ((ad.add (k * 3)).add 0)).getD (Value.tuple (Array.mk [])))).intOf),AV.v (Value.string (AV.v ((W.cell? (Addr.mk (ad.add (k * 3)).block ((ad.add (k * 3)).off + 1) none)).getD (Value.tuple (Array.mk [])))).strOf),AV.v (Value.string (AV.v ((W.cell? (Addr.mk (ad.add (k * 3)).block ((ad.add (k * 3)).off + 2) none)).getD (Value.tuple (Array.mk [])))).strOf)])).a ((p' (Wk (AV.agg [AV.v (Value.int IntKind.i64 (AV.v ((W.cell? ((ad.add (k * 3)).add 0)).getD (Value.tuple (Array.mk [])))).intOf),AV.v (Value.string (AV.v ((W.cell? (Addr.mk (ad.add (k * 3)).block ((ad.add (k * 3)).off + 1) none)).getD (Value.tuple (Array.mk [])))).strOf),AV.v (Value.string (AV.v ((W.cell? (Addr.mk (ad.add (k * 3)).block ((ad.add (k * 3)).off + 2) none)).getD (Value.tuple (Array.mk [])))).strOf)]) (AV.agg [z' o.kd,s' o.tx,s' o.ds]))).a t'))).a (((p' (true = true)).a t').a ((p' ((fPl,12,loopN fPl 12,lLk (slV (some ad) n c) LX L g o nL n k at_).snd.snd.fst = (fPl,12,loopN fPl 12,lLk (slV (some ad) n c) LX L g o nL n k at_).snd.snd.fst)).a ((Cnd.p True).a ((p' (VW [a',a',a',AV.ptr 1000 0,AV.slice 1001 0 nL 2 (Cp.lo nL),a',AV.ptr 1100 0,z' (Int.negSucc 0),a',a',a',a',a',a',a',a',a',a',a',AV.v (Value.slice (some ad) n c),i' n,i' k,AV.lit true,AV.v (Value.pointer (some (ad.add (k * 3)))),AV.agg [z' o.kd,s' o.tx,s' o.ds],AV.slice 1001 0 nL 2 (Cp.lo nL),z' ↑nL,i' 0,a',a',a',a',a',a',a',a',a',a',a',a',a',a',a',a',a',a',a',a',a',a',a',a',a',a',a',a',a',a',a',a',a',a',a',a',a',a',a',a',a',a',a',a',a',a',a',a',a',a',a',a',a',a',a',a',a',a',a',a',a',a',a',a',a',a',a',a',a',a',a',a',a',a',a',a',a',a',a',a',a',a',a',a',a',a',a',a',a',a',a',a',a',a',a',a',a',a',a',a',a',a',a',a',a',a'] [a',a',a',AV.ptr 1000 0,AV.slice 1001 0 nL 2 (Cp.lo nL),a',AV.ptr 1100 0,z' (Int.negSucc 0),a',a',a',a',a',a',a',a',a',a',a',AV.v (Value.slice (some ad) n c),i' n,i' k,a',a',a',a',i' nL,i' 0,a',a',a',a',a',a',a',a',a',a',a',a',a',a',a',a',a',a',a',a',a',a',a',a',a',a',a',a',a',a',a',a',a',a',a',a',a',a',a',a',a',a',a',a',a',a',a',a',a',a',a',a',a',a',a',a',a',a',a',a',a',a',a',a',a',a',a',a',a',a',a',a',a',a',a',a',a',a',a',a',a',a',a',a',a',a',a',a',a',a',a',a',a',a',a',a',a',a',a',a',a',a',a',a',a',a'])).a ((p' (OW (AO.own (Md.trie L g) (trHP L g)) (AO.own (Md.trie L g) (trHP L g)))).a ((p' (OW (AO.cells (rowV encPr LX) 62) (AO.cells (AV.rens (nm3 1000 1001 1100) (rowV encPr LX)) 62))).a ((p' (OW (AO.cells [z' o.kd,s' o.tx,s' o.ds] 58) (AO.cells [z' o.kd,s' o.tx,s' o.ds] 58))).a (((p' (true = true)).a ((p' (z' o.kd = z' o.kd)).a t')).a (((p' (Wk (z' (IntKind.i64.wrap ↑(BitVec.ofInt 64 o.kd &&& BitVec.ofInt 64 (Int.ofNat 3)).toNat)) (z' q))).a t').a (((p' (Wk (b' (q == Int.ofNat 0)) (AV.lit true))).a t').a (((p' (true = true)).a ((p' (s' o.tx = s' o.tx)).a t')).a (((p' (true = true)).a ((p' (s' o.ds = s' o.ds)).a t')).a (((p' (o.tx.size ≤ 1100000 ∧ o.ds.size ≤ 1099511627776 ∧ List.length L ≤ 4611686018427387904)).a ((p' (VW [AV.ptr 1101 0,s' o.tx,s' o.ds] [AV.ptr 1101 0,s' o.tx,s' o.ds])).a ((p' (OW (AO.own (Md.trie L g) (trHP L g)) (AO.own (Md.trie L g) (trHP L g)))).a t'))).a (((p' (Wk (AV.v (Value.bool !(!inB L o.tx o.ds) == decide (at_ < Int.ofNat 0))) (AV.lit false))).a t').a (((p' (Wk (b' (decide (at_ < Int.ofNat 0))) (AV.lit true))).a t').a (((p' (true = true)).a ((p' (s' o.tx = s' o.tx)).a t')).a (((p' (true = true)).a ((p' (s' o.ds = s' o.ds)).a t')).a (((p' (true = true)).a ((p' (true = true)).a ((p' (true = true)).a ((p' (true = true)).a ((p' ((0 + nL * 2).ble (AV.rens (sgN (nm3 1000 1001 1100) [1000,1001,1002] 1101) (rowV encPr LX)).length = true)).a ((p' (((nL + 1) * 32).ble 140737488355328 = true)).a ((p' ((nL + 1).ble 9223372036854775807 = true)).a ((p' ((List.take (nL * 2) (List.drop 0 (AV.rens (sgN (nm3 1000 1001 1100) [1000,1001,1002] 1101) (rowV encPr LX)))).length.beq (nL * 2) = true)).a t')))))))).a (((Cnd.p True).a ((p' (VW [AV.ptr 1101 0] [AV.ptr 1101 0])).a ((p' (OW (AO.own (Md.trie (addL L o.tx o.ds) (g + (dots o.tx).length + 1)) (trHP (addL L o.tx o.ds) (g + (dots o.tx).length + 1))) (AO.own (Md.trie (addL L o.tx o.ds) (g + (dots o.tx).length + 1)) (trHP (addL L o.tx o.ds) (g + (dots o.tx).length + 1))))).a t'))).a (((p' (Wk (b' (Int.ofNat (List.length (addL L o.tx o.ds)) != ↑(nL + 1))) (AV.lit false))).a t').a (((p' (Wk (z' (IntKind.i64.wrap (Int.ofNat k + Int.ofNat 1))) (i' (k + 1)))).a t').a t')))))))))))))))))))))))) := by kernel_rfl
theorem oA1_eq (W : World) (ad : Addr) (c : Nat) (L LX : Pairs) (g : Nat) (o : OpT) (q : Int) (nL n k : Nat) (at_ : Int) (F : HP) : wLoop [(fAdd, cAdd), (fLen, cLn)] (hA k o q false) [(fPl, 12, loopN fPl 12, lLk (slV (some ad) n c) LX L g o nL n k at_)] W fPl (loopN fPl 8) (tms 0 134 (aPl (slV (some ad) n c) nL n k)) (oPl L g LX) ksP [3, 4, 19, 20, 21] F = VT.leaf (AX.normal,[AV.ptr 1101 0,AV.slice 1102 0 nL 2 (Cp.lo nL),AV.v (Value.slice (some ad) n c),i' n,i' (k + 1)],134) [none,none,none,some (AO.own (Md.trie (addL L o.tx o.ds) (g + (dots o.tx).length + 1)) (trHP (addL L o.tx o.ds) (g + (dots o.tx).length + 1))),some (AO.cells (AV.rens (sgN (nm3 1000 1001 1100) [1000,1001,1002] 1101) (rowV encPr LX)) 62),some (AO.cells [z' o.kd,s' o.tx,s' o.ds] 58),none,none,none,none,none,none,none] 1104 (((p' (Wk (b' (decide (Int.ofNat k < Int.ofNat n))) (AV.lit true))).a t').a (((p' (k.blt n = true)).a t').a (((p' (([0,1,2].all fun j => (W.cell? ((ad.add (k * 3)).add j)).isSome) = true)).a ((p' ([AV.v ((W.cell? ((ad.add (k * 3)).add 0)).getD (Value.tuple (Array.mk []))),AV.v ((W.cell? (Addr.mk (ad.add (k * 3)).block ((ad.add (k * 3)).off + 1) none)).getD (Value.tuple (Array.mk []))),AV.v ((W.cell? (Addr.mk (ad.add (k * 3)).block ((ad.add (k * 3)).off + 2) none)).getD (Value.tuple (Array.mk [])))] = [AV.v (Value.int IntKind.i64 (AV.v ((W.cell? ((ad.add (k * 3)).add 0)).getD (Value.tuple (Array.mk [])))).intOf),AV.v (Value.string (AV.v ((W.cell? (Addr.mk (ad.add (k * 3)).block ((ad.add (k * 3)).off + 1) none)).getD (Value.tuple (Array.mk [])))).strOf),AV.v (Value.string (AV.v ((W.cell? (Addr.mk (ad.add (k * 3)).block ((ad.add (k * 3)).off + 2) none)).getD (Value.tuple (Array.mk [])))).strOf)])).a ((p' (Wk (AV.agg [AV.v (Value.int IntKind.i64 (AV.v ((W.cell? ((ad.add (k * 3)).add 0)).getD (Value.tuple (Array.mk [])))).intOf),AV.v (Value.string (AV.v ((W.cell? (Addr.mk (ad.add (k * 3)).block ((ad.add (k * 3)).off + 1) none)).getD (Value.tuple (Array.mk [])))).strOf),AV.v (Value.string (AV.v ((W.cell? (Addr.mk (ad.add (k * 3)).block ((ad.add (k * 3)).off + 2) none)).getD (Value.tuple (Array.mk [])))).strOf)]) (AV.agg [z' o.kd,s' o.tx,s' o.ds]))).a t'))).a (((p' (true = true)).a t').a ((p' ((fPl,12,loopN fPl 12,lLk (slV (some ad) n c) LX L g o nL n k at_).snd.snd.fst = (fPl,12,loopN fPl 12,lLk (slV (some ad) n c) LX L g o nL n k at_).snd.snd.fst)).a ((Cnd.p True).a ((p' (VW [a',a',a',AV.ptr 1000 0,AV.slice 1001 0 nL 2 (Cp.lo nL),a',AV.ptr 1100 0,z' (Int.negSucc 0),a',a',a',a',a',a',a',a',a',a',a',AV.v (Value.slice (some ad) n c),i' n,i' k,AV.lit true,AV.v (Value.pointer (some (ad.add (k * 3)))),AV.agg [z' o.kd,s' o.tx,s' o.ds],AV.slice 1001 0 nL 2 (Cp.lo nL),z' ↑nL,i' 0,a',a',a',a',a',a',a',a',a',a',a',a',a',a',a',a',a',a',a',a',a',a',a',a',a',a',a',a',a',a',a',a',a',a',a',a',a',a',a',a',a',a',a',a',a',a',a',a',a',a',a',a',a',a',a',a',a',a',a',a',a',a',a',a',a',a',a',a',a',a',a',a',a',a',a',a',a',a',a',a',a',a',a',a',a',a',a',a',a',a',a',a',a',a',a',a',a',a',a',a',a',a',a',a',a',a'] [a',a',a',AV.ptr 1000 0,AV.slice 1001 0 nL 2 (Cp.lo nL),a',AV.ptr 1100 0,z' (Int.negSucc 0),a',a',a',a',a',a',a',a',a',a',a',AV.v (Value.slice (some ad) n c),i' n,i' k,a',a',a',a',i' nL,i' 0,a',a',a',a',a',a',a',a',a',a',a',a',a',a',a',a',a',a',a',a',a',a',a',a',a',a',a',a',a',a',a',a',a',a',a',a',a',a',a',a',a',a',a',a',a',a',a',a',a',a',a',a',a',a',a',a',a',a',a',a',a',a',a',a',a',a',a',a',a',a',a',a',a',a',a',a',a',a',a',a',a',a',a',a',a',a',a',a',a',a',a',a',a',a',a',a',a',a',a',a',a',a',a',a',a',a'])).a ((p' (OW (AO.own (Md.trie L g) (trHP L g)) (AO.own (Md.trie L g) (trHP L g)))).a ((p' (OW (AO.cells (rowV encPr LX) 62) (AO.cells (AV.rens (nm3 1000 1001 1100) (rowV encPr LX)) 62))).a ((p' (OW (AO.cells [z' o.kd,s' o.tx,s' o.ds] 58) (AO.cells [z' o.kd,s' o.tx,s' o.ds] 58))).a (((p' (true = true)).a ((p' (z' o.kd = z' o.kd)).a t')).a (((p' (Wk (z' (IntKind.i64.wrap ↑(BitVec.ofInt 64 o.kd &&& BitVec.ofInt 64 (Int.ofNat 3)).toNat)) (z' q))).a t').a (((p' (Wk (b' (q == Int.ofNat 0)) (AV.lit true))).a t').a (((p' (true = true)).a ((p' (s' o.tx = s' o.tx)).a t')).a (((p' (true = true)).a ((p' (s' o.ds = s' o.ds)).a t')).a (((p' (o.tx.size ≤ 1100000 ∧ o.ds.size ≤ 1099511627776 ∧ List.length L ≤ 4611686018427387904)).a ((p' (VW [AV.ptr 1101 0,s' o.tx,s' o.ds] [AV.ptr 1101 0,s' o.tx,s' o.ds])).a ((p' (OW (AO.own (Md.trie L g) (trHP L g)) (AO.own (Md.trie L g) (trHP L g)))).a t'))).a (((p' (Wk (AV.v (Value.bool !(!inB L o.tx o.ds) == decide (at_ < Int.ofNat 0))) (AV.lit false))).a t').a (((p' (Wk (b' (decide (at_ < Int.ofNat 0))) (AV.lit false))).a t').a (((Cnd.p True).a ((p' (VW [AV.ptr 1101 0] [AV.ptr 1101 0])).a ((p' (OW (AO.own (Md.trie (addL L o.tx o.ds) (g + (dots o.tx).length + 1)) (trHP (addL L o.tx o.ds) (g + (dots o.tx).length + 1))) (AO.own (Md.trie (addL L o.tx o.ds) (g + (dots o.tx).length + 1)) (trHP (addL L o.tx o.ds) (g + (dots o.tx).length + 1))))).a t'))).a (((p' (Wk (b' (Int.ofNat (List.length (addL L o.tx o.ds)) != ↑nL)) (AV.lit false))).a t').a (((p' (Wk (z' (IntKind.i64.wrap (Int.ofNat k + Int.ofNat 1))) (i' (k + 1)))).a t').a t'))))))))))))))))))))) := by kernel_rfl
theorem oR0_eq (W : World) (ad : Addr) (c : Nat) (L LX : Pairs) (g : Nat) (o : OpT) (q : Int) (nL n k : Nat) (at_ : Int) (F : HP) : wLoop [(fRemove, cRmv), (fLen, cLn)] (hR k o q false []) [(fPl, 12, loopN fPl 12, lLk (slV (some ad) n c) LX L g o nL n k at_)] W fPl (loopN fPl 8) (tms 0 134 (aPl (slV (some ad) n c) nL n k)) (oPl L g LX) ksP [3, 4, 19, 20, 21] F = VT.leaf (AX.normal,[AV.ptr 1101 0,AV.slice 1102 0 nL 2 (Cp.lo nL),AV.v (Value.slice (some ad) n c),i' n,i' (k + 1)],134) [none,none,none,some (AO.own (Md.trie (delL L o.tx o.ds) g) (trHP (delL L o.tx o.ds) g)),some (AO.cells (AV.rens (sgN (nm3 1000 1001 1100) [1000,1001,1002] 1101) (rowV encPr LX)) 62),some (AO.cells [z' o.kd,s' o.tx,s' o.ds] 58),none,none,none,none,none,none,none] 1104 (((p' (Wk (b' (decide (Int.ofNat k < Int.ofNat n))) (AV.lit true))).a t').a (((p' (k.blt n = true)).a t').a (((p' (([0,1,2].all fun j => (W.cell? ((ad.add (k * 3)).add j)).isSome) = true)).a ((p' ([AV.v ((W.cell? ((ad.add (k * 3)).add 0)).getD (Value.tuple (Array.mk []))),AV.v ((W.cell? (Addr.mk (ad.add (k * 3)).block ((ad.add (k * 3)).off + 1) none)).getD (Value.tuple (Array.mk []))),AV.v ((W.cell? (Addr.mk (ad.add (k * 3)).block ((ad.add (k * 3)).off + 2) none)).getD (Value.tuple (Array.mk [])))] = [AV.v (Value.int IntKind.i64 (AV.v ((W.cell? ((ad.add (k * 3)).add 0)).getD (Value.tuple (Array.mk [])))).intOf),AV.v (Value.string (AV.v ((W.cell? (Addr.mk (ad.add (k * 3)).block ((ad.add (k * 3)).off + 1) none)).getD (Value.tuple (Array.mk [])))).strOf),AV.v (Value.string (AV.v ((W.cell? (Addr.mk (ad.add (k * 3)).block ((ad.add (k * 3)).off + 2) none)).getD (Value.tuple (Array.mk [])))).strOf)])).a ((p' (Wk (AV.agg [AV.v (Value.int IntKind.i64 (AV.v ((W.cell? ((ad.add (k * 3)).add 0)).getD (Value.tuple (Array.mk [])))).intOf),AV.v (Value.string (AV.v ((W.cell? (Addr.mk (ad.add (k * 3)).block ((ad.add (k * 3)).off + 1) none)).getD (Value.tuple (Array.mk [])))).strOf),AV.v (Value.string (AV.v ((W.cell? (Addr.mk (ad.add (k * 3)).block ((ad.add (k * 3)).off + 2) none)).getD (Value.tuple (Array.mk [])))).strOf)]) (AV.agg [z' o.kd,s' o.tx,s' o.ds]))).a t'))).a (((p' (true = true)).a t').a ((p' ((fPl,12,loopN fPl 12,lLk (slV (some ad) n c) LX L g o nL n k at_).snd.snd.fst = (fPl,12,loopN fPl 12,lLk (slV (some ad) n c) LX L g o nL n k at_).snd.snd.fst)).a ((Cnd.p True).a ((p' (VW [a',a',a',AV.ptr 1000 0,AV.slice 1001 0 nL 2 (Cp.lo nL),a',AV.ptr 1100 0,z' (Int.negSucc 0),a',a',a',a',a',a',a',a',a',a',a',AV.v (Value.slice (some ad) n c),i' n,i' k,AV.lit true,AV.v (Value.pointer (some (ad.add (k * 3)))),AV.agg [z' o.kd,s' o.tx,s' o.ds],AV.slice 1001 0 nL 2 (Cp.lo nL),z' ↑nL,i' 0,a',a',a',a',a',a',a',a',a',a',a',a',a',a',a',a',a',a',a',a',a',a',a',a',a',a',a',a',a',a',a',a',a',a',a',a',a',a',a',a',a',a',a',a',a',a',a',a',a',a',a',a',a',a',a',a',a',a',a',a',a',a',a',a',a',a',a',a',a',a',a',a',a',a',a',a',a',a',a',a',a',a',a',a',a',a',a',a',a',a',a',a',a',a',a',a',a',a',a',a',a',a',a',a',a',a'] [a',a',a',AV.ptr 1000 0,AV.slice 1001 0 nL 2 (Cp.lo nL),a',AV.ptr 1100 0,z' (Int.negSucc 0),a',a',a',a',a',a',a',a',a',a',a',AV.v (Value.slice (some ad) n c),i' n,i' k,a',a',a',a',i' nL,i' 0,a',a',a',a',a',a',a',a',a',a',a',a',a',a',a',a',a',a',a',a',a',a',a',a',a',a',a',a',a',a',a',a',a',a',a',a',a',a',a',a',a',a',a',a',a',a',a',a',a',a',a',a',a',a',a',a',a',a',a',a',a',a',a',a',a',a',a',a',a',a',a',a',a',a',a',a',a',a',a',a',a',a',a',a',a',a',a',a',a',a',a',a',a',a',a',a',a',a',a',a',a',a',a',a',a',a'])).a ((p' (OW (AO.own (Md.trie L g) (trHP L g)) (AO.own (Md.trie L g) (trHP L g)))).a ((p' (OW (AO.cells (rowV encPr LX) 62) (AO.cells (AV.rens (nm3 1000 1001 1100) (rowV encPr LX)) 62))).a ((p' (OW (AO.cells [z' o.kd,s' o.tx,s' o.ds] 58) (AO.cells [z' o.kd,s' o.tx,s' o.ds] 58))).a (((p' (true = true)).a ((p' (z' o.kd = z' o.kd)).a t')).a (((p' (Wk (z' (IntKind.i64.wrap ↑(BitVec.ofInt 64 o.kd &&& BitVec.ofInt 64 (Int.ofNat 3)).toNat)) (z' q))).a t').a (((p' (Wk (b' (q == Int.ofNat 0)) (AV.lit false))).a t').a (((p' (Wk (b' (q == Int.ofNat 1)) (AV.lit true))).a t').a (((p' (true = true)).a ((p' (s' o.tx = s' o.tx)).a t')).a (((p' (true = true)).a ((p' (s' o.ds = s' o.ds)).a t')).a (((p' (o.tx.size ≤ 1100000 ∧ List.length L ≤ 4611686018427387904)).a ((p' (VW [AV.ptr 1101 0,s' o.tx,s' o.ds] [AV.ptr 1101 0,s' o.tx,s' o.ds])).a ((p' (OW (AO.own (Md.trie L g) (trHP L g)) (AO.own (Md.trie L g) (trHP L g)))).a t'))).a (((p' (Wk (AV.v (Value.bool !inB L o.tx o.ds == decide (at_ ≥ Int.ofNat 0))) (AV.lit false))).a t').a (((p' (Wk (b' (decide (at_ ≥ Int.ofNat 0))) (AV.lit false))).a t').a (((Cnd.p True).a ((p' (VW [AV.ptr 1101 0] [AV.ptr 1101 0])).a ((p' (OW (AO.own (Md.trie (delL L o.tx o.ds) g) (trHP (delL L o.tx o.ds) g)) (AO.own (Md.trie (delL L o.tx o.ds) g) (trHP (delL L o.tx o.ds) g)))).a t'))).a (((p' (Wk (b' (Int.ofNat (List.length (delL L o.tx o.ds)) != ↑nL)) (AV.lit false))).a t').a (((p' (Wk (z' (IntKind.i64.wrap (Int.ofNat k + Int.ofNat 1))) (i' (k + 1)))).a t').a t')))))))))))))))))))))) := by kernel_rfl
theorem oRN_eq (W : World) (ad : Addr) (c : Nat) (L LX : Pairs) (g : Nat) (o : OpT) (q : Int) (nL n k : Nat) (a : Nat) (F : HP) : wLoop [(fRemove, cRmv), (fLen, cLn)] (hR k o q true [(fPl, 39, 6, hv (iv (Int.ofNat (a + 1))))]) [(fPl, 12, loopN fPl 12, lLk (slV (some ad) n c) LX L g o nL n k (Int.ofNat a))] W fPl (loopN fPl 8) (tms 0 134 (aPl (slV (some ad) n c) nL n k)) (oPl L g LX) ksP [3, 4, 19, 20, 21] F = VT.leaf (AX.normal,[AV.ptr 1101 0,AV.slice 1104 0 (a + (nL - (a + 1))) 2 (Cp.lo (a + (nL - (a + 1)))),AV.v (Value.slice (some ad) n c),i' n,i' (k + 1)],134) [none,none,none,some (AO.own (Md.trie (delL L o.tx o.ds) g) (trHP (delL L o.tx o.ds) g)),some (AO.cells (AV.rens (sgN (nm3 1000 1001 1100) [1000,1001,1002] 1101) (rowV encPr LX)) 62),some (AO.cells [z' o.kd,s' o.tx,s' o.ds] 58),some (AO.cells (List.take (a * 2) (List.drop 0 (AV.rens (sgN (nm3 1000 1001 1100) [1000,1001,1002] 1101) (rowV encPr LX))) ++ List.take ((nL - (a + 1)) * 2) (List.drop (0 + (a + 1) * 2) (AV.rens (sgN (nm3 1000 1001 1100) [1000,1001,1002] 1101) (rowV encPr LX)))) 62),none,none,none,none,none,none] 1105 (((p' (Wk (b' (decide (Int.ofNat k < Int.ofNat n))) (AV.lit true))).a t').a (((p' (k.blt n = true)).a t').a (((p' (([0,1,2].all fun j => (W.cell? ((ad.add (k * 3)).add j)).isSome) = true)).a ((p' ([AV.v ((W.cell? ((ad.add (k * 3)).add 0)).getD (Value.tuple (Array.mk []))),AV.v ((W.cell? (Addr.mk (ad.add (k * 3)).block ((ad.add (k * 3)).off + 1) none)).getD (Value.tuple (Array.mk []))),AV.v ((W.cell? (Addr.mk (ad.add (k * 3)).block ((ad.add (k * 3)).off + 2) none)).getD (Value.tuple (Array.mk [])))] = [AV.v (Value.int IntKind.i64 (AV.v ((W.cell? ((ad.add (k * 3)).add 0)).getD (Value.tuple (Array.mk [])))).intOf),AV.v (Value.string (AV.v ((W.cell? (Addr.mk (ad.add (k * 3)).block ((ad.add (k * 3)).off + 1) none)).getD (Value.tuple (Array.mk [])))).strOf),AV.v (Value.string (AV.v ((W.cell? (Addr.mk (ad.add (k * 3)).block ((ad.add (k * 3)).off + 2) none)).getD (Value.tuple (Array.mk [])))).strOf)])).a ((p' (Wk (AV.agg [AV.v (Value.int IntKind.i64 (AV.v ((W.cell? ((ad.add (k * 3)).add 0)).getD (Value.tuple (Array.mk [])))).intOf),AV.v (Value.string (AV.v ((W.cell? (Addr.mk (ad.add (k * 3)).block ((ad.add (k * 3)).off + 1) none)).getD (Value.tuple (Array.mk [])))).strOf),AV.v (Value.string (AV.v ((W.cell? (Addr.mk (ad.add (k * 3)).block ((ad.add (k * 3)).off + 2) none)).getD (Value.tuple (Array.mk [])))).strOf)]) (AV.agg [z' o.kd,s' o.tx,s' o.ds]))).a t'))).a (((p' (true = true)).a t').a ((p' ((fPl,12,loopN fPl 12,lLk (slV (some ad) n c) LX L g o nL n k (Int.ofNat a)).snd.snd.fst = (fPl,12,loopN fPl 12,lLk (slV (some ad) n c) LX L g o nL n k (Int.ofNat a)).snd.snd.fst)).a ((Cnd.p True).a ((p' (VW [a',a',a',AV.ptr 1000 0,AV.slice 1001 0 nL 2 (Cp.lo nL),a',AV.ptr 1100 0,z' (Int.negSucc 0),a',a',a',a',a',a',a',a',a',a',a',AV.v (Value.slice (some ad) n c),i' n,i' k,AV.lit true,AV.v (Value.pointer (some (ad.add (k * 3)))),AV.agg [z' o.kd,s' o.tx,s' o.ds],AV.slice 1001 0 nL 2 (Cp.lo nL),z' ↑nL,i' 0,a',a',a',a',a',a',a',a',a',a',a',a',a',a',a',a',a',a',a',a',a',a',a',a',a',a',a',a',a',a',a',a',a',a',a',a',a',a',a',a',a',a',a',a',a',a',a',a',a',a',a',a',a',a',a',a',a',a',a',a',a',a',a',a',a',a',a',a',a',a',a',a',a',a',a',a',a',a',a',a',a',a',a',a',a',a',a',a',a',a',a',a',a',a',a',a',a',a',a',a',a',a',a',a',a',a'] [a',a',a',AV.ptr 1000 0,AV.slice 1001 0 nL 2 (Cp.lo nL),a',AV.ptr 1100 0,z' (Int.negSucc 0),a',a',a',a',a',a',a',a',a',a',a',AV.v (Value.slice (some ad) n c),i' n,i' k,a',a',a',a',i' nL,i' 0,a',a',a',a',a',a',a',a',a',a',a',a',a',a',a',a',a',a',a',a',a',a',a',a',a',a',a',a',a',a',a',a',a',a',a',a',a',a',a',a',a',a',a',a',a',a',a',a',a',a',a',a',a',a',a',a',a',a',a',a',a',a',a',a',a',a',a',a',a',a',a',a',a',a',a',a',a',a',a',a',a',a',a',a',a',a',a',a',a',a',a',a',a',a',a',a',a',a',a',a',a',a',a',a',a',a'])).a ((p' (OW (AO.own (Md.trie L g) (trHP L g)) (AO.own (Md.trie L g) (trHP L g)))).a ((p' (OW (AO.cells (rowV encPr LX) 62) (AO.cells (AV.rens (nm3 1000 1001 1100) (rowV encPr LX)) 62))).a ((p' (OW (AO.cells [z' o.kd,s' o.tx,s' o.ds] 58) (AO.cells [z' o.kd,s' o.tx,s' o.ds] 58))).a (((p' (true = true)).a ((p' (z' o.kd = z' o.kd)).a t')).a (((p' (Wk (z' (IntKind.i64.wrap ↑(BitVec.ofInt 64 o.kd &&& BitVec.ofInt 64 (Int.ofNat 3)).toNat)) (z' q))).a t').a (((p' (Wk (b' (q == Int.ofNat 0)) (AV.lit false))).a t').a (((p' (Wk (b' (q == Int.ofNat 1)) (AV.lit true))).a t').a (((p' (true = true)).a ((p' (s' o.tx = s' o.tx)).a t')).a (((p' (true = true)).a ((p' (s' o.ds = s' o.ds)).a t')).a (((p' (o.tx.size ≤ 1100000 ∧ List.length L ≤ 4611686018427387904)).a ((p' (VW [AV.ptr 1101 0,s' o.tx,s' o.ds] [AV.ptr 1101 0,s' o.tx,s' o.ds])).a ((p' (OW (AO.own (Md.trie L g) (trHP L g)) (AO.own (Md.trie L g) (trHP L g)))).a t'))).a (((p' (Wk (AV.v (Value.bool !inB L o.tx o.ds == true)) (AV.lit false))).a t').a (((p' (Wk (b' true) (AV.lit true))).a t').a (((p' (true = true)).a ((p' (a.ble a = true)).a ((p' (a.ble nL = true)).a t'))).a (((p' (Wk (z' (IntKind.i64.wrap (Int.ofNat a + Int.ofNat 1))) (i' (a + 1)))).a t').a (((p' ((a + 1).ble nL = true)).a ((p' (nL.ble nL = true)).a ((p' (nL.ble nL = true)).a t'))).a (((p' ((nL - (a + 1)).ble (nL - (a + 1)) = true)).a ((p' ((List.take ((nL - (a + 1)) * 2) (List.drop (0 + (a + 1) * 2) (AV.rens (sgN (nm3 1000 1001 1100) [1000,1001,1002] 1101) (rowV encPr LX)))).length.beq ((nL - (a + 1)) * 2) = true)).a ((p' ((List.take ((nL - (a + 1)) * 2) (List.drop (0 + (a + 1) * 2) (AV.rens (sgN (nm3 1000 1001 1100) [1000,1001,1002] 1101) (rowV encPr LX)))).all AV.one = true)).a ((p' (Nat.blt 0 (nL - (a + 1)) = true)).a ((p' ((0 + a * 2).ble (AV.rens (sgN (nm3 1000 1001 1100) [1000,1001,1002] 1101) (rowV encPr LX)).length = true)).a ((p' (((a + (nL - (a + 1))) * 32).ble 140737488355328 = true)).a ((p' ((a + (nL - (a + 1))).ble 9223372036854775807 = true)).a ((p' ((List.take (a * 2) (List.drop 0 (AV.rens (sgN (nm3 1000 1001 1100) [1000,1001,1002] 1101) (rowV encPr LX)))).length.beq (a * 2) = true)).a ((p' (a.blt (a + (nL - (a + 1))) = true)).a t'))))))))).a (((Cnd.p True).a ((p' (VW [AV.ptr 1101 0] [AV.ptr 1101 0])).a ((p' (OW (AO.own (Md.trie (delL L o.tx o.ds) g) (trHP (delL L o.tx o.ds) g)) (AO.own (Md.trie (delL L o.tx o.ds) g) (trHP (delL L o.tx o.ds) g)))).a t'))).a (((p' (Wk (b' (Int.ofNat (List.length (delL L o.tx o.ds)) != ↑(a + (nL - (a + 1))))) (AV.lit false))).a t').a (((p' (Wk (z' (IntKind.i64.wrap (Int.ofNat k + Int.ofNat 1))) (i' (k + 1)))).a t').a t')))))))))))))))))))))))))) := by kernel_rfl
theorem oRZ_eq (W : World) (ad : Addr) (c : Nat) (L LX : Pairs) (g : Nat) (o : OpT) (q : Int) (nL n k : Nat) (a : Nat) (F : HP) : wLoop [(fRemove, cRmv), (fLen, cLn)] (hR k o q true [(fPl, 39, 6, hv (iv (Int.ofNat (a + 1)))), (fPl, 39, 8, h0)]) [(fPl, 12, loopN fPl 12, lLk (slV (some ad) n c) LX L g o nL n k (Int.ofNat a))] W fPl (loopN fPl 8) (tms 0 134 (aPl (slV (some ad) n c) nL n k)) (oPl L g LX) ksP [3, 4, 19, 20, 21] F = VT.leaf (AX.normal,[AV.ptr 1101 0,AV.slice 1102 0 a 2 (Cp.ex a),AV.v (Value.slice (some ad) n c),i' n,i' (k + 1)],134) [none,none,none,some (AO.own (Md.trie (delL L o.tx o.ds) g) (trHP (delL L o.tx o.ds) g)),some (AO.cells (AV.rens (sgN (nm3 1000 1001 1100) [1000,1001,1002] 1101) (rowV encPr LX)) 62),some (AO.cells [z' o.kd,s' o.tx,s' o.ds] 58),none,none,none,none,none,none,none] 1104 (((p' (Wk (b' (decide (Int.ofNat k < Int.ofNat n))) (AV.lit true))).a t').a (((p' (k.blt n = true)).a t').a (((p' (([0,1,2].all fun j => (W.cell? ((ad.add (k * 3)).add j)).isSome) = true)).a ((p' ([AV.v ((W.cell? ((ad.add (k * 3)).add 0)).getD (Value.tuple (Array.mk []))),AV.v ((W.cell? (Addr.mk (ad.add (k * 3)).block ((ad.add (k * 3)).off + 1) none)).getD (Value.tuple (Array.mk []))),AV.v ((W.cell? (Addr.mk (ad.add (k * 3)).block ((ad.add (k * 3)).off + 2) none)).getD (Value.tuple (Array.mk [])))] = [AV.v (Value.int IntKind.i64 (AV.v ((W.cell? ((ad.add (k * 3)).add 0)).getD (Value.tuple (Array.mk [])))).intOf),AV.v (Value.string (AV.v ((W.cell? (Addr.mk (ad.add (k * 3)).block ((ad.add (k * 3)).off + 1) none)).getD (Value.tuple (Array.mk [])))).strOf),AV.v (Value.string (AV.v ((W.cell? (Addr.mk (ad.add (k * 3)).block ((ad.add (k * 3)).off + 2) none)).getD (Value.tuple (Array.mk [])))).strOf)])).a ((p' (Wk (AV.agg [AV.v (Value.int IntKind.i64 (AV.v ((W.cell? ((ad.add (k * 3)).add 0)).getD (Value.tuple (Array.mk [])))).intOf),AV.v (Value.string (AV.v ((W.cell? (Addr.mk (ad.add (k * 3)).block ((ad.add (k * 3)).off + 1) none)).getD (Value.tuple (Array.mk [])))).strOf),AV.v (Value.string (AV.v ((W.cell? (Addr.mk (ad.add (k * 3)).block ((ad.add (k * 3)).off + 2) none)).getD (Value.tuple (Array.mk [])))).strOf)]) (AV.agg [z' o.kd,s' o.tx,s' o.ds]))).a t'))).a (((p' (true = true)).a t').a ((p' ((fPl,12,loopN fPl 12,lLk (slV (some ad) n c) LX L g o nL n k (Int.ofNat a)).snd.snd.fst = (fPl,12,loopN fPl 12,lLk (slV (some ad) n c) LX L g o nL n k (Int.ofNat a)).snd.snd.fst)).a ((Cnd.p True).a ((p' (VW [a',a',a',AV.ptr 1000 0,AV.slice 1001 0 nL 2 (Cp.lo nL),a',AV.ptr 1100 0,z' (Int.negSucc 0),a',a',a',a',a',a',a',a',a',a',a',AV.v (Value.slice (some ad) n c),i' n,i' k,AV.lit true,AV.v (Value.pointer (some (ad.add (k * 3)))),AV.agg [z' o.kd,s' o.tx,s' o.ds],AV.slice 1001 0 nL 2 (Cp.lo nL),z' ↑nL,i' 0,a',a',a',a',a',a',a',a',a',a',a',a',a',a',a',a',a',a',a',a',a',a',a',a',a',a',a',a',a',a',a',a',a',a',a',a',a',a',a',a',a',a',a',a',a',a',a',a',a',a',a',a',a',a',a',a',a',a',a',a',a',a',a',a',a',a',a',a',a',a',a',a',a',a',a',a',a',a',a',a',a',a',a',a',a',a',a',a',a',a',a',a',a',a',a',a',a',a',a',a',a',a',a',a',a',a'] [a',a',a',AV.ptr 1000 0,AV.slice 1001 0 nL 2 (Cp.lo nL),a',AV.ptr 1100 0,z' (Int.negSucc 0),a',a',a',a',a',a',a',a',a',a',a',AV.v (Value.slice (some ad) n c),i' n,i' k,a',a',a',a',i' nL,i' 0,a',a',a',a',a',a',a',a',a',a',a',a',a',a',a',a',a',a',a',a',a',a',a',a',a',a',a',a',a',a',a',a',a',a',a',a',a',a',a',a',a',a',a',a',a',a',a',a',a',a',a',a',a',a',a',a',a',a',a',a',a',a',a',a',a',a',a',a',a',a',a',a',a',a',a',a',a',a',a',a',a',a',a',a',a',a',a',a',a',a',a',a',a',a',a',a',a',a',a',a',a',a',a',a',a',a'])).a ((p' (OW (AO.own (Md.trie L g) (trHP L g)) (AO.own (Md.trie L g) (trHP L g)))).a ((p' (OW (AO.cells (rowV encPr LX) 62) (AO.cells (AV.rens (nm3 1000 1001 1100) (rowV encPr LX)) 62))).a ((p' (OW (AO.cells [z' o.kd,s' o.tx,s' o.ds] 58) (AO.cells [z' o.kd,s' o.tx,s' o.ds] 58))).a (((p' (true = true)).a ((p' (z' o.kd = z' o.kd)).a t')).a (((p' (Wk (z' (IntKind.i64.wrap ↑(BitVec.ofInt 64 o.kd &&& BitVec.ofInt 64 (Int.ofNat 3)).toNat)) (z' q))).a t').a (((p' (Wk (b' (q == Int.ofNat 0)) (AV.lit false))).a t').a (((p' (Wk (b' (q == Int.ofNat 1)) (AV.lit true))).a t').a (((p' (true = true)).a ((p' (s' o.tx = s' o.tx)).a t')).a (((p' (true = true)).a ((p' (s' o.ds = s' o.ds)).a t')).a (((p' (o.tx.size ≤ 1100000 ∧ List.length L ≤ 4611686018427387904)).a ((p' (VW [AV.ptr 1101 0,s' o.tx,s' o.ds] [AV.ptr 1101 0,s' o.tx,s' o.ds])).a ((p' (OW (AO.own (Md.trie L g) (trHP L g)) (AO.own (Md.trie L g) (trHP L g)))).a t'))).a (((p' (Wk (AV.v (Value.bool !inB L o.tx o.ds == true)) (AV.lit false))).a t').a (((p' (Wk (b' true) (AV.lit true))).a t').a (((p' (true = true)).a ((p' (a.ble a = true)).a ((p' (a.ble nL = true)).a t'))).a (((p' (Wk (z' (IntKind.i64.wrap (Int.ofNat a + Int.ofNat 1))) (i' (a + 1)))).a t').a (((p' ((a + 1).ble nL = true)).a ((p' (nL.ble nL = true)).a ((p' (nL.ble nL = true)).a t'))).a (((p' (nL - (a + 1) = 0)).a t').a (((Cnd.p True).a ((p' (VW [AV.ptr 1101 0] [AV.ptr 1101 0])).a ((p' (OW (AO.own (Md.trie (delL L o.tx o.ds) g) (trHP (delL L o.tx o.ds) g)) (AO.own (Md.trie (delL L o.tx o.ds) g) (trHP (delL L o.tx o.ds) g)))).a t'))).a (((p' (Wk (b' (Int.ofNat (List.length (delL L o.tx o.ds)) != ↑a)) (AV.lit false))).a t').a (((p' (Wk (z' (IntKind.i64.wrap (Int.ofNat k + Int.ofNat 1))) (i' (k + 1)))).a t').a t')))))))))))))))))))))))))) := by kernel_rfl
theorem oMZ_eq (W : World) (ad : Addr) (c : Nat) (L LX : Pairs) (g : Nat) (o : OpT) (q : Int) (nL n k : Nat) (at_ : Int) (F : HP) : wLoop [(fMatch, cMatZ), (fPM, cPm L LX []), (fLen, cLn)] (hM k o q [(fPl, 23, 0, hv (.lit false)), (fST, 1, 4, hv (.lit false)), (fST, 4, 3, hv (.lit false))]) [(fPl, 12, loopN fPl 12, lLk (slV (some ad) n c) LX L g o nL n k at_)] W fPl (loopN fPl 8) (tms 0 134 (aPl (slV (some ad) n c) nL n k)) (oPl L g LX) ksP [3, 4, 19, 20, 21] F = VT.leaf (AX.normal,[AV.ptr 1101 0,AV.slice 1102 0 nL 2 (Cp.lo nL),AV.v (Value.slice (some ad) n c),i' n,i' (k + 1)],134) [none,none,none,some (AO.own (Md.trie L g) (trHP L g)),some (AO.cells (AV.rens (sgN (nmA 1102) [1000] 1104) (rowV encPr LX)) 62),some (AO.cells [z' o.kd,s' o.tx,s' o.ds] 58),some (AO.cells [] 18),some (AO.cells [s' (ByteArray.mk (Array.mk [42]))] 18),some (AO.cells [s' (ByteArray.mk (Array.mk [42]))] 18),none,none,none,none] 1107 (((p' (Wk (b' (decide (Int.ofNat k < Int.ofNat n))) (AV.lit true))).a t').a (((p' (k.blt n = true)).a t').a (((p' (([0,1,2].all fun j => (W.cell? ((ad.add (k * 3)).add j)).isSome) = true)).a ((p' ([AV.v ((W.cell? ((ad.add (k * 3)).add 0)).getD (Value.tuple (Array.mk []))),AV.v ((W.cell? (Addr.mk (ad.add (k * 3)).block ((ad.add (k * 3)).off + 1) none)).getD (Value.tuple (Array.mk []))),AV.v ((W.cell? (Addr.mk (ad.add (k * 3)).block ((ad.add (k * 3)).off + 2) none)).getD (Value.tuple (Array.mk [])))] = [AV.v (Value.int IntKind.i64 (AV.v ((W.cell? ((ad.add (k * 3)).add 0)).getD (Value.tuple (Array.mk [])))).intOf),AV.v (Value.string (AV.v ((W.cell? (Addr.mk (ad.add (k * 3)).block ((ad.add (k * 3)).off + 1) none)).getD (Value.tuple (Array.mk [])))).strOf),AV.v (Value.string (AV.v ((W.cell? (Addr.mk (ad.add (k * 3)).block ((ad.add (k * 3)).off + 2) none)).getD (Value.tuple (Array.mk [])))).strOf)])).a ((p' (Wk (AV.agg [AV.v (Value.int IntKind.i64 (AV.v ((W.cell? ((ad.add (k * 3)).add 0)).getD (Value.tuple (Array.mk [])))).intOf),AV.v (Value.string (AV.v ((W.cell? (Addr.mk (ad.add (k * 3)).block ((ad.add (k * 3)).off + 1) none)).getD (Value.tuple (Array.mk [])))).strOf),AV.v (Value.string (AV.v ((W.cell? (Addr.mk (ad.add (k * 3)).block ((ad.add (k * 3)).off + 2) none)).getD (Value.tuple (Array.mk [])))).strOf)]) (AV.agg [z' o.kd,s' o.tx,s' o.ds]))).a t'))).a (((p' (true = true)).a t').a ((p' ((fPl,12,loopN fPl 12,lLk (slV (some ad) n c) LX L g o nL n k at_).snd.snd.fst = (fPl,12,loopN fPl 12,lLk (slV (some ad) n c) LX L g o nL n k at_).snd.snd.fst)).a ((Cnd.p True).a ((p' (VW [a',a',a',AV.ptr 1000 0,AV.slice 1001 0 nL 2 (Cp.lo nL),a',AV.ptr 1100 0,z' (Int.negSucc 0),a',a',a',a',a',a',a',a',a',a',a',AV.v (Value.slice (some ad) n c),i' n,i' k,AV.lit true,AV.v (Value.pointer (some (ad.add (k * 3)))),AV.agg [z' o.kd,s' o.tx,s' o.ds],AV.slice 1001 0 nL 2 (Cp.lo nL),z' ↑nL,i' 0,a',a',a',a',a',a',a',a',a',a',a',a',a',a',a',a',a',a',a',a',a',a',a',a',a',a',a',a',a',a',a',a',a',a',a',a',a',a',a',a',a',a',a',a',a',a',a',a',a',a',a',a',a',a',a',a',a',a',a',a',a',a',a',a',a',a',a',a',a',a',a',a',a',a',a',a',a',a',a',a',a',a',a',a',a',a',a',a',a',a',a',a',a',a',a',a',a',a',a',a',a',a',a',a',a',a'] [a',a',a',AV.ptr 1000 0,AV.slice 1001 0 nL 2 (Cp.lo nL),a',AV.ptr 1100 0,z' (Int.negSucc 0),a',a',a',a',a',a',a',a',a',a',a',AV.v (Value.slice (some ad) n c),i' n,i' k,a',a',a',a',i' nL,i' 0,a',a',a',a',a',a',a',a',a',a',a',a',a',a',a',a',a',a',a',a',a',a',a',a',a',a',a',a',a',a',a',a',a',a',a',a',a',a',a',a',a',a',a',a',a',a',a',a',a',a',a',a',a',a',a',a',a',a',a',a',a',a',a',a',a',a',a',a',a',a',a',a',a',a',a',a',a',a',a',a',a',a',a',a',a',a',a',a',a',a',a',a',a',a',a',a',a',a',a',a',a',a',a',a',a',a'])).a ((p' (OW (AO.own (Md.trie L g) (trHP L g)) (AO.own (Md.trie L g) (trHP L g)))).a ((p' (OW (AO.cells (rowV encPr LX) 62) (AO.cells (AV.rens (nm3 1000 1001 1100) (rowV encPr LX)) 62))).a ((p' (OW (AO.cells [z' o.kd,s' o.tx,s' o.ds] 58) (AO.cells [z' o.kd,s' o.tx,s' o.ds] 58))).a (((p' (true = true)).a ((p' (z' o.kd = z' o.kd)).a t')).a (((p' (Wk (z' (IntKind.i64.wrap ↑(BitVec.ofInt 64 o.kd &&& BitVec.ofInt 64 (Int.ofNat 3)).toNat)) (z' q))).a t').a (((p' (Wk (b' (q == Int.ofNat 0)) (AV.lit false))).a t').a (((p' (Wk (b' (q == Int.ofNat 1)) (AV.lit false))).a t').a (((p' (true = true)).a ((p' (s' o.tx = s' o.tx)).a t')).a (((p' (g ≤ 1500000 ∧ o.tx.size ≤ 1100000 ∧ matchA L o.tx = [])).a ((p' (VW [AV.ptr 1101 0,s' o.tx] [AV.ptr 1101 0,s' o.tx])).a ((p' (OW (AO.own (Md.trie L g) (trHP L g)) (AO.own (Md.trie L g) (trHP L g)))).a t'))).a (((p' (true = true)).a ((p' (s' o.tx = s' o.tx)).a t')).a (((p' (g ≤ 1500000 ∧ o.tx.size ≤ 1100000 ∧ matchA L o.tx = [])).a ((p' (VW [AV.ptr 1101 0,s' o.tx] [AV.ptr 1101 0,s' o.tx])).a ((p' (OW (AO.own (Md.trie L g) (trHP L g)) (AO.own (Md.trie L g) (trHP L g)))).a t'))).a (((p' (true = true)).a ((p' (s' o.tx = s' o.tx)).a t')).a (((p' (nL = List.length L ∧ matchA L o.tx = [] ∧ o.tx.size ≤ 1100000)).a ((p' (VW [AV.slice 1102 0 nL 2 (Cp.lo nL),s' o.tx] [AV.slice 1102 0 nL 2 (Cp.lo nL),s' o.tx])).a ((p' (OW (AO.cells (AV.rens (sgN (nm3 1000 1001 1100) [1000,1001,1002] 1101) (rowV encPr LX)) 62) (AO.cells (AV.rens (nmA 1102) (rowV encPr LX)) 62))).a t'))).a ((((p' (Wk (b' false) (AV.lit false))).a t').a (((p' (Wk (b' false) (AV.lit false))).a t').a t')).a (((p' (Wk (b' false) (AV.lit false))).a t').a (((p' (Wk (b' false) (AV.lit false))).a t').a (((p' (true = true)).a ((p' (true = true)).a ((p' (true = true)).a ((p' (true = true)).a ((p' (true = true)).a ((p' (true = true)).a t')))))).a ((((p' (Wk (b' false) (AV.lit false))).a t').a (((p' (Wk (b' false) (AV.lit false))).a t').a t')).a (((p' (Wk (b' false) (AV.lit false))).a t').a (((Cnd.p True).a ((p' (VW [AV.ptr 1101 0] [AV.ptr 1101 0])).a ((p' (OW (AO.own (Md.trie L g) (trHP L g)) (AO.own (Md.trie L g) (trHP L g)))).a t'))).a (((p' (Wk (b' (Int.ofNat (List.length L) != ↑nL)) (AV.lit false))).a t').a (((p' (Wk (z' (IntKind.i64.wrap (Int.ofNat k + Int.ofNat 1))) (i' (k + 1)))).a t').a t'))))))))))))))))))))))))))))) := by kernel_rfl
theorem oMN_eq (W : World) (ad : Addr) (c : Nat) (L LX : Pairs) (g : Nat) (o : OpT) (q : Int) (nL n k : Nat) (l R : List ByteArray) (at_ : Int) (F : HP) : wLoop [(fMatch, cMatR l l.length), (fPM, cPm L LX l), (fLen, cLn), (fST, cST l)] (hM k o q []) [(fPl, 12, loopN fPl 12, lLk (slV (some ad) n c) LX L g o nL n k at_), (fPl, 23, loopN fPl 23, lSp (slV (some ad) n c) LX L g R l nL n k l.length)] W fPl (loopN fPl 8) (tms 0 134 (aPl (slV (some ad) n c) nL n k)) (oPl L g LX) ksP [3, 4, 19, 20, 21] F = VT.leaf (AX.normal,[AV.ptr 1107 0,AV.slice 1108 0 nL 2 (Cp.lo nL),AV.v (Value.slice (some ad) n c),i' n,i' (k + 1)],134) [none,none,none,none,none,some (AO.cells [z' o.kd,s' o.tx,s' o.ds] 58),none,none,none,some (AO.own (Md.trie L g) (trHP L g)),some (AO.cells (AV.rens (sgN (nm5 1101 1102 1104 1105 1106) [1000,1001,1002,1003,1004] 1107) (rowV encPr LX)) 62),none,some (AO.cells (AV.rens (sgN (nmST 1110 1111) [] 0) (rowV encS l)) 18)] 1114 (((p' (Wk (b' (decide (Int.ofNat k < Int.ofNat n))) (AV.lit true))).a t').a (((p' (k.blt n = true)).a t').a (((p' (([0,1,2].all fun j => (W.cell? ((ad.add (k * 3)).add j)).isSome) = true)).a ((p' ([AV.v ((W.cell? ((ad.add (k * 3)).add 0)).getD (Value.tuple (Array.mk []))),AV.v ((W.cell? (Addr.mk (ad.add (k * 3)).block ((ad.add (k * 3)).off + 1) none)).getD (Value.tuple (Array.mk []))),AV.v ((W.cell? (Addr.mk (ad.add (k * 3)).block ((ad.add (k * 3)).off + 2) none)).getD (Value.tuple (Array.mk [])))] = [AV.v (Value.int IntKind.i64 (AV.v ((W.cell? ((ad.add (k * 3)).add 0)).getD (Value.tuple (Array.mk [])))).intOf),AV.v (Value.string (AV.v ((W.cell? (Addr.mk (ad.add (k * 3)).block ((ad.add (k * 3)).off + 1) none)).getD (Value.tuple (Array.mk [])))).strOf),AV.v (Value.string (AV.v ((W.cell? (Addr.mk (ad.add (k * 3)).block ((ad.add (k * 3)).off + 2) none)).getD (Value.tuple (Array.mk [])))).strOf)])).a ((p' (Wk (AV.agg [AV.v (Value.int IntKind.i64 (AV.v ((W.cell? ((ad.add (k * 3)).add 0)).getD (Value.tuple (Array.mk [])))).intOf),AV.v (Value.string (AV.v ((W.cell? (Addr.mk (ad.add (k * 3)).block ((ad.add (k * 3)).off + 1) none)).getD (Value.tuple (Array.mk [])))).strOf),AV.v (Value.string (AV.v ((W.cell? (Addr.mk (ad.add (k * 3)).block ((ad.add (k * 3)).off + 2) none)).getD (Value.tuple (Array.mk [])))).strOf)]) (AV.agg [z' o.kd,s' o.tx,s' o.ds]))).a t'))).a (((p' (true = true)).a t').a ((p' ((fPl,12,loopN fPl 12,lLk (slV (some ad) n c) LX L g o nL n k at_).snd.snd.fst = (fPl,12,loopN fPl 12,lLk (slV (some ad) n c) LX L g o nL n k at_).snd.snd.fst)).a ((Cnd.p True).a ((p' (VW [a',a',a',AV.ptr 1000 0,AV.slice 1001 0 nL 2 (Cp.lo nL),a',AV.ptr 1100 0,z' (Int.negSucc 0),a',a',a',a',a',a',a',a',a',a',a',AV.v (Value.slice (some ad) n c),i' n,i' k,AV.lit true,AV.v (Value.pointer (some (ad.add (k * 3)))),AV.agg [z' o.kd,s' o.tx,s' o.ds],AV.slice 1001 0 nL 2 (Cp.lo nL),z' ↑nL,i' 0,a',a',a',a',a',a',a',a',a',a',a',a',a',a',a',a',a',a',a',a',a',a',a',a',a',a',a',a',a',a',a',a',a',a',a',a',a',a',a',a',a',a',a',a',a',a',a',a',a',a',a',a',a',a',a',a',a',a',a',a',a',a',a',a',a',a',a',a',a',a',a',a',a',a',a',a',a',a',a',a',a',a',a',a',a',a',a',a',a',a',a',a',a',a',a',a',a',a',a',a',a',a',a',a',a',a'] [a',a',a',AV.ptr 1000 0,AV.slice 1001 0 nL 2 (Cp.lo nL),a',AV.ptr 1100 0,z' (Int.negSucc 0),a',a',a',a',a',a',a',a',a',a',a',AV.v (Value.slice (some ad) n c),i' n,i' k,a',a',a',a',i' nL,i' 0,a',a',a',a',a',a',a',a',a',a',a',a',a',a',a',a',a',a',a',a',a',a',a',a',a',a',a',a',a',a',a',a',a',a',a',a',a',a',a',a',a',a',a',a',a',a',a',a',a',a',a',a',a',a',a',a',a',a',a',a',a',a',a',a',a',a',a',a',a',a',a',a',a',a',a',a',a',a',a',a',a',a',a',a',a',a',a',a',a',a',a',a',a',a',a',a',a',a',a',a',a',a',a',a',a',a'])).a ((p' (OW (AO.own (Md.trie L g) (trHP L g)) (AO.own (Md.trie L g) (trHP L g)))).a ((p' (OW (AO.cells (rowV encPr LX) 62) (AO.cells (AV.rens (nm3 1000 1001 1100) (rowV encPr LX)) 62))).a ((p' (OW (AO.cells [z' o.kd,s' o.tx,s' o.ds] 58) (AO.cells [z' o.kd,s' o.tx,s' o.ds] 58))).a (((p' (true = true)).a ((p' (z' o.kd = z' o.kd)).a t')).a (((p' (Wk (z' (IntKind.i64.wrap ↑(BitVec.ofInt 64 o.kd &&& BitVec.ofInt 64 (Int.ofNat 3)).toNat)) (z' q))).a t').a (((p' (Wk (b' (q == Int.ofNat 0)) (AV.lit false))).a t').a (((p' (Wk (b' (q == Int.ofNat 1)) (AV.lit false))).a t').a (((p' (true = true)).a ((p' (s' o.tx = s' o.tx)).a t')).a (((p' (g ≤ 1500000 ∧ o.tx.size ≤ 1100000 ∧ matchA L o.tx = l)).a ((p' (VW [AV.ptr 1101 0,s' o.tx] [AV.ptr 1101 0,s' o.tx])).a ((p' (OW (AO.own (Md.trie L g) (trHP L g)) (AO.own (Md.trie L g) (trHP L g)))).a t'))).a (((p' (true = true)).a ((p' (s' o.tx = s' o.tx)).a t')).a (((p' (g ≤ 1500000 ∧ o.tx.size ≤ 1100000 ∧ matchA L o.tx = l)).a ((p' (VW [AV.ptr 1101 0,s' o.tx] [AV.ptr 1101 0,s' o.tx])).a ((p' (OW (AO.own (Md.trie L g) (trHP L g)) (AO.own (Md.trie L g) (trHP L g)))).a t'))).a (((p' (true = true)).a ((p' (s' o.tx = s' o.tx)).a t')).a (((p' (nL = List.length L ∧ matchA L o.tx = l ∧ o.tx.size ≤ 1100000)).a ((p' (VW [AV.slice 1102 0 nL 2 (Cp.lo nL),s' o.tx] [AV.slice 1102 0 nL 2 (Cp.lo nL),s' o.tx])).a ((p' (OW (AO.cells (AV.rens (sgN (nm3 1000 1001 1100) [1000,1001,1002] 1101) (rowV encPr LX)) 62) (AO.cells (AV.rens (nmA 1102) (rowV encPr LX)) 62))).a t'))).a (((p' (l.length = l.length ∧ l.length ≤ 9000000)).a ((p' (VW [AV.slice 1104 0 l.length 1 (Cp.lo l.length),AV.slice 1106 0 l.length 1 (Cp.lo l.length)] [AV.slice 1104 0 l.length 1 (Cp.lo l.length),AV.slice 1106 0 l.length 1 (Cp.lo l.length)])).a ((p' (OW (AO.cells (AV.rens (sgN (nm0 1101) [1000] 1104) (rowV encS l)) 18) (AO.cells (AV.rens (nmST 1104 1106) (rowV encS l)) 18))).a ((p' (OW (AO.cells (AV.rens (sgN (nmA 1102) [1000] 1106) (rowV encS l)) 18) (AO.cells (AV.rens (nmST 1104 1106) (rowV encS l)) 18))).a t')))).a (((p' (Wk (b' false) (AV.lit false))).a t').a ((p' ((fPl,23,loopN fPl 23,lSp (slV (some ad) n c) LX L g R l nL n k l.length).snd.snd.fst = (fPl,23,loopN fPl 23,lSp (slV (some ad) n c) LX L g R l nL n k l.length).snd.snd.fst)).a ((Cnd.p True).a ((p' (VW [a',a',a',AV.ptr 1101 0,AV.slice 1102 0 nL 2 (Cp.lo nL),a',AV.ptr 1103 0,z' at_,a',AV.slice 1104 0 l.length 1 (Cp.lo l.length),AV.slice 1105 0 l.length 1 (Cp.lo l.length),AV.slice 1106 0 l.length 1 (Cp.lo l.length),a',a',a',a',a',a',a',AV.v (Value.slice (some ad) n c),i' n,i' k,a',a',a',a',a',a',a',a',a',a',a',a',a',a',a',a',a',a',a',a',a',a',a',a',a',a',a',a',AV.ptr 1103 0,z' o.kd,z' q,AV.ptr 1101 0,AV.ptr 1103 1,s' o.tx,AV.slice 1104 0 l.length 1 (Cp.lo l.length),AV.ptr 1101 0,AV.ptr 1103 1,s' o.tx,AV.slice 1105 0 l.length 1 (Cp.lo l.length),AV.slice 1102 0 nL 2 (Cp.lo nL),AV.ptr 1103 1,s' o.tx,AV.slice 1106 0 l.length 1 (Cp.lo l.length),AV.slice 1104 0 l.length 1 (Cp.lo l.length),AV.slice 1106 0 l.length 1 (Cp.lo l.length),b' true,AV.lit false,AV.slice 1104 0 l.length 1 (Cp.lo l.length),z' ↑l.length,i' 0,a',a',a',a',a',a',a',a',a',a',a',a',a',AV.lit false,AV.lit false,a',a',a',a',a',a',a',a',a',a',a',a',a',a',a',a',a',a',a',AV.lit false,AV.lit false,a',a',a',a',a',a',a',a',a',a',a',a',a',a',a',a',a',a',a',a',a',a',a',a',a',a'] [a',a',a',AV.ptr 1101 0,AV.slice 1102 0 nL 2 (Cp.lo nL),a',a',a',a',AV.slice 1104 0 l.length 1 (Cp.lo l.length),AV.slice 1105 0 l.length 1 (Cp.lo l.length),AV.slice 1106 0 l.length 1 (Cp.lo l.length),a',a',a',a',a',a',a',AV.v (Value.slice (some ad) n c),i' n,i' k,a',a',a',a',a',a',a',a',a',a',a',a',a',a',a',a',a',a',a',a',a',a',a',a',a',a',a',a',a',a',a',a',a',a',a',a',a',a',a',a',a',a',a',a',a',a',a',a',i' l.length,i' 0,a',a',a',a',a',a',a',a',a',a',a',a',a',a',a',a',a',a',a',a',a',a',a',a',a',a',a',a',a',a',a',a',a',a',a',a',a',a',a',a',a',a',a',a',a',a',a',a',a',a',a',a',a',a',a',a',a',a',a',a',a',a'])).a ((p' (OW (AO.own (Md.trie L g) (trHP L g)) (AO.own (Md.trie L g) (trHP L g)))).a ((p' (OW (AO.cells (AV.rens (sgN (nmA 1102) [1000] 1106) (rowV encPr LX)) 62) (AO.cells (AV.rens (nm5 1101 1102 1104 1105 1106) (rowV encPr LX)) 62))).a ((p' (OW (AO.cells (AV.rens (sgN (nmST 1104 1106) [] 0) (rowV encS l)) 18) (AO.cells (AV.rens (nm5 1101 1102 1104 1105 1106) (rowV encS l)) 18))).a ((p' (OW (AO.cells (AV.rens (sgN (nm0 1101) [1000] 1105) (rowV encS l)) 18) (AO.cells (AV.rens (nm5 1101 1102 1104 1105 1106) (rowV encS l)) 18))).a ((p' (OW (AO.cells (AV.rens (sgN (nmST 1104 1106) [] 0) (rowV encS l)) 18) (AO.cells (AV.rens (nm5 1101 1102 1104 1105 1106) (rowV encS l)) 18))).a (((p' (true = true)).a ((p' (true = true)).a ((p' (true = true)).a ((p' (true = true)).a ((p' ((0 + l.length * 1).ble (AV.rens (sgN (nm5 1101 1102 1104 1105 1106) [1000,1001,1002,1003,1004] 1107) (rowV encS R)).length = true)).a ((p' (((l.length + 1) * 16).ble 140737488355328 = true)).a ((p' ((l.length + 1).ble 9223372036854775807 = true)).a ((p' ((List.take (l.length * 1) (List.drop 0 (AV.rens (sgN (nm5 1101 1102 1104 1105 1106) [1000,1001,1002,1003,1004] 1107) (rowV encS R)))).length.beq (l.length * 1) = true)).a t')))))))).a (((p' (l.length = l.length ∧ l.length ≤ 9000000)).a ((p' (VW [AV.slice 1110 0 l.length 1 (Cp.lo l.length),AV.slice 1111 0 l.length 1 (Cp.lo l.length)] [AV.slice 1110 0 l.length 1 (Cp.lo l.length),AV.slice 1111 0 l.length 1 (Cp.lo l.length)])).a ((p' (OW (AO.cells (AV.rens (sgN (nm5 1101 1102 1104 1105 1106) [1000,1001,1002,1003,1004] 1107) (rowV encS l)) 18) (AO.cells (AV.rens (nmST 1110 1111) (rowV encS l)) 18))).a ((p' (OW (AO.cells (AV.rens (sgN (nm5 1101 1102 1104 1105 1106) [1000,1001,1002,1003,1004] 1107) (rowV encS l)) 18) (AO.cells (AV.rens (nmST 1110 1111) (rowV encS l)) 18))).a t')))).a (((p' (Wk (b' false) (AV.lit false))).a t').a (((Cnd.p True).a ((p' (VW [AV.ptr 1107 0] [AV.ptr 1107 0])).a ((p' (OW (AO.own (Md.trie L g) (trHP L g)) (AO.own (Md.trie L g) (trHP L g)))).a t'))).a (((p' (Wk (b' (Int.ofNat (List.length L) != ↑nL)) (AV.lit false))).a t').a (((p' (Wk (z' (IntKind.i64.wrap (Int.ofNat k + Int.ofNat 1))) (i' (k + 1)))).a t').a t')))))))))))))))))))))))))))))))))))) := by kernel_rfl
theorem oPE_eq (W : World) (oa : Option Addr) (c : Nat) (L LX : Pairs) (g : Nat) (nL n : Nat) (F : HP) : wLoop [] (hintL [(fPl, 8, 0, hv (.lit false))]) [] W fPl (loopN fPl 8) (tms 0 134 (aPl (slV oa n c) nL n n)) (oPl L g LX) ksP [3, 4, 19, 20, 21] F = VT.leaf (AX.exit 0,[AV.ptr 1000 0,AV.slice 1001 0 nL 2 (Cp.lo nL),AV.v (Value.slice oa n c),i' n,i' n],134) [some (AO.own (Md.trie L g) (trHP L g)),some (AO.cells (rowV encPr LX) 62),none,none,none,none,none,none,none,none,none,none,none] 1100 (((p' (Wk (b' (decide (Int.ofNat n < Int.ofNat n))) (AV.lit false))).a t').a t') := by kernel_rfl
def gPl : List AV → AP (Nat × Nat) := fun tmps => match getL tmps 3 with
  | .ptr a _ => match getL tmps 4 with
    | .slice b _ _ _ _ => .ret (a, b)
    | _ => .fail "plays"
  | _ => .fail "plays"
def nmPl (a b : Nat) : Nat → Nat := fun k => match Nat.beq k 1000 with
  | true => a
  | false => b
def lPl (V : AV) (n : Nat) : List AV → AP (AX × List AV) := mkL gPl (fun _ => True) (fun q => nmPl q.1 q.2) (fun _ => tms 0 134 (aPl V 0 n 0)) (fun _ => oPl [] 1 []) (fun _ => .leaf (.exit 0) (tms 0 134 []) [])
theorem oPl_eq (W : World) (oa : Option Addr) (n c : Nat) (F : HP) : wRun [(fSpeaks, cSpk), (fNew, cNew)] (hintL [(fPl, 1, 1, hv (.lit false)), (fPl, 4, 1, hv (.lit false))]) [(fPl, 8, loopN fPl 8, lPl (slV oa n c) n)] W fPl [slV oa n c] [] [] F = VT.leaf (b' true) [] 1102 (((Cnd.p True).a ((p' (VW [] [])).a t')).a (((p' (Wk (b' false) (AV.lit false))).a t').a (((Cnd.p True).a ((p' (VW [] [])).a t')).a (((p' (Wk (b' false) (AV.lit false))).a t').a ((p' ((fPl,8,loopN fPl 8,lPl (slV oa n c) n).snd.snd.fst = (fPl,8,loopN fPl 8,lPl (slV oa n c) n).snd.snd.fst)).a ((Cnd.p True).a ((p' (VW [AV.v (Value.slice oa n c),u',b' false,AV.ptr 1100 0,AV.slice 1101 0 0 2 (Cp.ex 0),u',u',u',u',u',u',u',u',b' true,AV.lit false,AV.ptr 1100 0,AV.ptr 1100 0,AV.lit false,AV.slice 1101 0 0 2 (Cp.ex 0),AV.v (Value.slice oa n c),z' ↑n,i' 0,u',u',u',u',u',u',u',u',u',u',u',u',u',u',u',u',u',u',u',u',u',u',u',u',u',u',u',u',u',u',u',u',u',u',u',u',u',u',u',u',u',u',u',u',u',u',u',u',u',u',u',u',u',u',u',u',u',u',u',u',u',u',u',u',u',u',u',u',u',u',u',u',u',u',u',u',u',u',u',u',u',u',u',u',u',u',u',u',u',u',u',u',u',u',u',u',u',u',u',u',u',u',u',u',u',u',u',u',u',u',u',u'] [a',a',a',AV.ptr 1100 0,AV.slice 1101 0 0 2 (Cp.lo 0),a',a',a',a',a',a',a',a',a',a',a',a',a',a',AV.v (Value.slice oa n c),i' n,i' 0,a',a',a',a',a',a',a',a',a',a',a',a',a',a',a',a',a',a',a',a',a',a',a',a',a',a',a',a',a',a',a',a',a',a',a',a',a',a',a',a',a',a',a',a',a',a',a',a',a',a',a',a',a',a',a',a',a',a',a',a',a',a',a',a',a',a',a',a',a',a',a',a',a',a',a',a',a',a',a',a',a',a',a',a',a',a',a',a',a',a',a',a',a',a',a',a',a',a',a',a',a',a',a',a',a',a',a',a',a',a',a',a'])).a ((p' (OW (AO.own (Md.trie [] 1) (trHP [] 1)) (AO.own (Md.trie [] 1) (trHP [] 1)))).a ((p' (OW (AO.cells (rep [s' (ByteArray.mk (Array.mk [])),s' (ByteArray.mk (Array.mk []))] 0) 62) (AO.cells [] 62))).a t'))))))))) := by kernel_rfl
end
end Go.Proofs.YtbmoancedlbhlaaDoor.Tpc.Srt

/- Topic: TopicPlays: its inner loops. -/
set_option linter.unusedVariables false
set_option linter.unusedSimpArgs false
set_option maxRecDepth 100000
namespace Go.Proofs.YtbmoancedlbhlaaDoor.Tpc.Srt
open Go Go.RowKit Go.Proofs.YtbmoancedlbhlaaDoor.Eng Go.Proofs.YtbmoancedlbhlaaDoor.Kit
def atI (L : Pairs) (x : ByteArray × ByteArray) : Nat → Int
  | 0 => -1
  | i + 1 => if L.getD i (nil0, nil0) = x then Int.ofNat i else atI L x i
theorem atI_none {L : Pairs} {x : ByteArray × ByteArray} : ∀ {i : Nat}, (∀ j, j < i → L.getD j (nil0, nil0) ≠ x) → atI L x i = -1
  | 0, _ => rfl
  | i + 1, h => by
    rw [atI, if_neg (h i (Nat.lt_succ_self i))]
    exact atI_none fun j hj => h j (by omega)
theorem atI_some {L : Pairs} {x : ByteArray × ByteArray} {a : Nat} (ha : L.getD a (nil0, nil0) = x) (hu : ∀ j, a < j → j < L.length → L.getD j (nil0, nil0) ≠ x) : ∀ {i : Nat}, a < i → i ≤ L.length → atI L x i = Int.ofNat a
  | 0, h, _ => by cases h
  | i + 1, h, hi => by
    rw [atI]
    by_cases e : a = i
    · subst e; rw [if_pos ha]
    · rw [if_neg (hu i (by omega) (by omega))]
      exact atI_some ha hu (by omega) (by omega)
theorem get_in {L : Pairs} {i : Nat} (h : i < L.length) : L.getD i (nil0, nil0) = L[i] := by rw [List.getD_eq_getElem?_getD, List.getElem?_eq_getElem h]; rfl
theorem at_out {L : Pairs} {x : ByteArray × ByteArray} (h : x ∉ L) : atI L x L.length = -1 := atI_none fun j hj e => h (by rw [get_in hj] at e; rw [← e]; exact List.getElem_mem hj)
theorem at_in {L : Pairs} {x : ByteArray × ByteArray} (hn : L.Nodup) (h : x ∈ L) : ∃ a, a < L.length ∧ L.getD a (nil0, nil0) = x ∧ atI L x L.length = Int.ofNat a := by
  obtain ⟨a, ha, e⟩ := List.getElem_of_mem h
  refine ⟨a, ha, (get_in ha).trans e, atI_some ((get_in ha).trans e) (fun j h1 h2 e2 => ?_) ha (Nat.le_refl _)⟩
  rw [get_in h2, ← e] at e2
  have := (List.getElem_inj hn).1 e2
  omega
theorem delL_at {L : Pairs} {a : Nat} {t d : ByteArray} (hn : L.Nodup) (ha : a < L.length) (he : L.getD a (nil0, nil0) = (t, d)) : delL L t d = L.take a ++ L.drop (a + 1) := by
  have hL : L = L.take a ++ (t, d) :: L.drop (a + 1) := by
    conv => lhs; rw [← List.take_append_drop a L]
    congr 1
    rw [← he, get_in ha]
    exact List.drop_eq_getElem_cons ha
  have hn2 := hn
  rw [hL, List.nodup_append, List.nodup_cons] at hn2
  obtain ⟨_, ⟨h3, _⟩, h4⟩ := hn2
  have h5 : (t, d) ∉ L.take a := fun hm => h4 _ hm _ List.mem_cons_self rfl
  have e1 : delL L t d = delL (L.take a) t d ++ delL ((t, d) :: L.drop (a + 1)) t d := by
    conv => lhs; rw [hL]
    unfold delL
    rw [List.filter_append]
  have e2 : delL ((t, d) :: L.drop (a + 1)) t d = delL (L.drop (a + 1)) t d := by unfold delL; simp
  rw [e1, e2, delL_none h5, delL_none h3]
theorem lk_loop (V : AV) (hV : getL (tms 0 134 []) 0 = getL (tms 0 134 []) 0) (L X M : Pairs) (g : Nat) (o : OpT) (n k : Nat) (hL : L.length ≤ 9000000) (oa : Option Addr) (c : Nat) :
    LTri Tryd.prog default (loopN fPl 12) (tms 0 134 (aLk (slV oa n c) L.length n k 0 (-1))) (oLk (trO M g) (L ++ X) o) (.exit 2) (tms 0 134 (zLk (slV oa n c) L.length n k (atI L (o.tx, o.ds) L.length))) (oLk (trO M g) (L ++ X) o) := by
  refine ltri_run (W := default) (g := fPl) (b := loopN fPl 12) (σ := {j : Nat // j ≤ L.length}) 134 (fun j => aLk (slV oa n c) L.length n k j.1 (atI L (o.tx, o.ds) j.1)) (fun j => oLk (trO M g) (L ++ X) o) (.exit 2) (zLk (slV oa n c) L.length n k (atI L (o.tx, o.ds) L.length)) (oLk (trO M g) (L ++ X) o) (fun j => L.length - j.1) [1000, 1001, 1002] [3, 4, 6, 7, 19, 20, 21, 26, 27] (by intro h; cases h) (fun _ => rfl) rfl ?_ ⟨0, Nat.zero_le _⟩
  rintro ⟨j, hj⟩
  simp only
  by_cases h1 : j < L.length
  · have hw := wrap_succ j (by omega)
    have e1 : decide (Int.ofNat j < Int.ofNat L.length) = true := (nat_lt j L.length).trans (decide_eq_true h1)
    have g0 := rPr_g0 L X j h1
    have g1 := rPr_g1 L X j h1
    have g2 := rPr_l0 L X j h1
    have g3 := rPr_l1 L X j h1
    have hat : atI L (o.tx, o.ds) (j + 1) = if L.getD j (nil0, nil0) = (o.tx, o.ds) then Int.ofNat j else atI L (o.tx, o.ds) j := rfl
    generalize L.getD j (nil0, nil0) = p at *
    by_cases c1 : p.1 = o.tx
    · have d1 : (p.1.toList == o.tx.toList) = true := (bl_eq _ _).trans (decide_eq_true c1)
      by_cases c2 : p.2 = o.ds
      · have d2 : (p.2.toList == o.ds.toList) = true := (bl_eq _ _).trans (decide_eq_true c2)
        rw [if_pos (Prod.ext c1 c2)] at hat
        refine ⟨[], hLk j p true true, [], fun _ _ => noC, fun _ _ => noL, fun F => ?_⟩
        refine cast (congrArg (VAll _) (oLkH_eq (slV oa n c) (L ++ X) M g o p L.length n k j (atI L (o.tx, o.ds) j) F).symm) ⟨⟨?_, rfl, .inl ⟨rfl, ⟨j + 1, h1⟩, sub_down h1, [(1000, 1000), (1001, 1001), (1002, 1002)], by kernel_rfl, by kernel_rfl, ⟨Wk.refl _, Wk.refl _, Wk.refl _, wk_int hat.symm, Wk.refl _, Wk.refl _, Wk.refl _, Wk.refl _, Wk.refl _, trivial⟩, ⟨_, rfl, OW.refl _⟩, ⟨_, rfl, rPr_ow rfl rfl⟩, ⟨_, rfl, OW.refl _⟩, trivial⟩⟩⟩
        simp only [Cnd.holds, e1, g0, g1, g2, g3, h1, AV.strOf, sv, Nat.blt_eq, true_and, and_true]
        and_intros
        all_goals first
          | (with_reducible exact wk_int hw)
          | exact wk_litE e1
          | exact wk_litE d1
          | exact wk_litE d2 | (with_reducible first | exact trivial | exact rfl | exact Wk.refl _ | exact VW.refl _ | exact OW.refl _ | exact wk_lit _ | assumption) | exact rfl | exact Wk.refl _ | exact VW.refl _ | exact OW.refl _ | ((repeat (first | exact VW.nil | refine VW.cons (Wk.refl _) ?_ | refine VW.cons (Wk.any _) ?_ | refine VW.cons (wk_cap (Nat.le_refl _)) ?_)); done)
      · have d2 : (p.2.toList == o.ds.toList) = false := (bl_eq _ _).trans (decide_eq_false c2)
        rw [if_neg (fun e => c2 (by rw [e]))] at hat
        refine ⟨[], hLk j p true false, [], fun _ _ => noC, fun _ _ => noL, fun F => ?_⟩
        refine cast (congrArg (VAll _) (oLkM_eq (slV oa n c) (L ++ X) M g o p L.length n k j (atI L (o.tx, o.ds) j) F).symm) ⟨⟨?_, rfl, .inl ⟨rfl, ⟨j + 1, h1⟩, sub_down h1, [(1000, 1000), (1001, 1001), (1002, 1002)], by kernel_rfl, by kernel_rfl, ⟨Wk.refl _, Wk.refl _, Wk.refl _, wk_int hat.symm, Wk.refl _, Wk.refl _, Wk.refl _, Wk.refl _, Wk.refl _, trivial⟩, ⟨_, rfl, OW.refl _⟩, ⟨_, rfl, rPr_ow rfl rfl⟩, ⟨_, rfl, OW.refl _⟩, trivial⟩⟩⟩
        simp only [Cnd.holds, e1, g0, g1, g2, g3, h1, AV.strOf, sv, Nat.blt_eq, true_and, and_true]
        and_intros
        all_goals first
          | (with_reducible exact wk_int hw)
          | exact wk_litE e1
          | exact wk_litE d1
          | exact wk_litE d2 | (with_reducible first | exact trivial | exact rfl | exact Wk.refl _ | exact VW.refl _ | exact OW.refl _ | exact wk_lit _ | assumption) | exact rfl | exact Wk.refl _ | exact VW.refl _ | exact OW.refl _ | ((repeat (first | exact VW.nil | refine VW.cons (Wk.refl _) ?_ | refine VW.cons (Wk.any _) ?_ | refine VW.cons (wk_cap (Nat.le_refl _)) ?_)); done)
    · have d1 : (p.1.toList == o.tx.toList) = false := (bl_eq _ _).trans (decide_eq_false c1)
      rw [if_neg (fun e => c1 (by rw [e]))] at hat
      refine ⟨[], hLk j p false false, [], fun _ _ => noC, fun _ _ => noL, fun F => ?_⟩
      refine cast (congrArg (VAll _) (oLkN_eq (slV oa n c) (L ++ X) M g o p L.length n k j (atI L (o.tx, o.ds) j) F).symm) ⟨⟨?_, rfl, .inl ⟨rfl, ⟨j + 1, h1⟩, sub_down h1, [(1000, 1000), (1001, 1001), (1002, 1002)], by kernel_rfl, by kernel_rfl, ⟨Wk.refl _, Wk.refl _, Wk.refl _, wk_int hat.symm, Wk.refl _, Wk.refl _, Wk.refl _, Wk.refl _, Wk.refl _, trivial⟩, ⟨_, rfl, OW.refl _⟩, ⟨_, rfl, rPr_ow rfl rfl⟩, ⟨_, rfl, OW.refl _⟩, trivial⟩⟩⟩
      simp only [Cnd.holds, e1, g0, g1, g2, g3, h1, AV.strOf, sv, Nat.blt_eq, true_and, and_true]
      and_intros
      all_goals first
        | (with_reducible exact wk_int hw)
        | exact wk_litE e1
        | exact wk_litE d1 | (with_reducible first | exact trivial | exact rfl | exact Wk.refl _ | exact VW.refl _ | exact OW.refl _ | exact wk_lit _ | assumption) | exact rfl | exact Wk.refl _ | exact VW.refl _ | exact OW.refl _ | ((repeat (first | exact VW.nil | refine VW.cons (Wk.refl _) ?_ | refine VW.cons (Wk.any _) ?_ | refine VW.cons (wk_cap (Nat.le_refl _)) ?_)); done)
  · have hje : j = L.length := by omega
    subst hje
    refine ⟨[], hLkE, [], fun _ _ => noC, fun _ _ => noL, fun F => ?_⟩
    refine cast (congrArg (VAll _) (oLkE_eq (slV oa n c) (L ++ X) M g o L.length n k (atI L (o.tx, o.ds) L.length) F).symm) ⟨⟨?_, rfl, .inr ⟨rfl, [(1000, 1000), (1001, 1001), (1002, 1002)], by kernel_rfl, by kernel_rfl, ⟨Wk.refl _, Wk.refl _, Wk.refl _, Wk.refl _, Wk.refl _, Wk.refl _, Wk.refl _, trivial⟩, ⟨_, rfl, OW.refl _⟩, ⟨_, rfl, rPr_ow rfl rfl⟩, ⟨_, rfl, OW.refl _⟩, trivial⟩⟩⟩
    simp only [Cnd.holds, and_true]
    exact wk_litE ((nat_lt _ _).trans (decide_eq_false (Nat.lt_irrefl _)))
def spR (l : List ByteArray) (i : Nat) : List ByteArray := List.replicate i star ++ l.drop i
theorem spR_len (l : List ByteArray) (i : Nat) (hi : i ≤ l.length) : (spR l i).length = l.length := by unfold spR; rw [List.length_append, List.length_replicate, List.length_drop]; omega
theorem spR_set (l : List ByteArray) (i : Nat) (hi : i < l.length) : (spR l i).set i star = spR l (i + 1) := by
  unfold spR
  rw [List.set_append_right _ _ (by rw [List.length_replicate]; exact Nat.le_refl _), List.length_replicate, Nat.sub_self, List.drop_eq_getElem_cons hi, List.set_cons_zero, List.replicate_succ', List.append_assoc]
  rfl
theorem sp_loop (oa : Option Addr) (c : Nat) (L M : Pairs) (g : Nat) (l : List ByteArray) (nL n k : Nat) (hl : l.length ≤ 9000000) :
    LTri Tryd.prog default (loopN fPl 23) (tms 0 134 (aSp (slV oa n c) nL n k l.length 0)) (oSp (trO M g) L l l) (.exit 5) (tms 0 134 (zSp (slV oa n c) nL n k l.length)) (oSp (trO M g) L (spR l l.length) l) := by
  refine ltri_run (W := default) (g := fPl) (b := loopN fPl 23) (σ := {j : Nat // j ≤ l.length}) 134 (fun j => aSp (slV oa n c) nL n k l.length j.1) (fun j => oSp (trO M g) L (spR l j.1) l) (.exit 5) (zSp (slV oa n c) nL n k l.length) (oSp (trO M g) L (spR l l.length) l) (fun j => l.length - j.1) [1000, 1001, 1002, 1003, 1004] [3, 4, 9, 10, 11, 19, 20, 21, 70, 71] (by intro h; cases h) (fun _ => rfl) rfl ?_ ⟨0, Nat.zero_le _⟩
  rintro ⟨j, hj⟩
  simp only
  by_cases h1 : j < l.length
  · have hw := wrap_succ j (by omega)
    have e1 : decide (Int.ofNat j < Int.ofNat l.length) = true := (nat_lt j l.length).trans (decide_eq_true h1)
    have hlen := spR_len l j hj
    have hin := rS_in (spR l j) j (by omega)
    have hsp := rS_set (spR l j) j star (by omega)
    rw [spR_set l j h1] at hsp
    generalize spR l j = R at *
    refine ⟨[], hSp j, [], fun _ _ => noC, fun _ _ => noL, fun F => ?_⟩
    refine cast (congrArg (VAll _) (oSpR_eq (slV oa n c) L M g R l nL n k l.length j F).symm) ⟨⟨?_, rfl, .inl ⟨rfl, ⟨j + 1, h1⟩, sub_down h1, [(1000, 1000), (1001, 1001), (1002, 1002), (1003, 1003), (1004, 1004)], by kernel_rfl, by kernel_rfl, ⟨Wk.refl _, Wk.refl _, Wk.refl _, Wk.refl _, Wk.refl _, Wk.refl _, Wk.refl _, Wk.refl _, Wk.refl _, Wk.refl _, trivial⟩, ⟨_, rfl, OW.refl _⟩, ⟨_, rfl, rPr_ow rfl rfl⟩, ⟨_, rfl, rS_ow hsp rfl⟩, ⟨_, rfl, rS_ow rfl rfl⟩, ⟨_, rfl, rS_ow rfl rfl⟩, trivial⟩⟩⟩
    simp only [Cnd.holds, e1, hin, h1, Nat.blt_eq, true_and, and_true]
    and_intros
    all_goals first
      | (with_reducible exact wk_int hw)
      | exact wk_litE e1 | (with_reducible first | exact trivial | exact rfl | exact Wk.refl _ | exact VW.refl _ | exact OW.refl _ | exact wk_lit _ | assumption) | exact rfl | exact Wk.refl _ | exact VW.refl _ | exact OW.refl _ | ((repeat (first | exact VW.nil | refine VW.cons (Wk.refl _) ?_ | refine VW.cons (Wk.any _) ?_ | refine VW.cons (wk_cap (Nat.le_refl _)) ?_)); done)
  · have hje : j = l.length := by omega
    subst hje
    refine ⟨[], hSpE, [], fun _ _ => noC, fun _ _ => noL, fun F => ?_⟩
    refine cast (congrArg (VAll _) (oSpE_eq (slV oa n c) L M g (spR l l.length) l nL n k l.length F).symm) ⟨⟨?_, rfl, .inr ⟨rfl, [(1000, 1000), (1001, 1001), (1002, 1002), (1003, 1003), (1004, 1004)], by kernel_rfl, by kernel_rfl, ⟨Wk.refl _, Wk.refl _, Wk.refl _, Wk.refl _, Wk.refl _, Wk.refl _, Wk.refl _, Wk.refl _, trivial⟩, ⟨_, rfl, OW.refl _⟩, ⟨_, rfl, rPr_ow rfl rfl⟩, ⟨_, rfl, rS_ow rfl rfl⟩, ⟨_, rfl, rS_ow rfl rfl⟩, ⟨_, rfl, rS_ow rfl rfl⟩, trivial⟩⟩⟩
    simp only [Cnd.holds, and_true]
    exact wk_litE ((nat_lt _ _).trans (decide_eq_false (Nat.lt_irrefl _)))
theorem gLk_ro : ∀ args, RO (gLk args) := by
  intro args
  unfold gLk
  repeat' split
  all_goals first | exact RO.ret _ | exact RO.fail _
theorem gSp_ro : ∀ args, RO (gSp args) := by
  intro args
  unfold gSp
  repeat' split
  all_goals first | exact RO.ret _ | exact RO.fail _
theorem gPl_ro : ∀ args, RO (gPl args) := by
  intro args
  unfold gPl
  repeat' split
  all_goals first | exact RO.ret _ | exact RO.fail _
theorem gPm_ro : ∀ args, RO (gPm args) := by
  intro args
  unfold gPm
  repeat' split
  all_goals first | exact RO.ret _ | exact RO.fail _
theorem opo_cl (K : Nat → Bool) (o : OpT) : (AO.cells (vmap (encO o)) tOp).cl K := ⟨trivial, trivial, trivial, trivial⟩
theorem lLk_ok (oa : Option Addr) (c : Nat) (L X M : Pairs) (g : Nat) (o : OpT) (n k : Nat) (hL : L.length ≤ 9000000) (F : HP) : L1OK Tryd.prog F (loopN fPl 12) (lLk (slV oa n c) (L ++ X) M g o L.length n k (atI L (o.tx, o.ds) L.length)) :=
  mkL_ok (W := default) oldDef gLk_ro (fun _ _ => lk_loop .mt rfl L X M g o n k hL oa c) fun _ => by
    simp only [RT.pick]
    exact closedT rfl rfl (all_cons rfl (all_cons rfl (all_cons rfl (all_cons trivial (all_cons trivial (all_cons trivial (all_cons trivial (all_cons trivial (all_cons trivial all_nil))))))))) (all_cons trivial (all_cons (rPr_cl _ _) (all_cons (opo_cl _ _) all_nil))) (all_cons rfl (all_cons rfl (all_cons rfl (all_cons trivial (all_cons trivial (all_cons trivial (all_cons trivial all_nil))))))) (all_cons trivial (all_cons (rPr_cl _ _) (all_cons (opo_cl _ _) all_nil)))
theorem lSp_ok (oa : Option Addr) (c : Nat) (L M : Pairs) (g : Nat) (l : List ByteArray) (nL n k : Nat) (hl : l.length ≤ 9000000) (F : HP) : L1OK Tryd.prog F (loopN fPl 23) (lSp (slV oa n c) M L g (spR l l.length) l nL n k l.length) :=
  mkL_ok (W := default) oldDef gSp_ro (fun _ _ => sp_loop oa c M L g l nL n k hl) fun _ => by
    simp only [RT.pick]
    exact closedT rfl rfl (all_cons rfl (all_cons rfl (all_cons rfl (all_cons rfl (all_cons rfl (all_cons trivial (all_cons trivial (all_cons trivial (all_cons trivial (all_cons trivial all_nil)))))))))) (all_cons trivial (all_cons (rPr_cl _ _) (all_cons (rS_cl _ _) (all_cons (rS_cl _ _) (all_cons (rS_cl _ _) all_nil))))) (all_cons rfl (all_cons rfl (all_cons rfl (all_cons rfl (all_cons rfl (all_cons trivial (all_cons trivial (all_cons trivial all_nil)))))))) (all_cons trivial (all_cons (rPr_cl _ _) (all_cons (rS_cl _ _) (all_cons (rS_cl _ _) (all_cons (rS_cl _ _) all_nil)))))
theorem cRmv_ok (F : HP) : C1OK Tryd.prog F fRemove cRmv :=
  mkC_ok (W := default) oldDef (fun q => bv (inB q.2.1 q.2.2.2.1 q.2.2.2.2)) gAdd_ro (fun _ => rfl) (fun q hq => Remove_tri q.2.1 q.2.2.1 q.2.2.2.1 q.2.2.2.2 hq.1 hq.2) fun _ => ⟨rfl, rfl, ⟨rfl, trivial, trivial, trivial⟩, all_cons trivial all_nil, ⟨trivial, trivial⟩, all_cons trivial all_nil⟩
theorem cPm_ok (L X : Pairs) (l : List ByteArray) (hL : L.length ≤ 8000000) (hp : ∀ p ∈ L, p.1.size ≤ 1100000) (F : HP) : C1OK Tryd.prog F fPM (cPm L (L ++ X) l) :=
  mkC_ok (W := default) oldDef (fun _ => sB 1000 l.length) gPm_ro (fun _ => rfl) (fun q hq => by
    obtain ⟨h1, h2, h3⟩ := hq
    have := PM_tri L X q.2.1 h3 hL hp
    rw [h2, ← h1] at this
    exact this) fun q => ⟨rfl, rfl, ⟨rfl, trivial, trivial⟩, all_cons (rPr_cl _ _) all_nil, ⟨rfl, trivial⟩, all_cons (rPr_cl _ _) (all_cons (rS_cl _ _) all_nil)⟩
end Go.Proofs.YtbmoancedlbhlaaDoor.Tpc.Srt

/- Topic: TopicPlays: the script's rounds. -/
set_option linter.unusedVariables false
set_option linter.unusedSimpArgs false
set_option maxRecDepth 100000
namespace Go.Proofs.YtbmoancedlbhlaaDoor.Tpc.Srt
open Go Go.RowKit Go.Proofs.YtbmoancedlbhlaaDoor.Eng Go.Proofs.YtbmoancedlbhlaaDoor.Kit
structure InO (W : World) (oa : Option Addr) (l : List OpT) : Prop where
  here : l ≠ [] → ∃ a, oa = some a
  at_ : ∀ a, oa = some a → ∀ k, k < l.length → (([0, 1, 2].all fun j => (W.cell? ((a.add (k * 3)).add j)).isSome) = true ∧ W.cell? ((a.add (k * 3)).add 0) = some (.int .i64 (l.getD k ⟨0, nil0, nil0⟩).kd) ∧ W.cell? (Addr.mk (a.add (k * 3)).block ((a.add (k * 3)).off + 1) none) = some (.string (l.getD k ⟨0, nil0, nil0⟩).tx) ∧ W.cell? (Addr.mk (a.add (k * 3)).block ((a.add (k * 3)).off + 2) none) = some (.string (l.getD k ⟨0, nil0, nil0⟩).ds))
def wtO (o : OpT) : Nat := o.tx.size + o.ds.size + 4
theorem wtO_mem {l : List OpT} {p : OpT} (h : p ∈ l) : wtO p ≤ (l.map wtO).sum := by
  induction l with
  | nil => cases h
  | cons q l ih =>
    simp only [List.map_cons, List.sum_cons]
    rcases List.mem_cons.1 h with rfl | h
    · omega
    · have := ih h; omega
theorem wtO_len (l : List OpT) : l.length ≤ (l.map wtO).sum := by
  induction l with
  | nil => exact Nat.le_refl _
  | cons q l ih =>
    simp only [List.map_cons, List.sum_cons, List.length_cons]
    have e : wtO q = q.tx.size + q.ds.size + 4 := rfl
    omega
theorem wtO_next (l : List OpT) (k : Nat) (hk : k < l.length) : ((l.take (k + 1)).map wtO).sum = ((l.take k).map wtO).sum + wtO (l.getD k ⟨0, nil0, nil0⟩) := by
  rw [take_next l ⟨0, nil0, nil0⟩ k hk, List.map_append, List.sum_append]
  simp
theorem wtO_le (l : List OpT) (k : Nat) : ((l.take k).map wtO).sum ≤ (l.map wtO).sum := by
  conv => rhs; rw [← List.take_append_drop k l, List.map_append, List.sum_append]
  omega
def kindOf (o : OpT) : Int := IntKind.i64.wrap ↑(BitVec.ofInt 64 o.kd &&& BitVec.ofInt 64 (Int.ofNat 3)).toNat
structure PlS (l : List OpT) (z : Nat × Pairs × Nat × Pairs) : Prop where
  le : z.1 ≤ l.length
  nd : z.2.1.Nodup
  len : z.2.1.length ≤ z.1
  g : z.2.2.1 ≤ 1 + ((l.take z.1).map wtO).sum
  sz : ∀ p ∈ z.2.1, p.1.size ≤ 1100000
theorem rPr_one (M : Pairs) : (rowV encPr M).all AV.one = true := by
  rw [List.all_eq_true]
  intro x hx
  induction M with
  | nil => cases hx
  | cons p M ih =>
    have e : rowV encPr (p :: M) = [sv p.1, sv p.2] ++ rowV encPr M := by
      have := rowV_append (enc := encPr) [p] M
      rw [rowV_one] at this
      exact this
    rw [e, List.mem_append] at hx
    rcases hx with hx | hx
    · simp only [List.mem_cons, List.not_mem_nil, or_false] at hx
      rcases hx with rfl | rfl <;> rfl
    · exact ih hx
theorem sP_wk {i j n m : Nat} {σ : Nat → Nat} (hi : σ j = i) (hn : n = m) : Wk (.slice i 0 n 2 (.lo n)) ((sP j m).ren σ) := by
  subst hi hn; exact Wk.refl _
theorem pl_loop (W : World) (oa : Option Addr) (l : List OpT) (c : Nat) (hI : InO W oa l) (hwt : (l.map wtO).sum ≤ 1048576) :
    LTri Tryd.prog W (loopN fPl 8) (tms 0 134 (aPl (slV oa l.length c) 0 l.length 0)) (oPl [] 1 []) (.exit 0) (tms 0 134 []) [] := by
  refine ltri_run (W := W) (g := fPl) (b := loopN fPl 8) (σ := {z : Nat × Pairs × Nat × Pairs // PlS l z}) 134 (fun z => aPl (slV oa l.length c) z.1.2.1.length l.length z.1.1) (fun z => oPl z.1.2.1 z.1.2.2.1 (z.1.2.1 ++ z.1.2.2.2)) (.exit 0) [] [] (fun z => l.length - z.1.1) ksP [3, 4, 19, 20, 21] (by intro h; cases h) (fun _ => rfl) rfl ?_ ⟨(0, [], 1, []), Nat.zero_le _, List.nodup_nil, Nat.le_refl _, Nat.le_refl _, fun p hp => by cases hp⟩
  rintro ⟨⟨k, L, g, X⟩, hs⟩
  simp only
  by_cases h1 : k < l.length
  · obtain ⟨ad, rfl⟩ := hI.here (fun e => by rw [e] at h1; cases h1)
    obtain ⟨e0, e1, e2, e3⟩ := hI.at_ ad rfl k h1
    have hlen : L.length ≤ k := hs.len
    have hnd : L.Nodup := hs.nd
    have hg : g ≤ 1 + ((l.take k).map wtO).sum := hs.g
    have hsz : ∀ p ∈ L, p.1.size ≤ 1100000 := hs.sz
    have hn0 := wtO_len l
    have hgn := wtO_next l k h1
    have hgl := wtO_le l (k + 1)
    have hom : wtO (l.getD k ⟨0, nil0, nil0⟩) ≤ (l.map wtO).sum := wtO_mem (by
      rw [List.getD_eq_getElem?_getD, List.getElem?_eq_getElem h1]
      exact List.getElem_mem h1)
    have hw := wrap_succ k (by omega)
    have el : decide (Int.ofNat k < Int.ofNat l.length) = true := (nat_lt k l.length).trans (decide_eq_true h1)
    generalize l.getD k ⟨0, nil0, nil0⟩ = o at *
    have hwo : wtO o = o.tx.size + o.ds.size + 4 := rfl
    have hq : IntKind.i64.wrap ↑(BitVec.ofInt 64 o.kd &&& BitVec.ofInt 64 (Int.ofNat 3)).toNat = kindOf o := rfl
    generalize kindOf o = q at hq
    have s1 : o.tx.size ≤ 1100000 := by omega
    have s2 : o.ds.size ≤ 1099511627776 := by omega
    have s3 : List.length L ≤ 4611686018427387904 := by omega
    have s4 : g ≤ 1500000 := by omega
    have hdots := dots_le (s := o.tx) (Nat.le_refl _)
    have hlk := lLk_ok (some ad) c L X L g o l.length k (by omega)
    have k1 : (0 + L.length * 2).ble (rowV encPr (L ++ X)).length = true := by rw [rPr_len, List.length_append, Nat.ble_eq]; omega
    have k2 : ((L.length + 1) * 32).ble 140737488355328 = true := by rw [Nat.ble_eq]; omega
    have k3 : (L.length + 1).ble 9223372036854775807 = true := by rw [Nat.ble_eq]; omega
    have ktk : List.take (L.length * 2) (List.drop 0 (rowV encPr (L ++ X))) = rowV encPr L := by rw [List.drop_zero, rowV_take encPr_len, List.take_left' rfl]
    have k4 : (List.take (L.length * 2) (List.drop 0 (rowV encPr (L ++ X)))).length.beq (L.length * 2) = true := by rw [ktk, rPr_len]; exact Nat.beq_refl _
    by_cases hm : q ≠ 0 ∧ q ≠ 1
    · have b0 : (q == Int.ofNat 0) = false := by rw [beq_eq_false_iff_ne]; exact hm.1
      have b1 : (q == Int.ofNat 1) = false := by rw [beq_eq_false_iff_ne]; exact hm.2
      have hlast : (Int.ofNat (List.length L) != (L.length : Int)) = false := bne_self_eq_false _
      have hnew : PlS l (k + 1, L, g, X) := ⟨h1, hnd, by show L.length ≤ k + 1; omega, by show g ≤ 1 + ((l.take (k + 1)).map wtO).sum; omega, hsz⟩
      have hml : (matchA L o.tx).length ≤ L.length := by
        have x1 := sortT_len (mL L o.tx)
        have x2 := mL_len L o.tx
        exact Nat.le_trans x1 x2
      have hpm := cPm_ok L X (matchA L o.tx) (by omega) hsz
      by_cases hz : matchA L o.tx = []
      · rw [hz] at hpm
        refine ⟨[(fMatch, cMatZ), (fPM, cPm L (L ++ X) []), (fLen, cLn)], hM k o q [(fPl, 23, 0, hv (.lit false)), (fST, 1, 4, hv (.lit false)), (fST, 4, 3, hv (.lit false))], [(fPl, 12, loopN fPl 12, lLk (slV (some ad) l.length c) (L ++ X) L g o L.length l.length k (atI L (o.tx, o.ds) L.length))], fun F _ => con_cons (cMatZ_ok F) (con_cons (hpm F) (one_c (cLn_ok F))), fun F _ => one_l (hlk F), fun F => ?_⟩
        refine cast (congrArg (VAll _) (oMZ_eq W ad c L (L ++ X) g o q L.length l.length k (atI L (o.tx, o.ds) L.length) F).symm) ⟨⟨?_, rfl, .inl ⟨rfl, ⟨(k + 1, L, g, X), hnew⟩, sub_down h1, [(1000, 1101), (1001, 1102)], by kernel_rfl, by kernel_rfl, ⟨Wk.refl _, ?_, Wk.refl _, Wk.refl _, Wk.refl _, trivial⟩, ⟨_, rfl, OW.refl _⟩, ⟨_, rfl, rPr_ow (by simp only [rens_rowV]) rfl⟩, trivial⟩⟩⟩
        · simp only [Cnd.holds, rens_rowV, e0, e1, e2, e3, el, hq, b0, b1, h1, Option.getD_some, s1, s3, s4, hz, Nat.blt_eq, true_and, and_true]
          and_intros
          all_goals first
            | (with_reducible exact wk_int hw)
            | exact wk_litE hlast | (with_reducible first | exact trivial | exact rfl | exact Wk.refl _ | exact VW.refl _ | exact OW.refl _ | exact wk_lit _ | assumption) | exact rfl | exact Wk.refl _ | exact VW.refl _ | exact OW.refl _ | ((repeat (first | exact VW.nil | refine VW.cons (Wk.refl _) ?_ | refine VW.cons (Wk.any _) ?_ | refine VW.cons (wk_cap (Nat.le_refl _)) ?_)); done)
        · exact sP_wk rfl rfl
      · obtain ⟨ml, hmq⟩ : ∃ ml, matchA L o.tx = ml := ⟨_, rfl⟩
        rw [hmq] at hpm hz hml
        have hsp := lSp_ok (some ad) c L (L ++ X) g ml L.length l.length k (by omega)
        have t1 : (0 + ml.length * 1).ble (rowV encS (spR ml ml.length)).length = true := by rw [rS_len, spR_len _ _ (Nat.le_refl _), Nat.ble_eq]; omega
        have t2 : ((ml.length + 1) * 16).ble 140737488355328 = true := by rw [Nat.ble_eq]; omega
        have t3 : (ml.length + 1).ble 9223372036854775807 = true := by rw [Nat.ble_eq]; omega
        have t4 : (List.take (ml.length * 1) (List.drop 0 (rowV encS (spR ml ml.length)))).length.beq (ml.length * 1) = true := by
          rw [List.drop_zero, List.length_take, rS_len, spR_len _ _ (Nat.le_refl _), Nat.mul_one, Nat.min_self]; exact Nat.beq_refl _
        have t5 : ml.length ≤ 9000000 := by omega
        refine ⟨[(fMatch, cMatR ml ml.length), (fPM, cPm L (L ++ X) ml), (fLen, cLn), (fST, cST ml)], hM k o q [], [(fPl, 12, loopN fPl 12, lLk (slV (some ad) l.length c) (L ++ X) L g o L.length l.length k (atI L (o.tx, o.ds) L.length)), (fPl, 23, loopN fPl 23, lSp (slV (some ad) l.length c) (L ++ X) L g (spR ml ml.length) ml L.length l.length k ml.length)], fun F _ => con_cons (cMatR_ok hz F) (con_cons (hpm F) (con_cons (cLn_ok F) (one_c (cST_ok ml F)))), fun F _ => lc_cons (hlk F) (one_l (hsp F)), fun F => ?_⟩
        refine cast (congrArg (VAll _) (oMN_eq W ad c L (L ++ X) g o q L.length l.length k ml (spR ml ml.length) (atI L (o.tx, o.ds) L.length) F).symm) ⟨⟨?_, rfl, .inl ⟨rfl, ⟨(k + 1, L, g, X), hnew⟩, sub_down h1, [(1000, 1107), (1001, 1108)], by kernel_rfl, by kernel_rfl, ⟨Wk.refl _, ?_, Wk.refl _, Wk.refl _, Wk.refl _, trivial⟩, ⟨_, rfl, OW.refl _⟩, ⟨_, rfl, rPr_ow (by simp only [rens_rowV]) rfl⟩, trivial⟩⟩⟩
        · simp only [Cnd.holds, rens_rowV, e0, e1, e2, e3, el, hq, b0, b1, h1, Option.getD_some, s1, s3, s4, t1, t2, t3, t4, t5, hmq, Nat.blt_eq, true_and, and_true]
          and_intros
          all_goals first
            | (with_reducible exact wk_int hw)
            | exact wk_litE hlast | (with_reducible first | exact trivial | exact rfl | exact Wk.refl _ | exact VW.refl _ | exact OW.refl _ | exact wk_lit _ | assumption) | exact rfl | exact Wk.refl _ | exact VW.refl _ | exact OW.refl _ | ((repeat (first | exact VW.nil | refine VW.cons (Wk.refl _) ?_ | refine VW.cons (Wk.any _) ?_ | refine VW.cons (wk_cap (Nat.le_refl _)) ?_)); done)
        · exact sP_wk rfl rfl
    · by_cases hx : (o.tx, o.ds) ∈ L
      · obtain ⟨a, ha1, ha2, hat⟩ := at_in hnd hx
        rw [hat] at hlk
        have hin : inB L o.tx o.ds = true := inB_iff.2 hx
        have hadd : addL L o.tx o.ds = L := by unfold addL; rw [if_pos hin]
        have hneg : decide (Int.ofNat a < Int.ofNat 0) = false := decide_eq_false (by simp only [Int.ofNat_eq_natCast]; omega)
        have hpos : decide (Int.ofNat a ≥ Int.ofNat 0) = true := decide_eq_true (by simp only [Int.ofNat_eq_natCast]; omega)
        by_cases q0 : q = 0
        · have b0 : (q == Int.ofNat 0) = true := by rw [beq_iff_eq]; exact q0
          have hnew : PlS l (k + 1, L, g + (dots o.tx).length + 1, X) := ⟨h1, hnd, by show L.length ≤ k + 1; omega, by show g + (dots o.tx).length + 1 ≤ 1 + ((l.take (k + 1)).map wtO).sum; omega, hsz⟩
          have hlast : (Int.ofNat (List.length (addL L o.tx o.ds)) != (L.length : Int)) = false := by rw [hadd]; exact bne_self_eq_false _
          refine ⟨[(fAdd, cAdd), (fLen, cLn)], hA k o q false, [(fPl, 12, loopN fPl 12, lLk (slV (some ad) l.length c) (L ++ X) L g o L.length l.length k (Int.ofNat a))], fun F _ => con_cons (cAdd_ok F) (one_c (cLn_ok F)), fun F _ => one_l (hlk F), fun F => ?_⟩
          refine cast (congrArg (VAll _) (oA1_eq W ad c L (L ++ X) g o q L.length l.length k (Int.ofNat a) F).symm) ⟨⟨?_, rfl, .inl ⟨rfl, ⟨(k + 1, L, g + (dots o.tx).length + 1, X), hnew⟩, sub_down h1, [(1000, 1101), (1001, 1102)], by kernel_rfl, by kernel_rfl, ⟨Wk.refl _, Wk.refl _, Wk.refl _, Wk.refl _, Wk.refl _, trivial⟩, ⟨_, rfl, ?_⟩, ⟨_, rfl, rPr_ow (by simp only [rens_rowV]) rfl⟩, trivial⟩⟩⟩
          · simp only [Cnd.holds, rens_rowV, e0, e1, e2, e3, el, hq, b0, h1, Option.getD_some, s1, s2, s3, Nat.blt_eq, true_and, and_true]
            and_intros
            all_goals first
              | (with_reducible exact wk_int hw)
              | exact wk_litE (by rw [hin, hneg]; rfl)
              | exact wk_litE hneg
              | exact wk_litE hlast | (with_reducible first | exact trivial | exact rfl | exact Wk.refl _ | exact VW.refl _ | exact OW.refl _ | exact wk_lit _ | assumption) | exact rfl | exact Wk.refl _ | exact VW.refl _ | exact OW.refl _ | ((repeat (first | exact VW.nil | refine VW.cons (Wk.refl _) ?_ | refine VW.cons (Wk.any _) ?_ | refine VW.cons (wk_cap (Nat.le_refl _)) ?_)); done)
          · rw [hadd]; exact OW.refl _
        · have b0 : (q == Int.ofNat 0) = false := by rw [beq_eq_false_iff_ne]; exact q0
          by_cases q1 : q = 1
          · have b1 : (q == Int.ofNat 1) = true := by rw [beq_iff_eq]; exact q1
            have hdel := delL_at hnd ha1 ha2
            have hdn : (delL L o.tx o.ds).Nodup := hnd.filter _
            have hdl : (delL L o.tx o.ds).length + 1 = L.length := by rw [hdel, List.length_append, List.length_take, List.length_drop]; omega
            have hds : ∀ p ∈ delL L o.tx o.ds, p.1.size ≤ 1100000 := fun p hp => hsz p (List.mem_filter.1 hp).1
            have hwa := wrap_succ a (by omega)
            have i1 : (0 : Nat).ble a = true := by rw [Nat.ble_eq]; omega
            have i2 : a.ble a = true := by rw [Nat.ble_eq]; omega
            have i3 : a.ble L.length = true := by rw [Nat.ble_eq]; omega
            have i4 : (a + 1).ble L.length = true := by rw [Nat.ble_eq]; omega
            have i5 : L.length.ble L.length = true := by rw [Nat.ble_eq]; omega
            have hlast : (Int.ofNat (List.length (delL L o.tx o.ds)) != ((a + (L.length - (a + 1)) : Nat) : Int)) = false := by
              rw [show List.length (delL L o.tx o.ds) = a + (L.length - (a + 1)) from by omega]; exact bne_self_eq_false _
            by_cases hz : a + 1 = L.length
            · have hlast2 : (Int.ofNat (List.length (delL L o.tx o.ds)) != (a : Int)) = false := by
                rw [show List.length (delL L o.tx o.ds) = a from by omega]; exact bne_self_eq_false _
              have hd2 : delL L o.tx o.ds ++ (o.tx, o.ds) :: X = L ++ X := by
                rw [hdel, show L.drop (a + 1) = [] from List.drop_of_length_le (by omega), List.append_nil, List.append_cons]
                congr 1
                have := take_next L (nil0, nil0) a ha1
                rw [hz, List.take_length, ha2] at this
                exact this.symm
              have hsub : L.length - (a + 1) = 0 := by omega
              have hnew : PlS l (k + 1, delL L o.tx o.ds, g, (o.tx, o.ds) :: X) := ⟨h1, hdn, by show (delL L o.tx o.ds).length ≤ k + 1; omega, by show g ≤ 1 + ((l.take (k + 1)).map wtO).sum; omega, hds⟩
              refine ⟨[(fRemove, cRmv), (fLen, cLn)], hR k o q true [(fPl, 39, 6, hv (iv (Int.ofNat (a + 1)))), (fPl, 39, 8, h0)], [(fPl, 12, loopN fPl 12, lLk (slV (some ad) l.length c) (L ++ X) L g o L.length l.length k (Int.ofNat a))], fun F _ => con_cons (cRmv_ok F) (one_c (cLn_ok F)), fun F _ => one_l (hlk F), fun F => ?_⟩
              refine cast (congrArg (VAll _) (oRZ_eq W ad c L (L ++ X) g o q L.length l.length k a F).symm) ⟨⟨?_, rfl, .inl ⟨rfl, ⟨(k + 1, delL L o.tx o.ds, g, (o.tx, o.ds) :: X), hnew⟩, sub_down h1, [(1000, 1101), (1001, 1102)], by kernel_rfl, by kernel_rfl, ⟨Wk.refl _, ?_, Wk.refl _, Wk.refl _, Wk.refl _, trivial⟩, ⟨_, rfl, OW.refl _⟩, ⟨_, rfl, rPr_ow (by simp only [rens_rowV, hd2]) rfl⟩, trivial⟩⟩⟩
              · simp only [Cnd.holds, rens_rowV, e0, e1, e2, e3, el, hq, b0, b1, h1, Option.getD_some, s1, s3, i1, i2, i3, i4, i5, Nat.blt_eq, true_and, and_true]
                and_intros
                all_goals first
                  | (with_reducible exact wk_int hw)
                  | (with_reducible exact wk_int hwa)
                  | exact wk_litE (by rw [hin]; rfl)
                  | exact wk_litE hpos
                  | exact wk_litE hlast2
                  | exact hsub | (with_reducible first | exact trivial | exact rfl | exact Wk.refl _ | exact VW.refl _ | exact OW.refl _ | exact wk_lit _ | assumption) | exact rfl | exact Wk.refl _ | exact VW.refl _ | exact OW.refl _ | ((repeat (first | exact VW.nil | refine VW.cons (Wk.refl _) ?_ | refine VW.cons (Wk.any _) ?_ | refine VW.cons (wk_cap (Nat.le_refl _)) ?_)); done)
              · exact wk_capE rfl (show a = (delL L o.tx o.ds).length by omega) (show (delL L o.tx o.ds).length ≤ a by omega)
            · have i6 : (0 : Nat).blt (L.length - (a + 1)) = true := by rw [Nat.blt_eq]; omega
              have hsp1 : List.take (a * 2) (List.drop 0 (rowV encPr (L ++ X))) = rowV encPr (L.take a) := by
                rw [List.drop_zero, rowV_take encPr_len, List.take_append_of_le_length (by omega)]
              have hsp2 : List.take ((L.length - (a + 1)) * 2) (List.drop (0 + (a + 1) * 2) (rowV encPr (L ++ X))) = rowV encPr (L.drop (a + 1)) := by
                rw [Nat.zero_add, rowV_drop encPr_len, rowV_take encPr_len, List.drop_append_of_le_length (by omega), List.take_left' (by rw [List.length_drop])]
              have j1 : (L.length - (a + 1)).ble (L.length - (a + 1)) = true := by rw [Nat.ble_eq]; omega
              have j2 : (rowV encPr (L.drop (a + 1))).length.beq ((L.length - (a + 1)) * 2) = true := by rw [rPr_len, List.length_drop]; exact Nat.beq_refl _
              have j3 := rPr_one (L.drop (a + 1))
              have j4 : (rowV encPr (L.take a)).length.beq (a * 2) = true := by rw [rPr_len, List.length_take, Nat.min_eq_left (by omega)]; exact Nat.beq_refl _
              have j5 : (0 + a * 2).ble (rowV encPr (L ++ X)).length = true := by rw [rPr_len, List.length_append, Nat.ble_eq]; omega
              have j6 : ((a + (L.length - (a + 1))) * 32).ble 140737488355328 = true := by rw [Nat.ble_eq]; omega
              have j7 : (a + (L.length - (a + 1))).ble 9223372036854775807 = true := by rw [Nat.ble_eq]; omega
              have j8 : a < a + (L.length - (a + 1)) := by omega
              have hnew : PlS l (k + 1, delL L o.tx o.ds, g, []) := ⟨h1, hdn, by show (delL L o.tx o.ds).length ≤ k + 1; omega, by show g ≤ 1 + ((l.take (k + 1)).map wtO).sum; omega, hds⟩
              refine ⟨[(fRemove, cRmv), (fLen, cLn)], hR k o q true [(fPl, 39, 6, hv (iv (Int.ofNat (a + 1))))], [(fPl, 12, loopN fPl 12, lLk (slV (some ad) l.length c) (L ++ X) L g o L.length l.length k (Int.ofNat a))], fun F _ => con_cons (cRmv_ok F) (one_c (cLn_ok F)), fun F _ => one_l (hlk F), fun F => ?_⟩
              refine cast (congrArg (VAll _) (oRN_eq W ad c L (L ++ X) g o q L.length l.length k a F).symm) ⟨⟨?_, rfl, .inl ⟨rfl, ⟨(k + 1, delL L o.tx o.ds, g, []), hnew⟩, sub_down h1, [(1000, 1101), (1001, 1104)], by kernel_rfl, by kernel_rfl, ⟨Wk.refl _, ?_, Wk.refl _, Wk.refl _, Wk.refl _, trivial⟩, ⟨_, rfl, OW.refl _⟩, ⟨_, rfl, rPr_ow ?_ rfl⟩, trivial⟩⟩⟩
              · simp only [Cnd.holds, rens_rowV, e0, e1, e2, e3, el, hq, b0, b1, h1, Option.getD_some, s1, s3, i1, i2, i3, i4, i5, i6, hsp1, hsp2, j1, j2, j3, j4, j5, j6, j7, j8, Nat.blt_eq, true_and, and_true]
                and_intros
                all_goals first
                  | (with_reducible exact wk_int hw)
                  | (with_reducible exact wk_int hwa)
                  | exact wk_litE (by rw [hin]; rfl)
                  | exact wk_litE hpos
                  | exact wk_litE hlast | (with_reducible first | exact trivial | exact rfl | exact Wk.refl _ | exact VW.refl _ | exact OW.refl _ | exact wk_lit _ | assumption) | exact rfl | exact Wk.refl _ | exact VW.refl _ | exact OW.refl _ | ((repeat (first | exact VW.nil | refine VW.cons (Wk.refl _) ?_ | refine VW.cons (Wk.any _) ?_ | refine VW.cons (wk_cap (Nat.le_refl _)) ?_)); done)
              · exact sP_wk rfl (show a + (L.length - (a + 1)) = (delL L o.tx o.ds).length by omega)
              · simp only [rens_rowV]
                rw [hsp1, hsp2, List.append_nil, hdel, rowV_append]
          · exact absurd ⟨q0, q1⟩ hm
      · have hat := at_out hx
        rw [hat] at hlk
        have hin : inB L o.tx o.ds = false := by
          cases h : inB L o.tx o.ds with
          | true => exact absurd (inB_iff.1 h) hx
          | false => rfl
        have hneg : decide ((-1 : Int) < Int.ofNat 0) = true := rfl
        have hpos : decide ((-1 : Int) ≥ Int.ofNat 0) = false := rfl
        by_cases q0 : q = 0
        · have b0 : (q == Int.ofNat 0) = true := by rw [beq_iff_eq]; exact q0
          have hadd : addL L o.tx o.ds = L ++ [(o.tx, o.ds)] := by unfold addL; rw [if_neg (by rw [hin]; simp)]
          have hll : (addL L o.tx o.ds).length = L.length + 1 := by rw [hadd, List.length_append]; rfl
          have hnew : PlS l (k + 1, addL L o.tx o.ds, g + (dots o.tx).length + 1, []) := ⟨h1, addL_nd hnd, by show (addL L o.tx o.ds).length ≤ k + 1; omega, by show g + (dots o.tx).length + 1 ≤ 1 + ((l.take (k + 1)).map wtO).sum; omega, fun p hp => ((addL_mem p).1 hp).elim (hsz p) fun e => e ▸ s1⟩
          have hlast : (Int.ofNat (List.length (addL L o.tx o.ds)) != ((L.length + 1 : Nat) : Int)) = false := by rw [hll]; exact bne_self_eq_false _
          refine ⟨[(fAdd, cAdd), (fLen, cLn)], hA k o q true, [(fPl, 12, loopN fPl 12, lLk (slV (some ad) l.length c) (L ++ X) L g o L.length l.length k (-1))], fun F _ => con_cons (cAdd_ok F) (one_c (cLn_ok F)), fun F _ => one_l (hlk F), fun F => ?_⟩
          refine cast (congrArg (VAll _) (oA0_eq W ad c L (L ++ X) g o q L.length l.length k (-1) F).symm) ⟨⟨?_, rfl, .inl ⟨rfl, ⟨(k + 1, addL L o.tx o.ds, g + (dots o.tx).length + 1, []), hnew⟩, sub_down h1, [(1000, 1101), (1001, 1105)], by kernel_rfl, by kernel_rfl, ⟨Wk.refl _, ?_, Wk.refl _, Wk.refl _, Wk.refl _, trivial⟩, ⟨_, rfl, OW.refl _⟩, ⟨_, rfl, rPr_ow ?_ rfl⟩, trivial⟩⟩⟩
          · simp only [Cnd.holds, rens_rowV, e0, e1, e2, e3, el, hq, b0, h1, Option.getD_some, s1, s2, s3, k1, k2, k3, k4, Nat.blt_eq, true_and, and_true]
            and_intros
            all_goals first
              | (with_reducible exact wk_int hw)
              | exact wk_litE (by rw [hin]; rfl)
              | exact wk_litE hneg
              | exact wk_litE hlast | (with_reducible first | exact trivial | exact rfl | exact Wk.refl _ | exact VW.refl _ | exact OW.refl _ | exact wk_lit _ | assumption) | exact rfl | exact Wk.refl _ | exact VW.refl _ | exact OW.refl _ | ((repeat (first | exact VW.nil | refine VW.cons (Wk.refl _) ?_ | refine VW.cons (Wk.any _) ?_ | refine VW.cons (wk_cap (Nat.le_refl _)) ?_)); done)
          · exact sP_wk rfl hll.symm
          · simp only [rens_rowV]
            rw [ktk, List.append_nil, hadd, rowV_append, rowV_one]; rfl
        · have b0 : (q == Int.ofNat 0) = false := by rw [beq_eq_false_iff_ne]; exact q0
          by_cases q1 : q = 1
          · have b1 : (q == Int.ofNat 1) = true := by rw [beq_iff_eq]; exact q1
            have hdel : delL L o.tx o.ds = L := delL_none hx
            have hnew : PlS l (k + 1, L, g, X) := ⟨h1, hnd, by show L.length ≤ k + 1; omega, by show g ≤ 1 + ((l.take (k + 1)).map wtO).sum; omega, hsz⟩
            have hlast : (Int.ofNat (List.length (delL L o.tx o.ds)) != (L.length : Int)) = false := by rw [hdel]; exact bne_self_eq_false _
            refine ⟨[(fRemove, cRmv), (fLen, cLn)], hR k o q false [], [(fPl, 12, loopN fPl 12, lLk (slV (some ad) l.length c) (L ++ X) L g o L.length l.length k (-1))], fun F _ => con_cons (cRmv_ok F) (one_c (cLn_ok F)), fun F _ => one_l (hlk F), fun F => ?_⟩
            refine cast (congrArg (VAll _) (oR0_eq W ad c L (L ++ X) g o q L.length l.length k (-1) F).symm) ⟨⟨?_, rfl, .inl ⟨rfl, ⟨(k + 1, L, g, X), hnew⟩, sub_down h1, [(1000, 1101), (1001, 1102)], by kernel_rfl, by kernel_rfl, ⟨Wk.refl _, Wk.refl _, Wk.refl _, Wk.refl _, Wk.refl _, trivial⟩, ⟨_, rfl, ?_⟩, ⟨_, rfl, rPr_ow (by simp only [rens_rowV]) rfl⟩, trivial⟩⟩⟩
            · simp only [Cnd.holds, rens_rowV, e0, e1, e2, e3, el, hq, b0, b1, h1, Option.getD_some, s1, s3, Nat.blt_eq, true_and, and_true]
              and_intros
              all_goals first
                | (with_reducible exact wk_int hw)
                | exact wk_litE (by rw [hin]; rfl)
                | exact wk_litE hpos
                | exact wk_litE hlast | (with_reducible first | exact trivial | exact rfl | exact Wk.refl _ | exact VW.refl _ | exact OW.refl _ | exact wk_lit _ | assumption) | exact rfl | exact Wk.refl _ | exact VW.refl _ | exact OW.refl _ | ((repeat (first | exact VW.nil | refine VW.cons (Wk.refl _) ?_ | refine VW.cons (Wk.any _) ?_ | refine VW.cons (wk_cap (Nat.le_refl _)) ?_)); done)
            · rw [hdel]; exact OW.refl _
          · exact absurd ⟨q0, q1⟩ hm
  · have hje : k = l.length := by have := hs.le; simp only at this; omega
    subst hje
    refine ⟨[], hintL [(fPl, 8, 0, hv (.lit false))], [], fun _ _ => noC, fun _ _ => noL, fun F => ?_⟩
    refine cast (congrArg (VAll _) (oPE_eq W oa c L (L ++ X) g L.length l.length F).symm) ⟨⟨?_, rfl, .inr ⟨rfl, [], by kernel_rfl, by kernel_rfl, trivial, trivial⟩⟩⟩
    simp only [Cnd.holds, and_true]
    exact wk_litE ((nat_lt _ _).trans (decide_eq_false (Nat.lt_irrefl _)))
end Go.Proofs.YtbmoancedlbhlaaDoor.Tpc.Srt

/- Rows of records, as cells. No program. -/
set_option linter.unusedVariables false
set_option linter.unusedSimpArgs false
namespace Go.Proofs.YtbmoancedlbhlaaDoor
open Go

theorem pieces_get {α : Type} {f : α → List Value} {m : Nat} (hf : ∀ x, (f x).length = m) : ∀ (l : List α) (k j : Nat) (h : k < l.length), j < m → (l.flatMap f)[k * m + j]? = (f l[k])[j]?
  | [], _, _, h, _ => by simp at h
  | x :: l, 0, j, _, hj => by
    rw [List.flatMap_cons, Nat.zero_mul, Nat.zero_add, List.getElem?_append_left (by rw [hf]; exact hj)]
    rfl
  | x :: l, k + 1, j, h, hj => by
    rw [List.flatMap_cons, List.getElem?_append_right (by rw [hf, Nat.add_mul]; omega), hf, show (k + 1) * m + j - m = k * m + j from by rw [Nat.add_mul]; omega]
    exact pieces_get hf l k j (by simpa using h) hj
theorem pieces_length {α : Type} {f : α → List Value} {m : Nat} (hf : ∀ x, (f x).length = m) (l : List α) : (l.flatMap f).length = l.length * m := by
  induction l with
  | nil => simp
  | cons p l ih => simp only [List.flatMap_cons, List.length_append, hf, List.length_cons, ih, Nat.add_mul]; omega
end Go.Proofs.YtbmoancedlbhlaaDoor

/- A slice of structs that comes in, whatever its struct: its cells, read as a list of plain records. -/
set_option linter.unusedVariables false
set_option linter.unusedSimpArgs false
namespace Go.Proofs.YtbmoancedlbhlaaDoor
open Go.ChangeShapes Go.WideShapes Go.RowKit Go.Deep
section
variable {H : Type} {enc : TypeId × Value → H} {P : Program} {w : World} {base : Nat} {spare : Nat → Bool} {held : Bool}
def Light (P : Program) (t : TypeId) (d : DataW H) : Prop := ∀ n ∈ d.weights P t, n ≤ reachBytes
theorem Light.len {t e : TypeId} {elems sp : List (DataW H)} (hu : P.underlying t = some (.slice e)) (h : Light P t (.slice elems sp)) : (elems.length + sp.length) * P.bytesOf e ≤ reachBytes :=
  h _ (by simp only [DataW.weights, hu, List.mem_cons, true_or])
theorem Light.field {t : TypeId} {fs : Array Field} {parts : List (DataW H)} (hu : P.underlying t = some (.struct fs)) (h : Light P t (.agg parts)) {i : Nat} {f : Field} {d : DataW H} (hf : fs[i]? = some f) (hp : parts[i]? = some d) : Light P f.type d := fun n hn => by
  refine h n ?_
  simp only [DataW.weights, hu]
  exact DataW.weights_mem_each (j := i) (by simp [hf]) hp n hn
end
end Go.Proofs.YtbmoancedlbhlaaDoor

/- What the bound of the second form gives. -/
set_option linter.unusedVariables false
set_option linter.unusedSimpArgs false
namespace Go.Proofs.YtbmoancedlbhlaaDoor.Upto
open Go.ChangeShapes Go.WideShapes Go.RowKit Go.Deep
theorem one_le {H : Type} (d : DataW H) : 1 ≤ Rows.uptoBulk d := by
  cases d with
  | lit l => cases l <;> simp [Rows.uptoBulk]
  | nil => simp [Rows.uptoBulk]
  | ptr d => simp [Rows.uptoBulk]
  | slice elems spare => simp [Rows.uptoBulk]
  | agg parts => simp [Rows.uptoBulk]
  | iface t d => simp [Rows.uptoBulk]
  | map entries => simp [Rows.uptoBulk]
  | held h => simp [Rows.uptoBulk]
theorem length_le {H : Type} (l : List (DataW H)) : l.length ≤ Rows.uptoBulkAll l := by
  induction l with
  | nil => simp [Rows.uptoBulkAll]
  | cons x r ih => have := one_le x; simp only [Rows.uptoBulkAll, List.length_cons]; omega
theorem slice_elems {H : Type} (elems spare : List (DataW H)) : Rows.uptoBulkAll elems + 1 ≤ Rows.uptoBulk (.slice elems spare) := by
  simp only [Rows.uptoBulk]
  omega
theorem string_eq {H : Type} (bytes : List UInt8) : Rows.uptoBulk (DataW.lit (H := H) (.string bytes)) = bytes.length + 1 := by
  simp [Rows.uptoBulk]
theorem bound {H : Type} {l : List (DataW H)} (hk : Rows.uptoSmall H l = true) : Rows.uptoBulkAll l ≤ 1048576 := of_decide_eq_true hk
theorem int_eq {H : Type} (k : IntKind) (n : Int) : Rows.uptoBulk (DataW.lit (H := H) (.int k n)) = 1 := by simp [Rows.uptoBulk]
theorem len_data (s : ByteArray) : s.data.toList.length = s.size := rfl
theorem sum_bulk {H α : Type} (wt : α → Nat) : ∀ (l : List α) (ds : List (DataW H)), l.length = ds.length → (∀ (i : Nat) (p : α) (d : DataW H), l[i]? = some p → ds[i]? = some d → wt p ≤ Rows.uptoBulk d) → (l.map wt).sum ≤ Rows.uptoBulkAll ds
  | [], [], _, _ => Nat.zero_le _
  | [], _ :: _, h, _ => by cases h
  | _ :: _, [], h, _ => by cases h
  | p :: l, d :: ds, h, hw => by
    have h1 := hw 0 p d rfl rfl
    have h2 := sum_bulk wt l ds (by simpa using h) fun i q e hq he => hw (i + 1) q e hq he
    simp only [List.map_cons, List.sum_cons, Rows.uptoBulkAll]
    omega
theorem open_rdU {H : Type} {enc : TypeId × Value → H} {P : Program} {w : World} {base : Nat} {spare : Nat → Bool} {held : Bool} {α : Type} (f : α → List Value) {size : Nat} (h0 : 0 < size) (hf : ∀ x, (f x).length = size) {t e : TypeId} (ht : P.underlying t = some (.slice e)) (hC : P.cellsOf e = size)
    {Q : α → Prop} (wt : α → Nat) (hopen : ∀ (n : Nat) (cs : List Value) (x : DataW H × List MemPlace), DataW.trod enc P w base spare held n e cs = some x → ∃ p : α, cs = f p ∧ Q p ∧ wt p ≤ Rows.uptoBulk x.1)
    {fuel : Nat} {A : Option Addr} {len cap : Nat} {x : DataW H × List MemPlace} (h : DataW.trod enc P w base spare held fuel t [.slice A len cap] = some x) :
    ∃ l : List α, l.length = len ∧ Rd w A len size (l.flatMap f) ∧ (∀ p ∈ l, Q p) ∧ (l.map wt).sum + 1 ≤ Rows.uptoBulk x.1 := by
  rcases open_slice ht h with ⟨hcs, _⟩ | ⟨a, len', cap', m, n, D, Pl, hcs, hb, hl, hm, hmm, hx, hi⟩
  · simp only [List.cons.injEq, Value.slice.injEq, and_true] at hcs
    obtain ⟨rfl, rfl, rfl⟩ := hcs
    exact ⟨[], rfl, Rd.nil _, (fun p hp => by cases hp), one_le x.1⟩
  · simp only [List.cons.injEq, Value.slice.injEq, and_true] at hcs
    obtain ⟨rfl, rfl, rfl⟩ := hcs
    have hlm : len ≤ m := by rw [hmm]; split <;> omega
    have hall : ∀ i : Fin len, ∃ p : α, Q p ∧ wt p ≤ Rows.uptoBulk (D i.1) ∧ ∀ j u, (f p)[j]? = some u → w.cell? (a.add (i.1 * size + j)) = some u := fun i => by
      obtain ⟨cs', hc, ht'⟩ := hi i.1 (by omega)
      obtain ⟨p, rfl, hq, hwt⟩ := hopen _ _ _ ht'
      refine ⟨p, hq, hwt, fun j u hu => ?_⟩
      obtain ⟨_, hcl, hat⟩ := World.cells?_some hc
      have hj : j < P.cellsOf e := by rw [hC, ← hf p]; exact (List.getElem?_eq_some_iff.1 hu).1
      rw [← hu, ← hat j hj, hC, add_add']
    obtain ⟨g, hg⟩ := Classical.axiomOfChoice hall
    refine ⟨List.ofFn g, by simp, ?_, fun p hp => ?_, ?_⟩
    rotate_left
    · obtain ⟨i, rfl⟩ := List.mem_ofFn.1 hp
      exact (hg i).1
    · rw [hx]
      refine Nat.le_trans (Nat.succ_le_succ ?_) (slice_elems _ _)
      refine sum_bulk wt _ _ (by simp) fun i p d hp hd => ?_
      rw [List.getElem?_ofFn] at hp
      split at hp
      · rename_i hlt
        rw [List.getElem?_map, List.getElem?_range hlt] at hd
        cases hp
        have hd := Option.some.inj hd
        rw [← hd]
        exact (hg ⟨i, hlt⟩).2.1
      · cases hp
    refine ⟨by rw [pieces_length hf]; simp, fun _ => ⟨a, rfl⟩, fun ad he j u hu => ?_⟩
    obtain rfl := Option.some.inj he
    have hj : j < len * size := by
      have := (List.getElem?_eq_some_iff.1 hu).1
      rw [pieces_length hf] at this
      simpa using this
    have hq : j / size < len := by rw [Nat.div_lt_iff_lt_mul h0]; exact hj
    have hd : j / size * size + j % size = j := by rw [Nat.mul_comm]; exact Nat.div_add_mod j size
    have hk : j / size < (List.ofFn g).length := by simpa using hq
    have hp := pieces_get hf (List.ofFn g) (j / size) (j % size) hk (Nat.mod_lt _ h0)
    rw [hd, hu] at hp
    have := (hg ⟨j / size, hq⟩).2.2 (j % size) u (by rw [hp]; simp)
    rwa [hd] at this
end Go.Proofs.YtbmoancedlbhlaaDoor.Upto

/- Topic: a list of pairs that comes in. -/
set_option linter.unusedVariables false
set_option linter.unusedSimpArgs false
set_option maxRecDepth 100000
namespace Go.Proofs.YtbmoancedlbhlaaDoor
open Go.ChangeShapes Go.WideShapes Go.RowKit Go.Deep
namespace Tpc
open Go.Proofs.YtbmoancedlbhlaaDoor.Eng Go.Proofs.YtbmoancedlbhlaaDoor.Kit
def encPr (p : ByteArray × ByteArray) : List Value := [.string p.1, .string p.2]
theorem encPr_len (x : ByteArray × ByteArray) : (encPr x).length = 2 := rfl
section
variable {H : Type} {encD : TypeId × Value → H} {w : World} {base : Nat} {spare : Nat → Bool} {held : Bool}
end
end Tpc
end Go.Proofs.YtbmoancedlbhlaaDoor

/- Topic: TopicPlays. -/
set_option linter.unusedVariables false
set_option linter.unusedSimpArgs false
set_option maxRecDepth 100000
namespace Go.Proofs.YtbmoancedlbhlaaDoor.Tpc.Srt
open Go Go.RowKit Go.Proofs.YtbmoancedlbhlaaDoor.Eng Go.Proofs.YtbmoancedlbhlaaDoor.Kit
theorem lPl_ok (W : World) (oa : Option Addr) (l : List OpT) (c : Nat) (hI : InO W oa l) (hwt : (l.map wtO).sum ≤ 1048576) (F : HP) (hF : OldOK W F) : L1OK Tryd.prog F (loopN fPl 8) (lPl (slV oa l.length c) l.length) :=
  mkL_ok hF gPl_ro (fun _ _ => pl_loop W oa l c hI hwt) fun _ => by
    simp only [RT.pick]
    exact closedT rfl rfl (all_cons rfl (all_cons rfl (all_cons trivial (all_cons trivial (all_cons trivial all_nil))))) (all_cons trivial (all_cons (rPr_cl _ _) all_nil)) all_nil all_nil
theorem Plays_tri (W : World) (oa : Option Addr) (l : List OpT) (c : Nat) (hI : InO W oa l) (hwt : (l.map wtO).sum ≤ 1048576) : Tri Tryd.prog W fPl [slV oa l.length c] [] (bv true) [] := by
  refine tri_run (con := [(fSpeaks, cSpk), (fNew, cNew)]) (hints := hintL [(fPl, 1, 1, hv (.lit false)), (fPl, 4, 1, hv (.lit false))]) (lc := [(fPl, 8, loopN fPl 8, lPl (slV oa l.length c) l.length)]) [] rfl (fun F _ => con_cons (cSpk_ok F) (one_c (cNew_ok F))) (fun F hF => one_l (lPl_ok W oa l c hI hwt F hF)) fun F => ?_
  refine cast (congrArg (VAll _) (oPl_eq W oa l.length c F).symm) ⟨⟨?_, (fit_mk (vs' := [bv true]) (H' := []) [] rfl rfl (VW.refl _) trivial).fits rfl⟩⟩
  simp only [Cnd.holds, Nat.blt_eq, true_and, and_true]
  and_intros
  all_goals first | (with_reducible first | exact trivial | exact rfl | exact Wk.refl _ | exact VW.refl _ | exact OW.refl _ | exact wk_lit _ | assumption) | exact rfl | exact Wk.refl _ | exact VW.refl _ | exact OW.refl _ | ((repeat (first | exact VW.nil | refine VW.cons (Wk.refl _) ?_ | refine VW.cons (Wk.any _) ?_ | refine VW.cons (wk_cap (Nat.le_refl _)) ?_)); done)
theorem encO_len (x : OpT) : (encO x).length = 3 := rfl
section
open Go.ChangeShapes Go.WideShapes Go.RowKit Go.Deep
variable {H : Type} {encD : TypeId × Value → H} {w : World} {base : Nat} {spare : Nat → Bool} {held : Bool}
theorem cells_opt {fuel : Nat} {cs : List Value} {x : DataW H × List MemPlace} (h : DataW.trod encD Tryd.prog w base spare held fuel 29 cs = some x) : ∃ p : OpT, cs = encO p ∧ True ∧ wtO p ≤ Rows.uptoBulk x.1 := by
  obtain ⟨ys, n, _, rfl, hlen, hyl, hf⟩ := DataW.trod_struct Tryd.underlying29 h
  have zS : Tryd.prog.cellsOf 9 = 1 := by kernel_rfl
  have zI : Tryd.prog.cellsOf 3 = 1 := by kernel_rfl
  match cs, hlen.trans (by kernel_rfl : Tryd.prog.cellsOf 29 = 3) with
  | [c0, c1, c2], _ =>
    match ys, hyl with
    | [y0, y1, y2], _ =>
      obtain ⟨a0, e0, x0, b0⟩ := DataW.trod_int Tryd.underlying3 (by simpa [zS, zI] using hf 0 _ rfl : DataW.trod encD Tryd.prog w base spare held n 3 [c0] = some y0)
      obtain rfl := (List.cons.inj e0).1
      obtain ⟨a1, e1, x1, b1⟩ := DataW.trod_string Tryd.underlying9 (by simpa [zS, zI] using hf 1 _ rfl : DataW.trod encD Tryd.prog w base spare held n 9 [c1] = some y1)
      obtain rfl := (List.cons.inj e1).1
      obtain ⟨a2, e2, x2, b2⟩ := DataW.trod_string Tryd.underlying9 (by simpa [zS, zI] using hf 2 _ rfl : DataW.trod encD Tryd.prog w base spare held n 9 [c2] = some y2)
      obtain rfl := (List.cons.inj e2).1
      refine ⟨⟨a0, a1, a2⟩, rfl, trivial, ?_⟩
      simp only [List.map_cons, List.map_nil, Rows.uptoBulk, Rows.uptoBulkAll, x0, x1, x2]
      have z0 : a1.data.toList.length = a1.size := rfl
      have z1 : a2.data.toList.length = a2.size := rfl
      have zw : wtO ⟨a0, a1, a2⟩ = a1.size + a2.size + 4 := rfl
      rw [zw, ← z0, ← z1]
      omega
theorem inO_of_rd {W : World} {A : Option Addr} {l : List OpT} (h : Rd W A l.length 3 (l.flatMap encO)) : InO W A l := by
  refine ⟨fun hne => h.here (by cases l with | nil => exact absurd rfl hne | cons x l => simp), fun a ha k hk => ?_⟩
  have hc : ∀ j (v : Value), j < 3 → (encO (l.getD k ⟨0, nil0, nil0⟩))[j]? = some v → W.cell? ((a.add (k * 3)).add j) = some v := by
    intro j v hj hv
    rw [add_add']
    refine h.cells a ha _ _ ?_
    rw [Go.Proofs.YtbmoancedlbhlaaDoor.pieces_get encO_len l k j hk hj, ← hv]
    congr 2
    simp [List.getD, List.getElem?_eq_getElem hk]
  have e0 := hc 0 _ (by decide) rfl
  have e1 := hc 1 _ (by decide) rfl
  have e2 := hc 2 _ (by decide) rfl
  exact ⟨by simp [List.all, e0, e1, e2], e0, e1, e2⟩
end
end Go.Proofs.YtbmoancedlbhlaaDoor.Tpc.Srt

