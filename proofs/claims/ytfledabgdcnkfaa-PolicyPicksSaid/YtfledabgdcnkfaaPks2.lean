/- For every list of policies and every name: the policy that counts is told as the document says, whatever the order. -/
import Derived.Test.YtfledabgdcnkfaaPks1
import Derived.Test.YtfledabgdcnkfaaOpenPol
import Derived.ProofKit
import Derived.OpenShut
import Derived.ShutString
import Derived.Carry
import Derived.SizedLaws
/- PolicyPicks: every call answers true. -/
set_option linter.unusedVariables false
set_option linter.unusedSimpArgs false
set_option maxRecDepth 100000
namespace Go.Proofs.Ytfledabgdcnkfaa.Pk
open Go Go.RowKit Go.Proofs.Ytfledabgdcnkfaa.Eng Go.Proofs.Ytfledabgdcnkfaa.Kit Go.Proofs.Ytfledabgdcnkfaa.Pol
theorem least {p : Nat → Prop} {n : Nat} (h : p n) : ∃ m, m ≤ n ∧ p m ∧ ∀ k, k < m → ¬ p k := by
  induction n using Nat.strongRecOn with
  | ind n ih =>
    by_cases e : ∃ k, k < n ∧ p k
    · obtain ⟨k, hk, hp⟩ := e
      obtain ⟨m, h1, h2, h3⟩ := ih k hk hp
      exact ⟨m, by omega, h2, h3⟩
    · exact ⟨n, Nat.le_refl _, h, fun k hk hp => e ⟨k, hk, hp⟩⟩
theorem dup_or (l : List Pol) : (∀ i, i < l.length → NoDup l i) ∨ ∃ i0 j, i0 < l.length ∧ Dup l i0 j ∧ ∀ i, i < i0 → NoDup l i := by
  by_cases h : ∃ i, i < l.length ∧ ¬ NoDup l i
  · obtain ⟨i, hi, hn⟩ := h
    obtain ⟨i0, h1, h2, h3⟩ := least (p := fun i => ¬ NoDup l i) hn
    right
    have h4 : ∃ k, k < i0 ∧ sameNR (l.getD k Pol.zero) (l.getD i0 Pol.zero) = true := by
      apply Classical.byContradiction
      intro hno
      refine h2 fun k hk => ?_
      cases hs : sameNR (l.getD k Pol.zero) (l.getD i0 Pol.zero) with
      | false => rfl
      | true => exact absurd ⟨k, hk, hs⟩ hno
    obtain ⟨k, hk, hs⟩ := h4
    obtain ⟨j, g1, g2, g3⟩ := least (p := fun k => sameNR (l.getD k Pol.zero) (l.getD i0 Pol.zero) = true) hs
    refine ⟨i0, j, by omega, ⟨by omega, g2, fun k hk => ?_⟩, fun i hi => Classical.byContradiction fun hh => h3 i hi hh⟩
    simpa using g3 k hk
  · left
    intro i hi
    exact Classical.byContradiction fun hn => h ⟨i, hi, hn⟩
theorem differ_of {l : List Pol} (h : ∀ i, i < l.length → NoDup l i) : Differ l := by
  intro i j hi hj hji hh
  have := h i hi j hji
  have e1 : l.getD j Pol.zero = l[j] := by simp [List.getD, List.getElem?_eq_getElem hj]
  have e2 : l.getD i Pol.zero = l[i] := by simp [List.getD, List.getElem?_eq_getElem hi]
  rw [e1, e2, sameNR, hh.1, hh.2] at this
  simp at this
theorem oldCells_rd {W : World} {a : Addr} {n size : Nat} {xs : List Value} (h : Rd W (some a) n size xs) : oldCells W a (n * size) = xs := by
  apply List.ext_getElem?
  intro j
  by_cases hj : j < n * size
  · have hx : j < xs.length := by rw [h.len]; exact hj
    have hc := h.cells a rfl j _ (List.getElem?_eq_getElem hx)
    rw [List.getElem?_eq_getElem hx, oldCells, List.getElem?_map, List.getElem?_range hj, Option.map_some, hc]; rfl
  · rw [List.getElem?_eq_none (by simp [oldCells]; omega), List.getElem?_eq_none (by rw [h.len]; omega)]
theorem rd_some {W : World} {a : Addr} {n size : Nat} {xs : List Value} (h : Rd W (some a) n size xs) : ((List.range (n * size)).all fun j => (W.cell? (a.add j)).isSome) = true := by
  rw [List.all_eq_true]
  intro j hj
  have hx : j < xs.length := by rw [h.len]; exact List.mem_range.1 hj
  rw [h.cells a rfl j _ (List.getElem?_eq_getElem hx)]; rfl
theorem pol_ones (l : List Pol) : (vmap (polCells l)).all AV.one = true := one_rowV (enc := Pol.cells) (fun _ => rfl) l
theorem calm_boxA (v m s : ByteArray) : Calm (boxA v m s) := calm_cells [.string v, .string m, .string s] _
theorem calm_boxP (p : Pol) : Calm (boxP p) := calm_cells p.cells _
theorem law_cl (V : AV) (hV : ∀ K, AV.cl K V) (K : Nat → Bool) (hK : K 3 = true ∧ K 5 = true ∧ K 7 = true ∧ K 1001 = true) (n i : Nat) (fd : Bool) : ∀ x ∈ aOut V n i fd, AV.cl K x.2 :=
  all_cons (hV _) (all_cons hK.1 (all_cons hK.2.1 (all_cons hK.2.2.1 (all_cons trivial (all_cons hK.2.2.2 (all_cons trivial (all_cons trivial all_nil)))))))
theorem law_co {oA oP oW : AO} (hA : Calm oA) (hP : Calm oP) (hW : Calm oW) (B : List Pol) (K : Nat → Bool) : ∀ x ∈ oOut oA oP oW B, x.2.cl K := all_cons (hA.cl K) (all_cons (hP.cl K) (all_cons (hW.cl K) (all_cons ((calm_row B).cl K) all_nil)))
section
variable {W : World} {a : Addr} {l : List Pol} {c : Nat} {v m s : ByteArray}
theorem lawN_tri (hA : Asks W (some a) l m) (hcap : l.length ≤ c) (hroom : (l.length + 1) * 160 ≤ 140737488355328) (h0 : 0 < l.length) (hne : ∀ i, i < l.length → NoDup l i) :
    Tri Try.prog W fPicks [slV (some a) l.length c, asked v m s] [] (bv true) [] := by
  have hI := inL_of hA hcap hroom
  have hrev : Pol.pick v m s l.reverse = Pol.pick v m s l := pick_reverse (differ_of hne)
  have hlr : l.reverse.length = l.length := List.length_reverse
  have hold := oldCells_rd hA.rd
  have hsome := rd_some hA.rd
  have hones := pol_ones l
  have hk := fun F (hF : OldOK W F) => conK_ok (c := c) (l2 := l.reverse) (s := s) (x := ((Pol.pick v m s l).1, (Pol.pick v m s l).2)) hA (by rw [hlr]; exact hA.len) (fun p hp => hA.pat p (List.mem_reverse.1 hp)) rfl hrev hF
  generalize hb : Pol.pick v m s l = x at hk
  obtain ⟨fd, b⟩ := x
  simp only at hk
  have hr2 : l.length * 160 ≤ 140737488355328 := Nat.le_trans (Nat.mul_le_mul_right 160 (by omega)) hroom
  have hr3 : l.length ≤ 9223372036854775807 := Nat.le_trans (Nat.le_mul_of_pos_right _ (by decide)) (Nat.le_trans hr2 (by decide))
  clear hroom
  have hl : ∀ F, OldOK W F → L1OK Try.prog F (loopN fPicks 9) (lOut (slV (some a) l.length c) l.length fd (boxA v m s) (boxP b) (boxP b) l.reverse) := fun F hF => by
    refine mkL_ok hF gIn_ro (fun _ _ => out_loop hI fd (calm_boxA v m s) (calm_boxP b) (calm_boxP b) hne) fun _ => ?_
    simp only [RT.pick]
    exact closedT rfl rfl (law_cl _ (slV_cl _ _ _) _ ⟨rfl, rfl, rfl, rfl⟩ _ _ _) (law_co (calm_boxA v m s) (calm_boxP b) (calm_boxP b) _ _) (all_cons rfl (all_cons rfl (all_cons rfl (all_cons trivial (all_cons rfl all_nil))))) (law_co (calm_boxA v m s) (calm_boxP b) (calm_boxP b) _ _)
  refine tri_run (con := conK (slV (some a) l.length c) l l.reverse v m s (fd, b)) (hints := hLaw [(fPicks, 3, 2, ho 1102 (polO l))]) (lc := [(fPicks, 9, loopN fPicks 9, lOut (slV (some a) l.length c) l.length fd (boxA v m s) (boxP b) (boxP b) l.reverse)]) [] rfl hk (fun F hF => one_l (hl F hF)) fun F => ?_
  rw [oLawN_eq]
  refine ⟨⟨?_, fits_true⟩⟩
  have hbb : (fd == fd) = true := by cases fd <;> rfl
  have hbn : (fd != fd) = false := by cases fd <;> rfl
  simp only [Cnd.holds, hsome, hold, hones, rens_rowV, Nat.ble_eq, Nat.blt_eq, List.nil_append, Nat.zero_add, hlr, hbb, hbn]
  and_intros
  all_goals first
    | (with_reducible exact trivial)
    | with_reducible rfl
    | (with_reducible exact h0)
    | (with_reducible exact hr2)
    | (with_reducible exact hr3)
    | (with_reducible exact Nat.le_refl _)
    | (with_reducible exact Wk.refl _)
    | (with_reducible exact VW.refl _)
    | (with_reducible exact OW.refl _)
    | (with_reducible exact wk_lit _)
    | exact rfl
    | exact pol_sem b
    | exact wk_litE (valsQ_self b)
    | exact wk_litE (congrArg (! ·) (valsQ_self b))
    | exact OW.of_eq rfl
    | (refine VW.cons (Wk.refl _) ?_; repeat (first | exact VW.nil | refine VW.cons (Wk.refl _) ?_ | refine VW.cons (wk_unlit _) ?_ | refine VW.cons (Wk.any _) ?_ | refine VW.cons (wk_cap (Nat.le_refl _)) ?_))
    | exact Wk.refl _
theorem lawD_tri (hA : Asks W (some a) l m) (hcap : l.length ≤ c) (hroom : (l.length + 1) * 160 ≤ 140737488355328) {i0 j : Nat} (hi0 : i0 < l.length) (hj : Dup l i0 j) (hne : ∀ i, i < i0 → NoDup l i) :
    Tri Try.prog W fPicks [slV (some a) l.length c, asked v m s] [] (bv true) [] := by
  have hI := inL_of hA hcap hroom
  have h0 : 0 < l.length := by omega
  have hold := oldCells_rd hA.rd
  have hsome := rd_some hA.rd
  have hones := pol_ones l
  have hk := fun F (hF : OldOK W F) => conK_ok (c := c) (l2 := l) (s := s) (x := ((Pol.pick v m s l).1, (Pol.pick v m s l).2)) hA hA.len hA.pat rfl rfl hF
  generalize hb : Pol.pick v m s l = x at hk
  obtain ⟨fd, b⟩ := x
  simp only at hk
  have hr2 : l.length * 160 ≤ 140737488355328 := Nat.le_trans (Nat.mul_le_mul_right 160 (by omega)) hroom
  have hr3 : l.length ≤ 9223372036854775807 := Nat.le_trans (Nat.le_mul_of_pos_right _ (by decide)) (Nat.le_trans hr2 (by decide))
  clear hroom
  have hl : ∀ F, OldOK W F → L1OK Try.prog F (loopN fPicks 9) (lOutD (slV (some a) l.length c) l.length fd (boxA v m s) (boxP b) (boxP b)) := fun F hF => by
    refine mkL_ok hF gIn_ro (fun _ _ => out_loopD hI fd (calm_boxA v m s) (calm_boxP b) (calm_boxP b) hi0 hj hne) fun _ => ?_
    simp only [RT.pick]
    exact closedT rfl rfl (law_cl _ (slV_cl _ _ _) _ ⟨rfl, rfl, rfl, rfl⟩ _ _ _) (law_co (calm_boxA v m s) (calm_boxP b) (calm_boxP b) _ _) (all_cons trivial all_nil) all_nil
  refine tri_run (con := conK (slV (some a) l.length c) l l v m s (fd, b)) (hints := hLaw [(fPicks, 3, 2, ho 1102 (polO l))]) (lc := [(fPicks, 9, loopN fPicks 9, lOutD (slV (some a) l.length c) l.length fd (boxA v m s) (boxP b) (boxP b))]) [] rfl hk (fun F hF => one_l (hl F hF)) fun F => ?_
  rw [oLawD_eq]
  refine ⟨⟨?_, fits_true⟩⟩
  have hbb : (fd == fd) = true := by cases fd <;> rfl
  have hbn : (fd != fd) = false := by cases fd <;> rfl
  simp only [Cnd.holds, hsome, hold, hones, rens_rowV, Nat.ble_eq, Nat.blt_eq, List.nil_append, Nat.zero_add, hbb, hbn]
  and_intros
  all_goals first
    | (with_reducible exact trivial)
    | with_reducible rfl
    | (with_reducible exact h0)
    | (with_reducible exact hr2)
    | (with_reducible exact hr3)
    | (with_reducible exact Nat.le_refl _)
    | (with_reducible exact Wk.refl _)
    | (with_reducible exact VW.refl _)
    | (with_reducible exact OW.refl _)
    | (with_reducible exact wk_lit _)
    | exact rfl
    | exact pol_sem b
    | exact wk_litE (valsQ_self b)
    | exact wk_litE (congrArg (! ·) (valsQ_self b))
    | exact OW.of_eq rfl
    | (refine VW.cons (Wk.refl _) ?_; repeat (first | exact VW.nil | refine VW.cons (Wk.refl _) ?_ | refine VW.cons (wk_unlit _) ?_ | refine VW.cons (Wk.any _) ?_ | refine VW.cons (wk_cap (Nat.le_refl _)) ?_))
    | exact Wk.refl _
end
section
variable {W : World} {c : Nat} {v m s : ByteArray}
theorem lawE_tri {a : Addr} (hA : Asks W (some a) [] m) : Tri Try.prog W fPicks [slV (some a) 0 c, asked v m s] [] (bv true) [] := by
  have hk := fun F (hF : OldOK W F) => conK_ok (c := c) (l2 := []) (v := v) (s := s) (x := ((Pol.pick v m s []).1, (Pol.pick v m s []).2)) hA hA.len hA.pat rfl rfl hF
  generalize hb : Pol.pick v m s [] = x at hk
  obtain ⟨fd, b⟩ := x
  simp only at hk
  refine tri_run (con := conK (slV (some a) 0 c) [] [] v m s (fd, b)) (hints := hLaw qE) (lc := []) [] rfl hk (fun F hF => noL) fun F => ?_
  rw [oLawE_eq]
  refine ⟨⟨?_, fits_true⟩⟩
  have hbb : (fd == fd) = true := by cases fd <;> rfl
  have hbn : (fd != fd) = false := by cases fd <;> rfl
  simp only [Cnd.holds, rens_rowV, Nat.ble_eq, Nat.blt_eq, List.nil_append, Nat.zero_add, hbb, hbn]
  and_intros
  all_goals first
    | (with_reducible exact trivial)
    | with_reducible rfl
    | (with_reducible exact Nat.le_refl _)
    | (with_reducible exact Wk.refl _)
    | (with_reducible exact VW.refl _)
    | (with_reducible exact OW.refl _)
    | (with_reducible exact wk_lit _)
    | exact rfl
    | exact pol_sem b
    | exact wk_litE (valsQ_self b)
    | exact wk_litE (congrArg (! ·) (valsQ_self b))
    | exact OW.of_eq rfl
    | (refine VW.cons (Wk.refl _) ?_; repeat (first | exact VW.nil | refine VW.cons (Wk.refl _) ?_ | refine VW.cons (wk_unlit _) ?_ | refine VW.cons (Wk.any _) ?_ | refine VW.cons (wk_cap (Nat.le_refl _)) ?_))
    | exact Wk.refl _
theorem lawE0_tri (hA : Asks W none [] m) : Tri Try.prog W fPicks [slV none 0 c, asked v m s] [] (bv true) [] := by
  have hk := fun F (hF : OldOK W F) => conK_ok (c := c) (l2 := []) (v := v) (s := s) (x := ((Pol.pick v m s []).1, (Pol.pick v m s []).2)) hA hA.len hA.pat rfl rfl hF
  generalize hb : Pol.pick v m s [] = x at hk
  obtain ⟨fd, b⟩ := x
  simp only at hk
  refine tri_run (con := conK (slV none 0 c) [] [] v m s (fd, b)) (hints := hLaw qE) (lc := []) [] rfl hk (fun F hF => noL) fun F => ?_
  rw [oLawE0_eq]
  refine ⟨⟨?_, fits_true⟩⟩
  have hbb : (fd == fd) = true := by cases fd <;> rfl
  have hbn : (fd != fd) = false := by cases fd <;> rfl
  simp only [Cnd.holds, rens_rowV, Nat.ble_eq, Nat.blt_eq, List.nil_append, Nat.zero_add, hbb, hbn]
  and_intros
  all_goals first
    | (with_reducible exact trivial)
    | with_reducible rfl
    | (with_reducible exact Nat.le_refl _)
    | (with_reducible exact Wk.refl _)
    | (with_reducible exact VW.refl _)
    | (with_reducible exact OW.refl _)
    | (with_reducible exact wk_lit _)
    | exact rfl
    | exact pol_sem b
    | exact wk_litE (valsQ_self b)
    | exact wk_litE (congrArg (! ·) (valsQ_self b))
    | exact OW.of_eq rfl
    | (refine VW.cons (Wk.refl _) ?_; repeat (first | exact VW.nil | refine VW.cons (Wk.refl _) ?_ | refine VW.cons (wk_unlit _) ?_ | refine VW.cons (Wk.any _) ?_ | refine VW.cons (wk_cap (Nat.le_refl _)) ?_))
    | exact Wk.refl _
theorem law_tri {oa : Option Addr} {l : List Pol} (hA : Asks W oa l m) (hcap : l.length ≤ c) (hroom : l.length * 160 ≤ 140737488351232) : Tri Try.prog W fPicks [slV oa l.length c, asked v m s] [] (bv true) [] := by
  cases l with
  | nil =>
    cases oa with
    | none => exact lawE0_tri hA
    | some a => exact lawE_tri hA
  | cons p l =>
    obtain ⟨a, rfl⟩ := hA.rd.here (Nat.succ_pos _)
    have hr : ((p :: l).length + 1) * 160 ≤ 140737488355328 := by rw [Nat.add_mul]; omega
    rcases dup_or (p :: l) with h | ⟨i0, j, h1, h2, h3⟩
    · exact lawN_tri hA hcap hr (Nat.succ_pos _) h
    · exact lawD_tri hA hcap hr h1 h2 h3
theorem picks_calls (W : World) (oa : Option Addr) (cap : Nat) (l : List Pol) (v m s : ByteArray) (hA : Asks W oa l m) (hcap : l.length ≤ cap) (hroom : l.length * 160 ≤ 140737488351232) :
    Calls Try.prog fPicks #[.slice oa l.length cap, .agg #[.string v, .string m, .string s]] W fun e w' => e = .returned (.bool true) ∧ Below W.heap.size W w' := by
  have h := law_tri (v := v) (s := s) hA hcap hroom
  refine (h W (HP.old W) (fun _ => none) W #[.slice oa l.length cap, .agg #[.string v, .string m, .string s]] (old_here W) (fun _ _ _ => rfl) (rep_nil W) ?_).mono ?_
  · refine VRs_cons.2 ⟨VR_v.2 rfl, VRs_cons.2 ⟨?_, VRs_nil⟩⟩
    simp only [asked, sv, VR, VRs]
    exact ⟨_, ⟨_, _, rfl, ⟨_, _, rfl, ⟨_, _, rfl, rfl, rfl⟩, rfl⟩, rfl⟩, rfl⟩
  · rintro e w' ⟨y, rfl, N', _, _, r, hv⟩
    have hy : y = .bool true := VR_v.1 (VRs_cons.1 hv).1
    subst hy
    exact ⟨rfl, r.old_below⟩
end
end Go.Proofs.Ytfledabgdcnkfaa.Pk

/- For every list of policies and every name: the policy that counts is told as the document says, whatever the order. -/
set_option linter.unusedVariables false
set_option linter.unusedSimpArgs false
namespace Go.Proofs.Ytfledabgdcnkfaa.policyPicks
open Go.ChangeShapes Go.WideShapes Go.ChangeAt Go.RowKit

theorem own : ownKnob Try.prog.godebug = none := by kernel_rfl
theorem laidOut : laidOutB Try.prog = true := by kernel_rfl

set_option maxRecDepth 100000 in
theorem lifted (os : Os) (started : os.Started) (H : Type) (enc : TypeId × Value → H) :
    ReturnsInHanded {} Try.checked os 5 .any (Rows.policyPicksSpec.pre6 enc Try.prog Try.f5 Rows.policyPicksRow.domain false) (Rows.policyPicksSpec.post enc Try.prog Try.f5 false true false false) := by
  refine returnsInHanded_of_change_sized (C := Try.checked) own started (by kernel_rfl) Try.func5
    (ChangeSpec.witness6 (enc := enc) (C := Try.checked) false ⟨#[], #[.slice none 0 0, .agg (Pol.Asked.cells ⟨ByteArray.empty, ByteArray.empty, ByteArray.empty⟩).toArray], []⟩ 8 (by kernel_rfl) (by kernel_rfl) (by kernel_rfl) (by kernel_rfl)) ?_
  intro W base args ds gs before hval0 hW hcnd hsz0 _
  have hval : ∀ (j : Nat) t v, Try.f5.params[j]? = some t → args[j]? = some v → Value.okWide Try.prog W .any base t v := hval0
  have hsz : (DataW.weightsEach Try.prog (Try.f5.params.toList ++ Rows.policyPicksSpec.plain.varTypes Try.prog) (ds ++ gs)).all (· ≤ reachBytes) = true := hsz0
  have hW' := hW
  obtain ⟨p, q, hA0, hV, rfl, hfz, hnd⟩ := hW
  have hA : DataW.TrodAll enc Try.prog W 0 (fun _ => true) true Try.f5.params.toList args.toList ds p := hA0
  rw [Try.params5] at hA hval hsz
  obtain ⟨v0, vs0, d0, ds0, p0, q0, hargs, rfl, rfl, h0, r0⟩ := trodAll_cons hA
  obtain ⟨v1, vs1, d1, ds1, p1, q1, rfl, rfl, rfl, h1, r1⟩ := trodAll_cons r0
  obtain ⟨rfl, rfl, rfl⟩ := trodAll_nil r1
  obtain rfl : args = #[v0, v1] := by cases args; simp_all
  obtain ⟨rfl, rfl⟩ := trodVars_none hV
  have k0 := h0
  have k1 := h1
  have lt0 : ∀ x ∈ p0, x.block < W.heap.size := by obtain ⟨m, hm⟩ := k0; exact DataW.trod_lt m _ _ _ hm
  have lt1 : ∀ x ∈ p1, x.block < W.heap.size := by obtain ⟨m, hm⟩ := k1; exact DataW.trod_lt m _ _ _ hm
  obtain ⟨A, len, cap, rfl⟩ := okWide_slice Try.underlying36 (hval 0 36 v0 rfl rfl)
  obtain ⟨cs1, rfl, hsz1⟩ := okWide_struct Try.underlying38 (hval 1 38 v1 rfl rfl)
  obtain ⟨fu0, hf0⟩ := h0
  obtain ⟨fu1, hf1⟩ := h1
  obtain ⟨l, rfl, _, hb160, hrd, hq⟩ := open_rd Pol.Pol.cells (by decide) Pol.pol_length Try.underlying36 (by kernel_rfl) (fun n cs x h hL => Pol.cells_pol h hL) hf0 (light_args hsz (j := 0) rfl rfl)
  have hcap := Pol.slice_cap Try.underlying36 hf0
  obtain ⟨q, hc1, _, hn, _⟩ := Pol.cells_asked hf1 (light_args hsz (j := 1) rfl rfl)
  obtain rfl : cs1 = #[.string q.vhost, .string q.name, .string q.sort] := by
    apply Array.ext'
    exact hc1
  clear hA0 hval0
  refine (Pk.picks_calls W A cap l q.vhost q.name q.sort ⟨hrd, by have e : Try.prog.bytesOf 40 = 160 := (by kernel_rfl); rw [e] at hb160; have : reachBytes = 140737488351232 := rfl; omega, hn, hq⟩ hcap (by have e : Try.prog.bytesOf 40 = 160 := (by kernel_rfl); rw [e] at hb160; exact hb160)).mono fun e W' ⟨he, bel⟩ => ?_
  subst he
  exact ⟨_, rfl, _, _, _, [], _, [], hW', trodAll_mk1 (shut_bool Try.underlying4 _), (trodAll_cons_mk (Below.trod laidOut (by kernel_rfl) (of_decide_eq_true (by kernel_rfl)) k0 bel lt0) (trodAll_cons_mk (Below.trod laidOut (by kernel_rfl) (of_decide_eq_true (by kernel_rfl)) k1 bel lt1) trodAll_mk0)), rfl, bel.frame _, fun h => by cases h⟩

theorem proved : Rows.PolicyPicksSaid :=
  OpenClaim.holds_of_wide 5 Try.f5 rfl rfl rfl rfl rfl rfl rfl ⟨rfl, rfl, rfl, rfl, rfl⟩ rfl rfl rfl rfl rfl (by kernel_rfl) Try.func5 (by kernel_rfl)
    (of_decide_eq_true (by kernel_rfl)) (by unfold Func.isWrapper; first | (rw [if_pos (by decide +kernel)]; kernel_rfl) | (rw [if_neg (by decide +kernel)]; exact ⟨rfl, rfl⟩))
    (fun os started H enc _ => lifted os started H enc)
#print axioms proved
end Go.Proofs.Ytfledabgdcnkfaa.policyPicks

