/- For every slice of items and every Seq: an item that is taken out of a Line and put back stands where it stood. -/
import Derived.Test.YtcpijmlaglcblaaRkOpen
import Derived.Test.YtcpijmlaglcblaaRkRetAll
import Derived.ProofKit
import Derived.OpenShut
import Derived.Carry
import Derived.SizedLaws
set_option linter.unusedVariables false
set_option linter.unusedSimpArgs false
namespace Go.Proofs.Ytcpijmlaglcblaa.Rk
open Go Go.RowKit Go.Proofs.Ytcpijmlaglcblaa.Eng
theorem returns_calls (W : World) (A : Option Addr) (cap : Nat) (items : List It) (q : Int) (h : Rd W A items.length 3 (items.flatMap enc)) (hb : items.length * 24 ≤ 140737488355328) :
    Calls Try.prog fRet #[.slice A items.length cap, .int .i64 q] W fun e w' => e = .returned (.bool true) ∧ Below W.heap.size W w' := by
  have hF : OldOK W (HP.old W) := by
    intro D w' hF a v hv
    have hF' : (HP.old W).on D w' := hF
    have hlt : a.block < W.heap.size := by
      simp only [World.cell?] at hv
      cases hg : W.heap[a.block]? with
      | none => rw [hg] at hv; cases hv
      | some o => exact (Array.getElem?_eq_some_iff.1 hg).1
    simp only [World.cell?, hF'.2 _ hlt] at hv ⊢
    exact hv
  refine (returns_tri W A items cap q (in_of_rd h hb) W (HP.old W) (fun _ => none) W #[.slice A items.length cap, .int .i64 q] hF (fun _ _ _ => rfl) (rep_nil W) (VRs_cons.2 ⟨VR_v.2 rfl, VRs_cons.2 ⟨VR_v.2 rfl, VRs_nil⟩⟩)).mono ?_
  rintro e w' ⟨y, rfl, N', _, _, r, hv⟩
  have hy : y = .bool true := VR_v.1 (VRs_cons.1 hv).1
  subst hy
  exact ⟨rfl, r.old_below⟩
end Go.Proofs.Ytcpijmlaglcblaa.Rk
namespace Go.Proofs.Ytcpijmlaglcblaa.ranksReturns
open Go.ChangeShapes Go.WideShapes Go.ChangeAt Go.RowKit

theorem own : ownKnob Try.prog.godebug = none := by kernel_rfl
theorem laidOut : laidOutB Try.prog = true := by kernel_rfl

set_option maxRecDepth 100000 in
theorem lifted (os : Os) (started : os.Started) (H : Type) (enc : TypeId × Value → H) :
    ReturnsInHanded {} Try.checked os 4 .any (Rows.ranksReturnsSpec.pre6 enc Try.prog Try.f4 Rows.ranksReturnsRow.domain false) (Rows.ranksReturnsSpec.post enc Try.prog Try.f4 false true false false) := by
  refine returnsInHanded_of_change_sized (C := Try.checked) own started (by kernel_rfl) Try.func4
    (ChangeSpec.witness6 (enc := enc) (C := Try.checked) false ⟨#[], #[.slice none 0 0, .int .i64 0], []⟩ 8 (by kernel_rfl) (by kernel_rfl) (by kernel_rfl) (by kernel_rfl)) ?_
  intro W base args ds gs before hval0 hW hcnd hsz0 _
  have hval : ∀ (j : Nat) t v, Try.f4.params[j]? = some t → args[j]? = some v → Value.okWide Try.prog W .any base t v := hval0
  have hsz : (DataW.weightsEach Try.prog (Try.f4.params.toList ++ Rows.ranksReturnsSpec.plain.varTypes Try.prog) (ds ++ gs)).all (· ≤ reachBytes) = true := hsz0
  have hW' := hW
  obtain ⟨p, q, hA0, hV, rfl, hfz, hnd⟩ := hW
  have hA : DataW.TrodAll enc Try.prog W 0 (fun _ => true) true Try.f4.params.toList args.toList ds p := hA0
  rw [Try.params4] at hA hval hsz
  obtain ⟨v0, vs0, d0, ds0, p0, q0, hargs, rfl, rfl, h0, r0⟩ := trodAll_cons hA
  obtain ⟨v1, vs1, d1, ds1, p1, q1, rfl, rfl, rfl, h1, r1⟩ := trodAll_cons r0
  obtain ⟨rfl, rfl, rfl⟩ := trodAll_nil r1
  obtain rfl : args = #[v0, v1] := by cases args; simp_all
  obtain ⟨rfl, rfl⟩ := trodVars_none hV
  have k0 := h0
  have k1 := h1
  have lt1 : ∀ x ∈ p1, x.block < W.heap.size := by obtain ⟨m, hm⟩ := k1; exact DataW.trod_lt m _ _ _ hm
  obtain ⟨sq, rfl⟩ := okWide_int Try.underlying3 (hval 1 3 v1 rfl rfl)
  have lt0 : ∀ x ∈ p0, x.block < W.heap.size := by obtain ⟨m, hm⟩ := k0; exact DataW.trod_lt m _ _ _ hm
  obtain ⟨A, len, cap, rfl⟩ := okWide_slice Try.underlying22 (hval 0 22 v0 rfl rfl)
  obtain ⟨fu0, hf0⟩ := h0
  obtain ⟨l, rfl, _, hb24, hrd, hq⟩ := open_rd Rk.enc (by decide) Rk.enc_length Try.underlying22 (by kernel_rfl) (fun n cs x h hL => Rk.cells_item h) hf0 (light_args hsz (j := 0) rfl rfl)
  clear hA0 hval0
  refine (Rk.returns_calls W A cap l sq hrd (by have e : Try.prog.bytesOf 27 = 24 := (by kernel_rfl); rw [e] at hb24; have : reachBytes ≤ 140737488355328 := (by decide); omega)).mono fun e W' ⟨he, bel⟩ => ?_
  subst he
  exact ⟨_, rfl, _, _, _, [], _, [], hW', trodAll_mk1 (shut_bool Try.underlying4 _), (trodAll_cons_mk (Below.trod laidOut (by kernel_rfl) (of_decide_eq_true (by kernel_rfl)) k0 bel lt0) (trodAll_cons_mk (Below.trod laidOut (by kernel_rfl) (of_decide_eq_true (by kernel_rfl)) k1 bel lt1) trodAll_mk0)), rfl, bel.frame _, fun h => by cases h⟩

theorem proved : Rows.RanksReturnsSaid :=
  OpenClaim.holds_of_wide 4 Try.f4 rfl rfl rfl rfl rfl rfl rfl ⟨rfl, rfl, rfl, rfl, rfl⟩ rfl rfl rfl rfl rfl (by kernel_rfl) Try.func4 (by kernel_rfl)
    (of_decide_eq_true (by kernel_rfl)) (by unfold Func.isWrapper; first | (rw [if_pos (by decide +kernel)]; kernel_rfl) | (rw [if_neg (by decide +kernel)]; exact ⟨rfl, rfl⟩))
    (fun os started H enc _ => lifted os started H enc)
#print axioms proved
end Go.Proofs.Ytcpijmlaglcblaa.ranksReturns
