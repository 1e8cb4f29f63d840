/- For every setting and all copies: all taken out and returned, they stand as they stood, each marked; and what came in stays as it was. -/
import Derived.Test.YtjjjchmkonnpfaaRows
import Derived.Test.YtjjjchmkonnpfaaBkq4
import Derived.Test.YtjjjchmkonnpfaaBkq7
import Derived.ProofKit
import Derived.OpenShut
import Derived.ShutString
import Derived.Carry
import Derived.SizedLaws
set_option linter.unusedVariables false
set_option linter.unusedSimpArgs false
set_option linter.unusedSectionVars false
namespace Go.Proofs.Ytjjjchmkonnpfaa.queueBack
open Go.ChangeShapes Go.WideShapes Go.ChangeAt Go.RowKit Go.Deep Eng Kit
theorem own : ownKnob Θ.godebug = none := χ
theorem laidOut : laidOutB Θ = true := χ
theorem calls {W : World} {d : Nat} {c : Qb.Cf} {sa : Option Addr} {cc : Nat} {es : List Qb.Kc} (hO : Qb.RAt W.cell? d sa es) : Calls Θ 4 #[.agg (Qb.cfV c).toArray, .slice sa es.length cc] W fun e w' => e = .returned (.bool true) /\ Below W.heap.size W w' := by
 refine (Qb.law_back W d c sa cc es hO W (HP.old W) (fun _ => none) W #[.agg (Qb.cfV c).toArray, .slice sa es.length cc] (SF' W) (fun _ _ _ => rfl) (NE' W) ?_).mono ?_
 ·refine A9'.2 ⟨?_, A9'.2 ⟨VR_v.2 rfl, AT'⟩⟩; show VR _ (.agg (vmap (Qb.cfV c))) _; simp only [VR]; exact ⟨_, VRs.vmap (Qb.cfV c), rfl⟩
 ·rintro e w' ⟨y, rfl, N', _, _, r, hv⟩; have hy : y = .bool true := VR_v.1 (A9'.1 hv).1; subst hy; exact ⟨rfl, r.old_below⟩
set_option maxRecDepth 100000 in
theorem lifted (os : Os) (started : os.Started) (H : Type) (enc : TypeId × Value -> H) :
  ReturnsInHanded {} Try.checked os 4 .any (Rows.queueBackSpec.pre6 enc Θ Try.f4 Rows.queueBackRow.domain false) (Rows.queueBackSpec.post enc Θ Try.f4 false true false false) := by
 refine returnsInHanded_of_change_sized (C := Try.checked) own started χ Try.func4
  (ChangeSpec.witness6 (enc := enc) (C := Try.checked) false ⟨#[], #[.agg (Qb.cfV ⟨0, 0, 0, 0, ByteArray.empty, ByteArray.empty, ByteArray.empty, false, false, false⟩).toArray, .slice none 0 0], []⟩ 8 χ χ χ χ) ?_
 intro W base args ds gs before hval0 hW hcnd hsz0 _; have hval : ∀ (j : Nat) t v, Try.f4.params[j]? = some t -> args[j]? = some v -> Value.okWide Θ W .any base t v := hval0; have hsz : (DataW.weightsEach Θ (Try.f4.params.toList ++ Rows.queueBackSpec.plain.varTypes Θ) (ds ++ gs)).all (· <= reachBytes) = true := hsz0; have hW' := hW; obtain ⟨p, q, hA0, hV, rfl, hfz, hnd⟩ := hW; have hA : DataW.TrodAll enc Θ W 0 (fun _ => true) true Try.f4.params.toList args.toList ds p := hA0; rw [Try.params4] at hA hval hsz; obtain ⟨v0, vs0, d0, ds0, p0, q0, hargs, rfl, rfl, h0, r0⟩ := trodAll_cons hA; obtain ⟨v1, vs1, d1, ds1, p1, q1, rfl, rfl, rfl, h1, r1⟩ := trodAll_cons r0; obtain ⟨rfl, rfl, rfl⟩ := trodAll_nil r1
 obtain rfl : args = #[v0, v1] := by cases args; simp_all
 obtain ⟨rfl, rfl⟩ := trodVars_none hV; have k0 := h0; have k1 := h1
 have lt0 : ∀ x ∈ p0, x.block < W.heap.size := by obtain ⟨m, hm⟩ := k0; exact DataW.trod_lt m _ _ _ hm
 have lt1 : ∀ x ∈ p1, x.block < W.heap.size := by obtain ⟨m, hm⟩ := k1; exact DataW.trod_lt m _ _ _ hm
 obtain ⟨cs0, rfl, hsz1⟩ := okWide_struct Try.underlying27 (hval 0 27 v0 rfl rfl); obtain ⟨A, len, cap, rfl⟩ := okWide_slice Try.underlying33 (hval 1 33 v1 rfl rfl); obtain ⟨fu0, hf0⟩ := h0; obtain ⟨fu1, hf1⟩ := h1; obtain ⟨c, hc⟩ := Qb.open_cf hf0
 obtain rfl : cs0 = (Qb.cfV c).toArray := by
  have : cs0.toList = Qb.cfV c := hc; rw [<- this]
 obtain ⟨d, es, rfl, hO⟩ := Qb.open_cps hf1 (TD' hsz (j := 1) rfl rfl); clear hA0 hval0
 refine (calls (c := c) (cc := cap) hO).mono fun e W' ⟨he, bel⟩ => ?_
 subst he
 exact ⟨_, rfl, _, _, _, [], _, [], hW', trodAll_mk1 (shut_bool Try.underlying4 _), (trodAll_cons_mk (Below.trod laidOut χ (of_decide_eq_true χ) k0 bel lt0) (trodAll_cons_mk (Below.trod laidOut χ (of_decide_eq_true χ) k1 bel lt1) trodAll_mk0)), rfl, bel.frame _, fun h => by cases h⟩
theorem proved : Rows.QueueBackSaid :=
 OpenClaim.holds_of_wide 4 Try.f4 rfl rfl rfl rfl rfl rfl rfl ⟨rfl, rfl, rfl, rfl, rfl⟩ rfl rfl rfl rfl rfl χ Try.func4 χ
  (of_decide_eq_true χ) (by unfold Func.isWrapper; first | (rw [if_pos (by decide +kernel)]; kernel_rfl) | (rw [if_neg (by decide +kernel)]; exact ⟨rfl, rfl⟩))
  (fun os started H enc _ => lifted os started H enc)
#print axioms proved
end Go.Proofs.Ytjjjchmkonnpfaa.queueBack
