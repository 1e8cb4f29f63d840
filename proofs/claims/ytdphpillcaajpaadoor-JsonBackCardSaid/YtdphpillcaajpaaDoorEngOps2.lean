/- Every operation of the engine does what the model's does. No program. -/
import Derived.Test.YtdphpillcaajpaaDoorEngOps
set_option linter.unusedVariables false
set_option linter.unusedSimpArgs false
namespace Go.Proofs.YtdphpillcaajpaaDoor.Eng
open Go Go.RowKit
variable {f : FuncId} {args : List AV} {vargs : List Value} {an : AN}
def aQ' (N : A5') (an : AN) : Next -> Prop
 | .value v => ∃ x, an = .value x /\ VR N x v
 | .skip => an = .value AV.undef
 | .enter f as => ∃ xs, an = .enter f xs /\ VRs N xs as.toList
 | _ => False
section
variable {P : Program} {E : Env} {W0 w : World} {N : A5'} {F : HP} {st : Bool} {h h' : T} {n n' : Nat} {lg lg' : Log} {c : Cnd}
theorem D4' {fn : Func} (hf : P.funcs[f]? = some fn) (hb : (fn.body.isSome && fn.name != "runtime.NumGoroutine") = true) (args : Array Value) (w : World) : (callFunc f args).run P w = .ok (.enter f args) w := by
 simp only [Bool.and_eq_true, bne_iff_ne, ne_eq] at hb
 have h2 : fn.body ≠ none := by cases hh : fn.body <;> simp_all
 simp [callFunc, Sem.run_bind, program, Sem.run, hf, hb.2, h2]
theorem O7' (ha : VRs N args vargs) (he : (S0' P f args).run st h n lg = .ok an h' n' lg' c) :
  ∃ nx, (callFunc f vargs.toArray).run P w = .ok nx w /\ aQ' N an nx /\ h' = h /\ n' = n := by
 unfold S0' at he; obtain ⟨vs, hvs, he1⟩ := BO' he; obtain rfl := IZ' hvs ha; split at he1
 ·rename_i x hx; obtain ⟨rfl, rfl, rfl⟩ := AF' he1; exact ⟨_, DM' _ hx w, ⟨_, rfl, VR_v.2 rfl⟩, rfl, rfl⟩
 ·exact (A7' he1).elim
theorem K5' (hE : EnvOk P E) (ha : VRs N args vargs) (he : (N4' P E f args).run st h n lg = .ok an h' n' lg' c) :
  ∃ nx, (callFunc f vargs.toArray).run P w = .ok nx w /\ aQ' N an nx /\ h' = h /\ n' = n := by
 unfold N4' at he; obtain ⟨fn, hfn, he1⟩ := BO' he; clear he
 cases hb : fn.body.isSome with
 | false =>
  rw [hb] at he1; simp only at he1; split at he1
  ·rename_i x hs; obtain ⟨rfl, rfl, rfl⟩ := AF' he1; obtain ⟨v, r0, h1, h2, rfl⟩ := (by simpa only [VRs] using ha : ∃ y r, VR N x y /\ r = [] /\ vargs = y :: r); subst h2; exact ⟨_, hE.same _ hs v w, ⟨_, rfl, h1⟩, rfl, rfl⟩
  ·exact O7' ha he1
 | true =>
  rw [hb] at he1; obtain ⟨g1, he2⟩ := AB' he1; clear he1; obtain ⟨rfl, rfl, rfl⟩ := A6' he2; exact ⟨_, D4' (hE.fn _ _ hfn) (by rw [hb]; simpa using g1) _ w, ⟨_, rfl, ha⟩, rfl, rfl⟩
theorem O2' (hE : EnvOk P E) (r : Rep W0 N E.F h w) {x : AV} {name : String} {vx : Value} (hx : VR N x vx) (ha : VRs N args vargs) (he : (O3' E x name args).run st h n lg = .ok an h' n' lg' c) (hc : c.holds) :
  ∃ nx, (callMethod vx name vargs.toArray).run P w = .ok nx w /\ aQ' N an nx /\ h' = h /\ n' = n := by
 unfold O3' at he; cases he
end
end Go.Proofs.YtdphpillcaajpaaDoor.Eng
