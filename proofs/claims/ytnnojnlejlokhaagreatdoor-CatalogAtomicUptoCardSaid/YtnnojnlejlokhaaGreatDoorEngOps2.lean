/- Every operation of the engine does what the model's does. No program. -/
import Derived.Test.YtnnojnlejlokhaaGreatDoorEngOps
set_option linter.unusedVariables false
set_option linter.unusedSimpArgs false
namespace Go.Proofs.YtnnojnlejlokhaaGreatDoor.Eng
open Go Go.RowKit
variable {f : FuncId} {args : List AV} {vargs : List Value} {an : AN}
def TA' (N : A9') (an : AN) : Next -> Prop
 | .value v => ∃ x, an = .value x /\ VR N x v
 | .skip => an = .value AV.undef
 | .enter f as => ∃ xs, an = .enter f xs /\ VRs N xs as.toList
 | _ => False
section
variable {P : Program} {E : Env} {W0 w : World} {N : A9'} {F : HP} {st : Bool} {h h' : T} {n n' : Nat} {lg lg' : Log} {c : Cnd}
theorem J3' {fn : Func} (hf : P.funcs[f]? = some fn) (hb : (fn.body.isSome && fn.name != "runtime.NumGoroutine") = true) (args : Array Value) (w : World) : (callFunc f args).run P w = .ok (.enter f args) w := by
 simp only [Bool.and_eq_true, bne_iff_ne, ne_eq] at hb
 have h2 : fn.body ≠ none := by cases hh : fn.body <;> simp_all
 simp [callFunc, Sem.run_bind, program, Sem.run, hf, hb.2, h2]
theorem N5' (ha : VRs N args vargs) (he : (QL' P f args).run st h n lg = .ok an h' n' lg' c) :
  ∃ nx, (callFunc f vargs.toArray).run P w = .ok nx w /\ TA' N an nx /\ h' = h /\ n' = n := by
 unfold QL' at he; obtain ⟨vs, hvs, he1⟩ := BK' he; obtain rfl := ID' hvs ha; split at he1
 ·rename_i x hx; obtain ⟨rfl, rfl, rfl⟩ := AB' he1; exact ⟨_, DH' _ hx w, ⟨_, rfl, VR_v.2 rfl⟩, rfl, rfl⟩
 ·exact (A4' he1).elim
theorem JA' (hE : EnvOk P E) (ha : VRs N args vargs) (he : (LY' P E f args).run st h n lg = .ok an h' n' lg' c) :
  ∃ nx, (callFunc f vargs.toArray).run P w = .ok nx w /\ TA' N an nx /\ h' = h /\ n' = n := by
 unfold LY' at he; obtain ⟨fn, hfn, he1⟩ := BK' he; clear he
 cases hb : fn.body.isSome with
 | false =>
  rw [hb] at he1; simp only at he1; split at he1
  ·rename_i x hs; obtain ⟨rfl, rfl, rfl⟩ := AB' he1; obtain ⟨v, r0, h1, h2, rfl⟩ := (by simpa only [VRs] using ha : ∃ y r, VR N x y /\ r = [] /\ vargs = y :: r); subst h2; exact ⟨_, hE.same _ hs v w, ⟨_, rfl, h1⟩, rfl, rfl⟩
  ·exact N5' ha he1
 | true =>
  rw [hb] at he1; obtain ⟨g1, he2⟩ := A8' he1; clear he1; obtain ⟨rfl, rfl, rfl⟩ := A7' he2; exact ⟨_, J3' (hE.fn _ _ hfn) (by rw [hb]; simpa using g1) _ w, ⟨_, rfl, ha⟩, rfl, rfl⟩
theorem PP' (xt : TypeId) (a : Addr) (s1 s2 : String) (w : World) : (Builtin.ssaWrapNilChk_ #[xt] xt #[.pointer (some a), strVal s1, strVal s2]).run P w = .ok (.pointer (some a)) w := rfl
theorem MZ' (hE : EnvOk P E) (r : Rep W0 N E.F h w) {x : AV} {name : String} {vx : Value} (hx : VR N x vx) (ha : VRs N args vargs) (he : (N0' E x name args).run st h n lg = .ok an h' n' lg' c) (hc : c.holds) :
  ∃ nx, (callMethod vx name vargs.toArray).run P w = .ok nx w /\ TA' N an nx /\ h' = h /\ n' = n := by
 unfold N0' at he; obtain ⟨⟨t, y⟩, hdy, he1⟩ := BK' he; obtain ⟨i, hi, he2⟩ := BK' he1; obtain ⟨m, hm, he3⟩ := BK' he2; obtain ⟨g1, he4⟩ := A8' he3; obtain ⟨⟨f, pr⟩, hf, he5⟩ := BK' he4; obtain ⟨fn, hfn, he6⟩ := BK' he5; obtain ⟨g2, he7⟩ := A8' he6; obtain ⟨d, hd, he8⟩ := AN' he7; clear he he1 he2 he3 he4 he5 he6 he7; obtain ⟨z, rfl, hz⟩ := KQ' hx hdy; have hdr := B7' hE hd
 have hpath : m.path.toList = [] := by simpa using g1
 have hpe : m.path.isEmpty = true := by simpa using hpath
 have hmeth : ∀ (y2 : Value) w, (receiverAt t (.val z) pr (some ((name.splitOn ".").getLastD name))).run P w = .ok y2 w -> (method (P.types.size + Made.depth) t z name).run P w = .ok (f, y2) w := by
  intro y2 w hrec; have hk : P.types.size + Made.depth = (P.types.size + 99) + 1 := rfl; rw [hk, method]; simp only [Sem.run_bind, M4' hE hi, Result.andThen_ok, hm, hpath, follow, Sem.run_pure, hf, hpe, if_true, hrec]
 have hcall : ∀ (y2 : Value) w, (receiverAt t (.val z) pr (some ((name.splitOn ".").getLastD name))).run P w = .ok y2 w -> (callMethod (.iface t z) name vargs.toArray).run P w = .ok (.enter f (#[y2] ++ vargs.toArray)) w := by
  intro y2 w hrec; simp only [callMethod, Sem.run_bind, program, Sem.run, Result.andThen_ok, hmeth y2 w hrec, J3' (hE.fn _ _ hfn) g2]
 have hends : ∀ {b : AV} {y2 : Value}, VR N b y2 -> TA' N (.enter f (b :: args)) (.enter f (#[y2] ++ vargs.toArray)) := fun {b y2} hb => ⟨_, rfl, by simpa using AD'.2 ⟨hb, ha⟩⟩
 cases d with
 | pointer e =>
  cases pr with
  | true =>
   obtain ⟨rfl, rfl, rfl⟩ := A7' he8; exact ⟨_, hcall z w (by simp only [receiverAt, Sem.run_bind, hdr, Result.andThen_ok, Place.get, Sem.run_pure]), hends hz, rfl, rfl⟩
  | false =>
   cases y with
   | ptr j off =>
    obtain ⟨b, g3, n3, lg3, c1, c2, e1, he9, k1⟩ := run_bind (MY' E e (.ptr j off)) _ he8; clear he8; obtain ⟨y2, hl, hv, rfl, rfl⟩ := HF' hE r hz e1 (k1 hc).1; obtain ⟨rfl, rfl, rfl⟩ := A7' he9; simp only [VR] at hz; obtain ⟨l, hl2, rfl⟩ := hz; refine ⟨_, hcall y2 w ?_, hends hv, rfl, rfl⟩
    have hl' : (loadVar e ⟨l.blk, l.off + off, none⟩).run P w = .ok y2 w := by
     simpa [Instr.loadAt, Instr.sureAddr] using hl
    simp only [receiverAt, Sem.run_bind, hdr, Result.andThen_ok, Place.get, Sem.run_pure, PP', asAddr, hl']
   | _ => exact (A4' he8).elim
 | _ =>
  cases pr with
  | true => exact (A4' he8).elim
  | false =>
   obtain ⟨rfl, rfl, rfl⟩ := A7' he8; exact ⟨_, hcall z w (by simp only [receiverAt, Sem.run_bind, hdr, Result.andThen_ok, Place.get, Sem.run_pure]), hends hz, rfl, rfl⟩
end
end Go.Proofs.YtnnojnlejlokhaaGreatDoor.Eng
