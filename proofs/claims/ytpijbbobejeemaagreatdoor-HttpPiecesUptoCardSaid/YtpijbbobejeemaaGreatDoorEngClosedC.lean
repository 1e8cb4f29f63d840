/- A closed call with contracts. No program. -/
import Derived.Test.YtpijbbobejeemaaGreatDoorEngClosed
import Derived.Test.YtpijbbobejeemaaGreatDoorEngUse
set_option linter.unusedVariables false
set_option linter.unusedSimpArgs false
namespace Go.Proofs.YtpijbbobejeemaaGreatDoor.Eng
open Go Go.RowKit
abbrev ConL := List (FuncId × (List AV → Option (AP AV)))
noncomputable def envKC (P : Program) (K : Cfg) (cl : ConL) (w : World) : Env :=
  { W := default, F := HP.old w, strict := true, info := fun t => P.info? t, fn := fun f => P.funcs[f]?, con := fun f args => match conK K f args with | some p => some p | none => conL cl f args, wk := fun _ _ => False, ow := fun _ _ => False, gd := fun _ _ _ => False, fc := fun _ _ => False, claim := fun _ _ _ => none, lcon := fun _ _ => none, same := isNat K.same, clone := isNat K.clone, laid := fun g => pickL g K.laid }
theorem envKC_ok {P : Program} {K : Cfg} {cl : ConL} (hK : CfgOk P K) {w : World} (hL : LaidOk K w) : EnvOk P (envKC P K cl w) :=
  ⟨(envK_ok hK hL).wk, (envK_ok hK hL).ow, (envK_ok hK hL).gd, (envK_ok hK hL).fc, (envK_ok hK hL).info, (envK_ok hK hL).fn, (envK_ok hK hL).old, (envK_ok hK hL).laid, (envK_ok hK hL).clone, (envK_ok hK hL).same⟩
theorem envKC_con {P : Program} {K : Cfg} {cl : ConL} (hK : CfgOk P K) (w : World) (hcl : ∀ x ∈ cl, C1OK P (HP.old w) x.1 x.2) : ConOK P (envKC P K cl w) := by
  intro st W0 N h w1 f args vargs v h' n n' lg lg' c p hp he hc r ha hf
  have hp' : (match conK K f args with | some p => some p | none => conL cl f args) = some p := hp
  split at hp'
  · rename_i q hq
    cases hp'
    exact envK_con hK w st W0 N h w1 f args vargs v h' n n' lg lg' c _ hq he hc r ha hf
  · exact conL_ok (P := P) (E := { envK P K w with con := conL cl }) rfl hcl st W0 N h w1 f args vargs v h' n n' lg lg' c p hp' he hc r ha hf
theorem envKC_lcon (P : Program) (K : Cfg) (cl : ConL) (w : World) : LconOK P (envKC P K cl w) := by
  intro st W0 N h w1 g b tmps tmps' ax a h' n n' lg lg' c Q p hp
  cases hf : firstReg b <;> rw [hf] at hp <;> cases hp
theorem closed_callC {P : Program} {K : Cfg} {cl : ConL} (hK : CfgOk P K) (hm : P.follows .mixedOrders = true) {fuel : Nat} {f : FuncId} {args : List Value} {x : Value} (he : ∀ w, closedVal ((runCall P (envKC P K cl w) fuel f (vmap args)).run true .nil 0 []) = some x) {w : World} (hL : LaidOk K w) (hcl : ∀ x ∈ cl, C1OK P (HP.old w) x.1 x.2) :
    Calls P f args.toArray w fun e w' => e = .returned x ∧ Below w.heap.size w w' := by
  have he := he w
  cases hr : (runCall P (envKC P K cl w) fuel f (vmap args)).run true .nil 0 [] with
  | bad why => rw [hr] at he; cases he
  | ok v h' n' lg c =>
    rw [hr] at he
    cases c with
    | t =>
      refine (runCall_sound (envKC_ok hK hL) hm (envKC_con hK w hcl) (envKC_lcon P K cl w) hr trivial (rep_nil w) (VRs.vmap args) (fun _ _ _ => rfl)).mono ?_
      rintro e w' ⟨y, N', rfl, r', hv, _⟩
      have : y = x := val_VR he hv
      subst this
      exact ⟨rfl, r'.old_below⟩
    | _ => cases he
end Go.Proofs.YtpijbbobejeemaaGreatDoor.Eng
