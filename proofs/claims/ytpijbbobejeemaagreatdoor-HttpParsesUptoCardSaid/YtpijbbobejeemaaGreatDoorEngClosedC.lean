/- A closed call with contracts. No program. -/
import Derived.Test.YtpijbbobejeemaaGreatDoorEngClosed
import Derived.Test.YtpijbbobejeemaaGreatDoorEngUse
set_option linter.unusedVariables false
set_option linter.unusedSimpArgs false
namespace Go.Proofs.YtpijbbobejeemaaGreatDoor.Eng
open Go Go.RowKit
abbrev ConL := List (FuncId × (List AV → Option (AP AV)))
noncomputable def VP' (P : Program) (K : Cfg) (cl : ConL) (w : World) : Env :=
 { W := default, F := HP.old w, strict := true, info := fun t => P.info? t, fn := fun f => P.funcs[f]?, con := fun f args => match conK K f args with | some p => some p | none => conL cl f args, wk := fun _ _ => False, ow := fun _ _ => False, gd := fun _ _ _ => False, fc := fun _ _ => False, claim := fun _ _ _ => none, lcon := fun _ _ => none, same := V6' K.same, clone := V6' K.clone, laid := fun g => UB' g K.laid }
theorem ZJ' {P : Program} {K : Cfg} {cl : ConL} (hK : CfgOk P K) {w : World} (hL : PS' K w) : EnvOk P (VP' P K cl w) :=
 ⟨(E3' hK hL).wk, (E3' hK hL).ow, (E3' hK hL).gd, (E3' hK hL).fc, (E3' hK hL).info, (E3' hK hL).fn, (E3' hK hL).old, (E3' hK hL).laid, (E3' hK hL).clone, (E3' hK hL).same⟩
theorem VO' {P : Program} {K : Cfg} {cl : ConL} (hK : CfgOk P K) (w : World) (hcl : ∀ x ∈ cl, C1OK P (HP.old w) x.1 x.2) : JG' P (VP' P K cl w) := by
 intro st W0 N h w1 f args vargs v h' n n' lg lg' c p hp he hc r ha hf
 have hp' : (match conK K f args with | some p => some p | none => conL cl f args) = some p := hp
 split at hp'
 ·rename_i q hq
  cases hp'
  exact SC' hK w st W0 N h w1 f args vargs v h' n n' lg lg' c _ hq he hc r ha hf
 ·exact QM' (P := P) (E := { envK P K w with con := conL cl }) rfl hcl st W0 N h w1 f args vargs v h' n n' lg lg' c p hp' he hc r ha hf
theorem TA' (P : Program) (K : Cfg) (cl : ConL) (w : World) : ET' P (VP' P K cl w) := by
 intro st W0 N h w1 g b tmps tmps' ax a h' n n' lg lg' c Q p hp
 cases hf : CF' b <;> rw [hf] at hp <;> cases hp
theorem P7' {P : Program} {K : Cfg} {cl : ConL} (hK : CfgOk P K) (hm : P.follows .mixedOrders = true) {fuel : Nat} {f : FuncId} {args : List Value} {x : Value} (he : ∀ w, GY' ((DW' P (VP' P K cl w) fuel f (vmap args)).run true .nil 0 []) = some x) {w : World} (hL : PS' K w) (hcl : ∀ x ∈ cl, C1OK P (HP.old w) x.1 x.2) :
  Calls P f args.toArray w fun e w' => e = .returned x ∧ Below w.heap.size w w' := by
 have he := he w
 cases hr : (DW' P (VP' P K cl w) fuel f (vmap args)).run true .nil 0 [] with
 | bad why => rw [hr] at he; cases he
 | ok v h' n' lg c =>
  rw [hr] at he
  cases c with
  | t =>
   refine (EX' (ZJ' hK hL) hm (VO' hK w hcl) (TA' P K cl w) hr trivial (MO' w) (VRs.vmap args) (fun _ _ _ => rfl)).mono ?_
   rintro e w' ⟨y, N', rfl, r', hv, _⟩
   have : y = x := EA' he hv
   subst this
   exact ⟨rfl, r'.old_below⟩
  | _ => cases he
end Go.Proofs.YtpijbbobejeemaaGreatDoor.Eng
