/- An open run: what comes in is not known; what is left to be shown is handed on. No program. -/
import Derived.Test.YtjjjchmkonnpfaaEngCode2
set_option linter.unusedVariables false
set_option linter.unusedSimpArgs false
namespace Go.Proofs.Ytjjjchmkonnpfaa.Eng
open Go Go.RowKit
noncomputable section
def Out.isOk {α : Type} : Out α → Bool
  | .ok .. => true
  | .bad _ => false
def Out.cnd {α : Type} : Out α → Cnd
  | .ok _ _ _ _ c => c
  | .bad _ => .p False
def Out.val : Out AV → AV
  | .ok v _ _ _ _ => v
  | .bad _ => .any
def Out.heap {α : Type} : Out α → T
  | .ok _ h _ _ _ => h
  | .bad _ => .nil
def Out.names {α : Type} : Out α → Nat
  | .ok _ _ n _ _ => n
  | .bad _ => 0
def Out.why {α : Type} : Out α → String
  | .ok .. => "ok"
  | .bad w => w
theorem Out.eq_ok {o : Out AV} (h : o.isOk = true) : ∃ lg, o = .ok o.val o.heap o.names lg o.cnd := by
  cases o with
  | ok v h n lg c => exact ⟨lg, rfl⟩
  | bad => cases h
/-- The open run's environment: contracts, claims. -/
def envO (P : Program) (F : HP) (con : FuncId → List AV → Option (AP AV)) (claim : FuncId → Nat → Nat → Option Hint) (lcon : FuncId → Nat → Option (Code × (List AV → AP (AX × List AV)))) (W : World) : Env :=
  { W := W, F := F, strict := false, info := fun t => P.info? t, fn := fun f => P.funcs[f]?, wk := Wk, ow := OW, con := con, claim := claim, lcon := lcon, same := fun _ => false, clone := fun _ => false, laid := fun _ => none }
theorem envO_ok {P : Program} {F : HP} {con : FuncId → List AV → Option (AP AV)} {claim : FuncId → Nat → Nat → Option Hint} {lcon : FuncId → Nat → Option (Code × (List AV → AP (AX × List AV)))} {W : World} (hW : ∀ D w, F.on D w → ∀ a v, W.cell? a = some v → w.cell? a = some v) : EnvOk P (envO P F con claim lcon W) where
  wk := fun _ _ h => h
  ow := fun _ _ h => h
  info := fun _ _ h => h
  fn := fun _ _ h => h
  old := hW
  laid := fun D w' _ g vs h => by cases h
  same := fun f h => by cases h
  clone := fun f h => by cases h
theorem no_con {P : Program} {E : Env} (h : ∀ f args, E.con f args = none) : ConOK P E := by
  intro st W0 N h1 w f args vargs v h' n n' lg lg' c p hp
  rw [h] at hp; cases hp
theorem no_lcon {P : Program} {E : Env} (h : ∀ g i, E.lcon g i = none) : LconOK P E := by
  intro st W0 N h1 w g b tmps tmps' ax a h' n n' lg lg' c Q p hp
  cases hf : firstReg b with
  | none => rw [hf] at hp; cases hp
  | some i => rw [hf] at hp; rw [Option.bind_some, h] at hp; cases hp
/-- What an open run says. -/
theorem open_call {P : Program} {E : Env} (hE : EnvOk P E) (hm : P.follows .mixedOrders = true) (hcon : ConOK P E) (hl : LconOK P E) {fuel : Nat} {W0 : World} {N : Names} {h : T} {n : Nat} {w : World} {f : FuncId} {args : List AV} {vargs : Array Value}
    (hok : ((runCall P E fuel f args).run false h n []).isOk = true) (hc : ((runCall P E fuel f args).run false h n []).cnd.holds) (r : Rep W0 N E.F h w) (ha : VRs N args vargs.toList)
    (hf : Fresh N n ((runCall P E fuel f args).run false h n []).names) :
    Calls P f vargs w (CallPost W0 E.F N ((runCall P E fuel f args).run false h n []).val ((runCall P E fuel f args).run false h n []).heap n ((runCall P E fuel f args).run false h n []).names) := by
  obtain ⟨lg, hr⟩ := Out.eq_ok hok
  exact runCall_sound hE hm hcon hl hr hc r ha hf
/-- A run on values alone, with contracts and claims. -/
theorem open_pure {P : Program} (hm : P.follows .mixedOrders = true) {claim : FuncId → Nat → Nat → Option Hint} {fuel : Nat} {f : FuncId} {args : List Value} {x : Value} (w : World)
    (hok : ((runCall P (envO P (HP.old w) (fun _ _ => none) claim (fun _ _ => none) w) fuel f (vmap args)).run false .nil 0 []).isOk = true)
    (hv : ((runCall P (envO P (HP.old w) (fun _ _ => none) claim (fun _ _ => none) w) fuel f (vmap args)).run false .nil 0 []).val.val? = some x)
    (hc : ((runCall P (envO P (HP.old w) (fun _ _ => none) claim (fun _ _ => none) w) fuel f (vmap args)).run false .nil 0 []).cnd.holds) :
    Calls P f args.toArray w fun e w' => e = .returned x ∧ Below w.heap.size w w' := by
  refine (open_call (envO_ok (fun D w' hF a v hv => ?_)) hm (no_con fun _ _ => rfl) (no_lcon fun _ _ => rfl) hok hc (rep_nil w) (VRs.vmap args) (fun _ _ _ => rfl)).mono ?_
  · have hF' : (HP.old w).on D w' := hF
    have hlt : a.block < w.heap.size := by
      simp only [World.cell?] at hv
      cases hg : w.heap[a.block]? with
      | none => rw [hg] at hv; cases hv
      | some o => exact (Array.getElem?_eq_some_iff.1 hg).1
    simp only [World.cell?, hF'.2 _ hlt] at hv ⊢
    exact hv
  · rintro e w' ⟨y, N', rfl, r', hvr, _⟩
    have : y = x := val_VR hv hvr
    subst this
    exact ⟨rfl, r'.old_below⟩
end
end Go.Proofs.Ytjjjchmkonnpfaa.Eng
