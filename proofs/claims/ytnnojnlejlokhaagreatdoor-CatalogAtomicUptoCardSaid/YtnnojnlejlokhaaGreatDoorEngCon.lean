/- Contracts that read, then use; slices that tell less. No program. -/
import Derived.Test.YtnnojnlejlokhaaGreatDoorEngShut
set_option linter.unusedVariables false
set_option linter.unusedSimpArgs false
namespace Go.Proofs.YtnnojnlejlokhaaGreatDoor.Eng
open Go Go.RowKit
variable {P : Program} {W : World}
noncomputable section
inductive RO {α : Type} : AP α -> Prop where
 | ret (a : α) : RO (.ret a)
 | fail (why : String) : RO (.fail why)
 | read (i : Nat) (k : AO -> AP α) (h : ∀ o, RO (k o)) : RO (.read i k)
theorem RO.run {st : Bool} {α : Type} {p : AP α} (hp : RO p) : ∀ {h h' : T} {n n' : Nat} {lg lg' : Log} {a : α} {c : Cnd}, p.run st h n lg = .ok a h' n' lg' c -> h' = h /\ n' = n := by
 induction hp with
 | ret a => intro h h' n n' lg lg' b c he; cases he; exact ⟨rfl, rfl⟩
 | fail why => intro h h' n n' lg lg' b c he; cases he
 | read i k _ ih =>
  intro h h' n n' lg lg' b c he; obtain ⟨o, _, he⟩ := BM' he; exact ih o he
def mkC {π : Type} (get : List AV -> AP π) (pre : π -> Prop) (nm : π -> Nat -> Nat) (A : π -> List AV) (H : π -> LH) (rt : π -> RT) : List AV -> Option (AP AV) :=
 fun args => some ((get args).bind fun p => .need (pre p) (useC (nm p) (A p) args (H p) (rt p)))
theorem AU' {F : HP} (hF : AH' W F) {f : FuncId} {π : Type} {get : List AV -> AP π} {pre : π -> Prop} {nm : π -> Nat -> Nat} {A : π -> List AV} {H : π -> LH} {rt : π -> RT} (v0 : π -> AV)
  (hro : ∀ args, RO (get args)) (hv : ∀ p, (rt p).pick.2.1 = [v0 p]) (ht : ∀ p, pre p -> Tri P W f (A p) (H p) (v0 p) (rt p).pick.2.2) (hcl : ∀ p, ClosedC (A p) (H p) [v0 p] (rt p).pick.2.2) : C1OK P F f (mkC get pre nm A H rt) := by
 intro st W0 N h w args vargs v h' n n' lg lg' c p hp he hc r ha hf; cases hp; obtain ⟨a, g1, n1, lg1, c1, c2, e1, e2, k1⟩ := run_bind _ _ he; obtain ⟨rfl, rfl⟩ := (hro args).run e1; obtain ⟨c3, e3, rfl⟩ := AG' e2; obtain ⟨hp, hc3⟩ := (Cnd.and_iff _ _).1 (k1 hc).2; exact a8' hF (ht a hp) (hv a) (hcl a) e3 hc3 r ha hf
def mkL {π : Type} (get : List AV -> AP π) (pre : π -> Prop) (nm : π -> Nat -> Nat) (A : π -> List AV) (H : π -> LH) (rt : π -> RT) : List AV -> AP (AX × List AV) :=
 fun tmps => (get tmps).bind fun p => .need (pre p) (useG (nm p) (A p) tmps (H p) (rt p))
theorem BV' {F : HP} (hF : AH' W F) {b : Code} {π : Type} {get : List AV -> AP π} {pre : π -> Prop} {nm : π -> Nat -> Nat} {A : π -> List AV} {H : π -> LH} {rt : π -> RT}
  (hro : ∀ args, RO (get args)) (ht : ∀ p, pre p -> LTri P W b (A p) (H p) (rt p).pick.1 (rt p).pick.2.1 (rt p).pick.2.2) (hcl : ∀ p, ClosedC (A p) (H p) (rt p).pick.2.1 (rt p).pick.2.2) : L1OK P F b (mkL get pre nm A H rt) := by
 intro st W0 N h w tmps tmps' ax a h' n n' lg lg' c Q he hc r ha hf hK; obtain ⟨p, g1, n1, lg1, c1, c2, e1, e2, k1⟩ := run_bind _ _ he; obtain ⟨rfl, rfl⟩ := (hro tmps).run e1; obtain ⟨c3, e3, rfl⟩ := AG' e2; obtain ⟨hp, hc3⟩ := (Cnd.and_iff _ _).1 (k1 hc).2; exact TJ' hF (ht p hp) (hcl p) e3 hc3 r ha hf hK
structure VAll {α : Type} (Q : α -> List (Option AO) -> Nat -> Prop) (v : VT α) : Prop where
 out : v.all Q
theorem VAll.mono {α : Type} {Q Q' : α -> List (Option AO) -> Nat -> Prop} {v : VT α} (h : VAll Q v) (hq : ∀ a os n, Q a os n -> Q' a os n) : VAll Q' v := ⟨VT.all_mono hq h.out⟩
theorem tri_V {con : ConT} {claim : BI'} {lcon : JJ'} {f : FuncId} {A : List AV} {H H' : LH} {v : AV} (ks : List Nat) (fuel : Nat) (hm : P.follows .mixedOrders = true) (hH : AA' 1100 H = true)
  (hcon : ∀ F, AH' W F -> IB' P (envO P F con claim lcon W)) (hl : ∀ F, AH' W F -> DU' P (envO P F con claim lcon W))
  (hrun : ∀ F, AH' W F -> VAll (fun u os _ => Fits ks [u] os [v] H') (((D3' P (envO P F con claim lcon W) fuel f A).run2 (AK' H) 1100 []).view ks)) : Tri P W f A H v H' :=
 SD' ks fuel hm hH hcon hl fun F hF => (hrun F hF).out
theorem ltri_V {σ : Type} {con : σ -> ConT} {claim : σ -> BI'} {lcon : σ -> JJ'} {g : FuncId} {b : Code} (m : Nat) (A : σ -> List (Nat × AV)) (H : σ -> LH) (ax : AX) (Z : List (Nat × AV)) (HZ : LH) (μ : σ -> Nat) (ks idx : List Nat) (fuel : Nat) (hm : P.follows .mixedOrders = true) (hax : ax ≠ .normal)
  (hH : ∀ s, AA' 1100 (H s) = true) (hZ : AA' 1100 HZ = true)
  (hcon : ∀ s F, AH' W F -> IB' P (envO P F (con s) (claim s) (lcon s) W)) (hl : ∀ s F, AH' W F -> DU' P (envO P F (con s) (claim s) (lcon s) W))
  (hstep : ∀ s F, AH' W F -> VAll (fun r os _ => r.2.2 = m /\
   ((r.1 = .normal /\ ∃ s', μ s' < μ s /\ ∃ l, FitT ks idx r.2.1 os (A s') (H s') l) \/ (r.1 = ax /\ ∃ l, FitT ks idx r.2.1 os Z HZ l))) ((((CT' P (envO P F (con s) (claim s) (lcon s) W) fuel g b (tms 0 m (A s))).run2 (AK' (H s)) 1100 []).view ks).map (aM' idx))) (s : σ) :
  LTri P W b (tms 0 m (A s)) (H s) ax (tms 0 m Z) HZ :=
 XH' m A H ax Z HZ μ ks idx fuel hm hax hH hZ hcon hl (fun s F hF => (hstep s F hF).out) s
theorem A0' {α : Type} {p : α -> Prop} {x : α} {l : List α} (h : p x) (hl : ∀ y ∈ l, p y) : ∀ y ∈ x :: l, p y := fun y hy => by
 rcases List.mem_cons.1 hy with rfl | hy
 ·exact h
 ·exact hl y hy
theorem A1' {α : Type} {p : α -> Prop} : ∀ y ∈ ([] : List α), p y := fun y hy => by cases hy
theorem BD' {m : Nat} {told told' : List (Nat × AV)} {H H' : LH} (h : AA' 1100 H = true) (h' : AA' 1100 H' = true) (a : ∀ x ∈ told, AV.cl (kH H) x.2) (o : ∀ x ∈ H, x.2.cl (kH H)) (v : ∀ x ∈ told', AV.cl (kR H H') x.2) (o' : ∀ x ∈ H', x.2.cl (kR H H')) :
  ClosedC (tms 0 m told) H (tms 0 m told') H' := ⟨h, h', MR' a m 0, o, MR' v m 0, o'⟩
theorem Cp.fits_lo {cap : Cp} {c k : Nat} (h : cap.fits c) (hk : k <= cap.least) : (Cp.lo k).fits c := by
 cases cap with
 | ex m => simp only [Cp.fits, Cp.least] at *; omega
 | lo m => simp only [Cp.fits, Cp.least] at *; omega
theorem YH' {i off len sz k : Nat} {cap : Cp} (hk : k <= cap.least) : Wk (.slice i off len sz cap) (.slice i off len sz (.lo k)) := fun N y h => by
 simp only [VR] at h ⊢; obtain ⟨l, x, c, h1, h2, h3, h4, h5, h6⟩ := h; exact ⟨l, x, c, h1, h2, h3, h4, Cp.fits_lo h5 hk, h6⟩
end
end Go.Proofs.YtnnojnlejlokhaaGreatDoor.Eng
