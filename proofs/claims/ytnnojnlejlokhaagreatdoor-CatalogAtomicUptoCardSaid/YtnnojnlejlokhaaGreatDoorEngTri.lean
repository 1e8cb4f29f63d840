/- Contracts of functions and loops on named heaps: from an open run; for a caller. No program. -/
import Derived.Test.YtnnojnlejlokhaaGreatDoorEngOwn
import Derived.Test.YtnnojnlejlokhaaGreatDoorEngFork
set_option linter.unusedVariables false
set_option linter.unusedSimpArgs false
namespace Go.Proofs.YtnnojnlejlokhaaGreatDoor.Eng
open Go Go.RowKit
variable {i : Nat} {W w W0 : World} {F : HP} {N : A9'} {h : T} {ks : List Nat} {vs vs' : List AV} {P : Program}
noncomputable section
abbrev LH := List (Nat × AO)
def AK' : LH -> T
 | [] => .nil
 | x :: l => T.set T.depth (AK' l) x.1 (.leaf x.2)
def AA' (b : Nat) (H : LH) : Bool := H.all fun x => Nat.blt x.1 b
theorem AE' : ∀ {H : LH}, AA' T.limit H = true -> ∀ i, (AK' H).find i = getO H i
 | [], _, i => I2' i
 | x :: l, h, i => by
  simp only [AA', List.all_cons, Bool.and_eq_true, Nat.blt_eq] at h; rw [AK', T.find_set h.1, getO]
  by_cases e : i = x.1
  ·rw [if_pos e, if_pos e]; rfl
  ·rw [if_neg e, if_neg e]; exact AE' h.2 i
theorem BC' : ∀ {H : LH} {i : Nat} {o : AO}, getO H i = some o -> (i, o) ∈ H
 | x :: l, i, o, h => by
  rw [getO] at h; split at h
  ·rename_i e; cases h; subst e; exact List.mem_cons_self
  ·exact List.mem_cons_of_mem _ (BC' h)
theorem EE' : ∀ {H : LH} {x : Nat × AO}, x ∈ H -> ∃ o, getO H x.1 = some o
 | y :: l, x, h => by
  rw [getO]; split
  ·exact ⟨_, rfl⟩
  ·rename_i e
   rcases List.mem_cons.1 h with rfl | h
   ·exact absurd rfl e
   ·exact EE' h
theorem BN' {a b : Nat} (hab : a <= b) {H : LH} (h : AA' a H = true) : AA' b H = true := by
 simp only [AA', List.all_eq_true, Nat.blt_eq] at h ⊢
 exact fun x hx => Nat.lt_of_lt_of_le (h x hx) hab
theorem PT' {b : Nat} {H : LH} (h : AA' b H = true) {o : AO} (hi : getO H i = some o) : i < b := by
 simp only [AA', List.all_eq_true, Nat.blt_eq] at h; exact h _ (BC' hi)
def NB (N : A9') (H : LH) : Prop := ∀ i, 1000 <= i -> getO H i = none -> N i = none
def St (W0 : World) (F : HP) (N : A9') (H : LH) (avs : List AV) (vals : List Value) (w : World) : Prop :=
 ∃ N', (∀ i, i < 1000 -> N' i = N i) /\ NB N' H /\ Rep W0 N' F (AK' H) w /\ VRs N' avs vals
def AH' (W : World) (F : HP) : Prop := ∀ D w, F.on D w -> ∀ (a : Addr) (v : Value), W.cell? a = some v -> w.cell? a = some v
theorem AH'.nothing (F : HP) : AH' default F := fun D w _ a v hv => by
 have h1 : (default : World).heap[a.block]? = none := by show (#[] : Array Obj)[a.block]? = none; simp
 simp only [World.cell?, h1] at hv; cases hv
theorem I6' (h : ∀ (a : Addr) (v : Value), W.cell? a = some v -> w.cell? a = some v) (a : Addr) (v : Value) (hv : W.cell? a = some v) : w.cell? a = some v := h a v hv
theorem AH'.cell (h : AH' W F) : ∀ D w, F.on D w -> ∀ a v, W.cell? a = some v -> w.cell? a = some v := h
theorem AH'.self (W : World) : AH' W (HP.old W) := by
 intro D w' hF a v hv; have hF' : (HP.old W).on D w' := hF
 have hlt : a.block < W.heap.size := by
  simp only [World.cell?] at hv
  cases hg : W.heap[a.block]? with
  | none => rw [hg] at hv; cases hv
  | some o => exact (Array.getElem?_eq_some_iff.1 hg).1
 simp only [World.cell?, hF'.2 _ hlt] at hv ⊢; exact hv
def Tri (P : Program) (W : World) (f : FuncId) (A : List AV) (H : LH) (v : AV) (H' : LH) : Prop :=
 ∀ (W0 : World) (F : HP) (N : A9') (w : World) (vargs : Array Value), AH' W F -> NB N H -> Rep W0 N F (AK' H) w -> VRs N A vargs.toList ->
  Calls P f vargs w fun e w' => ∃ y, e = .returned y /\ St W0 F N H' [v] [y] w'
def LTri (P : Program) (W : World) (b : Code) (A : List AV) (H : LH) (ax : AX) (A' : List AV) (H' : LH) : Prop :=
 ∀ (W0 : World) (F : HP) (N : A9') (w : World) (a : Act) (Q : Exit -> Act -> World -> Prop), AH' W F -> NB N H -> Rep W0 N F (AK' H) w -> VRs N A a.tmps.toList ->
  (∀ a' w', St W0 F N H' A' a'.tmps.toList w' -> a'.defers = a.defers -> Q (EU' ax) a' w') -> (Code.loop b).wp P Q a w
def sg : List (Nat × Nat) -> Nat -> Nat
 | [], i => match Nat.blt i 1000 with | true => i | false => i + T.limit
 | x :: l, i => match Nat.beq i x.1 with | true => x.2 | false => sg l i
def KH' (H : LH) (l : List (Nat × Nat)) : Bool := l.all fun x => Nat.ble 1000 x.1 && (H.any fun y => Nat.beq y.1 x.1)
def injB (ns : List Nat) (σ : Nat -> Nat) : Bool := ns.all fun i => ns.all fun j => Nat.beq i j || !(Nat.beq (σ i) (σ j))
theorem sg_low {l : List (Nat × Nat)} {H : LH} (h : KH' H l = true) (hi : i < 1000) : sg l i = i := by
 induction l with
 | nil => have h0 : Nat.blt i 1000 = true := by rw [Nat.blt_eq]; exact hi
          rw [sg, h0]
 | cons x l ih =>
  simp only [KH', List.all_cons, Bool.and_eq_true, Nat.ble_eq] at h
  have : Nat.beq i x.1 = false := by
   cases hb : Nat.beq i x.1 with
   | false => rfl
   | true => have := Nat.eq_of_beq_eq_true hb; omega
  rw [sg, this]; exact ih h.2
theorem aK' {l : List (Nat × Nat)} {H : LH} (h : KH' H l = true) (hi : 1000 <= i) (hn : getO H i = none) : sg l i = i + T.limit := by
 induction l with
 | nil =>
  have : Nat.blt i 1000 = false := by
   cases hb : Nat.blt i 1000 with
   | false => rfl
   | true => rw [Nat.blt_eq] at hb; omega
  rw [sg, this]
 | cons x l ih =>
  simp only [KH', List.all_cons, Bool.and_eq_true, Nat.ble_eq] at h
  have : Nat.beq i x.1 = false := by
   cases hb : Nat.beq i x.1 with
   | false => rfl
   | true =>
    have e := Nat.eq_of_beq_eq_true hb; obtain ⟨y, hy, e2⟩ := List.any_eq_true.1 h.1.2; obtain ⟨o, ho⟩ := EE' hy; rw [Nat.eq_of_beq_eq_true e2, <- e, hn] at ho; cases ho
  rw [sg, this]; exact ih h.2
theorem KL' {H : LH} {σ : Nat -> Nat} (h : injB (H.map (·.1)) σ = true) {j : Nat} {o o' : AO} (hi : getO H i = some o) (hj : getO H j = some o') (hne : i ≠ j) : σ i ≠ σ j := by
 simp only [injB, List.all_eq_true, List.mem_map, Bool.or_eq_true, Bool.not_eq_true', forall_exists_index, and_imp, forall_apply_eq_imp_iff₂] at h; intro e
 rcases h _ (BC' hi) _ (BC' hj) with h | h
 ·exact hne (Nat.eq_of_beq_eq_true h)
 ·exact Nat.ne_of_beq_eq_false h e
theorem Rep.pull (r : Rep W0 N F h w) {H : LH} {σ : Nat -> Nat} (hb : AA' T.limit H = true) (hinj : injB (H.map (·.1)) σ = true)
  (hf : ∀ x ∈ H, ∃ o, h.find (σ x.1) = some o /\ OW o (x.2.ren σ)) : Rep W0 (fun i => N (σ i)) F (AK' H) w := by
 obtain ⟨D0, D, h1, h2, h3⟩ := r.sat
 refine ⟨r.os, r.tape, r.output, D0, fun i => D (σ i), h1, fun i o hi => ?_, fun i j o o' hi hj hij => ?_⟩
 ·rw [AE' hb] at hi; obtain ⟨o1, e1, e2⟩ := hf _ (BC' hi); exact ⟨PF'.1 (e2 _ _ _ _ (h2 _ _ e1).1), (h2 _ _ e1).2⟩
 ·rw [AE' hb] at hi hj; obtain ⟨o1, e1, _⟩ := hf _ (BC' hi); obtain ⟨o2, e2, _⟩ := hf _ (BC' hj); exact h3 _ _ _ _ e1 e2 (KL' hinj hi hj hij)
theorem E3' {st : Bool} {α : Type} (p : AP α) : ∀ {h : T} {n : Nat} {lg : Log} {r : α} {h' : T} {n' : Nat} {lg' : Log} {c : Cnd}, p.run st h n lg = .ok r h' n' lg' c -> n <= T.limit -> n' <= T.limit := by
 induction p with
 | ret a => intro h n lg r h' n' lg' c he hn; cases he; exact hn
 | fail why => intro h n lg r h' n' lg' c he; cases he
 | read i k ih => intro h n lg r h' n' lg' c he; obtain ⟨o, _, he⟩ := BM' he; exact ih o he
 | write i o k ih => intro h n lg r h' n' lg' c he; obtain ⟨o, _, he⟩ := B2' he; exact ih he
 | kill i k ih => intro h n lg r h' n' lg' c he; obtain ⟨o, _, he⟩ := EJ' he; exact ih he
 | new o k ih => intro h n lg r h' n' lg' c he _; obtain ⟨hn, he⟩ := BX' he; exact ih n he hn
 | need p k ih => intro h n lg r h' n' lg' c he; obtain ⟨_, he, _⟩ := AG' he; exact ih he
 | ite b x y ihx ihy =>
  intro h n lg r h' n' lg' c he
  cases b with
  | true => exact ihx he
  | false => exact ihy he
 | listen p k ihp ih =>
  intro h n lg r h' n' lg' c he hn; obtain ⟨v, h1, n1, l1, c1, c2, hp, he, _⟩ := E2' he; exact ih v l1 n n1 he (ihp hp hn)
def getK : List Nat -> List (Option AO) -> Nat -> Option AO
 | k :: ks, o :: os, i => match Nat.beq i k with | true => o | false => getK ks os i
 | _, _, _ => none
theorem OK' {h : T} : ∀ {ks : List Nat} {i : Nat} {o : AO}, getK ks (ks.map h.find) i = some o -> h.find i = some o
 | k :: ks, i, o, hk => by
  rw [List.map_cons, getK] at hk
  cases hb : Nat.beq i k with
  | true => rw [hb] at hk; rw [Nat.eq_of_beq_eq_true hb]; exact hk
  | false => rw [hb] at hk; exact OK' hk
structure Fit (ks : List Nat) (vs : List AV) (os : List (Option AO)) (vs' : List AV) (H' : LH) (l : List (Nat × Nat)) : Prop where
 keys : KH' H' l = true
 inj : injB (H'.map (·.1)) (sg l) = true
 vals : ∀ N ys, VRs N vs ys -> VRs N (AV.rens (sg l) vs') ys
 objs : ∀ x ∈ H', ∃ o, getK ks os (sg l x.1) = some o /\ OW o (x.2.ren (sg l))
theorem Fit.state {H' : LH} {l : List (Nat × Nat)} {N1 : A9'} {n : Nat} {ys : List Value} (hf : Fit ks vs (ks.map h.find) vs' H' l) (hb : AA' 1100 H' = true)
  (r : Rep W0 N1 F h w) (hx : Ext N N1 1100 n) (hn : n <= T.limit) (hN : ∀ i, 1100 <= i -> N i = none) (hv : VRs N1 vs ys) :
  ∃ N', (∀ i, i < 1000 -> N' i = N i) /\ NB N' H' /\ Rep W0 N' F (AK' H') w /\ VRs N' vs' ys := by
 refine ⟨fun i => N1 (sg l i), fun i hi => ?_, fun i hi hg => ?_, r.pull (BN' δ hb) hf.inj fun x hx => ?_, ET'.1 (hf.vals _ _ hv)⟩
 ·show N1 (sg l i) = N i; rw [sg_low hf.keys hi]; exact hx i ω
 ·show N1 (sg l i) = none; rw [aK' hf.keys hi hg, hx _ ω]; have : T.limit = 1048576 := rfl; exact hN _ ω
 ·obtain ⟨o, h1, h2⟩ := hf.objs x hx; exact ⟨o, OK' h1, h2⟩
theorem NB.nothing {H : LH} (h : NB N H) (hb : AA' 1100 H = true) (hi : 1100 <= i) : N i = none := by
 refine h i ω ?_
 cases hg : getO H i with
 | none => rfl
 | some o => have := PT' hb hg; omega
def Goes (vs : List AV) (H : LH) (vs' : List AV) (H' : LH) : Prop := ∀ W0 F N ys w, St W0 F N H vs ys w -> St W0 F N H' vs' ys w
theorem Goes.refl (vs : List AV) (H : LH) : Goes vs H vs H := fun _ _ _ _ _ h => h
def Fits (ks : List Nat) (vs : List AV) (os : List (Option AO)) (vs' : List AV) (H' : LH) : Prop :=
 ∃ vs1 H1 l, AA' 1100 H1 = true /\ Fit ks vs os vs1 H1 l /\ Goes vs1 H1 vs' H'
theorem Fit.fits {os : List (Option AO)} {H' : LH} {l : List (Nat × Nat)} (h : Fit ks vs os vs' H' l) (hb : AA' 1100 H' = true) : Fits ks vs os vs' H' := ⟨_, _, l, hb, h, Goes.refl _ _⟩
theorem Fits.state {H' : LH} {N1 : A9'} {n : Nat} {ys : List Value} (hf : Fits ks vs (ks.map h.find) vs' H')
  (r : Rep W0 N1 F h w) (hx : Ext N N1 1100 n) (hn : n <= T.limit) (hN : ∀ i, 1100 <= i -> N i = none) (hv : VRs N1 vs ys) : St W0 F N H' vs' ys w := by
 obtain ⟨vs1, H1, l, hb, hfit, hg⟩ := hf; exact hg _ _ _ _ _ (hfit.state hb r hx hn hN hv)
abbrev ConT := FuncId -> List AV -> Option (AP AV)
abbrev BI' := FuncId -> Nat -> Nat -> Option Hint
abbrev JJ' := FuncId -> Nat -> Option (Code × (List AV -> AP (AX × List AV)))
theorem AH'.env {con : ConT} {claim : BI'} {lcon : JJ'} (h : AH' W F) : EnvOk P (envO P F con claim lcon W) := g5' h.cell
theorem SD' {con : ConT} {claim : BI'} {lcon : JJ'} {f : FuncId} {A : List AV} {H H' : LH} {v : AV} (ks : List Nat) (fuel : Nat) (hm : P.follows .mixedOrders = true) (hH : AA' 1100 H = true)
  (hcon : ∀ F, AH' W F -> IB' P (envO P F con claim lcon W)) (hl : ∀ F, AH' W F -> DU' P (envO P F con claim lcon W))
  (hrun : ∀ F, AH' W F -> (((D3' P (envO P F con claim lcon W) fuel f A).run2 (AK' H) 1100 []).view ks).all fun u os _ => Fits ks [u] os [v] H') : Tri P W f A H v H' := by
 intro W0 F N w vargs hF hN r ha; obtain ⟨u, h', n', lg', c, he, hc, hfit⟩ := VT.all_pick (hrun F hF); rw [E6'] at he; refine (DB' hF.env hm (hcon F hF) (hl F hF) he hc r ha (fun i h1 h2 => hN.nothing hH h1)).mono ?_; rintro e w' ⟨y, N1, rfl, r1, hv, hx⟩; exact ⟨y, rfl, hfit.state r1 hx (E3' _ he δ) (fun i hi => hN.nothing hH hi) (AD'.2 ⟨hv, AX'⟩)⟩
theorem UF' {σ : Type} {con : σ -> ConT} {claim : σ -> BI'} {lcon : σ -> JJ'} {g : FuncId} {b : Code} (A : σ -> List AV) (H : σ -> LH) (R : σ -> AX × List AV × LH) (μ : σ -> Nat) (ks : List Nat) (fuel : Nat) (hm : P.follows .mixedOrders = true)
  (hH : ∀ s, AA' 1100 (H s) = true)
  (hcon : ∀ s F, AH' W F -> IB' P (envO P F (con s) (claim s) (lcon s) W)) (hl : ∀ s F, AH' W F -> DU' P (envO P F (con s) (claim s) (lcon s) W))
  (hstep : ∀ s F, AH' W F -> (((CT' P (envO P F (con s) (claim s) (lcon s) W) fuel g b (A s)).run2 (AK' (H s)) 1100 []).view ks).all fun r os _ =>
   (r.1 = .normal /\ ∃ s', μ s' < μ s /\ R s' = R s /\ ∃ l, Fit ks r.2 os (A s') (H s') l) \/ (r.1 ≠ .normal /\ r.1 = (R s).1 /\ Fits ks r.2 os (R s).2.1 (R s).2.2)) (s : σ) :
  LTri P W b (A s) (H s) (R s).1 (R s).2.1 (R s).2.2 := by
 intro W0 F N w a Q hF hN r ha hK; refine wp_loop_rounds (μ s + 1) ?_
 have key : ∀ (m : Nat) (s : σ), μ s < m -> ∀ (N1 : A9') (w : World) (a1 : Act), (∀ i, i < 1000 -> N1 i = N i) -> NB N1 (H s) -> Rep W0 N1 F (AK' (H s)) w -> VRs N1 (A s) a1.tmps.toList -> a1.defers = a.defers ->
   (∀ a' w', St W0 F N (R s).2.2 (R s).2.1 a'.tmps.toList w' -> a'.defers = a.defers -> Q (EU' (R s).1) a' w') -> Code.rounds P b Q m a1 w := by
  intro m
  induction m with
  | zero => intro s hs; omega
  | succ m ih =>
   intro s hs N1 w a1 hN1 hNB r ha hd hK; rw [rounds_succ]; obtain ⟨⟨ax, t⟩, h', n', lg', c, he, hc, hq⟩ := VT.all_pick (hstep s F hF); rw [E6'] at he
   refine (DA' hF.env hm (hcon s F hF) (hl s F hF) fuel).1 _ _ _ _ _ _ _ _ _ _ _ _ _ _ _ _ _ _ he hc r ha (fun i h1 h2 => hNB.nothing (hH s) h1) fun N2 a2 w2 r2 t2 d2 x2 => ?_
   have hlim := E3' _ he δ
   have hN0 : ∀ i, 1100 <= i -> N1 i = none := fun i hi => hNB.nothing (hH s) hi
   rcases hq with ⟨h1, s', hμ, hR', l, hfit⟩ | ⟨h1, h2, hfit⟩
   ·simp only at h1; subst h1; obtain ⟨N3, q1, q2, q3, q4⟩ := hfit.state (hH s') r2 x2 hlim hN0 t2; show Code.rounds P b Q m a2 w2; refine ih s' ω N3 w2 a2 (fun i hi => (q1 i hi).trans (hN1 i hi)) q2 q3 q4 (d2.trans hd) ?_; rw [hR']; exact hK
   ·obtain ⟨N3, q1, q2, q3, q4⟩ := hfit.state r2 x2 hlim hN0 t2; simp only at h1 h2
    have hfin := hK a2 w2 ⟨N3, fun i hi => (q1 i hi).trans (hN1 i hi), q2, q3, q4⟩ (d2.trans hd)
    rw [<- h2] at hfin
    cases ax with
    | normal => exact absurd rfl h1
    | exit id => exact hfin
    | ret => exact hfin
 exact key _ s ω N w a (fun _ _ => rfl) hN r ha rfl hK
end
end Go.Proofs.YtnnojnlejlokhaaGreatDoor.Eng
