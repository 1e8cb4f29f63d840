/- Parts of the proof, merged. -/
import Derived.Test.YtdphpillcaajpaaGreatDoorEngFam
import Derived.Test.YtdphpillcaajpaaGreatDoorEngKit
import Derived.Test.YtdphpillcaajpaaGreatDoorEngRow
set_option linter.unusedVariables false
set_option linter.unusedSimpArgs false
namespace Go.Proofs.YtdphpillcaajpaaGreatDoor.Eng
open Go Go.RowKit
theorem LTri.pre {P : Program} {W : World} {b : Code} {A A1 : List AV} {H H1 : LH} {ax : AX} {A' : List AV} {H' : LH} (hg : Goes A H A1 H1) (h : LTri P W b A1 H1 ax A' H') : LTri P W b A H ax A' H' := by
 intro W0 F N w a Q hF hN r ha hK
 obtain ⟨N', q1, q2, q3, q4⟩ := hg W0 F N a.tmps.toList w ⟨N, fun _ _ => rfl, hN, r, ha⟩
 exact h W0 F N' w a Q hF q2 q3 q4 fun a' w' ⟨N2, p1, p2, p3, p4⟩ hd => hK a' w' ⟨N2, fun i hi => (p1 i hi).trans (q1 i hi), p2, p3, p4⟩ hd
theorem LTri.post {P : Program} {W : World} {b : Code} {A : List AV} {H : LH} {ax : AX} {A' A2 : List AV} {H' H2 : LH} (h : LTri P W b A H ax A' H') (hg : Goes A' H' A2 H2) : LTri P W b A H ax A2 H2 := by
 intro W0 F N w a Q hF hN r ha hK
 exact h W0 F N w a Q hF hN r ha fun a' w' hs hd => hK a' w' (hg _ _ _ _ _ hs) hd
def VQ' (m : Nat) (ks idx : List Nat) (ts : List AV) (os : List (Option AO)) (told : List (Nat × AV)) (H : LH) : Prop := ∃ told1 H1 l, AF' 1100 H1 = true ∧ FitT ks idx ts os told1 H1 l ∧ Goes (tms 0 m told1) H1 (tms 0 m told) H
theorem FitT.fits {m : Nat} {ks idx : List Nat} {ts : List AV} {os : List (Option AO)} {told : List (Nat × AV)} {H : LH} {l : List (Nat × Nat)} (h : FitT ks idx ts os told H l) (hH : AF' 1100 H = true) : VQ' m ks idx ts os told H := ⟨told, H, l, hH, h, Goes.refl _ _⟩
end Go.Proofs.YtdphpillcaajpaaGreatDoor.Eng
namespace Go.Proofs.YtdphpillcaajpaaGreatDoor.Kit
open Go Go.RowKit Eng
end Go.Proofs.YtdphpillcaajpaaGreatDoor.Kit
namespace Go.Proofs.YtdphpillcaajpaaGreatDoor.Eng
open Go Go.RowKit
def SA' (ks : List Nat) (vs : List AV) (os : List (Option AO)) (Q : World → HP → A8' → List Value → World → Prop) : Prop :=
 ∃ vs1 H1 l, AF' 1100 H1 = true ∧ Fit ks vs os vs1 H1 l ∧ ∀ W0 F N ys w, St W0 F N H1 vs1 ys w → Q W0 F N ys w
theorem SA'.state {ks : List Nat} {vs : List AV} {Q : World → HP → A8' → List Value → World → Prop} {W0 w : World} {N N1 : A8'} {F : HP} {h : T} {n : Nat} {ys : List Value} (hf : SA' ks vs (ks.map h.find) Q)
  (r : Rep W0 N1 F h w) (hx : Ext N N1 1100 n) (hn : n ≤ T.limit) (hN : ∀ i, 1100 ≤ i → N i = none) (hv : VRs N1 vs ys) : Q W0 F N ys w := by
 obtain ⟨vs1, H1, l, hb, hfit, hg⟩ := hf
 obtain ⟨N', q1, q2, q3, q4⟩ := hfit.state hb r hx hn hN hv
 exact hg W0 F N ys w ⟨N', q1, q2, q3, q4⟩
theorem RH' {P : Program} {σ : Type} {con : σ → ConT} {claim : σ → B8'} {lcon : σ → KB'} {W : World} {g : FuncId} {b : Code} (A : σ → List AV) (H : σ → LH) (ax0 : AX) (Z : List AV) (HZ : LH) (hax : ax0 ≠ .normal) (μ : σ → Nat) (ks : List Nat) (fuel : Nat) (hm : P.follows .mixedOrders = true)
  (hH : ∀ s, AF' 1100 (H s) = true)
  (hcon : ∀ s F, AK' W F → G6' P (envO P F (con s) (claim s) (lcon s) W)) (hl : ∀ s F, AK' W F → CZ' P (envO P F (con s) (claim s) (lcon s) W))
  (hstep : ∀ s F, AK' W F → (((C7' P (envO P F (con s) (claim s) (lcon s) W) fuel g b (A s)).run2 (AX' (H s)) 1100 []).view ks).all fun r os _ =>
   (r.1 = .normal ∧ SA' ks r.2 os fun W0 F N ys w => ∃ s', μ s' < μ s ∧ St W0 F N (H s') (A s') ys w) ∨ (r.1 = ax0 ∧ SA' ks r.2 os fun W0 F N ys w => St W0 F N HZ Z ys w)) (s : σ) :
  LTri P W b (A s) (H s) ax0 Z HZ := by
 intro W0 F N w a Q hF hN r ha hK
 refine wp_loop_rounds (μ s + 1) ?_
 have key : ∀ (m : Nat) (s : σ), μ s < m → ∀ (N1 : A8') (w : World) (a1 : Act), (∀ i, i < 1000 → N1 i = N i) → NB N1 (H s) → Rep W0 N1 F (AX' (H s)) w → VRs N1 (A s) a1.tmps.toList → a1.defers = a.defers →
   Code.rounds P b Q m a1 w := by
  intro m
  induction m with
  | zero => intro s hs; omega
  | succ m ih =>
   intro s hs N1 w a1 hN1 hNB r ha hd
   rw [rounds_succ]
   obtain ⟨⟨ax, t⟩, h', n', lg', c, he, hc, hq⟩ := VT.all_pick (hstep s F hF)
   rw [DT'] at he
   refine (CG' hF.env hm (hcon s F hF) (hl s F hF) fuel).1 _ _ _ _ _ _ _ _ _ _ _ _ _ _ _ _ _ _ he hc r ha (fun i h1 h2 => hNB.nothing (hH s) h1) fun N2 a2 w2 r2 t2 d2 x2 => ?_
   have hlim := DS' _ he (by decide)
   have hN0 : ∀ i, 1100 ≤ i → N1 i = none := fun i hi => hNB.nothing (hH s) hi
   rcases hq with ⟨h1, hfit⟩ | ⟨h2, hfit⟩
   ·simp only at h1
    subst h1
    obtain ⟨s', hμ, N3, q1, q2, q3, q4⟩ := hfit.state r2 x2 hlim hN0 t2
    show Code.rounds P b Q m a2 w2
    exact ih s' (by omega) N3 w2 a2 (fun i hi => (q1 i hi).trans (hN1 i hi)) q2 q3 q4 (d2.trans hd)
   ·obtain ⟨N3, q1, q2, q3, q4⟩ := hfit.state r2 x2 hlim hN0 t2
    simp only at h2
    have hfin := hK a2 w2 ⟨N3, fun i hi => (q1 i hi).trans (hN1 i hi), q2, q3, q4⟩ (d2.trans hd)
    rw [← h2] at hfin hax
    cases ax with
    | normal => exact absurd rfl hax
    | exit id => exact hfin
    | ret => exact hfin
 exact key _ s (by omega) N w a (fun _ _ => rfl) hN r ha rfl
def IM' (m : Nat) (ks idx : List Nat) (ts : List AV) (os : List (Option AO)) (Q : World → HP → A8' → List Value → World → Prop) : Prop :=
 ∃ told1 H1 l, AF' 1100 H1 = true ∧ FitT ks idx ts os told1 H1 l ∧ ∀ W0 F N ys w, St W0 F N H1 (tms 0 m told1) ys w → Q W0 F N ys w
theorem VQ'.e {m : Nat} {ks idx : List Nat} {ts : List AV} {os : List (Option AO)} {told : List (Nat × AV)} {H : LH} (h : VQ' m ks idx ts os told H) : IM' m ks idx ts os fun W0 F N ys w => St W0 F N H (tms 0 m told) ys w := by
 obtain ⟨t1, H1, l, hb, hf, hg⟩ := h
 exact ⟨t1, H1, l, hb, hf, fun W0 F N ys w => hg W0 F N ys w⟩
theorem VQ'.one {m : Nat} {ks idx : List Nat} {ts : List AV} {os : List (Option AO)} {σ : Type} {A : σ → List (Nat × AV)} {H : σ → LH} {μ : σ → Nat} {k : Nat} (s' : σ) (hμ : μ s' < k) (h : VQ' m ks idx ts os (A s') (H s')) :
  IM' m ks idx ts os fun W0 F N ys w => ∃ s', μ s' < k ∧ St W0 F N (H s') (tms 0 m (A s')) ys w := by
 obtain ⟨t1, H1, l, hb, hf, hg⟩ := h
 exact ⟨t1, H1, l, hb, hf, fun W0 F N ys w hs => ⟨s', hμ, hg W0 F N ys w hs⟩⟩
theorem TU' {P : Program} {σ : Type} {con : σ → ConT} {claim : σ → B8'} {lcon : σ → KB'} {W : World} {g : FuncId} {b : Code} (m : Nat) (A : σ → List (Nat × AV)) (H : σ → LH) (ax : AX) (Z : List (Nat × AV)) (HZ : LH) (μ : σ → Nat) (ks idx : List Nat) (fuel : Nat) (hm : P.follows .mixedOrders = true) (hax : ax ≠ .normal)
  (hH : ∀ s, AF' 1100 (H s) = true)
  (hcon : ∀ s F, AK' W F → G6' P (envO P F (con s) (claim s) (lcon s) W)) (hl : ∀ s F, AK' W F → CZ' P (envO P F (con s) (claim s) (lcon s) W))
  (hstep : ∀ s F, AK' W F → VAll (fun r os _ => r.2.2 = m ∧
   ((r.1 = .normal ∧ IM' m ks idx r.2.1 os fun W0 F N ys w => ∃ s', μ s' < μ s ∧ St W0 F N (H s') (tms 0 m (A s')) ys w) ∨ (r.1 = ax ∧ IM' m ks idx r.2.1 os fun W0 F N ys w => St W0 F N HZ (tms 0 m Z) ys w))) ((((C7' P (envO P F (con s) (claim s) (lcon s) W) fuel g b (tms 0 m (A s))).run2 (AX' (H s)) 1100 []).view ks).map (W2' idx))) (s : σ) :
  LTri P W b (tms 0 m (A s)) (H s) ax (tms 0 m Z) HZ :=
 RH' (σ := σ) (con := con) (claim := claim) (lcon := lcon) (g := g) (fun s => tms 0 m (A s)) H ax (tms 0 m Z) HZ hax μ ks fuel hm hH hcon hl (fun s F hF => VT.all_mono (fun r os n h => by
  obtain ⟨h1, h2⟩ := h
  rcases h2 with ⟨e, t1, H1, l, hb, hf, hg⟩ | ⟨e, t1, H1, l, hb, hf, hg⟩
  ·exact .inl ⟨e, _, _, l, hb, hf.fit h1, hg⟩
  ·exact .inr ⟨e, _, _, l, hb, hf.fit h1, hg⟩) (VT.all_map (hstep s F hF).out)) s
mutual
theorem AV.cl_mono {K K' : Nat → Bool} (h : ∀ n, K n = true → K' n = true) : ∀ {x : AV}, AV.cl K x → AV.cl K' x
 | .v _, _ => trivial
 | .lit _, _ => trivial
 | .ptr i _, hc => h i hc
 | .slice i _ _ _ _, hc => h i hc
 | .mt, _ => trivial
 | .map i, hc => h i hc
 | .iface _ x, hc => AV.cl_mono h (x := x) hc
 | .func _ f c, hc => ⟨AV.cls_mono h (l := f) hc.1, AV.cls_mono h (l := c) hc.2⟩
 | .agg cs, hc => AV.cls_mono h (l := cs) hc
 | .tuple cs, hc => AV.cls_mono h (l := cs) hc
 | .any, _ => trivial
theorem AV.cls_mono {K K' : Nat → Bool} (h : ∀ n, K n = true → K' n = true) : ∀ {l : List AV}, AV.cls K l → AV.cls K' l
 | [], _ => trivial
 | x :: l, hc => ⟨AV.cl_mono h (x := x) hc.1, AV.cls_mono h (l := l) hc.2⟩
end
theorem QW' {K K' : Nat → Bool} (h : ∀ n, K n = true → K' n = true) : ∀ {l : List (AV × AV × Nat)}, clE K l → clE K' l
 | [], _ => trivial
 | x :: l, hc => ⟨AV.cl_mono h hc.1, AV.cl_mono h hc.2.1, QW' h hc.2.2⟩
theorem AO.cl_mono {K K' : Nat → Bool} (h : ∀ n, K n = true → K' n = true) {o : AO} (hc : o.cl K) : o.cl K' := by
 cases o with
 | cells cs e => exact AV.cls_mono h hc
 | map es c => exact QW' h hc
 | striter s p => exact trivial
 | miter m a b c =>
  cases m with
  | none => exact trivial
  | some j => exact h j hc
 | any p => exact trivial
 | own m p => exact trivial
 | same j b => exact h j hc
theorem J5' {W0 w : World} {F : HP} {N N1 : A8'} {H : LH} {vs : List AV} {ys : List Value} (hl : AF' 1100 H = true) (g1 : ∀ i, i < 1000 → N1 i = N i) (r : Rep W0 N1 F (AX' H) w) (hvs : VRs N1 vs ys)
  (hv : AV.cls (fun n => Nat.blt n 1000 || (getO H n).isSome) vs) (ho : ∀ x ∈ H, x.2.cl (fun n => Nat.blt n 1000 || (getO H n).isSome)) : St W0 F N H vs ys w := by
 have hf : ∀ n, (AX' H).find n = getO H n := B2' (NH' hl)
 obtain ⟨D0, D, h1, h2, h3⟩ := r.sat
 let K : Nat → Bool := fun n => Nat.blt n 1000 || (getO H n).isSome
 let N2 : A8' := fun n => if K n = true then N1 n else none
 have hN2 : ∀ n, K n = true → N2 n = N1 n := fun n hn => if_pos hn
 refine ⟨N2, fun n hn => ?_, fun n hn hg => ?_, ⟨r.os, r.tape, r.output, D0, D, h1, fun n o hno => ?_, h3⟩, hvs.congr (K := K) hN2 hv⟩
 ·rw [hN2 n (by simp [K, Nat.blt_eq, hn])]; exact g1 n hn
 ·refine if_neg ?_
  simp only [K, hg, Bool.or_eq_true, Nat.blt_eq]
  rintro (hh | hh)
  ·omega
  ·cases hh
 ·have := h2 n o hno
  rw [hf] at hno
  exact ⟨this.1.congr (K := K) hN2 (by simp [K, hno]) (ho _ (B6' hno)), this.2⟩
abbrev KMap (κ α : Type) := List (κ × α × Nat)
structure KOK {κ : Type} [DecidableEq κ] (kv : κ → Value) : Prop where
 inj : ∀ a b, valQ (kv a) (kv b) = decide (a = b)
 same : ∀ k, Instr.sameBits 10000 (kv k) (kv k) = true
def KTy {κ : Type} [DecidableEq κ] (P : Program) (t : TypeId) (kv : κ → Value) : Prop := ∀ (E : Env) a b, P9' P E t (.v (kv a)) (.v (kv b)) = .ret (decide (a = b))
section
variable {κ α : Type} {kv : κ → Value} {ev : α → AV}
def kE (kv : κ → Value) (ev : α → AV) (m : KMap κ α) : List (AV × AV × Nat) := m.map fun e => (.v (kv e.1), ev e.2.1, e.2.2)
structure KI (m : KMap κ α) (c : Nat) : Prop where
 keys : (m.map (·.1)).Nodup
 stamps : (m.map (·.2.2)).Nodup
 low : ∀ e ∈ m, e.2.2 < c
theorem YP' (m : KMap κ α) (j : Nat) : (kE kv ev m)[j]? = (m[j]?).map fun e => (.v (kv e.1), ev e.2.1, e.2.2) := by simp [kE]
theorem kE_set (m : KMap κ α) (j : Nat) (k : κ) (x : α) (s : Nat) : (kE kv ev m).set j (.v (kv k), ev x, s) = kE kv ev (m.set j (k, x, s)) := by simp [kE, List.map_set]
theorem KI.nil : KI ([] : KMap κ α) 0 := ⟨List.nodup_nil, List.nodup_nil, fun e he => by cases he⟩
end
section
variable {κ α : Type} [DecidableEq κ] {kv : κ → Value} {ev : α → AV}
def DN' (k : κ) : KMap κ α → Nat → Option (Nat × α)
 | [], _ => none
 | e :: l, i => if k = e.1 then some (i, e.2.1) else DN' k l (i + 1)
def C4' (k : κ) : KMap κ α → Option α
 | [] => none
 | e :: l => if k = e.1 then some e.2.1 else C4' k l
def kset (m : KMap κ α) (c : Nat) (k : κ) (x : α) : KMap κ α := match DN' k m 0 with
 | some (j, _) => m.set j (k, x, ((m[j]?).map (·.2.2)).getD 0)
 | none => m ++ [(k, x, c)]
def NO' (m : KMap κ α) (c : Nat) (k : κ) : Nat := match DN' k m 0 with
 | some _ => c
 | none => c + 1
theorem U8' (hO : KOK kv) (a b : κ) : keyQ (.v (kv a)) (.v (kv b)) = decide (a = b) := hO.inj a b
theorem HE' (hO : KOK kv) (k : κ) : ∀ (m : KMap κ α) (i : Nat), AZ' (.v (kv k)) (kE kv ev m) i = (DN' k m i).map fun p => (p.1, ev p.2)
 | [], i => rfl
 | e :: l, i => by
  have ih := HE' hO k l (i + 1)
  show AZ' (.v (kv k)) ((.v (kv e.1), ev e.2.1, e.2.2) :: kE kv ev l) i = _
  rw [AZ', U8' hO, DN']
  by_cases h : k = e.1
  ·rw [if_pos h]; simp [h]
  ·rw [if_neg h]; simp only [h, decide_false]; exact ih
theorem EW' : ∀ {m : KMap κ α} {i : Nat} {k : κ} {j : Nat} {x : α}, DN' k m i = some (j, x) → i ≤ j ∧ ∃ s, m[j - i]? = some (k, x, s)
 | [], i, k, j, x, h => by cases h
 | e :: l, i, k, j, x, h => by
  rw [DN'] at h
  split at h
  ·rename_i hk
   cases h
   refine ⟨Nat.le_refl _, e.2.2, ?_⟩
   rw [Nat.sub_self]; simp [hk]
  ·obtain ⟨h1, s, h2⟩ := EW' h
   refine ⟨by omega, s, ?_⟩
   rw [show j - i = (j - (i + 1)) + 1 from by omega, List.getElem?_cons_succ]; exact h2
theorem DW' (k : κ) : ∀ (m : KMap κ α) (i : Nat), (DN' k m i).map (·.2) = C4' k m
 | [], i => rfl
 | e :: l, i => by
  rw [DN', C4']
  split
  ·rfl
  ·exact DW' k l (i + 1)
theorem EY' {P : Program} {E : Env} {t : TypeId} (hO : KOK kv) (hu : KTy P t kv) (k : κ) : ∀ (m : KMap κ α) (i : Nat), findKey P E t (.v (kv k)) (kE kv ev m) i = .ret (AZ' (.v (kv k)) (kE kv ev m) i)
 | [], i => rfl
 | e :: l, i => by
  have ih := EY' (E := E) hO hu k l (i + 1)
  have hk : P9' P E t (.v (kv k)) (.v (kv e.1)) = .ret (decide (k = e.1)) := hu E k e.1
  show ((P9' P E t (.v (kv k)) (.v (kv e.1))).bind fun b => match b with
   | true => pure (some (i, ev e.2.1))
   | false => findKey P E t (.v (kv k)) (kE kv ev l) (i + 1)) = .ret (AZ' (.v (kv k)) ((.v (kv e.1), ev e.2.1, e.2.2) :: kE kv ev l) i)
  rw [hk, AZ', U8' hO]
  show (match decide (k = e.1) with
   | true => (pure (some (i, ev e.2.1)) : AP (Option (Nat × AV)))
   | false => findKey P E t (.v (kv k)) (kE kv ev l) (i + 1)) = _
  cases decide (k = e.1) with
  | true => rfl
  | false => exact ih
theorem SQ' (hO : KOK kv) (k : κ) (m : KMap κ α) : GZ' (.v (kv k)) (kE kv ev m) := by
 intro j v h
 rw [HE' hO] at h
 cases hf : DN' k m 0 with
 | none => rw [hf] at h; cases h
 | some p =>
  rw [hf] at h
  cases h
  obtain ⟨_, s, h2⟩ := EW' (x := p.2) (j := p.1) hf
  rw [Nat.sub_zero] at h2
  refine ⟨_, by rw [YP', h2]; rfl, ?_⟩
  exact hO.same k
theorem ZO' (hO : KOK kv) (k : κ) (x : α) (m : KMap κ α) (c : Nat) : setE (.v (kv k)) (ev x) (kE kv ev m) c = kE kv ev (kset m c k x) := by
 rw [setE, HE' hO, kset]
 cases hf : DN' k m 0 with
 | none => simp [kE]
 | some p =>
  simp only [Option.map_some]
  rw [YP', Option.map_map, ← kE_set]
  rfl
theorem XZ' (hO : KOK kv) (k : κ) (m : KMap κ α) (c : Nat) : ES' (.v (kv k)) (kE kv ev m) c = NO' m c k := by
 rw [ES', HE' hO, NO']
 cases DN' k m 0 <;> rfl
theorem XL' (hO : KOK kv) (k : κ) (m : KMap κ α) (z : Value) : BU' (AZ' (.v (kv k)) (kE kv ev m) 0) z = ((C4' k m).map ev).getD (.v z) := by
 rw [HE' hO, ← DW' k m 0]
 cases DN' k m 0 <;> rfl
theorem RJ' {m : KMap κ α} {k : κ} : C4' k m = none ↔ k ∉ m.map (·.1) := by
 induction m with
 | nil => simp [C4']
 | cons e l ih =>
  rw [C4']
  by_cases h : k = e.1
  ·rw [if_pos h]; simp [h]
  ·rw [if_neg h, ih]; simp [h]
theorem IP' {m : KMap κ α} {k : κ} {x : α} {s : Nat} (h : C4' k m = none) (k' : κ) : C4' k' (m ++ [(k, x, s)]) = if k' = k then some x else C4' k' m := by
 induction m with
 | nil => simp [C4']
 | cons e l ih =>
  rw [C4'] at h
  split at h
  ·cases h
  ·rename_i hne
   rw [List.cons_append, C4', C4', ih h]
   by_cases h1 : k' = e.1
   ·rw [if_pos h1, if_pos h1, if_neg (fun h2 : k' = k => hne (h2 ▸ h1))]
   ·rw [if_neg h1, if_neg h1]
theorem NK' : ∀ {m : KMap κ α} {i : Nat} {k : κ} {j : Nat} {y x : α} {s : Nat}, DN' k m i = some (j, y) → ∀ k', C4' k' (m.set (j - i) (k, x, s)) = if k' = k then some x else C4' k' m
 | [], i, k, j, y, x, s, h, k' => by cases h
 | e :: l, i, k, j, y, x, s, h, k' => by
  rw [DN'] at h
  split at h
  ·rename_i hk
   cases h
   rw [Nat.sub_self, List.set_cons_zero, C4', C4']
   by_cases h1 : k' = k
   ·rw [if_pos h1, if_pos h1]
   ·rw [if_neg h1, if_neg h1, if_neg (fun h2 : k' = e.1 => h1 (h2.trans hk.symm))]
  ·rename_i hk
   obtain ⟨hle, _⟩ := EW' h
   rw [show j - i = (j - (i + 1)) + 1 from by omega, List.set_cons_succ, C4', C4', NK' h]
   by_cases h1 : k' = e.1
   ·rw [if_pos h1, if_pos h1, if_neg (fun h2 : k' = k => hk (h2 ▸ h1))]
   ·rw [if_neg h1, if_neg h1]
theorem RK' (m : KMap κ α) (c : Nat) (k : κ) (x : α) (k' : κ) : C4' k' (kset m c k x) = if k' = k then some x else C4' k' m := by
 rw [kset]
 cases hf : DN' k m 0 with
 | none => exact IP' (by rw [← DW' k m 0, hf]; rfl) k'
 | some p => exact NK' (i := 0) hf k'
theorem U6' (m : KMap κ α) (c : Nat) (k : κ) (x : α) : (kset m c k x).map (·.1) = if k ∈ m.map (·.1) then m.map (·.1) else m.map (·.1) ++ [k] := by
 rw [kset]
 cases hf : DN' k m 0 with
 | none =>
  have : C4' k m = none := by rw [← DW' k m 0, hf]; rfl
  rw [if_neg (RJ'.1 this)]; simp
 | some p =>
  obtain ⟨j, y⟩ := p
  obtain ⟨_, s, hj⟩ := EW' hf
  rw [Nat.sub_zero] at hj
  rw [if_pos (List.mem_map.2 ⟨_, List.mem_of_getElem? hj, rfl⟩), List.map_set]
  obtain ⟨hlt, he⟩ := List.getElem?_eq_some_iff.1 hj
  have : (m.map (·.1))[j]'(by simpa using hlt) = k := by simp [he]
  simp only
  rw [← this]
  exact List.set_getElem_self _
theorem KI.kset {m : KMap κ α} {c : Nat} (h : KI m c) (k : κ) (x : α) : KI (kset m c k x) (NO' m c k) := by
 have hk : ((Eng.kset m c k x).map (·.1)).Nodup := by
  rw [U6']
  split
  ·exact h.keys
  ·rename_i hn
   rw [List.nodup_append]
   refine ⟨h.keys, by simp, fun a ha b hb => ?_⟩
   simp only [List.mem_singleton] at hb
   rintro rfl
   exact hn (hb ▸ ha)
 refine ⟨hk, ?_, ?_⟩
 ·rw [Eng.kset]
  cases hf : DN' k m 0 with
  | none =>
   rw [List.map_append, List.nodup_append]
   refine ⟨h.stamps, by simp, fun a ha b hb => ?_⟩
   obtain ⟨e, he, rfl⟩ := List.mem_map.1 ha
   simp only [List.map_cons, List.map_nil, List.mem_singleton] at hb
   have := h.low e he
   omega
  | some p =>
   obtain ⟨j, y⟩ := p
   obtain ⟨_, s, hj⟩ := EW' hf
   rw [Nat.sub_zero] at hj
   simp only [hj, Option.map_some, Option.getD_some, List.map_set]
   obtain ⟨hlt, he⟩ := List.getElem?_eq_some_iff.1 hj
   have : (m.map (·.2.2))[j]'(by simpa using hlt) = s := by simp [he]
   rw [← this, List.set_getElem_self]
   exact h.stamps
 ·intro e he
  rw [Eng.kset] at he
  rw [NO']
  cases hf : DN' k m 0 with
  | none =>
   rw [hf] at he
   rcases List.mem_append.1 he with he | he
   ·have := h.low e he; simp only; omega
   ·simp only [List.mem_singleton] at he; subst he; simp
  | some p =>
   obtain ⟨j, y⟩ := p
   obtain ⟨_, s, hj⟩ := EW' hf
   rw [Nat.sub_zero] at hj
   rw [hf] at he
   simp only [hj, Option.map_some, Option.getD_some] at he ⊢
   rcases List.mem_or_eq_of_mem_set he with he | he
   ·exact h.low e he
   ·subst he; exact h.low (k, y, s) (List.mem_of_getElem? hj)
end
end Go.Proofs.YtdphpillcaajpaaGreatDoor.Eng
namespace Go.Proofs.YtdphpillcaajpaaGreatDoor.Kit
open Go Go.RowKit Eng
theorem TV' {W : World} {g : FuncId} {b : Code} {σ : Type} (m : Nat) (A : σ → List (Nat × AV)) (H : σ → LH) (ax : AX) (Z : List (Nat × AV)) (HZ : LH) (μ : σ → Nat) (ks idx : List Nat) (hax : ax ≠ .normal) (hH : ∀ s, AF' 1100 (H s) = true)
  (hstep : ∀ s, ∃ (con : HN') (hints : B8') (lc : LcL), (∀ F, AK' W F → ∀ x ∈ con, C1OK Tryz.prog F x.1 x.2) ∧ (∀ F, AK' W F → ∀ x ∈ lc, L1OK Tryz.prog F x.2.2.1 x.2.2.2) ∧
   ∀ F, VAll (fun r os _ => r.2.2 = m ∧ ((r.1 = .normal ∧ IM' m ks idx r.2.1 os fun W0 F N ys w => ∃ s', μ s' < μ s ∧ St W0 F N (H s') (tms 0 m (A s')) ys w) ∨ (r.1 = ax ∧ IM' m ks idx r.2.1 os fun W0 F N ys w => St W0 F N HZ (tms 0 m Z) ys w))) (AR' con hints lc W g b (tms 0 m (A s)) (H s) ks idx F)) (s : σ) :
  LTri Tryz.prog W b (tms 0 m (A s)) (H s) ax (tms 0 m Z) HZ := by
 have key := TU' (P := Tryz.prog) (W := W) (b := b) (g := g) (σ := σ) (con := fun s => conL (hstep s).choose) (claim := fun s => (hstep s).choose_spec.choose) (lcon := fun s => P4' (hstep s).choose_spec.choose_spec.choose) m A H ax Z HZ μ ks idx 1000 TR' hax hH
  (fun s F hF => M0' rfl ((hstep s).choose_spec.choose_spec.choose_spec.1 F hF)) (fun s F hF => IW' rfl ((hstep s).choose_spec.choose_spec.choose_spec.2.1 F hF))
 exact key (fun s F _ => (hstep s).choose_spec.choose_spec.choose_spec.2.2 F) s
end Go.Proofs.YtdphpillcaajpaaGreatDoor.Kit
