/- Parts of the proof, merged. -/
import Derived.Test.YtdphpillcaajpaaDoorEngFam
import Derived.Test.YtdphpillcaajpaaDoorEngKit
import Derived.Test.YtdphpillcaajpaaDoorEngRow
noncomputable section
set_option linter.unusedVariables false
set_option linter.unusedSimpArgs false
set_option maxRecDepth 100000
namespace Go.Proofs.YtdphpillcaajpaaDoor
noncomputable abbrev Θ : Go.Program := Tryd.prog
end Go.Proofs.YtdphpillcaajpaaDoor
namespace Go.Proofs.YtdphpillcaajpaaDoor.Eng
open Go Go.RowKit
variable {H : LH}
theorem LTri.pre {P : Program} {W : World} {b : Code} {A A1 : List AV} {H1 : LH} {ax : AX} {A' : List AV} {H' : LH} (hg : Goes A H A1 H1) (h : LTri P W b A1 H1 ax A' H') : LTri P W b A H ax A' H' := by
 intro W0 F N w a Q hF hN r ha hK
 obtain ⟨N', q1, q2, q3, q4⟩ := hg W0 F N a.tmps.toList w ⟨N, fun _ _ => rfl, hN, r, ha⟩
 exact h W0 F N' w a Q hF q2 q3 q4 fun a' w' ⟨N2, p1, p2, p3, p4⟩ hd => hK a' w' ⟨N2, fun i hi => (p1 i hi).trans (q1 i hi), p2, p3, p4⟩ hd
theorem LTri.post {P : Program} {W : World} {b : Code} {A : List AV} {ax : AX} {A' A2 : List AV} {H' H2 : LH} (h : LTri P W b A H ax A' H') (hg : Goes A' H' A2 H2) : LTri P W b A H ax A2 H2 := by
 intro W0 F N w a Q hF hN r ha hK
 exact h W0 F N w a Q hF hN r ha fun a' w' hs hd => hK a' w' (hg _ _ _ _ _ hs) hd
def aR' (m : Nat) (ks idx : List Nat) (ts : List AV) (os : List (Option AO)) (told : List (Nat × AV)) (H : LH) : Prop := ∃ told1 H1 l, AE' 1100 H1 = true /\ FitT ks idx ts os told1 H1 l /\ Goes (tms 0 m told1) H1 (tms 0 m told) H
theorem FitT.fits {m : Nat} {ks idx : List Nat} {ts : List AV} {os : List (Option AO)} {told : List (Nat × AV)} {l : List (Nat × Nat)} (h : FitT ks idx ts os told H l) (hH : AE' 1100 H = true) : aR' m ks idx ts os told H := ⟨told, H, l, hH, h, Goes.refl _ _⟩
end Go.Proofs.YtdphpillcaajpaaDoor.Eng
namespace Go.Proofs.YtdphpillcaajpaaDoor.Kit
open Go Go.RowKit Eng
end Go.Proofs.YtdphpillcaajpaaDoor.Kit
namespace Go.Proofs.YtdphpillcaajpaaDoor.Eng
open Go Go.RowKit
def KF' (ks : List Nat) (vs : List AV) (os : List (Option AO)) (Q : World -> HP -> A5' -> List Value -> World -> Prop) : Prop :=
 ∃ vs1 H1 l, AE' 1100 H1 = true /\ Fit ks vs os vs1 H1 l /\ ∀ W0 F N ys w, St W0 F N H1 vs1 ys w -> Q W0 F N ys w
theorem KF'.state {ks : List Nat} {vs : List AV} {Q : World -> HP -> A5' -> List Value -> World -> Prop} {W0 w : World} {N N1 : A5'} {F : HP} {h : T} {n : Nat} {ys : List Value} (hf : KF' ks vs (ks.map h.find) Q)
  (r : Rep W0 N1 F h w) (hx : Ext N N1 1100 n) (hn : n <= T.limit) (hN : ∀ i, 1100 <= i -> N i = none) (hv : VRs N1 vs ys) : Q W0 F N ys w := by
 obtain ⟨vs1, H1, l, hb, hfit, hg⟩ := hf; obtain ⟨N', q1, q2, q3, q4⟩ := hfit.state hb r hx hn hN hv; exact hg W0 F N ys w ⟨N', q1, q2, q3, q4⟩
def D6' (m : Nat) (ks idx : List Nat) (ts : List AV) (os : List (Option AO)) (Q : World -> HP -> A5' -> List Value -> World -> Prop) : Prop :=
 ∃ told1 H1 l, AE' 1100 H1 = true /\ FitT ks idx ts os told1 H1 l /\ ∀ W0 F N ys w, St W0 F N H1 (tms 0 m told1) ys w -> Q W0 F N ys w
theorem aR'.e {m : Nat} {ks idx : List Nat} {ts : List AV} {os : List (Option AO)} {told : List (Nat × AV)} {H : LH} (h : aR' m ks idx ts os told H) : D6' m ks idx ts os fun W0 F N ys w => St W0 F N H (tms 0 m told) ys w := by
 obtain ⟨t1, H1, l, hb, hf, hg⟩ := h
 exact ⟨t1, H1, l, hb, hf, fun W0 F N ys w => hg W0 F N ys w⟩
theorem aR'.one {m : Nat} {ks idx : List Nat} {ts : List AV} {os : List (Option AO)} {σ : Type} {A : σ -> List (Nat × AV)} {H : σ -> LH} {μ : σ -> Nat} {k : Nat} (s' : σ) (hμ : μ s' < k) (h : aR' m ks idx ts os (A s') (H s')) :
  D6' m ks idx ts os fun W0 F N ys w => ∃ s', μ s' < k /\ St W0 F N (H s') (tms 0 m (A s')) ys w := by
 obtain ⟨t1, H1, l, hb, hf, hg⟩ := h
 exact ⟨t1, H1, l, hb, hf, fun W0 F N ys w hs => ⟨s', hμ, hg W0 F N ys w hs⟩⟩
mutual
theorem AV.cl_mono {K K' : Nat -> Bool} (h : ∀ n, K n = true -> K' n = true) : ∀ {x : AV}, AV.cl K x -> AV.cl K' x
 | .v _, _ => trivial
 | .lit _, _ => trivial
 | .ptr i _, hc => h i hc
 | .slice i _ _ _ _, hc => h i hc
 | .mt, _ => trivial
 | .map i, hc => h i hc
 | .iface _ x, hc => AV.cl_mono h (x := x) hc
 | .func _ f c, hc => ⟨AV.cls_mono h (l := f) hc.1, AV.cls_mono h (l := c) hc.2⟩
 | .agg cs, hc => AV.cls_mono h (l := cs) hc
 | .tuple cs, hc => AV.cls_mono h (l := cs) hc
 | .any, _ => trivial
theorem AV.cls_mono {K K' : Nat -> Bool} (h : ∀ n, K n = true -> K' n = true) : ∀ {l : List AV}, AV.cls K l -> AV.cls K' l
 | [], _ => trivial
 | x :: l, hc => ⟨AV.cl_mono h (x := x) hc.1, AV.cls_mono h (l := l) hc.2⟩
end
theorem TQ' {K K' : Nat -> Bool} (h : ∀ n, K n = true -> K' n = true) : ∀ {l : List (AV × AV × Nat)}, clE K l -> clE K' l
 | [], _ => trivial
 | x :: l, hc => ⟨AV.cl_mono h hc.1, AV.cl_mono h hc.2.1, TQ' h hc.2.2⟩
theorem AO.cl_mono {K K' : Nat -> Bool} (h : ∀ n, K n = true -> K' n = true) {o : AO} (hc : o.cl K) : o.cl K' := by
 cases o with
 | cells cs e => exact AV.cls_mono h hc
 | map es c => exact TQ' h hc
 | striter s p => exact trivial
 | miter m a b c =>
  cases m with
  | none => exact trivial
  | some j => exact h j hc
 | any p => exact trivial
 | own m p => exact trivial
 | same j b => exact h j hc
theorem KR' {W0 w : World} {F : HP} {N N1 : A5'} {H : LH} {vs : List AV} {ys : List Value} (hl : AE' 1100 H = true) (g1 : ∀ i, i < 1000 -> N1 i = N i) (r : Rep W0 N1 F (AL' H) w) (hvs : VRs N1 vs ys)
  (hv : AV.cls (fun n => Nat.blt n 1000 || (getO H n).isSome) vs) (ho : ∀ x ∈ H, x.2.cl (fun n => Nat.blt n 1000 || (getO H n).isSome)) : St W0 F N H vs ys w := by
 have hf : ∀ n, (AL' H).find n = getO H n := AI' (CF' hl); obtain ⟨D0, D, h1, h2, h3⟩ := r.sat
 let K : Nat -> Bool := fun n => Nat.blt n 1000 || (getO H n).isSome
 let N2 : A5' := fun n => if K n = true then N1 n else none
 have hN2 : ∀ n, K n = true -> N2 n = N1 n := fun n hn => if_pos hn
 refine ⟨N2, fun n hn => ?_, fun n hn hg => ?_, ⟨r.os, r.tape, r.output, D0, D, h1, fun n o hno => ?_, h3⟩, hvs.congr (K := K) hN2 hv⟩
 ·rw [hN2 n (by simp [K, Nat.blt_eq, hn])]; exact g1 n hn
 ·refine if_neg ?_; simp only [K, hg, Bool.or_eq_true, Nat.blt_eq]; rintro (hh | hh)
  ·omega
  ·cases hh
 ·have := h2 n o hno; rw [hf] at hno; exact ⟨this.1.congr (K := K) hN2 (by simp [K, hno]) (ho _ (B0' hno)), this.2⟩
abbrev KMap (κ α : Type) := List (κ × α × Nat)
structure KOK {κ : Type} [DecidableEq κ] (kv : κ -> Value) : Prop where
 inj : ∀ a b, valQ (kv a) (kv b) = decide (a = b)
 same : ∀ k, Instr.sameBits 10000 (kv k) (kv k) = true
def KTy {κ : Type} [DecidableEq κ] (P : Program) (t : TypeId) (kv : κ -> Value) : Prop := ∀ (E : Env) a b, R9' P E t (.v (kv a)) (.v (kv b)) = .ret (decide (a = b))
section
variable {κ α : Type} {kv : κ -> Value} {ev : α -> AV}
def kE (kv : κ -> Value) (ev : α -> AV) (m : KMap κ α) : List (AV × AV × Nat) := m.map fun e => (.v (kv e.1), ev e.2.1, e.2.2)
structure KI (m : KMap κ α) (c : Nat) : Prop where
 keys : (m.map (·.1)).Nodup
 stamps : (m.map (·.2.2)).Nodup
 low : ∀ e ∈ m, e.2.2 < c
theorem gJ' (m : KMap κ α) (j : Nat) : (kE kv ev m)[j]? = (m[j]?).map fun e => (.v (kv e.1), ev e.2.1, e.2.2) := by simp [kE]
theorem kE_set (m : KMap κ α) (j : Nat) (k : κ) (x : α) (s : Nat) : (kE kv ev m).set j (.v (kv k), ev x, s) = kE kv ev (m.set j (k, x, s)) := by simp [kE, List.map_set]
theorem KI.nil : KI ([] : KMap κ α) 0 := ⟨List.nodup_nil, List.nodup_nil, fun e he => by cases he⟩
end
section
variable {κ α : Type} [DecidableEq κ] {kv : κ -> Value} {ev : α -> AV}
def GA' (k : κ) : KMap κ α -> Nat -> Option (Nat × α)
 | [], _ => none
 | e :: l, i => if k = e.1 then some (i, e.2.1) else GA' k l (i + 1)
def E8' (k : κ) : KMap κ α -> Option α
 | [] => none
 | e :: l => if k = e.1 then some e.2.1 else E8' k l
def kset (m : KMap κ α) (c : Nat) (k : κ) (x : α) : KMap κ α := match GA' k m 0 with
 | some (j, _) => m.set j (k, x, ((m[j]?).map (·.2.2)).getD 0)
 | none => m ++ [(k, x, c)]
def RA' (m : KMap κ α) (c : Nat) (k : κ) : Nat := match GA' k m 0 with
 | some _ => c
 | none => c + 1
theorem YL' (hO : KOK kv) (a b : κ) : keyQ (.v (kv a)) (.v (kv b)) = decide (a = b) := hO.inj a b
theorem IL' (hO : KOK kv) (k : κ) : ∀ (m : KMap κ α) (i : Nat), BP' (.v (kv k)) (kE kv ev m) i = (GA' k m i).map fun p => (p.1, ev p.2)
 | [], i => rfl
 | e :: l, i => by
  have ih := IL' hO k l (i + 1); show BP' (.v (kv k)) ((.v (kv e.1), ev e.2.1, e.2.2) :: kE kv ev l) i = _; rw [BP', YL' hO, GA']
  by_cases h : k = e.1
  ·rw [if_pos h]; simp [h]
  ·rw [if_neg h]; simp only [h, decide_false]; exact ih
theorem II' : ∀ {m : KMap κ α} {i : Nat} {k : κ} {j : Nat} {x : α}, GA' k m i = some (j, x) -> i <= j /\ ∃ s, m[j - i]? = some (k, x, s)
 | [], i, k, j, x, h => by cases h
 | e :: l, i, k, j, x, h => by
  rw [GA'] at h; split at h
  ·rename_i hk; cases h; refine ⟨Nat.le_refl _, e.2.2, ?_⟩; rw [Nat.sub_self]; simp [hk]
  ·obtain ⟨h1, s, h2⟩ := II' h; refine ⟨ω, s, ?_⟩
   rw [show j - i = (j - (i + 1)) + 1 from ω, List.getElem?_cons_succ]; exact h2
theorem H8' (k : κ) : ∀ (m : KMap κ α) (i : Nat), (GA' k m i).map (·.2) = E8' k m
 | [], i => rfl
 | e :: l, i => by
  rw [GA', E8']; split
  ·rfl
  ·exact H8' k l (i + 1)
theorem JH' {P : Program} {E : Env} {t : TypeId} (hO : KOK kv) (hu : KTy P t kv) (k : κ) : ∀ (m : KMap κ α) (i : Nat), findKey P E t (.v (kv k)) (kE kv ev m) i = .ret (BP' (.v (kv k)) (kE kv ev m) i)
 | [], i => rfl
 | e :: l, i => by
  have ih := JH' (E := E) hO hu k l (i + 1); have hk : R9' P E t (.v (kv k)) (.v (kv e.1)) = .ret (decide (k = e.1)) := hu E k e.1
  show ((R9' P E t (.v (kv k)) (.v (kv e.1))).bind fun b => match b with
   | true => pure (some (i, ev e.2.1))
   | false => findKey P E t (.v (kv k)) (kE kv ev l) (i + 1)) = .ret (BP' (.v (kv k)) ((.v (kv e.1), ev e.2.1, e.2.2) :: kE kv ev l) i)
  rw [hk, BP', YL' hO]
  show (match decide (k = e.1) with
   | true => (pure (some (i, ev e.2.1)) : AP (Option (Nat × AV)))
   | false => findKey P E t (.v (kv k)) (kE kv ev l) (i + 1)) = _
  cases decide (k = e.1) with
  | true => rfl
  | false => exact ih
theorem WA' (hO : KOK kv) (k : κ) (m : KMap κ α) : KQ' (.v (kv k)) (kE kv ev m) := by
 intro j v h; rw [IL' hO] at h
 cases hf : GA' k m 0 with
 | none => rw [hf] at h; cases h
 | some p =>
  rw [hf] at h; cases h; obtain ⟨_, s, h2⟩ := II' (x := p.2) (j := p.1) hf; rw [Nat.sub_zero] at h2
  refine ⟨_, by rw [gJ', h2]; rfl, ?_⟩
  exact hO.same k
theorem iM' (hO : KOK kv) (k : κ) (x : α) (m : KMap κ α) (c : Nat) : setE (.v (kv k)) (ev x) (kE kv ev m) c = kE kv ev (kset m c k x) := by
 rw [setE, IL' hO, kset]
 cases hf : GA' k m 0 with
 | none => simp [kE]
 | some p =>
  simp only [Option.map_some]; rw [gJ', Option.map_map, <- kE_set]; rfl
theorem fE' (hO : KOK kv) (k : κ) (m : KMap κ α) (c : Nat) : M3' (.v (kv k)) (kE kv ev m) c = RA' m c k := by
 rw [M3', IL' hO, RA']
 cases GA' k m 0 <;> rfl
theorem eQ' (hO : KOK kv) (k : κ) (m : KMap κ α) (z : Value) : GR' (BP' (.v (kv k)) (kE kv ev m) 0) z = ((E8' k m).map ev).getD (.v z) := by
 rw [IL' hO, <- H8' k m 0]
 cases GA' k m 0 <;> rfl
theorem UO' {m : KMap κ α} {k : κ} : E8' k m = none ↔ k ∉ m.map (·.1) := by
 induction m with
 | nil => simp [E8']
 | cons e l ih =>
  rw [E8']
  by_cases h : k = e.1
  ·rw [if_pos h]; simp [h]
  ·rw [if_neg h, ih]; simp [h]
theorem YJ' (m : KMap κ α) (c : Nat) (k : κ) (x : α) : (kset m c k x).map (·.1) = if k ∈ m.map (·.1) then m.map (·.1) else m.map (·.1) ++ [k] := by
 rw [kset]
 cases hf : GA' k m 0 with
 | none =>
  have : E8' k m = none := by rw [<- H8' k m 0, hf]; rfl
  rw [if_neg (UO'.1 this)]; simp
 | some p =>
  obtain ⟨j, y⟩ := p; obtain ⟨_, s, hj⟩ := II' hf; rw [Nat.sub_zero] at hj; rw [if_pos (List.mem_map.2 ⟨_, List.mem_of_getElem? hj, rfl⟩), List.map_set]; obtain ⟨hlt, he⟩ := List.getElem?_eq_some_iff.1 hj
  have : (m.map (·.1))[j]'(by simpa using hlt) = k := by simp [he]
  simp only; rw [<- this]; exact List.set_getElem_self _
theorem KI.kset {m : KMap κ α} {c : Nat} (h : KI m c) (k : κ) (x : α) : KI (kset m c k x) (RA' m c k) := by
 have hk : ((Eng.kset m c k x).map (·.1)).Nodup := by
  rw [YJ']; split
  ·exact h.keys
  ·rename_i hn; rw [List.nodup_append]
   refine ⟨h.keys, by simp, fun a ha b hb => ?_⟩
   simp only [List.mem_singleton] at hb; rintro rfl; exact hn (hb ▸ ha)
 refine ⟨hk, ?_, ?_⟩
 ·rw [Eng.kset]
  cases hf : GA' k m 0 with
  | none =>
   rw [List.map_append, List.nodup_append]
   refine ⟨h.stamps, by simp, fun a ha b hb => ?_⟩
   obtain ⟨e, he, rfl⟩ := List.mem_map.1 ha; simp only [List.map_cons, List.map_nil, List.mem_singleton] at hb; have := h.low e he; omega
  | some p =>
   obtain ⟨j, y⟩ := p; obtain ⟨_, s, hj⟩ := II' hf; rw [Nat.sub_zero] at hj; simp only [hj, Option.map_some, Option.getD_some, List.map_set]; obtain ⟨hlt, he⟩ := List.getElem?_eq_some_iff.1 hj
   have : (m.map (·.2.2))[j]'(by simpa using hlt) = s := by simp [he]
   rw [<- this, List.set_getElem_self]; exact h.stamps
 ·intro e he; rw [Eng.kset] at he; rw [RA']
  cases hf : GA' k m 0 with
  | none =>
   rw [hf] at he
   rcases List.mem_append.1 he with he | he
   ·have := h.low e he; simp only; omega
   ·simp only [List.mem_singleton] at he; subst he; simp
  | some p =>
   obtain ⟨j, y⟩ := p; obtain ⟨_, s, hj⟩ := II' hf; rw [Nat.sub_zero] at hj; rw [hf] at he; simp only [hj, Option.map_some, Option.getD_some] at he ⊢
   rcases List.mem_or_eq_of_mem_set he with he | he
   ·exact h.low e he
   ·subst he; exact h.low (k, y, s) (List.mem_of_getElem? hj)
end
end Go.Proofs.YtdphpillcaajpaaDoor.Eng
namespace Go.Proofs.YtdphpillcaajpaaDoor.Kit
open Go Go.RowKit Eng
end Go.Proofs.YtdphpillcaajpaaDoor.Kit
namespace Go.Proofs.YtdphpillcaajpaaDoor.Eng
open Go Go.RowKit
variable {A : List AV} {H : LH} {cd : Code}
def CTri (P : Program) (W : World) (cd : Code) (A : List AV) (H : LH) {ρ : Type} (ax : ρ -> AX) (A' : ρ -> List AV) (H' : ρ -> LH) : Prop :=
 ∀ (W0 : World) (F : HP) (N : A5') (w : World) (a : Act) (Q : Exit -> Act -> World -> Prop), AH' W F -> NB N H -> Rep W0 N F (AL' H) w -> VRs N A a.tmps.toList ->
  (∀ r a' w', St W0 F N (H' r) (A' r) a'.tmps.toList w' -> a'.defers = a.defers -> Q (CO' (ax r)) a' w') -> cd.wp P Q a w
section
variable {P : Program} {W : World} {ρ σ : Type}
theorem CTri.pre {A1 : List AV} {H1 : LH} {ax : ρ -> AX} {A' : ρ -> List AV} {H' : ρ -> LH} (h : CTri P W cd A1 H1 ax A' H') (hg : Goes A H A1 H1) : CTri P W cd A H ax A' H' := by
 intro W0 F N w a Q hF hN r ha hK
 obtain ⟨N1, g1, g2, g3, g4⟩ := hg W0 F N _ _ ⟨N, fun _ _ => rfl, hN, r, ha⟩
 exact h W0 F N1 w a Q hF g2 g3 g4 fun q a' w' ⟨N2, k1, k2, k3, k4⟩ hd => hK q a' w' ⟨N2, fun i hi => (k1 i hi).trans (g1 i hi), k2, k3, k4⟩ hd
theorem CTri.post {ax : ρ -> AX} {A' : ρ -> List AV} {H' : ρ -> LH} {ρ2 : Type} {ax2 : ρ2 -> AX} {A2 : ρ2 -> List AV} {H2 : ρ2 -> LH} (h : CTri P W cd A H ax A' H') (hg : ∀ r, ∃ r2, ax2 r2 = ax r /\ Goes (A' r) (H' r) (A2 r2) (H2 r2)) : CTri P W cd A H ax2 A2 H2 := by
 intro W0 F N w a Q hF hN r ha hK
 refine h W0 F N w a Q hF hN r ha fun q a' w' hs hd => ?_
 obtain ⟨r2, e, hg⟩ := hg q; rw [<- e]; exact hK r2 a' w' (hg _ _ _ _ _ hs) hd
theorem CTri.seq {c1 c2 : Code} {A1 : σ -> List AV} {H1 : σ -> LH} {ax : ρ -> AX} {A' : ρ -> List AV} {H' : ρ -> LH} (h1 : CTri P W c1 A H (fun _ : σ => .normal) A1 H1) (h2 : ∀ s, CTri P W c2 (A1 s) (H1 s) ax A' H') : CTri P W (.seq c1 c2) A H ax A' H' := by
 intro W0 F N w a Q hF hN r ha hK; refine wp_seq (h1 W0 F N w a _ hF hN r ha fun s a' w' hs hd => ?_); obtain ⟨N1, g1, g2, g3, g4⟩ := hs
 exact h2 s W0 F N1 w' a' Q hF g2 g3 g4 fun q a2 w2 ⟨N2, k1, k2, k3, k4⟩ hd2 => hK q a2 w2 ⟨N2, fun i hi => (k1 i hi).trans (g1 i hi), k2, k3, k4⟩ (hd2.trans hd)
theorem CTri.block {c : Code} {id : Nat} {A' : ρ -> List AV} {H' : ρ -> LH} (h : CTri P W c A H (fun _ : ρ => .exit id) A' H') : CTri P W (.block id c) A H (fun _ : ρ => .normal) A' H' := by
 intro W0 F N w a Q hF hN r ha hK; refine wp_block (h W0 F N w a _ hF hN r ha fun q a' w' hs hd => ?_); show (if id = id then Q .normal a' w' else _); rw [if_pos rfl]; exact hK q a' w' hs hd
theorem Tri.body {f : FuncId} {fn : Func} {t m : Nat} {A0 : List AV} {H' : LH} {v : AV} {ax : AX} (hfn : P.funcs[f]? = some fn) (hcd : fn.body = some cd) (hres : fn.results = #[.tmp t]) (hm : fn.ntmps = m) (hA0 : A ++ List.replicate (m - A.length) AV.undef = A0) (hax : ax = .ret \/ ax = .normal) (ht : t < m)
  (h : CTri P W cd A0 H (fun _ : Unit => ax) (fun _ => tms 0 m [(t, v)]) (fun _ => H')) : Tri P W f A H v H' := by
 intro W0 F N w vargs hF hN r ha
 have hlen : A.length = vargs.size := by rw [ha.len]; simp
 refine calls_of_wp hfn hcd ?_
 refine h W0 F N w _ _ hF hN r ?_ fun _ a' w' hs hd => ?_
 ·subst hA0; rw [Array.toList_append, Array.toList_replicate, hm, hlen]; refine ha.append ?_
  generalize m - vargs.size = k
  induction k with
  | zero => exact AU'
  | succ k ih => exact AC'.2 ⟨EJ', ih⟩
 ·obtain ⟨N1, g1, g2, g3, g4⟩ := hs
  have hv : ∀ (k j : Nat) (l : List Value), k <= t -> t < k + j -> VRs N1 (tms k j [(t, v)]) l -> ∃ y, l[t - k]? = some y /\ VR N1 v y := by
   intro k j
   induction j generalizing k with
   | zero => intro l h1 h2; omega
   | succ j ih =>
    intro l h1 h2 hl; rw [tms] at hl; simp only [VRs] at hl; obtain ⟨y, l', q1, q2, rfl⟩ := hl
    by_cases e : k = t
    ·subst e
     refine ⟨y, by simp, ?_⟩
     simpa using q1
    ·obtain ⟨z, z1, z2⟩ := ih (k + 1) l' ω ω q2
     exact ⟨z, by rw [show t - k = (t - (k + 1)) + 1 from ω, List.getElem?_cons_succ]; exact z1, z2⟩
  obtain ⟨y, hy, hvy⟩ := hv 0 m _ (Nat.zero_le _) ω g4
  have hr : (results fn a'.tmps).run P w' = .ok y w' := by
   unfold results; rw [hres]
   have : a'.tmps.getD t Go.undef = y := by
    rw [Nat.sub_zero, Array.getElem?_toList] at hy; simp [Array.getD_eq_getD_getElem?, hy]
   rw [Array.getD_eq_getD_getElem?] at this; simp [this]
  have hpost : a'.defers = [] /\ ∃ y, (results fn a'.tmps).run P w' = .ok y w' /\ ∃ z, Ending.returned y = .returned z /\ St W0 F N H' [v] [z] w' := ⟨hd, y, hr, y, rfl, N1, g1, g2, g3, AC'.2 ⟨hvy, AU'⟩⟩
  rcases hax with rfl | rfl
  ·exact hpost
  ·exact hpost
theorem CTri.run {con : ConT} {claim : AX'} {lcon : IV'} {g : FuncId} {ax : ρ -> AX} {A' : ρ -> List AV} {H' : ρ -> LH} (ks : List Nat) (fuel : Nat) (hm : P.follows .mixedOrders = true) (hH : AE' 1100 H = true)
  (hcon : ∀ F, AH' W F -> IW' P (envO P F con claim lcon W)) (hl : ∀ F, AH' W F -> E4' P (envO P F con claim lcon W))
  (hrun : ∀ F, AH' W F -> (((BN' P (envO P F con claim lcon W) fuel g cd A).run2 (AL' H) 1100 []).view ks).all fun u os _ => KF' ks u.2 os fun W0 F N ys w => ∃ q, ax q = u.1 /\ St W0 F N (H' q) (A' q) ys w) : CTri P W cd A H ax A' H' := by
 intro W0 F N w a Q hF hN r ha hK; obtain ⟨⟨x, t⟩, h', n', lg', c, he, hc, hq⟩ := VT.all_pick (hrun F hF); rw [CI'] at he
 refine (DA' hF.env hm (hcon F hF) (hl F hF) fuel).1 _ _ _ _ _ _ _ _ _ _ _ _ _ _ _ _ _ _ he hc r ha (fun i h1 h2 => hN.nothing hH h1) fun N2 a2 w2 r2 t2 d2 x2 => ?_
 have hlim := D2' _ he δ; obtain ⟨q, e, hs⟩ := hq.state r2 x2 hlim (fun i hi => hN.nothing hH hi) t2; simp only at e; rw [<- e]; exact hK q a2 w2 hs d2
theorem CTri.loop {con : σ -> ConT} {claim : σ -> AX'} {lcon : σ -> IV'} {g : FuncId} {b : Code} (A : σ -> List AV) (H : σ -> LH) (ax : ρ -> AX) (A' : ρ -> List AV) (H' : ρ -> LH) (hax : ∀ q, ax q ≠ .normal) (μ : σ -> Nat) (ks : List Nat) (fuel : Nat) (hm : P.follows .mixedOrders = true)
  (hH : ∀ s, AE' 1100 (H s) = true)
  (hcon : ∀ s F, AH' W F -> IW' P (envO P F (con s) (claim s) (lcon s) W)) (hl : ∀ s F, AH' W F -> E4' P (envO P F (con s) (claim s) (lcon s) W))
  (hstep : ∀ s F, AH' W F -> (((BN' P (envO P F (con s) (claim s) (lcon s) W) fuel g b (A s)).run2 (AL' (H s)) 1100 []).view ks).all fun r os _ =>
   KF' ks r.2 os fun W0 F N ys w => (r.1 = .normal /\ ∃ s', μ s' < μ s /\ St W0 F N (H s') (A s') ys w) \/ ∃ q, ax q = r.1 /\ St W0 F N (H' q) (A' q) ys w) (s : σ) :
  CTri P W (.loop b) (A s) (H s) ax A' H' := by
 intro W0 F N w a Q hF hN r ha hK; refine wp_loop_rounds (μ s + 1) ?_
 have key : ∀ (m : Nat) (s : σ), μ s < m -> ∀ (N1 : A5') (w : World) (a1 : Act), (∀ i, i < 1000 -> N1 i = N i) -> NB N1 (H s) -> Rep W0 N1 F (AL' (H s)) w -> VRs N1 (A s) a1.tmps.toList -> a1.defers = a.defers ->
   Code.rounds P b Q m a1 w := by
  intro m
  induction m with
  | zero => intro s hs; omega
  | succ m ih =>
   intro s hs N1 w a1 hN1 hNB r ha hd; rw [rounds_succ]; obtain ⟨⟨x, t⟩, h', n', lg', c, he, hc, hq⟩ := VT.all_pick (hstep s F hF); rw [CI'] at he
   refine (DA' hF.env hm (hcon s F hF) (hl s F hF) fuel).1 _ _ _ _ _ _ _ _ _ _ _ _ _ _ _ _ _ _ he hc r ha (fun i h1 h2 => hNB.nothing (hH s) h1) fun N2 a2 w2 r2 t2 d2 x2 => ?_
   have hlim := D2' _ he δ
   have hN0 : ∀ i, 1100 <= i -> N1 i = none := fun i hi => hNB.nothing (hH s) hi
   rcases hq.state r2 x2 hlim hN0 t2 with ⟨e, s', hμ, N3, q1, q2, q3, q4⟩ | ⟨q, e, N3, q1, q2, q3, q4⟩
   ·simp only at e; subst e; show Code.rounds P b Q m a2 w2; exact ih s' ω N3 w2 a2 (fun i hi => (q1 i hi).trans (hN1 i hi)) q2 q3 q4 (d2.trans hd)
   ·have hfin := hK q a2 w2 ⟨N3, fun i hi => (q1 i hi).trans (hN1 i hi), q2, q3, q4⟩ (d2.trans hd)
    have hx : x ≠ .normal := fun h => hax q (e.trans h)
    rw [e] at hfin
    cases x with
    | normal => exact absurd rfl hx
    | exit id => exact hfin
    | ret => exact hfin
 exact key _ s ω N w a (fun _ _ => rfl) hN r ha rfl
end
end Go.Proofs.YtdphpillcaajpaaDoor.Eng
namespace Go.Proofs.YtdphpillcaajpaaDoor.Kit
open Go Go.RowKit Eng
section
variable {W : World} {g : FuncId} {ρ σ : Type}
end
def fst : Code -> Code
 | .seq a _ => a
 | c => c
def snd : Code -> Code
 | .seq _ b => b
 | c => c
end Go.Proofs.YtdphpillcaajpaaDoor.Kit
namespace Go.Proofs.YtdphpillcaajpaaDoor.Eng
open Go Go.RowKit
variable {P : Program} {W W0 w : World} {F : HP} {H : LH} {b : Code} {f : FuncId} {A args : List AV} {v : AV} {N : A5'} {claim : AX'} {lcon : IV'}
abbrev PanT := List PanicEntry -> Prop
def J6' (R : PanT) (F : HP) : World -> List PanicEntry -> World -> Prop := fun W0 ch w' => R ch /\ Rep W0 (fun _ => none) F .nil w'
def upO : AO := .any (HP.pure True)
def noH : Nat -> Nat -> HP := fun _ _ => HP.pure False
def K9' (m : Md) : AO := .own m noH
theorem A8' : ∀ a b D w, ¬ (noH a b).on D w := fun _ _ _ _ h => h.2
def envU (P : Program) (R : PanT) (F : HP) (con : ConT) (claim : AX') (lcon : IV') (W : World) : Env := { envO P F con claim lcon W with pan := J6' R F, dead := true }
theorem AH'.envU {R : PanT} {con : ConT} (h : AH' W F) : EnvOk P (envU P R F con claim lcon W) :=
 have k : EnvOk P (envO P F con claim lcon W) := h.env
 ⟨k.wk, k.ow, k.gd, k.fc, k.info, k.fn, k.old, k.laid, k.clone, k.same⟩
def TriU (P : Program) (R : PanT) (W : World) (f : FuncId) (A : List AV) (H : LH) (v : AV) (H' : LH) : Prop :=
 ∀ (W0 : World) (F : HP) (N : A5') (w : World) (vargs : Array Value), AH' W F -> NB N H -> Rep W0 N F (AL' H) w -> VRs N A vargs.toList ->
  Calls P f vargs w fun e w' => (∃ y, e = .returned y /\ St W0 F N H' [v] [y] w') \/ ∃ ch, e = .panicked ch /\ J6' R F W0 ch w'
theorem Tri.up {R : PanT} {H' : LH} (h : Tri P W f A H v H') : TriU P R W f A H v H' :=
 fun W0 F N w vargs h1 h2 h3 h4 => (h W0 F N w vargs h1 h2 h3 h4).mono fun _ _ h => .inl h
def OG' (P : Program) (R : PanT) (W : World) (b : Code) (A : List AV) (H : LH) (ax : AX) (A' : List AV) (H' : LH) : Prop :=
 ∀ (W0 : World) (F : HP) (N : A5') (w : World) (a : Act) (Q : Exit -> Act -> World -> Prop), AH' W F -> NB N H -> Rep W0 N F (AL' H) w -> VRs N A a.tmps.toList ->
  (∀ ch a' w', a'.defers = a.defers -> J6' R F W0 ch w' -> Q (.panic ch) a' w') ->
  (∀ a' w', St W0 F N H' A' a'.tmps.toList w' -> a'.defers = a.defers -> Q (CO' ax) a' w') -> (Code.loop b).wp P Q a w
theorem QW' {R : PanT} {con : ConT} {H' : LH} (ks : List Nat) (fuel : Nat) (hm : P.follows .mixedOrders = true) (hH : AE' 1100 H = true)
  (hcon : ∀ F, AH' W F -> K8' P (envU P R F con claim lcon W)) (hl : ∀ F, AH' W F -> H0' P (envU P R F con claim lcon W))
  (hrun : ∀ F, AH' W F -> VAll (fun u os _ => KF' ks [u] os fun W0 F N ys w => St W0 F N H' [v] ys w) (((EM' P (envU P R F con claim lcon W) fuel f A).run2 (AL' H) 1100 []).view ks)) : TriU P R W f A H v H' := by
 intro W0 F N w vargs hF hN r ha; obtain ⟨u, h', n', lg', c, he, hc, hfit⟩ := VT.all_pick (hrun F hF).out; rw [CI'] at he; refine (HG' hF.envU hm (hcon F hF) (hl F hF) he hc r ha (fun i h1 h2 => hN.nothing hH h1)).mono ?_; rintro e w' (⟨y, N1, rfl, r1, hv, hx⟩ | ⟨ch, rfl, hu⟩)
 ·exact .inl ⟨y, rfl, hfit.state r1 hx (D2' _ he δ) (fun i hi => hN.nothing hH hi) (AC'.2 ⟨hv, AU'⟩)⟩
 ·exact .inr ⟨ch, rfl, hu⟩
theorem R5' {R : PanT} {σ : Type} {con : σ -> ConT} {claim : σ -> AX'} {lcon : σ -> IV'} {g : FuncId} (A : σ -> List AV) (H : σ -> LH) (ax0 : AX) (Z : List AV) (HZ : LH) (hax : ax0 ≠ .normal) (μ : σ -> Nat) (ks : List Nat) (fuel : Nat) (hm : P.follows .mixedOrders = true)
  (hH : ∀ s, AE' 1100 (H s) = true)
  (hcon : ∀ s F, AH' W F -> K8' P (envU P R F (con s) (claim s) (lcon s) W)) (hl : ∀ s F, AH' W F -> H0' P (envU P R F (con s) (claim s) (lcon s) W))
  (hstep : ∀ s F, AH' W F -> (((BN' P (envU P R F (con s) (claim s) (lcon s) W) fuel g b (A s)).run2 (AL' (H s)) 1100 []).view ks).all fun r os _ =>
   (r.1 = .normal /\ KF' ks r.2 os fun W0 F N ys w => ∃ s', μ s' < μ s /\ St W0 F N (H s') (A s') ys w) \/ (r.1 = ax0 /\ KF' ks r.2 os fun W0 F N ys w => St W0 F N HZ Z ys w) \/ KF' ks r.2 os fun _ _ _ _ _ => False) (s : σ) :
  OG' P R W b (A s) (H s) ax0 Z HZ := by
 intro W0 F N w a Q hF hN r ha hU hK; refine wp_loop_rounds (μ s + 1) ?_
 have key : ∀ (m : Nat) (s : σ), μ s < m -> ∀ (N1 : A5') (w : World) (a1 : Act), (∀ i, i < 1000 -> N1 i = N i) -> NB N1 (H s) -> Rep W0 N1 F (AL' (H s)) w -> VRs N1 (A s) a1.tmps.toList -> a1.defers = a.defers ->
   Code.rounds P b Q m a1 w := by
  intro m
  induction m with
  | zero => intro s hs; omega
  | succ m ih =>
   intro s hs N1 w a1 hN1 hNB r ha hd; rw [rounds_succ]; obtain ⟨⟨ax, t⟩, h', n', lg', c, he, hc, hq⟩ := VT.all_pick (hstep s F hF); rw [CI'] at he
   refine (C7' hF.envU hm (hcon s F hF) (hl s F hF) fuel).1 _ _ _ _ _ _ _ _ _ _ _ _ _ _ _ _ _ _ he hc r ha (fun i h1 h2 => hNB.nothing (hH s) h1) (fun ch a' w' h1 h2 => hU ch a' w' (h1.trans hd) h2) fun N2 a2 w2 r2 t2 d2 x2 => ?_
   have hlim := D2' _ he δ
   have hN0 : ∀ i, 1100 <= i -> N1 i = none := fun i hi => hNB.nothing (hH s) hi
   rcases hq with ⟨h1, hfit⟩ | ⟨h2, hfit⟩ | hfit
   ·simp only at h1; subst h1; obtain ⟨s', hμ, N3, q1, q2, q3, q4⟩ := hfit.state r2 x2 hlim hN0 t2; show Code.rounds P b Q m a2 w2; exact ih s' ω N3 w2 a2 (fun i hi => (q1 i hi).trans (hN1 i hi)) q2 q3 q4 (d2.trans hd)
   ·obtain ⟨N3, q1, q2, q3, q4⟩ := hfit.state r2 x2 hlim hN0 t2; simp only at h2
    have hfin := hK a2 w2 ⟨N3, fun i hi => (q1 i hi).trans (hN1 i hi), q2, q3, q4⟩ (d2.trans hd)
    rw [<- h2] at hfin hax
    cases ax with
    | normal => exact absurd rfl hax
    | exit id => exact hfin
    | ret => exact hfin
   ·exact (hfit.state r2 x2 hlim hN0 t2).elim
 exact key _ s ω N w a (fun _ _ => rfl) hN r ha rfl
theorem UL' {R : PanT} {σ : Type} {con : σ -> ConT} {claim : σ -> AX'} {lcon : σ -> IV'} {g : FuncId} (m : Nat) (A : σ -> List (Nat × AV)) (H : σ -> LH) (ax : AX) (Z : List (Nat × AV)) (HZ : LH) (μ : σ -> Nat) (ks idx : List Nat) (fuel : Nat) (hm : P.follows .mixedOrders = true) (hax : ax ≠ .normal)
  (hH : ∀ s, AE' 1100 (H s) = true)
  (hcon : ∀ s F, AH' W F -> K8' P (envU P R F (con s) (claim s) (lcon s) W)) (hl : ∀ s F, AH' W F -> H0' P (envU P R F (con s) (claim s) (lcon s) W))
  (hstep : ∀ s F, AH' W F -> VAll (fun r os _ => r.2.2 = m /\
   ((r.1 = .normal /\ D6' m ks idx r.2.1 os fun W0 F N ys w => ∃ s', μ s' < μ s /\ St W0 F N (H s') (tms 0 m (A s')) ys w) \/ (r.1 = ax /\ D6' m ks idx r.2.1 os fun W0 F N ys w => St W0 F N HZ (tms 0 m Z) ys w) \/ D6' m ks idx r.2.1 os fun _ _ _ _ _ => False)) ((((BN' P (envU P R F (con s) (claim s) (lcon s) W) fuel g b (tms 0 m (A s))).run2 (AL' (H s)) 1100 []).view ks).map (WH' idx))) (s : σ) :
  OG' P R W b (tms 0 m (A s)) (H s) ax (tms 0 m Z) HZ :=
 R5' (σ := σ) (con := con) (claim := claim) (lcon := lcon) (g := g) (fun s => tms 0 m (A s)) H ax (tms 0 m Z) HZ hax μ ks fuel hm hH hcon hl (fun s F hF => VT.all_mono (fun r os n h => by
  obtain ⟨h1, h2⟩ := h
  rcases h2 with ⟨e, t1, H1, l, hb, hf, hg⟩ | ⟨e, t1, H1, l, hb, hf, hg⟩ | ⟨t1, H1, l, hb, hf, hg⟩
  ·exact .inl ⟨e, _, _, l, hb, hf.fit h1, hg⟩
  ·exact .inr (.inl ⟨e, _, _, l, hb, hf.fit h1, hg⟩)
  ·exact .inr (.inr ⟨_, _, l, hb, hf.fit h1, hg⟩)) (VT.all_map (hstep s F hF).out)) s
theorem NC' {avs : List AV} {vals : List Value} {m : Md} (hb : AE' 1100 H = true) (hd : getO H 999 = some (K9' m)) (h : St W0 F N H avs vals w) : False := by
 obtain ⟨N', _, _, r, _⟩ := h; obtain ⟨D0, D, _, q2, _⟩ := r.sat
 have hf : (AL' H).find 999 = some (K9' m) := by rw [AI' (B7' δ hb)]; exact hd
 obtain ⟨l, _, _, q⟩ := (q2 _ _ hf).1; exact A8' _ _ _ _ q
theorem SB' : ∀ (l : List AV) (σ : Nat -> Nat), VW l (AV.rens σ (anys l.length))
 | [], σ => fun N ys h => by
  simp only [VRs] at h; subst h; simp only [List.length_nil, anys, AV.rens, VRs]
 | x :: l, σ => by
  simp only [List.length_cons, anys, AV.rens, AV.ren]; exact VW.cons (Wk.any _) (SB' l σ)
theorem AG' {ks : List Nat} {vs : List AV} {os : List (Option AO)} {m : Md} {Q : World -> HP -> A5' -> List Value -> World -> Prop} (h : getK ks os 999 = some (K9' m)) : KF' ks vs os Q := by
 refine ⟨anys vs.length, [(999, K9' m)], [], rfl, ⟨rfl, rfl, SB' vs _, fun x hx => ?_⟩, fun W0 F N ys w hst => (NC' (m := m) rfl rfl hst).elim⟩
 simp only [List.mem_singleton] at hx; subst hx
 exact ⟨_, h, fun _ _ _ _ h => h⟩
def C8' (P : Program) (R : PanT) (F : HP) (f : FuncId) (g : List AV -> Option (AP AV)) : Prop :=
 ∀ (st : Bool) (W0 : World) (N : A5') (h : T) (w : World) (args : List AV) (vargs : Array Value) (v : AV) (h' : T) (n n' : Nat) (lg lg' : Log) (c : Cnd) (p : AP AV),
  g args = some p -> p.run st h n lg = .ok v h' n' lg' c -> c -> Rep W0 N F h w -> VRs N args vargs.toList -> BE' N n n' -> Calls P f vargs w (EI' (J6' R F W0) W0 F N v h' n n')
theorem C1OK.up {R : PanT} {g : List AV -> Option (AP AV)} (h : C1OK P F f g) : C8' P R F f g :=
 fun st W0 N hh w args vargs v h' n n' lg lg' c p h1 h2 h3 h4 h5 h6 => (h st W0 N hh w args vargs v h' n n' lg lg' c p h1 h2 h3 h4 h5 h6).mono fun _ _ h => .inl h
theorem NT' {R : PanT} {E : Env} : ∀ {l : List (FuncId × (List AV -> Option (AP AV)))}, E.con = conL l -> E.pan = J6' R E.F -> (∀ x ∈ l, C8' P R E.F x.1 x.2) -> K8' P E := by
 intro l hE hP h st W0 N h1 w f args vargs v h' n n' lg lg' c p hp he hc r ha hf; rw [hE] at hp; rw [hP]; clear hE hP
 induction l with
 | nil => cases hp
 | cons x l ih =>
  rw [conL] at hp
  cases hb : Nat.beq f x.1 with
  | true =>
   rw [hb] at hp; rw [Nat.eq_of_beq_eq_true hb]; exact h x List.mem_cons_self st W0 N h1 w args vargs v h' n n' lg lg' c p hp he hc r ha hf
  | false =>
   rw [hb] at hp; exact ih (fun y hy => h y (List.mem_cons_of_mem _ hy)) hp
def KE' (P : Program) (R : PanT) (F : HP) (b : Code) (p : List AV -> AP (AX × List AV)) : Prop :=
 ∀ (st : Bool) (W0 : World) (N : A5') (h : T) (w : World) (tmps tmps' : List AV) (ax : AX) (a : Act) (h' : T) (n n' : Nat) (lg lg' : Log) (c : Cnd) (Q : Exit -> Act -> World -> Prop),
  (p tmps).run st h n lg = .ok (ax, tmps') h' n' lg' c -> c -> Rep W0 N F h w -> VRs N tmps a.tmps.toList -> BE' N n n' ->
  (∀ ch a' w', a'.defers = a.defers -> J6' R F W0 ch w' -> Q (.panic ch) a' w') ->
  (∀ N' a' w', Rep W0 N' F h' w' -> VRs N' tmps' a'.tmps.toList -> a'.defers = a.defers -> Ext N N' n n' -> Q (CO' ax) a' w') -> (Code.loop b).wp P Q a w
theorem L1OK.up {R : PanT} {p : List AV -> AP (AX × List AV)} (h : L1OK P F b p) : KE' P R F b p :=
 fun st W0 N hh w tmps tmps' ax a h' n n' lg lg' c Q h1 h2 h3 h4 h5 _ h7 => h st W0 N hh w tmps tmps' ax a h' n n' lg lg' c Q h1 h2 h3 h4 h5 h7
theorem L5' {R : PanT} {E : Env} : ∀ {l : List (FuncId × Nat × Code × (List AV -> AP (AX × List AV)))}, E.lcon = JC' l -> E.pan = J6' R E.F -> (∀ x ∈ l, KE' P R E.F x.2.2.1 x.2.2.2) -> H0' P E := by
 intro l hE hP h st W0 N h1 w g b tmps tmps' ax a h' n n' lg lg' c Q p hp he hc r ht hf hU hK; rw [hE] at hp
 cases hfr : BG' b with
 | none => rw [hfr] at hp; cases hp
 | some i =>
  rw [hfr, Option.bind_some] at hp; clear hE hfr
  have hU' : ∀ ch a' w', a'.defers = a.defers -> J6' R E.F W0 ch w' -> Q (.panic ch) a' w' := fun ch a' w' h1 h2 => hU ch a' w' h1 (by rw [hP]; exact h2)
  clear hU hP
  induction l with
  | nil => cases hp
  | cons x l ih =>
   rw [JC'] at hp
   cases hb : (Nat.beq g x.1 && Nat.beq i x.2.1) with
   | true =>
    rw [hb] at hp; have hx := h x List.mem_cons_self; obtain ⟨x1, x2, x3⟩ := x; cases hp; exact hx st W0 N h1 w tmps tmps' ax a h' n n' lg lg' c Q he hc r ht hf hU' hK
   | false =>
    rw [hb] at hp; exact ih (fun y hy => h y (List.mem_cons_of_mem _ hy)) hp
theorem aW' {R : PanT} (hF : AH' W F) {σ : Nat -> Nat} {rt : RT} {v0 : AV} (ht : TriU P R W f A H v0 rt.pick.2.2) (hv : rt.pick.2.1 = [v0]) (hcl : ClosedC A H [v0] rt.pick.2.2)
  {st : Bool} {h : T} {vargs : Array Value} {h' : T} {n n' : Nat} {lg lg' : Log} {c : Cnd} (he : (useC σ A args H rt).run st h n lg = .ok v h' n' lg' c) (hc : c.holds)
  (r : Rep W0 N F h w) (ha : VRs N args vargs.toList) (hf : BE' N n n') : Calls P f vargs w (EI' (J6' R F W0) W0 F N v h' n n') := by
 obtain ⟨⟨ax, vs⟩, g1, n1, lg1, c1, c2, e1, e2, k1⟩ := run_bind _ _ he; obtain ⟨h1, rfl, rfl⟩ := AF' e2; obtain ⟨N1, F1, q1, q2, q3, q4, q5, q6, q7⟩ := H4' e1 (k1 hc).1 r ha hf (by rw [hv]; exact hcl); refine (ht W0 F1 N1 w vargs (q2 W hF) q1 q3 q4).mono ?_; rintro e w' (⟨y, rfl, hst⟩ | ⟨ch, rfl, hR, hrep⟩)
 ·obtain ⟨N2, r2, hv2, hx⟩ := q6 w' [y] (by rw [hv]; exact hst); refine .inl ⟨y, N2, rfl, r2, ?_, hx⟩; have hl := hv2.len
  match vs, hl, hv2, h1 with
  | [x], _, hv2, h1 => subst h1; exact (AC'.1 hv2).1
 ·exact .inr ⟨ch, rfl, hR, q7 _ _ hrep⟩
theorem U7' {R : PanT} (hF : AH' W F) {σ : Nat -> Nat} {rt : RT} (ht : OG' P R W b A H rt.pick.1 rt.pick.2.1 rt.pick.2.2) (hcl : ClosedC A H rt.pick.2.1 rt.pick.2.2)
  {st : Bool} {h : T} {ax : AX} {tmps' : List AV} {a : Act} {h' : T} {n n' : Nat} {lg lg' : Log} {c : Cnd} {Q : Exit -> Act -> World -> Prop} (he : (useG σ A args H rt).run st h n lg = .ok (ax, tmps') h' n' lg' c) (hc : c.holds)
  (r : Rep W0 N F h w) (ha : VRs N args a.tmps.toList) (hf : BE' N n n') (hU : ∀ ch a' w', a'.defers = a.defers -> J6' R F W0 ch w' -> Q (.panic ch) a' w')
  (hK : ∀ N' a' w', Rep W0 N' F h' w' -> VRs N' tmps' a'.tmps.toList -> a'.defers = a.defers -> Ext N N' n n' -> Q (CO' ax) a' w') : (Code.loop b).wp P Q a w := by
 obtain ⟨N1, F1, q1, q2, q3, q4, rfl, q6, q7⟩ := H4' he hc r ha hf hcl
 refine ht W0 F1 N1 w a Q (q2 W hF) q1 q3 q4 (fun ch a' w' h1 h2 => hU ch a' w' h1 ⟨h2.1, q7 _ _ h2.2⟩) fun a' w' hst hd => ?_
 obtain ⟨N2, r2, hv2, hx⟩ := q6 w' _ hst; exact hK N2 a' w' r2 hv2 hd hx
theorem L4' {R : PanT} (hF : AH' W F) {π : Type} {get : List AV -> AP π} {pre : π -> Prop} {nm : π -> Nat -> Nat} {A : π -> List AV} {H : π -> LH} {rt : π -> RT}
  (hro : ∀ args, RO (get args)) (ht : ∀ p, pre p -> OG' P R W b (A p) (H p) (rt p).pick.1 (rt p).pick.2.1 (rt p).pick.2.2) (hcl : ∀ p, pre p -> ClosedC (A p) (H p) (rt p).pick.2.1 (rt p).pick.2.2) : KE' P R F b (mkL get pre nm A H rt) := by
 intro st W0 N h w tmps tmps' ax a h' n n' lg lg' c Q he hc r ha hf hU hK; obtain ⟨p, g1, n1, lg1, c1, c2, e1, e2, k1⟩ := run_bind _ _ he; obtain ⟨rfl, rfl⟩ := (hro tmps).run e1; obtain ⟨c3, e3, rfl⟩ := AK' e2; obtain ⟨hp, hc3⟩ := (Cnd.and_iff _ _).1 (k1 hc).2; exact U7' hF (ht p hp) (hcl p hp) e3 hc3 r ha hf hU hK
end Go.Proofs.YtdphpillcaajpaaDoor.Eng
namespace Go.Proofs.YtdphpillcaajpaaDoor.Kit
open Go Go.RowKit Eng
variable {f : FuncId} {F : HP} {A : List AV} {H H' : LH} {b cd : Code} {hints : AX'}
def uRun (R : PanT) (con : CV') (hints : AX') (lc : LcL) (W : World) (f : FuncId) (A : List AV) (H : LH) (ks : List Nat) (F : HP) : VT AV := ((EM' Θ (envU Θ R F (conL con) hints (JC' lc) W) 1000 f A).run2 (AL' H) 1100 []).view ks
def B5' (R : PanT) (con : CV') (hints : AX') (lc : LcL) (W : World) (g : FuncId) (b : Code) (A : List AV) (H : LH) (ks idx : List Nat) (F : HP) : VT (AX × List AV × Nat) := (((BN' Θ (envU Θ R F (conL con) hints (JC' lc) W) 1000 g b A).run2 (AL' H) 1100 []).view ks).map (WH' idx)
theorem A9' {R : PanT} {con : CV'} {lc : LcL} {W : World} {v : AV} (ks : List Nat) (hH : AE' 1100 H = true)
  (hcon : ∀ F, AH' W F -> ∀ x ∈ con, C8' Θ R F x.1 x.2) (hl : ∀ F, AH' W F -> ∀ x ∈ lc, KE' Θ R F x.2.2.1 x.2.2.2) (h : ∀ F, VAll (fun u os _ => KF' ks [u] os fun W0 F N ys w => St W0 F N H' [v] ys w) (uRun R con hints lc W f A H ks F)) : TriU Θ R W f A H v H' :=
 QW' ks 1000 UK' hH (fun F hF => NT' rfl rfl (hcon F hF)) (fun F hF => L5' rfl rfl (hl F hF)) fun F _ => h F
theorem UM' {R : PanT} {W : World} {g : FuncId} {σ : Type} (m : Nat) (A : σ -> List (Nat × AV)) (H : σ -> LH) (ax : AX) (Z : List (Nat × AV)) (HZ : LH) (μ : σ -> Nat) (ks idx : List Nat) (hax : ax ≠ .normal) (hH : ∀ s, AE' 1100 (H s) = true)
  (hstep : ∀ s, ∃ (con : CV') (hints : AX') (lc : LcL), (∀ F, AH' W F -> ∀ x ∈ con, C8' Θ R F x.1 x.2) /\ (∀ F, AH' W F -> ∀ x ∈ lc, KE' Θ R F x.2.2.1 x.2.2.2) /\
   ∀ F, VAll (fun r os _ => r.2.2 = m /\ ((r.1 = .normal /\ D6' m ks idx r.2.1 os fun W0 F N ys w => ∃ s', μ s' < μ s /\ St W0 F N (H s') (tms 0 m (A s')) ys w) \/ (r.1 = ax /\ D6' m ks idx r.2.1 os fun W0 F N ys w => St W0 F N HZ (tms 0 m Z) ys w) \/ D6' m ks idx r.2.1 os fun _ _ _ _ _ => False)) (B5' R con hints lc W g b (tms 0 m (A s)) (H s) ks idx F)) (s : σ) :
  OG' Θ R W b (tms 0 m (A s)) (H s) ax (tms 0 m Z) HZ := by
 have key := UL' (P := Θ) (R := R) (W := W) (b := b) (g := g) (σ := σ) (con := fun s => conL (hstep s).choose) (claim := fun s => (hstep s).choose_spec.choose) (lcon := fun s => JC' (hstep s).choose_spec.choose_spec.choose) m A H ax Z HZ μ ks idx 1000 UK' hax hH
  (fun s F hF => NT' rfl rfl ((hstep s).choose_spec.choose_spec.choose_spec.1 F hF)) (fun s F hF => L5' rfl rfl ((hstep s).choose_spec.choose_spec.choose_spec.2.1 F hF))
 exact key (fun s F _ => (hstep s).choose_spec.choose_spec.choose_spec.2.2 F) s
theorem _root_.Go.Proofs.YtdphpillcaajpaaDoor.Eng.Fits.e {ks : List Nat} {vs : List AV} {os : List (Option AO)} {vs' : List AV} {H' : LH} (h : Fits ks vs os vs' H') : KF' ks vs os fun W0 F N ys w => St W0 F N H' vs' ys w := by
 obtain ⟨v1, H1, l, hb, hf, hg⟩ := h
 exact ⟨v1, H1, l, hb, hf, fun W0 F N ys w => hg W0 F N ys w⟩
theorem AV' {n : Nat} {ks idx : List Nat} {ts : List AV} {os : List (Option AO)} {m : Md} {Q : World -> HP -> A5' -> List Value -> World -> Prop} (h : getK ks os 999 = some (K9' m)) : D6' n ks idx ts os Q :=
 ⟨[], [(999, K9' m)], [], rfl, ⟨rfl, rfl, trivial, ⟨_, h, fun _ _ _ _ h => h⟩, trivial⟩, fun W0 F N ys w hst => (NC' (m := m) rfl rfl hst).elim⟩
theorem noCU {R : PanT} : ∀ x ∈ ([] : CV'), C8' Θ R F x.1 x.2 := fun x hx => by cases hx
theorem noLU {R : PanT} : ∀ x ∈ ([] : LcL), KE' Θ R F x.2.2.1 x.2.2.2 := fun x hx => by cases hx
theorem A1' {R : PanT} {g : List AV -> Option (AP AV)} {l : CV'} (h : C8' Θ R F f g) (hl : ∀ x ∈ l, C8' Θ R F x.1 x.2) : ∀ x ∈ (f, g) :: l, C8' Θ R F x.1 x.2 := fun x hx => by
 rcases List.mem_cons.1 hx with rfl | hx
 ·exact h
 ·exact hl x hx
theorem MJ' {R : PanT} {r : Nat} {g : List AV -> AP (AX × List AV)} (h : KE' Θ R F b g) : ∀ x ∈ ([(f, r, b, g)] : LcL), KE' Θ R F x.2.2.1 x.2.2.2 := fun x hx => by simp only [List.mem_singleton] at hx; subst hx; exact h
theorem b0' {R : PanT} {W : World} {v : AV} {args : List Value} {ch : List PanicEntry} (hA : A = vmap args) (hR : R ch) (h : ∀ w, Calls Θ f args.toArray w fun e w' => e = .panicked ch /\ w' = w) : TriU Θ R W f A H v H' := by
 subst hA; intro W0 F N w vargs hF hNB r ha
 have hv : vargs = args.toArray := by
  have := ha.of_vmap; rw [<- this]
 subst hv; refine (h w).mono ?_; rintro e w' ⟨rfl, rfl⟩; obtain ⟨D0, D, h1, _, _⟩ := r.sat
 exact .inr ⟨ch, rfl, hR, r.os, r.tape, r.output, D0, fun _ _ => False, h1, (fun i o hi => by rw [DD'] at hi; cases hi), (fun i j o o' hi => by rw [DD'] at hi; cases hi)⟩
def RTok (R : PanT) (W : World) (f : FuncId) (A : List AV) (H : LH) : RT -> Prop
 | .leaf _ vs H' => ∃ v, vs = [v] /\ TriU Θ R W f A H v H' /\ ClosedC A H [v] H'
 | .ite b x y => (b = true -> RTok R W f A H x) /\ (b = false -> RTok R W f A H y)
theorem RTok.pick {R : PanT} {W : World} {f : FuncId} {A : List AV} {H : LH} : ∀ {rt : RT}, RTok R W f A H rt -> ∃ v, rt.pick.2.1 = [v] /\ TriU Θ R W f A H v rt.pick.2.2 /\ ClosedC A H [v] rt.pick.2.2
 | .leaf _ _ _, h => h
 | .ite true x y, h => RTok.pick (rt := x) (h.1 rfl)
 | .ite false x y, h => RTok.pick (rt := y) (h.2 rfl)
theorem CL' {R : PanT} {W : World} (hF : AH' W F) {π : Type} {get : List AV -> AP π} {pre : π -> Prop} {nm : π -> Nat -> Nat} {A : π -> List AV} {H : π -> LH} {rt : π -> RT}
  (hro : ∀ args, RO (get args)) (h : ∀ p, pre p -> RTok R W f (A p) (H p) (rt p)) : C8' Θ R F f (mkC get pre nm A H rt) := by
 intro st W0 N h0 w args vargs v h' n n' lg lg' c p hp he hc r ha hf; cases hp; obtain ⟨a, g1, n1, lg1, c1, c2, e1, e2, k1⟩ := run_bind _ _ he; obtain ⟨rfl, rfl⟩ := (hro args).run e1; obtain ⟨c3, e3, rfl⟩ := AK' e2; obtain ⟨hp, hc3⟩ := (Cnd.and_iff _ _).1 (k1 hc).2; obtain ⟨v0, q1, q2, q3⟩ := (h a hp).pick; exact aW' hF q2 q1 q3 e3 hc3 r ha hf
abbrev SP := World -> HP -> A5' -> List Value -> World -> Prop
def PTri (R : PanT) (W : World) (cd : Code) (pre : SP) (post : AX -> SP) : Prop :=
 ∀ (W0 : World) (F : HP) (N : A5') (w : World) (a : Act) (Q : Exit -> Act -> World -> Prop), AH' W F -> pre W0 F N a.tmps.toList w ->
  (∀ ch a' w', a'.defers = a.defers -> J6' R F W0 ch w' -> Q (.panic ch) a' w') ->
  (∀ x a' w', post x W0 F N a'.tmps.toList w' -> a'.defers = a.defers -> Q (CO' x) a' w') -> cd.wp Θ Q a w
def stP (H : LH) (A : List AV) : SP := fun W0 F N ys w => St W0 F N H A ys w
section
variable {R : PanT} {W : World}
theorem PTri.post {pre : SP} {q q' : AX -> SP} (h : PTri R W cd pre q) (hq : ∀ x W0 F N ys w, q x W0 F N ys w -> q' x W0 F N ys w) : PTri R W cd pre q' :=
 fun W0 F N w a Q hF hp hU hK => h W0 F N w a Q hF hp hU fun x a' w' hs hd => hK x a' w' (hq _ _ _ _ _ _ hs) hd
theorem PTri.pre {p p' : SP} {q : AX -> SP} (h : PTri R W cd p q) (hp : ∀ W0 F N ys w, p' W0 F N ys w -> p W0 F N ys w) : PTri R W cd p' q :=
 fun W0 F N w a Q hF hp' => h W0 F N w a Q hF (hp _ _ _ _ _ hp')
theorem PTri.ex {σ : Type} {p : σ -> SP} {q : AX -> SP} (h : ∀ s, PTri R W cd (p s) q) : PTri R W cd (fun W0 F N ys w => ∃ s, p s W0 F N ys w) q :=
 fun W0 F N w a Q hF ⟨s, hs⟩ => h s W0 F N w a Q hF hs
theorem PTri.seq {c1 c2 : Code} {p : SP} {m q : AX -> SP} (h1 : PTri R W c1 p m) (h2 : PTri R W c2 (m .normal) q) (h3 : ∀ x, x ≠ .normal -> ∀ W0 F N ys w, m x W0 F N ys w -> q x W0 F N ys w) : PTri R W (.seq c1 c2) p q := by
 intro W0 F N w a Q hF hp hU hK; refine wp_seq (h1 W0 F N w a _ hF hp (fun ch a' w' hd hu => hU ch a' w' hd hu) fun x a' w' hs hd => ?_)
 cases x with
 | normal => exact h2 W0 F N w' a' Q hF hs (fun ch a2 w2 hd2 hu => hU ch a2 w2 (hd2.trans hd) hu) fun x a2 w2 hs2 hd2 => hK x a2 w2 hs2 (hd2.trans hd)
 | exit id => exact hK _ a' w' (h3 _ (by intro h; cases h) _ _ _ _ _ hs) hd
 | ret => exact hK _ a' w' (h3 _ (by intro h; cases h) _ _ _ _ _ hs) hd
theorem PTri.block {c : Code} {id : Nat} {p : SP} {q : AX -> SP} (h : PTri R W c p q) (hq : ∀ j W0 F N ys w, ¬ q (.exit j) W0 F N ys w) : PTri R W (.block id c) p q := by
 intro W0 F N w a Q hF hp hU hK; refine wp_block (h W0 F N w a _ hF hp (fun ch a' w' hd hu => hU ch a' w' hd hu) fun x a' w' hs hd => ?_)
 cases x with
 | normal => exact hK .normal a' w' hs hd
 | exit j => exact (hq j _ _ _ _ _ hs).elim
 | ret => exact hK .ret a' w' hs hd
theorem PTri.loop {σ : Type} {p : σ -> SP} {q : AX -> SP} (μ : σ -> Nat) (hstep : ∀ s, PTri R W b (p s) (fun x W0 F N ys w => match x with | .normal => ∃ s', μ s' < μ s /\ p s' W0 F N ys w | x => q x W0 F N ys w)) (s : σ) : PTri R W (.loop b) (p s) q := by
 intro W0 F N w a Q hF hp hU hK; refine wp_loop_rounds (μ s + 1) ?_
 have key : ∀ (m : Nat) (s : σ), μ s < m -> ∀ (w : World) (a1 : Act), p s W0 F N a1.tmps.toList w -> a1.defers = a.defers -> Code.rounds Θ b Q m a1 w := by
  intro m
  induction m with
  | zero => intro s hs; omega
  | succ m ih =>
   intro s hs w a1 hp hd; rw [rounds_succ]
   refine hstep s W0 F N w a1 _ hF hp (fun ch a' w' hd2 hu => hU ch a' w' (hd2.trans hd) hu) fun x a' w' hs2 hd2 => ?_
   cases x with
   | normal =>
    obtain ⟨s', hμ, hp'⟩ := hs2; exact ih s' ω w' a' hp' (hd2.trans hd)
   | exit id => exact hK _ a' w' hs2 (hd2.trans hd)
   | ret => exact hK _ a' w' hs2 (hd2.trans hd)
 exact key _ s ω w a hp rfl
theorem AY' {g : FuncId} {con : CV'} {lc : LcL} (m : Nat) {q : AX -> SP} (ks idx : List Nat) (hH : AE' 1100 H = true)
  (hcon : ∀ F, AH' W F -> ∀ x ∈ con, C8' Θ R F x.1 x.2) (hl : ∀ F, AH' W F -> ∀ x ∈ lc, KE' Θ R F x.2.2.1 x.2.2.2)
  (h : ∀ F, VAll (fun r os _ => r.2.2 = m /\ D6' m ks idx r.2.1 os (q r.1)) (B5' R con hints lc W g cd A H ks idx F)) : PTri R W cd (stP H A) q := by
 intro W0 F N w a Q hF hp hU hK; obtain ⟨N1, g1, g2, g3, g4⟩ := hp
 have hall : (((BN' Θ (envU Θ R F (conL con) hints (JC' lc) W) 1000 g cd A).run2 (AL' H) 1100 []).view ks).all fun r os _ => KF' ks r.2 os (q r.1) := by
  refine VT.all_mono (fun r os n hr => ?_) (VT.all_map (h F).out); obtain ⟨h1, t1, H1, l, hb, hf, hg⟩ := hr; exact ⟨_, _, l, hb, hf.fit h1, hg⟩
 obtain ⟨⟨x, t⟩, h', n', lg', c, he, hc, hq⟩ := VT.all_pick hall; rw [CI'] at he
 refine (C7' hF.envU UK' (NT' rfl rfl (hcon F hF)) (L5' rfl rfl (hl F hF)) 1000).1 _ _ _ _ _ _ _ _ _ _ _ _ _ _ _ _ _ _ he hc g3 g4 (fun i h1 h2 => g2.nothing hH h1) (fun ch a' w' h1 h2 => hU ch a' w' h1 h2) fun N2 a2 w2 r2 t2 d2 x2 => ?_
 have hlim := D2' _ he δ; obtain ⟨vs1, H1, l, hb, hfit, hg⟩ := hq; obtain ⟨N3, k1, k2, k3, k4⟩ := hfit.state hb r2 x2 hlim (fun i hi => g2.nothing hH hi) t2; exact hK x a2 w2 (hg _ _ _ _ _ ⟨N3, fun i hi => (k1 i hi).trans (g1 i hi), k2, k3, k4⟩) d2
theorem PTri.ltri {A' : List AV} {ax : AX} (h : PTri R W (.loop b) (stP H A) (fun x W0 F N ys w => x = ax /\ St W0 F N H' A' ys w)) : OG' Θ R W b A H ax A' H' :=
 fun W0 F N w a Q hF hN r ha hU hK => h W0 F N w a Q hF ⟨N, fun _ _ => rfl, hN, r, ha⟩ hU fun x a' w' ⟨hx, hs⟩ hd => by rw [hx]; exact hK a' w' hs hd
end
end Go.Proofs.YtdphpillcaajpaaDoor.Kit
namespace Go.Proofs.YtdphpillcaajpaaDoor.Eng
open Go Go.RowKit
section
variable {P : Program} {W : World} {ρ σ : Type}
theorem iE' {f : FuncId} {A : List AV} {H H' : LH} {v : AV} {c : List AV -> Option (AP AV)} {p : AP AV} (ks : List Nat) (hH : AE' 1100 H = true) (hcon : ∀ F, AH' W F -> C1OK P F f c) (hp : c A = some p)
  (hrun : ((p.run2 (AL' H) 1100 []).view ks).all fun u os _ => Fits ks [u] os [v] H') : Tri P W f A H v H' := by
 intro W0 F N w vargs hF hN r ha; obtain ⟨u, h', n', lg', c, he, hc, hfit⟩ := VT.all_pick hrun; rw [CI'] at he; refine (hcon F hF _ _ _ _ _ _ _ _ _ _ _ _ _ _ _ hp he hc r ha (fun i h1 h2 => hN.nothing hH h1)).mono ?_; rintro e w' ⟨y, N1, rfl, r1, hv, hx⟩; exact ⟨y, rfl, hfit.state r1 hx (D2' _ he δ) (fun i hi => hN.nothing hH hi) (AC'.2 ⟨hv, AU'⟩)⟩
noncomputable def cRun (c : Option (AP AV)) (H : LH) (ks : List Nat) : VT AV := ((c.getD (.fail "none")).run2 (AL' H) 1100 []).view ks
theorem aZ' {f : FuncId} {A : List AV} {H H' : LH} {v : AV} {c : List AV -> Option (AP AV)} (ks : List Nat) (hH : AE' 1100 H = true) (hcon : ∀ F, AH' W F -> C1OK P F f c) (hp : (c A).isSome = true)
  (hrun : VAll (fun u os _ => Fits ks [u] os [v] H') (cRun (c A) H ks)) : Tri P W f A H v H' := by
 obtain ⟨p, hp⟩ := Option.isSome_iff_exists.1 hp; refine iE' ks hH hcon hp ?_; have := hrun.out; unfold cRun at this; rw [hp] at this; exact this
end
end Go.Proofs.YtdphpillcaajpaaDoor.Eng
