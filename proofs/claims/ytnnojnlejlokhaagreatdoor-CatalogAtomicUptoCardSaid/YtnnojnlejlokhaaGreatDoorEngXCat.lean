/- Parts of the proof, merged. -/
import Derived.Test.YtnnojnlejlokhaaGreatDoorEngFam
import Derived.Test.YtnnojnlejlokhaaGreatDoorEngKit
import Derived.Test.YtnnojnlejlokhaaGreatDoorEngRow
set_option linter.unusedVariables false
set_option linter.unusedSimpArgs false
namespace Go.Proofs.YtnnojnlejlokhaaGreatDoor
noncomputable abbrev Θ : Go.Program := Tryz.prog
end Go.Proofs.YtnnojnlejlokhaaGreatDoor
namespace Go.Proofs.YtnnojnlejlokhaaGreatDoor.Eng
open Go Go.RowKit
variable {H : LH}
theorem LTri.pre {P : Program} {W : World} {b : Code} {A A1 : List AV} {H1 : LH} {ax : AX} {A' : List AV} {H' : LH} (hg : Goes A H A1 H1) (h : LTri P W b A1 H1 ax A' H') : LTri P W b A H ax A' H' := by
 intro W0 F N w a Q hF hN r ha hK
 obtain ⟨N', q1, q2, q3, q4⟩ := hg W0 F N a.tmps.toList w ⟨N, fun _ _ => rfl, hN, r, ha⟩
 exact h W0 F N' w a Q hF q2 q3 q4 fun a' w' ⟨N2, p1, p2, p3, p4⟩ hd => hK a' w' ⟨N2, fun i hi => (p1 i hi).trans (q1 i hi), p2, p3, p4⟩ hd
theorem LTri.post {P : Program} {W : World} {b : Code} {A : List AV} {ax : AX} {A' A2 : List AV} {H' H2 : LH} (h : LTri P W b A H ax A' H') (hg : Goes A' H' A2 H2) : LTri P W b A H ax A2 H2 := by
 intro W0 F N w a Q hF hN r ha hK
 exact h W0 F N w a Q hF hN r ha fun a' w' hs hd => hK a' w' (hg _ _ _ _ _ hs) hd
def W0' (m : Nat) (ks idx : List Nat) (ts : List AV) (os : List (Option AO)) (told : List (Nat × AV)) (H : LH) : Prop := ∃ told1 H1 l, AA' 1100 H1 = true /\ FitT ks idx ts os told1 H1 l /\ Goes (tms 0 m told1) H1 (tms 0 m told) H
theorem FitT.fits {m : Nat} {ks idx : List Nat} {ts : List AV} {os : List (Option AO)} {told : List (Nat × AV)} {l : List (Nat × Nat)} (h : FitT ks idx ts os told H l) (hH : AA' 1100 H = true) : W0' m ks idx ts os told H := ⟨told, H, l, hH, h, Goes.refl _ _⟩
end Go.Proofs.YtnnojnlejlokhaaGreatDoor.Eng
namespace Go.Proofs.YtnnojnlejlokhaaGreatDoor.Kit
open Go Go.RowKit Eng Kit
end Go.Proofs.YtnnojnlejlokhaaGreatDoor.Kit
namespace Go.Proofs.YtnnojnlejlokhaaGreatDoor.Eng
open Go Go.RowKit
variable {ks : List Nat} {c : Nat}
def W1' (ks : List Nat) (vs : List AV) (os : List (Option AO)) (Q : World -> HP -> A9' -> List Value -> World -> Prop) : Prop :=
 ∃ vs1 H1 l, AA' 1100 H1 = true /\ Fit ks vs os vs1 H1 l /\ ∀ W0 F N ys w, St W0 F N H1 vs1 ys w -> Q W0 F N ys w
theorem W1'.state {vs : List AV} {Q : World -> HP -> A9' -> List Value -> World -> Prop} {W0 w : World} {N N1 : A9'} {F : HP} {h : T} {n : Nat} {ys : List Value} (hf : W1' ks vs (ks.map h.find) Q)
  (r : Rep W0 N1 F h w) (hx : Ext N N1 1100 n) (hn : n <= T.limit) (hN : ∀ i, 1100 <= i -> N i = none) (hv : VRs N1 vs ys) : Q W0 F N ys w := by
 obtain ⟨vs1, H1, l, hb, hfit, hg⟩ := hf; obtain ⟨N', q1, q2, q3, q4⟩ := hfit.state hb r hx hn hN hv; exact hg W0 F N ys w ⟨N', q1, q2, q3, q4⟩
def VZ' (m : Nat) (ks idx : List Nat) (ts : List AV) (os : List (Option AO)) (Q : World -> HP -> A9' -> List Value -> World -> Prop) : Prop :=
 ∃ told1 H1 l, AA' 1100 H1 = true /\ FitT ks idx ts os told1 H1 l /\ ∀ W0 F N ys w, St W0 F N H1 (tms 0 m told1) ys w -> Q W0 F N ys w
theorem W0'.e {m : Nat} {idx : List Nat} {ts : List AV} {os : List (Option AO)} {told : List (Nat × AV)} {H : LH} (h : W0' m ks idx ts os told H) : VZ' m ks idx ts os fun W0 F N ys w => St W0 F N H (tms 0 m told) ys w := by
 obtain ⟨t1, H1, l, hb, hf, hg⟩ := h
 exact ⟨t1, H1, l, hb, hf, fun W0 F N ys w => hg W0 F N ys w⟩
theorem W0'.one {m : Nat} {idx : List Nat} {ts : List AV} {os : List (Option AO)} {σ : Type} {A : σ -> List (Nat × AV)} {H : σ -> LH} {μ : σ -> Nat} {k : Nat} (s' : σ) (hμ : μ s' < k) (h : W0' m ks idx ts os (A s') (H s')) :
  VZ' m ks idx ts os fun W0 F N ys w => ∃ s', μ s' < k /\ St W0 F N (H s') (tms 0 m (A s')) ys w := by
 obtain ⟨t1, H1, l, hb, hf, hg⟩ := h
 exact ⟨t1, H1, l, hb, hf, fun W0 F N ys w hs => ⟨s', hμ, hg W0 F N ys w hs⟩⟩
mutual
theorem AV.cl_mono {K K' : Nat -> Bool} (h : ∀ n, K n = true -> K' n = true) : ∀ {x : AV}, AV.cl K x -> AV.cl K' x
 | .v _, _ => trivial
 | .lit _, _ => trivial
 | .ptr i _, hc => h i hc
 | .slice i _ _ _ _, hc => h i hc
 | .mt, _ => trivial
 | .un, _ => trivial
 | .map i, hc => h i hc
 | .iface _ x, hc => AV.cl_mono h (x := x) hc
 | .func _ f c, hc => ⟨AV.cls_mono h (l := f) hc.1, AV.cls_mono h (l := c) hc.2⟩
 | .agg cs, hc => AV.cls_mono h (l := cs) hc
 | .tuple cs, hc => AV.cls_mono h (l := cs) hc
 | .any, _ => trivial
theorem AV.cls_mono {K K' : Nat -> Bool} (h : ∀ n, K n = true -> K' n = true) : ∀ {l : List AV}, AV.cls K l -> AV.cls K' l
 | [], _ => trivial
 | x :: l, hc => ⟨AV.cl_mono h (x := x) hc.1, AV.cls_mono h (l := l) hc.2⟩
end
theorem RV' {K K' : Nat -> Bool} (h : ∀ n, K n = true -> K' n = true) : ∀ {l : List (AV × AV × Nat)}, clE K l -> clE K' l
 | [], _ => trivial
 | x :: l, hc => ⟨AV.cl_mono h hc.1, AV.cl_mono h hc.2.1, RV' h hc.2.2⟩
theorem AO.cl_mono {K K' : Nat -> Bool} (h : ∀ n, K n = true -> K' n = true) {o : AO} (hc : o.cl K) : o.cl K' := by
 cases o with
 | cells cs e => exact AV.cls_mono h hc
 | map es c => exact RV' h hc
 | striter s p => exact trivial
 | miter m a b c =>
  cases m with
  | none => exact trivial
  | some j => exact h j hc
 | any p => exact trivial
 | own m p => exact trivial
 | same j b => exact h j hc
theorem H3' {W0 w : World} {F : HP} {N N1 : A9'} {H : LH} {vs : List AV} {ys : List Value} (hl : AA' 1100 H = true) (g1 : ∀ i, i < 1000 -> N1 i = N i) (r : Rep W0 N1 F (AK' H) w) (hvs : VRs N1 vs ys)
  (hv : AV.cls (fun n => Nat.blt n 1000 || (getO H n).isSome) vs) (ho : ∀ x ∈ H, x.2.cl (fun n => Nat.blt n 1000 || (getO H n).isSome)) : St W0 F N H vs ys w := by
 have hf : ∀ n, (AK' H).find n = getO H n := AE' (D7' hl); obtain ⟨D0, D, h1, h2, h3⟩ := r.sat
 let K : Nat -> Bool := fun n => Nat.blt n 1000 || (getO H n).isSome
 let N2 : A9' := fun n => if K n = true then N1 n else none
 have hN2 : ∀ n, K n = true -> N2 n = N1 n := fun n hn => if_pos hn
 refine ⟨N2, fun n hn => ?_, fun n hn hg => ?_, ⟨r.os, r.tape, r.output, D0, D, h1, fun n o hno => ?_, h3⟩, hvs.congr (K := K) hN2 hv⟩
 ·rw [hN2 n (by simp [K, Nat.blt_eq, hn])]; exact g1 n hn
 ·refine if_neg ?_; simp only [K, hg, Bool.or_eq_true, Nat.blt_eq]; rintro (hh | hh)
  ·omega
  ·cases hh
 ·have := h2 n o hno; rw [hf] at hno; exact ⟨this.1.congr (K := K) hN2 (by simp [K, hno]) (ho _ (BC' hno)), this.2⟩
abbrev KMap (κ α : Type) := List (κ × α × Nat)
structure KOK {κ : Type} [DecidableEq κ] (kv : κ -> Value) : Prop where
 inj : ∀ a b, valQ (kv a) (kv b) = decide (a = b)
 same : ∀ k, Instr.sameBits 10000 (kv k) (kv k) = true
def KTy {κ : Type} [DecidableEq κ] (P : Program) (t : TypeId) (kv : κ -> Value) : Prop := ∀ (E : Env) a b, Q2' P E t (.v (kv a)) (.v (kv b)) = .ret (decide (a = b))
section
variable {κ α : Type} {kv : κ -> Value} {ev : α -> AV}
def kE (kv : κ -> Value) (ev : α -> AV) (m : KMap κ α) : List (AV × AV × Nat) := m.map fun e => (.v (kv e.1), ev e.2.1, e.2.2)
structure KI (m : KMap κ α) (c : Nat) : Prop where
 keys : (m.map (·.1)).Nodup
 stamps : (m.map (·.2.2)).Nodup
 low : ∀ e ∈ m, e.2.2 < c
theorem Z8' (m : KMap κ α) (j : Nat) : (kE kv ev m)[j]? = (m[j]?).map fun e => (.v (kv e.1), ev e.2.1, e.2.2) := by simp [kE]
theorem kE_set (m : KMap κ α) (j : Nat) (k : κ) (x : α) (s : Nat) : (kE kv ev m).set j (.v (kv k), ev x, s) = kE kv ev (m.set j (k, x, s)) := by simp [kE, List.map_set]
theorem UO' (m : KMap κ α) : (kE kv ev m).map (·.2.2) = m.map (·.2.2) := by simp [kE]
theorem KI.nil : KI ([] : KMap κ α) 0 := ⟨List.nodup_nil, List.nodup_nil, fun e he => by cases he⟩
end
section
variable {κ α : Type} [DecidableEq κ] {kv : κ -> Value} {ev : α -> AV}
def CN' (k : κ) : KMap κ α -> Nat -> Option (Nat × α)
 | [], _ => none
 | e :: l, i => if k = e.1 then some (i, e.2.1) else CN' k l (i + 1)
def B5' (k : κ) : KMap κ α -> Option α
 | [] => none
 | e :: l => if k = e.1 then some e.2.1 else B5' k l
def kset (m : KMap κ α) (c : Nat) (k : κ) (x : α) : KMap κ α := match CN' k m 0 with
 | some (j, _) => m.set j (k, x, ((m[j]?).map (·.2.2)).getD 0)
 | none => m ++ [(k, x, c)]
def HA' (m : KMap κ α) (c : Nat) (k : κ) : Nat := match CN' k m 0 with
 | some _ => c
 | none => c + 1
def kdel (m : KMap κ α) (k : κ) : KMap κ α := match CN' k m 0 with
 | some (j, _) => m.eraseIdx j
 | none => m
theorem UM' (hO : KOK kv) (a b : κ) : keyQ (.v (kv a)) (.v (kv b)) = decide (a = b) := hO.inj a b
theorem EO' (hO : KOK kv) (k : κ) : ∀ (m : KMap κ α) (i : Nat), B4' (.v (kv k)) (kE kv ev m) i = (CN' k m i).map fun p => (p.1, ev p.2)
 | [], i => rfl
 | e :: l, i => by
  have ih := EO' hO k l (i + 1); show B4' (.v (kv k)) ((.v (kv e.1), ev e.2.1, e.2.2) :: kE kv ev l) i = _; rw [B4', UM' hO, CN']
  by_cases h : k = e.1
  ·rw [if_pos h]; simp [h]
  ·rw [if_neg h]; simp only [h, decide_false]; exact ih
theorem DR' : ∀ {m : KMap κ α} {i : Nat} {k : κ} {j : Nat} {x : α}, CN' k m i = some (j, x) -> i <= j /\ ∃ s, m[j - i]? = some (k, x, s)
 | [], i, k, j, x, h => by cases h
 | e :: l, i, k, j, x, h => by
  rw [CN'] at h; split at h
  ·rename_i hk; cases h; refine ⟨Nat.le_refl _, e.2.2, ?_⟩; rw [Nat.sub_self]; simp [hk]
  ·obtain ⟨h1, s, h2⟩ := DR' h; refine ⟨ω, s, ?_⟩
   rw [show j - i = (j - (i + 1)) + 1 from ω, List.getElem?_cons_succ]; exact h2
theorem CB' (k : κ) : ∀ (m : KMap κ α) (i : Nat), (CN' k m i).map (·.2) = B5' k m
 | [], i => rfl
 | e :: l, i => by
  rw [CN', B5']; split
  ·rfl
  ·exact CB' k l (i + 1)
theorem LS' {P : Program} {E : Env} {t : TypeId} (hO : KOK kv) (hu : KTy P t kv) (k : κ) : ∀ (m : KMap κ α) (i : Nat), findKey P E t (.v (kv k)) (kE kv ev m) i = .ret (B4' (.v (kv k)) (kE kv ev m) i)
 | [], i => rfl
 | e :: l, i => by
  have ih := LS' (E := E) hO hu k l (i + 1); have hk : Q2' P E t (.v (kv k)) (.v (kv e.1)) = .ret (decide (k = e.1)) := hu E k e.1
  show ((Q2' P E t (.v (kv k)) (.v (kv e.1))).bind fun b => match b with
   | true => pure (some (i, ev e.2.1))
   | false => findKey P E t (.v (kv k)) (kE kv ev l) (i + 1)) = .ret (B4' (.v (kv k)) ((.v (kv e.1), ev e.2.1, e.2.2) :: kE kv ev l) i)
  rw [hk, B4', UM' hO]
  show (match decide (k = e.1) with
   | true => (pure (some (i, ev e.2.1)) : AP (Option (Nat × AV)))
   | false => findKey P E t (.v (kv k)) (kE kv ev l) (i + 1)) = _
  cases decide (k = e.1) with
  | true => rfl
  | false => exact ih
theorem TQ' (hO : KOK kv) (k : κ) (m : KMap κ α) : D6' (.v (kv k)) (kE kv ev m) := by
 intro j v h; rw [EO' hO] at h
 cases hf : CN' k m 0 with
 | none => rw [hf] at h; cases h
 | some p =>
  rw [hf] at h; cases h; obtain ⟨_, s, h2⟩ := DR' (x := p.2) (j := p.1) hf; rw [Nat.sub_zero] at h2
  refine ⟨_, by rw [Z8', h2]; rfl, ?_⟩
  exact hO.same k
theorem aL' (hO : KOK kv) (k : κ) (x : α) (m : KMap κ α) (c : Nat) : setE (.v (kv k)) (ev x) (kE kv ev m) c = kE kv ev (kset m c k x) := by
 rw [setE, EO' hO, kset]
 cases hf : CN' k m 0 with
 | none => simp [kE]
 | some p =>
  simp only [Option.map_some]; rw [Z8', Option.map_map, <- kE_set]; rfl
theorem Y6' (hO : KOK kv) (k : κ) (m : KMap κ α) (c : Nat) : GC' (.v (kv k)) (kE kv ev m) c = HA' m c k := by
 rw [GC', EO' hO, HA']
 cases CN' k m 0 <;> rfl
theorem g8' (hO : KOK kv) (k : κ) (m : KMap κ α) : delE (.v (kv k)) (kE kv ev m) = kE kv ev (kdel m k) := by
 rw [delE, EO' hO, kdel]
 cases CN' k m 0 with
 | none => rfl
 | some p => simp [kE, List.eraseIdx_eq_take_drop_succ]
theorem XS' (hO : KOK kv) (k : κ) (m : KMap κ α) (z : Value) : D2' (B4' (.v (kv k)) (kE kv ev m) 0) z = ((B5' k m).map ev).getD (.v z) := by
 rw [EO' hO, <- CB' k m 0]
 cases CN' k m 0 <;> rfl
theorem MH' (hO : KOK kv) (k : κ) (m : KMap κ α) : (B4' (.v (kv k)) (kE kv ev m) 0).isSome = (B5' k m).isSome := by
 rw [EO' hO, <- CB' k m 0]; simp
theorem IN' {m : KMap κ α} {k : κ} : B5' k m = none ↔ k ∉ m.map (·.1) := by
 induction m with
 | nil => simp [B5']
 | cons e l ih =>
  rw [B5']
  by_cases h : k = e.1
  ·rw [if_pos h]; simp [h]
  ·rw [if_neg h, ih]; simp [h]
theorem JE' {m : KMap κ α} {k : κ} {x : α} {s : Nat} (h : B5' k m = none) (k' : κ) : B5' k' (m ++ [(k, x, s)]) = if k' = k then some x else B5' k' m := by
 induction m with
 | nil => simp [B5']
 | cons e l ih =>
  rw [B5'] at h; split at h
  ·cases h
  ·rename_i hne; rw [List.cons_append, B5', B5', ih h]
   by_cases h1 : k' = e.1
   ·rw [if_pos h1, if_pos h1, if_neg (fun h2 : k' = k => hne (h2 ▸ h1))]
   ·rw [if_neg h1, if_neg h1]
theorem OA' : ∀ {m : KMap κ α} {i : Nat} {k : κ} {j : Nat} {y x : α} {s : Nat}, CN' k m i = some (j, y) -> ∀ k', B5' k' (m.set (j - i) (k, x, s)) = if k' = k then some x else B5' k' m
 | [], i, k, j, y, x, s, h, k' => by cases h
 | e :: l, i, k, j, y, x, s, h, k' => by
  rw [CN'] at h; split at h
  ·rename_i hk; cases h; rw [Nat.sub_self, List.set_cons_zero, B5', B5']
   by_cases h1 : k' = k
   ·rw [if_pos h1, if_pos h1]
   ·rw [if_neg h1, if_neg h1, if_neg (fun h2 : k' = e.1 => h1 (h2.trans hk.symm))]
  ·rename_i hk; obtain ⟨hle, _⟩ := DR' h
   rw [show j - i = (j - (i + 1)) + 1 from ω, List.set_cons_succ, B5', B5', OA' h]
   by_cases h1 : k' = e.1
   ·rw [if_pos h1, if_pos h1, if_neg (fun h2 : k' = k => hk (h2 ▸ h1))]
   ·rw [if_neg h1, if_neg h1]
theorem SN' (m : KMap κ α) (c : Nat) (k : κ) (x : α) (k' : κ) : B5' k' (kset m c k x) = if k' = k then some x else B5' k' m := by
 rw [kset]
 cases hf : CN' k m 0 with
 | none => exact JE' (by rw [<- CB' k m 0, hf]; rfl) k'
 | some p => exact OA' (i := 0) hf k'
theorem UK' (m : KMap κ α) (c : Nat) (k : κ) (x : α) : (kset m c k x).map (·.1) = if k ∈ m.map (·.1) then m.map (·.1) else m.map (·.1) ++ [k] := by
 rw [kset]
 cases hf : CN' k m 0 with
 | none =>
  have : B5' k m = none := by rw [<- CB' k m 0, hf]; rfl
  rw [if_neg (IN'.1 this)]; simp
 | some p =>
  obtain ⟨j, y⟩ := p; obtain ⟨_, s, hj⟩ := DR' hf; rw [Nat.sub_zero] at hj; rw [if_pos (List.mem_map.2 ⟨_, List.mem_of_getElem? hj, rfl⟩), List.map_set]; obtain ⟨hlt, he⟩ := List.getElem?_eq_some_iff.1 hj
  have : (m.map (·.1))[j]'(by simpa using hlt) = k := by simp [he]
  simp only; rw [<- this]; exact List.set_getElem_self _
theorem KI.kset {m : KMap κ α} (h : KI m c) (k : κ) (x : α) : KI (kset m c k x) (HA' m c k) := by
 have hk : ((Eng.kset m c k x).map (·.1)).Nodup := by
  rw [UK']; split
  ·exact h.keys
  ·rename_i hn; rw [List.nodup_append]
   refine ⟨h.keys, by simp, fun a ha b hb => ?_⟩
   simp only [List.mem_singleton] at hb; rintro rfl; exact hn (hb ▸ ha)
 refine ⟨hk, ?_, ?_⟩
 ·rw [Eng.kset]
  cases hf : CN' k m 0 with
  | none =>
   rw [List.map_append, List.nodup_append]
   refine ⟨h.stamps, by simp, fun a ha b hb => ?_⟩
   obtain ⟨e, he, rfl⟩ := List.mem_map.1 ha; simp only [List.map_cons, List.map_nil, List.mem_singleton] at hb; have := h.low e he; omega
  | some p =>
   obtain ⟨j, y⟩ := p; obtain ⟨_, s, hj⟩ := DR' hf; rw [Nat.sub_zero] at hj; simp only [hj, Option.map_some, Option.getD_some, List.map_set]; obtain ⟨hlt, he⟩ := List.getElem?_eq_some_iff.1 hj
   have : (m.map (·.2.2))[j]'(by simpa using hlt) = s := by simp [he]
   rw [<- this, List.set_getElem_self]; exact h.stamps
 ·intro e he; rw [Eng.kset] at he; rw [HA']
  cases hf : CN' k m 0 with
  | none =>
   rw [hf] at he
   rcases List.mem_append.1 he with he | he
   ·have := h.low e he; simp only; omega
   ·simp only [List.mem_singleton] at he; subst he; simp
  | some p =>
   obtain ⟨j, y⟩ := p; obtain ⟨_, s, hj⟩ := DR' hf; rw [Nat.sub_zero] at hj; rw [hf] at he; simp only [hj, Option.map_some, Option.getD_some] at he ⊢
   rcases List.mem_or_eq_of_mem_set he with he | he
   ·exact h.low e he
   ·subst he; exact h.low (k, y, s) (List.mem_of_getElem? hj)
theorem JP' (m : KMap κ α) (k : κ) : List.Sublist (kdel m k) m := by
 rw [kdel]
 cases CN' k m 0 with
 | none => exact List.Sublist.refl _
 | some p => exact List.eraseIdx_sublist _ _
theorem KI.kdel {m : KMap κ α} (h : KI m c) (k : κ) : KI (kdel m k) c :=
 ⟨h.keys.sublist ((JP' m k).map _), h.stamps.sublist ((JP' m k).map _), fun e he => h.low e ((JP' m k).subset he)⟩
theorem KF' : ∀ {m : KMap κ α} {i : Nat} {k : κ} {j : Nat} {y : α}, (m.map (·.1)).Nodup -> CN' k m i = some (j, y) -> ∀ k', B5' k' (m.eraseIdx (j - i)) = if k' = k then none else B5' k' m
 | [], i, k, j, y, _, h, k' => by cases h
 | e :: l, i, k, j, y, hn, h, k' => by
  rw [List.map_cons, List.nodup_cons] at hn; rw [CN'] at h; split at h
  ·rename_i hk; cases h; rw [Nat.sub_self, List.eraseIdx_cons_zero, B5']
   by_cases h1 : k' = k
   ·rw [if_pos h1, IN', h1, hk]; exact hn.1
   ·rw [if_neg h1, if_neg (fun h2 : k' = e.1 => h1 (h2.trans hk.symm))]
  ·rename_i hk; obtain ⟨hle, _⟩ := DR' h
   rw [show j - i = (j - (i + 1)) + 1 from ω, List.eraseIdx_cons_succ, B5', B5', KF' hn.2 h]
   by_cases h1 : k' = e.1
   ·rw [if_pos h1, if_pos h1, if_neg (fun h2 : k' = k => hk (h2 ▸ h1))]
   ·rw [if_neg h1, if_neg h1]
theorem SO' {m : KMap κ α} (h : KI m c) (k k' : κ) : B5' k' (kdel m k) = if k' = k then none else B5' k' m := by
 rw [Eng.kdel]
 cases hf : CN' k m 0 with
 | none =>
  have hn : B5' k m = none := by rw [<- CB' k m 0, hf]; rfl
  by_cases h1 : k' = k
  ·rw [if_pos h1, h1]; exact hn
  ·rw [if_neg h1]
 | some p => exact KF' (i := 0) h.keys hf k'
end
end Go.Proofs.YtnnojnlejlokhaaGreatDoor.Eng
namespace Go.Proofs.YtnnojnlejlokhaaGreatDoor.Kit
open Go Go.RowKit Eng Kit
end Go.Proofs.YtnnojnlejlokhaaGreatDoor.Kit
namespace Go.Proofs.YtnnojnlejlokhaaGreatDoor.Eng
open Go Go.RowKit
variable {A : List AV} {H : LH} {cd : Code}
def CTri (P : Program) (W : World) (cd : Code) (A : List AV) (H : LH) {ρ : Type} (ax : ρ -> AX) (A' : ρ -> List AV) (H' : ρ -> LH) : Prop :=
 ∀ (W0 : World) (F : HP) (N : A9') (w : World) (a : Act) (Q : Exit -> Act -> World -> Prop), AH' W F -> NB N H -> Rep W0 N F (AK' H) w -> VRs N A a.tmps.toList ->
  (∀ r a' w', St W0 F N (H' r) (A' r) a'.tmps.toList w' -> a'.defers = a.defers -> Q (EU' (ax r)) a' w') -> cd.wp P Q a w
section
variable {P : Program} {W : World} {ρ σ : Type}
theorem CTri.pre {A1 : List AV} {H1 : LH} {ax : ρ -> AX} {A' : ρ -> List AV} {H' : ρ -> LH} (h : CTri P W cd A1 H1 ax A' H') (hg : Goes A H A1 H1) : CTri P W cd A H ax A' H' := by
 intro W0 F N w a Q hF hN r ha hK
 obtain ⟨N1, g1, g2, g3, g4⟩ := hg W0 F N _ _ ⟨N, fun _ _ => rfl, hN, r, ha⟩
 exact h W0 F N1 w a Q hF g2 g3 g4 fun q a' w' ⟨N2, k1, k2, k3, k4⟩ hd => hK q a' w' ⟨N2, fun i hi => (k1 i hi).trans (g1 i hi), k2, k3, k4⟩ hd
theorem CTri.post {ax : ρ -> AX} {A' : ρ -> List AV} {H' : ρ -> LH} {ρ2 : Type} {ax2 : ρ2 -> AX} {A2 : ρ2 -> List AV} {H2 : ρ2 -> LH} (h : CTri P W cd A H ax A' H') (hg : ∀ r, ∃ r2, ax2 r2 = ax r /\ Goes (A' r) (H' r) (A2 r2) (H2 r2)) : CTri P W cd A H ax2 A2 H2 := by
 intro W0 F N w a Q hF hN r ha hK
 refine h W0 F N w a Q hF hN r ha fun q a' w' hs hd => ?_
 obtain ⟨r2, e, hg⟩ := hg q; rw [<- e]; exact hK r2 a' w' (hg _ _ _ _ _ hs) hd
theorem CTri.seq {c1 c2 : Code} {A1 : σ -> List AV} {H1 : σ -> LH} {ax : ρ -> AX} {A' : ρ -> List AV} {H' : ρ -> LH} (h1 : CTri P W c1 A H (fun _ : σ => .normal) A1 H1) (h2 : ∀ s, CTri P W c2 (A1 s) (H1 s) ax A' H') : CTri P W (.seq c1 c2) A H ax A' H' := by
 intro W0 F N w a Q hF hN r ha hK; refine wp_seq (h1 W0 F N w a _ hF hN r ha fun s a' w' hs hd => ?_); obtain ⟨N1, g1, g2, g3, g4⟩ := hs
 exact h2 s W0 F N1 w' a' Q hF g2 g3 g4 fun q a2 w2 ⟨N2, k1, k2, k3, k4⟩ hd2 => hK q a2 w2 ⟨N2, fun i hi => (k1 i hi).trans (g1 i hi), k2, k3, k4⟩ (hd2.trans hd)
theorem CTri.block {c : Code} {id : Nat} {A' : ρ -> List AV} {H' : ρ -> LH} (h : CTri P W c A H (fun _ : ρ => .exit id) A' H') : CTri P W (.block id c) A H (fun _ : ρ => .normal) A' H' := by
 intro W0 F N w a Q hF hN r ha hK; refine wp_block (h W0 F N w a _ hF hN r ha fun q a' w' hs hd => ?_); show (if id = id then Q .normal a' w' else _); rw [if_pos rfl]; exact hK q a' w' hs hd
theorem Tri.body {f : FuncId} {fn : Func} {t m : Nat} {A0 : List AV} {H' : LH} {v : AV} {ax : AX} (hfn : P.funcs[f]? = some fn) (hcd : fn.body = some cd) (hres : fn.results = #[.tmp t]) (hm : fn.ntmps = m) (hA0 : A ++ List.replicate (m - A.length) AV.undef = A0) (hax : ax = .ret \/ ax = .normal) (ht : t < m)
  (h : CTri P W cd A0 H (fun _ : Unit => ax) (fun _ => tms 0 m [(t, v)]) (fun _ => H')) : Tri P W f A H v H' := by
 intro W0 F N w vargs hF hN r ha
 have hlen : A.length = vargs.size := by rw [ha.len]; simp
 refine calls_of_wp hfn hcd ?_
 refine h W0 F N w _ _ hF hN r ?_ fun _ a' w' hs hd => ?_
 ·subst hA0; rw [Array.toList_append, Array.toList_replicate, hm, hlen]; refine ha.append ?_
  generalize m - vargs.size = k
  induction k with
  | zero => exact AX'
  | succ k ih => exact AD'.2 ⟨HL', ih⟩
 ·obtain ⟨N1, g1, g2, g3, g4⟩ := hs
  have hv : ∀ (k j : Nat) (l : List Value), k <= t -> t < k + j -> VRs N1 (tms k j [(t, v)]) l -> ∃ y, l[t - k]? = some y /\ VR N1 v y := by
   intro k j
   induction j generalizing k with
   | zero => intro l h1 h2; omega
   | succ j ih =>
    intro l h1 h2 hl; rw [tms] at hl; simp only [VRs] at hl; obtain ⟨y, l', q1, q2, rfl⟩ := hl
    by_cases e : k = t
    ·subst e
     refine ⟨y, by simp, ?_⟩
     simpa using q1
    ·obtain ⟨z, z1, z2⟩ := ih (k + 1) l' ω ω q2
     exact ⟨z, by rw [show t - k = (t - (k + 1)) + 1 from ω, List.getElem?_cons_succ]; exact z1, z2⟩
  obtain ⟨y, hy, hvy⟩ := hv 0 m _ (Nat.zero_le _) ω g4
  have hr : (results fn a'.tmps).run P w' = .ok y w' := by
   unfold results; rw [hres]
   have : a'.tmps.getD t Go.undef = y := by
    rw [Nat.sub_zero, Array.getElem?_toList] at hy; simp [Array.getD_eq_getD_getElem?, hy]
   rw [Array.getD_eq_getD_getElem?] at this; simp [this]
  have hpost : a'.defers = [] /\ ∃ y, (results fn a'.tmps).run P w' = .ok y w' /\ ∃ z, Ending.returned y = .returned z /\ St W0 F N H' [v] [z] w' := ⟨hd, y, hr, y, rfl, N1, g1, g2, g3, AD'.2 ⟨hvy, AX'⟩⟩
  rcases hax with rfl | rfl
  ·exact hpost
  ·exact hpost
theorem CTri.run {con : ConT} {claim : BI'} {lcon : JJ'} {g : FuncId} {ax : ρ -> AX} {A' : ρ -> List AV} {H' : ρ -> LH} (ks : List Nat) (fuel : Nat) (hm : P.follows .mixedOrders = true) (hH : AA' 1100 H = true)
  (hcon : ∀ F, AH' W F -> IB' P (envO P F con claim lcon W)) (hl : ∀ F, AH' W F -> DU' P (envO P F con claim lcon W))
  (hrun : ∀ F, AH' W F -> (((CT' P (envO P F con claim lcon W) fuel g cd A).run2 (AK' H) 1100 []).view ks).all fun u os _ => W1' ks u.2 os fun W0 F N ys w => ∃ q, ax q = u.1 /\ St W0 F N (H' q) (A' q) ys w) : CTri P W cd A H ax A' H' := by
 intro W0 F N w a Q hF hN r ha hK; obtain ⟨⟨x, t⟩, h', n', lg', c, he, hc, hq⟩ := VT.all_pick (hrun F hF); rw [E6'] at he
 refine (DA' hF.env hm (hcon F hF) (hl F hF) fuel).1 _ _ _ _ _ _ _ _ _ _ _ _ _ _ _ _ _ _ he hc r ha (fun i h1 h2 => hN.nothing hH h1) fun N2 a2 w2 r2 t2 d2 x2 => ?_
 have hlim := E3' _ he δ; obtain ⟨q, e, hs⟩ := hq.state r2 x2 hlim (fun i hi => hN.nothing hH hi) t2; simp only at e; rw [<- e]; exact hK q a2 w2 hs d2
theorem CTri.loop {con : σ -> ConT} {claim : σ -> BI'} {lcon : σ -> JJ'} {g : FuncId} {b : Code} (A : σ -> List AV) (H : σ -> LH) (ax : ρ -> AX) (A' : ρ -> List AV) (H' : ρ -> LH) (hax : ∀ q, ax q ≠ .normal) (μ : σ -> Nat) (ks : List Nat) (fuel : Nat) (hm : P.follows .mixedOrders = true)
  (hH : ∀ s, AA' 1100 (H s) = true)
  (hcon : ∀ s F, AH' W F -> IB' P (envO P F (con s) (claim s) (lcon s) W)) (hl : ∀ s F, AH' W F -> DU' P (envO P F (con s) (claim s) (lcon s) W))
  (hstep : ∀ s F, AH' W F -> (((CT' P (envO P F (con s) (claim s) (lcon s) W) fuel g b (A s)).run2 (AK' (H s)) 1100 []).view ks).all fun r os _ =>
   W1' ks r.2 os fun W0 F N ys w => (r.1 = .normal /\ ∃ s', μ s' < μ s /\ St W0 F N (H s') (A s') ys w) \/ ∃ q, ax q = r.1 /\ St W0 F N (H' q) (A' q) ys w) (s : σ) :
  CTri P W (.loop b) (A s) (H s) ax A' H' := by
 intro W0 F N w a Q hF hN r ha hK; refine wp_loop_rounds (μ s + 1) ?_
 have key : ∀ (m : Nat) (s : σ), μ s < m -> ∀ (N1 : A9') (w : World) (a1 : Act), (∀ i, i < 1000 -> N1 i = N i) -> NB N1 (H s) -> Rep W0 N1 F (AK' (H s)) w -> VRs N1 (A s) a1.tmps.toList -> a1.defers = a.defers ->
   Code.rounds P b Q m a1 w := by
  intro m
  induction m with
  | zero => intro s hs; omega
  | succ m ih =>
   intro s hs N1 w a1 hN1 hNB r ha hd; rw [rounds_succ]; obtain ⟨⟨x, t⟩, h', n', lg', c, he, hc, hq⟩ := VT.all_pick (hstep s F hF); rw [E6'] at he
   refine (DA' hF.env hm (hcon s F hF) (hl s F hF) fuel).1 _ _ _ _ _ _ _ _ _ _ _ _ _ _ _ _ _ _ he hc r ha (fun i h1 h2 => hNB.nothing (hH s) h1) fun N2 a2 w2 r2 t2 d2 x2 => ?_
   have hlim := E3' _ he δ
   have hN0 : ∀ i, 1100 <= i -> N1 i = none := fun i hi => hNB.nothing (hH s) hi
   rcases hq.state r2 x2 hlim hN0 t2 with ⟨e, s', hμ, N3, q1, q2, q3, q4⟩ | ⟨q, e, N3, q1, q2, q3, q4⟩
   ·simp only at e; subst e; show Code.rounds P b Q m a2 w2; exact ih s' ω N3 w2 a2 (fun i hi => (q1 i hi).trans (hN1 i hi)) q2 q3 q4 (d2.trans hd)
   ·have hfin := hK q a2 w2 ⟨N3, fun i hi => (q1 i hi).trans (hN1 i hi), q2, q3, q4⟩ (d2.trans hd)
    have hx : x ≠ .normal := fun h => hax q (e.trans h)
    rw [e] at hfin
    cases x with
    | normal => exact absurd rfl hx
    | exit id => exact hfin
    | ret => exact hfin
 exact key _ s ω N w a (fun _ _ => rfl) hN r ha rfl
end
end Go.Proofs.YtnnojnlejlokhaaGreatDoor.Eng
namespace Go.Proofs.YtnnojnlejlokhaaGreatDoor.Kit
open Go Go.RowKit Eng Kit
section
variable {W : World} {g : FuncId} {ρ σ : Type}
theorem gE' {b : Code} (m : Nat) (A : σ -> List (Nat × AV)) (H : σ -> LH) (ax : ρ -> AX) (A' : ρ -> List (Nat × AV)) (H' : ρ -> LH) (hax : ∀ q, ax q ≠ .normal) (μ : σ -> Nat) (ks idx : List Nat) (hH : ∀ s, AA' 1100 (H s) = true)
  (hstep : ∀ s, ∃ (con : GP') (hints : BI') (lc : LcL) (B : LH), AA' 1100 B = true /\ Goes (tms 0 m (A s)) (H s) (tms 0 m (A s)) B /\ (∀ F, AH' W F -> ∀ x ∈ con, C1OK Θ F x.1 x.2) /\ (∀ F, AH' W F -> ∀ x ∈ lc, L1OK Θ F x.2.2.1 x.2.2.2) /\
   ∀ F, VAll (fun r os _ => r.2.2 = m /\ VZ' m ks idx r.2.1 os fun W0 F N ys w => (r.1 = .normal /\ ∃ s', μ s' < μ s /\ St W0 F N (H s') (tms 0 m (A s')) ys w) \/ ∃ q, ax q = r.1 /\ St W0 F N (H' q) (tms 0 m (A' q)) ys w) (AW' con hints lc W g b (tms 0 m (A s)) B ks idx F)) (s : σ) :
  CTri Θ W (.loop b) (tms 0 m (A s)) (H s) ax (fun q => tms 0 m (A' q)) H' := by
 intro W0 F N w a Q hF hN r ha hK; refine wp_loop_rounds (μ s + 1) ?_
 have key : ∀ (k : Nat) (s : σ), μ s < k -> ∀ (N1 : A9') (w : World) (a1 : Act), (∀ i, i < 1000 -> N1 i = N i) -> NB N1 (H s) -> Rep W0 N1 F (AK' (H s)) w -> VRs N1 (tms 0 m (A s)) a1.tmps.toList -> a1.defers = a.defers ->
   Code.rounds Θ b Q k a1 w := by
  intro k
  induction k with
  | zero => intro s hs; omega
  | succ k ih =>
   intro s hs N1 w a1 hN1 hNB r ha hd; rw [rounds_succ]; obtain ⟨con, hints, lc, B, hB, hgo, hcon, hl, hrun⟩ := hstep s
   obtain ⟨N4, p1, p2, p3, p4⟩ := hgo _ _ _ _ _ ⟨N1, fun _ _ => rfl, hNB, r, ha⟩
   have hall : (((CT' Θ (envO Θ F (conL con) hints (Q0' lc) W) 1000 g b (tms 0 m (A s))).run2 (AK' B) 1100 []).view ks).all fun r os _ => W1' ks r.2 os fun W0 F N ys w => (r.1 = .normal /\ ∃ s', μ s' < μ s /\ St W0 F N (H s') (tms 0 m (A s')) ys w) \/ ∃ q, ax q = r.1 /\ St W0 F N (H' q) (tms 0 m (A' q)) ys w := by
    refine VT.all_mono (fun r os n hr => ?_) (VT.all_map (hrun F).out); obtain ⟨h1, t1, H1, l, hb, hf, hg⟩ := hr; exact ⟨_, _, l, hb, hf.fit h1, hg⟩
   obtain ⟨⟨x, t⟩, h', n', lg', c, he, hc, hq⟩ := VT.all_pick hall; rw [E6'] at he
   refine (DA' hF.env XG' (MQ' rfl (hcon F hF)) (JO' rfl (hl F hF)) 1000).1 _ _ _ _ _ _ _ _ _ _ _ _ _ _ _ _ _ _ he hc p3 p4 (fun i h1 h2 => p2.nothing hB h1) fun N2 a2 w2 r2 t2 d2 x2 => ?_
   have hlim := E3' _ he δ
   have hN0 : ∀ i, 1100 <= i -> N4 i = none := fun i hi => p2.nothing hB hi
   rcases hq.state r2 x2 hlim hN0 t2 with ⟨e, s', hμ, N3, q1, q2, q3, q4⟩ | ⟨q, e, N3, q1, q2, q3, q4⟩
   ·simp only at e; subst e; show Code.rounds Θ b Q k a2 w2; exact ih s' ω N3 w2 a2 (fun i hi => ((q1 i hi).trans (p1 i hi)).trans (hN1 i hi)) q2 q3 q4 (d2.trans hd)
   ·have hfin := hK q a2 w2 ⟨N3, fun i hi => ((q1 i hi).trans (p1 i hi)).trans (hN1 i hi), q2, q3, q4⟩ (d2.trans hd)
    simp only at e
    have hx : x ≠ .normal := fun h => hax q (e.trans h)
    rw [e] at hfin
    cases x with
    | normal => exact absurd rfl hx
    | exit id => exact hfin
    | ret => exact hfin
 exact key _ s ω N w a (fun _ _ => rfl) hN r ha rfl
end
def fst : Code -> Code
 | .seq a _ => a
 | c => c
def snd : Code -> Code
 | .seq _ b => b
 | c => c
end Go.Proofs.YtnnojnlejlokhaaGreatDoor.Kit
