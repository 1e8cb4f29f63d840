/- A part of a heap of names for itself, the rest a frame. No program. -/
import Derived.Test.YtnnojnlejlokhaaGreatDoorEngOpen
set_option linter.unusedVariables false
set_option linter.unusedSimpArgs false
namespace Go.Proofs.YtnnojnlejlokhaaGreatDoor.Eng
open Go Go.RowKit
mutual
def AV.cl (K : Nat -> Bool) : AV -> Prop
 | .v _ => True
 | .lit _ => True
 | .ptr i _ => K i = true
 | .slice i _ _ _ _ => K i = true
 | .mt => True
 | .un => True
 | .map i => K i = true
 | .iface _ x => AV.cl K x
 | .func _ f c => AV.cls K f /\ AV.cls K c
 | .agg cs => AV.cls K cs
 | .tuple cs => AV.cls K cs
 | .any => True
def AV.cls (K : Nat -> Bool) : List AV -> Prop
 | [] => True
 | x :: l => AV.cl K x /\ AV.cls K l
end
mutual
theorem VR.congr {K : Nat -> Bool} {N N' : A9'} (hN : ∀ i, K i = true -> N' i = N i) : ∀ {a : AV} {y : Value}, AV.cl K a -> VR N a y -> VR N' a y
 | .v x, y, _, h => by simpa only [VR] using h
 | .lit x, y, _, h => by simpa only [VR] using h
 | .ptr i off, y, hc, h => by
  simp only [VR, AV.cl] at h hc ⊢; rw [hN i hc]; exact h
 | .slice i off len sz cap, y, hc, h => by
  simp only [VR, AV.cl] at h hc ⊢; rw [hN i hc]; exact h
 | .mt, y, _, h => by simpa only [VR] using h
 | .un, y, _, h => by simpa only [VR] using h
 | .map i, y, hc, h => by
  simp only [VR, AV.cl] at h hc ⊢; rw [hN i hc]; exact h
 | .iface t x, y, hc, h => by
  simp only [VR, AV.cl] at h hc ⊢; obtain ⟨z, h1, h2⟩ := h; exact ⟨z, VR.congr hN hc h1, h2⟩
 | .func fn f c, y, hc, h => by
  simp only [VR, AV.cl] at h hc ⊢; obtain ⟨f', c', h1, h2, h3⟩ := h; exact ⟨f', c', VRs.congr hN hc.1 h1, VRs.congr hN hc.2 h2, h3⟩
 | .agg cs, y, hc, h => by
  simp only [VR, AV.cl] at h hc ⊢; obtain ⟨cs', h1, h2⟩ := h; exact ⟨cs', VRs.congr hN hc h1, h2⟩
 | .tuple cs, y, hc, h => by
  simp only [VR, AV.cl] at h hc ⊢; obtain ⟨cs', h1, h2⟩ := h; exact ⟨cs', VRs.congr hN hc h1, h2⟩
 | .any, y, _, h => by simp only [VR]
theorem VRs.congr {K : Nat -> Bool} {N N' : A9'} (hN : ∀ i, K i = true -> N' i = N i) : ∀ {l : List AV} {ys : List Value}, AV.cls K l -> VRs N l ys -> VRs N' l ys
 | [], ys, _, h => by simpa only [VRs] using h
 | x :: l, ys, hc, h => by
  simp only [VRs, AV.cls] at h hc ⊢; obtain ⟨y, r, h1, h2, h3⟩ := h; exact ⟨y, r, VR.congr hN hc.1 h1, VRs.congr hN hc.2 h2, h3⟩
end
def clE (K : Nat -> Bool) : List (AV × AV × Nat) -> Prop
 | [] => True
 | e :: l => AV.cl K e.1 /\ AV.cl K e.2.1 /\ clE K l
def AO.cl (K : Nat -> Bool) : AO -> Prop
 | .cells cs _ => AV.cls K cs
 | .map es _ => clE K es
 | .striter _ _ => True
 | .miter m _ _ _ => match m with | none => True | some j => K j = true
 | .any _ => True
 | .own _ _ => True
 | .same j _ => K j = true
theorem ERs.congr {K : Nat -> Bool} {N N' : A9'} (hN : ∀ i, K i = true -> N' i = N i) : ∀ {l : List (AV × AV × Nat)} {es : List MapEntry}, clE K l -> ERs N l es -> ERs N' l es
 | [], _, _, h => h
 | _ :: _, _, hc, ⟨e, r, ⟨h1, h2, h3⟩, h4, h5⟩ => ⟨e, r, ⟨h1.congr hN hc.1, h2.congr hN hc.2.1, h3⟩, ERs.congr hN hc.2.2 h4, h5⟩
theorem OR.congr {K : Nat -> Bool} {N N' : A9'} (hN : ∀ i, K i = true -> N' i = N i) {i : Nat} {o : AO} {D : Nat -> Prop} {w : World} (hi : K i = true) (hc : o.cl K) (h : OR N i o D w) : OR N' i o D w := by
 cases o with
 | cells cs e => obtain ⟨l, arr, fz, h1, h2, h3, h4, h5, h6, h7, h8⟩ := h; exact ⟨l, arr, fz, by rw [hN i hi]; exact h1, h2, h3, h4, h5, h6, h7.congr hN hc, h8⟩
 | map es c => obtain ⟨l, es', h1, h2, h3, h4⟩ := h; exact ⟨l, es', by rw [hN i hi]; exact h1, h2, h3, h4.1.congr hN hc, h4.2⟩
 | striter s pos => obtain ⟨l, h1, h0, h2, h3⟩ := h; exact ⟨l, by rw [hN i hi]; exact h1, h0, h2, h3⟩
 | miter m since seen last =>
  obtain ⟨l, mb, h1, h0, h2, h3, h4⟩ := h
  refine ⟨l, mb, by rw [hN i hi]; exact h1, h0, h2, h3, ?_⟩
  cases m with
  | none => exact h4
  | some j =>
   obtain ⟨lj, q1, q2⟩ := h4
   exact ⟨lj, by rw [hN j hc]; exact q1, q2⟩
 | any p => exact h
 | own m p => obtain ⟨l, h1, h0, h2⟩ := h; exact ⟨l, by rw [hN i hi]; exact h1, h0, h2⟩
 | same j b => obtain ⟨h1, r, h2⟩ := h; exact ⟨h1, r, by rw [hN j hc]; exact h2⟩
def TV' (F : HP) (N : A9') (h : T) (K : Nat -> Bool) : HP where
 on D w := ∃ (D0 : Nat -> Prop) (D1 : Nat -> Nat -> Prop), F.on D0 w /\ (∀ i o, h.find i = some o -> K i = false -> OR N i o (D1 i) w /\ ∀ b, D1 i b -> ¬ D0 b) /\
  (∀ i j o o', h.find i = some o -> h.find j = some o' -> K i = false -> K j = false -> i ≠ j -> ∀ b, D1 i b -> ¬ D1 j b) /\ ∀ b, D b ↔ D0 b \/ ∃ i o, h.find i = some o /\ K i = false /\ D1 i b
 far {D w w'} hf := fun ⟨D0, D1, h1, h2, h3, h4⟩ => ⟨D0, D1, F.far (fun b hb => hf b ((h4 b).2 (.inl hb))) h1, fun i o hi hk => ⟨(h2 i o hi hk).1.far (fun b hb => hf b ((h4 b).2 (.inr ⟨i, o, hi, hk, hb⟩))), (h2 i o hi hk).2⟩, h3, h4⟩
 lt {D w} := fun ⟨D0, D1, h1, h2, h3, h4⟩ b hb => by
  rcases (h4 b).1 hb with hb | ⟨i, o, hi, hk, hb⟩
  ·exact F.lt h1 b hb
  ·exact (h2 i o hi hk).1.lt b hb
def A9'.only (N : A9') (K : Nat -> Bool) : A9' := fun i => if K i = true then N i else none
theorem Rep.part {W0 w : World} {N : A9'} {F : HP} {h h0 : T} {K : Nat -> Bool} (r : Rep W0 N F h w) (hK : ∀ i o, h0.find i = some o -> K i = true /\ h.find i = some o /\ o.cl K) : Rep W0 (N.only K) (TV' F N h K) h0 w := by
 obtain ⟨D0, D, h1, h2, h3⟩ := r.sat
 refine ⟨r.os, r.tape, r.output, fun b => D0 b \/ ∃ i o, h.find i = some o /\ K i = false /\ D i b, D, ⟨D0, D, h1, fun i o hi _ => h2 i o hi, fun i j o o' hi hj _ _ => h3 i j o o' hi hj, fun b => Iff.rfl⟩, fun i o hi => ?_, fun i j o o' hi hj => h3 i j o o' (hK i o hi).2.1 (hK j o' hj).2.1⟩
 obtain ⟨k1, k2, k3⟩ := hK i o hi
 refine ⟨(h2 i o k2).1.congr (K := K) (fun j hj => by simp [A9'.only, hj]) k1 k3, fun b hb => ?_⟩
 rintro (hb0 | ⟨j, o', hj, hkj, hb0⟩)
 ·exact (h2 i o k2).2 b hb hb0
 ·have hne : i ≠ j := fun e => by subst e; rw [k1] at hkj; cases hkj
  exact h3 i j o o' k2 hj hne b hb hb0
theorem Rep.whole {W0 w : World} {N N1 : A9'} {F : HP} {h h1 h2 : T} {K : Nat -> Bool} (r : Rep W0 N1 (TV' F N h K) h1 w) (hN : ∀ i, K i = true -> N1 i = N i)
  (hK : ∀ i, K i = true -> h2.find i = h1.find i) (hR : ∀ i, K i = false -> h2.find i = h.find i) (hc : ∀ i o, K i = true -> h1.find i = some o -> o.cl K) : Rep W0 N F h2 w := by
 obtain ⟨D0', D, ⟨D0, D1, a1, a2, a3, a4⟩, b2, b3⟩ := r.sat
 refine ⟨r.os, r.tape, r.output, D0, fun i => if K i = true then D i else D1 i, a1, fun i o hi => ?_, fun i j o o' hi hj hij b hb hb' => ?_⟩
 ·cases hk : K i with
  | true =>
   rw [hK i hk] at hi; simp only [hk, if_true]
   exact ⟨(b2 i o hi).1.congr (K := K) (fun j hj => (hN j hj).symm) hk (hc i o hk hi), fun b hb h0 => (b2 i o hi).2 b hb ((a4 b).2 (.inl h0))⟩
  | false =>
   rw [hR i hk] at hi; simp only [hk, Bool.false_eq_true, if_false]; exact a2 i o hi hk
 ·cases hk : K i with
  | true =>
   rw [hK i hk] at hi; simp only [hk, if_true] at hb
   cases hkj : K j with
   | true =>
    rw [hK j hkj] at hj; simp only [hkj, if_true] at hb'; exact b3 i j o o' hi hj hij b hb hb'
   | false =>
    rw [hR j hkj] at hj; simp only [hkj, Bool.false_eq_true, if_false] at hb'; exact (b2 i o hi).2 b hb ((a4 b).2 (.inr ⟨j, o', hj, hkj, hb'⟩))
  | false =>
   rw [hR i hk] at hi; simp only [hk, Bool.false_eq_true, if_false] at hb
   cases hkj : K j with
   | true =>
    rw [hK j hkj] at hj; simp only [hkj, if_true] at hb'; exact (b2 j o' hj).2 b hb' ((a4 b).2 (.inr ⟨i, o, hi, hk, hb⟩))
   | false =>
    rw [hR j hkj] at hj; simp only [hkj, Bool.false_eq_true, if_false] at hb'; exact a3 i j o o' hi hj hk hkj hij b hb hb'
end Go.Proofs.YtnnojnlejlokhaaGreatDoor.Eng
