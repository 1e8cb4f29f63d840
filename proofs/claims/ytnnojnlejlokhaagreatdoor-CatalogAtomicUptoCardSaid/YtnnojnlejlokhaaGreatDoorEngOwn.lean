/- Names that are renamed; a structure that is kept as one object. No program. -/
import Derived.Test.YtnnojnlejlokhaaGreatDoorEngFrame
set_option linter.unusedVariables false
set_option linter.unusedSimpArgs false
namespace Go.Proofs.YtnnojnlejlokhaaGreatDoor.Eng
open Go Go.RowKit
mutual
def AV.ren (σ : Nat -> Nat) : AV -> AV
 | .v x => .v x
 | .lit b => .lit b
 | .ptr i off => .ptr (σ i) off
 | .slice i off len sz cap => .slice (σ i) off len sz cap
 | .mt => .mt
 | .un => .un
 | .map i => .map (σ i)
 | .iface t x => .iface t (AV.ren σ x)
 | .func fn f c => .func fn (AV.rens σ f) (AV.rens σ c)
 | .agg cs => .agg (AV.rens σ cs)
 | .tuple cs => .tuple (AV.rens σ cs)
 | .any => .any
def AV.rens (σ : Nat -> Nat) : List AV -> List AV
 | [] => []
 | x :: l => AV.ren σ x :: AV.rens σ l
end
def renE (σ : Nat -> Nat) : List (AV × AV × Nat) -> List (AV × AV × Nat)
 | [] => []
 | e :: l => (e.1.ren σ, e.2.1.ren σ, e.2.2) :: renE σ l
def AO.ren (σ : Nat -> Nat) : AO -> AO
 | .cells cs e => .cells (AV.rens σ cs) e
 | .map es c => .map (renE σ es) c
 | .striter s pos => .striter s pos
 | .miter m a b c => .miter (m.map σ) a b c
 | .any h => .any h
 | .own m h => .own m h
 | .same j b => .same (σ j) b
mutual
theorem VU' {N : A9'} {σ : Nat -> Nat} : ∀ {a : AV} {y : Value}, VR N (a.ren σ) y ↔ VR (fun i => N (σ i)) a y
 | .v x, y => by simp only [AV.ren, VR]
 | .lit x, y => by simp only [AV.ren, VR]
 | .ptr i off, y => by simp only [AV.ren, VR]
 | .slice i off len sz cap, y => by simp only [AV.ren, VR]
 | .mt, y => by simp only [AV.ren, VR]
 | .un, y => by simp only [AV.ren, VR]
 | .map i, y => by simp only [AV.ren, VR]
 | .iface t x, y => by simp only [AV.ren, VR, VU' (a := x)]
 | .func fn f c, y => by simp only [AV.ren, VR, ET' (l := f), ET' (l := c)]
 | .agg cs, y => by simp only [AV.ren, VR, ET' (l := cs)]
 | .tuple cs, y => by simp only [AV.ren, VR, ET' (l := cs)]
 | .any, y => by simp only [AV.ren, VR]
theorem ET' {N : A9'} {σ : Nat -> Nat} : ∀ {l : List AV} {ys : List Value}, VRs N (AV.rens σ l) ys ↔ VRs (fun i => N (σ i)) l ys
 | [], ys => by simp only [AV.rens, VRs]
 | x :: l, ys => by simp only [AV.rens, VRs, VU' (a := x), ET' (l := l)]
end
theorem K8' {σ : Nat -> Nat} : ∀ {l : List AV}, (AV.rens σ l).length = l.length
 | [] => by simp only [AV.rens]
 | x :: l => by simp only [AV.rens, List.length_cons, K8' (l := l)]
theorem W2' {N : A9'} {σ : Nat -> Nat} : ∀ {l : List (AV × AV × Nat)} {es : List MapEntry}, ERs N (renE σ l) es ↔ ERs (fun i => N (σ i)) l es
 | [], es => Iff.rfl
 | x :: l, es => by
  show (∃ e r, (VR N (x.1.ren σ) e.key /\ VR N (x.2.1.ren σ) e.val /\ e.born = x.2.2) /\ ERs N (renE σ l) r /\ es = e :: r) ↔ (∃ e r, (VR _ x.1 e.key /\ VR _ x.2.1 e.val /\ e.born = x.2.2) /\ ERs _ l r /\ es = e :: r); simp only [VU', W2' (l := l)]
theorem PF' {N : A9'} {σ : Nat -> Nat} {i : Nat} {o : AO} {D : Nat -> Prop} {w : World} : OR N (σ i) (o.ren σ) D w ↔ OR (fun i => N (σ i)) i o D w := by
 cases o with
 | cells cs e => simp only [AO.ren, OR, ET', K8']
 | map es c => simp only [AO.ren, OR, W2']
 | striter s pos => exact Iff.rfl
 | miter m a b c => cases m <;> exact Iff.rfl
 | any h => exact Iff.rfl
 | own m h => exact Iff.rfl
 | same j b => exact Iff.rfl
def getO : List (Nat × AO) -> Nat -> Option AO
 | [], _ => none
 | x :: l, i => if i = x.1 then some x.2 else getO l i
def HP.rep (L : List (Nat × AO)) (b room : Nat) : HP where
 on D w := ∃ (N : A9') (D' : Nat -> Nat -> Prop), N 0 = some ⟨b, 0, room⟩ /\ (∀ i o, getO L i = some o -> OR N i o (D' i) w) /\
  (∀ i j o o', getO L i = some o -> getO L j = some o' -> i ≠ j -> ∀ x, D' i x -> ¬ D' j x) /\ ∀ x, D x ↔ ∃ i o, getO L i = some o /\ D' i x
 far {D w w'} hf := fun ⟨N, D', h0, h1, h2, h3⟩ => ⟨N, D', h0, fun i o hi => (h1 i o hi).far fun b hb => hf b ((h3 b).2 ⟨i, o, hi, hb⟩), h2, h3⟩
 lt {D w} := fun ⟨N, D', h0, h1, h2, h3⟩ b hb => by
  obtain ⟨i, o, hi, hb⟩ := (h3 b).1 hb; exact (h1 i o hi).lt b hb
theorem Rep.open {W0 w : World} {N : A9'} {F : HP} {h : T} {i : Nat} {m : Md} {L : List (Nat × AO)} (r : Rep W0 N F h w) (hi : h.find i = some (.own m (HP.rep L))) (σ : Nat -> Nat) (h0 : σ 0 = i) (hr : ∃ o, getO L 0 = some o)
  (hinj : ∀ j k o o', getO L j = some o -> getO L k = some o' -> σ j = σ k -> j = k) (hfr : ∀ j o, getO L j = some o -> j ≠ 0 -> N (σ j) = none) (hcl : ∀ j o, getO L j = some o -> o.cl fun k => (getO L k).isSome) :
  ∃ N', (∀ k, (∀ j o, getO L j = some o -> j ≠ 0 -> σ j ≠ k) -> N' k = N k) /\
   ∀ h' : T, (∀ j o o', getO L j = some o -> h'.find (σ j) = some o' -> o' = o.ren σ) -> (∀ k o, (∀ j o, getO L j = some o -> σ j ≠ k) -> h'.find k = some o -> h.find k = some o) -> Rep W0 N' F h' w := by
 obtain ⟨D0, D, h1, h2, h3⟩ := r.sat; obtain ⟨⟨l, hl, hl0, N0, D', q0, q1, q2, q3⟩, hd0⟩ := h2 i _ hi
 classical
 let N' : A9' := fun k => if hk : ∃ j, j ≠ 0 /\ (∃ o, getO L j = some o) /\ σ j = k then N0 hk.choose else N k
 have hN1 : ∀ j o, getO L j = some o -> N' (σ j) = N0 j := by
  intro j o hj
  by_cases e : j = 0
  ·subst e
   have : ¬ ∃ j, j ≠ 0 /\ (∃ o, getO L j = some o) /\ σ j = σ 0 := by
    rintro ⟨j, hj0, ⟨o', ho'⟩, he⟩; exact hj0 (hinj j 0 o' o ho' hj he)
   show (if hk : ∃ j, j ≠ 0 /\ (∃ o, getO L j = some o) /\ σ j = σ 0 then N0 hk.choose else N (σ 0)) = _; rw [dif_neg this, h0, hl, q0]; cases l; cases hl0; rfl
  ·have hex : ∃ k, k ≠ 0 /\ (∃ o, getO L k = some o) /\ σ k = σ j := ⟨j, e, ⟨o, hj⟩, rfl⟩; show (if hk : ∃ k, k ≠ 0 /\ (∃ o, getO L k = some o) /\ σ k = σ j then N0 hk.choose else N (σ j)) = _; rw [dif_pos hex]; obtain ⟨_, ⟨o', ho'⟩, he⟩ := hex.choose_spec; rw [hinj _ j o' o ho' hj he]
 have hN2 : ∀ k, (∀ j o, getO L j = some o -> j ≠ 0 -> σ j ≠ k) -> N' k = N k := by
  intro k hk; show (if hk : ∃ j, j ≠ 0 /\ (∃ o, getO L j = some o) /\ σ j = k then N0 hk.choose else N k) = _; rw [dif_neg]; rintro ⟨j, hj0, ⟨o, ho⟩, he⟩; exact hk j o ho hj0 he
 have hle : N.le N' := by
  intro k l' hk; rw [hN2 k]
  ·exact hk
  ·intro j o hj hj0 he; have := hfr j o hj hj0; rw [he, hk] at this; cases this
 refine ⟨N', hN2, fun h' hh hh2 => ?_⟩
 -- which blocks
 have hD : ∀ k, (∃ j o, getO L j = some o /\ σ j = k) \/ ∀ j o, getO L j = some o -> σ j ≠ k := fun k => by
  by_cases e : ∃ j o, getO L j = some o /\ σ j = k
  ·exact .inl e
  ·exact .inr fun j o hj he => e ⟨j, o, hj, he⟩
 obtain ⟨DD, hDD⟩ : ∃ DD : Nat -> Nat -> Prop, DD = fun k x => (∃ j o, getO L j = some o /\ σ j = k /\ D' j x) \/ ((∀ j o, getO L j = some o -> σ j ≠ k) /\ D k x) := ⟨_, rfl⟩
 refine ⟨r.os, r.tape, r.output, D0, DD, h1, fun k o hko => ?_, fun k m o o' hko hmo hne x hx hx' => ?_⟩
 ·rcases hD k with ⟨j, oj, hj, rfl⟩ | hno
  ·have := hh j oj o hj hko; subst this
   have hset : DD (σ j) = D' j := by
    rw [hDD]; funext x
    refine propext ⟨?_, fun hx => .inl ⟨j, oj, hj, rfl, hx⟩⟩
    rintro (⟨j', o', hj', he, hx⟩ | ⟨hno, _⟩)
    ·rwa [hinj j' j o' oj hj' hj he] at hx
    ·exact (hno j oj hj rfl).elim
   rw [hset]
   refine ⟨PF'.2 ?_, fun b hb hb0 => hd0 b ((q3 b).2 ⟨j, oj, hj, hb⟩) hb0⟩
   refine (q1 j oj hj).congr (K := fun k => (getO L k).isSome) (fun k hk => ?_) (by rw [hj]; rfl) (hcl j oj hj)
   cases hk' : getO L k with
   | none => rw [hk'] at hk; cases hk
   | some ok => exact hN1 k ok hk'
  ·have hk := hh2 k o hno hko
   have hset : DD k = D k := by
    rw [hDD]; funext x
    refine propext ⟨?_, fun hx => .inr ⟨hno, hx⟩⟩
    rintro (⟨j, o, hj, he, _⟩ | ⟨_, hx⟩)
    ·exact (hno j o hj he).elim
    ·exact hx
   rw [hset]; exact ⟨(h2 k o hk).1.mono hle, (h2 k o hk).2⟩
 ·have key : ∀ k m o o', h'.find k = some o -> h'.find m = some o' -> k ≠ m -> ∀ x, (∃ j o, getO L j = some o /\ σ j = k /\ D' j x) -> (∀ j o, getO L j = some o -> σ j ≠ m) -> D m x -> False := by
   rintro k m o o' hko hmo hne x ⟨j, oj, hj, he, hx⟩ hno hx'; have hm := hh2 m o' hno hmo
   have hmi : i ≠ m := fun e => by obtain ⟨o0, ho0⟩ := hr; exact hno 0 o0 ho0 (h0.trans e)
   exact h3 i m _ o' hi hm hmi x ((q3 x).2 ⟨j, oj, hj, hx⟩) hx'
  subst hDD
  rcases hx with hx | ⟨hno, hx⟩
  ·rcases hx' with hx' | ⟨hno', hx'⟩
   ·obtain ⟨j, oj, hj, rfl, hx⟩ := hx; obtain ⟨j', oj', hj', rfl, hx'⟩ := hx'; exact q2 j j' oj oj' hj hj' (fun e => hne (congrArg σ e)) x hx hx'
   ·exact key k m o o' hko hmo hne x hx hno' hx'
  ·rcases hx' with hx' | ⟨hno', hx'⟩
   ·exact key m k o' o hmo hko (Ne.symm hne) x hx' hno hx
   ·exact h3 k m o o' (hh2 k o hno hko) (hh2 m o' hno' hmo) hne x hx hx'
end Go.Proofs.YtnnojnlejlokhaaGreatDoor.Eng
