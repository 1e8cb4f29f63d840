/- A structure that is one object: opened, shut. No program. -/
import Derived.Test.YtnnojnlejlokhaaGreatDoorEngUse
set_option linter.unusedVariables false
set_option linter.unusedSimpArgs false
namespace Go.Proofs.YtnnojnlejlokhaaGreatDoor.Eng
open Go Go.RowKit
open Nat renaming blt_eq -> bl'
variable {H0 H H' : LH} {vs A : List AV} {P : Program} {W : World} {f : FuncId} {v : AV}
noncomputable section
def exHP {σ : Type} (R : σ -> Prop) (L : σ -> LH) (b room : Nat) : HP where
 on D w := ∃ s, R s /\ (HP.rep (L s) b room).on D w
 far {D w w'} hf := fun ⟨s, h1, h2⟩ => ⟨s, h1, (HP.rep (L s) b room).far hf h2⟩
 lt {D w} := fun ⟨s, h1, h2⟩ => (HP.rep (L s) b room).lt h2
theorem BE' : ∀ {H H0 : LH} {i : Nat}, getO (H ++ H0) i = match getO H i with | some o => some o | none => getO H0 i
 | [], H0, i => rfl
 | x :: l, H0, i => by
  rw [List.cons_append, getO, getO]; split
  ·rfl
  ·exact BE'
def ownL (H0 L : LH) : Bool := AA' 1100 L && (L.all fun x => Nat.beq x.1 0 || Nat.ble 1000 x.1) && (L.all fun x => (getO H0 x.1).isNone) && AA' 1100 H0
theorem HX' {L : LH} (h : ownL H0 L = true) : AA' 1100 L = true /\ (∀ i o, getO L i = some o -> (i = 0 \/ 1000 <= i) /\ getO H0 i = none) /\ AA' 1100 H0 = true := by
 simp only [ownL, Bool.and_eq_true] at h
 refine ⟨h.1.1.1, fun i o hi => ⟨?_, ?_⟩, h.2⟩
 ·have := List.all_eq_true.1 h.1.1.2 _ (BC' hi); simp only [Bool.or_eq_true, Nat.ble_eq] at this; exact this.imp Nat.eq_of_beq_eq_true id
 ·have := List.all_eq_true.1 h.1.2 _ (BC' hi); simpa using this
theorem C5' {b : Nat} (h : AA' b H = true) (h0 : AA' b H0 = true) : AA' b (H ++ H0) = true := by
 simp only [AA', List.all_append, Bool.and_eq_true]; exact ⟨h, h0⟩
theorem St.open {W0 w : World} {N : A9'} {F : HP} {σ : Type} {R : σ -> Prop} {L : σ -> LH} {m : Md} {ys : List Value} (hL : ∀ s, ownL H0 (L s) = true) (hcl : ∀ s, ∀ x ∈ L s, x.2.cl (kH (L s))) (hr : ∀ s, ∃ o, getO (L s) 0 = some o)
  (hNB : NB N ((0, .own m (exHP R L)) :: H0)) (r : Rep W0 N F (AK' ((0, .own m (exHP R L)) :: H0)) w) (hv : VRs N vs ys) :
  ∃ s, R s /\ ∃ N', (∀ i, i < 1000 -> N' i = N i) /\ NB N' (L s ++ H0) /\ Rep W0 N' F (AK' (L s ++ H0)) w /\ VRs N' vs ys := by
 obtain ⟨D0, D, h1, h2, h3⟩ := r.sat
 have hlim : AA' T.limit ((0, AO.own m (exHP R L)) :: H0) = true := by
  simp only [AA', List.all_cons, Bool.and_eq_true]; refine ⟨rfl, ?_⟩
  have hne : Nonempty σ := by
   have hf : (AK' ((0, AO.own m (exHP R L)) :: H0)).find 0 = some (.own m (exHP R L)) := by
    rw [AK', T.find_set (show 0 < T.limit by decide), if_pos rfl]; rfl
   obtain ⟨⟨l, _, _, s, _⟩, _⟩ := h2 0 _ hf; exact ⟨s⟩
  exact hne.elim fun s => BN' δ (HX' (hL s)).2.2
 have hf : ∀ i, (AK' ((0, AO.own m (exHP R L)) :: H0)).find i = getO ((0, AO.own m (exHP R L)) :: H0) i := AE' hlim
 have hf0 : (AK' ((0, AO.own m (exHP R L)) :: H0)).find 0 = some (.own m (exHP R L)) := by rw [hf]; rfl
 obtain ⟨⟨l, hl, hl0, s, hs, N0, D', k0, k1, k2, k3⟩, hd0⟩ := h2 0 _ hf0; obtain ⟨w1, o2, o3⟩ := HX' (hL s)
 have hH0 : ∀ i o, getO H0 i = some o -> (AK' ((0, AO.own m (exHP R L)) :: H0)).find i = some o := by
  intro i o hi; rw [hf, getO]
  by_cases e : i = 0
  ·obtain ⟨o', ho'⟩ := hr s; rw [e, (o2 0 o' ho').2] at hi; cases hi
  ·rw [if_neg e]; exact hi
 let N' : A9' := fun i => match getO (L s) i with | some _ => N0 i | none => N i
 have e0 : N0 0 = N 0 := by rw [k0, hl]; cases l; cases hl0; rfl
 have hle : N.le N' := by
  intro i l' hi; show (match getO (L s) i with | some _ => N0 i | none => N i) = some l'
  cases hg : getO (L s) i with
  | none => exact hi
  | some o =>
   rcases (o2 i o hg).1 with rfl | hge
   ·simp only [e0]; exact hi
   ·have : getO ((0, AO.own m (exHP R L)) :: H0) i = none := by
     rw [getO, if_neg (show i ≠ 0 by omega)]; exact (o2 i o hg).2
    rw [hNB i hge this] at hi; cases hi
 refine ⟨s, hs, N', fun i hi => ?_, fun i hi hg => ?_, ?_, hv.mono hle⟩
 ·show (match getO (L s) i with | some _ => N0 i | none => N i) = N i
  cases hg : getO (L s) i with
  | none => rfl
  | some o =>
   rcases (o2 i o hg).1 with rfl | hge
   ·exact e0
   ·omega
 ·rw [BE'] at hg; show (match getO (L s) i with | some _ => N0 i | none => N i) = none
  cases hg2 : getO (L s) i with
  | none =>
   rw [hg2] at hg; refine hNB i hi ?_; rw [getO, if_neg (show i ≠ 0 by omega)]; exact hg
  | some o => rw [hg2] at hg; cases hg
 ·obtain ⟨DD, hD1, hD2⟩ : ∃ DD : Nat -> Nat -> Prop, (∀ i o, getO (L s) i = some o -> DD i = D' i) /\ ∀ i, getO (L s) i = none -> DD i = D i := ⟨fun i => match getO (L s) i with | some _ => D' i | none => D i, fun i o hi => by simp only [hi], fun i hi => by simp only [hi]⟩
  refine ⟨r.os, r.tape, r.output, D0, DD, h1, fun i o hi => ?_, fun i j o o' hi hj hij => ?_⟩
  ·rw [AE' (BN' δ (C5' w1 o3)), BE'] at hi
   cases hg : getO (L s) i with
   | some p1 =>
    rw [hg] at hi; cases hi; rw [hD1 i _ hg]
    refine ⟨(k1 i _ hg).congr (K := kH (L s)) (fun j hj => ?_) (by simp [kH, hg]) (hcl s _ (BC' hg)), fun b hb => hd0 b ((k3 b).2 ⟨i, _, hg, hb⟩)⟩
    simp only [kH, Option.isSome_iff_exists] at hj; obtain ⟨oj, hj⟩ := hj; show (match getO (L s) j with | some _ => N0 j | none => N j) = N0 j; rw [hj]
   | none =>
    rw [hg] at hi; rw [hD2 i hg]; exact ⟨(h2 i o (hH0 i o hi)).1.mono hle, (h2 i o (hH0 i o hi)).2⟩
  ·rw [AE' (BN' δ (C5' w1 o3)), BE'] at hi hj
   have key : ∀ i j o o', getO (L s) i = some o -> getO H0 j = some o' -> ∀ b, D' i b -> ¬ D j b := by
    intro i j o o' hi hj b hb hb'; refine h3 0 j _ _ hf0 (hH0 j o' hj) (fun e => ?_) b ((k3 b).2 ⟨i, o, hi, hb⟩) hb'; obtain ⟨o'', ho''⟩ := hr s; rw [<- e, (o2 0 o'' ho'').2] at hj; cases hj
   cases hgi : getO (L s) i with
   | some oi =>
    cases hgj : getO (L s) j with
    | some oj => rw [hD1 i _ hgi, hD1 j _ hgj]; exact k2 i j oi oj hgi hgj hij
    | none => rw [hgj] at hj; rw [hD1 i _ hgi, hD2 j hgj]; exact key i j oi o' hgi hj
   | none =>
    rw [hgi] at hi
    cases hgj : getO (L s) j with
    | some oj => rw [hD2 i hgi, hD1 j _ hgj]; intro b hb hb'; exact key j i oj o hgj hi b hb' hb
    | none => rw [hgj] at hj; rw [hD2 i hgi, hD2 j hgj]; exact h3 i j o o' (hH0 i o hi) (hH0 j o' hj) hij
theorem Tri.open {σ : Type} {R : σ -> Prop} {L : σ -> LH} {m : Md} (hL : ∀ s, ownL H0 (L s) = true) (hcl : ∀ s, ∀ x ∈ L s, x.2.cl (kH (L s))) (hr : ∀ s, ∃ o, getO (L s) 0 = some o)
  (h : ∀ s, R s -> Tri P W f A (L s ++ H0) v H') : Tri P W f A ((0, .own m (exHP R L)) :: H0) v H' := by
 intro W0 F N w vargs hF hNB r ha; obtain ⟨s, hs, N', q1, q2, q3, q4⟩ := St.open hL hcl hr hNB r ha; refine (h s hs W0 F N' w vargs hF q2 q3 q4).mono ?_; rintro e w' ⟨y, rfl, N2, p1, p2, p3, p4⟩
 exact ⟨y, rfl, N2, fun i hi => (p1 i hi).trans (q1 i hi), p2, p3, p4⟩
theorem Goes.shut {σ : Type} {R : σ -> Prop} {L : σ -> LH} {m : Md} (s : σ) (hs : R s) (hL : ownL H0 (L s) = true) (hroot : ∃ cs e, getO (L s) 0 = some (.cells cs e) /\ e % 2 = 0)
  (hv : AV.cls (fun i => Nat.blt i 1000 || (getO H0 i).isSome) vs) (ho : ∀ x ∈ H0, x.2.cl (fun i => Nat.blt i 1000 || (getO H0 i).isSome)) : Goes vs (L s ++ H0) vs ((0, .own m (exHP R L)) :: H0) := by
 intro W0 F N ys w ⟨N1, g1, g2, r, hvs⟩; obtain ⟨o1, o2, o3⟩ := HX' hL; obtain ⟨D0, D, h1, h2, h3⟩ := r.sat; have hf : ∀ i, (AK' (L s ++ H0)).find i = getO (L s ++ H0) i := AE' (BN' δ (C5' o1 o3))
 have hfL : ∀ i o, getO (L s) i = some o -> (AK' (L s ++ H0)).find i = some o := fun i o hi => by rw [hf, BE', hi]
 have hf0 : ∀ i o, getO H0 i = some o -> (AK' (L s ++ H0)).find i = some o := fun i o hi => by
  rw [hf, BE']
  cases hg : getO (L s) i with
  | none => exact hi
  | some o' => rw [(o2 i o' hg).2] at hi; cases hi
 obtain ⟨cs, e, hg0, hev⟩ := hroot; have h00 : getO H0 0 = none := (o2 0 _ hg0).2
 have hroot : ∃ l, N1 0 = some l /\ l.off = 0 := by
  obtain ⟨l, arr, fz, a1, a2, a3, a4, a5, a6, a7, a8⟩ := (h2 0 _ (hfL 0 _ hg0)).1; exact ⟨l, a1, (a8 hev).1⟩
 obtain ⟨l, hl, hl0⟩ := hroot
 let K : Nat -> Bool := fun i => Nat.blt i 1000 || (getO H0 i).isSome
 let N2 : A9' := fun i => if K i = true then N1 i else none
 have hN2 : ∀ i, K i = true -> N2 i = N1 i := fun i hi => if_pos hi
 refine ⟨N2, fun i hi => ?_, fun i hi hg => ?_, ?_, hvs.congr (K := K) hN2 hv⟩
 ·rw [hN2 i (by simp [K, bl', hi])]; exact g1 i hi
 ·rw [getO, if_neg (show i ≠ 0 by omega)] at hg; refine if_neg ?_; simp only [K, hg, Bool.or_eq_true, bl']; intro hh
  rcases hh with hh | hh
  ·omega
  ·cases hh
 ·have hfn : ∀ i, (AK' ((0, AO.own m (exHP R L)) :: H0)).find i = getO ((0, AO.own m (exHP R L)) :: H0) i := AE' (by
   simp only [AA', List.all_cons, Bool.and_eq_true]
   exact ⟨rfl, BN' δ o3⟩)
  refine ⟨r.os, r.tape, r.output, D0, fun i x => if i = 0 then ∃ j o, getO (L s) j = some o /\ D j x else D i x, h1, fun i o hi => ?_, fun i j o o' hi hj hij x hx hx' => ?_⟩
  ·rw [hfn, getO] at hi
   by_cases e0 : i = 0
   ·rw [if_pos e0] at hi; cases hi; subst e0; simp only [if_true]
    refine ⟨⟨l, ?_, hl0, s, hs, N1, D, ?_, fun j oj hj => (h2 j oj (hfL j oj hj)).1, fun j k oj ok hj hk hjk => h3 j k oj ok (hfL j oj hj) (hfL k ok hk) hjk, fun x => Iff.rfl⟩, fun b hb => ?_⟩
    ·rw [hN2 0 rfl]; exact hl
    ·rw [hl]; cases l; cases hl0; rfl
    ·obtain ⟨j, oj, hj, hb⟩ := hb; exact (h2 j oj (hfL j oj hj)).2 b hb
   ·rw [if_neg e0] at hi; simp only [if_neg e0]; refine ⟨((h2 i o (hf0 i o hi)).1).congr (K := K) hN2 ?_ (ho _ (BC' hi)), (h2 i o (hf0 i o hi)).2⟩; simp [K, hi]
  ·rw [hfn, getO] at hi hj
   have key : ∀ j o', getO H0 j = some o' -> ∀ x, (∃ k o, getO (L s) k = some o /\ D k x) -> ¬ D j x := by
    rintro j o' hj x ⟨k, o, hk, hx⟩ hx'; refine h3 k j o o' (hfL k o hk) (hf0 j o' hj) (fun e => ?_) x hx hx'; rw [<- e, (o2 k o hk).2] at hj; cases hj
   by_cases ei : i = 0
   ·rw [if_pos ei] at hi hx
    have ej : j ≠ 0 := fun e => hij (ei.trans e.symm)
    rw [if_neg ej] at hj hx'; exact key j o' hj x hx hx'
   ·rw [if_neg ei] at hi hx
    by_cases ej : j = 0
    ·rw [if_pos ej] at hj hx'; exact key i o hi x hx' hx
    ·rw [if_neg ej] at hj hx'; exact h3 i j o o' (hf0 i o hi) (hf0 j o' hj) hij x hx hx'
theorem Tri.pre {H1 : LH} (hg : Goes A H A H1) (h : Tri P W f A H1 v H') : Tri P W f A H v H' := by
 intro W0 F N w vargs hF hNB r ha
 obtain ⟨N', q1, q2, q3, q4⟩ := hg W0 F N vargs.toList w ⟨N, fun _ _ => rfl, hNB, r, ha⟩
 refine (h W0 F N' w vargs hF q2 q3 q4).mono ?_; rintro e w' ⟨y, rfl, N2, p1, p2, p3, p4⟩
 exact ⟨y, rfl, N2, fun i hi => (p1 i hi).trans (q1 i hi), p2, p3, p4⟩
theorem Tri.post {H2 : LH} {v2 : AV} (h : Tri P W f A H v H') (hg : Goes [v] H' [v2] H2) : Tri P W f A H v2 H2 := by
 intro W0 F N w vargs hF hNB r ha; refine (h W0 F N w vargs hF hNB r ha).mono ?_; rintro e w' ⟨y, rfl, hst⟩; exact ⟨y, rfl, hg _ _ _ _ _ hst⟩
def CD' (ρ : Nat) (i : Nat) : Nat := if i = 0 then ρ else i
def renL (ρ : Nat) (L : LH) : LH := L.map fun x => (CD' ρ x.1, x.2.ren (CD' ρ))
theorem OJ' {ρ : Nat} : ∀ {L : LH}, (∀ i o, getO L i = some o -> i ≠ ρ) -> ρ ≠ 0 -> ∀ {i : Nat} {o : AO}, getO L i = some o -> getO (renL ρ L) (CD' ρ i) = some (o.ren (CD' ρ))
 | x :: l, hl, h0, i, o, h => by
  have hx : x.1 ≠ ρ := hl x.1 x.2 (by rw [getO, if_pos rfl]); rw [getO] at h; show (if CD' ρ i = CD' ρ x.1 then some (x.2.ren (CD' ρ)) else getO (renL ρ l) (CD' ρ i)) = _
  by_cases e : i = x.1
  ·rw [if_pos e] at h; cases h; rw [e, if_pos rfl]
  ·rw [if_neg e] at h; have hi : i ≠ ρ := hl i o (by rw [getO, if_neg e]; exact h); rw [if_neg]
   ·refine OJ' (fun j oj hj => ?_) h0 h
    by_cases ej : j = x.1
    ·rw [ej]; exact hx
    ·exact hl j oj (by rw [getO, if_neg ej]; exact hj)
   ·intro hh; unfold CD' at hh
    split at hh <;> split at hh
    ·rename_i a b; exact e (a.trans b.symm)
    ·exact hx hh.symm
    ·exact hi hh
    ·exact e hh
theorem Goes.shutNew {σ : Type} {R : σ -> Prop} {L : σ -> LH} {m : Md} (ρ : Nat) (hρ : 1000 <= ρ /\ ρ < 1100) (s : σ) (hs : R s) (hL : ownL [] (L s) = true) (hno : ((L s).all fun x => !(Nat.beq x.1 ρ)) = true) (hroot : ∃ cs e, getO (L s) 0 = some (.cells cs e) /\ e % 2 = 0)
  (hv : AV.cls (fun i => Nat.blt i 1000 || Nat.beq i ρ) vs) : Goes vs (renL ρ (L s)) vs [(ρ, .own m (exHP R L))] := by
 intro W0 F N ys w ⟨N1, g1, g2, r, hvs⟩; obtain ⟨o1, o2, o3⟩ := HX' hL
 have hne : ∀ i o, getO (L s) i = some o -> i ≠ ρ := fun i o hi e => by
  have := List.all_eq_true.1 hno _ (BC' hi); rw [e, Nat.beq_refl] at this; cases this
 have hlt : AA' T.limit (renL ρ (L s)) = true := by
  simp only [AA', renL, List.all_map, List.all_eq_true, bl', Function.comp]; intro x hx; have : T.limit = 1048576 := rfl
  have hx2 : x.1 < 1100 := by
   simp only [AA', List.all_eq_true, bl'] at o1; exact o1 x hx
  unfold CD'; split <;> omega
 obtain ⟨D0, D, h1, h2, h3⟩ := r.sat
 have hfL : ∀ i o, getO (L s) i = some o -> (AK' (renL ρ (L s))).find (CD' ρ i) = some (o.ren (CD' ρ)) := fun i o hi => by
  rw [AE' hlt]; exact OJ' hne ω hi
 have hinj : ∀ i j o o', getO (L s) i = some o -> getO (L s) j = some o' -> i ≠ j -> CD' ρ i ≠ CD' ρ j := by
  intro i j o o' hi hj hij hh; have := hne i o hi; have := hne j o' hj; unfold CD' at hh
  split at hh <;> split at hh <;> omega
 obtain ⟨cs, e, hg0, hev⟩ := hroot
 have hN1 : ∀ i o, getO (L s) i = some o -> OR (fun k => N1 (CD' ρ k)) i o (D (CD' ρ i)) w := fun i o hi => PF'.1 (h2 _ _ (hfL i o hi)).1
 have hroot : ∃ l, N1 ρ = some l /\ l.off = 0 := by
  obtain ⟨l, arr, fz, a1, a2, a3, a4, a5, a6, a7, a8⟩ := hN1 0 _ hg0; exact ⟨l, a1, (a8 hev).1⟩
 obtain ⟨l, hl, hl0⟩ := hroot
 let K : Nat -> Bool := fun i => Nat.blt i 1000 || Nat.beq i ρ
 let N2 : A9' := fun i => if K i = true then N1 i else none
 have hN2 : ∀ i, K i = true -> N2 i = N1 i := fun i hi => if_pos hi
 have hKρ : K ρ = true := by simp only [K, Nat.beq_refl, Bool.or_true]
 refine ⟨N2, fun i hi => ?_, fun i hi hg => ?_, ?_, hvs.congr (K := K) hN2 hv⟩
 ·rw [hN2 i (by simp [K, bl', hi])]; exact g1 i hi
 ·rw [getO] at hg
  have hiρ : i ≠ ρ := fun hh => by rw [if_pos hh] at hg; cases hg
  refine if_neg ?_; simp only [K, Bool.or_eq_true, bl']; rintro (hh | hh)
  ·omega
  ·exact hiρ (Nat.eq_of_beq_eq_true hh)
 ·have hfn : ∀ i o, (AK' [(ρ, AO.own m (exHP R L))]).find i = some o -> i = ρ /\ o = .own m (exHP R L) := by
   intro i o hi; rw [AE' (by simp only [AA', List.all_cons, List.all_nil, Bool.and_true, bl']; have : T.limit = 1048576 := rfl; omega), getO] at hi; split at hi
   ·rename_i hh; cases hi; exact ⟨hh, rfl⟩
   ·cases hi
  refine ⟨r.os, r.tape, r.output, D0, fun i x => ∃ j o, getO (L s) j = some o /\ D (CD' ρ j) x, h1, fun i o hi => ?_, fun i j o o' hi hj hij x hx hx' => ?_⟩
  ·obtain ⟨rfl, rfl⟩ := hfn i o hi
   refine ⟨⟨l, by rw [hN2 _ hKρ]; exact hl, hl0, s, hs, fun k => N1 (CD' i k), fun k => D (CD' i k), ?_, hN1, fun j k oj ok hj hk hjk => h3 _ _ _ _ (hfL j oj hj) (hfL k ok hk) (hinj j k oj ok hj hk hjk), fun x => Iff.rfl⟩, fun b hb => ?_⟩
   ·show N1 (CD' i 0) = _; rw [show CD' i 0 = i from rfl, hl]; cases l; cases hl0; rfl
   ·obtain ⟨j, oj, hj, hb⟩ := hb; exact (h2 _ _ (hfL j oj hj)).2 b hb
  ·exact (hij ((hfn i o hi).1.trans (hfn j o' hj).1.symm)).elim
end
end Go.Proofs.YtnnojnlejlokhaaGreatDoor.Eng
