/- Parts of the proof, merged. -/
import Derived.Test.YtnnojnlejlokhaaGreatDoorCat4
import Derived.Test.YtnnojnlejlokhaaGreatDoorCat5
import Derived.Test.YtnnojnlejlokhaaGreatDoorCat2
import Derived.Test.YtnnojnlejlokhaaGreatDoorMem
import Derived.Deep.Slices
import Derived.SizedLaws
import Derived.Test.YtnnojnlejlokhaaGreatDoorRows
import Derived.Deep.DeepHandedRow
import Derived.Lay
import Derived.ProofKit
import Derived.OpenShut
import Derived.Deep.Fields
import Derived.ChangeSame
noncomputable section
set_option linter.unusedVariables false
set_option linter.unusedSimpArgs false
set_option maxRecDepth 100000
set_option linter.unusedSectionVars false
namespace Go.Proofs.YtnnojnlejlokhaaGreatDoor.Wk
open Go Go.RowKit Eng Kit Tree Co
open Int renaming ofNat -> o'
open Go.Value renaming string -> vs'
open Cnd renaming holds -> ch'
open Nat renaming blt_eq -> bl'
open List renaming length_drop -> ld'
variable {W : World} {c : Nat} {vs : List AV} {b sz : Int} {R : LH}
def pkH (b : Int) (m : KM) (c : Nat) (ks : List Γ) (ps : List Pr) : Nat -> LH
 | 0 => ctX b m c ++ [(1050, rK ks)]
 | i + 1 => ctX b m c ++ [(1050, rK ks), (1051, rP (ps.take (i + 1)))]
theorem aY' (b : Int) (m : KM) (c : Nat) (ks : List Γ) (ps : List Pr) (hps : ks.length = ps.length) (hkp : ∀ (i : Nat) (k : Γ) (p : Pr), ks[i]? = some k -> ps[i]? = some p -> p.1 = bsOf k /\ B5' p.1 m = some p.2) (h0 : 0 < ks.length) (hn : ks.length <= 1048576) :
  LTri Θ default (A3' fPs 2) (tms 0 26 (aPs nilS ks.length 0)) (ctX b m c ++ [(1050, rK ks)]) (.exit 0) (tms 0 26 [(2, sP 1051 ks.length)]) (ctX b m c ++ [(1050, rK ks), (1051, rP ps)]) := by
 refine B6' (W := default) (g := fPs) (b := A3' fPs 2) (σ := {i : Nat // i <= ks.length}) 26 (fun i => psA ks.length i.1) (fun i => pkH b m c ks ps i.1) (.exit 0) [(2, sP 1051 ks.length)] (ctX b m c ++ [(1050, rK ks), (1051, rP ps)]) (fun i => ks.length - i.1) kPk ixPs (by intro h; cases h) (fun i => by obtain ⟨_ | i, hi⟩ := i <;> rfl) χ ?_ ⟨0, Nat.zero_le _⟩; rintro ⟨i, hi⟩; simp only
 by_cases h1 : i < ks.length
 ·obtain ⟨k, hk⟩ := AY' h1; obtain ⟨p, hp⟩ := AY' (l := ps) (i := i) ω; obtain ⟨hpk, hlk⟩ := hkp i k p hk hp; have hg := U1' hk; rw [<- hpk] at hg
  have hl : (0 + i * 1).blt (rowV keV ks).length = true := by rw [BP' IO', bl']; omega
  have hlt : i.blt ks.length = true := by rw [bl']; exact h1
  obtain ⟨pk, pv⟩ := p; simp only at hlk hg
  have hw := fun z => RH' (z := z) hlk
  cases i with
  | zero =>
   have e1 : Wk (.v (.bool (decide (o' 0 < o' ks.length)))) (.lit true) := A2' (ltTN h1); have hg0 : (rowV keV ks).getD 0 AV.undef = .v (.string pk) := hg; have hl0 : Nat.blt 0 (rowV keV ks).length = true := hl
   refine ⟨[], hPs pk pv 0, [], fun _ _ => noC, fun _ _ => noL, fun F => ?_⟩
   refine Yj (dC' b m c ks.length ks pk pv F) ⟨⟨?_, rfl, .inl ⟨rfl, ⟨1, h1⟩, B1' h1, [(1050, 1050), (1051, 1101)], by kernel_rfl, by kernel_rfl, ⟨Ya, Ya, Ya, Ya, Ya, Ye⟩, ⟨_, rfl, Yc⟩, ⟨_, rfl, BT' rfl rfl⟩, ⟨_, rfl, JC' rfl⟩, ⟨_, rfl, H4' (one_P hp)⟩, Ye⟩⟩⟩
   exact Cc17'
  | succ i =>
   have Q := RdK.mk' (n := ks.length) (w := 32) (len_P (ps := ps) (i := i + 1) ω) h1 hn δ; obtain ⟨k1, k2, k3, k4, e1, e3⟩ := Q
   refine ⟨[], hPs pk pv (i + 1), [], fun _ _ => noC, fun _ _ => noL, fun F => ?_⟩
   refine Yj (dB' b m c ks.length (i + 1) ks (ps.take (i + 1)) pk pv F) ⟨⟨?_, rfl, .inl ⟨rfl, ⟨i + 2, h1⟩, B1' h1, [(1050, 1050), (1051, 1101)], by kernel_rfl, by kernel_rfl, ⟨Ya, Ya, Ya, Ya, Ya, Ye⟩, ⟨_, rfl, Yc⟩, ⟨_, rfl, BT' rfl rfl⟩, ⟨_, rfl, JC' rfl⟩, ⟨_, rfl, H4' (YM' hp)⟩, Ye⟩⟩⟩
   exact Cc18'
 ·have hie : i = ks.length := ω
  obtain ⟨j, hj⟩ : ∃ j, ks.length = j + 1 := ⟨ks.length - 1, by omega⟩
  subst hie
  have eA : psA ks.length ks.length = aPs (sP 1051 ks.length) ks.length ks.length := by rw [hj]; rfl
  have eH : pkH b m c ks ps ks.length = ctX b m c ++ [(1050, rK ks), (1051, rP ps)] := by
   have : pkH b m c ks ps ks.length = ctX b m c ++ [(1050, rK ks), (1051, rP (ps.take ks.length))] := by rw [hj]; rfl
   rw [this, hps, List.take_length]
  rw [eA, eH]
  refine ⟨[], A6' [hf' fPs 2 0], [], fun _ _ => noC, fun _ _ => noL, fun F => ?_⟩
  refine Yj (dA' b m c ks.length ks.length ks ps F) ⟨⟨?_, rfl, .inr ⟨rfl, [(1050, 1050), (1051, 1051)], by kernel_rfl, by kernel_rfl, ⟨Ya, Ye⟩, ⟨_, rfl, Yc⟩, ⟨_, rfl, BT' rfl rfl⟩, ⟨_, rfl, JC' rfl⟩, ⟨_, rfl, H4' rfl⟩, Ye⟩⟩⟩
  simp only [ch', and_true]; exact A2' (ltFN (Yd))
theorem gPk_ro : ∀ tms, RO (gPk tms) := fun tms => by
 unfold gPk; split
 ·refine RO.read _ _ fun o => ?_
  split <;> first | exact RO.ret _ | exact RO.fail _
 ·exact RO.fail _
theorem RR' {K : Nat -> Bool} {m : KM} (h : K 1 = true) : ∀ x ∈ ctX b m c, x.2.cl K := A0' ⟨Ye, h, Ye, Ye⟩ (A0' (DL' _ _ _) A1')
theorem gV' {m : KM} {ck : Nat} (hm : KI m ck) (hb : m.length * 16 <= 140737488355328) (hwf : ∀ k ∈ keyL m, k.length <= maxLen) (hne : m ≠ []) (F : HP) : C1OK Θ F fSo (cSoW m ck m.length (CY' m)) :=
 AU' (W := default) AZ' (fun _ => sS 1000 m.length) RM' (fun _ => rfl) (fun _ _ => by
  have := JY' (W := default) (tb := tMp) huS DG' hm hb hwf hne
  have e : vmap ((CY' m).map encStr) = rowV keV (CY' m) := by
   rw [rowV]; refine congrArg vmap ?_
   induction CY' m with
   | nil => rfl
   | cons x l ih => rw [List.map_cons, List.flatMap_cons, ih]; rfl
  rw [e] at this
  exact this) fun _ => ⟨rfl, rfl, ⟨⟨Ye, rfl, Ye⟩, Ye⟩, A0' ⟨rfl, Ye⟩ (A0' (DL' _ _ _) A1'), ⟨rfl, Ye⟩, A0' ⟨rfl, Ye⟩ (A0' (DL' _ _ _) (A0' (MA' _ _) A1'))⟩
theorem gW' (ck : Nat) (F : HP) : C1OK Θ F fSo (cSoV ck) :=
 AU' (W := default) AZ' (fun _ => nilS) RM' (fun _ => rfl) (fun _ _ => JZ' (W := default) (tb := tMp) huS DG') fun _ => ⟨rfl, rfl, ⟨⟨Ye, rfl, Ye⟩, Ye⟩, A0' ⟨rfl, Ye⟩ (A0' (DL' _ _ _) A1'), ⟨Ye, Ye⟩, A0' ⟨rfl, Ye⟩ (A0' (DL' _ _ _) A1')⟩
theorem lPk_ok (b : Int) (m : KM) (c : Nat) (ks : List Γ) (ps : List Pr) (hps : ks.length = ps.length) (hkp : ∀ (i : Nat) (k : Γ) (p : Pr), ks[i]? = some k -> ps[i]? = some p -> p.1 = bsOf k /\ B5' p.1 m = some p.2) (h0 : 0 < ks.length) (hn : ks.length <= 1048576) (F : HP) : L1OK Θ F (A3' fPs 2) (lPk b m c ks.length ks ps) :=
 BV' (W := default) AZ' (fun _ => gPk_ro _) (fun _ _ => aY' b m c ks ps hps hkp h0 hn) fun _ => by
  simp only [RT.pick]; exact BD' rfl rfl (A0' rfl (A0' Ye (A0' rfl (A0' Ye (A0' Ye A1'))))) (CG' (RR' rfl) (A0' (MA' _ _) A1')) (A0' rfl A1') (CG' (RR' rfl) (A0' (MA' _ _) (A0' (H5' _ _) A1')))
theorem b0' (b : Int) (m : KM) (c n : Nat) (ks : List Γ) (ps : List Pr)
  (q : ∀ F, C1OK Θ F fSo (cSoW m c n ks)) (q1 : ∀ F, L1OK Θ F (A3' fKs 2) (lKy n ks)) (q2 : ∀ F, L1OK Θ F (A3' fPs 2) (lPk b m c n ks ps)) :
  Tri Θ default fPs [.ptr 0 0] (ctX b m c) (sP 1000 n) (ctX b m c ++ [(1000, rP ps)]) := by
 refine AF' (con := [(fSo, cSoW m c n ks)]) (hints := BA') (lc := [(fKs, 2, A3' fKs 2, lKy n ks), (fPs, 2, A3' fPs 2, lPk b m c n ks ps)]) kPk χ (fun F _ => BJ' (q F)) (fun F _ => IM' (q1 F) (C2' (q2 F))) fun F => ?_
 clear q q1 q2; refine Yj (d9' b m c n ks ps F) ⟨⟨?_, (AO' (vs' := [sP 1000 n]) (H' := ctX b m c ++ [(1000, rP ps)]) [(1000, 1105)] χ χ (Yb) (show JB' _ _ _ [(0, _), (1, mO m c), (1000, rP ps)] from ⟨⟨_, rfl, Yc⟩, ⟨_, rfl, BT' (BQ' _ _) rfl⟩, ⟨_, rfl, H4' (A5' _ _)⟩, Ye⟩)).fits rfl⟩⟩
 simp only [ch', true_and, and_true, BQ', A5']; and_intros; all_goals exact Kc19'
theorem aZ' (b : Int) (c : Nat) : Tri Θ default fPs [.ptr 0 0] (ctX b [] c) nilS (ctX b [] c) := by
 refine AF' (con := [(fSo, cSoV c)]) (hints := A6' [hf' fKs 2 0, hf' fPs 2 0]) (lc := []) kPk χ (fun F _ => BJ' (gW' c F)) (fun _ _ => noL) fun F => ?_
 refine Yj (d8' b c F) ⟨⟨?_, (AO' (vs' := [nilS]) (H' := ctX b [] c) [] χ χ (Yb) ⟨⟨_, rfl, Yc⟩, ⟨_, rfl, BT' rfl rfl⟩, Ye⟩).fits rfl⟩⟩
 simp only [ch', true_and, and_true]; and_intros; all_goals exact Kc31'
theorem aW' (s : St) (hs : s.OK) (hb : s.b <= 1000000) (hn : s.m.length <= 1000000) (hne : s.m ≠ []) :
  Tri Θ default fPs [.ptr 0 0] (ctX (o' s.b) s.m s.c) (sP 1000 (C7' s.m).length) (ctX (o' s.b) s.m s.c ++ [(1000, rP (C7' s.m))]) := by
 have hpos : 0 < s.m.length := List.length_pos_iff.2 hne; have hkl := CL' s.m
 have q := fun F => gV' hs.ki ω (UL' hs hb) hne F
 have q1 := fun F => Z7' (CY' s.m) ω ω F
 have q2 := fun F => lPk_ok (o' s.b) s.m s.c (CY' s.m) (C7' s.m) (by rw [G4']; exact hkl) RC' ω ω F
 rw [hkl] at q1 q2; rw [G4']; exact b0' (o' s.b) s.m s.c s.m.length (CY' s.m) (C7' s.m) q q1 q2
theorem aX' (s : St) (hm : s.m = []) : Tri Θ default fPs [.ptr 0 0] (ctX (o' s.b) s.m s.c) nilS (ctX (o' s.b) s.m s.c) := by
 obtain ⟨m, c, b⟩ := s; simp only at hm; subst hm; exact aZ' (o' b) c
def gvM (m : KM) (k : Δ) : Δ := (B5' k m).getD ⟨#[]⟩
def gtM (m : KM) (k : Δ) : Bool := (B5' k m).isSome
theorem gt_tri (D : AO) (hD : ∀ σ, D.ren σ = D) (sz b : Int) (m : KM) (c : Nat) (k : Δ) : Tri Θ default fGt [.ptr 0 0, sv k] (catF D sz b m c) (.tuple [sv (gvM m k), bv (gtM m k)]) (catF D sz b m c) := by
 rw [gvM, gtM]
 cases h : B5' k m with
 | some v =>
  refine AF' (con := []) (hints := A6' [(fGt, 1, 5, hv (.tuple [.agg [sv v], .lit true]))]) (lc := []) [0, 1, 2, 3] χ (fun _ _ => noC) (fun _ _ => noL) fun F => ?_
  refine Yj (eG' D sz b m c k v F) ⟨⟨?_, (AO' (vs' := [.tuple [sv v, bv true]]) (H' := catF D sz b m c) [] χ χ (Yb) ⟨⟨_, rfl, Yc⟩, ⟨_, rfl, Yc⟩, ⟨_, rfl, OW.of_eq (hD _).symm⟩, ⟨_, rfl, BT' rfl rfl⟩, Ye⟩).fits rfl⟩⟩
  simp only [ch', true_and, and_true]; and_intros; all_goals first | exact fk_m _ _ _ | exact O2' h | exact rfl | exact Ya
 | none =>
  refine AF' (con := []) (hints := A6' [(fGt, 1, 5, hv (.tuple [.agg [sv ⟨#[]⟩], .lit false]))]) (lc := []) [0, 1, 2, 3] χ (fun _ _ => noC) (fun _ _ => noL) fun F => ?_
  refine Yj (eH' D sz b m c k F) ⟨⟨?_, (AO' (vs' := [.tuple [sv ⟨#[]⟩, bv false]]) (H' := catF D sz b m c) [] χ χ (Yb) ⟨⟨_, rfl, Yc⟩, ⟨_, rfl, Yc⟩, ⟨_, rfl, OW.of_eq (hD _).symm⟩, ⟨_, rfl, BT' rfl rfl⟩, Ye⟩).fits rfl⟩⟩
  simp only [ch', true_and, and_true]; and_intros; all_goals first | exact fk_m _ _ _ | exact O3' h | exact rfl | exact Ya
def E7' (a : Addr) (c i : Nat) : Addr := match decide (c = i + 1) with
 | true => a
 | false => Addr.mk a.block (a.off + (i + 1) * 3) none
theorem JM' (a : Addr) (c i n : Nat) : Value.slice (if c = i + 1 then some a else some (Addr.mk a.block (a.off + (i + 1) * 3) none)) n (c - (i + 1)) = Value.slice (some (E7' a c i)) n (c - (i + 1)) := by
 by_cases h : c = i + 1
 ·rw [if_pos h, E7', decide_eq_true h]
 ·rw [if_neg h, E7', decide_eq_false h]
theorem Y5' {a : Addr} {l : List Chg} (h : CAt W (some a) l) {i : Nat} (hc : l.length <= c) (hi : i < l.length) : CAt W (some (E7' a c i)) (l.drop (i + 1)) where
 len := by have := h.len; rw [ld']; omega
 at' := fun j x hx => by
  rw [List.getElem?_drop] at hx; have hj := (List.getElem?_eq_some_iff.1 hx).1; obtain ⟨a9, e, q⟩ := h.at' (i + 1 + j) x hx; cases e
  refine ⟨E7' a c i, rfl, fun z v hv => ?_⟩
  have hne : c ≠ i + 1 := ω
  have e1 : E7' a c i = a.add ((i + 1) * 3) := by
   rw [E7', decide_eq_false hne]; unfold Addr.add; rw [if_neg ω]
  rw [e1, VN']; have := q z v hv
  rwa [show (i + 1) * 3 + (j * 3 + z) = (i + 1 + j) * 3 + z by omega]
def lbS (ys : List Chg) (k : Δ) (j : Nat) : Bool := (ys.take j).all fun y => !(y.k.toList == k.toList)
theorem XL' {ys : List Chg} {k : Δ} {j : Nat} {y : Chg} (h : ys[j]? = some y) : lbS ys k (j + 1) = (lbS ys k j && !(y.k.toList == k.toList)) := by
 rw [lbS, lbS, B0' h, List.all_append]; simp
theorem XK' {ys : List Chg} {k : Δ} (h : lbS ys k ys.length = true) : ∀ y ∈ ys, y.k ≠ k := fun y hy e => by
 rw [lbS, List.take_length, List.all_eq_true] at h; have := h y hy; rw [e] at this; simp at this
structure XrK (xr : AV) : Prop where
 s : AV.ren (sg []) xr = xr
 n : ∀ p, AV.ren (nmAt 5 p) xr = xr
 m : ∀ p, AV.ren (sgN (nmAt 5 p) [] 0) xr = xr
theorem TC' : XrK nilS := ⟨rfl, fun _ => rfl, fun _ => rfl⟩
theorem TB' (n : Nat) : XrK (sP 5 n) := ⟨rfl, fun _ => rfl, fun _ => rfl⟩
theorem fW' (W : World) (o2 : Option Addr) (n2 c2 : Nat) (e : Int) (xr : AV) (i : Nat) (ob : Option Addr) (cc : Nat) {ys : List Chg} (h : CAt W ob ys) (k v : Δ) (d : Bool) (D FT po : AO) (sz b : Int) (m : KM) (c : Nat)
  (hD : ∀ σ, D.ren σ = D) (hF : ∀ σ, FT.ren σ = FT) (hp : ∀ σ, po.ren σ = po) (hx : XrK xr) :
  LTri Θ W (A3' fAm 17) (tms 0 127 (aIk o2 n2 c2 e xr i ob ys.length cc true 0)) (oAt D sz b m c FT po ++ [(6, xS k v d)]) (.exit 2) (tms 0 127 (aAt o2 n2 c2 e xr i ++ [(13, .ptr 6 0), (14, bv (lbS ys k ys.length))])) (oAt D sz b m c FT po ++ [(6, xS k v d)]) := by
 have hxs := hx.s; refine B6' (W := W) (g := fAm) (b := A3' fAm 17) (σ := {j : Nat // j <= ys.length}) 127 (fun j => aIk o2 n2 c2 e xr i ob ys.length cc (lbS ys k j.1) j.1) (fun _ => oAt D sz b m c FT po ++ [(6, xS k v d)]) (.exit 2) (aAt o2 n2 c2 e xr i ++ [(13, .ptr 6 0), (14, bv (lbS ys k ys.length))]) (oAt D sz b m c FT po ++ [(6, xS k v d)]) (fun j => ys.length - j.1) kAt ixIk (by intro h; cases h) (fun j => χ) χ ?_ ⟨0, Nat.zero_le _⟩; rintro ⟨j, hj⟩; simp only; have hlen := h.len
 by_cases h1 : j < ys.length
 ·obtain ⟨y, hy⟩ := AY' h1; obtain ⟨a, rfl, hL⟩ := h.ld hy; have hsn := XL' (k := k) hy; have hall := hL.all; have q0 := hL.c0; have q1 := hL.c1; have q2 := hL.c2; clear hL hy; obtain ⟨ky, vy, dy⟩ := y; simp only at q0 q1 q2 hsn; have e1 : Wk (.v (.bool (decide (o' j < o' ys.length)))) (.lit true) := A2' (ltTN h1); have e3 : Wk (.v (.int .i64 (IntKind.i64.wrap (o' j + o' 1)))) (.v (.int .i64 (o' (j + 1)))) := C6' (B8' j ω)
  generalize hl1 : lbS ys k j = lb at *
  generalize hl2 : lbS ys k (j + 1) = l2 at *
  refine ⟨[], A6' [ht' fAm 17 0, (fAm, 18, 1, hv (.agg [sv ky, sv vy, bv dy])), (fAm, 19, 7, hv (bv l2)), (fAm, 20, 0, hv (iv (o' (j + 1))))], [], fun _ _ => noC, fun _ _ => noL, fun F => ?_⟩
  refine Yj (eE' W o2 n2 c2 e xr i a ys.length cc lb l2 j k v ky vy d dy D FT po sz b m c F) ⟨fun hb => ⟨?_, rfl, .inl ⟨rfl, ⟨j + 1, h1⟩, B1' h1, [], by simp only [hl2]; exact ⟨χ, by kernel_rfl, ⟨Ya, Ya, Ya, Ya, Ya, Wk.of_eq hxs.symm, Ya, Ya, Ya, Ya, Ya, Ya, Ya, Ya, Ye⟩, ⟨_, rfl, Yc⟩, ⟨_, rfl, Yc⟩, ⟨_, rfl, OW.of_eq (hD _).symm⟩, ⟨_, rfl, BT' rfl rfl⟩, ⟨_, rfl, OW.of_eq (hF _).symm⟩, ⟨_, rfl, OW.of_eq (hp _).symm⟩, ⟨_, rfl, Yc⟩, Ye⟩⟩⟩, fun hb => ⟨?_, rfl, .inl ⟨rfl, ⟨j + 1, h1⟩, B1' h1, [], by simp only [hl2]; exact ⟨χ, by kernel_rfl, ⟨Ya, Ya, Ya, Ya, Ya, Wk.of_eq hxs.symm, Ya, Ya, Ya, Ya, Ya, Ya, Ya, Ya, Ye⟩, ⟨_, rfl, Yc⟩, ⟨_, rfl, Yc⟩, ⟨_, rfl, OW.of_eq (hD _).symm⟩, ⟨_, rfl, BT' rfl rfl⟩, ⟨_, rfl, OW.of_eq (hF _).symm⟩, ⟨_, rfl, OW.of_eq (hp _).symm⟩, ⟨_, rfl, Yc⟩, Ye⟩⟩⟩⟩
  ·have e4 : Wk (.v (.bool (!ky.toList == k.toList))) (.v (.bool l2)) := by rw [hsn, hb, Bool.true_and]; exact Ya
   exact Cc19'
  ·have e4 : l2 = false := by rw [hsn, hb]; rfl
   have e5 : Wk (.lit false) (.v (.bool l2)) := by rw [e4]; exact fun N y hy => VR_v.2 (EF'.1 hy)
   exact Cc19'
 ·have hie : j = ys.length := ω
  subst hie
  refine ⟨[], A6' [hf' fAm 17 0], [], fun _ _ => noC, fun _ _ => noL, fun F => ?_⟩
  refine Yj (eF' W o2 n2 c2 e xr i ob ys.length cc (lbS ys k ys.length) ys.length k v d D FT po sz b m c F) ⟨⟨?_, rfl, .inr ⟨rfl, [], by kernel_rfl, by kernel_rfl, ⟨Ya, Ya, Ya, Ya, Ya, Wk.of_eq hxs.symm, Ya, Ya, Ya, Ya, Ya, Ye⟩, ⟨_, rfl, Yc⟩, ⟨_, rfl, Yc⟩, ⟨_, rfl, OW.of_eq (hD _).symm⟩, ⟨_, rfl, BT' rfl rfl⟩, ⟨_, rfl, OW.of_eq (hF _).symm⟩, ⟨_, rfl, OW.of_eq (hp _).symm⟩, ⟨_, rfl, Yc⟩, Ye⟩⟩⟩
  simp only [ch', and_true]; exact A2' (ltFN (Yd))
theorem ZG' {tms : List AV} {k : Nat -> AP Pa} {g : Nat -> Nat -> Nat -> Nat -> Nat -> AP Pa} (h : ∀ c l d m f, RO (g c l d m f)) : RO (gAt tms k g) := by
 unfold gAt; split
 ·refine RO.read _ _ fun o => ?_
  split
  ·refine RO.read _ _ fun o => ?_
   split <;> first | exact h _ _ _ _ _ | exact RO.fail _
  ·exact RO.fail _
 ·exact RO.fail _
theorem gIk_ro : ∀ tms, RO (gIk tms) := fun tms => ZG' fun _ _ _ _ _ => by
 split <;> first | exact RO.ret _ | exact RO.fail _
theorem gOk_ro : ∀ tms, RO (gOk tms) := fun tms => ZG' fun _ _ _ _ _ => RO.ret _
theorem gGt_ro : ∀ args, RO (gGt args) := fun args => by
 unfold gGt; split
 ·refine RO.read _ _ fun o => ?_
  split
  ·refine RO.read _ _ fun o => ?_
   split <;> first | exact RO.ret _ | exact RO.fail _
  ·exact RO.fail _
 ·exact RO.fail _
theorem RE' {K : Nat -> Bool} {D FT po : AO} {m : KM} (h1 : K 1 = true) (h2 : K 2 = true) (h3 : K 3 = true) (cD : D.cl K) (cF : FT.cl K) (cp : po.cl K) : ∀ x ∈ oAt D sz b m c FT po, x.2.cl K := CG' (KU' h1 h2 h3 cD) (A0' cF (A0' cp A1'))
theorem lIk_ok (o2 : Option Addr) (n2 c2 : Nat) (e : Int) (xr : AV) (i : Nat) (ob : Option Addr) (cc : Nat) {ys : List Chg} (h : CAt W ob ys) (k v : Δ) (d : Bool) (D FT po : AO) (sz b : Int) (m : KM) (c : Nat)
  (hD : ∀ σ, D.ren σ = D) (hF : ∀ σ, FT.ren σ = FT) (hp : ∀ σ, po.ren σ = po) (hx : XrK xr) (cD : ∀ K, D.cl K) (cF : ∀ K, FT.cl K) (cp : ∀ K, po.cl K) (cx : ∀ K : Nat -> Bool, K 5 = true -> AV.cl K xr) (F : HP) (hO : AH' W F) : L1OK Θ F (A3' fAm 17) (lIk 5 o2 n2 c2 e xr i ob ys.length cc (lbS ys k ys.length) k v d D FT po sz b m c) :=
 BV' hO (fun _ => gIk_ro _) (fun _ _ => fW' W o2 n2 c2 e xr i ob cc h k v d D FT po sz b m c hD hF hp hx) fun _ => by
  simp only [RT.pick]; exact BD' rfl rfl (A0' Ye (A0' rfl (A0' rfl (A0' rfl (A0' Ye (A0' (cx _ rfl) (A0' Ye (A0' Ye (A0' Ye (A0' rfl (A0' Ye (A0' Ye (A0' Ye (A0' Ye A1')))))))))))))) (CG' (RE' rfl rfl rfl (cD _) (cF _) (cp _)) (A0' ⟨Ye, Ye, Ye, Ye⟩ A1')) (A0' Ye (A0' rfl (A0' rfl (A0' rfl (A0' Ye (A0' (cx _ rfl) (A0' Ye (A0' Ye (A0' Ye (A0' rfl (A0' Ye A1'))))))))))) (CG' (RE' rfl rfl rfl (cD _) (cF _) (cp _)) (A0' ⟨Ye, Ye, Ye, Ye⟩ A1'))
theorem S0' (D : AO) (hD : ∀ σ, D.ren σ = D) (cD : ∀ K, D.cl K) (sz b : Int) (m : KM) (c : Nat) (k v : Δ) (b9 : Bool) (h1 : gvM m k = v) (h2 : gtM m k = b9) (F : HP) : C1OK Θ F fGt (cGt D sz b m c k v b9) :=
 AU' (W := default) AZ' (fun _ => .tuple [sv v, bv b9]) gGt_ro (fun _ => rfl) (fun _ _ => by have := gt_tri D hD sz b m c k; rwa [h1, h2] at this) fun _ => ⟨rfl, rfl, ⟨rfl, Ye, Ye⟩, KU' rfl rfl rfl (cD _), ⟨⟨Ye, Ye, Ye⟩, Ye⟩, KU' rfl rfl rfl (cD _)⟩
def Told (l : List Chg) (m : KM) : Prop := ∀ i x, l[i]? = some x -> (∀ y ∈ l.drop (i + 1), y.k ≠ x.k) -> B5' x.k m = if x.d then none else some x.v
theorem aQ' (W : World) {o2 : Option Addr} {l2 : List Chg} (c2 : Nat) (h : CAt W o2 l2) (hc : l2.length <= c2) (e : Int) (xr : AV) (D FT po : AO) (sz b : Int) (m : KM) (c : Nat)
  (hD : ∀ σ, D.ren σ = D) (hF : ∀ σ, FT.ren σ = FT) (hp : ∀ σ, po.ren σ = po) (hx : XrK xr) (cD : ∀ K, D.cl K) (cF : ∀ K, FT.cl K) (cp : ∀ K, po.cl K) (cx : ∀ K : Nat -> Bool, K 5 = true -> AV.cl K xr) (hT : e = 0 -> Told l2 m) :
  LTri Θ W (A3' fAm 13) (tms 0 127 (aAt o2 l2.length c2 e xr 0)) (oAt D sz b m c FT po) (.exit 0) (tms 0 127 [(5, .ptr 4 0), (7, .ptr 2 0), (11, xr)]) (oAt D sz b m c FT po) := by
 obtain ⟨hxs, hxn, hxm⟩ := id hx; refine B6' (W := W) (g := fAm) (b := A3' fAm 13) (σ := {i : Nat // i <= l2.length}) 127 (fun i => aAt o2 l2.length c2 e xr i.1) (fun _ => oAt D sz b m c FT po) (.exit 0) [(5, .ptr 4 0), (7, .ptr 2 0), (11, xr)] (oAt D sz b m c FT po) (fun i => l2.length - i.1) kAt ixAt (by intro h; cases h) (fun i => χ) χ ?_ ⟨0, Nat.zero_le _⟩; rintro ⟨i, hi⟩; simp only; have hlen := h.len
 by_cases h1 : i < l2.length
 ·obtain ⟨x, hxx⟩ := AY' h1; obtain ⟨a, rfl, hL⟩ := h.ld hxx; have hall := hL.all; have q0 := hL.c0; have q1 := hL.c1; have q2 := hL.c2; have hd := Y5' h hc h1; have hdl : (l2.drop (i + 1)).length = l2.length - (i + 1) := ld'
  have hTT := fun he => hT he i x hxx
  clear hL hxx; obtain ⟨k, v, d⟩ := x; simp only at q0 q1 q2 hTT
  have ql := fun F hO => lIk_ok (W := W) (some a) l2.length c2 e xr i (some (E7' a c2 i)) (c2 - (i + 1)) hd k v d D FT po sz b m c hD hF hp hx cD cF cp cx F hO
  rw [hdl] at ql; have e1 : Wk (.v (.bool (decide (o' i < o' l2.length)))) (.lit true) := A2' (ltTN h1); have e3 : Wk (.v (.int .i64 (IntKind.i64.wrap (o' i + o' 1)))) (.v (.int .i64 (o' (i + 1)))) := C6' (B8' i ω)
  by_cases he : e = 0
  ·subst he; have hTT := hTT rfl
   cases hlb : lbS (l2.drop (i + 1)) k (l2.length - (i + 1)) with
   | false =>
    rw [hlb] at ql
    have qc := fun F => S0' D hD cD sz b m c k (gvM m k) (gtM m k) rfl rfl F
    refine ⟨[(fGt, cGt D sz b m c k (gvM m k) (gtM m k))], A6' (hRd k v d i (some (E7' a c2 i)) (l2.length - (i + 1)) (c2 - (i + 1)) ++ [ht' fAm 22 1, hf' fAm 22 4]), [(fAm, 17, A3' fAm 17, lIk 5 (some a) l2.length c2 0 xr i (some (E7' a c2 i)) (l2.length - (i + 1)) (c2 - (i + 1)) false k v d D FT po sz b m c)], fun F _ => BJ' (qc F), fun F hO => C2' (ql F hO), fun F => ?_⟩
    clear qc ql
    refine Yj (d0' W a l2.length c2 d xr i (E7' a c2 i) (l2.length - (i + 1)) (c2 - (i + 1)) k v D FT po sz b m c (gvM m k) (gtM m k) F) ⟨⟨?_, rfl, .inl ⟨rfl, ⟨i + 1, h1⟩, B1' h1, [], ⟨χ, by kernel_rfl, ⟨Ya, Ya, Ya, Ya, Ya, Wk.of_eq ((hxm _).trans hxs.symm), Ya, Ya, Ya, Ye⟩, ⟨_, rfl, Yc⟩, ⟨_, rfl, Yc⟩, ⟨_, rfl, OW.of_eq (by rw [hD, hD])⟩, ⟨_, rfl, BT' (BQ' _ _) rfl⟩, ⟨_, rfl, OW.of_eq (by rw [hF, hF])⟩, ⟨_, rfl, OW.of_eq (by rw [hp, hp])⟩, Ye⟩⟩⟩⟩
    exact Cc20'
   | true =>
    rw [hlb] at ql; have hk := hTT (XK' (by rw [hdl]; exact hlb))
    cases d with
    | true =>
     have hk : B5' k m = none := hk
     have g2 : gtM m k = false := by rw [gtM, hk]; rfl
     have qc := fun F => S0' D hD cD sz b m c k (gvM m k) false rfl g2 F
     refine ⟨[(fGt, cGt D sz b m c k (gvM m k) false)], A6' (hRd k v true i (some (E7' a c2 i)) (l2.length - (i + 1)) (c2 - (i + 1)) ++ [ht' fAm 22 1, ht' fAm 22 4, hf' fAm 22 9, hf' fAm 22 12, hf' fAm 22 17, hf' fAm 22 18]), [(fAm, 17, A3' fAm 17, lIk 5 (some a) l2.length c2 0 xr i (some (E7' a c2 i)) (l2.length - (i + 1)) (c2 - (i + 1)) true k v true D FT po sz b m c)], fun F _ => BJ' (qc F), fun F hO => C2' (ql F hO), fun F => ?_⟩
     clear qc ql
     refine Yj (d2' W a l2.length c2 xr i (E7' a c2 i) (l2.length - (i + 1)) (c2 - (i + 1)) k v D FT po sz b m c (gvM m k) (gtM m k) F) ⟨⟨?_, rfl, .inl ⟨rfl, ⟨i + 1, h1⟩, B1' h1, [], ⟨χ, by kernel_rfl, ⟨Ya, Ya, Ya, Ya, Ya, Wk.of_eq ((hxm _).trans hxs.symm), Ya, Ya, Ya, Ye⟩, ⟨_, rfl, Yc⟩, ⟨_, rfl, Yc⟩, ⟨_, rfl, OW.of_eq (by rw [hD, hD])⟩, ⟨_, rfl, BT' (BQ' _ _) rfl⟩, ⟨_, rfl, OW.of_eq (by rw [hF, hF])⟩, ⟨_, rfl, OW.of_eq (by rw [hp, hp])⟩, Ye⟩⟩⟩⟩
     exact Cc20'
    | false =>
     have hk : B5' k m = some v := hk
     have g1 : gvM m k = v := by rw [gvM, hk]; rfl
     have g2 : gtM m k = true := by rw [gtM, hk]; rfl
     have qc := fun F => S0' D hD cD sz b m c k v true g1 g2 F
     refine ⟨[(fGt, cGt D sz b m c k v true)], A6' (hRd k v false i (some (E7' a c2 i)) (l2.length - (i + 1)) (c2 - (i + 1)) ++ [ht' fAm 22 1, ht' fAm 22 4, hf' fAm 22 9, ht' fAm 22 12, hf' fAm 22 16, hf' fAm 22 17, hf' fAm 22 18]), [(fAm, 17, A3' fAm 17, lIk 5 (some a) l2.length c2 0 xr i (some (E7' a c2 i)) (l2.length - (i + 1)) (c2 - (i + 1)) true k v false D FT po sz b m c)], fun F _ => BJ' (qc F), fun F hO => C2' (ql F hO), fun F => ?_⟩
     clear qc ql
     refine Yj (bZ' W a l2.length c2 xr i (E7' a c2 i) (l2.length - (i + 1)) (c2 - (i + 1)) k v D FT po sz b m c (gvM m k) (gtM m k) F) ⟨⟨?_, rfl, .inl ⟨rfl, ⟨i + 1, h1⟩, B1' h1, [], ⟨χ, by kernel_rfl, ⟨Ya, Ya, Ya, Ya, Ya, Wk.of_eq ((hxm _).trans hxs.symm), Ya, Ya, Ya, Ye⟩, ⟨_, rfl, Yc⟩, ⟨_, rfl, Yc⟩, ⟨_, rfl, OW.of_eq (by rw [hD, hD])⟩, ⟨_, rfl, BT' (BQ' _ _) rfl⟩, ⟨_, rfl, OW.of_eq (by rw [hF, hF])⟩, ⟨_, rfl, OW.of_eq (by rw [hp, hp])⟩, Ye⟩⟩⟩⟩
     exact Cc20'
  ·have e9 : Wk (.v (.bool (e == o' 0))) (.lit false) := A2' (by simpa using he)
   have qc := fun F => S0' D hD cD sz b m c k (gvM m k) (gtM m k) rfl rfl F
   refine ⟨[(fGt, cGt D sz b m c k (gvM m k) (gtM m k))], A6' (hRd k v d i (some (E7' a c2 i)) (l2.length - (i + 1)) (c2 - (i + 1)) ++ [hf' fAm 22 1, hf' fAm 22 4]), [(fAm, 17, A3' fAm 17, lIk 5 (some a) l2.length c2 e xr i (some (E7' a c2 i)) (l2.length - (i + 1)) (c2 - (i + 1)) (lbS (l2.drop (i + 1)) k (l2.length - (i + 1))) k v d D FT po sz b m c)], fun F _ => BJ' (qc F), fun F hO => C2' (ql F hO), fun F => ?_⟩
   clear qc ql
   refine Yj (d1' W a l2.length c2 e (lbS (l2.drop (i + 1)) k (l2.length - (i + 1))) d xr i (E7' a c2 i) (l2.length - (i + 1)) (c2 - (i + 1)) k v D FT po sz b m c (gvM m k) (gtM m k) F) ⟨⟨?_, rfl, .inl ⟨rfl, ⟨i + 1, h1⟩, B1' h1, [], ⟨χ, by kernel_rfl, ⟨Ya, Ya, Ya, Ya, Ya, Wk.of_eq ((hxm _).trans hxs.symm), Ya, Ya, Ya, Ye⟩, ⟨_, rfl, Yc⟩, ⟨_, rfl, Yc⟩, ⟨_, rfl, OW.of_eq (by rw [hD, hD])⟩, ⟨_, rfl, BT' (BQ' _ _) rfl⟩, ⟨_, rfl, OW.of_eq (by rw [hF, hF])⟩, ⟨_, rfl, OW.of_eq (by rw [hp, hp])⟩, Ye⟩⟩⟩⟩
   exact Cc20'
 ·have hie : i = l2.length := ω
  subst hie
  refine ⟨[], A6' [hf' fAm 13 0], [], fun _ _ => noC, fun _ _ => noL, fun F => ?_⟩
  refine Yj (bY' W o2 l2.length c2 e xr l2.length D FT po sz b m c F) ⟨⟨?_, rfl, .inr ⟨rfl, [], by kernel_rfl, by kernel_rfl, ⟨Ya, Ya, Wk.of_eq hxs.symm, Ye⟩, ⟨_, rfl, Yc⟩, ⟨_, rfl, Yc⟩, ⟨_, rfl, OW.of_eq (hD _).symm⟩, ⟨_, rfl, BT' rfl rfl⟩, ⟨_, rfl, OW.of_eq (hF _).symm⟩, ⟨_, rfl, OW.of_eq (hp _).symm⟩, Ye⟩⟩⟩
  simp only [ch', and_true]; exact A2' (ltFN (Yd))
theorem lRd_ok (r : Nat) {o2 : Option Addr} {l2 : List Chg} (c2 : Nat) (h : CAt W o2 l2) (hc : l2.length <= c2) (e : Int) (xr : AV) (D FT po : AO) (sz b : Int) (m : KM) (c : Nat)
  (hD : ∀ σ, D.ren σ = D) (hF : ∀ σ, FT.ren σ = FT) (hp : ∀ σ, po.ren σ = po) (hx : XrK xr) (cD : ∀ K, D.cl K) (cF : ∀ K, FT.cl K) (cp : ∀ K, po.cl K) (cx : ∀ K : Nat -> Bool, K 5 = true -> AV.cl K xr) (hT : e = 0 -> Told l2 m) (F : HP) (hO : AH' W F) :
  L1OK Θ F (A3' fAm 13) (lRd r o2 l2.length c2 e xr D FT po sz b m c) :=
 BV' hO (fun _ => gOk_ro _) (fun _ _ => aQ' W c2 h hc e xr D FT po sz b m c hD hF hp hx cD cF cp cx hT) fun _ => by
  simp only [RT.pick]; exact BD' rfl rfl (A0' Ye (A0' rfl (A0' rfl (A0' rfl (A0' Ye (A0' (cx _ rfl) (A0' Ye (A0' Ye (A0' Ye A1'))))))))) (RE' rfl rfl rfl (cD _) (cF _) (cp _)) (A0' rfl (A0' rfl (A0' (cx _ rfl) A1'))) (RE' rfl rfl rfl (cD _) (cF _) (cp _))
theorem RK' {H H' : LH} (hn : AA' 1100 H = true) (hn' : AA' 1100 H' = true) (hh : ∀ j o', getO H' j = some o' -> ∃ o, getO H j = some o /\ OW o o') (hz : ∀ j, getO H' j = none -> getO H j = none) : Goes vs H vs H' := by
 intro W0 F N ys w ⟨N', g1, g2, r, hvs⟩; have hf : ∀ i, (AK' H).find i = getO H i := AE' (D7' hn); have hf' : ∀ i, (AK' H').find i = getO H' i := AE' (D7' hn'); obtain ⟨D0, D, h1, h2, h3⟩ := r.sat
 refine ⟨N', g1, fun j hj hg => g2 j hj (hz j hg), ⟨r.os, r.tape, r.output, D0, D, h1, fun i o' hi => ?_, fun i j o o' hi hj => ?_⟩, hvs⟩
 ·rw [hf'] at hi; obtain ⟨o, ho, hw⟩ := hh i o' hi; have := h2 i o (by rw [hf]; exact ho); exact ⟨hw _ _ _ _ this.1, this.2⟩
 ·rw [hf'] at hi hj; obtain ⟨o1, ho1, _⟩ := hh i o hi; obtain ⟨o2, ho2, _⟩ := hh j o' hj; exact h3 i j o1 o2 (by rw [hf]; exact ho1) (by rw [hf]; exact ho2)
theorem OI' {m m9 : Md} {h : Nat -> Nat -> HP} {M : KM} (hR : AA' 1100 R = true) : Goes vs (catG (.own m h) sz b M c ++ R) vs (catG (.own m9 h) sz b M c ++ R) := by
 have hl : ∀ q : Md, AA' 1100 (catG (.own q h) sz b M c ++ R) = true := fun q => C5' χ hR
 refine RK' (hl _) (hl _) (fun j o9 hj => ?_) (fun j hj => ?_)
 ·by_cases e : j = 2
  ·subst e; simp only [catG, List.cons_append, List.nil_append, getO] at hj; cases hj
   exact ⟨_, rfl, fun _ _ _ _ h => h⟩
  ·refine ⟨o9, ?_, Yc⟩; simp only [catG, List.cons_append, List.nil_append, getO, if_neg e] at hj ⊢; exact hj
 ·by_cases e : j = 2
  ·subst e; simp only [catG, List.cons_append, List.nil_append, getO] at hj; cases hj
  ·simp only [catG, List.cons_append, List.nil_append, getO, if_neg e] at hj ⊢; exact hj
theorem atEN (W : World) (o1 o2 ok : Option Addr) (n1 c1 n2 c2 nk ck nR : Nat) (tr e1 : Int) (e2 : Int) (he : e2 ≠ 0) (f : C3) (R : Bs) (G : AO) (hG : ∀ σ, G.ren σ = G)
  (q : ∀ F, AH' W F -> ∀ x ∈ [(CK', CV'), (fOd, cOdA f), (fCm, cCmA o1 o2 n1 c1 n2 c2 e1 e2 f), (fPs, cPsA f nilS nilS [] dumZ), (fSm, cSmN), (fCr, cCrA ok nk ck nR tr (dT f .a2) R), (fDo, cDoF nR R G), (fCo, cOkA f G)], C1OK Θ F x.1 x.2) (ql : ∀ F, AH' W F -> ∀ x ∈ [(fAm, 13, A3' fAm 13, lRd 1109 o2 n2 c2 e2 nilS (dT f .a2) (ftO ok nk ck tr) dumZ f.a2.sz f.a2.b f.a2.m f.a2.c)], L1OK Θ F x.2.2.1 x.2.2.2) :
  Tri Θ W fAm [slV o1 n1 c1, slV o2 n2 c2, EX' ok nk ck tr] [] (bv true) [] := by
 refine AF' (con := [(CK', CV'), (fOd, cOdA f), (fCm, cCmA o1 o2 n1 c1 n2 c2 e1 e2 f), (fPs, cPsA f nilS nilS [] dumZ), (fSm, cSmN), (fCr, cCrA ok nk ck nR tr (dT f .a2) R), (fDo, cDoF nR R G), (fCo, cOkA f G)]) (hints := A6' [hf' fAm 1 1, hf' fAm 4 1, ht' fAm 10 1, hf' fAm 10 7, hf' fAm 26 1, ht' fAm 29 1, ht' fAm 29 4, ht' fAm 29 5, ht' fAm 29 10, ht' fAm 29 11]) (lc := [(fAm, 13, A3' fAm 13, lRd 1109 o2 n2 c2 e2 nilS (dT f .a2) (ftO ok nk ck tr) dumZ f.a2.sz f.a2.b f.a2.m f.a2.c)]) [] χ q ql fun F => ?_
 clear q ql; refine Yj (XA' W o1 o2 ok n1 c1 n2 c2 nk ck nR tr e1 e2 f R G F) ⟨⟨?_, (AO' (vs' := [bv true]) (H' := []) [] rfl rfl (Yb) trivial).fits rfl⟩⟩; have e9 : Wk (.v (.bool (e2 != o' 0))) (.lit true) := A2' (by simpa using he); exact Cc21'
theorem atES (W : World) (o1 o2 ok : Option Addr) (n1 c1 n2 c2 nk ck nR : Nat) (tr e1 : Int) (e2 : Int) (he : e2 ≠ 0) (f : C3) (R : Bs) (G : AO) (n : Nat) (ps : List (Δ × Δ)) (hG : ∀ σ, G.ren σ = G)
  (q : ∀ F, AH' W F -> ∀ x ∈ [(CK', CV'), (fOd, cOdA f), (fCm, cCmA o1 o2 n1 c1 n2 c2 e1 e2 f), (fPs, cPsA f (sP 1000 n) (sP 1000 n) [(1000, rP ps)] (rP ps)), (fSm, cSmS n (rP ps)), (fCr, cCrA ok nk ck nR tr (dT f .a2) R), (fDo, cDoF nR R G), (fCo, cOkA f G)], C1OK Θ F x.1 x.2) (ql : ∀ F, AH' W F -> ∀ x ∈ [(fAm, 13, A3' fAm 13, lRd 1110 o2 n2 c2 e2 (sP 5 n) (dT f .a2) (ftO ok nk ck tr) (rP ps) f.a2.sz f.a2.b f.a2.m f.a2.c)], L1OK Θ F x.2.2.1 x.2.2.2) :
  Tri Θ W fAm [slV o1 n1 c1, slV o2 n2 c2, EX' ok nk ck tr] [] (bv true) [] := by
 refine AF' (con := [(CK', CV'), (fOd, cOdA f), (fCm, cCmA o1 o2 n1 c1 n2 c2 e1 e2 f), (fPs, cPsA f (sP 1000 n) (sP 1000 n) [(1000, rP ps)] (rP ps)), (fSm, cSmS n (rP ps)), (fCr, cCrA ok nk ck nR tr (dT f .a2) R), (fDo, cDoF nR R G), (fCo, cOkA f G)]) (hints := A6' [hf' fAm 1 1, hf' fAm 4 1, ht' fAm 10 1, hf' fAm 10 7, hf' fAm 26 1, ht' fAm 29 1, ht' fAm 29 4, ht' fAm 29 5, ht' fAm 29 10, ht' fAm 29 11]) (lc := [(fAm, 13, A3' fAm 13, lRd 1110 o2 n2 c2 e2 (sP 5 n) (dT f .a2) (ftO ok nk ck tr) (rP ps) f.a2.sz f.a2.b f.a2.m f.a2.c)]) [] χ q ql fun F => ?_
 clear q ql; refine Yj (X9' W o1 o2 ok n1 c1 n2 c2 nk ck nR tr e1 e2 f R G n ps F) ⟨⟨?_, (AO' (vs' := [bv true]) (H' := []) [] rfl rfl (Yb) trivial).fits rfl⟩⟩; have e9 : Wk (.v (.bool (e2 != o' 0))) (.lit true) := A2' (by simpa using he); exact Cc21'
theorem atZN (W : World) (o1 o2 ok : Option Addr) (n1 c1 n2 c2 nk ck nR : Nat) (tr e1 : Int) (f : C3) (R : Bs) (G : AO) (hG : ∀ σ, G.ren σ = G)
  (q : ∀ F, AH' W F -> ∀ x ∈ [(CK', CV'), (fOd, cOdA f), (fCm, cCmA o1 o2 n1 c1 n2 c2 e1 0 f), (fPs, cPsA f .any nilS [] dumZ), (fSm, cSmN), (fCr, cCrA ok nk ck nR tr (dT f .a2) R), (fDo, cDoF nR R G), (fCo, cOkA f G)], C1OK Θ F x.1 x.2) (ql : ∀ F, AH' W F -> ∀ x ∈ [(fAm, 13, A3' fAm 13, lRd 1109 o2 n2 c2 0 nilS (dT f .a2) (ftO ok nk ck tr) dumZ f.a2.sz f.a2.b f.a2.m f.a2.c)], L1OK Θ F x.2.2.1 x.2.2.2) :
  Tri Θ W fAm [slV o1 n1 c1, slV o2 n2 c2, EX' ok nk ck tr] [] (bv true) [] := by
 refine AF' (con := [(CK', CV'), (fOd, cOdA f), (fCm, cCmA o1 o2 n1 c1 n2 c2 e1 0 f), (fPs, cPsA f .any nilS [] dumZ), (fSm, cSmN), (fCr, cCrA ok nk ck nR tr (dT f .a2) R), (fDo, cDoF nR R G), (fCo, cOkA f G)]) (hints := A6' [hf' fAm 1 1, hf' fAm 4 1, hf' fAm 10 1, hf' fAm 10 7, hf' fAm 26 1, ht' fAm 29 1, ht' fAm 29 4, ht' fAm 29 5, ht' fAm 29 10, ht' fAm 29 11]) (lc := [(fAm, 13, A3' fAm 13, lRd 1109 o2 n2 c2 0 nilS (dT f .a2) (ftO ok nk ck tr) dumZ f.a2.sz f.a2.b f.a2.m f.a2.c)]) [] χ q ql fun F => ?_
 clear q ql; refine Yj (X8' W o1 o2 ok n1 c1 n2 c2 nk ck nR tr e1 f R G F) ⟨⟨?_, (AO' (vs' := [bv true]) (H' := []) [] rfl rfl (Yb) trivial).fits rfl⟩⟩; exact Cc21'
theorem atZS (W : World) (o1 o2 ok : Option Addr) (n1 c1 n2 c2 nk ck nR : Nat) (tr e1 : Int) (f : C3) (R : Bs) (G : AO) (n : Nat) (ps : List (Δ × Δ)) (hG : ∀ σ, G.ren σ = G)
  (q : ∀ F, AH' W F -> ∀ x ∈ [(CK', CV'), (fOd, cOdA f), (fCm, cCmA o1 o2 n1 c1 n2 c2 e1 0 f), (fPs, cPsA f .any (sP 1000 n) [] (rP ps)), (fSm, cSmS n (rP ps)), (fCr, cCrA ok nk ck nR tr (dT f .a2) R), (fDo, cDoF nR R G), (fCo, cOkA f G)], C1OK Θ F x.1 x.2) (ql : ∀ F, AH' W F -> ∀ x ∈ [(fAm, 13, A3' fAm 13, lRd 1109 o2 n2 c2 0 (sP 5 n) (dT f .a2) (ftO ok nk ck tr) (rP ps) f.a2.sz f.a2.b f.a2.m f.a2.c)], L1OK Θ F x.2.2.1 x.2.2.2) :
  Tri Θ W fAm [slV o1 n1 c1, slV o2 n2 c2, EX' ok nk ck tr] [] (bv true) [] := by
 refine AF' (con := [(CK', CV'), (fOd, cOdA f), (fCm, cCmA o1 o2 n1 c1 n2 c2 e1 0 f), (fPs, cPsA f .any (sP 1000 n) [] (rP ps)), (fSm, cSmS n (rP ps)), (fCr, cCrA ok nk ck nR tr (dT f .a2) R), (fDo, cDoF nR R G), (fCo, cOkA f G)]) (hints := A6' [hf' fAm 1 1, hf' fAm 4 1, hf' fAm 10 1, hf' fAm 10 7, hf' fAm 26 1, ht' fAm 29 1, ht' fAm 29 4, ht' fAm 29 5, ht' fAm 29 10, ht' fAm 29 11]) (lc := [(fAm, 13, A3' fAm 13, lRd 1109 o2 n2 c2 0 (sP 5 n) (dT f .a2) (ftO ok nk ck tr) (rP ps) f.a2.sz f.a2.b f.a2.m f.a2.c)]) [] χ q ql fun F => ?_
 clear q ql; refine Yj (X7' W o1 o2 ok n1 c1 n2 c2 nk ck nR tr e1 f R G n ps F) ⟨⟨?_, (AO' (vs' := [bv true]) (H' := []) [] rfl rfl (Yb) trivial).fits rfl⟩⟩; exact Cc21'
theorem rg_tri (l : Bs) (o : Nat) (cp : Cp) (ho : o + 4 <= l.length) : LTri Θ default (A3' fRn 2) (tms 0 22 (aRn o cp 0 0)) [(0, rB l)] (.exit 0) (tms 0 22 [(4, iv (o' (val ((l.drop o).take 4))))]) [(0, rB l)] := by
 refine B6' (W := default) (g := fRn) (b := A3' fRn 2) (σ := {j : Nat // j <= 4}) 22 (fun j => aRn o cp j.1 (val ((l.drop o).take j.1))) (fun j => [(0, rB l)]) (.exit 0) [(4, iv (o' (val ((l.drop o).take 4))))] [(0, rB l)] (fun j => 4 - j.1) [0] [4, 9, 10, 11] (by intro h; cases h) (fun _ => rfl) rfl ?_ ⟨0, Nat.zero_le _⟩
 rintro ⟨j, hj⟩; simp only
 by_cases h1 : j < 4
 ·obtain ⟨b, hb⟩ := AY' (l := l.drop o) (i := j) (by rw [ld']; omega)
  have hbl : l.getD (o + j) 0 = b := by
   rw [List.getElem?_drop] at hb; rw [List.getD, hb]; rfl
  have hw := B8' j ω; have e1 : decide (o' j < o' 4) = true := ltTN h1; have hvl : val ((l.drop o).take j) < 256 ^ j := YJ' _ (by rw [List.length_take, ld']; omega)
  have hv2 : val ((l.drop o).take j) < 1099511627776 := Nat.lt_of_lt_of_le hvl (by
   have : (256 : Nat) ^ j <= 256 ^ 4 := Nat.pow_le_pow_right δ ω
   exact Nat.le_trans this δ)
  have hnx : val ((l.drop o).take (j + 1)) = val ((l.drop o).take j) * 256 + b.toNat := by rw [B0' hb, M0']
  have g1 : (o + j * 1) < (rowV encB l).length := by rw [BS']; omega
  have g2 : (rowV encB l).getD (o + j * 1) AV.undef = byv b := by
   have := U2' l (o + j) ω AV.undef
   rw [show 0 + (o + j) * 1 = o + j * 1 by omega] at this
   rw [this, hbl]
  have g3 : (rowV encB l).getD (o + j * 1) AV.undef = AV.v (Value.int IntKind.u8 (b.toNat : Int)) := g2
  refine ⟨[], hRn j (val ((l.drop o).take j) * 256 + b.toNat) b, [], fun F hF => noC, fun _ _ => noL, fun F => ?_⟩
  refine Yj (UB' o j (val ((l.drop o).take j)) (val ((l.drop o).take j) * 256 + b.toNat) cp l b F) ⟨⟨?_, rfl, .inl ⟨rfl, ⟨j + 1, h1⟩, by simp only; omega, [], by kernel_rfl, by kernel_rfl, ⟨by rw [hnx]; exact Ya, Ya, Ya, Ya, Ye⟩, ⟨_, rfl, OW.of_eq (KA' _ _).symm⟩, Ye⟩⟩⟩
  exact Cc3'
 ·have hje : j = 4 := ω
  subst hje
  refine ⟨[], A6' [hf' fRn 2 0], [], fun _ _ => noC, fun _ _ => noL, fun F => ?_⟩
  refine Yj (UC' o (val ((l.drop o).take 4)) cp l F) ⟨⟨?_, rfl, .inr ⟨rfl, [], by kernel_rfl, by kernel_rfl, ⟨Ya, Ye⟩, ⟨_, rfl, OW.of_eq (KA' _ _).symm⟩, Ye⟩⟩⟩
  simp only [ch', and_true]; exact A2' rfl
theorem fP' (l : Bs) (o m : Nat) (hm : rdv l o = m) (F : HP) : L1OK Θ F (A3' fRn 2) (lRj l o m) :=
 BV' (W := default) AZ' ZC' (fun q hq => by
  obtain ⟨k, o2, cp⟩ := q; obtain ⟨rfl, hq⟩ := hq; have := rg_tri l o2 cp hq; rw [show val (List.take 4 (List.drop o2 l)) = m from hm] at this
  exact this) fun q => by
   simp only [RT.pick]; exact BD' rfl rfl (A0' Ye (A0' rfl (A0' Ye (A0' Ye A1')))) (A0' (AR' _ _) A1') (A0' Ye A1') (A0' (AR' _ _) A1')
theorem YQ' {k o n o2 n2 : Nat} {w bi : Int} (h1 : o = o2) (h2 : n = n2) : OW (.cells [.slice k o n 1 (.lo n), u8V w, iv bi, iv 0] tRr) (rdC k o2 n2 w bi) := by subst h1 h2; exact Yc
theorem NR' {K : Nat -> Bool} {k o n : Nat} {w bi : Int} (h : K k = true) : (rdC k o n w bi).cl K := ⟨h, Ye, Ye, Ye, Ye⟩
theorem bt_tri (l : Bs) (o n : Nat) (w : Int) (d : Bool) (hb : l[o]? = some (bitB d)) (ho : o + n = l.length) (hl : l.length <= 140737488351232) :
  Tri Θ default fRb [.ptr 0 0] [(0, rdC 1 o n w 0), (1, rB l)] (bv d) [(0, rdC 1 (o + 1) (n - 1) 0 7), (1, rB l)] := by
 have hlt := (List.getElem?_eq_some_iff.1 hb).1
 have hn : 1 <= n := ω
 have hbl : l.getD o 0 = bitB d := by rw [List.getD, hb]; rfl
 have g2 : (rowV encB l).getD (o + 0 * 1) AV.undef = byv (bitB d) := by
  have := U2' l o hlt AV.undef
  rw [show 0 + o * 1 = o + 0 * 1 by omega] at this
  rw [this, hbl]
 have g3 : (rowV encB l).getD o AV.undef = byv (bitB d) := by rw [<- g2]; simp
 have g1 : o < (rowV encB l).length := by rw [BS']; exact hlt
 have e2 : decide ((1 : Int) > ((n : Nat) : Int)) = false := decide_eq_false ω; have e3 : Wk (.v (.bool (decide (o' 1 > ((n : Nat) : Int))))) (.lit false) := A2' e2; have k1 : Nat.ble 1 n = true := AL' hn; have k2 : n.ble n = true := AL' (Yd); have g5 : (rowV encB l).getD o AV.undef = AV.v (Value.int IntKind.u8 ((bitB d).toNat : Int)) := g3
 refine AF' (con := []) (hints := A6' (hTk ++ [hf' fRb 1 4, ht' fRb 3 4, hf' fRb 5 1, (fRb, 7, 4, hv (byv (bitB d))), (fRb, 8, 5, hv (bv d)), (fRb, 9, 4, hv (u8V 0)), (fRb, 10, 4, hv (iv 7))])) (lc := []) [0, 1] χ (fun _ _ => noC) (fun _ _ => noL) fun F => ?_
 refine Yj (oBt_eq l o n w (bitB d) d F) ⟨⟨?_, (AO' (vs' := [bv d]) (H' := [(0, rdC 1 (o + 1) (n - 1) 0 7), (1, rB l)]) [] χ χ (Yb) ⟨⟨_, rfl, Yc⟩, ⟨_, rfl, AQ' rfl rfl⟩, Ye⟩).fits rfl⟩⟩
 simp only [ch', bl', k1, k2, g1, g5, true_and, and_true]; and_intros; all_goals first | (with_reducible assumption) | (with_reducible exact Ye) | (with_reducible exact rfl) | (with_reducible exact Ya) | exact A2' rfl | exact rfl | exact Ya | (cases d <;> exact wk_v rfl)
theorem ls_tri (l : Bs) (o n : Nat) (w bi : Int) (s : Δ) (ho : o + n = l.length) (hn : 4 + s.size <= n) (hm : rdv l o = s.size) (hs : rdt l o = s) (hl : l.length <= 140737488351232) :
  Tri Θ default fRl [.ptr 0 0] [(0, rdC 1 o n w bi), (1, rB l)] (sv s) [(0, rdC 1 (o + 4 + s.size) (n - 4 - s.size) w 0), (1, rB l)] := by
 have q := fun F => fP' l o s.size hm F
 have k1 : Nat.ble 4 n = true := AL' ω; have k2 : n.ble n = true := AL' (Yd); have k3 : s.size.ble s.size = true := AL' (Yd); have k4 : s.size.ble (n - 4) = true := AL' ω; have k5 : (n - 4).ble (n - 4) = true := AL' (Yd); have e1 : Wk (.v (.bool (decide (o' 4 > ((n : Nat) : Int))))) (.lit false) := A2' (decide_eq_false (by simp only [Z0]; omega)); have e2 : Wk (.v (.bool (decide (o' s.size > ((n - 4 : Nat) : Int))))) (.lit false) := A2' (decide_eq_false (by simp only [Z0]; omega))
 have e3 : o = o /\ o + 4 <= l.length := ⟨rfl, by omega⟩
 have e4 : o + 4 + 0 + s.size <= (rowV encB l).length /\ List.take s.size (List.drop (o + 4 + 0) (rowV encB l)) = vmap (List.map (fun b => Value.int .u8 ((b.toNat : Nat) : Int)) s.data.toList) := by
  refine ⟨by rw [BS']; omega, ?_⟩; have h1 := K5' (k := 1) JR' l (o + 4); have h2 := NP' (k := 1) JR' (l.drop (o + 4)) s.size; rw [Nat.mul_one] at h1 h2; rw [Nat.add_zero, h1, h2, CX']; rw [rdt, hm] at hs
  have h3 : s.data.toList = List.take s.size (List.drop (o + 4) l) := by
   conv => lhs; rw [<- hs]
   rfl
  rw [h3]
 have o1 : AV.rens (nmR 1) (rowV encB l) = rowV encB l := A5' _ _
 refine AF' (con := []) (hints := A6' (hTk ++ [hf' fTx 3 4, hf' fTx 5 6, (fTx, 8, 3, ht s)])) (lc := [(fRn, 2, A3' fRn 2, lRj l o s.size)]) [0, 1, 1100, 1101, 1102] χ (fun _ _ => noC) (fun F _ => C2' (q F)) fun F => ?_
 clear q
 refine Yj (oLs_eq l o n s.size w bi s F) ⟨⟨?_, (AO' (vs' := [sv s]) (H' := [(0, rdC 1 (o + 4 + s.size) (n - 4 - s.size) w 0), (1, rB l)]) [] χ χ (Yb) ⟨⟨_, rfl, by rw [Nat.mul_one]; exact Yc⟩, ⟨_, rfl, AQ' (A5' _ _) rfl⟩, Ye⟩).fits rfl⟩⟩
 simp only [ch', bl', k1, k2, k3, k4, k5, A5', true_and, and_true]; and_intros; all_goals first | (with_reducible assumption) | (with_reducible exact Ye) | (with_reducible exact rfl) | (with_reducible exact Ya) | exact e4.1 | exact e4.2 | exact e3.2 | exact A2' rfl | exact rfl | exact Kc0'
theorem dc_tri : Tri Θ default fDc [nilS] [] (.tuple [nilS, bv true]) [] := by
 refine AF' (con := []) (hints := A6' [hf' fDc 2 2]) (lc := []) [] rfl (fun _ _ => noC) (fun _ _ => noL) fun F => ?_
 refine Yj (eP' F) ⟨fun _ => ⟨?_, (AO' (vs' := [.tuple [nilS, bv true]]) (H' := []) [] rfl rfl (Yb) trivial).fits rfl⟩, fun h => by cases h⟩
 simp only [ch', true_and, and_true]; exact A2' rfl
theorem ZR' (F : HP) : C1OK Θ F fDc cDc :=
 AU' (W := default) AZ' (fun _ => .tuple [nilS, bv true]) (fun _ => RO.ret _) (fun _ => rfl) (fun _ _ => dc_tri) fun _ => ⟨rfl, rfl, ⟨Ye, Ye⟩, A1', ⟨⟨Ye, Ye, Ye⟩, Ye⟩, A1'⟩
theorem bA' (D : AO) (hD : ∀ σ, D.ren σ = D) (sz : Int) :
  LTri Θ default (A3' fCo 6) (tms 0 52 (aOc 0)) (oOc D sz) (.exit 0) (tms 0 52 [(7, .ptr 0 0)]) (oOc D sz) := by
 refine B6' (W := default) (g := fCo) (b := A3' fCo 6) (σ := Bool) 52 (fun i => aOc (match i with | true => 1 | false => 0)) (fun _ => oOc D sz) (.exit 0) [(7, .ptr 0 0)] (oOc D sz) (fun i => match i with | true => 0 | false => 1) kOc ixOc (by intro h; cases h) (fun i => χ) χ ?_ false; intro i
 cases i with
 | false =>
  refine ⟨[(fDc, cDc)], A6' [ht' fCo 6 0, (fCo, 7, 1, hv nilS), hf' fCo 9 1, hf' fCo 12 0, (fCo, 16, 0, hv (iv 1))], [], fun F _ => BJ' (ZR' F), fun _ _ => noL, fun F => ?_⟩
  refine Yj (dN' D sz F) ⟨⟨?_, rfl, .inl ⟨rfl, true, by decide, [(1050, 1050)], by kernel_rfl, by kernel_rfl, ⟨Ya, Ya, Ya, Ya, Ye⟩, ⟨_, rfl, Yc⟩, ⟨_, rfl, Yc⟩, ⟨_, rfl, OW.of_eq (hD _).symm⟩, ⟨_, rfl, Yc⟩, ⟨_, rfl, Yc⟩, Ye⟩⟩⟩
  simp only [ch', true_and, and_true]; and_intros; all_goals first | exact A2' rfl | exact Ya | exact Yb | exact rfl
 | true =>
  refine ⟨[], A6' [hf' fCo 6 0], [], fun _ _ => noC, fun _ _ => noL, fun F => ?_⟩
  refine Yj (dP' D sz F) ⟨⟨?_, rfl, .inr ⟨rfl, [(1050, 1050)], by kernel_rfl, by kernel_rfl, ⟨Ya, Ye⟩, ⟨_, rfl, Yc⟩, ⟨_, rfl, Yc⟩, ⟨_, rfl, OW.of_eq (hD _).symm⟩, ⟨_, rfl, Yc⟩, ⟨_, rfl, Yc⟩, Ye⟩⟩⟩
  simp only [ch', and_true]; exact A2' rfl
theorem gOc_ro : ∀ tms, RO (gOc tms) := fun tms => by
 unfold gOc; split
 ·refine RO.read _ _ fun o => ?_
  split
  ·refine RO.read _ _ fun o => ?_
   split <;> first | exact RO.ret _ | exact RO.fail _
  ·exact RO.fail _
 ·exact RO.fail _
theorem YW' {K : Nat -> Bool} {D : AO} (h1 : K 1 = true) (h2 : K 2 = true) (h3 : K 3 = true) (hD : D.cl K) : ∀ x ∈ oOc D sz, x.2.cl K := A0' ⟨h1, h3, Ye, Ye⟩ (A0' ⟨h2, Ye, Ye, Ye, Ye⟩ (A0' hD (A0' (DL' _ _ _) (A0' ⟨Ye, Ye⟩ A1'))))
theorem lOc_ok (D : AO) (hD : ∀ σ, D.ren σ = D) (cD : ∀ K, D.cl K) (sz : Int) (F : HP) : L1OK Θ F (A3' fCo 6) (lOc D sz) :=
 BV' (W := default) AZ' (fun _ => gOc_ro _) (fun _ _ => bA' D hD sz) fun _ => by
  simp only [RT.pick]; exact BD' rfl rfl (A0' rfl (A0' rfl (A0' Ye (A0' Ye A1')))) (YW' rfl rfl rfl (cD _)) (A0' rfl A1') (YW' rfl rfl rfl (cD _))
theorem h7' (F : HP) : C1OK Θ F fDo (cDoZ dZ) :=
 AU' (W := default) AZ' (fun _ => .tuple [.ptr 1000 0, iv 0]) (fun _ => RO.ret _) (fun _ => rfl) (fun _ _ => do_z) fun _ => ⟨rfl, rfl, ⟨Ye, Ye, Ye⟩, A1', ⟨⟨rfl, Ye, Ye⟩, Ye⟩, A0' Ye A1'⟩
theorem gP' (hN : LN W) (F : HP) (hF : AH' W F) : C1OK Θ F fWo (cWoZ (o' (cat [[]]).length) (dO [[]] []) dZ) :=
 AU' hF (fun _ => .tuple [.ptr 1020 0, .slice 1021 0 1 1 (.lo 1), iv 0]) (fun args => by split <;> first | exact RO.ret _ | exact RO.fail _) (fun _ => rfl) (fun _ _ => wo_z W hN) fun _ => ⟨rfl, rfl, ⟨rfl, Ye, Ye⟩, A0' Ye A1', ⟨⟨rfl, rfl, Ye, Ye⟩, Ye⟩, A0' Ye (A0' ⟨rfl, Ye, Ye, Ye, Ye⟩ (A0' ⟨Ye, Ye⟩ A1'))⟩
theorem od_run (W : World) (D : AO) (sz : Int) (hD : ∀ σ, D.ren σ = D) (q : ∀ F, AH' W F -> ∀ x ∈ [(fDo, cDoZ dZ), (fWo, cWoZ sz D dZ), (fDc, cDc)], C1OK Θ F x.1 x.2) (ql : ∀ F, L1OK Θ F (A3' fCo 6) (lOc D sz)) :
  Tri Θ W fOd [] [] (.tuple [.ptr 1002 0, .ptr 1000 0]) [(1000, ctO (.ptr 1001 0) 1003 0), (1001, lgD 1002 sz), (1002, D), (1003, mO [] 0)] := by
 refine AF' (con := [(fDo, cDoZ dZ), (fWo, cWoZ sz D dZ), (fDc, cDc)]) (hints := A6' [hf' fOd 2 1, hf' fOd 5 1, hf' fCo 2 1]) (lc := [(fCo, 6, A3' fCo 6, lOc D sz)]) kOd χ q (fun F _ => C2' (ql F)) fun F => ?_
 clear q ql
 refine Yj (oOd_eq W D dZ sz F) ⟨⟨?_, (AO' (vs' := [.tuple [.ptr 1002 0, .ptr 1000 0]]) (H' := [(1000, ctO (.ptr 1001 0) 1003 0), (1001, lgD 1002 sz), (1002, D), (1003, mO [] 0)]) [(1000, 1104), (1001, 1101), (1002, 1100), (1003, 1103)] χ χ (Yb) ⟨⟨_, rfl, Yc⟩, ⟨_, rfl, Yc⟩, ⟨_, rfl, by rw [hD, hD]; exact Yc⟩, ⟨_, rfl, Yc⟩, Ye⟩).fits rfl⟩⟩
 simp only [ch', true_and, and_true, hD]; and_intros; all_goals first | (with_reducible exact Ye) | (with_reducible exact rfl) | (with_reducible exact Ya) | (with_reducible exact Yb) | (with_reducible exact Yc) | exact A2' rfl | exact rfl | exact Ya | exact Kc0'
theorem od_tri (W : World) (hN : LN W) : Tri Θ W fOd [] [] (.tuple [.ptr 1002 0, .ptr 1000 0]) [(1000, ctO (.ptr 1001 0) 1003 0), (1001, lgD 1002 (o' (cat [[]]).length)), (1002, dO [[]] []), (1003, mO [] 0)] :=
 od_run W (dO [[]] []) (o' (cat [[]]).length) (fun _ => rfl) (fun F hF => AC' (h7' F) (AC' (gP' hN F hF) (BJ' (ZR' F)))) (fun F => lOc_ok (dO [[]] []) (fun _ => rfl) (fun _ => trivial) _ F)
theorem ZD' : ∀ args, RO (gRd args) := fun args => by
 unfold gRd; split
 ·refine RO.read _ _ fun o => ?_
  split <;> first | exact RO.ret _ | exact RO.fail _
 ·exact RO.fail _
theorem cRb_ok (l : Bs) (hl : l.length <= 140737488351232) (d : Bool) (F : HP) : C1OK Θ F fRb (cRb l d) :=
 AU' (W := default) AZ' (fun p => bv d) ZD' (fun _ => rfl) (fun p hp => by
  obtain ⟨i, j, o, n, w, bi⟩ := p; obtain ⟨h1, h2, h3⟩ := hp; simp only at h1 h2 h3; subst h1
  exact bt_tri l o n w d h3 h2 hl) fun _ => ⟨rfl, rfl, ⟨rfl, Ye⟩, A0' (NR' rfl) (A0' (AR' _ _) A1'), ⟨Ye, Ye⟩, A0' (NR' rfl) (A0' (AR' _ _) A1')⟩
theorem cRl_ok (l : Bs) (hl : l.length <= 140737488351232) (k v : Δ) (F : HP) : C1OK Θ F fRl (cRl l k v) :=
 AU' (W := default) AZ' (fun p => sv (two p.bi k v)) ZD' (fun _ => rfl) (fun p hp => by
  obtain ⟨i, j, o, n, w, bi⟩ := p; obtain ⟨h1, h2, h3, h4⟩ := hp
  exact ls_tri l o n w bi (two bi k v) h1 h2 h3 h4 hl) fun _ => ⟨rfl, rfl, ⟨rfl, Ye⟩, A0' (NR' rfl) (A0' (AR' _ _) A1'), ⟨Ye, Ye⟩, A0' (NR' rfl) (A0' (AR' _ _) A1')⟩
theorem two7 (k v : Δ) : two (o' 7) k v = k := rfl
theorem two0 (k v : Δ) : two (o' 0) k v = v := rfl
def dcA (i : Nat) : List (Nat × AV) := match i with
 | 0 => aDc nilS
 | j + 1 => aDc (sC 1051 (j + 1))
def dcH (l : List Chg) (i : Nat) : LH := match i with
 | 0 => oDc (encL l) (encL (l.take 0)).length ((encL l).length - (encL (l.take 0)).length) 0
 | j + 1 => oDc (encL l) (encL (l.take (j + 1))).length ((encL l).length - (encL (l.take (j + 1))).length) 0 ++ [(1051, rC (l.take (j + 1)))]
theorem snoc_C {l : List Chg} {i : Nat} {x : Chg} (h : l[i]? = some x) : List.take (i * 3) (List.drop 0 (rowV chV (l.take i))) ++ [AV.v (.string x.k), AV.v (.string x.v), AV.v (.bool x.d)] = rowV chV (l.take (i + 1)) := by
 have hi := (List.getElem?_eq_some_iff.1 h).1; rw [B0' h, BY', List.drop_zero, List.take_of_length_le (by rw [BP' chV_len, List.length_take]; omega)]; rfl
theorem one_C {l : List Chg} {x : Chg} (h : l[0]? = some x) : [AV.v (.string x.k), AV.v (.string x.v), AV.v (.bool x.d)] = rowV chV (l.take 1) := by
 rw [B0' h]; rfl
theorem g9' (l : List Chg) (h0 : 0 < l.length) (hn : l.length <= 10000) (hs : szL l <= 500000) :
  LTri Θ default (A3' fDc 2) (tms 0 26 (aDc nilS)) (oDc (encL l) 0 (encL l).length 0) (.exit 0) (tms 0 26 [(2, sC 1051 l.length)]) [(1051, rC l)] := by
 have hel := GK' l
 have hbig : (encL l).length <= 140737488351232 := ω
 refine B6' (W := default) (g := fDc) (b := A3' fDc 2) (σ := {i : Nat // i <= l.length}) 26 (fun i => dcA i.1) (fun i => dcH l i.1) (.exit 0) [(2, sC 1051 l.length)] [(1051, rC l)] (fun i => l.length - i.1) kDc [2, 4] (by intro h; cases h) (fun i => by obtain ⟨_ | i, hi⟩ := i <;> rfl) χ ?_ ⟨0, Nat.zero_le _⟩; rintro ⟨i, hi⟩; simp only
 by_cases h1 : i < l.length
 ·obtain ⟨x, hx⟩ := AY' h1
  have hxz : szC x <= 500000 := by
   have := HM' l (i + 1); rw [B0' hx, JW', D8'] at this; omega
  rw [szC] at hxz; obtain ⟨b0, hlen, n1, k1, n2, v1⟩ := enc_at hx ω ω
  have hnx : (encL (l.take (i + 1))).length = (encL (l.take i)).length + 9 + x.k.size + x.v.size := by
   rw [B0' hx, KP', QA', szC]; omega
  have q1 := fun F => cRb_ok (encL l) hbig x.d F
  have q2 := fun F => cRl_ok (encL l) hbig x.k x.v F
  generalize hO : (encL (l.take i)).length = o at *
  have p1 : BtP (encL l) x.d ⟨0, 1, o, (encL l).length - o, 0, o' 0⟩ := ⟨rfl, by show o + ((encL l).length - o) = (encL l).length; omega, b0⟩
  have p2 : LsP (encL l) x.k ⟨0, 1, o + 1, (encL l).length - o - 1, o' 0, o' 7⟩ := ⟨by show o + 1 + ((encL l).length - o - 1) = (encL l).length; omega, by show 4 + x.k.size <= (encL l).length - o - 1; omega, n1, k1⟩
  have eo : o + 1 + 4 + x.k.size = o + 5 + x.k.size := ω
  have p3 : LsP (encL l) x.v ⟨0, 1, o + 1 + 4 + x.k.size, (encL l).length - o - 1 - 4 - x.k.size, o' 0, o' 0⟩ := ⟨by show o + 1 + 4 + x.k.size + ((encL l).length - o - 1 - 4 - x.k.size) = (encL l).length; omega, by show 4 + x.v.size <= (encL l).length - o - 1 - 4 - x.k.size; omega, by show rdv _ (o + 1 + 4 + x.k.size) = _; rw [eo]; exact n2, by show rdt _ (o + 1 + 4 + x.k.size) = _; rw [eo]; exact v1⟩
  have f1 : o + 1 + 4 + x.k.size + 4 + x.v.size = (encL (l.take (i + 1))).length := ω
  have f2 : (encL l).length - o - 1 - 4 - x.k.size - 4 - x.v.size = (encL l).length - (encL (l.take (i + 1))).length := ω
  have e1 : Wk (.v (.bool (decide ((((encL l).length - o : Nat) : Int) > o' 0)))) (.lit true) := A2' (decide_eq_true (by simp only [Z0]; omega))
  cases i with
  | zero =>
   have eH : dcH l 0 = oDc (encL l) o ((encL l).length - o) 0 := by rw [dcH, hO]
   refine ⟨[(fRb, cRb (encL l) x.d), (fRl, cRl (encL l) x.k x.v)], hDc, [], fun F _ => AC' (q1 F) (BJ' (q2 F)), fun _ _ => noL, fun F => ?_⟩
   rw [eH]; clear q1 q2
   refine Yj (eV' (encL l) o ((encL l).length - o) 0 x.k x.v x.d F) ⟨⟨?_, rfl, .inl ⟨rfl, ⟨1, h1⟩, B1' h1, [(1051, 1102)], by kernel_rfl, by kernel_rfl, ⟨Ya, Ya, Ye⟩, ⟨_, rfl, YQ' f1 f2⟩, ⟨_, rfl, AQ' (A5' _ _) rfl⟩, ⟨_, rfl, IH' (one_C hx) rfl⟩, Ye⟩⟩⟩
   simp only [ch', two7, two0, A5', true_and, and_true]; and_intros; all_goals exact Kc15'
  | succ i =>
   have eH : dcH l (i + 1) = oDc (encL l) o ((encL l).length - o) 0 ++ [(1051, rC (l.take (i + 1)))] := by rw [dcH, hO]
   have hV : (rowV chV (l.take (i + 1))).length = (i + 1) * 3 := by rw [BP' chV_len, List.length_take]; omega
   have r1 : (0 + (i + 1) * 3).ble (rowV chV (l.take (i + 1))).length = true := AL' ω; have r2 : ((i + 1 + 1) * 40).ble 140737488355328 = true := AL' ω; have r3 : (i + 1 + 1).ble 9223372036854775807 = true := AL' ω
   have r4 : (List.take ((i + 1) * 3) (List.drop 0 (rowV chV (l.take (i + 1))))).length.beq ((i + 1) * 3) = true := by
    rw [List.drop_zero, List.take_of_length_le ω, hV]; exact Nat.beq_refl _
   refine ⟨[(fRb, cRb (encL l) x.d), (fRl, cRl (encL l) x.k x.v)], hDc, [], fun F _ => AC' (q1 F) (BJ' (q2 F)), fun _ _ => noL, fun F => ?_⟩
   rw [eH]; clear q1 q2
   refine Yj (eU' (encL l) o ((encL l).length - o) (i + 1) 0 (l.take (i + 1)) x.k x.v x.d F) ⟨⟨?_, rfl, .inl ⟨rfl, ⟨i + 2, h1⟩, B1' h1, [(1051, 1102)], by kernel_rfl, by kernel_rfl, ⟨Ya, Ya, Ye⟩, ⟨_, rfl, YQ' f1 f2⟩, ⟨_, rfl, AQ' (A5' _ _) rfl⟩, ⟨_, rfl, IH' (snoc_C hx) rfl⟩, Ye⟩⟩⟩
   simp only [ch', two7, two0, A5', r1, r2, r3, r4, true_and, and_true]; and_intros; all_goals exact Kc15'
 ·have hie : i = l.length := ω
  obtain ⟨j, hj⟩ : ∃ j, l.length = j + 1 := ⟨l.length - 1, by omega⟩
  subst hie
  have eA : dcA l.length = aDc (sC 1051 l.length) := by rw [hj]; rfl
  have eH : dcH l l.length = oDc (encL l) (encL l).length 0 0 ++ [(1051, rC l)] := by
   have : dcH l l.length = oDc (encL l) (encL (l.take l.length)).length ((encL l).length - (encL (l.take l.length)).length) 0 ++ [(1051, rC (l.take l.length))] := by rw [hj]; rfl
   rw [this, List.take_length, Nat.sub_self]
  rw [eA, eH]
  refine ⟨[], A6' [hf' fDc 2 2], [], fun _ _ => noC, fun _ _ => noL, fun F => ?_⟩
  refine Yj (eT' (encL l) (encL l).length 0 l.length 0 l F) ⟨⟨?_, rfl, .inr ⟨rfl, [(1051, 1051)], by kernel_rfl, by kernel_rfl, ⟨Ya, Ye⟩, ⟨_, rfl, IH' rfl rfl⟩, Ye⟩⟩⟩
  simp only [ch', true_and, and_true]; and_intros; all_goals first | exact A2' rfl | exact rfl
theorem gDc_ro : ∀ tms, RO (gDc tms) := fun tms => by
 unfold gDc; split
 ·refine RO.read _ _ fun o => ?_
  split <;> first | exact RO.ret _ | exact RO.fail _
 ·exact RO.fail _
theorem lDc_ok (l : List Chg) (h0 : 0 < l.length) (hn : l.length <= 10000) (hs : szL l <= 500000) (F : HP) : L1OK Θ F (A3' fDc 2) (lDc (encL l) (encL l).length l.length l) :=
 BV' (W := default) AZ' (fun _ => gDc_ro _) (fun _ _ => g9' l h0 hn hs) fun _ => by
  simp only [RT.pick]; exact BD' rfl rfl (A0' Ye (A0' rfl A1')) (A0' (NR' rfl) (A0' (AR' _ _) A1')) (A0' rfl A1') (A0' (K9' _ _) A1')
theorem hB' {a : Addr} {l : Bs} (h : BAt W.cell? (some a) l) (hp : 0 < l.length) (F : HP) (hF : AH' W F) : C1OK Θ F fCl (cClW a l.length c l) :=
 AU' hF (fun _ => sB 1000 l.length) (fun _ => RO.ret _) (fun _ => rfl) (fun _ _ => RU' W (some a) c l h hp) fun _ => ⟨rfl, rfl, ⟨Ye, Ye⟩, A1', ⟨rfl, Ye⟩, A0' (AR' _ _) A1'⟩
theorem gC' (W : World) (oa : Option Addr) (c : Nat) (l : List Chg) (h : BAt W.cell? oa (encL l)) (hl : l ≠ []) (hn : l.length <= 10000) (hs : szL l <= 500000) :
  Tri Θ W fDc [slV oa (encL l).length c] [] (.tuple [sC 1000 l.length, bv true]) [(1000, rC l)] := by
 have hp : 0 < l.length := List.length_pos_iff.2 hl; have he : 0 < (encL l).length := List.length_pos_iff.2 (Q9' hl); obtain ⟨b, hb⟩ := AY' he; obtain ⟨a, rfl, _⟩ := h.2 0 b hb
 have q1 := fun F hF => hB' (c := c) h he F hF
 have q2 := fun F => lDc_ok l hp hn hs F
 generalize encL l = e at *
 refine AF' (con := [(fCl, cClW a e.length c e)]) (hints := BA') (lc := [(fDc, 2, A3' fDc 2, lDc e e.length l.length l)]) [1100, 1101, 1102, 1103] χ (fun F hF => BJ' (q1 F hF)) (fun F _ => C2' (q2 F)) fun F => ?_
 clear q1 q2; refine Yj (eS' W a e.length c l.length e l F) ⟨⟨?_, (AO' (vs' := [.tuple [sC 1000 l.length, bv true]]) (H' := [(1000, rC l)]) [(1000, 1102)] χ χ (Yb) ⟨⟨_, rfl, IH' (A5' _ _) rfl⟩, Ye⟩).fits rfl⟩⟩
 simp only [ch', A5', true_and, and_true]; and_intros; all_goals exact Kc19'
theorem gD' (W : World) (oa : Option Addr) (c : Nat) : Tri Θ W fDc [slV oa 0 c] [] (.tuple [nilS, bv true]) [] := by
 cases oa with
 | none =>
  refine AF' (con := []) (hints := A6' [ht' fCl 1 1, hf' fDc 2 2]) (lc := []) [] χ (fun _ _ => noC) (fun _ _ => noL) fun F => ?_
  refine Yj (eR' W c F) ⟨⟨?_, (AO' (vs' := [.tuple [nilS, bv true]]) (H' := []) [] rfl rfl (Yb) trivial).fits rfl⟩⟩; simp only [ch', true_and, and_true]; and_intros
  all_goals exact A2' rfl
 | some a =>
  refine AF' (con := []) (hints := A6' [hf' fCl 1 1, (fCl, 3, 2, h0), hf' fDc 2 2]) (lc := []) [] χ (fun _ _ => noC) (fun _ _ => noL) fun F => ?_
  refine Yj (eQ' W a c F) ⟨⟨?_, (AO' (vs' := [.tuple [nilS, bv true]]) (H' := []) [] rfl rfl (Yb) trivial).fits rfl⟩⟩; simp only [ch', true_and, and_true]; and_intros
  all_goals exact A2' rfl
theorem RQ' {K : Nat -> Bool} {m : KM} (h : K 1 = true) : ∀ x ∈ ctY b m c, x.2.cl K := A0' ⟨Ye, h, Ye, Ye⟩ (A0' (DL' _ _ _) A1')
theorem YO' (K : Nat -> Bool) (V : List Value) : (rwO V).cl K := C1' _ _
theorem R7' {x : List AV} {V : List Value} {σ : Nat -> Nat} (h : x = vmap V) : OW (.cells x tRb) ((rwO V).ren σ) := by subst h; exact OW.of_eq (by show _ = AO.cells _ _; rw [AS'])
theorem hM' (n i0 : Nat) (V : List Value) (s : St) (h : s.OK) (l : List Chg) (hl : l.length <= 1048576) (hb : s.b + szL l <= C8') :
  LTri Θ default (A3' fCo 12) (tms 0 52 (aAp n i0 l.length 0)) (oAp (o' s.b) s.m s.c V l) (.exit 2) (tms 0 52 (aOr n i0)) ((0, rwO V) :: ctY (o' (apL s l).b) (apL s l).m (apL s l).c) := by
 refine B6' (W := default) (g := fCo) (b := A3' fCo 12) (σ := {i : Nat // i <= l.length}) 52 (fun i => aAp n i0 l.length i.1) (fun i => oAp (o' (lpS s l i.1).b) (lpS s l i.1).m (lpS s l i.1).c V l) (.exit 2) (aOr n i0) ((0, rwO V) :: ctY (o' (apL s l).b) (apL s l).m (apL s l).c) (fun i => l.length - i.1) kAp2 ixAp (by intro h; cases h) (fun i => χ) χ ?_ ⟨0, Nat.zero_le _⟩; rintro ⟨i, hi⟩; simp only
 by_cases h1 : i < l.length
 ·obtain ⟨x, hx⟩ := AY' h1
  have hsn : lpS s l (i + 1) = ap1 (lpS s l i) x := by rw [lpS, lpS, B0' hx, apL, List.foldl_append]; rfl
  have hok : (lpS s l i).OK := P3' h _
  have hle : (lpS s l i).b + szC x <= C8' := by
   have q1 := (S5' h (l.take i)).1; have q2 := HM' l (i + 1); rw [B0' hx, JW', D8'] at q2; rw [lpS]; omega
  have hld : List.take 3 (List.drop (0 + i * 3) (rowV chV l)) = vmap (chV x) := by
   have := M7' chV_len [] l x i h1; rw [List.length_nil, Nat.zero_mul, List.nil_append] at this; rw [this]; simp [List.getD, hx]
  have e1 : Wk (.v (.bool (decide (o' i < o' l.length)))) (.lit true) := A2' (ltTN h1); have e3 : Wk (.v (.int .i64 (IntKind.i64.wrap (o' i + o' 1)))) (.v (.int .i64 (o' (i + 1)))) := C6' (B8' i ω)
  have q := fun F => ZT' hok x hle F
  rw [<- hsn] at q; obtain ⟨k, v, d⟩ := x
  generalize hn1 : lpS s l i = t at *
  generalize hn2 : lpS s l (i + 1) = u at *
  refine ⟨[(fAy, cAy k v d (o' t.b) t.m t.c (o' u.b) u.m u.c)], A6' [ht' fCo 12 0, (fCo, 13, 1, hv (.agg [sv k, sv v, bv d])), (fCo, 15, 0, hv (iv (o' (i + 1))))], [], fun F _ => BJ' (q F), fun _ _ => noL, fun F => ?_⟩
  refine Yj (fC' n i0 l.length i V l k v d (o' t.b) (o' u.b) t.m u.m t.c u.c F) ⟨⟨?_, rfl, .inl ⟨rfl, ⟨i + 1, h1⟩, B1' h1, [(1051, 1051)], by kernel_rfl, by kernel_rfl, ⟨Ya, Ya, Ya, Ya, Ya, Ya, Ya, Ye⟩, ⟨_, rfl, R7' rfl⟩, ⟨_, rfl, by simp only [hn2]; exact Yc⟩, ⟨_, rfl, by simp only [hn2]; exact BT' (BQ' _ _) rfl⟩, ⟨_, rfl, IH' rfl rfl⟩, Ye⟩⟩⟩
  simp only [ch', bl', hld, true_and, and_true, BQ']; and_intros; all_goals first | (with_reducible assumption) | (with_reducible exact Ye) | (with_reducible exact rfl) | (with_reducible exact Ya) | (with_reducible exact Yb) | (with_reducible exact Yc) | exact rfl | exact Ya | exact Yb | exact Yc
 ·have hie : i = l.length := ω
  subst hie
  have hE : lpS s l l.length = apL s l := by rw [lpS, List.take_length]
  rw [hE]
  refine ⟨[], A6' [hf' fCo 12 0], [], fun _ _ => noC, fun _ _ => noL, fun F => ?_⟩
  refine Yj (fD' n i0 l.length l.length V l (o' (apL s l).b) (apL s l).m (apL s l).c F) ⟨⟨?_, rfl, .inr ⟨rfl, [], by kernel_rfl, by kernel_rfl, ⟨Ya, Ya, Ya, Ya, Ye⟩, ⟨_, rfl, R7' rfl⟩, ⟨_, rfl, Yc⟩, ⟨_, rfl, BT' rfl rfl⟩, Ye⟩⟩⟩
  simp only [ch', and_true]; exact A2' (ltFN (Yd))
theorem g3' : ∀ tms, RO (gApL tms) := fun tms => by
 unfold gApL; split
 ·refine RO.read _ _ fun o => ?_
  split <;> first | exact RO.ret _ | exact RO.fail _
 ·exact RO.fail _
theorem lAp_ok (n i0 : Nat) (V : List Value) (s : St) (h : s.OK) (l : List Chg) (hl : l.length <= 1048576) (hb : s.b + szL l <= C8') (F : HP) : L1OK Θ F (A3' fCo 12) (lAp n i0 l.length V l (o' s.b) (o' (apL s l).b) s.m (apL s l).m s.c (apL s l).c) :=
 BV' (W := default) AZ' (fun _ => g3' _) (fun _ _ => hM' n i0 V s h l hl hb) fun _ => by
  simp only [RT.pick]; exact BD' rfl rfl (A0' rfl (A0' rfl (A0' Ye (A0' Ye (A0' rfl (A0' Ye (A0' Ye A1'))))))) (A0' (YO' _ _) (CG' (RQ' rfl) (A0' (K9' _ _) A1'))) (A0' rfl (A0' rfl (A0' Ye (A0' Ye A1')))) (A0' (YO' _ _) (RQ' rfl))
theorem gB' {r : List Rs} {x : Rs} (hx : x ∈ r) {l : List Chg} (hd : x.d = encL l) (hl : l ≠ []) (hn : l.length <= 10000) (hs : szL l <= 500000) :
  Tri Θ default fDc [slV x.a x.d.length x.c] [(1009, .any (frz (PB r)))] (.tuple [sC 1000 l.length, bv true]) [(1000, rC l), (1009, .any (frz (PB r)))] :=
 TN' (P := Θ) (W := default) (f := fDc) (A := [slV x.a x.d.length x.c]) (H1 := []) (H1' := [(1000, rC l)]) (v := .tuple [sC 1000 l.length, bv true]) (PR := PB r) 1009 δ rfl rfl rfl χ ⟨Ye, Ye⟩ A1' (fun C C' h hP => hP.mono h)
  fun W' _ hP => by
   have h := (hP x hx).at'; rw [hd] at h ⊢; exact gC' W' x.a x.c l h hl hn hs
theorem gA' {r : List Rs} {x : Rs} (hd : x.d = []) : Tri Θ default fDc [slV x.a x.d.length x.c] [] (.tuple [nilS, bv true]) [] := by
 rw [hd]; exact gD' default x.a x.c
def rpS (Ls : List (List Chg)) (i : Nat) : St := rp (Ls.take i)
theorem rp_ok (Ls : List (List Chg)) : (rp Ls).OK := by
 rw [rp]
 have : ∀ (Ls : List (List Chg)) (s : St), s.OK -> (Ls.foldl apL s).OK := fun Ls => by
  induction Ls with
  | nil => exact fun s h => h
  | cons l Ls ih => exact fun s h => ih _ (P3' h l)
 exact this Ls s0 aN'
theorem rp_b {Ls : List (List Chg)} (h : ∀ l ∈ Ls, szL l <= 500000) : (rp Ls).b <= Ls.length * 500000 := by
 have : ∀ (Ls : List (List Chg)) (s : St), s.OK -> (∀ l ∈ Ls, szL l <= 500000) -> (Ls.foldl apL s).b <= s.b + Ls.length * 500000 := fun Ls => by
  induction Ls with
  | nil => exact fun s _ _ => Nat.le_add_right _ _
  | cons l Ls ih =>
   intro s hs hz; have h1 := (S5' hs l).1; have h2 := hz l List.mem_cons_self
   have h3 := ih (apL s l) (P3' hs l) fun x hx => hz x (List.mem_cons_of_mem _ hx)
   rw [List.foldl_cons, List.length_cons]; omega
 have := this Ls s0 aN' h; have z : s0.b = 0 := rfl; rw [rp]; omega
theorem b5' (Ls : List (List Chg)) (hR : L1' Ls) (hn : Ls.length <= 1000000) (r : List Rs) (hr : r.map (·.d) = Ls.map encL) :
  LTri Θ default (A3' fCo 6) (tms 0 52 (aOr Ls.length 0)) (oOr 0 [] 0 (rwV r) (PB r)) (.exit 0) (tms 0 52 [(7, .ptr 3 0)]) (ctY (o' (rp Ls).b) (rp Ls).m (rp Ls).c) := by
 have hmb : C8' = 1000000000000 := rfl; refine B6' (W := default) (g := fCo) (b := A3' fCo 6) (σ := {i : Nat // i <= Ls.length}) 52 (fun i => aOr Ls.length i.1) (fun i => oOr (o' (rpS Ls i.1).b) (rpS Ls i.1).m (rpS Ls i.1).c (rwV r) (PB r)) (.exit 0) [(7, .ptr 3 0)] (ctY (o' (rp Ls).b) (rp Ls).m (rp Ls).c) (fun i => Ls.length - i.1) kOr ixOr (by intro h; cases h) (fun i => χ) χ ?_ ⟨0, Nat.zero_le _⟩; rintro ⟨i, hi⟩; simp only
 by_cases h1 : i < Ls.length
 ·obtain ⟨l, hl⟩ := AY' h1
  have hrl : r.length = Ls.length := by have := congrArg List.length hr; simpa using this
  obtain ⟨x, hx⟩ := AY' (l := r) (i := i) ω; have hxm := List.mem_of_getElem? hx
  have hxd : x.d = encL l := by
   have := congrArg (fun z : List Bs => z[i]?) hr; simp only [List.getElem?_map, hx, hl, Option.map_some, Option.some.injEq] at this; exact this
  obtain ⟨hz1, hz2⟩ := hR l (List.mem_of_getElem? hl)
  have hsn : rpS Ls (i + 1) = apL (rpS Ls i) l := by rw [rpS, rpS, B0' hl, rp, List.foldl_append]; rfl
  have hok : (rpS Ls i).OK := rp_ok _
  have hbb : (rpS Ls i).b <= i * 500000 := by
   have := rp_b (Ls := Ls.take i) (fun y hy => (hR y (List.mem_of_mem_take hy)).2); rw [List.length_take, Nat.min_eq_left hi] at this; exact this
  have hvx : (rwV r)[i]? = some x.val := by rw [rwV, List.getElem?_map, hx]; rfl
  have e1 : Wk (.v (.bool (decide (o' i < o' Ls.length)))) (.lit true) := A2' (ltTN h1); have e3 : Wk (.v (.int .i64 (IntKind.i64.wrap (o' i + o' 1)))) (.v (.int .i64 (o' (i + 1)))) := C6' (B8' i ω)
  have hlt : i.blt Ls.length = true := by rw [bl']; exact h1
  have e4 : (0 + i * 1).blt (vmap (rwV r)).length = true := by
   obtain ⟨hh, _⟩ := List.getElem?_eq_some_iff.1 hvx; rw [Nat.mul_one, Nat.zero_add, bl', CW']; exact hh
  have e5 : (vmap (rwV r)).getD (0 + i * 1) AV.undef = .v x.val := by
   rw [Nat.mul_one, Nat.zero_add]; simp [vmap, List.getD, hvx]
  by_cases hle : l = []
  ·subst hle; have hsz : rpS Ls (i + 1) = rpS Ls i := hsn; have hxe : x.d = [] := hxd
   have q := fun F => (AU' (W := default) (f := fDc) (F := F) AZ' (π := Unit) (get := fun _ => .ret ()) (pre := fun _ => True) (nm := fun _ i => i) (A := fun _ => [slV x.a x.d.length x.c]) (H := fun _ => []) (rt := fun _ => .leaf .ret [.tuple [nilS, bv true]] []) (fun _ => .tuple [nilS, bv true]) (fun _ => RO.ret _) (fun _ => rfl) (fun _ _ => gA' (r := r) hxe) fun _ => ⟨rfl, rfl, ⟨Ye, Ye⟩, A1', ⟨⟨Ye, Ye, Ye⟩, Ye⟩, A1'⟩ : C1OK Θ F fDc (cDcZ x.a x.d.length x.c))
   clear hr hR hx hxm hxd hl hbb hrl hsn
   generalize hs1 : rpS Ls i = t at *
   generalize hs2 : rpS Ls (i + 1) = u at *
   subst hsz
   refine ⟨[(fDc, cDcZ x.a x.d.length x.c)], A6' (hOr x.a x.d.length x.c i ++ [hf' fCo 12 0]), [], fun F _ => BJ' (q F), fun _ _ => noL, fun F => ?_⟩
   refine Yj (dK' x.a x.d.length x.c Ls.length i (rwV r) (PB r) (o' u.b) u.m u.c F) ⟨⟨?_, rfl, .inl ⟨rfl, ⟨i + 1, h1⟩, B1' h1, [(1009, 1009)], by kernel_rfl, by kernel_rfl, ⟨Ya, Ya, Ya, Ya, Ye⟩, ⟨_, rfl, R7' rfl⟩, ⟨_, rfl, Yc⟩, ⟨_, rfl, by simp only [hs2]; exact Yc⟩, ⟨_, rfl, by simp only [hs2]; exact BT' rfl rfl⟩, Ye⟩⟩⟩
   simp only [ch', hlt, e4, e5, Rs.val, true_and, and_true]; and_intros; all_goals first | (with_reducible assumption) | (with_reducible exact Ye) | (with_reducible exact rfl) | (with_reducible exact Ya) | (with_reducible exact Yb) | (with_reducible exact Yc) | exact Kc31'
  ·have q := fun F => (AU' (W := default) (f := fDc) (F := F) AZ' (π := Unit) (get := fun _ => .ret ()) (pre := fun _ => True) (nm := fun _ i => i) (A := fun _ => [slV x.a x.d.length x.c]) (H := fun _ => [(1009, .any (frz (PB r)))]) (rt := fun _ => .leaf .ret [.tuple [sC 1000 l.length, bv true]] [(1000, rC l), (1009, .any (frz (PB r)))]) (fun _ => .tuple [sC 1000 l.length, bv true]) (fun _ => RO.ret _) (fun _ => rfl) (fun _ _ => gB' hxm hxd hle hz1 hz2) fun _ => ⟨rfl, rfl, ⟨Ye, Ye⟩, A0' Ye A1', ⟨⟨rfl, Ye, Ye⟩, Ye⟩, A0' (K9' _ _) (A0' Ye A1')⟩ : C1OK Θ F fDc (cDcR x.a x.d.length x.c l.length l (PB r)))
   have ql := fun F => lAp_ok Ls.length i (rwV r) (rpS Ls i) hok l ω (by
    have : i * 500000 <= 1000000 * 500000 := Nat.mul_le_mul ω (Yd)
    omega) F
   rw [<- hsn] at ql; clear hr hR hx hxm hxd hl hbb hrl hok
   generalize hs1 : rpS Ls i = t at *
   generalize hs2 : rpS Ls (i + 1) = u at *
   clear hsn
   refine ⟨[(fDc, cDcR x.a x.d.length x.c l.length l (PB r))], A6' (hOr x.a x.d.length x.c i), [(fCo, 12, A3' fCo 12, lAp Ls.length i l.length (rwV r) l (o' t.b) (o' u.b) t.m u.m t.c u.c)], fun F _ => BJ' (q F), fun F _ => C2' (ql F), fun F => ?_⟩
   clear q ql
   refine Yj (dL' x.a x.d.length x.c l.length Ls.length i (rwV r) (PB r) l (o' t.b) (o' u.b) t.m u.m t.c u.c F) ⟨⟨?_, rfl, .inl ⟨rfl, ⟨i + 1, h1⟩, B1' h1, [(1009, 1101)], by kernel_rfl, by kernel_rfl, ⟨Ya, Ya, Ya, Ya, Ye⟩, ⟨_, rfl, R7' (AS' _ _)⟩, ⟨_, rfl, Yc⟩, ⟨_, rfl, by simp only [hs2]; exact Yc⟩, ⟨_, rfl, by simp only [hs2]; exact BT' (BQ' _ _) rfl⟩, Ye⟩⟩⟩
   simp only [ch', hlt, e4, e5, Rs.val, true_and, and_true, BQ', AS', A5']; and_intros; all_goals first | (with_reducible assumption) | (with_reducible exact Ye) | (with_reducible exact rfl) | (with_reducible exact Ya) | (with_reducible exact Yb) | (with_reducible exact Yc) | exact A2' rfl | exact Kc4'
 ·have hie : i = Ls.length := ω
  subst hie
  have hE : rpS Ls Ls.length = rp Ls := by rw [rpS, List.take_length]
  rw [hE]
  refine ⟨[], A6' [hf' fCo 6 0], [], fun _ _ => noC, fun _ _ => noL, fun F => ?_⟩
  refine Yj (dM' Ls.length Ls.length (rwV r) (PB r) (o' (rp Ls).b) (rp Ls).m (rp Ls).c F) ⟨⟨?_, rfl, .inr ⟨rfl, [], by kernel_rfl, by kernel_rfl, ⟨Ya, Ye⟩, ⟨_, rfl, Yc⟩, ⟨_, rfl, BT' rfl rfl⟩, Ye⟩⟩⟩
  simp only [ch', and_true]; exact A2' (ltFN (Yd))
theorem gOr_ro : ∀ tms, RO (gOr tms) := fun tms => by
 unfold gOr; split
 ·refine RO.read _ _ fun o => ?_
  split <;> first | exact RO.ret _ | exact RO.fail _
 ·exact RO.fail _
theorem lOr_ok (Ls : List (List Chg)) (hR : L1' Ls) (hn : Ls.length <= 1000000) (F : HP) : L1OK Θ F (A3' fCo 6) (lOr Ls.length (rbO (Ls.map encL)) (o' (rp Ls).b) (rp Ls).m (rp Ls).c) :=
 BV' (W := default) AZ' (fun _ => gOr_ro _) (fun _ _ => LTri.open (R := fun r : List Rs => r.map (·.d) = Ls.map encL) (L := rbL) (H0 := ctY 0 [] 0) (fun _ => χ) (fun r => A0' (C1' _ _) (A0' Ye A1')) (fun _ => ⟨_, rfl⟩) fun r hr => b5' Ls hR hn r hr) fun _ => by
  simp only [RT.pick]; exact BD' rfl rfl (A0' rfl (A0' rfl (A0' Ye (A0' Ye A1')))) (A0' Ye (RQ' rfl)) (A0' rfl A1') (RQ' rfl)
theorem gQ' (hN : LN W) (R : Bs) (Ls : List (List Chg)) (hz : R.length <= 1099511627776) (hw : AP' R = Ls.map encL) (hne : Ls ≠ []) (F : HP) (hF : AH' W F) : C1OK Θ F fWo (cWoF Ls.length (dF R) (rbO (Ls.map encL)) (lgX (cat (Ls.map encL)).length)) :=
 AU' hF (fun _ => .tuple [.ptr 1020 0, .slice 1016 0 Ls.length 1 (.lo Ls.length), iv 0]) (fun args => by split <;> first | exact RO.ret _ | exact RO.fail _) (fun _ => rfl) (fun _ _ => by
  have := wo_f W hN R hz (by rw [hw]; simpa using hne); rw [hw, List.length_map] at this
  exact this) fun _ => ⟨rfl, rfl, ⟨rfl, Ye, Ye⟩, A0' Ye A1', ⟨⟨rfl, rfl, Ye, Ye⟩, Ye⟩, A0' Ye (A0' ⟨Ye, Ye, Ye, Ye, Ye⟩ A1')⟩
theorem ok_run (W : World) (n : Nat) (D O L : AO) (b9 : Int) (m9 : KM) (c9 : Nat) (q : ∀ F, AH' W F -> C1OK Θ F fWo (cWoF n D O L)) (ql : ∀ F, L1OK Θ F (A3' fCo 6) (lOr n O b9 m9 c9)) (hD : ∀ σ, D.ren σ = D) (hO : ∀ σ, O.ren σ = O) :
  Tri Θ W fCo [.ptr 0 0] [(0, D)] (.tuple [.ptr 1000 0, iv 0]) [(1000, ctO .any 1001 b9), (1001, mO m9 c9)] := by
 refine AF' (con := [(fWo, cWoF n D O L)]) (hints := A6' [hf' fCo 2 1]) (lc := [(fCo, 6, A3' fCo 6, lOr n O b9 m9 c9)]) [1100, 1101, 1102, 1103, 1104] χ (fun F hF => BJ' (q F hF)) (fun F _ => C2' (ql F)) fun F => ?_
 clear q ql; refine Yj (oOk_eq W n D O L b9 m9 c9 F) ⟨⟨?_, (AO' (vs' := [.tuple [.ptr 1000 0, iv 0]]) (H' := [(1000, ctO .any 1001 b9), (1001, mO m9 c9)]) [(1000, 1103), (1001, 1102)] χ χ (Yb) ⟨⟨_, rfl, Yc⟩, ⟨_, rfl, BT' (BQ' _ _) rfl⟩, Ye⟩).fits rfl⟩⟩
 simp only [ch', true_and, and_true, hD, hO]; and_intros; all_goals first | (with_reducible exact Ye) | (with_reducible exact rfl) | (with_reducible exact Ya) | (with_reducible exact Yb) | (with_reducible exact Yc) | exact A2' rfl | exact rfl | exact Ya | exact Yc | exact NX' rfl (VW.cons (Wk.any _) (Yb)) | ((repeat (first | exact VW.nil | refine VW.cons (Wk.any _) ?_ | refine VW.cons Ya ?_)); done)
theorem ok_tri (W : World) (hN : LN W) (R : Bs) (Ls : List (List Chg)) (hz : R.length <= 1099511627776) (hw : AP' R = Ls.map encL) (hne : Ls ≠ []) (hR : L1' Ls) (hn : Ls.length <= 1000000) :
  Tri Θ W fCo [.ptr 0 0] [(0, dF R)] (.tuple [.ptr 1000 0, iv 0]) [(1000, ctO .any 1001 (o' (rp Ls).b)), (1001, mO (rp Ls).m (rp Ls).c)] :=
 ok_run W Ls.length (dF R) (rbO (Ls.map encL)) (lgX (cat (Ls.map encL)).length) (o' (rp Ls).b) (rp Ls).m (rp Ls).c (fun F hF => gQ' hN R Ls hz hw hne F hF) (fun F => lOr_ok Ls hR hn F) (fun _ => rfl) (fun _ => rfl)
theorem b3' (p : Pr) : YE' Θ 62 (Array.mk [vs' p.1, vs' p.2]) (Array.mk [vs' p.1, vs' p.2]) (HK' [vs' p.1, vs' p.2] [vs' p.1, vs' p.2]) := by
 intro w; have u3 := Tryz.underlying9; have a3 := Tryz.isAgg9; have z3 := Tryz.sizeOf9
 have hS : Θ.underlying 62 = some (.struct (Θ.fieldsOf 62)) := χ
 show (Op.equalIn 10000 62 (.agg #[.string p.1, .string p.2]) (.agg #[.string p.1, .string p.2])).run Θ w = _; rw [show (10000 : Nat) = 9999 + 1 from rfl, run_equalIn_agg w 9999 _ _ _ hS χ]; simp only [Program.fieldsOf, Tryz.underlying62]
 go_simp
 simp [HK', valQ]
theorem aI' (ps : List Pr) (hn : ps.length <= 2097152) :
  LTri Θ default (A3' fSm 4) (tms 0 26 (aSm ps.length 0)) [(0, rP ps), (1, rP ps)] (.exit 0) (tms 0 26 []) [(0, rP ps), (1, rP ps)] := by
 refine B6' (W := default) (g := fSm) (b := A3' fSm 4) (σ := {i : Nat // i <= ps.length}) 26 (fun i => aSm ps.length i.1) (fun _ => [(0, rP ps), (1, rP ps)]) (.exit 0) [] [(0, rP ps), (1, rP ps)] (fun i => ps.length - i.1) [0, 1] ixSm (by intro h; cases h) (fun i => χ) χ ?_ ⟨0, Nat.zero_le _⟩; rintro ⟨i, hi⟩; simp only
 by_cases h1 : i < ps.length
 ·obtain ⟨p, hp⟩ := AY' h1
  have hld : List.take 2 (List.drop (0 + i * 2) (rowV prV ps)) = vmap (prV p) := by
   have := M7' PS' [] ps p i h1; rw [List.length_nil, Nat.zero_mul, List.nil_append] at this; rw [this]; simp [List.getD, hp]
  have hlt : i.blt ps.length = true := by rw [bl']; exact h1
  have e1 : Wk (.v (.bool (decide (o' i < ((ps.length : Nat) : Int))))) (.lit true) := A2' (ltTN h1); have e3 : Wk (.v (.int .i64 (IntKind.i64.wrap (o' i + o' 1)))) (.v (.int .i64 (o' (i + 1)))) := C6' (B8' i ω); have e4 : Wk (.v (.bool (!HK' [vs' p.1, vs' p.2] [vs' p.1, vs' p.2]))) (.lit false) := A2' (by simp [HK', valQ])
  refine ⟨[], hSm p i, [], fun _ _ => noC, fun _ _ => noL, fun F => ?_⟩
  refine Yj (bR' ps.length i ps p F) ⟨⟨?_, rfl, .inl ⟨rfl, ⟨i + 1, h1⟩, B1' h1, [], by kernel_rfl, by kernel_rfl, ⟨Ya, Ya, Ya, Ye⟩, ⟨_, rfl, H4' rfl⟩, ⟨_, rfl, H4' rfl⟩, Ye⟩⟩⟩
  simp only [ch', hlt, hld, true_and, and_true]; and_intros; all_goals first | (with_reducible assumption) | (with_reducible exact Ya) | exact b3' p | exact rfl | exact Ya
 ·have hie : i = ps.length := ω
  subst hie
  refine ⟨[], A6' [hf' fSm 4 3], [], fun _ _ => noC, fun _ _ => noL, fun F => ?_⟩
  refine Yj (bT' ps.length ps.length ps F) ⟨⟨?_, rfl, .inr ⟨rfl, [], by kernel_rfl, by kernel_rfl, Ye, ⟨_, rfl, H4' rfl⟩, ⟨_, rfl, H4' rfl⟩, Ye⟩⟩⟩
  simp only [ch', and_true]; exact A2' (ltFN (Yd))
theorem gSm_ro : ∀ tms, RO (gSm tms) := fun tms => by
 unfold gSm
 split <;> first | exact RO.ret _ | exact RO.fail _
theorem lSm_ok (ps : List Pr) (hn : ps.length <= 2097152) (F : HP) : L1OK Θ F (A3' fSm 4) (lSm ps.length ps) :=
 BV' (W := default) AZ' (fun _ => gSm_ro _) (fun _ _ => aI' ps hn) fun _ => by
  simp only [RT.pick]; exact BD' rfl rfl (A0' rfl (A0' rfl (A0' Ye A1'))) (A0' (H5' _ _) (A0' (H5' _ _) A1')) A1' (A0' (H5' _ _) (A0' (H5' _ _) A1'))
theorem aG' (ps : List Pr) (hn : ps.length <= 2097152) : Tri Θ default fSm [sP 2 ps.length, sP 3 ps.length] [(2, rP ps), (3, rP ps)] (bv true) [(2, rP ps), (3, rP ps)] := by
 refine AF' (con := []) (hints := A6' [hf' fSm 1 4]) (lc := [(fSm, 4, A3' fSm 4, lSm ps.length ps)]) [2, 3] χ (fun _ _ => noC) (fun F _ => C2' (lSm_ok ps hn F)) fun F => ?_
 have e1 : Wk (.v (.bool (((ps.length : Nat) : Int) != ((ps.length : Nat) : Int)))) (.lit false) := A2' (by simp); refine Yj (bS' ps.length ps F) ⟨⟨?_, (AO' (vs' := [bv true]) (H' := [(2, rP ps), (3, rP ps)]) [] χ χ (Yb) ⟨⟨_, rfl, H4' (A5' _ _)⟩, ⟨_, rfl, H4' (A5' _ _)⟩, Ye⟩).fits rfl⟩⟩
 simp only [ch', true_and, and_true]; and_intros; all_goals first | (with_reducible assumption) | (with_reducible exact Ye) | (with_reducible exact rfl) | exact rfl | exact Yc | exact H4' rfl | ((repeat (first | exact VW.nil | refine VW.cons (Wk.any _) ?_ | refine VW.cons Ya ?_)); done)
theorem aH' : Tri Θ default fSm [nilS, nilS] [] (bv true) [] := by
 refine AF' (con := []) (hints := A6' [hf' fSm 1 4, hf' fSm 4 3]) (lc := []) [] χ (fun _ _ => noC) (fun _ _ => noL) fun F => ?_
 refine Yj (bQ' F) ⟨⟨?_, (AO' (vs' := [bv true]) (H' := []) [] rfl rfl (Yb) trivial).fits rfl⟩⟩; simp only [ch', true_and, and_true]; and_intros
 all_goals exact A2' rfl
def bsL (Ls : List (List Chg)) : List Bs := Ls.map encL
theorem hJ' (Ls : List (List Chg)) (s : St) (l : List Chg) : bsL (logG Ls s l) = logS (bsL Ls) s l := by
 rw [logG, logS]
 cases IR' s l with
 | false => rfl
 | true => simp only [bsL, List.map_append, List.map_cons, List.map_nil]
theorem QE' (Ls : List (List Chg)) (s : St) (l : List Chg) : (cat (bsL Ls)).length <= (cat (bsL (logG Ls s l))).length /\ (cat (bsL (logG Ls s l))).length <= (cat (bsL Ls)).length + 600000 := by
 rw [logG]
 cases hd : IR' s l with
 | false => exact ⟨Yd, by simp only; omega⟩
 | true =>
  obtain ⟨hL, _⟩ := MP' hd; obtain ⟨g1, _⟩ := MF' hL
  have e : (cat (bsL (Ls ++ [l.map BZ']))).length = (cat (bsL Ls)).length + (8 + (encL (l.map BZ')).length) := by
   rw [bsL, List.map_append, List.map_cons, List.map_nil, KT', List.length_append, DS', List.length_append, BO']; rfl
  simp only; omega
def dH (S : List Bs) : Nat -> Nat -> HP := exHP (fun xs : List Rs => xs.map (·.d) = ([] : List Bs).map BF') (dkL S [])
def ctO3 (Ls : List (List Chg)) (s : St) : Ct := ⟨dH (bsL Ls), o' (cat (bsL Ls ++ [])).length, o' s.b, s.m, s.c⟩
structure Sts where
 L0 : List (List Chg)
 L1 : List (List Chg)
 L2 : List (List Chg)
 s1 : St
 s2 : St
def B9' (l1 l2 : List Chg) : Sts := ⟨[[]], logG [[]] s0 l1, logG (logG [[]] s0 l1) (comG s0 l1) l2, comG s0 l1, comG (comG s0 l1) l2⟩
def c3 (l1 l2 : List Chg) : C3 := ⟨ctO3 [[]] s0, ctO3 (B9' l1 l2).L1 (B9' l1 l2).s1, ctO3 (B9' l1 l2).L2 (B9' l1 l2).s2⟩
theorem g3_ro : ∀ args, RO (g3 args) := fun args => by
 unfold g3; split
 ·refine RO.read _ _ fun o => ?_
  split
  ·refine RO.read _ _ fun o => ?_
   split
   ·refine RO.read _ _ fun o => ?_
    split
    ·split <;> exact RO.ret _
    ·exact RO.fail _
   ·exact RO.fail _
  ·exact RO.ret _
  ·exact RO.fail _
 ·exact RO.fail _
theorem OY' {t : List Int} (Ls : List (List Chg)) (s : St) (hR : AA' 1100 R = true) : Goes vs (catG (.own (.turns t) (dH (bsL Ls))) (o' (cat (bsL Ls ++ [])).length) (o' s.b) s.m s.c ++ R) vs (catL (bsL Ls) s ++ R) := OI' hR
theorem O1' {t : List Int} (Ls : List (List Chg)) (s : St) (hR : AA' 1100 R = true) : Goes vs (catL (bsL Ls) s ++ R) vs (catG (.own (.turns t) (dH (bsL Ls))) (o' (cat (bsL Ls ++ [])).length) (o' s.b) s.m s.c ++ R) := OI' hR
theorem DK' {K : Nat -> Bool} (f : C3) (p : Thr) (h1 : K 1 = true) (h2 : K 2 = true) (h3 : K 1003 = true) : ∀ x ∈ catT f p, x.2.cl K := IT' h1 h2 h3 trivial
theorem b9' {m m9 : Md} {h : Nat -> Nat -> HP} {x y z : AO} : Goes vs [(1000, x), (1001, y), (1002, .own m h), (1003, z)] vs [(1000, x), (1001, y), (1002, .own m9 h), (1003, z)] := by
 refine RK' χ χ (fun j o9 hj => ?_) (fun j hj => ?_)
 ·by_cases e : j = 1002
  ·subst e; simp only [getO] at hj; cases hj
   exact ⟨_, rfl, fun _ _ _ _ h => h⟩
  ·refine ⟨o9, ?_, Yc⟩; simp only [getO, if_neg e] at hj ⊢; exact hj
 ·by_cases e : j = 1002
  ·subst e; simp only [getO] at hj; cases hj
  ·simp only [getO, if_neg e] at hj ⊢; exact hj
theorem h5' (hN : LN W) (l1 l2 : List Chg) (F : HP) (hF : AH' W F) : C1OK Θ F fOd (cOdA (c3 l1 l2)) :=
 AU' hF (fun _ => .tuple [.ptr 1002 0, .ptr 1000 0]) (fun _ => RO.ret _) (fun _ => rfl) (fun _ _ => by
  exact Tri.post (od_tri W hN) b9') fun _ => ⟨rfl, rfl, Ye, A1', ⟨⟨rfl, rfl, Ye⟩, Ye⟩, A0' ⟨rfl, rfl, Ye, Ye⟩ (A0' ⟨rfl, Ye, Ye, Ye, Ye⟩ (A0' Ye (A0' (DL' _ _ _) A1')))⟩
theorem V7' (W : World) (hN : LN W) (Ls : List (List Chg)) (s : St) (hs : FitS s) {oa : Option Addr} {l : List Chg} (c : Nat) (t t9 : List Int) (h : CAt W oa l) (hz : szL l <= C8') (hS : 0 < (cat (bsL Ls)).length) (hS2 : (cat (bsL Ls)).length <= 1000000000) :
  Tri Θ W fCm [.ptr 0 0, slV oa l.length c] (catG (.own (.turns t) (dH (bsL Ls))) (o' (cat (bsL Ls ++ [])).length) (o' s.b) s.m s.c) (iv (eCm s l)) (catG (.own (.turns t9) (dH (bsL (logG Ls s l)))) (o' (cat (bsL (logG Ls s l) ++ [])).length) (o' (comG s l).b) (comG s l).m (comG s l).c) := by
 have := gJ' W hN (bsL Ls) s hs c h hz hS hS2; rw [<- hJ'] at this; have g1 : Goes [.ptr 0 0, slV oa l.length c] (catG (.own (.turns t) (dH (bsL Ls))) (o' (cat (bsL Ls ++ [])).length) (o' s.b) s.m s.c) [.ptr 0 0, slV oa l.length c] (catL (bsL Ls) s) := OY' Ls s (R := []) rfl; have g2 : Goes [iv (eCm s l)] (catL (bsL (logG Ls s l)) (comG s l)) [iv (eCm s l)] (catG (.own (.turns t9) (dH (bsL (logG Ls s l)))) (o' (cat (bsL (logG Ls s l) ++ [])).length) (o' (comG s l).b) (comG s l).m (comG s l).c) := O1' (logG Ls s l) (comG s l) (R := []) rfl; exact Tri.pre g1 (Tri.post this g2)
theorem z8 : (cat (bsL [[]])).length = 8 := rfl
theorem hA' (hN : LN W) {o1 o2 : Option Addr} {l1 l2 : List Chg} (c1 c2 : Nat) (h1 : CAt W o1 l1) (h2 : CAt W o2 l2) (hz1 : szL l1 <= C8') (hz2 : szL l2 <= C8') (F : HP) (hF : AH' W F) : C1OK Θ F fCm (cCmA o1 o2 l1.length c1 l2.length c2 (eCm s0 l1) (eCm (comG s0 l1) l2) (c3 l1 l2)) :=
 AU' hF (fun q => iv (er3 (eCm s0 l1) (eCm (comG s0 l1) l2) q.p)) g3_ro (fun _ => rfl) (fun q hq => by
  obtain ⟨i, l, d, m, p⟩ := q; have k1 := QE' [[]] s0 l1; have k0 := z8
  cases p with
  | a0 => exact V7' W hN [[]] s0 R5' c1 (mkT .a0) (mkT .a1) h1 hz1 ω ω
  | a1 => exact V7' W hN (logG [[]] s0 l1) (comG s0 l1) (JS' R5' l1) c2 (mkT .a1) (mkT .a2) h2 hz2 ω ω
  | a2 => exact (show False from hq).elim
  | k => exact (show False from hq).elim) fun q => by
   obtain ⟨i, l, d, m, p⟩ := q
   exact ⟨by cases p <;> rfl, by cases p <;> rfl, by cases p <;> exact ⟨rfl, Ye, Ye⟩, DK' _ _ rfl rfl rfl, ⟨Ye, Ye⟩, DK' _ _ rfl rfl rfl⟩
theorem MS' (f : C3) (x1 x2 : AV) (R1 : LH) (po : AO) (h1 : Tri Θ default fPs [.ptr 0 0] (catT f .a1) x1 (catT f .a1 ++ R1)) (h2 : Tri Θ default fPs [.ptr 0 0] (catT f .a2) x2 (catT f .a2 ++ [(1000, po)])) (hk : Tri Θ default fPs [.ptr 0 0] (kC f) x2 (kC f ++ [(1000, po)]))
  (hR : AA' 1100 (catT f .a1 ++ R1) = true) (c1 : AV.cls (kR (catT f .a1) (catT f .a1 ++ R1)) [x1]) (cR : ∀ x ∈ catT f .a1 ++ R1, x.2.cl (kR (catT f .a1) (catT f .a1 ++ R1))) (c2 : ∀ K : Nat -> Bool, K 1000 = true -> AV.cls K [x2]) (cp : ∀ K, po.cl K) (F : HP) :
  C1OK Θ F fPs (cPsA f x1 x2 R1 po) :=
 AU' (W := default) AZ' (fun q => match q.p with | .a1 => x1 | _ => x2) g3_ro (fun q => by obtain ⟨i, l, d, m, p⟩ := q; cases p <;> rfl) (fun q hq => by
  obtain ⟨i, l, d, m, p⟩ := q
  cases p with
  | a0 => exact (show False from hq).elim
  | a1 => exact h1
  | a2 => exact h2
  | k => exact hk) fun q => by
   obtain ⟨i, l, d, m, p⟩ := q
   cases p with
   | a0 => exact ⟨rfl, by kernel_rfl, ⟨rfl, Ye⟩, DK' _ _ rfl rfl rfl, c2 _ rfl, CG' (DK' _ _ rfl rfl rfl) (A0' (cp _) A1')⟩
   | a1 => exact ⟨rfl, hR, ⟨rfl, Ye⟩, DK' _ _ rfl rfl rfl, c1, cR⟩
   | a2 => exact ⟨rfl, by kernel_rfl, ⟨rfl, Ye⟩, DK' _ _ rfl rfl rfl, c2 _ rfl, CG' (DK' _ _ rfl rfl rfl) (A0' (cp _) A1')⟩
   | k => exact ⟨rfl, by kernel_rfl, ⟨rfl, Ye⟩, RR' rfl, c2 _ rfl, CG' (RR' rfl) (A0' (cp _) A1')⟩
theorem IJ' {Ls : List (List Chg)} {s : St} {t : List Int} {x : AV} (hR : AA' 1100 R = true) (h : Tri Θ default fPs [.ptr 0 0] (catL (bsL Ls) s) x (catL (bsL Ls) s ++ R)) :
  Tri Θ default fPs [.ptr 0 0] (catG (.own (.turns t) (dH (bsL Ls))) (o' (cat (bsL Ls ++ [])).length) (o' s.b) s.m s.c) x (catG (.own (.turns t) (dH (bsL Ls))) (o' (cat (bsL Ls ++ [])).length) (o' s.b) s.m s.c ++ R) := by
 have g1 : Goes [.ptr 0 0] (catG (.own (.turns t) (dH (bsL Ls))) (o' (cat (bsL Ls ++ [])).length) (o' s.b) s.m s.c) [.ptr 0 0] (catL (bsL Ls) s) := OY' Ls s (R := []) rfl; exact Tri.pre g1 (Tri.post h (O1' Ls s hR))
theorem V3' {H : LH} (hn : AA' 1100 H = true) (h0 : getO H 1000 = none) (hn9 : AA' 1100 (H ++ [(1000, dumZ)]) = true) : Goes vs H vs (H ++ [(1000, dumZ)]) :=
 ED' (k := 1000) (fun C => trivial) hn hn9 (by rw [BE', h0]; rfl) δ h0 (fun n hn => by
  rw [BE']
  cases getO H n with
  | some o => rfl
  | none => simp only [getO, if_neg hn])
theorem h9' (Ls : List (List Chg)) (t : List Int) (ok : Option Addr) (kp : List Bool) (ck : Nat) (tr : Int) (hK : KAt W ok kp) (h0 : 0 < (cat (bsL Ls)).length) (hz : (cat (bsL Ls)).length <= 1099511627776) (F : HP) (hF : AH' W F) :
  C1OK Θ F fCr (cCrA ok kp.length ck (cat (bsL Ls)).length tr (.own (.turns t) (dH (bsL Ls))) (cat (bsL Ls))) :=
 AU' hF (fun _ => .slice 1030 0 1 2 (.lo 1)) (fun args => by split <;> first | exact RO.ret _ | exact RO.fail _) (fun _ => rfl) (fun _ _ => by
  have h := cr_tri W (bsL Ls) [] ok kp ck tr hK h0 (by rw [List.append_nil]; exact hz) δ; have g : Goes [.ptr 0 0, EX' ok kp.length ck tr] [(0, .own (.turns t) (dH (bsL Ls)))] [.ptr 0 0, EX' ok kp.length ck tr] [(0, dO (bsL Ls) [])] := g0' δ (fun _ _ _ _ h => h)
  exact Tri.pre g h) fun _ => ⟨rfl, rfl, ⟨rfl, ⟨Ye, Ye, Ye⟩, Ye⟩, A0' Ye A1', ⟨rfl, Ye⟩, A0' ⟨Ye, rfl, Ye⟩ (A0' (AR' _ _) A1')⟩
theorem h8' (R : Bs) (hb : R.length <= 2199023255552) (hp : 0 < R.length) (F : HP) : C1OK Θ F fDo (cDoF R.length R (dF R)) :=
 AU' (W := default) AZ' (fun _ => .tuple [.ptr 1000 0, iv 0]) (fun args => by
  split
  ·refine RO.read _ _ fun o => ?_
   split <;> first | exact RO.ret _ | exact RO.fail _
  ·exact RO.fail _) (fun _ => rfl) (fun _ _ => do_f R hb hp) fun _ => ⟨rfl, rfl, ⟨rfl, Ye, Ye⟩, A0' ⟨Ye, rfl, Ye⟩ (A0' (AR' _ _) A1'), ⟨⟨rfl, Ye, Ye⟩, Ye⟩, A0' Ye A1'⟩
theorem h0' (hN : LN W) (f : C3) (R : Bs) (Ls : List (List Chg)) (hz : R.length <= 1099511627776) (hw : AP' R = Ls.map encL) (hne : Ls ≠ []) (hR : L1' Ls) (hn : Ls.length <= 1000000) (h1 : f.a2.b = o' (rp Ls).b) (h2 : f.a2.m = (rp Ls).m) (h3 : f.a2.c = (rp Ls).c) (F : HP) (hF : AH' W F) : C1OK Θ F fCo (cOkA f (dF R)) :=
 AU' hF (fun _ => .tuple [.ptr 1000 0, iv 0]) (fun args => by split <;> first | exact RO.ret _ | exact RO.fail _) (fun _ => rfl) (fun _ _ => by
  have := ok_tri W hN R Ls hz hw hne hR hn; rw [<- h1, <- h2, <- h3] at this
  exact this) fun _ => ⟨rfl, rfl, ⟨rfl, Ye⟩, A0' Ye A1', ⟨⟨rfl, Ye, Ye⟩, Ye⟩, A0' ⟨Ye, rfl, Ye, Ye⟩ (A0' (DL' _ _ _) A1')⟩
theorem gY' (ps : List Pr) (hn : ps.length <= 2097152) (F : HP) : C1OK Θ F fSm (cSmS ps.length (rP ps)) :=
 AU' (W := default) AZ' (fun _ => bv true) (fun args => by split <;> first | exact RO.ret _ | exact RO.fail _) (fun _ => rfl) (fun _ _ => aG' ps hn) fun _ => ⟨rfl, rfl, ⟨rfl, rfl, Ye⟩, A0' (H5' _ _) (A0' (H5' _ _) A1'), ⟨Ye, Ye⟩, A0' (H5' _ _) (A0' (H5' _ _) A1')⟩
theorem VA' (F : HP) : C1OK Θ F fSm cSmN :=
 AU' (W := default) AZ' (fun _ => bv true) (fun _ => RO.ret _) (fun _ => rfl) (fun _ _ => aH') fun _ => ⟨rfl, rfl, ⟨Ye, Ye, Ye⟩, A1', ⟨Ye, Ye⟩, A1'⟩
theorem right0 : L1' [[]] := fun l hl => by rw [List.mem_singleton.1 hl]; exact ⟨Nat.zero_le _, Nat.zero_le _⟩
theorem WC' {Ls : List (List Chg)} (h : L1' Ls) : NC' (bsL Ls) := fun r hr => by
 obtain ⟨l, hl, rfl⟩ := List.mem_map.1 hr; obtain ⟨h1, h2⟩ := h l hl; rw [GK']; show _ <= 1048576; omega
theorem UG' {Ls : List (List Chg)} (h : Ls ≠ []) (s : St) (l : List Chg) : logG Ls s l ≠ [] := by
 rw [logG]; split
 ·simp
 ·exact h
theorem RI' (Ls : List (List Chg)) (s : St) (l : List Chg) : (logG Ls s l).length <= Ls.length + 1 := by
 rw [logG]; split <;> simp
structure AtK (l1 l2 : List Chg) : Prop where
 p1 : 0 < (cat (bsL (B9' l1 l2).L2)).length
 p2 : (cat (bsL (B9' l1 l2).L2)).length <= 1099511627776
 w : AP' (cat (bsL (B9' l1 l2).L2)) = (B9' l1 l2).L2.map encL
 ne : (B9' l1 l2).L2 ≠ []
 rt : L1' (B9' l1 l2).L2
 n : (B9' l1 l2).L2.length <= 1000000
 rp : rp (B9' l1 l2).L2 = (B9' l1 l2).s2
 f1 : FitS (B9' l1 l2).s1
 f2 : FitS (B9' l1 l2).s2
theorem atK (l1 l2 : List Chg) : AtK l1 l2 := by
 have k0 := z8; have k1 := QE' [[]] s0 l1; have k2 := QE' (logG [[]] s0 l1) (comG s0 l1) l2; have n1 := RI' [[]] s0 l1; have n2 := RI' (logG [[]] s0 l1) (comG s0 l1) l2; have hr : L1' (logG (logG [[]] s0 l1) (comG s0 l1) l2) := LN' (LN' right0 s0 l1) (comG s0 l1) l2; have hne : logG (logG [[]] s0 l1) (comG s0 l1) l2 ≠ [] := UG' (UG' (by simp) _ _) _ _; have hrp : rp (logG (logG [[]] s0 l1) (comG s0 l1) l2) = comG (comG s0 l1) l2 := YP' (YP' (show rp [[]] = s0 from rfl) l1) l2; have f1 := JS' R5' l1; have f2 := JS' f1 l2; have n0 : ([[]] : List (List Chg)).length = 1 := rfl
 have hw : ∀ X : List (List Chg), L1' X -> AP' (cat (bsL X)) = X.map encL := fun X hX => by
  have := EY' (bsL X) [] (WC' hX); rw [List.append_nil] at this; rw [this]
  have e : AP' [] = [] := by rw [AP']; rfl
  rw [e, List.append_nil]; rfl
 have hw2 := hw _ hr; have e2 : (B9' l1 l2).L2 = logG (logG [[]] s0 l1) (comG s0 l1) l2 := rfl; have e3 : (B9' l1 l2).s2 = comG (comG s0 l1) l2 := rfl; have e1 : (B9' l1 l2).s1 = comG s0 l1 := rfl
 constructor
 ·rw [e2]; omega
 ·rw [e2]; omega
 ·rw [e2]; exact hw2
 ·rw [e2]; exact hne
 ·rw [e2]; exact hr
 ·rw [e2]; omega
 ·rw [e2, e3]; exact hrp
 ·rw [e1]; exact f1
 ·rw [e3]; exact f2
theorem told (l1 l2 : List Chg) (he : eCm (comG s0 l1) l2 = 0) : Told l2 (B9' l1 l2).s2.m := fun i x hx hl => by
 show B5' x.k (comG (comG s0 l1) l2).m = _; rw [V6' he]; exact UH' (JS' R5' l1).ok hx hl
theorem YS' (Ls : List (List Chg)) (s : St) (hs : FitS s) : Tri Θ default fPs [.ptr 0 0] (catL (bsL Ls) s) .any (catL (bsL Ls) s) := by
 have hb := hs.b; have hm := hs.m
 by_cases h : s.m = []
 ·exact Tri.post (MC' (bsL Ls) s h) (Goes.vw (VW.cons (Wk.any _) VW.nil))
 ·refine Tri.post (MB' (bsL Ls) s hs.ok ω ω h) (KN' χ χ (VW.cons (Wk.any _) VW.nil) (fun i o hi => ?_) ⟨Ye, Ye⟩ (IT' rfl rfl rfl trivial)); rw [BE', hi]
theorem ps_nil (Ls : List (List Chg)) (s : St) (h : s.m = []) : Tri Θ default fPs [.ptr 0 0] (catL (bsL Ls) s) nilS (catL (bsL Ls) s ++ [(1000, dumZ)]) :=
 Tri.post (MC' (bsL Ls) s h) (V3' χ rfl χ)
theorem pk_nil (s : St) (h : s.m = []) : Tri Θ default fPs [.ptr 0 0] (ctX (o' s.b) s.m s.c) nilS (ctX (o' s.b) s.m s.c ++ [(1000, dumZ)]) :=
 Tri.post (aX' s h) (V3' χ rfl χ)
theorem SZ' (W : World) (hN : LN W) {o1 o2 ok : Option Addr} {l1 l2 : List Chg} {kp : List Bool} (c1 c2 ck : Nat) (tr : Int) (h1 : CAt W o1 l1) (h2 : CAt W o2 l2) (hc : l2.length <= c2) (hz1 : szL l1 <= C8') (hz2 : szL l2 <= C8') (hK : KAt W ok kp) :
  Tri Θ W fAm [slV o1 l1.length c1, slV o2 l2.length c2, EX' ok kp.length ck tr] [] (bv true) [] := by
 obtain ⟨p1, p2, w, ne, rt, n, hrp, f1, f2⟩ := atK l1 l2; have hT := told l1 l2
 have hE := fun he => Y0' (s := comG s0 l1) (l := l2) he
 have u1 := fun F hF => SX' hN F hF
 have u2 := fun F hF => h5' hN l1 l2 F hF
 have u3 := fun F hF => hA' hN c1 c2 h1 h2 hz1 hz2 F hF
 have u6 := fun F hF => h9' (W := W) (B9' l1 l2).L2 (mkT .a2) ok kp ck tr hK p1 p2 F hF
 have u7 := fun F => h8' (cat (bsL (B9' l1 l2).L2)) ω p1 F
 have u8 := fun F hF => h0' hN (c3 l1 l2) (cat (bsL (B9' l1 l2).L2)) (B9' l1 l2).L2 p2 w ne rt n (by rw [hrp]; rfl) (by rw [hrp]; rfl) (by rw [hrp]; rfl) F hF
 have b2 := f2.b; have m2 := f2.m; have b1 := f1.b; have m1 := f1.m; have hpl := G4' (B9' l1 l2).s2.m
 have hl := fun (r : Nat) (e : Int) (xr : AV) (po : AO) (hp : ∀ σ, po.ren σ = po) (hx : XrK xr) (cp : ∀ K, po.cl K) (cx : ∀ K : Nat -> Bool, K 5 = true -> AV.cl K xr) (hT : e = 0 -> Told l2 (B9' l1 l2).s2.m) F hO =>
  lRd_ok (W := W) r c2 h2 hc e xr (dT (c3 l1 l2) .a2) (ftO ok kp.length ck tr) po (c3 l1 l2).a2.sz (c3 l1 l2).a2.b (c3 l1 l2).a2.m (c3 l1 l2).a2.c (fun _ => rfl) (fun _ => rfl) hp hx (fun _ => trivial) (fun _ => ⟨Ye, Ye, Ye⟩) cp cx hT F hO
 by_cases hm : (B9' l1 l2).s2.m = []
 ·have t2 := IJ' (t := mkT .a2) rfl (ps_nil (B9' l1 l2).L2 (B9' l1 l2).s2 hm); have tk := pk_nil (B9' l1 l2).s2 hm
  by_cases he : eCm (comG s0 l1) l2 = 0
  ·have t1 := IJ' (t := mkT .a1) (R := []) rfl (YS' (B9' l1 l2).L1 (B9' l1 l2).s1 f1)
   have u4 := fun F => MS' (c3 l1 l2) .any nilS [] dumZ t1 t2 tk χ ⟨Ye, Ye⟩ (DK' _ _ rfl rfl rfl) (fun K _ => ⟨Ye, Ye⟩) (fun K => trivial) F
   rw [he] at u3 hT
   exact atZN W o1 o2 ok l1.length c1 l2.length c2 kp.length ck _ tr (eCm s0 l1) (c3 l1 l2) (cat (bsL (B9' l1 l2).L2)) (dF (cat (bsL (B9' l1 l2).L2))) (fun _ => rfl) (fun F hF => AC' (u1 F hF) (AC' (u2 F hF) (AC' (u3 F hF) (AC' (u4 F) (AC' (VA' F) (AC' (u6 F hF) (AC' (u7 F) (BJ' (u8 F hF)))))))))
    (fun F hF => C2' (hl 1109 0 nilS dumZ (fun _ => rfl) TC' (fun _ => trivial) (fun _ _ => trivial) hT F hF))
  ·have es : (B9' l1 l2).s2 = (B9' l1 l2).s1 := hE he; have t1 := IJ' (t := mkT .a1) (R := []) rfl (MC' (bsL (B9' l1 l2).L1) (B9' l1 l2).s1 (by rw [<- es]; exact hm))
   have u4 := fun F => MS' (c3 l1 l2) nilS nilS [] dumZ t1 t2 tk χ ⟨Ye, Ye⟩ (DK' _ _ rfl rfl rfl) (fun K _ => ⟨Ye, Ye⟩) (fun K => trivial) F
   exact atEN W o1 o2 ok l1.length c1 l2.length c2 kp.length ck _ tr (eCm s0 l1) (eCm (comG s0 l1) l2) he (c3 l1 l2) (cat (bsL (B9' l1 l2).L2)) (dF (cat (bsL (B9' l1 l2).L2))) (fun _ => rfl) (fun F hF => AC' (u1 F hF) (AC' (u2 F hF) (AC' (u3 F hF) (AC' (u4 F) (AC' (VA' F) (AC' (u6 F hF) (AC' (u7 F) (BJ' (u8 F hF)))))))))
    (fun F hF => C2' (hl 1109 (eCm (comG s0 l1) l2) nilS dumZ (fun _ => rfl) TC' (fun _ => trivial) (fun _ _ => trivial) (fun h => absurd h he) F hF))
 ·have t2 := IJ' (t := mkT .a2) rfl (MB' (bsL (B9' l1 l2).L2) (B9' l1 l2).s2 f2.ok ω ω hm); have tk := aW' (B9' l1 l2).s2 f2.ok ω ω hm
  have u5 := fun F => gY' (C7' (B9' l1 l2).s2.m) ω F
  by_cases he : eCm (comG s0 l1) l2 = 0
  ·have t1 := IJ' (t := mkT .a1) (R := []) rfl (YS' (B9' l1 l2).L1 (B9' l1 l2).s1 f1)
   have u4 := fun F => MS' (c3 l1 l2) .any (sP 1000 (C7' (B9' l1 l2).s2.m).length) [] (rP (C7' (B9' l1 l2).s2.m)) t1 t2 tk χ ⟨Ye, Ye⟩ (DK' _ _ rfl rfl rfl) (fun K h => ⟨h, Ye⟩) (fun K => H5' K _) F
   rw [he] at u3 hT
   exact atZS W o1 o2 ok l1.length c1 l2.length c2 kp.length ck _ tr (eCm s0 l1) (c3 l1 l2) (cat (bsL (B9' l1 l2).L2)) (dF (cat (bsL (B9' l1 l2).L2))) _ (C7' (B9' l1 l2).s2.m) (fun _ => rfl) (fun F hF => AC' (u1 F hF) (AC' (u2 F hF) (AC' (u3 F hF) (AC' (u4 F) (AC' (u5 F) (AC' (u6 F hF) (AC' (u7 F) (BJ' (u8 F hF)))))))))
    (fun F hF => C2' (hl 1109 0 (sP 5 _) (rP (C7' (B9' l1 l2).s2.m)) (U0' _) (TB' _) (fun K => H5' K _) (fun K h => h) hT F hF))
  ·have es : (B9' l1 l2).s2 = (B9' l1 l2).s1 := hE he; have t1 := IJ' (t := mkT .a1) rfl (MB' (bsL (B9' l1 l2).L1) (B9' l1 l2).s1 f1.ok ω ω (by rw [<- es]; exact hm)); rw [<- es] at t1
   have u4 := fun F => MS' (c3 l1 l2) (sP 1000 (C7' (B9' l1 l2).s2.m).length) (sP 1000 (C7' (B9' l1 l2).s2.m).length) [(1000, rP (C7' (B9' l1 l2).s2.m))] (rP (C7' (B9' l1 l2).s2.m)) (by
    have e : (c3 l1 l2).a1 = ctO3 (B9' l1 l2).L1 (B9' l1 l2).s2 := by rw [es]; rfl
    show Tri _ _ _ _ (catG (.own (.turns (mkT .a1)) (c3 l1 l2).a1.h) (c3 l1 l2).a1.sz (c3 l1 l2).a1.b (c3 l1 l2).a1.m (c3 l1 l2).a1.c) _ (catG (.own (.turns (mkT .a1)) (c3 l1 l2).a1.h) (c3 l1 l2).a1.sz (c3 l1 l2).a1.b (c3 l1 l2).a1.m (c3 l1 l2).a1.c ++ _)
    rw [e]; exact t1) t2 tk χ ⟨rfl, Ye⟩ (CG' (DK' _ _ rfl rfl rfl) (A0' (H5' _ _) A1')) (fun K h => ⟨h, Ye⟩) (fun K => H5' K _) F
   exact atES W o1 o2 ok l1.length c1 l2.length c2 kp.length ck _ tr (eCm s0 l1) (eCm (comG s0 l1) l2) he (c3 l1 l2) (cat (bsL (B9' l1 l2).L2)) (dF (cat (bsL (B9' l1 l2).L2))) _ (C7' (B9' l1 l2).s2.m) (fun _ => rfl) (fun F hF => AC' (u1 F hF) (AC' (u2 F hF) (AC' (u3 F hF) (AC' (u4 F) (AC' (u5 F) (AC' (u6 F hF) (AC' (u7 F) (BJ' (u8 F hF)))))))))
    (fun F hF => C2' (hl 1110 (eCm (comG s0 l1) l2) (sP 5 _) (rP (C7' (B9' l1 l2).s2.m)) (U0' _) (TB' _) (fun K => H5' K _) (fun K h => h) (fun h => absurd h he) F hF))
end Go.Proofs.YtnnojnlejlokhaaGreatDoor.Wk
namespace Go.Proofs.YtnnojnlejlokhaaGreatDoor
open Go
theorem IK' {α : Type} {f : α -> List Value} {m : Nat} (hf : ∀ x, (f x).length = m) : ∀ (l : List α) (k j : Nat) (h : k < l.length), j < m -> (l.flatMap f)[k * m + j]? = (f l[k])[j]?
 | [], _, _, h, _ => by simp at h
 | x :: l, 0, j, _, hj => by
  rw [List.flatMap_cons, Nat.zero_mul, Nat.zero_add, List.getElem?_append_left (by rw [hf]; exact hj)]; rfl
 | x :: l, k + 1, j, h, hj => by
  rw [List.flatMap_cons, List.getElem?_append_right (by rw [hf, Nat.add_mul]; omega), hf, show (k + 1) * m + j - m = k * m + j from by rw [Nat.add_mul]; omega]
  exact IK' hf l k j (by simpa using h) hj
theorem HW' {α : Type} {f : α -> List Value} {m : Nat} (hf : ∀ x, (f x).length = m) (l : List α) : (l.flatMap f).length = l.length * m := by
 induction l with
 | nil => simp
 | cons p l ih => simp only [List.flatMap_cons, List.length_append, hf, List.length_cons, ih, Nat.add_mul]; omega
open Go.ChangeShapes Go.WideShapes Go.RowKit Go.Deep
section
variable {H : Type} {enc : TypeId × Value -> H} {P : Program} {w : World} {base : Nat} {spare : Nat -> Bool} {held : Bool}
def VY' (P : Program) (t : TypeId) (d : DataW H) : Prop := ∀ n ∈ d.weights P t, n <= reachBytes
theorem VY'.len {t e : TypeId} {elems sp : List (DataW H)} (hu : P.underlying t = some (.slice e)) (h : VY' P t (.slice elems sp)) : (elems.length + sp.length) * P.bytesOf e <= reachBytes :=
 h _ (by simp only [DataW.weights, hu, List.mem_cons, true_or])
theorem VY'.field {t : TypeId} {fs : Array Field} {parts : List (DataW H)} (hu : P.underlying t = some (.struct fs)) (h : VY' P t (.agg parts)) {i : Nat} {f : Field} {d : DataW H} (hf : fs[i]? = some f) (hp : parts[i]? = some d) : VY' P f.type d := fun n hn => by
 refine h n ?_; simp only [DataW.weights, hu]; exact DataW.weights_mem_each (j := i) (by simp [hf]) hp n hn
end
end Go.Proofs.YtnnojnlejlokhaaGreatDoor
namespace Go.Proofs.YtnnojnlejlokhaaGreatDoor.Upto
open Go.ChangeShapes Go.WideShapes Go.RowKit Go.Deep
theorem one_le {H : Type} (d : DataW H) : 1 <= Rows.uptoBulk d := by
 cases d with
 | lit l => cases l <;> simp [Rows.uptoBulk]
 | nil => simp [Rows.uptoBulk]
 | ptr d => simp [Rows.uptoBulk]
 | slice elems spare => simp [Rows.uptoBulk]
 | agg parts => simp [Rows.uptoBulk]
 | iface t d => simp [Rows.uptoBulk]
 | map entries => simp [Rows.uptoBulk]
 | held h => simp [Rows.uptoBulk]
theorem b2' {H : Type} {d : DataW H} {l : List (DataW H)} (h : d ∈ l) : Rows.uptoBulk d <= Rows.uptoBulkAll l := by
 induction l with
 | nil => cases h
 | cons x r ih =>
  simp only [Rows.uptoBulkAll]
  cases List.mem_cons.1 h with
  | inl e => subst e; omega
  | inr e => have := ih e; omega
theorem length_le {H : Type} (l : List (DataW H)) : l.length <= Rows.uptoBulkAll l := by
 induction l with
 | nil => simp [Rows.uptoBulkAll]
 | cons x r ih => have := one_le x; simp only [Rows.uptoBulkAll, List.length_cons]; omega
theorem slice_elems {H : Type} (elems spare : List (DataW H)) : Rows.uptoBulkAll elems + 1 <= Rows.uptoBulk (.slice elems spare) := by
 simp only [Rows.uptoBulk]; omega
theorem agg_part {H : Type} {parts : List (DataW H)} {d : DataW H} (h : d ∈ parts) : Rows.uptoBulk d + 1 <= Rows.uptoBulk (.agg parts) := by
 have := b2' h; simp only [Rows.uptoBulk]; omega
theorem bound {H : Type} {l : List (DataW H)} (hk : Rows.uptoSmall H l = true) : Rows.uptoBulkAll l <= 1048576 := of_decide_eq_true hk
theorem R2' {H α : Type} (wt : α -> Nat) : ∀ (l : List α) (ds : List (DataW H)), l.length = ds.length -> (∀ (i : Nat) (p : α) (d : DataW H), l[i]? = some p -> ds[i]? = some d -> wt p <= Rows.uptoBulk d) -> (l.map wt).sum <= Rows.uptoBulkAll ds
 | [], [], _, _ => Nat.zero_le _
 | [], _ :: _, h, _ => by cases h
 | _ :: _, [], h, _ => by cases h
 | p :: l, d :: ds, h, hw => by
  have h1 := hw 0 p d rfl rfl
  have h2 := R2' wt l ds (by simpa using h) fun i q e hq he => hw (i + 1) q e hq he
  simp only [List.map_cons, List.sum_cons, Rows.uptoBulkAll]; omega
theorem open_rdU {H : Type} {enc : TypeId × Value -> H} {P : Program} {w : World} {base : Nat} {spare : Nat -> Bool} {held : Bool} {α : Type} (f : α -> List Value) {size : Nat} (h0 : 0 < size) (hf : ∀ x, (f x).length = size) {t e : TypeId} (ht : P.underlying t = some (.slice e)) (hC : P.cellsOf e = size)
  {Q : α -> Prop} (wt : α -> Nat) (hopen : ∀ (n : Nat) (cs : List Value) (x : DataW H × List MemPlace), DataW.trod enc P w base spare held n e cs = some x -> ∃ p : α, cs = f p /\ Q p /\ wt p <= Rows.uptoBulk x.1)
  {fuel : Nat} {A : Option Addr} {len cap : Nat} {x : DataW H × List MemPlace} (h : DataW.trod enc P w base spare held fuel t [.slice A len cap] = some x) :
  ∃ l : List α, l.length = len /\ Rd w A len size (l.flatMap f) /\ (∀ p ∈ l, Q p) /\ (l.map wt).sum + 1 <= Rows.uptoBulk x.1 := by
 rcases open_slice ht h with ⟨hcs, _⟩ | ⟨a, len', cap', m, n, D, Pl, hcs, hb, hl, hm, hmm, hx, hi⟩
 ·simp only [List.cons.injEq, Value.slice.injEq, and_true] at hcs; obtain ⟨rfl, rfl, rfl⟩ := hcs; exact ⟨[], rfl, Rd.nil _, (fun p hp => by cases hp), one_le x.1⟩
 ·simp only [List.cons.injEq, Value.slice.injEq, and_true] at hcs; obtain ⟨rfl, rfl, rfl⟩ := hcs
  have hlm : len <= m := by rw [hmm]; split <;> omega
  have hall : ∀ i : Fin len, ∃ p : α, Q p /\ wt p <= Rows.uptoBulk (D i.1) /\ ∀ j u, (f p)[j]? = some u -> w.cell? (a.add (i.1 * size + j)) = some u := fun i => by
   obtain ⟨cs', hc, ht'⟩ := hi i.1 ω; obtain ⟨p, rfl, hq, hwt⟩ := hopen _ _ _ ht'
   refine ⟨p, hq, hwt, fun j u hu => ?_⟩
   obtain ⟨_, hcl, hat⟩ := World.cells?_some hc
   have hj : j < P.cellsOf e := by rw [hC, <- hf p]; exact (List.getElem?_eq_some_iff.1 hu).1
   rw [<- hu, <- hat j hj, hC, YC']
  obtain ⟨g, hg⟩ := Classical.axiomOfChoice hall
  refine ⟨List.ofFn g, by simp, ?_, fun p hp => ?_, ?_⟩
  rotate_left
  ·obtain ⟨i, rfl⟩ := List.mem_ofFn.1 hp; exact (hg i).1
  ·rw [hx]; refine Nat.le_trans (Nat.succ_le_succ ?_) (slice_elems _ _)
   refine R2' wt _ _ (by simp) fun i p d hp hd => ?_
   rw [List.getElem?_ofFn] at hp; split at hp
   ·rename_i hlt; rw [List.getElem?_map, List.getElem?_range hlt] at hd; cases hp; have hd := Option.some.inj hd; rw [<- hd]; exact (hg ⟨i, hlt⟩).2.1
   ·cases hp
  refine ⟨by rw [HW' hf]; simp, fun _ => ⟨a, rfl⟩, fun ad he j u hu => ?_⟩
  obtain rfl := Option.some.inj he
  have hj : j < len * size := by
   have := (List.getElem?_eq_some_iff.1 hu).1; rw [HW' hf] at this; simpa using this
  have hq : j / size < len := by rw [Nat.div_lt_iff_lt_mul h0]; exact hj
  have hd : j / size * size + j % size = j := by rw [Nat.mul_comm]; exact Nat.div_add_mod j size
  have hk : j / size < (List.ofFn g).length := by simpa using hq
  have hp := IK' hf (List.ofFn g) (j / size) (j % size) hk (Nat.mod_lt _ h0); rw [hd, hu] at hp; have := (hg ⟨j / size, hq⟩).2.2 (j % size) u (by rw [hp]; simp)
  rwa [hd] at this
end Go.Proofs.YtnnojnlejlokhaaGreatDoor.Upto
namespace Go.Proofs.YtnnojnlejlokhaaGreatDoor.Wit
open Go
theorem row_zip {H : Type} {enc : TypeId × Value -> H} {C : Checked} {os : Os} {f : FuncId} {fn : Func} {s : OpenSpec} {conds : List PathCond} {apart : Bool} {laid : List (String × DataW Unit)} (w0 : World) (args : Array Value) (hos : w0.os = os)
  (hv : (w0.forCall (fun _ _ => 0) ⟨#[], args, []⟩).variablesZipB C.prog = true)
  (hr : ((w0.forCall (fun _ _ => 0) ⟨#[], args, []⟩).heap.toList.drop C.prog.globals.size).take ((begin C.prog (fun _ _ => 0) default).world.heap.size - C.prog.globals.size) =
   (begin C.prog (fun _ _ => 0) default).world.heap.toList.drop C.prog.globals.size)
  (hok : Input.okWideB C.prog (w0.forCall (fun _ _ => 0) ⟨#[], args, []⟩) f ⟨#[], args, []⟩ = true)
  (hrow : s.preRow enc C.prog fn conds apart laid (w0.forCall (fun _ _ => 0) ⟨#[], args, []⟩).memory args) :
  ∃ (w : World) (tape : Tape) (i : Input), w.os = os /\ (w.forCall tape i).Shaped C.prog /\ i.vars = [] /\ Input.okWide C.prog (w.forCall tape i) .any w.heap.size f i /\
   s.preRow enc C.prog fn conds apart laid (w.forCall tape i).memory i.args /\ ({} : Assume).holds C.prog (lone (Frame.enter C.prog f i.args .normal) [] (w.forCall tape i)) :=
 ⟨w0, fun _ _ => 0, ⟨#[], args, []⟩, hos, World.shaped_of_ZipB hv hr, (Input.okWide_of_okWideB (base := 0) hok).1, (Input.okWide_of_okWideB hok).2, hrow, by
  simp [Assume.holds]⟩
end Go.Proofs.YtnnojnlejlokhaaGreatDoor.Wit
namespace Go.Proofs.YtnnojnlejlokhaaGreatDoor.Wk
open Go Go.RowKit Eng Kit Co
open Go.ChangeShapes Go.WideShapes Go.Deep
variable {fuel : Nat}
section
variable {H : Type} {enc : TypeId × Value -> H} {w : World} {base : Nat} {spare : Nat -> Bool} {held : Bool}
def wtC (x : Chg) : Nat := x.k.size + x.v.size + 1
theorem open_ch (fuel : Nat) (cs : List Value) (x : DataW H × List MemPlace) (h : DataW.trod enc Θ w base spare held fuel 29 cs = some x) : ∃ p : Chg, cs = chV p /\ True /\ wtC p <= Rows.uptoBulk x.1 := by
 obtain ⟨ys, n, _, rfl, hlen, hyl, hf⟩ := DataW.trod_struct Tryz.underlying29 h
 have zS : Θ.cellsOf 9 = 1 := χ
 have zB : Θ.cellsOf 4 = 1 := χ
 match cs, hlen.trans (by kernel_rfl : Θ.cellsOf 29 = 3) with
 | [c0, c1, c2], _ =>
  match ys, hyl with
  | [y0, y1, y2], _ =>
   obtain ⟨a0, e0, x0, b0⟩ := DataW.trod_string Tryz.underlying9 (by simpa [zS, zB] using hf 0 _ rfl : DataW.trod enc Θ w base spare held n 9 [c0] = some y0); obtain rfl := (List.cons.inj e0).1; obtain ⟨a1, e1, x1, b1⟩ := DataW.trod_string Tryz.underlying9 (by simpa [zS, zB] using hf 1 _ rfl : DataW.trod enc Θ w base spare held n 9 [c1] = some y1); obtain rfl := (List.cons.inj e1).1; obtain ⟨a2, e2, _⟩ := DataW.trod_bool Tryz.underlying4 (by simpa [zS, zB] using hf 2 _ rfl : DataW.trod enc Θ w base spare held n 4 [c2] = some y2); obtain rfl := (List.cons.inj e2).1; refine ⟨⟨a0, a1, a2⟩, rfl, Ye, ?_⟩; have u2 := Upto.one_le y2.1; simp only [List.map_cons, List.map_nil, Rows.uptoBulk, Rows.uptoBulkAll, x0, x1]; have z0 : a0.data.toList.length = a0.size := rfl; have z1 : a1.data.toList.length = a1.size := rfl; have zw : wtC ⟨a0, a1, a2⟩ = a0.size + a1.size + 1 := rfl; rw [zw, <- z0, <- z1]; omega
theorem wtC_sum : ∀ l : List Chg, szL l + l.length <= (l.map wtC).sum
 | [] => Yd
 | x :: l => by
  have := wtC_sum l; rw [List.map_cons, List.sum_cons, D8', List.length_cons, szC, wtC]; omega
theorem cat_of {A : Option Addr} {l : List Chg} (h : Rd w A l.length 3 (l.flatMap chV)) (hb : l.length <= 1048576) : CAt w A l where
 len := hb
 at' := fun i x hx => by
  have hi := (List.getElem?_eq_some_iff.1 hx).1; obtain ⟨a, rfl⟩ := h.here ω
  refine ⟨a, rfl, fun j v hv => ?_⟩
  have hj : j < 3 := by have := (List.getElem?_eq_some_iff.1 hv).1; rwa [chV_len] at this
  have hp := IK' chV_len l i j hi hj; rw [(List.getElem?_eq_some_iff.1 hx).2, hv] at hp; exact h.cells a rfl _ _ hp
theorem cap_of {A : Option Addr} {len cap : Nat} {x : DataW H × List MemPlace} (h : DataW.trod enc Θ w base spare held fuel 23 [.slice A len cap] = some x) : len <= cap := by
 rcases open_slice Tryz.underlying23 h with ⟨hcs, _⟩ | ⟨a, len', cap', m, n, D, Pl, hcs, hb, hl, hm, hmm, hx, hi⟩
 ·simp only [List.cons.injEq, Value.slice.injEq, and_true] at hcs; obtain ⟨rfl, rfl, rfl⟩ := hcs; exact Nat.zero_le _
 ·simp only [List.cons.injEq, Value.slice.injEq, and_true] at hcs; obtain ⟨rfl, rfl, rfl⟩ := hcs; exact hl
theorem SV' {cs : List Value} {x : DataW H × List MemPlace} (h : DataW.trod enc Θ w base spare held fuel 38 cs = some x) : ∃ (ok : Option Addr) (kp : List Bool) (ck : Nat) (tr : Int), cs = [.slice ok kp.length ck, .int .i64 tr] /\ (∀ i b, kp[i]? = some b -> ∃ ak, ok = some ak /\ w.cell? (ak.add (i * 1)) = some (.bool b)) /\ kp.length + 1 <= Rows.uptoBulk x.1 := by
 obtain ⟨ys, n, _, hx, hlen, hyl, hf⟩ := DataW.trod_struct Tryz.underlying38 h
 have zI : Θ.cellsOf 3 = 1 := χ
 have zB : Θ.cellsOf 36 = 1 := χ
 match cs, hlen.trans (by kernel_rfl : Θ.cellsOf 38 = 2) with
 | [c0, c1], _ =>
  match ys, hyl with
  | [y0, y1], _ =>
   have h0 : DataW.trod enc Θ w base spare held n 36 [c0] = some y0 := by simpa [zB] using hf 0 _ rfl
   obtain ⟨z, e1, _, _⟩ := DataW.trod_int Tryz.underlying3 (by simpa [zI] using hf 1 _ rfl : DataW.trod enc Θ w base spare held n 3 [c1] = some y1); obtain rfl := (List.cons.inj e1).1
   have hm : y0.1 ∈ List.map (fun y => y.1) [y0, y1] := by simp
   have hag := Upto.agg_part hm
   rcases open_slice1 Tryz.underlying36 χ h0 with ⟨hcs, _⟩ | ⟨a, len, cap, m, k, V, D, Pl, hcs, hb, hl, hmx, hmm, hx0, hi⟩
   ·obtain rfl := (List.cons.inj hcs).1
    exact ⟨none, [], 0, z, rfl, fun i b h => (by cases h), by rw [hx]; exact Nat.le_trans (Upto.one_le y0.1) (Nat.le_trans (Nat.le_succ _) hag)⟩
   ·obtain rfl := (List.cons.inj hcs).1
    have hlm : len <= m := by rw [hmm]; split <;> omega
    have hall : ∀ i : Fin len, ∃ b : Bool, w.cell? (a.add (i.1 * 1)) = some (.bool b) := fun i => by
     obtain ⟨hc, ht⟩ := hi i.1 ω; obtain ⟨b, e, _⟩ := DataW.trod_bool Tryz.underlying4 ht
     exact ⟨b, by rw [Nat.mul_one, hc, (List.cons.inj e).1]⟩
    obtain ⟨g, hg⟩ := Classical.axiomOfChoice hall
    refine ⟨some a, List.ofFn g, cap, z, by simp, fun j b hj => ?_, ?_⟩
    ·rw [List.getElem?_ofFn] at hj; split at hj
     ·rename_i hlt; cases hj; exact ⟨a, rfl, hg ⟨j, hlt⟩⟩
     ·cases hj
    ·rw [hx]; refine Nat.le_trans ?_ (Nat.le_trans (Nat.le_succ _) hag); rw [hx0]; refine Nat.le_trans (Nat.succ_le_succ ?_) (Upto.slice_elems _ _); refine Nat.le_trans ?_ (Upto.length_le _); simp
theorem open_fate {r : Reach} {b0 : Nat} {v : Value} {d : DataW H} {p : List MemPlace} (hv : Value.okWide Θ w r b0 38 v) (h : DataW.Trod enc Θ w base spare held 38 v d p) :
  ∃ (ok : Option Addr) (kp : List Bool) (ck : Nat) (tr : Int), v = .agg #[.slice ok kp.length ck, .int .i64 tr] /\ (∀ i b, kp[i]? = some b -> ∃ ak, ok = some ak /\ w.cell? (ak.add (i * 1)) = some (.bool b)) /\ kp.length + 1 <= Rows.uptoBulk d := by
 obtain ⟨cs, rfl, hsz⟩ := okWide_struct Tryz.underlying38 hv; obtain ⟨fuel, hf⟩ := h; obtain ⟨ok, kp, ck, tr, hc, hk, hb⟩ := SV' hf
 exact ⟨ok, kp, ck, tr, by rw [show cs = #[.slice ok kp.length ck, .int .i64 tr] from Array.ext' hc], hk, hb⟩
end
theorem atomic_calls {W : World} (hN : LN W) {o1 o2 ok : Option Addr} {l1 l2 : List Chg} {kp : List Bool} (c1 c2 ck : Nat) (tr : Int) (h1 : CAt W o1 l1) (h2 : CAt W o2 l2) (hc : l2.length <= c2) (hK : KAt W ok kp) (hb1 : szL l1 <= 1048576) (hb2 : szL l2 <= 1048576) :
  Calls Θ fAm #[.slice o1 l1.length c1, .slice o2 l2.length c2, .agg #[.slice ok kp.length ck, .int .i64 tr]] W fun e w' => e = .returned (.bool true) /\ Below W.heap.size W w' := by
 refine (SZ' W hN c1 c2 ck tr h1 h2 hc (Nat.le_trans hb1 δ) (Nat.le_trans hb2 δ) hK W (HP.old W) (fun _ => none) W #[.slice o1 l1.length c1, .slice o2 l2.length c2, .agg #[.slice ok kp.length ck, .int .i64 tr]] (WM' W) (fun _ _ _ => rfl) (M8' W) ?_).mono ?_
 ·refine AD'.2 ⟨rfl, AD'.2 ⟨rfl, AD'.2 ⟨⟨[.slice ok kp.length ck, .int .i64 tr], VRs.vmap [_, _], rfl⟩, rfl⟩⟩⟩
 rintro e w' ⟨y, rfl, N', _, _, r, hv⟩; have hy : y = .bool true := VR_v.1 (AD'.1 hv).1; subst hy; exact ⟨rfl, r.old_below⟩
end Go.Proofs.YtnnojnlejlokhaaGreatDoor.Wk
