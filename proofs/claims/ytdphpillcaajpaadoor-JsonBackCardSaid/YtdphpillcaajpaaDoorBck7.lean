/- Parts of the proof, merged. -/
import Derived.Test.YtdphpillcaajpaaDoorBck6
import Derived.Test.YtdphpillcaajpaaDoorBck5
import Derived.Test.YtdphpillcaajpaaDoorBck3
noncomputable section
set_option linter.unusedVariables false
set_option linter.unusedSimpArgs false
set_option maxRecDepth 100000
set_option linter.unusedSectionVars false
namespace Go.Proofs.YtdphpillcaajpaaDoor.Js
open Go Go.RowKit Eng Kit
open Tree (CD' C0' frz WD' KG' NG' I6' five)
open Int renaming ofNat -> o'
open AO renaming cells -> ce'
open AV renaming ptr -> pt'
open List renaming length_append -> la'
variable {j : Nat} {l : Γ} {OL ON : AO} {v : Jv} {LV NV : AV} {F : HP} {W0 w : World} {N : A5'} {ys : List Value} {t : Δ}
def oVE (s : Δ) (j m : Nat) (cs : List AV) (P : Mem -> Prop) (L : List Δ) (OL ON : AO) : LH := [(0, rdO s j), (999, upO), (1001, cJ 6 (sL5 1002 m) (ln L)), (1002, .cells cs tJs), (1003, .any (frz P)), (1004, oZJ), (1005, on L), (1006, OL), (1007, ON)]
def lV : List (Nat × Nat) := [(1001, 1001), (1002, 1103), (1003, 1003), (1004, 1004), (1005, 1005), (1006, 1100), (1007, 1101)]
theorem J7' {s : Δ} {dep m : Nat} {P : Mem -> Prop} {L : List Δ} {n : Δ} {cs cs0 : List AV} {o6 o7 : AO} {e2 e3 : Option AO} (h6 : OW o6 (OL.ren (sg lV))) (h7 : OW o7 (ON.ren (sg lV))) (hcs : cs0 = AV.rens (sg lV) cs) :
  FitT kP iO [.ptr 0 0, iv (o' dep), .ptr 1004 0, .ptr 1001 0, sv n] [some (rdO s j), some upO, some (cJ 6 (.slice 1103 0 m 5 (.lo m)) (ln L)), e2, some (.any (frz P)), some oZJ, some (on L), some o6, some o7, e3, some (.cells cs0 tJs)] (aO dep (sv n)) (oVE s j m cs P L OL ON) lV :=
 ⟨χ, by kernel_rfl, ⟨Ya, Ya, Ya, Ya, Ya, Ye⟩, ⟨⟨_, rfl, Yc⟩, ⟨_, rfl, Yc⟩, ⟨_, rfl, OW.of_eq (by
  show _ = ce' [_, _, _, _, (ln L).ren (sg lV)] _; rw [gH' _ _ rfl]
  rfl)⟩, ⟨_, rfl, OW.of_eq (by rw [hcs]; rfl)⟩, ⟨_, rfl, Yc⟩, ⟨_, rfl, Yc⟩, ⟨_, rfl, OW.of_eq (g6' _ _).symm⟩, ⟨_, rfl, h6⟩, ⟨_, rfl, h7⟩, Ye⟩⟩
section
variable {W : World} {s : Δ} {k dep c i : Nat} {R : List Rj} {P : Mem -> Prop} {L : List Δ} {n : Δ} {q : AX -> SP}
variable (hd : dep <= 100)
include hd
theorem ob_VE (h : VOut c W s i (dep + 1) k (.err c)) (hm : R.length <= 1000000) : PTri (trb c) W (regN fOb 13) (stP (oQo s i R P L) (tms 0 52 (aO dep (sv n)))) q := by
 obtain ⟨_, h⟩ := h
 cases R with
 | nil =>
  refine AY' 52 kP iO rfl (fun F hF => A1' (JL' hF h) noCU) (fun _ _ => noLU) fun F => Yj (jL' W s i dep c (ln L) P (on L) (sv n) F) ⟨⟨?_, rfl, AV' (m := .nothing) rfl⟩⟩
  exact Cb16'
 | cons r R =>
  obtain ⟨q1, q2, q3, q4⟩ := EF' (R := r :: R) rfl hm
  refine AY' 52 kP iO rfl (fun F hF => A1' (JL' hF h) noCU) (fun _ _ => noLU) fun F => Yj (jH' W s i dep c (ln L) P (on L) (sv n) (r :: R).length (r :: R) F) ⟨⟨?_, rfl, AV' (m := .nothing) rfl⟩⟩
  exact Cb17'
theorem ob_VO (hm : R.length <= 1000000) (hv : VSh k v LV NV OL ON) (h : TriU Θ (trb c) W fVal (aVal (dep + 1)) (oU s i) (aV v.kind v.num v.text LV NV) (oV s j OL ON))
  (hq : ∀ W0 F N ys w, St W0 F N (oVE s j (R.length + 1) (rowV encJ R ++ [iv v.kind, iv v.num, sv v.text, LV, NV]) P L OL ON) (tms 0 52 (aO dep (sv n))) ys w -> q .normal W0 F N ys w) : PTri (trb c) W (regN fOb 13) (stP (oQo s i R P L) (tms 0 52 (aO dep (sv n)))) q := by
 cases R with
 | nil =>
  cases hv with
  | P h1 h2 =>
   refine AY' 52 kP iO rfl (fun F hF => A1' (BS' hF (e := k) (v := v) (.P h1 h2) h) noCU) (fun _ _ => noLU) fun F => Yj (jI' W s i dep c (ln L) P (on L) (sv n) v.kind v.num v.text j F) ⟨⟨?_, rfl, _, _, _, rfl, J7' (OL := dum) (ON := dum) (cs := rowV encJ [] ++ [iv v.kind, iv v.num, sv v.text, nilS, nilS]) (Yc) (Yc) rfl, hq⟩⟩
   exact Cb16'
  | L h2 =>
   refine AY' 52 kP iO rfl (fun F hF => A1' (BS' hF (e := k) (v := v) (.L h2) h) noCU) (fun _ _ => noLU) fun F => Yj (jK' W s i dep c (ln L) P (on L) (sv n) v.kind v.num v.text v.list.length k v.list j F) ⟨⟨?_, rfl, _, _, _, rfl, J7' (OL := (ownJ k v.list)) (ON := dum) (cs := rowV encJ [] ++ [iv v.kind, iv v.num, sv v.text, (sL5 1006 v.list.length), nilS]) (Yc) (Yc) rfl, hq⟩⟩
   exact Cb16'
  | O h3 =>
   refine AY' 52 kP iO rfl (fun F hF => A1' (BS' hF (e := k) (v := v) (.O h3) h) noCU) (fun _ _ => noLU) fun F => Yj (jJ' W s i dep c (ln L) P (on L) (sv n) v.kind v.num v.text v.list.length v.names.length k v.list v.names j F) ⟨⟨?_, rfl, _, _, _, rfl, J7' (OL := (ownJ k v.list)) (ON := (rS v.names)) (cs := rowV encJ [] ++ [iv v.kind, iv v.num, sv v.text, (sL5 1006 v.list.length), (sS1 1007 v.names.length)]) (Yc) KX' rfl, hq⟩⟩
   exact Cb16'
 | cons r R =>
  obtain ⟨q1, q2, q3, q4⟩ := EF' (R := r :: R) rfl hm
  cases hv with
  | P h1 h2 =>
   refine AY' 52 kP iO rfl (fun F hF => A1' (BS' hF (e := k) (v := v) (.P h1 h2) h) noCU) (fun _ _ => noLU) fun F => Yj (jE' W s i dep c (ln L) P (on L) (sv n) (r :: R).length (r :: R) v.kind v.num v.text j F) ⟨⟨?_, rfl, _, _, _, rfl, J7' (OL := dum) (ON := dum) (cs := rowV encJ (r :: R) ++ [iv v.kind, iv v.num, sv v.text, nilS, nilS]) (Yc) (Yc) (by rw [HR', AO', CJ' CZ' _ _ rfl]; rfl), hq⟩⟩
   exact Cb17'
  | L h2 =>
   refine AY' 52 kP iO rfl (fun F hF => A1' (BS' hF (e := k) (v := v) (.L h2) h) noCU) (fun _ _ => noLU) fun F => Yj (jG' W s i dep c (ln L) P (on L) (sv n) (r :: R).length (r :: R) v.kind v.num v.text v.list.length k v.list j F) ⟨⟨?_, rfl, _, _, _, rfl, J7' (OL := (ownJ k v.list)) (ON := dum) (cs := rowV encJ (r :: R) ++ [iv v.kind, iv v.num, sv v.text, (sL5 1006 v.list.length), nilS]) (Yc) (Yc) (by rw [HR', AO', CJ' CZ' _ _ rfl]; rfl), hq⟩⟩
   exact Cb17'
  | O h3 =>
   refine AY' 52 kP iO rfl (fun F hF => A1' (BS' hF (e := k) (v := v) (.O h3) h) noCU) (fun _ _ => noLU) fun F => Yj (jF' W s i dep c (ln L) P (on L) (sv n) (r :: R).length (r :: R) v.kind v.num v.text v.list.length v.names.length k v.list v.names j F) ⟨⟨?_, rfl, _, _, _, rfl, J7' (OL := (ownJ k v.list)) (ON := (rS v.names)) (cs := rowV encJ (r :: R) ++ [iv v.kind, iv v.num, sv v.text, (sL5 1006 v.list.length), (sS1 1007 v.names.length)]) (Yc) KX' (by rw [HR', AO', CJ' CZ' _ _ rfl]; rfl), hq⟩⟩
   exact Cb17'
omit hd
theorem oQ_row {s : Δ} {i : Nat} {R : List Rj} {r : Rj} {P : Mem -> Prop} {L : List Δ} : oQo s i (R ++ [r]) P L = oO s i (sL5 1002 (R.length + 1)) (ln L) (rJ (R ++ [r])) P (on L) := by
 cases R with
 | nil => rfl
 | cons a R =>
  show oO s i (sL5 1002 (a :: (R ++ [r])).length) (ln L) _ P _ = _
  rw [show (a :: (R ++ [r])).length = (a :: R).length + 1 from by simp]
  rfl
theorem aO_cls (K : Nat -> Bool) (h : K 0 = true /\ K 1001 = true /\ K 1004 = true) (dep : Nat) (n : Δ) : AV.cls K (tms 0 52 (aO dep (sv n))) := E9' (show ∀ x ∈ aO dep (sv n), AV.cl K x.2 from A2' h.1 (A2' Ye (A2' h.2.2 (A2' h.2.1 (A2' Ye A4'))))) 52 0
theorem on_cl (K : Nat -> Bool) (L : List Δ) : (on L).cl K := by
 cases L with
 | nil => trivial
 | cons a L => exact G9' _ _
theorem ln_cl (K : Nat -> Bool) (L : List Δ) (h : K 1005 = true) : (ln L).cl K := by
 cases L with
 | nil => trivial
 | cons a L => exact h
theorem j0' {vs : List Jv} (hv : VSh k v LV NV OL ON) (hb : v.names.length <= 1000000)
  (hs : St W0 F N (oVE s j (R.length + 1) (rowV encJ R ++ [iv v.kind, iv v.num, sv v.text, LV, NV]) (PJ (k + 1) R vs) L OL ON) (tms 0 52 (aO dep (sv n))) ys w) :
  ∃ r', St W0 F N (oQo s j (R ++ [r']) (PJ (k + 1) (R ++ [r']) (vs ++ [v])) L) (tms 0 52 (aO dep (sv n))) ys w := by
 obtain ⟨r', hr⟩ := WC' (e := k) (R := R) (l0 := vs) (v := v) rfl hs rfl rfl rfl rfl hv (by have : big = 140737488351232 := rfl; omega); refine ⟨r', ?_⟩; rw [oQ_row]; refine hr _ rfl rfl rfl (fun n o h1 h2 h3 => ?_) (aO_cls _ ⟨rfl, rfl, rfl⟩ _ _) (A2' ⟨Ye, Ye, Ye⟩ (A2' Ye (A2' ⟨Ye, Ye, Ye, rfl, ln_cl _ _ rfl, Ye⟩ (A2' (IQ' _ _) (A2' Ye (A2' ⟨Ye, Ye, Ye, Ye, Ye, Ye⟩ (A2' (on_cl _ _) A4'))))))); simp only [oO, getO] at h3; simp only [oVE, getO]
 by_cases e0 : n = 0
 ·subst e0; exact ⟨⟨δ, by decide⟩, h3⟩
 by_cases e9 : n = 999
 ·subst e9; exact ⟨⟨δ, by decide⟩, h3⟩
 by_cases e1 : n = 1001
 ·subst e1; exact ⟨⟨δ, by decide⟩, h3⟩
 by_cases e4 : n = 1004
 ·subst e4; exact ⟨⟨δ, by decide⟩, h3⟩
 by_cases e5 : n = 1005
 ·subst e5; exact ⟨⟨δ, by decide⟩, h3⟩
 rw [if_neg e0, if_neg e9, if_neg e1, if_neg h1, if_neg h2, if_neg e4, if_neg e5] at h3; cases h3
end
def oP (s : Δ) (i m m2 : Nat) (R : List Rj) (P : Mem -> Prop) (L : List Δ) : LH := oO s i (sL5 1002 m) (sS1 1005 m2) (rJ R) P (rS L)
def oOR (s : Δ) (j m m2 : Nat) (R : List Rj) (P : Mem -> Prop) (L : List Δ) : LH := [(0, rdO s j), (999, upO), (1002, rJ R), (1003, .any (frz P)), (1004, cJ 6 (sL5 1002 m) (sS1 1005 m2)), (1005, rS L)]
section
variable {W : World} {s : Δ} {k dep c i : Nat} {R : List Rj} {P : Mem -> Prop} {L : List Δ} {n : Δ} {nv : AV} {q : AX -> SP} {m m2 : Nat}
theorem ob_HE (h : ∀ v H', TriU Θ (trb c) W fMo (aMo 125) (oU s i) v H') : PTri (trb c) W (C6' fOb 14) (stP (oP s i m m2 R P L) (tms 0 52 (aO dep nv))) q := by
 refine AY' 52 kMO iO rfl (fun F hF => A1' (EY' hF (E3' _ _ _) (Q7' _ _) h) noCU) (fun _ _ => noLU) fun F => Yj (oHE_eq W s i dep c m m2 R P L nv F) ⟨⟨?_, rfl, AV' (m := .nothing) rfl⟩⟩
 exact Cb18'
theorem ob_HT (h : TriU Θ (trb c) W fMo (aMo 125) (oU s i) (bv true) (oU s j)) (hq : ∀ W0 F N ys w, St W0 F N (oP s j m m2 R P L) (tms 0 52 (aO dep .any)) ys w -> q .normal W0 F N ys w) : PTri (trb c) W (C6' fOb 14) (stP (oP s i m m2 R P L) (tms 0 52 (aO dep nv))) q := by
 refine AY' 52 kMO iO rfl (fun F hF => A1' (CS' hF (E3' _ _ _) (Q7' _ _) h) noCU) (fun _ _ => noLU) fun F => Yj (oHT_eq W s i j dep c m m2 R P L nv F) ⟨⟨?_, rfl, aO dep .any, oP s j m m2 R P L, lI, rfl, ⟨χ, by kernel_rfl, ⟨Ya, Ya, Ya, Ya, Wk.any _, Ye⟩, ⟨⟨_, rfl, Yc⟩, ⟨_, rfl, Yc⟩, ⟨_, rfl, Yc⟩, ⟨_, rfl, OW.of_eq (E0' _ _ _).symm⟩, ⟨_, rfl, Yc⟩, ⟨_, rfl, Yc⟩, ⟨_, rfl, OW.of_eq (E0' _ _ _).symm⟩, Ye⟩⟩, hq⟩⟩
 exact Cb18'
theorem ob_HF (h : TriU Θ (trb c) W fMo (aMo 125) (oU s i) (bv false) (oU s j)) (hq : ∀ W0 F N ys w, St W0 F N (oOR s j m m2 R P L) (tms 0 52 [(4, .ptr 1004 0)]) ys w -> q .ret W0 F N ys w) : PTri (trb c) W (C6' fOb 14) (stP (oP s i m m2 R P L) (tms 0 52 (aO dep nv))) q := by
 refine AY' 52 kMO [4] rfl (fun F hF => A1' (CS' hF (E3' _ _ _) (Q7' _ _) h) noCU) (fun _ _ => noLU) fun F => Yj (oHF_eq W s i j dep c m m2 R P L nv F) ⟨⟨?_, rfl, [(4, .ptr 1004 0)], oOR s j m m2 R P L, [(1002, 1002), (1003, 1003), (1004, 1004), (1005, 1005)], rfl, ⟨χ, by kernel_rfl, ⟨Ya, Ye⟩, ⟨⟨_, rfl, Yc⟩, ⟨_, rfl, Yc⟩, ⟨_, rfl, OW.of_eq (E0' _ _ _).symm⟩, ⟨_, rfl, Yc⟩, ⟨_, rfl, Yc⟩, ⟨_, rfl, OW.of_eq (E0' _ _ _).symm⟩, Ye⟩⟩, hq⟩⟩
 exact Cb18'
theorem y4_cls (K : Nat -> Bool) (h : K 1004 = true) : AV.cls K (tms 0 52 [(4, .ptr 1004 0)]) := E9' (show ∀ x ∈ [(4, pt' 1004 0)], AV.cl K x.2 from A2' h A4') 52 0
theorem bJ' {R : List Rj} {vs : List Jv} {ns : List Δ} (hR : R.length = vs.length) (hvs : vs.length <= 1000000) (hs : St W0 F N (oOR s j R.length ns.length R (PJ (k + 1) R vs) ns) (tms 0 52 [(4, .ptr 1004 0)]) ys w) : St W0 F N (oOZ s j (k + 1) vs ns) (tms 0 52 [(4, .ptr 1004 0)]) ys w := by
 rw [hR] at hs; refine KG' (H' := oOZ s j (k + 1) vs ns) rfl rfl hs 1002 1003 δ rfl rfl rfl rfl (fun n o h1 h2 h3 => ?_) (fun N1 Di Dk h1 h2 h3 _ => VI' (by have : big = 140737488351232 := rfl; omega) h1 h2 h3) (y4_cls _ rfl) (A2' ⟨Ye, Ye, Ye⟩ (A2' Ye (A2' ⟨Ye, Ye, Ye, rfl, rfl, Ye⟩ (A2' Ye (A2' (G9' _ _) A4'))))); simp only [oOZ, getO] at h3; simp only [oOR, getO]
 by_cases e0 : n = 0
 ·subst e0; exact h3
 by_cases e9 : n = 999
 ·subst e9; exact h3
 by_cases e4 : n = 1004
 ·subst e4; exact h3
 by_cases e5 : n = 1005
 ·subst e5; exact h3
 rw [if_neg e0, if_neg e9, if_neg e4, if_neg h1, if_neg e5] at h3; cases h3
end
theorem j1' : AA' fOb 4 = .block 1 (.seq (BL' fOb 4) (.seq (BL' fOb 6) (.seq (BL' fOb 7) (.seq (BL' fOb 9) (.seq (BL' fOb 11) (.seq (BL' fOb 12) (.seq (regN fOb 13) (C6' fOb 14)))))))) := χ
theorem QU' (l : Γ) : ∀ (f i : Nat) (acc : Γ) (t : Γ) (j : Nat), txtP l f i acc = .ok t j -> i < j /\ j <= l.length
 | 0, i, acc, t, j, h => by cases h
 | f + 1, i, acc, t, j, h => by
  cases hx : l[i]? with
  | none => rw [txtP, hx] at h; cases h
  | some x =>
   rw [C5' l f i acc hx] at h; have hi : i < l.length := (List.getElem?_eq_some_iff.1 hx).1; split at h
   ·injection h with h1 h2; omega
   ·split at h
    ·cases h
    ·split at h
     ·cases he : escP l (i + 1) with
      | err e => rw [he] at h; cases h
      | ok b m =>
       rw [he] at h; obtain ⟨_, h1, h2, _⟩ := LI' he; have := QU' l f _ _ t j h; omega
     ·split at h
      ·cases h
      ·have := QU' l f _ _ t j h; omega
theorem N9' {i : Nat} (h : txtA l i = .ok t j) : i < j /\ j <= l.length := by
 unfold txtA at h
 cases hp : txtP l (l.length + 1) i [] with
 | err e => rw [hp] at h; cases h
 | ok a m =>
  rw [hp] at h
  injection h with h1 h2
  subst h2; exact QU' l _ _ _ _ _ hp
section
variable {W : World} {s : Δ} {k dep c i : Nat} {R : List Rj} {P : Mem -> Prop} {L : List Δ} {n : Δ} {nv : AV} {q : AX -> SP} {m m2 : Nat}
theorem Y8' (hs : s.size <= 1000000) (hi : i <= s.size) (he : CT' s i = true) (h3 : c = 3) : ∀ v H', TriU Θ (trb c) W fNx [.ptr 0 0] (oU s i) v H' := fun v H' =>
 TriU.die ((U4' W s (by unfold Few; omega) i hi c).1 he h3) rfl rfl
theorem dW' (hs : s.size <= 1000000) (hi : i <= s.size) (he : CT' s i = false) : TriU Θ (trb c) W fNx [.ptr 0 0] (oU s i) (byv ((bts s).getD (skB (bts s) i) 0)) (oU s (skB (bts s) i)) :=
 (U4' W s (by unfold Few; omega) i hi c).2 he
theorem PTri.andThen {R : PanT} {c1 c2 : Code} {p mid : SP} {q : AX -> SP} (h1 : PTri R W c1 p (fun x W0 F N ys w => x = .normal /\ mid W0 F N ys w)) (h2 : PTri R W c2 mid q) : PTri R W (.seq c1 c2) p q :=
 PTri.seq h1 (h2.pre fun W0 F N ys w h => h.2) (fun x hx W0 F N ys w h => absurd h.1 hx)
theorem PTri.dies {R : PanT} {c1 c2 : Code} {p : SP} {q : AX -> SP} (h1 : PTri R W c1 p (fun _ _ _ _ _ _ => False)) : PTri R W (.seq c1 c2) p q :=
 PTri.seq h1 (fun W0 F N w a Q hF hp => hp.elim) (fun x _ W0 F N ys w h => h.elim)
theorem ob_mem (hW : LWT W) (hs : s.size <= 1000000) (hi : i <= s.size) (hL : L.length <= 1000000) (hr : OkN nv) (hE : ∀ e, memP (bts s) i L = .err e -> e = c) {Y : Code}
  (hY : ∀ n j, memP (bts s) i L = .ok n j -> i < j -> j <= s.size -> PTri (trb c) W Y (stP (oQo s j R P (L ++ [n])) (tms 0 52 (aO dep (sv n)))) q) :
  PTri (trb c) W (.seq (BL' fOb 4) (.seq (BL' fOb 6) (.seq (BL' fOb 7) (.seq (BL' fOb 9) (.seq (BL' fOb 11) (.seq (BL' fOb 12) Y)))))) (stP (oQo s i R P L) (tms 0 52 (aO dep nv))) q := by
 unfold memP at hE hY
 cases he : CT' s i with
 | true =>
  rw [GE' he] at hE; exact PTri.dies (ob_AE (Y8' hs hi he (hE 3 rfl).symm))
 | false =>
  rw [DV' hi he] at hE hY; simp only at hE hY; have hsk := G4' hi he; have hge := C2' (bts s) i; have hnx := dW' (W := W) (c := c) hs hi he; obtain ⟨x, hx⟩ : ∃ x, (bts s).getD (skB (bts s) i) 0 = x := ⟨_, rfl⟩; rw [hx] at hE hY hnx
  by_cases h34 : x = 34
  ·rw [if_pos h34] at hE hY; refine PTri.andThen (mid := stP (oQo s (skB (bts s) i) R P L) (tms 0 52 (aO dep nv))) (ob_AO hnx h34 hr fun W0 F N ys w h => ⟨rfl, h⟩) ?_
   cases ht : txtA (bts s) (skB (bts s) i + 1) with
   | err e =>
    rw [ht] at hE; have h3 : e = c := hE e rfl; rw [h3] at ht; exact PTri.dies (ob_BE (hO' hW hs hsk ht))
   | ok t j =>
    rw [ht] at hE hY; simp only at hE hY; obtain ⟨hj1, hj2⟩ := N9' ht; have hj3 : j <= s.size := hj2; refine PTri.andThen (mid := stP (oQo s j R P L) (tms 0 52 (aO dep (sv t)))) (ob_BO (TxtOk hW hs hsk ht) fun W0 F N ys w h => ⟨rfl, h⟩) ?_
    cases hh : hasM L t with
    | true =>
     rw [hh] at hE; exact PTri.dies (ob_CD hh hL (hE 5 rfl))
    | false =>
     rw [hh] at hE hY; simp only [Bool.false_eq_true, if_false] at hE hY; refine PTri.andThen (mid := stP (oQo s j R P L) (tms 0 52 (aO dep (sv t)))) (ob_CO hh hL fun W0 F N ys w h => ⟨rfl, h⟩) ?_
     cases he2 : CT' s j with
     | true =>
      rw [GE' he2] at hE; exact PTri.dies (ob_DE (Y8' hs hj3 he2 (hE 3 rfl).symm))
     | false =>
      rw [DV' hj3 he2] at hE hY; simp only at hE hY; have hsk2 := G4' hj3 he2; have hge2 := C2' (bts s) j; have hnx2 := dW' (W := W) (c := c) hs hj3 he2; obtain ⟨y, hy⟩ : ∃ y, (bts s).getD (skB (bts s) j) 0 = y := ⟨_, rfl⟩; rw [hy] at hE hY hnx2
      by_cases h58 : y = 58
      ·rw [if_pos h58] at hE hY; refine PTri.andThen (mid := stP (oQo s (skB (bts s) j) R P L) (tms 0 52 (aO dep (sv t)))) (ob_DO hnx2 h58 (fun _ => rfl) fun W0 F N ys w h => ⟨rfl, h⟩) ?_; refine PTri.andThen (mid := stP (oQo s (skB (bts s) j + 1) R P L) (tms 0 52 (aO dep (sv t)))) (ob_EO rfl ω (fun _ => rfl) fun W0 F N ys w h => ⟨rfl, h⟩) ?_; refine PTri.andThen (mid := stP (oQo s (skB (bts s) j + 1) R P (L ++ [t])) (tms 0 52 (aO dep (sv t)))) (ob_FO hL fun W0 F N ys w h => ⟨rfl, h⟩) ?_; exact hY t (skB (bts s) j + 1) rfl ω ω
      ·rw [if_neg h58] at hE; exact PTri.dies (ob_DN hnx2 h58 (hE 231 rfl))
  ·rw [if_neg h34] at hE; exact PTri.dies (ob_AN hnx h34 (hE 231 rfl))
end
def OP (s : Δ) (k dep i : Nat) (vs : List Jv) (ns : List Δ) : SP := fun W0 F N ys w => ∃ R : List Rj, R.length = vs.length /\ St W0 F N (oQo s i R (PJ (k + 1) R vs) ns) (tms 0 52 (aO dep .any)) ys w
structure OZs (s : Δ) (V : Nat -> Rd Jv) (T : Rd Jv) where
 f : Nat
 i : Nat
 vs : List Jv
 ns : List Δ
 le : i <= s.size
 fuel : s.size < i + f
 few : vs.length <= i
 same : ns.length = vs.length
 eq : obP V (bts s) f i vs ns = T
theorem oQ_ne {s : Δ} {i : Nat} {r : Rj} {R : List Rj} {P : Mem -> Prop} {b : Δ} {L : List Δ} : oQo s i (r :: R) P (b :: L) = oP s i (r :: R).length (b :: L).length (r :: R) P (b :: L) := rfl
theorem PTri.pure {R : PanT} {W : World} {cd : Code} {φ : Prop} {p : SP} {q : AX -> SP} (h : φ -> PTri R W cd p q) : PTri R W cd (fun W0 F N ys w => φ /\ p W0 F N ys w) q := fun W0 F N w a Q hF hp hU hK => h hp.1 W0 F N w a Q hF hp.2 hU hK
section
variable {W : World} {s : Δ} {k dep c i : Nat}
theorem iZ' (hW : LWT W) (hs : s.size <= 1000000) (hd : dep <= 100) {T : Rd Jv} (hT : ∀ e, T = .err e -> e = c) (hV : ∀ i, i <= s.size -> (∀ e, valP (bts s) k i = .err e -> e = c) -> VOut c W s i (dep + 1) k (valP (bts s) k i)) (z : OZs s (valP (bts s) k) T) :
  PTri (trb c) W (.loop (AA' fOb 4)) (OP s k dep z.i z.vs z.ns) (fun x W0 F N ys w => x = .ret /\ ∃ vs ns j, T = .ok (.mk 6 0 nil0 vs ns) j /\ St W0 F N (oOZ s j (k + 1) vs ns) (tms 0 52 [(4, .ptr 1004 0)]) ys w) := by
 refine PTri.loop (p := fun z : OZs s (valP (bts s) k) T => OP s k dep z.i z.vs z.ns) (fun z => z.f) ?_ z; rintro ⟨f, i, vs, ns, h1, h2, h3, h5, h4⟩; simp only at h1 h2 h3 h4 h5 ⊢
 obtain ⟨f, rfl⟩ : ∃ g, f = g + 1 := ⟨f - 1, by omega⟩
 rw [j1']; refine PTri.block ?_ (fun j W0 F N ys w h => by cases h.1); rw [obP] at h4; refine PTri.ex (fun R => PTri.pure fun hR => ?_); refine ob_mem (P := PJ (k + 1) R vs) (R := R) (L := ns) (nv := .any) (i := i) (c := c) (dep := dep) hW hs h1 ω (fun _ => rfl) (fun e he => ?_) (fun n j hm hij hjs => ?_)
 ·rw [he] at h4; exact hT e h4.symm
 rw [hm] at h4; simp only at h4
 cases hv : valP (bts s) k j with
 | err e =>
  rw [hv] at h4; have he : e = c := hT e h4.symm; have ho := hV j hjs (fun e' h' => by rw [hv] at h'; injection h' with h'; rw [<- h']; exact he); rw [hv, he] at ho; exact PTri.dies (ob_VE hd ho ω)
 | ok v j2 =>
  rw [hv] at h4; simp only at h4; have ho := hV j hjs (fun e' h' => by rw [hv] at h'; cases h'); rw [hv] at ho; obtain ⟨hij2, hjs2, hb, LV, NV, OL, ON, hsh, ho⟩ := ho
  refine PTri.seq (m := fun x W0 F N ys w => x = .normal /\ ∃ r', St W0 F N (oQo s j2 (R ++ [r']) (PJ (k + 1) (R ++ [r']) (vs ++ [v])) (ns ++ [n])) (tms 0 52 (aO dep (sv n))) ys w) (ob_VO hd ω hsh ho fun W0 F N ys w h => ⟨rfl, j0' hsh hb h⟩) ?_ (fun x hx W0 F N ys w h => absurd h.1 hx)
  intro W0 F N w a Q hF ⟨_, r', hst⟩ hU hK
  have hll : (vs ++ [v]).length = vs.length + 1 := by rw [la']; rfl
  have hln : (ns ++ [n]).length = ns.length + 1 := by rw [la']; rfl
  have hlR : (R ++ [r']).length = R.length + 1 := by rw [la']; rfl
  obtain ⟨r, R', hRe⟩ : ∃ r R', R ++ [r'] = r :: R' := by
   cases R with
   | nil => exact ⟨_, _, rfl⟩
   | cons a R => exact ⟨_, _, rfl⟩
  obtain ⟨b, L', hLe⟩ : ∃ b L', ns ++ [n] = b :: L' := by
   cases ns with
   | nil => exact ⟨_, _, rfl⟩
   | cons a R => exact ⟨_, _, rfl⟩
  rw [hRe] at hst hlR; rw [hLe] at hst h4 hln; obtain ⟨vs', hvs'⟩ : ∃ vs', vs ++ [v] = vs' := ⟨_, rfl⟩; rw [hvs'] at hst h4 hll; rw [oQ_ne] at hst
  have fin : ∀ q : AX -> SP, PTri (trb c) W (C6' fOb 14) (stP (oP s j2 (r :: R').length (b :: L').length (r :: R') (PJ (k + 1) (r :: R') vs') (b :: L')) (tms 0 52 (aO dep (sv n)))) q -> (∀ x a' w', q x W0 F N a'.tmps.toList w' -> a'.defers = a.defers -> Q (CO' x) a' w') -> Code.wp Θ (C6' fOb 14) Q a w := fun q hq hqK => hq W0 F N w a Q hF hst hU hqK
  cases he : CT' s j2 with
  | true =>
   rw [GE' he] at h4; have h3c : 3 = c := hT 3 h4.symm; exact fin (fun _ _ _ _ _ _ => False) (ob_HE (fun v H' => K7' (NI' hs hjs2 fun _ => h3c.symm) (fun h => by rw [he] at h; cases h) fun h => by rw [he] at h; cases h)) (fun x a' w' h => h.elim)
  | false =>
   rw [DV' hjs2 he] at h4; simp only at h4; obtain ⟨x, hx⟩ : ∃ x, (bts s).getD (skB (bts s) j2) 0 = x := ⟨_, rfl⟩
   have hp : preN s j2 c x := ⟨hjs2, (by unfold Few; omega), (fun h => by rw [he] at h; cases h), fun _ => hx⟩
   have hsk := G4' hjs2 he; have hsg := C2' (bts s) j2; rw [hx] at h4
   by_cases h44 : x = 44
   ·rw [if_pos h44] at h4
    have hb : (x != 44 && x != 125) = false := by rw [h44]; rfl
    refine fin (fun x W0 F N ys w => x = .normal /\ St W0 F N (oP s (skB (bts s) j2 + 1) (r :: R').length (b :: L').length (r :: R') (PJ (k + 1) (r :: R') vs') (b :: L')) (tms 0 52 (aO dep .any)) ys w) (ob_HT (j := skB (bts s) j2 + 1) (K7' hp (fun _ h => by rw [hb] at h; cases h) fun _ _ => ⟨by rw [h44]; rfl, rfl⟩) fun W0 F N ys w h => ⟨rfl, h⟩) (fun x a' w' h hd => ?_)
    obtain ⟨rfl, h⟩ := h
    exact hK .normal a' w' ⟨⟨f, skB (bts s) j2 + 1, vs', b :: L', hsk, by omega, by omega, by omega, h4⟩, Nat.lt_succ_self f, r :: R', (show (r :: R').length = vs'.length by omega), h⟩ hd
   ·rw [if_neg h44] at h4
    by_cases h125 : x = 125
    ·rw [if_pos h125] at h4
     have hb : (x != 44 && x != 125) = false := by rw [h125]; rfl
     refine fin (fun x W0 F N ys w => x = .ret /\ St W0 F N (oOR s (skB (bts s) j2 + 1) (r :: R').length (b :: L').length (r :: R') (PJ (k + 1) (r :: R') vs') (b :: L')) (tms 0 52 [(4, .ptr 1004 0)]) ys w) (ob_HF (j := skB (bts s) j2 + 1) (K7' hp (fun _ h => by rw [hb] at h; cases h) fun _ _ => ⟨by rw [h125]; rfl, rfl⟩) fun W0 F N ys w h => ⟨rfl, h⟩) (fun x a' w' h hd => ?_)
     obtain ⟨rfl, h⟩ := h; exact hK .ret a' w' ⟨rfl, vs', b :: L', skB (bts s) j2 + 1, h4.symm, bJ' ω ω h⟩ hd
    ·rw [if_neg h125] at h4; have h3c : 231 = c := hT 231 h4.symm
     have hb : (x != 44 && x != 125) = true := by rw [Bool.and_eq_true]; exact ⟨bne_iff_ne.2 h44, bne_iff_ne.2 h125⟩
     exact fin (fun _ _ _ _ _ _ => False) (ob_HE (fun v H' => K7' hp (fun _ _ => h3c) fun _ h => by rw [hb] at h; cases h)) (fun x a' w' h => h.elim)
end
section
variable {W : World} {s : Δ} {k dep c i : Nat}
theorem m5' {i : Nat} {ns : List Δ} {n : Δ} (h : memP l i ns = .ok n j) : i < j /\ j <= l.length := by
 unfold memP at h
 cases hg : sgA l i with
 | none => rw [hg] at h; cases h
 | some x =>
  rw [hg] at h; simp only at h; have hge := C2' l i; split at h
  ·cases ht : txtA l (skB l i + 1) with
   | err e => rw [ht] at h; cases h
   | ok t m =>
    rw [ht] at h; simp only at h; obtain ⟨h1, h2⟩ := N9' ht; split at h
    ·cases h
    ·cases hg2 : sgA l m with
     | none => rw [hg2] at h; cases h
     | some y =>
      rw [hg2] at h; simp only at h; have hsk : skB l m < l.length := (List.getElem?_eq_some_iff.1 hg2).1; have hge2 := C2' l m; split at h
      ·injection h with h3 h4
       omega
      ·cases h
  ·cases h
theorem m4' (l : Γ) (i : Nat) (ns : List Δ) : memP l (skB l i) ns = memP l i ns := by unfold memP; rw [WF', KH']
theorem obP_sk (l : Γ) (k f i : Nat) (vs : List Jv) (ns : List Δ) : obP (valP l k) l (f + 1) (skB l i) vs ns = obP (valP l k) l (f + 1) i vs ns := by rw [obP, obP, m4']
theorem g7' {V : Nat -> Rd Jv} {l : Γ} (hV : ∀ i, i <= l.length -> ∀ v j, V i = .ok v j -> i < j /\ j <= l.length) : ∀ (f i : Nat) (vs : List Jv) (ns : List Δ) (v : Jv) (j : Nat), i <= l.length -> vs.length <= i -> ns.length = vs.length -> obP V l f i vs ns = .ok v j ->
  ∃ ws ms, v = .mk 6 0 nil0 ws ms /\ ms.length = ws.length /\ ws.length <= j /\ i < j /\ j <= l.length
 | 0, i, vs, ns, v, j, hi, hvs, hns, h => by cases h
 | f + 1, i, vs, ns, v, j, hi, hvs, hns, h => by
  rw [obP] at h
  cases hm : memP l i ns with
  | err e => rw [hm] at h; cases h
  | ok n m0 =>
   rw [hm] at h; simp only at h; obtain ⟨hm1, hm2⟩ := m5' hm
   cases hv : V m0 with
   | err e => rw [hv] at h; cases h
   | ok w m =>
    rw [hv] at h; simp only at h; obtain ⟨h1, h2⟩ := hV m0 hm2 w m hv
    have hl : (vs ++ [w]).length = vs.length + 1 := by rw [la']; rfl
    have hl2 : (ns ++ [n]).length = ns.length + 1 := by rw [la']; rfl
    cases hg : sgA l m with
    | none => rw [hg] at h; cases h
    | some x =>
     rw [hg] at h; simp only at h; have hsk : skB l m < l.length := (List.getElem?_eq_some_iff.1 hg).1; have hge := C2' l m; split at h
     ·obtain ⟨ws, ms, q1, q0, q2, q3, q4⟩ := g7' hV f _ _ _ v j ω ω ω h
      exact ⟨ws, ms, q1, q0, q2, by omega, q4⟩
     ·split at h
      ·injection h with h3 h4
       subst h4
       exact ⟨vs ++ [w], ns ++ [n], h3.symm, by omega, by omega, by omega, by omega⟩
      ·cases h
theorem iH' {A : List AV} {s : Δ} {i : Nat} (h : St W0 F N (oLB s i 6) A ys w) : St W0 F N (oQo s i [] (PJ (k + 1) [] []) []) A ys w := by
 have h2 : St W0 F N [(0, rdO s i), (999, upO), (1001, cJ 6 nilS nilS), (1002, dum), (1004, oZJ)] A ys w := HP' (i := 1002) (h := HP.pure True) rfl rfl PY' rfl rfl (fun n hn => by
  simp only [oLB, getO]
  by_cases e0 : n = 0
  ·rw [if_pos e0, if_pos e0]
  by_cases e9 : n = 999
  ·rw [if_neg e0, if_neg e0, if_pos e9, if_pos e9]
  by_cases e1 : n = 1001
  ·rw [if_neg e0, if_neg e0, if_neg e9, if_neg e9, if_pos e1, if_pos e1]
  rw [if_neg e0, if_neg e0, if_neg e9, if_neg e9, if_neg e1, if_neg e1, if_neg hn]) h
 have h3 : St W0 F N [(0, rdO s i), (999, upO), (1001, cJ 6 nilS nilS), (1002, dum), (1003, .any (frz (PJ (k + 1) [] []))), (1004, oZJ)] A ys w := HP' (i := 1003) (h := frz (PJ (k + 1) [] [])) rfl rfl (fun w => ⟨PJ.nil _ _, fun b hb => hb.elim⟩) rfl rfl (fun n hn => by
  simp only [getO]
  by_cases e0 : n = 0
  ·rw [if_pos e0, if_pos e0]
  by_cases e9 : n = 999
  ·rw [if_neg e0, if_neg e0, if_pos e9, if_pos e9]
  by_cases e1 : n = 1001
  ·rw [if_neg e0, if_neg e0, if_neg e9, if_neg e9, if_pos e1, if_pos e1]
  by_cases e2 : n = 1002
  ·rw [if_neg e0, if_neg e0, if_neg e9, if_neg e9, if_neg e1, if_neg e1, if_pos e2, if_pos e2]
  rw [if_neg e0, if_neg e0, if_neg e9, if_neg e9, if_neg e1, if_neg e1, if_neg e2, if_neg e2, if_neg hn]) h2
 exact HP' (i := 1005) (h := HP.pure True) rfl rfl PY' rfl rfl (fun n hn => by
  simp only [oQo, oO, getO]
  by_cases e0 : n = 0
  ·rw [if_pos e0, if_pos e0]
  by_cases e9 : n = 999
  ·rw [if_neg e0, if_neg e0, if_pos e9, if_pos e9]
  by_cases e1 : n = 1001
  ·rw [if_neg e0, if_neg e0, if_neg e9, if_neg e9, if_pos e1, if_pos e1]; rfl
  by_cases e2 : n = 1002
  ·rw [if_neg e0, if_neg e0, if_neg e9, if_neg e9, if_neg e1, if_neg e1, if_pos e2, if_pos e2]; rfl
  by_cases e3 : n = 1003
  ·rw [if_neg e0, if_neg e0, if_neg e9, if_neg e9, if_neg e1, if_neg e1, if_neg e2, if_neg e2, if_pos e3, if_pos e3]
  by_cases e4 : n = 1004
  ·rw [if_neg e0, if_neg e0, if_neg e9, if_neg e9, if_neg e1, if_neg e1, if_neg e2, if_neg e2, if_neg e3, if_neg e3, if_pos e4, if_pos e4]
  rw [if_neg e0, if_neg e0, if_neg e9, if_neg e9, if_neg e1, if_neg e1, if_neg e2, if_neg e2, if_neg e3, if_neg e3, if_neg e4, if_neg e4, if_neg hn]) h3
theorem WX' (hW : LWT W) (hs : s.size <= 1000000) (hd : dep <= 100) {T : Rd Jv} (hT : ∀ e, T = .err e -> e = c) (hV : ∀ i, i <= s.size -> (∀ e, valP (bts s) k i = .err e -> e = c) -> VOut c W s i (dep + 1) k (valP (bts s) k i))
  {f : Nat} (hi : i <= s.size) (hf : s.size < i + f) (h : obP (valP (bts s) k) (bts s) f i [] [] = T) {HZ : LH} (hZ : ∀ vs ns j, T = .ok (.mk 6 0 nil0 vs ns) j -> HZ = oOZ s j (k + 1) vs ns) :
  OG' Θ (trb c) W (AA' fOb 4) (tms 0 52 (aOB dep)) (oLB s i 6) .ret (tms 0 52 [(4, .ptr 1004 0)]) HZ :=
 PTri.ltri (((iZ' hW hs hd hT hV ⟨f, i, [], [], hi, hf, Nat.zero_le _, rfl, h⟩).post fun x W0 F N ys w hq => by
  obtain ⟨hx, vs, ns, j, hj, hst⟩ := hq
  exact ⟨hx, by rw [hZ vs ns j hj]; exact hst⟩).pre fun W0 F N ys w hp => ⟨[], rfl, iH' hp⟩)
theorem hL' (dep : Nat) : ∀ x ∈ aOB dep, AV.cl (kH (oLB s i 6)) x.2 := A2' rfl (A2' Ye (A2' rfl (A2' rfl A4')))
theorem Y0' (K : Nat -> Bool) : ∀ x ∈ oLB s i 6, x.2.cl K := A2' ⟨Ye, Ye, Ye⟩ (A2' Ye (A2' ⟨Ye, Ye, Ye, Ye, Ye, Ye⟩ (A2' ⟨Ye, Ye, Ye, Ye, Ye, Ye⟩ A4')))
theorem Ob_out (hW : LWT W) (hs : s.size <= 1000000) (hd : dep <= 99) (hi : i <= s.size) (hT : ∀ e, grP (valP (bts s) k) (bts s) true i = .err e -> e = c) (hV : ∀ i, i <= s.size -> (∀ e, valP (bts s) k i = .err e -> e = c) -> VOut c W s i (dep + 1) k (valP (bts s) k i)) :
  FOut fOb c W s i dep (k + 1) (grP (valP (bts s) k) (bts s) true i) := by
 have hlen : (bts s).length = s.size := rfl; unfold grP at hT ⊢
 cases he : CT' s i with
 | true =>
  rw [GE' he] at hT ⊢; have h3 : 3 = c := hT 3 rfl
  refine ⟨h3, fun v H' => ?_⟩
  refine A9' kF4 rfl (fun F hF => A1' (EY' hF (E3' _ _ _) (Q7' _ _) fun v H' => N7' (NI' hs hi fun _ => h3.symm) fun h => by rw [he] at h; cases h) noCU) (fun _ _ => noLU) fun F => Yj (kZ' W s i dep c F) ⟨⟨?_, AG' (m := .nothing) rfl⟩⟩
  exact Cb18'
 | false =>
  rw [DV' hi he] at hT ⊢; simp only at hT ⊢; obtain ⟨x, hx⟩ : ∃ x, (bts s).getD (skB (bts s) i) 0 = x := ⟨_, rfl⟩; rw [hx] at hT ⊢
  have hp : preN s i c x := ⟨hi, (by unfold Few; omega), (fun h => by rw [he] at h; cases h), fun _ => hx⟩
  have hsk := G4' hi he; have hge := C2' (bts s) i
  by_cases h125 : x = 125
  ·rw [if_pos h125]; have hEm : TriU Θ (trb c) W fEm (aMo 125) (oU s i) (.lit true) (oU s (skB (bts s) i + 1)) := TriU.wk (v := bv true) (N7' hp fun _ => ⟨by rw [h125]; rfl, by rw [h125]; rfl⟩) (A3' true)
   refine ⟨ω, by omega, Nat.zero_le _, nilS, nilS, dum, dum, .P rfl rfl, ?_⟩
   obtain ⟨j, hj⟩ : ∃ j, skB (bts s) i + 1 = j := ⟨_, rfl⟩; rw [hj] at hEm ⊢
   refine A9' kF4 rfl (fun F hF => A1' (CS' hF (E3' _ _ _) (MQ' _ _) hEm) noCU) (fun _ _ => noLU) fun F => Yj (kW' W s i j dep c F) ⟨⟨?_, [aV 6 0 nil0 nilS nilS], oU s j, [], rfl, AJ' [] rfl rfl (Yb) ⟨⟨_, rfl, Yc⟩, ⟨_, rfl, Yc⟩, Ye⟩, fun W0 F N ys w h => BV' h⟩⟩
   exact Cb18'
  ·rw [if_neg h125] at hT ⊢; have hxe : (x == 125) = false := beq_eq_false_iff_ne.2 h125; have hEm : TriU Θ (trb c) W fEm (aMo 125) (oU s i) (.lit false) (oU s (skB (bts s) i)) := TriU.wk (v := bv false) (N7' hp fun _ => ⟨by rw [hxe], by rw [hxe]; rfl⟩) (A3' false)
   have hbd : ∀ i, i <= (bts s).length -> ∀ v j, valP (bts s) k i = .ok v j -> i < j /\ j <= (bts s).length := fun i hi v j h => by
    have ho := hV i hi (fun e h' => by rw [h] at h'; cases h'); rw [h] at ho; exact ⟨ho.1, ho.2.1⟩
   have hsk2 := obP_sk (bts s) k (bts s).length i [] []
   cases hl : obP (valP (bts s) k) (bts s) ((bts s).length + 1) i [] [] with
   | err e =>
    rw [hl] at hT hsk2; have h3 : e = c := hT e rfl
    refine ⟨h3, fun v H' => ?_⟩
    have hlt := WX' (dep := dep) hW hs ω (T := .err e) hT hV (Nat.le_of_lt hsk) ω hsk2 (HZ := oLX s (skB (bts s) i)) (fun vs ns j h => by cases h); obtain ⟨j, hj⟩ : ∃ j, skB (bts s) i = j := ⟨_, rfl⟩; rw [hj] at hEm hlt
    refine A9' kF4 rfl (fun F hF => A1' (CS' hF (E3' _ _ _) (MQ' _ _) hEm) noCU) (fun F hF => MJ' (L4' hF TE' (fun _ _ => hlt) fun _ _ => by
     simp only [RT.pick]
     exact C4' rfl rfl (hL' dep) (Y0' _) (A2' rfl A4') (A2' ⟨Ye, Ye, Ye⟩ (A2' Ye (A2' ⟨Ye, Ye, Ye, Ye, Ye, Ye⟩ A4'))))) fun F => Yj (kY' W s i j dep c F) ⟨⟨?_, AG' (m := .nothing) rfl⟩⟩
    exact Cb18'
   | ok v j2 =>
    rw [hl] at hT hsk2; obtain ⟨ws, ns, rfl, q1, q2, q3, q4⟩ := g7' hbd _ _ _ _ _ _ hi (Nat.zero_le _) rfl hl; have q4' : j2 <= s.size := q4; refine ⟨q3, q4, (show ns.length <= 1000000 by omega), _, _, _, _, .O (g9' _ _ _ _ _ _ hl), ?_⟩; have hlt := WX' (dep := dep) hW hs ω (T := .ok (.mk 6 0 nil0 ws ns) j2) hT hV (Nat.le_of_lt hsk) ω hsk2 (HZ := oOZ s j2 (k + 1) ws ns) (fun vs ns j h => by injection h with h1 h2; injection h1 with _ _ _ h3 h4; rw [h2, h3, h4]); obtain ⟨j, hj⟩ : ∃ j, skB (bts s) i = j := ⟨_, rfl⟩; rw [hj] at hEm hlt
    refine A9' [0, 999, 1103, 1104] rfl (fun F hF => A1' (CS' hF (E3' _ _ _) (MQ' _ _) hEm) noCU) (fun F hF => MJ' (L4' hF TE' (fun _ _ => hlt) fun _ _ => by
     simp only [RT.pick]
     exact C4' rfl rfl (hL' dep) (Y0' _) (A2' rfl A4') (A2' ⟨Ye, Ye, Ye⟩ (A2' Ye (A2' ⟨Ye, Ye, Ye, rfl, rfl, Ye⟩ (A2' Ye (A2' (G9' _ _) A4'))))))) fun F => Yj (kX' W s i j j2 dep c (k + 1) ws ns F) ⟨⟨?_, [aV 6 0 nil0 (sL5 1006 ws.length) (sS1 1007 ns.length)], oV s j2 (ownJ (k + 1) ws) (rS ns), [(1006, 1103), (1007, 1104)], rfl, AJ' [(1006, 1103), (1007, 1104)] χ χ (Yb) ⟨⟨_, rfl, Yc⟩, ⟨_, rfl, Yc⟩, ⟨_, rfl, Yc⟩, ⟨_, rfl, KX'⟩, Ye⟩, fun W0 F N ys w h => h⟩⟩
    exact Cb18'
end
noncomputable section
abbrev h167' (z : Cnd) : Cnd := ((p' (∀ (a b : Nat) (D : Nat -> Prop) (w : World),¬(noH a b).on D w)).a (tt'.a z))
abbrev k168' (q0 : Δ) (q1 q2 : Nat) : Cnd := ((p' (BW' q0 (q1 + 1) (RS.mk 0 (q1 + 1) q0))).a ((vw' [pt' 0 0,i' q2]).a ((ow' (ce' [s' q0,i' (q1 + 1)] 114)).a (f' (OW Ω Ω)))))
abbrev k169' (q0 : Nat) : Cnd := (wb' (decide (o' q0 > o' 16)) g')
theorem X2' (W : World) (s : Δ) (i0 i dep c : Nat) (x : UInt8) (F : HP) : uRun (trb c) [(fNx, cTo1 s i0 (byv x) i), (fGv, cGv c), (fOb, cDie (aVal dep) s (i + 1) (aV 0 0 nil0 nilS nilS))] (AD' ([ht' fVal 3 0] ++ [hf' fVal 5 1, (fVal, 7, 4, hv (iv (o' (i + 1)))), hf' fVal 8 1])) [] W fVal (aVal dep) (oU s i0) kV F = VT.leaf (AV.agg [i' 0,i' 0,s' nil0,e',e']) [some (ce' [s' s,i' (i + 1)] 114),some (AO.own Md.nothing noH),none,none] 1101 ((k141' s i0).a ((nt' x 123).a ((k169' dep).a ((k12' i).a ((k59' i).a (k40'.a ((nb' x 91).a ((k168' s i dep).a (k40'.a (h167' (k157'.a k1'))))))))))) := χ
abbrev k170' (q0 q1 : Int) (q2 : Δ) : Cnd := (p' ([z' q0,z' q1,s' q2,e',e'] = [z' q0,z' q1,s' q2,e',e']))
abbrev mM' (q0 : Δ) (q1 : Nat) (q2 : UInt8) (q3 q4 : Nat) (z : Cnd) : Cnd := (((p' (BW' q0 q1 (RS.mk 0 q1 q0))).a ((vw' [pt' 0 0]).a ((ow' (ce' [s' q0,i' q1] 114)).a (f' (OW Ω Ω))))).a ((nt' q2 123).a ((wb' (decide (o' q3 > o' 16)) g').a ((ee' (i' q4)).a ((f' (Wk (z' (IntKind.i64.wrap (o' q4 + o' 1))) (i' (q4 + 1)))).a ((fe' true).a ((nb' q2 91).a (((p' (BW' q0 (q4 + 1) (RS.mk 0 (q4 + 1) q0))).a ((vw' [pt' 0 0,i' q3]).a ((ow' (ce' [s' q0,i' (q4 + 1)] 114)).a (f' (OW Ω Ω))))).a ((fe' true).a (tt'.a z))))))))))
theorem WZ' (W : World) (s : Δ) (i0 i dep c : Nat) (x : UInt8) (k n : Int) (t : Δ) (j : Nat) (F : HP) : uRun (trb c) [(fNx, cTo1 s i0 (byv x) i), (fGv, cGv c), (fOb, cVO (aVal dep) s (i + 1) k n t nilS nilS dum dum j)] (AD' ([ht' fVal 3 0] ++ [hf' fVal 5 1, (fVal, 7, 4, hv (iv (o' (i + 1)))), hf' fVal 8 1])) [] W fVal (aVal dep) (oU s i0) kV F = VT.leaf (AV.agg [z' k,z' n,s' t,e',e']) [some (ce' [s' s,i' j] 114),some Ω,some Ω,some Ω] 1103 (mM' s i0 x dep i ((k170' k n t).a k1')) := χ
abbrev k172' (q0 q1 : Int) (q2 : Δ) (q3 q4 : Nat) : Cnd := (p' ([z' q0,z' q1,s' q2,AV.slice q3 0 q4 5 (Cp.lo q4),e'] = [z' q0,z' q1,s' q2,AV.slice q3 0 q4 5 (Cp.lo q4),e']))
theorem X1' (W : World) (s : Δ) (i0 i dep c : Nat) (x : UInt8) (k n : Int) (t : Δ) (m1 d : Nat) (l : List Jv) (j : Nat) (F : HP) : uRun (trb c) [(fNx, cTo1 s i0 (byv x) i), (fGv, cGv c), (fOb, cVO (aVal dep) s (i + 1) k n t (sL5 1006 m1) nilS (ownJ d l) dum j)] (AD' ([ht' fVal 3 0] ++ [hf' fVal 5 1, (fVal, 7, 4, hv (iv (o' (i + 1)))), hf' fVal 8 1])) [] W fVal (aVal dep) (oU s i0) kV F = VT.leaf (AV.agg [z' k,z' n,s' t,AV.slice 1101 0 m1 5 (Cp.lo m1),e']) [some (ce' [s' s,i' j] 114),some Ω,some (AO.own mdJ fun b x => Tree.frz fun C => LOf (JAt C d) C (some (Addr.mk b 0 none)) l),some Ω] 1103 (mM' s i0 x dep i ((k172' k n t 1101 m1).a k1')) := χ
abbrev k173' (q0 q1 : Int) (q2 : Δ) (q3 q4 q5 q6 : Nat) : Cnd := (p' ([z' q0,z' q1,s' q2,AV.slice q3 0 q4 5 (Cp.lo q4),AV.slice q5 0 q6 1 (Cp.lo q6)] = [z' q0,z' q1,s' q2,AV.slice q3 0 q4 5 (Cp.lo q4),AV.slice q5 0 q6 1 (Cp.lo q6)]))
theorem X0' (W : World) (s : Δ) (i0 i dep c : Nat) (x : UInt8) (k n : Int) (t : Δ) (m1 m2 d : Nat) (l : List Jv) (ns : List Δ) (j : Nat) (F : HP) : uRun (trb c) [(fNx, cTo1 s i0 (byv x) i), (fGv, cGv c), (fOb, cVO (aVal dep) s (i + 1) k n t (sL5 1006 m1) (sS1 1007 m2) (ownJ d l) (rS ns) j)] (AD' ([ht' fVal 3 0] ++ [hf' fVal 5 1, (fVal, 7, 4, hv (iv (o' (i + 1)))), hf' fVal 8 1])) [] W fVal (aVal dep) (oU s i0) kV F = VT.leaf (AV.agg [z' k,z' n,s' t,AV.slice 1101 0 m1 5 (Cp.lo m1),AV.slice 1102 0 m2 1 (Cp.lo m2)]) [some (ce' [s' s,i' j] 114),some Ω,some (AO.own mdJ fun b x => Tree.frz fun C => LOf (JAt C d) C (some (Addr.mk b 0 none)) l),some (ce' (AV.rens (sgN (nmR (RS.mk 0 (i + 1) s)) [1006,1007] 1101) (rowV encS ns)) 18)] 1103 (mM' s i0 x dep i ((k173' k n t 1101 m1 1102 m2).a k1')) := χ
theorem X9' (W : World) (s : Δ) (i0 i dep c : Nat) (x : UInt8) (F : HP) : uRun (trb c) [(fNx, cTo1 s i0 (byv x) i), (fGv, cGv c), (fLs, cDie (aVal dep) s (i + 1) (aV 0 0 nil0 nilS nilS))] (AD' ([hf' fVal 3 0, ht' fVal 4 0] ++ [hf' fVal 5 1, (fVal, 7, 4, hv (iv (o' (i + 1)))), ht' fVal 8 1])) [] W fVal (aVal dep) (oU s i0) kV F = VT.leaf (AV.agg [i' 0,i' 0,s' nil0,e',e']) [some (ce' [s' s,i' (i + 1)] 114),some (AO.own Md.nothing noH),none,none] 1101 ((k141' s i0).a ((nb' x 123).a ((nt' x 91).a ((k169' dep).a ((k12' i).a ((k59' i).a (k40'.a ((nt' x 91).a ((k168' s i dep).a (k40'.a (h167' (k157'.a k1')))))))))))) := χ
abbrev mL' (q0 : Δ) (q1 : Nat) (q2 : UInt8) (q3 q4 : Nat) (z : Cnd) : Cnd := (((p' (BW' q0 q1 (RS.mk 0 q1 q0))).a ((vw' [pt' 0 0]).a ((ow' (ce' [s' q0,i' q1] 114)).a (f' (OW Ω Ω))))).a ((nb' q2 123).a ((nt' q2 91).a ((wb' (decide (o' q3 > o' 16)) g').a ((ee' (i' q4)).a ((f' (Wk (z' (IntKind.i64.wrap (o' q4 + o' 1))) (i' (q4 + 1)))).a ((fe' true).a ((nt' q2 91).a (((p' (BW' q0 (q4 + 1) (RS.mk 0 (q4 + 1) q0))).a ((vw' [pt' 0 0,i' q3]).a ((ow' (ce' [s' q0,i' (q4 + 1)] 114)).a (f' (OW Ω Ω))))).a ((fe' true).a (tt'.a z)))))))))))
theorem X6' (W : World) (s : Δ) (i0 i dep c : Nat) (x : UInt8) (k n : Int) (t : Δ) (j : Nat) (F : HP) : uRun (trb c) [(fNx, cTo1 s i0 (byv x) i), (fGv, cGv c), (fLs, cVO (aVal dep) s (i + 1) k n t nilS nilS dum dum j)] (AD' ([hf' fVal 3 0, ht' fVal 4 0] ++ [hf' fVal 5 1, (fVal, 7, 4, hv (iv (o' (i + 1)))), ht' fVal 8 1])) [] W fVal (aVal dep) (oU s i0) kV F = VT.leaf (AV.agg [z' k,z' n,s' t,e',e']) [some (ce' [s' s,i' j] 114),some Ω,some Ω,some Ω] 1103 (mL' s i0 x dep i ((k170' k n t).a k1')) := χ
theorem X8' (W : World) (s : Δ) (i0 i dep c : Nat) (x : UInt8) (k n : Int) (t : Δ) (m1 d : Nat) (l : List Jv) (j : Nat) (F : HP) : uRun (trb c) [(fNx, cTo1 s i0 (byv x) i), (fGv, cGv c), (fLs, cVO (aVal dep) s (i + 1) k n t (sL5 1006 m1) nilS (ownJ d l) dum j)] (AD' ([hf' fVal 3 0, ht' fVal 4 0] ++ [hf' fVal 5 1, (fVal, 7, 4, hv (iv (o' (i + 1)))), ht' fVal 8 1])) [] W fVal (aVal dep) (oU s i0) kV F = VT.leaf (AV.agg [z' k,z' n,s' t,AV.slice 1101 0 m1 5 (Cp.lo m1),e']) [some (ce' [s' s,i' j] 114),some Ω,some (AO.own mdJ fun b x => Tree.frz fun C => LOf (JAt C d) C (some (Addr.mk b 0 none)) l),some Ω] 1103 (mL' s i0 x dep i ((k172' k n t 1101 m1).a k1')) := χ
theorem X7' (W : World) (s : Δ) (i0 i dep c : Nat) (x : UInt8) (k n : Int) (t : Δ) (m1 m2 d : Nat) (l : List Jv) (ns : List Δ) (j : Nat) (F : HP) : uRun (trb c) [(fNx, cTo1 s i0 (byv x) i), (fGv, cGv c), (fLs, cVO (aVal dep) s (i + 1) k n t (sL5 1006 m1) (sS1 1007 m2) (ownJ d l) (rS ns) j)] (AD' ([hf' fVal 3 0, ht' fVal 4 0] ++ [hf' fVal 5 1, (fVal, 7, 4, hv (iv (o' (i + 1)))), ht' fVal 8 1])) [] W fVal (aVal dep) (oU s i0) kV F = VT.leaf (AV.agg [z' k,z' n,s' t,AV.slice 1101 0 m1 5 (Cp.lo m1),AV.slice 1102 0 m2 1 (Cp.lo m2)]) [some (ce' [s' s,i' j] 114),some Ω,some (AO.own mdJ fun b x => Tree.frz fun C => LOf (JAt C d) C (some (Addr.mk b 0 none)) l),some (ce' (AV.rens (sgN (nmR (RS.mk 0 (i + 1) s)) [1006,1007] 1101) (rowV encS ns)) 18)] 1103 (mL' s i0 x dep i ((k173' k n t 1101 m1 1102 m2).a k1')) := χ
end
noncomputable section
abbrev h175' (q0 : Δ) (q1 : Nat) (q2 : UInt8) (z : Cnd) : Cnd := (((p' (BW' q0 q1 (RS.mk 0 q1 q0))).a ((vw' [pt' 0 0]).a ((ow' (ce' [s' q0,i' q1] 114)).a (f' (OW Ω Ω))))).a ((nb' q2 123).a ((nb' q2 91).a z)))
theorem bR' (W : World) (s : Δ) (i0 i dep c : Nat) (x : UInt8) (F : HP) : uRun (trb c) [(fNx, cTo1 s i0 (byv x) i), (fGv, cGv c), (fTxt, V1' s i (sv nil0))] (AD' ([hf' fVal 3 0, hf' fVal 4 0, ht' fVal 11 0])) [] W fVal (aVal dep) (oU s i0) kV F = VT.leaf (AV.agg [i' 0,i' 0,s' y9',e',e']) [some (ce' [s' s,i' i] 114),some (AO.own Md.nothing noH),some (ce' [i' 0,i' 0,s' y9',e',e'] 52),none] 1102 (h175' s i0 x ((k122' x).a ((k141' s i).a (((p' (∀ (a b : Nat) (D : Nat -> Prop) (w : World),¬(noH a b).on D w)).a (ee' [i' 0,i' 0,s' y9',e',e'])).a (k40'.a (LY' k1')))))) := χ
theorem bQ' (W : World) (s : Δ) (i0 i dep c : Nat) (x : UInt8) (t : Δ) (j : Nat) (F : HP) : uRun (trb c) [(fNx, cTo1 s i0 (byv x) i), (fGv, cGv c), (fTxt, cTo1 s i (sv t) j)] (AD' ([hf' fVal 3 0, hf' fVal 4 0, ht' fVal 11 0])) [] W fVal (aVal dep) (oU s i0) kV F = VT.leaf (AV.agg [i' 4,i' 0,s' t,e',e']) [some (ce' [s' s,i' j] 114),some Ω,some (ce' [i' 4,i' 0,s' t,e',e'] 52),none] 1102 (h175' s i0 x ((k122' x).a ((k141' s i).a (((fe' true).a (ee' [i' 4,i' 0,s' t,e',e'])).a (h15' ((p' ([i' 4,i' 0,s' t,e',e'] = [i' 4,i' 0,s' t,e',e'])).a k1')))))) := χ
abbrev y10' : Δ := ByteArray.mk (Array.mk [116, 114, 117, 101])
abbrev k176' (q0 : Δ) (q1 : Nat) : Cnd := ((p' (BW' q0 q1 (RS.mk 0 q1 q0))).a ((vw' [pt' 0 0,s' y10']).a ((ow' (ce' [s' q0,i' q1] 114)).a (f' (OW Ω Ω)))))
abbrev k177' (q0 : UInt8) : Cnd := (nt' q0 116)
abbrev mK' (q0 : Δ) (q1 : Nat) (q2 : UInt8) (z : Cnd) : Cnd := (((p' (BW' q0 q1 (RS.mk 0 q1 q0))).a ((vw' [pt' 0 0]).a ((ow' (ce' [s' q0,i' q1] 114)).a (f' (OW Ω Ω))))).a ((nb' q2 123).a ((nb' q2 91).a ((nb' q2 34).a z))))
theorem bL' (W : World) (s : Δ) (i0 i dep c : Nat) (x : UInt8) (F : HP) : uRun (trb c) [(fNx, cTo1 s i0 (byv x) i), (fGv, cGv c), (fWd, cDie [.ptr 0 0, sv ⟨⟨[116, 114, 117, 101]⟩⟩] s i (.tuple []))] (AD' ([hf' fVal 3 0, hf' fVal 4 0, hf' fVal 11 0, ht' fVal 13 0])) [] W fVal (aVal dep) (oU s i0) kV F = VT.leaf (AV.agg [i' 0,i' 0,s' y9',e',e']) [some (ce' [s' s,i' i] 114),some (AO.own Md.nothing noH),none,none] 1101 (mK' s i0 x ((k177' x).a ((k176' s i).a (LY' k1')))) := χ
abbrev k179' : Cnd := (p' ([i' 2,i' 1,s' y9',e',e'] = [i' 2,i' 1,s' y9',e',e']))
abbrev k180' : Cnd := ((fe' true).a (ee' [i' 2,i' 1,s' y9',e',e']))
abbrev k181' : Cnd := (p' ([i' 2,i' 0,s' y9',e',e'] = [i' 2,i' 0,s' y9',e',e']))
abbrev k182' : Cnd := ((fe' true).a (ee' [i' 2,i' 0,s' y9',e',e']))
theorem bK' (W : World) (s : Δ) (i0 i dep c : Nat) (x : UInt8) (j : Nat) (F : HP) : uRun (trb c) [(fNx, cTo1 s i0 (byv x) i), (fGv, cGv c), (fWd, cTo2 [.ptr 0 0, sv ⟨⟨[116, 114, 117, 101]⟩⟩] s i (.tuple []) j)] (AD' ([hf' fVal 3 0, hf' fVal 4 0, hf' fVal 11 0, ht' fVal 13 0])) [] W fVal (aVal dep) (oU s i0) kV F = VT.ite true (VT.leaf (AV.agg [i' 2,i' 1,s' y9',e',e']) [some (ce' [s' s,i' j] 114),some Ω,some (ce' [i' 2,i' 1,s' y9',e',e'] 52),none] 1102 (mK' s i0 x ((k177' x).a ((k176' s i).a (k180'.a (h15' (k179'.a k1'))))))) (VT.leaf (AV.agg [i' 2,i' 0,s' y9',e',e']) [some (ce' [s' s,i' j] 114),some Ω,some (ce' [i' 2,i' 0,s' y9',e',e'] 52),none] 1102 (mK' s i0 x ((k177' x).a ((k176' s i).a (k182'.a (h15' (k181'.a k1'))))))) := χ
abbrev y11' : Δ := ByteArray.mk (Array.mk [102, 97, 108, 115, 101])
abbrev k183' (q0 : Δ) (q1 : Nat) : Cnd := ((p' (BW' q0 q1 (RS.mk 0 q1 q0))).a ((vw' [pt' 0 0,s' y11']).a ((ow' (ce' [s' q0,i' q1] 114)).a (f' (OW Ω Ω)))))
abbrev k184' (q0 : UInt8) : Cnd := (nt' q0 102)
abbrev mJ' (q0 : Δ) (q1 : Nat) (q2 : UInt8) (z : Cnd) : Cnd := (((p' (BW' q0 q1 (RS.mk 0 q1 q0))).a ((vw' [pt' 0 0]).a ((ow' (ce' [s' q0,i' q1] 114)).a (f' (OW Ω Ω))))).a ((nb' q2 123).a ((nb' q2 91).a ((nb' q2 34).a ((nb' q2 116).a z)))))
theorem bP' (W : World) (s : Δ) (i0 i dep c : Nat) (x : UInt8) (F : HP) : uRun (trb c) [(fNx, cTo1 s i0 (byv x) i), (fGv, cGv c), (fWd, cDie [.ptr 0 0, sv ⟨⟨[102, 97, 108, 115, 101]⟩⟩] s i (.tuple []))] (AD' ([hf' fVal 3 0, hf' fVal 4 0, hf' fVal 11 0, hf' fVal 13 0, ht' fVal 16 0])) [] W fVal (aVal dep) (oU s i0) kV F = VT.leaf (AV.agg [i' 0,i' 0,s' y9',e',e']) [some (ce' [s' s,i' i] 114),some (AO.own Md.nothing noH),none,none] 1101 (mJ' s i0 x ((k184' x).a ((k183' s i).a (LY' k1')))) := χ
theorem bO' (W : World) (s : Δ) (i0 i dep c : Nat) (x : UInt8) (j : Nat) (F : HP) : uRun (trb c) [(fNx, cTo1 s i0 (byv x) i), (fGv, cGv c), (fWd, cTo2 [.ptr 0 0, sv ⟨⟨[102, 97, 108, 115, 101]⟩⟩] s i (.tuple []) j)] (AD' ([hf' fVal 3 0, hf' fVal 4 0, hf' fVal 11 0, hf' fVal 13 0, ht' fVal 16 0])) [] W fVal (aVal dep) (oU s i0) kV F = VT.ite false (VT.leaf (AV.agg [i' 2,i' 1,s' y9',e',e']) [some (ce' [s' s,i' j] 114),some Ω,some (ce' [i' 2,i' 1,s' y9',e',e'] 52),none] 1102 (mJ' s i0 x ((k184' x).a ((k183' s i).a (k180'.a (h15' (k179'.a k1'))))))) (VT.leaf (AV.agg [i' 2,i' 0,s' y9',e',e']) [some (ce' [s' s,i' j] 114),some Ω,some (ce' [i' 2,i' 0,s' y9',e',e'] 52),none] 1102 (mJ' s i0 x ((k184' x).a ((k183' s i).a (k182'.a (h15' (k181'.a k1'))))))) := χ
abbrev y12' : Δ := ByteArray.mk (Array.mk [110, 117, 108, 108])
abbrev k186' (q0 : Δ) (q1 : Nat) : Cnd := ((p' (BW' q0 q1 (RS.mk 0 q1 q0))).a ((vw' [pt' 0 0,s' y12']).a ((ow' (ce' [s' q0,i' q1] 114)).a (f' (OW Ω Ω)))))
abbrev k187' (q0 : UInt8) : Cnd := (nt' q0 110)
abbrev h188' (q0 : Δ) (q1 : Nat) (q2 : UInt8) (z : Cnd) : Cnd := (((p' (BW' q0 q1 (RS.mk 0 q1 q0))).a ((vw' [pt' 0 0]).a ((ow' (ce' [s' q0,i' q1] 114)).a (f' (OW Ω Ω))))).a ((nb' q2 123).a ((nb' q2 91).a ((nb' q2 34).a ((nb' q2 116).a ((nb' q2 102).a z))))))
theorem bN' (W : World) (s : Δ) (i0 i dep c : Nat) (x : UInt8) (F : HP) : uRun (trb c) [(fNx, cTo1 s i0 (byv x) i), (fGv, cGv c), (fWd, cDie [.ptr 0 0, sv ⟨⟨[110, 117, 108, 108]⟩⟩] s i (.tuple []))] (AD' ([hf' fVal 3 0, hf' fVal 4 0, hf' fVal 11 0, hf' fVal 13 0, hf' fVal 16 0, ht' fVal 19 0])) [] W fVal (aVal dep) (oU s i0) kV F = VT.leaf (AV.agg [i' 0,i' 0,s' y9',e',e']) [some (ce' [s' s,i' i] 114),some (AO.own Md.nothing noH),none,none] 1101 (h188' s i0 x ((k187' x).a ((k186' s i).a (LY' k1')))) := χ
theorem bM' (W : World) (s : Δ) (i0 i dep c : Nat) (x : UInt8) (j : Nat) (F : HP) : uRun (trb c) [(fNx, cTo1 s i0 (byv x) i), (fGv, cGv c), (fWd, cTo2 [.ptr 0 0, sv ⟨⟨[110, 117, 108, 108]⟩⟩] s i (.tuple []) j)] (AD' ([hf' fVal 3 0, hf' fVal 4 0, hf' fVal 11 0, hf' fVal 13 0, hf' fVal 16 0, ht' fVal 19 0])) [] W fVal (aVal dep) (oU s i0) kV F = VT.leaf (AV.agg [i' 1,i' 0,s' y9',e',e']) [some (ce' [s' s,i' j] 114),some Ω,none,none] 1101 (h188' s i0 x ((k187' x).a ((k186' s i).a (h15' ((p' ([i' 1,i' 0,s' y9',e',e'] = [i' 1,i' 0,s' y9',e',e'])).a k1'))))) := χ
end
structure NoStart (x : UInt8) : Prop where
 n123 : x ≠ 123
 n91 : x ≠ 91
 n34 : x ≠ 34
 n116 : x ≠ 116
 n102 : x ≠ 102
 n110 : x ≠ 110
 n45 : x ≠ 45
 n48 : x ≠ 48
 n49 : x ≠ 49
 n50 : x ≠ 50
 n51 : x ≠ 51
 n52 : x ≠ 52
 n53 : x ≠ 53
 n54 : x ≠ 54
 n55 : x ≠ 55
 n56 : x ≠ 56
 n57 : x ≠ 57
theorem D1' {x : UInt8} {K : Int} {y : UInt8} (hK : K = (y.toNat : Int)) (h : x ≠ y) : ((x.toNat : Int) == K) = false := by
 rw [hK, aX']; exact beq_eq_false_iff_ne.2 h
section
variable {W : World} {s : Δ} {k dep c i0 i : Nat}
theorem fQ' (hs : s.size <= 1000000) (hi : i0 <= s.size) (he : CT' s i0 = true) (h3 : c = 3) (v : AV) (H' : LH) : TriU Θ (trb c) W fVal (aVal dep) (oU s i0) v H' := by
 refine A9' kV rfl (fun F hF => A1' (IS' hF (B9' _ _) (Y8' hs hi he h3)) (A1' (AS' hF c) noCU)) (fun _ _ => noLU) fun F => Yj (jD' W s i0 i0 dep c F) ⟨⟨?_, AG' (m := .nothing) rfl⟩⟩
 exact Cb18'
theorem va_syn {x : UInt8} (h : TriU Θ (trb c) W fNx [.ptr 0 0] (oU s i0) (byv x) (oU s i)) (hx : NoStart x) (hc : 231 = c) (v : AV) (H' : LH) : TriU Θ (trb c) W fVal (aVal dep) (oU s i0) v H' := by
 refine A9' kV rfl (fun F hF => A1' (AR' hF (B9' _ _) h) (A1' (AS' hF c) noCU)) (fun _ _ => noLU) fun F => Yj (jC' W s i0 i dep c x F) ⟨⟨?_, AG' (m := .nothing) rfl⟩⟩
 simp only [Cnd.holds, Nat.blt_eq, true_and, and_true]; and_intros; all_goals first | exact A0' (D1' rfl hx.n123) | exact A0' (D1' rfl hx.n91) | exact A0' (D1' rfl hx.n34) | exact A0' (D1' rfl hx.n116) | exact A0' (D1' rfl hx.n102) | exact A0' (D1' rfl hx.n110) | exact A0' (D1' rfl hx.n45) | exact A0' (D1' rfl hx.n48) | exact A0' (D1' rfl hx.n49) | exact A0' (D1' rfl hx.n50) | exact A0' (D1' rfl hx.n51) | exact A0' (D1' rfl hx.n52) | exact A0' (D1' rfl hx.n53) | exact A0' (D1' rfl hx.n54) | exact A0' (D1' rfl hx.n55) | exact A0' (D1' rfl hx.n56) | exact A0' (D1' rfl hx.n57) | exact Kb2'
theorem VS' (h : TriU Θ (trb c) W fNx [.ptr 0 0] (oU s i0) (byv 123) (oU s i)) (hd : 16 < dep) (hc : 8 = c) (v : AV) (H' : LH) : TriU Θ (trb c) W fVal (aVal dep) (oU s i0) v H' := by
 refine A9' kV rfl (fun F hF => A1' (AR' hF (B9' _ _) h) (A1' (AS' hF c) noCU)) (fun _ _ => noLU) fun F => Yj (X3' W s i0 i dep c 123 F) ⟨⟨?_, AG' (m := .nothing) rfl⟩⟩
 exact Cb20'
theorem aU' (h : TriU Θ (trb c) W fNx [.ptr 0 0] (oU s i0) (byv 123) (oU s i)) (hd : dep <= 16) (hi : i <= 1000000) (hg : ∀ v H', TriU Θ (trb c) W fOb (aVal dep) (oU s (i + 1)) v H') (v : AV) (H' : LH) : TriU Θ (trb c) W fVal (aVal dep) (oU s i0) v H' := by
 refine A9' kV rfl (fun F hF => A1' (AR' hF (B9' _ _) h) (A1' (AS' hF c) (A1' (JL' hF hg) noCU))) (fun _ _ => noLU) fun F => Yj (X2' W s i0 i dep c 123 F) ⟨⟨?_, AG' (m := .nothing) rfl⟩⟩
 exact Cb21'
theorem i3' {e : Nat} (h : TriU Θ (trb c) W fNx [.ptr 0 0] (oU s i0) (byv 123) (oU s i)) (hd : dep <= 16) (hi : i <= 1000000) (hv : VSh e v LV NV OL ON) (hg : TriU Θ (trb c) W fOb (aVal dep) (oU s (i + 1)) (aV v.kind v.num v.text LV NV) (oV s j OL ON)) : TriU Θ (trb c) W fVal (aVal dep) (oU s i0) (aV v.kind v.num v.text LV NV) (oV s j OL ON) := by
 cases hv with
 | P h1 h2 =>
  refine A9' kV rfl (fun F hF => A1' (AR' hF (B9' _ _) h) (A1' (AS' hF c) (A1' (BS' (e := e) (v := v) hF (.P h1 h2) hg) noCU))) (fun _ _ => noLU) fun F => Yj (WZ' W s i0 i dep c 123 v.kind v.num v.text j F) ⟨⟨?_, [aV v.kind v.num v.text nilS nilS], oV s j dum dum, [(1006, 1101), (1007, 1102)], rfl, AJ' [(1006, 1101), (1007, 1102)] χ χ (Yb) ⟨⟨_, rfl, Yc⟩, ⟨_, rfl, Yc⟩, ⟨_, rfl, Yc⟩, ⟨_, rfl, Yc⟩, Ye⟩, fun W0 F N ys w h => h⟩⟩
  exact Cb21'
 | L h2 =>
  refine A9' kV rfl (fun F hF => A1' (AR' hF (B9' _ _) h) (A1' (AS' hF c) (A1' (BS' (e := e) (v := v) hF (.L h2) hg) noCU))) (fun _ _ => noLU) fun F => Yj (X1' W s i0 i dep c 123 v.kind v.num v.text v.list.length e v.list j F) ⟨⟨?_, [aV v.kind v.num v.text (sL5 1006 v.list.length) nilS], oV s j (ownJ e v.list) dum, [(1006, 1101), (1007, 1102)], rfl, AJ' [(1006, 1101), (1007, 1102)] χ χ (Yb) ⟨⟨_, rfl, Yc⟩, ⟨_, rfl, Yc⟩, ⟨_, rfl, Yc⟩, ⟨_, rfl, Yc⟩, Ye⟩, fun W0 F N ys w h => h⟩⟩
  exact Cb21'
 | O h3 =>
  refine A9' kV rfl (fun F hF => A1' (AR' hF (B9' _ _) h) (A1' (AS' hF c) (A1' (BS' (e := e) (v := v) hF (.O h3) hg) noCU))) (fun _ _ => noLU) fun F => Yj (X0' W s i0 i dep c 123 v.kind v.num v.text v.list.length v.names.length e v.list v.names j F) ⟨⟨?_, [aV v.kind v.num v.text (sL5 1006 v.list.length) (sS1 1007 v.names.length)], oV s j (ownJ e v.list) (rS v.names), [(1006, 1101), (1007, 1102)], rfl, AJ' [(1006, 1101), (1007, 1102)] χ χ (Yb) ⟨⟨_, rfl, Yc⟩, ⟨_, rfl, Yc⟩, ⟨_, rfl, Yc⟩, ⟨_, rfl, KX'⟩, Ye⟩, fun W0 F N ys w h => h⟩⟩
  exact Cb21'
theorem VT' (h : TriU Θ (trb c) W fNx [.ptr 0 0] (oU s i0) (byv 91) (oU s i)) (hd : 16 < dep) (hc : 8 = c) (v : AV) (H' : LH) : TriU Θ (trb c) W fVal (aVal dep) (oU s i0) v H' := by
 refine A9' kV rfl (fun F hF => A1' (AR' hF (B9' _ _) h) (A1' (AS' hF c) noCU)) (fun _ _ => noLU) fun F => Yj (XA' W s i0 i dep c 91 F) ⟨⟨?_, AG' (m := .nothing) rfl⟩⟩
 exact Cb20'
theorem aV' (h : TriU Θ (trb c) W fNx [.ptr 0 0] (oU s i0) (byv 91) (oU s i)) (hd : dep <= 16) (hi : i <= 1000000) (hg : ∀ v H', TriU Θ (trb c) W fLs (aVal dep) (oU s (i + 1)) v H') (v : AV) (H' : LH) : TriU Θ (trb c) W fVal (aVal dep) (oU s i0) v H' := by
 refine A9' kV rfl (fun F hF => A1' (AR' hF (B9' _ _) h) (A1' (AS' hF c) (A1' (JL' hF hg) noCU))) (fun _ _ => noLU) fun F => Yj (X9' W s i0 i dep c 91 F) ⟨⟨?_, AG' (m := .nothing) rfl⟩⟩
 exact Cb21'
theorem i4' {e : Nat} (h : TriU Θ (trb c) W fNx [.ptr 0 0] (oU s i0) (byv 91) (oU s i)) (hd : dep <= 16) (hi : i <= 1000000) (hv : VSh e v LV NV OL ON) (hg : TriU Θ (trb c) W fLs (aVal dep) (oU s (i + 1)) (aV v.kind v.num v.text LV NV) (oV s j OL ON)) : TriU Θ (trb c) W fVal (aVal dep) (oU s i0) (aV v.kind v.num v.text LV NV) (oV s j OL ON) := by
 cases hv with
 | P h1 h2 =>
  refine A9' kV rfl (fun F hF => A1' (AR' hF (B9' _ _) h) (A1' (AS' hF c) (A1' (BS' (e := e) (v := v) hF (.P h1 h2) hg) noCU))) (fun _ _ => noLU) fun F => Yj (X6' W s i0 i dep c 91 v.kind v.num v.text j F) ⟨⟨?_, [aV v.kind v.num v.text nilS nilS], oV s j dum dum, [(1006, 1101), (1007, 1102)], rfl, AJ' [(1006, 1101), (1007, 1102)] χ χ (Yb) ⟨⟨_, rfl, Yc⟩, ⟨_, rfl, Yc⟩, ⟨_, rfl, Yc⟩, ⟨_, rfl, Yc⟩, Ye⟩, fun W0 F N ys w h => h⟩⟩
  exact Cb21'
 | L h2 =>
  refine A9' kV rfl (fun F hF => A1' (AR' hF (B9' _ _) h) (A1' (AS' hF c) (A1' (BS' (e := e) (v := v) hF (.L h2) hg) noCU))) (fun _ _ => noLU) fun F => Yj (X8' W s i0 i dep c 91 v.kind v.num v.text v.list.length e v.list j F) ⟨⟨?_, [aV v.kind v.num v.text (sL5 1006 v.list.length) nilS], oV s j (ownJ e v.list) dum, [(1006, 1101), (1007, 1102)], rfl, AJ' [(1006, 1101), (1007, 1102)] χ χ (Yb) ⟨⟨_, rfl, Yc⟩, ⟨_, rfl, Yc⟩, ⟨_, rfl, Yc⟩, ⟨_, rfl, Yc⟩, Ye⟩, fun W0 F N ys w h => h⟩⟩
  exact Cb21'
 | O h3 =>
  refine A9' kV rfl (fun F hF => A1' (AR' hF (B9' _ _) h) (A1' (AS' hF c) (A1' (BS' (e := e) (v := v) hF (.O h3) hg) noCU))) (fun _ _ => noLU) fun F => Yj (X7' W s i0 i dep c 91 v.kind v.num v.text v.list.length v.names.length e v.list v.names j F) ⟨⟨?_, [aV v.kind v.num v.text (sL5 1006 v.list.length) (sS1 1007 v.names.length)], oV s j (ownJ e v.list) (rS v.names), [(1006, 1101), (1007, 1102)], rfl, AJ' [(1006, 1101), (1007, 1102)] χ χ (Yb) ⟨⟨_, rfl, Yc⟩, ⟨_, rfl, Yc⟩, ⟨_, rfl, Yc⟩, ⟨_, rfl, KX'⟩, Ye⟩, fun W0 F N ys w h => h⟩⟩
  exact Cb21'
theorem i2' (h : TriU Θ (trb c) W fNx [.ptr 0 0] (oU s i0) (byv 34) (oU s i)) (hg : ∀ v H', TriU Θ (trb c) W fTxt [.ptr 0 0] (oU s i) v H') (v : AV) (H' : LH) : TriU Θ (trb c) W fVal (aVal dep) (oU s i0) v H' := by
 refine A9' kV rfl (fun F hF => A1' (AR' hF (B9' _ _) h) (A1' (AS' hF c) (A1' (IS' hF (B9' _ _) hg) noCU))) (fun _ _ => noLU) fun F => Yj (bR' W s i0 i dep c 34 F) ⟨⟨?_, AG' (m := .nothing) rfl⟩⟩
 exact Cb22'
theorem i1' (h : TriU Θ (trb c) W fNx [.ptr 0 0] (oU s i0) (byv 34) (oU s i)) (hg : TriU Θ (trb c) W fTxt [.ptr 0 0] (oU s i) (sv t) (oU s j)) : TriU Θ (trb c) W fVal (aVal dep) (oU s i0) (aV 4 0 t nilS nilS) (oV s j dum dum) := by
 refine A9' kV rfl (fun F hF => A1' (AR' hF (B9' _ _) h) (A1' (AS' hF c) (A1' (AR' hF (B9' _ _) hg) noCU))) (fun _ _ => noLU) fun F => Yj (bQ' W s i0 i dep c 34 t j F) ⟨⟨?_, [aV 4 0 t nilS nilS], oU s j, [], rfl, AJ' [] rfl rfl (Yb) ⟨⟨_, rfl, Yc⟩, ⟨_, rfl, Yc⟩, Ye⟩, fun W0 F N ys w h => BV' h⟩⟩
 exact Cb22'
end
noncomputable section
abbrev LF' (q0 : Δ) (q1 : Nat) (q2 : Δ) (q3 : Nat) (z : Cnd) : Cnd := ((ee' (s' q0)).a ((ee' (i' q1)).a (((p' (q1 <= q0.size)).a ((p' (q0.size <= q0.size)).a (f' (Wk (s' (q0.extract q1 q0.size)) (s' q2))))).a (((p' True).a (f' (VW [s' q2] [s' q2]))).a ((f' (Wk (b' true) j')).a (((p' (230 = q3 /\ 230 <= 255)).a ((vw' [i' 230]).a (f' (OW Ω Ω)))).a ((p' (∀ (a b : Nat) (D : Nat -> Prop) (w : World),¬(noH a b).on D w)).a (tt'.a ((p' ([i' 0,i' 0,s' y9',e',e'] = [i' 0,i' 0,s' y9',e',e'])).a z)))))))))
abbrev k190' (q0 : UInt8) : Cnd := (nt' q0 45)
abbrev h191' (q0 : Δ) (q1 : Nat) (q2 : UInt8) (z : Cnd) : Cnd := (((p' (BW' q0 q1 (RS.mk 0 q1 q0))).a ((vw' [pt' 0 0]).a ((ow' (ce' [s' q0,i' q1] 114)).a (f' (OW Ω Ω))))).a ((nb' q2 123).a ((nb' q2 91).a ((nb' q2 34).a ((nb' q2 116).a ((nb' q2 102).a ((nb' q2 110).a z)))))))
theorem X5' (W : World) (s : Δ) (i0 i dep c : Nat) (x : UInt8) (t : Δ) (n : Nat) (t2 : Δ) (j : Nat) (F : HP) : uRun (trb c) [(fNx, cTo1 s i0 (byv x) i), (fGv, cGv c), (DQ', DT' t n false)] (AD' ([hf' fVal 3 0, hf' fVal 4 0, hf' fVal 11 0, hf' fVal 13 0, hf' fVal 16 0, hf' fVal 19 0, ht' fVal 22 0] ++ [(fVal, 33, 8, h0v (sv t)), ht' fVal 34 1, (fVal, 36, 13, hv (iv (o' j))), (fVal, 36, 14, h0v (sv t2)), (fVal, 37, 5, hv (iv (o' j)))])) [] W fVal (aVal dep) (oU s i0) kV F = VT.leaf (AV.agg [i' 0,i' 0,s' y9',e',e']) [some (ce' [s' s,i' i] 114),some (AO.own Md.nothing noH),none,none] 1101 (h191' s i0 x ((k190' x).a (LF' s i t c k1'))) := χ
abbrev LE' (q0 : Δ) (q1 : Nat) (q2 : Δ) (q3 q4 : Nat) (q5 : Δ) (z : Cnd) : Cnd := ((ee' (s' q0)).a ((ee' (i' q1)).a (((p' (q1 <= q0.size)).a ((p' (q0.size <= q0.size)).a (f' (Wk (s' (q0.extract q1 q0.size)) (s' q2))))).a (((p' True).a (f' (VW [s' q2] [s' q2]))).a ((f' (Wk (b' false) g')).a ((ee' (s' q0)).a ((ee' (i' q1)).a ((ee' (i' q1)).a ((f' (Wk (z' (IntKind.i64.wrap (o' q1 + o' q3))) (i' q4))).a (((p' (q1 <= q4)).a ((p' (q4 <= q0.size)).a (f' (Wk (s' (q0.extract q1 q4)) (s' q5))))).a ((fe' true).a ((ee' (i' q1)).a ((f' (Wk (z' (IntKind.i64.wrap (o' q1 + o' q3))) (i' q4))).a ((fe' true).a ((ee' [i' 3,i' 0,s' q5,e',e']).a ((fe' true).a (tt'.a ((p' ([i' 3,i' 0,s' q5,e',e'] = [i' 3,i' 0,s' q5,e',e'])).a z))))))))))))))))))
theorem X4' (W : World) (s : Δ) (i0 i dep c : Nat) (x : UInt8) (t : Δ) (n : Nat) (t2 : Δ) (j : Nat) (F : HP) : uRun (trb c) [(fNx, cTo1 s i0 (byv x) i), (fGv, cGv c), (DQ', DT' t n true)] (AD' ([hf' fVal 3 0, hf' fVal 4 0, hf' fVal 11 0, hf' fVal 13 0, hf' fVal 16 0, hf' fVal 19 0, ht' fVal 22 0] ++ [(fVal, 33, 8, h0v (sv t)), hf' fVal 34 1, (fVal, 36, 13, hv (iv (o' j))), (fVal, 36, 14, h0v (sv t2)), (fVal, 37, 5, hv (iv (o' j)))])) [] W fVal (aVal dep) (oU s i0) kV F = VT.leaf (AV.agg [i' 3,i' 0,s' t2,e',e']) [some (ce' [s' s,i' j] 114),some Ω,none,none] 1101 (h191' s i0 x ((k190' x).a (LE' s i t n j t2 k1'))) := χ
end
noncomputable section
abbrev k193' (q0 : UInt8) : Cnd := (nt' q0 48)
abbrev h194' (q0 : Δ) (q1 : Nat) (q2 : UInt8) (z : Cnd) : Cnd := (((p' (BW' q0 q1 (RS.mk 0 q1 q0))).a ((vw' [pt' 0 0]).a ((ow' (ce' [s' q0,i' q1] 114)).a (f' (OW Ω Ω))))).a ((nb' q2 123).a ((nb' q2 91).a ((nb' q2 34).a ((nb' q2 116).a ((nb' q2 102).a ((nb' q2 110).a ((nb' q2 45).a z))))))))
theorem XU' (W : World) (s : Δ) (i0 i dep c : Nat) (x : UInt8) (t : Δ) (n : Nat) (t2 : Δ) (j : Nat) (F : HP) : uRun (trb c) [(fNx, cTo1 s i0 (byv x) i), (fGv, cGv c), (DQ', DT' t n false)] (AD' ([hf' fVal 3 0, hf' fVal 4 0, hf' fVal 11 0, hf' fVal 13 0, hf' fVal 16 0, hf' fVal 19 0, hf' fVal 22 0, ht' fVal 23 0] ++ [(fVal, 33, 8, h0v (sv t)), ht' fVal 34 1, (fVal, 36, 13, hv (iv (o' j))), (fVal, 36, 14, h0v (sv t2)), (fVal, 37, 5, hv (iv (o' j)))])) [] W fVal (aVal dep) (oU s i0) kV F = VT.leaf (AV.agg [i' 0,i' 0,s' y9',e',e']) [some (ce' [s' s,i' i] 114),some (AO.own Md.nothing noH),none,none] 1101 (h194' s i0 x ((k193' x).a (LF' s i t c k1'))) := χ
theorem XT' (W : World) (s : Δ) (i0 i dep c : Nat) (x : UInt8) (t : Δ) (n : Nat) (t2 : Δ) (j : Nat) (F : HP) : uRun (trb c) [(fNx, cTo1 s i0 (byv x) i), (fGv, cGv c), (DQ', DT' t n true)] (AD' ([hf' fVal 3 0, hf' fVal 4 0, hf' fVal 11 0, hf' fVal 13 0, hf' fVal 16 0, hf' fVal 19 0, hf' fVal 22 0, ht' fVal 23 0] ++ [(fVal, 33, 8, h0v (sv t)), hf' fVal 34 1, (fVal, 36, 13, hv (iv (o' j))), (fVal, 36, 14, h0v (sv t2)), (fVal, 37, 5, hv (iv (o' j)))])) [] W fVal (aVal dep) (oU s i0) kV F = VT.leaf (AV.agg [i' 3,i' 0,s' t2,e',e']) [some (ce' [s' s,i' j] 114),some Ω,none,none] 1101 (h194' s i0 x ((k193' x).a (LE' s i t n j t2 k1'))) := χ
abbrev k195' (q0 : UInt8) : Cnd := (nt' q0 49)
abbrev h196' (q0 : Δ) (q1 : Nat) (q2 : UInt8) (z : Cnd) : Cnd := (((p' (BW' q0 q1 (RS.mk 0 q1 q0))).a ((vw' [pt' 0 0]).a ((ow' (ce' [s' q0,i' q1] 114)).a (f' (OW Ω Ω))))).a ((nb' q2 123).a ((nb' q2 91).a ((nb' q2 34).a ((nb' q2 116).a ((nb' q2 102).a ((nb' q2 110).a ((nb' q2 45).a ((nb' q2 48).a z)))))))))
theorem XS' (W : World) (s : Δ) (i0 i dep c : Nat) (x : UInt8) (t : Δ) (n : Nat) (t2 : Δ) (j : Nat) (F : HP) : uRun (trb c) [(fNx, cTo1 s i0 (byv x) i), (fGv, cGv c), (DQ', DT' t n false)] (AD' ([hf' fVal 3 0, hf' fVal 4 0, hf' fVal 11 0, hf' fVal 13 0, hf' fVal 16 0, hf' fVal 19 0, hf' fVal 22 0, hf' fVal 23 0, ht' fVal 24 0] ++ [(fVal, 33, 8, h0v (sv t)), ht' fVal 34 1, (fVal, 36, 13, hv (iv (o' j))), (fVal, 36, 14, h0v (sv t2)), (fVal, 37, 5, hv (iv (o' j)))])) [] W fVal (aVal dep) (oU s i0) kV F = VT.leaf (AV.agg [i' 0,i' 0,s' y9',e',e']) [some (ce' [s' s,i' i] 114),some (AO.own Md.nothing noH),none,none] 1101 (h196' s i0 x ((k195' x).a (LF' s i t c k1'))) := χ
theorem XR' (W : World) (s : Δ) (i0 i dep c : Nat) (x : UInt8) (t : Δ) (n : Nat) (t2 : Δ) (j : Nat) (F : HP) : uRun (trb c) [(fNx, cTo1 s i0 (byv x) i), (fGv, cGv c), (DQ', DT' t n true)] (AD' ([hf' fVal 3 0, hf' fVal 4 0, hf' fVal 11 0, hf' fVal 13 0, hf' fVal 16 0, hf' fVal 19 0, hf' fVal 22 0, hf' fVal 23 0, ht' fVal 24 0] ++ [(fVal, 33, 8, h0v (sv t)), hf' fVal 34 1, (fVal, 36, 13, hv (iv (o' j))), (fVal, 36, 14, h0v (sv t2)), (fVal, 37, 5, hv (iv (o' j)))])) [] W fVal (aVal dep) (oU s i0) kV F = VT.leaf (AV.agg [i' 3,i' 0,s' t2,e',e']) [some (ce' [s' s,i' j] 114),some Ω,none,none] 1101 (h196' s i0 x ((k195' x).a (LE' s i t n j t2 k1'))) := χ
abbrev k197' (q0 : UInt8) : Cnd := (nt' q0 50)
abbrev h198' (q0 : Δ) (q1 : Nat) (q2 : UInt8) (z : Cnd) : Cnd := (((p' (BW' q0 q1 (RS.mk 0 q1 q0))).a ((vw' [pt' 0 0]).a ((ow' (ce' [s' q0,i' q1] 114)).a (f' (OW Ω Ω))))).a ((nb' q2 123).a ((nb' q2 91).a ((nb' q2 34).a ((nb' q2 116).a ((nb' q2 102).a ((nb' q2 110).a ((nb' q2 45).a ((nb' q2 48).a ((nb' q2 49).a z))))))))))
theorem XQ' (W : World) (s : Δ) (i0 i dep c : Nat) (x : UInt8) (t : Δ) (n : Nat) (t2 : Δ) (j : Nat) (F : HP) : uRun (trb c) [(fNx, cTo1 s i0 (byv x) i), (fGv, cGv c), (DQ', DT' t n false)] (AD' ([hf' fVal 3 0, hf' fVal 4 0, hf' fVal 11 0, hf' fVal 13 0, hf' fVal 16 0, hf' fVal 19 0, hf' fVal 22 0, hf' fVal 23 0, hf' fVal 24 0, ht' fVal 25 0] ++ [(fVal, 33, 8, h0v (sv t)), ht' fVal 34 1, (fVal, 36, 13, hv (iv (o' j))), (fVal, 36, 14, h0v (sv t2)), (fVal, 37, 5, hv (iv (o' j)))])) [] W fVal (aVal dep) (oU s i0) kV F = VT.leaf (AV.agg [i' 0,i' 0,s' y9',e',e']) [some (ce' [s' s,i' i] 114),some (AO.own Md.nothing noH),none,none] 1101 (h198' s i0 x ((k197' x).a (LF' s i t c k1'))) := χ
theorem XP' (W : World) (s : Δ) (i0 i dep c : Nat) (x : UInt8) (t : Δ) (n : Nat) (t2 : Δ) (j : Nat) (F : HP) : uRun (trb c) [(fNx, cTo1 s i0 (byv x) i), (fGv, cGv c), (DQ', DT' t n true)] (AD' ([hf' fVal 3 0, hf' fVal 4 0, hf' fVal 11 0, hf' fVal 13 0, hf' fVal 16 0, hf' fVal 19 0, hf' fVal 22 0, hf' fVal 23 0, hf' fVal 24 0, ht' fVal 25 0] ++ [(fVal, 33, 8, h0v (sv t)), hf' fVal 34 1, (fVal, 36, 13, hv (iv (o' j))), (fVal, 36, 14, h0v (sv t2)), (fVal, 37, 5, hv (iv (o' j)))])) [] W fVal (aVal dep) (oU s i0) kV F = VT.leaf (AV.agg [i' 3,i' 0,s' t2,e',e']) [some (ce' [s' s,i' j] 114),some Ω,none,none] 1101 (h198' s i0 x ((k197' x).a (LE' s i t n j t2 k1'))) := χ
abbrev k199' (q0 : UInt8) : Cnd := (nt' q0 51)
abbrev h200' (q0 : Δ) (q1 : Nat) (q2 : UInt8) (z : Cnd) : Cnd := (((p' (BW' q0 q1 (RS.mk 0 q1 q0))).a ((vw' [pt' 0 0]).a ((ow' (ce' [s' q0,i' q1] 114)).a (f' (OW Ω Ω))))).a ((nb' q2 123).a ((nb' q2 91).a ((nb' q2 34).a ((nb' q2 116).a ((nb' q2 102).a ((nb' q2 110).a ((nb' q2 45).a ((nb' q2 48).a ((nb' q2 49).a ((nb' q2 50).a z)))))))))))
theorem XO' (W : World) (s : Δ) (i0 i dep c : Nat) (x : UInt8) (t : Δ) (n : Nat) (t2 : Δ) (j : Nat) (F : HP) : uRun (trb c) [(fNx, cTo1 s i0 (byv x) i), (fGv, cGv c), (DQ', DT' t n false)] (AD' ([hf' fVal 3 0, hf' fVal 4 0, hf' fVal 11 0, hf' fVal 13 0, hf' fVal 16 0, hf' fVal 19 0, hf' fVal 22 0, hf' fVal 23 0, hf' fVal 24 0, hf' fVal 25 0, ht' fVal 26 0] ++ [(fVal, 33, 8, h0v (sv t)), ht' fVal 34 1, (fVal, 36, 13, hv (iv (o' j))), (fVal, 36, 14, h0v (sv t2)), (fVal, 37, 5, hv (iv (o' j)))])) [] W fVal (aVal dep) (oU s i0) kV F = VT.leaf (AV.agg [i' 0,i' 0,s' y9',e',e']) [some (ce' [s' s,i' i] 114),some (AO.own Md.nothing noH),none,none] 1101 (h200' s i0 x ((k199' x).a (LF' s i t c k1'))) := χ
theorem XN' (W : World) (s : Δ) (i0 i dep c : Nat) (x : UInt8) (t : Δ) (n : Nat) (t2 : Δ) (j : Nat) (F : HP) : uRun (trb c) [(fNx, cTo1 s i0 (byv x) i), (fGv, cGv c), (DQ', DT' t n true)] (AD' ([hf' fVal 3 0, hf' fVal 4 0, hf' fVal 11 0, hf' fVal 13 0, hf' fVal 16 0, hf' fVal 19 0, hf' fVal 22 0, hf' fVal 23 0, hf' fVal 24 0, hf' fVal 25 0, ht' fVal 26 0] ++ [(fVal, 33, 8, h0v (sv t)), hf' fVal 34 1, (fVal, 36, 13, hv (iv (o' j))), (fVal, 36, 14, h0v (sv t2)), (fVal, 37, 5, hv (iv (o' j)))])) [] W fVal (aVal dep) (oU s i0) kV F = VT.leaf (AV.agg [i' 3,i' 0,s' t2,e',e']) [some (ce' [s' s,i' j] 114),some Ω,none,none] 1101 (h200' s i0 x ((k199' x).a (LE' s i t n j t2 k1'))) := χ
abbrev k201' (q0 : UInt8) : Cnd := (nt' q0 52)
abbrev h202' (q0 : Δ) (q1 : Nat) (q2 : UInt8) (z : Cnd) : Cnd := (((p' (BW' q0 q1 (RS.mk 0 q1 q0))).a ((vw' [pt' 0 0]).a ((ow' (ce' [s' q0,i' q1] 114)).a (f' (OW Ω Ω))))).a ((nb' q2 123).a ((nb' q2 91).a ((nb' q2 34).a ((nb' q2 116).a ((nb' q2 102).a ((nb' q2 110).a ((nb' q2 45).a ((nb' q2 48).a ((nb' q2 49).a ((nb' q2 50).a ((nb' q2 51).a z))))))))))))
theorem XM' (W : World) (s : Δ) (i0 i dep c : Nat) (x : UInt8) (t : Δ) (n : Nat) (t2 : Δ) (j : Nat) (F : HP) : uRun (trb c) [(fNx, cTo1 s i0 (byv x) i), (fGv, cGv c), (DQ', DT' t n false)] (AD' ([hf' fVal 3 0, hf' fVal 4 0, hf' fVal 11 0, hf' fVal 13 0, hf' fVal 16 0, hf' fVal 19 0, hf' fVal 22 0, hf' fVal 23 0, hf' fVal 24 0, hf' fVal 25 0, hf' fVal 26 0, ht' fVal 27 0] ++ [(fVal, 33, 8, h0v (sv t)), ht' fVal 34 1, (fVal, 36, 13, hv (iv (o' j))), (fVal, 36, 14, h0v (sv t2)), (fVal, 37, 5, hv (iv (o' j)))])) [] W fVal (aVal dep) (oU s i0) kV F = VT.leaf (AV.agg [i' 0,i' 0,s' y9',e',e']) [some (ce' [s' s,i' i] 114),some (AO.own Md.nothing noH),none,none] 1101 (h202' s i0 x ((k201' x).a (LF' s i t c k1'))) := χ
theorem XL' (W : World) (s : Δ) (i0 i dep c : Nat) (x : UInt8) (t : Δ) (n : Nat) (t2 : Δ) (j : Nat) (F : HP) : uRun (trb c) [(fNx, cTo1 s i0 (byv x) i), (fGv, cGv c), (DQ', DT' t n true)] (AD' ([hf' fVal 3 0, hf' fVal 4 0, hf' fVal 11 0, hf' fVal 13 0, hf' fVal 16 0, hf' fVal 19 0, hf' fVal 22 0, hf' fVal 23 0, hf' fVal 24 0, hf' fVal 25 0, hf' fVal 26 0, ht' fVal 27 0] ++ [(fVal, 33, 8, h0v (sv t)), hf' fVal 34 1, (fVal, 36, 13, hv (iv (o' j))), (fVal, 36, 14, h0v (sv t2)), (fVal, 37, 5, hv (iv (o' j)))])) [] W fVal (aVal dep) (oU s i0) kV F = VT.leaf (AV.agg [i' 3,i' 0,s' t2,e',e']) [some (ce' [s' s,i' j] 114),some Ω,none,none] 1101 (h202' s i0 x ((k201' x).a (LE' s i t n j t2 k1'))) := χ
abbrev k203' (q0 : UInt8) : Cnd := (nt' q0 53)
abbrev h204' (q0 : Δ) (q1 : Nat) (q2 : UInt8) (z : Cnd) : Cnd := (((p' (BW' q0 q1 (RS.mk 0 q1 q0))).a ((vw' [pt' 0 0]).a ((ow' (ce' [s' q0,i' q1] 114)).a (f' (OW Ω Ω))))).a ((nb' q2 123).a ((nb' q2 91).a ((nb' q2 34).a ((nb' q2 116).a ((nb' q2 102).a ((nb' q2 110).a ((nb' q2 45).a ((nb' q2 48).a ((nb' q2 49).a ((nb' q2 50).a ((nb' q2 51).a ((nb' q2 52).a z)))))))))))))
theorem XK' (W : World) (s : Δ) (i0 i dep c : Nat) (x : UInt8) (t : Δ) (n : Nat) (t2 : Δ) (j : Nat) (F : HP) : uRun (trb c) [(fNx, cTo1 s i0 (byv x) i), (fGv, cGv c), (DQ', DT' t n false)] (AD' ([hf' fVal 3 0, hf' fVal 4 0, hf' fVal 11 0, hf' fVal 13 0, hf' fVal 16 0, hf' fVal 19 0, hf' fVal 22 0, hf' fVal 23 0, hf' fVal 24 0, hf' fVal 25 0, hf' fVal 26 0, hf' fVal 27 0, ht' fVal 28 0] ++ [(fVal, 33, 8, h0v (sv t)), ht' fVal 34 1, (fVal, 36, 13, hv (iv (o' j))), (fVal, 36, 14, h0v (sv t2)), (fVal, 37, 5, hv (iv (o' j)))])) [] W fVal (aVal dep) (oU s i0) kV F = VT.leaf (AV.agg [i' 0,i' 0,s' y9',e',e']) [some (ce' [s' s,i' i] 114),some (AO.own Md.nothing noH),none,none] 1101 (h204' s i0 x ((k203' x).a (LF' s i t c k1'))) := χ
theorem XJ' (W : World) (s : Δ) (i0 i dep c : Nat) (x : UInt8) (t : Δ) (n : Nat) (t2 : Δ) (j : Nat) (F : HP) : uRun (trb c) [(fNx, cTo1 s i0 (byv x) i), (fGv, cGv c), (DQ', DT' t n true)] (AD' ([hf' fVal 3 0, hf' fVal 4 0, hf' fVal 11 0, hf' fVal 13 0, hf' fVal 16 0, hf' fVal 19 0, hf' fVal 22 0, hf' fVal 23 0, hf' fVal 24 0, hf' fVal 25 0, hf' fVal 26 0, hf' fVal 27 0, ht' fVal 28 0] ++ [(fVal, 33, 8, h0v (sv t)), hf' fVal 34 1, (fVal, 36, 13, hv (iv (o' j))), (fVal, 36, 14, h0v (sv t2)), (fVal, 37, 5, hv (iv (o' j)))])) [] W fVal (aVal dep) (oU s i0) kV F = VT.leaf (AV.agg [i' 3,i' 0,s' t2,e',e']) [some (ce' [s' s,i' j] 114),some Ω,none,none] 1101 (h204' s i0 x ((k203' x).a (LE' s i t n j t2 k1'))) := χ
abbrev k205' (q0 : UInt8) : Cnd := (nt' q0 54)
abbrev h206' (q0 : Δ) (q1 : Nat) (q2 : UInt8) (z : Cnd) : Cnd := (((p' (BW' q0 q1 (RS.mk 0 q1 q0))).a ((vw' [pt' 0 0]).a ((ow' (ce' [s' q0,i' q1] 114)).a (f' (OW Ω Ω))))).a ((nb' q2 123).a ((nb' q2 91).a ((nb' q2 34).a ((nb' q2 116).a ((nb' q2 102).a ((nb' q2 110).a ((nb' q2 45).a ((nb' q2 48).a ((nb' q2 49).a ((nb' q2 50).a ((nb' q2 51).a ((nb' q2 52).a ((nb' q2 53).a z))))))))))))))
theorem XI' (W : World) (s : Δ) (i0 i dep c : Nat) (x : UInt8) (t : Δ) (n : Nat) (t2 : Δ) (j : Nat) (F : HP) : uRun (trb c) [(fNx, cTo1 s i0 (byv x) i), (fGv, cGv c), (DQ', DT' t n false)] (AD' ([hf' fVal 3 0, hf' fVal 4 0, hf' fVal 11 0, hf' fVal 13 0, hf' fVal 16 0, hf' fVal 19 0, hf' fVal 22 0, hf' fVal 23 0, hf' fVal 24 0, hf' fVal 25 0, hf' fVal 26 0, hf' fVal 27 0, hf' fVal 28 0, ht' fVal 29 0] ++ [(fVal, 33, 8, h0v (sv t)), ht' fVal 34 1, (fVal, 36, 13, hv (iv (o' j))), (fVal, 36, 14, h0v (sv t2)), (fVal, 37, 5, hv (iv (o' j)))])) [] W fVal (aVal dep) (oU s i0) kV F = VT.leaf (AV.agg [i' 0,i' 0,s' y9',e',e']) [some (ce' [s' s,i' i] 114),some (AO.own Md.nothing noH),none,none] 1101 (h206' s i0 x ((k205' x).a (LF' s i t c k1'))) := χ
theorem XH' (W : World) (s : Δ) (i0 i dep c : Nat) (x : UInt8) (t : Δ) (n : Nat) (t2 : Δ) (j : Nat) (F : HP) : uRun (trb c) [(fNx, cTo1 s i0 (byv x) i), (fGv, cGv c), (DQ', DT' t n true)] (AD' ([hf' fVal 3 0, hf' fVal 4 0, hf' fVal 11 0, hf' fVal 13 0, hf' fVal 16 0, hf' fVal 19 0, hf' fVal 22 0, hf' fVal 23 0, hf' fVal 24 0, hf' fVal 25 0, hf' fVal 26 0, hf' fVal 27 0, hf' fVal 28 0, ht' fVal 29 0] ++ [(fVal, 33, 8, h0v (sv t)), hf' fVal 34 1, (fVal, 36, 13, hv (iv (o' j))), (fVal, 36, 14, h0v (sv t2)), (fVal, 37, 5, hv (iv (o' j)))])) [] W fVal (aVal dep) (oU s i0) kV F = VT.leaf (AV.agg [i' 3,i' 0,s' t2,e',e']) [some (ce' [s' s,i' j] 114),some Ω,none,none] 1101 (h206' s i0 x ((k205' x).a (LE' s i t n j t2 k1'))) := χ
abbrev k207' (q0 : UInt8) : Cnd := (nt' q0 55)
abbrev h208' (q0 : Δ) (q1 : Nat) (q2 : UInt8) (z : Cnd) : Cnd := (((p' (BW' q0 q1 (RS.mk 0 q1 q0))).a ((vw' [pt' 0 0]).a ((ow' (ce' [s' q0,i' q1] 114)).a (f' (OW Ω Ω))))).a ((nb' q2 123).a ((nb' q2 91).a ((nb' q2 34).a ((nb' q2 116).a ((nb' q2 102).a ((nb' q2 110).a ((nb' q2 45).a ((nb' q2 48).a ((nb' q2 49).a ((nb' q2 50).a ((nb' q2 51).a ((nb' q2 52).a ((nb' q2 53).a ((nb' q2 54).a z)))))))))))))))
theorem XG' (W : World) (s : Δ) (i0 i dep c : Nat) (x : UInt8) (t : Δ) (n : Nat) (t2 : Δ) (j : Nat) (F : HP) : uRun (trb c) [(fNx, cTo1 s i0 (byv x) i), (fGv, cGv c), (DQ', DT' t n false)] (AD' ([hf' fVal 3 0, hf' fVal 4 0, hf' fVal 11 0, hf' fVal 13 0, hf' fVal 16 0, hf' fVal 19 0, hf' fVal 22 0, hf' fVal 23 0, hf' fVal 24 0, hf' fVal 25 0, hf' fVal 26 0, hf' fVal 27 0, hf' fVal 28 0, hf' fVal 29 0, ht' fVal 30 0] ++ [(fVal, 33, 8, h0v (sv t)), ht' fVal 34 1, (fVal, 36, 13, hv (iv (o' j))), (fVal, 36, 14, h0v (sv t2)), (fVal, 37, 5, hv (iv (o' j)))])) [] W fVal (aVal dep) (oU s i0) kV F = VT.leaf (AV.agg [i' 0,i' 0,s' y9',e',e']) [some (ce' [s' s,i' i] 114),some (AO.own Md.nothing noH),none,none] 1101 (h208' s i0 x ((k207' x).a (LF' s i t c k1'))) := χ
theorem XF' (W : World) (s : Δ) (i0 i dep c : Nat) (x : UInt8) (t : Δ) (n : Nat) (t2 : Δ) (j : Nat) (F : HP) : uRun (trb c) [(fNx, cTo1 s i0 (byv x) i), (fGv, cGv c), (DQ', DT' t n true)] (AD' ([hf' fVal 3 0, hf' fVal 4 0, hf' fVal 11 0, hf' fVal 13 0, hf' fVal 16 0, hf' fVal 19 0, hf' fVal 22 0, hf' fVal 23 0, hf' fVal 24 0, hf' fVal 25 0, hf' fVal 26 0, hf' fVal 27 0, hf' fVal 28 0, hf' fVal 29 0, ht' fVal 30 0] ++ [(fVal, 33, 8, h0v (sv t)), hf' fVal 34 1, (fVal, 36, 13, hv (iv (o' j))), (fVal, 36, 14, h0v (sv t2)), (fVal, 37, 5, hv (iv (o' j)))])) [] W fVal (aVal dep) (oU s i0) kV F = VT.leaf (AV.agg [i' 3,i' 0,s' t2,e',e']) [some (ce' [s' s,i' j] 114),some Ω,none,none] 1101 (h208' s i0 x ((k207' x).a (LE' s i t n j t2 k1'))) := χ
abbrev k209' (q0 : UInt8) : Cnd := (nt' q0 56)
theorem XE' (W : World) (s : Δ) (i0 i dep c : Nat) (x : UInt8) (t : Δ) (n : Nat) (t2 : Δ) (j : Nat) (F : HP) : uRun (trb c) [(fNx, cTo1 s i0 (byv x) i), (fGv, cGv c), (DQ', DT' t n false)] (AD' ([hf' fVal 3 0, hf' fVal 4 0, hf' fVal 11 0, hf' fVal 13 0, hf' fVal 16 0, hf' fVal 19 0, hf' fVal 22 0, hf' fVal 23 0, hf' fVal 24 0, hf' fVal 25 0, hf' fVal 26 0, hf' fVal 27 0, hf' fVal 28 0, hf' fVal 29 0, hf' fVal 30 0, ht' fVal 31 0] ++ [(fVal, 33, 8, h0v (sv t)), ht' fVal 34 1, (fVal, 36, 13, hv (iv (o' j))), (fVal, 36, 14, h0v (sv t2)), (fVal, 37, 5, hv (iv (o' j)))])) [] W fVal (aVal dep) (oU s i0) kV F = VT.leaf (AV.agg [i' 0,i' 0,s' y9',e',e']) [some (ce' [s' s,i' i] 114),some (AO.own Md.nothing noH),none,none] 1101 (YX' s i0 x ((k209' x).a (LF' s i t c k1'))) := χ
theorem XD' (W : World) (s : Δ) (i0 i dep c : Nat) (x : UInt8) (t : Δ) (n : Nat) (t2 : Δ) (j : Nat) (F : HP) : uRun (trb c) [(fNx, cTo1 s i0 (byv x) i), (fGv, cGv c), (DQ', DT' t n true)] (AD' ([hf' fVal 3 0, hf' fVal 4 0, hf' fVal 11 0, hf' fVal 13 0, hf' fVal 16 0, hf' fVal 19 0, hf' fVal 22 0, hf' fVal 23 0, hf' fVal 24 0, hf' fVal 25 0, hf' fVal 26 0, hf' fVal 27 0, hf' fVal 28 0, hf' fVal 29 0, hf' fVal 30 0, ht' fVal 31 0] ++ [(fVal, 33, 8, h0v (sv t)), hf' fVal 34 1, (fVal, 36, 13, hv (iv (o' j))), (fVal, 36, 14, h0v (sv t2)), (fVal, 37, 5, hv (iv (o' j)))])) [] W fVal (aVal dep) (oU s i0) kV F = VT.leaf (AV.agg [i' 3,i' 0,s' t2,e',e']) [some (ce' [s' s,i' j] 114),some Ω,none,none] 1101 (YX' s i0 x ((k209' x).a (LE' s i t n j t2 k1'))) := χ
abbrev k210' (q0 : UInt8) : Cnd := (nt' q0 57)
theorem XC' (W : World) (s : Δ) (i0 i dep c : Nat) (x : UInt8) (t : Δ) (n : Nat) (t2 : Δ) (j : Nat) (F : HP) : uRun (trb c) [(fNx, cTo1 s i0 (byv x) i), (fGv, cGv c), (DQ', DT' t n false)] (AD' ([hf' fVal 3 0, hf' fVal 4 0, hf' fVal 11 0, hf' fVal 13 0, hf' fVal 16 0, hf' fVal 19 0, hf' fVal 22 0, hf' fVal 23 0, hf' fVal 24 0, hf' fVal 25 0, hf' fVal 26 0, hf' fVal 27 0, hf' fVal 28 0, hf' fVal 29 0, hf' fVal 30 0, hf' fVal 31 0, ht' fVal 32 0] ++ [(fVal, 33, 8, h0v (sv t)), ht' fVal 34 1, (fVal, 36, 13, hv (iv (o' j))), (fVal, 36, 14, h0v (sv t2)), (fVal, 37, 5, hv (iv (o' j)))])) [] W fVal (aVal dep) (oU s i0) kV F = VT.leaf (AV.agg [i' 0,i' 0,s' y9',e',e']) [some (ce' [s' s,i' i] 114),some (AO.own Md.nothing noH),none,none] 1101 (YX' s i0 x ((k142' x).a ((k210' x).a (LF' s i t c k1')))) := χ
theorem XB' (W : World) (s : Δ) (i0 i dep c : Nat) (x : UInt8) (t : Δ) (n : Nat) (t2 : Δ) (j : Nat) (F : HP) : uRun (trb c) [(fNx, cTo1 s i0 (byv x) i), (fGv, cGv c), (DQ', DT' t n true)] (AD' ([hf' fVal 3 0, hf' fVal 4 0, hf' fVal 11 0, hf' fVal 13 0, hf' fVal 16 0, hf' fVal 19 0, hf' fVal 22 0, hf' fVal 23 0, hf' fVal 24 0, hf' fVal 25 0, hf' fVal 26 0, hf' fVal 27 0, hf' fVal 28 0, hf' fVal 29 0, hf' fVal 30 0, hf' fVal 31 0, ht' fVal 32 0] ++ [(fVal, 33, 8, h0v (sv t)), hf' fVal 34 1, (fVal, 36, 13, hv (iv (o' j))), (fVal, 36, 14, h0v (sv t2)), (fVal, 37, 5, hv (iv (o' j)))])) [] W fVal (aVal dep) (oU s i0) kV F = VT.leaf (AV.agg [i' 3,i' 0,s' t2,e',e']) [some (ce' [s' s,i' j] 114),some Ω,none,none] 1101 (YX' s i0 x ((k142' x).a ((k210' x).a (LE' s i t n j t2 k1')))) := χ
end
theorem VA' (s : Δ) (i : Nat) (w : Δ) : AV.cls (kH (oU s i)) [.ptr 0 0, sv w] := ⟨rfl, Ye, Ye⟩
theorem u_cl (K : Nat -> Bool) : AV.cls K [.tuple []] := ⟨Ye, Ye⟩
theorem B8' {W : World} (hF : AH' W F) {c : Nat} {n : Nat} {b : Bool} (ht : Few t.size) (h : num (bts t) = (n, b)) : C8' Θ (trb c) F DQ' (DT' t n b) :=
 CL' hF (fun _ => RO.ret _) fun _ _ => ⟨_, rfl, by
  have := (aO' (W := W) t ht).up (R := trb c); rw [h] at this
  exact this, rfl, rfl, ⟨Ye, Ye⟩, A4', ⟨⟨Ye, Ye, Ye⟩, Ye⟩, A4'⟩
section
variable {W : World} {s : Δ} {k dep c i0 i : Nat}
theorem va_tE (h : TriU Θ (trb c) W fNx [.ptr 0 0] (oU s i0) (byv 116) (oU s i)) (hg : ∀ v H', TriU Θ (trb c) W fWd [.ptr 0 0, sv ⟨⟨[116, 114, 117, 101]⟩⟩] (oU s i) v H') (v : AV) (H' : LH) : TriU Θ (trb c) W fVal (aVal dep) (oU s i0) v H' := by
 refine A9' kV rfl (fun F hF => A1' (AR' hF (B9' _ _) h) (A1' (AS' hF c) (A1' (EY' hF (VA' _ _ _) (u_cl _) hg) noCU))) (fun _ _ => noLU) fun F => Yj (bL' W s i0 i dep c 116 F) ⟨⟨?_, AG' (m := .nothing) rfl⟩⟩
 exact Cb22'
theorem va_tO (h : TriU Θ (trb c) W fNx [.ptr 0 0] (oU s i0) (byv 116) (oU s i)) (hg : TriU Θ (trb c) W fWd [.ptr 0 0, sv ⟨⟨[116, 114, 117, 101]⟩⟩] (oU s i) (.tuple []) (oU s j)) : TriU Θ (trb c) W fVal (aVal dep) (oU s i0) (aV 2 1 nil0 nilS nilS) (oV s j dum dum) := by
 refine A9' kV rfl (fun F hF => A1' (AR' hF (B9' _ _) h) (A1' (AS' hF c) (A1' (CS' hF (VA' _ _ _) (u_cl _) hg) noCU))) (fun _ _ => noLU) fun F => Yj (bK' W s i0 i dep c 116 j F) (VAll.ite (fun _ => ⟨⟨?_, [aV 2 1 nil0 nilS nilS], oU s j, [], rfl, AJ' [] rfl rfl (Yb) ⟨⟨_, rfl, Yc⟩, ⟨_, rfl, Yc⟩, Ye⟩, fun W0 F N ys w h => BV' h⟩⟩) (fun h => by cases h))
 exact Cb22'
theorem va_fE (h : TriU Θ (trb c) W fNx [.ptr 0 0] (oU s i0) (byv 102) (oU s i)) (hg : ∀ v H', TriU Θ (trb c) W fWd [.ptr 0 0, sv ⟨⟨[102, 97, 108, 115, 101]⟩⟩] (oU s i) v H') (v : AV) (H' : LH) : TriU Θ (trb c) W fVal (aVal dep) (oU s i0) v H' := by
 refine A9' kV rfl (fun F hF => A1' (AR' hF (B9' _ _) h) (A1' (AS' hF c) (A1' (EY' hF (VA' _ _ _) (u_cl _) hg) noCU))) (fun _ _ => noLU) fun F => Yj (bP' W s i0 i dep c 102 F) ⟨⟨?_, AG' (m := .nothing) rfl⟩⟩
 exact Cb22'
theorem va_fO (h : TriU Θ (trb c) W fNx [.ptr 0 0] (oU s i0) (byv 102) (oU s i)) (hg : TriU Θ (trb c) W fWd [.ptr 0 0, sv ⟨⟨[102, 97, 108, 115, 101]⟩⟩] (oU s i) (.tuple []) (oU s j)) : TriU Θ (trb c) W fVal (aVal dep) (oU s i0) (aV 2 0 nil0 nilS nilS) (oV s j dum dum) := by
 refine A9' kV rfl (fun F hF => A1' (AR' hF (B9' _ _) h) (A1' (AS' hF c) (A1' (CS' hF (VA' _ _ _) (u_cl _) hg) noCU))) (fun _ _ => noLU) fun F => Yj (bO' W s i0 i dep c 102 j F) (VAll.ite (fun h => by cases h) (fun _ => ⟨⟨?_, [aV 2 0 nil0 nilS nilS], oU s j, [], rfl, AJ' [] rfl rfl (Yb) ⟨⟨_, rfl, Yc⟩, ⟨_, rfl, Yc⟩, Ye⟩, fun W0 F N ys w h => BV' h⟩⟩))
 exact Cb22'
theorem va_nE (h : TriU Θ (trb c) W fNx [.ptr 0 0] (oU s i0) (byv 110) (oU s i)) (hg : ∀ v H', TriU Θ (trb c) W fWd [.ptr 0 0, sv ⟨⟨[110, 117, 108, 108]⟩⟩] (oU s i) v H') (v : AV) (H' : LH) : TriU Θ (trb c) W fVal (aVal dep) (oU s i0) v H' := by
 refine A9' kV rfl (fun F hF => A1' (AR' hF (B9' _ _) h) (A1' (AS' hF c) (A1' (EY' hF (VA' _ _ _) (u_cl _) hg) noCU))) (fun _ _ => noLU) fun F => Yj (bN' W s i0 i dep c 110 F) ⟨⟨?_, AG' (m := .nothing) rfl⟩⟩
 exact Cb22'
theorem va_nO (h : TriU Θ (trb c) W fNx [.ptr 0 0] (oU s i0) (byv 110) (oU s i)) (hg : TriU Θ (trb c) W fWd [.ptr 0 0, sv ⟨⟨[110, 117, 108, 108]⟩⟩] (oU s i) (.tuple []) (oU s j)) : TriU Θ (trb c) W fVal (aVal dep) (oU s i0) (aV 1 0 nil0 nilS nilS) (oV s j dum dum) := by
 refine A9' kV rfl (fun F hF => A1' (AR' hF (B9' _ _) h) (A1' (AS' hF c) (A1' (CS' hF (VA' _ _ _) (u_cl _) hg) noCU))) (fun _ _ => noLU) fun F => Yj (bM' W s i0 i dep c 110 j F) ⟨⟨?_, [aV 1 0 nil0 nilS nilS], oU s j, [], rfl, AJ' [] rfl rfl (Yb) ⟨⟨_, rfl, Yc⟩, ⟨_, rfl, Yc⟩, Ye⟩, fun W0 F N ys w h => BV' h⟩⟩
 exact Cb22'
theorem va_NgE {n : Nat} (h : TriU Θ (trb c) W fNx [.ptr 0 0] (oU s i0) (byv 45) (oU s i)) (hs : s.size <= 1000000) (hi : i <= s.size) (hn : num (bts (s.extract i s.size)) = (n, false)) (hc : 230 = c) (v : AV) (H' : LH) : TriU Θ (trb c) W fVal (aVal dep) (oU s i0) v H' := by
 refine A9' kV rfl (fun F hF => A1' (AR' hF (B9' _ _) h) (A1' (AS' hF c) (A1' (B8' hF (by unfold Few; rw [ByteArray.size_extract]; omega) hn) noCU))) (fun _ _ => noLU) fun F => Yj (X5' W s i0 i dep c 45 (s.extract i s.size) n nil0 0 F) ⟨⟨?_, AG' (m := .nothing) rfl⟩⟩
 exact Cb23'
theorem va_NgO {n : Nat} (h : TriU Θ (trb c) W fNx [.ptr 0 0] (oU s i0) (byv 45) (oU s i)) (hs : s.size <= 1000000) (hi : i <= s.size) (hn : num (bts (s.extract i s.size)) = (n, true)) (hj : j = i + n) (hjs : j <= s.size) : TriU Θ (trb c) W fVal (aVal dep) (oU s i0) (aV 3 0 (s.extract i j) nilS nilS) (oV s j dum dum) := by
 refine A9' kV rfl (fun F hF => A1' (AR' hF (B9' _ _) h) (A1' (AS' hF c) (A1' (B8' hF (by unfold Few; rw [ByteArray.size_extract]; omega) hn) noCU))) (fun _ _ => noLU) fun F => Yj (X4' W s i0 i dep c 45 (s.extract i s.size) n (s.extract i j) j F) ⟨⟨?_, [aV 3 0 (s.extract i j) nilS nilS], oU s j, [], rfl, AJ' [] rfl rfl (Yb) ⟨⟨_, rfl, Yc⟩, ⟨_, rfl, Yc⟩, Ye⟩, fun W0 F N ys w h => BV' h⟩⟩
 exact Cb24'
theorem va_D0E {n : Nat} (h : TriU Θ (trb c) W fNx [.ptr 0 0] (oU s i0) (byv 48) (oU s i)) (hs : s.size <= 1000000) (hi : i <= s.size) (hn : num (bts (s.extract i s.size)) = (n, false)) (hc : 230 = c) (v : AV) (H' : LH) : TriU Θ (trb c) W fVal (aVal dep) (oU s i0) v H' := by
 refine A9' kV rfl (fun F hF => A1' (AR' hF (B9' _ _) h) (A1' (AS' hF c) (A1' (B8' hF (by unfold Few; rw [ByteArray.size_extract]; omega) hn) noCU))) (fun _ _ => noLU) fun F => Yj (XU' W s i0 i dep c 48 (s.extract i s.size) n nil0 0 F) ⟨⟨?_, AG' (m := .nothing) rfl⟩⟩
 exact Cb23'
theorem va_D0O {n : Nat} (h : TriU Θ (trb c) W fNx [.ptr 0 0] (oU s i0) (byv 48) (oU s i)) (hs : s.size <= 1000000) (hi : i <= s.size) (hn : num (bts (s.extract i s.size)) = (n, true)) (hj : j = i + n) (hjs : j <= s.size) : TriU Θ (trb c) W fVal (aVal dep) (oU s i0) (aV 3 0 (s.extract i j) nilS nilS) (oV s j dum dum) := by
 refine A9' kV rfl (fun F hF => A1' (AR' hF (B9' _ _) h) (A1' (AS' hF c) (A1' (B8' hF (by unfold Few; rw [ByteArray.size_extract]; omega) hn) noCU))) (fun _ _ => noLU) fun F => Yj (XT' W s i0 i dep c 48 (s.extract i s.size) n (s.extract i j) j F) ⟨⟨?_, [aV 3 0 (s.extract i j) nilS nilS], oU s j, [], rfl, AJ' [] rfl rfl (Yb) ⟨⟨_, rfl, Yc⟩, ⟨_, rfl, Yc⟩, Ye⟩, fun W0 F N ys w h => BV' h⟩⟩
 exact Cb24'
theorem va_D1E {n : Nat} (h : TriU Θ (trb c) W fNx [.ptr 0 0] (oU s i0) (byv 49) (oU s i)) (hs : s.size <= 1000000) (hi : i <= s.size) (hn : num (bts (s.extract i s.size)) = (n, false)) (hc : 230 = c) (v : AV) (H' : LH) : TriU Θ (trb c) W fVal (aVal dep) (oU s i0) v H' := by
 refine A9' kV rfl (fun F hF => A1' (AR' hF (B9' _ _) h) (A1' (AS' hF c) (A1' (B8' hF (by unfold Few; rw [ByteArray.size_extract]; omega) hn) noCU))) (fun _ _ => noLU) fun F => Yj (XS' W s i0 i dep c 49 (s.extract i s.size) n nil0 0 F) ⟨⟨?_, AG' (m := .nothing) rfl⟩⟩
 exact Cb23'
theorem va_D1O {n : Nat} (h : TriU Θ (trb c) W fNx [.ptr 0 0] (oU s i0) (byv 49) (oU s i)) (hs : s.size <= 1000000) (hi : i <= s.size) (hn : num (bts (s.extract i s.size)) = (n, true)) (hj : j = i + n) (hjs : j <= s.size) : TriU Θ (trb c) W fVal (aVal dep) (oU s i0) (aV 3 0 (s.extract i j) nilS nilS) (oV s j dum dum) := by
 refine A9' kV rfl (fun F hF => A1' (AR' hF (B9' _ _) h) (A1' (AS' hF c) (A1' (B8' hF (by unfold Few; rw [ByteArray.size_extract]; omega) hn) noCU))) (fun _ _ => noLU) fun F => Yj (XR' W s i0 i dep c 49 (s.extract i s.size) n (s.extract i j) j F) ⟨⟨?_, [aV 3 0 (s.extract i j) nilS nilS], oU s j, [], rfl, AJ' [] rfl rfl (Yb) ⟨⟨_, rfl, Yc⟩, ⟨_, rfl, Yc⟩, Ye⟩, fun W0 F N ys w h => BV' h⟩⟩
 exact Cb24'
theorem va_D2E {n : Nat} (h : TriU Θ (trb c) W fNx [.ptr 0 0] (oU s i0) (byv 50) (oU s i)) (hs : s.size <= 1000000) (hi : i <= s.size) (hn : num (bts (s.extract i s.size)) = (n, false)) (hc : 230 = c) (v : AV) (H' : LH) : TriU Θ (trb c) W fVal (aVal dep) (oU s i0) v H' := by
 refine A9' kV rfl (fun F hF => A1' (AR' hF (B9' _ _) h) (A1' (AS' hF c) (A1' (B8' hF (by unfold Few; rw [ByteArray.size_extract]; omega) hn) noCU))) (fun _ _ => noLU) fun F => Yj (XQ' W s i0 i dep c 50 (s.extract i s.size) n nil0 0 F) ⟨⟨?_, AG' (m := .nothing) rfl⟩⟩
 exact Cb23'
theorem va_D2O {n : Nat} (h : TriU Θ (trb c) W fNx [.ptr 0 0] (oU s i0) (byv 50) (oU s i)) (hs : s.size <= 1000000) (hi : i <= s.size) (hn : num (bts (s.extract i s.size)) = (n, true)) (hj : j = i + n) (hjs : j <= s.size) : TriU Θ (trb c) W fVal (aVal dep) (oU s i0) (aV 3 0 (s.extract i j) nilS nilS) (oV s j dum dum) := by
 refine A9' kV rfl (fun F hF => A1' (AR' hF (B9' _ _) h) (A1' (AS' hF c) (A1' (B8' hF (by unfold Few; rw [ByteArray.size_extract]; omega) hn) noCU))) (fun _ _ => noLU) fun F => Yj (XP' W s i0 i dep c 50 (s.extract i s.size) n (s.extract i j) j F) ⟨⟨?_, [aV 3 0 (s.extract i j) nilS nilS], oU s j, [], rfl, AJ' [] rfl rfl (Yb) ⟨⟨_, rfl, Yc⟩, ⟨_, rfl, Yc⟩, Ye⟩, fun W0 F N ys w h => BV' h⟩⟩
 exact Cb24'
theorem va_D3E {n : Nat} (h : TriU Θ (trb c) W fNx [.ptr 0 0] (oU s i0) (byv 51) (oU s i)) (hs : s.size <= 1000000) (hi : i <= s.size) (hn : num (bts (s.extract i s.size)) = (n, false)) (hc : 230 = c) (v : AV) (H' : LH) : TriU Θ (trb c) W fVal (aVal dep) (oU s i0) v H' := by
 refine A9' kV rfl (fun F hF => A1' (AR' hF (B9' _ _) h) (A1' (AS' hF c) (A1' (B8' hF (by unfold Few; rw [ByteArray.size_extract]; omega) hn) noCU))) (fun _ _ => noLU) fun F => Yj (XO' W s i0 i dep c 51 (s.extract i s.size) n nil0 0 F) ⟨⟨?_, AG' (m := .nothing) rfl⟩⟩
 exact Cb23'
theorem va_D3O {n : Nat} (h : TriU Θ (trb c) W fNx [.ptr 0 0] (oU s i0) (byv 51) (oU s i)) (hs : s.size <= 1000000) (hi : i <= s.size) (hn : num (bts (s.extract i s.size)) = (n, true)) (hj : j = i + n) (hjs : j <= s.size) : TriU Θ (trb c) W fVal (aVal dep) (oU s i0) (aV 3 0 (s.extract i j) nilS nilS) (oV s j dum dum) := by
 refine A9' kV rfl (fun F hF => A1' (AR' hF (B9' _ _) h) (A1' (AS' hF c) (A1' (B8' hF (by unfold Few; rw [ByteArray.size_extract]; omega) hn) noCU))) (fun _ _ => noLU) fun F => Yj (XN' W s i0 i dep c 51 (s.extract i s.size) n (s.extract i j) j F) ⟨⟨?_, [aV 3 0 (s.extract i j) nilS nilS], oU s j, [], rfl, AJ' [] rfl rfl (Yb) ⟨⟨_, rfl, Yc⟩, ⟨_, rfl, Yc⟩, Ye⟩, fun W0 F N ys w h => BV' h⟩⟩
 exact Cb24'
theorem va_D4E {n : Nat} (h : TriU Θ (trb c) W fNx [.ptr 0 0] (oU s i0) (byv 52) (oU s i)) (hs : s.size <= 1000000) (hi : i <= s.size) (hn : num (bts (s.extract i s.size)) = (n, false)) (hc : 230 = c) (v : AV) (H' : LH) : TriU Θ (trb c) W fVal (aVal dep) (oU s i0) v H' := by
 refine A9' kV rfl (fun F hF => A1' (AR' hF (B9' _ _) h) (A1' (AS' hF c) (A1' (B8' hF (by unfold Few; rw [ByteArray.size_extract]; omega) hn) noCU))) (fun _ _ => noLU) fun F => Yj (XM' W s i0 i dep c 52 (s.extract i s.size) n nil0 0 F) ⟨⟨?_, AG' (m := .nothing) rfl⟩⟩
 exact Cb23'
theorem va_D4O {n : Nat} (h : TriU Θ (trb c) W fNx [.ptr 0 0] (oU s i0) (byv 52) (oU s i)) (hs : s.size <= 1000000) (hi : i <= s.size) (hn : num (bts (s.extract i s.size)) = (n, true)) (hj : j = i + n) (hjs : j <= s.size) : TriU Θ (trb c) W fVal (aVal dep) (oU s i0) (aV 3 0 (s.extract i j) nilS nilS) (oV s j dum dum) := by
 refine A9' kV rfl (fun F hF => A1' (AR' hF (B9' _ _) h) (A1' (AS' hF c) (A1' (B8' hF (by unfold Few; rw [ByteArray.size_extract]; omega) hn) noCU))) (fun _ _ => noLU) fun F => Yj (XL' W s i0 i dep c 52 (s.extract i s.size) n (s.extract i j) j F) ⟨⟨?_, [aV 3 0 (s.extract i j) nilS nilS], oU s j, [], rfl, AJ' [] rfl rfl (Yb) ⟨⟨_, rfl, Yc⟩, ⟨_, rfl, Yc⟩, Ye⟩, fun W0 F N ys w h => BV' h⟩⟩
 exact Cb24'
theorem va_D5E {n : Nat} (h : TriU Θ (trb c) W fNx [.ptr 0 0] (oU s i0) (byv 53) (oU s i)) (hs : s.size <= 1000000) (hi : i <= s.size) (hn : num (bts (s.extract i s.size)) = (n, false)) (hc : 230 = c) (v : AV) (H' : LH) : TriU Θ (trb c) W fVal (aVal dep) (oU s i0) v H' := by
 refine A9' kV rfl (fun F hF => A1' (AR' hF (B9' _ _) h) (A1' (AS' hF c) (A1' (B8' hF (by unfold Few; rw [ByteArray.size_extract]; omega) hn) noCU))) (fun _ _ => noLU) fun F => Yj (XK' W s i0 i dep c 53 (s.extract i s.size) n nil0 0 F) ⟨⟨?_, AG' (m := .nothing) rfl⟩⟩
 exact Cb23'
theorem va_D5O {n : Nat} (h : TriU Θ (trb c) W fNx [.ptr 0 0] (oU s i0) (byv 53) (oU s i)) (hs : s.size <= 1000000) (hi : i <= s.size) (hn : num (bts (s.extract i s.size)) = (n, true)) (hj : j = i + n) (hjs : j <= s.size) : TriU Θ (trb c) W fVal (aVal dep) (oU s i0) (aV 3 0 (s.extract i j) nilS nilS) (oV s j dum dum) := by
 refine A9' kV rfl (fun F hF => A1' (AR' hF (B9' _ _) h) (A1' (AS' hF c) (A1' (B8' hF (by unfold Few; rw [ByteArray.size_extract]; omega) hn) noCU))) (fun _ _ => noLU) fun F => Yj (XJ' W s i0 i dep c 53 (s.extract i s.size) n (s.extract i j) j F) ⟨⟨?_, [aV 3 0 (s.extract i j) nilS nilS], oU s j, [], rfl, AJ' [] rfl rfl (Yb) ⟨⟨_, rfl, Yc⟩, ⟨_, rfl, Yc⟩, Ye⟩, fun W0 F N ys w h => BV' h⟩⟩
 exact Cb24'
theorem va_D6E {n : Nat} (h : TriU Θ (trb c) W fNx [.ptr 0 0] (oU s i0) (byv 54) (oU s i)) (hs : s.size <= 1000000) (hi : i <= s.size) (hn : num (bts (s.extract i s.size)) = (n, false)) (hc : 230 = c) (v : AV) (H' : LH) : TriU Θ (trb c) W fVal (aVal dep) (oU s i0) v H' := by
 refine A9' kV rfl (fun F hF => A1' (AR' hF (B9' _ _) h) (A1' (AS' hF c) (A1' (B8' hF (by unfold Few; rw [ByteArray.size_extract]; omega) hn) noCU))) (fun _ _ => noLU) fun F => Yj (XI' W s i0 i dep c 54 (s.extract i s.size) n nil0 0 F) ⟨⟨?_, AG' (m := .nothing) rfl⟩⟩
 exact Cb23'
theorem va_D6O {n : Nat} (h : TriU Θ (trb c) W fNx [.ptr 0 0] (oU s i0) (byv 54) (oU s i)) (hs : s.size <= 1000000) (hi : i <= s.size) (hn : num (bts (s.extract i s.size)) = (n, true)) (hj : j = i + n) (hjs : j <= s.size) : TriU Θ (trb c) W fVal (aVal dep) (oU s i0) (aV 3 0 (s.extract i j) nilS nilS) (oV s j dum dum) := by
 refine A9' kV rfl (fun F hF => A1' (AR' hF (B9' _ _) h) (A1' (AS' hF c) (A1' (B8' hF (by unfold Few; rw [ByteArray.size_extract]; omega) hn) noCU))) (fun _ _ => noLU) fun F => Yj (XH' W s i0 i dep c 54 (s.extract i s.size) n (s.extract i j) j F) ⟨⟨?_, [aV 3 0 (s.extract i j) nilS nilS], oU s j, [], rfl, AJ' [] rfl rfl (Yb) ⟨⟨_, rfl, Yc⟩, ⟨_, rfl, Yc⟩, Ye⟩, fun W0 F N ys w h => BV' h⟩⟩
 exact Cb24'
theorem va_D7E {n : Nat} (h : TriU Θ (trb c) W fNx [.ptr 0 0] (oU s i0) (byv 55) (oU s i)) (hs : s.size <= 1000000) (hi : i <= s.size) (hn : num (bts (s.extract i s.size)) = (n, false)) (hc : 230 = c) (v : AV) (H' : LH) : TriU Θ (trb c) W fVal (aVal dep) (oU s i0) v H' := by
 refine A9' kV rfl (fun F hF => A1' (AR' hF (B9' _ _) h) (A1' (AS' hF c) (A1' (B8' hF (by unfold Few; rw [ByteArray.size_extract]; omega) hn) noCU))) (fun _ _ => noLU) fun F => Yj (XG' W s i0 i dep c 55 (s.extract i s.size) n nil0 0 F) ⟨⟨?_, AG' (m := .nothing) rfl⟩⟩
 exact Cb23'
theorem va_D7O {n : Nat} (h : TriU Θ (trb c) W fNx [.ptr 0 0] (oU s i0) (byv 55) (oU s i)) (hs : s.size <= 1000000) (hi : i <= s.size) (hn : num (bts (s.extract i s.size)) = (n, true)) (hj : j = i + n) (hjs : j <= s.size) : TriU Θ (trb c) W fVal (aVal dep) (oU s i0) (aV 3 0 (s.extract i j) nilS nilS) (oV s j dum dum) := by
 refine A9' kV rfl (fun F hF => A1' (AR' hF (B9' _ _) h) (A1' (AS' hF c) (A1' (B8' hF (by unfold Few; rw [ByteArray.size_extract]; omega) hn) noCU))) (fun _ _ => noLU) fun F => Yj (XF' W s i0 i dep c 55 (s.extract i s.size) n (s.extract i j) j F) ⟨⟨?_, [aV 3 0 (s.extract i j) nilS nilS], oU s j, [], rfl, AJ' [] rfl rfl (Yb) ⟨⟨_, rfl, Yc⟩, ⟨_, rfl, Yc⟩, Ye⟩, fun W0 F N ys w h => BV' h⟩⟩
 exact Cb24'
theorem va_D8E {n : Nat} (h : TriU Θ (trb c) W fNx [.ptr 0 0] (oU s i0) (byv 56) (oU s i)) (hs : s.size <= 1000000) (hi : i <= s.size) (hn : num (bts (s.extract i s.size)) = (n, false)) (hc : 230 = c) (v : AV) (H' : LH) : TriU Θ (trb c) W fVal (aVal dep) (oU s i0) v H' := by
 refine A9' kV rfl (fun F hF => A1' (AR' hF (B9' _ _) h) (A1' (AS' hF c) (A1' (B8' hF (by unfold Few; rw [ByteArray.size_extract]; omega) hn) noCU))) (fun _ _ => noLU) fun F => Yj (XE' W s i0 i dep c 56 (s.extract i s.size) n nil0 0 F) ⟨⟨?_, AG' (m := .nothing) rfl⟩⟩
 exact Cb23'
theorem va_D8O {n : Nat} (h : TriU Θ (trb c) W fNx [.ptr 0 0] (oU s i0) (byv 56) (oU s i)) (hs : s.size <= 1000000) (hi : i <= s.size) (hn : num (bts (s.extract i s.size)) = (n, true)) (hj : j = i + n) (hjs : j <= s.size) : TriU Θ (trb c) W fVal (aVal dep) (oU s i0) (aV 3 0 (s.extract i j) nilS nilS) (oV s j dum dum) := by
 refine A9' kV rfl (fun F hF => A1' (AR' hF (B9' _ _) h) (A1' (AS' hF c) (A1' (B8' hF (by unfold Few; rw [ByteArray.size_extract]; omega) hn) noCU))) (fun _ _ => noLU) fun F => Yj (XD' W s i0 i dep c 56 (s.extract i s.size) n (s.extract i j) j F) ⟨⟨?_, [aV 3 0 (s.extract i j) nilS nilS], oU s j, [], rfl, AJ' [] rfl rfl (Yb) ⟨⟨_, rfl, Yc⟩, ⟨_, rfl, Yc⟩, Ye⟩, fun W0 F N ys w h => BV' h⟩⟩
 exact Cb24'
theorem va_D9E {n : Nat} (h : TriU Θ (trb c) W fNx [.ptr 0 0] (oU s i0) (byv 57) (oU s i)) (hs : s.size <= 1000000) (hi : i <= s.size) (hn : num (bts (s.extract i s.size)) = (n, false)) (hc : 230 = c) (v : AV) (H' : LH) : TriU Θ (trb c) W fVal (aVal dep) (oU s i0) v H' := by
 refine A9' kV rfl (fun F hF => A1' (AR' hF (B9' _ _) h) (A1' (AS' hF c) (A1' (B8' hF (by unfold Few; rw [ByteArray.size_extract]; omega) hn) noCU))) (fun _ _ => noLU) fun F => Yj (XC' W s i0 i dep c 57 (s.extract i s.size) n nil0 0 F) ⟨⟨?_, AG' (m := .nothing) rfl⟩⟩
 exact Cb23'
theorem va_D9O {n : Nat} (h : TriU Θ (trb c) W fNx [.ptr 0 0] (oU s i0) (byv 57) (oU s i)) (hs : s.size <= 1000000) (hi : i <= s.size) (hn : num (bts (s.extract i s.size)) = (n, true)) (hj : j = i + n) (hjs : j <= s.size) : TriU Θ (trb c) W fVal (aVal dep) (oU s i0) (aV 3 0 (s.extract i j) nilS nilS) (oV s j dum dum) := by
 refine A9' kV rfl (fun F hF => A1' (AR' hF (B9' _ _) h) (A1' (AS' hF c) (A1' (B8' hF (by unfold Few; rw [ByteArray.size_extract]; omega) hn) noCU))) (fun _ _ => noLU) fun F => Yj (XB' W s i0 i dep c 57 (s.extract i s.size) n (s.extract i j) j F) ⟨⟨?_, [aV 3 0 (s.extract i j) nilS nilS], oU s j, [], rfl, AJ' [] rfl rfl (Yb) ⟨⟨_, rfl, Yc⟩, ⟨_, rfl, Yc⟩, Ye⟩, fun W0 F N ys w h => BV' h⟩⟩
 exact Cb24'
end
theorem KJ' (ks l : Γ) (i n : Nat) : sgn ks (l.drop i) n = sgn ks l (i + n) := by unfold sgn; rw [List.getElem?_drop]
theorem SO' (ks l : Γ) (i n : Nat) : i + sgE ks (l.drop i) n = sgE ks l (i + n) := by
 unfold sgE; rw [KJ']
 split <;> omega
theorem LL' (l : Γ) (i n : Nat) : i + digE (l.drop i) n = digE l (i + n) := by
 unfold digE; rw [List.drop_drop]; omega
theorem P8' (l : Γ) (i n : Nat) : (i + (num3 (l.drop i) n).1, (num3 (l.drop i) n).2) = num3 l (i + n) := by
 have h1 := SO' [43, 45] l i (n + 1); have h2 := LL' l i (sgE [43, 45] (l.drop i) (n + 1)); rw [<- Nat.add_assoc] at h1; rw [h1] at h2; unfold num3; rw [KJ']; split
 ·simp only; rw [h2, <- h1]
  congr 1
  rw [h1, <- h2]; rw [<- h1]; apply decide_eq_decide.2; omega
 ·rfl
theorem PB' (l : Γ) (i n : Nat) : (i + (num2 (l.drop i) n).1, (num2 (l.drop i) n).2) = num2 l (i + n) := by
 have h2 := LL' l i (n + 1); rw [<- Nat.add_assoc] at h2; unfold num2; rw [KJ']; split
 ·rw [<- h2]
  by_cases hh : n + 1 < digE (l.drop i) (n + 1)
  ·rw [if_pos hh, if_pos ω]; exact P8' l i _
  ·rw [if_neg hh, if_neg ω]
 ·exact P8' l i n
theorem NK' (l : Γ) (i : Nat) : numF l i = (i + (num (l.drop i)).1, (num (l.drop i)).2) := by
 have h1 := SO' [45] l i 0; have h2 := LL' l i (sgE [45] (l.drop i) 0); rw [h1] at h2; simp only [Nat.add_zero] at h1 h2; unfold numF num; rw [KJ', h1, <- h2]; split
 ·rw [PB', <- h1]; rfl
 ·by_cases hh : sgE [45] (l.drop i) 0 < digE (l.drop i) (sgE [45] (l.drop i) 0)
  ·rw [if_pos hh, if_pos ω, PB']
  ·rw [if_neg hh, if_neg ω]
theorem Y9' {n : Nat} (hn : n <= l.length) : n <= (num3 l n).1 /\ (num3 l n).1 <= l.length := by
 unfold num3; split
 ·rename_i h; have h1 := WE' [43, 45] l (n + 1)
  have hl : n + 1 <= l.length := by
   unfold sgn at h
   cases hx : l[n]? with
   | none => rw [hx] at h; cases h
   | some c => exact (List.getElem?_eq_some_iff.1 hx).1
  have h2 := J3' (ks := [43, 45]) hl; have h3 := GW' h2; have h4 := ZM' l (sgE [43, 45] l (n + 1)); exact ⟨by simp only; omega, h3⟩
 ·exact ⟨Yd, hn⟩
theorem T4' {n : Nat} (hn : n <= l.length) : n <= (num2 l n).1 /\ (num2 l n).1 <= l.length := by
 unfold num2; split
 ·rename_i h
  have hl : n + 1 <= l.length := by
   unfold sgn at h
   cases hx : l[n]? with
   | none => rw [hx] at h; cases h
   | some c => exact (List.getElem?_eq_some_iff.1 hx).1
  have h3 := GW' hl; have h4 := ZM' l (n + 1); split
  ·have := Y9' h3; omega
  ·exact ⟨by simp only; omega, h3⟩
 ·exact Y9' hn
theorem m0' : (num l).1 <= l.length /\ ((num l).2 = true -> 0 < (num l).1) := by
 have h0 := J3' (ks := [45]) (Nat.zero_le l.length); unfold num; split
 ·rename_i h
  have hl : sgE [45] l 0 + 1 <= l.length := by
   unfold sgn at h
   cases hx : l[sgE [45] l 0]? with
   | none => rw [hx] at h; cases h
   | some c => exact (List.getElem?_eq_some_iff.1 hx).1
  have := T4' hl
  exact ⟨this.2, fun _ => ω⟩
 ·have h3 := GW' h0; split
  ·have := T4' h3
   exact ⟨this.2, fun _ => ω⟩
  ·exact ⟨h3, fun h => by cases h⟩
theorem H2' {i : Nat} {w : Γ} (hw : w ≠ []) (h : GB' l i w = true) : i + w.length <= l.length := by
 unfold GB' at h; have h1 := congrArg List.length (beq_iff_eq.1 h); rw [List.length_take, List.length_drop] at h1; have : 0 < w.length := List.length_pos_iff.2 hw; omega
theorem ext_tB (s : Δ) (i j : Nat) : s.extract i j = tB ((bts s).drop i |>.take (j - i)) := by
 apply ByteArray.ext; apply Array.ext'; rw [E6', ByteArray.data_extract, Array.toList_extract]; rfl
end Go.Proofs.YtdphpillcaajpaaDoor.Js
