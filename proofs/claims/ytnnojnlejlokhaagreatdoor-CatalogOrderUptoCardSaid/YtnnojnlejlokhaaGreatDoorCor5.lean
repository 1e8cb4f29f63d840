/- Parts of the proof, merged. -/
import Derived.Test.YtnnojnlejlokhaaGreatDoorCor4
import Derived.Test.YtnnojnlejlokhaaGreatDoorCor2
import Derived.Test.YtnnojnlejlokhaaGreatDoorMem
import Derived.Deep.Slices
import Derived.SizedLaws
import Derived.Test.YtnnojnlejlokhaaGreatDoorRows
import Derived.Deep.DeepHandedRow
import Derived.Lay
import Derived.ProofKit
import Derived.OpenShut
import Derived.Deep.Fields
import Derived.ChangeSame
noncomputable section
set_option linter.unusedVariables false
set_option linter.unusedSimpArgs false
set_option maxRecDepth 100000
set_option linter.unusedSectionVars false
namespace Go.Proofs.YtnnojnlejlokhaaGreatDoor.Wk
open Go Go.RowKit Eng Kit Tree Co
open Int renaming ofNat -> o'
open Go.Value renaming string -> vs'
open AO renaming cells -> ce'
open AV renaming v -> v'
open AV renaming ptr -> pt'
open Cnd renaming holds -> ch'
open Nat renaming blt_eq -> bl'
open List renaming length_append -> la'
open Go.Value renaming slice -> sl'
variable {px q1 q2 p1 p2 : AV} {po D : AO} {W : World} {i c : Nat} {sz : Int} {k : Γ}
structure OldP (W : World) (a : Addr) (l : List Chg) : Prop where
 b1 : l.length.ble l.length = true
 b2 : ((List.range (l.length * 3)).all fun j => (W.cell? (a.add j)).isSome) = true
 b3 : vmap (AL' W a (l.length * 3)) = rowV chV l
 b4 : (rowV chV l).all AV.one = true
 b5 : (l.length * 40).ble 140737488355328 = true
 b6 : l.length.ble 9223372036854775807 = true
 bp : 0 < l.length
 bl : l.length <= 1048576
theorem OldP.mk' {a : Addr} {l : List Chg} (h : CAt W (some a) l) (hp : 0 < l.length) : OldP W a l := by
 have hl := h.len
 obtain ⟨b2, b3⟩ := S2' (W := W) (a := a) (l := l) fun i y hy j v hv => by
  obtain ⟨a9, e, q⟩ := h.at' i y hy; cases e; exact q j v hv
 exact ⟨AW' (Yd), b2, b3, WH' l, AW' ω, AW' ω, hp, hl⟩
theorem OldP.tk (l : List Chg) : List.take (l.length * 3) (List.drop 0 (rowV chV l)) = rowV chV l := by rw [List.drop_zero, List.take_of_length_le (by rw [BE' chV_len]; exact Yd)]
theorem OldP.le (l : List Chg) : (l.length * 3).ble (rowV chV l).length = true := AW' (by rw [BE' chV_len]; exact Yd)
theorem OldP.be (l : List Chg) : (rowV chV l).length.beq (l.length * 3) = true := by rw [BE' chV_len]; exact Nat.beq_refl _
theorem two_5 {l1 l2 : List Chg} (h1 : l1.length <= 1048576) (h2 : l2.length <= 1048576) : ((l1.length + l2.length) * 40).ble 140737488355328 = true := AW' ω
theorem two_6 {l1 l2 : List Chg} (h1 : l1.length <= 1048576) (h2 : l2.length <= 1048576) : (l1.length + l2.length).ble 9223372036854775807 = true := AW' ω
def Bd (l1 l2 : List Chg) : Prop := szL l1 + szL l2 <= 400000 /\ l1.length + l2.length <= 9000
theorem bd_s {s : Nat} (h : decide (o' s > o' 400000) = false) : s <= 400000 := by
 simp only [decide_eq_false_iff_not, Int.ofNat_eq_natCast] at h; omega
theorem bd_n {n m : Nat} (hn : n <= 1048576) (hm : m <= 1048576) (h : decide (IntKind.i64.wrap ((n : Int) + (m : Int)) > o' 9000) = false) : n + m <= 9000 := by
 rw [IntWalk.i64_in _ ω] at h; simp only [decide_eq_false_iff_not, Int.ofNat_eq_natCast] at h; omega
structure PxK (px p1 p2 q1 q2 : AV) (po : AO) (i j : Nat) : Prop where
 hpo : ∀ σ, po.ren σ = po
 w1 : ∀ k, Wk (AV.ren (sgN (nmTg (k, .a2)) [1000] i) px) p1
 w2 : ∀ k, Wk (AV.ren (sgN (nmTg (k, .b2)) [1000] j) px) p2
 v : VW [p1.plain, p2.plain] [AV.ren (nm23 i j) q1, AV.ren (nm23 i j) q2]
def K2' (o1 o2 : Option Addr) (n1 c1 n2 c2 : Nat) (e1 e2 : Int) (B : Prop) (h : Hs) (px : AV) (i j : Nat) (q1 q2 : AV) (po : AO) : HN' := [(BA', BF'), (fOd, cOd h), (fCm, cCm o1 o2 n1 c1 n2 c2 e1 e2 B h), (fPs, cPs B h px po), (fSm, cSm i j q1 q2 po)]
theorem lwPP (W : World) (a1 : Addr) (a2 : Addr) (c1 c2 : Nat) (l1 : List Chg) (l2 : List Chg) (e1 e2 : Int) (B : Prop) (h : Hs) (K : PxK px p1 p2 q1 q2 po 1109 1110) (O1 : OldP W a1 l1) (O2 : OldP W a2 l2) (hBd : Bd l1 l2 -> B)
  (q : ∀ F, AK' W F -> ∀ x ∈ K2' (some a1) (some a2) l1.length c1 l2.length c2 e1 e2 B h px 1109 1110 q1 q2 po, C1OK Θ F x.1 x.2) (ql : ∀ F, AK' W F -> ∀ x ∈ [(fLaw, 9, A3' fLaw 9, lBy (some a1) (some a2) l1.length c1 l2.length c2 (o' (szL (l1 ++ l2))) (l1.length + l2.length) (l1 ++ l2) (cT h .a0) (cT h .a0)), (fLaw, 14, A3' fLaw 14, lOu (some a1) (some a2) l1.length c1 l2.length c2 (o' (szL (l1 ++ l2))) (cT h .a0) (cT h .a0) (cT h .b0))], L1OK Θ F x.2.2.1 x.2.2.2) :
  Tri Θ W fLaw [slV (some a1) l1.length c1, slV (some a2) l2.length c2] [] (bv true) [] := by
 refine AM' (con := [(BA', BF'), (fOd, cOd h), (fCm, cCm (some a1) (some a2) l1.length c1 l2.length c2 e1 e2 B h), (fPs, cPs B h px po), (fSm, cSm 1109 1110 q1 q2 po)]) (hints := hLw [(fLaw, 27, 10, hv p1), (fLaw, 27, 12, hv p2)]) (lc := [(fLaw, 9, A3' fLaw 9, lBy (some a1) (some a2) l1.length c1 l2.length c2 (o' (szL (l1 ++ l2))) (l1.length + l2.length) (l1 ++ l2) (cT h .a0) (cT h .a0)), (fLaw, 14, A3' fLaw 14, lOu (some a1) (some a2) l1.length c1 l2.length c2 (o' (szL (l1 ++ l2))) (cT h .a0) (cT h .a0) (cT h .b0))]) [] χ q ql fun F => ?_
 clear q ql; obtain ⟨b1, b2, b3, b4, b5, b6, bp, bl⟩ := O1; obtain ⟨d1, d2, d3, d4, d5, d6, dp, dl⟩ := O2; have t5 := two_5 bl dl; have t6 := two_6 bl dl; have t7 := OldP.le l1; have t8 := OldP.be l1; have hpo := K.hpo
 refine Yj (UC' W a1 l1.length c1 a2 l2.length c2 (o' (szL (l1 ++ l2))) (l1 ++ l2) e1 e2 B h px p1 p2 q1 q2 po F) ⟨fun hb => ⟨?_, (AJ' (vs' := [bv true]) (H' := []) [] rfl rfl (Yb) trivial).fits rfl⟩, fun hb => ⟨fun hb2 => ⟨?_, (AJ' (vs' := [bv true]) (H' := []) [] rfl rfl (Yb) trivial).fits rfl⟩, fun hb2 => ⟨?_, (AJ' (vs' := [bv true]) (H' := []) [] rfl rfl (Yb) trivial).fits rfl⟩⟩⟩
 ·have hB : True := trivial; exact Cc13'
 ·have hB : True := trivial; exact Cc13'
 ·have hB : B := hBd ⟨by have := bd_s hb; rw [GF'] at this; exact this, bd_n (n := l1.length) (m := l2.length) bl dl hb2⟩; exact Cc13'
theorem lwPN (W : World) (a1 : Addr) (c1 c2 : Nat) (l1 : List Chg) (e1 e2 : Int) (B : Prop) (h : Hs) (K : PxK px p1 p2 q1 q2 po 1108 1109) (O1 : OldP W a1 l1) (hBd : Bd l1 ([] : List Chg) -> B)
  (q : ∀ F, AK' W F -> ∀ x ∈ K2' (some a1) none l1.length c1 0 c2 e1 e2 B h px 1108 1109 q1 q2 po, C1OK Θ F x.1 x.2) (ql : ∀ F, AK' W F -> ∀ x ∈ [(fLaw, 9, A3' fLaw 9, lBy (some a1) none l1.length c1 0 c2 (o' (szL l1)) l1.length l1 (cT h .a0) (cT h .a0)), (fLaw, 14, A3' fLaw 14, lOu (some a1) none l1.length c1 0 c2 (o' (szL l1)) (cT h .a0) (cT h .a0) (cT h .b0))], L1OK Θ F x.2.2.1 x.2.2.2) :
  Tri Θ W fLaw [slV (some a1) l1.length c1, slV none 0 c2] [] (bv true) [] := by
 refine AM' (con := [(BA', BF'), (fOd, cOd h), (fCm, cCm (some a1) none l1.length c1 0 c2 e1 e2 B h), (fPs, cPs B h px po), (fSm, cSm 1108 1109 q1 q2 po)]) (hints := hLw [(fLaw, 8, 4, h0), (fLaw, 27, 10, hv p1), (fLaw, 27, 12, hv p2)]) (lc := [(fLaw, 9, A3' fLaw 9, lBy (some a1) none l1.length c1 0 c2 (o' (szL l1)) l1.length l1 (cT h .a0) (cT h .a0)), (fLaw, 14, A3' fLaw 14, lOu (some a1) none l1.length c1 0 c2 (o' (szL l1)) (cT h .a0) (cT h .a0) (cT h .b0))]) [] χ q ql fun F => ?_
 clear q ql; obtain ⟨b1, b2, b3, b4, b5, b6, bp, bl⟩ := O1; have hpo := K.hpo
 refine Yj (UD' W a1 l1.length c1 c2 (o' (szL l1)) l1 e1 e2 B h px p1 p2 q1 q2 po F) ⟨fun hb => ⟨?_, (AJ' (vs' := [bv true]) (H' := []) [] rfl rfl (Yb) trivial).fits rfl⟩, fun hb => ⟨fun hb2 => ⟨?_, (AJ' (vs' := [bv true]) (H' := []) [] rfl rfl (Yb) trivial).fits rfl⟩, fun hb2 => ⟨?_, (AJ' (vs' := [bv true]) (H' := []) [] rfl rfl (Yb) trivial).fits rfl⟩⟩⟩
 ·have hB : True := trivial; exact Cc14'
 ·have hB : True := trivial; exact Cc14'
 ·have hB : B := hBd ⟨by have := bd_s hb; show szL l1 + 0 <= _; omega, bd_n (n := l1.length) (m := 0) bl (Nat.zero_le _) hb2⟩; exact Cc14'
theorem lwPE (W : World) (a1 : Addr) (a2 : Addr) (c1 c2 : Nat) (l1 : List Chg) (e1 e2 : Int) (B : Prop) (h : Hs) (K : PxK px p1 p2 q1 q2 po 1108 1109) (O1 : OldP W a1 l1) (hBd : Bd l1 ([] : List Chg) -> B)
  (q : ∀ F, AK' W F -> ∀ x ∈ K2' (some a1) (some a2) l1.length c1 0 c2 e1 e2 B h px 1108 1109 q1 q2 po, C1OK Θ F x.1 x.2) (ql : ∀ F, AK' W F -> ∀ x ∈ [(fLaw, 9, A3' fLaw 9, lBy (some a1) (some a2) l1.length c1 0 c2 (o' (szL l1)) l1.length l1 (cT h .a0) (cT h .a0)), (fLaw, 14, A3' fLaw 14, lOu (some a1) (some a2) l1.length c1 0 c2 (o' (szL l1)) (cT h .a0) (cT h .a0) (cT h .b0))], L1OK Θ F x.2.2.1 x.2.2.2) :
  Tri Θ W fLaw [slV (some a1) l1.length c1, slV (some a2) 0 c2] [] (bv true) [] := by
 refine AM' (con := [(BA', BF'), (fOd, cOd h), (fCm, cCm (some a1) (some a2) l1.length c1 0 c2 e1 e2 B h), (fPs, cPs B h px po), (fSm, cSm 1108 1109 q1 q2 po)]) (hints := hLw [(fLaw, 8, 4, h0), (fLaw, 27, 10, hv p1), (fLaw, 27, 12, hv p2)]) (lc := [(fLaw, 9, A3' fLaw 9, lBy (some a1) (some a2) l1.length c1 0 c2 (o' (szL l1)) l1.length l1 (cT h .a0) (cT h .a0)), (fLaw, 14, A3' fLaw 14, lOu (some a1) (some a2) l1.length c1 0 c2 (o' (szL l1)) (cT h .a0) (cT h .a0) (cT h .b0))]) [] χ q ql fun F => ?_
 clear q ql; obtain ⟨b1, b2, b3, b4, b5, b6, bp, bl⟩ := O1; have hpo := K.hpo
 refine Yj (UE' W a1 l1.length c1 a2 0 c2 (o' (szL l1)) l1 e1 e2 B h px p1 p2 q1 q2 po F) ⟨fun hb => ⟨?_, (AJ' (vs' := [bv true]) (H' := []) [] rfl rfl (Yb) trivial).fits rfl⟩, fun hb => ⟨fun hb2 => ⟨?_, (AJ' (vs' := [bv true]) (H' := []) [] rfl rfl (Yb) trivial).fits rfl⟩, fun hb2 => ⟨?_, (AJ' (vs' := [bv true]) (H' := []) [] rfl rfl (Yb) trivial).fits rfl⟩⟩⟩
 ·have hB : True := trivial; exact Cc14'
 ·have hB : True := trivial; exact Cc14'
 ·have hB : B := hBd ⟨by have := bd_s hb; show szL l1 + 0 <= _; omega, bd_n (n := l1.length) (m := 0) bl (Nat.zero_le _) hb2⟩; exact Cc14'
theorem lwNP (W : World) (a2 : Addr) (c1 c2 : Nat) (l2 : List Chg) (e1 e2 : Int) (B : Prop) (h : Hs) (K : PxK px p1 p2 q1 q2 po 1108 1109) (O2 : OldP W a2 l2) (hBd : Bd ([] : List Chg) l2 -> B)
  (q : ∀ F, AK' W F -> ∀ x ∈ K2' none (some a2) 0 c1 l2.length c2 e1 e2 B h px 1108 1109 q1 q2 po, C1OK Θ F x.1 x.2) (ql : ∀ F, AK' W F -> ∀ x ∈ [(fLaw, 9, A3' fLaw 9, lBy none (some a2) 0 c1 l2.length c2 (o' (szL l2)) l2.length l2 (cT h .a0) (cT h .a0)), (fLaw, 14, A3' fLaw 14, lOu none (some a2) 0 c1 l2.length c2 (o' (szL l2)) (cT h .a0) (cT h .a0) (cT h .b0))], L1OK Θ F x.2.2.1 x.2.2.2) :
  Tri Θ W fLaw [slV none 0 c1, slV (some a2) l2.length c2] [] (bv true) [] := by
 refine AM' (con := [(BA', BF'), (fOd, cOd h), (fCm, cCm none (some a2) 0 c1 l2.length c2 e1 e2 B h), (fPs, cPs B h px po), (fSm, cSm 1108 1109 q1 q2 po)]) (hints := hLw [(fLaw, 8, 2, h0), (fLaw, 27, 10, hv p1), (fLaw, 27, 12, hv p2)]) (lc := [(fLaw, 9, A3' fLaw 9, lBy none (some a2) 0 c1 l2.length c2 (o' (szL l2)) l2.length l2 (cT h .a0) (cT h .a0)), (fLaw, 14, A3' fLaw 14, lOu none (some a2) 0 c1 l2.length c2 (o' (szL l2)) (cT h .a0) (cT h .a0) (cT h .b0))]) [] χ q ql fun F => ?_
 clear q ql; obtain ⟨d1, d2, d3, d4, d5, d6, dp, dl⟩ := O2; have hpo := K.hpo
 refine Yj (UF' W c1 a2 l2.length c2 (o' (szL l2)) l2 e1 e2 B h px p1 p2 q1 q2 po F) ⟨fun hb => ⟨?_, (AJ' (vs' := [bv true]) (H' := []) [] rfl rfl (Yb) trivial).fits rfl⟩, fun hb => ⟨fun hb2 => ⟨?_, (AJ' (vs' := [bv true]) (H' := []) [] rfl rfl (Yb) trivial).fits rfl⟩, fun hb2 => ⟨?_, (AJ' (vs' := [bv true]) (H' := []) [] rfl rfl (Yb) trivial).fits rfl⟩⟩⟩
 ·have hB : True := trivial; exact Cc15'
 ·have hB : True := trivial; exact Cc15'
 ·have hB : B := hBd ⟨by have := bd_s hb; show 0 + szL l2 <= _; omega, bd_n (n := 0) (m := l2.length) (Nat.zero_le _) dl hb2⟩; exact Cc15'
theorem lwNN (W : World) (c1 c2 : Nat) (e1 e2 : Int) (B : Prop) (h : Hs) (K : PxK px p1 p2 q1 q2 po 1105 1106) (hBd : Bd ([] : List Chg) ([] : List Chg) -> B)
  (q : ∀ F, AK' W F -> ∀ x ∈ K2' none none 0 c1 0 c2 e1 e2 B h px 1105 1106 q1 q2 po, C1OK Θ F x.1 x.2) (ql : ∀ F, AK' W F -> ∀ x ∈ [(fLaw, 14, A3' fLaw 14, lOu none none 0 c1 0 c2 0 (cT h .a0) (cT h .a0) (cT h .b0))], L1OK Θ F x.2.2.1 x.2.2.2) :
  Tri Θ W fLaw [slV none 0 c1, slV none 0 c2] [] (bv true) [] := by
 refine AM' (con := [(BA', BF'), (fOd, cOd h), (fCm, cCm none none 0 c1 0 c2 e1 e2 B h), (fPs, cPs B h px po), (fSm, cSm 1105 1106 q1 q2 po)]) (hints := hLw [(fLaw, 8, 2, h0), (fLaw, 8, 4, h0), hf' fLaw 9 0, (fLaw, 27, 10, hv p1), (fLaw, 27, 12, hv p2)]) (lc := [(fLaw, 14, A3' fLaw 14, lOu none none 0 c1 0 c2 0 (cT h .a0) (cT h .a0) (cT h .b0))]) [] χ q ql fun F => ?_
 clear q ql; have hpo := K.hpo
 refine Yj (UG' W c1 c2 e1 e2 B h px p1 p2 q1 q2 po F) ⟨fun hb => ⟨?_, (AJ' (vs' := [bv true]) (H' := []) [] rfl rfl (Yb) trivial).fits rfl⟩, fun hb => ⟨fun hb2 => ⟨?_, (AJ' (vs' := [bv true]) (H' := []) [] rfl rfl (Yb) trivial).fits rfl⟩, fun hb2 => ⟨?_, (AJ' (vs' := [bv true]) (H' := []) [] rfl rfl (Yb) trivial).fits rfl⟩⟩⟩
 ·have hB : True := trivial; exact Cc16'
 ·have hB : True := trivial; exact Cc16'
 ·have hB : B := hBd ⟨Nat.zero_le _, Nat.zero_le _⟩; exact Cc16'
theorem lwNE (W : World) (a2 : Addr) (c1 c2 : Nat) (e1 e2 : Int) (B : Prop) (h : Hs) (K : PxK px p1 p2 q1 q2 po 1105 1106) (hBd : Bd ([] : List Chg) ([] : List Chg) -> B)
  (q : ∀ F, AK' W F -> ∀ x ∈ K2' none (some a2) 0 c1 0 c2 e1 e2 B h px 1105 1106 q1 q2 po, C1OK Θ F x.1 x.2) (ql : ∀ F, AK' W F -> ∀ x ∈ [(fLaw, 14, A3' fLaw 14, lOu none (some a2) 0 c1 0 c2 0 (cT h .a0) (cT h .a0) (cT h .b0))], L1OK Θ F x.2.2.1 x.2.2.2) :
  Tri Θ W fLaw [slV none 0 c1, slV (some a2) 0 c2] [] (bv true) [] := by
 refine AM' (con := [(BA', BF'), (fOd, cOd h), (fCm, cCm none (some a2) 0 c1 0 c2 e1 e2 B h), (fPs, cPs B h px po), (fSm, cSm 1105 1106 q1 q2 po)]) (hints := hLw [(fLaw, 8, 2, h0), (fLaw, 8, 4, h0), hf' fLaw 9 0, (fLaw, 27, 10, hv p1), (fLaw, 27, 12, hv p2)]) (lc := [(fLaw, 14, A3' fLaw 14, lOu none (some a2) 0 c1 0 c2 0 (cT h .a0) (cT h .a0) (cT h .b0))]) [] χ q ql fun F => ?_
 clear q ql; have hpo := K.hpo
 refine Yj (UH' W c1 a2 0 c2 e1 e2 B h px p1 p2 q1 q2 po F) ⟨fun hb => ⟨?_, (AJ' (vs' := [bv true]) (H' := []) [] rfl rfl (Yb) trivial).fits rfl⟩, fun hb => ⟨fun hb2 => ⟨?_, (AJ' (vs' := [bv true]) (H' := []) [] rfl rfl (Yb) trivial).fits rfl⟩, fun hb2 => ⟨?_, (AJ' (vs' := [bv true]) (H' := []) [] rfl rfl (Yb) trivial).fits rfl⟩⟩⟩
 ·have hB : True := trivial; exact Cc16'
 ·have hB : True := trivial; exact Cc16'
 ·have hB : B := hBd ⟨Nat.zero_le _, Nat.zero_le _⟩; exact Cc16'
theorem lwEP (W : World) (a1 : Addr) (a2 : Addr) (c1 c2 : Nat) (l2 : List Chg) (e1 e2 : Int) (B : Prop) (h : Hs) (K : PxK px p1 p2 q1 q2 po 1108 1109) (O2 : OldP W a2 l2) (hBd : Bd ([] : List Chg) l2 -> B)
  (q : ∀ F, AK' W F -> ∀ x ∈ K2' (some a1) (some a2) 0 c1 l2.length c2 e1 e2 B h px 1108 1109 q1 q2 po, C1OK Θ F x.1 x.2) (ql : ∀ F, AK' W F -> ∀ x ∈ [(fLaw, 9, A3' fLaw 9, lBy (some a1) (some a2) 0 c1 l2.length c2 (o' (szL l2)) l2.length l2 (cT h .a0) (cT h .a0)), (fLaw, 14, A3' fLaw 14, lOu (some a1) (some a2) 0 c1 l2.length c2 (o' (szL l2)) (cT h .a0) (cT h .a0) (cT h .b0))], L1OK Θ F x.2.2.1 x.2.2.2) :
  Tri Θ W fLaw [slV (some a1) 0 c1, slV (some a2) l2.length c2] [] (bv true) [] := by
 refine AM' (con := [(BA', BF'), (fOd, cOd h), (fCm, cCm (some a1) (some a2) 0 c1 l2.length c2 e1 e2 B h), (fPs, cPs B h px po), (fSm, cSm 1108 1109 q1 q2 po)]) (hints := hLw [(fLaw, 8, 2, h0), (fLaw, 27, 10, hv p1), (fLaw, 27, 12, hv p2)]) (lc := [(fLaw, 9, A3' fLaw 9, lBy (some a1) (some a2) 0 c1 l2.length c2 (o' (szL l2)) l2.length l2 (cT h .a0) (cT h .a0)), (fLaw, 14, A3' fLaw 14, lOu (some a1) (some a2) 0 c1 l2.length c2 (o' (szL l2)) (cT h .a0) (cT h .a0) (cT h .b0))]) [] χ q ql fun F => ?_
 clear q ql; obtain ⟨d1, d2, d3, d4, d5, d6, dp, dl⟩ := O2; have hpo := K.hpo
 refine Yj (UI' W a1 0 c1 a2 l2.length c2 (o' (szL l2)) l2 e1 e2 B h px p1 p2 q1 q2 po F) ⟨fun hb => ⟨?_, (AJ' (vs' := [bv true]) (H' := []) [] rfl rfl (Yb) trivial).fits rfl⟩, fun hb => ⟨fun hb2 => ⟨?_, (AJ' (vs' := [bv true]) (H' := []) [] rfl rfl (Yb) trivial).fits rfl⟩, fun hb2 => ⟨?_, (AJ' (vs' := [bv true]) (H' := []) [] rfl rfl (Yb) trivial).fits rfl⟩⟩⟩
 ·have hB : True := trivial; exact Cc15'
 ·have hB : True := trivial; exact Cc15'
 ·have hB : B := hBd ⟨by have := bd_s hb; show 0 + szL l2 <= _; omega, bd_n (n := 0) (m := l2.length) (Nat.zero_le _) dl hb2⟩; exact Cc15'
theorem lwEN (W : World) (a1 : Addr) (c1 c2 : Nat) (e1 e2 : Int) (B : Prop) (h : Hs) (K : PxK px p1 p2 q1 q2 po 1105 1106) (hBd : Bd ([] : List Chg) ([] : List Chg) -> B)
  (q : ∀ F, AK' W F -> ∀ x ∈ K2' (some a1) none 0 c1 0 c2 e1 e2 B h px 1105 1106 q1 q2 po, C1OK Θ F x.1 x.2) (ql : ∀ F, AK' W F -> ∀ x ∈ [(fLaw, 14, A3' fLaw 14, lOu (some a1) none 0 c1 0 c2 0 (cT h .a0) (cT h .a0) (cT h .b0))], L1OK Θ F x.2.2.1 x.2.2.2) :
  Tri Θ W fLaw [slV (some a1) 0 c1, slV none 0 c2] [] (bv true) [] := by
 refine AM' (con := [(BA', BF'), (fOd, cOd h), (fCm, cCm (some a1) none 0 c1 0 c2 e1 e2 B h), (fPs, cPs B h px po), (fSm, cSm 1105 1106 q1 q2 po)]) (hints := hLw [(fLaw, 8, 2, h0), (fLaw, 8, 4, h0), hf' fLaw 9 0, (fLaw, 27, 10, hv p1), (fLaw, 27, 12, hv p2)]) (lc := [(fLaw, 14, A3' fLaw 14, lOu (some a1) none 0 c1 0 c2 0 (cT h .a0) (cT h .a0) (cT h .b0))]) [] χ q ql fun F => ?_
 clear q ql; have hpo := K.hpo
 refine Yj (UJ' W a1 0 c1 c2 e1 e2 B h px p1 p2 q1 q2 po F) ⟨fun hb => ⟨?_, (AJ' (vs' := [bv true]) (H' := []) [] rfl rfl (Yb) trivial).fits rfl⟩, fun hb => ⟨fun hb2 => ⟨?_, (AJ' (vs' := [bv true]) (H' := []) [] rfl rfl (Yb) trivial).fits rfl⟩, fun hb2 => ⟨?_, (AJ' (vs' := [bv true]) (H' := []) [] rfl rfl (Yb) trivial).fits rfl⟩⟩⟩
 ·have hB : True := trivial; exact Cc16'
 ·have hB : True := trivial; exact Cc16'
 ·have hB : B := hBd ⟨Nat.zero_le _, Nat.zero_le _⟩; exact Cc16'
theorem lwEE (W : World) (a1 : Addr) (a2 : Addr) (c1 c2 : Nat) (e1 e2 : Int) (B : Prop) (h : Hs) (K : PxK px p1 p2 q1 q2 po 1105 1106) (hBd : Bd ([] : List Chg) ([] : List Chg) -> B)
  (q : ∀ F, AK' W F -> ∀ x ∈ K2' (some a1) (some a2) 0 c1 0 c2 e1 e2 B h px 1105 1106 q1 q2 po, C1OK Θ F x.1 x.2) (ql : ∀ F, AK' W F -> ∀ x ∈ [(fLaw, 14, A3' fLaw 14, lOu (some a1) (some a2) 0 c1 0 c2 0 (cT h .a0) (cT h .a0) (cT h .b0))], L1OK Θ F x.2.2.1 x.2.2.2) :
  Tri Θ W fLaw [slV (some a1) 0 c1, slV (some a2) 0 c2] [] (bv true) [] := by
 refine AM' (con := [(BA', BF'), (fOd, cOd h), (fCm, cCm (some a1) (some a2) 0 c1 0 c2 e1 e2 B h), (fPs, cPs B h px po), (fSm, cSm 1105 1106 q1 q2 po)]) (hints := hLw [(fLaw, 8, 2, h0), (fLaw, 8, 4, h0), hf' fLaw 9 0, (fLaw, 27, 10, hv p1), (fLaw, 27, 12, hv p2)]) (lc := [(fLaw, 14, A3' fLaw 14, lOu (some a1) (some a2) 0 c1 0 c2 0 (cT h .a0) (cT h .a0) (cT h .b0))]) [] χ q ql fun F => ?_
 clear q ql; have hpo := K.hpo
 refine Yj (UK' W a1 0 c1 a2 0 c2 e1 e2 B h px p1 p2 q1 q2 po F) ⟨fun hb => ⟨?_, (AJ' (vs' := [bv true]) (H' := []) [] rfl rfl (Yb) trivial).fits rfl⟩, fun hb => ⟨fun hb2 => ⟨?_, (AJ' (vs' := [bv true]) (H' := []) [] rfl rfl (Yb) trivial).fits rfl⟩, fun hb2 => ⟨?_, (AJ' (vs' := [bv true]) (H' := []) [] rfl rfl (Yb) trivial).fits rfl⟩⟩⟩
 ·have hB : True := trivial; exact Cc16'
 ·have hB : True := trivial; exact Cc16'
 ·have hB : B := hBd ⟨Nat.zero_le _, Nat.zero_le _⟩; exact Cc16'
theorem lwPPS (W : World) (a1 : Addr) (a2 : Addr) (c1 c2 : Nat) (l1 : List Chg) (l2 : List Chg) (h : Hs) (O1 : OldP W a1 l1) (O2 : OldP W a2 l2)
  (q : ∀ F, AK' W F -> ∀ x ∈ [(BA', BF'), (fOd, cOd h)], C1OK Θ F x.1 x.2) (ql : ∀ F, AK' W F -> ∀ x ∈ [(fLaw, 9, A3' fLaw 9, lBy (some a1) (some a2) l1.length c1 l2.length c2 (o' (szL (l1 ++ l2))) (l1.length + l2.length) (l1 ++ l2) (cT h .a0) (cT h .a0)), (fLaw, 14, A3' fLaw 14, lOuT (some a1) (some a2) l1.length c1 l2.length c2 (o' (szL (l1 ++ l2))) (cT h .a0) (cT h .a0))], L1OK Θ F x.2.2.1 x.2.2.2) :
  Tri Θ W fLaw [slV (some a1) l1.length c1, slV (some a2) l2.length c2] [] (bv true) [] := by
 refine AM' (con := [(BA', BF'), (fOd, cOd h)]) (hints := hLw []) (lc := [(fLaw, 9, A3' fLaw 9, lBy (some a1) (some a2) l1.length c1 l2.length c2 (o' (szL (l1 ++ l2))) (l1.length + l2.length) (l1 ++ l2) (cT h .a0) (cT h .a0)), (fLaw, 14, A3' fLaw 14, lOuT (some a1) (some a2) l1.length c1 l2.length c2 (o' (szL (l1 ++ l2))) (cT h .a0) (cT h .a0))]) [] χ q ql fun F => ?_
 clear q ql; obtain ⟨b1, b2, b3, b4, b5, b6, bp, bl⟩ := O1; obtain ⟨d1, d2, d3, d4, d5, d6, dp, dl⟩ := O2; have t5 := two_5 bl dl; have t6 := two_6 bl dl; have t7 := OldP.le l1; have t8 := OldP.be l1; refine Yj (UB' W a1 l1.length c1 a2 l2.length c2 (o' (szL (l1 ++ l2))) (l1 ++ l2) h F) ⟨⟨?_, (AJ' (vs' := [bv true]) (H' := []) [] rfl rfl (Yb) trivial).fits rfl⟩⟩
 simp only [ch', bl', Nat.zero_add, List.nil_append, true_and, and_true, b3, d3, OldP.tk]; and_intros; all_goals first | (with_reducible assumption) | (with_reducible exact Ye) | (with_reducible exact rfl) | (with_reducible exact Ya) | (with_reducible exact Yb) | (with_reducible exact Yc) | exact A4' rfl | exact A4' (beq_self_eq_true _) | exact Ye | exact rfl | exact Ya | exact Yc | exact AX' rfl rfl | exact AX' (AB' _ _).symm rfl | ((repeat (first | exact VW.nil | refine VW.cons (Wk.any _) ?_ | refine VW.cons Ya ?_)); done)
noncomputable section
def cCk (oa : Option Addr) (n c : Nat) (e : Int) : List AV -> Option (AP AV) := mkC (fun _ => .ret ()) (fun _ => True) (fun _ k => k) (fun _ => [slV oa n c]) (fun _ => []) (fun _ => .leaf .ret [iv e] [])
def cCC (oa : Option Addr) (n c : Nat) (l : List Chg) : List AV -> Option (AP AV) := mkC (fun _ => .ret ()) (fun _ => True) (fun _ k => k) (fun _ => [slV oa n c]) (fun _ => []) (fun _ => .leaf .ret [sC 1000 n] [(1000, rC l)])
def gMp : List AV -> AP Nat := fun args => match args with
 | [.map i] => .ret i
 | _ => .fail "map"
def cMC (m : KM) (c : Nat) : List AV -> Option (AP AV) := mkC gMp (fun _ => True) nmE (fun _ => [.map 0]) (fun _ => [(0, mO m c)]) (fun _ => .leaf .ret [.map 1000] [(0, mO m c), (1000, mO m c)])
structure Pt where
 l : Nat
 d : Nat
 m : Nat
 r : Nat
 w : Nat
 q : Nat
def gCt (k : Nat -> Nat -> Nat -> AP Pt) : AP Pt := .read 0 fun o => match o with
 | .cells (.ptr l 0 :: .map m :: _) _ => .read l fun o2 => match o2 with
  | .cells (.ptr d 0 :: _) _ => k l d m
  | _ => .fail "log"
 | _ => .fail "catalog"
def gMd : List AV -> AP Pt := fun tms => match tms.getD 6 AV.undef with
 | .slice i _ _ _ _ => gCt fun l d m => .ret ⟨l, d, m, i, 0, 0⟩
 | _ => .fail "made"
def gLp : List AV -> AP Pt := fun tms => match tms.getD 6 AV.undef, tms.getD 8 AV.undef with
 | .slice i _ _ _ _, .ptr w 0 => .read w fun o => match o with
  | .cells (_ :: .map j :: _) _ => gCt fun l d m => .ret ⟨l, d, m, i, w, j⟩
  | _ => .fail "made"
 | _, _ => .fail "made"
def nmLp (p : Pt) (k : Nat) : Nat := match Nat.beq k 1050 with
 | true => p.r
 | false => match Nat.beq k 1051 with
  | true => p.w
  | false => match Nat.beq k 1052 with
   | true => p.q
   | false => match Nat.beq k 1001 with
    | true => p.l
    | false => match Nat.beq k 1002 with
     | true => p.d
     | false => match Nat.beq k 1003 with
      | true => p.m
      | false => k
def lMd (D : AO) (sz b0 : Int) (m0 : KM) (c0 : Nat) (n : Nat) (l l2 : List Chg) : List AV -> AP (AX × List AV) := mkL gMd (fun _ => True) nmLp (fun _ => tms 0 102 (aMd n 0)) (fun _ => oMd D sz b0 m0 c0 l) (fun _ => .leaf (.exit 0) (tms 0 102 [(0, .ptr 0 0), (6, sC 1050 n)]) (oMd D sz b0 m0 c0 l2))
def lLp (D : AO) (sz b0 : Int) (m0 : KM) (c0 : Nat) (n : Nat) (l : List Chg) (b : Int) (m : KM) (c : Nat) (b9 : Int) (m' : KM) (c' : Nat) : List AV -> AP (AX × List AV) := mkL gLp (fun _ => True) nmLp (fun _ => tms 0 102 (aLp n 0)) (fun _ => oLp D sz b0 m0 c0 l b m c) (fun _ => .leaf (.exit 2) (tms 0 102 [(0, .ptr 0 0), (6, sC 1050 n), (8, .ptr 1051 0)]) (oLp D sz b0 m0 c0 l b9 m' c'))
def cEc (n p : Nat) (l : List Chg) (e : Bs) : List AV -> Option (AP AV) := mkC gP1 (fun _ => True) nmE (fun _ => [sC 0 n]) (fun _ => [(0, rC l)]) (fun _ => .leaf .ret [sB 1000 p] [(1000, rB e)])
def gAp : List AV -> AP (Nat × Nat × Nat) := fun args => match args with
 | [.ptr l 0, .slice j _ _ _ _] => .read l fun o => match o with
  | .cells (.ptr d 0 :: _) _ => .ret (d, l, j)
  | _ => .fail "log"
 | [.ptr l 0] => .read l fun o => match o with
  | .cells (.ptr d 0 :: _) _ => .ret (d, l, 0)
  | _ => .fail "log"
 | _ => .fail "log"
def nmA (p : Nat × Nat × Nat) (k : Nat) : Nat := match k with
 | 0 => p.1
 | 2 => p.2.1
 | 4 => p.2.2
 | k => k
def cAp (sz sz' : Int) (p : Nat) (e : Bs) (D D' : AO) : List AV -> Option (AP AV) := mkC gAp (fun _ => True) nmA (fun _ => [.ptr 2 0, sB 4 p]) (fun _ => [(0, D), (2, lgC sz), (4, rB e)]) (fun _ => .leaf .ret [iv 0] [(0, D'), (2, lgC sz'), (4, rB e)])
def cSy (sz : Int) (D D' : AO) : List AV -> Option (AP AV) := mkC gAp (fun _ => True) nmA (fun _ => [.ptr 2 0]) (fun _ => [(0, D), (2, lgC sz)]) (fun _ => .leaf .ret [.tuple []] [(0, D'), (2, lgC sz)])
def kCm : List Nat := [0, 1001, 1002, 1003, 1100, 1101, 1102, 1103, 1104, 1105, 1106, 1107, 1108, 1109, 1110, 1111, 1112, 1113, 1114, 1115, 1116, 1117, 1118, 1119, 1120, 1121, 1122, 1123, 1124]
theorem ZQ' (W : World) (oa : Option Addr) (n c : Nat) (D : AO) (sz b : Int) (m : KM) (ck : Nat) (F : HP) : wRun [(fCk, cCk oa n c 130)] (AE' [ht' fCm 2 1]) [] W fCm [.ptr 0 0, slV oa n c] (catG D sz b m ck) [0, 1001, 1002, 1003] F = VT.leaf (i' 130) [some (ce' [pt' 1001 0,AV.map 1003,z' b] 142),some (ce' [pt' 1002 0,s' nmL,i' 1,z' sz] 216),some D,some (AO.map (kM m) ck)] 1100 (((Cnd.p True).a (f' (VW [v' (sl' oa n c)] [v' (sl' oa n c)]))).a (k21'.a k1')) := χ
theorem ZO' (W : World) (oa : Option Addr) (c : Nat) (D : AO) (sz b : Int) (m : KM) (ck : Nat) (F : HP) : wRun [(fCk, cCk oa 0 c 0)] (AE' [hf' fCm 2 1, ht' fCm 2 5]) [] W fCm [.ptr 0 0, slV oa 0 c] (catG D sz b m ck) [0, 1001, 1002, 1003] F = VT.leaf (i' 0) [some (ce' [pt' 1001 0,AV.map 1003,z' b] 142),some (ce' [pt' 1002 0,s' nmL,i' 1,z' sz] 216),some D,some (AO.map (kM m) ck)] 1100 (((Cnd.p True).a (f' (VW [v' (sl' oa 0 c)] [v' (sl' oa 0 c)]))).a (k5'.a (k21'.a k1'))) := χ
abbrev h65' (q0 q1 : Nat) (q2 : Int) (q3 : Nat) (q4 : Int) (z : Cnd) : Cnd := ((ow' (ce' [pt' q0 0,AV.map q1,z' q2] 142)).a ((ow' (ce' [pt' q3 0,s' nmL,i' 1,z' q4] 216)).a z))
abbrev k66' (q0 : Addr) (q1 q2 : Nat) : Cnd := ((p' True).a (f' (VW [v' (sl' (some q0) q1 q2)] [v' (sl' (some q0) q1 q2)])))
theorem ZP' (W : World) (a : Addr) (n c p : Nat) (l l2 : List Chg) (e : Bs) (D D' D2 : AO) (sz sz' b b9 : Int) (m m' : KM) (ck ck' : Nat) (F : HP) : wRun [(fCk, cCk (some a) n c 0), (fCC, cCC (some a) n c l), (fMC, cMC m ck), (fEc, cEc n p l2 e), (fAp, cAp sz sz' p e D D'), (fLs, cSy sz' D' D2)] (AE' [hf' fCm 2 1, hf' fCm 2 5, hf' fCm 17 5, hf' fCm 17 11, hf' fCm 20 1]) [(fCm, 6, A3' fCm 6, lMd D sz b m ck n l l2), (fCm, 13, A3' fCm 13, lLp D sz b m ck n l2 b m ck b9 m' ck')] W fCm [.ptr 0 0, slV (some a) n c] (catG D sz b m ck) kCm F = VT.leaf (i' 0) [some (ce' [pt' 1107 0,AV.map 1112,z' b9] 142),none,none,none,none,none,none,none,none,none,none,some (ce' [pt' 1108 0,s' nmL,i' 1,z' sz'] 216),some (AO.ren (sgN (nmA (1108,1107,0)) [] 0) D2),some (AO.map (renE (sgN (nmLp (Pt.mk 1101 1102 1103 1104 1106 1105)) [1001,1002,1003,1050,1051,1052] 1107) (kM m)) ck),none,some (ce' [v' (Value.pointer none),AV.map 1112,z' b9] 142),some (AO.map (renE (sgN (nmLp (Pt.mk 1101 1102 1103 1104 1106 1105)) [1001,1002,1003,1050,1051,1052] 1107) (kM m')) ck'),some (ce' (AV.rens (sgN (nmA (1108,1107,1113)) [] 0) (rowV encB e)) 10),none,none,none,none,none,none,none,none,none,none,none] 1114 ((k66' a n c).a (k5'.a ((wb' (↑n == o' 0) g').a ((k66' a n c).a ((p' ((fCm,6,A3' fCm 6,lMd D sz b m ck n l l2).snd.snd.fst = (fCm,6,A3' fCm 6,lMd D sz b m ck n l l2).snd.snd.fst)).a (k4'.a ((p' (VW (pt' 0 0::v' (sl' (some a) n c)::u'::u'::i' 0::i' 0::AV.slice 1100 0 n 3 (Cp.lo n)::ru4 (u'::v' (sl' (some a) n c)::i' 0::i' 0::g'::g'::v' (sl' (some a) n c)::z' ↑n::g'::g'::u'::v' (sl' (some a) n c)::AV.slice 1100 0 n 3 (Cp.lo n)::AV.slice 1100 0 n 3 (Cp.lo n)::z' ↑n::i' 0::ru16 (ru16 (ru16 (ru16 (ru8 (u'::u'::u'::[]))))))) (pt' 0 0::ra4 (a'::AV.slice 1100 0 n 3 (Cp.lo n)::ra16 (a'::a'::i' n::i' 0::ra16 (ra16 (ra16 (ra16 (ra8 (a'::a'::a'::[])))))))))).a (h65' 1001 1003 b 1002 sz ((p' (OW D (AO.ren (nmLp (Pt.mk 1001 1002 1003 1100 0 0)) D))).a ((p' (OW (AO.map (kM m) ck) (AO.map (renE (nmLp (Pt.mk 1001 1002 1003 1100 0 0)) (kM m)) ck))).a ((p' (OW (ce' (AV.rens (sgN (fun k => k) [1000] 1100) (rowV chV l)) 58) (ce' (AV.rens (nmLp (Pt.mk 1001 1002 1003 1100 0 0)) (rowV chV l)) 58))).a (k7'.a (((Cnd.p True).a ((vw' [AV.map 1103]).a (f' (OW (AO.map (renE (sgN (nmLp (Pt.mk 1001 1002 1003 1100 0 0)) [1001,1002,1003,1050] 1101) (kM m)) ck) (AO.map (renE (nmE 1103) (kM m)) ck))))).a ((k37' b).a ((p' ((fCm,13,A3' fCm 13,lLp D sz b m ck n l2 b m ck b9 m' ck').snd.snd.fst = (fCm,13,A3' fCm 13,lLp D sz b m ck n l2 b m ck b9 m' ck').snd.snd.fst)).a (k4'.a ((p' (VW (pt' 0 0::ra4 (a'::AV.slice 1104 0 n 3 (Cp.lo n)::a'::pt' 1106 0::ra16 (ra8 (ra4 (a'::a'::pt' 0 0::pt' 0 0::pt' 0 1::AV.map 1103::AV.map 1105::pt' 0 0::pt' 0 0::pt' 0 2::z' b::AV.agg [v' (Value.pointer none),AV.map 1105,z' b]::pt' 1106 0::AV.slice 1104 0 n 3 (Cp.lo n)::z' ↑n::i' 0::ra16 (ra16 (ra16 (a'::[])))))))) (pt' 0 0::ra4 (a'::AV.slice 1104 0 n 3 (Cp.lo n)::a'::pt' 1106 0::ra16 (ra16 (ra8 (a'::AV.slice 1104 0 n 3 (Cp.lo n)::i' n::i' 0::ra16 (ra16 (ra16 (a'::[])))))))))).a (h65' 1101 1103 b 1102 sz ((p' (OW (AO.ren (sgN (nmLp (Pt.mk 1001 1002 1003 1100 0 0)) [1001,1002,1003,1050] 1101) D) (AO.ren (nmLp (Pt.mk 1101 1102 1103 1104 1106 1105)) D))).a ((p' (OW (AO.map (renE (sgN (nmE 1103) [1000] 1105) (kM m)) ck) (AO.map (renE (nmLp (Pt.mk 1101 1102 1103 1104 1106 1105)) (kM m)) ck))).a ((p' (OW (ce' (AV.rens (sgN (nmLp (Pt.mk 1001 1002 1003 1100 0 0)) [1001,1002,1003,1050] 1101) (rowV chV l2)) 58) (ce' (AV.rens (nmLp (Pt.mk 1101 1102 1103 1104 1106 1105)) (rowV chV l2)) 58))).a ((ow' (ce' [v' (Value.pointer none),AV.map 1105,z' b] 142)).a ((p' (OW (AO.map (renE (sgN (nmE 1103) [1000] 1105) (kM m)) ck) (AO.map (renE (nmLp (Pt.mk 1101 1102 1103 1104 1106 1105)) (kM m)) ck))).a (k7'.a ((wb' (decide (↑(renE (sgN (nmLp (Pt.mk 1101 1102 1103 1104 1106 1105)) [1001,1002,1003,1050,1051,1052] 1107) (kM m')).length > o' 10000)) g').a ((k37' b9).a ((k28' b9).a (k7'.a (((Cnd.p True).a ((vw' [AV.slice 1110 0 n 3 (Cp.lo n)]).a (f' (OW (ce' (AV.rens (sgN (nmLp (Pt.mk 1101 1102 1103 1104 1106 1105)) [1001,1002,1003,1050,1051,1052] 1107) (rowV chV l2)) 58) (ce' (AV.rens (nmE 1110) (rowV chV l2)) 58))))).a (((Cnd.p True).a ((vw' [pt' 1107 0,AV.slice 1113 0 p 1 (Cp.lo p)]).a ((p' (OW (AO.ren (sgN (nmLp (Pt.mk 1101 1102 1103 1104 1106 1105)) [1001,1002,1003,1050,1051,1052] 1107) D) (AO.ren (nmA (1108,1107,1113)) D))).a ((ow' (ce' [pt' 1108 0,s' nmL,i' 1,z' sz] 216)).a (f' (OW (ce' (AV.rens (sgN (nmE 1110) [1000] 1113) (rowV encB e)) 10) (ce' (AV.rens (nmA (1108,1107,1113)) (rowV encB e)) 10))))))).a (k5'.a (k7'.a (((Cnd.p True).a ((vw' [pt' 1107 0]).a ((p' (OW (AO.ren (sgN (nmA (1108,1107,1113)) [] 0) D') (AO.ren (nmA (1108,1107,0)) D'))).a (f' (OW (ce' [pt' 1108 0,s' nmL,i' 1,z' sz'] 216) (ce' [pt' 1108 0,s' nmL,i' 1,z' sz'] 216)))))).a (k7'.a ((k37' b9).a (h14' k1')))))))))))))))))))))))))))))))))))) := χ
end
theorem gMp_ro : ∀ args, RO (gMp args) := fun args => by
 unfold gMp
 split <;> first | exact RO.ret _ | exact RO.fail _
theorem SP' {k : Nat -> Nat -> Nat -> AP Pt} (h : ∀ l d m, RO (k l d m)) : RO (gCt k) := by
 unfold gCt
 refine RO.read _ _ fun o => ?_
 split
 ·refine RO.read _ _ fun o => ?_
  split <;> first | exact h _ _ _ | exact RO.fail _
 ·exact RO.fail _
theorem gMd_ro : ∀ args, RO (gMd args) := fun args => by
 unfold gMd; split
 ·exact SP' fun _ _ _ => RO.ret _
 ·exact RO.fail _
theorem gLp_ro : ∀ args, RO (gLp args) := fun args => by
 unfold gLp; split
 ·refine RO.read _ _ fun o => ?_
  split
  ·exact SP' fun _ _ _ => RO.ret _
  ·exact RO.fail _
 ·exact RO.fail _
theorem LH' {K : Nat -> Bool} {b : Int} {m : KM} (h1 : K 1001 = true) (h2 : K 1002 = true) (h3 : K 1003 = true) (hD : D.cl K) : ∀ x ∈ catG D sz b m c, x.2.cl K := A0' ⟨h1, h3, Ye, Ye⟩ (A0' ⟨h2, Ye, Ye, Ye, Ye⟩ (A0' hD (A0' (GK' _ _ _) A1')))
theorem I5' {α : Type} {p : α -> Prop} {a b : List α} (h1 : ∀ x ∈ a, p x) (h2 : ∀ x ∈ b, p x) : ∀ x ∈ a ++ b, p x := fun x hx => by
 rcases List.mem_append.1 hx with h | h
 ·exact h1 x h
 ·exact h2 x h
theorem X4' : ∀ args, RO (gAp args) := fun args => by
 unfold gAp; split
 ·refine RO.read _ _ fun o => ?_
  split <;> first | exact RO.ret _ | exact RO.fail _
 ·refine RO.read _ _ fun o => ?_
  split <;> first | exact RO.ret _ | exact RO.fail _
 ·exact RO.fail _
theorem XA' {oa : Option Addr} {l : List Chg} (h : CAt W oa l) (hs : szL l <= 500000) (hn : l.length <= 10000) {e : Int} (he : ckV l = iv e) (F : HP) (hF : AK' W F) : C1OK Θ F fCk (cCk oa l.length c e) :=
 B4' hF (fun _ => iv e) (fun _ => RO.ret _) (fun _ => rfl) (fun _ _ => by have := ck_tri W oa c l h hs hn; rwa [he] at this) fun _ => ⟨rfl, rfl, ⟨Ye, Ye⟩, A1', ⟨Ye, Ye⟩, A1'⟩
theorem cCC_ok {oa : Option Addr} {l : List Chg} (h : CAt W oa l) (hp : 0 < l.length) (F : HP) (hF : AK' W F) : C1OK Θ F fCC (cCC oa l.length c l) :=
 B4' hF (fun _ => sC 1000 l.length) (fun _ => RO.ret _) (fun _ => rfl) (fun _ _ => cc_tri W oa c l h hp) fun _ => ⟨rfl, rfl, ⟨Ye, Ye⟩, A1', ⟨rfl, Ye⟩, A0' (L5' _ _) A1'⟩
theorem cMC_ok (m : KM) (c : Nat) (F : HP) : C1OK Θ F fMC (cMC m c) :=
 B4' (W := default) BC' (fun _ => .map 1000) gMp_ro (fun _ => rfl) (fun _ _ => mc_tri m c) fun _ => ⟨rfl, rfl, ⟨rfl, Ye⟩, A0' (GK' _ _ _) A1', ⟨rfl, Ye⟩, A0' (GK' _ _ _) (A0' (GK' _ _ _) A1')⟩
theorem lMd_ok (D : AO) (hD : ∀ σ : Nat -> Nat, OW D (D.ren σ)) (hC : ∀ K, D.cl K) (sz b0 : Int) (m0 : KM) (c0 : Nat) (l : List Chg) (hl : l.length <= 1048576) (F : HP) : L1OK Θ F (A3' fCm 6) (lMd D sz b0 m0 c0 l.length l (l.map BP')) :=
 CE' (W := default) BC' (fun _ => gMd_ro _) (fun _ _ => ZZ' D hD sz b0 m0 c0 l hl) fun _ => by
  simp only [RT.pick]; exact BQ' rfl rfl (A0' rfl (A0' rfl (A0' Ye (A0' Ye A1')))) (I5' (LH' rfl rfl rfl (hC _)) (A0' (L5' _ _) A1')) (A0' rfl (A0' rfl A1')) (I5' (LH' rfl rfl rfl (hC _)) (A0' (L5' _ _) A1'))
theorem lLp_ok (D : AO) (hD : ∀ σ : Nat -> Nat, OW D (D.ren σ)) (hC : ∀ K, D.cl K) (sz b0 : Int) (m0 : KM) (c0 : Nat) (s : St) (h : s.OK) (l : List Chg) (hl : l.length <= 1048576) (hb : s.b + szL l <= CA') (F : HP) : L1OK Θ F (A3' fCm 13) (lLp D sz b0 m0 c0 l.length l (o' s.b) s.m s.c (o' (apL s l).b) (apL s l).m (apL s l).c) :=
 CE' (W := default) BC' (fun _ => gLp_ro _) (fun _ _ => a5' D hD sz b0 m0 c0 s h l hl hb) fun _ => by
  simp only [RT.pick]; exact BQ' rfl rfl (A0' rfl (A0' rfl (A0' rfl (A0' rfl (A0' Ye (A0' Ye A1')))))) (I5' (LH' rfl rfl rfl (hC _)) (A0' (L5' _ _) (A0' ⟨Ye, rfl, Ye, Ye⟩ (A0' (GK' _ _ _) A1')))) (A0' rfl (A0' rfl (A0' rfl A1'))) (I5' (LH' rfl rfl rfl (hC _)) (A0' (L5' _ _) (A0' ⟨Ye, rfl, Ye, Ye⟩ (A0' (GK' _ _ _) A1'))))
theorem cEc_ok (l : List Chg) (hl : l.length <= 1048576) (hb : szL l <= CA') (hne : l ≠ []) (F : HP) : C1OK Θ F fEc (cEc l.length (encL l).length l (encL l)) :=
 B4' (W := default) BC' (fun _ => sB 1000 (encL l).length) SN' (fun _ => rfl) (fun _ _ => ec_tri l hl hb hne) fun _ => ⟨rfl, rfl, ⟨rfl, Ye⟩, A0' (L5' _ _) A1', ⟨rfl, Ye⟩, A0' (C5' _ _) A1'⟩
theorem cAp_ok (hN : LN W) (S : List Bs) (e : Bs) (hr : e.length <= most) (hp : 0 < e.length) (hS : 0 < (cat S).length) (hz : (cat (S ++ [e])).length <= 1099511627776) (F : HP) (hF : AK' W F) : C1OK Θ F fAp (cAp (o' (cat (S ++ [])).length) (o' (cat (S ++ [e])).length) e.length e (dO S []) (dO S [e])) :=
 B4' hF (fun _ => iv 0) X4' (fun _ => rfl) (fun _ _ => ap_tri W S [] e hr hS hz δ fun F hF => cWo_ok hN e hr hp F hF) fun _ => ⟨rfl, rfl, ⟨rfl, rfl, Ye⟩, A0' Ye (A0' ⟨rfl, Ye, Ye, Ye, Ye⟩ (A0' (C5' _ _) A1')), ⟨Ye, Ye⟩, A0' Ye (A0' ⟨rfl, Ye, Ye, Ye, Ye⟩ (A0' (C5' _ _) A1'))⟩
theorem cSy_ok (S : List Bs) (e : Bs) (sz : Int) (hS : 0 < (cat S).length) (hz : (cat (S ++ [e])).length <= 1099511627776) (F : HP) : C1OK Θ F fLs (cSy sz (dO S [e]) (dO (S ++ [e]) [])) :=
 B4' (W := default) BC' (fun _ => .tuple []) X4' (fun _ => rfl) (fun _ _ => sy_tri S [e] sz hS hz (by show 1 < _; decide)) fun _ => ⟨rfl, rfl, ⟨rfl, Ye⟩, A0' Ye (A0' ⟨rfl, Ye, Ye, Ye, Ye⟩ A1'), ⟨Ye, Ye⟩, A0' Ye (A0' ⟨rfl, Ye, Ye, Ye, Ye⟩ A1')⟩
theorem aP' (W : World) (a : Addr) (n c p : Nat) (l l2 : List Chg) (e : Bs) (D D' D2 : AO) (sz sz' b b9 : Int) (m m' : KM) (ck ck' : Nat) (hn : 0 < n)
  (q : ∀ F, AK' W F -> ∀ x ∈ [(fCk, cCk (some a) n c 0), (fCC, cCC (some a) n c l), (fMC, cMC m ck), (fEc, cEc n p l2 e), (fAp, cAp sz sz' p e D D'), (fLs, cSy sz' D' D2)], C1OK Θ F x.1 x.2)
  (ql : ∀ F, AK' W F -> ∀ x ∈ [(fCm, 6, A3' fCm 6, lMd D sz b m ck n l l2), (fCm, 13, A3' fCm 13, lLp D sz b m ck n l2 b m ck b9 m' ck')], L1OK Θ F x.2.2.1 x.2.2.2)
  (hm : m'.length <= 10000) (hb : b9 <= 500000) (hD : ∀ σ, D.ren σ = D) (hD1 : ∀ σ, D'.ren σ = D') (hD2 : ∀ σ, D2.ren σ = D2) :
  Tri Θ W fCm [.ptr 0 0, slV (some a) n c] (catG D sz b m ck) (iv 0) (catG D2 sz' b9 m' ck') := by
 refine AM' (con := [(fCk, cCk (some a) n c 0), (fCC, cCC (some a) n c l), (fMC, cMC m ck), (fEc, cEc n p l2 e), (fAp, cAp sz sz' p e D D'), (fLs, cSy sz' D' D2)]) (hints := AE' [hf' fCm 2 1, hf' fCm 2 5, hf' fCm 17 5, hf' fCm 17 11, hf' fCm 20 1]) (lc := [(fCm, 6, A3' fCm 6, lMd D sz b m ck n l l2), (fCm, 13, A3' fCm 13, lLp D sz b m ck n l2 b m ck b9 m' ck')]) kCm χ q ql fun F => ?_
 clear q ql; refine Yj (ZP' W a n c p l l2 e D D' D2 sz sz' b b9 m m' ck ck' F) ⟨⟨?_, (AJ' (vs' := [iv 0]) (H' := catG D2 sz' b9 m' ck') [(1001, 1107), (1002, 1108), (1003, 1112)] χ χ (Yb) ⟨⟨_, rfl, Yc⟩, ⟨_, rfl, Yc⟩, ⟨_, rfl, by rw [hD2, hD2]; exact Yc⟩, ⟨_, rfl, D2' (IC' _ _) rfl⟩, Ye⟩).fits rfl⟩⟩; have e1 : Wk (.v (.bool (((n : Nat) : Int) == o' 0))) (.lit false) := A4' (by simp only [beq_eq_false_iff_ne, ne_eq, Int.ofNat_eq_natCast]; omega); have e2 : Wk (.v (.bool (decide (((kM m').length : Int) > o' 10000)))) (.lit false) := A4' (decide_eq_false (by rw [kM, kE, List.length_map]; simp only [Z0]; omega)); have e3 : Wk (.v (.bool (decide (b9 > o' 500000)))) (.lit false) := A4' (decide_eq_false (by simp only [Z0]; omega))
 simp only [ch', bl', true_and, and_true, hD, hD1, hD2, IC']; and_intros; all_goals first | (with_reducible assumption) | (with_reducible exact Ye) | (with_reducible exact rfl) | (with_reducible exact Ya) | (with_reducible exact Yb) | (with_reducible exact Yc) | exact A4' rfl | exact rfl | exact Ya | exact Yb | exact Yc | exact D2' (IC' _ _) rfl | (refine OW.of_eq ?_; simp only [AO.ren, AD']; done) | ((repeat (first | exact VW.nil | refine VW.cons (Wk.any _) ?_ | refine VW.cons Ya ?_)); done)
def logc (S : List Bs) (l : List Chg) : List Bs := if okL l && !l.isEmpty then S ++ [encL (l.map BP')] else S
theorem PW' (W : World) (hN : LN W) (mk mk2 : List Int) (S : List Bs) (s : St) (hs : s.OK) {oa : Option Addr} {l : List Chg} (c : Nat) (h : CAt W oa l) (hz : s.b + szL l <= 400000) (hn : s.m.length + l.length <= 9000) (hS : 0 < (cat S).length) (hS2 : (cat S).length <= 1000000000) :
  Tri Θ W fCm [.ptr 0 0, slV oa l.length c] [(0, cO mk S s)] (ckV l) [(0, cO mk2 (logc S l) (comm s l))] := by
 refine S0' ?_; refine Tri.post ?_ (W7' (by cases hk : okL l <;> rw [ckV, hk] <;> exact ⟨Ye, Ye⟩))
 cases hk : okL l with
 | false =>
  have eS : logc S l = S := by rw [logc, hk]; rfl
  have ec : comm s l = s := by rw [comm, hk]; rfl
  rw [eS, ec]
  have ev : ckV l = iv 130 := by rw [ckV, hk]
  rw [ev]
  have q := fun F hF => XA' (c := c) h ω ω ev F hF
  refine AM' (con := [(fCk, cCk oa l.length c 130)]) (hints := AE' [ht' fCm 2 1]) (lc := []) [0, 1001, 1002, 1003] χ (fun F hF => DG' (q F hF)) (fun _ _ => noL) fun F => ?_
  rw [catL]; refine Yj (ZQ' W oa l.length c (dO S []) (o' (cat (S ++ [])).length) (o' s.b) s.m s.c F) ⟨⟨?_, (AJ' (vs' := [iv 130]) (H' := catG (dO S []) (o' (cat (S ++ [])).length) (o' s.b) s.m s.c) [(1001, 1001), (1002, 1002), (1003, 1003)] χ χ (Yb) ⟨⟨_, rfl, Yc⟩, ⟨_, rfl, Yc⟩, ⟨_, rfl, Yc⟩, ⟨_, rfl, D2' rfl rfl⟩, Ye⟩).fits rfl⟩⟩; exact Cc17'
 | true =>
  have ev : ckV l = iv 0 := by rw [ckV, hk]
  have ec : comm s l = apL s l := by rw [comm, hk]; rfl
  rw [ev, ec]
  have q1 := fun F hF => XA' (c := c) h ω ω ev F hF
  cases l with
  | nil =>
   show Tri Θ W fCm [.ptr 0 0, slV oa 0 c] (catL S s) (iv 0) (catL S s)
   refine AM' (con := [(fCk, cCk oa 0 c 0)]) (hints := AE' [hf' fCm 2 1, ht' fCm 2 5]) (lc := []) [0, 1001, 1002, 1003] χ (fun F hF => DG' (q1 F hF)) (fun _ _ => noL) fun F => ?_
   rw [catL]; refine Yj (ZO' W oa c (dO S []) (o' (cat (S ++ [])).length) (o' s.b) s.m s.c F) ⟨⟨?_, (AJ' (vs' := [iv 0]) (H' := catG (dO S []) (o' (cat (S ++ [])).length) (o' s.b) s.m s.c) [(1001, 1001), (1002, 1002), (1003, 1003)] χ χ (Yb) ⟨⟨_, rfl, Yc⟩, ⟨_, rfl, Yc⟩, ⟨_, rfl, Yc⟩, ⟨_, rfl, D2' rfl rfl⟩, Ye⟩).fits rfl⟩⟩; exact Cc17'
  | cons x t =>
   obtain ⟨a, rfl, _⟩ := h.at' 0 x rfl; have hp : 0 < (x :: t).length := Nat.succ_pos _
   have hne : (x :: t).map BP' ≠ [] := by simp
   have eS : logc S (x :: t) = S ++ [encL ((x :: t).map BP')] := by rw [logc, hk]; rfl
   rw [eS]
   generalize hl : x :: t = l at *
   have hm1 := PG' l; have hml : (l.map BP').length = l.length := List.length_map _; have hle := HG' (l.map BP'); have hla := T8' hs (l.map BP'); have hea : apL s (l.map BP') = apL s l := VT' s l; rw [hml] at hle; rw [hea, hml] at hla; have hen := SV' hne; have hel : 0 < (encL (l.map BP')).length := List.length_pos_iff.2 hen; have hmost : most = 1048576 := rfl; have hmb : CA' = 1000000000000 := rfl
   have hcz : (cat (S ++ [encL (l.map BP')])).length <= 1099511627776 := by
    rw [LG', la', IV', la', C2']; show _ + (_ + 0) <= _; omega
   have q2 := fun F hF => cCC_ok (c := c) h hp F hF
   have q3 := fun F => cMC_ok s.m s.c F
   have q4 := fun F => cEc_ok (l.map BP') ω ω hne F
   have q5 := fun F hF => cAp_ok hN S (encL (l.map BP')) ω hel hS hcz F hF
   have q6 := fun F => cSy_ok S (encL (l.map BP')) (o' (cat (S ++ [encL (l.map BP')])).length) hS hcz F
   have p1 := fun F => lMd_ok (dO S []) (fun _ => Yc) (fun _ => trivial) (o' (cat (S ++ [])).length) (o' s.b) s.m s.c l ω F
   have p2 := fun F => lLp_ok (dO S []) (fun _ => Yc) (fun _ => trivial) (o' (cat (S ++ [])).length) (o' s.b) s.m s.c s hs (l.map BP') ω ω F
   rw [hea, hml] at p2; rw [hml] at q4; rw [catL, catL, List.append_nil (S ++ _)]
   generalize o' (cat (S ++ [encL (l.map BP')])).length = sz' at *
   generalize o' (cat (S ++ [])).length = sz at *
   refine aP' W a l.length c (encL (l.map BP')).length l (l.map BP') (encL (l.map BP')) (dO S []) (dO S [encL (l.map BP')]) (dO (S ++ [encL (l.map BP')]) []) sz sz' (o' s.b) (o' (apL s l).b) s.m (apL s l).m s.c (apL s l).c hp ?_ ?_ ω (by simp only [Z0]; omega) (fun _ => rfl) (fun _ => rfl) (fun _ => rfl)
   ·exact fun F hF => AO' (q1 F hF) (AO' (q2 F hF) (AO' (q3 F) (AO' (q4 F) (AO' (q5 F hF) (DG' (q6 F))))))
   ·exact fun F hF => DI' (p1 F) (CJ' (p2 F))
abbrev fDc : Nat := 35
theorem ZN' (F : HP) : wRun [] (AE' [hf' fDc 2 2]) [] default fDc [nilS] [] [] F = VT.ite true (VT.leaf (AV.tuple [e',b' true]) [] 1101 (h44' k1')) (VT.leaf (AV.tuple [e',b' true]) [] 1102 ((((fe' 0).a t').a t').a (h44' k1'))) := χ
def cDc : List AV -> Option (AP AV) := mkC (fun _ => .ret ()) (fun _ => True) (fun _ i => i) (fun _ => [nilS]) (fun _ => []) (fun _ => .leaf .ret [.tuple [nilS, bv true]] [])
def catF (D : AO) (sz : Int) (b : Int) (m : KM) (c : Nat) : LH := [(0, ctO (.ptr 1 0) 3 b), (1, lgD 2 sz), (2, D), (3, mO m c)]
def rN : AO := .cells [nilS] tRb
def aOp (i : Nat) : List (Nat × AV) := [(7, .ptr 0 0), (27, .slice 1050 0 1 1 (.lo 1)), (28, iv 1), (29, iv (o' i))]
def ixOp : List Nat := [7, 27, 28, 29]
def kOp : List Nat := [0, 1, 2, 3, 1050, 1100, 1101]
def oOp (D : AO) (sz : Int) : LH := catF D sz 0 [] 0 ++ [(1050, rN)]
theorem YZ' (D : AO) (sz : Int) (F : HP) : BK' [(fDc, cDc)] (AE' [ht' fCo 6 0, (fCo, 7, 1, hv nilS), hf' fCo 9 1, hf' fCo 12 0, (fCo, 16, 0, hv (iv 1))]) [] default fCo (A3' fCo 6) (tms 0 52 (aOp 0)) (oOp D sz) kOp ixOp F = VT.leaf (AX.normal,[pt' 0 0,AV.slice 1050 0 1 1 (Cp.lo 1),i' 1,i' 1],52) [some (ce' [pt' 1 0,AV.map 3,i' 0] 142),some (ce' [pt' 2 0,s' nmL,i' 1,z' sz] 216),some D,some (AO.map [] 0),some (ce' [e'] 148),none,none] 1100 (h10' ((tt'.a (f' (Wk (e') (e')))).a (((Cnd.p True).a (f' (VW [e'] [e']))).a (k5'.a (k5'.a (k12'.a k1')))))) := χ
theorem Z0' (D : AO) (sz : Int) (F : HP) : BK' [] (AE' [hf' fCo 6 0]) [] default fCo (A3' fCo 6) (tms 0 52 (aOp 1)) (oOp D sz) kOp ixOp F = VT.leaf (AX.exit 0,[pt' 0 0,AV.slice 1050 0 1 1 (Cp.lo 1),i' 1,i' 1],52) [some (ce' [pt' 1 0,AV.map 3,i' 0] 142),some (ce' [pt' 2 0,s' nmL,i' 1,z' sz] 216),some D,some (AO.map [] 0),some (ce' [e'] 148),none,none] 1100 (k5'.a k1') := χ
def gOp : List AV -> AP Pt := fun tms => match tms.getD 7 AV.undef, tms.getD 27 AV.undef with
 | .ptr r 0, .slice i _ _ _ _ => .read r fun o => match o with
  | .cells (.ptr l 0 :: .map m :: _) _ => .read l fun o2 => match o2 with
   | .cells (.ptr d 0 :: _) _ => .ret ⟨l, d, m, i, r, 0⟩
   | _ => .fail "log"
  | _ => .fail "catalog"
 | _, _ => .fail "records"
def nmOp (p : Pt) (k : Nat) : Nat := match Nat.beq k 1050 with
 | true => p.r
 | false => match k with
  | 0 => p.w
  | 1 => p.l
  | 2 => p.d
  | 3 => p.m
  | k => k
def lOp (D : AO) (sz : Int) : List AV -> AP (AX × List AV) := mkL gOp (fun _ => True) nmOp (fun _ => tms 0 52 (aOp 0)) (fun _ => oOp D sz) (fun _ => .leaf (.exit 0) (tms 0 52 [(7, .ptr 0 0)]) (oOp D sz))
def cDoZ (Z : AO) : List AV -> Option (AP AV) := mkC (fun _ => .ret ()) (fun _ => True) (fun _ i => i) (fun _ => [nilS, iv 1099511627776]) (fun _ => []) (fun _ => .leaf .ret [.tuple [.ptr 1000 0, iv 0]] [(1000, Z)])
def cWoZ (sz : Int) (D Z : AO) : List AV -> Option (AP AV) := mkC (fun args => match args with | .ptr i 0 :: _ => .ret i | _ => .fail "disk") (fun _ => True) nmE (fun _ => [.ptr 0 0, sv nmL]) (fun _ => [(0, Z)]) (fun _ => .leaf .ret [.tuple [.ptr 1020 0, .slice 1021 0 1 1 (.lo 1), iv 0]] [(0, D), (1020, lgC sz), (1021, rN)])
def kOd : List Nat := [1100, 1101, 1102, 1103, 1104, 1105, 1106, 1107, 1108, 1109]
theorem oOd_eq (W : World) (D Z : AO) (sz : Int) (F : HP) : wRun [(fDo, cDoZ Z), (fWo, cWoZ sz D Z), (fDc, cDc)] (AE' [hf' fOd 2 1, hf' fOd 5 1, hf' fCo 2 1]) [(fCo, 6, A3' fCo 6, lOp D sz)] W fOd [] [] kOd F = VT.leaf (AV.tuple [pt' 1100 0,pt' 1104 0]) [some (AO.ren (sgN (nmOp (Pt.mk 1101 1100 1103 1102 1104 0)) [1050] 1105) D),some (ce' [pt' 1100 0,s' nmL,i' 1,z' sz] 216),none,some (AO.map [] 0),some (ce' [pt' 1101 0,AV.map 1103,i' 0] 142),some (ce' [e'] 148),none,none,none,none] 1106 (((Cnd.p True).a (f' (VW [e',i' 1099511627776] [e',i' 1099511627776]))).a (k5'.a ((((Cnd.p True).a ((p' (VW [pt' 1100 0,s' (ByteArray.mk (Array.mk [99,97,116,97,108,111,103]))] [pt' 1100 0,s' nmL])).a (f' (OW (AO.ren (sgN (fun i => i) [1000] 1100) Z) (AO.ren (nmE 1100) Z))))).a ((f' (Wk (b' false) g')).a ((p' ((fCo,6,A3' fCo 6,lOp D sz).snd.snd.fst = (fCo,6,A3' fCo 6,lOp D sz).snd.snd.fst)).a ((Cnd.p True).a ((p' (VW (pt' 1100 0::u'::v' (Value.pointer none)::i' 0::pt' 1101 0::AV.slice 1102 0 1 1 (Cp.lo 1)::i' 0::pt' 1104 0::ru4 (u'::u'::AV.tuple [pt' 1101 0,AV.slice 1102 0 1 1 (Cp.lo 1),i' 0]::pt' 1100 0::AV.tuple [pt' 1101 0,AV.slice 1102 0 1 1 (Cp.lo 1),i' 0]::pt' 1101 0::AV.slice 1102 0 1 1 (Cp.lo 1)::i' 0::i' 0::g'::u'::pt' 1101 0::AV.map 1103::AV.agg [pt' 1101 0,AV.map 1103,i' 0]::pt' 1104 0::AV.slice 1102 0 1 1 (Cp.lo 1)::i' 1::i' 0::ru16 (ru4 (u'::u'::[])))) (ra4 (a'::a'::a'::pt' 1104 0::ra16 (a'::a'::a'::AV.slice 1102 0 1 1 (Cp.lo 1)::i' 1::i' 0::ra16 (ra4 (a'::a'::[]))))))).a ((ow' (ce' [pt' 1101 0,AV.map 1103,i' 0] 142)).a ((ow' (ce' [pt' 1100 0,s' nmL,i' 1,z' sz] 216)).a ((p' (OW (AO.ren (sgN (nmE 1100) [1020,1021] 1101) D) (AO.ren (nmOp (Pt.mk 1101 1100 1103 1102 1104 0)) D))).a ((ow' (AO.map [] 0)).a (f' (OW (ce' [e'] 148) (ce' [e'] 148)))))))))))).a (k5'.a k1')))) := χ
theorem dc_tri : Tri Θ default fDc [nilS] [] (.tuple [nilS, bv true]) [] := by
 refine AM' (con := []) (hints := AE' [hf' fDc 2 2]) (lc := []) [] rfl (fun _ _ => noC) (fun _ _ => noL) fun F => ?_
 refine Yj (ZN' F) ⟨fun _ => ⟨?_, (AJ' (vs' := [.tuple [nilS, bv true]]) (H' := []) [] rfl rfl (Yb) trivial).fits rfl⟩, fun h => by cases h⟩
 simp only [ch', true_and, and_true]; exact A4' rfl
theorem X9' (F : HP) : C1OK Θ F fDc cDc :=
 B4' (W := default) BC' (fun _ => .tuple [nilS, bv true]) (fun _ => RO.ret _) (fun _ => rfl) (fun _ _ => dc_tri) fun _ => ⟨rfl, rfl, ⟨Ye, Ye⟩, A1', ⟨⟨Ye, Ye, Ye⟩, Ye⟩, A1'⟩
theorem YA' (D : AO) (hD : ∀ σ, D.ren σ = D) (sz : Int) :
  LTri Θ default (A3' fCo 6) (tms 0 52 (aOp 0)) (oOp D sz) (.exit 0) (tms 0 52 [(7, .ptr 0 0)]) (oOp D sz) := by
 refine BG' (W := default) (g := fCo) (b := A3' fCo 6) (σ := Bool) 52 (fun i => aOp (match i with | true => 1 | false => 0)) (fun _ => oOp D sz) (.exit 0) [(7, .ptr 0 0)] (oOp D sz) (fun i => match i with | true => 0 | false => 1) kOp ixOp (by intro h; cases h) (fun i => χ) χ ?_ false; intro i
 cases i with
 | false =>
  refine ⟨[(fDc, cDc)], AE' [ht' fCo 6 0, (fCo, 7, 1, hv nilS), hf' fCo 9 1, hf' fCo 12 0, (fCo, 16, 0, hv (iv 1))], [], fun F _ => DG' (X9' F), fun _ _ => noL, fun F => ?_⟩
  refine Yj (YZ' D sz F) ⟨⟨?_, rfl, .inl ⟨rfl, true, by decide, [(1050, 1050)], by kernel_rfl, by kernel_rfl, ⟨Ya, Ya, Ya, Ya, Ye⟩, ⟨_, rfl, Yc⟩, ⟨_, rfl, Yc⟩, ⟨_, rfl, OW.of_eq (hD _).symm⟩, ⟨_, rfl, Yc⟩, ⟨_, rfl, Yc⟩, Ye⟩⟩⟩
  simp only [ch', true_and, and_true]; and_intros; all_goals first | exact A4' rfl | exact Ya | exact Yb | exact rfl
 | true =>
  refine ⟨[], AE' [hf' fCo 6 0], [], fun _ _ => noC, fun _ _ => noL, fun F => ?_⟩
  refine Yj (Z0' D sz F) ⟨⟨?_, rfl, .inr ⟨rfl, [(1050, 1050)], by kernel_rfl, by kernel_rfl, ⟨Ya, Ye⟩, ⟨_, rfl, Yc⟩, ⟨_, rfl, Yc⟩, ⟨_, rfl, OW.of_eq (hD _).symm⟩, ⟨_, rfl, Yc⟩, ⟨_, rfl, Yc⟩, Ye⟩⟩⟩
  simp only [ch', and_true]; exact A4' rfl
theorem gOp_ro : ∀ tms, RO (gOp tms) := fun tms => by
 unfold gOp; split
 ·refine RO.read _ _ fun o => ?_
  split
  ·refine RO.read _ _ fun o => ?_
   split <;> first | exact RO.ret _ | exact RO.fail _
  ·exact RO.fail _
 ·exact RO.fail _
theorem WJ' {K : Nat -> Bool} (h1 : K 1 = true) (h2 : K 2 = true) (h3 : K 3 = true) (hD : D.cl K) : ∀ x ∈ oOp D sz, x.2.cl K := A0' ⟨h1, h3, Ye, Ye⟩ (A0' ⟨h2, Ye, Ye, Ye, Ye⟩ (A0' hD (A0' (GK' _ _ _) (A0' ⟨Ye, Ye⟩ A1'))))
theorem lOp_ok (D : AO) (hD : ∀ σ, D.ren σ = D) (cD : ∀ K, D.cl K) (sz : Int) (F : HP) : L1OK Θ F (A3' fCo 6) (lOp D sz) :=
 CE' (W := default) BC' (fun _ => gOp_ro _) (fun _ _ => YA' D hD sz) fun _ => by
  simp only [RT.pick]; exact BQ' rfl rfl (A0' rfl (A0' rfl (A0' Ye (A0' Ye A1')))) (WJ' rfl rfl rfl (cD _)) (A0' rfl A1') (WJ' rfl rfl rfl (cD _))
theorem aZ' (F : HP) : C1OK Θ F fDo (cDoZ dZ) :=
 B4' (W := default) BC' (fun _ => .tuple [.ptr 1000 0, iv 0]) (fun _ => RO.ret _) (fun _ => rfl) (fun _ _ => do_z) fun _ => ⟨rfl, rfl, ⟨Ye, Ye, Ye⟩, A1', ⟨⟨rfl, Ye, Ye⟩, Ye⟩, A0' Ye A1'⟩
theorem aU' (hN : LN W) (F : HP) (hF : AK' W F) : C1OK Θ F fWo (cWoZ (o' (cat [[]]).length) (dO [[]] []) dZ) :=
 B4' hF (fun _ => .tuple [.ptr 1020 0, .slice 1021 0 1 1 (.lo 1), iv 0]) (fun args => by split <;> first | exact RO.ret _ | exact RO.fail _) (fun _ => rfl) (fun _ _ => wo_z W hN) fun _ => ⟨rfl, rfl, ⟨rfl, Ye, Ye⟩, A0' Ye A1', ⟨⟨rfl, rfl, Ye, Ye⟩, Ye⟩, A0' Ye (A0' ⟨rfl, Ye, Ye, Ye, Ye⟩ (A0' ⟨Ye, Ye⟩ A1'))⟩
theorem od_run (W : World) (D : AO) (sz : Int) (hD : ∀ σ, D.ren σ = D) (q : ∀ F, AK' W F -> ∀ x ∈ [(fDo, cDoZ dZ), (fWo, cWoZ sz D dZ), (fDc, cDc)], C1OK Θ F x.1 x.2) (ql : ∀ F, L1OK Θ F (A3' fCo 6) (lOp D sz)) :
  Tri Θ W fOd [] [] (.tuple [.any, .ptr 1000 0]) [(1000, ctO (.ptr 1001 0) 1003 0), (1001, lgD 1002 sz), (1002, D), (1003, mO [] 0)] := by
 refine AM' (con := [(fDo, cDoZ dZ), (fWo, cWoZ sz D dZ), (fDc, cDc)]) (hints := AE' [hf' fOd 2 1, hf' fOd 5 1, hf' fCo 2 1]) (lc := [(fCo, 6, A3' fCo 6, lOp D sz)]) kOd χ q (fun F _ => CJ' (ql F)) fun F => ?_
 clear q ql
 refine Yj (oOd_eq W D dZ sz F) ⟨⟨?_, (AJ' (vs' := [.tuple [.any, .ptr 1000 0]]) (H' := [(1000, ctO (.ptr 1001 0) 1003 0), (1001, lgD 1002 sz), (1002, D), (1003, mO [] 0)]) [(1000, 1104), (1001, 1101), (1002, 1100), (1003, 1103)] χ χ (VW.cons (W2' (VW.cons (Wk.any _) (VW.cons Ya VW.nil))) VW.nil) ⟨⟨_, rfl, Yc⟩, ⟨_, rfl, Yc⟩, ⟨_, rfl, by rw [hD, hD]; exact Yc⟩, ⟨_, rfl, Yc⟩, Ye⟩).fits rfl⟩⟩
 simp only [ch', true_and, and_true, hD]; and_intros; all_goals first | (with_reducible exact Ye) | (with_reducible exact rfl) | (with_reducible exact Ya) | (with_reducible exact Yb) | (with_reducible exact Yc) | exact A4' rfl | exact rfl | exact Ya | exact Kc11'
theorem od_tri (W : World) (hN : LN W) (t : List Int) : Tri Θ W fOd [] [] (.tuple [.any, .ptr 1000 0]) [(1000, cO t [[]] s0)] := by
 refine Tri.post (od_run W (dO [[]] []) (o' (cat [[]]).length) (fun _ => rfl) (fun F hF => AO' (aZ' F) (AO' (aU' hN F hF) (DG' (X9' F)))) (fun F => lOp_ok (dO [[]] []) (fun _ => rfl) (fun _ => trivial) _ F)) ?_
 exact Goes.shutNew (R := fun _ : Unit => True) (L := fun _ => catL [[]] s0) (m := .turns t) 1000 δ () trivial χ χ (HJ' _ _) ⟨⟨Ye, rfl, Ye⟩, Ye⟩
noncomputable section
abbrev fHp : Nat := 40
abbrev fKe : Nat := 64
abbrev tMp : TypeId := 65
abbrev tKr : TypeId := 2 * 9
abbrev tPr : TypeId := 2 * 62
def z0 : Δ := ⟨#[]⟩
def keV (k : Γ) : List Value := [encStr k]
def rK (ks : List Γ) : AO := .cells (rowV keV ks) tKr
def prV (p : Δ × Δ) : List Value := [.string p.1, .string p.2]
def rP (ps : List (Δ × Δ)) : AO := .cells (rowV prV ps) tPr
def sS (k n : Nat) : AV := .slice k 0 n 1 (.lo n)
def sP (k n : Nat) : AV := .slice k 0 n 2 (.lo n)
theorem JI' (k : Γ) : (keV k).length = 1 := rfl
theorem OB' (p : Δ × Δ) : (prV p).length = 2 := rfl
theorem oHp_eq (k : Δ) (F : HP) : wRun [] BM' [] default fHp [sv k, sv z0] [] [] F = VT.ite true (VT.leaf (b' ((k.extract 0 0).toList == [])) [] 1100 k1') (VT.leaf (b' false) [] 1100 k1') := χ
def cHp : List AV -> Option (AP AV) := mkC (fun args => match args with | [.v (.string k), _] => .ret k | _ => .fail "text") (fun _ => True) (fun _ i => i) (fun k => [sv k, sv z0]) (fun _ => []) (fun _ => .leaf .ret [bv true] [])
def gSo : List AV -> AP Nat := fun args => match args with
 | [.func _ _ (.ptr i _ :: _)] => .ret i
 | _ => .fail "sorted"
def nmSo (i : Nat) : Nat -> Nat := fun k => match k with | 0 => i | 1 => 1003 | k => k
def cSoK (m : KM) (ck n : Nat) (ks : List Γ) : List AV -> Option (AP AV) := mkC gSo (fun _ => True) nmSo (fun _ => [.func (.func fKe) [] [.ptr 0 0]]) (fun _ => oSk tMp m ck) (fun _ => .leaf .ret [sS 1000 n] (oSk tMp m ck ++ [(1000, rK ks)]))
def cSoZ (ck : Nat) : List AV -> Option (AP AV) := mkC gSo (fun _ => True) nmSo (fun _ => [.func (.func fKe) [] [.ptr 0 0]]) (fun _ => oSk tMp [] ck) (fun _ => .leaf .ret [nilS] (oSk tMp [] ck))
def aKy (x : AV) (n i : Nat) : List (Nat × AV) := [(1, sv z0), (4, x), (12, sS 1050 n), (13, iv (o' n)), (14, iv (o' i))]
def ixKy : List Nat := [1, 4, 12, 13, 14]
def kKy : List Nat := [1050, 1051, 1100, 1101, 1102, 1103, 1104]
def hKy (k : Δ) (i : Nat) : B9' := AE' [ht' fKs 2 0, (fKs, 3, 1, hv (sv k)), ht' fKs 4 2, (fKs, 6, 0, hv (iv (o' (i + 1))))]
abbrev k67' (q0 : Δ) : Cnd := ((p' True).a ((vw' [s' q0,s' z0]).a (f' (Wk (b' true) j'))))
abbrev k68' (q0 : List Γ) (q1 : Δ) : Cnd := ((p' (Nat.blt 0 (rowV keV q0).length = true)).a ((p' ((rowV keV q0).getD 0 (u') = v' (vs' ((rowV keV q0).getD 0 (u')).strOf))).a (f' (Wk (v' (vs' ((rowV keV q0).getD 0 (u')).strOf)) (s' q1)))))
abbrev k69' (q0 : Nat) : Cnd := (wb' (decide (o' 0 < o' q0)) j')
theorem ZH' (n : Nat) (ks : List Γ) (k : Δ) (F : HP) : BK' [(fHp, cHp)] (hKy k 0) [] default fKs (A3' fKs 2) (tms 0 27 (aKy nilS n 0)) [(1050, rK ks)] kKy ixKy F = VT.leaf (AX.normal,[s' z0,AV.slice 1101 0 1 1 (Cp.lo 1),AV.slice 1050 0 n 1 (Cp.lo n),i' n,i' 1],27) [some (ce' (rowV keV ks) 18),none,some (ce' [s' k] 18),some (ce' [s' k] 18),none,none,none] 1102 ((k69' n).a ((f' (Nat.blt 0 n = true)).a ((k68' ks k).a ((k67' k).a (k8'.a (k12'.a k1')))))) := χ
abbrev k70' (q0 : Nat) (q1 : List Γ) (q2 : Δ) : Cnd := ((p' ((0 + q0 * 1).blt (rowV keV q1).length = true)).a ((p' ((rowV keV q1).getD (0 + q0 * 1) (u') = v' (vs' ((rowV keV q1).getD (0 + q0 * 1) (u')).strOf))).a (f' (Wk (v' (vs' ((rowV keV q1).getD (0 + q0 * 1) (u')).strOf)) (s' q2)))))
theorem ZG' (n i : Nat) (ks L : List Γ) (k : Δ) (F : HP) : BK' [(fHp, cHp)] (hKy k i) [] default fKs (A3' fKs 2) (tms 0 27 (aKy (sS 1051 i) n i)) [(1050, rK ks), (1051, rK L)] kKy ixKy F = VT.leaf (AX.normal,[s' z0,AV.slice 1101 0 (i + 1) 1 (Cp.lo (i + 1)),AV.slice 1050 0 n 1 (Cp.lo n),i' n,i' (i + 1)],27) [some (ce' (rowV keV ks) 18),none,some (ce' [s' k] 18),some (ce' (List.take (i * 1) (List.drop 0 (rowV keV L)) ++ [s' k]) 18),none,none,none] 1102 (h3' i n ((k70' i ks k).a ((k67' k).a ((tt'.a (tt'.a (tt'.a (tt'.a ((p' ((0 + i * 1).ble (rowV keV L).length = true)).a ((p' (((i + 1) * 16).ble 140737488355328 = true)).a ((p' ((i + 1).ble 9223372036854775807 = true)).a (f' ((List.take (i * 1) (List.drop 0 (rowV keV L))).length.beq (i * 1) = true))))))))).a ((k2' i).a k1'))))) := χ
theorem ZF' (n i : Nat) (ks L : List Γ) (F : HP) : BK' [] (AE' [hf' fKs 2 0]) [] default fKs (A3' fKs 2) (tms 0 27 (aKy (sS 1051 i) n i)) [(1050, rK ks), (1051, rK L)] kKy ixKy F = VT.leaf (AX.exit 0,[s' z0,AV.slice 1051 0 i 1 (Cp.lo i),AV.slice 1050 0 n 1 (Cp.lo n),i' n,i' i],27) [some (ce' (rowV keV ks) 18),some (ce' (rowV keV L) 18),none,none,none,none,none] 1100 ((k25' i n).a k1') := χ
def gKy : List AV -> AP Nat := fun tms => match tms.getD 12 AV.undef with
 | .slice i _ _ _ _ => .ret i
 | _ => .fail "keys"
def nmKy (i k : Nat) : Nat := match Nat.beq k 1050 with
 | true => i
 | false => k
def lKy (n : Nat) (ks : List Γ) : List AV -> AP (AX × List AV) := mkL gKy (fun _ => True) nmKy (fun _ => tms 0 27 (aKy nilS n 0)) (fun _ => [(1050, rK ks)]) (fun _ => .leaf (.exit 0) (tms 0 27 [(4, sS 1051 n)]) [(1050, rK ks), (1051, rK ks)])
def aPs (x : AV) (n i : Nat) : List (Nat × AV) := [(0, .ptr 0 0), (2, x), (6, sS 1050 n), (7, iv (o' n)), (8, iv (o' i))]
def ixPs : List Nat := [0, 2, 6, 7, 8]
def kPs : List Nat := [0, 1, 2, 3, 1050, 1051, 1100, 1101, 1102, 1103, 1104]
def hPs (k v : Δ) (i : Nat) : B9' := AE' [ht' fPs 2 0, (fPs, 3, 1, hv (sv k)), (fPs, 4, 7, hv (.agg [sv v])), (fPs, 5, 0, hv (iv (o' (i + 1))))]
theorem YT' (D : AO) (sz b : Int) (m : KM) (c : Nat) (n : Nat) (ks : List Γ) (k v : Δ) (F : HP) : BK' [] (hPs k v 0) [] default fPs (A3' fPs 2) (tms 0 26 (aPs nilS n 0)) (catF D sz b m c ++ [(1050, rK ks)]) kPs ixPs F = VT.leaf (AX.normal,[pt' 0 0,AV.slice 1101 0 1 2 (Cp.lo 1),AV.slice 1050 0 n 1 (Cp.lo n),i' n,i' 1],26) [some (ce' [pt' 1 0,AV.map 3,z' b] 142),some (ce' [pt' 2 0,s' nmL,i' 1,z' sz] 216),some D,some (AO.map (kM m) c),some (ce' (rowV keV ks) 18),none,some (ce' [s' k,s' v] 124),some (ce' [s' k,s' v] 124),none,none,none] 1102 ((k69' n).a ((f' (Nat.blt 0 n = true)).a ((k68' ks k).a (k7'.a (((p' (findKey Tryz.prog (envW [] (hPs k v 0) [] default F) 9 (s' k) (kM m) 0 = AP.ret (AV' (s' k) (kM m) 0))).a (f' (Wk (CZ' (AV' (s' k) (kM m) 0) (Value.agg (Array.mk [vs' y0']))) (AV.agg [s' v])))).a (k8'.a (k12'.a k1'))))))) := χ
theorem YS' (D : AO) (sz b : Int) (m : KM) (c : Nat) (n i : Nat) (ks : List Γ) (L : List (Δ × Δ)) (k v : Δ) (F : HP) : BK' [] (hPs k v i) [] default fPs (A3' fPs 2) (tms 0 26 (aPs (sP 1051 i) n i)) (catF D sz b m c ++ [(1050, rK ks), (1051, rP L)]) kPs ixPs F = VT.leaf (AX.normal,[pt' 0 0,AV.slice 1101 0 (i + 1) 2 (Cp.lo (i + 1)),AV.slice 1050 0 n 1 (Cp.lo n),i' n,i' (i + 1)],26) [some (ce' [pt' 1 0,AV.map 3,z' b] 142),some (ce' [pt' 2 0,s' nmL,i' 1,z' sz] 216),some D,some (AO.map (kM m) c),some (ce' (rowV keV ks) 18),none,some (ce' [s' k,s' v] 124),some (ce' (List.take (i * 2) (List.drop 0 (rowV prV L)) ++ [s' k,s' v]) 124),none,none,none] 1102 (h3' i n ((k70' i ks k).a (k7'.a (((p' (findKey Tryz.prog (envW [] (hPs k v i) [] default F) 9 (s' k) (kM m) 0 = AP.ret (AV' (s' k) (kM m) 0))).a (f' (Wk (CZ' (AV' (s' k) (kM m) 0) (Value.agg (Array.mk [vs' y0']))) (AV.agg [s' v])))).a ((tt'.a (tt'.a (tt'.a (tt'.a ((p' ((0 + i * 2).ble (rowV prV L).length = true)).a ((p' (((i + 1) * 32).ble 140737488355328 = true)).a ((p' ((i + 1).ble 9223372036854775807 = true)).a (f' ((List.take (i * 2) (List.drop 0 (rowV prV L))).length.beq (i * 2) = true))))))))).a ((k2' i).a k1')))))) := χ
theorem YR' (D : AO) (sz b : Int) (m : KM) (c : Nat) (n i : Nat) (ks : List Γ) (L : List (Δ × Δ)) (F : HP) : BK' [] (AE' [hf' fPs 2 0]) [] default fPs (A3' fPs 2) (tms 0 26 (aPs (sP 1051 i) n i)) (catF D sz b m c ++ [(1050, rK ks), (1051, rP L)]) kPs ixPs F = VT.leaf (AX.exit 0,[pt' 0 0,AV.slice 1051 0 i 2 (Cp.lo i),AV.slice 1050 0 n 1 (Cp.lo n),i' n,i' i],26) [some (ce' [pt' 1 0,AV.map 3,z' b] 142),some (ce' [pt' 2 0,s' nmL,i' 1,z' sz] 216),some D,some (AO.map (kM m) c),some (ce' (rowV keV ks) 18),some (ce' (rowV prV L) 124),none,none,none,none,none] 1100 ((k25' i n).a k1') := χ
def gPs : List AV -> AP Pt := fun tms => match tms.getD 6 AV.undef with
 | .slice i _ _ _ _ => gCt fun l d m => .ret ⟨l, d, m, i, 0, 0⟩
 | _ => .fail "keys"
def nmPs (p : Pt) (k : Nat) : Nat := match Nat.beq k 1050 with
 | true => p.r
 | false => match k with
  | 1 => p.l
  | 2 => p.d
  | 3 => p.m
  | k => k
def lPs (D : AO) (sz b : Int) (m : KM) (c : Nat) (n : Nat) (ks : List Γ) (ps : List (Δ × Δ)) : List AV -> AP (AX × List AV) := mkL gPs (fun _ => True) nmPs (fun _ => tms 0 26 (aPs nilS n 0)) (fun _ => catF D sz b m c ++ [(1050, rK ks)]) (fun _ => .leaf (.exit 0) (tms 0 26 [(2, sP 1051 n)]) (catF D sz b m c ++ [(1050, rK ks), (1051, rP ps)]))
def kPg : List Nat := [0, 1001, 1002, 1003, 1100, 1101, 1102, 1103, 1104, 1105, 1106, 1107, 1108]
theorem YQ' (D : AO) (sz b : Int) (m : KM) (c : Nat) (n : Nat) (ks : List Γ) (ps : List (Δ × Δ)) (F : HP) : wRun [(fSo, cSoK m c n ks)] BM' [(fKs, 2, A3' fKs 2, lKy n ks), (fPs, 2, A3' fPs 2, lPs D sz b m c n ks ps)] default fPs [.ptr 0 0] (catG D sz b m c) kPg F = VT.leaf (AV.slice 1105 0 n 2 (Cp.lo n)) [some (ce' [pt' 1001 0,AV.map 1003,z' b] 142),some (ce' [pt' 1002 0,s' nmL,i' 1,z' sz] 216),some (AO.ren (sgN (nmPs (Pt.mk 1001 1002 1003 1103 0 0)) [1050,1051] 1104) D),some (AO.map (renE (sgN (nmPs (Pt.mk 1001 1002 1003 1103 0 0)) [1050,1051] 1104) (kM m)) c),some (ce' [AV.map 1003] 130),none,some (ce' (AV.rens (sgN (nmKy 1101) [1050,1051] 1102) (rowV keV ks)) 18),none,some (ce' (AV.rens (sgN (nmPs (Pt.mk 1001 1002 1003 1103 0 0)) [1050,1051] 1104) (rowV keV ks)) 18),some (ce' (AV.rens (sgN (nmPs (Pt.mk 1001 1002 1003 1103 0 0)) [1050,1051] 1104) (rowV prV ps)) 124),none,none,none] 1106 (((fe' true).a (((Cnd.p True).a ((vw' [AV.func (Fn.func 64) [] [pt' 1100 0]]).a ((ow' (ce' [AV.map 1003] 130)).a (f' (OW (AO.map (kM m) c) (AO.map (renE (nmSo 1100) (kM m)) c)))))).a ((p' ((fKs,2,A3' fKs 2,lKy n ks).snd.snd.fst = (fKs,2,A3' fKs 2,lKy n ks).snd.snd.fst)).a ((Cnd.p True).a ((p' (VW (pt' 0 0::s' y0'::u'::u'::e'::u'::u'::pt' 0 0::pt' 0 0::pt' 0 1::AV.map 1003::AV.func (Fn.func 64) [] [pt' 1100 0]::AV.slice 1101 0 n 1 (Cp.lo n)::z' ↑n::i' 0::ru8 (ru4 ([]))) (a'::s' z0::a'::a'::e'::ra4 (a'::a'::a'::AV.slice 1101 0 n 1 (Cp.lo n)::i' n::i' 0::ra8 (ra4 ([])))))).a (f' (OW (ce' (AV.rens (sgN (nmSo 1100) [1000] 1101) (rowV keV ks)) 18) (ce' (AV.rens (nmKy 1101) (rowV keV ks)) 18)))))))).a ((p' ((fPs,2,A3' fPs 2,lPs D sz b m c n ks ps).snd.snd.fst = (fPs,2,A3' fPs 2,lPs D sz b m c n ks ps).snd.snd.fst)).a (k4'.a ((p' (VW (pt' 0 0::u'::e'::u'::u'::pt' 0 0::AV.slice 1103 0 n 1 (Cp.lo n)::z' ↑n::i' 0::ru16 (u'::[])) (pt' 0 0::a'::e'::a'::a'::a'::AV.slice 1103 0 n 1 (Cp.lo n)::i' n::i' 0::ra16 (a'::[])))).a (h65' 1001 1003 b 1002 sz ((p' (OW D (AO.ren (nmPs (Pt.mk 1001 1002 1003 1103 0 0)) D))).a ((p' (OW (AO.map (renE (sgN (nmSo 1100) [1000] 1101) (kM m)) c) (AO.map (renE (nmPs (Pt.mk 1001 1002 1003 1103 0 0)) (kM m)) c))).a ((p' (OW (ce' (AV.rens (sgN (nmKy 1101) [1050,1051] 1102) (rowV keV ks)) 18) (ce' (AV.rens (nmPs (Pt.mk 1001 1002 1003 1103 0 0)) (rowV keV ks)) 18))).a k1')))))))) := χ
theorem YP' (D : AO) (sz b : Int) (c : Nat) (F : HP) : wRun [(fSo, cSoZ c)] (AE' [hf' fKs 2 0, hf' fPs 2 0]) [] default fPs [.ptr 0 0] (catG D sz b [] c) kPg F = VT.leaf (e') [some (ce' [pt' 1001 0,AV.map 1003,z' b] 142),some (ce' [pt' 1002 0,s' nmL,i' 1,z' sz] 216),some D,some (AO.map [] c),some (ce' [AV.map 1003] 130),none,none,none,none,none,none,none,none] 1101 (((fe' true).a (((Cnd.p True).a ((vw' [AV.func (Fn.func 64) [] [pt' 1100 0]]).a ((ow' (ce' [AV.map 1003] 130)).a (f' (OW (AO.map [] c) (AO.map [] c)))))).a ((f' (Wk (b' false) g')).a t'))).a (k5'.a k1')) := χ
end
abbrev Pr := Δ × Δ
theorem hp_tri (k : Δ) : Tri Θ default fHp [sv k, sv z0] [] (bv true) [] := by
 refine AM' (con := []) (hints := BM') (lc := []) [] rfl (fun _ _ => noC) (fun _ _ => noL) fun F => ?_
 have e : ((k.extract 0 0).toList == []) = true := by
  rw [Lib.toList_data]
  have hs : (k.extract 0 0).size = 0 := by rw [ByteArray.size_extract]; omega
  have hl : (k.extract 0 0).data.toList.length = 0 := hs; rw [List.eq_nil_of_length_eq_zero hl]; rfl
 refine Yj (oHp_eq k F) ⟨fun _ => ⟨Ye, (AJ' (vs' := [bv true]) (H' := []) [] rfl rfl (VW.cons (by rw [e]; exact Ya) VW.nil) trivial).fits rfl⟩, fun h => by cases h⟩
theorem X8' (F : HP) : C1OK Θ F fHp cHp :=
 B4' (W := default) BC' (fun _ => bv true) (fun args => by split <;> first | exact RO.ret _ | exact RO.fail _) (fun _ => rfl) (fun k _ => hp_tri k) fun _ => ⟨rfl, rfl, ⟨Ye, Ye, Ye⟩, A1', ⟨Ye, Ye⟩, A1'⟩
theorem rK_ren (ks : List Γ) (σ : Nat -> Nat) : (rK ks).ren σ = rK ks := by show ce' _ _ = _; rw [AD']; rfl
theorem QG' (K : Nat -> Bool) (ks : List Γ) : (rK ks).cl K := EW' _ _
theorem L4' {x : List AV} {l : List Γ} {σ : Nat -> Nat} (h : x = rowV keV l) : OW (.cells x tKr) ((rK l).ren σ) := by rw [rK_ren]; subst h; exact Yc
theorem W9' (ps : List Pr) (σ : Nat -> Nat) : (rP ps).ren σ = rP ps := by show ce' _ _ = _; rw [AD']; rfl
theorem L3' (K : Nat -> Bool) (ps : List Pr) : (rP ps).cl K := EW' _ _
theorem L2' {x : List AV} {l : List Pr} {σ : Nat -> Nat} (h : x = rowV prV l) : OW (.cells x tPr) ((rP l).ren σ) := by rw [W9']; subst h; exact Yc
theorem WA' {ks : List Γ} (h : ks[i]? = some k) : (rowV keV ks).getD (0 + i * 1) AV.undef = .v (.string (bsOf k)) := by
 have hi := (List.getElem?_eq_some_iff.1 h).1; have := MC' JI' ks [] i hi; rw [Nat.zero_add]
 have h2 : (rowV keV ks).getD (i * 1) AV.undef = (((rowV keV ks).drop (i * 1)).take 1).getD 0 AV.undef := by
  simp only [List.getD, List.getElem?_take, List.getElem?_drop]; rfl
 rw [h2, this]; simp only [List.getD, h]; rfl
theorem snoc_K {ks : List Γ} (h : ks[i]? = some k) : List.take (i * 1) (List.drop 0 (rowV keV (ks.take i))) ++ [v' (.string (bsOf k))] = rowV keV (ks.take (i + 1)) := by
 have hi := (List.getElem?_eq_some_iff.1 h).1; rw [BR' h, AB', List.drop_zero, List.take_of_length_le (by rw [BE' JI', List.length_take]; omega)]; rfl
theorem snoc_P {ps : List Pr} {p : Pr} (h : ps[i]? = some p) : List.take (i * 2) (List.drop 0 (rowV prV (ps.take i))) ++ [v' (.string p.1), v' (.string p.2)] = rowV prV (ps.take (i + 1)) := by
 have hi := (List.getElem?_eq_some_iff.1 h).1; rw [BR' h, AB', List.drop_zero, List.take_of_length_le (by rw [BE' OB', List.length_take]; omega)]; rfl
theorem one_K {ks : List Γ} (h : ks[0]? = some k) : [v' (.string (bsOf k))] = rowV keV (ks.take 1) := by
 rw [BR' h]; rfl
theorem one_P {ps : List Pr} {p : Pr} (h : ps[0]? = some p) : [v' (.string p.1), v' (.string p.2)] = rowV prV (ps.take 1) := by
 rw [BR' h]; rfl
def kyA (n : Nat) : Nat -> List (Nat × AV)
 | 0 => aKy nilS n 0
 | i + 1 => aKy (sS 1051 (i + 1)) n (i + 1)
def kyH (ks : List Γ) : Nat -> LH
 | 0 => [(1050, rK ks)]
 | i + 1 => [(1050, rK ks), (1051, rK (ks.take (i + 1)))]
structure RdK (n i : Nat) (V : List AV) (g w : Nat) : Prop where
 k1 : (0 + i * g).ble V.length = true
 k2 : ((i + 1) * w).ble 140737488355328 = true
 k3 : (i + 1).ble 9223372036854775807 = true
 k4 : (List.take (i * g) (List.drop 0 V)).length.beq (i * g) = true
 e1 : Wk (.v (.bool (decide (o' i < o' n)))) (.lit true)
 e3 : Wk (.v (.int .i64 (IntKind.i64.wrap (o' i + o' 1)))) (.v (.int .i64 (o' (i + 1))))
theorem RdK.mk' {n : Nat} {V : List AV} {g w : Nat} (hV : V.length = i * g) (hi : i < n) (hn : n <= 1048576) (hw : w <= 64) : RdK n i V g w := by
 refine ⟨AW' ω, AW' ?_, AW' ω, ?_, A4' (ltTN hi), C8' (BB' i ω)⟩
 ·have : (i + 1) * w <= 1048577 * 64 := Nat.mul_le_mul ω hw; omega
 ·rw [List.drop_zero, List.take_of_length_le ω, hV]; exact Nat.beq_refl _
theorem len_K {ks : List Γ} (h : i <= ks.length) : (rowV keV (ks.take i)).length = i * 1 := by rw [BE' JI', List.length_take]; omega
theorem len_P {ps : List Pr} (h : i <= ps.length) : (rowV prV (ps.take i)).length = i * 2 := by rw [BE' OB', List.length_take]; omega
theorem aB' (ks : List Γ) (h0 : 0 < ks.length) (hn : ks.length <= 1048576) :
  LTri Θ default (A3' fKs 2) (tms 0 27 (aKy nilS ks.length 0)) [(1050, rK ks)] (.exit 0) (tms 0 27 [(4, sS 1051 ks.length)]) [(1050, rK ks), (1051, rK ks)] := by
 refine BG' (W := default) (g := fKs) (b := A3' fKs 2) (σ := {i : Nat // i <= ks.length}) 27 (fun i => kyA ks.length i.1) (fun i => kyH ks i.1) (.exit 0) [(4, sS 1051 ks.length)] [(1050, rK ks), (1051, rK ks)] (fun i => ks.length - i.1) kKy ixKy (by intro h; cases h) (fun i => by obtain ⟨_ | i, hi⟩ := i <;> rfl) χ ?_ ⟨0, Nat.zero_le _⟩; rintro ⟨i, hi⟩; simp only
 by_cases h1 : i < ks.length
 ·obtain ⟨k, hk⟩ := B1' h1; have hg := WA' hk
  have hl : (0 + i * 1).blt (rowV keV ks).length = true := by rw [BE' JI', bl']; omega
  have hlt : i.blt ks.length = true := by rw [bl']; exact h1
  cases i with
  | zero =>
   have e1 : Wk (.v (.bool (decide (o' 0 < o' ks.length)))) (.lit true) := A4' (ltTN h1); have hg0 : (rowV keV ks).getD 0 AV.undef = .v (.string (bsOf k)) := hg; have hl0 : Nat.blt 0 (rowV keV ks).length = true := hl
   refine ⟨[(fHp, cHp)], hKy (bsOf k) 0, [], fun F _ => DG' (X8' F), fun _ _ => noL, fun F => ?_⟩
   refine Yj (ZH' ks.length ks (bsOf k) F) ⟨⟨?_, rfl, .inl ⟨rfl, ⟨1, h1⟩, B7' h1, [(1050, 1050), (1051, 1101)], by kernel_rfl, by kernel_rfl, ⟨Ya, Ya, Ya, Ya, Ya, Ye⟩, ⟨_, rfl, L4' rfl⟩, ⟨_, rfl, L4' (one_K hk)⟩, Ye⟩⟩⟩
   simp only [ch', hg0, hl0, hlt, true_and, and_true]; and_intros; all_goals exact Kc16'
  | succ i =>
   have Q := RdK.mk' (w := 16) (len_K (Nat.le_of_lt h1)) h1 hn δ; obtain ⟨k1, k2, k3, k4, e1, e3⟩ := Q
   refine ⟨[(fHp, cHp)], hKy (bsOf k) (i + 1), [], fun F _ => DG' (X8' F), fun _ _ => noL, fun F => ?_⟩
   refine Yj (ZG' ks.length (i + 1) ks (ks.take (i + 1)) (bsOf k) F) ⟨⟨?_, rfl, .inl ⟨rfl, ⟨i + 2, h1⟩, B7' h1, [(1050, 1050), (1051, 1101)], by kernel_rfl, by kernel_rfl, ⟨Ya, Ya, Ya, Ya, Ya, Ye⟩, ⟨_, rfl, L4' rfl⟩, ⟨_, rfl, L4' (snoc_K hk)⟩, Ye⟩⟩⟩
   simp only [ch', hg, hl, hlt, k1, k2, k3, k4, true_and, and_true]; and_intros; all_goals exact Kc16'
 ·have hie : i = ks.length := ω
  obtain ⟨j, hj⟩ : ∃ j, ks.length = j + 1 := ⟨ks.length - 1, by omega⟩
  subst hie
  have eA : kyA ks.length ks.length = aKy (sS 1051 ks.length) ks.length ks.length := by rw [hj]; rfl
  have eH : kyH ks ks.length = [(1050, rK ks), (1051, rK ks)] := by
   have : kyH ks ks.length = [(1050, rK ks), (1051, rK (ks.take ks.length))] := by rw [hj]; rfl
   rw [this, List.take_length]
  rw [eA, eH]
  refine ⟨[], AE' [hf' fKs 2 0], [], fun _ _ => noC, fun _ _ => noL, fun F => ?_⟩
  refine Yj (ZF' ks.length ks.length ks ks F) ⟨⟨?_, rfl, .inr ⟨rfl, [(1050, 1050), (1051, 1051)], by kernel_rfl, by kernel_rfl, ⟨Ya, Ye⟩, ⟨_, rfl, L4' rfl⟩, ⟨_, rfl, L4' rfl⟩, Ye⟩⟩⟩
  simp only [ch', and_true]; exact A4' (ltFN (Yd))
theorem gKy_ro : ∀ tms, RO (gKy tms) := fun tms => by
 unfold gKy
 split <;> first | exact RO.ret _ | exact RO.fail _
theorem lKy_ok (ks : List Γ) (h0 : 0 < ks.length) (hn : ks.length <= 1048576) (F : HP) : L1OK Θ F (A3' fKs 2) (lKy ks.length ks) :=
 CE' (W := default) BC' (fun _ => gKy_ro _) (fun _ _ => aB' ks h0 hn) fun _ => by
  simp only [RT.pick]; exact BQ' rfl rfl (A0' Ye (A0' Ye (A0' rfl (A0' Ye (A0' Ye A1'))))) (A0' (QG' _ _) A1') (A0' rfl A1') (A0' (QG' _ _) (A0' (QG' _ _) A1'))
def psA (n : Nat) : Nat -> List (Nat × AV)
 | 0 => aPs nilS n 0
 | i + 1 => aPs (sP 1051 (i + 1)) n (i + 1)
def psH (D : AO) (sz b : Int) (m : KM) (c : Nat) (ks : List Γ) (ps : List Pr) : Nat -> LH
 | 0 => catF D sz b m c ++ [(1050, rK ks)]
 | i + 1 => catF D sz b m c ++ [(1050, rK ks), (1051, rP (ps.take (i + 1)))]
theorem V4' {k old : Δ} {m : KM} {z : Value} (h : AU' k m = some old) : Wk (CZ' (AV' (.v (.string k)) (kM m) 0) z) (.agg [.v (.string old)]) := by
 rw [fx_m, h]; exact Ya
theorem Y5' (D : AO) (hD : ∀ σ, D.ren σ = D) (sz b : Int) (m : KM) (c : Nat) (ks : List Γ) (ps : List Pr) (hps : ks.length = ps.length) (hkp : ∀ (i : Nat) (k : Γ) (p : Pr), ks[i]? = some k -> ps[i]? = some p -> p.1 = bsOf k /\ AU' p.1 m = some p.2) (h0 : 0 < ks.length) (hn : ks.length <= 1048576) :
  LTri Θ default (A3' fPs 2) (tms 0 26 (aPs nilS ks.length 0)) (catF D sz b m c ++ [(1050, rK ks)]) (.exit 0) (tms 0 26 [(2, sP 1051 ks.length)]) (catF D sz b m c ++ [(1050, rK ks), (1051, rP ps)]) := by
 refine BG' (W := default) (g := fPs) (b := A3' fPs 2) (σ := {i : Nat // i <= ks.length}) 26 (fun i => psA ks.length i.1) (fun i => psH D sz b m c ks ps i.1) (.exit 0) [(2, sP 1051 ks.length)] (catF D sz b m c ++ [(1050, rK ks), (1051, rP ps)]) (fun i => ks.length - i.1) kPs ixPs (by intro h; cases h) (fun i => by obtain ⟨_ | i, hi⟩ := i <;> rfl) χ ?_ ⟨0, Nat.zero_le _⟩; rintro ⟨i, hi⟩; simp only
 by_cases h1 : i < ks.length
 ·obtain ⟨k, hk⟩ := B1' h1; obtain ⟨p, hp⟩ := B1' (l := ps) (i := i) ω; obtain ⟨hpk, hlk⟩ := hkp i k p hk hp; have hg := WA' hk; rw [<- hpk] at hg
  have hl : (0 + i * 1).blt (rowV keV ks).length = true := by rw [BE' JI', bl']; omega
  have hlt : i.blt ks.length = true := by rw [bl']; exact h1
  obtain ⟨pk, pv⟩ := p; simp only at hlk hg
  have hw := fun z => V4' (z := z) hlk
  cases i with
  | zero =>
   have e1 : Wk (.v (.bool (decide (o' 0 < o' ks.length)))) (.lit true) := A4' (ltTN h1); have hg0 : (rowV keV ks).getD 0 AV.undef = .v (.string pk) := hg; have hl0 : Nat.blt 0 (rowV keV ks).length = true := hl
   refine ⟨[], hPs pk pv 0, [], fun _ _ => noC, fun _ _ => noL, fun F => ?_⟩
   refine Yj (YT' D sz b m c ks.length ks pk pv F) ⟨⟨?_, rfl, .inl ⟨rfl, ⟨1, h1⟩, B7' h1, [(1050, 1050), (1051, 1101)], by kernel_rfl, by kernel_rfl, ⟨Ya, Ya, Ya, Ya, Ya, Ye⟩, ⟨_, rfl, Yc⟩, ⟨_, rfl, Yc⟩, ⟨_, rfl, OW.of_eq (hD _).symm⟩, ⟨_, rfl, D2' rfl rfl⟩, ⟨_, rfl, L4' rfl⟩, ⟨_, rfl, L2' (one_P hp)⟩, Ye⟩⟩⟩
   simp only [ch', hg0, hl0, hlt, true_and, and_true]; and_intros; all_goals exact Kc14'
  | succ i =>
   have Q := RdK.mk' (n := ks.length) (w := 32) (len_P (ps := ps) (i := i + 1) ω) h1 hn δ; obtain ⟨k1, k2, k3, k4, e1, e3⟩ := Q
   refine ⟨[], hPs pk pv (i + 1), [], fun _ _ => noC, fun _ _ => noL, fun F => ?_⟩
   refine Yj (YS' D sz b m c ks.length (i + 1) ks (ps.take (i + 1)) pk pv F) ⟨⟨?_, rfl, .inl ⟨rfl, ⟨i + 2, h1⟩, B7' h1, [(1050, 1050), (1051, 1101)], by kernel_rfl, by kernel_rfl, ⟨Ya, Ya, Ya, Ya, Ya, Ye⟩, ⟨_, rfl, Yc⟩, ⟨_, rfl, Yc⟩, ⟨_, rfl, OW.of_eq (hD _).symm⟩, ⟨_, rfl, D2' rfl rfl⟩, ⟨_, rfl, L4' rfl⟩, ⟨_, rfl, L2' (snoc_P hp)⟩, Ye⟩⟩⟩
   simp only [ch', hg, hl, hlt, k1, k2, k3, k4, true_and, and_true]; and_intros; all_goals exact Kc14'
 ·have hie : i = ks.length := ω
  obtain ⟨j, hj⟩ : ∃ j, ks.length = j + 1 := ⟨ks.length - 1, by omega⟩
  subst hie
  have eA : psA ks.length ks.length = aPs (sP 1051 ks.length) ks.length ks.length := by rw [hj]; rfl
  have eH : psH D sz b m c ks ps ks.length = catF D sz b m c ++ [(1050, rK ks), (1051, rP ps)] := by
   have : psH D sz b m c ks ps ks.length = catF D sz b m c ++ [(1050, rK ks), (1051, rP (ps.take ks.length))] := by rw [hj]; rfl
   rw [this, hps, List.take_length]
  rw [eA, eH]
  refine ⟨[], AE' [hf' fPs 2 0], [], fun _ _ => noC, fun _ _ => noL, fun F => ?_⟩
  refine Yj (YR' D sz b m c ks.length ks.length ks ps F) ⟨⟨?_, rfl, .inr ⟨rfl, [(1050, 1050), (1051, 1051)], by kernel_rfl, by kernel_rfl, ⟨Ya, Ye⟩, ⟨_, rfl, Yc⟩, ⟨_, rfl, Yc⟩, ⟨_, rfl, OW.of_eq (hD _).symm⟩, ⟨_, rfl, D2' rfl rfl⟩, ⟨_, rfl, L4' rfl⟩, ⟨_, rfl, L2' rfl⟩, Ye⟩⟩⟩
  simp only [ch', and_true]; exact A4' (ltFN (Yd))
theorem X1' : ∀ args, RO (gSo args) := fun args => by
 unfold gSo
 split <;> first | exact RO.ret _ | exact RO.fail _
theorem gPs_ro : ∀ tms, RO (gPs tms) := fun tms => by
 unfold gPs; split
 ·exact SP' fun _ _ _ => RO.ret _
 ·exact RO.fail _
theorem huS : Θ.underlying 9 = some .string := χ
theorem aW' {m : KM} {ck : Nat} (hm : KI m ck) (hb : m.length * 16 <= 140737488355328) (hwf : ∀ k ∈ keyL m, k.length <= maxLen) (hne : m ≠ []) (F : HP) : C1OK Θ F fSo (cSoK m ck m.length (DJ' m)) :=
 B4' (W := default) BC' (fun _ => sS 1000 m.length) X1' (fun _ => rfl) (fun _ _ => by
  have := O5' (W := default) (tb := tMp) huS GG' hm hb hwf hne
  have e : vmap ((DJ' m).map encStr) = rowV keV (DJ' m) := by
   rw [rowV]; refine congrArg vmap ?_
   induction DJ' m with
   | nil => rfl
   | cons x l ih => rw [List.map_cons, List.flatMap_cons, ih]; rfl
  rw [e] at this
  exact this) fun _ => ⟨rfl, rfl, ⟨⟨Ye, rfl, Ye⟩, Ye⟩, A0' ⟨rfl, Ye⟩ (A0' (GK' _ _ _) A1'), ⟨rfl, Ye⟩, A0' ⟨rfl, Ye⟩ (A0' (GK' _ _ _) (A0' (QG' _ _) A1'))⟩
theorem aV' (ck : Nat) (F : HP) : C1OK Θ F fSo (cSoZ ck) :=
 B4' (W := default) BC' (fun _ => nilS) X1' (fun _ => rfl) (fun _ _ => O6' (W := default) (tb := tMp) huS GG') fun _ => ⟨rfl, rfl, ⟨⟨Ye, rfl, Ye⟩, Ye⟩, A0' ⟨rfl, Ye⟩ (A0' (GK' _ _ _) A1'), ⟨Ye, Ye⟩, A0' ⟨rfl, Ye⟩ (A0' (GK' _ _ _) A1')⟩
theorem T2' {K : Nat -> Bool} {b : Int} {m : KM} (h1 : K 1 = true) (h2 : K 2 = true) (h3 : K 3 = true) (hD : D.cl K) : ∀ x ∈ catF D sz b m c, x.2.cl K := A0' ⟨h1, h3, Ye, Ye⟩ (A0' ⟨h2, Ye, Ye, Ye, Ye⟩ (A0' hD (A0' (GK' _ _ _) A1')))
theorem lPs_ok (D : AO) (hD : ∀ σ, D.ren σ = D) (cD : ∀ K, D.cl K) (sz b : Int) (m : KM) (c : Nat) (ks : List Γ) (ps : List Pr) (hps : ks.length = ps.length) (hkp : ∀ (i : Nat) (k : Γ) (p : Pr), ks[i]? = some k -> ps[i]? = some p -> p.1 = bsOf k /\ AU' p.1 m = some p.2) (h0 : 0 < ks.length) (hn : ks.length <= 1048576) (F : HP) : L1OK Θ F (A3' fPs 2) (lPs D sz b m c ks.length ks ps) :=
 CE' (W := default) BC' (fun _ => gPs_ro _) (fun _ _ => Y5' D hD sz b m c ks ps hps hkp h0 hn) fun _ => by
  simp only [RT.pick]; exact BQ' rfl rfl (A0' rfl (A0' Ye (A0' rfl (A0' Ye (A0' Ye A1'))))) (I5' (T2' rfl rfl rfl (cD _)) (A0' (QG' _ _) A1')) (A0' rfl A1') (I5' (T2' rfl rfl rfl (cD _)) (A0' (QG' _ _) (A0' (L3' _ _) A1')))
theorem Y7' (D : AO) (hD : ∀ σ, D.ren σ = D) (sz b : Int) (m : KM) (c n : Nat) (ks : List Γ) (ps : List Pr)
  (q : ∀ F, C1OK Θ F fSo (cSoK m c n ks)) (q1 : ∀ F, L1OK Θ F (A3' fKs 2) (lKy n ks)) (q2 : ∀ F, L1OK Θ F (A3' fPs 2) (lPs D sz b m c n ks ps)) :
  Tri Θ default fPs [.ptr 0 0] (catG D sz b m c) (sP 1000 n) (catG D sz b m c ++ [(1000, rP ps)]) := by
 refine AM' (con := [(fSo, cSoK m c n ks)]) (hints := BM') (lc := [(fKs, 2, A3' fKs 2, lKy n ks), (fPs, 2, A3' fPs 2, lPs D sz b m c n ks ps)]) kPg χ (fun F _ => DG' (q F)) (fun F _ => DI' (q1 F) (CJ' (q2 F))) fun F => ?_
 clear q q1 q2; refine Yj (YQ' D sz b m c n ks ps F) ⟨⟨?_, (AJ' (vs' := [sP 1000 n]) (H' := catG D sz b m c ++ [(1000, rP ps)]) [(1001, 1001), (1002, 1002), (1003, 1003), (1000, 1105)] χ χ (Yb) (show JW' _ _ _ [(0, _), (1001, _), (1002, D), (1003, mO m c), (1000, rP ps)] from ⟨⟨_, rfl, Yc⟩, ⟨_, rfl, Yc⟩, ⟨_, rfl, by rw [hD, hD]; exact Yc⟩, ⟨_, rfl, D2' (IC' _ _) rfl⟩, ⟨_, rfl, L2' (AD' _ _)⟩, Ye⟩)).fits rfl⟩⟩
 simp only [ch', true_and, and_true, hD, IC', AD']; and_intros; all_goals first | (with_reducible exact Ye) | (with_reducible exact rfl) | (with_reducible exact Ya) | (with_reducible exact Yb) | (with_reducible exact Yc) | exact rfl | exact Kc11'
theorem Y6' (D : AO) (hD : ∀ σ, D.ren σ = D) (sz b : Int) (c : Nat) : Tri Θ default fPs [.ptr 0 0] (catG D sz b [] c) nilS (catG D sz b [] c) := by
 refine AM' (con := [(fSo, cSoZ c)]) (hints := AE' [hf' fKs 2 0, hf' fPs 2 0]) (lc := []) kPg χ (fun F _ => DG' (aV' c F)) (fun _ _ => noL) fun F => ?_
 refine Yj (YP' D sz b c F) ⟨⟨?_, (AJ' (vs' := [nilS]) (H' := catG D sz b [] c) [(1001, 1001), (1002, 1002), (1003, 1003)] χ χ (Yb) ⟨⟨_, rfl, Yc⟩, ⟨_, rfl, Yc⟩, ⟨_, rfl, OW.of_eq (hD _).symm⟩, ⟨_, rfl, D2' rfl rfl⟩, Ye⟩).fits rfl⟩⟩
 simp only [ch', true_and, and_true]; and_intros; all_goals first | exact A4' rfl | exact rfl | exact Ya | exact Yb | exact Yc
theorem key_le {m : KM} {e : Δ × Δ × Nat} (h : e ∈ m) : e.1.size <= byB m := by
 induction m with
 | nil => cases h
 | cons x l ih =>
  rw [HK']
  rcases List.mem_cons.1 h with rfl | h
  ·rw [kvB]; omega
  ·have := ih h; omega
theorem U8' {m : KM} (i : Nat) (k : Γ) (p : Pr) (hk : (DJ' m)[i]? = some k) (hp : (BZ' m)[i]? = some p) : p.1 = bsOf k /\ AU' p.1 m = some p.2 := by
 rw [BZ', List.getElem?_map, hk] at hp; cases hp; refine ⟨rfl, ?_⟩; have hm : k ∈ keyL m := (KL' m).mem_iff.1 (List.mem_of_getElem? hk); have := (L9' (m := m) k).1 hm; show AU' (bsOf k) m = some _
 cases h : AU' (bsOf k) m with
 | none => exact absurd h this
 | some v => simp only [h, Option.getD_some]
theorem H6' (m : KM) : (BZ' m).length = m.length := by rw [BZ', List.length_map, CK']
theorem RV' (t t2 : List Int) (S : List Bs) (s : St) (hs : s.OK) (hb : s.b <= 1000000) (hn : s.m.length <= 1000000) (hne : s.m ≠ []) :
  Tri Θ default fPs [.ptr 0 0] [(0, cO t S s)] (sP 1000 (BZ' s.m).length) [(0, cO t2 S s), (1000, rP (BZ' s.m))] := by
 have hpos : 0 < s.m.length := List.length_pos_iff.2 hne; have hkl := CK' s.m
 have hwf : ∀ k ∈ keyL s.m, k.length <= maxLen := fun k hk => by
  obtain ⟨e, he, rfl⟩ := List.mem_map.1 hk; have h1 := key_le he; have h2 := hs.by_; have h3 : e.1.data.toList.length = e.1.size := rfl
  have : (1000000 : Nat) <= maxLen := by unfold maxLen; omega
  omega
 have q := fun F => aW' hs.ki ω hwf hne F
 have q1 := fun F => lKy_ok (DJ' s.m) ω ω F
 have q2 := fun F => lPs_ok (dO S []) (fun _ => rfl) (fun _ => trivial) (o' (cat (S ++ [])).length) (o' s.b) s.m s.c (DJ' s.m) (BZ' s.m) (by rw [H6']; exact hkl) U8' ω ω F
 rw [hkl] at q1 q2; rw [H6']; refine S0' (Tri.post (Y7' (dO S []) (fun _ => rfl) (o' (cat (S ++ [])).length) (o' s.b) s.m s.c s.m.length (DJ' s.m) (BZ' s.m) q q1 q2) ?_); exact Goes.shut (R := fun _ : Unit => True) (L := fun _ => catL S s) (m := .turns t2) (H0 := [(1000, rP (BZ' s.m))]) () trivial χ (HJ' S s) ⟨rfl, Ye⟩ (A0' (L3' _ _) A1')
theorem RW' (t t2 : List Int) (S : List Bs) (s : St) (hm : s.m = []) :
  Tri Θ default fPs [.ptr 0 0] [(0, cO t S s)] nilS [(0, cO t2 S s), (1000, dumZ)] := by
 obtain ⟨m, c, b⟩ := s; simp only at hm; subst hm; refine S0' (Tri.post (Y6' (dO S []) (fun _ => rfl) (o' (cat (S ++ [])).length) (o' b) c) ?_); refine Goes.trans (W7' (t := t2) (S := S) (s := ⟨[], c, b⟩) ⟨Ye, Ye⟩) (HY' (k := 1000) (H' := [(0, cO t2 S ⟨[], c, b⟩), (1000, dumZ)]) (fun C => trivial) χ χ rfl δ rfl (fun n hn => ?_)); simp only [getO, if_neg hn]
noncomputable section
def aSm (n i : Nat) : List (Nat × AV) := [(0, sP 1050 n), (1, sP 1051 n), (5, iv (o' i))]
def ixSm : List Nat := [0, 1, 4, 5]
def hSm (p : Δ × Δ) (i : Nat) : B9' := AE' [ht' fSm 4 3, (fSm, 6, 3, hv (.agg [sv p.1, sv p.2])), (fSm, 6, 7, hv (.agg [sv p.1, sv p.2])), hf' fSm 6 8, (fSm, 5, 1, hv (iv (o' (i + 1))))]
abbrev k71' (q0 : Nat) (q1 : List (Δ × Δ)) (q2 : Δ × Δ) : Cnd := ((p' ((List.take 2 (List.drop (0 + q0 * 2) (rowV prV q1))).length.beq 2 = true)).a ((p' (List.take 2 (List.drop (0 + q0 * 2) (rowV prV q1)) = [v' (vs' ((List.take 2 (List.drop (0 + q0 * 2) (rowV prV q1))).getD 0 (u')).strOf),v' (vs' ((List.take 2 (List.drop (0 + q0 * 2) (rowV prV q1))).getD 1 (u')).strOf)])).a (f' (Wk (AV.agg [v' (vs' ((List.take 2 (List.drop (0 + q0 * 2) (rowV prV q1))).getD 0 (u')).strOf),v' (vs' ((List.take 2 (List.drop (0 + q0 * 2) (rowV prV q1))).getD 1 (u')).strOf)]) (AV.agg [s' q2.fst,s' q2.snd])))))
theorem YK' (n i : Nat) (ps : List (Δ × Δ)) (p : Δ × Δ) (F : HP) : BK' [] (hSm p i) [] default fSm (A3' fSm 4) (tms 0 26 (aSm n i)) [(1050, rP ps), (1051, rP ps)] [1050, 1051] ixSm F = VT.leaf (AX.normal,[AV.slice 1050 0 n 2 (Cp.lo n),AV.slice 1051 0 n 2 (Cp.lo n),a',i' (i + 1)],26) [some (ce' (rowV prV ps) 124),some (ce' (rowV prV ps) 124)] 1100 ((wb' (decide (o' i < ↑n)) j').a ((f' (i.blt n = true)).a ((k71' i ps p).a ((f' (i.blt n = true)).a ((k71' i ps p).a (((p' (VZ' Tryz.prog 62 (Array.mk [vs' p.fst,vs' p.snd]) (Array.mk [vs' p.fst,vs' p.snd]) (GX' [vs' p.fst,vs' p.snd] [vs' p.fst,vs' p.snd]))).a (f' (Wk (v' (Value.bool !GX' [vs' p.fst,vs' p.snd] [vs' p.fst,vs' p.snd])) g'))).a ((k2' i).a k1'))))))) := χ
theorem YM' (n i : Nat) (ps : List (Δ × Δ)) (F : HP) : BK' [] (AE' [hf' fSm 4 3]) [] default fSm (A3' fSm 4) (tms 0 26 (aSm n i)) [(1050, rP ps), (1051, rP ps)] [1050, 1051] ixSm F = VT.leaf (AX.exit 0,[AV.slice 1050 0 n 2 (Cp.lo n),AV.slice 1051 0 n 2 (Cp.lo n),a',i' i],26) [some (ce' (rowV prV ps) 124),some (ce' (rowV prV ps) 124)] 1100 ((wb' (decide (o' i < ↑n)) g').a k1') := χ
def gSm : List AV -> AP (Nat × Nat) := fun tms => match tms.getD 0 AV.undef, tms.getD 1 AV.undef with
 | .slice i _ _ _ _, .slice j _ _ _ _ => .ret (i, j)
 | _, _ => .fail "rows"
def nmSm (p : Nat × Nat) (k : Nat) : Nat := match Nat.beq k 1050 with
 | true => p.1
 | false => match Nat.beq k 1051 with
  | true => p.2
  | false => k
def lSm (n : Nat) (ps : List (Δ × Δ)) : List AV -> AP (AX × List AV) := mkL gSm (fun _ => True) nmSm (fun _ => tms 0 26 (aSm n 0)) (fun _ => [(1050, rP ps), (1051, rP ps)]) (fun _ => .leaf (.exit 0) (tms 0 26 []) [(1050, rP ps), (1051, rP ps)])
theorem YL' (n : Nat) (ps : List (Δ × Δ)) (F : HP) : wRun [] (AE' [hf' fSm 1 4]) [(fSm, 4, A3' fSm 4, lSm n ps)] default fSm [sP 2 n, sP 3 n] [(2, rP ps), (3, rP ps)] [2, 3] F = VT.leaf (b' true) [none,none] 1102 ((wb' ((↑n : Int) != ↑n) g').a ((p' ((fSm,4,A3' fSm 4,lSm n ps).snd.snd.fst = (fSm,4,A3' fSm 4,lSm n ps).snd.snd.fst)).a (k4'.a ((p' (VW (AV.slice 2 0 n 2 (Cp.lo n)::AV.slice 3 0 n 2 (Cp.lo n)::u'::u'::b' false::i' 0::AV.slice 2 0 n 2 (Cp.lo n)::z' ↑n::AV.slice 3 0 n 2 (Cp.lo n)::z' ↑n::g'::ru8 (ru4 (u'::u'::u'::[]))) (AV.slice 2 0 n 2 (Cp.lo n)::AV.slice 3 0 n 2 (Cp.lo n)::a'::a'::a'::i' 0::ra16 (ra4 ([]))))).a ((p' (OW (ce' (rowV prV ps) 124) (ce' (AV.rens (nmSm (2,3)) (rowV prV ps)) 124))).a ((p' (OW (ce' (rowV prV ps) 124) (ce' (AV.rens (nmSm (2,3)) (rowV prV ps)) 124))).a k1')))))) := χ
theorem YJ' (F : HP) : wRun [] (AE' [hf' fSm 1 4, hf' fSm 4 3]) [] default fSm [nilS, nilS] [] [] F = VT.leaf (b' true) [] 1100 (k5'.a (k5'.a k1')) := χ
end
theorem Y8' (p : Pr) : VZ' Θ 62 (Array.mk [vs' p.1, vs' p.2]) (Array.mk [vs' p.1, vs' p.2]) (GX' [vs' p.1, vs' p.2] [vs' p.1, vs' p.2]) := by
 intro w; have u3 := Tryz.underlying9; have a3 := Tryz.isAgg9; have z3 := Tryz.sizeOf9
 have hS : Θ.underlying 62 = some (.struct (Θ.fieldsOf 62)) := χ
 show (Op.equalIn 10000 62 (.agg #[.string p.1, .string p.2]) (.agg #[.string p.1, .string p.2])).run Θ w = _; rw [show (10000 : Nat) = 9999 + 1 from rfl, run_equalIn_agg w 9999 _ _ _ hS χ]; simp only [Program.fieldsOf, Tryz.underlying62]
 go_simp
 simp [GX', valQ]
theorem XX' (ps : List Pr) (hn : ps.length <= 2097152) :
  LTri Θ default (A3' fSm 4) (tms 0 26 (aSm ps.length 0)) [(1050, rP ps), (1051, rP ps)] (.exit 0) (tms 0 26 []) [(1050, rP ps), (1051, rP ps)] := by
 refine BG' (W := default) (g := fSm) (b := A3' fSm 4) (σ := {i : Nat // i <= ps.length}) 26 (fun i => aSm ps.length i.1) (fun _ => [(1050, rP ps), (1051, rP ps)]) (.exit 0) [] [(1050, rP ps), (1051, rP ps)] (fun i => ps.length - i.1) [1050, 1051] ixSm (by intro h; cases h) (fun i => χ) χ ?_ ⟨0, Nat.zero_le _⟩; rintro ⟨i, hi⟩; simp only
 by_cases h1 : i < ps.length
 ·obtain ⟨p, hp⟩ := B1' h1
  have hld : List.take 2 (List.drop (0 + i * 2) (rowV prV ps)) = vmap (prV p) := by
   have := KZ' OB' [] ps p i h1; rw [List.length_nil, Nat.zero_mul, List.nil_append] at this; rw [this]; simp [List.getD, hp]
  have hlt : i.blt ps.length = true := by rw [bl']; exact h1
  have e1 : Wk (.v (.bool (decide (o' i < ((ps.length : Nat) : Int))))) (.lit true) := A4' (ltTN h1); have e3 : Wk (.v (.int .i64 (IntKind.i64.wrap (o' i + o' 1)))) (.v (.int .i64 (o' (i + 1)))) := C8' (BB' i ω); have e4 : Wk (.v (.bool (!GX' [vs' p.1, vs' p.2] [vs' p.1, vs' p.2]))) (.lit false) := A4' (by simp [GX', valQ])
  refine ⟨[], hSm p i, [], fun _ _ => noC, fun _ _ => noL, fun F => ?_⟩
  refine Yj (YK' ps.length i ps p F) ⟨⟨?_, rfl, .inl ⟨rfl, ⟨i + 1, h1⟩, B7' h1, [(1050, 1050), (1051, 1051)], by kernel_rfl, by kernel_rfl, ⟨Ya, Ya, Ya, Ye⟩, ⟨_, rfl, L2' rfl⟩, ⟨_, rfl, L2' rfl⟩, Ye⟩⟩⟩
  simp only [ch', hlt, hld, true_and, and_true]; and_intros; all_goals first | (with_reducible assumption) | (with_reducible exact Ya) | exact Y8' p | exact rfl | exact Ya
 ·have hie : i = ps.length := ω
  subst hie
  refine ⟨[], AE' [hf' fSm 4 3], [], fun _ _ => noC, fun _ _ => noL, fun F => ?_⟩
  refine Yj (YM' ps.length ps.length ps F) ⟨⟨?_, rfl, .inr ⟨rfl, [(1050, 1050), (1051, 1051)], by kernel_rfl, by kernel_rfl, Ye, ⟨_, rfl, L2' rfl⟩, ⟨_, rfl, L2' rfl⟩, Ye⟩⟩⟩
  simp only [ch', and_true]; exact A4' (ltFN (Yd))
theorem gSm_ro : ∀ tms, RO (gSm tms) := fun tms => by
 unfold gSm
 split <;> first | exact RO.ret _ | exact RO.fail _
theorem lSm_ok (ps : List Pr) (hn : ps.length <= 2097152) (F : HP) : L1OK Θ F (A3' fSm 4) (lSm ps.length ps) :=
 CE' (W := default) BC' (fun _ => gSm_ro _) (fun _ _ => XX' ps hn) fun _ => by
  simp only [RT.pick]; exact BQ' rfl rfl (A0' rfl (A0' rfl (A0' Ye A1'))) (A0' (L3' _ _) (A0' (L3' _ _) A1')) A1' (A0' (L3' _ _) (A0' (L3' _ _) A1'))
theorem XV' (ps : List Pr) (hn : ps.length <= 2097152) : Tri Θ default fSm [sP 2 ps.length, sP 3 ps.length] [(2, rP ps), (3, rP ps)] (bv true) [] := by
 refine AM' (con := []) (hints := AE' [hf' fSm 1 4]) (lc := [(fSm, 4, A3' fSm 4, lSm ps.length ps)]) [2, 3] χ (fun _ _ => noC) (fun F _ => CJ' (lSm_ok ps hn F)) fun F => ?_
 have e1 : Wk (.v (.bool (((ps.length : Nat) : Int) != ((ps.length : Nat) : Int)))) (.lit false) := A4' (by simp); refine Yj (YL' ps.length ps F) ⟨⟨?_, (AJ' (vs' := [bv true]) (H' := []) [] rfl rfl (Yb) trivial).fits rfl⟩⟩
 simp only [ch', true_and, and_true]; and_intros; all_goals first | (with_reducible assumption) | (with_reducible exact Ye) | (with_reducible exact rfl) | exact rfl | exact Yc | exact L2' rfl | ((repeat (first | exact VW.nil | refine VW.cons (Wk.any _) ?_ | refine VW.cons Ya ?_)); done)
theorem XW' : Tri Θ default fSm [nilS, nilS] [] (bv true) [] := by
 refine AM' (con := []) (hints := AE' [hf' fSm 1 4, hf' fSm 4 3]) (lc := []) [] χ (fun _ _ => noC) (fun _ _ => noL) fun F => ?_
 refine Yj (YJ' F) ⟨⟨?_, (AJ' (vs' := [bv true]) (H' := []) [] rfl rfl (Yb) trivial).fits rfl⟩⟩; simp only [ch', true_and, and_true]; and_intros
 all_goals exact A4' rfl
def eC (l : List Chg) : Int := match okL l with | true => 0 | false => 130
theorem VE' (l : List Chg) : ckV l = iv (eC l) := by rw [ckV, eC]; cases okL l <;> rfl
theorem EO' {s : St} (h : s.OK) (l : List Chg) : (comm s l).b <= s.b + szL l /\ (comm s l).m.length <= s.m.length + l.length := by
 rw [comm]; split
 ·exact T8' h l
 ·exact ⟨Nat.le_add_right _ _, Nat.le_add_right _ _⟩
theorem PR' (S : List Bs) (l : List Chg) : (cat S).length <= (cat (logc S l)).length /\ (cat (logc S l)).length <= (cat S).length + 8 + (9 * l.length + szL l) := by
 rw [logc]; split
 ·have h1 := HG' (l.map BP'); have h2 := PG' l; rw [List.length_map] at h1
  have h3 : (cat (S ++ [encL (l.map BP')])).length = (cat S).length + (8 + (encL (l.map BP')).length) := by
   rw [LG', la', IV', la', C2']; rfl
  omega
 ·exact ⟨Yd, by omega⟩
def cH (S : List Bs) (s : St) : Nat -> Nat -> HP := exHP (fun _ : Unit => True) (fun _ => catL S s)
def hsOf (l1 l2 : List Chg) : Hs := ⟨cH [[]] s0, cH (logc [[]] l1) (comm s0 l1), cH (logc (logc [[]] l1) l2) (comm (comm s0 l1) l2), cH [[]] s0, cH (logc [[]] l2) (comm s0 l2), cH (logc (logc [[]] l2) l1) (comm (comm s0 l2) l1)⟩
theorem SM' : ∀ args, RO (gTg args) := fun args => by
 unfold gTg; split
 ·refine RO.read _ _ fun o => ?_
  split
  ·split <;> exact RO.ret _
  ·exact RO.fail _
 ·exact RO.fail _
theorem cOd_ok (hN : LN W) (l1 l2 : List Chg) (F : HP) (hF : AK' W F) : C1OK Θ F fOd (cOd (hsOf l1 l2)) :=
 B4' hF (fun _ => .tuple [.any, .ptr 1000 0]) (fun _ => RO.ret _) (fun _ => rfl) (fun _ _ => od_tri W hN []) fun _ => ⟨rfl, rfl, Ye, A1', ⟨⟨Ye, rfl, Ye⟩, Ye⟩, A0' Ye A1'⟩
theorem cCm_ok (hN : LN W) {o1 o2 : Option Addr} {l1 l2 : List Chg} (c1 c2 : Nat) (h1 : CAt W o1 l1) (h2 : CAt W o2 l2) (F : HP) (hF : AK' W F) : C1OK Θ F fCm (cCm o1 o2 l1.length c1 l2.length c2 (eC l1) (eC l2) (Bd l1 l2) (hsOf l1 l2)) :=
 B4' hF (fun p => iv (erS (eC l1) (eC l2) p.2)) SM' (fun _ => rfl) (fun p hp => by
  obtain ⟨i, p⟩ := p; obtain ⟨hp, hB, hB2⟩ := hp; have z1 : (cat [[]]).length = 8 := rfl; have z2 : s0.b = 0 := rfl; have z3 : s0.m.length = 0 := rfl; have a1 := EO' GH' l1; have a2 := EO' GH' l2; have g1 := PR' [[]] l1; have g2 := PR' [[]] l2
  cases p with
  | a0 =>
   have := PW' W hN (mkS .a0) (mkS .a1) [[]] s0 GH' c1 h1 ω ω ω ω; rw [VE'] at this; exact this
  | a1 =>
   have := PW' W hN (mkS .a1) (mkS .a2) (logc [[]] l1) (comm s0 l1) (CI' GH' l1) c2 h2 ω ω ω ω; rw [VE'] at this; exact this
  | b0 =>
   have := PW' W hN (mkS .b0) (mkS .b1) [[]] s0 GH' c2 h2 ω ω ω ω; rw [VE'] at this; exact this
  | b1 =>
   have := PW' W hN (mkS .b1) (mkS .b2) (logc [[]] l2) (comm s0 l2) (CI' GH' l2) c1 h1 ω ω ω ω; rw [VE'] at this; exact this
  | a2 => exact hp.elim
  | b2 => exact hp.elim) fun p => by
   obtain ⟨i, p⟩ := p
   cases p <;> exact ⟨rfl, rfl, ⟨rfl, Ye, Ye⟩, A0' Ye A1', ⟨Ye, Ye⟩, A0' Ye A1'⟩
structure PsL (l1 l2 : List Chg) (ps : List Pr) : Prop where
 a : BZ' (comm (comm s0 l1) l2).m = ps
 b : BZ' (comm (comm s0 l2) l1).m = ps
theorem VP' (l1 l2 : List Chg) (ps : List Pr) (h : PsL l1 l2 ps) (hne : ps ≠ []) (F : HP) : C1OK Θ F fPs (cPs (Bd l1 l2) (hsOf l1 l2) (sP 1000 ps.length) (rP ps)) :=
 B4' (W := default) BC' (fun _ => sP 1000 ps.length) SM' (fun _ => rfl) (fun p hp => by
  obtain ⟨i, p⟩ := p; obtain ⟨hp, hB, hB2⟩ := hp; have z2 : s0.b = 0 := rfl; have z3 : s0.m.length = 0 := rfl; have a1 := EO' GH' l1; have a2 := EO' GH' l2; have a3 := EO' (CI' GH' l1) l2; have a4 := EO' (CI' GH' l2) l1; obtain ⟨ha, hb⟩ := h
  have n1 : (comm (comm s0 l1) l2).m ≠ [] := fun e => hne (by rw [<- ha, e]; rfl)
  have n2 : (comm (comm s0 l2) l1).m ≠ [] := fun e => hne (by rw [<- hb, e]; rfl)
  cases p with
  | a2 =>
   have := RV' (mkS .a2) (mkS .a2) (logc (logc [[]] l1) l2) (comm (comm s0 l1) l2) (CI' (CI' GH' l1) l2) ω ω n1; rw [ha] at this; exact this
  | b2 =>
   have := RV' (mkS .b2) (mkS .b2) (logc (logc [[]] l2) l1) (comm (comm s0 l2) l1) (CI' (CI' GH' l2) l1) ω ω n2; rw [hb] at this; exact this
  | a0 => exact hp.elim
  | a1 => exact hp.elim
  | b0 => exact hp.elim
  | b1 => exact hp.elim) fun p => by
   obtain ⟨i, p⟩ := p
   cases p <;> exact ⟨rfl, rfl, ⟨rfl, Ye⟩, A0' Ye A1', ⟨rfl, Ye⟩, A0' Ye (A0' (L3' _ _) A1')⟩
theorem ML' {m : KM} (h : BZ' m = []) : m = [] := by
 have := congrArg List.length h; rw [H6'] at this; exact List.eq_nil_of_length_eq_zero this
theorem VQ' (l1 l2 : List Chg) (h : PsL l1 l2 []) (F : HP) : C1OK Θ F fPs (cPs (Bd l1 l2) (hsOf l1 l2) nilS dumZ) :=
 B4' (W := default) BC' (fun _ => nilS) SM' (fun _ => rfl) (fun p hp => by
  obtain ⟨i, p⟩ := p; obtain ⟨hp, hB, hB2⟩ := hp
  cases p with
  | a2 => exact RW' (mkS .a2) (mkS .a2) (logc (logc [[]] l1) l2) (comm (comm s0 l1) l2) (ML' h.a)
  | b2 => exact RW' (mkS .b2) (mkS .b2) (logc (logc [[]] l2) l1) (comm (comm s0 l2) l1) (ML' h.b)
  | a0 => exact hp.elim
  | a1 => exact hp.elim
  | b0 => exact hp.elim
  | b1 => exact hp.elim) fun p => by
   obtain ⟨i, p⟩ := p
   cases p <;> exact ⟨rfl, rfl, ⟨rfl, Ye⟩, A0' Ye A1', ⟨Ye, Ye⟩, A0' Ye (A0' Ye A1')⟩
theorem VN' (i j : Nat) (ps : List Pr) (hn : ps.length <= 2097152) (F : HP) : C1OK Θ F fSm (cSm i j (sP 2 ps.length) (sP 3 ps.length) (rP ps)) :=
 B4' (W := default) BC' (fun _ => bv true) (fun _ => RO.ret _) (fun _ => rfl) (fun _ _ => XV' ps hn) fun _ => ⟨rfl, rfl, ⟨rfl, rfl, Ye⟩, A0' (L3' _ _) (A0' (L3' _ _) A1'), ⟨Ye, Ye⟩, A1'⟩
theorem VO' (i j : Nat) (F : HP) : C1OK Θ F fSm (cSm i j nilS nilS dumZ) :=
 B4' (W := default) BC' (fun _ => bv true) (fun _ => RO.ret _) (fun _ => rfl) (fun _ _ => Tri.pre (SK' (vs := [nilS, nilS]) (vs' := [nilS, nilS]) (H := [(2, dumZ), (3, dumZ)]) (H' := []) rfl rfl (Yb) (fun i o h => by cases h) ⟨Ye, Ye, Ye⟩ A1') XW') fun _ => ⟨rfl, rfl, ⟨Ye, Ye, Ye⟩, A0' Ye (A0' Ye A1'), ⟨Ye, Ye⟩, A1'⟩
theorem Y3' (i j : Nat) : PxK nilS nilS nilS nilS nilS dumZ i j := ⟨fun _ => rfl, fun _ => Ya, fun _ => Ya, Yb⟩
theorem Y2' (ps : List Pr) (i j : Nat) : PxK (sP 1000 ps.length) (sP i ps.length) (sP j ps.length) (sP 2 ps.length) (sP 3 ps.length) (rP ps) i j := ⟨W9' ps, fun _ => Ya, fun _ => Ya, Yb⟩
theorem ow_ab (l1 l2 : List Chg) : OW (cT (hsOf l1 l2) .a0) (cT (hsOf l1 l2) .b0) := fun _ _ _ _ h => h
theorem WN' (W : World) {o1 o2 : Option Addr} {l1 l2 : List Chg} (c1 c2 : Nat) (h1 : CAt W o1 l1) (h2 : CAt W o2 l2) (hs : szL l1 + szL l2 <= CA') (hk : ∀ x ∈ l1, ∀ y ∈ l2, x.k ≠ y.k) {p1 p2 : Nat -> AV} (K : ∀ i j, PxK px (p1 i) (p2 j) q1 q2 po i j)
  (q : ∀ i j F, AK' W F -> ∀ x ∈ K2' o1 o2 l1.length c1 l2.length c2 (eC l1) (eC l2) (Bd l1 l2) (hsOf l1 l2) px i j q1 q2 po, C1OK Θ F x.1 x.2) :
  Tri Θ W fLaw [slV o1 l1.length c1, slV o2 l2.length c2] [] (bv true) [] := by
 have f1 := h1.len; have f2 := h2.len
 have qo := fun (s : Int) F hF => lOu_ok (W := W) o1 o2 c1 c2 s h1 h2 (cT (hsOf l1 l2) .a0) (cT (hsOf l1 l2) .a0) (cT (hsOf l1 l2) .b0) (fun _ => rfl) (fun _ => rfl) (fun _ => rfl) (fun _ => trivial) (fun _ => trivial) (fun _ => trivial) (ow_ab l1 l2) hk F hF
 have qb := fun (l : List Chg) (hl : l.length <= 2097152) (hz : szL l <= CA') F => WV' o1 o2 l1.length c1 l2.length c2 l hl hz (cT (hsOf l1 l2) .a0) (cT (hsOf l1 l2) .a0) (fun _ => rfl) (fun _ => rfl) (fun _ => trivial) (fun _ => trivial) F
 generalize hh : hsOf l1 l2 = h at *
 clear hh
 cases l1 with
 | nil =>
  cases l2 with
  | nil =>
   cases o1 with
   | none =>
    cases o2 with
    | none => exact lwNN W c1 c2 _ _ _ h (K 1105 1106) id (q 1105 1106) (fun F hF => CJ' (qo 0 F hF))
    | some a2 => exact lwNE W a2 c1 c2 _ _ _ h (K 1105 1106) id (q 1105 1106) (fun F hF => CJ' (qo 0 F hF))
   | some a1 =>
    cases o2 with
    | none => exact lwEN W a1 c1 c2 _ _ _ h (K 1105 1106) id (q 1105 1106) (fun F hF => CJ' (qo 0 F hF))
    | some a2 => exact lwEE W a1 a2 c1 c2 _ _ _ h (K 1105 1106) id (q 1105 1106) (fun F hF => CJ' (qo 0 F hF))
  | cons x t =>
   obtain ⟨a2, rfl, _⟩ := h2.at' 0 x rfl; have O2 := OldP.mk' h2 (Nat.succ_pos _)
   generalize x :: t = l2 at *
   have qb := fun F => qb l2 ω ω F
   cases o1 with
   | none => exact lwNP W a2 c1 c2 l2 _ _ _ h (K 1108 1109) O2 id (q 1108 1109) (fun F hF => DI' (qb F) (CJ' (qo _ F hF)))
   | some a1 => exact lwEP W a1 a2 c1 c2 l2 _ _ _ h (K 1108 1109) O2 id (q 1108 1109) (fun F hF => DI' (qb F) (CJ' (qo _ F hF)))
 | cons y t =>
  obtain ⟨a1, rfl, _⟩ := h1.at' 0 y rfl; have O1 := OldP.mk' h1 (Nat.succ_pos _)
  generalize y :: t = l1 at *
  cases l2 with
  | nil =>
   have qb := fun F => qb l1 ω ω F
   cases o2 with
   | none => exact lwPN W a1 c1 c2 l1 _ _ _ h (K 1108 1109) O1 id (q 1108 1109) (fun F hF => DI' (qb F) (CJ' (qo _ F hF)))
   | some a2 => exact lwPE W a1 a2 c1 c2 l1 _ _ _ h (K 1108 1109) O1 id (q 1108 1109) (fun F hF => DI' (qb F) (CJ' (qo _ F hF)))
  | cons x t =>
   obtain ⟨a2, rfl, _⟩ := h2.at' 0 x rfl; have O2 := OldP.mk' h2 (Nat.succ_pos _)
   generalize x :: t = l2 at *
   have qb := fun F => qb (l1 ++ l2) (by rw [la']; omega) (by rw [GF']; omega) F
   rw [la'] at qb; exact lwPP W a1 a2 c1 c2 l1 l2 _ _ _ h (K 1109 1110) O1 O2 id (q 1109 1110) (fun F hF => DI' (qb F) (CJ' (qo _ F hF)))
theorem RZ' (W : World) (hN : LN W) {o1 o2 : Option Addr} {l1 l2 : List Chg} (c1 c2 : Nat) (h1 : CAt W o1 l1) (h2 : CAt W o2 l2) (hs : szL l1 + szL l2 <= CA') :
  Tri Θ W fLaw [slV o1 l1.length c1, slV o2 l2.length c2] [] (bv true) [] := by
 have u1 := fun F hF => QV' hN F hF
 have u2 := fun F hF => cOd_ok hN l1 l2 F hF
 by_cases hk : ∃ x ∈ l1, ∃ y ∈ l2, x.k = y.k
 ·obtain ⟨x, hx, y, hy, hxy⟩ := hk; have hk : ∃ x ∈ l1, ∃ y ∈ l2, x.k = y.k := ⟨x, hx, y, hy, hxy⟩; have f1 := h1.len; have f2 := h2.len; have p1 : 0 < l1.length := List.length_pos_of_mem hx; have p2 : 0 < l2.length := List.length_pos_of_mem hy; obtain ⟨x0, hx0⟩ := B1' p1; obtain ⟨y0, hy0⟩ := B1' p2; obtain ⟨a1, rfl, _⟩ := h1.at' 0 x0 hx0; obtain ⟨a2, rfl, _⟩ := h2.at' 0 y0 hy0
  have qo := fun (s : Int) F hF => a7' (W := W) (some a1) (some a2) c1 c2 s h1 h2 (cT (hsOf l1 l2) .a0) (cT (hsOf l1 l2) .a0) (fun _ => rfl) (fun _ => rfl) (fun _ => trivial) (fun _ => trivial) hk F hF
  have qb := fun F => WV' (some a1) (some a2) l1.length c1 l2.length c2 (l1 ++ l2) (by rw [la']; omega) (by rw [GF']; omega) (cT (hsOf l1 l2) .a0) (cT (hsOf l1 l2) .a0) (fun _ => rfl) (fun _ => rfl) (fun _ => trivial) (fun _ => trivial) F
  rw [la'] at qb; exact lwPPS W a1 a2 c1 c2 l1 l2 (hsOf l1 l2) (OldP.mk' h1 p1) (OldP.mk' h2 p2) (fun F hF => AO' (u1 F hF) (DG' (u2 F hF))) (fun F hF => DI' (qb F) (CJ' (qo _ F hF)))
 ·have hk : ∀ x ∈ l1, ∀ y ∈ l2, x.k ≠ y.k := fun x hx y hy e => hk ⟨x, hx, y, hy, e⟩
  have u3 := fun F hF => cCm_ok hN c1 c2 h1 h2 F hF
  have hp : PsL l1 l2 (BZ' (comm (comm s0 l1) l2).m) := ⟨rfl, (QS' GH' hk).symm⟩
  by_cases hn : BZ' (comm (comm s0 l1) l2).m = []
  ·rw [hn] at hp
   exact WN' W c1 c2 h1 h2 hs hk Y3' fun i j F hF => AO' (u1 F hF) (AO' (u2 F hF) (AO' (u3 F hF) (AO' (VQ' l1 l2 hp F) (DG' (VO' i j F)))))
  ·have hlen : (BZ' (comm (comm s0 l1) l2).m).length <= 2097152 := by
    rw [H6']; have z3 : s0.m.length = 0 := rfl; have a1 := EO' GH' l1; have a3 := EO' (CI' GH' l1) l2; have f1 := h1.len; have f2 := h2.len; omega
   generalize hps : BZ' (comm (comm s0 l1) l2).m = ps at *
   exact WN' W c1 c2 h1 h2 hs hk (Y2' ps) fun i j F hF => AO' (u1 F hF) (AO' (u2 F hF) (AO' (u3 F hF) (AO' (VP' l1 l2 ps hp hn F) (DG' (VN' i j ps hlen F)))))
end Go.Proofs.YtnnojnlejlokhaaGreatDoor.Wk
namespace Go.Proofs.YtnnojnlejlokhaaGreatDoor
open Go
theorem HU' {α : Type} {f : α -> List Value} {m : Nat} (hf : ∀ x, (f x).length = m) : ∀ (l : List α) (k j : Nat) (h : k < l.length), j < m -> (l.flatMap f)[k * m + j]? = (f l[k])[j]?
 | [], _, _, h, _ => by simp at h
 | x :: l, 0, j, _, hj => by
  rw [List.flatMap_cons, Nat.zero_mul, Nat.zero_add, List.getElem?_append_left (by rw [hf]; exact hj)]; rfl
 | x :: l, k + 1, j, h, hj => by
  rw [List.flatMap_cons, List.getElem?_append_right (by rw [hf, Nat.add_mul]; omega), hf, show (k + 1) * m + j - m = k * m + j from by rw [Nat.add_mul]; omega]
  exact HU' hf l k j (by simpa using h) hj
theorem H5' {α : Type} {f : α -> List Value} {m : Nat} (hf : ∀ x, (f x).length = m) (l : List α) : (l.flatMap f).length = l.length * m := by
 induction l with
 | nil => simp
 | cons p l ih => simp only [List.flatMap_cons, List.length_append, hf, List.length_cons, ih, Nat.add_mul]; omega
open Go.ChangeShapes Go.WideShapes Go.RowKit Go.Deep
section
variable {H : Type} {enc : TypeId × Value -> H} {P : Program} {w : World} {base : Nat} {spare : Nat -> Bool} {held : Bool}
def TN' (P : Program) (t : TypeId) (d : DataW H) : Prop := ∀ n ∈ d.weights P t, n <= reachBytes
theorem TN'.len {t e : TypeId} {elems sp : List (DataW H)} (hu : P.underlying t = some (.slice e)) (h : TN' P t (.slice elems sp)) : (elems.length + sp.length) * P.bytesOf e <= reachBytes :=
 h _ (by simp only [DataW.weights, hu, List.mem_cons, true_or])
theorem TN'.field {t : TypeId} {fs : Array Field} {parts : List (DataW H)} (hu : P.underlying t = some (.struct fs)) (h : TN' P t (.agg parts)) {i : Nat} {f : Field} {d : DataW H} (hf : fs[i]? = some f) (hp : parts[i]? = some d) : TN' P f.type d := fun n hn => by
 refine h n ?_; simp only [DataW.weights, hu]; exact DataW.weights_mem_each (j := i) (by simp [hf]) hp n hn
end
end Go.Proofs.YtnnojnlejlokhaaGreatDoor
namespace Go.Proofs.YtnnojnlejlokhaaGreatDoor.Upto
open Go.ChangeShapes Go.WideShapes Go.RowKit Go.Deep
theorem one_le {H : Type} (d : DataW H) : 1 <= Rows.uptoBulk d := by
 cases d with
 | lit l => cases l <;> simp [Rows.uptoBulk]
 | nil => simp [Rows.uptoBulk]
 | ptr d => simp [Rows.uptoBulk]
 | slice elems spare => simp [Rows.uptoBulk]
 | agg parts => simp [Rows.uptoBulk]
 | iface t d => simp [Rows.uptoBulk]
 | map entries => simp [Rows.uptoBulk]
 | held h => simp [Rows.uptoBulk]
theorem length_le {H : Type} (l : List (DataW H)) : l.length <= Rows.uptoBulkAll l := by
 induction l with
 | nil => simp [Rows.uptoBulkAll]
 | cons x r ih => have := one_le x; simp only [Rows.uptoBulkAll, List.length_cons]; omega
theorem O7' {H : Type} (elems spare : List (DataW H)) : Rows.uptoBulkAll elems + 1 <= Rows.uptoBulk (.slice elems spare) := by
 simp only [Rows.uptoBulk]; omega
theorem bound {H : Type} {l : List (DataW H)} (hk : Rows.uptoSmall H l = true) : Rows.uptoBulkAll l <= 1048576 := of_decide_eq_true hk
theorem PH' {H α : Type} (wt : α -> Nat) : ∀ (l : List α) (ds : List (DataW H)), l.length = ds.length -> (∀ (i : Nat) (p : α) (d : DataW H), l[i]? = some p -> ds[i]? = some d -> wt p <= Rows.uptoBulk d) -> (l.map wt).sum <= Rows.uptoBulkAll ds
 | [], [], _, _ => Nat.zero_le _
 | [], _ :: _, h, _ => by cases h
 | _ :: _, [], h, _ => by cases h
 | p :: l, d :: ds, h, hw => by
  have h1 := hw 0 p d rfl rfl
  have h2 := PH' wt l ds (by simpa using h) fun i q e hq he => hw (i + 1) q e hq he
  simp only [List.map_cons, List.sum_cons, Rows.uptoBulkAll]; omega
theorem open_rdU {H : Type} {enc : TypeId × Value -> H} {P : Program} {w : World} {base : Nat} {spare : Nat -> Bool} {held : Bool} {α : Type} (f : α -> List Value) {size : Nat} (h0 : 0 < size) (hf : ∀ x, (f x).length = size) {t e : TypeId} (ht : P.underlying t = some (.slice e)) (hC : P.cellsOf e = size)
  {Q : α -> Prop} (wt : α -> Nat) (hopen : ∀ (n : Nat) (cs : List Value) (x : DataW H × List MemPlace), DataW.trod enc P w base spare held n e cs = some x -> ∃ p : α, cs = f p /\ Q p /\ wt p <= Rows.uptoBulk x.1)
  {fuel : Nat} {A : Option Addr} {len cap : Nat} {x : DataW H × List MemPlace} (h : DataW.trod enc P w base spare held fuel t [.slice A len cap] = some x) :
  ∃ l : List α, l.length = len /\ Rd w A len size (l.flatMap f) /\ (∀ p ∈ l, Q p) /\ (l.map wt).sum + 1 <= Rows.uptoBulk x.1 := by
 rcases open_slice ht h with ⟨hcs, _⟩ | ⟨a, len', cap', m, n, D, Pl, hcs, hb, hl, hm, hmm, hx, hi⟩
 ·simp only [List.cons.injEq, Value.slice.injEq, and_true] at hcs; obtain ⟨rfl, rfl, rfl⟩ := hcs; exact ⟨[], rfl, Rd.nil _, (fun p hp => by cases hp), one_le x.1⟩
 ·simp only [List.cons.injEq, Value.slice.injEq, and_true] at hcs; obtain ⟨rfl, rfl, rfl⟩ := hcs
  have hlm : len <= m := by rw [hmm]; split <;> omega
  have hall : ∀ i : Fin len, ∃ p : α, Q p /\ wt p <= Rows.uptoBulk (D i.1) /\ ∀ j u, (f p)[j]? = some u -> w.cell? (a.add (i.1 * size + j)) = some u := fun i => by
   obtain ⟨cs', hc, ht'⟩ := hi i.1 ω; obtain ⟨p, rfl, hq, hwt⟩ := hopen _ _ _ ht'
   refine ⟨p, hq, hwt, fun j u hu => ?_⟩
   obtain ⟨_, hcl, hat⟩ := World.cells?_some hc
   have hj : j < P.cellsOf e := by rw [hC, <- hf p]; exact (List.getElem?_eq_some_iff.1 hu).1
   rw [<- hu, <- hat j hj, hC, VW']
  obtain ⟨g, hg⟩ := Classical.axiomOfChoice hall
  refine ⟨List.ofFn g, by simp, ?_, fun p hp => ?_, ?_⟩
  rotate_left
  ·obtain ⟨i, rfl⟩ := List.mem_ofFn.1 hp; exact (hg i).1
  ·rw [hx]; refine Nat.le_trans (Nat.succ_le_succ ?_) (O7' _ _)
   refine PH' wt _ _ (by simp) fun i p d hp hd => ?_
   rw [List.getElem?_ofFn] at hp; split at hp
   ·rename_i hlt; rw [List.getElem?_map, List.getElem?_range hlt] at hd; cases hp; have hd := Option.some.inj hd; rw [<- hd]; exact (hg ⟨i, hlt⟩).2.1
   ·cases hp
  refine ⟨by rw [H5' hf]; simp, fun _ => ⟨a, rfl⟩, fun ad he j u hu => ?_⟩
  obtain rfl := Option.some.inj he
  have hj : j < len * size := by
   have := (List.getElem?_eq_some_iff.1 hu).1; rw [H5' hf] at this; simpa using this
  have hq : j / size < len := by rw [Nat.div_lt_iff_lt_mul h0]; exact hj
  have hd : j / size * size + j % size = j := by rw [Nat.mul_comm]; exact Nat.div_add_mod j size
  have hk : j / size < (List.ofFn g).length := by simpa using hq
  have hp := HU' hf (List.ofFn g) (j / size) (j % size) hk (Nat.mod_lt _ h0); rw [hd, hu] at hp; have := (hg ⟨j / size, hq⟩).2.2 (j % size) u (by rw [hp]; simp)
  rwa [hd] at this
end Go.Proofs.YtnnojnlejlokhaaGreatDoor.Upto
namespace Go.Proofs.YtnnojnlejlokhaaGreatDoor.Wit
open Go
theorem row_zip {H : Type} {enc : TypeId × Value -> H} {C : Checked} {os : Os} {f : FuncId} {fn : Func} {s : OpenSpec} {conds : List PathCond} {apart : Bool} {laid : List (String × DataW Unit)} (w0 : World) (args : Array Value) (hos : w0.os = os)
  (hv : (w0.forCall (fun _ _ => 0) ⟨#[], args, []⟩).variablesZipB C.prog = true)
  (hr : ((w0.forCall (fun _ _ => 0) ⟨#[], args, []⟩).heap.toList.drop C.prog.globals.size).take ((begin C.prog (fun _ _ => 0) default).world.heap.size - C.prog.globals.size) =
   (begin C.prog (fun _ _ => 0) default).world.heap.toList.drop C.prog.globals.size)
  (hok : Input.okWideB C.prog (w0.forCall (fun _ _ => 0) ⟨#[], args, []⟩) f ⟨#[], args, []⟩ = true)
  (hrow : s.preRow enc C.prog fn conds apart laid (w0.forCall (fun _ _ => 0) ⟨#[], args, []⟩).memory args) :
  ∃ (w : World) (tape : Tape) (i : Input), w.os = os /\ (w.forCall tape i).Shaped C.prog /\ i.vars = [] /\ Input.okWide C.prog (w.forCall tape i) .any w.heap.size f i /\
   s.preRow enc C.prog fn conds apart laid (w.forCall tape i).memory i.args /\ ({} : Assume).holds C.prog (lone (Frame.enter C.prog f i.args .normal) [] (w.forCall tape i)) :=
 ⟨w0, fun _ _ => 0, ⟨#[], args, []⟩, hos, World.shaped_of_ZipB hv hr, (Input.okWide_of_okWideB (base := 0) hok).1, (Input.okWide_of_okWideB hok).2, hrow, by
  simp [Assume.holds]⟩
end Go.Proofs.YtnnojnlejlokhaaGreatDoor.Wit
namespace Go.Proofs.YtnnojnlejlokhaaGreatDoor.Wk
open Go Go.RowKit Eng Kit Co
open Go.ChangeShapes Go.WideShapes Go.Deep
section
variable {H : Type} {enc : TypeId × Value -> H} {w : World} {base : Nat} {spare : Nat -> Bool} {held : Bool}
def wtC (x : Chg) : Nat := x.k.size + x.v.size + 1
theorem open_ch (fuel : Nat) (cs : List Value) (x : DataW H × List MemPlace) (h : DataW.trod enc Θ w base spare held fuel 29 cs = some x) : ∃ p : Chg, cs = chV p /\ True /\ wtC p <= Rows.uptoBulk x.1 := by
 obtain ⟨ys, n, _, rfl, hlen, hyl, hf⟩ := DataW.trod_struct Tryz.underlying29 h
 have zS : Θ.cellsOf 9 = 1 := χ
 have zB : Θ.cellsOf 4 = 1 := χ
 match cs, hlen.trans (by kernel_rfl : Θ.cellsOf 29 = 3) with
 | [c0, c1, c2], _ =>
  match ys, hyl with
  | [y0, y1, y2], _ =>
   obtain ⟨a0, e0, x0, b0⟩ := DataW.trod_string Tryz.underlying9 (by simpa [zS, zB] using hf 0 _ rfl : DataW.trod enc Θ w base spare held n 9 [c0] = some y0); obtain rfl := (List.cons.inj e0).1; obtain ⟨a1, e1, x1, b1⟩ := DataW.trod_string Tryz.underlying9 (by simpa [zS, zB] using hf 1 _ rfl : DataW.trod enc Θ w base spare held n 9 [c1] = some y1); obtain rfl := (List.cons.inj e1).1; obtain ⟨a2, e2, _⟩ := DataW.trod_bool Tryz.underlying4 (by simpa [zS, zB] using hf 2 _ rfl : DataW.trod enc Θ w base spare held n 4 [c2] = some y2); obtain rfl := (List.cons.inj e2).1; refine ⟨⟨a0, a1, a2⟩, rfl, Ye, ?_⟩; have u2 := Upto.one_le y2.1; simp only [List.map_cons, List.map_nil, Rows.uptoBulk, Rows.uptoBulkAll, x0, x1]; have z0 : a0.data.toList.length = a0.size := rfl; have z1 : a1.data.toList.length = a1.size := rfl; have zw : wtC ⟨a0, a1, a2⟩ = a0.size + a1.size + 1 := rfl; rw [zw, <- z0, <- z1]; omega
theorem wtC_sum : ∀ l : List Chg, szL l + l.length <= (l.map wtC).sum
 | [] => Yd
 | x :: l => by
  have := wtC_sum l; rw [List.map_cons, List.sum_cons, CS', List.length_cons, szC, wtC]; omega
theorem cat_of {A : Option Addr} {l : List Chg} (h : Rd w A l.length 3 (l.flatMap chV)) (hb : l.length <= 1048576) : CAt w A l where
 len := hb
 at' := fun i x hx => by
  have hi := (List.getElem?_eq_some_iff.1 hx).1; obtain ⟨a, rfl⟩ := h.here ω
  refine ⟨a, rfl, fun j v hv => ?_⟩
  have hj : j < 3 := by have := (List.getElem?_eq_some_iff.1 hv).1; rwa [chV_len] at this
  have hp := HU' chV_len l i j hi hj; rw [(List.getElem?_eq_some_iff.1 hx).2, hv] at hp; exact h.cells a rfl _ _ hp
end
theorem order_calls {W : World} (hN : LN W) {o1 o2 : Option Addr} {l1 l2 : List Chg} (c1 c2 : Nat) (h1 : CAt W o1 l1) (h2 : CAt W o2 l2) (hb : szL l1 + szL l2 <= 1048576) :
  Calls Θ fLaw #[.slice o1 l1.length c1, .slice o2 l2.length c2] W fun e w' => e = .returned (.bool true) /\ Below W.heap.size W w' := by
 refine (RZ' W hN c1 c2 h1 h2 (Nat.le_trans hb δ) W (HP.old W) (fun _ => none) W #[.slice o1 l1.length c1, .slice o2 l2.length c2] (UA' W) (fun _ _ _ => rfl) (L0' W) ?_).mono ?_
 ·exact AA'.2 ⟨rfl, AA'.2 ⟨rfl, rfl⟩⟩
 rintro e w' ⟨y, rfl, N', _, _, r, hv⟩; have hy : y = .bool true := VR_v.1 (AA'.1 hv).1; subst hy; exact ⟨rfl, r.old_below⟩
end Go.Proofs.YtnnojnlejlokhaaGreatDoor.Wk
