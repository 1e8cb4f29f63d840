/- Parts of the proof, merged. -/
import Derived.Test.YtdphpillcaajpaaDoorBck3
import Derived.Test.YtdphpillcaajpaaDoorProg
import Derived.KernelRfl
import Derived.WalkKit
import Derived.Test.YtdphpillcaajpaaDoorEngXBck
import Derived.Test.YtdphpillcaajpaaDoorShelf
import Derived.Lib.Strings
import Derived.Lib.Slices
import Derived.Lib.Walk
import Derived.Lib.Bytealg
import Derived.Laws.RangeAny
import Derived.Laws.Runes
import Derived.Lib.OthersKept
noncomputable section
set_option linter.unusedVariables false
set_option linter.unusedSimpArgs false
set_option maxRecDepth 100000
set_option linter.unusedSectionVars false
namespace Go.Proofs.YtdphpillcaajpaaDoor.Js
open Go Go.RowKit Eng Kit
open Int renaming ofNat -> o'
open AO renaming cells -> ce'
open Cnd renaming holds -> ch'
open Nat renaming blt_eq -> bl'
variable {l : Γ} {n : Nat} {F : HP}
theorem b6' {c : UInt8} (hc : l[n]? = some c) (hd : isBl c = true) : skB l n = skB l (n + 1) := by
 have hn : n < l.length := (List.getElem?_eq_some_iff.1 hc).1; have hcc : l[n] = c := (List.getElem?_eq_some_iff.1 hc).2; unfold skB; rw [List.drop_eq_getElem_cons hn, hcc, List.takeWhile_cons, if_pos hd, List.length_cons]; omega
theorem b5' {c : UInt8} (hc : l[n]? = some c) (hd : isBl c = false) : skB l n = n := by
 have hn : n < l.length := (List.getElem?_eq_some_iff.1 hc).1; have hcc : l[n] = c := (List.getElem?_eq_some_iff.1 hc).2; unfold skB; rw [List.drop_eq_getElem_cons hn, hcc, List.takeWhile_cons, if_neg (by rw [hd]; decide)]; rfl
theorem iJ' (hn : l.length <= n) : skB l n = n := by
 unfold skB; rw [List.drop_eq_nil_iff.2 hn]; rfl
theorem fX' (hn : n <= l.length) : skB l n <= l.length := by
 unfold skB; have h1 : ((l.drop n).takeWhile isBl).length <= (l.drop n).length := (List.takeWhile_prefix (l := l.drop n) isBl).length_le; rw [List.length_drop] at h1; omega
theorem C2' (l : Γ) (n : Nat) : n <= skB l n := Nat.le_add_right _ _
theorem UG' (K : Nat -> Bool) (s : Δ) (i : Nat) : ∀ x ∈ oR s i, x.2.cl K := A2' ⟨Ye, Ye, Ye⟩ A4'
theorem RT' {s : Δ} {i : Nat} {x : UInt8} (h : (bts s).getD i 0 = x) : Wk (AV.v (.int .u8 (s.data.toList.getD i 0).toNat)) (byv x) := by rw [show s.data.toList.getD i 0 = x from h]; exact Ya
theorem nG' (W : World) (s : Δ) (hs : Few s.size) (m e : Nat) (hm : m <= s.size) (he : skB (bts s) m = e) : LTri Θ W (AA' fBl 0) (tms 0 32 [(0, .ptr 0 0)]) (oR s m) (.exit 0) (tms 0 32 [(0, .ptr 0 0)]) (oR s e) := by
 refine CC' (W := W) (g := fBl) (b := AA' fBl 0) (σ := {i : Nat // i <= s.size /\ skB (bts s) i = e}) 32 (fun _ => [(0, .ptr 0 0)]) (fun i => oR s i.1) (.exit 0) [(0, .ptr 0 0)] (oR s e) (fun i => s.size - i.1) [0] [0] (by intro h; cases h) (fun _ => rfl) rfl ?_ ⟨m, hm, he⟩; rintro ⟨i, hi, hE⟩; simp only
 by_cases h1 : i < s.size
 ·obtain ⟨x, hx⟩ : ∃ x, (bts s).getD i 0 = x := ⟨_, rfl⟩; have hg := G0' h1; rw [hx] at hg; have hby := RT' hx; have hw := EU' hs h1; have e1 := ltTC h1
  cases hd : isBl x with
  | true =>
   have hd' := hd; rw [b6' hg hd] at hE
   refine ⟨[(HT', HV')], hBl x i true, [], fun F hF => BT' (E2' hF), fun _ _ => noL, fun F => ?_⟩
   refine Yj (lV' W s x i F) ⟨⟨?_, rfl, .inl ⟨rfl, ⟨i + 1, h1, hE⟩, C9' h1, [], rfl, rfl, ⟨Ya, Ye⟩, ⟨_, rfl, Yc⟩, Ye⟩⟩⟩
   simp only [ch', h1, e1, bl', true_and, and_true]; and_intros; all_goals first | (with_reducible exact BA' hw) | exact A0' e1 | exact hby | exact A0' ((RD' _ x).trans hd') | exact Kb0'
  | false =>
   have hd' := hd; rw [b5' hg hd] at hE; subst hE
   refine ⟨[(HT', HV')], hBl x i false, [], fun F hF => BT' (E2' hF), fun _ _ => noL, fun F => ?_⟩
   refine Yj (lW' W s x i F) ⟨⟨?_, rfl, .inr ⟨rfl, [], rfl, rfl, ⟨Ya, Ye⟩, ⟨_, rfl, Yc⟩, Ye⟩⟩⟩
   simp only [ch', h1, e1, bl', true_and, and_true]; and_intros; all_goals first | exact A0' e1 | exact hby | exact A0' ((RD' _ x).trans hd') | exact Kb0'
 ·have hie : i = s.size := ω
  rw [iJ' (show (bts s).length <= i by rw [B2']; omega)] at hE; subst hE; rw [hie]
  refine ⟨[(HT', HV')], AD' [hf' fBl 0 9], [], fun F hF => BT' (E2' hF), fun _ _ => noL, fun F => ?_⟩
  refine Yj (lX' W s s.size F) ⟨⟨?_, rfl, .inr ⟨rfl, [], rfl, rfl, ⟨Ya, Ye⟩, ⟨_, rfl, Yc⟩, Ye⟩⟩⟩; exact Cb0'
theorem lBl_ok {W : World} {s : Δ} (hs : Few s.size) {m e : Nat} (hm : m <= s.size) (he : skB (bts s) m = e) (F : HP) (hF : AH' W F) : L1OK Θ F (AA' fBl 0) (lBl s m e) :=
 GN' hF (fun _ => RO.ret _) (fun _ _ => nG' W s hs m e hm he) fun _ => by
  simp only [RT.pick]; exact C4' rfl rfl (A2' rfl A4') (UG' _ _ _) (A2' rfl A4') (UG' _ _ _)
theorem Bl_tri (W : World) (s : Δ) (hs : Few s.size) (m : Nat) (hm : m <= s.size) : Tri Θ W fBl [.ptr 0 0] (oR s m) (.tuple []) (oR s (skB (bts s) m)) := by
 refine AN' (con := []) (hints := B4') (lc := [(fBl, 0, AA' fBl 0, lBl s m (skB (bts s) m))]) [0] rfl (fun F _ => noC) (fun F hF => HS' (lBl_ok hs hm rfl F hF)) fun F => ?_
 refine Yj (oBl_eq W s m _ F) ⟨⟨?_, (AJ' (vs' := [.tuple []]) (H' := oR s (skB (bts s) m)) [] rfl rfl (Yb) ⟨⟨_, rfl, Yc⟩, Ye⟩).fits rfl⟩⟩; exact Cb2'
theorem TC' (a : Nat) : RO (gRS a) := RO.read _ _ fun o => by
 repeat' split
 all_goals exact Kb21'
theorem TD' : ∀ args, RO (gR1 args) := fun args => by
 unfold gR1
 repeat' split
 all_goals first | exact TC' _ | exact RO.fail _
theorem MV' : ∀ args, RO (gR2 args) := fun args => by
 unfold gR2
 repeat' split
 all_goals first | exact TC' _ | exact RO.fail _
theorem Q6' {W : World} (hF : AH' W F) : C1OK Θ F fBl cBl :=
 BF' hF (fun _ => .tuple []) TD' (fun _ => rfl) (fun p hp => Bl_tri W p.s hp.2 p.i hp.1) fun p => ⟨rfl, rfl, ⟨rfl, Ye⟩, UG' _ _ _, ⟨Ye, Ye⟩, UG' _ _ _⟩
set_option maxHeartbeats 4000000 in
theorem MU' (c : Int) (w : World) : Calls Θ 27 #[.int .i64 c] w fun e w' => e = .panicked [{ v := .iface 53 (.agg #[.int .i64 c]), recovered := false }] /\ w' = w := by
 go_enter Tryd.func27, Tryd.ntmps27
 go_wp2
 exact ⟨rfl, rfl, rfl⟩
noncomputable section
abbrev fWd : Nat := 44
abbrev fMo : Nat := 59
abbrev fEm : Nat := 58
abbrev eU' : Nat := 62
def hasP (s t : Δ) : Bool := Lib.hasPrefix s.data.toList t.data.toList
def fA' : List AV -> Option (AP AV) := vC g2s (fun _ => True) (fun p => bv (hasP p.1 p.2))
theorem NU' {W : World} (hF : AH' W F) : C1OK Θ F eU' fA' :=
 VU' hF (fun p => [.string p.1, .string p.2]) (fun p => .bool (hasP p.1 p.2)) TF' (fun p N => vr_v N _) fun p hp w hw =>
  (Tryd.strings_HasPrefix p.1 p.2 w).mono fun e w' ⟨h1, h2⟩ => ⟨h1, by rw [h2]; exact Below.refl _ _⟩
theorem P5' (K : Nat -> Bool) (s : Δ) (i : Nat) : ∀ x ∈ oU s i, x.2.cl K := A2' ⟨Ye, Ye, Ye⟩ (A2' Ye A4')
theorem j2' (K : Nat -> Bool) (s : Δ) (i : Nat) : ∀ x ∈ oX s i, x.2.cl K := A2' ⟨Ye, Ye, Ye⟩ (A2' Ye A4')
theorem clU (s : Δ) (i j : Nat) (A : List AV) (v : AV) (ha : AV.cls (kH (oU s i)) A) (hv : AV.cls (kR (oU s i) (oU s j)) [v]) : ClosedC A (oU s i) [v] (oU s j) := ⟨rfl, rfl, ha, P5' _ _ _, hv, P5' _ _ _⟩
theorem clX (s : Δ) (i j : Nat) (A : List AV) (v : AV) (ha : AV.cls (kH (oU s i)) A) (hv : AV.cls (kR (oU s i) (oX s j)) [v]) : ClosedC A (oU s i) [v] (oX s j) := ⟨rfl, rfl, ha, P5' _ _ _, hv, j2' _ _ _⟩
theorem Gv_tri (W : World) (c : Nat) (hc : c <= 255) : TriU Θ (trb c) W fGv [iv (o' c)] oGive (.tuple []) [(999, K9' .nothing)] :=
 b0' (args := [.int .i64 (o' c)]) rfl ⟨hc, rfl⟩ fun w => MU' _ w
theorem AS' {W : World} (hF : AH' W F) (c : Nat) : C8' Θ (trb c) F fGv (cGv c) :=
 CL' hF (fun args => by
  repeat' split
  all_goals first | exact RO.ret _ | exact RO.fail _) fun n hn => ⟨_, rfl, by obtain ⟨hn, h255⟩ := hn; subst hn; exact Gv_tri W n h255, rfl, rfl, ⟨Ye, Ye⟩, A2' Ye A4', ⟨Ye, Ye⟩, A2' Ye A4'⟩
def CT' (s : Δ) (i : Nat) : Bool := decide (skB (bts s) i = s.size)
def skV (s : Δ) (i : Nat) : AV := byA (bts s) (skB (bts s) i)
theorem U4' (W : World) (s : Δ) (hs : Few s.size) (i : Nat) (hi : i <= s.size) (c : Nat) : (CT' s i = true -> c = 3 -> TriU Θ (trb c) W fNx [.ptr 0 0] (oU s i) (byv 0) (oX s (skB (bts s) i))) /\
  (CT' s i = false -> TriU Θ (trb c) W fNx [.ptr 0 0] (oU s i) (skV s i) (oU s (skB (bts s) i))) := by
 obtain ⟨j, hj⟩ : ∃ j, skB (bts s) i = j := ⟨_, rfl⟩
 have hjl : j <= s.size := by rw [<- hj]; exact fX' hi
 obtain ⟨x, hx⟩ : ∃ x, (bts s).getD j 0 = x := ⟨_, rfl⟩; have hby := RT' hx
 have hcon : ∀ F, AH' W F -> ∀ x ∈ ([(fBl, cBl), (fGv, cGv c)] : CV'), C8' Θ (trb c) F x.1 x.2 := fun F hF => A1' (Q6' hF).up (A1' (AS' hF c) noCU)
 unfold CT' skV byA; rw [hj, hx]
 refine ⟨fun he h3 => ?_, fun he => ?_⟩
 ·have he' : j = s.size := of_decide_eq_true he
  refine A9' [0, 999] rfl hcon (fun _ _ => noLU) fun F => cast (congrArg (VAll _) (gA' (trb c) W s i c x F).symm) ?_
  rw [hj]; refine VAll.ite (fun hb => ⟨⟨?_, AG' (m := .nothing) rfl⟩⟩) (fun hb => ?_)
  ·simp only [ch', hi, hs, h3, bl', true_and, and_true]; and_intros; all_goals first | exact A8' | exact h3.symm | exact Nat.le_of_ble_eq_true rfl | exact Kb0'
  ·rw [he'] at hb; simp at hb
 ·have he' : j < s.size := by have := of_decide_eq_false he; omega
  refine A9' [0, 999] rfl hcon (fun _ _ => noLU) fun F => cast (congrArg (VAll _) (gA' (trb c) W s i c x F).symm) ?_
  rw [hj]
  refine VAll.ite (fun hb => ?_) (fun hb => ⟨⟨?_, ((AJ' (vs' := [byv x]) (H' := oU s j) [] rfl rfl (Yb) ⟨⟨_, rfl, Yc⟩, ⟨_, rfl, Yc⟩, Ye⟩).fits rfl).e⟩⟩)
  ·simp only [beq_iff_eq, Int.ofNat_eq_natCast] at hb; omega
  ·simp only [ch', hi, hs, he', bl', true_and, and_true]; and_intros; all_goals first | exact hby | exact Kb0'
def rtN (s : Δ) (i : Nat) (x : UInt8) : RT := .ite (CT' s i) (.leaf .ret [byv 0] (oX s (skB (bts s) i))) (.leaf .ret [byv x] (oU s (skB (bts s) i)))
structure preN (s : Δ) (i c : Nat) (x : UInt8) : Prop where
 le : i <= s.size
 few : Few s.size
 en : CT' s i = true -> c = 3
 at' : CT' s i = false -> (bts s).getD (skB (bts s) i) 0 = x
def cNx (c : Nat) (x : UInt8) : List AV -> Option (AP AV) := mkC gR1 (fun p => preN p.s p.i c x) nmR (fun _ => [.ptr 0 0]) (fun p => oU p.s p.i) (fun p => rtN p.s p.i x)
theorem hA' {W : World} (hF : AH' W F) (c : Nat) (x : UInt8) : C8' Θ (trb c) F fNx (cNx c x) :=
 CL' hF TD' fun p hp => ⟨fun h => ⟨_, rfl, (U4' W p.s hp.few p.i hp.le c).1 h (hp.en h), clX _ _ _ _ _ ⟨rfl, Ye⟩ ⟨Ye, Ye⟩⟩, fun h => ⟨_, rfl, by
  have := (U4' W p.s hp.few p.i hp.le c).2 h; unfold skV byA at this; rw [hp.at' h] at this
  exact this, clU _ _ _ _ _ ⟨rfl, Ye⟩ ⟨Ye, Ye⟩⟩⟩
abbrev k54' (q0 : Nat) : Cnd := ((p' (231 = q0 /\ 231 <= 255)).a ((vw' [i' 231]).a (f' (OW Ω Ω))))
abbrev k55' : Cnd := ((p' True).a t')
abbrev h56' (q0 : Δ) (q1 : Nat) (q2 : Δ) (z : Cnd) : Cnd := ((ee' (s' q0)).a ((ee' (i' q1)).a (((p' (q1 <= q0.size)).a ((p' (q0.size <= q0.size)).a (f' (Wk (s' (q0.extract q1 q0.size)) (s' q2))))).a z)))
theorem oWd_eq (R : PanT) (W : World) (s w t : Δ) (i j c : Nat) (F : HP) : uRun R [(eU', fA'), (fGv, cGv c)] (AD' [(fWd, 0, 8, h0v (sv t)), (fWd, 2, 6, hv (iv (o' j)))]) [] W fWd [.ptr 0 0, sv w] (oU s i) [0, 999] F = VT.ite (!hasP t w) (VT.leaf (AV.tuple []) [some (ce' [s' s,i' i] 114),some (AO.own Md.nothing noH)] 1100 (h56' s i t (k55'.a ((k54' c).a ((p' (∀ (a b : Nat) (D : Nat -> Prop) (w : World),¬(noH a b).on D w)).a k1'))))) (VT.leaf (AV.tuple []) [some (ce' [s' s,i' j] 114),some Ω] 1100 (h56' s i t (k55'.a ((k12' i).a ((f' (Wk (z' (IntKind.i64.wrap (o' i + ↑w.size))) (i' j))).a (k40'.a k1')))))) := χ
abbrev k57' (q0 : Δ) (q1 q2 : Nat) (q3 : UInt8) : Cnd := ((p' (preN q0 q1 q2 q3)).a ((vw' [AV.ptr 0 0]).a ((ow' (ce' [s' q0,i' q1] 114)).a (f' (OW Ω Ω)))))
abbrev h58' (q0 : Δ) (q1 q2 : Nat) (q3 : UInt8) (q4 : Nat) (z : Cnd) : Cnd := (((p' (preN q0 q1 q2 q3)).a ((vw' [AV.ptr 0 0]).a ((ow' (ce' [s' q0,i' q1] 114)).a (f' (OW Ω Ω))))).a ((ee' (i' (skB (bts q0) q1))).a ((f' (Wk (z' (IntKind.i64.wrap (o' (skB (bts q0) q1) + o' 1))) (i' q4))).a ((fe' true).a z))))
theorem oMo_eq (R : PanT) (W : World) (s : Δ) (i j c : Nat) (x e : UInt8) (F : HP) : uRun R [(fNx, cNx c x), (fGv, cGv c)] (AD' [(fMo, 4, 4, hv (iv (o' j)))]) [] W fMo [.ptr 0 0, byv e] (oU s i) [0, 999] F = VT.ite (CT' s i) (VT.leaf (b' false) [some (ce' [s' s,i' (skB (bts s) i)] 114),some (AO.own Md.nothing noH)] 1100 ((k57' s i c x).a (k49'.a k1'))) (VT.ite (↑x.toNat != o' 44) (VT.ite ((↑x.toNat : Int) != ↑e.toNat) (VT.leaf (b' false) [some (ce' [s' s,i' (skB (bts s) i)] 114),some (AO.own Md.nothing noH)] 1100 ((k57' s i c x).a ((k54' c).a (k49'.a k1')))) (VT.leaf (b' (↑x.toNat == o' 44)) [some (ce' [s' s,i' j] 114),some Ω] 1100 (h58' s i c x j k1'))) (VT.leaf (b' (↑x.toNat == o' 44)) [some (ce' [s' s,i' j] 114),some Ω] 1100 (h58' s i c x j k1'))) := χ
theorem oEm_eq (R : PanT) (W : World) (s : Δ) (i j c : Nat) (x e : UInt8) (F : HP) : uRun R [(fNx, cNx c x)] (AD' [(fEm, 2, 4, hv (iv (o' j)))]) [] W fEm [.ptr 0 0, byv e] (oU s i) [0, 999] F = VT.ite (CT' s i) (VT.leaf (b' false) [some (ce' [s' s,i' (skB (bts s) i)] 114),some (AO.own Md.nothing noH)] 1100 ((k57' s i c x).a (k49'.a k1'))) (VT.ite ((↑x.toNat : Int) == ↑e.toNat) (VT.leaf (b' true) [some (ce' [s' s,i' j] 114),some Ω] 1100 (h58' s i c x j k1')) (VT.leaf (b' false) [some (ce' [s' s,i' (skB (bts s) i)] 114),some Ω] 1100 ((k57' s i c x).a k1'))) := χ
end
theorem aX' (x y : UInt8) : ((x.toNat : Int) == (y.toNat : Int)) = (x == y) := by
 rw [Bool.eq_iff_iff, beq_iff_eq, beq_iff_eq]
 constructor
 ·intro h; exact UInt8.toNat_inj.1 ω
 ·intro h; rw [h]
theorem HF' (x y : UInt8) (n : Nat) (h : n = y.toNat) : ((x.toNat : Int) == o' n) = (x == y) := by subst h; exact aX' x y
theorem u8_ne (x y : UInt8) : ((x.toNat : Int) != (y.toNat : Int)) = (x != y) := by unfold bne; rw [aX']
theorem GC' (x y : UInt8) (n : Nat) (h : n = y.toNat) : ((x.toNat : Int) != o' n) = (x != y) := by unfold bne; rw [HF' x y n h]
theorem ND' {s : Δ} (hs : Few s.size) {i : Nat} (hi : i < s.size) : IntKind.i64.wrap (o' i + o' 1) = o' (i + 1) := EU' hs hi
theorem G4' {s : Δ} {i : Nat} (hi : i <= s.size) (h : CT' s i = false) : skB (bts s) i < s.size := by
 have h1 : skB (bts s) i <= s.size := fX' hi; have h2 := of_decide_eq_false h; omega
theorem GE' {s : Δ} {i : Nat} (h : CT' s i = true) : sgA (bts s) i = none := by
 unfold sgA; rw [of_decide_eq_true h]; exact List.getElem?_eq_none (by rw [B2']; exact Yd)
theorem DV' {s : Δ} {i : Nat} (hi : i <= s.size) (h : CT' s i = false) : sgA (bts s) i = some ((bts s).getD (skB (bts s) i) 0) := G0' (G4' hi h)
section
variable {W : World} {s : Δ} {i c : Nat} {x e : UInt8} {v : AV} {H' : LH}
theorem K7' (hp : preN s i c x) (hc : CT' s i = false -> (x != 44 && x != e) = true -> 231 = c) (hl : CT' s i = false -> (x != 44 && x != e) = false -> v = bv (x == 44) /\ H' = oU s (skB (bts s) i + 1)) :
  TriU Θ (trb c) W fMo [.ptr 0 0, byv e] (oU s i) v H' := by
 obtain ⟨j, hj⟩ : ∃ j, skB (bts s) i + 1 = j := ⟨_, rfl⟩
 refine A9' [0, 999] rfl (fun F hF => A1' (hA' hF c x) (A1' (AS' hF c) noCU)) (fun _ _ => noLU) fun F => cast (congrArg (VAll _) (oMo_eq (trb c) W s i j c x e F).symm) ?_
 rw [GC' x 44 44 rfl, u8_ne, HF' x 44 44 rfl]
 refine VAll.ite (fun h0 => ⟨⟨?_, AG' (m := .nothing) rfl⟩⟩) (fun h0 => VAll.ite (fun h1 => VAll.ite (fun h2 => ⟨⟨?_, AG' (m := .nothing) rfl⟩⟩) (fun h2 => ?_)) (fun h1 => ?_))
 ·exact Cb3'
 ·have h3 := hc h0 (by rw [h1, h2]; rfl); exact Cb3'
 ·obtain ⟨rfl, rfl⟩ := hl h0 (by rw [h2, Bool.and_false]); have hw := ND' hp.few (G4' hp.le h0); rw [hj] at hw ⊢; refine ⟨⟨?_, ((AJ' (vs' := [bv (x == 44)]) (H' := oU s j) [] rfl rfl (Yb) ⟨⟨_, rfl, Yc⟩, ⟨_, rfl, Yc⟩, Ye⟩).fits rfl).e⟩⟩; exact Cb4'
 ·obtain ⟨rfl, rfl⟩ := hl h0 (by rw [h1, Bool.false_and]); have hw := ND' hp.few (G4' hp.le h0); rw [hj] at hw ⊢; refine ⟨⟨?_, ((AJ' (vs' := [bv (x == 44)]) (H' := oU s j) [] rfl rfl (Yb) ⟨⟨_, rfl, Yc⟩, ⟨_, rfl, Yc⟩, Ye⟩).fits rfl).e⟩⟩; exact Cb4'
theorem N7' (hp : preN s i c x) (hl : CT' s i = false -> v = bv (x == e) /\ H' = oU s (if x == e then skB (bts s) i + 1 else skB (bts s) i)) :
  TriU Θ (trb c) W fEm [.ptr 0 0, byv e] (oU s i) v H' := by
 obtain ⟨j, hj⟩ : ∃ j, skB (bts s) i + 1 = j := ⟨_, rfl⟩
 refine A9' [0, 999] rfl (fun F hF => A1' (hA' hF c x) noCU) (fun _ _ => noLU) fun F => cast (congrArg (VAll _) (oEm_eq (trb c) W s i j c x e F).symm) ?_
 rw [aX']; refine VAll.ite (fun h0 => ⟨⟨?_, AG' (m := .nothing) rfl⟩⟩) (fun h0 => VAll.ite (fun h1 => ?_) (fun h1 => ?_))
 ·exact Cb3'
 ·obtain ⟨rfl, rfl⟩ := hl h0; have hw := ND' hp.few (G4' hp.le h0); rw [hj] at hw ⊢; rw [h1]; refine ⟨⟨?_, ((AJ' (vs' := [bv true]) (H' := oU s j) [] rfl rfl (Yb) ⟨⟨_, rfl, Yc⟩, ⟨_, rfl, Yc⟩, Ye⟩).fits rfl).e⟩⟩; exact Cb4'
 ·obtain ⟨rfl, rfl⟩ := hl h0; rw [h1]; refine ⟨⟨?_, ((AJ' (vs' := [bv false]) (H' := oU s (skB (bts s) i)) [] rfl rfl (Yb) ⟨⟨_, rfl, Yc⟩, ⟨_, rfl, Yc⟩, Ye⟩).fits rfl).e⟩⟩; exact Cb3'
theorem N5' {w : Δ} (hs : Few s.size) (hi : i <= s.size) (hc : GB' (bts s) i (bts w) = false -> 231 = c) (hl : GB' (bts s) i (bts w) = true -> v = .tuple [] /\ H' = oU s (i + w.size)) :
  TriU Θ (trb c) W fWd [.ptr 0 0, sv w] (oU s i) v H' := by
 obtain ⟨t, ht⟩ : ∃ t, s.extract i s.size = t := ⟨_, rfl⟩
 have htl : bts t = (bts s).drop i := by
  rw [<- ht]; unfold bts; rw [ByteArray.data_extract, Array.toList_extract]; show List.take (s.data.toList.length - i) _ = _; rw [<- List.length_drop, List.take_length]
 have hpre : hasP t w = GB' (bts s) i (bts w) := by
  unfold hasP GB'; rw [show t.data.toList = (bts s).drop i from htl, show w.data.toList = bts w from rfl, <- Lib.hasPrefix_of_take]
  by_cases h : (bts w).length <= ((bts s).drop i).length
  ·rw [decide_eq_true h, Bool.true_and]
  ·rw [decide_eq_false h, Bool.false_and]; symm; rw [beq_eq_false_iff_ne]; intro he; apply h; rw [<- he, List.length_take]; omega
 refine A9' [0, 999] rfl (fun F hF => A1' (NU' hF).up (A1' (AS' hF c) noCU)) (fun _ _ => noLU) fun F => cast (congrArg (VAll _) (oWd_eq (trb c) W s w t i (i + w.size) c F).symm) ?_
 rw [hpre]; refine VAll.ite (fun h0 => ?_) (fun h0 => ?_)
 ·have h3 := hc (by simpa using h0); refine ⟨⟨?_, AG' (m := .nothing) rfl⟩⟩
  simp only [ch', hi, bl', true_and, and_true]; and_intros; all_goals first | (rw [ht]; exact Ya) | exact Yd | exact Kb9'
 ·have h1 : GB' (bts s) i (bts w) = true := by simpa using h0
  obtain ⟨rfl, rfl⟩ := hl h1
  have hle : i + w.size <= s.size := by
   have h2 : (List.take (bts w).length ((bts s).drop i)) = bts w := by unfold GB' at h1; exact beq_iff_eq.1 h1
   have h3 := congrArg List.length h2; rw [List.length_take, List.length_drop, B2', B2'] at h3; have : w.size = (bts w).length := rfl; omega
  have hw : IntKind.i64.wrap (o' i + (w.size : Int)) = o' (i + w.size) := by
   have hs' := hs; unfold Few at hs'
   rw [show o' i + (w.size : Int) = o' (i + w.size) from by simp]
   exact IntWalk.i64_in _ (by simp only [Z0]; omega)
  refine ⟨⟨?_, ((AJ' (vs' := [.tuple []]) (H' := oU s (i + w.size)) [] rfl rfl (Yb) ⟨⟨_, rfl, Yc⟩, ⟨_, rfl, Yc⟩, Ye⟩).fits rfl).e⟩⟩
  simp only [ch', hi, bl', true_and, and_true]; and_intros; all_goals first | (rw [ht]; exact Ya) | exact Yd | exact BA' hw | exact Kb9'
structure preM (s : Δ) (i c : Nat) (x e : UInt8) : Prop extends preN s i c x where
 syn : CT' s i = false -> (x != 44 && x != e) = true -> 231 = c
structure preW (s : Δ) (i c : Nat) (w : Δ) : Prop where
 le : i <= s.size
 few : Few s.size
 syn : GB' (bts s) i (bts w) = false -> 231 = c
end
end Go.Proofs.YtdphpillcaajpaaDoor.Js
namespace Go.Proofs.YtdphpillcaajpaaDoor.Js.Pu
open Go Go.RowKit Eng Kit
open Int renaming ofNat -> o'
open Go.Value renaming int -> vi'
open AO renaming cells -> ce'
open AV renaming v -> v'
open Go.IntKind renaming u8 -> u8'
open Cnd renaming holds -> ch'
open Nat renaming blt_eq -> bl'
variable {a b n : Nat} {L : Γ}
noncomputable section
def nmEn (a : Nat) : Nat -> Nat := fun k => match Nat.beq k 1000 with
 | true => a
 | false => k
abbrev fPU : Nat := 83
abbrev fPUs : Nat := 90
def u64v (n : Nat) : AV := .v (.int .u64 (o' n))
def u8n (n : Nat) : AV := .v (.int .u8 (o' n))
def aPU (n k i : Nat) : List (Nat × AV) := [(1, iv (o' 16)), (8, bv false), (10, u64v 1152921504606846976), (11, u64v 65535), (12, bv false), (13, u64v n), (99, sB 1000 k), (100, iv (o' k)), (101, iv (o' i))]
def iPU : List Nat := [1, 8, 10, 11, 12, 13, 99, 100, 101, 6, 7]
def hPU (c : UInt8) (l e d m n' i : Nat) (u b1 b2 dg q1 q2 al big : Bool) : AX' := AD' [ht' fPU 36 0, (fPU, 37, 1, hv (byv c)), (fPU, 40, 1, hv (.lit u)), hf' fPU 40 4, (fPU, 42, 1, hv (.lit b1)), (fPU, 42, 4, hv (.lit b2)), (fPU, 42, 5, hv (.lit dg)),
 (fPU, 44, 1, hv (u8n l)), (fPU, 44, 2, hv (.lit q1)), (fPU, 44, 5, hv (u8n l)), (fPU, 44, 6, hv (.lit q2)), (fPU, 44, 7, hv (.lit al)), (fPU, 43, 1, hv (u8n d)), (fPU, 45, 1, hv (u8n l)), (fPU, 45, 2, hv (u8n e)), (fPU, 45, 3, hv (u8n d)), (fPU, 46, 2, hv (u8n 16)), (fPU, 46, 3, hv (.lit big)),
 hf' fPU 48 2, (fPU, 50, 2, hv (u64v 16)), (fPU, 50, 3, hv (u64v m)), (fPU, 51, 2, hv (u64v d)), (fPU, 51, 3, hv (u64v n')), hf' fPU 52 2, hf' fPU 52 6, hf' fPU 52 7, (fPU, 55, 0, hv (iv (o' (i + 1))))]
abbrev _root_.Go.Proofs.YtdphpillcaajpaaDoor.k59' (q0 : Nat) : Cnd := (f' (Wk (z' (IntKind.i64.wrap (o' q0 + o' 1))) (i' (q0 + 1))))
abbrev k60' (q0 : Nat) : Cnd := (wb' (decide (o' q0 > o' 65535)) g')
abbrev k61' (q0 q1 : Nat) : Cnd := (wb' (decide (o' q0 < o' q1)) g')
abbrev k62' (q0 q1 q2 : Nat) : Cnd := (f' (Wk (v' (vi' IntKind.u64 (IntKind.u64.wrap (o' q0 + o' q1)))) (v' (vi' IntKind.u64 (o' q2)))))
abbrev k63' (q0 : Nat) : Cnd := (f' (Wk (v' (vi' IntKind.u64 (IntKind.u64.wrap (o' q0)))) (v' (vi' IntKind.u64 (o' q0)))))
abbrev k64' (q0 q1 : Nat) : Cnd := (f' (Wk (v' (vi' IntKind.u64 (IntKind.u64.wrap (o' q0 * o' 16)))) (v' (vi' IntKind.u64 (o' q1)))))
abbrev k65' : Cnd := (f' (Wk (v' (vi' IntKind.u64 (o' 16))) (v' (vi' IntKind.u64 (o' 16)))))
abbrev k66' (q0 : Nat) : Cnd := (wb' (decide (o' q0 >= o' 1152921504606846976)) g')
abbrev k67' (q0 : Nat) : Cnd := (wb' (decide (o' q0 >= o' 16)) g')
abbrev k68' : Cnd := (f' (Wk (v' (vi' u8' (o' 16))) (v' (vi' u8' (o' 16)))))
abbrev _root_.Go.Proofs.YtdphpillcaajpaaDoor.k69' (q0 q1 : Nat) : Cnd := (wb' (decide (o' q0 < o' q1)) j')
theorem kH' (L : Γ) (c : UInt8) (l e d m n n' k i : Nat) (F : HP) : BU' [] (hPU c l e d m n' i false true true true false false false false) [] default fPU (AA' fPU 36) (tms 0 172 (aPU n k i)) [(1000, rB1 L)] [1000] iPU F = VT.leaf (AX.normal,[i' 16,b' false,v' (vi' IntKind.u64 (o' 1152921504606846976)),v' (vi' IntKind.u64 (o' 65535)),b' false,v' (vi' IntKind.u64 (o' n')),AV.slice 1000 0 k 1 (Cp.lo k),i' k,i' (i + 1),a',a'],172) [some (ce' (rowV encB L) 11)] 1100 ((k69' i k).a ((f' (i.blt k = true)).a (((p' ((0 + i * 1).blt (rowV encB L).length = true)).a ((p' ((rowV encB L).getD (0 + i * 1) (u') = v' (vi' u8' ((rowV encB L).getD (0 + i * 1) (u')).intOf))).a (f' (Wk (v' (vi' u8' ((rowV encB L).getD (0 + i * 1) (u')).intOf)) (v' (vi' u8' ↑c.toNat)))))).a ((nb' c 95).a (k8'.a ((wb' (decide (o' 48 <= ↑c.toNat)) j').a ((k4' c).a (k3'.a ((f' (Wk (v' (vi' u8' (IntKind.u8.wrap (↑c.toNat - o' 48)))) (v' (vi' u8' (o' d))))).a (k68'.a ((k67' d).a ((k66' n).a (k65'.a ((k64' n m).a ((k63' d).a ((k62' m d n').a ((k61' n' m).a ((k60' n').a (k8'.a ((k59' i).a k1')))))))))))))))))))) := χ
abbrev k70' (q0 q1 : Nat) : Cnd := (f' (Wk (v' (vi' u8' (IntKind.u8.wrap (o' q0 + o' 10)))) (v' (vi' u8' (o' q1)))))
abbrev k71' (q0 q1 : Nat) : Cnd := (f' (Wk (v' (vi' u8' (IntKind.u8.wrap (o' q0 - o' 97)))) (v' (vi' u8' (o' q1)))))
abbrev k72' (q0 : UInt8) (q1 : Nat) : Cnd := (f' (Wk (v' (vi' u8' (IntKind.u8.wrap ↑(BitVec.ofInt 8 ↑q0.toNat ||| BitVec.ofInt 8 (o' 32)).toNat))) (v' (vi' u8' (o' q1)))))
abbrev k73' (q0 : Nat) : Cnd := (wb' (decide (o' q0 <= o' 122)) j')
abbrev h74' (q0 q1 : Nat) (q2 : Γ) (q3 : UInt8) (q4 : Nat) (z : Cnd) : Cnd := ((wb' (decide (o' q0 < o' q1)) j').a ((f' (q0.blt q1 = true)).a (((p' ((0 + q0 * 1).blt (rowV encB q2).length = true)).a ((p' ((rowV encB q2).getD (0 + q0 * 1) (u') = v' (vi' u8' ((rowV encB q2).getD (0 + q0 * 1) (u')).intOf))).a (f' (Wk (v' (vi' u8' ((rowV encB q2).getD (0 + q0 * 1) (u')).intOf)) (v' (vi' u8' ↑q3.toNat)))))).a ((nb' q3 95).a ((f' (Wk g' g')).a ((wb' (decide (o' 48 <= ↑q3.toNat)) j').a ((wb' (decide (↑q3.toNat <= o' 57)) g').a ((f' (Wk g' g')).a ((f' (Wk (v' (vi' u8' (IntKind.u8.wrap ↑(BitVec.ofInt 8 ↑q3.toNat ||| BitVec.ofInt 8 (o' 32)).toNat))) (v' (vi' u8' (o' q4))))).a ((wb' (decide (o' 97 <= o' q4)) j').a ((f' (Wk (v' (vi' u8' (IntKind.u8.wrap ↑(BitVec.ofInt 8 ↑q3.toNat ||| BitVec.ofInt 8 (o' 32)).toNat))) (v' (vi' u8' (o' q4))))).a z)))))))))))
theorem kE' (L : Γ) (c : UInt8) (l e d m n n' k i : Nat) (F : HP) : BU' [] (hPU c l e d m n' i false true false false true true true false) [] default fPU (AA' fPU 36) (tms 0 172 (aPU n k i)) [(1000, rB1 L)] [1000] iPU F = VT.leaf (AX.normal,[i' 16,b' false,v' (vi' IntKind.u64 (o' 1152921504606846976)),v' (vi' IntKind.u64 (o' 65535)),b' false,v' (vi' IntKind.u64 (o' n')),AV.slice 1000 0 k 1 (Cp.lo k),i' k,i' (i + 1),a',a'],172) [some (ce' (rowV encB L) 11)] 1100 (h74' i k L c l ((k73' l).a (k3'.a ((k72' c l).a ((k71' l e).a ((k70' e d).a (k68'.a ((k67' d).a ((k66' n).a (k65'.a ((k64' n m).a ((k63' d).a ((k62' m d n').a ((k61' n' m).a ((k60' n').a (k8'.a ((k59' i).a k1'))))))))))))))))) := χ
theorem kF' (L : Γ) (c : UInt8) (l e d m n n' k i : Nat) (F : HP) : BU' [] (hPU c l e d m n' i false true false false true true true true) [] default fPU (AA' fPU 36) (tms 0 172 (aPU n k i)) [(1000, rB1 L)] [1000] iPU F = VT.leaf (AX.ret,[i' 16,b' false,v' (vi' IntKind.u64 (o' 1152921504606846976)),v' (vi' IntKind.u64 (o' 65535)),b' false,v' (vi' IntKind.u64 (o' n)),AV.slice 1000 0 k 1 (Cp.lo k),i' k,i' i,v' (vi' IntKind.u64 (o' 0)),AV.iface 94 (i' 2)],172) [some (ce' (rowV encB L) 11)] 1100 (h74' i k L c l ((k73' l).a (k3'.a ((k72' c l).a ((k71' l e).a ((k70' e d).a (k68'.a ((wb' (decide (o' d >= o' 16)) j').a k1')))))))) := χ
abbrev k75' (q0 : Nat) : Cnd := (wb' (decide (o' 97 <= o' q0)) g')
abbrev h76' (q0 : UInt8) (q1 : Nat) (z : Cnd) : Cnd := ((f' (Wk g' g')).a ((f' (Wk (v' (vi' u8' (IntKind.u8.wrap ↑(BitVec.ofInt 8 ↑q0.toNat ||| BitVec.ofInt 8 (o' 32)).toNat))) (v' (vi' u8' (o' q1))))).a z))
theorem kL' (L : Γ) (c : UInt8) (l e d m n n' k i : Nat) (F : HP) : BU' [] (hPU c l e d m n' i false false false false false false false false) [] default fPU (AA' fPU 36) (tms 0 172 (aPU n k i)) [(1000, rB1 L)] [1000] iPU F = VT.leaf (AX.ret,[i' 16,b' false,v' (vi' IntKind.u64 (o' 1152921504606846976)),v' (vi' IntKind.u64 (o' 65535)),b' false,v' (vi' IntKind.u64 (o' n)),AV.slice 1000 0 k 1 (Cp.lo k),i' k,i' i,v' (vi' IntKind.u64 (o' 0)),AV.iface 94 (i' 2)],172) [some (ce' (rowV encB L) 11)] 1100 ((k69' i k).a ((f' (i.blt k = true)).a (((p' ((0 + i * 1).blt (rowV encB L).length = true)).a ((p' ((rowV encB L).getD (0 + i * 1) (u') = v' (vi' u8' ((rowV encB L).getD (0 + i * 1) (u')).intOf))).a (f' (Wk (v' (vi' u8' ((rowV encB L).getD (0 + i * 1) (u')).intOf)) (v' (vi' u8' ↑c.toNat)))))).a ((nb' c 95).a (k8'.a ((wb' (decide (o' 48 <= ↑c.toNat)) g').a (h76' c l ((k75' l).a (k8'.a k1'))))))))) := χ
theorem kK' (L : Γ) (c : UInt8) (l e d m n n' k i : Nat) (F : HP) : BU' [] (hPU c l e d m n' i false true false false false false false false) [] default fPU (AA' fPU 36) (tms 0 172 (aPU n k i)) [(1000, rB1 L)] [1000] iPU F = VT.leaf (AX.ret,[i' 16,b' false,v' (vi' IntKind.u64 (o' 1152921504606846976)),v' (vi' IntKind.u64 (o' 65535)),b' false,v' (vi' IntKind.u64 (o' n)),AV.slice 1000 0 k 1 (Cp.lo k),i' k,i' i,v' (vi' IntKind.u64 (o' 0)),AV.iface 94 (i' 2)],172) [some (ce' (rowV encB L) 11)] 1100 ((k69' i k).a ((f' (i.blt k = true)).a (((p' ((0 + i * 1).blt (rowV encB L).length = true)).a ((p' ((rowV encB L).getD (0 + i * 1) (u') = v' (vi' u8' ((rowV encB L).getD (0 + i * 1) (u')).intOf))).a (f' (Wk (v' (vi' u8' ((rowV encB L).getD (0 + i * 1) (u')).intOf)) (v' (vi' u8' ↑c.toNat)))))).a ((nb' c 95).a (k8'.a ((wb' (decide (o' 48 <= ↑c.toNat)) j').a ((k9' c).a (k8'.a ((k72' c l).a ((k75' l).a (k8'.a k1'))))))))))) := χ
abbrev k77' (q0 : Nat) : Cnd := (wb' (decide (o' q0 <= o' 122)) g')
theorem kJ' (L : Γ) (c : UInt8) (l e d m n n' k i : Nat) (F : HP) : BU' [] (hPU c l e d m n' i false true false false true false false false) [] default fPU (AA' fPU 36) (tms 0 172 (aPU n k i)) [(1000, rB1 L)] [1000] iPU F = VT.leaf (AX.ret,[i' 16,b' false,v' (vi' IntKind.u64 (o' 1152921504606846976)),v' (vi' IntKind.u64 (o' 65535)),b' false,v' (vi' IntKind.u64 (o' n)),AV.slice 1000 0 k 1 (Cp.lo k),i' k,i' i,v' (vi' IntKind.u64 (o' 0)),AV.iface 94 (i' 2)],172) [some (ce' (rowV encB L) 11)] 1100 (h74' i k L c l ((k77' l).a (k8'.a k1'))) := χ
abbrev _root_.Go.Proofs.YtdphpillcaajpaaDoor.k78' : Cnd := (f' (Wk (b' false) g'))
theorem kI' (L : Γ) (c : UInt8) (l e d m n n' k i : Nat) (F : HP) : BU' [] (hPU c l e d m n' i true true false false true false false false) [] default fPU (AA' fPU 36) (tms 0 172 (aPU n k i)) [(1000, rB1 L)] [1000] iPU F = VT.leaf (AX.ret,[i' 16,b' false,v' (vi' IntKind.u64 (o' 1152921504606846976)),v' (vi' IntKind.u64 (o' 65535)),b' false,v' (vi' IntKind.u64 (o' n)),AV.slice 1000 0 k 1 (Cp.lo k),i' k,i' i,v' (vi' IntKind.u64 (o' 0)),AV.iface 94 (i' 2)],172) [some (ce' (rowV encB L) 11)] 1100 ((k69' i k).a ((f' (i.blt k = true)).a (((p' ((0 + i * 1).blt (rowV encB L).length = true)).a ((p' ((rowV encB L).getD (0 + i * 1) (u') = v' (vi' u8' ((rowV encB L).getD (0 + i * 1) (u')).intOf))).a (f' (Wk (v' (vi' u8' ((rowV encB L).getD (0 + i * 1) (u')).intOf)) (v' (vi' u8' ↑c.toNat)))))).a ((nt' c 95).a (k78'.a ((wb' (decide (o' 48 <= ↑c.toNat)) j').a ((k9' c).a (h76' c l ((wb' (decide (o' 97 <= o' l)) j').a ((k72' c l).a ((k77' l).a (k8'.a k1')))))))))))) := χ
abbrev _root_.Go.Proofs.YtdphpillcaajpaaDoor.k79' (q0 : Nat) : Cnd := (wb' (decide (o' q0 < o' q0)) g')
theorem kG' (L : Γ) (n k : Nat) (F : HP) : BU' [] (AD' [hf' fPU 36 0]) [] default fPU (AA' fPU 36) (tms 0 172 (aPU n k k)) [(1000, rB1 L)] [1000] iPU F = VT.leaf (AX.exit 3,[i' 16,b' false,v' (vi' IntKind.u64 (o' 1152921504606846976)),v' (vi' IntKind.u64 (o' 65535)),b' false,v' (vi' IntKind.u64 (o' n)),AV.slice 1000 0 k 1 (Cp.lo k),i' k,i' k,a',a'],172) [some (ce' (rowV encB L) 11)] 1100 ((k79' k).a k1') := χ
def gPU : List AV -> AP Nat := fun tmps => match getL tmps 99 with
 | .slice a _ _ _ _ => .ret a
 | _ => .fail "digits"
def lPU (L : Γ) (n k : Nat) : List AV -> AP (AX × List AV) := mkL gPU (fun _ => True) nmEn (fun _ => tms 0 172 (aPU 0 k 0)) (fun _ => [(1000, rB1 L)]) (fun _ => .leaf (.exit 3) (tms 0 172 [(12, bv false), (13, u64v n)]) [])
def errI : AV := .iface 94 (.v (.int .i64 (o' 2)))
def lPUx (L : Γ) (k : Nat) : List AV -> AP (AX × List AV) := mkL gPU (fun _ => True) nmEn (fun _ => tms 0 172 (aPU 0 k 0)) (fun _ => [(1000, rB1 L)]) (fun _ => .leaf .ret (tms 0 172 [(6, u64v 0), (7, errI)]) [])
def hPUf (s : Δ) : AX' := AD' [hf' fPU 1 1, (fPU, 3, 1, hv (bv false)), ht' fPU 6 1, ht' fPU 6 4, ht' fPU 6 5, hf' fPU 21 1, hf' fPU 23 1, hf' fPU 23 4, hf' fPU 23 5, hf' fPU 28 0, ht' fPU 30 0, (fPU, 32, 3, hv (u64v 65535)), (fPU, 35, 1, ho 1100 (rB1 s.data.toList)), hf' fPU 56 1, hf' fPU 56 5]
abbrev k80' (q0 : Δ) (q1 : Nat) : Cnd := (p' (OW (ce' (rowV encB q0.data.toList) 11) (ce' (AV.rens (nmEn q1) (rowV encB q0.data.toList)) 11)))
abbrev k81' (q0 : Δ) (q1 q2 : Nat) : Cnd := (p' (VW (s' q0::i' 16::i' 16::u'::u'::u'::v' (vi' IntKind.u64 (o' 0))::v' Value.nilIface::b' false::s' q0::v' (vi' IntKind.u64 (o' 1152921504606846976))::v' (vi' IntKind.u64 (o' 65535))::b' false::v' (vi' IntKind.u64 (o' 0))::ru4 (s' q0::g'::u'::i' 16::b' false::s' q0::u'::j'::i' 16::j'::j'::i' 16::j'::j'::ru16 (ru16 (ru8 (ru4 (i' 16::g'::i' 16::g'::g'::i' 16::g'::g'::u'::i' 16::ru4 (g'::g'::j'::j'::i' 16::v' (vi' IntKind.u64 (o' 16))::v' (vi' IntKind.u64 (o' 65536))::v' (vi' IntKind.u64 (o' 65535))::s' q0::AV.slice q1 0 q0.size 1 (Cp.lo q0.size)::z' ↑q0.size::i' 0::ru16 (ru16 (ru16 (ru16 (ru4 (u'::u'::[])))))))))))) (a'::i' 16::ra4 (a'::a'::b' false::a'::v' (vi' IntKind.u64 (o' 1152921504606846976))::v' (vi' IntKind.u64 (o' 65535))::b' false::v' (vi' IntKind.u64 (o' 0))::ra16 (ra16 (ra16 (ra16 (ra16 (ra4 (a'::AV.slice q1 0 q2 1 (Cp.lo q2)::i' q2::i' 0::ra16 (ra16 (ra16 (ra16 (ra4 (a'::a'::[])))))))))))))))
abbrev k82' (q0 : Δ) : Cnd := (f' (OW (ce' (vmap (List.map (fun b => vi' u8' ↑b.toNat) q0.data.toList)) 11) (ce' (rowV encB q0.data.toList) 11)))
abbrev k83' : Cnd := (f' (Wk (v' (vi' IntKind.u64 (o' 65535))) (v' (vi' IntKind.u64 (o' 65535)))))
abbrev _root_.Go.Proofs.YtdphpillcaajpaaDoor.h84' (z : Cnd) : Cnd := ((f' (Wk (b' false) g')).a ((f' (Wk (b' true) j')).a z))
abbrev _root_.Go.Proofs.YtdphpillcaajpaaDoor.h85' (z : Cnd) : Cnd := ((f' (Wk (b' false) g')).a ((f' (Wk (b' false) g')).a z))
abbrev _root_.Go.Proofs.YtdphpillcaajpaaDoor.k86' : Cnd := (f' (Wk (b' true) j'))
abbrev k87' : Cnd := (f' (Wk (b' false) (b' false)))
theorem oPF_eq (s : Δ) (n k : Nat) (F : HP) : wRun [] (hPUf s) [(fPU, 36, AA' fPU 36, lPU s.data.toList n k)] default fPU [sv s, iv (o' 16), iv (o' 16)] [] [] F = VT.leaf (AV.tuple [v' (vi' IntKind.u64 (o' n)),v' Value.nilIface]) [] 1101 ((wb' (s.toList == []) g').a (k87'.a (k86'.a (k86'.a (k3'.a (h85' (k78'.a (k8'.a (h84' (k83'.a ((k82' s).a ((p' ((fPU,36,AA' fPU 36,lPU s.data.toList n k).snd.snd.fst = (fPU,36,AA' fPU 36,lPU s.data.toList n k).snd.snd.fst)).a (k13'.a ((k81' s 1100 k).a ((k80' s 1100).a (k78'.a (k8'.a k1'))))))))))))))))) := χ
theorem kV' (s : Δ) (k : Nat) (F : HP) : wRun [] (hPUf s) [(fPU, 36, AA' fPU 36, lPUx s.data.toList k)] default fPU [sv s, iv (o' 16), iv (o' 16)] [] [] F = VT.leaf (AV.tuple [v' (vi' IntKind.u64 (o' 0)),AV.iface 94 (i' 2)]) [] 1101 ((wb' (s.toList == []) g').a (k87'.a (k86'.a (k86'.a (k3'.a (h85' (k78'.a (k8'.a (h84' (k83'.a ((k82' s).a ((p' ((fPU,36,AA' fPU 36,lPUx s.data.toList k).snd.snd.fst = (fPU,36,AA' fPU 36,lPUx s.data.toList k).snd.snd.fst)).a (k13'.a ((k81' s 1100 k).a ((k80' s 1100).a k1'))))))))))))))) := χ
def cPUi (s : Δ) (res : AV) : List AV -> Option (AP AV) := mkC (fun _ => .ret ()) (fun _ => True) (fun _ i => i) (fun _ => [sv s, iv (o' 16), iv (o' 16)]) (fun _ => []) (fun _ => .leaf .ret [res] [])
abbrev k88' (q0 : Δ) : Cnd := ((p' True).a (f' (VW [s' q0,i' 16,i' 16] [s' q0,i' 16,i' 16])))
theorem oPS_eq (s : Δ) (n : Nat) (F : HP) : wRun [(fPU, cPUi s (.tuple [u64v n, .v .nilIface]))] (AD' [hf' fPUs 2 1]) [] default fPUs [sv s, iv (o' 16), iv (o' 16)] [] [] F = VT.leaf (AV.tuple [v' (vi' IntKind.u64 (o' n)),v' Value.nilIface]) [] 1100 ((k88' s).a (k78'.a k1')) := χ
abbrev fTE : Nat := 51
abbrev tNum : TypeId := 97
def gTE : List AV -> Option (Δ × Δ)
 | [.v (.string a), .v (.string s), .v (.int .i64 _), .v (.int .i64 _), .iface t (.v (.int .i64 z))] => match Nat.beq t 94 with
  | true => match z with
   | .ofNat k => match Nat.beq k 2 with
    | true => some (a, s)
    | false => none
   | _ => none
  | false => none
 | _ => none
def cTE : List AV -> Option (AP AV) := fun args => match gTE args with
 | some p => some (.need (p.2.size <= 281474976710656) (.ret (.iface tNum .any)))
 | none => some (.fail "toError")
def errV : AV := .tuple [u64v 0, .iface tNum .any]
theorem kU' (W : World) (s : Δ) (F : HP) : wRun [(fPU, cPUi s (.tuple [u64v 0, errI])), (fTE, cTE)] (AD' [ht' fPUs 2 1]) [] W fPUs [sv s, iv (o' 16), iv (o' 16)] [] [] F = VT.leaf (AV.tuple [v' (vi' IntKind.u64 (o' 0)),AV.iface 97 a']) [] 1100 ((k88' s).a (k86'.a ((f' (s.size <= 281474976710656)).a k1'))) := χ
end
structure LW2 (W : World) : Prop extends LW W where
 errS : ∃ te pe, W.cell? ⟨0, 0, none⟩ = some (.iface te pe)
theorem eM' (A : List AV) (p : Δ × Δ) (h : gTE A = some p) : ∃ b c, A = [.v (.string p.1), .v (.string p.2), .v (.int .i64 b), .v (.int .i64 c), .iface 94 (.v (.int .i64 2))] := by
 unfold gTE at h; split at h
 ·rename_i a s b c t z; split at h
  ·rename_i ht; split at h
   ·rename_i k; split at h
    ·rename_i hk; cases h; rw [Nat.eq_of_beq_eq_true ht, Nat.eq_of_beq_eq_true hk]; exact ⟨b, c, rfl⟩
    ·cases h
   ·cases h
  ·cases h
 ·cases h
theorem cTE_ok {W : World} {F : HP} (hW : LW2 W) (hF : AH' W F) : C1OK Θ F fTE cTE := by
 intro st W0 N h0 w A vargs v h' n n' lg lg' c q hp he hc r ha hf; unfold cTE at hp; split at hp
 ·rename_i p hg1; cases hp; obtain ⟨c1, e1, rfl⟩ := AK' he; obtain ⟨rfl, rfl, rfl⟩ := AF' e1; obtain ⟨hpre, hc1⟩ := (Cnd.and_iff _ _).1 hc; obtain ⟨b, d, rfl⟩ := eM' _ _ hg1; obtain ⟨y1, r1, h1, ⟨y2, r2, h2, ⟨y3, r3, h3, ⟨y4, r4, h4, ⟨y5, r5, ⟨z, hz, rfl⟩, rfl, rfl⟩, rfl⟩, rfl⟩, rfl⟩, hl⟩ := (by simpa only [VRs, VR] using ha); subst h1 h2 h3 h4 hz
  have hva : vargs = #[.string p.1, .string p.2, .int .i64 b, .int .i64 d, .iface 94 (.int .i64 2)] := by
   apply Array.ext'; rw [hl]
  subst hva; obtain ⟨D0, D, p1, p2, p3⟩ := r.sat; obtain ⟨te, pe, hev⟩ := hW.errS; have hw : OF' W w := hF D0 w p1; refine (Tryd.strconv_toError_syntax p.1 p.2 b d _ w hpre (hw.cell hev) (.inr ⟨te, pe, rfl⟩)).mono ?_; rintro e w' ⟨N1, rfl, _, _, hb⟩
  refine ⟨_, N, rfl, r.below hb, ?_, fun _ _ => rfl⟩
  simp only [VR]; exact ⟨_, Ye, rfl⟩
 ·cases hp; cases he
theorem u8_in (h : n < 256) : IntKind.u8.wrap (o' n) = o' n := IntWalk.u8_in _ (by simp only [Z0]; omega)
theorem VX' (h : b <= a) (ha : a < 256) : IntKind.u8.wrap (o' a - o' b) = o' (a - b) := by
 have : o' a - o' b = o' (a - b) := by simp only [Z0]; omega
 rw [this, u8_in ω]
theorem fS' (h : a + b < 256) : IntKind.u8.wrap (o' a + o' b) = o' (a + b) := by
 have : o' a + o' b = o' (a + b) := by simp
 rw [this, u8_in h]
theorem bv8 (m : Nat) : (BitVec.ofInt 8 (o' m)).toNat = m % 256 := by
 rw [BitVec.toNat_ofInt]; simp only [Z0]; omega
theorem or_lt : ∀ c : Fin 256, c.1 ||| 32 < 256 := by decide +kernel
theorem SD' (c : UInt8) : IntKind.u8.wrap ↑(BitVec.ofInt 8 ↑c.toNat ||| BitVec.ofInt 8 (o' 32)).toNat = o' (c.toNat ||| 32) := by
 have hc := c.toNat_lt; have h2 := or_lt ⟨c.toNat, hc⟩; rw [BitVec.toNat_or]
 have h1 : (BitVec.ofInt 8 (c.toNat : Int)).toNat = c.toNat := by have := bv8 c.toNat; simp only [Z0] at this; rw [this]; omega
 rw [h1, bv8]; exact u8_in h2
theorem u64_in (h : n < 18446744073709551616) : IntKind.u64.wrap (o' n) = o' n := IntWalk.u64_in _ (by simp only [Z0]; omega)
theorem i8' (h : a * b < 18446744073709551616) : IntKind.u64.wrap (o' a * o' b) = o' (a * b) := by
 have : o' a * o' b = o' (a * b) := by simp
 rw [this, u64_in h]
theorem i9' (h : a + b < 18446744073709551616) : IntKind.u64.wrap (o' a + o' b) = o' (a + b) := by
 have : o' a + o' b = o' (a + b) := by simp
 rw [this, u64_in h]
theorem cls : ∀ c : Fin 256, (c.1 ≠ 95 /\ 48 <= c.1 /\ c.1 <= 57 /\ hexV (UInt8.ofNat c.1) = some (c.1 - 48)) \/
  (c.1 ≠ 95 /\ 57 < c.1 /\ 97 <= c.1 ||| 32 /\ c.1 ||| 32 <= 122 /\ (c.1 ||| 32) - 97 + 10 < 16 /\ hexV (UInt8.ofNat c.1) = some ((c.1 ||| 32) - 97 + 10)) \/
  (c.1 ≠ 95 /\ 57 < c.1 /\ 97 <= c.1 ||| 32 /\ c.1 ||| 32 <= 122 /\ 16 <= (c.1 ||| 32) - 97 + 10 /\ hexV (UInt8.ofNat c.1) = none) \/
  (c.1 ≠ 95 /\ c.1 < 48 /\ c.1 ||| 32 < 97 /\ hexV (UInt8.ofNat c.1) = none) \/
  (c.1 ≠ 95 /\ 57 < c.1 /\ c.1 ||| 32 < 97 /\ hexV (UInt8.ofNat c.1) = none) \/
  (c.1 ≠ 95 /\ 57 < c.1 /\ 97 <= c.1 ||| 32 /\ 122 < c.1 ||| 32 /\ hexV (UInt8.ofNat c.1) = none) \/
  (c.1 = 95 /\ 57 < c.1 /\ 97 <= c.1 ||| 32 /\ 122 < c.1 ||| 32 /\ hexV (UInt8.ofNat c.1) = none) := by decide +kernel
theorem pgtF (h : a <= b) : decide (o' a > o' b) = false := decide_eq_false (by simp only [Z0]; omega)
theorem leT (h : a <= b) : decide ((a : Int) <= (b : Int)) = true := decide_eq_true ω
theorem leF (h : b < a) : decide ((a : Int) <= (b : Int)) = false := decide_eq_false ω
theorem eqT (h : a = b) : ((a : Int) == (b : Int)) = true := by subst h; simp
theorem eqF (h : a ≠ b) : ((a : Int) == (b : Int)) = false := by rw [beq_eq_false_iff_ne]; omega
theorem hexV_lt {c : UInt8} {d : Nat} (h : hexV c = some d) : d < 16 := by
 have key : ∀ c : Fin 256, ∀ d, hexV (UInt8.ofNat c.1) = some d -> d < 16 := by
  intro c d h; unfold hexV at h; split at h
  ·cases h; omega
  ·split at h
   ·cases h; omega
   ·split at h
    ·cases h; omega
    ·cases h
 have := key ⟨c.toNat, c.toNat_lt⟩ d; simp only [UInt8.ofNat_toNat] at this; exact this h
theorem gQ' : ∀ args, RO (gPU args) := by
 intro args; unfold gPU; split
 ·exact RO.ret _
 ·exact RO.fail _
theorem SX' {i k d : Nat} (hk : k = L.length) (h1 : i < k) (hkb : k <= 100) (hd : hexV (L.getD i 0) = some d) (hn : n * 16 + d <= 65535) : ∃ (c : UInt8) (hints : AX'), ∀ F, VAll (fun r os _ => r.2.2 = 172 /\ (r.1 = .normal /\ ∃ l, FitT [1000] iPU r.2.1 os (aPU (n * 16 + d) k (i + 1)) [(1000, rB1 L)] l)) (BU' [] hints [] default fPU (AA' fPU 36) (tms 0 172 (aPU n k i)) [(1000, rB1 L)] [1000] iPU F) := by
 subst hk; have hw := CH' i ω; have e1 := ltTN h1; have g1 := g0' L i h1; have g2 := rB_lt L i h1
 generalize L.getD i 0 = c at *
 have hc := c.toNat_lt; have hl := SD' c; have hd16 := hexV_lt hd; have m1 := i8' (a := n) (b := 16) ω; have m2 := u64_in (n := d) ω; have m3 := i9' (a := n * 16) (b := d) ω; have f1 := geF (a := d) (b := 16) hd16; have f2 := geF (a := n) (b := 1152921504606846976) ω; have f3 := ltF (a := n * 16 + d) (b := n * 16) ω; have f4 := pgtF (a := n * 16 + d) (b := 65535) hn
 generalize n * 16 + d = n' at *
 generalize n * 16 = m at *
 refine ⟨c, ?_⟩
 rcases cls ⟨c.toNat, hc⟩ with h | h | h | h | h | h | h <;> simp only [UInt8.ofNat_toNat] at h
 ·obtain ⟨c0, c1, c2, c3⟩ := h; rw [hd] at c3; have hdd := Option.some.inj c3; have m4 := VX' (a := c.toNat) (b := 48) c1 hc; rw [<- hdd] at m4
  refine ⟨hPU c 0 0 d m n' i false true true true false false false false, fun F => ?_⟩
  refine Yj (kH' L c 0 0 d m n n' L.length i F) ⟨⟨?_, rfl, rfl, [(1000, 1000)], by kernel_rfl, by kernel_rfl, ⟨Ya, Ya, Ya, Ya, Ya, Ya, Ya, Ya, Ya, Ye⟩, ⟨_, rfl, g1' rfl rfl⟩, Ye⟩⟩
  simp only [ch', e1, g1, g2, h1, byv, AV.intOf, bl', true_and, and_true]; and_intros; all_goals first | (with_reducible exact BA' hw) | exact IY' m4 | exact A0' (eqF c0) | exact A0' (leT c1) | exact A0' (leT c2) | exact Kb24'
 ·obtain ⟨c0, c1, c2, c3, c4, c5⟩ := h; rw [hd] at c5; have hdd := Option.some.inj c5
  generalize c.toNat ||| 32 = l at *
  have m4 := VX' (a := l) (b := 97) c2 ω; have m5 := fS' (a := l - 97) (b := 10) ω; rw [<- hdd] at m5
  generalize l - 97 = e at *
  refine ⟨hPU c l e d m n' i false true false false true true true false, fun F => ?_⟩
  refine Yj (kE' L c l e d m n n' L.length i F) ⟨⟨?_, rfl, rfl, [(1000, 1000)], by kernel_rfl, by kernel_rfl, ⟨Ya, Ya, Ya, Ya, Ya, Ya, Ya, Ya, Ya, Ye⟩, ⟨_, rfl, g1' rfl rfl⟩, Ye⟩⟩
  simp only [ch', e1, g1, g2, h1, byv, AV.intOf, bl', true_and, and_true]; and_intros; all_goals first | (with_reducible exact BA' hw) | exact IY' m4 | exact IY' m5 | exact IY' hl | exact A0' (eqF c0) | exact A0' (leT ω) | exact A0' (leF c1) | exact A0' (leT c2) | exact A0' (leT c3) | exact Kb24'
 ·rw [hd] at h; exact absurd h.2.2.2.2.2 (by simp)
 ·rw [hd] at h; exact absurd h.2.2.2 (by simp)
 ·rw [hd] at h; exact absurd h.2.2.2 (by simp)
 ·rw [hd] at h; exact absurd h.2.2.2.2 (by simp)
 ·rw [hd] at h; exact absurd h.2.2.2.2 (by simp)
theorem VAll.mono {α : Type} {Q Q' : α -> List (Option AO) -> Nat -> Prop} {v : VT α} (h : VAll Q v) (hq : ∀ a os n, Q a os n -> Q' a os n) : VAll Q' v := ⟨VT.all_mono hq h.out⟩
theorem pu_bad {i k : Nat} (hk : k = L.length) (h1 : i < k) (hkb : k <= 100) (hd : hexV (L.getD i 0) = none) : ∃ (hints : AX'), ∀ F, VAll (fun r os _ => r.2.2 = 172 /\ (r.1 = .ret /\ ∃ l, FitT [1000] iPU r.2.1 os [(6, u64v 0), (7, errI)] [] l)) (BU' [] hints [] default fPU (AA' fPU 36) (tms 0 172 (aPU n k i)) [(1000, rB1 L)] [1000] iPU F) := by
 subst hk; have e1 := ltTN h1; have g1 := g0' L i h1; have g2 := rB_lt L i h1
 generalize L.getD i 0 = c at *
 have hc := c.toNat_lt; have hl := SD' c; have ho := or_lt ⟨c.toNat, hc⟩; simp only at ho
 rcases cls ⟨c.toNat, hc⟩ with h | h | h | h | h | h | h <;> simp only [UInt8.ofNat_toNat] at h
 ·rw [hd] at h; exact absurd h.2.2.2 (by simp)
 ·rw [hd] at h; exact absurd h.2.2.2.2.2 (by simp)
 ·obtain ⟨c0, c1, c2, c3, c4, c5⟩ := h
  generalize c.toNat ||| 32 = l at *
  have m4 := VX' (a := l) (b := 97) c2 ho; have m5 := fS' (a := l - 97) (b := 10) ω
  generalize hd' : l - 97 + 10 = d at *
  generalize l - 97 = e at *
  have f1 := geT (a := d) (b := 16) c4
  refine ⟨hPU c l e d 0 0 i false true false false true true true true, fun F => ?_⟩
  refine Yj (kF' L c l e d 0 n 0 L.length i F) ⟨⟨?_, rfl, rfl, [], by kernel_rfl, by kernel_rfl, ⟨Ya, Ya, Ye⟩, Ye⟩⟩
  simp only [ch', e1, g1, g2, h1, byv, AV.intOf, bl', true_and, and_true]; and_intros; all_goals first | exact IY' m4 | exact IY' m5 | exact IY' hl | exact A0' (eqF c0) | exact A0' (leT ω) | exact A0' (leF c1) | exact A0' (leT c2) | exact A0' (leT c3) | exact A0' f1 | exact Kb0'
 ·obtain ⟨c0, c1, c2, c3⟩ := h
  generalize c.toNat ||| 32 = l at *
  refine ⟨hPU c l 0 0 0 0 i false false false false false false false false, fun F => ?_⟩
  refine Yj (kL' L c l 0 0 0 n 0 L.length i F) ⟨⟨?_, rfl, rfl, [], by kernel_rfl, by kernel_rfl, ⟨Ya, Ya, Ye⟩, Ye⟩⟩
  simp only [ch', e1, g1, g2, h1, byv, AV.intOf, bl', true_and, and_true]; and_intros; all_goals first | exact IY' hl | exact A0' (eqF c0) | exact A0' (leF c1) | exact A0' (leF c2) | exact Kb0'
 ·obtain ⟨c0, c1, c2, c3⟩ := h
  generalize c.toNat ||| 32 = l at *
  refine ⟨hPU c l 0 0 0 0 i false true false false false false false false, fun F => ?_⟩
  refine Yj (kK' L c l 0 0 0 n 0 L.length i F) ⟨⟨?_, rfl, rfl, [], by kernel_rfl, by kernel_rfl, ⟨Ya, Ya, Ye⟩, Ye⟩⟩
  simp only [ch', e1, g1, g2, h1, byv, AV.intOf, bl', true_and, and_true]; and_intros; all_goals first | exact IY' hl | exact A0' (eqF c0) | exact A0' (leT ω) | exact A0' (leF c1) | exact A0' (leF c2) | exact Kb0'
 ·obtain ⟨c0, c1, c2, c3, c4⟩ := h
  generalize c.toNat ||| 32 = l at *
  refine ⟨hPU c l 0 0 0 0 i false true false false true false false false, fun F => ?_⟩
  refine Yj (kJ' L c l 0 0 0 n 0 L.length i F) ⟨⟨?_, rfl, rfl, [], by kernel_rfl, by kernel_rfl, ⟨Ya, Ya, Ye⟩, Ye⟩⟩
  simp only [ch', e1, g1, g2, h1, byv, AV.intOf, bl', true_and, and_true]; and_intros; all_goals first | exact IY' hl | exact A0' (eqF c0) | exact Kb32'
 ·obtain ⟨c0, c1, c2, c3, c4⟩ := h
  generalize c.toNat ||| 32 = l at *
  refine ⟨hPU c l 0 0 0 0 i true true false false true false false false, fun F => ?_⟩
  refine Yj (kI' L c l 0 0 0 n 0 L.length i F) ⟨⟨?_, rfl, rfl, [], by kernel_rfl, by kernel_rfl, ⟨Ya, Ya, Ye⟩, Ye⟩⟩
  simp only [ch', e1, g1, g2, h1, byv, AV.intOf, bl', true_and, and_true]; and_intros; all_goals first | exact IY' hl | exact A0' (eqT c0) | exact Kb32'
def pref (L : Γ) (i : Nat) : Option Nat := CG' (L.take i) 0
theorem MT' : ∀ (l r : Γ) (n : Nat), CG' (l ++ r) n = (CG' l n).bind (CG' r)
 | [], r, n => rfl
 | c :: l, r, n => by
  rw [List.cons_append, CG', CG']
  cases hexV c with
  | none => rfl
  | some d => exact MT' l r _
theorem GJ' (L : Γ) (i : Nat) (h : i < L.length) : pref L (i + 1) = (pref L i).bind fun n => (hexV (L.getD i 0)).map fun d => n * 16 + d := by
 unfold pref; rw [W4' L 0 i h, MT']
 congr 1
 funext n; rw [CG']
 cases hexV (L.getD i 0) <;> rfl
theorem GK' {L : Γ} (h2 : L.length = 4) : ∀ i n, i <= 4 -> pref L i = some n -> n < 16 ^ i
 | 0, n, _, h => by simp [pref, CG'] at h; subst h; decide
 | i + 1, n, hi, h => by
  rw [GJ' L i ω] at h
  cases hp : pref L i with
  | none => rw [hp] at h; cases h
  | some m =>
   rw [hp] at h; simp only [Option.bind_some] at h
   cases hv : hexV (L.getD i 0) with
   | none => rw [hv] at h; cases h
   | some d =>
    rw [hv] at h; have : m * 16 + d = n := Option.some.inj h; have h1 := GK' h2 i m ω hp; have h3 := hexV_lt hv; rw [Nat.pow_succ]; omega
theorem iS' (h2 : L.length = 4) {N : Nat} (hN : pref L 4 = some N) :
  LTri Θ default (AA' fPU 36) (tms 0 172 (aPU 0 4 0)) [(1000, rB1 L)] (.exit 3) (tms 0 172 [(12, bv false), (13, u64v N)]) [] := by
 refine CC' (W := default) (g := fPU) (b := AA' fPU 36) (σ := {q : Nat × Nat // q.1 <= 4 /\ pref L q.1 = some q.2}) 172 (fun q => aPU q.1.2 4 q.1.1) (fun q => [(1000, rB1 L)]) (.exit 3) _ [] (fun q => 4 - q.1.1) [1000] iPU (by intro h; cases h) (fun _ => rfl) rfl ?_ ⟨(0, 0), Nat.zero_le _, rfl⟩; rintro ⟨⟨i, n⟩, hi, hp⟩; simp only at hi hp; simp only
 by_cases h1 : i < 4
 ·have hn := GK' h2 i n hi hp
  cases hv : hexV (L.getD i 0) with
  | none =>
   have h3 : pref L (i + 1) = none := by rw [GJ' L i ω, hp, hv]; rfl
   have hall : ∀ j, i + 1 <= j -> j <= 4 -> pref L j = none := by
    intro j h1 h2
    induction j with
    | zero => omega
    | succ j ih =>
     by_cases he : i + 1 = j + 1
     ·rw [<- he]; exact h3
     ·rw [GJ' L j ω, ih ω ω]; rfl
   rw [hall 4 ω (Yd)] at hN; cases hN
  | some d =>
   have h3 : pref L (i + 1) = some (n * 16 + d) := by rw [GJ' L i ω, hp, hv]; rfl
   have hb := GK' h2 (i + 1) _ ω h3
   have hb2 : n * 16 + d <= 65535 := by
    have h16 : (16 : Nat) ^ (i + 1) <= 16 ^ 4 := Nat.pow_le_pow_right δ ω; have : (16 : Nat) ^ 4 = 65536 := rfl; omega
   obtain ⟨c, hints, hh⟩ := SX' (L := L) (n := n) (i := i) (k := 4) (d := d) h2.symm h1 δ hv hb2
   refine ⟨[], hints, [], fun _ _ => noC, fun _ _ => noL, fun F => VAll.mono (hh F) ?_⟩
   rintro r os m ⟨q1, q2, l, q3⟩
   exact ⟨q1, .inl ⟨q2, ⟨(i + 1, n * 16 + d), h1, h3⟩, by show 4 - (i + 1) < 4 - i; omega, l, q3⟩⟩
 ·have hie : i = 4 := ω
  subst hie; rw [hN] at hp; have hn := Option.some.inj hp; subst hn
  refine ⟨[], AD' [hf' fPU 36 0], [], fun _ _ => noC, fun _ _ => noL, fun F => ?_⟩
  refine Yj (kG' L N 4 F) ⟨⟨?_, rfl, .inr ⟨rfl, [], by kernel_rfl, by kernel_rfl, ⟨Ya, Ya, Ye⟩, Ye⟩⟩⟩
  simp only [ch', and_true]; exact A0' (ltFN (Yd))
theorem bC' (h2 : L.length = 4) (hN : pref L 4 = none) :
  LTri Θ default (AA' fPU 36) (tms 0 172 (aPU 0 4 0)) [(1000, rB1 L)] .ret (tms 0 172 [(6, u64v 0), (7, errI)]) [] := by
 refine CC' (W := default) (g := fPU) (b := AA' fPU 36) (σ := {q : Nat × Nat // q.1 <= 4 /\ pref L q.1 = some q.2}) 172 (fun q => aPU q.1.2 4 q.1.1) (fun q => [(1000, rB1 L)]) .ret _ [] (fun q => 4 - q.1.1) [1000] iPU (by intro h; cases h) (fun _ => rfl) rfl ?_ ⟨(0, 0), Nat.zero_le _, rfl⟩; rintro ⟨⟨i, n⟩, hi, hp⟩; simp only at hi hp; simp only
 by_cases h1 : i < 4
 ·have hn := GK' h2 i n hi hp
  cases hv : hexV (L.getD i 0) with
  | none =>
   obtain ⟨hints, hh⟩ := pu_bad (L := L) (n := n) (i := i) (k := 4) h2.symm h1 δ hv
   refine ⟨[], hints, [], fun _ _ => noC, fun _ _ => noL, fun F => VAll.mono (hh F) ?_⟩
   rintro r os m ⟨q1, q2, l, q3⟩; exact ⟨q1, .inr ⟨q2, l, q3⟩⟩
  | some d =>
   have h3 : pref L (i + 1) = some (n * 16 + d) := by rw [GJ' L i ω, hp, hv]; rfl
   have hb := GK' h2 (i + 1) _ ω h3
   have hb2 : n * 16 + d <= 65535 := by
    have h16 : (16 : Nat) ^ (i + 1) <= 16 ^ 4 := Nat.pow_le_pow_right δ ω; have : (16 : Nat) ^ 4 = 65536 := rfl; omega
   obtain ⟨c, hints, hh⟩ := SX' (L := L) (n := n) (i := i) (k := 4) (d := d) h2.symm h1 δ hv hb2
   refine ⟨[], hints, [], fun _ _ => noC, fun _ _ => noL, fun F => VAll.mono (hh F) ?_⟩
   rintro r os m ⟨q1, q2, l, q3⟩
   exact ⟨q1, .inl ⟨q2, ⟨(i + 1, n * 16 + d), h1, h3⟩, by show 4 - (i + 1) < 4 - i; omega, l, q3⟩⟩
 ·have hie : i = 4 := ω
  subst hie; rw [hN] at hp; cases hp
theorem hK' (L : Γ) (n k i : Nat) : ∀ x ∈ aPU n k i, AV.cl (kH [(1000, rB1 L)]) x.2 :=
 A2' Ye (A2' Ye (A2' Ye (A2' Ye (A2' Ye (A2' Ye (A2' rfl (A2' Ye (A2' Ye A4'))))))))
theorem e0' {s : Δ} (h : s.size = 4) : (s.toList == []) = false := by
 rw [beq_eq_false_iff_ne, LP']; intro e; have := congrArg List.length e; rw [nH', h] at this; cases this
theorem nS' (s : Δ) (h2 : s.size = 4) (res : AV) (hr : res = match pref s.data.toList 4 with | some n => .tuple [u64v n, .v .nilIface] | none => .tuple [u64v 0, errI]) : Tri Θ default fPU [sv s, iv (o' 16), iv (o' 16)] [] res [] := by
 have hl : s.data.toList.length = 4 := h2; have hne := e0' h2
 cases hp : pref s.data.toList 4 with
 | some n =>
  rw [hp] at hr; subst hr
  refine AN' (con := []) (hints := hPUf s) (lc := [(fPU, 36, AA' fPU 36, lPU s.data.toList n 4)]) [] rfl (fun F _ => noC) (fun F _ => HS' (GN' (W := default) GM' gQ' (fun _ _ => iS' hl hp) fun _ => by
   simp only [RT.pick]
   exact C4' rfl rfl (hK' _ _ _ _) (A2' (g2' _ _) A4') (A2' Ye (A2' Ye A4')) A4')) fun F => ?_
  refine Yj (oPF_eq s n 4 F) ⟨⟨?_, (AJ' (vs' := [.tuple [u64v n, .v .nilIface]]) (H' := []) [] rfl rfl (Yb) trivial).fits rfl⟩⟩; exact Cb5'
 | none =>
  rw [hp] at hr; subst hr
  refine AN' (con := []) (hints := hPUf s) (lc := [(fPU, 36, AA' fPU 36, lPUx s.data.toList 4)]) [] rfl (fun F _ => noC) (fun F _ => HS' (GN' (W := default) GM' gQ' (fun _ _ => bC' hl hp) fun _ => by
   simp only [RT.pick]
   exact C4' rfl rfl (hK' _ _ _ _) (A2' (g2' _ _) A4') (A2' Ye (A2' Ye A4')) A4')) fun F => ?_
  refine Yj (kV' s 4 F) ⟨⟨?_, (AJ' (vs' := [.tuple [u64v 0, errI]]) (H' := []) [] rfl rfl (Yb) trivial).fits rfl⟩⟩; exact Cb5'
noncomputable def puV (s : Δ) : AV := match pref s.data.toList 4 with
 | some n => .tuple [u64v n, .v .nilIface]
 | none => errV
theorem PU_tri {W : World} (hW : LW2 W) (s : Δ) (h2 : s.size = 4) : Tri Θ W fPUs [sv s, iv (o' 16), iv (o' 16)] [] (puV s) [] := by
 have hi := nS' s h2 _ rfl; unfold puV
 cases hp : pref s.data.toList 4 with
 | some n =>
  rw [hp] at hi; simp only at hi
  have key : Tri Θ default fPUs [sv s, iv (o' 16), iv (o' 16)] [] (.tuple [u64v n, .v .nilIface]) [] := by
   refine AN' (con := [(fPU, cPUi s (.tuple [u64v n, .v .nilIface]))]) (hints := AD' [hf' fPUs 2 1]) (lc := []) [] rfl (fun F _ => BT' (BF' (W := default) GM' (fun _ => .tuple [u64v n, .v .nilIface]) (fun _ => RO.ret _) (fun _ => rfl) (fun _ _ => hi) fun _ => ⟨rfl, rfl, ⟨Ye, Ye, Ye, Ye⟩, A4', ⟨⟨Ye, Ye, Ye⟩, Ye⟩, A4'⟩)) (fun F _ => noL) fun F => ?_
   refine Yj (oPS_eq s n F) ⟨⟨?_, (AJ' (vs' := [.tuple [u64v n, .v .nilIface]]) (H' := []) [] rfl rfl (Yb) trivial).fits rfl⟩⟩; exact Cb2'
  exact fun W0 F N w vargs hF => key W0 F N w vargs (AH'.nothing F)
 | none =>
  rw [hp] at hi; simp only at hi
  refine AN' (con := [(fPU, cPUi s (.tuple [u64v 0, errI])), (fTE, cTE)]) (hints := AD' [ht' fPUs 2 1]) (lc := []) [] rfl (fun F hF => AP' (BF' (W := default) GM' (fun _ => .tuple [u64v 0, errI]) (fun _ => RO.ret _) (fun _ => rfl) (fun _ _ => hi) fun _ => ⟨rfl, rfl, ⟨Ye, Ye, Ye, Ye⟩, A4', ⟨⟨Ye, Ye, Ye⟩, Ye⟩, A4'⟩) (BT' (cTE_ok hW hF))) (fun F _ => noL) fun F => ?_
  refine Yj (kU' W s F) ⟨⟨?_, (AJ' (vs' := [errV]) (H' := []) [] rfl rfl (Yb) trivial).fits rfl⟩⟩
  have q1 : s.size <= 281474976710656 := ω
  simp only [ch', q1, bl', true_and, and_true]; and_intros; all_goals exact Kb0'
end Go.Proofs.YtdphpillcaajpaaDoor.Js.Pu
namespace Go.Proofs.YtdphpillcaajpaaDoor.Js.Ca
open Go Go.RowKit
def pmu : Δ := ⟨#[43, 45, 95]⟩
theorem C1' {B : Nat} {a w : World} (h : Below B a w) : Below B a w.drew := ⟨h.os, h.tape, h.output, h.size, h.block⟩
set_option maxHeartbeats 1000000 in
theorem SC' (r : Int) (h0 : 0 <= r) (h1 : r < 55296) (w : World) : Calls Θ 80 #[.int .i32 r] w fun e w' => e = .returned (.bool true) /\ w' = w := by
 have e1 : decide ((0 : Int) <= r) = true := decide_eq_true h0; have e2 : decide (r < (55296 : Int)) = true := decide_eq_true h1
 go_enter Tryd.func80, Tryd.ntmps80
 go_wp2
 go_ret
 exact ⟨rfl, rfl⟩
set_option maxHeartbeats 1000000 in
theorem VP' (r : Int) (h0 : 57343 < r) (h1 : r <= 1114111) (w : World) : Calls Θ 80 #[.int .i32 r] w fun e w' => e = .returned (.bool true) /\ w' = w := by
 have e1 : decide ((0 : Int) <= r) = true := decide_eq_true ω; have e2 : decide (r < (55296 : Int)) = false := decide_eq_false ω; have e3 : decide ((57343 : Int) < r) = true := decide_eq_true h0; have e4 : decide (r <= (1114111 : Int)) = true := decide_eq_true h1
 go_enter Tryd.func80, Tryd.ntmps80
 go_wp2
 go_ret
 exact ⟨rfl, rfl⟩
theorem fO' (r : Int) (h : Utf8.valid r = true) (w : World) : Calls Θ 80 #[.int .i32 r] w fun e w' => e = .returned (.bool true) /\ w' = w := by
 unfold Utf8.valid at h; simp only [Bool.or_eq_true, Bool.and_eq_true, decide_eq_true_eq] at h
 rcases h with h | h
 ·exact SC' r ω ω w
 ·exact VP' r ω ω w
set_option maxHeartbeats 4000000 in
theorem ir_two (r : Int) (h0 : 128 <= r) (h1 : r <= 2047) (w : World) (s2 : Δ) (he : Utf8.encode r = s2) (x y : UInt8) (hs : s2 = ⟨#[y, x]⟩) (hx : 128 <= x.toNat) : Calls Θ 65 #[.string pmu, .int .i32 r] w fun e w' => e = .returned (.int .i64 (-1)) /\ Below w.heap.size w w' := by
 have e1 : decide ((0 : Int) <= r) = true := decide_eq_true ω; have e2 : decide (r < (128 : Int)) = false := decide_eq_false ω; have e3 : (r == (65533 : Int)) = false := beq_eq_false_iff_ne.2 ω; subst hs; have hp : pmu.size = 3 := rfl; have hne : ((45 : Int) == (x.toNat : Int)) = false := beq_eq_false_iff_ne.2 ω; have hne3 : (((45 : Nat) : Int) == (x.toNat : Int)) = false := hne
 have hne2 : ((45 : Int) != (x.toNat : Int)) = true := by rw [bne, hne]; rfl
 have hp1 : pmu.data[1]? = some 45 := rfl; have hs2 : (ByteArray.mk #[y, x]).size = 2 := rfl
 go_enter Tryd.func65, Tryd.ntmps65
 go_wp2_with (go_at_call 80; refine (SC' _ ω ω _).mono ?_; rintro e w' ⟨rfl, rfl⟩)
 apply wp_scope_straight
 go_wp2
 refine wp_loop_rounds 1 ?_; rw [rounds_succ]
 go_wp2
 apply wp_scope_straight
 go_wp2
 go_region
 have q1 : (pmu[1]'δ).toNat = 45 := rfl; have q2 : (ByteArray.mk #[y, x])[1]'(Nat.lt_succ_self 1) = x := rfl; simp only [q1, q2]
 go_wp2
 have q3 : Lib.indexByte (List.take 1 (List.drop 2 pmu.data.toList)) x = -1 := by
  have hx1 : x ≠ 95 := fun e => by rw [e] at hx; exact absurd hx δ
  show Lib.indexByte [95] x = -1; simp [Lib.indexByte, Ne.symm hx1]
 go_region_with (go_at_call 45; refine (Tryd.strings_IndexByte _ _ _).mono ?_; rintro e w' ⟨rfl, rfl⟩)
 go_wp2
 all_goals
  simp only [Exit.noGoto_ret, Exit.inBlock, Exit.then]
  go_ret
  first
   | exact ⟨rfl, C1' (C1' (Below.refl _ _))⟩
   | exact ⟨rfl, C1' (Below.refl _ _)⟩
set_option maxHeartbeats 4000000 in
theorem eB' (r : Int) (h0 : 128 <= r) (hv : Utf8.valid r = true) (hne65 : r ≠ 65533) (w : World) (s2 : Δ) (he : Utf8.encode r = s2) (x y z : UInt8) (hs : s2 = ⟨#[z, y, x]⟩) (hx : 128 <= x.toNat) : Calls Θ 65 #[.string pmu, .int .i32 r] w fun e w' => e = .returned (.int .i64 (-1)) /\ Below w.heap.size w w' := by
 have e1 : decide ((0 : Int) <= r) = true := decide_eq_true ω; have e2 : decide (r < (128 : Int)) = false := decide_eq_false ω; have e3 : (r == (65533 : Int)) = false := beq_eq_false_iff_ne.2 hne65; subst hs; have hp : pmu.size = 3 := rfl; have hne : ((95 : Int) == (x.toNat : Int)) = false := beq_eq_false_iff_ne.2 ω; have hne3 : (((95 : Nat) : Int) == (x.toNat : Int)) = false := hne
 have hne2 : ((95 : Int) != (x.toNat : Int)) = true := by rw [bne, hne]; rfl
 have hp1 : pmu.data[2]? = some 95 := rfl; have hs2 : (ByteArray.mk #[z, y, x]).size = 3 := rfl
 go_enter Tryd.func65, Tryd.ntmps65
 go_wp2_with (go_at_call 80; refine (fO' _ hv _).mono ?_; rintro e w' ⟨rfl, rfl⟩)
 apply wp_scope_straight
 go_wp2
 refine wp_loop_rounds 1 ?_; rw [rounds_succ]
 go_wp2
 apply wp_scope_straight
 go_wp2
 go_region
 have q1 : (pmu[2]'δ).toNat = 95 := rfl; have q2 : (ByteArray.mk #[z, y, x])[2]'(Nat.lt_succ_self 2) = x := rfl; simp only [q1, q2]
 go_wp2
 have q3 : Lib.indexByte (List.take 0 (List.drop 3 pmu.data.toList)) x = -1 := by
  show Lib.indexByte [] x = -1; simp [Lib.indexByte]
 go_region_with (go_at_call 45; refine (Tryd.strings_IndexByte _ _ _).mono ?_; rintro e w' ⟨rfl, rfl⟩)
 go_wp2
 all_goals
  simp only [Exit.noGoto_ret, Exit.inBlock, Exit.then]
  go_ret
  first
   | exact ⟨rfl, C1' (C1' (Below.refl _ _))⟩
   | exact ⟨rfl, C1' (Below.refl _ _)⟩
set_option maxHeartbeats 4000000 in
theorem mC' (r : Int) (h0 : 128 <= r) (hv : Utf8.valid r = true) (hne65 : r ≠ 65533) (w : World) (s2 : Δ) (he : Utf8.encode r = s2) (hs : s2.size = 4) : Calls Θ 65 #[.string pmu, .int .i32 r] w fun e w' => e = .returned (.int .i64 (-1)) /\ Below w.heap.size w w' := by
 have e1 : decide ((0 : Int) <= r) = true := decide_eq_true ω; have e2 : decide (r < (128 : Int)) = false := decide_eq_false ω; have e3 : (r == (65533 : Int)) = false := beq_eq_false_iff_ne.2 hne65; have hp : pmu.size = 3 := rfl
 go_enter Tryd.func65, Tryd.ntmps65
 go_wp2_with (go_at_call 80; refine (fO' _ hv _).mono ?_; rintro e w' ⟨rfl, rfl⟩)
 apply wp_scope_straight
 go_wp2
 refine wp_loop_rounds 1 ?_; rw [rounds_succ]
 go_wp2
 all_goals
  simp only [Exit.noGoto_ret, Exit.inBlock, Exit.then]
  go_ret
  first
   | exact ⟨rfl, C1' (C1' (Below.refl _ _))⟩
   | exact ⟨rfl, C1' (Below.refl _ _)⟩
   | exact ⟨rfl, Below.refl _ _⟩
set_option maxHeartbeats 4000000 in
theorem ir_err (w : World) : Calls Θ 65 #[.string pmu, .int .i32 65533] w fun e w' => e = .returned (.int .i64 (-1)) /\ Below w.heap.size w w' := by
 have hp : pmu.size = 3 := rfl
 go_enter Tryd.func65, Tryd.ntmps65
 go_wp2
 go_loopg [5, 6] 3 (fun g _ _ wx => ∃ i : Nat, i + g = 3 /\ wx = w.iter pmu i)
 case atStart => exact ⟨0, rfl, rfl⟩
 case round =>
  obtain ⟨i, hig, rfl⟩ := hrel
  cases gk with
  | zero =>
   obtain rfl : i = 3 := ω
   have hnx := run_next_end (P := Θ) w pmu 3
   go_wp2
   go_ret
   exact ⟨rfl, (Below.refl _ _).alloc (Yd) _⟩
  | succ g =>
   have hi : i < pmu.size := ω
   obtain ⟨x, hx⟩ : ∃ x : UInt8, pmu[i]'hi = x := ⟨_, rfl⟩
   have hx128 : x.toNat < 128 := by
    have : i = 0 \/ i = 1 \/ i = 2 := ω
    rcases this with rfl | rfl | rfl <;> (subst hx; show _ < 128; first | exact (by decide : (43 : UInt8).toNat < 128) | exact (by decide : (45 : UInt8).toNat < 128) | exact (by decide : (95 : UInt8).toNat < 128))
   have hnx := fun ty => run_next_ascii (P := Θ) w pmu i ty hi (by rw [hx]; exact hx128)
   rw [hx] at hnx; have hne : ((x.toNat : Int) == 65533) = false := beq_eq_false_iff_ne.2 ω
   go_wp2
   go_roundg g
   case measure => omega
   case rel => exact ⟨i + 1, by omega, rfl⟩
def caB (s : Δ) : Bool := s.data.toList.any fun c => c == 43 || c == 45 || c == 95
theorem TB' (s : Δ) (i : Nat) (h : i < s.size) : s.get! i = s[i]'h := by
 simp [ByteArray.get!, ByteArray.getElem_eq_getElem_data, Array.getElem!_eq_getD, h]
theorem dec4 (s : Δ) (i : Nat) (hi : i < s.size) (hx : 128 <= (s[i]'hi).toNat) :
  Utf8.decode s i = (65533, 1) \/ ∃ r n : Nat, Utf8.decode s i = (r, n) /\ 128 <= r /\ Utf8.valid (r : Int) = true /\ 2 <= n /\ n <= 4 /\ i + n <= s.size /\ ∀ k (hk : i + k < s.size), 1 <= k -> k < n -> 128 <= (s[i + k]'hk).toNat := by
 have hb := (s[i]'hi).toNat_lt
 have h0 : (s.get! (i + 0)).toNat = (s[i]'hi).toNat := by rw [Nat.add_zero, TB' s i hi]
 have hat : ∀ k (hk : i + k < s.size), (s.get! (i + k)).toNat = (s[i + k]'hk).toNat := fun k hk => by rw [TB' s _ hk]
 unfold Utf8.decode; simp only [h0]; rw [if_neg ω]
 have hc : ∀ k, (decide (i + k < s.size) && (s.get! (i + k)).toNat / 64 == 2) = true -> ∃ hk : i + k < s.size, 128 <= (s[i + k]'hk).toNat := by
  intro k h; simp only [Bool.and_eq_true, decide_eq_true_eq, beq_iff_eq] at h; refine ⟨h.1, ?_⟩; have := hat k h.1; omega
 split
 ·rename_i h; simp only [Bool.and_eq_true] at h; obtain ⟨k1, c1⟩ := hc 1 (by simp only [Bool.and_eq_true]; exact h.2); split
  ·rename_i hge
   refine .inr ⟨_, 2, rfl, hge, ?_, by decide, by decide, by omega, fun k hk h1 h2 => ?_⟩
   ·unfold Utf8.valid; simp only [Bool.or_eq_true, Bool.and_eq_true, decide_eq_true_eq]
    left; omega
   ·obtain rfl : k = 1 := ω
    exact c1
  ·exact .inl rfl
 ·split
  ·rename_i h; simp only [Bool.and_eq_true] at h; obtain ⟨k1, c1⟩ := hc 1 (by simp only [Bool.and_eq_true]; exact h.1.2); obtain ⟨k2, c2⟩ := hc 2 (by simp only [Bool.and_eq_true]; exact h.2); split
   ·rename_i hge; simp only [Bool.and_eq_true, decide_eq_true_eq] at hge
    refine .inr ⟨_, 3, rfl, by omega, hge.2, by decide, by decide, by omega, fun k hk h1 h2 => ?_⟩
    rcases (by omega : k = 1 \/ k = 2) with rfl | rfl
    ·exact c1
    ·exact c2
   ·exact .inl rfl
  ·split
   ·rename_i h; simp only [Bool.and_eq_true] at h; obtain ⟨k1, c1⟩ := hc 1 (by simp only [Bool.and_eq_true]; exact h.1.1.2); obtain ⟨k2, c2⟩ := hc 2 (by simp only [Bool.and_eq_true]; exact h.1.2); obtain ⟨k3, c3⟩ := hc 3 (by simp only [Bool.and_eq_true]; exact h.2); split
    ·rename_i hge; simp only [Bool.and_eq_true, decide_eq_true_eq] at hge
     refine .inr ⟨_, 4, rfl, by omega, hge.2, by decide, by decide, by omega, fun k hk h1 h2 => ?_⟩
     rcases (by omega : k = 1 \/ k = 2 \/ k = 3) with rfl | rfl | rfl
     ·exact c1
     ·exact c2
     ·exact c3
    ·exact .inl rfl
   ·exact .inl rfl
theorem encR (r : Nat) (h0 : 128 <= r) (hv : Utf8.valid (r : Int) = true) : (r <= 2047 /\ ∃ x y : UInt8, Utf8.encode (r : Int) = ⟨#[y, x]⟩ /\ 128 <= x.toNat) \/ (∃ x y z : UInt8, Utf8.encode (r : Int) = ⟨#[z, y, x]⟩ /\ 128 <= x.toNat) \/ (Utf8.encode (r : Int)).size = 4 := by
 unfold Utf8.encode; simp only [hv, if_true]
 have e : ((r : Int)).toNat = r := by simp
 rw [e, if_neg ω]; split
 ·refine .inl ⟨ω, _, _, rfl, ?_⟩; rw [UInt8.toNat_ofNat']; omega
 ·split
  ·refine .inr (.inl ⟨_, _, _, rfl, ?_⟩); rw [UInt8.toNat_ofNat']; omega
  ·exact .inr (.inr rfl)
def JG' (c : UInt8) : Bool := c == 43 || c == 45 || c == 95
set_option maxHeartbeats 1000000 in
theorem b1' (n : Int) (w : World) : Calls Θ 66 #[.int .i64 n] w fun e w' => e = .returned (.bool (decide ((8 : Int) < n))) /\ w' = w := by
 go_enter Tryd.func66, Tryd.ntmps66
 go_wp2
 go_ret
 exact ⟨rfl, rfl⟩
theorem in_idx (x : UInt8) : decide ((0 : Int) <= Lib.indexByte pmu.data.toList x) = JG' x := by
 have key : ∀ c : Fin 256, decide ((0 : Int) <= Lib.indexByte [43, 45, 95] (UInt8.ofNat c.1)) = JG' (UInt8.ofNat c.1) := by decide +kernel
 have := key ⟨x.toNat, x.toNat_lt⟩; simp only [UInt8.ofNat_toNat] at this; exact this
theorem YQ' {x : UInt8} (h : 128 <= x.toNat) : JG' x = false := by
 have key : ∀ c : Fin 256, 128 <= c.1 -> JG' (UInt8.ofNat c.1) = false := by decide +kernel
 have := key ⟨x.toNat, x.toNat_lt⟩ h; simp only [UInt8.ofNat_toNat] at this; exact this
theorem SJ' (s : Δ) (i : Nat) (hi : i < s.size) : (s.data.toList.take (i + 1)).any JG' = ((s.data.toList.take i).any JG' || JG' (s[i]'hi)) := by
 have hl : i < s.data.toList.length := hi; rw [List.take_succ_eq_append_getElem hl, List.any_append]
 have : s.data.toList[i] = s[i]'hi := by simp [ByteArray.getElem_eq_getElem_data]
 rw [this]; simp
theorem n7' (s : Δ) : caB s = (s.data.toList.take s.size).any JG' := by
 have hl : s.data.toList.length = s.size := rfl; rw [List.take_of_length_le ω]; rfl
theorem ca_mem {s : Δ} {i : Nat} (hi : i < s.size) (h : JG' (s[i]'hi) = true) : caB s = true := by
 unfold caB; rw [List.any_eq_true]; refine ⟨s[i]'hi, ?_, h⟩
 have : s.data.toList[i]'hi = s[i]'hi := by simp [ByteArray.getElem_eq_getElem_data]
 rw [<- this]; exact List.getElem_mem _
set_option maxHeartbeats 8000000 in
set_option maxRecDepth 1000000 in
theorem eD' (s : Δ) (hs : s.size = 4) (w : World) : Calls Θ 49 #[.string s, .string pmu] w fun e w' => ∃ j : Int, e = .returned (.int .i64 j) /\ decide ((0 : Int) <= j) = caB s /\ Below w.heap.size w w' := by
 have hemp : pmu.toList.isEmpty = false := by rw [ByteArray.toList_eq]; rfl
 have hp : pmu.size = 3 := rfl; have hn1 : ((pmu.size : Int) == 1) = false := rfl; have h8z : decide ((8 : Int) < (s.size : Int)) = false := decide_eq_false ω
 go_enter Tryd.func49, Tryd.ntmps49
 go_wp2_with (go_at_call 66; refine (b1' _ _).mono ?_; rintro e w' ⟨rfl, hw⟩; rw [hw])
 go_loopg [9, 10] 4 (fun g _ _ wx => ∃ i : Nat, i + g = 4 /\ wx.heap[w.heap.size]? = some (.stringIter s i) /\ Below w.heap.size w wx /\ (s.data.toList.take i).any JG' = false)
 case atStart => exact ⟨0, rfl, World.iter_heap w s 0, (Below.refl _ w).alloc (Yd) _, rfl⟩
 case round =>
  obtain ⟨i, hig, hit, hbw, hno⟩ := hrel
  cases gk with
  | zero =>
   obtain rfl : i = 4 := ω
   have hnx := fun ty => Lib.run_next_end_at (P := Θ) wr w.heap.size s 4 ty hit ω
   go_wp2
   go_ret
   exact ⟨-1, rfl, by rw [n7', hs, hno]; rfl, hbw⟩
  | succ g =>
   have hi : i < s.size := ω
   have hta := SJ' s i hi; rw [hno, Bool.false_or] at hta
   by_cases hx : (s[i]'hi).toNat < 128
   ·have hnx := fun ty => Lib.run_next_ascii_at (P := Θ) wr w.heap.size s i ty hit hi hx
    have hit2 := Lib.iterAt_heap wr w.heap.size s i (i + 1) hit; have hbw2 := Lib.below_iterAt hbw (k := w.heap.size) (Yd) s (i + 1); have hmem := ca_mem hi
    generalize s[i]'hi = x at *
    have hin := in_idx x
    have hback : ((x.toNat : Int)).toNat.toUInt8 = x := by simp
    cases hh : JG' x with
    | false =>
     rw [hh] at hin hta; have hlt : ¬ ((0 : Int) <= Lib.indexByte pmu.data.toList x) := of_decide_eq_false hin
     go_wp2_with (go_at_call 65; refine (Tryd.strings_IndexRune_ascii _ _ _ ω ω).mono ?_; rintro e w1 ⟨rfl, hw1⟩; rw [hw1, hback])
     go_roundg g
     case measure => omega
     case rel => exact ⟨i + 1, by omega, hit2, hbw2, hta⟩
    | true =>
     rw [hh] at hin; have hge : (0 : Int) <= Lib.indexByte pmu.data.toList x := of_decide_eq_true hin
     go_wp2_with (go_at_call 65; refine (Tryd.strings_IndexRune_ascii _ _ _ ω ω).mono ?_; rintro e w1 ⟨rfl, hw1⟩; rw [hw1, hback])
     go_ret
     exact ⟨i, rfl, by rw [hmem hh]; exact decide_eq_true ω, hbw2⟩
   ·have hx : 128 <= (s[i]'hi).toNat := ω
    have hhi := YQ' hx; rw [hhi] at hta; have herr : Utf8.decode s i = (65533, 1) \/ ∃ r n : Nat, Utf8.decode s i = (r, n) /\ 128 <= r /\ Utf8.valid (r : Int) = true /\ 2 <= n /\ n <= 4 /\ i + n <= s.size /\ ∀ k (hk : i + k < s.size), 1 <= k -> k < n -> 128 <= (s[i + k]'hk).toNat := dec4 s i hi hx
    have hall : ∃ r n : Nat, Utf8.decode s i = (r, n) /\ 128 <= r /\ 1 <= n /\ i + n <= s.size /\ (s.data.toList.take (i + n)).any JG' = false /\ (r = 65533 \/ (Utf8.valid (r : Int) = true)) := by
     rcases herr with hd | ⟨r, n, hd, r0, hv, n2, n4, hin, hk⟩
     ·exact ⟨_, _, hd, by omega, by omega, by omega, hta, .inl rfl⟩
     ·refine ⟨r, n, hd, r0, by omega, hin, ?_, .inr hv⟩
      have hstep : ∀ m, 1 <= m -> m <= n -> (s.data.toList.take (i + m)).any JG' = false := by
       intro m h1 h2
       induction m with
       | zero => omega
       | succ m ih =>
        by_cases hm : m = 0
        ·subst hm; exact hta
        ·have hlt : i + m < s.size := ω
         have := SJ' s (i + m) hlt; rw [ih ω ω, YQ' (hk m hlt ω ω)] at this; exact this
      exact hstep n ω (Yd)
    obtain ⟨r, n, hd, r0, hn1, hin, hta2, hrv⟩ := hall
    have hir : ∀ w1 : World, Calls Θ 65 #[.string pmu, .int .i32 (r : Int)] w1 fun e w' => e = .returned (.int .i64 (-1)) /\ Below w1.heap.size w1 w' := by
     intro w1
     by_cases h65 : r = 65533
     ·subst h65; exact ir_err w1
     ·have hv : Utf8.valid (r : Int) = true := by
       rcases hrv with h | h
       ·exact absurd h h65
       ·exact h
      have r0' : (128 : Int) <= (r : Int) := ω
      have r1' : (r : Int) ≠ 65533 := ω
      rcases encR r r0 hv with ⟨h2, x, y, he, hx2⟩ | ⟨x, y, z, he, hx2⟩ | he
      ·exact ir_two _ r0' ω w1 _ he x y rfl hx2
      ·exact eB' _ r0' hv r1' w1 _ he x y z rfl hx2
      ·exact mC' _ r0' hv r1' w1 _ rfl he
    have hnx := fun ty => Lib.run_next_any_at (P := Θ) wr w.heap.size s i ty hit hi
    simp only [hd] at hnx; have hit2 := Lib.iterAt_heap wr w.heap.size s i (i + n) hit; have hbw2 := Lib.below_iterAt hbw (k := w.heap.size) (Yd) s (i + n); have hsz : w.heap.size < (wr.iterAt w.heap.size s (i + n)).heap.size := (Array.getElem?_eq_some_iff.1 hit2).1
    obtain ⟨g2, hg2⟩ : ∃ g2, i + n + g2 = 4 := ⟨4 - (i + n), by omega⟩
    go_wp2_with (go_at_call 65; refine (hir _).mono ?_; rintro e w1 ⟨rfl, hb1⟩)
    go_roundg g2
    case measure => omega
    case rel => exact ⟨i + n, by omega, by rw [hb1.block _ hsz]; exact hit2, hbw2.trans (hb1.mono (Nat.le_of_lt hsz)), hta2⟩
set_option maxHeartbeats 1000000 in
theorem ca_calls (s : Δ) (hs : s.size = 4) (w : World) : Calls Θ 31 #[.string s, .string pmu] w fun e w' => e = .returned (.bool (caB s)) /\ Below w.heap.size w w' := by
 go_enter Tryd.func31, Tryd.ntmps31
 go_wp2_with (go_at_call 49; refine (eD' s hs w).mono ?_; rintro e w' ⟨j, rfl, hj, hw⟩)
 go_ret
 exact ⟨by rw [<- hj]; rfl, hw⟩
end Go.Proofs.YtdphpillcaajpaaDoor.Js.Ca
namespace Go.Proofs.YtdphpillcaajpaaDoor.Js
open Go Go.RowKit Eng Kit
open Int renaming ofNat -> o'
open Go.Value renaming int -> vi'
open Go.Value renaming bool -> vb'
open AO renaming cells -> ce'
open AV renaming v -> v'
open AV renaming ptr -> pt'
open Go.IntKind renaming u8 -> u8'
open Cnd renaming holds -> ch'
open Nat renaming blt_eq -> bl'
open List renaming length_append -> la'
variable {n a b : Nat} {W : World} {q : Bool}
abbrev fHex : Nat := 77
abbrev fPUs : Nat := 90
def cCA4 : List AV -> Option (AP AV) := vC g2s (fun p => p.2 = Ca.pmu /\ p.1.size = 4) (fun p => bv (Ca.caB p.1))
theorem nB' {F : HP} (hF : AH' W F) : C1OK Θ F eV' cCA4 :=
 VU' hF (fun p => [.string p.1, .string p.2]) (fun p => .bool (Ca.caB p.1)) TF' (fun p N => vr_v N _) fun p hp w hw => by
  rw [hp.1]; exact Ca.ca_calls p.1 hp.2 w
def hx4 (t : Δ) : Option Nat := CG' (bts t) 0
def cPU4 (t : Δ) : List AV -> Option (AP AV) := mkC (fun _ => .ret ()) (fun _ => True) (fun _ i => i) (fun _ => [sv t, iv (o' 16), iv (o' 16)]) (fun _ => []) (fun _ => .ite (hx4 t).isSome (.leaf .ret [.tuple [Pu.u64v ((hx4 t).getD 0), .v .nilIface]] []) (.leaf .ret [Pu.errV] []))
def hHex (t : Δ) (m n : Nat) (b : Bool) : AX' := AD' [hf' fHex 1 1, (fHex, 1, 4, hv (iv (o' (m + 4)))), (fHex, 1, 10, hv (.lit b)), (fHex, 1, 19, hv (iv (o' (m + 4)))), (fHex, 1, 20, h0v (sv t)), (fHex, 3, 6, hv (iv (o' (m + 4)))), (fHex, 3, 7, h0v (sv t)), (fHex, 4, 1, hv (iv (o' n)))]
theorem dD' (W : World) (s t : Δ) (i m n : Nat) (F : HP) : wRun [(eV', cCA4), (fPUs, cPU4 t)] (hHex t m n true) [] W fHex [.ptr 0 0, iv (o' m)] (oR s i) [0] F = VT.leaf (AV.tuple [i' 0,b' false]) [some (ce' [s' s,i' i] 114)] 1100 (k78'.a ((f' (Wk (z' (IntKind.i64.wrap (o' m + o' 4))) (i' (m + 4)))).a ((k51' s).a ((wb' (decide (o' (m + 4) > ↑s.size)) j').a k1')))) := χ
theorem lL' (W : World) (s t : Δ) (i m n : Nat) (F : HP) : wRun [(eV', cCA4), (fPUs, cPU4 t)] (hHex t m n false) [] W fHex [.ptr 0 0, iv (o' m)] (oR s i) [0] F = VT.ite (Ca.caB t) (VT.leaf (AV.tuple [i' 0,b' false]) [some (ce' [s' s,i' i] 114)] 1100 ((f' (Wk (b' false) g')).a ((f' (Wk (z' (IntKind.i64.wrap (o' m + o' 4))) (i' (m + 4)))).a ((ee' (s' s)).a ((wb' (decide (o' (m + 4) > ↑s.size)) g').a ((ee' (s' s)).a ((f' (Wk (z' (IntKind.i64.wrap (o' m + o' 4))) (i' (m + 4)))).a (((p' (m <= m + 4)).a ((p' (m + 4 <= s.size)).a (f' (Wk (s' (s.extract m (m + 4))) (s' t))))).a ((f' (ByteArray.mk (Array.mk [43,45,95]) = Ca.pmu /\ t.size = 4)).a t'))))))))) (VT.ite (hx4 t).isSome (VT.leaf (AV.tuple [i' n,b' true]) [some (ce' [s' s,i' i] 114)] 1100 ((f' (Wk (b' false) g')).a ((f' (Wk (z' (IntKind.i64.wrap (o' m + o' 4))) (i' (m + 4)))).a ((ee' (s' s)).a ((wb' (decide (o' (m + 4) > ↑s.size)) g').a ((ee' (s' s)).a ((f' (Wk (z' (IntKind.i64.wrap (o' m + o' 4))) (i' (m + 4)))).a (((p' (m <= m + 4)).a ((p' (m + 4 <= s.size)).a (f' (Wk (s' (s.extract m (m + 4))) (s' t))))).a ((f' (ByteArray.mk (Array.mk [43,45,95]) = Ca.pmu /\ t.size = 4)).a ((ee' (s' s)).a ((f' (Wk (z' (IntKind.i64.wrap (o' m + o' 4))) (i' (m + 4)))).a (((p' (m <= m + 4)).a ((p' (m + 4 <= s.size)).a (f' (Wk (s' (s.extract m (m + 4))) (s' t))))).a (((Cnd.p True).a (f' (VW [s' t,i' 16,i' 16] [s' t,i' 16,i' 16]))).a ((f' (Wk (z' (IntKind.i64.wrap (o' ((hx4 t).getD 0)))) (i' n))).a t')))))))))))))) (VT.leaf (AV.tuple [i' n,b' false]) [some (ce' [s' s,i' i] 114)] 1100 ((f' (Wk (b' false) g')).a ((f' (Wk (z' (IntKind.i64.wrap (o' m + o' 4))) (i' (m + 4)))).a ((ee' (s' s)).a ((wb' (decide (o' (m + 4) > ↑s.size)) g').a ((ee' (s' s)).a ((f' (Wk (z' (IntKind.i64.wrap (o' m + o' 4))) (i' (m + 4)))).a (((p' (m <= m + 4)).a ((p' (m + 4 <= s.size)).a (f' (Wk (s' (s.extract m (m + 4))) (s' t))))).a ((f' (ByteArray.mk (Array.mk [43,45,95]) = Ca.pmu /\ t.size = 4)).a ((ee' (s' s)).a ((f' (Wk (z' (IntKind.i64.wrap (o' m + o' 4))) (i' (m + 4)))).a (((p' (m <= m + 4)).a ((p' (m + 4 <= s.size)).a (f' (Wk (s' (s.extract m (m + 4))) (s' t))))).a (((Cnd.p True).a (f' (VW [s' t,i' 16,i' 16] [s' t,i' 16,i' 16]))).a ((f' (Wk (i' 0) (i' n))).a t'))))))))))))))) := χ
theorem MS' : ∀ (l : Γ) (n : Nat), l.any (fun c => c == 43 || c == 45 || c == 95) = true -> CG' l n = none
 | [], n, h => by cases h
 | c :: l, n, h => by
  rw [CG']
  cases hv : hexV c with
  | none => rfl
  | some d =>
   simp only; refine MS' l _ ?_; rw [List.any_cons] at h
   have key : ∀ c : Fin 256, (hexV (UInt8.ofNat c.1)).isSome = true -> ((UInt8.ofNat c.1) == 43 || (UInt8.ofNat c.1) == 45 || (UInt8.ofNat c.1) == 95) = false := by decide +kernel
   have h2 := key ⟨c.toNat, c.toNat_lt⟩; simp only [UInt8.ofNat_toNat, hv, Option.isSome_some, forall_const] at h2; rw [h2, Bool.false_or] at h; exact h
theorem PM' : ∀ (l : Γ) (n m : Nat), CG' l n = some m -> m < (n + 1) * 16 ^ l.length
 | [], n, m, h => by
  rw [CG'] at h; cases h; simp
 | c :: l, n, m, h => by
  rw [CG'] at h
  cases hv : hexV c with
  | none => rw [hv] at h; cases h
  | some d =>
   rw [hv] at h; simp only at h; have h1 := PM' l _ m h; have h2 := Pu.hexV_lt hv; rw [List.length_cons, Nat.pow_succ]; have h3 : (n * 16 + d + 1) * 16 ^ l.length <= ((n + 1) * 16) * 16 ^ l.length := Nat.mul_le_mul_right _ ω
   have h4 : ((n + 1) * 16) * 16 ^ l.length = (n + 1) * (16 ^ l.length * 16) := by rw [Nat.mul_assoc, Nat.mul_comm 16]
   omega
theorem LD' {l : Γ} {i m : Nat} (h : hexA l i = some m) : m < 65536 := by
 unfold hexA at h; split at h
 ·rename_i hl; have h1 := PM' _ _ _ h
  have h2 : ((l.drop i).take 4).length = 4 := by rw [List.length_take, List.length_drop]; omega
  rw [h2] at h1; have : (0 + 1) * 16 ^ 4 = 65536 := rfl; omega
 ·cases h
theorem n9' {F : HP} (hW : Pu.LW2 W) (hF : AH' W F) {t : Δ} (ht : t.size = 4) : C1OK Θ F fPUs (cPU4 t) := by
 intro st W0 N h w args vargs v h' n n' lg lg' c p hp he hc r ha hf; have key := Pu.PU_tri hW t ht
 have hpf : Pu.pref t.data.toList 4 = hx4 t := by
  unfold Pu.pref hx4; rw [show List.take 4 t.data.toList = bts t from List.take_of_length_le (by rw [<- b7', ht]; exact Yd)]
 unfold Pu.puV at key; rw [hpf] at key
 cases hx : hx4 t with
 | none =>
  rw [hx] at key; exact BF' (W := W) hF (fun _ => Pu.errV) (fun _ => RO.ret _) (fun _ => by rw [hx]; rfl) (fun _ _ => by rw [hx]; exact key) (fun _ => by rw [hx]; exact ⟨rfl, rfl, ⟨Ye, Ye, Ye, Ye⟩, A4', ⟨⟨Ye, Ye, Ye⟩, Ye⟩, A4'⟩) st W0 N h w args vargs v h' n n' lg lg' c p hp he hc r ha hf
 | some k =>
  rw [hx] at key; exact BF' (W := W) hF (fun _ => .tuple [Pu.u64v k, .v .nilIface]) (fun _ => RO.ret _) (fun _ => by rw [hx]; rfl) (fun _ _ => by rw [hx]; exact key) (fun _ => by rw [hx]; exact ⟨rfl, rfl, ⟨Ye, Ye, Ye, Ye⟩, A4', ⟨⟨Ye, Ye, Ye⟩, Ye⟩, A4'⟩) st W0 N h w args vargs v h' n n' lg lg' c p hp he hc r ha hf
noncomputable def hexT (o : Option Nat) : AV := .tuple [iv (o' (o.getD 0)), bv o.isSome]
theorem nV' (hW : Pu.LW2 W) (s : Δ) (hs : Few s.size) (i m : Nat) (hm : Few m) : Tri Θ W fHex [.ptr 0 0, iv (o' m)] (oR s i) (hexT (hexA (bts s) m)) (oR s i) := by
 have hw : IntKind.i64.wrap (o' m + o' 4) = o' (m + 4) := by
  unfold Few at hm; exact IntWalk.i64_in _ (by simp only [Z0]; omega)
 have hcon : ∀ t : Δ, t.size = 4 -> ∀ F, AH' W F -> ∀ x ∈ ([(eV', cCA4), (fPUs, cPU4 t)] : CV'), C1OK Θ F x.1 x.2 := fun t ht F hF => AP' (nB' hF) (AP' (n9' hW hF ht) noC)
 have hfit : ∀ (a : Nat) (b : Bool), Fits [0] [.tuple [iv (o' a), bv b]] [some (rdO s i)] [.tuple [iv (o' a), bv b]] (oR s i) := fun a b =>
  (AJ' (vs' := [.tuple [iv (o' a), bv b]]) (H' := oR s i) [] rfl rfl (Yb) ⟨⟨_, rfl, Yc⟩, Ye⟩).fits rfl
 have h4l : (bts s).length = s.size := rfl
 by_cases hle : m + 4 <= s.size
 ·obtain ⟨t, ht⟩ : ∃ t, s.extract m (m + 4) = t := ⟨_, rfl⟩
  have hbt : bts t = ((bts s).drop m).take 4 := by
   rw [<- ht]; unfold bts; rw [ByteArray.data_extract, Array.toList_extract]; show List.take (m + 4 - m) _ = _
   rw [show m + 4 - m = 4 from ω]
  have hts : t.size = 4 := by
   rw [<- B2', hbt, List.length_take, List.length_drop, h4l]; omega
  have hA : hexA (bts s) m = hx4 t := by
   unfold hexA hx4; rw [if_pos (by rw [h4l]; exact hle), hbt]
  have hgt : decide (o' (m + 4) > (s.size : Int)) = false := decide_eq_false (by simp only [Z0]; omega)
  have hlt : (hx4 t).getD 0 < 65536 := by
   cases hx : hx4 t with
   | none => exact (by decide : (0 : Nat) < 65536)
   | some k => exact LD' (hA.trans hx)
  rw [hA]
  refine AN' [0] rfl (hcon t hts) (fun _ _ => noL) fun F => cast (congrArg (VAll _) (lL' W s t i m ((hx4 t).getD 0) F).symm) ?_
  obtain ⟨k, hk⟩ : ∃ k, (hx4 t).getD 0 = k := ⟨_, rfl⟩; rw [hk] at hlt; have hwk : IntKind.i64.wrap (o' k) = o' k := IntWalk.i64_in _ (by simp only [Z0]; omega); refine VAll.ite (fun h0 => ⟨⟨?_, ?_⟩⟩) (fun h0 => VAll.ite (fun h1 => ⟨⟨?_, ?_⟩⟩) (fun h1 => ⟨⟨?_, ?_⟩⟩))
  ·simp only [ch', hle, hts, bl', true_and, and_true]; and_intros; all_goals exact Kb26'
  ·have hn : hx4 t = none := MS' _ _ h0; rw [hn]; exact hfit 0 false
  ·simp only [ch', hle, hts, hk, bl', true_and, and_true]; and_intros; all_goals exact Kb26'
  ·unfold hexT; rw [h1]; exact hfit _ _
  ·have hn : hx4 t = none := by simpa using h1
   have hk0 : o' 0 = o' k := by rw [<- hk, hn]; rfl
   simp only [ch', hle, hts, hk, bl', true_and, and_true]; and_intros; all_goals first | (rw [ht]; exact Ya) | exact A0' hgt | (with_reducible exact BA' hw) | (with_reducible exact BA' hwk) | exact Nat.le_add_right _ _ | exact BA' hk0 | exact Kb0'
  ·unfold hexT; rw [h1]; exact hfit _ _
 ·have hA : hexA (bts s) m = none := by unfold hexA; rw [if_neg (by rw [h4l]; exact hle)]
  have hgt : decide (o' (m + 4) > (s.size : Int)) = true := decide_eq_true (by simp only [Z0]; omega); rw [hA]; have hts : (tB [0, 0, 0, 0]).size = 4 := rfl
  refine AN' [0] rfl (hcon (tB [0, 0, 0, 0]) hts) (fun _ _ => noL) fun F => Yj (dD' W s (tB [0, 0, 0, 0]) i m 0 F) ⟨⟨?_, hfit 0 false⟩⟩
  simp only [ch', bl', true_and, and_true]; and_intros; all_goals first | exact A0' hgt | (with_reducible exact BA' hw) | exact Kb0'
noncomputable section
abbrev fAR : Nat := 78
abbrev fAN : Nat := 91
def i32v (n : Nat) : AV := .v (.int .i32 (o' n))
def u32v (n : Nat) : AV := .v (.int .u32 (o' n))
def u8w (n : Nat) : AV := .v (.int .u8 (o' n))
def nilS : AV := .v (.slice none 0 0)
def hA0 (n : Nat) (q : Bool) : List (FuncId × Nat × Nat × Hint) := [(fAR, 1, 1, hv (u32v n)), (fAR, 1, 2, hv (.lit q))]
def hAN (n : Nat) (q2 q3 q4 q5 q6 q7 : Bool) : List (FuncId × Nat × Nat × Hint) := [(fAN, 1, 1, hv (u32v n)), (fAN, 3, 1, hv (.lit q2)), (fAN, 5, 1, hv (.lit q3)), (fAN, 6, 1, hv (.lit q4)), (fAN, 6, 4, hv (.lit q5)), (fAN, 8, 1, hv (.lit q6)), (fAN, 8, 4, hv (.lit q7))]
def hR1 (n : Nat) (b : UInt8) : AX' := AD' (hA0 n true ++ [(fAR, 2, 2, hv (byv b))])
def hR2 (n a c d : Nat) (b0 b1 : UInt8) : AX' := AD' (hA0 n false ++ (hAN n true false false false false false ++ [(fAN, 4, 2, hv (i32v a)), (fAN, 4, 3, hv (u8w a)), (fAN, 4, 4, hv (byv b0)), (fAN, 4, 6, hv (u8w c)), (fAN, 4, 7, hv (u8w d)), (fAN, 4, 8, hv (byv b1))]))
def hR3 (n a c d e f g : Nat) (b0 b1 b2 : UInt8) (q3 : Bool) : AX' := AD' (hA0 n false ++ (hAN n false q3 true true false false ++ [(fAN, 7, 2, hv (i32v a)), (fAN, 7, 3, hv (u8w a)), (fAN, 7, 4, hv (byv b0)), (fAN, 7, 6, hv (i32v c)), (fAN, 7, 7, hv (u8w d)), (fAN, 7, 8, hv (u8w e)), (fAN, 7, 9, hv (byv b1)), (fAN, 7, 11, hv (u8w f)), (fAN, 7, 12, hv (u8w g)), (fAN, 7, 13, hv (byv b2))]))
def hR4 (n a c d e f g h k m : Nat) (b0 b1 b2 b3 : UInt8) : AX' := AD' (hA0 n false ++ (hAN n false false true false true true ++ [(fAN, 9, 2, hv (i32v a)), (fAN, 9, 3, hv (u8w a)), (fAN, 9, 4, hv (byv b0)), (fAN, 9, 6, hv (i32v c)), (fAN, 9, 7, hv (u8w d)), (fAN, 9, 8, hv (u8w e)), (fAN, 9, 9, hv (byv b1)), (fAN, 9, 11, hv (i32v f)), (fAN, 9, 12, hv (u8w g)), (fAN, 9, 13, hv (u8w h)), (fAN, 9, 14, hv (byv b2)), (fAN, 9, 16, hv (u8w k)), (fAN, 9, 17, hv (u8w m)), (fAN, 9, 18, hv (byv b3))]))
abbrev k89' : Cnd := (tt'.a (tt'.a (tt'.a (tt'.a (ee' true)))))
abbrev k90' (q0 : Nat) (q1 : UInt8) : Cnd := (f' (Wk (v' (vi' u8' (IntKind.u8.wrap (o' q0)))) (v' (vi' u8' ↑q1.toNat))))
abbrev k91' (q0 : Nat) : Cnd := (wb' (decide (o' q0 <= o' 127)) j')
abbrev k92' (q0 : Nat) : Cnd := (f' (Wk (v' (vi' IntKind.u32 (IntKind.u32.wrap (o' q0)))) (v' (vi' IntKind.u32 (o' q0)))))
theorem kC' (n : Nat) (b : UInt8) (F : HP) : wRun [] (hR1 n b) [] default fAR [nilS, i32v n] [] [1101, 1102] F = VT.leaf (AV.slice 1101 0 1 1 (Cp.lo 1)) [some (ce' [v' (vi' u8' ↑b.toNat)] 10),none] 1102 ((k92' n).a ((k91' n).a ((k90' n b).a (k89'.a k1')))) := χ
abbrev k93' (q0 : Nat) (q1 : Γ) : Cnd := (tt'.a (tt'.a (tt'.a (tt'.a ((p' ((0 + q0 * 1).ble (rowV encB q1).length = true)).a ((p' (((q0 + 1) * 1).ble 140737488355328 = true)).a ((p' ((q0 + 1).ble 9223372036854775807 = true)).a (f' ((List.take (q0 * 1) (List.drop 0 (rowV encB q1))).length.beq (q0 * 1) = true)))))))))
theorem kD' (P : Γ) (p n : Nat) (b : UInt8) (F : HP) : wRun [] (hR1 n b) [] default fAR [sB 1001 p, i32v n] [(1001, rB P)] [1101, 1102] F = VT.leaf (AV.slice 1101 0 (p + 1) 1 (Cp.lo (p + 1))) [some (ce' (List.take (p * 1) (List.drop 0 (rowV encB P)) ++ [v' (vi' u8' ↑b.toNat)]) 10),none] 1102 ((k92' n).a ((k91' n).a ((k90' n b).a ((k93' p P).a k1')))) := χ
abbrev h94' (q0 : Nat) (z : Cnd) : Cnd := ((f' (Wk (v' (vi' IntKind.u32 (IntKind.u32.wrap (o' q0)))) (v' (vi' IntKind.u32 (o' q0))))).a ((wb' (decide (o' q0 <= o' 127)) g').a z))
theorem kA' (n a c d : Nat) (b0 b1 : UInt8) (F : HP) : wRun [] (hR2 n a c d b0 b1) [] default fAR [nilS, i32v n] [] [1101, 1102] F = VT.leaf (AV.slice 1101 0 2 1 (Cp.lo 2)) [some (ce' [v' (vi' u8' ↑b0.toNat),v' (vi' u8' ↑b1.toNat)] 10),none] 1102 (h94' n (((f' (Wk (v' (vi' IntKind.u32 (IntKind.u32.wrap (o' n)))) (v' (vi' IntKind.u32 (o' n))))).a ((wb' (decide (o' n <= o' 2047)) j').a ((f' (Wk (v' (vi' IntKind.i32 ((o' n).fdiv (o' 64)))) (v' (vi' IntKind.i32 (o' a))))).a ((f' (Wk (v' (vi' u8' (IntKind.u8.wrap (o' a)))) (v' (vi' u8' (o' a))))).a ((f' (Wk (v' (vi' u8' (IntKind.u8.wrap ↑(BitVec.ofInt 8 (o' 192) ||| BitVec.ofInt 8 (o' a)).toNat))) (v' (vi' u8' ↑b0.toNat)))).a ((f' (Wk (v' (vi' u8' (IntKind.u8.wrap (o' n)))) (v' (vi' u8' (o' c))))).a ((f' (Wk (v' (vi' u8' (IntKind.u8.wrap ↑(BitVec.ofInt 8 (o' c) &&& BitVec.ofInt 8 (o' 63)).toNat))) (v' (vi' u8' (o' d))))).a ((f' (Wk (v' (vi' u8' (IntKind.u8.wrap ↑(BitVec.ofInt 8 (o' 128) ||| BitVec.ofInt 8 (o' d)).toNat))) (v' (vi' u8' ↑b1.toNat)))).a ((tt'.a (tt'.a (tt'.a (tt'.a (ee' true))))).a t'))))))))).a k1')) := χ
theorem kB' (P : Γ) (p n a c d : Nat) (b0 b1 : UInt8) (F : HP) : wRun [] (hR2 n a c d b0 b1) [] default fAR [sB 1001 p, i32v n] [(1001, rB P)] [1101, 1102] F = VT.leaf (AV.slice 1101 0 (p + 2) 1 (Cp.lo (p + 2))) [some (ce' (List.take (p * 1) (List.drop 0 (rowV encB P)) ++ [v' (vi' u8' ↑b0.toNat),v' (vi' u8' ↑b1.toNat)]) 10),none] 1102 (h94' n (((f' (Wk (v' (vi' IntKind.u32 (IntKind.u32.wrap (o' n)))) (v' (vi' IntKind.u32 (o' n))))).a ((wb' (decide (o' n <= o' 2047)) j').a ((f' (Wk (v' (vi' IntKind.i32 ((o' n).fdiv (o' 64)))) (v' (vi' IntKind.i32 (o' a))))).a ((f' (Wk (v' (vi' u8' (IntKind.u8.wrap (o' a)))) (v' (vi' u8' (o' a))))).a ((f' (Wk (v' (vi' u8' (IntKind.u8.wrap ↑(BitVec.ofInt 8 (o' 192) ||| BitVec.ofInt 8 (o' a)).toNat))) (v' (vi' u8' ↑b0.toNat)))).a ((f' (Wk (v' (vi' u8' (IntKind.u8.wrap (o' n)))) (v' (vi' u8' (o' c))))).a ((f' (Wk (v' (vi' u8' (IntKind.u8.wrap ↑(BitVec.ofInt 8 (o' c) &&& BitVec.ofInt 8 (o' 63)).toNat))) (v' (vi' u8' (o' d))))).a ((f' (Wk (v' (vi' u8' (IntKind.u8.wrap ↑(BitVec.ofInt 8 (o' 128) ||| BitVec.ofInt 8 (o' d)).toNat))) (v' (vi' u8' ↑b1.toNat)))).a ((tt'.a (tt'.a (tt'.a (tt'.a ((p' ((0 + p * 1).ble (rowV encB P).length = true)).a ((p' (((p + 2) * 1).ble 140737488355328 = true)).a ((p' ((p + 2).ble 9223372036854775807 = true)).a (f' ((List.take (p * 1) (List.drop 0 (rowV encB P))).length.beq (p * 1) = true))))))))).a t'))))))))).a k1')) := χ
theorem k0' (n a c d e f g : Nat) (b0 b1 b2 : UInt8) (q3 : Bool) (F : HP) : wRun [] (hR3 n a c d e f g b0 b1 b2 true) [] default fAR [nilS, i32v n] [] [1101, 1102] F = VT.leaf (AV.slice 1101 0 3 1 (Cp.lo 3)) [some (ce' [v' (vi' u8' ↑b0.toNat),v' (vi' u8' ↑b1.toNat),v' (vi' u8' ↑b2.toNat)] 10),none] 1102 (h94' n (((f' (Wk (v' (vi' IntKind.u32 (IntKind.u32.wrap (o' n)))) (v' (vi' IntKind.u32 (o' n))))).a ((wb' (decide (o' n <= o' 2047)) g').a ((wb' (decide (o' n < o' 55296)) j').a ((f' (Wk (v' (vi' IntKind.i32 ((o' n).fdiv (o' 4096)))) (v' (vi' IntKind.i32 (o' a))))).a ((f' (Wk (v' (vi' u8' (IntKind.u8.wrap (o' a)))) (v' (vi' u8' (o' a))))).a ((f' (Wk (v' (vi' u8' (IntKind.u8.wrap ↑(BitVec.ofInt 8 (o' 224) ||| BitVec.ofInt 8 (o' a)).toNat))) (v' (vi' u8' ↑b0.toNat)))).a ((f' (Wk (v' (vi' IntKind.i32 ((o' n).fdiv (o' 64)))) (v' (vi' IntKind.i32 (o' c))))).a ((f' (Wk (v' (vi' u8' (IntKind.u8.wrap (o' c)))) (v' (vi' u8' (o' d))))).a ((f' (Wk (v' (vi' u8' (IntKind.u8.wrap ↑(BitVec.ofInt 8 (o' d) &&& BitVec.ofInt 8 (o' 63)).toNat))) (v' (vi' u8' (o' e))))).a ((f' (Wk (v' (vi' u8' (IntKind.u8.wrap ↑(BitVec.ofInt 8 (o' 128) ||| BitVec.ofInt 8 (o' e)).toNat))) (v' (vi' u8' ↑b1.toNat)))).a ((f' (Wk (v' (vi' u8' (IntKind.u8.wrap (o' n)))) (v' (vi' u8' (o' f))))).a ((f' (Wk (v' (vi' u8' (IntKind.u8.wrap ↑(BitVec.ofInt 8 (o' f) &&& BitVec.ofInt 8 (o' 63)).toNat))) (v' (vi' u8' (o' g))))).a ((f' (Wk (v' (vi' u8' (IntKind.u8.wrap ↑(BitVec.ofInt 8 (o' 128) ||| BitVec.ofInt 8 (o' g)).toNat))) (v' (vi' u8' ↑b2.toNat)))).a ((tt'.a (tt'.a (tt'.a (tt'.a (ee' true))))).a t')))))))))))))).a k1')) := χ
theorem k7' (P : Γ) (p n a c d e f g : Nat) (b0 b1 b2 : UInt8) (F : HP) : wRun [] (hR3 n a c d e f g b0 b1 b2 true) [] default fAR [sB 1001 p, i32v n] [(1001, rB P)] [1101, 1102] F = VT.leaf (AV.slice 1101 0 (p + 3) 1 (Cp.lo (p + 3))) [some (ce' (List.take (p * 1) (List.drop 0 (rowV encB P)) ++ [v' (vi' u8' ↑b0.toNat),v' (vi' u8' ↑b1.toNat),v' (vi' u8' ↑b2.toNat)]) 10),none] 1102 (h94' n (((f' (Wk (v' (vi' IntKind.u32 (IntKind.u32.wrap (o' n)))) (v' (vi' IntKind.u32 (o' n))))).a ((wb' (decide (o' n <= o' 2047)) g').a ((wb' (decide (o' n < o' 55296)) j').a ((f' (Wk (v' (vi' IntKind.i32 ((o' n).fdiv (o' 4096)))) (v' (vi' IntKind.i32 (o' a))))).a ((f' (Wk (v' (vi' u8' (IntKind.u8.wrap (o' a)))) (v' (vi' u8' (o' a))))).a ((f' (Wk (v' (vi' u8' (IntKind.u8.wrap ↑(BitVec.ofInt 8 (o' 224) ||| BitVec.ofInt 8 (o' a)).toNat))) (v' (vi' u8' ↑b0.toNat)))).a ((f' (Wk (v' (vi' IntKind.i32 ((o' n).fdiv (o' 64)))) (v' (vi' IntKind.i32 (o' c))))).a ((f' (Wk (v' (vi' u8' (IntKind.u8.wrap (o' c)))) (v' (vi' u8' (o' d))))).a ((f' (Wk (v' (vi' u8' (IntKind.u8.wrap ↑(BitVec.ofInt 8 (o' d) &&& BitVec.ofInt 8 (o' 63)).toNat))) (v' (vi' u8' (o' e))))).a ((f' (Wk (v' (vi' u8' (IntKind.u8.wrap ↑(BitVec.ofInt 8 (o' 128) ||| BitVec.ofInt 8 (o' e)).toNat))) (v' (vi' u8' ↑b1.toNat)))).a ((f' (Wk (v' (vi' u8' (IntKind.u8.wrap (o' n)))) (v' (vi' u8' (o' f))))).a ((f' (Wk (v' (vi' u8' (IntKind.u8.wrap ↑(BitVec.ofInt 8 (o' f) &&& BitVec.ofInt 8 (o' 63)).toNat))) (v' (vi' u8' (o' g))))).a ((f' (Wk (v' (vi' u8' (IntKind.u8.wrap ↑(BitVec.ofInt 8 (o' 128) ||| BitVec.ofInt 8 (o' g)).toNat))) (v' (vi' u8' ↑b2.toNat)))).a ((tt'.a (tt'.a (tt'.a (tt'.a ((p' ((0 + p * 1).ble (rowV encB P).length = true)).a ((p' (((p + 3) * 1).ble 140737488355328 = true)).a ((p' ((p + 3).ble 9223372036854775807 = true)).a (f' ((List.take (p * 1) (List.drop 0 (rowV encB P))).length.beq (p * 1) = true))))))))).a t')))))))))))))).a k1')) := χ
theorem k2' (n a c d e f g : Nat) (b0 b1 b2 : UInt8) (F : HP) : wRun [] (hR3 n a c d e f g b0 b1 b2 false) [] default fAR [nilS, i32v n] [] [1101, 1102] F = VT.leaf (AV.slice 1101 0 3 1 (Cp.lo 3)) [some (ce' [v' (vi' u8' ↑b0.toNat),v' (vi' u8' ↑b1.toNat),v' (vi' u8' ↑b2.toNat)] 10),none] 1102 (h94' n (((f' (Wk (v' (vi' IntKind.u32 (IntKind.u32.wrap (o' n)))) (v' (vi' IntKind.u32 (o' n))))).a ((wb' (decide (o' n <= o' 2047)) g').a ((wb' (decide (o' n < o' 55296)) g').a ((wb' (decide (o' 57343 < o' n)) j').a ((wb' (decide (o' n <= o' 65535)) j').a ((f' (Wk (v' (vi' IntKind.i32 ((o' n).fdiv (o' 4096)))) (v' (vi' IntKind.i32 (o' a))))).a ((f' (Wk (v' (vi' u8' (IntKind.u8.wrap (o' a)))) (v' (vi' u8' (o' a))))).a ((f' (Wk (v' (vi' u8' (IntKind.u8.wrap ↑(BitVec.ofInt 8 (o' 224) ||| BitVec.ofInt 8 (o' a)).toNat))) (v' (vi' u8' ↑b0.toNat)))).a ((f' (Wk (v' (vi' IntKind.i32 ((o' n).fdiv (o' 64)))) (v' (vi' IntKind.i32 (o' c))))).a ((f' (Wk (v' (vi' u8' (IntKind.u8.wrap (o' c)))) (v' (vi' u8' (o' d))))).a ((f' (Wk (v' (vi' u8' (IntKind.u8.wrap ↑(BitVec.ofInt 8 (o' d) &&& BitVec.ofInt 8 (o' 63)).toNat))) (v' (vi' u8' (o' e))))).a ((f' (Wk (v' (vi' u8' (IntKind.u8.wrap ↑(BitVec.ofInt 8 (o' 128) ||| BitVec.ofInt 8 (o' e)).toNat))) (v' (vi' u8' ↑b1.toNat)))).a ((f' (Wk (v' (vi' u8' (IntKind.u8.wrap (o' n)))) (v' (vi' u8' (o' f))))).a ((f' (Wk (v' (vi' u8' (IntKind.u8.wrap ↑(BitVec.ofInt 8 (o' f) &&& BitVec.ofInt 8 (o' 63)).toNat))) (v' (vi' u8' (o' g))))).a ((f' (Wk (v' (vi' u8' (IntKind.u8.wrap ↑(BitVec.ofInt 8 (o' 128) ||| BitVec.ofInt 8 (o' g)).toNat))) (v' (vi' u8' ↑b2.toNat)))).a ((tt'.a (tt'.a (tt'.a (tt'.a (ee' true))))).a t')))))))))))))))).a k1')) := χ
theorem k5' (P : Γ) (p n a c d e f g : Nat) (b0 b1 b2 : UInt8) (F : HP) : wRun [] (hR3 n a c d e f g b0 b1 b2 false) [] default fAR [sB 1001 p, i32v n] [(1001, rB P)] [1101, 1102] F = VT.leaf (AV.slice 1101 0 (p + 3) 1 (Cp.lo (p + 3))) [some (ce' (List.take (p * 1) (List.drop 0 (rowV encB P)) ++ [v' (vi' u8' ↑b0.toNat),v' (vi' u8' ↑b1.toNat),v' (vi' u8' ↑b2.toNat)]) 10),none] 1102 (h94' n (((f' (Wk (v' (vi' IntKind.u32 (IntKind.u32.wrap (o' n)))) (v' (vi' IntKind.u32 (o' n))))).a ((wb' (decide (o' n <= o' 2047)) g').a ((wb' (decide (o' n < o' 55296)) g').a ((wb' (decide (o' 57343 < o' n)) j').a ((wb' (decide (o' n <= o' 65535)) j').a ((f' (Wk (v' (vi' IntKind.i32 ((o' n).fdiv (o' 4096)))) (v' (vi' IntKind.i32 (o' a))))).a ((f' (Wk (v' (vi' u8' (IntKind.u8.wrap (o' a)))) (v' (vi' u8' (o' a))))).a ((f' (Wk (v' (vi' u8' (IntKind.u8.wrap ↑(BitVec.ofInt 8 (o' 224) ||| BitVec.ofInt 8 (o' a)).toNat))) (v' (vi' u8' ↑b0.toNat)))).a ((f' (Wk (v' (vi' IntKind.i32 ((o' n).fdiv (o' 64)))) (v' (vi' IntKind.i32 (o' c))))).a ((f' (Wk (v' (vi' u8' (IntKind.u8.wrap (o' c)))) (v' (vi' u8' (o' d))))).a ((f' (Wk (v' (vi' u8' (IntKind.u8.wrap ↑(BitVec.ofInt 8 (o' d) &&& BitVec.ofInt 8 (o' 63)).toNat))) (v' (vi' u8' (o' e))))).a ((f' (Wk (v' (vi' u8' (IntKind.u8.wrap ↑(BitVec.ofInt 8 (o' 128) ||| BitVec.ofInt 8 (o' e)).toNat))) (v' (vi' u8' ↑b1.toNat)))).a ((f' (Wk (v' (vi' u8' (IntKind.u8.wrap (o' n)))) (v' (vi' u8' (o' f))))).a ((f' (Wk (v' (vi' u8' (IntKind.u8.wrap ↑(BitVec.ofInt 8 (o' f) &&& BitVec.ofInt 8 (o' 63)).toNat))) (v' (vi' u8' (o' g))))).a ((f' (Wk (v' (vi' u8' (IntKind.u8.wrap ↑(BitVec.ofInt 8 (o' 128) ||| BitVec.ofInt 8 (o' g)).toNat))) (v' (vi' u8' ↑b2.toNat)))).a ((tt'.a (tt'.a (tt'.a (tt'.a ((p' ((0 + p * 1).ble (rowV encB P).length = true)).a ((p' (((p + 3) * 1).ble 140737488355328 = true)).a ((p' ((p + 3).ble 9223372036854775807 = true)).a (f' ((List.take (p * 1) (List.drop 0 (rowV encB P))).length.beq (p * 1) = true))))))))).a t')))))))))))))))).a k1')) := χ
theorem jY' (n a c d e f g h k m : Nat) (b0 b1 b2 b3 : UInt8) (F : HP) : wRun [] (hR4 n a c d e f g h k m b0 b1 b2 b3) [] default fAR [nilS, i32v n] [] [1101, 1102] F = VT.leaf (AV.slice 1101 0 4 1 (Cp.lo 4)) [some (ce' [v' (vi' u8' ↑b0.toNat),v' (vi' u8' ↑b1.toNat),v' (vi' u8' ↑b2.toNat),v' (vi' u8' ↑b3.toNat)] 10),none] 1102 (h94' n (((f' (Wk (v' (vi' IntKind.u32 (IntKind.u32.wrap (o' n)))) (v' (vi' IntKind.u32 (o' n))))).a ((wb' (decide (o' n <= o' 2047)) g').a ((wb' (decide (o' n < o' 55296)) g').a ((wb' (decide (o' 57343 < o' n)) j').a ((wb' (decide (o' n <= o' 65535)) g').a ((wb' (decide (o' n > o' 65535)) j').a ((wb' (decide (o' n <= o' 1114111)) j').a ((f' (Wk (v' (vi' IntKind.i32 ((o' n).fdiv (o' 262144)))) (v' (vi' IntKind.i32 (o' a))))).a ((f' (Wk (v' (vi' u8' (IntKind.u8.wrap (o' a)))) (v' (vi' u8' (o' a))))).a ((f' (Wk (v' (vi' u8' (IntKind.u8.wrap ↑(BitVec.ofInt 8 (o' 240) ||| BitVec.ofInt 8 (o' a)).toNat))) (v' (vi' u8' ↑b0.toNat)))).a ((f' (Wk (v' (vi' IntKind.i32 ((o' n).fdiv (o' 4096)))) (v' (vi' IntKind.i32 (o' c))))).a ((f' (Wk (v' (vi' u8' (IntKind.u8.wrap (o' c)))) (v' (vi' u8' (o' d))))).a ((f' (Wk (v' (vi' u8' (IntKind.u8.wrap ↑(BitVec.ofInt 8 (o' d) &&& BitVec.ofInt 8 (o' 63)).toNat))) (v' (vi' u8' (o' e))))).a ((f' (Wk (v' (vi' u8' (IntKind.u8.wrap ↑(BitVec.ofInt 8 (o' 128) ||| BitVec.ofInt 8 (o' e)).toNat))) (v' (vi' u8' ↑b1.toNat)))).a ((f' (Wk (v' (vi' IntKind.i32 ((o' n).fdiv (o' 64)))) (v' (vi' IntKind.i32 (o' f))))).a ((f' (Wk (v' (vi' u8' (IntKind.u8.wrap (o' f)))) (v' (vi' u8' (o' g))))).a ((f' (Wk (v' (vi' u8' (IntKind.u8.wrap ↑(BitVec.ofInt 8 (o' g) &&& BitVec.ofInt 8 (o' 63)).toNat))) (v' (vi' u8' (o' h))))).a ((f' (Wk (v' (vi' u8' (IntKind.u8.wrap ↑(BitVec.ofInt 8 (o' 128) ||| BitVec.ofInt 8 (o' h)).toNat))) (v' (vi' u8' ↑b2.toNat)))).a ((f' (Wk (v' (vi' u8' (IntKind.u8.wrap (o' n)))) (v' (vi' u8' (o' k))))).a ((f' (Wk (v' (vi' u8' (IntKind.u8.wrap ↑(BitVec.ofInt 8 (o' k) &&& BitVec.ofInt 8 (o' 63)).toNat))) (v' (vi' u8' (o' m))))).a ((f' (Wk (v' (vi' u8' (IntKind.u8.wrap ↑(BitVec.ofInt 8 (o' 128) ||| BitVec.ofInt 8 (o' m)).toNat))) (v' (vi' u8' ↑b3.toNat)))).a ((tt'.a (tt'.a (tt'.a (tt'.a (ee' true))))).a t')))))))))))))))))))))).a k1')) := χ
theorem jZ' (P : Γ) (p n a c d e f g h k m : Nat) (b0 b1 b2 b3 : UInt8) (F : HP) : wRun [] (hR4 n a c d e f g h k m b0 b1 b2 b3) [] default fAR [sB 1001 p, i32v n] [(1001, rB P)] [1101, 1102] F = VT.leaf (AV.slice 1101 0 (p + 4) 1 (Cp.lo (p + 4))) [some (ce' (List.take (p * 1) (List.drop 0 (rowV encB P)) ++ [v' (vi' u8' ↑b0.toNat),v' (vi' u8' ↑b1.toNat),v' (vi' u8' ↑b2.toNat),v' (vi' u8' ↑b3.toNat)]) 10),none] 1102 (h94' n (((f' (Wk (v' (vi' IntKind.u32 (IntKind.u32.wrap (o' n)))) (v' (vi' IntKind.u32 (o' n))))).a ((wb' (decide (o' n <= o' 2047)) g').a ((wb' (decide (o' n < o' 55296)) g').a ((wb' (decide (o' 57343 < o' n)) j').a ((wb' (decide (o' n <= o' 65535)) g').a ((wb' (decide (o' n > o' 65535)) j').a ((wb' (decide (o' n <= o' 1114111)) j').a ((f' (Wk (v' (vi' IntKind.i32 ((o' n).fdiv (o' 262144)))) (v' (vi' IntKind.i32 (o' a))))).a ((f' (Wk (v' (vi' u8' (IntKind.u8.wrap (o' a)))) (v' (vi' u8' (o' a))))).a ((f' (Wk (v' (vi' u8' (IntKind.u8.wrap ↑(BitVec.ofInt 8 (o' 240) ||| BitVec.ofInt 8 (o' a)).toNat))) (v' (vi' u8' ↑b0.toNat)))).a ((f' (Wk (v' (vi' IntKind.i32 ((o' n).fdiv (o' 4096)))) (v' (vi' IntKind.i32 (o' c))))).a ((f' (Wk (v' (vi' u8' (IntKind.u8.wrap (o' c)))) (v' (vi' u8' (o' d))))).a ((f' (Wk (v' (vi' u8' (IntKind.u8.wrap ↑(BitVec.ofInt 8 (o' d) &&& BitVec.ofInt 8 (o' 63)).toNat))) (v' (vi' u8' (o' e))))).a ((f' (Wk (v' (vi' u8' (IntKind.u8.wrap ↑(BitVec.ofInt 8 (o' 128) ||| BitVec.ofInt 8 (o' e)).toNat))) (v' (vi' u8' ↑b1.toNat)))).a ((f' (Wk (v' (vi' IntKind.i32 ((o' n).fdiv (o' 64)))) (v' (vi' IntKind.i32 (o' f))))).a ((f' (Wk (v' (vi' u8' (IntKind.u8.wrap (o' f)))) (v' (vi' u8' (o' g))))).a ((f' (Wk (v' (vi' u8' (IntKind.u8.wrap ↑(BitVec.ofInt 8 (o' g) &&& BitVec.ofInt 8 (o' 63)).toNat))) (v' (vi' u8' (o' h))))).a ((f' (Wk (v' (vi' u8' (IntKind.u8.wrap ↑(BitVec.ofInt 8 (o' 128) ||| BitVec.ofInt 8 (o' h)).toNat))) (v' (vi' u8' ↑b2.toNat)))).a ((f' (Wk (v' (vi' u8' (IntKind.u8.wrap (o' n)))) (v' (vi' u8' (o' k))))).a ((f' (Wk (v' (vi' u8' (IntKind.u8.wrap ↑(BitVec.ofInt 8 (o' k) &&& BitVec.ofInt 8 (o' 63)).toNat))) (v' (vi' u8' (o' m))))).a ((f' (Wk (v' (vi' u8' (IntKind.u8.wrap ↑(BitVec.ofInt 8 (o' 128) ||| BitVec.ofInt 8 (o' m)).toNat))) (v' (vi' u8' ↑b3.toNat)))).a ((tt'.a (tt'.a (tt'.a (tt'.a ((p' ((0 + p * 1).ble (rowV encB P).length = true)).a ((p' (((p + 4) * 1).ble 140737488355328 = true)).a ((p' ((p + 4).ble 9223372036854775807 = true)).a (f' ((List.take (p * 1) (List.drop 0 (rowV encB P))).length.beq (p * 1) = true))))))))).a t')))))))))))))))))))))).a k1')) := χ
end
theorem or192 : ∀ k : Fin 32, IntKind.u8.wrap ((BitVec.ofInt 8 (o' 192) ||| BitVec.ofInt 8 (o' k.1)).toNat : Int) = o' (192 + k.1) := by decide +kernel
theorem or224 : ∀ k : Fin 16, IntKind.u8.wrap ((BitVec.ofInt 8 (o' 224) ||| BitVec.ofInt 8 (o' k.1)).toNat : Int) = o' (224 + k.1) := by decide +kernel
theorem or240 : ∀ k : Fin 8, IntKind.u8.wrap ((BitVec.ofInt 8 (o' 240) ||| BitVec.ofInt 8 (o' k.1)).toNat : Int) = o' (240 + k.1) := by decide +kernel
theorem UF' : ∀ k : Fin 64, IntKind.u8.wrap ((BitVec.ofInt 8 (o' 128) ||| BitVec.ofInt 8 (o' k.1)).toNat : Int) = o' (128 + k.1) := by decide +kernel
theorem V6' : ∀ k : Fin 256, IntKind.u8.wrap ((BitVec.ofInt 8 (o' k.1) &&& BitVec.ofInt 8 (o' 63)).toNat : Int) = o' (k.1 % 64) := by decide +kernel
theorem wk_k {k : IntKind} {a b : Int} (h : a = b) : Wk (.v (.int k a)) (.v (.int k b)) := Wk.of_eq (by rw [h])
theorem toU8 (h : n < 256) : ((n.toUInt8).toNat : Int) = o' n := by
 rw [UInt8.toNat_ofNat']; simp only [Z0]; omega
theorem u8wr (n : Nat) : IntKind.u8.wrap (o' n) = o' (n % 256) := by
 have : IntKind.u8.wrap (o' n) = o' n % 256 := by simp [IntKind.wrap, IntKind.signed, IntKind.bits]
 rw [this]; simp only [Z0]; omega
theorem u32wr (h : n < 4294967296) : IntKind.u32.wrap (o' n) = o' n := by
 have : IntKind.u32.wrap (o' n) = o' n % 4294967296 := by simp [IntKind.wrap, IntKind.signed, IntKind.bits]
 rw [this]; simp only [Z0]; omega
theorem LZ' (n k : Nat) (hk : 0 < k) : (o' n).fdiv (o' k) = o' (n / k) := by
 rw [Int.fdiv_eq_ediv_of_nonneg _ (by simp only [Z0]; omega)]; rfl
theorem leN (h : decide (a <= b) = q) : decide (o' a <= o' b) = q := by rw [<- h]; simp only [Int.ofNat_eq_natCast, Int.ofNat_le]
theorem ltN (h : decide (a < b) = q) : decide (o' a < o' b) = q := by rw [<- h]; simp only [Int.ofNat_eq_natCast, Int.ofNat_lt]
theorem gtN (h : decide (b < a) = q) : decide (o' a > o' b) = q := by rw [<- h]; simp only [Int.ofNat_eq_natCast, gt_iff_lt, Int.ofNat_lt]
theorem CX' {L : Γ} {k : Nat} {cs : List AV} (hk : k = L.length) (hcs : cs = rowV encB L) : Fits [1101, 1102] [.slice 1101 0 k 1 (.lo k)] [some (.cells cs 10), none] [sB 1001 L.length] [(1001, rB L)] := by
 subst hk hcs; exact (AJ' (vs' := [sB 1001 L.length]) (H' := [(1001, rB L)]) [(1001, 1101)] χ χ (Yb) ⟨⟨_, rfl, QZ' rfl rfl⟩, Ye⟩).fits rfl
theorem EN' {P : Γ} {p k : Nat} (h : P.length = p) (hp : p <= 1000000) (hk : k <= 4) : (((p + k) * 1).ble 140737488355328 = true) /\ ((p + k).ble 9223372036854775807 = true) := by
 rw [Nat.ble_eq, Nat.ble_eq]; omega
def okR (n : Nat) : Prop := n < 55296 \/ (57343 < n /\ n <= 1114111)
theorem utf1 (h : n < 128) : utf n = [n.toUInt8] := by unfold utf; rw [if_pos h]
theorem utf2 (h1 : ¬ n < 128) (h : n < 2048) : utf n = [(192 + n / 64).toUInt8, (128 + n % 64).toUInt8] := by unfold utf; rw [if_neg h1, if_pos h]
theorem utf3 (h1 : ¬ n < 128) (h2 : ¬ n < 2048) (h : n < 65536) : utf n = [(224 + n / 4096).toUInt8, (128 + n / 64 % 64).toUInt8, (128 + n % 64).toUInt8] := by unfold utf; rw [if_neg h1, if_neg h2, if_pos h]
theorem utf4 (h1 : ¬ n < 128) (h2 : ¬ n < 2048) (h : ¬ n < 65536) : utf n = [(240 + n / 262144).toUInt8, (128 + n / 4096 % 64).toUInt8, (128 + n / 64 % 64).toUInt8, (128 + n % 64).toUInt8] := by unfold utf; rw [if_neg h1, if_neg h2, if_neg h]
theorem o1' (n : Nat) (hn : okR n) : Tri Θ default fAR [nilS, i32v n] [] (sB 1001 (utf n).length) [(1001, rB (utf n))] := by
 unfold okR at hn; have hu : IntKind.u32.wrap (o' n) = o' n := u32wr ω
 have hm : n % 256 % 64 = n % 64 := ω
 have a63 := V6' ⟨n % 256, by omega⟩
 have o128 := UF' ⟨n % 64, by omega⟩
 simp only [hm] at a63 o128
 by_cases h1 : n < 128
 ·rw [utf1 h1]
  refine AN' [1101, 1102] rfl (fun _ _ => noC) (fun _ _ => noL) fun F => Yj (kC' n n.toUInt8 F) ⟨⟨?_, (CX' (L := [n.toUInt8]) rfl rfl)⟩⟩
  have hb : IntKind.u8.wrap (o' n) = ((n.toUInt8).toNat : Int) := by rw [u8wr, toU8 ω, Nat.mod_eq_of_lt ω]
  simp only [ch', bl', true_and, and_true]; and_intros; all_goals first | exact wk_k hu | exact A0' (leN (decide_eq_true ω)) | exact wk_k hb | exact Kb0'
 by_cases h2 : n < 2048
 ·rw [utf2 h1 h2]
  have o192 := or192 ⟨n / 64, by omega⟩
  have f64 := LZ' n 64 δ
  have w64 : IntKind.u8.wrap (o' (n / 64)) = o' (n / 64) := by rw [u8wr, Nat.mod_eq_of_lt ω]
  simp only at o192
  refine AN' [1101, 1102] rfl (fun _ _ => noC) (fun _ _ => noL) fun F => Yj (kA' n (n / 64) (n % 256) (n % 64) (192 + n / 64).toUInt8 (128 + n % 64).toUInt8 F) ⟨⟨?_, (CX' (L := [(192 + n / 64).toUInt8, (128 + n % 64).toUInt8]) rfl rfl)⟩⟩
  simp only [ch', bl', true_and, and_true]; and_intros; all_goals first | exact wk_k hu | exact A0' (leN (decide_eq_true ω)) | exact A0' (leN (decide_eq_false ω)) | exact wk_k f64 | exact wk_k w64 | exact wk_k (o192.trans (toU8 ω).symm) | exact wk_k (u8wr n) | exact wk_k a63 | exact wk_k (o128.trans (toU8 ω).symm) | exact Kb0'
 have hm2 : n / 64 % 256 % 64 = n / 64 % 64 := ω
 have a63b := V6' ⟨n / 64 % 256, by omega⟩
 have o128b := UF' ⟨n / 64 % 64, by omega⟩
 simp only [hm2] at a63b o128b; have f64 := LZ' n 64 δ; have w64 := u8wr (n / 64)
 by_cases h3 : n < 65536
 ·rw [utf3 h1 h2 h3]
  have o224 := or224 ⟨n / 4096, by omega⟩
  have f12 := LZ' n 4096 δ
  have w12 : IntKind.u8.wrap (o' (n / 4096)) = o' (n / 4096) := by rw [u8wr, Nat.mod_eq_of_lt ω]
  simp only at o224
  by_cases h55 : n < 55296
  ·refine AN' [1101, 1102] rfl (fun _ _ => noC) (fun _ _ => noL) fun F => Yj (k0' n (n / 4096) (n / 64) (n / 64 % 256) (n / 64 % 64) (n % 256) (n % 64) (224 + n / 4096).toUInt8 (128 + n / 64 % 64).toUInt8 (128 + n % 64).toUInt8 true F) ⟨⟨?_, (CX' (L := [(224 + n / 4096).toUInt8, (128 + n / 64 % 64).toUInt8, (128 + n % 64).toUInt8]) rfl rfl)⟩⟩
   simp only [ch', bl', true_and, and_true]; and_intros; all_goals first | exact wk_k hu | exact A0' (leN (decide_eq_false ω)) | exact A0' (ltN (decide_eq_true ω)) | exact Kb12'
  ·refine AN' [1101, 1102] rfl (fun _ _ => noC) (fun _ _ => noL) fun F => Yj (k2' n (n / 4096) (n / 64) (n / 64 % 256) (n / 64 % 64) (n % 256) (n % 64) (224 + n / 4096).toUInt8 (128 + n / 64 % 64).toUInt8 (128 + n % 64).toUInt8 F) ⟨⟨?_, (CX' (L := [(224 + n / 4096).toUInt8, (128 + n / 64 % 64).toUInt8, (128 + n % 64).toUInt8]) rfl rfl)⟩⟩
   simp only [ch', bl', true_and, and_true]; and_intros; all_goals first | exact wk_k hu | exact A0' (leN (decide_eq_false ω)) | exact A0' (leN (decide_eq_true ω)) | exact A0' (ltN (decide_eq_true ω)) | exact A0' (ltN (decide_eq_false ω)) | exact Kb12'
 ·rw [utf4 h1 h2 h3]
  have o240 := or240 ⟨n / 262144, by omega⟩
  have f18 := LZ' n 262144 δ
  have w18 : IntKind.u8.wrap (o' (n / 262144)) = o' (n / 262144) := by rw [u8wr, Nat.mod_eq_of_lt ω]
  have hm3 : n / 4096 % 256 % 64 = n / 4096 % 64 := ω
  have a63c := V6' ⟨n / 4096 % 256, by omega⟩
  have o128c := UF' ⟨n / 4096 % 64, by omega⟩
  simp only [hm3] at a63c o128c; have f12 := LZ' n 4096 δ; have w12 := u8wr (n / 4096); simp only at o240
  refine AN' [1101, 1102] rfl (fun _ _ => noC) (fun _ _ => noL) fun F => Yj (jY' n (n / 262144) (n / 4096) (n / 4096 % 256) (n / 4096 % 64) (n / 64) (n / 64 % 256) (n / 64 % 64) (n % 256) (n % 64) (240 + n / 262144).toUInt8 (128 + n / 4096 % 64).toUInt8 (128 + n / 64 % 64).toUInt8 (128 + n % 64).toUInt8 F) ⟨⟨?_, (CX' (L := [(240 + n / 262144).toUInt8, (128 + n / 4096 % 64).toUInt8, (128 + n / 64 % 64).toUInt8, (128 + n % 64).toUInt8]) rfl rfl)⟩⟩
  simp only [ch', bl', true_and, and_true]; and_intros; all_goals first | exact wk_k hu | exact A0' (leN (decide_eq_false ω)) | exact A0' (leN (decide_eq_true ω)) | exact A0' (ltN (decide_eq_true ω)) | exact A0' (ltN (decide_eq_false ω)) | exact A0' (gtN (decide_eq_true ω)) | exact wk_k f18 | exact wk_k w18 | exact wk_k f12 | exact wk_k w12 | exact wk_k f64 | exact wk_k w64 | exact wk_k (o240.trans (toU8 ω).symm) | exact wk_k (u8wr n) | exact wk_k a63 | exact wk_k a63b | exact wk_k a63c | exact wk_k (o128.trans (toU8 ω).symm) | exact wk_k (o128b.trans (toU8 ω).symm) | exact wk_k (o128c.trans (toU8 ω).symm) | exact Kb0'
theorem o2' (n : Nat) (P : Γ) (p : Nat) (hP : P.length = p) (hp : p <= 1000000) (hn : okR n) : Tri Θ default fAR [sB 1001 p, i32v n] [(1001, rB P)] (sB 1001 (P ++ utf n).length) [(1001, rB (P ++ utf n))] := by
 unfold okR at hn; have hu : IntKind.u32.wrap (o' n) = o' n := u32wr ω
 have hm : n % 256 % 64 = n % 64 := ω
 have a63 := V6' ⟨n % 256, by omega⟩
 have o128 := UF' ⟨n % 64, by omega⟩
 simp only [hm] at a63 o128
 by_cases h1 : n < 128
 ·rw [utf1 h1]; have hroom := EN' hP hp (k := 1) δ
  refine AN' [1101, 1102] rfl (fun _ _ => noC) (fun _ _ => noL) fun F => Yj (kD' P p n n.toUInt8 F) ⟨⟨?_, (CX' (L := P ++ [n.toUInt8]) (by rw [la', hP]; rfl) (DL' hP [n.toUInt8]))⟩⟩
  have hb : IntKind.u8.wrap (o' n) = ((n.toUInt8).toNat : Int) := by rw [u8wr, toU8 ω, Nat.mod_eq_of_lt ω]
  simp only [ch', bl', true_and, and_true]; and_intros; all_goals first | exact wk_k hu | exact A0' (leN (decide_eq_true ω)) | exact wk_k hb | exact Kb29'
 by_cases h2 : n < 2048
 ·rw [utf2 h1 h2]
  have o192 := or192 ⟨n / 64, by omega⟩
  have f64 := LZ' n 64 δ
  have w64 : IntKind.u8.wrap (o' (n / 64)) = o' (n / 64) := by rw [u8wr, Nat.mod_eq_of_lt ω]
  simp only at o192; have hroom := EN' hP hp (k := 2) δ
  refine AN' [1101, 1102] rfl (fun _ _ => noC) (fun _ _ => noL) fun F => Yj (kB' P p n (n / 64) (n % 256) (n % 64) (192 + n / 64).toUInt8 (128 + n % 64).toUInt8 F) ⟨⟨?_, (CX' (L := P ++ [(192 + n / 64).toUInt8, (128 + n % 64).toUInt8]) (by rw [la', hP]; rfl) (DL' hP [(192 + n / 64).toUInt8, (128 + n % 64).toUInt8]))⟩⟩
  simp only [ch', bl', true_and, and_true]; and_intros; all_goals first | exact wk_k hu | exact A0' (leN (decide_eq_true ω)) | exact A0' (leN (decide_eq_false ω)) | exact wk_k f64 | exact wk_k w64 | exact wk_k (o192.trans (toU8 ω).symm) | exact wk_k (u8wr n) | exact wk_k a63 | exact wk_k (o128.trans (toU8 ω).symm) | exact Kb29'
 have hm2 : n / 64 % 256 % 64 = n / 64 % 64 := ω
 have a63b := V6' ⟨n / 64 % 256, by omega⟩
 have o128b := UF' ⟨n / 64 % 64, by omega⟩
 simp only [hm2] at a63b o128b; have f64 := LZ' n 64 δ; have w64 := u8wr (n / 64)
 by_cases h3 : n < 65536
 ·rw [utf3 h1 h2 h3]
  have o224 := or224 ⟨n / 4096, by omega⟩
  have f12 := LZ' n 4096 δ
  have w12 : IntKind.u8.wrap (o' (n / 4096)) = o' (n / 4096) := by rw [u8wr, Nat.mod_eq_of_lt ω]
  simp only at o224; have hroom := EN' hP hp (k := 3) δ
  by_cases h55 : n < 55296
  ·refine AN' [1101, 1102] rfl (fun _ _ => noC) (fun _ _ => noL) fun F => Yj (k7' P p n (n / 4096) (n / 64) (n / 64 % 256) (n / 64 % 64) (n % 256) (n % 64) (224 + n / 4096).toUInt8 (128 + n / 64 % 64).toUInt8 (128 + n % 64).toUInt8 F) ⟨⟨?_, (CX' (L := P ++ [(224 + n / 4096).toUInt8, (128 + n / 64 % 64).toUInt8, (128 + n % 64).toUInt8]) (by rw [la', hP]; rfl) (DL' hP [(224 + n / 4096).toUInt8, (128 + n / 64 % 64).toUInt8, (128 + n % 64).toUInt8]))⟩⟩
   simp only [ch', bl', true_and, and_true]; and_intros; all_goals first | exact wk_k hu | exact A0' (leN (decide_eq_false ω)) | exact A0' (ltN (decide_eq_true ω)) | exact Kb11'
  ·refine AN' [1101, 1102] rfl (fun _ _ => noC) (fun _ _ => noL) fun F => Yj (k5' P p n (n / 4096) (n / 64) (n / 64 % 256) (n / 64 % 64) (n % 256) (n % 64) (224 + n / 4096).toUInt8 (128 + n / 64 % 64).toUInt8 (128 + n % 64).toUInt8 F) ⟨⟨?_, (CX' (L := P ++ [(224 + n / 4096).toUInt8, (128 + n / 64 % 64).toUInt8, (128 + n % 64).toUInt8]) (by rw [la', hP]; rfl) (DL' hP [(224 + n / 4096).toUInt8, (128 + n / 64 % 64).toUInt8, (128 + n % 64).toUInt8]))⟩⟩
   simp only [ch', bl', true_and, and_true]; and_intros; all_goals first | exact wk_k hu | exact A0' (leN (decide_eq_false ω)) | exact A0' (leN (decide_eq_true ω)) | exact A0' (ltN (decide_eq_true ω)) | exact A0' (ltN (decide_eq_false ω)) | exact Kb11'
 ·rw [utf4 h1 h2 h3]
  have o240 := or240 ⟨n / 262144, by omega⟩
  have f18 := LZ' n 262144 δ
  have w18 : IntKind.u8.wrap (o' (n / 262144)) = o' (n / 262144) := by rw [u8wr, Nat.mod_eq_of_lt ω]
  have hm3 : n / 4096 % 256 % 64 = n / 4096 % 64 := ω
  have a63c := V6' ⟨n / 4096 % 256, by omega⟩
  have o128c := UF' ⟨n / 4096 % 64, by omega⟩
  simp only [hm3] at a63c o128c; have f12 := LZ' n 4096 δ; have w12 := u8wr (n / 4096); simp only at o240; have hroom := EN' hP hp (k := 4) δ
  refine AN' [1101, 1102] rfl (fun _ _ => noC) (fun _ _ => noL) fun F => Yj (jZ' P p n (n / 262144) (n / 4096) (n / 4096 % 256) (n / 4096 % 64) (n / 64) (n / 64 % 256) (n / 64 % 64) (n % 256) (n % 64) (240 + n / 262144).toUInt8 (128 + n / 4096 % 64).toUInt8 (128 + n / 64 % 64).toUInt8 (128 + n % 64).toUInt8 F) ⟨⟨?_, (CX' (L := P ++ [(240 + n / 262144).toUInt8, (128 + n / 4096 % 64).toUInt8, (128 + n / 64 % 64).toUInt8, (128 + n % 64).toUInt8]) (by rw [la', hP]; rfl) (DL' hP [(240 + n / 262144).toUInt8, (128 + n / 4096 % 64).toUInt8, (128 + n / 64 % 64).toUInt8, (128 + n % 64).toUInt8]))⟩⟩
  simp only [ch', bl', true_and, and_true]; and_intros; all_goals first | exact wk_k hu | exact A0' (leN (decide_eq_false ω)) | exact A0' (leN (decide_eq_true ω)) | exact A0' (ltN (decide_eq_true ω)) | exact A0' (ltN (decide_eq_false ω)) | exact A0' (gtN (decide_eq_true ω)) | exact wk_k f18 | exact wk_k w18 | exact wk_k f12 | exact wk_k w12 | exact wk_k f64 | exact wk_k w64 | exact wk_k (o240.trans (toU8 ω).symm) | exact wk_k (u8wr n) | exact wk_k a63 | exact wk_k a63b | exact wk_k a63c | exact wk_k (o128.trans (toU8 ω).symm) | exact wk_k (o128b.trans (toU8 ω).symm) | exact wk_k (o128c.trans (toU8 ω).symm) | exact Kb29'
noncomputable section
abbrev fEsc : Nat := 61
structure HS extends RS where
 m : Nat
def gHex : List AV -> AP HS := fun args => match args with
 | [.ptr a _, .v (.int .i64 z)] => match z with
  | .ofNat m => (gRS a).bind fun p => .ret ⟨p, m⟩
  | _ => .fail "place"
 | _ => .fail "hex"
def cHex : List AV -> Option (AP AV) := mkC gHex (fun p => Few p.s.size /\ Few p.m) (fun p => nmR p.toRS) (fun p => [.ptr 0 0, iv (o' p.m)]) (fun p => oR p.s p.i) (fun p => .leaf .ret [hexT (hexA (bts p.s) p.m)] (oR p.s p.i))
def gARz : List AV -> AP Nat := fun args => match args with
 | [_, .v (.int .i32 z)] => match z with
  | .ofNat n => .ret n
  | _ => .fail "rune"
 | _ => .fail "rune"
def cARz : List AV -> Option (AP AV) := mkC gARz okR (fun _ k => k) (fun n => [nilS, i32v n]) (fun _ => []) (fun n => .leaf .ret [sB 1001 (utf n).length] [(1001, rB (utf n))])
def gARo : List AV -> AP (Nat × Nat) := fun args => match args with
 | [.slice a _ _ _ _, .v (.int .i32 z)] => match z with
  | .ofNat n => .ret (n, a)
  | _ => .fail "rune"
 | _ => .fail "rune"
def nmA (a : Nat) : Nat -> Nat := fun k => match Nat.beq k 1001 with
 | true => a
 | false => k
def cARo (P : Γ) (p : Nat) : List AV -> Option (AP AV) := mkC gARo (fun q => okR q.1 /\ P.length = p /\ p <= 1000000) (fun q => nmA q.2) (fun q => [sB 1001 p, i32v q.1]) (fun _ => [(1001, rB P)]) (fun q => .leaf .ret [sB 1001 (P ++ utf q.1).length] [(1001, rB (P ++ utf q.1))])
def conE (c : Nat) : CV' := [(fGv, cGv c), (HT', HV'), (fHex, cHex), (eU', fA'), (fAR, cARz)]
def UW' (c : Nat) (P : Γ) (p : Nat) : CV' := [(fGv, cGv c), (HT', HV'), (fHex, cHex), (eU', fA'), (fAR, cARo P p)]
def oUo (s : Δ) (i : Nat) (P : Γ) : LH := [(0, rdO s i), (999, upO), (1001, rB P)]
def hE0 (x : UInt8) (i : Nat) (q0 qs : Bool) : List (FuncId × Nat × Nat × Hint) := [(fEsc, 1, 9, hv (.lit q0)), (fEsc, 3, 8, h0v (byv x)), (fEsc, 4, 4, hv (iv (o' (i + 1)))), (fEsc, 6, 1, hv (.lit qs))]
def hE1 (x : UInt8) (i n : Nat) (p1 p2 : Bool) : List (FuncId × Nat × Nat × Hint) := hE0 x i false false ++ [(fEsc, 8, 5, hv (.tuple [iv (o' n), bv true])), hf' fEsc 9 1, hf' fEsc 9 4, (fEsc, 11, 4, hv (iv (o' (i + 5)))), (fEsc, 12, 1, hv (.lit p1)), (fEsc, 12, 4, hv (.lit p2)), (fEsc, 13, 2, hv (i32v n))]
def hE2 (t : Δ) (x : UInt8) (i n lo : Nat) (b2 : Bool) : List (FuncId × Nat × Nat × Hint) := hE1 x i n false false ++ [(fEsc, 14, 5, hv (iv (o' (i + 7)))), (fEsc, 14, 6, hv (.tuple [iv (o' lo), bv b2])), (fEsc, 15, 14, h0v (sv t))]
abbrev k95' (q0 : Nat) (q1 : Δ) : Cnd := (wb' (o' q0 == ↑q1.size) j')
theorem R1' (W : World) (s : Δ) (x : UInt8) (i c : Nat) (F : HP) : uRun (trb c) (conE c) (AD' (hE0 x i true true)) [] W fEsc [.ptr 0 0, .any] (oU s i) [0, 999, 1101, 1102] F = VT.leaf (e') [some (ce' [s' s,i' i] 114),some (AO.own Md.nothing noH),none,none] 1100 (h11' i s ((k95' i s).a ((k50' c).a (k49'.a k1')))) := χ
abbrev y7' : Δ := ByteArray.mk (Array.mk [34, 92, 47, 98, 102, 110, 114, 116])
abbrev k96' (q0 : Nat) : Cnd := ((p' (232 = q0 /\ 232 <= 255)).a ((vw' [i' 232]).a (f' (OW Ω Ω))))
abbrev k97' (q0 : Nat) : Cnd := (ee' (i' (q0 + 1)))
abbrev k98' (q0 : UInt8) : Cnd := (wb' (decide (idxC y7' ↑q0.toNat >= o' 0)) g')
abbrev h99' (q0 : Nat) (q1 : Δ) (q2 : UInt8) (z : Cnd) : Cnd := ((ee' (i' q0)).a ((ee' (s' q1)).a ((wb' (o' q0 == ↑q1.size) g').a ((ee' (s' q1)).a ((ee' (i' q0)).a (((p' (q0 < q1.size)).a (f' (Wk (v' (vi' u8' ↑(q1.data.toList.getD q0 0).toNat)) (v' (vi' u8' ↑q2.toNat))))).a ((ee' (i' q0)).a ((f' (Wk (z' (IntKind.i64.wrap (o' q0 + o' 1))) (i' (q0 + 1)))).a ((fe' true).a z)))))))))
theorem MM' (W : World) (s : Δ) (x : UInt8) (i n c : Nat) (b1 : Bool) (F : HP) : uRun (trb c) (conE c) (AD' (hE0 x i false false ++ [(fEsc, 8, 5, hv (.tuple [iv (o' n), bv b1])), ht' fEsc 9 1])) [] W fEsc [.ptr 0 0, .any] (oU s i) [0, 999, 1101, 1102] F = VT.leaf (e') [some (ce' [s' s,i' (i + 1)] 114),some (AO.own Md.nothing noH),none,none] 1100 (h99' i s x (k55'.a ((k98' x).a ((k97' i).a (((p' (Few s.size /\ Few (i + 1))).a ((vw' [pt' 0 0,i' (i + 1)]).a ((ow' (ce' [s' s,i' (i + 1)] 114)).a (f' (Wk (AV.tuple [i' ((hexA (bts s) (i + 1)).getD 0),v' (vb' (hexA (bts s) (i + 1)).isSome)]) (AV.tuple [i' n,b' b1])))))).a ((wb' (↑x.toNat != o' 117) j').a ((k96' c).a (k49'.a k1')))))))) := χ
theorem UJ' (W : World) (s : Δ) (x : UInt8) (i n c : Nat) (F : HP) : uRun (trb c) (conE c) (AD' (hE0 x i false false ++ [(fEsc, 8, 5, hv (.tuple [iv (o' n), bv false])), hf' fEsc 9 1, ht' fEsc 9 4])) [] W fEsc [.ptr 0 0, .any] (oU s i) [0, 999, 1101, 1102] F = VT.leaf (e') [some (ce' [s' s,i' (i + 1)] 114),some (AO.own Md.nothing noH),none,none] 1100 (h99' i s x (k55'.a ((k98' x).a ((k97' i).a (((p' (Few s.size /\ Few (i + 1))).a ((vw' [pt' 0 0,i' (i + 1)]).a ((ow' (ce' [s' s,i' (i + 1)] 114)).a (f' (Wk (AV.tuple [i' ((hexA (bts s) (i + 1)).getD 0),v' (vb' (hexA (bts s) (i + 1)).isSome)]) (AV.tuple [i' n,b' false])))))).a ((wb' (↑x.toNat != o' 117) g').a (k86'.a ((k96' c).a (k49'.a k1'))))))))) := χ
abbrev k100' (q0 : Nat) (q1 : UInt8) : Cnd := ((p' (q0 < 8)).a (f' (Wk (v' (vi' u8' ↑(([34,92,47,8,12,10,13,9] : Γ).getD q0 0).toNat)) (v' (vi' u8' ↑q1.toNat)))))
abbrev k101' (q0 : UInt8) (q1 : Nat) : Cnd := ((p' True).a (f' (Wk (z' (idxC y7' ↑q0.toNat)) (i' q1))))
theorem lM' (W : World) (s : Δ) (x y : UInt8) (i k c : Nat) (F : HP) : uRun (trb c) (conE c) (AD' (hE0 x i false true ++ [(fEsc, 5, 1, hv (iv (o' k))), (fEsc, 7, 2, h0v (byv y))])) [] W fEsc [.ptr 0 0, nilS] (oU s i) [0, 999, 1101, 1102] F = VT.leaf (AV.slice 1101 0 1 1 (Cp.lo 1)) [some (ce' [s' s,i' (i + 1)] 114),some Ω,some (ce' [v' (vi' u8' ↑y.toNat)] 10),none] 1102 (h99' i s x ((k101' x k).a (k86'.a ((k100' k y).a (k89'.a k1'))))) := χ
theorem lN' (W : World) (s : Δ) (P : Γ) (p : Nat) (x y : UInt8) (i k c : Nat) (F : HP) : uRun (trb c) (UW' c P p) (AD' (hE0 x i false true ++ [(fEsc, 5, 1, hv (iv (o' k))), (fEsc, 7, 2, h0v (byv y))])) [] W fEsc [.ptr 0 0, sB 1001 p] (oUo s i P) [0, 999, 1101, 1102] F = VT.leaf (AV.slice 1101 0 (p + 1) 1 (Cp.lo (p + 1))) [some (ce' [s' s,i' (i + 1)] 114),some Ω,some (ce' (List.take (p * 1) (List.drop 0 (rowV encB P)) ++ [v' (vi' u8' ↑y.toNat)]) 10),none] 1102 (h99' i s x ((k101' x k).a (k86'.a ((k100' k y).a ((k93' p P).a k1'))))) := χ
end
noncomputable section
abbrev k102' (q0 : Nat) : Cnd := ((p' (okR q0)).a (f' (VW [e',v' (vi' IntKind.i32 (o' q0))] [e',v' (vi' IntKind.i32 (o' q0))])))
abbrev k103' (q0 : Nat) : Cnd := (f' (Wk (v' (vi' IntKind.i32 (IntKind.i32.wrap (o' q0)))) (v' (vi' IntKind.i32 (o' q0)))))
abbrev k104' (q0 : Nat) : Cnd := (wb' (decide (o' q0 < o' 55296)) j')
abbrev h105' (q0 : Nat) (q1 : Δ) (q2 : UInt8) (q3 : Nat) (z : Cnd) : Cnd := ((ee' (i' q0)).a ((ee' (s' q1)).a ((wb' (o' q0 == ↑q1.size) g').a ((ee' (s' q1)).a ((ee' (i' q0)).a (((p' (q0 < q1.size)).a (f' (Wk (v' (vi' u8' ↑(q1.data.toList.getD q0 0).toNat)) (v' (vi' u8' ↑q2.toNat))))).a ((ee' (i' q0)).a ((f' (Wk (z' (IntKind.i64.wrap (o' q0 + o' 1))) (i' (q0 + 1)))).a ((fe' true).a (((p' True).a t').a ((wb' (decide (idxC y7' ↑q2.toNat >= o' 0)) g').a ((ee' (i' (q0 + 1))).a (((p' (Few q1.size /\ Few (q0 + 1))).a ((vw' [pt' 0 0,i' (q0 + 1)]).a ((ow' (ce' [s' q1,i' (q0 + 1)] 114)).a (f' (Wk (AV.tuple [i' ((hexA (bts q1) (q0 + 1)).getD 0),v' (vb' (hexA (bts q1) (q0 + 1)).isSome)]) (AV.tuple [i' q3,b' true])))))).a ((wb' (↑q2.toNat != o' 117) g').a ((f' (Wk (b' false) g')).a ((ee' (i' (q0 + 1))).a ((f' (Wk (z' (IntKind.i64.wrap (o' (q0 + 1) + o' 4))) (i' (q0 + 5)))).a ((fe' true).a z))))))))))))))))))
theorem Y4' (W : World) (s : Δ) (x : UInt8) (i n c : Nat) (F : HP) : uRun (trb c) (conE c) (AD' (hE1 x i n true false)) [] W fEsc [.ptr 0 0, nilS] (oU s i) [0, 999, 1100, 1101] F = VT.leaf (AV.slice 1100 0 (utf n).length 1 (Cp.lo (utf n).length)) [some (ce' [s' s,i' (i + 5)] 114),some Ω,some (ce' (AV.rens (sgN (fun k => k) [1001] 1100) (rowV encB (utf n))) 10),none] 1101 (h105' i s x n ((k104' n).a ((k103' n).a ((k102' n).a k1')))) := χ
abbrev mP' (q0 : Nat) (q1 : Γ) (q2 q3 : Nat) (z : Cnd) : Cnd := ((f' (Wk (v' (vi' IntKind.i32 (IntKind.i32.wrap (o' q0)))) (v' (vi' IntKind.i32 (o' q0))))).a (((p' (okR q0 /\ q1.length = q2 /\ q2 <= 1000000)).a ((vw' [AV.slice q3 0 q2 1 (Cp.lo q2),v' (vi' IntKind.i32 (o' q0))]).a (f' (OW (ce' (rowV encB q1) 10) (ce' (AV.rens (nmA q3) (rowV encB q1)) 10))))).a z))
theorem Y5' (W : World) (s : Δ) (P : Γ) (p : Nat) (x : UInt8) (i n c : Nat) (F : HP) : uRun (trb c) (UW' c P p) (AD' (hE1 x i n true false)) [] W fEsc [.ptr 0 0, sB 1001 p] (oUo s i P) [0, 999, 1100, 1101] F = VT.leaf (AV.slice 1100 0 (P ++ utf n).length 1 (Cp.lo (P ++ utf n).length)) [some (ce' [s' s,i' (i + 5)] 114),some Ω,some (ce' (AV.rens (sgN (nmA 1001) [1001] 1100) (rowV encB (P ++ utf n))) 10),none] 1101 (h105' i s x n ((k104' n).a (mP' n P p 1001 k1'))) := χ
abbrev k107' (q0 : Nat) : Cnd := (wb' (decide (o' q0 > o' 57343)) j')
abbrev h108' (q0 : Nat) (q1 : Δ) (q2 : UInt8) (q3 : Nat) (z : Cnd) : Cnd := ((ee' (i' q0)).a ((ee' (s' q1)).a ((wb' (o' q0 == ↑q1.size) g').a ((ee' (s' q1)).a ((ee' (i' q0)).a (((p' (q0 < q1.size)).a (f' (Wk (v' (vi' u8' ↑(q1.data.toList.getD q0 0).toNat)) (v' (vi' u8' ↑q2.toNat))))).a ((ee' (i' q0)).a ((f' (Wk (z' (IntKind.i64.wrap (o' q0 + o' 1))) (i' (q0 + 1)))).a ((fe' true).a (((p' True).a t').a ((wb' (decide (idxC y7' ↑q2.toNat >= o' 0)) g').a ((ee' (i' (q0 + 1))).a (((p' (Few q1.size /\ Few (q0 + 1))).a ((vw' [pt' 0 0,i' (q0 + 1)]).a ((ow' (ce' [s' q1,i' (q0 + 1)] 114)).a (f' (Wk (AV.tuple [i' ((hexA (bts q1) (q0 + 1)).getD 0),v' (vb' (hexA (bts q1) (q0 + 1)).isSome)]) (AV.tuple [i' q3,b' true])))))).a ((wb' (↑q2.toNat != o' 117) g').a ((f' (Wk (b' false) g')).a ((ee' (i' (q0 + 1))).a ((f' (Wk (z' (IntKind.i64.wrap (o' (q0 + 1) + o' 4))) (i' (q0 + 5)))).a ((fe' true).a ((wb' (decide (o' q3 < o' 55296)) g').a z)))))))))))))))))))
theorem Y2' (W : World) (s : Δ) (x : UInt8) (i n c : Nat) (F : HP) : uRun (trb c) (conE c) (AD' (hE1 x i n false true)) [] W fEsc [.ptr 0 0, nilS] (oU s i) [0, 999, 1100, 1101] F = VT.leaf (AV.slice 1100 0 (utf n).length 1 (Cp.lo (utf n).length)) [some (ce' [s' s,i' (i + 5)] 114),some Ω,some (ce' (AV.rens (sgN (fun k => k) [1001] 1100) (rowV encB (utf n))) 10),none] 1101 (h108' i s x n ((k107' n).a ((k103' n).a ((k102' n).a k1')))) := χ
theorem Y3' (W : World) (s : Δ) (P : Γ) (p : Nat) (x : UInt8) (i n c : Nat) (F : HP) : uRun (trb c) (UW' c P p) (AD' (hE1 x i n false true)) [] W fEsc [.ptr 0 0, sB 1001 p] (oUo s i P) [0, 999, 1100, 1101] F = VT.leaf (AV.slice 1100 0 (P ++ utf n).length 1 (Cp.lo (P ++ utf n).length)) [some (ce' [s' s,i' (i + 5)] 114),some Ω,some (ce' (AV.rens (sgN (nmA 1001) [1001] 1100) (rowV encB (P ++ utf n))) 10),none] 1101 (h108' i s x n ((k107' n).a (mP' n P p 1001 k1'))) := χ
end
noncomputable section
def hE3 (i a b d e r : Nat) : List (FuncId × Nat × Nat × Hint) := [ht' fEsc 15 1, ht' fEsc 15 3, ht' fEsc 15 15, ht' fEsc 15 19, ht' fEsc 15 23, (fEsc, 16, 4, hv (iv (o' (i + 11)))), (fEsc, 17, 2, hv (iv (o' a))), (fEsc, 17, 3, hv (iv (o' b))), (fEsc, 17, 4, hv (iv (o' d))), (fEsc, 17, 6, hv (iv (o' e))), (fEsc, 17, 7, hv (iv (o' r))), (fEsc, 17, 8, hv (i32v r))]
abbrev y8' : Δ := ByteArray.mk (Array.mk [92, 117])
abbrev k109' (q0 q1 : Nat) : Cnd := (f' (Wk (z' (IntKind.i64.wrap (o' q0 - o' 56320))) (i' q1)))
abbrev k110' (q0 q1 q2 : Nat) : Cnd := (f' (Wk (z' (IntKind.i64.wrap (o' q0 + o' q1))) (i' q2)))
abbrev k111' (q0 q1 : Nat) : Cnd := (f' (Wk (z' (IntKind.i64.wrap (o' 65536 + o' q0))) (i' q1)))
abbrev k112' (q0 q1 q2 : Nat) : Cnd := (f' (Wk (z' (IntKind.i64.wrap (o' q0 * o' q1))) (i' q2)))
abbrev k113' (q0 q1 : Nat) : Cnd := (f' (Wk (z' (IntKind.i64.wrap (o' q0 - o' 55296))) (i' q1)))
abbrev k114' (q0 : Nat) : Cnd := (f' (Wk (z' (IntKind.i64.wrap (o' (q0 + 5) + o' 6))) (i' (q0 + 11))))
abbrev k115' (q0 : Nat) : Cnd := (ee' (i' (q0 + 5)))
abbrev k116' (q0 : Nat) : Cnd := (wb' (decide (o' q0 <= o' 57343)) j')
abbrev mO' (q0 : Nat) (q1 : Δ) (q2 : UInt8) (q3 q4 : Nat) (q5 : Δ) (z : Cnd) : Cnd := ((ee' (i' q0)).a ((ee' (s' q1)).a ((wb' (o' q0 == ↑q1.size) g').a ((ee' (s' q1)).a ((ee' (i' q0)).a (((p' (q0 < q1.size)).a (f' (Wk (v' (vi' u8' ↑(q1.data.toList.getD q0 0).toNat)) (v' (vi' u8' ↑q2.toNat))))).a ((ee' (i' q0)).a ((f' (Wk (z' (IntKind.i64.wrap (o' q0 + o' 1))) (i' (q0 + 1)))).a ((fe' true).a (((p' True).a t').a ((wb' (decide (idxC y7' ↑q2.toNat >= o' 0)) g').a ((ee' (i' (q0 + 1))).a (((p' (Few q1.size /\ Few (q0 + 1))).a ((vw' [pt' 0 0,i' (q0 + 1)]).a ((ow' (ce' [s' q1,i' (q0 + 1)] 114)).a (f' (Wk (AV.tuple [i' ((hexA (bts q1) (q0 + 1)).getD 0),v' (vb' (hexA (bts q1) (q0 + 1)).isSome)]) (AV.tuple [i' q3,b' true])))))).a ((wb' (↑q2.toNat != o' 117) g').a ((f' (Wk (b' false) g')).a ((ee' (i' (q0 + 1))).a ((f' (Wk (z' (IntKind.i64.wrap (o' (q0 + 1) + o' 4))) (i' (q0 + 5)))).a ((fe' true).a ((wb' (decide (o' q3 < o' 55296)) g').a ((wb' (decide (o' q3 > o' 57343)) g').a ((ee' (i' (q0 + 5))).a ((f' (Wk (z' (IntKind.i64.wrap (o' (q0 + 5) + o' 2))) (i' (q0 + 7)))).a (((p' (Few q1.size /\ Few (q0 + 7))).a ((vw' [pt' 0 0,i' (q0 + 7)]).a ((ow' (ce' [s' q1,i' (q0 + 5)] 114)).a (f' (Wk (AV.tuple [i' ((hexA (bts q1) (q0 + 7)).getD 0),v' (vb' (hexA (bts q1) (q0 + 7)).isSome)]) (AV.tuple [i' q4,b' true])))))).a ((wb' (decide (o' q3 < o' 56320)) j').a ((f' (Wk (b' true) j')).a ((ee' (s' q1)).a ((ee' (i' (q0 + 5))).a (((p' (q0 + 5 <= q1.size)).a ((p' (q1.size <= q1.size)).a (f' (Wk (s' (q1.extract (q0 + 5) q1.size)) (s' q5))))).a (((p' True).a (wb' (hasP q5 y8') j')).a ((wb' (decide (o' q4 >= o' 56320)) j').a z))))))))))))))))))))))))))))))
theorem dE' (W : World) (s t : Δ) (x : UInt8) (i n lo a b d e r c : Nat) (F : HP) : uRun (trb c) (conE c) (AD' (hE2 t x i n lo true ++ hE3 i a b d e r)) [] W fEsc [.ptr 0 0, nilS] (oU s i) [0, 999, 1100, 1101] F = VT.leaf (AV.slice 1100 0 (utf r).length 1 (Cp.lo (utf r).length)) [some (ce' [s' s,i' (i + 11)] 114),some Ω,some (ce' (AV.rens (sgN (fun k => k) [1001] 1100) (rowV encB (utf r))) 10),none] 1101 (mO' i s x n lo t ((k116' lo).a ((k115' i).a ((k114' i).a (k40'.a ((k113' n a).a ((k112' a 1024 b).a ((k111' b d).a ((k110' d lo e).a ((k109' e r).a ((k103' r).a ((k102' r).a k1')))))))))))) := χ
theorem dF' (W : World) (s t : Δ) (P : Γ) (p : Nat) (x : UInt8) (i n lo a b d e r c : Nat) (F : HP) : uRun (trb c) (UW' c P p) (AD' (hE2 t x i n lo true ++ hE3 i a b d e r)) [] W fEsc [.ptr 0 0, sB 1001 p] (oUo s i P) [0, 999, 1100, 1101] F = VT.leaf (AV.slice 1100 0 (P ++ utf r).length 1 (Cp.lo (P ++ utf r).length)) [some (ce' [s' s,i' (i + 11)] 114),some Ω,some (ce' (AV.rens (sgN (nmA 1001) [1001] 1100) (rowV encB (P ++ utf r))) 10),none] 1101 (mO' i s x n lo t ((k116' lo).a ((k115' i).a ((k114' i).a (k40'.a ((k113' n a).a ((k112' a 1024 b).a ((k111' b d).a ((k110' d lo e).a ((k109' e r).a (mP' r P p 1001 k1'))))))))))) := χ
end
noncomputable section
abbrev YZ' (q0 q1 : Nat) (z : Cnd) : Cnd := ((wb' (decide (o' q0 < o' 56448)) j').a (((p' (233 = q1 /\ 233 <= 255)).a ((vw' [i' 233]).a (f' (OW Ω Ω)))).a ((p' (∀ (a b : Nat) (D : Nat -> Prop) (w : World),¬(noH a b).on D w)).a z)))
theorem dL' (W : World) (s t : Δ) (x : UInt8) (i n lo c : Nat) (b2 : Bool) (F : HP) : uRun (trb c) (conE c) (AD' (hE2 t x i n lo b2 ++ [hf' fEsc 15 1, ht' fEsc 18 1])) [] W fEsc [.ptr 0 0, .any] (oU s i) [0, 999, 1101, 1102] F = VT.leaf (e') [some (ce' [s' s,i' (i + 5)] 114),some (AO.own Md.nothing noH),none,none] 1100 ((k12' i).a ((k51' s).a ((wb' (o' i == ↑s.size) g').a ((k51' s).a ((k12' i).a (((p' (i < s.size)).a (f' (Wk (v' (vi' u8' ↑(s.data.toList.getD i 0).toNat)) (v' (vi' u8' ↑x.toNat))))).a ((k12' i).a ((k59' i).a (k40'.a (k55'.a ((k98' x).a ((k97' i).a (((p' (Few s.size /\ Few (i + 1))).a ((vw' [pt' 0 0,i' (i + 1)]).a ((ow' (ce' [s' s,i' (i + 1)] 114)).a (f' (Wk (AV.tuple [i' ((hexA (bts s) (i + 1)).getD 0),v' (vb' (hexA (bts s) (i + 1)).isSome)]) (AV.tuple [i' n,b' true])))))).a ((wb' (↑x.toNat != o' 117) g').a (k78'.a ((k97' i).a ((f' (Wk (z' (IntKind.i64.wrap (o' (i + 1) + o' 4))) (i' (i + 5)))).a (k40'.a ((wb' (decide (o' n < o' 55296)) g').a ((wb' (decide (o' n > o' 57343)) g').a ((k115' i).a ((f' (Wk (z' (IntKind.i64.wrap (o' (i + 5) + o' 2))) (i' (i + 7)))).a (((p' (Few s.size /\ Few (i + 7))).a ((vw' [pt' 0 0,i' (i + 7)]).a ((ow' (ce' [s' s,i' (i + 5)] 114)).a (f' (Wk (AV.tuple [i' ((hexA (bts s) (i + 7)).getD 0),v' (vb' (hexA (bts s) (i + 7)).isSome)]) (AV.tuple [i' lo,b' b2])))))).a ((wb' (decide (o' n < o' 56320)) g').a (YZ' n c k1'))))))))))))))))))))))))) := χ
theorem dK' (W : World) (s t : Δ) (x : UInt8) (i n lo c : Nat) (F : HP) : uRun (trb c) (conE c) (AD' (hE2 t x i n lo false ++ [ht' fEsc 15 1, hf' fEsc 15 3, ht' fEsc 18 1])) [] W fEsc [.ptr 0 0, .any] (oU s i) [0, 999, 1101, 1102] F = VT.leaf (e') [some (ce' [s' s,i' (i + 5)] 114),some (AO.own Md.nothing noH),none,none] 1100 ((k12' i).a ((k51' s).a ((wb' (o' i == ↑s.size) g').a ((k51' s).a ((k12' i).a (((p' (i < s.size)).a (f' (Wk (v' (vi' u8' ↑(s.data.toList.getD i 0).toNat)) (v' (vi' u8' ↑x.toNat))))).a ((k12' i).a ((k59' i).a (k40'.a (k55'.a ((k98' x).a ((k97' i).a (((p' (Few s.size /\ Few (i + 1))).a ((vw' [pt' 0 0,i' (i + 1)]).a ((ow' (ce' [s' s,i' (i + 1)] 114)).a (f' (Wk (AV.tuple [i' ((hexA (bts s) (i + 1)).getD 0),v' (vb' (hexA (bts s) (i + 1)).isSome)]) (AV.tuple [i' n,b' true])))))).a ((wb' (↑x.toNat != o' 117) g').a (k78'.a ((k97' i).a ((f' (Wk (z' (IntKind.i64.wrap (o' (i + 1) + o' 4))) (i' (i + 5)))).a (k40'.a ((wb' (decide (o' n < o' 55296)) g').a ((wb' (decide (o' n > o' 57343)) g').a ((k115' i).a ((f' (Wk (z' (IntKind.i64.wrap (o' (i + 5) + o' 2))) (i' (i + 7)))).a (((p' (Few s.size /\ Few (i + 7))).a ((vw' [pt' 0 0,i' (i + 7)]).a ((ow' (ce' [s' s,i' (i + 5)] 114)).a (f' (Wk (AV.tuple [i' ((hexA (bts s) (i + 7)).getD 0),v' (vb' (hexA (bts s) (i + 7)).isSome)]) (AV.tuple [i' lo,b' false])))))).a ((wb' (decide (o' n < o' 56320)) j').a (k78'.a (YZ' n c k1')))))))))))))))))))))))))) := χ
theorem dJ' (W : World) (s t : Δ) (x : UInt8) (i n lo c : Nat) (F : HP) : uRun (trb c) (conE c) (AD' (hE2 t x i n lo true ++ [ht' fEsc 15 1, ht' fEsc 15 3, hf' fEsc 15 15, ht' fEsc 18 1])) [] W fEsc [.ptr 0 0, .any] (oU s i) [0, 999, 1101, 1102] F = VT.leaf (e') [some (ce' [s' s,i' (i + 5)] 114),some (AO.own Md.nothing noH),none,none] 1100 ((k12' i).a ((k51' s).a ((wb' (o' i == ↑s.size) g').a ((k51' s).a ((k12' i).a (((p' (i < s.size)).a (f' (Wk (v' (vi' u8' ↑(s.data.toList.getD i 0).toNat)) (v' (vi' u8' ↑x.toNat))))).a ((k12' i).a ((k59' i).a (k40'.a (k55'.a ((k98' x).a ((k97' i).a (((p' (Few s.size /\ Few (i + 1))).a ((vw' [pt' 0 0,i' (i + 1)]).a ((ow' (ce' [s' s,i' (i + 1)] 114)).a (f' (Wk (AV.tuple [i' ((hexA (bts s) (i + 1)).getD 0),v' (vb' (hexA (bts s) (i + 1)).isSome)]) (AV.tuple [i' n,b' true])))))).a ((wb' (↑x.toNat != o' 117) g').a (k78'.a ((k97' i).a ((f' (Wk (z' (IntKind.i64.wrap (o' (i + 1) + o' 4))) (i' (i + 5)))).a (k40'.a ((wb' (decide (o' n < o' 55296)) g').a ((wb' (decide (o' n > o' 57343)) g').a ((k115' i).a ((f' (Wk (z' (IntKind.i64.wrap (o' (i + 5) + o' 2))) (i' (i + 7)))).a (((p' (Few s.size /\ Few (i + 7))).a ((vw' [pt' 0 0,i' (i + 7)]).a ((ow' (ce' [s' s,i' (i + 5)] 114)).a (f' (Wk (AV.tuple [i' ((hexA (bts s) (i + 7)).getD 0),v' (vb' (hexA (bts s) (i + 7)).isSome)]) (AV.tuple [i' lo,b' true])))))).a ((wb' (decide (o' n < o' 56320)) j').a (k86'.a ((k51' s).a ((k115' i).a (((p' (i + 5 <= s.size)).a ((p' (s.size <= s.size)).a (f' (Wk (s' (s.extract (i + 5) s.size)) (s' t))))).a (((Cnd.p True).a (wb' (hasP t y8') g')).a (YZ' n c k1')))))))))))))))))))))))))))))) := χ
theorem dI' (W : World) (s t : Δ) (x : UInt8) (i n lo c : Nat) (F : HP) : uRun (trb c) (conE c) (AD' (hE2 t x i n lo true ++ [ht' fEsc 15 1, ht' fEsc 15 3, ht' fEsc 15 15, hf' fEsc 15 19, ht' fEsc 18 1])) [] W fEsc [.ptr 0 0, .any] (oU s i) [0, 999, 1101, 1102] F = VT.leaf (e') [some (ce' [s' s,i' (i + 5)] 114),some (AO.own Md.nothing noH),none,none] 1100 ((k12' i).a ((k51' s).a ((wb' (o' i == ↑s.size) g').a ((k51' s).a ((k12' i).a (((p' (i < s.size)).a (f' (Wk (v' (vi' u8' ↑(s.data.toList.getD i 0).toNat)) (v' (vi' u8' ↑x.toNat))))).a ((k12' i).a ((k59' i).a (k40'.a (k55'.a ((k98' x).a ((k97' i).a (((p' (Few s.size /\ Few (i + 1))).a ((vw' [pt' 0 0,i' (i + 1)]).a ((ow' (ce' [s' s,i' (i + 1)] 114)).a (f' (Wk (AV.tuple [i' ((hexA (bts s) (i + 1)).getD 0),v' (vb' (hexA (bts s) (i + 1)).isSome)]) (AV.tuple [i' n,b' true])))))).a ((wb' (↑x.toNat != o' 117) g').a (k78'.a ((k97' i).a ((f' (Wk (z' (IntKind.i64.wrap (o' (i + 1) + o' 4))) (i' (i + 5)))).a (k40'.a ((wb' (decide (o' n < o' 55296)) g').a ((wb' (decide (o' n > o' 57343)) g').a ((k115' i).a ((f' (Wk (z' (IntKind.i64.wrap (o' (i + 5) + o' 2))) (i' (i + 7)))).a (((p' (Few s.size /\ Few (i + 7))).a ((vw' [pt' 0 0,i' (i + 7)]).a ((ow' (ce' [s' s,i' (i + 5)] 114)).a (f' (Wk (AV.tuple [i' ((hexA (bts s) (i + 7)).getD 0),v' (vb' (hexA (bts s) (i + 7)).isSome)]) (AV.tuple [i' lo,b' true])))))).a ((wb' (decide (o' n < o' 56320)) j').a (k86'.a ((k51' s).a ((k115' i).a (((p' (i + 5 <= s.size)).a ((p' (s.size <= s.size)).a (f' (Wk (s' (s.extract (i + 5) s.size)) (s' t))))).a (((Cnd.p True).a (wb' (hasP t y8') j')).a ((wb' (decide (o' lo >= o' 56320)) g').a (YZ' n c k1'))))))))))))))))))))))))))))))) := χ
theorem dH' (W : World) (s t : Δ) (x : UInt8) (i n lo c : Nat) (F : HP) : uRun (trb c) (conE c) (AD' (hE2 t x i n lo true ++ [ht' fEsc 15 1, ht' fEsc 15 3, ht' fEsc 15 15, ht' fEsc 15 19, hf' fEsc 15 23, ht' fEsc 18 1])) [] W fEsc [.ptr 0 0, .any] (oU s i) [0, 999, 1101, 1102] F = VT.leaf (e') [some (ce' [s' s,i' (i + 5)] 114),some (AO.own Md.nothing noH),none,none] 1100 (mO' i s x n lo t ((wb' (decide (o' lo <= o' 57343)) g').a (YZ' n c k1'))) := χ
abbrev YY' (q0 : Nat) (z : Cnd) : Cnd := (((p' (233 = q0 /\ 233 <= 255)).a ((vw' [i' 233]).a (f' (OW Ω Ω)))).a ((p' (∀ (a b : Nat) (D : Nat -> Prop) (w : World),¬(noH a b).on D w)).a z))
abbrev mN' (q0 : Nat) (q1 : Δ) (q2 : UInt8) (q3 q4 : Nat) (q5 : Bool) (z : Cnd) : Cnd := ((ee' (i' q0)).a ((ee' (s' q1)).a ((wb' (o' q0 == ↑q1.size) g').a ((ee' (s' q1)).a ((ee' (i' q0)).a (((p' (q0 < q1.size)).a (f' (Wk (v' (vi' u8' ↑(q1.data.toList.getD q0 0).toNat)) (v' (vi' u8' ↑q2.toNat))))).a ((ee' (i' q0)).a ((f' (Wk (z' (IntKind.i64.wrap (o' q0 + o' 1))) (i' (q0 + 1)))).a ((fe' true).a (((p' True).a t').a ((wb' (decide (idxC y7' ↑q2.toNat >= o' 0)) g').a ((ee' (i' (q0 + 1))).a (((p' (Few q1.size /\ Few (q0 + 1))).a ((vw' [pt' 0 0,i' (q0 + 1)]).a ((ow' (ce' [s' q1,i' (q0 + 1)] 114)).a (f' (Wk (AV.tuple [i' ((hexA (bts q1) (q0 + 1)).getD 0),v' (vb' (hexA (bts q1) (q0 + 1)).isSome)]) (AV.tuple [i' q3,b' true])))))).a ((wb' (↑q2.toNat != o' 117) g').a ((f' (Wk (b' false) g')).a ((ee' (i' (q0 + 1))).a ((f' (Wk (z' (IntKind.i64.wrap (o' (q0 + 1) + o' 4))) (i' (q0 + 5)))).a ((fe' true).a ((wb' (decide (o' q3 < o' 55296)) g').a ((wb' (decide (o' q3 > o' 57343)) g').a ((ee' (i' (q0 + 5))).a ((f' (Wk (z' (IntKind.i64.wrap (o' (q0 + 5) + o' 2))) (i' (q0 + 7)))).a (((p' (Few q1.size /\ Few (q0 + 7))).a ((vw' [pt' 0 0,i' (q0 + 7)]).a ((ow' (ce' [s' q1,i' (q0 + 5)] 114)).a (f' (Wk (AV.tuple [i' ((hexA (bts q1) (q0 + 7)).getD 0),v' (vb' (hexA (bts q1) (q0 + 7)).isSome)]) (AV.tuple [i' q4,b' q5])))))).a ((wb' (decide (o' q3 < o' 56320)) g').a ((wb' (decide (o' q3 < o' 56448)) g').a z)))))))))))))))))))))))))
theorem dG' (W : World) (s t : Δ) (x : UInt8) (i n lo c : Nat) (b2 : Bool) (F : HP) : uRun (trb c) (conE c) (AD' (hE2 t x i n lo b2 ++ [hf' fEsc 15 1, hf' fEsc 18 1, ht' fEsc 18 4])) [] W fEsc [.ptr 0 0, .any] (oU s i) [0, 999, 1101, 1102] F = VT.leaf (e') [some (ce' [s' s,i' (i + 5)] 114),some (AO.own Md.nothing noH),none,none] 1100 (mN' i s x n lo b2 ((wb' (decide (o' n > o' 56575)) j').a (YY' c k1'))) := χ
end
end Go.Proofs.YtdphpillcaajpaaDoor.Js
