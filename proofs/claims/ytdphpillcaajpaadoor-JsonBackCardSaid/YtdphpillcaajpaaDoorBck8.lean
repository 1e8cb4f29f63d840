/- Parts of the proof, merged. -/
import Derived.Test.YtdphpillcaajpaaDoorBck7
import Derived.Test.YtdphpillcaajpaaDoorEngDefer
import Derived.Test.YtdphpillcaajpaaDoorEngFrame
import Derived.Test.YtdphpillcaajpaaDoorProg
import Derived.KernelRfl
import Derived.Laws.Externs
import Derived.Test.YtdphpillcaajpaaDoorBck3
import Derived.Test.YtdphpillcaajpaaDoorEngXBck
import Derived.Test.YtdphpillcaajpaaDoorBck5
noncomputable section
set_option linter.unusedVariables false
set_option linter.unusedSimpArgs false
set_option maxRecDepth 100000
set_option linter.unusedSectionVars false
namespace Go.Proofs.YtdphpillcaajpaaDoor.Js
open Go Go.RowKit Eng Kit
open Int renaming ofNat -> o'
open AO renaming cells -> ce'
open AV renaming ptr -> pt'
variable {F : HP} {N : A5'} {x : UInt8} {n : Int} {t : Δ} {W0 w : World} {j : Nat} {LV NV : AV} {h : T}
theorem KL' (h : isD x = true) : x = 48 \/ x = 49 \/ x = 50 \/ x = 51 \/ x = 52 \/ x = 53 \/ x = 54 \/ x = 55 \/ x = 56 \/ x = 57 := by
 have key : ∀ c : Fin 256, isD (UInt8.ofNat c.1) = true -> (UInt8.ofNat c.1 = 48 \/ UInt8.ofNat c.1 = 49 \/ UInt8.ofNat c.1 = 50 \/ UInt8.ofNat c.1 = 51 \/ UInt8.ofNat c.1 = 52 \/ UInt8.ofNat c.1 = 53 \/ UInt8.ofNat c.1 = 54 \/ UInt8.ofNat c.1 = 55 \/ UInt8.ofNat c.1 = 56 \/ UInt8.ofNat c.1 = 57) := by decide +kernel
 have h1 := key ⟨x.toNat, x.toNat_lt⟩; simp only [UInt8.ofNat_toNat] at h1; exact h1 h
section
variable {W : World} {s : Δ} {k dep c i0 i : Nat}
theorem i6' {n : Nat} (hx : x = 45 \/ isD x = true) (h : TriU Θ (trb c) W fNx [.ptr 0 0] (oU s i0) (byv x) (oU s i)) (hs : s.size <= 1000000) (hi : i <= s.size) (hn : num (bts (s.extract i s.size)) = (n, false)) (hc : 230 = c) (v : AV) (H' : LH) : TriU Θ (trb c) W fVal (aVal dep) (oU s i0) v H' := by
 rcases hx with rfl | hx
 ·exact va_NgE h hs hi hn hc v H'
 ·rcases KL' hx with rfl | rfl | rfl | rfl | rfl | rfl | rfl | rfl | rfl | rfl
  ·exact va_D0E h hs hi hn hc v H'
  ·exact va_D1E h hs hi hn hc v H'
  ·exact va_D2E h hs hi hn hc v H'
  ·exact va_D3E h hs hi hn hc v H'
  ·exact va_D4E h hs hi hn hc v H'
  ·exact va_D5E h hs hi hn hc v H'
  ·exact va_D6E h hs hi hn hc v H'
  ·exact va_D7E h hs hi hn hc v H'
  ·exact va_D8E h hs hi hn hc v H'
  ·exact va_D9E h hs hi hn hc v H'
theorem i5' {n : Nat} (hx : x = 45 \/ isD x = true) (h : TriU Θ (trb c) W fNx [.ptr 0 0] (oU s i0) (byv x) (oU s i)) (hs : s.size <= 1000000) (hi : i <= s.size) (hn : num (bts (s.extract i s.size)) = (n, true)) (hj : j = i + n) (hjs : j <= s.size) :
  TriU Θ (trb c) W fVal (aVal dep) (oU s i0) (aV 3 0 (s.extract i j) nilS nilS) (oV s j dum dum) := by
 rcases hx with rfl | hx
 ·exact va_NgO h hs hi hn hj hjs
 ·rcases KL' hx with rfl | rfl | rfl | rfl | rfl | rfl | rfl | rfl | rfl | rfl
  ·exact va_D0O h hs hi hn hj hjs
  ·exact va_D1O h hs hi hn hj hjs
  ·exact va_D2O h hs hi hn hj hjs
  ·exact va_D3O h hs hi hn hj hjs
  ·exact va_D4O h hs hi hn hj hjs
  ·exact va_D5O h hs hi hn hj hjs
  ·exact va_D6O h hs hi hn hj hjs
  ·exact va_D7O h hs hi hn hj hjs
  ·exact va_D8O h hs hi hn hj hjs
  ·exact va_D9O h hs hi hn hj hjs
theorem m1' (h1 : ¬ (x = 123 \/ x = 91)) (h2 : x ≠ 34) (h3 : x ≠ 116) (h4 : x ≠ 102) (h5 : x ≠ 110) (h6 : ¬ (x = 45 \/ isD x = true)) : NoStart x :=
 ⟨fun h => h1 (.inl h), fun h => h1 (.inr h), h2, h3, h4, h5, fun h => h6 (.inl h), fun h => h6 (.inr (by rw [h]; decide)), fun h => h6 (.inr (by rw [h]; decide)), fun h => h6 (.inr (by rw [h]; decide)), fun h => h6 (.inr (by rw [h]; decide)), fun h => h6 (.inr (by rw [h]; decide)), fun h => h6 (.inr (by rw [h]; decide)), fun h => h6 (.inr (by rw [h]; decide)), fun h => h6 (.inr (by rw [h]; decide)), fun h => h6 (.inr (by rw [h]; decide)), fun h => h6 (.inr (by rw [h]; decide))⟩
def GOut (c : Nat) (W : World) (s : Δ) (dep e : Nat) : Option (Bool -> Nat -> Rd Jv) -> Prop
 | none => 16 < dep
 | some g => dep <= 16 /\ (∀ i, i <= s.size -> (∀ er, g true i = .err er -> er = c) -> FOut fOb c W s i dep e (g true i)) /\ (∀ i, i <= s.size -> (∀ er, g false i = .err er -> er = c) -> FOut fLs c W s i dep e (g false i))
theorem hE' (hW : LWT W) (hs : s.size <= 1000000) {e : Nat} {G : Option (Bool -> Nat -> Rd Jv)} (hG : GOut c W s dep e G) (hi : i < s.size) (h0 : i0 <= i) (h : TriU Θ (trb c) W fNx [.ptr 0 0] (oU s i0) (byv x) (oU s i)) (hE : ∀ er, atP G (bts s) x i = .err er -> er = c) :
  VOut c W s i0 dep e (atP G (bts s) x i) := by
 have hfew : Few s.size := by unfold Few; omega
 unfold atP at hE ⊢
 by_cases h1 : x = 123 \/ x = 91
 ·rw [if_pos h1] at hE ⊢
  cases G with
  | none =>
   have h8 : 8 = c := hE 8 rfl
   rcases h1 with rfl | rfl
   ·exact ⟨h8, VS' h hG h8⟩
   ·exact ⟨h8, VT' h hG h8⟩
  | some g =>
   obtain ⟨hd, hO, hL⟩ := hG; simp only at hE ⊢
   rcases h1 with rfl | rfl
   ·have ho := hO (i + 1) ω hE; show VOut c W s i0 dep e (g true (i + 1))
    cases hr : g true (i + 1) with
    | err er =>
     rw [hr] at ho; exact ⟨ho.1, aU' h hd ω ho.2⟩
    | ok v j =>
     rw [hr] at ho; obtain ⟨q1, q2, q3, LV, NV, OL, ON, q4, q5⟩ := ho; exact ⟨ω, q2, q3, LV, NV, OL, ON, q4, i3' h hd ω q4 q5⟩
   ·have ho := hL (i + 1) ω hE; show VOut c W s i0 dep e (g false (i + 1))
    cases hr : g false (i + 1) with
    | err er =>
     rw [hr] at ho; exact ⟨ho.1, aV' h hd ω ho.2⟩
    | ok v j =>
     rw [hr] at ho; obtain ⟨q1, q2, q3, LV, NV, OL, ON, q4, q5⟩ := ho; exact ⟨ω, q2, q3, LV, NV, OL, ON, q4, i4' h hd ω q4 q5⟩
 rw [if_neg h1] at hE ⊢
 by_cases h2 : x = 34
 ·rw [if_pos h2] at hE ⊢; subst h2
  cases ht : txtA (bts s) (i + 1) with
  | err er =>
   rw [ht] at hE; have h3 : er = c := hE er rfl; rw [h3] at ht; exact ⟨h3, i2' h (hO' hW hs hi ht)⟩
  | ok t j =>
   obtain ⟨q1, q2⟩ := N9' ht; exact ⟨ω, q2, Nat.zero_le _, _, _, _, _, .P rfl rfl, i1' h (TxtOk hW hs hi ht)⟩
 rw [if_neg h2] at hE ⊢
 by_cases h3 : x = 116
 ·rw [if_pos h3] at hE ⊢; subst h3
  cases hw : GB' (bts s) i [116, 114, 117, 101] with
  | true =>
   have := H2' (by simp) hw; have hl : (bts s).length = s.size := rfl; simp only [List.length_cons, List.length_nil] at this; rw [if_pos rfl]
   exact ⟨ω, by omega, Nat.zero_le _, _, _, _, _, .P rfl rfl, va_tO h (N5' hfew ω (fun h => Bool.noConfusion (hw.symm.trans h)) fun _ => ⟨rfl, rfl⟩)⟩
  | false =>
   rw [hw] at hE; have h9 : 231 = c := hE 231 rfl; rw [if_neg δ]
   exact ⟨h9, va_tE h fun v H' => N5' hfew ω (fun _ => h9) fun h => Bool.noConfusion (hw.symm.trans h)⟩
 rw [if_neg h3] at hE ⊢
 by_cases h4 : x = 102
 ·rw [if_pos h4] at hE ⊢; subst h4
  cases hw : GB' (bts s) i [102, 97, 108, 115, 101] with
  | true =>
   have := H2' (by simp) hw; have hl : (bts s).length = s.size := rfl; simp only [List.length_cons, List.length_nil] at this; rw [if_pos rfl]
   exact ⟨ω, by omega, Nat.zero_le _, _, _, _, _, .P rfl rfl, va_fO h (N5' hfew ω (fun h => Bool.noConfusion (hw.symm.trans h)) fun _ => ⟨rfl, rfl⟩)⟩
  | false =>
   rw [hw] at hE; have h9 : 231 = c := hE 231 rfl; rw [if_neg δ]
   exact ⟨h9, va_fE h fun v H' => N5' hfew ω (fun _ => h9) fun h => Bool.noConfusion (hw.symm.trans h)⟩
 rw [if_neg h4] at hE ⊢
 by_cases h5 : x = 110
 ·rw [if_pos h5] at hE ⊢; subst h5
  cases hw : GB' (bts s) i [110, 117, 108, 108] with
  | true =>
   have := H2' (by simp) hw; have hl : (bts s).length = s.size := rfl; simp only [List.length_cons, List.length_nil] at this; rw [if_pos rfl]
   exact ⟨ω, by omega, Nat.zero_le _, _, _, _, _, .P rfl rfl, va_nO h (N5' hfew ω (fun h => Bool.noConfusion (hw.symm.trans h)) fun _ => ⟨rfl, rfl⟩)⟩
  | false =>
   rw [hw] at hE; have h9 : 231 = c := hE 231 rfl; rw [if_neg δ]
   exact ⟨h9, va_nE h fun v H' => N5' hfew ω (fun _ => h9) fun h => Bool.noConfusion (hw.symm.trans h)⟩
 rw [if_neg h5] at hE ⊢
 by_cases h6 : x = 45 \/ isD x = true
 ·rw [if_pos h6] at hE ⊢; have hnum := NK' (bts s) i; rw [hnum] at hE ⊢; simp only at hE ⊢; obtain ⟨hb1, hb2⟩ := m0' (l := (bts s).drop i)
  have hl : ((bts s).drop i).length = s.size - i := by rw [List.length_drop]; rfl
  cases hr : num ((bts s).drop i) with
  | mk n b =>
   rw [hr] at hE hb1 hb2; simp only at hE hb1 hb2 ⊢
   cases b with
   | false =>
    have h9 : 230 = c := hE 230 rfl; rw [if_neg δ]; exact ⟨h9, i6' h6 h hs ω (by rw [EV']; exact hr) h9⟩
   | true =>
    rw [if_pos rfl]; have hp := hb2 rfl; rw [<- ext_tB]; exact ⟨ω, (by omega : i + n <= s.size), Nat.zero_le _, _, _, _, _, .P rfl rfl, i5' h6 h hs ω (by rw [EV']; exact hr) rfl ω⟩
 ·rw [if_neg h6] at hE ⊢; have h9 : 231 = c := hE 231 rfl; exact ⟨h9, va_syn h (m1' h1 h2 h3 h4 h5 h6) h9⟩
theorem QO' (hW : LWT W) (hs : s.size <= 1000000) : ∀ (k dep i : Nat), dep + k = 17 -> i <= s.size -> (∀ e, valP (bts s) k i = .err e -> e = c) -> VOut c W s i dep k (valP (bts s) k i)
 | 0, dep, i, hd, hi, hE => by
  rw [valP] at hE ⊢
  cases he : CT' s i with
  | true =>
   rw [GE' he] at hE ⊢; have h3 : 3 = c := hE 3 rfl; exact ⟨h3, fQ' hs hi he h3.symm⟩
  | false =>
   rw [DV' hi he] at hE ⊢; exact hE' hW hs (G := none) (show 16 < dep by omega) (G4' hi he) (C2' _ _) (dW' hs hi he) hE
 | k + 1, dep, i, hd, hi, hE => by
  rw [valP] at hE ⊢
  cases he : CT' s i with
  | true =>
   rw [GE' he] at hE ⊢; have h3 : 3 = c := hE 3 rfl; exact ⟨h3, fQ' hs hi he h3.symm⟩
  | false =>
   rw [DV' hi he] at hE ⊢
   exact hE' hW hs (G := some (grP (valP (bts s) k) (bts s))) ⟨ω, fun i hi hT => Ob_out hW hs ω hi hT (fun i hi hT => QO' hW hs k (dep + 1) i ω hi hT), fun i hi hT => Ls_out hs ω hi hT (fun i hi hT => QO' hW hs k (dep + 1) i ω hi hT)⟩ (G4' hi he) (C2' _ _) (dW' hs hi he) hE
end
abbrev fCl : Nat := 24
abbrev fPar : Nat := 11
def vTr (c : Nat) : Value := .iface 53 (.agg #[.int .i64 (o' c)])
def oPR (k n : Int) (t : Δ) (LV NV : AV) (e : Int) : LH := [(0, .cells [iv k, iv n, sv t, LV, NV] tJs), (1, .cells [iv e] (2 * 28)), (999, upO)]
theorem oCl_eq (R : PanT) (W : World) (c : Nat) (k n : Int) (t : Δ) (LV NV : AV) (e : Int) (F : HP) : B5' R [] B4' [] W fCl (C6' fCl 2) (tms 0 19 [(0, .ptr 0 0), (1, .ptr 1 0), (2, .v (vTr c))]) (oPR k n t LV NV e) [0, 1, 999] [] F = VT.ite false (VT.bad "an operation that the engine lacks") (VT.leaf (AX.normal,[],19) [some (ce' [i' 0,i' 0,s' y9',e',e'] 52),some (ce' [i' c] 56),some Ω] 1101 (k40'.a ((k12' c).a (UT' k1')))) := χ
def oPE (c : Nat) : LH := [(0, .cells [iv 0, iv 0, sv nil0, nilS, nilS] tJs), (1, .cells [iv (o' c)] (2 * 28)), (999, upO)]
theorem cl_tri {R : PanT} {c : Nat} {k e : Int} : PTri R default (C6' fCl 2) (stP (oPR k n t LV NV e) (tms 0 19 [(0, .ptr 0 0), (1, .ptr 1 0), (2, .v (vTr c))])) (fun x W0 F N ys w => x = .normal /\ St W0 F N (oPE c) (tms 0 19 []) ys w) := by
 refine AY' 19 [0, 1, 999] [] rfl (fun F hF => noCU) (fun _ _ => noLU) fun F => Yj (oCl_eq R default c k n t LV NV e F) (VAll.ite (fun h => by cases h) (fun _ => ⟨⟨?_, rfl, [], oPE c, [], rfl, ⟨rfl, rfl, Ye, ⟨_, rfl, Yc⟩, ⟨_, rfl, Yc⟩, ⟨_, rfl, Yc⟩, Ye⟩, fun W0 F N ys w h => ⟨rfl, h⟩⟩⟩))
 exact Cb18'
theorem f7' {c : Nat} {k e : Int} {x y : Value} (hr : Rep W0 N F (AL' (oPR k n t LV NV e)) w) (hN : NB N (oPR k n t LV NV e)) (hx : VR N (.ptr 0 0) x) (hy : VR N (.ptr 1 0) y) :
  CallsD Θ fCl #[x, y] (.panicking [{ v := vTr c, recovered := false }]) w fun e u' w' => e = .returned (.tuple #[]) /\ u' = .panicking [{ v := vTr c, recovered := true }] /\ ∃ ys, St W0 F N (oPE c) (tms 0 19 []) ys w' := by
 refine callsD_of_wpS Tryd.func24 rfl fun c₀ cs hu => ?_
 apply wpS_seq; apply wpS_region; simp [wpOpsS, go_sem, recoverD, hu, Tryd.ntmps24, Exit.thenS, vTr]; apply wpS_seq; apply wpS_region; simp [wpOpsS, go_sem, recoverD, hu, Tryd.ntmps24, Exit.thenS]; refine wpS_cond (t := true) (by simp [Act.eval, Array.replicate]) ?_; simp only [if_true]; refine wpS_of_wp ?_
 have key : ∀ (cd : Code) (Q : Exit -> Act -> World -> Prop) (a : Act), cd = C6' fCl 2 -> a.tmps.toList = [x, y, vTr c, undef, undef, vTr c, vTr c, .bool true, undef, undef, undef, undef, undef, undef, undef, undef, undef, undef, undef] -> (∀ a' w', (∃ ys, St W0 F N (oPE c) (tms 0 19 []) ys w') -> a'.defers = a.defers -> Q .normal a' w') -> cd.wp Θ Q a w := by
  rintro _ Q a rfl ha hQ
  have hv : VRs N (tms 0 19 [(0, .ptr 0 0), (1, .ptr 1 0), (2, .v (vTr c))]) a.tmps.toList := by
   rw [ha]; show VRs N (pt' 0 0 :: pt' 1 0 :: AV.v (vTr c) :: anys 16) _; refine AC'.2 ⟨hx, AC'.2 ⟨hy, AC'.2 ⟨VR_v.2 rfl, ?_⟩⟩⟩; simp only [anys, VRs, VR]; simp
  exact cl_tri (R := fun _ => False) W0 F N w a Q GM' ⟨N, fun _ _ => rfl, hN, hr, hv⟩ (fun ch a' w' _ hp => hp.1.elim) fun x a' w' hs hd => by
   obtain ⟨rfl, hs⟩ := hs; exact hQ a' w' ⟨_, hs⟩ hd
 refine key _ _ _ χ χ ?_; rintro a' w' hs hd; cases c₀; simp only at hu; subst hu; simp [bodyPostS, results, Tryd.results24, vTr, hd]; exact hs
noncomputable section
def oPU : LH := [(1, .cells [iv 0, iv 0, sv nil0, nilS, nilS] tJs), (2, .cells [iv 0] (2 * 28)), (999, upO)]
def kPU : List Nat := [1, 2, 999, 1101, 1102, 1103]
abbrev k211' (q0 q1 : Int) (q2 : Δ) : Cnd := (ee' [z' q0,z' q1,s' q2,e',e'])
abbrev k212' (q0 : Δ) (q1 : Nat) : Cnd := (wb' (decide (o' (skB (bts q0) q1) < ↑q0.size)) g')
abbrev k213' (q0 : Nat) (q1 : Δ) (q2 : Nat) : Cnd := ((p' (q0 <= q1.size /\ Few q1.size)).a ((vw' [pt' q2 0]).a (f' (OW (ce' [s' q1,i' q0] 114) (ce' [s' q1,i' q0] 114)))))
abbrev US' (q0 : Δ) (q1 : Nat) (z : Cnd) : Cnd := (((p' (BW' q0 0 (RS.mk q1 0 q0))).a ((vw' [pt' q1 0,i' 1]).a ((ow' (ce' [s' q0,i' 0] 114)).a (f' (OW Ω Ω))))).a ((fe' true).a z))
theorem kM' (W : World) (s : Δ) (c : Nat) (k n : Int) (t : Δ) (j : Nat) (F : HP) : B5' (trb c) [(fVal, cVO (aVal 1) s 0 k n t nilS nilS dum dum j), (fBl, cBl), (fGv, cGv c)] (AD' [hf' fPar 7 6]) [] W fPar (C6' fPar 4) (tms 0 26 [(0, sv s), (2, .ptr 1 0), (3, .ptr 2 0)]) oPU kPU [2, 3] F = VT.leaf (AX.ret,[pt' 1 0,pt' 2 0],26) [some (ce' [z' k,z' n,s' t,e',e'] 52),some (ce' [i' 0] 56),some Ω,some Ω,some Ω,none] 1103 (US' s 1100 ((k213' j s 1100).a ((k52' s j).a ((k212' s j).a ((k211' k n t).a (UT' k1')))))) := χ
abbrev k215' (q0 q1 : Int) (q2 : Δ) (q3 q4 : Nat) : Cnd := (ee' [z' q0,z' q1,s' q2,AV.slice q3 0 q4 5 (Cp.lo q4),e'])
theorem kO' (W : World) (s : Δ) (c : Nat) (k n : Int) (t : Δ) (m1 d : Nat) (l : List Jv) (j : Nat) (F : HP) : B5' (trb c) [(fVal, cVO (aVal 1) s 0 k n t (sL5 1006 m1) nilS (ownJ d l) dum j), (fBl, cBl), (fGv, cGv c)] (AD' [hf' fPar 7 6]) [] W fPar (C6' fPar 4) (tms 0 26 [(0, sv s), (2, .ptr 1 0), (3, .ptr 2 0)]) oPU kPU [2, 3] F = VT.leaf (AX.ret,[pt' 1 0,pt' 2 0],26) [some (ce' [z' k,z' n,s' t,AV.slice 1101 0 m1 5 (Cp.lo m1),e'] 52),some (ce' [i' 0] 56),some Ω,some (AO.own mdJ fun b x => Tree.frz fun C => LOf (JAt C d) C (some (Addr.mk b 0 none)) l),some Ω,none] 1103 (US' s 1100 ((k213' j s 1100).a ((k52' s j).a ((k212' s j).a ((k215' k n t 1101 m1).a (UT' k1')))))) := χ
abbrev k216' (q0 q1 : Int) (q2 : Δ) (q3 q4 q5 q6 : Nat) : Cnd := (ee' [z' q0,z' q1,s' q2,AV.slice q3 0 q4 5 (Cp.lo q4),AV.slice q5 0 q6 1 (Cp.lo q6)])
theorem kN' (W : World) (s : Δ) (c : Nat) (k n : Int) (t : Δ) (m1 m2 d : Nat) (l : List Jv) (ns : List Δ) (j : Nat) (F : HP) : B5' (trb c) [(fVal, cVO (aVal 1) s 0 k n t (sL5 1006 m1) (sS1 1007 m2) (ownJ d l) (rS ns) j), (fBl, cBl), (fGv, cGv c)] (AD' [hf' fPar 7 6]) [] W fPar (C6' fPar 4) (tms 0 26 [(0, sv s), (2, .ptr 1 0), (3, .ptr 2 0)]) oPU kPU [2, 3] F = VT.leaf (AX.ret,[pt' 1 0,pt' 2 0],26) [some (ce' [z' k,z' n,s' t,AV.slice 1101 0 m1 5 (Cp.lo m1),AV.slice 1102 0 m2 1 (Cp.lo m2)] 52),some (ce' [i' 0] 56),some Ω,some (AO.own mdJ fun b x => Tree.frz fun C => LOf (JAt C d) C (some (Addr.mk b 0 none)) l),some (ce' (AV.rens (sgN (nmR (RS.mk 1100 0 s)) [1006,1007] 1101) (rowV encS ns)) 18),none] 1103 (US' s 1100 ((k213' j s 1100).a ((k52' s j).a ((k212' s j).a ((k216' k n t 1101 m1 1102 m2).a (UT' k1')))))) := χ
end
theorem WK' {N0 : A5'} {h3 h0 : T} {K : Nat -> Bool} (r : Rep W0 N0 (OT' F N h K) h0 w) (h3h : ∀ i o, h3.find i = some o -> h.find i = some o /\ K i = false) : Rep W0 N F h3 w := by
 obtain ⟨D, _, ⟨D0, D1, q1, q2, q3, q4⟩, _, _⟩ := r.sat
 exact ⟨r.os, r.tape, r.output, D0, D1, q1, fun i o hi => q2 i o (h3h i o hi).1 (h3h i o hi).2, fun i j o o' hi hj hn => q3 i j o o' (h3h i o hi).1 (h3h j o' hj).1 (h3h i o hi).2 (h3h j o' hj).2 hn⟩
theorem bB' {W : World} {K : Nat -> Bool} (hW : AH' W F) : AH' W (OT' F N h K) := fun D w ⟨D0, D1, q1, _⟩ => hW D0 w q1
noncomputable section
def zT : AO := .cells [iv 0, iv 0, sv nil0, nilS, nilS] tJs
def zE (e : Int) : AO := .cells [iv e] (2 * 28)
def oP0 : LH := [(999, upO), (1001, zT), (1002, zE 0)]
def oPQ (x y : AO) : LH := [(1, x), (2, y), (999, upO)]
def oPB (s : Δ) (i : Nat) (x y : AO) : LH := [(1, x), (2, y), (999, upO), (1000, rdO s i)]
def oPF (k n e : Int) (t : Δ) (LV NV : AV) (OL ON : AO) : LH := [(1, .cells [iv k, iv n, sv t, LV, NV] tJs), (2, zE e), (1006, OL), (1007, ON)]
def vJ (k n : Int) (t : Δ) : AO := .cells [iv k, iv n, sv t, .any, .any] tJs
theorem UH' (W : World) (s : Δ) (F : HP) : wRun [] (AD' [ht' fPar 1 2]) [] W fPar [sv s] [] [] F = VT.leaf (AV.tuple [AV.agg [i' 0,i' 0,s' y9',e',e'],i' 1]) [] 1102 ((wb' (decide (↑s.size > o' 65536)) j').a ((ee' [i' 0,i' 0,s' y9',e',e']).a (k40'.a (h15' ((p' ([i' 0,i' 0,s' y9',e',e'] = [i' 0,i' 0,s' y9',e',e'])).a (k158'.a ((p' (i' 1 = i' 1)).a k1'))))))) := χ
theorem kT' (R : PanT) (W : World) (s : Δ) (F : HP) : B5' R [] B4' [] W fPar (regN fPar 0) (tms 0 26 [(0, sv s)]) [(999, upO)] [999, 1100, 1101] [0, 2, 3] F = VT.leaf (AX.normal,[s' s,pt' 1100 0,pt' 1101 0],26) [some Ω,some (ce' [i' 0,i' 0,s' y9',e',e'] 52),some (ce' [i' 0] 56)] 1102 k1' := χ
abbrev k217' (q0 : Δ) : Cnd := (wb' (decide (↑q0.size > o' 65536)) g')
theorem kS' (R : PanT) (W : World) (s : Δ) (F : HP) : B5' R [] (AD' [hf' fPar 1 2]) [] W fPar (regN fPar 1) (tms 0 26 [(0, sv s), (2, .ptr 1001 0), (3, .ptr 1002 0)]) oP0 [999, 1001, 1002] [0, 2, 3, 7] F = VT.leaf (AX.normal,[s' s,pt' 1001 0,pt' 1002 0,g'],26) [some Ω,some (ce' [i' 0,i' 0,s' nil0,e',e'] 52),some (ce' [i' 0] 56)] 1100 ((k217' s).a k1') := χ
theorem kR' (R : PanT) (W : World) (s : Δ) (F : HP) : B5' R [] B4' [] W fPar (regN fPar 4) (tms 0 26 [(0, sv s), (2, .ptr 1 0), (3, .ptr 2 0)]) (oPQ zT (zE 0)) [1, 2, 999, 1100] [0, 2, 3, 4] F = VT.leaf (AX.normal,[s' s,pt' 1 0,pt' 2 0,pt' 1100 0],26) [some (ce' [i' 0,i' 0,s' nil0,e',e'] 52),some (ce' [i' 0] 56),some Ω,some (ce' [s' s,i' 0] 114)] 1101 k1' := χ
theorem dA' (W : World) (s : Δ) (c : Nat) (k n : Int) (t : Δ) (j : Nat) (F : HP) : B5' (trb c) [(fVal, cVO (aVal 1) s 0 k n t nilS nilS dum dum j)] B4' [] W fPar (regN fPar 5) (tms 0 26 [(0, sv s), (2, .ptr 1 0), (3, .ptr 2 0), (4, .ptr 1000 0)]) (oPB s 0 zT (zE 0)) [1, 2, 999, 1000] [0, 2, 3, 4] F = VT.leaf (AX.normal,[s' s,pt' 1 0,pt' 2 0,pt' 1000 0],26) [some (ce' [z' k,z' n,s' t,e',e'] 52),some (ce' [i' 0] 56),some Ω,some (ce' [s' s,i' j] 114)] 1102 (US' s 1000 k1') := χ
theorem dC' (W : World) (s : Δ) (c : Nat) (k n : Int) (t : Δ) (m1 d : Nat) (l : List Jv) (j : Nat) (F : HP) : B5' (trb c) [(fVal, cVO (aVal 1) s 0 k n t (sL5 1006 m1) nilS (ownJ d l) dum j)] B4' [] W fPar (regN fPar 5) (tms 0 26 [(0, sv s), (2, .ptr 1 0), (3, .ptr 2 0), (4, .ptr 1000 0)]) (oPB s 0 zT (zE 0)) [1, 2, 999, 1000] [0, 2, 3, 4] F = VT.leaf (AX.normal,[s' s,pt' 1 0,pt' 2 0,pt' 1000 0],26) [some (ce' [z' k,z' n,s' t,AV.slice 1100 0 m1 5 (Cp.lo m1),e'] 52),some (ce' [i' 0] 56),some Ω,some (ce' [s' s,i' j] 114)] 1102 (US' s 1000 k1') := χ
theorem dB' (W : World) (s : Δ) (c : Nat) (k n : Int) (t : Δ) (m1 m2 d : Nat) (l : List Jv) (ns : List Δ) (j : Nat) (F : HP) : B5' (trb c) [(fVal, cVO (aVal 1) s 0 k n t (sL5 1006 m1) (sS1 1007 m2) (ownJ d l) (rS ns) j)] B4' [] W fPar (regN fPar 5) (tms 0 26 [(0, sv s), (2, .ptr 1 0), (3, .ptr 2 0), (4, .ptr 1000 0)]) (oPB s 0 zT (zE 0)) [1, 2, 999, 1000] [0, 2, 3, 4] F = VT.leaf (AX.normal,[s' s,pt' 1 0,pt' 2 0,pt' 1000 0],26) [some (ce' [z' k,z' n,s' t,AV.slice 1100 0 m1 5 (Cp.lo m1),AV.slice 1101 0 m2 1 (Cp.lo m2)] 52),some (ce' [i' 0] 56),some Ω,some (ce' [s' s,i' j] 114)] 1102 (US' s 1000 k1') := χ
theorem kQ' (W : World) (s : Δ) (c : Nat) (k n : Int) (t : Δ) (j : Nat) (F : HP) : B5' (trb c) [(fBl, cBl)] B4' [] W fPar (regN fPar 6) (tms 0 26 [(0, sv s), (2, .ptr 1 0), (3, .ptr 2 0), (4, .ptr 1000 0)]) (oPB s j (vJ k n t) (zE 0)) [1, 2, 999, 1000] [0, 2, 3, 4] F = VT.leaf (AX.normal,[s' s,pt' 1 0,pt' 2 0,pt' 1000 0],26) [some (ce' [z' k,z' n,s' t,a',a'] 52),some (ce' [i' 0] 56),some Ω,some (ce' [s' s,i' (skB (bts s) j)] 114)] 1100 ((k213' j s 1000).a k1') := χ
theorem kP' (R : PanT) (W : World) (s : Δ) (k n : Int) (t : Δ) (j : Nat) (F : HP) : B5' R [] (AD' [ht' fPar 7 6]) [] W fPar (regN fPar 7) (tms 0 26 [(0, sv s), (2, .ptr 1 0), (3, .ptr 2 0), (4, .ptr 1000 0)]) (oPB s j (vJ k n t) (zE 0)) [1, 2, 999, 1000] [0, 2, 3, 4, 23] F = VT.leaf (AX.normal,[s' s,pt' 1 0,pt' 2 0,pt' 1000 0,j'],26) [some (ce' [z' k,z' n,s' t,a',a'] 52),some (ce' [i' 0] 56),some Ω,some (ce' [s' s,i' j] 114)] 1100 ((k12' j).a ((wb' (decide (o' j < ↑s.size)) j').a k1')) := χ
def tupA : List AV -> AP AV
 | [x] => pure x
 | rs => pure (.tuple rs)
def uRes (W : World) (A : List AV) (H : LH) (F : HP) : VT AV := ((CK' (envU Θ (fun _ => False) F (conL []) B4' (JC' []) W) A Tryd.f11.results.toList >>= tupA).run2 (AL' H) 1100 []).view []
abbrev k218' (q0 : Int) : Cnd := (p' (z' q0 = z' q0))
theorem jU' (W : World) (OL ON : AO) (k n e : Int) (t : Δ) (F : HP) : uRes W (tms 0 26 [(2, .ptr 1 0), (3, .ptr 2 0)]) (oPF k n e t (nilS) (nilS) OL ON) F = VT.leaf (AV.tuple [AV.agg [z' k,z' n,s' t,e',e'],z' e]) [] 1100 (k158'.a ((k170' k n t).a (k158'.a ((k218' e).a k1')))) := χ
theorem jW' (W : World) (OL ON : AO) (k n e : Int) (t : Δ) (m : Nat) (F : HP) : uRes W (tms 0 26 [(2, .ptr 1 0), (3, .ptr 2 0)]) (oPF k n e t (sL5 1006 m) (nilS) OL ON) F = VT.leaf (AV.tuple [AV.agg [z' k,z' n,s' t,AV.slice 1006 0 m 5 (Cp.lo m),e'],z' e]) [] 1100 (k158'.a ((k172' k n t 1006 m).a (k158'.a ((k218' e).a k1')))) := χ
theorem jV' (W : World) (OL ON : AO) (k n e : Int) (t : Δ) (m m2 : Nat) (F : HP) : uRes W (tms 0 26 [(2, .ptr 1 0), (3, .ptr 2 0)]) (oPF k n e t (sL5 1006 m) (sS1 1007 m2) OL ON) F = VT.leaf (AV.tuple [AV.agg [z' k,z' n,s' t,AV.slice 1006 0 m 5 (Cp.lo m),AV.slice 1007 0 m2 1 (Cp.lo m2)],z' e]) [] 1100 (k158'.a ((k173' k n t 1006 m 1007 m2).a (k158'.a ((k218' e).a k1')))) := χ
theorem jX' (W : World) (c : Nat) (F : HP) : uRes W (tms 0 26 [(2, .ptr 0 0), (3, .ptr 1 0)]) (oPE c) F = VT.leaf (AV.tuple [AV.agg [i' 0,i' 0,s' nil0,e',e'],i' c]) [] 1100 (k158'.a (k157'.a (k158'.a ((p' (i' c = i' c)).a k1')))) := χ
theorem bF' : (Θ.funcs[fPar]?).bind (fun fn => fn.body) = some (.seq (regN fPar 0) (.seq (.seq (regN fPar 1) (.cond (.tmp 7) (.seq (regN fPar 2) .ret) .skip)) (.seq (regN fPar 3) (C6' fPar 4)))) := χ
theorem SY' : C6' fPar 4 = .seq (regN fPar 4) (.seq (regN fPar 5) (.seq (regN fPar 6) (.seq (.seq (regN fPar 7) (.cond (.tmp 23) (regN fPar 8) .skip)) (C6' fPar 9)))) := χ
end
theorem fY' {H : LH} (hb : AE' 1100 H = true) (r : Rep W0 N F (AL' H) w) : Rep W0 N F (AL' ((999, upO) :: H)) w := by
 have hb' : AE' 1100 ((999, upO) :: H) = true := by rw [AE', List.all_cons]; exact hb
 obtain ⟨D0, D, h1, h2, h3⟩ := r.sat
 have hg : ∀ i o, (AL' ((999, upO) :: H)).find i = some o -> (i = 999 /\ o = upO) \/ (i ≠ 999 /\ (AL' H).find i = some o) := fun i o hi => by
  rw [AI' (CF' hb'), getO] at hi; split at hi
  ·rename_i e; cases hi; exact .inl ⟨e, rfl⟩
  ·rename_i e; rw [AI' (CF' hb)]; exact .inr ⟨e, hi⟩
 refine ⟨r.os, r.tape, r.output, D0, fun i => if i = 999 then fun _ => False else D i, h1, fun i o hi => ?_, fun i j o o' hi hj hij b hb hb' => ?_⟩
 ·rcases hg i o hi with ⟨rfl, rfl⟩ | ⟨hne, hi⟩
  ·simp only [if_true]
   exact ⟨⟨fun _ h => h, Ye⟩, fun _ h => h.elim⟩
  ·simp only [if_neg hne]; exact h2 i o hi
 ·rcases hg i o hi with ⟨rfl, rfl⟩ | ⟨hne, hi⟩
  ·simp only [if_true] at hb
  ·rcases hg j o' hj with ⟨rfl, rfl⟩ | ⟨hne', hj⟩
   ·simp only [if_true] at hb'
   ·simp only [if_neg hne, if_neg hne'] at hb hb'; exact h3 i j o o' hi hj hij b hb hb'
theorem QX' {H H' : LH} {σ : Nat -> Nat} (r : Rep W0 N F (AL' H') w) (hb : AE' 1100 H = true) (hb' : AE' 1100 H' = true) (hinj : injB (H.map (·.1)) σ = true) (hf : ∀ x ∈ H, getO H' (σ x.1) = some (x.2.ren σ)) : Rep W0 (fun i => N (σ i)) F (AL' H) w :=
 r.pull (CF' hb) hinj fun x hx => ⟨_, by rw [AI' (CF' hb')]; exact hf x hx, Yc⟩
theorem GH' {N' : A5'} {h' : T} {K : Nat -> Bool} (r : Rep W0 N F h w) (hK : ∀ i o, h'.find i = some o -> K i = true /\ h.find i = some o /\ o.cl K) (hN : ∀ i, K i = true -> N' i = N i) : Rep W0 N' F h' w := by
 obtain ⟨D0, D, h1, h2, h3⟩ := r.sat
 exact ⟨r.os, r.tape, r.output, D0, D, h1, fun i o hi => ⟨(h2 i o (hK i o hi).2.1).1.congr hN (hK i o hi).1 (hK i o hi).2.2, (h2 i o (hK i o hi).2.1).2⟩, fun i j o o' hi hj => h3 i j o o' (hK i o hi).2.1 (hK j o' hj).2.1⟩
variable {R : PanT} {W : World} {s : Δ} {c : Nat}
def aP0 (s : Δ) : List (Nat × AV) := [(0, sv s)]
def aP1 (s : Δ) : List (Nat × AV) := [(0, sv s), (2, .ptr 1001 0), (3, .ptr 1002 0)]
def aP2 (s : Δ) : List (Nat × AV) := [(0, sv s), (2, .ptr 1001 0), (3, .ptr 1002 0), (7, .lit false)]
def aP3 (s : Δ) : List (Nat × AV) := [(0, sv s), (2, .ptr 1 0), (3, .ptr 2 0)]
def aP4 (s : Δ) : List (Nat × AV) := [(0, sv s), (2, .ptr 1 0), (3, .ptr 2 0), (4, .ptr 1000 0)]
def aP5 : List (Nat × AV) := [(2, .ptr 1 0), (3, .ptr 2 0)]
def aP7 (s : Δ) : List (Nat × AV) := [(0, sv s), (2, .ptr 1 0), (3, .ptr 2 0), (4, .ptr 1000 0), (23, .lit true)]
theorem pr0 : PTri R W (regN fPar 0) (stP [(999, upO)] (tms 0 26 (aP0 s))) (fun x W0 F N ys w => x = .normal /\ St W0 F N oP0 (tms 0 26 (aP1 s)) ys w) := by
 refine AY' 26 [999, 1100, 1101] [0, 2, 3] rfl (fun F hF => noCU) (fun _ _ => noLU) fun F => Yj (kT' R W s F) ⟨⟨?_, rfl, aP1 s, oP0, [(1001, 1100), (1002, 1101)], rfl, ⟨rfl, rfl, ⟨Ya, Ya, Ya, Ye⟩, ⟨⟨_, rfl, Yc⟩, ⟨_, rfl, Yc⟩, ⟨_, rfl, Yc⟩, Ye⟩⟩, fun W0 F N ys w h => ⟨rfl, h⟩⟩⟩
 trivial
theorem pr1 (hs : s.size <= 65536) : PTri R W (regN fPar 1) (stP oP0 (tms 0 26 (aP1 s))) (fun x W0 F N ys w => x = .normal /\ St W0 F N oP0 (tms 0 26 (aP2 s)) ys w) := by
 refine AY' 26 [999, 1001, 1002] [0, 2, 3, 7] rfl (fun F hF => noCU) (fun _ _ => noLU) fun F => Yj (kS' R W s F) ⟨⟨?_, rfl, aP2 s, oP0, [(1001, 1001), (1002, 1002)], rfl, ⟨rfl, rfl, ⟨Ya, Ya, Ya, Ya, Ye⟩, ⟨⟨_, rfl, Yc⟩, ⟨_, rfl, Yc⟩, ⟨_, rfl, Yc⟩, Ye⟩⟩, fun W0 F N ys w h => ⟨rfl, h⟩⟩⟩
 exact ⟨⟨A0' (decide_eq_false (by simp only [Z0]; omega)), Ye⟩, Ye⟩
theorem pr4 : PTri R W (regN fPar 4) (stP (oPQ zT (zE 0)) (tms 0 26 (aP3 s))) (fun x W0 F N ys w => x = .normal /\ St W0 F N (oPB s 0 zT (zE 0)) (tms 0 26 (aP4 s)) ys w) := by
 refine AY' 26 [1, 2, 999, 1100] [0, 2, 3, 4] rfl (fun F hF => noCU) (fun _ _ => noLU) fun F => Yj (kR' R W s F) ⟨⟨?_, rfl, aP4 s, oPB s 0 zT (zE 0), [(1000, 1100)], rfl, ⟨rfl, rfl, ⟨Ya, Ya, Ya, Ya, Ye⟩, ⟨⟨_, rfl, Yc⟩, ⟨_, rfl, Yc⟩, ⟨_, rfl, Yc⟩, ⟨_, rfl, Yc⟩, Ye⟩⟩, fun W0 F N ys w h => ⟨rfl, h⟩⟩⟩
 trivial
theorem ow_vw {a b : List AV} {e : TypeId} (h : VW a b) (hl : a.length = b.length) : OW (.cells a e) (.cells b e) := fun N i D w ⟨l, arr, fz, h1, h2, h3, h4, h5, h6, h7, h8⟩ => ⟨l, arr, fz, h1, h2, h3, h4, by rw [<- hl]; exact h5, h6, by rw [<- hl]; exact h N _ h7, h8⟩
theorem iV' {k : Int} {σ : Nat -> Nat} : OW (.cells [iv k, iv n, sv t, LV, NV] tJs) ((vJ k n t).ren σ) :=
 ow_vw (b := AV.rens σ [iv k, iv n, sv t, .any, .any]) (VW.cons Ya (VW.cons Ya (VW.cons Ya (VW.cons (Wk.any _) (VW.cons (Wk.any _) VW.nil))))) rfl
theorem pr5 {v : Jv} {OL ON : AO} (hv : VSh 16 v LV NV OL ON) (h : TriU Θ (trb c) W fVal (aVal 1) (oU s 0) (aV v.kind v.num v.text LV NV) (oV s j OL ON)) :
  PTri (trb c) W (regN fPar 5) (stP (oPB s 0 zT (zE 0)) (tms 0 26 (aP4 s))) (fun x W0 F N ys w => x = .normal /\ St W0 F N (oPB s j (vJ v.kind v.num v.text) (zE 0)) (tms 0 26 (aP4 s)) ys w) := by
 cases hv with
 | P h1 h2 =>
  refine AY' 26 [1, 2, 999, 1000] [0, 2, 3, 4] rfl (fun F hF => A1' (BS' (e := 16) hF (.P h1 h2) h) noCU) (fun _ _ => noLU) fun F => Yj (dA' W s c v.kind v.num v.text j F) ⟨⟨?_, rfl, aP4 s, oPB s j (vJ v.kind v.num v.text) (zE 0), [(1000, 1000)], rfl, ⟨rfl, rfl, ⟨Ya, Ya, Ya, Ya, Ye⟩, ⟨⟨_, rfl, iV'⟩, ⟨_, rfl, Yc⟩, ⟨_, rfl, Yc⟩, ⟨_, rfl, Yc⟩, Ye⟩⟩, fun W0 F N ys w h => ⟨rfl, h⟩⟩⟩
  exact Cb18'
 | L h2 =>
  refine AY' 26 [1, 2, 999, 1000] [0, 2, 3, 4] rfl (fun F hF => A1' (BS' (e := 16) hF (.L h2) h) noCU) (fun _ _ => noLU) fun F => Yj (dC' W s c v.kind v.num v.text v.list.length 16 v.list j F) ⟨⟨?_, rfl, aP4 s, oPB s j (vJ v.kind v.num v.text) (zE 0), [(1000, 1000)], rfl, ⟨rfl, rfl, ⟨Ya, Ya, Ya, Ya, Ye⟩, ⟨⟨_, rfl, iV'⟩, ⟨_, rfl, Yc⟩, ⟨_, rfl, Yc⟩, ⟨_, rfl, Yc⟩, Ye⟩⟩, fun W0 F N ys w h => ⟨rfl, h⟩⟩⟩
  exact Cb18'
 | O h3 =>
  refine AY' 26 [1, 2, 999, 1000] [0, 2, 3, 4] rfl (fun F hF => A1' (BS' (e := 16) hF (.O h3) h) noCU) (fun _ _ => noLU) fun F => Yj (dB' W s c v.kind v.num v.text v.list.length v.names.length 16 v.list v.names j F) ⟨⟨?_, rfl, aP4 s, oPB s j (vJ v.kind v.num v.text) (zE 0), [(1000, 1000)], rfl, ⟨rfl, rfl, ⟨Ya, Ya, Ya, Ya, Ye⟩, ⟨⟨_, rfl, iV'⟩, ⟨_, rfl, Yc⟩, ⟨_, rfl, Yc⟩, ⟨_, rfl, Yc⟩, Ye⟩⟩, fun W0 F N ys w h => ⟨rfl, h⟩⟩⟩
  exact Cb18'
theorem pr6 {k : Int} (hs : s.size <= 65536) (hj : j <= s.size) :
  PTri (trb c) W (regN fPar 6) (stP (oPB s j (vJ k n t) (zE 0)) (tms 0 26 (aP4 s))) (fun x W0 F N ys w => x = .normal /\ St W0 F N (oPB s (skB (bts s) j) (vJ k n t) (zE 0)) (tms 0 26 (aP4 s)) ys w) := by
 refine AY' 26 [1, 2, 999, 1000] [0, 2, 3, 4] rfl (fun F hF => A1' (Q6' hF).up noCU) (fun _ _ => noLU) fun F => Yj (kQ' W s c k n t j F) ⟨⟨?_, rfl, aP4 s, oPB s (skB (bts s) j) (vJ k n t) (zE 0), [(1000, 1000)], rfl, ⟨rfl, rfl, ⟨Ya, Ya, Ya, Ya, Ye⟩, ⟨⟨_, rfl, Yc⟩, ⟨_, rfl, Yc⟩, ⟨_, rfl, Yc⟩, ⟨_, rfl, Yc⟩, Ye⟩⟩, fun W0 F N ys w h => ⟨rfl, h⟩⟩⟩
 simp only [Cnd.holds, Nat.blt_eq, true_and, and_true]; and_intros; all_goals first | exact hj | (unfold Few; omega) | exact Kb1'
theorem pr7 {k : Int} (h : j < s.size) :
  PTri R W (regN fPar 7) (stP (oPB s j (vJ k n t) (zE 0)) (tms 0 26 (aP4 s))) (fun x W0 F N ys w => x = .normal /\ St W0 F N (oPB s j (vJ k n t) (zE 0)) (tms 0 26 (aP7 s)) ys w) := by
 refine AY' 26 [1, 2, 999, 1000] [0, 2, 3, 4, 23] rfl (fun F hF => noCU) (fun _ _ => noLU) fun F => Yj (kP' R W s k n t j F) ⟨⟨?_, rfl, aP7 s, oPB s j (vJ k n t) (zE 0), [(1000, 1000)], rfl, ⟨rfl, rfl, ⟨Ya, Ya, Ya, Ya, Ya, Ye⟩, ⟨⟨_, rfl, Yc⟩, ⟨_, rfl, Yc⟩, ⟨_, rfl, Yc⟩, ⟨_, rfl, Yc⟩, Ye⟩⟩, fun W0 F N ys w h => ⟨rfl, h⟩⟩⟩
 simp only [Cnd.holds, Nat.blt_eq, true_and, and_true]; and_intros; all_goals first | exact A0' (decide_eq_true (by simp only [Z0]; omega)) | exact Kb1'
end Go.Proofs.YtdphpillcaajpaaDoor.Js
namespace Go.Proofs.YtdphpillcaajpaaDoor.Sp
open Go Go.RowKit Eng
theorem bA' {P : Program} {f : FuncId} {fn : Func} (hf : P.funcs[f]? = some fn) (hname : (fn.name == "runtime.NumGoroutine") = false)
  (hb : fn.body.isNone = true) (hn : (Extern.findNext fn).isNone = true) (he : Extern.find fn = some Extern.AbiNoEscape.same) (v : Value) (w : World) :
  (callFunc f #[v]).run P w = .ok (.value v) w := by
 rw [run_callFunc_extern hf hname hb (by simpa using hn) he]; rfl
def pows : List Int := [1, 10, 100, 1000, 10000, 100000, 1000000, 10000000, 100000000, 1000000000, 10000000000, 100000000000, 1000000000000, 10000000000000, 100000000000000, 1000000000000000, 10000000000000000, 100000000000000000, 1000000000000000000, 10000000000000000000]
def firsts : List Int := [240, 240, 240, 240, 240, 240, 240, 240, 240, 240, 240, 240, 240, 240, 240, 240, 240, 240, 240, 240, 240, 240, 240, 240, 240, 240, 240, 240, 240, 240, 240, 240, 240, 240, 240, 240, 240, 240, 240, 240, 240, 240, 240, 240, 240, 240, 240, 240, 240, 240, 240, 240, 240, 240, 240, 240, 240, 240, 240, 240, 240, 240, 240, 240, 240, 240, 240, 240, 240, 240, 240, 240, 240, 240, 240, 240, 240, 240, 240, 240, 240, 240, 240, 240, 240, 240, 240, 240, 240, 240, 240, 240, 240, 240, 240, 240, 240, 240, 240, 240, 240, 240, 240, 240, 240, 240, 240, 240, 240, 240, 240, 240, 240, 240, 240, 240, 240, 240, 240, 240, 240, 240, 240, 240, 240, 240, 240, 240, 241, 241, 241, 241, 241, 241, 241, 241, 241, 241, 241, 241, 241, 241, 241, 241, 241, 241, 241, 241, 241, 241, 241, 241, 241, 241, 241, 241, 241, 241, 241, 241, 241, 241, 241, 241, 241, 241, 241, 241, 241, 241, 241, 241, 241, 241, 241, 241, 241, 241, 241, 241, 241, 241, 241, 241, 241, 241, 241, 241, 241, 241, 241, 241, 241, 241, 2, 2, 2, 2, 2, 2, 2, 2, 2, 2, 2, 2, 2, 2, 2, 2, 2, 2, 2, 2, 2, 2, 2, 2, 2, 2, 2, 2, 2, 2, 19, 3, 3, 3, 3, 3, 3, 3, 3, 3, 3, 3, 3, 35, 3, 3, 52, 4, 4, 4, 68, 241, 241, 241, 241, 241, 241, 241, 241, 241, 241, 241]
def accepts : List (Int × Int) := [(128, 191), (160, 191), (128, 159), (144, 191), (128, 143), (0, 0), (0, 0), (0, 0), (0, 0), (0, 0), (0, 0), (0, 0), (0, 0), (0, 0), (0, 0), (0, 0)]
def cfg : Cfg := { strs := [], ints := [], same := [75], clone := [], laid := [(5, pows.map (Value.int .u64)), (2, firsts.map (Value.int .u8)), (3, accepts.flatMap fun x => [Value.int .u8 x.1, .int .u8 x.2])] }
theorem cfg_ok : CfgOk Θ cfg where
 strs := fun x hx => by
  cases hx
 ints := fun x hx => by
  cases hx
 same := fun x hx => by
  obtain rfl := List.mem_singleton.1 hx; exact bA' Tryd.func75 χ χ χ χ
 clone := fun x hx => by
  cases hx
theorem idle : Idle Θ 24 2 := by
 intro vs w hvs; obtain ⟨l⟩ := vs
 match l, hvs with
 | [x, y], _ =>
  refine callsD_of_wpS Tryd.func24 rfl fun c₀ cs hu => ?_
  apply wpS_seq; apply wpS_region; simp [wpOpsS, go_sem, recoverD, hu, Tryd.ntmps24, Exit.thenS]; apply wpS_seq; apply wpS_region; simp [wpOpsS, go_sem, recoverD, hu, Tryd.ntmps24, Exit.thenS]; refine wpS_cond (t := false) (by simp [Act.eval, Array.replicate]) ?_; simp only [Bool.false_eq_true, if_false]; refine wpS_of_wp (wp_skip ?_); cases c₀
  simp_all [bodyPostS, results, Tryd.results24]
set_option maxRecDepth 1000000 in
theorem speaks_closed {w : World} (hL : H1' cfg w) : Calls Θ 7 #[] w fun e w' => e = .returned (.bool true) /\ Below w.heap.size w w' :=
 Q2' (fP := 11) (g := 24) (m := 2) (fuel' := 1000000) (args := []) cfg_ok χ (fun args w => D4' Tryd.func24 χ args w) idle (fuel := 1000000) (fun w => χ) hL
end Go.Proofs.YtdphpillcaajpaaDoor.Sp
namespace Go.Proofs.YtdphpillcaajpaaDoor.Js
open Go Go.RowKit Eng Kit
open Int renaming ofNat -> o'
open Go.Value renaming string -> vs'
open Go.Value renaming int -> vi'
open AO renaming cells -> ce'
open AV renaming v -> v'
open AV renaming ptr -> pt'
open Go.IntKind renaming u8 -> u8'
open Nat renaming blt_eq -> bl'
open List renaming length_append -> la'
open List renaming length_cons -> lc'
open List renaming append_assoc -> as'
open Go.Value renaming slice -> sl'
variable {F : HP} {v : Jv} {W0 w : World} {N : A5'} {a : Act} {j : Nat} {k : Δ}
variable {W : World} {s : Δ} {c : Nat}
noncomputable abbrev parF : Func := Tryd.f11
theorem bG' : parF.body = some (.seq (regN fPar 0) (.seq (.seq (regN fPar 1) (.cond (.tmp 7) (.seq (regN fPar 2) .ret) .skip)) (.seq (regN fPar 3) (C6' fPar 4)))) := by
 have h := bF'; rw [show Θ.funcs[fPar]? = some parF from Tryd.func11] at h; exact h
theorem TP' (args : Array Value) (w : World) : (callFunc fCl args).run Θ w = .ok (.enter fCl args) w := D4' Tryd.func24 χ args w
theorem WL' {A : List AV} {H : LH} {v : AV} (hF : AH' W F) (r : Rep W0 N F (AL' H) w) (ht : VRs N A a.tmps.toList) (h : VAll (fun u _ _ => u = v) (uRes W A H F)) : ∃ y, (results parF a.tmps).run Θ w = .ok y w /\ VR N v y := by
 obtain ⟨u, h', n', lg', c', he, hc, hq⟩ := VT.all_pick h.out; rw [CI'] at he; subst hq
 have ht' : (CK' (envU Θ (fun _ => False) F (conL []) B4' (JC' []) W) A parF.results.toList >>= fun rs => match rs with | [x] => (pure x : AP AV) | _ => pure (.tuple rs)).run false (AL' H) 1100 [] = .ok u h' n' lg' c' := by
  rw [<- he]
  congr 2
  funext rs
  match rs with
  | [] => rfl
  | [x] => rfl
  | x :: y :: l => rfl
 obtain ⟨_, _, y, h1, h2⟩ := SI' (fn := parF) hF.envU r ht hc ht'; exact ⟨y, h1, h2⟩
theorem eZ' {Post : Ending -> World -> Prop} {x y z : Value} (hd : a.defers = [{ target := .fn (.func fCl) #[x, y], args := #[] }]) (hr : (results parF a.tmps).run Θ w = .ok z w) (hp : Post (.returned z) w) : Leaves Θ parF a.tmps Post a.defers .returning w := by
 rw [hd]; refine leaves_cons (f := fCl) (args := #[x, y]) (by intro hh; cases hh) (by simp only [invoke, Array.empty_append]; exact TP' _ _) ?_; refine (Sp.idle #[x, y] w rfl).mono ?_; rintro e u' w' ⟨rfl, ⟨z', rfl⟩, rfl⟩; exact ⟨z, hr, hp⟩
def sgD (i : Nat) : Nat := match i with
 | 0 => 1
 | 1 => 2
 | 999 => 999
 | _ => 5000
theorem TM' {Post : Ending -> World -> Prop} {W0 w : World} {N : A5'} {ch : List PanicEntry} {k n e : Int} {t : Δ} {LV NV : AV} {x y : Value} (hF : AH' W F) (hd : a.defers = [{ target := .fn (.func fCl) #[x, y], args := #[] }]) (hch : trb c ch)
  (hVr : LV.ren sgD = LV /\ NV.ren sgD = NV)
  (r : Rep W0 N F (AL' (oPQ (.cells [iv k, iv n, sv t, LV, NV] tJs) (zE e))) w) (hN : ∀ i, 1000 <= i -> N i = none) (hx : VR N (.ptr 1 0) x) (hy : VR N (.ptr 2 0) y) (ht : VRs N (tms 0 26 aP5) a.tmps.toList)
  (hp : ∀ z w', Rep W0 (fun _ => none) F .nil w' -> VR (fun _ => none) (.tuple [aV 0 0 nil0 nilS nilS, iv (o' c)]) z -> Post (.returned z) w') : Leaves Θ parF a.tmps Post a.defers (.panicking ch) w := by
 obtain ⟨_, rfl⟩ := hch; rw [hd]; refine leaves_cons (f := fCl) (args := #[x, y]) (by intro hh; cases hh) (by simp only [invoke, Array.empty_append]; exact TP' _ _) ?_
 have r5 : Rep W0 (fun i => N (sgD i)) F (AL' (oPR k n t LV NV e)) w := QX' r rfl rfl χ (by
  refine A2' ?_ (A2' ?_ (A2' ?_ A4'))
  ·show some (ce' [iv k, iv n, sv t, LV, NV] tJs) = some (ce' [iv k, iv n, sv t, LV.ren sgD, NV.ren sgD] tJs); rw [hVr.1, hVr.2]
  ·rfl
  ·rfl)
 have hN5 : NB (fun i => N (sgD i)) (oPR k n t LV NV e) := fun i hi _ => by
  have : sgD i = 5000 := by unfold sgD; split <;> first | omega | rfl
  show N (sgD i) = none; rw [this]; exact hN 5000 ω
 have ht5 : VRs (fun i => N (sgD i)) (tms 0 26 [(2, .ptr 0 0), (3, .ptr 1 0)]) a.tmps.toList := DU'.1 ht; refine (f7' r5 hN5 (K6'.1 hx) (K6'.1 hy)).mono ?_; rintro e' u' w' ⟨rfl, rfl, ys, N', q1, q2, q3, q4⟩; show Leaves Θ parF a.tmps Post [] .returning w'; have ht' : VRs N' (tms 0 26 [(2, .ptr 0 0), (3, .ptr 1 0)]) a.tmps.toList := ht5.congr (K := fun i => Nat.blt i 1000) (fun i hi => q1 i (by simpa [bl'] using hi)) (E9' (show ∀ x ∈ [(2, pt' 0 0), (3, pt' 1 0)], AV.cl (fun i => Nat.blt i 1000) x.2 from A2' rfl (A2' rfl A4')) 26 0)
 obtain ⟨z, hz, hvz⟩ := WL' (v := .tuple [aV 0 0 nil0 nilS nilS, iv (o' c)]) hF q3 ht' (Yj (jX' W c F) ⟨⟨by
  exact Cb25'
  , rfl⟩⟩)
 exact ⟨z, hz, hp z w' (GH' (K := fun _ => false) q3 (fun i o hi => by rw [DD'] at hi; cases hi) (fun i hi => by cases hi)) (hvz.congr (K := fun _ => false) (fun i hi => by cases hi) ⟨⟨Ye, Ye, Ye, Ye, Ye, Ye⟩, Ye, Ye⟩)⟩
variable {W : World} {s : Δ} {c : Nat}
theorem R3' {Q : Exit -> Act -> World -> Prop} : ∀ ch a' w', a'.defers = a.defers -> J6' (fun _ => False) F W0 ch w' -> Q (.panic ch) a' w' := fun _ _ _ _ h => h.1.elim
theorem UE' (N : A5') : VRs N (tms 0 26 (aP0 s)) (#[vs' s] ++ Array.replicate (parF.ntmps - (#[vs' s] : Array Value).size) undef).toList := by
 have e1 : tms 0 26 (aP0 s) = v' (.string s) :: anys 25 := rfl
 have e2 : (#[vs' s] ++ Array.replicate (26 - (#[vs' s] : Array Value).size) undef).toList = .string s :: List.replicate 25 undef := by simp
 rw [show parF.ntmps = 26 from Tryd.ntmps11, e1, e2]; refine AC'.2 ⟨VR_v.2 rfl, ?_⟩; simp only [anys, VRs, VR]; simp
noncomputable def opN (f : FuncId) (r i : Nat) : Oper := match regN f r with
 | .region _ ops _ => ops.getD i default
 | _ => default
theorem iR' : regN fPar 3 = .region 3 ([Oper.mk (some 9) (Op.makeFunc (Fn.func fCl) #[] #[Operand.tmp 2, Operand.tmp 3]) (opN fPar 3 0).type (opN fPar 3 0).pos (opN fPar 3 0).after none, Oper.mk none (Op.defer (Call.mk (Callee.value (Operand.tmp 9)) #[] #[])) (opN fPar 3 1).type (opN fPar 3 1).pos (opN fPar 3 1).after none] : List Oper).toArray false := χ
theorem WU' {vargs : Array Value} {Post : Ending -> World -> Prop} (hs : s.size <= 65536) (hF : AH' W F) (hN : NB N []) (r : Rep W0 N F (AL' []) w) (ha : VRs N [sv s] vargs.toList)
  (h : ∀ (N1 : A5') (w1 : World) (a1 : Act) (x y : Value), (∀ i, 1000 <= i -> N1 i = none) -> Rep W0 N1 F (AL' (oPQ zT (zE 0))) w1 -> VRs N1 (tms 0 26 (aP3 s)) a1.tmps.toList -> a1.defers = [{ target := .fn (.func fCl) #[x, y], args := #[] }] -> VR N1 (.ptr 1 0) x -> VR N1 (.ptr 2 0) y -> (C6' fPar 4).wp Θ (bodyPostD Θ parF Post) a1 w1) : Calls Θ fPar vargs w Post := by
 have hva : vargs = #[.string s] := by
  simp only [VRs] at ha; obtain ⟨y, l, h1, rfl, hl⟩ := ha; rw [VR_v.1 h1] at hl; apply Array.ext'; exact hl
 subst hva; refine calls_of_wp_defers (fn := parF) Tryd.func11 bG' ?_; refine wp_seq (pr0 (R := fun _ => False) (W := W) (s := s) W0 F N w _ _ hF ⟨N, fun _ _ => rfl, (fun i hi _ => hN i hi rfl), fY' rfl r, UE' N⟩ R3' fun x a1 w1 h1 d1 => ?_); obtain ⟨rfl, h1⟩ := h1; show Code.wp Θ _ _ a1 w1; refine wp_seq (wp_seq (pr1 (R := fun _ => False) hs W0 F N w1 a1 _ hF h1 R3' fun x a2 w2 h2 d2 => ?_)); obtain ⟨rfl, N2, p1, p2, p3, p4⟩ := h2; show Code.wp Θ (.cond _ _ _) _ a2 w2; have ht7 : VR N2 (.lit false) (a2.eval (.tmp 7)) := GS' p4 (.tmp 7); refine wp_cond (t := false) (by simpa only [VR] using ht7) ?_; simp only [Bool.false_eq_true, if_false]; refine wp_skip ?_; show Code.wp Θ (.seq (regN fPar 3) (C6' fPar 4)) _ a2 w2; refine wp_seq ?_; rw [iR']; refine wp_region_lit ?_
 have hsz : a2.tmps.size = 26 := by
  have := p4.len; rw [show (tms 0 26 (aP2 s)).length = 26 from rfl] at this; exact this.symm
 refine DH' (by rfl) fun K hK => ?_
 have hrun1 : (execOp a2.eval (Oper.mk (some 9) (Op.makeFunc (Fn.func fCl) #[] #[Operand.tmp 2, Operand.tmp 3]) (opN fPar 3 0).type (opN fPar 3 0).pos (opN fPar 3 0).after none)).run Θ w2 = .ok (.value (.func (.func fCl) #[] #[a2.eval (.tmp 2), a2.eval (.tmp 3)])) w2 := by
  simp [execOp, Instr.makeFunc, Sem.run_bind]
 unfold Oper.wp; rw [hrun1]; refine hK _ _ ?_; clear hK K
 refine DH' (by rfl) fun K hK => ?_
 have hev : (a2.put (some 9) (.func (.func fCl) #[] #[a2.eval (.tmp 2), a2.eval (.tmp 3)])).eval (.tmp 9) = .func (.func fCl) #[] #[a2.eval (.tmp 2), a2.eval (.tmp 3)] := by
  simp [Act.eval, Act.put, hsz]
 have hrun2 : (execOp (a2.put (some 9) (.func (.func fCl) #[] #[a2.eval (.tmp 2), a2.eval (.tmp 3)])).eval (Oper.mk none (Op.defer (Call.mk (Callee.value (Operand.tmp 9)) #[] #[])) (opN fPar 3 1).type (opN fPar 3 1).pos (opN fPar 3 1).after none)).run Θ w2 = .ok (.defer { target := .fn (.func fCl) #[a2.eval (.tmp 2), a2.eval (.tmp 3)], args := #[] }) w2 := by
  simp only [execOp, resolve, hev, Deferred.ofValue, Sem.run_bind, Sem.run_pure, Result.andThen_ok]; simp
 unfold Oper.wp; rw [hrun2, Oper.upon_defer]; refine hK _ _ ?_; clear hK K; show Code.wp Θ (C6' fPar 4) _ _ w2; have hd : a2.defers = [] := d2.trans d1; have hx : VR N2 (.ptr 1001 0) (a2.eval (.tmp 2)) := GS' p4 (.tmp 2); have hy : VR N2 (.ptr 1002 0) (a2.eval (.tmp 3)) := GS' p4 (.tmp 3); refine h (fun i => N2 (sg [(1, 1001), (2, 1002)] i)) w2 _ (a2.eval (.tmp 2)) (a2.eval (.tmp 3)) (fun i hi => ?_) (QX' p3 rfl rfl χ (A2' rfl (A2' rfl (A2' rfl A4')))) ?_ ?_ (K6'.1 hx) (K6'.1 hy)
 ·have e : sg [(1, 1001), (2, 1002)] i = i + T.limit := by
   have h1 : Nat.beq i 1 = false := by
    cases hb : Nat.beq i 1 with
    | false => rfl
    | true => have := Nat.eq_of_beq_eq_true hb; omega
   have h2 : Nat.beq i 2 = false := by
    cases hb : Nat.beq i 2 with
    | false => rfl
    | true => have := Nat.eq_of_beq_eq_true hb; omega
   have h3 : Nat.blt i 1000 = false := by
    cases hb : Nat.blt i 1000 with
    | false => rfl
    | true => rw [bl'] at hb; omega
   rw [sg, h1, sg, h2, sg, h3]
  show N2 (sg [(1, 1001), (2, 1002)] i) = none; rw [e]; refine p2 _ ω ?_
  have hl : 1100 <= T.limit := δ
  cases hg : getO oP0 (i + T.limit) with
  | none => rfl
  | some o => have := L3' (b := 1100) (H := oP0) rfl hg; omega
 ·refine DU'.1 ?_; have hv : VRs N2 ((tms 0 26 (aP2 s)).set 9 .any) (a2.tmps.toList.set 9 (.func (.func fCl) #[] #[a2.eval (.tmp 2), a2.eval (.tmp 3)])) := p4.set 9 (by simp only [VR]); have hw := VK' (idx := [0, 2, 3]) (l := [(1, 1001), (2, 1002)]) (told := aP3 s) (tmps := (tms 0 26 (aP2 s)).set 9 .any) (m := 26) rfl ⟨Ya, Ya, Ya, Ye⟩; have := hw _ _ hv; simpa [Act.put] using this
 ·show _ :: a2.defers = _; rw [hd]
theorem iF' {LV NV : AV} {OL ON : AO} (hs : s.size <= 65536) (hv : VSh 16 v LV NV OL ON) (h : TriU Θ (trb c) W fVal (aVal 1) (oU s 0) (aV v.kind v.num v.text LV NV) (oV s j OL ON)) (hj : j <= s.size) (he : ¬ skB (bts s) j < s.size) :
  PTri (trb c) W (C6' fPar 4) (stP (oPQ zT (zE 0)) (tms 0 26 (aP3 s))) (fun x W0 F N ys w => x = .ret /\ St W0 F N (oPF v.kind v.num 0 v.text LV NV OL ON) (tms 0 26 aP5) ys w) := by
 cases hv with
 | P h1 h2 =>
  refine AY' 26 kPU [2, 3] rfl (fun F hF => A1' (BS' (e := 16) hF (.P h1 h2) h) (A1' (Q6' hF).up (A1' (AS' hF c) noCU))) (fun _ _ => noLU) fun F => Yj (kM' W s c v.kind v.num v.text j F) ⟨⟨?_, rfl, aP5, oPF v.kind v.num 0 v.text nilS nilS dum dum, [(1006, 1101), (1007, 1102)], rfl, ⟨rfl, rfl, ⟨Ya, Ya, Ye⟩, ⟨⟨_, rfl, Yc⟩, ⟨_, rfl, Yc⟩, ⟨_, rfl, Yc⟩, ⟨_, rfl, Yc⟩, Ye⟩⟩, fun W0 F N ys w h => ⟨rfl, h⟩⟩⟩
  exact Cb26'
 | L h2 =>
  refine AY' 26 kPU [2, 3] rfl (fun F hF => A1' (BS' (e := 16) hF (.L h2) h) (A1' (Q6' hF).up (A1' (AS' hF c) noCU))) (fun _ _ => noLU) fun F => Yj (kO' W s c v.kind v.num v.text v.list.length 16 v.list j F) ⟨⟨?_, rfl, aP5, oPF v.kind v.num 0 v.text (sL5 1006 v.list.length) nilS (ownJ 16 v.list) dum, [(1006, 1101), (1007, 1102)], rfl, ⟨rfl, rfl, ⟨Ya, Ya, Ye⟩, ⟨⟨_, rfl, Yc⟩, ⟨_, rfl, Yc⟩, ⟨_, rfl, Yc⟩, ⟨_, rfl, Yc⟩, Ye⟩⟩, fun W0 F N ys w h => ⟨rfl, h⟩⟩⟩
  exact Cb26'
 | O h3 =>
  refine AY' 26 kPU [2, 3] rfl (fun F hF => A1' (BS' (e := 16) hF (.O h3) h) (A1' (Q6' hF).up (A1' (AS' hF c) noCU))) (fun _ _ => noLU) fun F => Yj (kN' W s c v.kind v.num v.text v.list.length v.names.length 16 v.list v.names j F) ⟨⟨?_, rfl, aP5, oPF v.kind v.num 0 v.text (sL5 1006 v.list.length) (sS1 1007 v.names.length) (ownJ 16 v.list) (rS v.names), [(1006, 1101), (1007, 1102)], rfl, ⟨rfl, rfl, ⟨Ya, Ya, Ye⟩, ⟨⟨_, rfl, Yc⟩, ⟨_, rfl, Yc⟩, ⟨_, rfl, Yc⟩, ⟨_, rfl, OV' (AO' _ _) rfl⟩, Ye⟩⟩, fun W0 F N ys w h => ⟨rfl, h⟩⟩⟩
  simp only [Cnd.holds, AO', bl', true_and, and_true]; and_intros; all_goals exact Kb18'
def tJ (v : Jv) (LV NV : AV) (e : Int) : AV := .tuple [aV v.kind v.num v.text LV NV, iv e]
theorem res_ok {LV NV : AV} {OL ON : AO} (hv : VSh 16 v LV NV OL ON) (F : HP) : VAll (fun u _ _ => u = tJ v LV NV 0) (uRes W (tms 0 26 aP5) (oPF v.kind v.num 0 v.text LV NV OL ON) F) := by
 cases hv with
 | P h1 h2 =>
  refine Yj (jU' W dum dum v.kind v.num 0 v.text F) ⟨⟨?_, rfl⟩⟩; exact Cb25'
 | L h2 =>
  refine Yj (jW' W _ _ v.kind v.num 0 v.text v.list.length F) ⟨⟨?_, rfl⟩⟩; exact Cb25'
 | O h3 =>
  refine Yj (jV' W _ _ v.kind v.num 0 v.text v.list.length v.names.length F) ⟨⟨?_, rfl⟩⟩; exact Cb25'
theorem Par_ok (hW : LWT W) (hs : s.size <= 65536) (hp : valP (bts s) 16 0 = .ok v j) (he : ¬ skB (bts s) j < s.size) : ∃ LV NV OL ON, VSh 16 v LV NV OL ON /\ v.names.length <= 1000000 /\ Tri Θ W fPar [sv s] [] (tJ v LV NV 0) [(1006, OL), (1007, ON)] := by
 have ho := QO' (c := 300) hW (by omega : s.size <= 1000000) 16 1 0 rfl (Nat.zero_le _) (by rw [hp]; intro e h; cases h); rw [hp] at ho; obtain ⟨q1, q2, q3, LV, NV, OL, ON, q4, q5⟩ := ho
 refine ⟨LV, NV, OL, ON, q4, q3, fun W0 F N w vargs hF hN r ha => ?_⟩
 refine WU' hs hF hN r ha fun N1 w1 a1 x y hN1 r1 ht hd hx hy => ?_
 refine iF' (c := 300) hs q4 q5 q2 he W0 F N1 w1 a1 _ hF ⟨N1, fun _ _ => rfl, fun i hi _ => hN1 i hi, r1, ht⟩ (fun ch a' w' _ hp => absurd hp.1.1 δ) fun x' a' w' hs' hd' => ?_
 obtain ⟨rfl, N2, p1, p2, p3, p4⟩ := hs'; show Leaves Θ parF a'.tmps _ a'.defers .returning w'; obtain ⟨z, hz, hvz⟩ := WL' hF p3 p4 (res_ok (W := W) q4 F)
 have hK : ∀ i, Nat.ble 1000 i = true -> (if Nat.ble 1000 i = true then N2 i else N i) = N2 i := fun i hi => if_pos hi
 refine eZ' (hd'.trans hd) hz ⟨z, rfl, fun i => if Nat.ble 1000 i = true then N2 i else N i, fun i hi => if_neg (by rw [Nat.ble_eq]; omega), fun i hi hg => ?_, GH' (K := fun i => Nat.ble 1000 i) p3 (fun i o hi => ?_) hK, AC'.2 ⟨hvz.congr (K := fun i => Nat.ble 1000 i) hK ?_, AU'⟩⟩
 ·show (if Nat.ble 1000 i = true then N2 i else N i) = none; rw [if_pos (Nat.ble_eq.symm ▸ hi)]; refine p2 i hi ?_; simp only [oPF, getO] at hg ⊢; rw [if_neg ω, if_neg ω]; exact hg
 ·rw [AI' (CF' rfl)] at hi; rw [AI' (CF' rfl)]; have hm := B0' hi; simp only [List.mem_cons, List.not_mem_nil, or_false, Prod.mk.injEq] at hm
  rcases hm with ⟨rfl, rfl⟩ | ⟨rfl, rfl⟩
  ·exact ⟨rfl, rfl, by cases q4 <;> trivial⟩
  ·exact ⟨rfl, rfl, by cases q4 <;> first | trivial | exact G9' _ _⟩
 ·cases q4 with
  | P => exact ⟨⟨Ye, Ye, Ye, Ye, Ye, Ye⟩, Ye, Ye⟩
  | L => exact ⟨⟨Ye, Ye, Ye, rfl, Ye, Ye⟩, Ye, Ye⟩
  | O h3 => exact ⟨⟨Ye, Ye, Ye, rfl, rfl, Ye⟩, Ye, Ye⟩
variable {W : World} {s : Δ} {c : Nat}
def callT (o : Oper) : Array TypeId := match o.op with
 | .call c => c.argTypes
 | _ => #[]
theorem iQ' : regN fPar 5 = .region 5 ([Oper.mk (some 13) (.move (.tmp 4)) (opN fPar 5 0).type (opN fPar 5 0).pos (opN fPar 5 0).after none, Oper.mk (some 14) (.call (.mk (.value (.func fVal)) #[.tmp 13, .const (.int .i64 (o' 1))] (callT (opN fPar 5 1)))) (opN fPar 5 1).type (opN fPar 5 1).pos (opN fPar 5 1).after none, opN fPar 5 2] : List Oper).toArray false := χ
theorem iP' : regN fPar 8 = .region 8 ([Oper.mk (some 24) (.call (.mk (.value (.func fGv)) #[.const (.int .i64 (o' 4))] (callT (opN fPar 8 0)))) (opN fPar 8 0).type (opN fPar 8 0).pos (opN fPar 8 0).after none] : List Oper).toArray false := χ
theorem VQ' (args : Array Value) (w : World) : (callFunc fVal args).run Θ w = .ok (.enter fVal args) w := D4' Tryd.func25 χ args w
theorem eL' (args : Array Value) (w : World) : (callFunc fGv args).run Θ w = .ok (.enter fGv args) w := D4' Tryd.func27 χ args w
def sgV (i : Nat) : Nat := match i with
 | 0 => 1000
 | 999 => 999
 | _ => 5000
theorem fU' {ys : List Value} {ts : List AV} (hts : ts.length = 26) (h : VRs N ts ys) (ht : TOK [2, 3] ([2, 3].map (getL ts)) [] aP5) : VRs N (tms 0 26 aP5) ys := by
 have hw := VK' (idx := [2, 3]) (l := []) (told := aP5) (tmps := ts) (m := 26) hts ht; have h2 := hw _ _ h
 rw [show AV.rens (sg []) (tms 0 26 aP5) = tms 0 26 aP5 from χ] at h2
 exact h2
theorem iT' {Q : Exit -> Act -> World -> Prop} (hF : AH' W F) (h : ∀ v H', TriU Θ (trb c) W fVal (aVal 1) (oU s 0) v H') (hN : NB N (oPB s 0 zT (zE 0))) (r : Rep W0 N F (AL' (oPB s 0 zT (zE 0))) w) (ht : VRs N (tms 0 26 (aP4 s)) a.tmps.toList)
  (hU : ∀ ch a' w', a'.defers = a.defers -> trb c ch -> Rep W0 N F (AL' (oPQ zT (zE 0))) w' -> VRs N (tms 0 26 aP5) a'.tmps.toList -> Q (.panic ch) a' w') : (regN fPar 5).wp Θ Q a w := by
 rw [iQ']; refine wp_region_lit ?_
 have hsz : a.tmps.size = 26 := by
  have := ht.len; rw [show (tms 0 26 (aP4 s)).length = 26 from rfl] at this; exact this.symm
 refine DH' (by rfl) fun K hK => ?_
 have hrun0 : ∀ (t : TypeId) (p : String) (e : Array Edge), (execOp a.eval (Oper.mk (some 13) (.move (.tmp 4)) t p e none)).run Θ w = .ok (.value (a.eval (.tmp 4))) w := fun t p e => by
  simp only [execOp, Sem.run_pure]
 unfold Oper.wp; rw [hrun0]; refine hK _ _ ?_; clear hK K
 refine DH' (by rfl) fun K hK => ?_
 clear hK
 have hev : (a.put (some 13) (a.eval (.tmp 4))).eval (.tmp 13) = a.eval (.tmp 4) := by
  simp [Act.eval, Act.put, hsz]
 have hrun1 : ∀ (t : TypeId) (p : String) (e : Array Edge) (ts : Array TypeId), (execOp (a.put (some 13) (a.eval (.tmp 4))).eval (Oper.mk (some 14) (.call (.mk (.value (.func fVal)) #[.tmp 13, .const (.int .i64 (o' 1))] ts)) t p e none)).run Θ w = .ok (.enter fVal #[a.eval (.tmp 4), .int .i64 (o' 1)]) w := fun t p e ts => by
  simp only [execOp, resolve, Act.eval, Deferred.ofValue, Sem.run_bind, Sem.run_pure, Result.andThen_ok, invoke]
  have e4 : a.eval (.tmp 4) = a.tmps[4]?.getD undef := by simp [Act.eval]
  rw [e4] at hev; simp [VQ']; exact ⟨hev, rfl⟩
 unfold Oper.wp; rw [hrun1, Oper.upon_enter]; have hx : VR N (.ptr 1000 0) (a.eval (.tmp 4)) := GS' ht (.tmp 4)
 have hpart := r.part (K := fun i => Nat.beq i 1000) (h0 := AL' [(1000, rdO s 0)]) (fun i o hi => by
  rw [AI' (CF' rfl)] at hi; rw [AI' (CF' rfl)]; have hm := B0' hi; simp only [List.mem_cons, List.not_mem_nil, or_false, Prod.mk.injEq] at hm; obtain ⟨rfl, rfl⟩ := hm
  exact ⟨rfl, rfl, Ye, Ye, Ye⟩)
 have hre := QX' (H := oU s 0) (σ := sgV) (fY' rfl hpart) rfl rfl χ (A2' rfl (A2' rfl A4'))
 have hcall := h (.tuple []) [(999, K9' .nothing)] W0 _ _ w #[a.eval (.tmp 4), .int .i64 (o' 1)] (bB' hF) (fun i hi _ => by
  have e : sgV i = 5000 := by unfold sgV; split <;> first | omega | rfl
  show N.only _ (sgV i) = none
  rw [e]; rfl) hre (AC'.2 ⟨K6'.1 (VR.congr (K := fun i => Nat.beq i 1000) (N := N) (fun i hi => by simp only [A5'.only, hi, if_true]) rfl hx), AC'.2 ⟨VR_v.2 rfl, AU'⟩⟩)
 refine hcall.mono ?_; rintro e w' (⟨y, rfl, hst⟩ | ⟨ch, rfl, hR, hrep⟩)
 ·exact (NC' (m := .nothing) rfl rfl hst).elim
 ·refine hU ch _ w' (put_defers _ _ _) hR (WK' hrep fun i o hi => ?_) (fU' (ts := (tms 0 26 (aP4 s)).set 13 .any) rfl ?_ ⟨Ya, Ya, Ye⟩)
  ·rw [AI' (CF' rfl)] at hi; rw [AI' (CF' rfl)]; have hm := B0' hi; simp only [oPQ, List.mem_cons, List.not_mem_nil, or_false, Prod.mk.injEq] at hm
   rcases hm with ⟨rfl, rfl⟩ | ⟨rfl, rfl⟩ | ⟨rfl, rfl⟩ <;> exact ⟨rfl, rfl⟩
  ·have := ht.set 13 (x := .any) (y := a.eval (.tmp 4)) (by simp only [VR]); simpa [Act.put] using this
theorem U2' (h : 65536 < s.size) : Tri Θ W fPar [sv s] [] (.tuple [aV 0 0 nil0 nilS nilS, iv (o' 1)]) [] := by
 refine AN' (con := []) (hints := AD' [ht' fPar 1 2]) (lc := []) [] rfl (fun F hF => noC) (fun F _ => noL) fun F => ?_
 refine Yj (UH' W s F) ⟨⟨?_, (AJ' (vs' := [.tuple [aV 0 0 nil0 nilS nilS, iv (o' 1)]]) (H' := []) [] rfl rfl (Yb) trivial).fits rfl⟩⟩
 simp only [Cnd.holds, bl', true_and, and_true]; and_intros; all_goals first | exact A0' (decide_eq_true (by simp only [Z0]; omega)) | exact ⟨rfl, rfl⟩ | exact Kb0'
theorem ZG' {z : Value} (hN : NB N []) (r : Rep W0 (fun _ => none) F .nil w) (h : VR (fun _ => none) (.tuple [aV 0 0 nil0 nilS nilS, iv (o' c)]) z) : ∃ y, Ending.returned z = .returned y /\ St W0 F N [] [.tuple [aV 0 0 nil0 nilS nilS, iv (o' c)]] [y] w :=
 ⟨z, rfl, N, fun _ _ => rfl, hN, GH' (K := fun _ => false) r (fun i o hi => by
  have : (AL' []).find i = some o := hi
  rw [show AL' [] = T.nil from rfl, DD'] at this; cases this) (fun i hi => by cases hi), AC'.2 ⟨h.congr (K := fun _ => false) (fun i hi => by cases hi) ⟨⟨Ye, Ye, Ye, Ye, Ye, Ye⟩, Ye, Ye⟩, AU'⟩⟩
theorem nR' (hW : LWT W) (hs : s.size <= 65536) (hp : valP (bts s) 16 0 = .err c) : Tri Θ W fPar [sv s] [] (.tuple [aV 0 0 nil0 nilS nilS, iv (o' c)]) [] := by
 have ho := QO' (c := c) hW (by omega : s.size <= 1000000) 16 1 0 rfl (Nat.zero_le _) (by rw [hp]; intro e h; injection h with h; exact h.symm); rw [hp] at ho; obtain ⟨_, hdie⟩ := ho; intro W0 F N w vargs hF hN r ha
 refine WU' hs hF hN r ha fun N1 w1 a1 x y hN1 r1 ht hd hx hy => ?_
 rw [SY']; refine wp_seq (pr4 (R := fun _ => False) W0 F N1 w1 a1 _ hF ⟨N1, fun _ _ => rfl, fun i hi _ => hN1 i hi, r1, ht⟩ R3' fun x' a2 w2 h2 d2 => ?_); obtain ⟨rfl, N2, p1, p2, p3, p4⟩ := h2; show Code.wp Θ (.seq (regN fPar 5) _) _ a2 w2; refine wp_seq (iT' hF hdie p2 p3 p4 fun ch a3 w3 d3 hch r3 t3 => ?_); show Leaves Θ parF a3.tmps _ a3.defers (.panicking ch) w3
 have hlow : ∀ {v : AV} {y : Value}, AV.cl (fun i => Nat.blt i 1000) v -> VR N1 v y -> VR (fun i => if Nat.blt i 1000 = true then N2 i else none) v y := fun {v y} hc hv => hv.congr (K := fun i => Nat.blt i 1000) (fun i hi => by simp only [hi, if_true]; exact p1 i (by simpa [bl'] using hi)) hc
 have hK : ∀ i, Nat.blt i 1000 = true -> (if Nat.blt i 1000 = true then N2 i else none) = N2 i := fun i hi => if_pos hi
 refine TM' (N := fun i => if Nat.blt i 1000 = true then N2 i else none) (LV := nilS) (NV := nilS) (k := 0) (n := 0) (t := nil0) (e := 0) hF ((d3.trans d2).trans hd) hch ⟨rfl, rfl⟩ (GH' (K := fun i => Nat.blt i 1000) r3 (fun i o hi => ?_) hK) (fun i hi => if_neg (by rw [bl']; omega)) (hlow rfl hx) (hlow rfl hy) (t3.congr (K := fun i => Nat.blt i 1000) hK (E9' (show ∀ x ∈ aP5, AV.cl (fun i => Nat.blt i 1000) x.2 from A2' rfl (A2' rfl A4')) 26 0)) fun z w' hr hz => ZG' hN hr hz
 have hi' := hi; rw [AI' (CF' rfl)] at hi; have hm := B0' hi; simp only [oPQ, List.mem_cons, List.not_mem_nil, or_false, Prod.mk.injEq] at hm
 rcases hm with ⟨rfl, rfl⟩ | ⟨rfl, rfl⟩ | ⟨rfl, rfl⟩
 ·exact ⟨rfl, hi', Ye, Ye, Ye, Ye, Ye, Ye⟩
 ·exact ⟨rfl, hi', Ye, Ye⟩
 ·exact ⟨rfl, hi', Ye⟩
theorem hrun8 (a : Act) (w : World) (t : TypeId) (p : String) (e : Array Edge) (ts : Array TypeId) : (execOp a.eval (Oper.mk (some 24) (.call (.mk (.value (.func fGv)) #[.const (.int .i64 (o' 4))] ts)) t p e none)).run Θ w = .ok (.enter fGv #[.int .i64 (o' 4)]) w := by
 simp only [execOp, resolve, Act.eval, Deferred.ofValue, Sem.run_bind, Sem.run_pure, Result.andThen_ok, invoke]; simp [eL']; rfl
theorem fI' (hW : LWT W) (hs : s.size <= 65536) (hp : valP (bts s) 16 0 = .ok v j) (he : skB (bts s) j < s.size) : Tri Θ W fPar [sv s] [] (.tuple [aV 0 0 nil0 nilS nilS, iv (o' 4)]) [] := by
 have ho := QO' (c := 300) hW (by omega : s.size <= 1000000) 16 1 0 rfl (Nat.zero_le _) (by rw [hp]; intro e h; cases h); rw [hp] at ho; obtain ⟨q1, q2, q3, LV, NV, OL, ON, q4, q5⟩ := ho
 have no300 : ∀ {F : HP} {W0 : World} {Q : Exit -> Act -> World -> Prop} {a : Act}, ∀ ch a' w', a'.defers = a.defers -> J6' (trb 300) F W0 ch w' -> Q (.panic ch) a' w' := fun _ _ _ _ hp => absurd hp.1.1 δ
 intro W0 F N w vargs hF hN r ha
 refine WU' hs hF hN r ha fun N1 w1 a1 x y hN1 r1 ht hd hx hy => ?_
 rw [SY']; refine wp_seq (pr4 (R := trb 300) W0 F N1 w1 a1 _ hF ⟨N1, fun _ _ => rfl, fun i hi _ => hN1 i hi, r1, ht⟩ no300 fun x' a2 w2 h2 d2 => ?_); obtain ⟨rfl, h2⟩ := h2; show Code.wp Θ (.seq (regN fPar 5) _) _ a2 w2; refine wp_seq (pr5 q4 q5 W0 F N1 w2 a2 _ hF h2 no300 fun x' a3 w3 h3 d3 => ?_); obtain ⟨rfl, h3⟩ := h3; show Code.wp Θ (.seq (regN fPar 6) _) _ a3 w3; refine wp_seq (pr6 (c := 300) hs q2 W0 F N1 w3 a3 _ hF h3 no300 fun x' a4 w4 h4 d4 => ?_); obtain ⟨rfl, h4⟩ := h4; show Code.wp Θ (.seq (.seq (regN fPar 7) _) _) _ a4 w4; refine wp_seq (wp_seq (pr7 (R := trb 300) he W0 F N1 w4 a4 _ hF h4 no300 fun x' a5 w5 h5 d5 => ?_)); obtain ⟨rfl, N2, p1, p2, p3, p4⟩ := h5; show Code.wp Θ (.cond _ _ _) _ a5 w5; have ht23 : VR N2 (.lit true) (a5.eval (.tmp 23)) := GS' p4 (.tmp 23); refine wp_cond (t := true) (by simpa only [VR] using ht23) ?_; simp only [if_true]; rw [iP']; refine wp_region_lit ?_
 refine DH' (by rfl) fun K hK => ?_
 clear hK; unfold Oper.wp; rw [hrun8, Oper.upon_enter]; refine (MU' 4 w5).mono ?_; rintro e w6 ⟨rfl, rfl⟩; show Leaves Θ parF a5.tmps _ a5.defers (.panicking _) w6
 have hlow : ∀ {v : AV} {y : Value}, AV.cl (fun i => Nat.blt i 1000) v -> VR N1 v y -> VR (fun i => if Nat.blt i 1000 = true then N2 i else none) v y := fun {v y} hc hv => hv.congr (K := fun i => Nat.blt i 1000) (fun i hi => by simp only [hi, if_true]; exact p1 i (by simpa [bl'] using hi)) hc
 have hK : ∀ i, Nat.blt i 1000 = true -> (if Nat.blt i 1000 = true then N2 i else none) = N2 i := fun i hi => if_pos hi
 have hd5 := ((((d5.trans d4).trans d3).trans d2).trans hd)
 refine TM' (c := 4) (N := fun i => if Nat.blt i 1000 = true then N2 i else none) (LV := .any) (NV := .any) (k := v.kind) (n := v.num) (t := v.text) (e := 0) hF hd5 ⟨δ, rfl⟩ ⟨rfl, rfl⟩ (GH' (K := fun i => Nat.blt i 1000) p3 (fun i o hi => ?_) hK) (fun i hi => if_neg (by rw [bl']; omega)) (hlow rfl hx) (hlow rfl hy) ((fU' rfl p4 ⟨Ya, Ya, Ye⟩).congr (K := fun i => Nat.blt i 1000) hK (E9' (show ∀ x ∈ aP5, AV.cl (fun i => Nat.blt i 1000) x.2 from A2' rfl (A2' rfl A4')) 26 0)) fun z w' hr hz => ZG' hN hr hz
 have hi' := hi; rw [AI' (CF' rfl)] at hi; have hm := B0' hi; simp only [oPQ, List.mem_cons, List.not_mem_nil, or_false, Prod.mk.injEq] at hm
 rcases hm with ⟨rfl, rfl⟩ | ⟨rfl, rfl⟩ | ⟨rfl, rfl⟩
 ·exact ⟨rfl, by rw [AI' (CF' rfl)]; rfl, Ye, Ye, Ye, Ye, Ye, Ye⟩
 ·exact ⟨rfl, by rw [AI' (CF' rfl)]; rfl, Ye, Ye⟩
 ·exact ⟨rfl, by rw [AI' (CF' rfl)]; rfl, Ye⟩
theorem nQ' (hW : LWT W) {e : Nat} (hp : parP (bts s) = .inr e) : Tri Θ W fPar [sv s] [] (.tuple [aV 0 0 nil0 nilS nilS, iv (o' e)]) [] := by
 have hl : (bts s).length = s.size := rfl; unfold parP at hp; split at hp
 ·injection hp with hp; subst hp; exact U2' ω
 ·split at hp
  ·rename_i h; injection hp with hp; subst hp; exact nR' hW ω h
  ·rename_i h; split at hp
   ·rename_i h2; injection hp with hp; subst hp; exact fI' hW ω h ω
   ·cases hp
theorem aN' (hW : LWT W) (hp : parP (bts s) = .inl v) : ∃ LV NV OL ON, VSh 16 v LV NV OL ON /\ v.names.length <= 1000000 /\ Tri Θ W fPar [sv s] [] (tJ v LV NV 0) [(1006, OL), (1007, ON)] := by
 have hl : (bts s).length = s.size := rfl; unfold parP at hp; split at hp
 ·cases hp
 ·split at hp
  ·cases hp
  ·rename_i h; split at hp
   ·cases hp
   ·rename_i h2; injection hp with hp; subst hp; exact Par_ok hW ω h ω
def tt (b : Bool) (e : Int) (r : Int) : Int := if b then e else r
def txtN (t : Δ) : Bool := !(t.toList == [])
def posQ (n : Nat) : Bool := decide ((n : Int) > o' 0)
def nzQ (n : Int) : Bool := n != o' 0
def LM' (dep : Nat) : Bool := decide (o' dep > o' 16)
def errK (K : Nat) (n : Int) (t : Δ) (ll nl dep : Nat) : Int := match K with
 | 1 => tt (nzQ n) 32 (tt (txtN t) 32 (tt (posQ ll) 32 (tt (posQ nl) 32 0)))
 | 2 => tt (decide (n < o' 0)) 32 (tt (decide (n > o' 1)) 32 (tt (txtN t) 32 (tt (posQ ll) 32 (tt (posQ nl) 32 0))))
 | 3 => tt (nzQ n) 32 (tt (!(num (bts t)).2) 32 (tt (o' (num (bts t)).1 != (t.size : Int)) 32 (tt (posQ ll) 32 (tt (posQ nl) 32 0))))
 | 4 => tt (nzQ n) 32 (tt (posQ ll) 32 (tt (posQ nl) 32 0))
 | 5 => tt (LM' dep) 8 (tt (nzQ n) 32 (tt (txtN t) 32 (tt (posQ nl) 32 0)))
 | 6 => tt (LM' dep) 8 (tt (nzQ n) 32 (tt (txtN t) 32 (tt ((nl : Int) != (ll : Int)) 32 0)))
 | _ => 30
def errT (v : Jv) (dep : Nat) : Int := if v.kind < 1 then 30 else if 6 < v.kind then 30 else errK v.kind.toNat v.num v.text v.list.length v.names.length dep
def hasN (l : List Δ) (k : Δ) : Bool := l.any fun a => decide (k = a)
def errL (f : Jv -> Int) (obj : Bool) (names : List Δ) : Nat -> List Jv -> Int
 | _, [] => 0
 | j, x :: xs => if (obj && hasN (names.take j) (names.getD j nil0)) = true then 5 else if f x ≠ 0 then f x else errL f obj names (j + 1) xs
def errJ : Nat -> Jv -> Nat -> Int
 | 0, _, _ => 0
 | L + 1, v, dep => if errT v dep ≠ 0 then errT v dep else errL (fun x => errJ L x (dep + 1)) (v.kind == 6) v.names 0 v.list
theorem tt_0 {b : Bool} {e r : Int} (he : e ≠ 0) (h : tt b e r = 0) : b = false /\ r = 0 := by
 cases b with
 | true => exact absurd h he
 | false => exact ⟨rfl, h⟩
def wJ : Nat -> Jv -> Nat
 | 0, _ => 0
 | L + 1, v => 1 + v.text.size + (v.names.map fun n => n.size + 1).sum + (v.list.map (wJ L)).sum
theorem iG' {l : List Nat} {n : Nat} (h : n ∈ l) : n <= l.sum := by
 induction l with
 | nil => cases h
 | cons a l ih =>
  rw [List.sum_cons]
  rcases List.mem_cons.1 h with rfl | h
  ·omega
  ·have := ih h; omega
theorem wJ_mem {L : Nat} {u : Jv} (h : u ∈ v.list) : wJ L u + 1 <= wJ (L + 1) v := by
 have := iG' (List.mem_map.2 ⟨u, h, rfl⟩ : wJ L u ∈ v.list.map (wJ L)); show wJ L u + 1 <= 1 + v.text.size + (v.names.map fun n => n.size + 1).sum + (v.list.map (wJ L)).sum; omega
theorem hX' (L : Nat) (v : Jv) : v.text.size + 1 <= wJ (L + 1) v := by
 show v.text.size + 1 <= 1 + v.text.size + (v.names.map fun n => n.size + 1).sum + (v.list.map (wJ L)).sum; omega
def mOf : Nat -> List Δ -> KMap Δ Int
 | _, [] => []
 | i, a :: l => (a, 1, i) :: mOf (i + 1) l
theorem MO' : ∀ (l : List Δ) (i : Nat) (a : Δ), mOf i (l ++ [a]) = mOf i l ++ [(a, 1, i + l.length)]
 | [], i, a => rfl
 | b :: l, i, a => by
  show (b, 1, i) :: mOf (i + 1) (l ++ [a]) = _; rw [MO' l (i + 1) a, lc']; show _ = (b, 1, i) :: (mOf (i + 1) l ++ _)
  rw [show i + 1 + l.length = i + (l.length + 1) by omega]
theorem PH' (k : Δ) : ∀ (l : List Δ) (i : Nat), E8' k (mOf i l) = if hasN l k = true then some 1 else none
 | [], i => rfl
 | a :: l, i => by
  show E8' k ((a, 1, i) :: mOf (i + 1) l) = _; rw [E8', PH' k l (i + 1)]; unfold hasN; rw [List.any_cons]
  by_cases h : k = a
  ·rw [if_pos h, decide_eq_true h, Bool.true_or, if_pos rfl]
  ·rw [if_neg h, decide_eq_false h, Bool.false_or]
theorem UP' {m : KMap Δ Int} (h : E8' k m = none) (i : Nat) : GA' k m i = none := by
 have := H8' k m i; rw [h] at this
 cases hf : GA' k m i with
 | none => rfl
 | some p => rw [hf] at this; cases this
theorem e6' {m : KMap Δ Int} (h : E8' k m = none) (c : Nat) (x : Int) : kset m c k x = m ++ [(k, x, c)] /\ RA' m c k = c + 1 := by
 unfold kset RA'; rw [UP' h]; exact ⟨rfl, rfl⟩
theorem YK' {m : KMap Δ Int} (h : E8' k m = none) (c : Nat) (x : Int) : E8' k (m ++ [(k, x, c)]) = some x := by
 induction m with
 | nil => show E8' k [(k, x, c)] = _; rw [E8', if_pos rfl]
 | cons e m ih =>
  rw [E8'] at h; show E8' k (e :: (m ++ [(k, x, c)])) = _; rw [E8']; split
  ·rename_i he; rw [if_pos he] at h; cases h
  ·rename_i he; rw [if_neg he] at h; exact ih h
noncomputable section
abbrev fwr : Nat := 22
abbrev fFB : Nat := 37
def AZ' (t : Γ) : Γ := [34] ++ qL t ++ [34]
def cQt : List AV -> Option (AP AV) := mkC gWS (fun q => q.s.size + (AZ' (bts q.t)).length <= 999998000) (fun q _ => q.o) (fun q => [.ptr 0 0, sv q.t]) (fun q => [(0, bldO q.s)]) (fun q => .leaf .ret [.tuple []] [(0, bldO (cat q.s (tB (AZ' (bts q.t)))))])
def fbT (b : Bool) : Δ := tB (Lib.formatBool b)
def g1b : List AV -> Option Bool
 | [.v (.bool b)] => some b
 | _ => none
def cFB : List AV -> Option (AP AV) := vC g1b (fun _ => True) (fun b => sv (fbT b))
def B3' (f : Jv -> Γ) (obj : Bool) (names : List Δ) : Nat -> List Jv -> Γ
 | _, [] => []
 | j, x :: xs => ((if 0 < j then [44] else []) ++ ((if obj then AZ' (bts (names.getD j nil0)) ++ [58] else []) ++ f x)) ++ B3' f obj names (j + 1) xs
def B1' : Nat -> Jv -> Γ
 | 0, _ => []
 | L + 1, v => if v.kind = 1 then [110, 117, 108, 108] else if v.kind = 2 then bts (fbT (v.num == o' 1)) else if v.kind = 3 then bts v.text else if v.kind = 4 then AZ' (bts v.text)
  else if v.kind = 5 then [91] ++ (B3' (B1' L) false v.names 0 v.list ++ [93]) else [123] ++ (B3' (B1' L) true v.names 0 v.list ++ [125])
def addT (s : Δ) (l : Γ) : Δ := cat s (tB l)
def gwr : List AV -> AP BS := fun args => match args with
 | [.ptr a _, _] => gOwn a 0 nil0 0
 | _ => .fail "write"
def cwr (x : Rj) (l : Γ) : List AV -> Option (AP AV) := mkC gwr (fun q => q.s.size + l.length <= 999998000) (fun q _ => q.o) (fun q => [.ptr 0 0, aggJ x]) (fun q => [(0, bldO q.s)]) (fun q => .leaf .ret [.tuple []] [(0, bldO (addT q.s l))])
def conW (x : Rj) (l : Γ) : CV' := [(fQ, cQt), (fWS, cWS), (fWB, cWB), (fwr, cwr x l), (fFB, cFB)]
def JJ' : CV' := [(fQ, cQt), (fWS, cWS), (fWB, cWB), (fFB, cFB)]
def oW (s : Δ) (r : Rj) : LH := [(0, bldO s), (1000, .cells (vmap r.cells) tJs)]
def aW (r : Rj) (g : Δ) (j : Nat) : List (Nat × AV) := [(0, .ptr 0 0), (3, .ptr 1000 0), (4, sv g), (17, slV r.la r.ll r.lc), (18, iv (o' r.ll)), (19, iv (o' j))]
def iW : List Nat := [0, 3, 4, 17, 18, 19]
def hW (more obj : Bool) (j : Nat) (x : Rj) (nm : Δ) : AX' := AD' [(fwr, 7, 0, hv (.lit true)), (fwr, 8, 2, hv (aggJ x)), (fwr, 9, 1, hv (.lit more)), (fwr, 11, 2, hv (.lit obj)), (fwr, 12, 5, hv (sv nm)), (fwr, 15, 0, hv (iv (o' (j + 1))))]
abbrev k219' (q0 : Rj) : Cnd := (ee' [z' q0.k,z' q0.n,s' q0.t,v' (sl' q0.la q0.ll q0.lc),v' (sl' q0.na q0.nl q0.nc)])
abbrev k220' (q0 : Rj) : Cnd := (wb' (q0.k == o' 6) g')
abbrev k221' (q0 : Nat) : Cnd := (wb' (decide (o' q0 > o' 0)) g')
abbrev UR' (q0 : Nat) (q1 : Rj) (q2 : World) (q3 : Addr) (q4 : Rj) (z : Cnd) : Cnd := ((wb' (decide (o' q0 < o' q1.ll)) j').a ((f' (q0.blt q1.ll = true)).a (((p' (([0,1,2,3,4].all fun j_1 => (q2.cell? ((q3.add (q0 * 5)).add j_1)).isSome) = true)).a ((p' ([v' ((q2.cell? ((q3.add (q0 * 5)).add 0)).getD (Value.tuple (Array.mk []))),v' ((q2.cell? (Addr.mk (q3.add (q0 * 5)).block ((q3.add (q0 * 5)).off + 1) none)).getD (Value.tuple (Array.mk []))),v' ((q2.cell? (Addr.mk (q3.add (q0 * 5)).block ((q3.add (q0 * 5)).off + 2) none)).getD (Value.tuple (Array.mk []))),v' ((q2.cell? (Addr.mk (q3.add (q0 * 5)).block ((q3.add (q0 * 5)).off + 3) none)).getD (Value.tuple (Array.mk []))),v' ((q2.cell? (Addr.mk (q3.add (q0 * 5)).block ((q3.add (q0 * 5)).off + 4) none)).getD (Value.tuple (Array.mk [])))] = [v' (vi' IntKind.i64 (v' ((q2.cell? ((q3.add (q0 * 5)).add 0)).getD (Value.tuple (Array.mk [])))).intOf),v' (vi' IntKind.i64 (v' ((q2.cell? (Addr.mk (q3.add (q0 * 5)).block ((q3.add (q0 * 5)).off + 1) none)).getD (Value.tuple (Array.mk [])))).intOf),v' (vs' (v' ((q2.cell? (Addr.mk (q3.add (q0 * 5)).block ((q3.add (q0 * 5)).off + 2) none)).getD (Value.tuple (Array.mk [])))).strOf),v' ((q2.cell? (Addr.mk (q3.add (q0 * 5)).block ((q3.add (q0 * 5)).off + 3) none)).getD (Value.tuple (Array.mk []))),v' ((q2.cell? (Addr.mk (q3.add (q0 * 5)).block ((q3.add (q0 * 5)).off + 4) none)).getD (Value.tuple (Array.mk [])))])).a (f' (Wk (AV.agg [v' (vi' IntKind.i64 (v' ((q2.cell? ((q3.add (q0 * 5)).add 0)).getD (Value.tuple (Array.mk [])))).intOf),v' (vi' IntKind.i64 (v' ((q2.cell? (Addr.mk (q3.add (q0 * 5)).block ((q3.add (q0 * 5)).off + 1) none)).getD (Value.tuple (Array.mk [])))).intOf),v' (vs' (v' ((q2.cell? (Addr.mk (q3.add (q0 * 5)).block ((q3.add (q0 * 5)).off + 2) none)).getD (Value.tuple (Array.mk [])))).strOf),v' ((q2.cell? (Addr.mk (q3.add (q0 * 5)).block ((q3.add (q0 * 5)).off + 3) none)).getD (Value.tuple (Array.mk []))),v' ((q2.cell? (Addr.mk (q3.add (q0 * 5)).block ((q3.add (q0 * 5)).off + 4) none)).getD (Value.tuple (Array.mk [])))]) (AV.agg [z' q4.k,z' q4.n,s' q4.t,v' (sl' q4.la q4.ll q4.lc),v' (sl' q4.na q4.nl q4.nc)]))))).a ((fe' true).a z))))
theorem jB' (W : World) (s g : Δ) (r x : Rj) (l : Γ) (a : Addr) (j : Nat) (F : HP) : BU' (conW x l) (hW false false j x nil0) [] W fwr (AA' fwr 7) (tms 0 72 (aW { r with la := some a } g j)) (oW s { r with la := some a }) [0, 1000] iW F = VT.leaf (AX.normal,[pt' 0 0,pt' 1000 0,s' g,v' (sl' (some a) r.ll r.lc),i' r.ll,i' (j + 1)],72) [some (AO.own (Md.text (addT s l)) (exHP (bldR (addT s l)) bldL)),some (ce' [z' r.k,z' r.n,s' r.t,v' (sl' (some a) r.ll r.lc),v' (sl' r.na r.nl r.nc)] 52)] 1101 (UR' j r W a x ((k221' j).a ((k152' r).a ((k220' r).a ((k219' x).a (((p' (s.size + l.length <= 999998000)).a ((vw' [pt' 0 0,AV.agg [z' x.k,z' x.n,s' x.t,v' (sl' x.la x.ll x.lc),v' (sl' x.na x.nl x.nc)]]).a (f' (OW (AO.own (Md.text s) (exHP (bldR s) bldL)) (AO.own (Md.text s) (exHP (bldR s) bldL)))))).a ((k59' j).a k1'))))))) := χ
abbrev k223' (q0 : Δ) : Cnd := ((p' (fitB q0)).a ((vw' [pt' 0 0,v' (vi' u8' (o' 44))]).a (f' (OW (AO.own (Md.text q0) (exHP (bldR q0) bldL)) (AO.own (Md.text q0) (exHP (bldR q0) bldL))))))
abbrev k224' (q0 : Nat) : Cnd := (wb' (decide (o' q0 > o' 0)) j')
theorem jA' (W : World) (s g : Δ) (r x : Rj) (l : Γ) (a : Addr) (j : Nat) (F : HP) : BU' (conW x l) (hW true false j x nil0) [] W fwr (AA' fwr 7) (tms 0 72 (aW { r with la := some a } g j)) (oW s { r with la := some a }) [0, 1000] iW F = VT.leaf (AX.normal,[pt' 0 0,pt' 1000 0,s' g,v' (sl' (some a) r.ll r.lc),i' r.ll,i' (j + 1)],72) [some (AO.own (Md.text (addT (cat s (oneB (UInt8.ofNat 44))) l)) (exHP (bldR (addT (cat s (oneB (UInt8.ofNat 44))) l)) bldL)),some (ce' [z' r.k,z' r.n,s' r.t,v' (sl' (some a) r.ll r.lc),v' (sl' r.na r.nl r.nc)] 52)] 1101 (UR' j r W a x ((k224' j).a ((k223' s).a ((k152' r).a ((k220' r).a ((k219' x).a (((p' ((cat s (oneB (UInt8.ofNat 44))).size + l.length <= 999998000)).a ((vw' [pt' 0 0,AV.agg [z' x.k,z' x.n,s' x.t,v' (sl' x.la x.ll x.lc),v' (sl' x.na x.nl x.nc)]]).a (f' (OW (AO.own (Md.text (cat s (oneB (UInt8.ofNat 44)))) (exHP (bldR (cat s (oneB (UInt8.ofNat 44)))) bldL)) (AO.own (Md.text (cat s (oneB (UInt8.ofNat 44)))) (exHP (bldR (cat s (oneB (UInt8.ofNat 44)))) bldL)))))).a ((k59' j).a k1')))))))) := χ
abbrev k225' (q0 : Rj) : Cnd := (wb' (q0.k == o' 6) j')
theorem j9' (W : World) (s g : Δ) (r x : Rj) (l : Γ) (nm : Δ) (a b : Addr) (j : Nat) (F : HP) : BU' (conW x l) (hW false true j x nm) [] W fwr (AA' fwr 7) (tms 0 72 (aW { r with la := some a, na := some b } g j)) (oW s { r with la := some a, na := some b }) [0, 1000] iW F = VT.leaf (AX.normal,[pt' 0 0,pt' 1000 0,s' g,v' (sl' (some a) r.ll r.lc),i' r.ll,i' (j + 1)],72) [some (AO.own (Md.text (addT (cat (cat s (tB (AZ' (bts nm)))) (oneB (UInt8.ofNat 58))) l)) (exHP (bldR (addT (cat (cat s (tB (AZ' (bts nm)))) (oneB (UInt8.ofNat 58))) l)) bldL)),some (ce' [z' r.k,z' r.n,s' r.t,v' (sl' (some a) r.ll r.lc),v' (sl' (some b) r.nl r.nc)] 52)] 1101 (UR' j r W a x ((k221' j).a ((k152' r).a ((k225' r).a (UU' j r W b nm (((p' (s.size + (AZ' (bts nm)).length <= 999998000)).a ((vw' [pt' 0 0,s' nm]).a (f' (OW (AO.own (Md.text s) (exHP (bldR s) bldL)) (AO.own (Md.text s) (exHP (bldR s) bldL)))))).a (((p' (fitB (cat s (tB (AZ' (bts nm)))))).a ((vw' [pt' 0 0,v' (vi' u8' (o' 58))]).a (f' (OW (AO.own (Md.text (cat s (tB (AZ' (bts nm))))) (exHP (bldR (cat s (tB (AZ' (bts nm))))) bldL)) (AO.own (Md.text (cat s (tB (AZ' (bts nm))))) (exHP (bldR (cat s (tB (AZ' (bts nm))))) bldL)))))).a ((k219' x).a (((p' ((cat (cat s (tB (AZ' (bts nm)))) (oneB (UInt8.ofNat 58))).size + l.length <= 999998000)).a ((vw' [pt' 0 0,AV.agg [z' x.k,z' x.n,s' x.t,v' (sl' x.la x.ll x.lc),v' (sl' x.na x.nl x.nc)]]).a (f' (OW (AO.own (Md.text (cat (cat s (tB (AZ' (bts nm)))) (oneB (UInt8.ofNat 58)))) (exHP (bldR (cat (cat s (tB (AZ' (bts nm)))) (oneB (UInt8.ofNat 58)))) bldL)) (AO.own (Md.text (cat (cat s (tB (AZ' (bts nm)))) (oneB (UInt8.ofNat 58)))) (exHP (bldR (cat (cat s (tB (AZ' (bts nm)))) (oneB (UInt8.ofNat 58)))) bldL)))))).a ((k59' j).a k1')))))))))) := χ
theorem j8' (W : World) (s g : Δ) (r x : Rj) (l : Γ) (nm : Δ) (a b : Addr) (j : Nat) (F : HP) : BU' (conW x l) (hW true true j x nm) [] W fwr (AA' fwr 7) (tms 0 72 (aW { r with la := some a, na := some b } g j)) (oW s { r with la := some a, na := some b }) [0, 1000] iW F = VT.leaf (AX.normal,[pt' 0 0,pt' 1000 0,s' g,v' (sl' (some a) r.ll r.lc),i' r.ll,i' (j + 1)],72) [some (AO.own (Md.text (addT (cat (cat (cat s (oneB (UInt8.ofNat 44))) (tB (AZ' (bts nm)))) (oneB (UInt8.ofNat 58))) l)) (exHP (bldR (addT (cat (cat (cat s (oneB (UInt8.ofNat 44))) (tB (AZ' (bts nm)))) (oneB (UInt8.ofNat 58))) l)) bldL)),some (ce' [z' r.k,z' r.n,s' r.t,v' (sl' (some a) r.ll r.lc),v' (sl' (some b) r.nl r.nc)] 52)] 1101 (UR' j r W a x ((k224' j).a ((k223' s).a ((k152' r).a ((k225' r).a (UU' j r W b nm (((p' ((cat s (oneB (UInt8.ofNat 44))).size + (AZ' (bts nm)).length <= 999998000)).a ((vw' [pt' 0 0,s' nm]).a (f' (OW (AO.own (Md.text (cat s (oneB (UInt8.ofNat 44)))) (exHP (bldR (cat s (oneB (UInt8.ofNat 44)))) bldL)) (AO.own (Md.text (cat s (oneB (UInt8.ofNat 44)))) (exHP (bldR (cat s (oneB (UInt8.ofNat 44)))) bldL)))))).a (((p' (fitB (cat (cat s (oneB (UInt8.ofNat 44))) (tB (AZ' (bts nm)))))).a ((vw' [pt' 0 0,v' (vi' u8' (o' 58))]).a (f' (OW (AO.own (Md.text (cat (cat s (oneB (UInt8.ofNat 44))) (tB (AZ' (bts nm))))) (exHP (bldR (cat (cat s (oneB (UInt8.ofNat 44))) (tB (AZ' (bts nm))))) bldL)) (AO.own (Md.text (cat (cat s (oneB (UInt8.ofNat 44))) (tB (AZ' (bts nm))))) (exHP (bldR (cat (cat s (oneB (UInt8.ofNat 44))) (tB (AZ' (bts nm))))) bldL)))))).a ((k219' x).a (((p' ((cat (cat (cat s (oneB (UInt8.ofNat 44))) (tB (AZ' (bts nm)))) (oneB (UInt8.ofNat 58))).size + l.length <= 999998000)).a ((vw' [pt' 0 0,AV.agg [z' x.k,z' x.n,s' x.t,v' (sl' x.la x.ll x.lc),v' (sl' x.na x.nl x.nc)]]).a (f' (OW (AO.own (Md.text (cat (cat (cat s (oneB (UInt8.ofNat 44))) (tB (AZ' (bts nm)))) (oneB (UInt8.ofNat 58)))) (exHP (bldR (cat (cat (cat s (oneB (UInt8.ofNat 44))) (tB (AZ' (bts nm)))) (oneB (UInt8.ofNat 58)))) bldL)) (AO.own (Md.text (cat (cat (cat s (oneB (UInt8.ofNat 44))) (tB (AZ' (bts nm)))) (oneB (UInt8.ofNat 58)))) (exHP (bldR (cat (cat (cat s (oneB (UInt8.ofNat 44))) (tB (AZ' (bts nm)))) (oneB (UInt8.ofNat 58)))) bldL)))))).a ((k59' j).a k1'))))))))))) := χ
abbrev k226' (q0 : Rj) : Cnd := (wb' (decide (o' q0.ll < o' q0.ll)) g')
theorem oWE_eq (W : World) (s g : Δ) (r : Rj) (F : HP) : BU' [] (AD' [(fwr, 7, 0, hv (.lit false))]) [] W fwr (AA' fwr 7) (tms 0 72 (aW r g r.ll)) (oW s r) [0, 1000] iW F = VT.leaf (AX.exit 1,[pt' 0 0,pt' 1000 0,s' g,v' (sl' r.la r.ll r.lc),i' r.ll,i' r.ll],72) [some (AO.own (Md.text s) (exHP (bldR s) bldL)),some (ce' [z' r.k,z' r.n,s' r.t,v' (sl' r.la r.ll r.lc),v' (sl' r.na r.nl r.nc)] 52)] 1100 ((k226' r).a k1') := χ
def gWl (tmps : List AV) : AP (Nat × Nat × Δ) := match getL tmps 0 with
 | .ptr a _ => match getL tmps 3 with
  | .ptr b _ => .read a fun o => match o with
   | .own m _ => match m with
    | .text s => .ret (a, b, s)
    | _ => .fail "write"
   | _ => .fail "write"
  | _ => .fail "write"
 | _ => .fail "write"
def lW (r : Rj) (s0 g : Δ) (l : Γ) : List AV -> AP (AX × List AV) := mkL gWl (fun q => q.2.2 = s0) (fun q k => match Nat.beq k 0 with | true => q.1 | false => q.2.1) (fun q => tms 0 72 (aW r g 0)) (fun q => oW q.2.2 r) (fun q => .leaf (.exit 1) (tms 0 72 [(0, .ptr 0 0), (3, .ptr 1000 0), (4, sv g)]) (oW (addT q.2.2 l) r))
def hWk (K : Nat) : AX' := AD' [(fwr, 17, 0, hv (.lit (Nat.beq K 1))), (fwr, 19, 0, hv (.lit (Nat.beq K 2))), (fwr, 21, 0, hv (.lit (Nat.beq K 3))), (fwr, 23, 0, hv (.lit (Nat.beq K 4))), (fwr, 3, 2, hv (.lit (Nat.beq K 6))), (fwr, 5, 2, h0v (byv (match Nat.beq K 6 with | true => 123 | false => 91))), (fwr, 16, 2, h0v (byv (match Nat.beq K 6 with | true => 125 | false => 93)))]
def kW (K : Nat) (r : Rj) : Rj := { r with k := o' K }
abbrev k227' : Cnd := (ee' (i' 1))
theorem oW1_eq (W : World) (s : Δ) (r : Rj) (F : HP) : wRun JJ' (hWk 1) [] W fwr [.ptr 0 0, aggJ (kW 1 r)] [(0, bldO s)] [0] F = VT.leaf (AV.tuple []) [some (AO.own (Md.text (cat s y12')) (exHP (bldR (cat s y12')) bldL))] 1101 (k227'.a (k86'.a (((p' (fitB s /\ fitB y12' /\ 0 < 4)).a ((vw' [pt' 0 0,s' y12']).a (f' (OW (AO.own (Md.text s) (exHP (bldR s) bldL)) (AO.own (Md.text s) (exHP (bldR s) bldL)))))).a k1'))) := χ
abbrev h228' (q0 : Rj) (z : Cnd) : Cnd := ((f' (Wk (b' false) g')).a ((f' (Wk (b' true) j')).a ((ee' (z' q0.n)).a z)))
abbrev k229' : Cnd := (ee' (i' 2))
theorem oW2_eq (W : World) (s : Δ) (r : Rj) (F : HP) : wRun JJ' (hWk 2) [] W fwr [.ptr 0 0, aggJ (kW 2 r)] [(0, bldO s)] [0] F = VT.leaf (AV.tuple []) [some (AO.own (Md.text (cat s (fbT (r.n == o' 1)))) (exHP (bldR (cat s (fbT (r.n == o' 1)))) bldL))] 1101 (k229'.a (h228' r (k55'.a (((p' (fitB s /\ fitB (fbT (r.n == o' 1)) /\ 0 < (fbT (r.n == o' 1)).size)).a ((vw' [pt' 0 0,s' (fbT (r.n == o' 1))]).a (f' (OW (AO.own (Md.text s) (exHP (bldR s) bldL)) (AO.own (Md.text s) (exHP (bldR s) bldL)))))).a k1')))) := χ
abbrev k230' : Cnd := (ee' (i' 3))
theorem oW3_eq (W : World) (s : Δ) (r : Rj) (F : HP) : wRun JJ' (hWk 3) [] W fwr [.ptr 0 0, aggJ (kW 3 r)] [(0, bldO s)] [0] F = VT.leaf (AV.tuple []) [some (AO.own (Md.text (cat s r.t)) (exHP (bldR (cat s r.t)) bldL))] 1101 (k230'.a (k78'.a (h84' ((k150' r).a (((p' (fitB s /\ fitB r.t /\ 0 < r.t.size)).a ((vw' [pt' 0 0,s' r.t]).a (f' (OW (AO.own (Md.text s) (exHP (bldR s) bldL)) (AO.own (Md.text s) (exHP (bldR s) bldL)))))).a k1'))))) := χ
abbrev k231' : Cnd := (ee' (i' 4))
theorem oW4_eq (W : World) (s : Δ) (r : Rj) (F : HP) : wRun JJ' (hWk 4) [] W fwr [.ptr 0 0, aggJ (kW 4 r)] [(0, bldO s)] [0] F = VT.leaf (AV.tuple []) [some (AO.own (Md.text (cat s (tB (AZ' (bts r.t))))) (exHP (bldR (cat s (tB (AZ' (bts r.t))))) bldL))] 1101 (k231'.a (h85' (h84' ((k150' r).a (((p' (s.size + (AZ' (bts r.t)).length <= 999998000)).a ((vw' [pt' 0 0,s' r.t]).a (f' (OW (AO.own (Md.text s) (exHP (bldR s) bldL)) (AO.own (Md.text s) (exHP (bldR s) bldL)))))).a k1'))))) := χ
def gl5 : Δ := tB [91, 93]
def gl6 : Δ := tB [123, 125]
abbrev k232' (q0 : Rj) : Cnd := (ow' (ce' [i' 5,z' q0.n,s' q0.t,v' (sl' q0.la q0.ll q0.lc),v' (sl' q0.na q0.nl q0.nc)] 52))
abbrev k233' : Cnd := (ee' (i' 5))
theorem oW5_eq (W : World) (s : Δ) (r : Rj) (l : Γ) (F : HP) : wRun JJ' (hWk 5) [(fwr, 7, AA' fwr 7, lW (kW 5 r) (cat s (oneB 91)) gl5 l)] W fwr [.ptr 0 0, aggJ (kW 5 r)] [(0, bldO s)] [0] F = VT.leaf (AV.tuple []) [some (AO.own (Md.text (cat (addT (cat s (oneB (UInt8.ofNat 91))) l) (oneB (UInt8.ofNat 93)))) (exHP (bldR (cat (addT (cat s (oneB (UInt8.ofNat 91))) l) (oneB (UInt8.ofNat 93)))) bldL))] 1102 (k233'.a (h85' (h85' (k233'.a (k78'.a (((p' (0 < 2)).a (f' (Wk (v' (vi' u8' (o' 91))) (v' (vi' u8' (o' 91)))))).a (((p' (fitB s)).a ((vw' [pt' 0 0,v' (vi' u8' (o' 91))]).a (f' (OW (AO.own (Md.text s) (exHP (bldR s) bldL)) (AO.own (Md.text s) (exHP (bldR s) bldL)))))).a (k40'.a ((p' ((fwr,7,AA' fwr 7,lW (kW 5 r) (cat s (oneB 91)) gl5 l).snd.snd.fst = (fwr,7,AA' fwr 7,lW (kW 5 r) (cat s (oneB 91)) gl5 l).snd.snd.fst)).a ((p' (cat s (oneB (UInt8.ofNat 91)) = cat s (oneB 91))).a ((p' (VW (pt' 0 0::AV.agg [i' 5,z' r.n,s' r.t,v' (sl' r.la r.ll r.lc),v' (sl' r.na r.nl r.nc)]::u'::pt' 1100 0::s' (ByteArray.mk (Array.mk [91,93]))::u'::u'::pt' 1100 0::i' 5::pt' 1100 0::i' 5::g'::pt' 0 0::s' (ByteArray.mk (Array.mk [91,93]))::v' (vi' u8' (o' 91))::v' Value.nilIface::pt' 1100 3::v' (sl' r.la r.ll r.lc)::z' ↑r.ll::i' 0::ru16 (ru8 (ru4 (g'::g'::u'::u'::g'::g'::ru4 (u'::u'::g'::g'::ru4 (g'::g'::ru4 ([]))))))) (pt' 0 0::a'::a'::pt' 1100 0::s' gl5::ra8 (ra4 (v' (sl' r.la r.ll r.lc)::i' r.ll::i' 0::ra16 (ra16 (ra16 (ra4 ([]))))))))).a ((ow' (AO.own (Md.text (cat s (oneB (UInt8.ofNat 91)))) (exHP (bldR (cat s (oneB (UInt8.ofNat 91)))) bldL))).a ((k232' r).a (((p' (1 < 2)).a (f' (Wk (v' (vi' u8' (o' 93))) (v' (vi' u8' (o' 93)))))).a (((p' (fitB (addT (cat s (oneB (UInt8.ofNat 91))) l))).a ((vw' [pt' 0 0,v' (vi' u8' (o' 93))]).a (f' (OW (AO.own (Md.text (addT (cat s (oneB (UInt8.ofNat 91))) l)) (exHP (bldR (addT (cat s (oneB (UInt8.ofNat 91))) l)) bldL)) (AO.own (Md.text (addT (cat s (oneB (UInt8.ofNat 91))) l)) (exHP (bldR (addT (cat s (oneB (UInt8.ofNat 91))) l)) bldL)))))).a k1'))))))))))))))) := χ
abbrev k234' (q0 : Rj) : Cnd := (ow' (ce' [i' 6,z' q0.n,s' q0.t,v' (sl' q0.la q0.ll q0.lc),v' (sl' q0.na q0.nl q0.nc)] 52))
abbrev k235' : Cnd := (ee' (i' 6))
theorem oW6_eq (W : World) (s : Δ) (r : Rj) (l : Γ) (F : HP) : wRun JJ' (hWk 6) [(fwr, 7, AA' fwr 7, lW (kW 6 r) (cat s (oneB 123)) gl6 l)] W fwr [.ptr 0 0, aggJ (kW 6 r)] [(0, bldO s)] [0] F = VT.leaf (AV.tuple []) [some (AO.own (Md.text (cat (addT (cat s (oneB (UInt8.ofNat 123))) l) (oneB (UInt8.ofNat 125)))) (exHP (bldR (cat (addT (cat s (oneB (UInt8.ofNat 123))) l) (oneB (UInt8.ofNat 125)))) bldL))] 1102 (k235'.a (h85' (h85' (k235'.a (k86'.a (((p' (0 < 2)).a (f' (Wk (v' (vi' u8' (o' 123))) (v' (vi' u8' (o' 123)))))).a (((p' (fitB s)).a ((vw' [pt' 0 0,v' (vi' u8' (o' 123))]).a (f' (OW (AO.own (Md.text s) (exHP (bldR s) bldL)) (AO.own (Md.text s) (exHP (bldR s) bldL)))))).a (k40'.a ((p' ((fwr,7,AA' fwr 7,lW (kW 6 r) (cat s (oneB 123)) gl6 l).snd.snd.fst = (fwr,7,AA' fwr 7,lW (kW 6 r) (cat s (oneB 123)) gl6 l).snd.snd.fst)).a ((p' (cat s (oneB (UInt8.ofNat 123)) = cat s (oneB 123))).a ((p' (VW (pt' 0 0::AV.agg [i' 6,z' r.n,s' r.t,v' (sl' r.la r.ll r.lc),v' (sl' r.na r.nl r.nc)]::u'::pt' 1100 0::s' (ByteArray.mk (Array.mk [123,125]))::u'::u'::pt' 1100 0::i' 6::pt' 1100 0::i' 6::j'::pt' 0 0::s' (ByteArray.mk (Array.mk [123,125]))::v' (vi' u8' (o' 123))::v' Value.nilIface::pt' 1100 3::v' (sl' r.la r.ll r.lc)::z' ↑r.ll::i' 0::ru16 (ru8 (ru4 (g'::g'::u'::u'::g'::g'::ru4 (u'::u'::g'::g'::ru4 (g'::g'::ru4 ([]))))))) (pt' 0 0::a'::a'::pt' 1100 0::s' gl6::ra8 (ra4 (v' (sl' r.la r.ll r.lc)::i' r.ll::i' 0::ra16 (ra16 (ra16 (ra4 ([]))))))))).a ((ow' (AO.own (Md.text (cat s (oneB (UInt8.ofNat 123)))) (exHP (bldR (cat s (oneB (UInt8.ofNat 123)))) bldL))).a ((k234' r).a (((p' (1 < 2)).a (f' (Wk (v' (vi' u8' (o' 125))) (v' (vi' u8' (o' 125)))))).a (((p' (fitB (addT (cat s (oneB (UInt8.ofNat 123))) l))).a ((vw' [pt' 0 0,v' (vi' u8' (o' 125))]).a (f' (OW (AO.own (Md.text (addT (cat s (oneB (UInt8.ofNat 123))) l)) (exHP (bldR (addT (cat s (oneB (UInt8.ofNat 123))) l)) bldL)) (AO.own (Md.text (addT (cat s (oneB (UInt8.ofNat 123))) l)) (exHP (bldR (addT (cat s (oneB (UInt8.ofNat 123))) l)) bldL)))))).a k1'))))))))))))))) := χ
end
variable {W : World}
theorem eY' {α : Type} {l : List α} {x : α} (h : l[j]? = some x) : l.drop j = x :: l.drop (j + 1) := by
 obtain ⟨hj, he⟩ := List.getElem?_eq_some_iff.1 h; rw [List.drop_eq_getElem_cons hj, he]
theorem GD' (l : Γ) : bts (tB l) = l := E6' l
theorem I4' {a b : Δ} (h : bts a = bts b) : a = b := GY' h
theorem gQ_ro (args : List AV) : RO (gQ args) := by
 unfold gQ; split
 ·split
  ·refine RO.read _ _ fun o => ?_
   split
   ·refine RO.read _ _ fun o => ?_
    split
    ·split
     ·exact RO.ret _
     ·exact RO.fail _
    ·exact RO.fail _
   ·exact RO.fail _
  ·exact RO.fail _
 ·exact RO.fail _
theorem WR' (s t : Δ) : cat (qT (cat s (oneB (UInt8.ofNat 34))) t) (oneB (UInt8.ofNat 34)) = cat s (tB (AZ' (bts t))) := I4' (by
 unfold qT AZ'; simp only [CR', EQ', GD', as']
 rfl)
theorem aM' (hW : LWQ W) (s t : Δ) (hs : s.size + (AZ' (bts t)).length <= 999998000) : Tri Θ W fQ [.ptr 0 0, sv t] [(0, bldO s)] (.tuple []) [(0, bldO (cat s (tB (AZ' (bts t)))))] := by
 have hl1 : (AZ' (bts t)).length = (qL (bts t)).length + 2 := by unfold AZ'; simp only [la', lc', List.length_nil]; omega
 have h1 : (cat s (oneB 34)).size = s.size + 1 := by rw [BH']; rfl
 have hl : ∀ F, AH' W F -> L1OK Θ F (AA' fQ 3) (lQ (cat s (oneB 34)) t) := fun F hF =>
  GN' hF gQ_ro (fun q hq => by
   obtain ⟨a, b, c, d⟩ := q; obtain ⟨rfl, rfl⟩ := hq
   exact q_loop hW _ _ _ rfl (by rw [h1]; omega)) fun q => by
   simp only [RT.pick]; exact C4' rfl rfl (A2' Ye (A2' rfl (A2' ⟨Ye, rfl, Ye⟩ A4'))) (d9' _ rfl _) (A2' rfl A4') (d9' _ rfl _)
 have f1 : fitB s := by unfold fitB; omega
 have f2 : fitB (qT (cat s (oneB (UInt8.ofNat 34))) t) := by
  unfold fitB qT; rw [BH', DJ']; have : (cat s (oneB (UInt8.ofNat 34))).size = s.size + 1 := h1; omega
 refine AN' (con := conQ) (hints := B4') (lc := [(fQ, 3, AA' fQ 3, lQ (cat s (oneB 34)) t)]) [0] rfl (fun F hF => AP' (JM' hW F hF) (AP' (ZY' F hF) (AP' (MY' F hF) (BT' (MZ' F hF))))) (fun F hF => HS' (hl F hF)) fun F => ?_
 refine Yj (oQ_eq W s t F) ⟨⟨?_, (AJ' (vs' := [.tuple []]) (H' := [(0, bldO (cat s (tB (AZ' (bts t)))))]) [] rfl rfl (Yb) ⟨⟨_, rfl, DN' (WR' s t)⟩, Ye⟩).fits rfl⟩⟩; exact Cb27'
theorem h9' (hW : LWQ W) (F : HP) (hF : AH' W F) : C1OK Θ F fQ cQt :=
 BF' hF (fun _ => .tuple []) gP' (fun _ => rfl) (fun q hq => aM' hW q.s q.t hq) fun q => ⟨rfl, rfl, ⟨rfl, Ye, Ye⟩, A2' Ye A4', ⟨Ye, Ye⟩, A2' Ye A4'⟩
theorem eP' (A : List AV) (p : Bool) (h : g1b A = some p) : A = vmap [.bool p] := by
 unfold g1b at h; split at h
 ·cases h; rfl
 ·cases h
theorem hB' (F : HP) (hF : AH' W F) : C1OK Θ F fFB cFB :=
 VU' hF (fun b => [.bool b]) (fun b => .string (fbT b)) eP' (fun p N => vr_v N _) fun b hb w hw =>
  (Tryd.strconv_FormatBool b w).mono fun e w' ⟨h1, h2⟩ => ⟨h1, by rw [h2]; exact Below.refl _ _⟩
theorem gwr_ro (args : List AV) : RO (gwr args) := by
 unfold gwr; split
 ·exact NP' _ _ _ _
 ·exact RO.fail _
def VH' (W : World) (x : Rj) (l : Γ) : Prop := ∀ s, s.size + l.length <= 999998000 -> Tri Θ W fwr [.ptr 0 0, aggJ x] [(0, bldO s)] (.tuple []) [(0, bldO (addT s l))]
theorem cwr_ok {x : Rj} {l : Γ} (h : VH' W x l) (F : HP) (hF : AH' W F) : C1OK Θ F fwr (cwr x l) :=
 BF' hF (fun _ => .tuple []) gwr_ro (fun _ => rfl) (fun q hq => h q.s hq) fun q => ⟨rfl, rfl, ⟨rfl, ⟨Ye, Ye, Ye, Ye, Ye, Ye⟩, Ye⟩, A2' Ye A4', ⟨Ye, Ye⟩, A2' Ye A4'⟩
theorem NS' (hW : LWQ W) {x : Rj} {l : Γ} (h : VH' W x l) (F : HP) (hF : AH' W F) : ∀ y ∈ conW x l, C1OK Θ F y.1 y.2 :=
 AP' (h9' hW F hF) (AP' (MY' F hF) (AP' (MZ' F hF) (AP' (cwr_ok h F hF) (BT' (hB' F hF)))))
def DR' (obj : Bool) (j : Nat) (nm : Δ) (l : Γ) : Γ := (if 0 < j then [44] else []) ++ ((if obj then AZ' (bts nm) ++ [58] else []) ++ l)
theorem fN' (hLW : LWQ W) {d : Nat} {r : Rj} {L : List Jv} {names : List Δ} (f : Jv -> Γ) (hf : ∀ u x, u ∈ L -> JAt W.cell? d u x -> VH' W x (f u)) (al : LOf (JAt W.cell? d) W.cell? r.la L) (an : NOf W.cell? r.na names) (hll : r.ll = L.length) (hnl : r.nl = names.length) (obj : Bool) (hob : (r.k == o' 6) = obj) (hon : obj = true -> names.length = L.length)
  (s0 g : Δ) (R : Δ) (hR : addT s0 (B3' f obj names 0 L) = R) (hs : s0.size + (B3' f obj names 0 L).length <= 999998000) :
  LTri Θ W (AA' fwr 7) (tms 0 72 (aW r g 0)) (oW s0 r) (.exit 1) (tms 0 72 [(0, .ptr 0 0), (3, .ptr 1000 0), (4, sv g)]) (oW R r) := by
 have hlen := LO' al.1 δ; refine CC' (W := W) (g := fwr) (b := AA' fwr 7) (σ := {p : Nat × Δ // p.1 <= r.ll /\ addT p.2 (B3' f obj names p.1 (L.drop p.1)) = R /\ p.2.size + (B3' f obj names p.1 (L.drop p.1)).length <= 999998000}) 72 (fun p => aW r g p.1.1) (fun p => oW p.1.2 r) (.exit 1) _ (oW R r) (fun p => r.ll - p.1.1) [0, 1000] iW (by intro h; cases h) (fun _ => rfl) rfl ?_ ⟨(0, s0), Nat.zero_le _, hR, hs⟩; rintro ⟨⟨j, s⟩, hj, hE, hsz⟩; simp only at hj hE hsz ⊢
 by_cases h1 : j < r.ll
 ·obtain ⟨u, hu⟩ := ES' (l := L) (i := j) ω; obtain ⟨a, x, ea, q1, q2⟩ := al.2 j u hu; have aA := all5 q1; obtain ⟨a1, a2, a3, a4, a5⟩ := c5 q1; have hw := CH' j ω
  have e1 : decide (o' j < o' r.ll) = true := by rw [IG']; exact decide_eq_true h1
  have hwr := hf u x (List.mem_of_getElem? hu) q2; obtain ⟨nm, hnm⟩ : ∃ nm, names.getD j nil0 = nm := ⟨_, rfl⟩
  have hst : B3' f obj names j (L.drop j) = DR' obj j nm (f u) ++ B3' f obj names (j + 1) (L.drop (j + 1)) := by rw [eY' hu, B3', hnm]; rfl
  rw [hst] at hE hsz; rw [la'] at hsz
  have hinv : addT (addT s (DR' obj j nm (f u))) (B3' f obj names (j + 1) (L.drop (j + 1))) = R := by
   rw [<- hE]; exact I4' (by unfold addT; simp only [CR', GD', as'])
  have hinv2 : (addT s (DR' obj j nm (f u))).size + (B3' f obj names (j + 1) (L.drop (j + 1))).length <= 999998000 := by
   unfold addT; rw [BH', DJ']; omega
  have fs : fitB s := by unfold fitB; omega
  have o1 : ∀ s c, (cat s (oneB c)).size = s.size + 1 := fun s c => by rw [BH']; rfl
  have o2 : ∀ s l, (cat s (tB l)).size = s.size + l.length := fun s l => by rw [BH', DJ']
  cases obj with
  | false =>
   have hk : (r.k == o' 6) = false := hob; obtain ⟨rk, rn, rt, rla, rll, rlc, rta, rtl, rtc⟩ := r; simp only at ea; subst ea
   by_cases h0 : 0 < j
   ·have e2 : decide (o' j > o' 0) = true := decide_eq_true (by simp only [Z0]; omega)
    have hlen : (DR' false j nm (f u)).length = 1 + (f u).length := by unfold DR'; rw [if_pos h0]; simp; omega
    have hfin : addT (cat s (oneB (UInt8.ofNat 44))) (f u) = addT s (DR' false j nm (f u)) := I4' (by unfold addT DR'; rw [if_pos h0]; simp only [CR', EQ', GD', as']; rfl)
    have z1 : (cat s (oneB (UInt8.ofNat 44))).size + (f u).length <= 999998000 := by rw [o1]; omega
    refine ⟨conW x (f u), hW true false j x nil0, [], fun F hF => NS' hLW hwr F hF, fun _ _ => noL, fun F => ?_⟩
    refine Yj (jA' W s g ⟨rk, rn, rt, none, rll, rlc, rta, rtl, rtc⟩ x (f u) a j F) ⟨⟨?_, rfl, .inl ⟨rfl, ⟨(j + 1, addT s (DR' false j nm (f u))), h1, hinv, hinv2⟩, C9' h1, [(1000, 1000)], by kernel_rfl, by kernel_rfl, ⟨Ya, Ya, Ya, Ya, Ya, Ya, Ye⟩, ⟨_, rfl, DN' hfin⟩, ⟨_, rfl, Yc⟩, Ye⟩⟩⟩
    exact Cb28'
   ·have e2 : decide (o' j > o' 0) = false := decide_eq_false (by simp only [Z0]; omega)
    have hlen : (DR' false j nm (f u)).length = (f u).length := by unfold DR'; rw [if_neg h0]; simp
    have hfin : addT s (f u) = addT s (DR' false j nm (f u)) := I4' (by unfold addT DR'; rw [if_neg h0]; simp only [CR', EQ', GD', as']; rfl)
    have z1 : s.size + (f u).length <= 999998000 := ω
    refine ⟨conW x (f u), hW false false j x nil0, [], fun F hF => NS' hLW hwr F hF, fun _ _ => noL, fun F => ?_⟩
    refine Yj (jB' W s g ⟨rk, rn, rt, none, rll, rlc, rta, rtl, rtc⟩ x (f u) a j F) ⟨⟨?_, rfl, .inl ⟨rfl, ⟨(j + 1, addT s (DR' false j nm (f u))), h1, hinv, hinv2⟩, C9' h1, [(1000, 1000)], by kernel_rfl, by kernel_rfl, ⟨Ya, Ya, Ya, Ya, Ya, Ya, Ye⟩, ⟨_, rfl, DN' hfin⟩, ⟨_, rfl, Yc⟩, Ye⟩⟩⟩
    exact Cb28'
  | true =>
   have hk : (r.k == o' 6) = true := hob
   have h2 : j < r.nl := by rw [hnl, hon rfl]; omega
   obtain ⟨nm', hn⟩ := ES' (l := names) (i := j) ω; obtain ⟨b, eb, p1⟩ := an.2 j nm' hn
   have hnn : nm' = nm := by rw [<- hnm, List.getD_eq_getElem?_getD, hn]; rfl
   subst hnn
   rw [show j = j * 1 by omega] at p1
   obtain ⟨rk, rn, rt, rla, rll, rlc, rta, rtl, rtc⟩ := r; simp only at ea eb; subst ea; subst eb
   by_cases h0 : 0 < j
   ·have e2 : decide (o' j > o' 0) = true := decide_eq_true (by simp only [Z0]; omega)
    have hlen : (DR' true j nm' (f u)).length = 1 + ((AZ' (bts nm')).length + 1 + (f u).length) := by unfold DR'; rw [if_pos h0]; simp only [if_true, la', lc', List.length_nil]
    have hfin : addT (cat (cat (cat s (oneB (UInt8.ofNat 44))) (tB (AZ' (bts nm')))) (oneB (UInt8.ofNat 58))) (f u) = addT s (DR' true j nm' (f u)) := I4' (by unfold addT DR'; rw [if_pos h0]; simp only [CR', EQ', GD', if_true, as']; rfl)
    have z0 : (cat s (oneB (UInt8.ofNat 44))).size + (AZ' (bts nm')).length <= 999998000 := by rw [o1]; omega
    have z1 : fitB (cat (cat s (oneB (UInt8.ofNat 44))) (tB (AZ' (bts nm')))) := by unfold fitB; rw [o2, o1]; omega
    have z2 : (cat (cat (cat s (oneB (UInt8.ofNat 44))) (tB (AZ' (bts nm')))) (oneB (UInt8.ofNat 58))).size + (f u).length <= 999998000 := by rw [o1, o2, o1]; omega
    refine ⟨conW x (f u), hW true true j x nm', [], fun F hF => NS' hLW hwr F hF, fun _ _ => noL, fun F => ?_⟩
    refine Yj (j8' W s g ⟨rk, rn, rt, none, rll, rlc, none, rtl, rtc⟩ x (f u) nm' a b j F) ⟨⟨?_, rfl, .inl ⟨rfl, ⟨(j + 1, addT s (DR' true j nm' (f u))), h1, hinv, hinv2⟩, C9' h1, [(1000, 1000)], by kernel_rfl, by kernel_rfl, ⟨Ya, Ya, Ya, Ya, Ya, Ya, Ye⟩, ⟨_, rfl, DN' hfin⟩, ⟨_, rfl, Yc⟩, Ye⟩⟩⟩
    exact Cb29'
   ·have e2 : decide (o' j > o' 0) = false := decide_eq_false (by simp only [Z0]; omega)
    have hlen : (DR' true j nm' (f u)).length = (AZ' (bts nm')).length + 1 + (f u).length := by unfold DR'; rw [if_neg h0]; simp only [if_true, la', lc', List.length_nil]; omega
    have hfin : addT (cat (cat s (tB (AZ' (bts nm')))) (oneB (UInt8.ofNat 58))) (f u) = addT s (DR' true j nm' (f u)) := I4' (by unfold addT DR'; rw [if_neg h0]; simp only [CR', EQ', GD', if_true, as']; rfl)
    have z0 : s.size + (AZ' (bts nm')).length <= 999998000 := ω
    have z1 : fitB (cat s (tB (AZ' (bts nm')))) := by unfold fitB; rw [o2]; omega
    have z2 : (cat (cat s (tB (AZ' (bts nm')))) (oneB (UInt8.ofNat 58))).size + (f u).length <= 999998000 := by rw [o1, o2]; omega
    refine ⟨conW x (f u), hW false true j x nm', [], fun F hF => NS' hLW hwr F hF, fun _ _ => noL, fun F => ?_⟩
    refine Yj (j9' W s g ⟨rk, rn, rt, none, rll, rlc, none, rtl, rtc⟩ x (f u) nm' a b j F) ⟨⟨?_, rfl, .inl ⟨rfl, ⟨(j + 1, addT s (DR' true j nm' (f u))), h1, hinv, hinv2⟩, C9' h1, [(1000, 1000)], by kernel_rfl, by kernel_rfl, ⟨Ya, Ya, Ya, Ya, Ya, Ya, Ye⟩, ⟨_, rfl, DN' hfin⟩, ⟨_, rfl, Yc⟩, Ye⟩⟩⟩
    exact Cb29'
 ·have hje : j = r.ll := ω
  subst hje; rw [hll, List.drop_length] at hE
  have hsR : s = R := by rw [<- hE]; unfold addT B3'; exact (ZV' s).symm
  subst hsR
  refine ⟨[], AD' [(fwr, 7, 0, hv (.lit false))], [], fun _ _ => noC, fun _ _ => noL, fun F => ?_⟩
  refine Yj (oWE_eq W s g r F) ⟨⟨?_, rfl, .inr ⟨rfl, [(1000, 1000)], by kernel_rfl, by kernel_rfl, ⟨Ya, Ya, Ya, Ye⟩, ⟨_, rfl, Yc⟩, ⟨_, rfl, Yc⟩, Ye⟩⟩⟩
  have e1 : decide (o' r.ll < o' r.ll) = false := by rw [IG']; exact decide_eq_false (Nat.lt_irrefl _)
  exact Cb1'
end Go.Proofs.YtdphpillcaajpaaDoor.Js
