/- Parts of the proof, merged. -/
import Derived.Test.YtdphpillcaajpaaDoorEngFam
import Derived.Test.YtdphpillcaajpaaDoorEngKit
import Derived.Test.YtdphpillcaajpaaDoorEngRow
/- Loops whose rounds end a step before the next state. No program. -/
set_option linter.unusedVariables false
set_option linter.unusedSimpArgs false
namespace Go.Proofs.YtdphpillcaajpaaDoor.Eng
open Go Go.RowKit
theorem LTri.pre {P : Program} {W : World} {b : Code} {A A1 : List AV} {H H1 : LH} {ax : AX} {A' : List AV} {H' : LH} (hg : Goes A H A1 H1) (h : LTri P W b A1 H1 ax A' H') : LTri P W b A H ax A' H' := by
  intro W0 F N w a Q hF hN r ha hK
  obtain ⟨N', q1, q2, q3, q4⟩ := hg W0 F N a.tmps.toList w ⟨N, fun _ _ => rfl, hN, r, ha⟩
  exact h W0 F N' w a Q hF q2 q3 q4 fun a' w' ⟨N2, p1, p2, p3, p4⟩ hd => hK a' w' ⟨N2, fun i hi => (p1 i hi).trans (q1 i hi), p2, p3, p4⟩ hd
theorem LTri.post {P : Program} {W : World} {b : Code} {A : List AV} {H : LH} {ax : AX} {A' A2 : List AV} {H' H2 : LH} (h : LTri P W b A H ax A' H') (hg : Goes A' H' A2 H2) : LTri P W b A H ax A2 H2 := by
  intro W0 F N w a Q hF hN r ha hK
  exact h W0 F N w a Q hF hN r ha fun a' w' hs hd => hK a' w' (hg _ _ _ _ _ hs) hd
def FitsT (m : Nat) (ks idx : List Nat) (ts : List AV) (os : List (Option AO)) (told : List (Nat × AV)) (H : LH) : Prop := ∃ told1 H1 l, namesLt 1100 H1 = true ∧ FitT ks idx ts os told1 H1 l ∧ Goes (tms 0 m told1) H1 (tms 0 m told) H
theorem FitT.fits {m : Nat} {ks idx : List Nat} {ts : List AV} {os : List (Option AO)} {told : List (Nat × AV)} {H : LH} {l : List (Nat × Nat)} (h : FitT ks idx ts os told H l) (hH : namesLt 1100 H = true) : FitsT m ks idx ts os told H := ⟨told, H, l, hH, h, Goes.refl _ _⟩
end Go.Proofs.YtdphpillcaajpaaDoor.Eng

/- Loops whose rounds end a step before the next state, over the program. -/
set_option linter.unusedVariables false
set_option linter.unusedSimpArgs false
namespace Go.Proofs.YtdphpillcaajpaaDoor.Kit
open Go Go.RowKit Go.Proofs.YtdphpillcaajpaaDoor.Eng
end Go.Proofs.YtdphpillcaajpaaDoor.Kit

/- Loops whose next state is one of many: which one is known in the world alone. No program. -/
set_option linter.unusedVariables false
set_option linter.unusedSimpArgs false
namespace Go.Proofs.YtdphpillcaajpaaDoor.Eng
open Go Go.RowKit
def FitsE (ks : List Nat) (vs : List AV) (os : List (Option AO)) (Q : World → HP → Names → List Value → World → Prop) : Prop :=
  ∃ vs1 H1 l, namesLt 1100 H1 = true ∧ Fit ks vs os vs1 H1 l ∧ ∀ W0 F N ys w, St W0 F N H1 vs1 ys w → Q W0 F N ys w
theorem FitsE.state {ks : List Nat} {vs : List AV} {Q : World → HP → Names → List Value → World → Prop} {W0 w : World} {N N1 : Names} {F : HP} {h : T} {n : Nat} {ys : List Value} (hf : FitsE ks vs (ks.map h.find) Q)
    (r : Rep W0 N1 F h w) (hx : Ext N N1 1100 n) (hn : n ≤ T.limit) (hN : ∀ i, 1100 ≤ i → N i = none) (hv : VRs N1 vs ys) : Q W0 F N ys w := by
  obtain ⟨vs1, H1, l, hb, hfit, hg⟩ := hf
  obtain ⟨N', q1, q2, q3, q4⟩ := hfit.state hb r hx hn hN hv
  exact hg W0 F N ys w ⟨N', q1, q2, q3, q4⟩
def FitsTE (m : Nat) (ks idx : List Nat) (ts : List AV) (os : List (Option AO)) (Q : World → HP → Names → List Value → World → Prop) : Prop :=
  ∃ told1 H1 l, namesLt 1100 H1 = true ∧ FitT ks idx ts os told1 H1 l ∧ ∀ W0 F N ys w, St W0 F N H1 (tms 0 m told1) ys w → Q W0 F N ys w
theorem FitsT.e {m : Nat} {ks idx : List Nat} {ts : List AV} {os : List (Option AO)} {told : List (Nat × AV)} {H : LH} (h : FitsT m ks idx ts os told H) : FitsTE m ks idx ts os fun W0 F N ys w => St W0 F N H (tms 0 m told) ys w := by
  obtain ⟨t1, H1, l, hb, hf, hg⟩ := h
  exact ⟨t1, H1, l, hb, hf, fun W0 F N ys w => hg W0 F N ys w⟩
theorem FitsT.one {m : Nat} {ks idx : List Nat} {ts : List AV} {os : List (Option AO)} {σ : Type} {A : σ → List (Nat × AV)} {H : σ → LH} {μ : σ → Nat} {k : Nat} (s' : σ) (hμ : μ s' < k) (h : FitsT m ks idx ts os (A s') (H s')) :
    FitsTE m ks idx ts os fun W0 F N ys w => ∃ s', μ s' < k ∧ St W0 F N (H s') (tms 0 m (A s')) ys w := by
  obtain ⟨t1, H1, l, hb, hf, hg⟩ := h
  exact ⟨t1, H1, l, hb, hf, fun W0 F N ys w hs => ⟨s', hμ, hg W0 F N ys w hs⟩⟩
end Go.Proofs.YtdphpillcaajpaaDoor.Eng

/- Many structures of one kind as one object; one of them taken out and opened, shut and put back. No program. -/
set_option linter.unusedVariables false
set_option linter.unusedSimpArgs false
namespace Go.Proofs.YtdphpillcaajpaaDoor.Eng
open Go Go.RowKit
mutual
theorem AV.cl_mono {K K' : Nat → Bool} (h : ∀ n, K n = true → K' n = true) : ∀ {x : AV}, AV.cl K x → AV.cl K' x
  | .v _, _ => trivial
  | .lit _, _ => trivial
  | .ptr i _, hc => h i hc
  | .slice i _ _ _ _, hc => h i hc
  | .mt, _ => trivial
  | .map i, hc => h i hc
  | .iface _ x, hc => AV.cl_mono h (x := x) hc
  | .func _ f c, hc => ⟨AV.cls_mono h (l := f) hc.1, AV.cls_mono h (l := c) hc.2⟩
  | .agg cs, hc => AV.cls_mono h (l := cs) hc
  | .tuple cs, hc => AV.cls_mono h (l := cs) hc
  | .any, _ => trivial
theorem AV.cls_mono {K K' : Nat → Bool} (h : ∀ n, K n = true → K' n = true) : ∀ {l : List AV}, AV.cls K l → AV.cls K' l
  | [], _ => trivial
  | x :: l, hc => ⟨AV.cl_mono h (x := x) hc.1, AV.cls_mono h (l := l) hc.2⟩
end
theorem clE_mono {K K' : Nat → Bool} (h : ∀ n, K n = true → K' n = true) : ∀ {l : List (AV × AV × Nat)}, clE K l → clE K' l
  | [], _ => trivial
  | x :: l, hc => ⟨AV.cl_mono h hc.1, AV.cl_mono h hc.2.1, clE_mono h hc.2.2⟩
theorem AO.cl_mono {K K' : Nat → Bool} (h : ∀ n, K n = true → K' n = true) {o : AO} (hc : o.cl K) : o.cl K' := by
  cases o with
  | cells cs e => exact AV.cls_mono h hc
  | map es c => exact clE_mono h hc
  | striter s p => exact trivial
  | miter m a b c =>
    cases m with
    | none => exact trivial
    | some j => exact h j hc
  | any p => exact trivial
  | own m p => exact trivial
  | same j b => exact h j hc
end Go.Proofs.YtdphpillcaajpaaDoor.Eng

/- Maps with keys of whatever kind. No program. -/
set_option linter.unusedVariables false
set_option linter.unusedSimpArgs false
namespace Go.Proofs.YtdphpillcaajpaaDoor.Eng
open Go Go.RowKit
abbrev KMap (κ α : Type) := List (κ × α × Nat)
structure KOK {κ : Type} [DecidableEq κ] (kv : κ → Value) : Prop where
  inj : ∀ a b, valQ (kv a) (kv b) = decide (a = b)
  same : ∀ k, Instr.sameBits 10000 (kv k) (kv k) = true
section
variable {κ α : Type} {kv : κ → Value} {ev : α → AV}
structure KI (m : KMap κ α) (c : Nat) : Prop where
  keys : (m.map (·.1)).Nodup
  stamps : (m.map (·.2.2)).Nodup
  low : ∀ e ∈ m, e.2.2 < c
theorem KI.nil : KI ([] : KMap κ α) 0 := ⟨List.nodup_nil, List.nodup_nil, fun e he => by cases he⟩
end
section
variable {κ α : Type} [DecidableEq κ] {kv : κ → Value} {ev : α → AV}
/-! What is found afterwards. -/
end
end Go.Proofs.YtdphpillcaajpaaDoor.Eng

/- Loops whose next state is one of many, over the program. -/
set_option linter.unusedVariables false
set_option linter.unusedSimpArgs false
namespace Go.Proofs.YtdphpillcaajpaaDoor.Kit
open Go Go.RowKit Go.Proofs.YtdphpillcaajpaaDoor.Eng
end Go.Proofs.YtdphpillcaajpaaDoor.Kit

