/- Loops whose next state is one of many: which one is known in the world alone. No program. -/
import Derived.Test.YtpijbbobejeemaaGreatDoorEngLoop
set_option linter.unusedVariables false
set_option linter.unusedSimpArgs false
namespace Go.Proofs.YtpijbbobejeemaaGreatDoor.Eng
open Go Go.RowKit
def FitsE (ks : List Nat) (vs : List AV) (os : List (Option AO)) (Q : World → HP → Names → List Value → World → Prop) : Prop :=
  ∃ vs1 H1 l, namesLt 1100 H1 = true ∧ Fit ks vs os vs1 H1 l ∧ ∀ W0 F N ys w, St W0 F N H1 vs1 ys w → Q W0 F N ys w
theorem FitsE.state {ks : List Nat} {vs : List AV} {Q : World → HP → Names → List Value → World → Prop} {W0 w : World} {N N1 : Names} {F : HP} {h : T} {n : Nat} {ys : List Value} (hf : FitsE ks vs (ks.map h.find) Q)
    (r : Rep W0 N1 F h w) (hx : Ext N N1 1100 n) (hn : n ≤ T.limit) (hN : ∀ i, 1100 ≤ i → N i = none) (hv : VRs N1 vs ys) : Q W0 F N ys w := by
  obtain ⟨vs1, H1, l, hb, hfit, hg⟩ := hf
  obtain ⟨N', q1, q2, q3, q4⟩ := hfit.state hb r hx hn hN hv
  exact hg W0 F N ys w ⟨N', q1, q2, q3, q4⟩
def FitsTE (m : Nat) (ks idx : List Nat) (ts : List AV) (os : List (Option AO)) (Q : World → HP → Names → List Value → World → Prop) : Prop :=
  ∃ told1 H1 l, namesLt 1100 H1 = true ∧ FitT ks idx ts os told1 H1 l ∧ ∀ W0 F N ys w, St W0 F N H1 (tms 0 m told1) ys w → Q W0 F N ys w
theorem FitsT.e {m : Nat} {ks idx : List Nat} {ts : List AV} {os : List (Option AO)} {told : List (Nat × AV)} {H : LH} (h : FitsT m ks idx ts os told H) : FitsTE m ks idx ts os fun W0 F N ys w => St W0 F N H (tms 0 m told) ys w := by
  obtain ⟨t1, H1, l, hb, hf, hg⟩ := h
  exact ⟨t1, H1, l, hb, hf, fun W0 F N ys w => hg W0 F N ys w⟩
theorem FitsT.one {m : Nat} {ks idx : List Nat} {ts : List AV} {os : List (Option AO)} {σ : Type} {A : σ → List (Nat × AV)} {H : σ → LH} {μ : σ → Nat} {k : Nat} (s' : σ) (hμ : μ s' < k) (h : FitsT m ks idx ts os (A s') (H s')) :
    FitsTE m ks idx ts os fun W0 F N ys w => ∃ s', μ s' < k ∧ St W0 F N (H s') (tms 0 m (A s')) ys w := by
  obtain ⟨t1, H1, l, hb, hf, hg⟩ := h
  exact ⟨t1, H1, l, hb, hf, fun W0 F N ys w hs => ⟨s', hμ, hg W0 F N ys w hs⟩⟩
end Go.Proofs.YtpijbbobejeemaaGreatDoor.Eng
