/- Loops whose next state is one of many, over the program. -/
import Derived.Test.YtpijbbobejeemaaGreatDoorEngKit2
import Derived.Test.YtpijbbobejeemaaGreatDoorEngLoopE
import Derived.Test.YtpijbbobejeemaaGreatDoorEngFamS
import Derived.Test.YtpijbbobejeemaaGreatDoorEngKMap
set_option linter.unusedVariables false
set_option linter.unusedSimpArgs false
namespace Go.Proofs.YtpijbbobejeemaaGreatDoor.Kit
open Go Go.RowKit Go.Proofs.YtpijbbobejeemaaGreatDoor.Eng
theorem ltri_runE {W : World} {g : FuncId} {b : Code} {σ : Type} (m : Nat) (A : σ → List (Nat × AV)) (H : σ → LH) (ax : AX) (Z : List (Nat × AV)) (HZ : LH) (μ : σ → Nat) (ks idx : List Nat) (hax : ax ≠ .normal) (hH : ∀ s, namesLt 1100 (H s) = true)
    (hstep : ∀ s, ∃ (con : ConsL) (hints : ClaimT) (lc : LcL), (∀ F, OldOK W F → ∀ x ∈ con, C1OK Tryz.prog F x.1 x.2) ∧ (∀ F, OldOK W F → ∀ x ∈ lc, L1OK Tryz.prog F x.2.2.1 x.2.2.2) ∧
      ∀ F, VAll (fun r os _ => r.2.2 = m ∧ ((r.1 = .normal ∧ FitsTE m ks idx r.2.1 os fun W0 F N ys w => ∃ s', μ s' < μ s ∧ St W0 F N (H s') (tms 0 m (A s')) ys w) ∨ (r.1 = ax ∧ FitsTE m ks idx r.2.1 os fun W0 F N ys w => St W0 F N HZ (tms 0 m Z) ys w))) (wLoop con hints lc W g b (tms 0 m (A s)) (H s) ks idx F)) (s : σ) :
    LTri Tryz.prog W b (tms 0 m (A s)) (H s) ax (tms 0 m Z) HZ := by
  have key := ltri_tmsE (P := Tryz.prog) (W := W) (b := b) (g := g) (σ := σ) (con := fun s => conL (hstep s).choose) (claim := fun s => (hstep s).choose_spec.choose) (lcon := fun s => lconL (hstep s).choose_spec.choose_spec.choose) m A H ax Z HZ μ ks idx 1000 mixed hax hH
    (fun s F hF => conL_ok rfl ((hstep s).choose_spec.choose_spec.choose_spec.1 F hF)) (fun s F hF => lconL_ok rfl ((hstep s).choose_spec.choose_spec.choose_spec.2.1 F hF))
  exact key (fun s F _ => (hstep s).choose_spec.choose_spec.choose_spec.2.2 F) s
end Go.Proofs.YtpijbbobejeemaaGreatDoor.Kit
