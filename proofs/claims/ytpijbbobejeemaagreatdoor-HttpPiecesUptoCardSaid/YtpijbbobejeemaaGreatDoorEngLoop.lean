/- Loops whose rounds end a step before the next state. No program. -/
import Derived.Test.YtpijbbobejeemaaGreatDoorEngFam
set_option linter.unusedVariables false
set_option linter.unusedSimpArgs false
namespace Go.Proofs.YtpijbbobejeemaaGreatDoor.Eng
open Go Go.RowKit
theorem LTri.pre {P : Program} {W : World} {b : Code} {A A1 : List AV} {H H1 : LH} {ax : AX} {A' : List AV} {H' : LH} (hg : Goes A H A1 H1) (h : LTri P W b A1 H1 ax A' H') : LTri P W b A H ax A' H' := by
  intro W0 F N w a Q hF hN r ha hK
  obtain ⟨N', q1, q2, q3, q4⟩ := hg W0 F N a.tmps.toList w ⟨N, fun _ _ => rfl, hN, r, ha⟩
  exact h W0 F N' w a Q hF q2 q3 q4 fun a' w' ⟨N2, p1, p2, p3, p4⟩ hd => hK a' w' ⟨N2, fun i hi => (p1 i hi).trans (q1 i hi), p2, p3, p4⟩ hd
theorem LTri.post {P : Program} {W : World} {b : Code} {A : List AV} {H : LH} {ax : AX} {A' A2 : List AV} {H' H2 : LH} (h : LTri P W b A H ax A' H') (hg : Goes A' H' A2 H2) : LTri P W b A H ax A2 H2 := by
  intro W0 F N w a Q hF hN r ha hK
  exact h W0 F N w a Q hF hN r ha fun a' w' hs hd => hK a' w' (hg _ _ _ _ _ hs) hd
def FitsT (m : Nat) (ks idx : List Nat) (ts : List AV) (os : List (Option AO)) (told : List (Nat × AV)) (H : LH) : Prop := ∃ told1 H1 l, namesLt 1100 H1 = true ∧ FitT ks idx ts os told1 H1 l ∧ Goes (tms 0 m told1) H1 (tms 0 m told) H
theorem FitT.fits {m : Nat} {ks idx : List Nat} {ts : List AV} {os : List (Option AO)} {told : List (Nat × AV)} {H : LH} {l : List (Nat × Nat)} (h : FitT ks idx ts os told H l) (hH : namesLt 1100 H = true) : FitsT m ks idx ts os told H := ⟨told, H, l, hH, h, Goes.refl _ _⟩
end Go.Proofs.YtpijbbobejeemaaGreatDoor.Eng
