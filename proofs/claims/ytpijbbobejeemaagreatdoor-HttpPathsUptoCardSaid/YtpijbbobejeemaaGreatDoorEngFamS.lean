/- Many structures of one kind as one object; one of them taken out and opened, shut and put back. No program. -/
import Derived.Test.YtpijbbobejeemaaGreatDoorEngFam
set_option linter.unusedVariables false
set_option linter.unusedSimpArgs false
namespace Go.Proofs.YtpijbbobejeemaaGreatDoor.Eng
open Go Go.RowKit
mutual
theorem AV.cl_mono {K K' : Nat → Bool} (h : ∀ n, K n = true → K' n = true) : ∀ {x : AV}, AV.cl K x → AV.cl K' x
  | .v _, _ => trivial
  | .lit _, _ => trivial
  | .ptr i _, hc => h i hc
  | .slice i _ _ _ _, hc => h i hc
  | .mt, _ => trivial
  | .map i, hc => h i hc
  | .iface _ x, hc => AV.cl_mono h (x := x) hc
  | .func _ f c, hc => ⟨AV.cls_mono h (l := f) hc.1, AV.cls_mono h (l := c) hc.2⟩
  | .agg cs, hc => AV.cls_mono h (l := cs) hc
  | .tuple cs, hc => AV.cls_mono h (l := cs) hc
  | .any, _ => trivial
theorem AV.cls_mono {K K' : Nat → Bool} (h : ∀ n, K n = true → K' n = true) : ∀ {l : List AV}, AV.cls K l → AV.cls K' l
  | [], _ => trivial
  | x :: l, hc => ⟨AV.cl_mono h (x := x) hc.1, AV.cls_mono h (l := l) hc.2⟩
end
theorem clE_mono {K K' : Nat → Bool} (h : ∀ n, K n = true → K' n = true) : ∀ {l : List (AV × AV × Nat)}, clE K l → clE K' l
  | [], _ => trivial
  | x :: l, hc => ⟨AV.cl_mono h hc.1, AV.cl_mono h hc.2.1, clE_mono h hc.2.2⟩
theorem AO.cl_mono {K K' : Nat → Bool} (h : ∀ n, K n = true → K' n = true) {o : AO} (hc : o.cl K) : o.cl K' := by
  cases o with
  | cells cs e => exact AV.cls_mono h hc
  | map es c => exact clE_mono h hc
  | striter s p => exact trivial
  | miter m a b c =>
    cases m with
    | none => exact trivial
    | some j => exact h j hc
  | any p => exact trivial
  | own m p => exact trivial
  | same j b => exact h j hc
end Go.Proofs.YtpijbbobejeemaaGreatDoor.Eng
