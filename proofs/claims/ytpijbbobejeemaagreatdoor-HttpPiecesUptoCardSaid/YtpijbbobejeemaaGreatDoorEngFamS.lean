/- Many structures of one kind as one object; one of them taken out and opened, shut and put back. No program. -/
import Derived.Test.YtpijbbobejeemaaGreatDoorEngFam
set_option linter.unusedVariables false
set_option linter.unusedSimpArgs false
namespace Go.Proofs.YtpijbbobejeemaaGreatDoor.Eng
open Go Go.RowKit
mutual
theorem AV.cl_mono {K K' : Nat → Bool} (h : ∀ n, K n = true → K' n = true) : ∀ {x : AV}, AV.cl K x → AV.cl K' x
  | .v _, _ => trivial
  | .lit _, _ => trivial
  | .ptr i _, hc => h i hc
  | .slice i _ _ _ _, hc => h i hc
  | .mt, _ => trivial
  | .map i, hc => h i hc
  | .iface _ x, hc => AV.cl_mono h (x := x) hc
  | .func _ f c, hc => ⟨AV.cls_mono h (l := f) hc.1, AV.cls_mono h (l := c) hc.2⟩
  | .agg cs, hc => AV.cls_mono h (l := cs) hc
  | .tuple cs, hc => AV.cls_mono h (l := cs) hc
  | .any, _ => trivial
theorem AV.cls_mono {K K' : Nat → Bool} (h : ∀ n, K n = true → K' n = true) : ∀ {l : List AV}, AV.cls K l → AV.cls K' l
  | [], _ => trivial
  | x :: l, hc => ⟨AV.cl_mono h (x := x) hc.1, AV.cls_mono h (l := l) hc.2⟩
end
theorem clE_mono {K K' : Nat → Bool} (h : ∀ n, K n = true → K' n = true) : ∀ {l : List (AV × AV × Nat)}, clE K l → clE K' l
  | [], _ => trivial
  | x :: l, hc => ⟨AV.cl_mono h hc.1, AV.cl_mono h hc.2.1, clE_mono h hc.2.2⟩
theorem AO.cl_mono {K K' : Nat → Bool} (h : ∀ n, K n = true → K' n = true) {o : AO} (hc : o.cl K) : o.cl K' := by
  cases o with
  | cells cs e => exact AV.cls_mono h hc
  | map es c => exact clE_mono h hc
  | striter s p => exact trivial
  | miter m a b c =>
    cases m with
    | none => exact trivial
    | some j => exact h j hc
  | any p => exact trivial
  | own m p => exact trivial
  | same j b => exact h j hc
theorem st_restrict {W0 w : World} {F : HP} {N N1 : Names} {H : LH} {vs : List AV} {ys : List Value} (hl : namesLt 1100 H = true) (g1 : ∀ i, i < 1000 → N1 i = N i) (r : Rep W0 N1 F (heapOf H) w) (hvs : VRs N1 vs ys)
    (hv : AV.cls (fun n => Nat.blt n 1000 || (getO H n).isSome) vs) (ho : ∀ x ∈ H, x.2.cl (fun n => Nat.blt n 1000 || (getO H n).isSome)) : St W0 F N H vs ys w := by
  have hf : ∀ n, (heapOf H).find n = getO H n := find_heapOf (lt_lim hl)
  obtain ⟨D0, D, h1, h2, h3⟩ := r.sat
  let K : Nat → Bool := fun n => Nat.blt n 1000 || (getO H n).isSome
  let N2 : Names := fun n => if K n = true then N1 n else none
  have hN2 : ∀ n, K n = true → N2 n = N1 n := fun n hn => if_pos hn
  refine ⟨N2, fun n hn => ?_, fun n hn hg => ?_, ⟨r.os, r.tape, r.output, D0, D, h1, fun n o hno => ?_, h3⟩, hvs.congr (K := K) hN2 hv⟩
  · rw [hN2 n (by simp [K, Nat.blt_eq, hn])]; exact g1 n hn
  · refine if_neg ?_
    simp only [K, hg, Bool.or_eq_true, Nat.blt_eq]
    rintro (hh | hh)
    · omega
    · cases hh
  · have := h2 n o hno
    rw [hf] at hno
    exact ⟨this.1.congr (K := K) hN2 (by simp [K, hno]) (ho _ (getO_mem hno)), this.2⟩
end Go.Proofs.YtpijbbobejeemaaGreatDoor.Eng
