/- Many structures of one kind as one object; one of them taken out and opened, shut and put back. No program. -/
import Derived.Test.YtbmoancedlbhlaaDoorEngFam
set_option linter.unusedVariables false
set_option linter.unusedSimpArgs false
namespace Go.Proofs.YtbmoancedlbhlaaDoor.Eng
open Go Go.RowKit
mutual
theorem AV.cl_mono {K K' : Nat → Bool} (h : ∀ n, K n = true → K' n = true) : ∀ {x : AV}, AV.cl K x → AV.cl K' x
  | .v _, _ => trivial
  | .lit _, _ => trivial
  | .ptr i _, hc => h i hc
  | .slice i _ _ _ _, hc => h i hc
  | .mt, _ => trivial
  | .map i, hc => h i hc
  | .iface _ x, hc => AV.cl_mono h (x := x) hc
  | .func _ f c, hc => ⟨AV.cls_mono h (l := f) hc.1, AV.cls_mono h (l := c) hc.2⟩
  | .agg cs, hc => AV.cls_mono h (l := cs) hc
  | .tuple cs, hc => AV.cls_mono h (l := cs) hc
  | .any, _ => trivial
theorem AV.cls_mono {K K' : Nat → Bool} (h : ∀ n, K n = true → K' n = true) : ∀ {l : List AV}, AV.cls K l → AV.cls K' l
  | [], _ => trivial
  | x :: l, hc => ⟨AV.cl_mono h (x := x) hc.1, AV.cls_mono h (l := l) hc.2⟩
end
theorem clE_mono {K K' : Nat → Bool} (h : ∀ n, K n = true → K' n = true) : ∀ {l : List (AV × AV × Nat)}, clE K l → clE K' l
  | [], _ => trivial
  | x :: l, hc => ⟨AV.cl_mono h hc.1, AV.cl_mono h hc.2.1, clE_mono h hc.2.2⟩
theorem AO.cl_mono {K K' : Nat → Bool} (h : ∀ n, K n = true → K' n = true) {o : AO} (hc : o.cl K) : o.cl K' := by
  cases o with
  | cells cs e => exact AV.cls_mono h hc
  | map es c => exact clE_mono h hc
  | striter s p => exact trivial
  | miter m a b c =>
    cases m with
    | none => exact trivial
    | some j => exact h j hc
  | any p => exact trivial
  | own m p => exact trivial
  | same j b => exact h j hc
theorem goes_openAt {vs : List AV} {H H' : LH} {i : Nat} {m : Md} {L : LH} (σ : Nat → Nat) (hl : namesLt 1100 H = true) (hl' : namesLt 1100 H' = true) (hi : getO H i = some (.own m (HP.rep L))) (h0 : σ 0 = i) (hr0 : ∃ o, getO L 0 = some o)
    (hinj : ∀ j k o o', getO L j = some o → getO L k = some o' → σ j = σ k → j = k) (hcl : ∀ j o, getO L j = some o → o.cl fun k => (getO L k).isSome)
    (hnew : ∀ j o, getO L j = some o → getO H' (σ j) = some (o.ren σ) ∧ (j ≠ 0 → 1000 ≤ σ j ∧ getO H (σ j) = none)) (hrest : ∀ n, (∀ j o, getO L j = some o → σ j ≠ n) → getO H' n = getO H n) : Goes vs H vs H' := by
  intro W0 F N ys w ⟨N1, g1, g2, r, hvs⟩
  have hf : ∀ n, (heapOf H).find n = getO H n := find_heapOf (lt_lim hl)
  have hf' : ∀ n, (heapOf H').find n = getO H' n := find_heapOf (lt_lim hl')
  have hfr : ∀ j o, getO L j = some o → j ≠ 0 → N1 (σ j) = none := fun j o hj hj0 => g2 _ ((hnew j o hj).2 hj0).1 ((hnew j o hj).2 hj0).2
  obtain ⟨N2, q1, q2⟩ := Rep.open r (i := i) (by rw [hf]; exact hi) σ h0 hr0 hinj hfr hcl
  have hle : N1.le N2 := by
    intro n l' hn
    rw [q1 n]
    · exact hn
    · intro j o hj hj0 he
      have := hfr j o hj hj0
      rw [he, hn] at this; cases this
  refine ⟨N2, fun n hn => ?_, fun n hn hg => ?_, q2 _ (fun j o o' hj hj' => ?_) (fun n o hno hn => ?_), hvs.mono hle⟩
  · rw [q1 n (fun j o hj hj0 he => by have := ((hnew j o hj).2 hj0).1; omega)]; exact g1 n hn
  · have hno : ∀ j o, getO L j = some o → σ j ≠ n := fun j o hj he => by rw [← he, (hnew j o hj).1] at hg; cases hg
    rw [q1 n (fun j o hj _ => hno j o hj)]
    exact g2 n hn (by rw [← hrest n hno]; exact hg)
  · rw [hf', (hnew j o hj).1] at hj'
    exact (Option.some.inj hj').symm
  · rw [hf'] at hn
    rw [hf, ← hrest n hno]; exact hn
end Go.Proofs.YtbmoancedlbhlaaDoor.Eng
