/- Loops whose rounds end a step before the next state. No program. -/
import Derived.Test.YtjjjchmkonnpfaaEngFam
set_option linter.unusedVariables false
set_option linter.unusedSimpArgs false
namespace Go.Proofs.Ytjjjchmkonnpfaa.Eng
open Go Go.RowKit
theorem LTri.pre {P : Program} {W : World} {b : Code} {A A1 : List AV} {H H1 : LH} {ax : AX} {A' : List AV} {H' : LH} (hg : Goes A H A1 H1) (h : LTri P W b A1 H1 ax A' H') : LTri P W b A H ax A' H' := by
  intro W0 F N w a Q hF hN r ha hK
  obtain ⟨N', q1, q2, q3, q4⟩ := hg W0 F N a.tmps.toList w ⟨N, fun _ _ => rfl, hN, r, ha⟩
  exact h W0 F N' w a Q hF q2 q3 q4 fun a' w' ⟨N2, p1, p2, p3, p4⟩ hd => hK a' w' ⟨N2, fun i hi => (p1 i hi).trans (q1 i hi), p2, p3, p4⟩ hd
theorem LTri.post {P : Program} {W : World} {b : Code} {A : List AV} {H : LH} {ax : AX} {A' A2 : List AV} {H' H2 : LH} (h : LTri P W b A H ax A' H') (hg : Goes A' H' A2 H2) : LTri P W b A H ax A2 H2 := by
  intro W0 F N w a Q hF hN r ha hK
  exact h W0 F N w a Q hF hN r ha fun a' w' hs hd => hK a' w' (hg _ _ _ _ _ hs) hd
theorem ltri_fits {P : Program} {σ : Type} {con : σ → ConT} {claim : σ → ClaimT} {lcon : σ → LconT} {W : World} {g : FuncId} {b : Code} (A : σ → List AV) (H : σ → LH) (R : σ → AX × List AV × LH) (μ : σ → Nat) (ks : List Nat) (fuel : Nat) (hm : P.follows .mixedOrders = true)
    (hH : ∀ s, namesLt 1100 (H s) = true)
    (hcon : ∀ s F, OldOK W F → ConOK P (envO P F (con s) (claim s) (lcon s) W)) (hl : ∀ s F, OldOK W F → LconOK P (envO P F (con s) (claim s) (lcon s) W))
    (hstep : ∀ s F, OldOK W F → (((runCode P (envO P F (con s) (claim s) (lcon s) W) fuel g b (A s)).run2 (heapOf (H s)) 1100 []).view ks).all fun r os _ =>
      (r.1 = .normal ∧ ∃ s', μ s' < μ s ∧ R s' = R s ∧ Fits ks r.2 os (A s') (H s')) ∨ (r.1 ≠ .normal ∧ r.1 = (R s).1 ∧ Fits ks r.2 os (R s).2.1 (R s).2.2)) (s : σ) :
    LTri P W b (A s) (H s) (R s).1 (R s).2.1 (R s).2.2 := by
  intro W0 F N w a Q hF hN r ha hK
  refine wp_loop_rounds (μ s + 1) ?_
  have key : ∀ (m : Nat) (s : σ), μ s < m → ∀ (N1 : Names) (w : World) (a1 : Act), (∀ i, i < 1000 → N1 i = N i) → NB N1 (H s) → Rep W0 N1 F (heapOf (H s)) w → VRs N1 (A s) a1.tmps.toList → a1.defers = a.defers →
      (∀ a' w', St W0 F N (R s).2.2 (R s).2.1 a'.tmps.toList w' → a'.defers = a.defers → Q (exitOf (R s).1) a' w') → Code.rounds P b Q m a1 w := by
    intro m
    induction m with
    | zero => intro s hs; omega
    | succ m ih =>
      intro s hs N1 w a1 hN1 hNB r ha hd hK
      rw [rounds_succ]
      obtain ⟨⟨ax, t⟩, h', n', lg', c, he, hc, hq⟩ := VT.all_pick (hstep s F hF)
      rw [run2_pick] at he
      refine (runCode_sound hF.env hm (hcon s F hF) (hl s F hF) fuel).1 _ _ _ _ _ _ _ _ _ _ _ _ _ _ _ _ _ _ he hc r ha (fun i h1 h2 => hNB.nothing (hH s) h1) fun N2 a2 w2 r2 t2 d2 x2 => ?_
      have hlim := run_limit _ he (by decide)
      have hN0 : ∀ i, 1100 ≤ i → N1 i = none := fun i hi => hNB.nothing (hH s) hi
      rcases hq with ⟨h1, s', hμ, hR', hfit⟩ | ⟨h1, h2, hfit⟩
      · simp only at h1
        subst h1
        obtain ⟨N3, q1, q2, q3, q4⟩ := hfit.state r2 x2 hlim hN0 t2
        show Code.rounds P b Q m a2 w2
        refine ih s' (by omega) N3 w2 a2 (fun i hi => (q1 i hi).trans (hN1 i hi)) q2 q3 q4 (d2.trans hd) ?_
        rw [hR']
        exact hK
      · obtain ⟨N3, q1, q2, q3, q4⟩ := hfit.state r2 x2 hlim hN0 t2
        simp only at h1 h2
        have hfin := hK a2 w2 ⟨N3, fun i hi => (q1 i hi).trans (hN1 i hi), q2, q3, q4⟩ (d2.trans hd)
        rw [← h2] at hfin
        cases ax with
        | normal => exact absurd rfl h1
        | exit id => exact hfin
        | ret => exact hfin
  exact key _ s (by omega) N w a (fun _ _ => rfl) hN r ha rfl hK
/-- A round's end goes to a state. -/
def FitsT (m : Nat) (ks idx : List Nat) (ts : List AV) (os : List (Option AO)) (told : List (Nat × AV)) (H : LH) : Prop := ∃ told1 H1 l, namesLt 1100 H1 = true ∧ FitT ks idx ts os told1 H1 l ∧ Goes (tms 0 m told1) H1 (tms 0 m told) H
theorem FitT.fits {m : Nat} {ks idx : List Nat} {ts : List AV} {os : List (Option AO)} {told : List (Nat × AV)} {H : LH} {l : List (Nat × Nat)} (h : FitT ks idx ts os told H l) (hH : namesLt 1100 H = true) : FitsT m ks idx ts os told H := ⟨told, H, l, hH, h, Goes.refl _ _⟩
theorem ltri_tmsF {P : Program} {σ : Type} {con : σ → ConT} {claim : σ → ClaimT} {lcon : σ → LconT} {W : World} {g : FuncId} {b : Code} (m : Nat) (A : σ → List (Nat × AV)) (H : σ → LH) (ax : AX) (Z : List (Nat × AV)) (HZ : LH) (μ : σ → Nat) (ks idx : List Nat) (fuel : Nat) (hm : P.follows .mixedOrders = true) (hax : ax ≠ .normal)
    (hH : ∀ s, namesLt 1100 (H s) = true)
    (hcon : ∀ s F, OldOK W F → ConOK P (envO P F (con s) (claim s) (lcon s) W)) (hl : ∀ s F, OldOK W F → LconOK P (envO P F (con s) (claim s) (lcon s) W))
    (hstep : ∀ s F, OldOK W F → VAll (fun r os _ => r.2.2 = m ∧
      ((r.1 = .normal ∧ ∃ s', μ s' < μ s ∧ FitsT m ks idx r.2.1 os (A s') (H s')) ∨ (r.1 = ax ∧ FitsT m ks idx r.2.1 os Z HZ))) ((((runCode P (envO P F (con s) (claim s) (lcon s) W) fuel g b (tms 0 m (A s))).run2 (heapOf (H s)) 1100 []).view ks).map (seenT idx))) (s : σ) :
    LTri P W b (tms 0 m (A s)) (H s) ax (tms 0 m Z) HZ :=
  ltri_fits (σ := σ) (con := con) (claim := claim) (lcon := lcon) (g := g) (fun s => tms 0 m (A s)) H (fun _ => (ax, tms 0 m Z, HZ)) μ ks fuel hm hH hcon hl (fun s F hF => VT.all_mono (fun r os n h => by
    obtain ⟨h1, h2⟩ := h
    rcases h2 with ⟨e, s', hμ, t1, H1, l, hb, hf, hg⟩ | ⟨e, t1, H1, l, hb, hf, hg⟩
    · exact .inl ⟨e, s', hμ, rfl, _, _, l, hb, hf.fit h1, hg⟩
    · exact .inr ⟨(by rw [show r.1 = ax from e]; exact hax), e, _, _, l, hb, hf.fit h1, hg⟩) (VT.all_map (hstep s F hF).out)) s
end Go.Proofs.Ytjjjchmkonnpfaa.Eng
