/- Loops whose next state is one of many: which one is known in the world alone. No program. -/
import Derived.Test.YtpijbbobejeemaaGreatDoorEngLoop
set_option linter.unusedVariables false
set_option linter.unusedSimpArgs false
namespace Go.Proofs.YtpijbbobejeemaaGreatDoor.Eng
open Go Go.RowKit
def FitsE (ks : List Nat) (vs : List AV) (os : List (Option AO)) (Q : World → HP → Names → List Value → World → Prop) : Prop :=
  ∃ vs1 H1 l, namesLt 1100 H1 = true ∧ Fit ks vs os vs1 H1 l ∧ ∀ W0 F N ys w, St W0 F N H1 vs1 ys w → Q W0 F N ys w
theorem FitsE.state {ks : List Nat} {vs : List AV} {Q : World → HP → Names → List Value → World → Prop} {W0 w : World} {N N1 : Names} {F : HP} {h : T} {n : Nat} {ys : List Value} (hf : FitsE ks vs (ks.map h.find) Q)
    (r : Rep W0 N1 F h w) (hx : Ext N N1 1100 n) (hn : n ≤ T.limit) (hN : ∀ i, 1100 ≤ i → N i = none) (hv : VRs N1 vs ys) : Q W0 F N ys w := by
  obtain ⟨vs1, H1, l, hb, hfit, hg⟩ := hf
  obtain ⟨N', q1, q2, q3, q4⟩ := hfit.state hb r hx hn hN hv
  exact hg W0 F N ys w ⟨N', q1, q2, q3, q4⟩
theorem ltri_fitsE {P : Program} {σ : Type} {con : σ → ConT} {claim : σ → ClaimT} {lcon : σ → LconT} {W : World} {g : FuncId} {b : Code} (A : σ → List AV) (H : σ → LH) (ax0 : AX) (Z : List AV) (HZ : LH) (hax : ax0 ≠ .normal) (μ : σ → Nat) (ks : List Nat) (fuel : Nat) (hm : P.follows .mixedOrders = true)
    (hH : ∀ s, namesLt 1100 (H s) = true)
    (hcon : ∀ s F, OldOK W F → ConOK P (envO P F (con s) (claim s) (lcon s) W)) (hl : ∀ s F, OldOK W F → LconOK P (envO P F (con s) (claim s) (lcon s) W))
    (hstep : ∀ s F, OldOK W F → (((runCode P (envO P F (con s) (claim s) (lcon s) W) fuel g b (A s)).run2 (heapOf (H s)) 1100 []).view ks).all fun r os _ =>
      (r.1 = .normal ∧ FitsE ks r.2 os fun W0 F N ys w => ∃ s', μ s' < μ s ∧ St W0 F N (H s') (A s') ys w) ∨ (r.1 = ax0 ∧ FitsE ks r.2 os fun W0 F N ys w => St W0 F N HZ Z ys w)) (s : σ) :
    LTri P W b (A s) (H s) ax0 Z HZ := by
  intro W0 F N w a Q hF hN r ha hK
  refine wp_loop_rounds (μ s + 1) ?_
  have key : ∀ (m : Nat) (s : σ), μ s < m → ∀ (N1 : Names) (w : World) (a1 : Act), (∀ i, i < 1000 → N1 i = N i) → NB N1 (H s) → Rep W0 N1 F (heapOf (H s)) w → VRs N1 (A s) a1.tmps.toList → a1.defers = a.defers →
      Code.rounds P b Q m a1 w := by
    intro m
    induction m with
    | zero => intro s hs; omega
    | succ m ih =>
      intro s hs N1 w a1 hN1 hNB r ha hd
      rw [rounds_succ]
      obtain ⟨⟨ax, t⟩, h', n', lg', c, he, hc, hq⟩ := VT.all_pick (hstep s F hF)
      rw [run2_pick] at he
      refine (runCode_sound hF.env hm (hcon s F hF) (hl s F hF) fuel).1 _ _ _ _ _ _ _ _ _ _ _ _ _ _ _ _ _ _ he hc r ha (fun i h1 h2 => hNB.nothing (hH s) h1) fun N2 a2 w2 r2 t2 d2 x2 => ?_
      have hlim := run_limit _ he (by decide)
      have hN0 : ∀ i, 1100 ≤ i → N1 i = none := fun i hi => hNB.nothing (hH s) hi
      rcases hq with ⟨h1, hfit⟩ | ⟨h2, hfit⟩
      · simp only at h1
        subst h1
        obtain ⟨s', hμ, N3, q1, q2, q3, q4⟩ := hfit.state r2 x2 hlim hN0 t2
        show Code.rounds P b Q m a2 w2
        exact ih s' (by omega) N3 w2 a2 (fun i hi => (q1 i hi).trans (hN1 i hi)) q2 q3 q4 (d2.trans hd)
      · obtain ⟨N3, q1, q2, q3, q4⟩ := hfit.state r2 x2 hlim hN0 t2
        simp only at h2
        have hfin := hK a2 w2 ⟨N3, fun i hi => (q1 i hi).trans (hN1 i hi), q2, q3, q4⟩ (d2.trans hd)
        rw [← h2] at hfin hax
        cases ax with
        | normal => exact absurd rfl hax
        | exit id => exact hfin
        | ret => exact hfin
  exact key _ s (by omega) N w a (fun _ _ => rfl) hN r ha rfl
def FitsTE (m : Nat) (ks idx : List Nat) (ts : List AV) (os : List (Option AO)) (Q : World → HP → Names → List Value → World → Prop) : Prop :=
  ∃ told1 H1 l, namesLt 1100 H1 = true ∧ FitT ks idx ts os told1 H1 l ∧ ∀ W0 F N ys w, St W0 F N H1 (tms 0 m told1) ys w → Q W0 F N ys w
theorem FitsT.e {m : Nat} {ks idx : List Nat} {ts : List AV} {os : List (Option AO)} {told : List (Nat × AV)} {H : LH} (h : FitsT m ks idx ts os told H) : FitsTE m ks idx ts os fun W0 F N ys w => St W0 F N H (tms 0 m told) ys w := by
  obtain ⟨t1, H1, l, hb, hf, hg⟩ := h
  exact ⟨t1, H1, l, hb, hf, fun W0 F N ys w => hg W0 F N ys w⟩
theorem FitsT.one {m : Nat} {ks idx : List Nat} {ts : List AV} {os : List (Option AO)} {σ : Type} {A : σ → List (Nat × AV)} {H : σ → LH} {μ : σ → Nat} {k : Nat} (s' : σ) (hμ : μ s' < k) (h : FitsT m ks idx ts os (A s') (H s')) :
    FitsTE m ks idx ts os fun W0 F N ys w => ∃ s', μ s' < k ∧ St W0 F N (H s') (tms 0 m (A s')) ys w := by
  obtain ⟨t1, H1, l, hb, hf, hg⟩ := h
  exact ⟨t1, H1, l, hb, hf, fun W0 F N ys w hs => ⟨s', hμ, hg W0 F N ys w hs⟩⟩
theorem ltri_tmsE {P : Program} {σ : Type} {con : σ → ConT} {claim : σ → ClaimT} {lcon : σ → LconT} {W : World} {g : FuncId} {b : Code} (m : Nat) (A : σ → List (Nat × AV)) (H : σ → LH) (ax : AX) (Z : List (Nat × AV)) (HZ : LH) (μ : σ → Nat) (ks idx : List Nat) (fuel : Nat) (hm : P.follows .mixedOrders = true) (hax : ax ≠ .normal)
    (hH : ∀ s, namesLt 1100 (H s) = true)
    (hcon : ∀ s F, OldOK W F → ConOK P (envO P F (con s) (claim s) (lcon s) W)) (hl : ∀ s F, OldOK W F → LconOK P (envO P F (con s) (claim s) (lcon s) W))
    (hstep : ∀ s F, OldOK W F → VAll (fun r os _ => r.2.2 = m ∧
      ((r.1 = .normal ∧ FitsTE m ks idx r.2.1 os fun W0 F N ys w => ∃ s', μ s' < μ s ∧ St W0 F N (H s') (tms 0 m (A s')) ys w) ∨ (r.1 = ax ∧ FitsTE m ks idx r.2.1 os fun W0 F N ys w => St W0 F N HZ (tms 0 m Z) ys w))) ((((runCode P (envO P F (con s) (claim s) (lcon s) W) fuel g b (tms 0 m (A s))).run2 (heapOf (H s)) 1100 []).view ks).map (seenT idx))) (s : σ) :
    LTri P W b (tms 0 m (A s)) (H s) ax (tms 0 m Z) HZ :=
  ltri_fitsE (σ := σ) (con := con) (claim := claim) (lcon := lcon) (g := g) (fun s => tms 0 m (A s)) H ax (tms 0 m Z) HZ hax μ ks fuel hm hH hcon hl (fun s F hF => VT.all_mono (fun r os n h => by
    obtain ⟨h1, h2⟩ := h
    rcases h2 with ⟨e, t1, H1, l, hb, hf, hg⟩ | ⟨e, t1, H1, l, hb, hf, hg⟩
    · exact .inl ⟨e, _, _, l, hb, hf.fit h1, hg⟩
    · exact .inr ⟨e, _, _, l, hb, hf.fit h1, hg⟩) (VT.all_map (hstep s F hF).out)) s
end Go.Proofs.YtpijbbobejeemaaGreatDoor.Eng
