/- Many blocks of one kind as one object; one of them taken out, put back. No program. -/
import Derived.Test.YtbmoancedlbhlaaDoorEngCon
set_option linter.unusedVariables false
set_option linter.unusedSimpArgs false
namespace Go.Proofs.YtbmoancedlbhlaaDoor.Eng
open Go Go.RowKit
def memAt (w : World) (e : TypeId) (p : Nat × List Value) : Prop := ∃ arr, w.heap[p.1]? = some (.cells arr e (0, 0)) ∧ p.2.length ≤ arr.size ∧ arr.toList.take p.2.length = p.2
def famOn (e : TypeId) (l : List (Nat × List Value)) (D : Nat → Prop) (w : World) : Prop := (∀ x, D x ↔ ∃ p ∈ l, p.1 = x) ∧ (l.map (·.1)).Nodup ∧ ∀ p ∈ l, memAt w e p
theorem lt_lim {H : LH} (h : namesLt 1100 H = true) : namesLt T.limit H = true := namesLt_mono (by decide) h
theorem Goes.trans {vs vs' vs'' : List AV} {H H' H'' : LH} (h : Goes vs H vs' H') (h' : Goes vs' H' vs'' H'') : Goes vs H vs'' H'' := fun W0 F N ys w hs => h' _ _ _ _ _ (h _ _ _ _ _ hs)
def LW : LH → LH → Prop
  | [], [] => True
  | x :: H, y :: H' => x.1 = y.1 ∧ OW x.2 y.2 ∧ LW H H'
  | _, _ => False
theorem LW.get : ∀ {H H' : LH}, LW H H' → ∀ n, (getO H n = none ∧ getO H' n = none) ∨ ∃ o o', getO H n = some o ∧ getO H' n = some o' ∧ OW o o'
  | [], [], _, n => .inl ⟨rfl, rfl⟩
  | x :: H, y :: H', h, n => by
    obtain ⟨h1, h2, h3⟩ := h
    simp only [getO, ← h1]
    by_cases hx : n = x.1
    · exact .inr ⟨x.2, y.2, if_pos hx, if_pos hx, h2⟩
    · simp only [if_neg hx]
      exact LW.get h3 n
theorem goes_lw {vs vs' : List AV} {H H' : LH} (hl : namesLt 1100 H = true) (hl' : namesLt 1100 H' = true) (h : LW H H') (hv : VW vs vs') : Goes vs H vs' H' := by
  intro W0 F N ys w ⟨N1, g1, g2, r, hvs⟩
  obtain ⟨D0, D, h1, h2, h3⟩ := r.sat
  have hf : ∀ n, (heapOf H).find n = getO H n := find_heapOf (lt_lim hl)
  have hf' : ∀ n, (heapOf H').find n = getO H' n := find_heapOf (lt_lim hl')
  have back : ∀ n o', getO H' n = some o' → ∃ o, getO H n = some o ∧ OW o o' := fun n o' hn => by
    rcases h.get n with ⟨_, e⟩ | ⟨o, o2, e1, e2, hw⟩
    · rw [e] at hn; cases hn
    · rw [e2] at hn; cases hn; exact ⟨o, e1, hw⟩
  refine ⟨N1, g1, fun n hn hg => g2 n hn ?_, ⟨r.os, r.tape, r.output, D0, D, h1, fun n o' hn => ?_, fun n m o o' hn hm hnm => ?_⟩, hv _ _ hvs⟩
  · rcases h.get n with ⟨e, _⟩ | ⟨o, o2, _, e2, _⟩
    · exact e
    · rw [e2] at hg; cases hg
  · rw [hf'] at hn
    obtain ⟨o, hno, hw⟩ := back n o' hn
    have := h2 n o (by rw [hf]; exact hno)
    exact ⟨hw _ _ _ _ this.1, this.2⟩
  · rw [hf'] at hn hm
    obtain ⟨o1, k1, _⟩ := back n o hn
    obtain ⟨o2, k2, _⟩ := back m o' hm
    exact h3 n m o1 o2 (by rw [hf]; exact k1) (by rw [hf]; exact k2) hnm
end Go.Proofs.YtbmoancedlbhlaaDoor.Eng
