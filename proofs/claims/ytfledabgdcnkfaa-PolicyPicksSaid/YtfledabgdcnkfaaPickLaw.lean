/- The policy that counts does not hang on the list's order, where no two bear one name: plainly. -/
import Derived.Test.YtfledabgdcnkfaaPolPlain
import Derived.Sort.Walk0
set_option linter.unusedVariables false
set_option linter.unusedSimpArgs false
namespace Go.Proofs.Ytfledabgdcnkfaa
namespace Pol
theorem better_iff (p q : Pol) : better p q ↔ q.prio < p.prio ∨ p.prio = q.prio ∧ p.name.toList < q.name.toList := by
  unfold better
  rw [bytesLess_eq, decide_eq_true_iff]
theorem better_trans {p q r : Pol} (h : better p q) (h' : better q r) : better p r := by
  rw [better_iff] at *
  rcases h with h | ⟨h1, h2⟩ <;> rcases h' with h' | ⟨h3, h4⟩
  · left; omega
  · left; omega
  · left; omega
  · right; exact ⟨h1.trans h3, List.lt_trans h2 h4⟩
/-- What the fold keeps. -/
def Best (vhost name sort : ByteArray) (l : List Pol) (st : Bool × Pol) : Prop :=
  (st.1 = false → st.2 = Pol.zero ∧ ∀ p ∈ l, ¬ fits vhost name sort p) ∧ (st.1 = true → st.2 ∈ l ∧ fits vhost name sort st.2 ∧ ∀ p ∈ l, fits vhost name sort p → ¬ better p st.2)
theorem best_step {vhost name sort : ByteArray} {l : List Pol} {st : Bool × Pol} (h : Best vhost name sort l st) (p : Pol) : Best vhost name sort (l ++ [p]) (pickStep vhost name sort st p) := by
  obtain ⟨f, q⟩ := st
  by_cases hf : fits vhost name sort p
  · cases f with
    | false =>
      rw [step_new hf]
      refine ⟨fun h => (by cases h), fun _ => ⟨by simp, hf, fun x hx hfx hb => ?_⟩⟩
      rcases List.mem_append.1 hx with hx | hx
      · exact (h.1 rfl).2 x hx hfx
      · obtain rfl : x = p := by simpa using hx
        change better x x at hb
        rw [better_iff] at hb
        rcases hb with hb | ⟨_, hb⟩
        · omega
        · exact List.lt_irrefl _ hb
    | true =>
      obtain ⟨h1, h2, h3⟩ := h.2 rfl
      by_cases hb : better p q
      · rw [step_better hf hb]
        refine ⟨fun h => (by cases h), fun _ => ⟨by simp, hf, fun x hx hfx hbx => ?_⟩⟩
        rcases List.mem_append.1 hx with hx | hx
        · exact h3 x hx hfx (better_trans hbx hb)
        · obtain rfl : x = p := by simpa using hx
          change better x x at hbx
          rw [better_iff] at hbx
          rcases hbx with hbx | ⟨_, hbx⟩
          · omega
          · exact List.lt_irrefl _ hbx
      · rw [step_keep hb]
        refine ⟨fun h => (by cases h), fun _ => ⟨by simp [show q ∈ l from h1], h2, fun x hx hfx => ?_⟩⟩
        rcases List.mem_append.1 hx with hx | hx
        · exact h3 x hx hfx
        · obtain rfl : x = p := by simpa using hx
          exact hb
  · rw [step_no hf]
    refine ⟨fun h0 => ⟨(h.1 h0).1, fun x hx => ?_⟩, fun h0 => ?_⟩
    · rcases List.mem_append.1 hx with hx | hx
      · exact (h.1 h0).2 x hx
      · obtain rfl : x = p := by simpa using hx
        exact hf
    · obtain ⟨h1, h2, h3⟩ := h.2 h0
      refine ⟨by simp [h1], h2, fun x hx hfx => ?_⟩
      rcases List.mem_append.1 hx with hx | hx
      · exact h3 x hx hfx
      · obtain rfl : x = p := by simpa using hx
        exact absurd hfx hf
theorem best_pick (vhost name sort : ByteArray) (l : List Pol) : Best vhost name sort l (pick vhost name sort l) := by
  have go : ∀ (m k : List Pol) (st : Bool × Pol), Best vhost name sort k st → Best vhost name sort (k ++ m) (m.foldl (pickStep vhost name sort) st) := by
    intro m
    induction m with
    | nil => intro k st h; simpa using h
    | cons p m ih =>
      intro k st h
      have := ih (k ++ [p]) _ (best_step h p)
      simpa using this
  have := go l [] (false, Pol.zero) ⟨fun _ => ⟨rfl, fun p hp => (by cases hp)⟩, fun h => (by cases h)⟩
  rw [pick]
  simpa using this
/-- No two bear one name and one rank. -/
def Differ (l : List Pol) : Prop := ∀ i j (hi : i < l.length) (hj : j < l.length), j < i → ¬ (l[j].name.toList = l[i].name.toList ∧ l[j].prio = l[i].prio)
theorem Differ.eq {l : List Pol} (h : Differ l) {p q : Pol} (hp : p ∈ l) (hq : q ∈ l) (hn : p.name.toList = q.name.toList) (hr : p.prio = q.prio) : p = q := by
  obtain ⟨i, hi, rfl⟩ := List.getElem_of_mem hp
  obtain ⟨j, hj, rfl⟩ := List.getElem_of_mem hq
  rcases Nat.lt_trichotomy i j with hij | rfl | hij
  · exact absurd ⟨hn, hr⟩ (h j i hj hi hij)
  · rfl
  · exact absurd ⟨hn.symm, hr.symm⟩ (h i j hi hj hij)
theorem pick_reverse {vhost name sort : ByteArray} {l : List Pol} (h : Differ l) : pick vhost name sort l.reverse = pick vhost name sort l := by
  have a := best_pick vhost name sort l
  have b := best_pick vhost name sort l.reverse
  generalize pick vhost name sort l = x at a
  generalize pick vhost name sort l.reverse = y at b
  obtain ⟨f, p⟩ := x
  obtain ⟨g, q⟩ := y
  simp only [Best, List.mem_reverse] at a b
  cases f <;> cases g
  · obtain ⟨rfl, _⟩ := a.1 rfl
    obtain ⟨rfl, _⟩ := b.1 rfl
    rfl
  · exact absurd (b.2 rfl).2.1 ((a.1 rfl).2 _ (b.2 rfl).1)
  · exact absurd (a.2 rfl).2.1 ((b.1 rfl).2 _ (a.2 rfl).1)
  · obtain ⟨a1, a2, a3⟩ := a.2 rfl
    obtain ⟨b1, b2, b3⟩ := b.2 rfl
    have h1 := a3 _ b1 b2
    have h2 := b3 _ a1 a2
    rw [better_iff] at h1 h2
    have hr : p.prio = q.prio := by
      rcases Int.lt_trichotomy p.prio q.prio with hh | hh | hh
      · exact absurd (.inl hh) h1
      · exact hh
      · exact absurd (.inl hh) h2
    have hn : p.name.toList = q.name.toList := by
      refine List.le_antisymm ?_ ?_
      · intro hh; exact h1 (.inr ⟨hr.symm, hh⟩)
      · intro hh; exact h2 (.inr ⟨hr, hh⟩)
    rw [h.eq a1 b1 hn hr]
end Pol
end Go.Proofs.Ytfledabgdcnkfaa
