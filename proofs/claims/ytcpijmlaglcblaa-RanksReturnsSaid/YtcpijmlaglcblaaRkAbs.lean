/- A pile as the row of its items in their order: the plain law of container/heap. -/
import Derived.Test.YtcpijmlaglcblaaRkHeap2
set_option linter.unusedVariables false
set_option linter.unusedSimpArgs false
namespace Go.Proofs.Ytcpijmlaglcblaa.Rk
open Go Go.RowKit Go.Proofs.Ytcpijmlaglcblaa.Eng
/-! The order. -/
theorem ahead_iff (x y : It) : ahead x y = true ↔ y.a < x.a ∨ (x.a = y.a ∧ x.b < y.b) := by
  simp [ahead]
theorem ahead_irrefl (x : It) : ahead x x = false := by
  cases h : ahead x x with
  | false => rfl
  | true => rw [ahead_iff] at h; omega
theorem ahead_trans {x y z : It} (h1 : ahead x y = true) (h2 : ahead y z = true) : ahead x z = true := by
  rw [ahead_iff] at *; omega
/-- y isn't ahead of x. -/
def nb (x y : It) : Prop := ahead y x = false
theorem nb_iff (x y : It) : nb x y ↔ ¬ (x.a < y.a ∨ (y.a = x.a ∧ y.b < x.b)) := by
  rw [nb, ← Bool.not_eq_true, ahead_iff]
theorem nb_trans {x y z : It} (h1 : nb x y) (h2 : nb y z) : nb x z := by rw [nb_iff] at *; omega
theorem nb_of_ahead {x y : It} (h : ahead x y = true) : nb x y := by rw [nb_iff]; rw [ahead_iff] at h; omega
theorem ahead_of_nb {x y : It} (h : nb x y) (hs : x.b ≠ y.b) : ahead x y = true := by rw [nb_iff] at h; rw [ahead_iff]; omega
/-! Places that are exchanged. -/
def swapF (f : Nat → It) (i j k : Nat) : It := if k = j then f i else if k = i then f j else f k
theorem at_swap (s : Ps) (i j k : Nat) (hi : i < s.xs.length) (hj : j < s.xs.length) : at' (swapS s i j) k = swapF (at' s) i j k := by
  unfold swapF
  by_cases h1 : k = j
  · rw [if_pos h1, h1]; exact swap_at_j s i j hi hj
  · rw [if_neg h1]
    by_cases h2 : k = i
    · rw [if_pos h2, h2]; exact swap_at_i s i j hi hj
    · rw [if_neg h2]
      simp only [swapS, at', List.getD]
      rw [List.getElem?_set_ne (Ne.symm h1), List.getElem?_set_ne (Ne.symm h2)]
theorem at_get (s : Ps) (i : Nat) (hi : i < s.xs.length) : at' s i = s.xs[i] := by
  simp [at', List.getD, List.getElem?_eq_getElem hi]
theorem swap_perm (s : Ps) (i j : Nat) (hi : i < s.xs.length) (hj : j < s.xs.length) : (swapS s i j).xs.Perm s.xs := by
  simp only [swapS, at_get s i hi, at_get s j hj]
  exact List.set_set_perm hi hj
/-- A heap as far as n, but for what hangs on j. -/
def HeapTo (f : Nat → It) (n : Nat) : Prop := ∀ c, 0 < c → c < n → nb (f ((c - 1) / 2)) (f c)
def HeapUp (f : Nat → It) (n j : Nat) : Prop := (∀ c, 0 < c → c < n → c ≠ j → nb (f ((c - 1) / 2)) (f c)) ∧ ∀ c, 0 < c → c < n → (c - 1) / 2 = j → 0 < j → nb (f ((j - 1) / 2)) (f c)
def HeapDown (f : Nat → It) (n i : Nat) : Prop := (∀ c, 0 < c → c < n → (c - 1) / 2 ≠ i → nb (f ((c - 1) / 2)) (f c)) ∧ ∀ c, 0 < c → c < n → (c - 1) / 2 = i → 0 < i → nb (f ((i - 1) / 2)) (f c)
theorem heapUp_step {f : Nat → It} {n j : Nat} (h : HeapUp f n j) (hj0 : 0 < j) (hjn : j < n) (ha : ahead (f j) (f ((j - 1) / 2)) = true) : HeapUp (swapF f ((j - 1) / 2) j) n ((j - 1) / 2) := by
  have hpj : (j - 1) / 2 < j := by omega
  have hpn : (j - 1) / 2 ≠ j := by omega
  have e1 : swapF f ((j - 1) / 2) j j = f ((j - 1) / 2) := if_pos rfl
  have e2 : swapF f ((j - 1) / 2) j ((j - 1) / 2) = f j := by rw [swapF, if_neg hpn, if_pos rfl]
  have e3 : ∀ k, k ≠ j → k ≠ (j - 1) / 2 → swapF f ((j - 1) / 2) j k = f k := fun k h1 h2 => by rw [swapF, if_neg h1, if_neg h2]
  refine ⟨fun c hc hcn hne => ?_, fun c hc hcn hpc hp0 => ?_⟩
  · by_cases hcj : c = j
    · rw [hcj, e1, e2]; exact nb_of_ahead ha
    · rw [e3 c hcj hne]
      by_cases h1 : (c - 1) / 2 = j
      · rw [h1, e1]; exact h.2 c hc hcn h1 hj0
      · by_cases h2 : (c - 1) / 2 = (j - 1) / 2
        · rw [h2, e2]
          exact nb_trans (nb_of_ahead ha) (h2 ▸ h.1 c hc hcn hcj)
        · rw [e3 _ h1 h2]; exact h.1 c hc hcn hcj
  · have hq : ((j - 1) / 2 - 1) / 2 ≠ j := by omega
    have hq2 : ((j - 1) / 2 - 1) / 2 ≠ (j - 1) / 2 := by omega
    rw [e3 _ hq hq2]
    have hb := h.1 ((j - 1) / 2) hp0 (by omega) hpn
    by_cases hcj : c = j
    · rw [hcj, e1]; exact hb
    · rw [e3 c hcj (by omega)]
      exact nb_trans hb (hpc ▸ h.1 c hc hcn hcj)
theorem heapUp_done {f : Nat → It} {n j : Nat} (h : HeapUp f n j) (hd : j = 0 ∨ nb (f ((j - 1) / 2)) (f j)) : HeapTo f n := by
  intro c hc hcn
  by_cases e : c = j
  · rcases hd with h0 | h1
    · omega
    · rw [e]; exact h1
  · exact h.1 c hc hcn e
theorem up_heap : ∀ (j : Nat) (s : Ps), j < s.xs.length → HeapUp (at' s) s.xs.length j → HeapTo (at' (upS s j)) s.xs.length ∧ (upS s j).xs.Perm s.xs := by
  intro j
  induction j using Nat.strongRecOn with
  | ind j ih =>
    intro s hj h
    rw [upS]
    split
    · rename_i h0; exact ⟨heapUp_done h (.inl h0), List.Perm.refl _⟩
    · split
      · rename_i h0 ha
        have hp : (j - 1) / 2 < s.xs.length := by omega
        have hf : at' (swapS s ((j - 1) / 2) j) = swapF (at' s) ((j - 1) / 2) j := funext fun k => at_swap s _ _ k hp hj
        have h2 := heapUp_step h (by omega) hj ha
        have := ih ((j - 1) / 2) (by omega) (swapS s ((j - 1) / 2) j) (by rw [swap_len]; exact hp) (by rw [hf, swap_len]; exact h2)
        rw [swap_len] at this
        exact ⟨this.1, this.2.trans (swap_perm s _ _ hp hj)⟩
      · rename_i h0 ha
        exact ⟨heapUp_done h (.inr (by rw [nb]; simpa using ha)), List.Perm.refl _⟩
theorem heapDown_step {f : Nat → It} {n i j : Nat} (h : HeapDown f n i) (hji : (j - 1) / 2 = i) (hj0 : 0 < j) (hjn : j < n) (ha : ahead (f j) (f i) = true) (hs : ∀ c, 0 < c → c < n → (c - 1) / 2 = i → nb (f j) (f c)) : HeapDown (swapF f i j) n j := by
  have hij : i ≠ j := by omega
  have e1 : swapF f i j j = f i := if_pos rfl
  have e2 : swapF f i j i = f j := by rw [swapF, if_neg hij, if_pos rfl]
  have e3 : ∀ k, k ≠ j → k ≠ i → swapF f i j k = f k := fun k h1 h2 => by rw [swapF, if_neg h1, if_neg h2]
  refine ⟨fun c hc hcn hne => ?_, fun c hc hcn hpc _ => ?_⟩
  · by_cases h1 : (c - 1) / 2 = i
    · rw [h1, e2]
      by_cases hcj : c = j
      · rw [hcj, e1]; exact nb_of_ahead ha
      · rw [e3 c hcj (by omega)]; exact hs c hc hcn h1
    · rw [e3 _ hne h1]
      by_cases hci : c = i
      · rw [hci, e2]
        have hi0 : 0 < i := by omega
        have := h.2 j hj0 hjn hji hi0
        exact this
      · rw [e3 c (fun e => h1 (e ▸ hji)) hci]; exact h.1 c hc hcn h1
  · have hcj : c ≠ j := by omega
    have hci : c ≠ i := by omega
    rw [hji, e2, e3 c hcj hci]
    have := h.1 c hc hcn (by omega)
    rwa [hpc] at this
theorem heapDown_done {f : Nat → It} {n i : Nat} (h : HeapDown f n i) (hd : ∀ c, 0 < c → c < n → (c - 1) / 2 = i → nb (f i) (f c)) : HeapTo f n := by
  intro c hc hcn
  by_cases e : (c - 1) / 2 = i
  · rw [e]; exact hd c hc hcn e
  · exact h.1 c hc hcn e
theorem down_heap (n : Nat) : ∀ (d : Nat) (s : Ps) (i : Nat), n - i ≤ d → n ≤ s.xs.length → HeapDown (at' s) n i → HeapTo (at' (downS s i n).1) n ∧ (downS s i n).1.xs.Perm s.xs ∧ ∀ k, n ≤ k → at' (downS s i n).1 k = at' s k := by
  intro d
  induction d with
  | zero =>
    intro s i hd hn h
    rw [downS, dif_pos (by omega)]
    exact ⟨heapDown_done h (fun c hc hcn e => by omega), List.Perm.refl _, fun _ _ => rfl⟩
  | succ d ih =>
    intro s i hd hn h
    rw [downS]
    split
    · exact ⟨heapDown_done h (fun c hc hcn e => by omega), List.Perm.refl _, fun _ _ => rfl⟩
    · rename_i hlt
      have hjn := downJ_lt s i n hlt
      have hji : (downJ s i n - 1) / 2 = i := by unfold downJ; split <;> omega
      have hj0 : 0 < downJ s i n := by unfold downJ; split <;> omega
      have hmin : ∀ c, 0 < c → c < n → (c - 1) / 2 = i → nb (at' s (downJ s i n)) (at' s c) := by
        intro c hc hcn e
        have hcase : c = 2 * i + 1 ∨ c = 2 * i + 2 := by omega
        unfold downJ
        split
        · rename_i hh
          rcases hcase with rfl | rfl
          · exact nb_of_ahead hh.2
          · exact ahead_irrefl _
        · rename_i hh
          rcases hcase with rfl | rfl
          · exact ahead_irrefl _
          · cases hb : ahead (at' s (2 * i + 2)) (at' s (2 * i + 1)) with
            | false => exact hb
            | true => exact absurd ⟨hcn, hb⟩ hh
      split
      · rename_i ha
        have hj2 : downJ s i n < s.xs.length := by omega
        have hi2 : i < s.xs.length := by omega
        have hf : at' (swapS s i (downJ s i n)) = swapF (at' s) i (downJ s i n) := funext fun k => at_swap s _ _ k hi2 hj2
        have := ih (swapS s i (downJ s i n)) (downJ s i n) (by have := downJ_gt s i n; omega) (by rw [swap_len]; exact hn) (by rw [hf]; exact heapDown_step h hji hj0 hjn ha hmin)
        refine ⟨this.1, this.2.1.trans (swap_perm s _ _ hi2 hj2), fun k hk => ?_⟩
        rw [this.2.2 k hk, hf, swapF, if_neg (by omega), if_neg (by omega)]
      · rename_i ha
        refine ⟨heapDown_done h fun c hc hcn e => ?_, List.Perm.refl _, fun _ _ => rfl⟩
        have ha' : nb (at' s i) (at' s (downJ s i n)) := by simpa [nb] using ha
        exact nb_trans ha' (hmin c hc hcn e)
/-- The root stands ahead. -/
theorem heap_root {f : Nat → It} {n : Nat} (h : HeapTo f n) : ∀ c, c < n → nb (f 0) (f c) := by
  intro c
  induction c using Nat.strongRecOn with
  | ind c ih =>
    intro hc
    by_cases h0 : c = 0
    · rw [h0]; exact ahead_irrefl _
    · exact nb_trans (ih ((c - 1) / 2) (by omega) (by omega)) (h c (by omega) hc)
/-! The places by seq. -/
def MapOK (s : Ps) : Prop := ∀ k v, mlook k s.m = some v ↔ ∃ i, i < s.xs.length ∧ (at' s i).b = k ∧ v = (i : Int)
theorem MapOK.inj {s : Ps} (h : MapOK s) {i j : Nat} (hi : i < s.xs.length) (hj : j < s.xs.length) (e : (at' s i).b = (at' s j).b) : i = j := by
  have h1 := (h (at' s i).b i).2 ⟨i, hi, rfl, rfl⟩
  have h2 := (h (at' s i).b j).2 ⟨j, hj, e.symm, rfl⟩
  rw [h1] at h2
  have : (i : Int) = j := Option.some.inj h2
  omega
theorem MapOK.swap {s : Ps} (h : MapOK s) {i j : Nat} (hi : i < s.xs.length) (hj : j < s.xs.length) : MapOK (swapS s i j) := by
  intro k v
  have hm : mlook k (swapS s i j).m = if k = (at' s i).b then some (j : Int) else if k = (at' s j).b then some (i : Int) else mlook k s.m := by
    show mlook k (swapM s i j) = _
    rw [swapM, mlook_mset, mlook_mset]
  rw [hm]
  by_cases h1 : k = (at' s i).b
  · rw [if_pos h1]
    constructor
    · intro e
      refine ⟨j, by rw [swap_len]; exact hj, ?_, (Option.some.inj e).symm⟩
      rw [at_swap s i j j hi hj, swapF, if_pos rfl, h1]
    · rintro ⟨c, hc, hcb, rfl⟩
      rw [swap_len] at hc
      rw [at_swap s i j c hi hj, swapF] at hcb
      split at hcb
      · rename_i e; rw [e]
      · split at hcb
        · rename_i e1 e2
          have := h.inj hj hi (hcb.trans h1)
          omega
        · rename_i e1 e2
          have := h.inj hc hi (hcb.trans h1)
          exact absurd this e2
  · rw [if_neg h1]
    by_cases h2 : k = (at' s j).b
    · rw [if_pos h2]
      constructor
      · intro e
        refine ⟨i, by rw [swap_len]; exact hi, ?_, (Option.some.inj e).symm⟩
        rw [at_swap s i j i hi hj, swapF]
        split
        · rename_i e1; rw [h2, e1]
        · rw [if_pos rfl, h2]
      · rintro ⟨c, hc, hcb, rfl⟩
        rw [swap_len] at hc
        rw [at_swap s i j c hi hj, swapF] at hcb
        split at hcb
        · exact absurd hcb.symm h1
        · split at hcb
          · rename_i e1 e2; rw [e2]
          · rename_i e1 e2
            exact absurd (h.inj hc hj (hcb.trans h2)) e1
    · rw [if_neg h2, h k v]
      constructor
      · rintro ⟨c, hc, hcb, hv⟩
        refine ⟨c, by rw [swap_len]; exact hc, ?_, hv⟩
        rw [at_swap s i j c hi hj, swapF, if_neg (fun e => h2 (by rw [← e, hcb])), if_neg (fun e => h1 (by rw [← e, hcb]))]
        exact hcb
      · rintro ⟨c, hc, hcb, hv⟩
        rw [swap_len] at hc
        rw [at_swap s i j c hi hj, swapF] at hcb
        split at hcb
        · exact absurd hcb.symm h1
        · split at hcb
          · exact absurd hcb.symm h2
          · exact ⟨c, hc, hcb, hv⟩
theorem up_map : ∀ (j : Nat) (s : Ps), j < s.xs.length → MapOK s → MapOK (upS s j) := by
  intro j
  induction j using Nat.strongRecOn with
  | ind j ih =>
    intro s hj h
    rw [upS]
    split
    · exact h
    · split
      · have hp : (j - 1) / 2 < s.xs.length := by omega
        exact ih ((j - 1) / 2) (by omega) _ (by rw [swap_len]; exact hp) (h.swap hp hj)
      · exact h
theorem down_map (n : Nat) : ∀ (d : Nat) (s : Ps) (i : Nat), n - i ≤ d → n ≤ s.xs.length → MapOK s → MapOK (downS s i n).1 := by
  intro d
  induction d with
  | zero =>
    intro s i hd hn h
    rw [downS, dif_pos (by omega)]
    exact h
  | succ d ih =>
    intro s i hd hn h
    rw [downS]
    split
    · exact h
    · rename_i hlt
      have hjn := downJ_lt s i n hlt
      have hg := downJ_gt s i n
      split
      · exact ih _ _ (by omega) (by rw [swap_len]; exact hn) (h.swap (by omega) (by omega))
      · exact h
end Go.Proofs.Ytcpijmlaglcblaa.Rk
