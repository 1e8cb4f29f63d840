/- Merged. -/
import Derived.Test.YtcpijmlaglcblaaRkAbs2
import Derived.Test.YtcpijmlaglcblaaRkBase
import Derived.Shelf.SlSortCmp.InsertionK
import Derived.WalkKit
import Derived.Deep.Fields
import Derived.Shelf.SlSortCmp.HeapSortK
import Derived.Shelf.SlLaysF0
import Derived.Ground.SlsfProg
import Derived.Test.YtcpijmlaglcblaaProg
import Derived.Test.YtcpijmlaglcblaaPieces
import Derived.Shelf.SlSortCmp.WholeK
import Derived.Shelf.SlSortCmp.NoneTotal
import Derived.Test.YtcpijmlaglcblaaRkLaw2
import Derived.Test.YtcpijmlaglcblaaRkLaw3
/- heap.Remove: a run, and the plain law of it. -/
set_option linter.unusedVariables false
set_option linter.unusedSimpArgs false
set_option maxRecDepth 100000
namespace Go.Proofs.Ytcpijmlaglcblaa.Rk
open Go Go.RowKit Go.Proofs.Ytcpijmlaglcblaa.Eng
/-- The pile with the i-th item at its end. -/
def remD (s : Ps) (i : Nat) : Ps := if s.xs.length - 1 = i then s else if i < (downS (swapS s i (s.xs.length - 1)) i (s.xs.length - 1)).2 then (downS (swapS s i (s.xs.length - 1)) i (s.xs.length - 1)).1 else upS (downS (swapS s i (s.xs.length - 1)) i (s.xs.length - 1)).1 i
def remV (s : Ps) (i : Nat) : It := at' (remD s i) ((remD s i).xs.length - 1)
def remS (s : Ps) (i : Nat) : Ps := popS (remD s i)
theorem hrem_tri (s : Ps) (i : Nat) (hP : PI s) (hi : i < s.xs.length) : Tri Try.prog default fHRem [hI, iv (Int.ofNat i)] [(0, pO s)] (itF (remV s i)) [(0, pO (remS s i))] := by
  refine tri_run (con := conH) (hints := hintL [(fHRem, 1, 2, hv (iv (Int.ofNat (s.xs.length - 1))))]) (lc := []) [0] rfl conH_ok noL fun F => ?_
  rw [oHRem_eq]
  have hb := hP.big
  have hw : IntKind.i64.wrap (Int.ofNat s.xs.length - Int.ofNat 1) = Int.ofNat (s.xs.length - 1) := by
    rw [IntWalk.i64_in _ (by simp only [Int.ofNat_eq_natCast]; omega)]; simp only [Int.ofNat_eq_natCast]; omega
  have hne : (Int.ofNat (s.xs.length - 1) != Int.ofNat i) = !decide (s.xs.length - 1 = i) := by
    by_cases h : s.xs.length - 1 = i
    · rw [h]; simp
    · simp only [h, decide_false, Bool.not_false]; apply bne_iff_ne.2; simp only [Int.ofNat_eq_natCast]; omega
  rw [hne]
  have hsl := swap_len s i (s.xs.length - 1)
  obtain ⟨hd1, hd2⟩ := downS_keeps (s.xs.length - 1) _ (swapS s i (s.xs.length - 1)) i (Nat.le_refl _) (hP.swap i (s.xs.length - 1))
  obtain ⟨hu1, hu2⟩ := upS_keeps (downS (swapS s i (s.xs.length - 1)) i (s.xs.length - 1)).1 i hd1
  refine ⟨fun h1 => ⟨fun h2 => ⟨?_, ?_⟩, fun h2 => ⟨?_, ?_⟩⟩, fun h1 => ⟨?_, ?_⟩⟩
  · simp only [Cnd.holds]
    and_intros
    all_goals first
      | exact trivial
      | exact VW.refl _
      | exact OW.refl _
      | exact wk_int hw
      | exact hP.m
      | exact hP.swap _ _
      | exact hd1
      | rfl
      | exact hi
      | exact Int.natCast_nonneg _
      | (show s.xs.length - 1 < _; omega)
      | (show s.xs.length - 1 ≤ (swapS s i (s.xs.length - 1)).xs.length; omega)
      | (show i ≤ (swapS s i (s.xs.length - 1)).xs.length; omega)
      | (show i < (downS (swapS s i (s.xs.length - 1)) i (s.xs.length - 1)).1.xs.length; omega)
      | (show 0 < (upS (downS (swapS s i (s.xs.length - 1)) i (s.xs.length - 1)).1 i).xs.length; omega)
      | (show (upS (downS (swapS s i (s.xs.length - 1)) i (s.xs.length - 1)).1 i).xs.length ≤ _; omega)
  · have e1 : ¬ s.xs.length - 1 = i := by simpa using h1
    have h2' : (!decide (i < (downS (swapS s i (s.xs.length - 1)) i (s.xs.length - 1)).2)) = true := h2
    have e2 : ¬ i < (downS (swapS s i (s.xs.length - 1)) i (s.xs.length - 1)).2 := by simpa using h2'
    have e : remD s i = upS (downS (swapS s i (s.xs.length - 1)) i (s.xs.length - 1)).1 i := by rw [remD, if_neg e1, if_neg e2]
    rw [remV, remS, e]
    exact fits_one (VW.refl _) ⟨_, rfl, OW.refl _⟩
  · simp only [Cnd.holds]
    and_intros
    all_goals first
      | exact trivial
      | exact VW.refl _
      | exact OW.refl _
      | exact wk_int hw
      | exact hP.m
      | exact hP.swap _ _
      | rfl
      | exact hi
      | exact Int.natCast_nonneg _
      | (show s.xs.length - 1 < _; omega)
      | (show s.xs.length - 1 ≤ (swapS s i (s.xs.length - 1)).xs.length; omega)
      | (show i ≤ (swapS s i (s.xs.length - 1)).xs.length; omega)
      | (show 0 < (downS (swapS s i (s.xs.length - 1)) i (s.xs.length - 1)).1.xs.length; omega)
      | (show (downS (swapS s i (s.xs.length - 1)) i (s.xs.length - 1)).1.xs.length ≤ _; omega)
  · have e1 : ¬ s.xs.length - 1 = i := by simpa using h1
    have h2' : (!decide (i < (downS (swapS s i (s.xs.length - 1)) i (s.xs.length - 1)).2)) = false := h2
    have e2 : i < (downS (swapS s i (s.xs.length - 1)) i (s.xs.length - 1)).2 := by simpa using h2'
    have e : remD s i = (downS (swapS s i (s.xs.length - 1)) i (s.xs.length - 1)).1 := by rw [remD, if_neg e1, if_pos e2]
    rw [remV, remS, e]
    exact fits_one (VW.refl _) ⟨_, rfl, OW.refl _⟩
  · simp only [Cnd.holds]
    and_intros
    all_goals first
      | exact trivial
      | exact VW.refl _
      | exact OW.refl _
      | exact wk_int hw
      | omega
  · have e1 : s.xs.length - 1 = i := by simpa using h1
    have e : remD s i = s := by rw [remD, if_pos e1]
    rw [remV, remS, e]
    exact fits_one (VW.refl _) ⟨_, rfl, OW.refl _⟩
/-! The plain law. -/
theorem up_heapN (n : Nat) : ∀ (j : Nat) (s : Ps), j < n → n ≤ s.xs.length → HeapUp (at' s) n j → HeapTo (at' (upS s j)) n ∧ (upS s j).xs.Perm s.xs ∧ ∀ k, n ≤ k → at' (upS s j) k = at' s k := by
  intro j
  induction j using Nat.strongRecOn with
  | ind j ih =>
    intro s hj hn h
    rw [upS]
    split
    · rename_i h0; exact ⟨heapUp_done h (.inl h0), List.Perm.refl _, fun _ _ => rfl⟩
    · split
      · rename_i h0 ha
        have hp : (j - 1) / 2 < s.xs.length := by omega
        have hf : at' (swapS s ((j - 1) / 2) j) = swapF (at' s) ((j - 1) / 2) j := funext fun k => at_swap s _ _ k hp (by omega)
        have h2 := heapUp_step h (by omega) hj ha
        have := ih ((j - 1) / 2) (by omega) (swapS s ((j - 1) / 2) j) (by omega) (by rw [swap_len]; exact hn) (by rw [hf]; exact h2)
        refine ⟨this.1, this.2.1.trans (swap_perm s _ _ hp (by omega)), fun k hk => ?_⟩
        rw [this.2.2 k hk, hf, swapF, if_neg (by omega), if_neg (by omega)]
      · rename_i h0 ha
        exact ⟨heapUp_done h (.inr (by rw [nb]; simpa using ha)), List.Perm.refl _, fun _ _ => rfl⟩
/-- A heap but for what hangs on i, above and below. -/
def HeapHole (f : Nat → It) (n i : Nat) : Prop := (∀ c, 0 < c → c < n → c ≠ i → (c - 1) / 2 ≠ i → nb (f ((c - 1) / 2)) (f c)) ∧ ∀ c, 0 < c → c < n → (c - 1) / 2 = i → 0 < i → nb (f ((i - 1) / 2)) (f c)
theorem hole_step {f : Nat → It} {n i j : Nat} (h : HeapHole f n i) (hji : (j - 1) / 2 = i) (hj0 : 0 < j) (hjn : j < n) (ha : ahead (f j) (f i) = true) (hs : ∀ c, 0 < c → c < n → (c - 1) / 2 = i → nb (f j) (f c)) (hcj : ∀ c, 0 < c → c < n → (c - 1) / 2 = j → nb (f j) (f c)) : HeapDown (swapF f i j) n j := by
  have hij : i ≠ j := by omega
  have e1 : swapF f i j j = f i := if_pos rfl
  have e2 : swapF f i j i = f j := by rw [swapF, if_neg hij, if_pos rfl]
  have e3 : ∀ k, k ≠ j → k ≠ i → swapF f i j k = f k := fun k h1 h2 => by rw [swapF, if_neg h1, if_neg h2]
  refine ⟨fun c hc hcn hne => ?_, fun c hc hcn hpc _ => ?_⟩
  · by_cases h1 : (c - 1) / 2 = i
    · rw [h1, e2]
      by_cases hcj' : c = j
      · rw [hcj', e1]; exact nb_of_ahead ha
      · rw [e3 c hcj' (by omega)]; exact hs c hc hcn h1
    · rw [e3 _ hne h1]
      by_cases hci : c = i
      · rw [hci, e2]
        exact h.2 j hj0 hjn hji (by omega)
      · rw [e3 c (fun e => h1 (e ▸ hji)) hci]; exact h.1 c hc hcn hci h1
  · rw [hji, e2, e3 c (by omega) (by omega)]
    exact hcj c hc hcn hpc
theorem hole_down (n : Nat) (s : Ps) (i : Nat) (hn : n ≤ s.xs.length) (hin : i < n) (h : HeapHole (at' s) n i) :
    (i < (downS s i n).2 → HeapTo (at' (downS s i n).1) n) ∧ (¬ i < (downS s i n).2 → (downS s i n).1 = s ∧ HeapUp (at' s) n i) ∧ (downS s i n).1.xs.Perm s.xs ∧ ∀ k, n ≤ k → at' (downS s i n).1 k = at' s k := by
  have snd_ge : ∀ (d : Nat) (s : Ps) (i : Nat), n - i ≤ d → i ≤ (downS s i n).2 := by
    intro d
    induction d with
    | zero => intro s i hd; rw [downS, dif_pos (by omega)]; exact Nat.le_refl _
    | succ d ih =>
      intro s i hd
      rw [downS]
      split
      · exact Nat.le_refl _
      · have hg := downJ_gt s i n
        split
        · exact Nat.le_trans (Nat.le_of_lt hg) (ih _ _ (by omega))
        · exact Nat.le_refl _
  by_cases hlt : n ≤ 2 * i + 1
  · have e : downS s i n = (s, i) := by rw [downS, dif_pos hlt]
    rw [e]
    refine ⟨fun hh => absurd hh (Nat.lt_irrefl _), fun _ => ⟨rfl, fun c hc hcn hne => h.1 c hc hcn hne (by omega), h.2⟩, List.Perm.refl _, fun _ _ => rfl⟩
  · have hjn := downJ_lt s i n hlt
    have hji : (downJ s i n - 1) / 2 = i := by unfold downJ; split <;> omega
    have hj0 : 0 < downJ s i n := by unfold downJ; split <;> omega
    have hg := downJ_gt s i n
    have hmin : ∀ c, 0 < c → c < n → (c - 1) / 2 = i → nb (at' s (downJ s i n)) (at' s c) := by
      intro c hc hcn e
      have hcase : c = 2 * i + 1 ∨ c = 2 * i + 2 := by omega
      unfold downJ
      split
      · rename_i hh
        rcases hcase with rfl | rfl
        · exact nb_of_ahead hh.2
        · exact ahead_irrefl _
      · rename_i hh
        rcases hcase with rfl | rfl
        · exact ahead_irrefl _
        · cases hb : ahead (at' s (2 * i + 2)) (at' s (2 * i + 1)) with
          | false => exact hb
          | true => exact absurd ⟨hcn, hb⟩ hh
    by_cases ha : ahead (at' s (downJ s i n)) (at' s i) = true
    · have e : downS s i n = downS (swapS s i (downJ s i n)) (downJ s i n) n := by conv => lhs; rw [downS, dif_neg hlt, if_pos ha]
      rw [e]
      have hi2 : i < s.xs.length := by omega
      have hj2 : downJ s i n < s.xs.length := by omega
      have hf : at' (swapS s i (downJ s i n)) = swapF (at' s) i (downJ s i n) := funext fun k => at_swap s _ _ k hi2 hj2
      have hd := down_heap n _ (swapS s i (downJ s i n)) (downJ s i n) (Nat.le_refl _) (by rw [swap_len]; exact hn) (by
        rw [hf]
        refine hole_step h hji hj0 hjn ha hmin fun c hc hcn hp => ?_
        have := h.1 c hc hcn (by omega) (by omega)
        rwa [hp] at this)
      have hge := snd_ge _ (swapS s i (downJ s i n)) (downJ s i n) (Nat.le_refl _)
      refine ⟨fun _ => hd.1, fun hh => absurd (Nat.lt_of_lt_of_le hg hge) hh, hd.2.1.trans (swap_perm s _ _ hi2 hj2), fun k hk => ?_⟩
      rw [hd.2.2 k hk, hf, swapF, if_neg (by omega), if_neg (by omega)]
    · have e : downS s i n = (s, i) := by rw [downS, dif_neg hlt, if_neg ha]
      rw [e]
      have ha' : nb (at' s i) (at' s (downJ s i n)) := by simpa [nb] using ha
      refine ⟨fun hh => absurd hh (Nat.lt_irrefl _), fun _ => ⟨rfl, fun c hc hcn hne => ?_, h.2⟩, List.Perm.refl _, fun _ _ => rfl⟩
      by_cases hp : (c - 1) / 2 = i
      · rw [hp]; exact nb_trans ha' (hmin c hc hcn hp)
      · exact h.1 c hc hcn hne hp
/-- What popS does, where the last item is known. -/
theorem pop_abs {s : Ps} {n : Nat} {x : It} {L : List It} (hP : PI s) (hm : MapOK s) (hn : s.xs.length = n + 1) (hh : HeapTo (at' s) n) (hx : at' s n = x) (hperm : (x :: L).Perm s.xs) (hs : Sortd L) : AbsS (popS s) L := by
  have hpl : (popS s).xs.length = n := by
    show s.xs.dropLast.length = _
    rw [List.length_dropLast, hn]; rfl
  have hlast : s.xs.length - 1 = n := by omega
  have hat : ∀ k, k < n → at' (popS s) k = at' s k := fun k hk => dropLast_at _ _ (by omega)
  refine ⟨⟨hP.m.mdel _, by have := hP.big; rw [hpl]; omega⟩, ?_, ?_, ?_, hs⟩
  · intro k v
    show mlook k (mdel s.m (at' s (s.xs.length - 1)).b) = some v ↔ _
    rw [mlook_mdel hP.m, hpl, hlast]
    by_cases hk : k = (at' s n).b
    · rw [if_pos hk]
      constructor
      · intro e; cases e
      · rintro ⟨i, hi, hb, _⟩
        rw [hat i hi] at hb
        have := hm.inj (i := i) (j := n) (by omega) (by omega) (hb.trans hk)
        omega
    · rw [if_neg hk, hm k v, hn]
      constructor
      · rintro ⟨i, hi, hb, hv⟩
        have hne : i ≠ n := fun e => hk (by rw [← hb, e])
        exact ⟨i, by omega, by rw [hat i (by omega)]; exact hb, hv⟩
      · rintro ⟨i, hi, hb, hv⟩
        exact ⟨i, by omega, by rw [← hat i hi]; exact hb, hv⟩
  · rw [hpl]
    intro c hc hcn
    rw [hat c hcn, hat _ (by omega)]
    exact hh c hc hcn
  · have hne : s.xs ≠ [] := fun e => by rw [e] at hn; cases hn
    have hl : s.xs.getLast hne = x := by
      rw [List.getLast_eq_getElem, ← hx, at_get _ _ (by omega)]
      congr 1
    have hsplit : s.xs = s.xs.dropLast ++ [x] := by rw [← hl]; exact (List.dropLast_concat_getLast hne).symm
    rw [hsplit] at hperm
    have := hperm.trans (List.perm_append_comm (l₁ := s.xs.dropLast) (l₂ := [x]))
    exact (List.perm_cons x).1 this
theorem AbsS.rem {s : Ps} {L L' : List It} {i : Nat} (h : AbsS s L) (hi : i < s.xs.length) (hL : L.Perm (at' s i :: L')) (hs : Sortd L') : remV s i = at' s i ∧ AbsS (remS s i) L' := by
  have hn : s.xs.length = (s.xs.length - 1) + 1 := by omega
  by_cases h1 : s.xs.length - 1 = i
  · have e : remD s i = s := by rw [remD, if_pos h1]
    refine ⟨by rw [remV, e, h1], ?_⟩
    rw [remS, e]
    exact pop_abs h.pi h.map hn (fun c hc hcn => h.heap c hc (by omega)) (by rw [h1]) (hL.symm.trans h.perm) hs
  · have hlast : s.xs.length - 1 < s.xs.length := by omega
    have hsl := swap_len s i (s.xs.length - 1)
    have hf : at' (swapS s i (s.xs.length - 1)) = swapF (at' s) i (s.xs.length - 1) := funext fun k => at_swap s _ _ k hi hlast
    have hhole : HeapHole (at' (swapS s i (s.xs.length - 1))) (s.xs.length - 1) i := by
      rw [hf]
      refine ⟨fun c hc hcn hci hpi => ?_, fun c hc hcn hp h0 => ?_⟩
      · rw [swapF, if_neg (by omega), if_neg hpi, swapF, if_neg (by omega), if_neg hci]
        exact h.heap c hc (by omega)
      · rw [swapF, if_neg (by omega), if_neg (by omega), swapF, if_neg (by omega), if_neg (by omega)]
        have a1 := h.heap i h0 hi
        have a2 := h.heap c hc (by omega)
        rw [hp] at a2
        exact nb_trans a1 a2
    obtain ⟨q1, q2, q3, q4⟩ := hole_down (s.xs.length - 1) (swapS s i (s.xs.length - 1)) i (by omega) (by omega) hhole
    have hend : at' (swapS s i (s.xs.length - 1)) (s.xs.length - 1) = at' s i := by rw [hf, swapF, if_pos rfl]
    obtain ⟨k1, k2⟩ := downS_keeps (s.xs.length - 1) _ (swapS s i (s.xs.length - 1)) i (Nat.le_refl _) (h.pi.swap i (s.xs.length - 1))
    have hdm := down_map (s.xs.length - 1) _ (swapS s i (s.xs.length - 1)) i (Nat.le_refl _) (by omega) (h.map.swap hi hlast)
    have hpd : (downS (swapS s i (s.xs.length - 1)) i (s.xs.length - 1)).1.xs.Perm s.xs := q3.trans (swap_perm s _ _ hi hlast)
    by_cases h2 : i < (downS (swapS s i (s.xs.length - 1)) i (s.xs.length - 1)).2
    · have e : remD s i = (downS (swapS s i (s.xs.length - 1)) i (s.xs.length - 1)).1 := by rw [remD, if_neg h1, if_pos h2]
      have hl : (remD s i).xs.length = s.xs.length := by rw [e, k2, hsl]
      have hv : at' (remD s i) (s.xs.length - 1) = at' s i := by rw [e, q4 _ (Nat.le_refl _), hend]
      refine ⟨by rw [remV, hl]; exact hv, ?_⟩
      rw [remS]
      refine pop_abs (n := s.xs.length - 1) (by rw [e]; exact k1) (by rw [e]; exact hdm) (by rw [hl]; exact hn) (by rw [e]; exact q1 h2) hv ?_ hs
      rw [e]; exact (hL.symm.trans h.perm).trans hpd.symm
    · obtain ⟨e0, hup⟩ := q2 h2
      have e : remD s i = upS (downS (swapS s i (s.xs.length - 1)) i (s.xs.length - 1)).1 i := by rw [remD, if_neg h1, if_neg h2]
      rw [e0] at k1 k2 hdm hpd
      obtain ⟨u1, u2, u3⟩ := up_heapN (s.xs.length - 1) i (swapS s i (s.xs.length - 1)) (by omega) (by omega) hup
      obtain ⟨v1, v2⟩ := upS_keeps (swapS s i (s.xs.length - 1)) i k1
      have hl : (remD s i).xs.length = s.xs.length := by rw [e, e0, v2, hsl]
      have hv : at' (remD s i) (s.xs.length - 1) = at' s i := by rw [e, e0, u3 _ (Nat.le_refl _), hend]
      refine ⟨by rw [remV, hl]; exact hv, ?_⟩
      rw [remS]
      refine pop_abs (n := s.xs.length - 1) (by rw [e, e0]; exact v1) (by rw [e, e0]; exact up_map _ _ (by omega) hdm) (by rw [hl]; exact hn) (by rw [e, e0]; exact u1) hv ?_ hs
      rw [e, e0]; exact (hL.symm.trans h.perm).trans (u2.trans hpd).symm
end Go.Proofs.Ytcpijmlaglcblaa.Rk

/- A Line's Take and Peek: runs. -/
set_option linter.unusedVariables false
set_option linter.unusedSimpArgs false
set_option maxRecDepth 100000
namespace Go.Proofs.Ytcpijmlaglcblaa.Rk
open Go Go.RowKit Go.Proofs.Ytcpijmlaglcblaa.Eng
noncomputable section
/-- heap.Remove where the pile lies open. -/
def cHRemO (s : Ps) : List AV → Option (AP AV) := fun args => match args with
  | [.iface t (.ptr i 0), .v (.int .i64 j)] => some (.need (t = 53 ∧ PI s ∧ 0 ≤ j ∧ j.toNat < s.xs.length) (.read i fun o => match o with
    | .cells [.slice r _ _ _ _, .map m] _ => useC (openP i r m) [hI, iv j] args (pL s) (.leaf .ret [itF (remV s j.toNat)] [(0, pO (remS s j.toNat))])
    | _ => .fail "rem"))
  | _ => none
def hTake (s : Ps) (k : Int) : ClaimT := hintL [(fLTake, 1, 6, hv (.tuple [iv (lookD k s.m), .v (.bool (mlook k s.m).isSome)]))]
def hTake0 : ClaimT := hintL [(fLTake, 1, 6, hv (.tuple [iv 0, .lit false]))]
theorem oLTake_eq (s : Ps) (k : Int) (F : HP) : oRun [(fHRem, cHRemO s)] (hTake s k) [] fLTake [.ptr 0 0, iv k] (pL s) [0, 1001, 1002] F = VT.ite (!(mlook k s.m).isSome) (VT.leaf (AV.tuple [AV.agg [AV.v (Value.int IntKind.i64 (Int.ofNat 0)), AV.v (Value.int IntKind.i64 (Int.ofNat 0)), AV.v (Value.int IntKind.i64 (Int.ofNat 0))], AV.v (Value.bool false)]) [some (AO.cells [AV.slice 1001 0 s.xs.length 3 (Cp.lo (s.xs.length + s.g.length)), AV.map 1002] 100), some (AO.cells (rowV enc (s.xs ++ s.g)) 54), some (AO.map (mE iv s.m) s.ck)] 1101 (((Cnd.p (true = true)).a Cnd.t).a (((Cnd.p (findKey Try.prog (env0 [(24, cHRemO s)] (hTake s k) [] F) 3 (AV.v (Value.int IntKind.i64 k)) (mE iv s.m) 0 = AP.ret (findS (AV.v (Value.int IntKind.i64 k)) (mE iv s.m) 0))).a ((Cnd.p (foundX (findS (AV.v (Value.int IntKind.i64 k)) (mE iv s.m) 0) (Value.int IntKind.i64 (Int.ofNat 0)) = AV.v (Value.int IntKind.i64 (foundX (findS (AV.v (Value.int IntKind.i64 k)) (mE iv s.m) 0) (Value.int IntKind.i64 (Int.ofNat 0))).intOf))).a ((Cnd.p (Wk (AV.tuple [AV.v (Value.int IntKind.i64 (foundX (findS (AV.v (Value.int IntKind.i64 k)) (mE iv s.m) 0) (Value.int IntKind.i64 (Int.ofNat 0))).intOf), AV.v (Value.bool (findS (AV.v (Value.int IntKind.i64 k)) (mE iv s.m) 0).isSome)]) (AV.tuple [AV.v (Value.int IntKind.i64 (lookD k s.m)), AV.v (Value.bool (mlook k s.m).isSome)]))).a Cnd.t))).a (((Cnd.p (true = true)).a Cnd.t).a ((Cnd.p (true = true)).a ((Cnd.p ([AV.v (Value.int IntKind.i64 (Int.ofNat 0)), AV.v (Value.int IntKind.i64 (Int.ofNat 0)), AV.v (Value.int IntKind.i64 (Int.ofNat 0))] = [AV.v (Value.int IntKind.i64 (Int.ofNat 0)), AV.v (Value.int IntKind.i64 (Int.ofNat 0)), AV.v (Value.int IntKind.i64 (Int.ofNat 0))])).a Cnd.t)))))) (VT.leaf (AV.tuple [AV.agg [AV.v (Value.int IntKind.i64 (remV s (lookD k s.m).toNat).a), AV.v (Value.int IntKind.i64 (remV s (lookD k s.m).toNat).b), AV.v (Value.int IntKind.i64 (remV s (lookD k s.m).toNat).c)], AV.v (Value.bool true)]) [some (AO.own (Md.pile (remS s (lookD k s.m).toNat)) (pH (remS s (lookD k s.m).toNat))), none, none] 1102 (((Cnd.p (true = true)).a Cnd.t).a (((Cnd.p (findKey Try.prog (env0 [(24, cHRemO s)] (hTake s k) [] F) 3 (AV.v (Value.int IntKind.i64 k)) (mE iv s.m) 0 = AP.ret (findS (AV.v (Value.int IntKind.i64 k)) (mE iv s.m) 0))).a ((Cnd.p (foundX (findS (AV.v (Value.int IntKind.i64 k)) (mE iv s.m) 0) (Value.int IntKind.i64 (Int.ofNat 0)) = AV.v (Value.int IntKind.i64 (foundX (findS (AV.v (Value.int IntKind.i64 k)) (mE iv s.m) 0) (Value.int IntKind.i64 (Int.ofNat 0))).intOf))).a ((Cnd.p (Wk (AV.tuple [AV.v (Value.int IntKind.i64 (foundX (findS (AV.v (Value.int IntKind.i64 k)) (mE iv s.m) 0) (Value.int IntKind.i64 (Int.ofNat 0))).intOf), AV.v (Value.bool (findS (AV.v (Value.int IntKind.i64 k)) (mE iv s.m) 0).isSome)]) (AV.tuple [AV.v (Value.int IntKind.i64 (lookD k s.m)), AV.v (Value.bool (mlook k s.m).isSome)]))).a Cnd.t))).a (((Cnd.p (53 = 53 ∧ PI s ∧ Int.ofNat 0 ≤ lookD k s.m ∧ (lookD k s.m).toNat < s.xs.length)).a ((Cnd.p (VW [AV.iface 53 (AV.ptr 0 0), AV.v (Value.int IntKind.i64 (lookD k s.m))] [AV.iface 53 (AV.ptr 0 0), AV.v (Value.int IntKind.i64 (lookD k s.m))])).a ((Cnd.p (OW (AO.cells [AV.slice 1001 0 s.xs.length 3 (Cp.lo (s.xs.length + s.g.length)), AV.map 1002] 100) (AO.cells [AV.slice 1001 0 s.xs.length 3 (Cp.lo (s.xs.length + s.g.length)), AV.map 1002] 100))).a ((Cnd.p (OW (AO.cells (rowV enc (s.xs ++ s.g)) 54) (AO.cells (AV.rens (openP 0 1001 1002) (rowV enc (s.xs ++ s.g))) 54))).a ((Cnd.p (OW (AO.map (mE iv s.m) s.ck) (AO.map (renE (openP 0 1001 1002) (mE iv s.m)) s.ck))).a Cnd.t))))).a (((Cnd.p (true = true)).a Cnd.t).a (((Cnd.p (true = true)).a ((Cnd.p ([AV.v (Value.int IntKind.i64 (remV s (lookD k s.m).toNat).a), AV.v (Value.int IntKind.i64 (remV s (lookD k s.m).toNat).b), AV.v (Value.int IntKind.i64 (remV s (lookD k s.m).toNat).c)] = [AV.v (Value.int IntKind.i64 (remV s (lookD k s.m).toNat).a), AV.v (Value.int IntKind.i64 (remV s (lookD k s.m).toNat).b), AV.v (Value.int IntKind.i64 (remV s (lookD k s.m).toNat).c)])).a Cnd.t)).a (((Cnd.p (true = true)).a Cnd.t).a ((Cnd.p (true = true)).a ((Cnd.p ([AV.v (Value.int IntKind.i64 (remV s (lookD k s.m).toNat).a), AV.v (Value.int IntKind.i64 (remV s (lookD k s.m).toNat).b), AV.v (Value.int IntKind.i64 (remV s (lookD k s.m).toNat).c)] = [AV.v (Value.int IntKind.i64 (remV s (lookD k s.m).toNat).a), AV.v (Value.int IntKind.i64 (remV s (lookD k s.m).toNat).b), AV.v (Value.int IntKind.i64 (remV s (lookD k s.m).toNat).c)])).a Cnd.t))))))))) := by kernel_rfl
theorem oLTake0_eq (k : Int) (F : HP) : oRun [] hTake0 [] fLTake [.ptr 0 0, iv k] pL0 [0, 1002] F = VT.ite true (VT.leaf (AV.tuple [AV.agg [AV.v (Value.int IntKind.i64 (Int.ofNat 0)), AV.v (Value.int IntKind.i64 (Int.ofNat 0)), AV.v (Value.int IntKind.i64 (Int.ofNat 0))], AV.v (Value.bool false)]) [some (AO.cells [AV.v (Value.slice none 0 0), AV.map 1002] 100), some (AO.map [] 0)] 1101 (((Cnd.p (true = true)).a Cnd.t).a (((Cnd.p (findKey Try.prog (env0 [] hTake0 [] F) 3 (AV.v (Value.int IntKind.i64 k)) [] 0 = AP.ret none)).a ((Cnd.p (AV.v (Value.int IntKind.i64 (Int.ofNat 0)) = AV.v (Value.int IntKind.i64 (Int.ofNat 0)))).a ((Cnd.p (Wk (AV.tuple [AV.v (Value.int IntKind.i64 (Int.ofNat 0)), AV.v (Value.bool false)]) (AV.tuple [AV.v (Value.int IntKind.i64 (Int.ofNat 0)), AV.lit false]))).a Cnd.t))).a (((Cnd.p (true = true)).a Cnd.t).a ((Cnd.p (true = true)).a ((Cnd.p ([AV.v (Value.int IntKind.i64 (Int.ofNat 0)), AV.v (Value.int IntKind.i64 (Int.ofNat 0)), AV.v (Value.int IntKind.i64 (Int.ofNat 0))] = [AV.v (Value.int IntKind.i64 (Int.ofNat 0)), AV.v (Value.int IntKind.i64 (Int.ofNat 0)), AV.v (Value.int IntKind.i64 (Int.ofNat 0))])).a Cnd.t)))))) (VT.ite true (VT.bad "a number below nought") (VT.bad "a number below nought")) := by kernel_rfl
theorem oLPeek_eq (s : Ps) (F : HP) : oRun [] noHints [] fLPeek [.ptr 0 0] (pL s) [0, 1001, 1002] F = VT.ite (↑s.xs.length == Int.ofNat 0) (VT.leaf (AV.tuple [AV.agg [AV.v (Value.int IntKind.i64 (Int.ofNat 0)), AV.v (Value.int IntKind.i64 (Int.ofNat 0)), AV.v (Value.int IntKind.i64 (Int.ofNat 0))], AV.v (Value.bool false)]) [some (AO.cells [AV.slice 1001 0 s.xs.length 3 (Cp.lo (s.xs.length + s.g.length)), AV.map 1002] 100), some (AO.cells (rowV enc (s.xs ++ s.g)) 54), some (AO.map (mE iv s.m) s.ck)] 1101 (((Cnd.p (true = true)).a Cnd.t).a (((Cnd.p (true = true)).a Cnd.t).a ((Cnd.p (true = true)).a ((Cnd.p ([AV.v (Value.int IntKind.i64 (Int.ofNat 0)), AV.v (Value.int IntKind.i64 (Int.ofNat 0)), AV.v (Value.int IntKind.i64 (Int.ofNat 0))] = [AV.v (Value.int IntKind.i64 (Int.ofNat 0)), AV.v (Value.int IntKind.i64 (Int.ofNat 0)), AV.v (Value.int IntKind.i64 (Int.ofNat 0))])).a Cnd.t))))) (VT.leaf (AV.tuple [AV.agg [AV.v (Value.int IntKind.i64 ((List.take 3 (List.drop 0 (rowV enc (s.xs ++ s.g)))).getD 0 (AV.v (Value.tuple (Array.mk [])))).intOf), AV.v (Value.int IntKind.i64 ((List.take 3 (List.drop 0 (rowV enc (s.xs ++ s.g)))).getD 1 (AV.v (Value.tuple (Array.mk [])))).intOf), AV.v (Value.int IntKind.i64 ((List.take 3 (List.drop 0 (rowV enc (s.xs ++ s.g)))).getD 2 (AV.v (Value.tuple (Array.mk [])))).intOf)], AV.v (Value.bool true)]) [some (AO.cells [AV.slice 1001 0 s.xs.length 3 (Cp.lo (s.xs.length + s.g.length)), AV.map 1002] 100), some (AO.cells (rowV enc (s.xs ++ s.g)) 54), some (AO.map (mE iv s.m) s.ck)] 1101 (((Cnd.p (true = true)).a Cnd.t).a (((Cnd.p (true = true)).a Cnd.t).a (((Cnd.p (Nat.blt 0 s.xs.length = true)).a Cnd.t).a (((Cnd.p ((List.take 3 (List.drop 0 (rowV enc (s.xs ++ s.g)))).length.beq 3 = true)).a ((Cnd.p (List.take 3 (List.drop 0 (rowV enc (s.xs ++ s.g))) = [AV.v (Value.int IntKind.i64 ((List.take 3 (List.drop 0 (rowV enc (s.xs ++ s.g)))).getD 0 (AV.v (Value.tuple (Array.mk [])))).intOf), AV.v (Value.int IntKind.i64 ((List.take 3 (List.drop 0 (rowV enc (s.xs ++ s.g)))).getD 1 (AV.v (Value.tuple (Array.mk [])))).intOf), AV.v (Value.int IntKind.i64 ((List.take 3 (List.drop 0 (rowV enc (s.xs ++ s.g)))).getD 2 (AV.v (Value.tuple (Array.mk [])))).intOf)])).a Cnd.t)).a (((Cnd.p (true = true)).a Cnd.t).a ((Cnd.p (true = true)).a ((Cnd.p ([AV.v (Value.int IntKind.i64 ((List.take 3 (List.drop 0 (rowV enc (s.xs ++ s.g)))).getD 0 (AV.v (Value.tuple (Array.mk [])))).intOf), AV.v (Value.int IntKind.i64 ((List.take 3 (List.drop 0 (rowV enc (s.xs ++ s.g)))).getD 1 (AV.v (Value.tuple (Array.mk [])))).intOf), AV.v (Value.int IntKind.i64 ((List.take 3 (List.drop 0 (rowV enc (s.xs ++ s.g)))).getD 2 (AV.v (Value.tuple (Array.mk [])))).intOf)] = [AV.v (Value.int IntKind.i64 ((List.take 3 (List.drop 0 (rowV enc (s.xs ++ s.g)))).getD 0 (AV.v (Value.tuple (Array.mk [])))).intOf), AV.v (Value.int IntKind.i64 ((List.take 3 (List.drop 0 (rowV enc (s.xs ++ s.g)))).getD 1 (AV.v (Value.tuple (Array.mk [])))).intOf), AV.v (Value.int IntKind.i64 ((List.take 3 (List.drop 0 (rowV enc (s.xs ++ s.g)))).getD 2 (AV.v (Value.tuple (Array.mk [])))).intOf)])).a Cnd.t)))))))) := by kernel_rfl
theorem oLPeek0_eq (F : HP) : oRun [] noHints [] fLPeek [.ptr 0 0] pL0 [0, 1002] F = VT.ite true (VT.leaf (AV.tuple [AV.agg [AV.v (Value.int IntKind.i64 (Int.ofNat 0)), AV.v (Value.int IntKind.i64 (Int.ofNat 0)), AV.v (Value.int IntKind.i64 (Int.ofNat 0))], AV.v (Value.bool false)]) [some (AO.cells [AV.v (Value.slice none 0 0), AV.map 1002] 100), some (AO.map [] 0)] 1101 (((Cnd.p (true = true)).a Cnd.t).a (((Cnd.p (true = true)).a Cnd.t).a ((Cnd.p (true = true)).a ((Cnd.p ([AV.v (Value.int IntKind.i64 (Int.ofNat 0)), AV.v (Value.int IntKind.i64 (Int.ofNat 0)), AV.v (Value.int IntKind.i64 (Int.ofNat 0))] = [AV.v (Value.int IntKind.i64 (Int.ofNat 0)), AV.v (Value.int IntKind.i64 (Int.ofNat 0)), AV.v (Value.int IntKind.i64 (Int.ofNat 0))])).a Cnd.t))))) (VT.bad "indexAddr") := by kernel_rfl
end
end Go.Proofs.Ytcpijmlaglcblaa.Rk

/- A Line's Take and Peek: contracts. -/
set_option linter.unusedVariables false
set_option linter.unusedSimpArgs false
set_option maxRecDepth 100000
namespace Go.Proofs.Ytcpijmlaglcblaa.Rk
open Go Go.RowKit Go.Proofs.Ytcpijmlaglcblaa.Eng
theorem cHRemO_ok (s : Ps) (F : HP) : C1OK Try.prog F fHRem (cHRemO s) := by
  intro st W0 N h w args vargs v h' n n' lg lg' c p hp he hc r ha hf
  unfold cHRemO at hp
  split at hp
  · rename_i t i j
    cases hp
    obtain ⟨c0, he0, rfl⟩ := run_need he
    obtain ⟨⟨rfl, hP, h0, hl⟩, hc0⟩ := (Cnd.and_iff _ _).1 hc
    obtain ⟨j, rfl⟩ := Int.eq_ofNat_of_zero_le h0
    obtain ⟨o, ho, he1⟩ := run_read he0
    split at he1
    · exact useC_ok oldDef (Tri.pre (shut_pile s (vs := [hI, iv (Int.ofNat j)]) ⟨rfl, trivial, trivial⟩) (hrem_tri s j hP hl)) rfl (closedL (s := s) (A := [hI, iv (Int.ofNat j)]) (v := itF (remV s j)) (o := pO (remS s j)) ⟨rfl, trivial, trivial⟩ ⟨⟨trivial, trivial, trivial, trivial⟩, trivial⟩ trivial) he1 hc0 r ha hf
    · exact (inv_fail he1).elim
  · cases hp
def ltakeV (s : Ps) (k : Int) : It := if isIn k s = true then remV s (lookD k s.m).toNat else It.zero
def ltakeS (s : Ps) (k : Int) : Ps := if isIn k s = true then remS s (lookD k s.m).toNat else s
theorem ltake_tri (s : Ps) (k : Int) (hP : PI s) (hM : MapOK s) : Tri Try.prog default fLTake [.ptr 0 0, iv k] [(0, pO s)] (.tuple [itA (ltakeV s k), .v (.bool (isIn k s))]) [(0, pO (ltakeS s k))] := by
  refine open_pile (tri_run (con := [(fHRem, cHRemO s)]) (hints := hTake s k) (lc := []) [0, 1001, 1002] rfl (one_ok (cHRemO_ok s)) noL fun F => ?_)
  rw [oLTake_eq]
  have e1 := look_eta k s.m
  have e2 := found_isSome (ev := iv) k s.m
  have e3 : Wk (AV.tuple [AV.v (Value.int IntKind.i64 (foundX (findS (.v (.int .i64 k)) (mE iv s.m) 0) (.int .i64 (Int.ofNat 0))).intOf), AV.v (Value.bool (findS (AV.v (Value.int IntKind.i64 k)) (mE iv s.m) 0).isSome)]) (AV.tuple [AV.v (Value.int IntKind.i64 (lookD k s.m)), AV.v (Value.bool (mlook k s.m).isSome)]) := by
    refine Wk.of_eq ?_
    rw [e1, e2]; rfl
  refine ⟨fun h1 => ⟨?_, ?_⟩, fun h1 => ⟨?_, ?_⟩⟩
  · simp only [Cnd.holds]
    and_intros
    all_goals first | exact trivial | exact findKey_mE intT _ _ _ | exact e3 | (rw [e1]; rfl) | rfl
  · have hi : isIn k s = false := by have h1' : (!isIn k s) = true := h1; simpa using h1'
    have hn : ¬ isIn k s = true := by rw [hi]; exact Bool.false_ne_true
    have e4 : ltakeV s k = It.zero := if_neg hn
    have e5 : ltakeS s k = s := if_neg hn
    rw [e4, e5, hi]
    exact fits_pile s [(1001, 1001), (1002, 1002)] (by kernel_rfl) (by kernel_rfl) (VW.refl _) ⟨⟨⟨trivial, trivial, trivial, trivial⟩, trivial, trivial⟩, trivial⟩ (objs_pile s rfl rfl rfl rfl rfl rfl)
  · have hi : isIn k s = true := by have h1' : (!isIn k s) = false := h1; simpa using h1'
    obtain ⟨v, hv⟩ := Option.isSome_iff_exists.1 (show (mlook k s.m).isSome = true from hi)
    obtain ⟨i, hil, _, rfl⟩ := (hM k v).1 hv
    have hd : lookD k s.m = (i : Int) := by rw [lookD, hv]; rfl
    have h0 : 0 ≤ lookD k s.m := by rw [hd]; exact Int.natCast_nonneg _
    have hl : (lookD k s.m).toNat < s.xs.length := by rw [hd]; exact hil
    simp only [Cnd.holds]
    and_intros
    all_goals first | exact trivial | exact findKey_mE intT _ _ _ | exact e3 | exact hP | exact h0 | exact hl | exact VW.refl _ | exact OW.refl _ | exact OW.of_eq (by rw [rens_rowV]) | exact OW.of_eq (by rw [renE_mE]) | (rw [e1]; rfl) | rfl
  · have hi : isIn k s = true := by have h1' : (!isIn k s) = false := h1; simpa using h1'
    have e4 : ltakeV s k = remV s (lookD k s.m).toNat := if_pos hi
    have e5 : ltakeS s k = remS s (lookD k s.m).toNat := if_pos hi
    rw [e4, e5, hi]
    exact fits_one (VW.refl _) ⟨_, rfl, OW.refl _⟩
theorem ltake0_tri (k : Int) : Tri Try.prog default fLTake [.ptr 0 0, iv k] [(0, pO0)] (.tuple [itA It.zero, .v (.bool false)]) [(0, pO0)] := by
  refine open_pile0 (tri_run (con := []) (hints := hTake0) (lc := []) [0, 1002] rfl noC noL fun F => ?_)
  rw [oLTake0_eq]
  have e3 : Wk (AV.tuple [AV.v (Value.int IntKind.i64 (Int.ofNat 0)), AV.v (Value.bool false)]) (AV.tuple [AV.v (Value.int IntKind.i64 (Int.ofNat 0)), AV.lit false]) := by
    intro N y hy
    simp only [VR, VRs] at hy ⊢
    exact hy
  refine ⟨fun _ => ⟨?_, fits_pile0 [(1002, 1002)] (by kernel_rfl) (by kernel_rfl) (VW.refl _) ⟨⟨⟨trivial, trivial, trivial, trivial⟩, trivial, trivial⟩, trivial⟩ ⟨⟨_, rfl, OW.refl _⟩, ⟨_, rfl, OW.refl _⟩, trivial⟩⟩, fun h => by cases h⟩
  simp only [Cnd.holds]
  and_intros
  all_goals first | exact trivial | exact e3 | rfl
def lpeekV (s : Ps) : It := if s.xs.length = 0 then It.zero else at' s 0
theorem lpeek_tri (s : Ps) : Tri Try.prog default fLPeek [.ptr 0 0] [(0, pO s)] (.tuple [itA (lpeekV s), .v (.bool (!decide (s.xs.length = 0)))]) [(0, pO s)] := by
  refine open_pile (tri_run (con := []) (hints := noHints) (lc := []) [0, 1001, 1002] rfl noC noL fun F => ?_)
  rw [oLPeek_eq]
  have hz : ((s.xs.length : Int) == Int.ofNat 0) = decide (s.xs.length = 0) := by
    by_cases h : s.xs.length = 0
    · rw [h]; rfl
    · simp only [h, decide_false]; apply beq_eq_false_iff_ne.2; simp only [Int.ofNat_eq_natCast]; omega
  rw [hz]
  refine ⟨fun h1 => ⟨?_, ?_⟩, fun h1 => ?_⟩
  · simp only [Cnd.holds]
    and_intros
    all_goals first | exact trivial | rfl
  · simp only [decide_eq_true_eq] at h1
    have e1 : lpeekV s = It.zero := if_pos h1
    have e3 : (!decide (s.xs.length = 0)) = false := by rw [decide_eq_true h1]; rfl
    rw [e1, e3]
    exact fits_pile s [(1001, 1001), (1002, 1002)] (by kernel_rfl) (by kernel_rfl) (VW.refl _) ⟨⟨⟨trivial, trivial, trivial, trivial⟩, trivial, trivial⟩, trivial⟩ (objs_pile s rfl rfl rfl rfl rfl rfl)
  · simp only [decide_eq_false_iff_not] at h1
    have e1 : lpeekV s = at' s 0 := if_neg h1
    have e3 : (!decide (s.xs.length = 0)) = true := by rw [decide_eq_false h1]; rfl
    have hr : List.take 3 (List.drop 0 (rowV enc (s.xs ++ s.g))) = vmap (enc (at' s 0)) := row_at s 0 (by omega)
    rw [e1, e3, hr]
    refine ⟨?_, fits_pile s [(1001, 1001), (1002, 1002)] (by kernel_rfl) (by kernel_rfl) (VW.refl _) ⟨⟨⟨trivial, trivial, trivial, trivial⟩, trivial, trivial⟩, trivial⟩ (objs_pile s rfl rfl rfl rfl rfl rfl)⟩
    simp only [Cnd.holds]
    and_intros
    all_goals first | exact trivial | rfl | (rw [Nat.blt_eq]; omega)
theorem lpeek0_tri : Tri Try.prog default fLPeek [.ptr 0 0] [(0, pO0)] (.tuple [itA It.zero, .v (.bool false)]) [(0, pO0)] := by
  refine open_pile0 (tri_run (con := []) (hints := noHints) (lc := []) [0, 1002] rfl noC noL fun F => ?_)
  rw [oLPeek0_eq]
  refine ⟨fun _ => ⟨?_, fits_pile0 [(1002, 1002)] (by kernel_rfl) (by kernel_rfl) (VW.refl _) ⟨⟨⟨trivial, trivial, trivial, trivial⟩, trivial, trivial⟩, trivial⟩ ⟨⟨_, rfl, OW.refl _⟩, ⟨_, rfl, OW.refl _⟩, trivial⟩⟩, fun h => by cases h⟩
  simp only [Cnd.holds]
  and_intros
  all_goals first | exact trivial | rfl
/-! On a Line whole. -/
def remK (k : Int) (L : List It) : List It := L.filter fun y => !(y.b == k)
def findI (k : Int) (L : List It) : It := (L.find? fun y => y.b == k).getD It.zero
theorem remK_perm {k : Int} : ∀ {L : List It} {x : It}, (∀ y ∈ L, ∀ z ∈ L, y.b = z.b → y = z) → L.Nodup → x ∈ L → x.b = k → L.Perm (x :: remK k L)
  | [], x, _, _, hx, _ => by cases hx
  | y :: l, x, hu, hd, hx, hk => by
    obtain ⟨hd1, hd2⟩ := List.nodup_cons.1 hd
    have hu' : ∀ a ∈ l, ∀ b ∈ l, a.b = b.b → a = b := fun a ha b hb => hu a (List.mem_cons_of_mem _ ha) b (List.mem_cons_of_mem _ hb)
    rcases List.mem_cons.1 hx with rfl | hx'
    · have e : remK k (x :: l) = l := by
        rw [remK, List.filter_cons]
        have h1 : (!(x.b == k)) = false := by simp [hk]
        rw [h1, if_neg Bool.false_ne_true, List.filter_eq_self]
        intro z hz
        have : z.b ≠ k := fun ez => hd1 (by rw [hu x List.mem_cons_self z (List.mem_cons_of_mem _ hz) (hk.trans ez.symm)]; exact hz)
        simpa using this
      rw [e]
    · have hy : y.b ≠ k := fun ey => hd1 (by rw [hu y List.mem_cons_self x hx (ey.trans hk.symm)]; exact hx')
      have e : remK k (y :: l) = y :: remK k l := by
        rw [remK, List.filter_cons]
        have h1 : (!(y.b == k)) = true := by simpa using hy
        rw [if_pos h1]; rfl
      rw [e]
      exact ((remK_perm hu' hd2 hx' hk).cons y).trans (List.Perm.swap x y _)
theorem sorted_nodup {L : List It} (h : Sortd L) : L.Nodup := h.imp fun {a b} hab e => by subst e; rw [ahead_irrefl] at hab; cases hab
theorem AbsS.uniq {s : Ps} {L : List It} (h : AbsS s L) : ∀ y ∈ L, ∀ z ∈ L, y.b = z.b → y = z := by
  intro y hy z hz e
  obtain ⟨i, hi, rfl⟩ := mem_at.1 (h.perm.mem_iff.1 hy)
  obtain ⟨j, hj, rfl⟩ := mem_at.1 (h.perm.mem_iff.1 hz)
  rw [h.map.inj hi hj e]
theorem find_mem {L : List It} (hu : ∀ y ∈ L, ∀ z ∈ L, y.b = z.b → y = z) {x : It} (hx : x ∈ L) {k : Int} (hk : x.b = k) : findI k L = x := by
  rw [findI]
  cases hf : L.find? (fun y => y.b == k) with
  | none =>
    have := List.find?_eq_none.1 hf x hx
    simp [hk] at this
  | some z =>
    have h1 := List.find?_some hf
    have h2 := List.mem_of_find?_eq_some hf
    exact hu z h2 x hx (by rw [hk]; simpa using h1)
theorem AbsS.take {s : Ps} {L : List It} (h : AbsS s L) (k : Int) : ltakeV s k = findI k L ∧ AbsS (ltakeS s k) (remK k L) := by
  cases hi : Rk.isIn k s with
  | false =>
    have hn : ¬ Rk.isIn k s = true := by rw [hi]; exact Bool.false_ne_true
    have e4 : ltakeV s k = It.zero := if_neg hn
    have e5 : ltakeS s k = s := if_neg hn
    rw [h.isIn k, List.any_eq_false] at hi
    have e6 : findI k L = It.zero := by
      rw [findI, List.find?_eq_none.2 fun x hx => hi x hx]; rfl
    have e7 : remK k L = L := List.filter_eq_self.2 fun x hx => by simpa using hi x hx
    rw [e4, e5, e6, e7]; exact ⟨rfl, h⟩
  | true =>
    have e4 : ltakeV s k = remV s (lookD k s.m).toNat := if_pos hi
    have e5 : ltakeS s k = remS s (lookD k s.m).toNat := if_pos hi
    obtain ⟨v, hv⟩ := Option.isSome_iff_exists.1 (show (mlook k s.m).isSome = true from hi)
    obtain ⟨i, hil, hb, rfl⟩ := (h.map k v).1 hv
    have hd : (lookD k s.m).toNat = i := by rw [lookD, hv]; rfl
    have hmem : at' s i ∈ L := h.perm.mem_iff.2 (mem_at.2 ⟨i, hil, rfl⟩)
    have hr := h.rem hil (remK_perm h.uniq (sorted_nodup h.sorted) hmem hb) (h.sorted.filter _)
    rw [e4, e5, hd, find_mem h.uniq hmem hb]
    exact hr
theorem AbsS.peek {s : Ps} {L : List It} (h : AbsS s L) : lpeekV s = L.headD It.zero := by
  cases L with
  | nil =>
    have h0 : s.xs.length = 0 := h.len
    exact if_pos h0
  | cons x L =>
    have hn : s.xs.length = L.length + 1 := h.len
    have e : lpeekV s = at' s 0 := if_neg (by omega)
    have hm : at' s 0 ∈ x :: L := h.perm.mem_iff.2 (mem_at.2 ⟨0, by omega, rfl⟩)
    rw [e]
    rcases List.mem_cons.1 hm with e | e
    · exact e
    · have h1 := (List.pairwise_cons.1 h.sorted).1 _ e
      obtain ⟨i, hi, hxi⟩ := mem_at.1 (h.perm.mem_iff.1 (List.mem_cons_self (a := x) (l := L)))
      have h2 := heap_root h.heap i hi
      rw [hxi, nb, h1] at h2; cases h2
theorem Atake_tri (L : List It) (k : Int) : Tri Try.prog default fLTake [.ptr 0 0, iv k] [(0, lO L)] (.tuple [itA (findI k L), .v (.bool (hasSeq k L))]) [(0, lO (remK k L))] := by
  refine open_line ⟨rfl, trivial, trivial⟩ (fun s hs => ?_) (fun e => ?_)
  · have ht := ltake_tri s k hs.pi hs.map
    have e1 : isIn k s = hasSeq k L := hs.isIn k
    rw [e1, (hs.take k).1] at ht
    exact Tri.post ht (goes_ow (by decide) (ow_line (hs.take k).2))
  · subst e
    exact Tri.post (ltake0_tri k) (goes_ow (by decide) ow_line0)
theorem Apeek_tri (L : List It) : Tri Try.prog default fLPeek [.ptr 0 0] [(0, lO L)] (.tuple [itA (L.headD It.zero), .v (.bool (!L.isEmpty))]) [(0, lO L)] := by
  refine open_line ⟨rfl, trivial⟩ (fun s hs => ?_) (fun e => ?_)
  · have ht := lpeek_tri s
    have e2 : (!decide (s.xs.length = 0)) = !L.isEmpty := by
      rw [hs.len]; cases L <;> simp
    rw [hs.peek, e2] at ht
    exact Tri.post ht (goes_ow (by decide) (ow_line hs))
  · subst e
    exact Tri.post lpeek0_tri (goes_ow (by decide) ow_line0)
end Go.Proofs.Ytcpijmlaglcblaa.Rk

/- The closure that Items sorts by. -/
set_option linter.unusedVariables false
set_option linter.unusedSimpArgs false
set_option maxRecDepth 100000
namespace Go.Proofs.Ytcpijmlaglcblaa.Rk
open Go Go.RowKit Go.Proofs.Ytcpijmlaglcblaa.Eng Go.Sort Go.Lib Go.Shelf
abbrev fItems1 : Nat := 22
abbrev fAhead : Nat := 23
set_option maxHeartbeats 2000000 in
theorem ahead_calls (x y : It) (W : World) : Calls Try.prog fAhead #[.agg #[.int .i64 x.a, .int .i64 x.b, .int .i64 x.c], .agg #[.int .i64 y.a, .int .i64 y.b, .int .i64 y.c]] W fun e w' => e = .returned (.bool (ahead x y)) ∧ ∃ q os', w' = grow (W.drewN q) os' := by
  go_enter Try.func23, Try.ntmps23
  go_wp2
  all_goals go_ret
  all_goals refine ⟨?_, 0, _, by rw [alloc_eq_grow, alloc_eq_grow, grow_grow]; rfl⟩
  all_goals simp_all [ahead]
  all_goals omega
def cmpI (x y : It) : Int := if ahead x y = true then -1 else 1
set_option maxHeartbeats 2000000 in
theorem closure_calls (x y : It) (W : World) : Calls Try.prog fItems1 #[.agg #[.int .i64 x.a, .int .i64 x.b, .int .i64 x.c], .agg #[.int .i64 y.a, .int .i64 y.b, .int .i64 y.c]] W fun e w' => e = .returned (.int .i64 (cmpI x y)) ∧ ∃ q os', w' = grow (W.drewN q) os' := by
  have hcon := fun W' => ahead_calls x y W'
  change ∀ W', Calls Try.prog 23 _ _ _ at hcon
  unfold cmpI
  generalize ahead x y = r at hcon ⊢
  go_enter Try.func22, Try.ntmps22
  go_wp2_with (go_at_call 23; refine (hcon _).mono ?_; rintro e w' ⟨rfl, q, os', rfl⟩)
  all_goals go_ret
  all_goals refine ⟨?_, q, _, by rw [alloc_eq_grow, alloc_eq_grow, grow_grow]; exact grow_grow (W.drewN q) _ _⟩
  all_goals first | rfl | simp_all
/-! The order is strict and weak. -/
instance : Inhabited It := ⟨It.zero⟩
theorem cmpI_lt : ltOf cmpI = ahead := by
  funext x y
  unfold ltOf cmpI
  cases ahead x y <;> simp
theorem swo_ahead : SWO (ltOf cmpI) := by
  rw [cmpI_lt]
  refine ⟨fun x => ?_, fun x y z h1 h2 => ?_, fun x y z h1 h2 => ?_⟩
  · simp [ahead]
  · simp only [ahead, Bool.or_eq_true, Bool.and_eq_true, decide_eq_true_eq, beq_iff_eq] at *; omega
  · rw [← Bool.not_eq_true] at *
    simp only [ahead, Bool.or_eq_true, Bool.and_eq_true, decide_eq_true_eq, beq_iff_eq] at *; omega
theorem cmpLays (blk off size : Nat) (w : World) : CmpLays Try.prog fItems1 #[] enc 3 cmpI blk off size w := fun _ _ _ _ x y => closure_calls x y _
end Go.Proofs.Ytcpijmlaglcblaa.Rk

/- slices.SortFunc at items, laid by the kit's lay-plain.mjs. -/
namespace Go.Proofs
open Go.Shelf
def Try.sortIt_ren : Go.Shelf.Ren := ⟨fun | 6 => 21 | 15 => 28 | 14 => 27 | 28 => 37 | 29 => 38 | 20 => 29 | 21 => 30 | 22 => 31 | 23 => 32 | 24 => 33 | 25 => 34 | 26 => 35 | 27 => 36 | 46 => 39 | 47 => 40 | 48 => 41 | 49 => 42 | 50 => 43 | 57 => 44 | n => n, fun | 22 => 22 | 24 => 27 | 25 => 57 | 3 => 3 | 39 => 68 | 0 => 0 | 53 => 78 | 55 => 80 | 4 => 4 | 46 => 72 | 45 => 71 | 50 => 51 | 5 => 5 | 9 => 9 | 66 => 81 | 70 => 85 | 76 => 87 | 77 => 88 | n => n, fun | n => n⟩
theorem Try.sortIt : Go.Proofs.SlLaysF0.n6 Try.prog Try.sortIt_ren := {
  mixed := by kernel_rfl
  f6 := ⟨Try.f21.name, by decide, Try.func21.trans (congrArg some (by kernel_rfl))⟩
  f14 := ⟨Try.f27.name, by decide, Try.func27.trans (congrArg some (by kernel_rfl))⟩
  f15 := Try.func28.trans (congrArg some (by kernel_rfl))
  f20 := ⟨Try.f29.name, by decide, Try.func29.trans (congrArg some (by kernel_rfl))⟩
  f21 := ⟨Try.f30.name, by decide, Try.func30.trans (congrArg some (by kernel_rfl))⟩
  f22 := ⟨Try.f31.name, by decide, Try.func31.trans (congrArg some (by kernel_rfl))⟩
  f23 := ⟨Try.f32.name, by decide, Try.func32.trans (congrArg some (by kernel_rfl))⟩
  f24 := ⟨Try.f33.name, by decide, Try.func33.trans (congrArg some (by kernel_rfl))⟩
  f25 := ⟨Try.f34.name, by decide, Try.func34.trans (congrArg some (by kernel_rfl))⟩
  f26 := ⟨Try.f35.name, by decide, Try.func35.trans (congrArg some (by kernel_rfl))⟩
  f27 := ⟨Try.f36.name, by decide, Try.func36.trans (congrArg some (by kernel_rfl))⟩
  f28 := Try.func37.trans (congrArg some (by kernel_rfl))
  f29 := Try.func38.trans (congrArg some (by kernel_rfl))
  f46 := ⟨Try.f39.name, by decide, Try.func39.trans (congrArg some (by kernel_rfl))⟩
  f47 := Try.func40.trans (congrArg some (by kernel_rfl))
  f48 := Try.func41.trans (congrArg some (by kernel_rfl))
  f49 := ⟨Try.f42.name, by decide, Try.func42.trans (congrArg some (by kernel_rfl))⟩
  f50 := ⟨Try.f43.name, by decide, Try.func43.trans (congrArg some (by kernel_rfl))⟩
  f57 := ⟨Try.f44.name, by decide, Try.func44.trans (congrArg some (by kernel_rfl))⟩
  t0 := Try.underlying0
  a0 := Try.isAgg0
  z0 := Try.sizeOf0
  v0 := Try.zeroValue0
  t3 := Try.underlying3
  a3 := Try.isAgg3
  z3 := Try.sizeOf3
  v3 := Try.zeroValue3
  t4 := Try.underlying4
  a4 := Try.isAgg4
  z4 := Try.sizeOf4
  v4 := Try.zeroValue4
  t5 := Try.underlying5
  a5 := Try.isAgg5
  z5 := Try.sizeOf5
  v5 := Try.zeroValue5
  t9 := Try.underlying9
  a9 := Try.isAgg9
  z9 := Try.sizeOf9
  v9 := Try.zeroValue9
  t22 := Try.underlying22
  a22 := Try.isAgg22
  z22 := Try.sizeOf22
  v22 := Try.zeroValue22
  t25 := Try.underlying57
  a25 := Try.isAgg57
  z25 := Try.sizeOf57
  v25 := Try.zeroValue57
  t39 := Try.underlying68
  a39 := Try.isAgg68
  z39 := Try.sizeOf68
  v39 := Try.zeroValue68
  t45 := Try.underlying71
  a45 := Try.isAgg71
  z45 := Try.sizeOf71
  v45 := Try.zeroValue71
  t46 := Try.underlying72
  a46 := Try.isAgg72
  z46 := Try.sizeOf72
  v46 := Try.zeroValue72
  t50 := Try.underlying51
  a50 := Try.isAgg51
  z50 := Try.sizeOf51
  v50 := Try.zeroValue51
  t53 := Try.underlying78
  a53 := Try.isAgg78
  z53 := Try.sizeOf78
  v53 := Try.zeroValue78
  t55 := Try.underlying80
  a55 := Try.isAgg80
  z55 := Try.sizeOf80
  v55 := Try.zeroValue80
  t66 := Try.underlying81
  a66 := Try.isAgg81
  z66 := Try.sizeOf81
  v66 := Try.zeroValue81
  t70 := Try.underlying85
  a70 := Try.isAgg85
  z70 := Try.sizeOf85
  v70 := Try.zeroValue85
  t76 := Try.underlying87
  a76 := Try.isAgg87
  z76 := Try.sizeOf87
  v76 := Try.zeroValue87
  t77 := Try.underlying88
  a77 := Try.isAgg88
  z77 := Try.sizeOf88
  v77 := Try.zeroValue88 }
end Go.Proofs

/- slices.SortFunc on a row of items, as the closure of Items orders them: a contract. -/
set_option linter.unusedVariables false
set_option linter.unusedSimpArgs false
set_option maxRecDepth 100000
namespace Go.Proofs.Ytcpijmlaglcblaa.Rk
open Go Go.RowKit Go.Proofs.Ytcpijmlaglcblaa.Eng Go.Sort Go.Shelf
abbrev fSort : Nat := 21
theorem flat_get (d : Array It) (j : Nat) (hj : j < d.size * 3) : (d.toList.flatMap enc)[j]? = some ((flatK enc 3 d)[j]!) := by
  have h1 : j / 3 < d.toList.length := by rw [Array.length_toList]; omega
  have h2 := pieces_get enc_length d.toList (j / 3) (j % 3) h1 (by omega)
  have e : j / 3 * 3 + j % 3 = j := by omega
  rw [e] at h2
  rw [h2, get_flatK enc 3 d j hj]
  have h3 : d[j / 3]! = d.toList[j / 3] := by
    rw [getElem!_pos d (j / 3) (by simpa using h1)]; simp
  rw [h3]
  have hl : j % 3 < (enc d.toList[j / 3]).length := by rw [enc_length]; omega
  rw [List.getElem?_eq_getElem hl, getElem!_pos (enc d.toList[j / 3]) (j % 3) hl]
theorem flat_len (l : List It) : (l.flatMap enc).length = l.length * 3 := by
  have := rowV_length enc_length l
  rwa [rowV, vmap_length] at this
theorem sorted_is {l L : List It} {d' : Array It} (hp : l.Perm L) (hs : Sortd L) (h1 : PermIn 0 l.toArray.size l.toArray d') (h2 : SortedIn (ltOf cmpI) 0 l.toArray.size d') : d'.toList = L := by
  obtain ⟨hz, _, hpm⟩ := h1
  have e1 : d'.extract 0 l.toArray.size = d' := by rw [← hz]; simp
  have e2 : l.toArray.extract 0 l.toArray.size = l.toArray := by simp
  rw [e1, e2] at hpm
  have hpL : d'.toList.Perm L := hpm.trans hp
  refine List.Perm.eq_of_pairwise (le := nb) (fun a b ha hb h3 h4 => ?_) ?_ (hs.imp fun h => nb_of_ahead h) hpL
  · have ha' : a ∈ L := hpL.mem_iff.1 ha
    obtain ⟨i, hi, rfl⟩ := List.mem_iff_getElem.1 ha'
    obtain ⟨j, hj, rfl⟩ := List.mem_iff_getElem.1 hb
    have hs2 := List.pairwise_iff_getElem.1 hs
    rcases Nat.lt_trichotomy i j with h | h | h
    · have := hs2 i j hi hj h
      rw [nb, this] at h4; cases h4
    · subst h; rfl
    · have := hs2 j i hj hi h
      rw [nb, this] at h3; cases h3
  · rw [List.pairwise_iff_getElem]
    intro i j hi hj hij
    have hj' : j < d'.size := by simpa using hj
    have hi' : i < d'.size := by simpa using hi
    have := h2 i j (Nat.zero_le _) hij (by rw [← hz]; exact hj')
    rw [cmpI_lt, getElem!_pos d' j hj', getElem!_pos d' i hi'] at this
    simpa [nb] using this
def sF : AV := .v (.func (.func fItems1) #[] #[])
theorem sort_tri (l L : List It) (c : Cp) (h0 : 0 < l.length) (hb : l.length < 4611686018427387904) (hp : l.Perm L) (hs : Sortd L) : Tri Try.prog default fSort [.slice 0 0 l.length 3 c, sF] [(0, .cells (rowV enc l) tIt)] (.tuple []) [(0, .cells (rowV enc L) tIt)] := by
  intro W0 F N w vargs _ hN r hv
  have hfo : ∀ o : AO, (heapOf [(0, o)]).find 0 = some o := fun o => by
    rw [find_heapOf (by kernel_rfl), getO, if_pos rfl]
  have hfn : ∀ (o : AO) i, i ≠ 0 → (heapOf [(0, o)]).find i = none := fun o i hi => by
    rw [find_heapOf (by kernel_rfl), getO, if_neg hi]; rfl
  simp only [VRs, sF] at hv
  obtain ⟨y1, r1, hy1, ⟨y2, r2, hy2, rfl, rfl⟩, hvl⟩ := hv
  obtain rfl : vargs = #[y1, y2] := by cases vargs; simp_all
  simp only [VR] at hy1 hy2
  obtain ⟨p, x, cc, q1, rfl, q3, q4, q5, q6⟩ := hy1
  subst hy2
  obtain ⟨D, hO⟩ := r.obj (hfo _)
  obtain ⟨p', arr, fz, g1, g2, g3, g4, g5, g6, g7, g8⟩ := hO
  obtain rfl : p' = p := by rw [q1] at g1; cases g1; rfl
  obtain ⟨g9, rfl⟩ := g8 (by decide)
  rw [rowV_length enc_length] at g5 g7
  have hx : x = 0 := by
    rcases q3 with h | h
    · rw [h, g9]
    · omega
  subst hx
  rw [g9, List.drop_zero] at g7
  have hcells : arr.toList.take (l.length * 3) = l.flatMap enc := VRs.of_vmap g7
  have hsz : l.length * 3 ≤ arr.size := by omega
  have hcell : ∀ j, j < l.length * 3 → arr[j]? = (l.flatMap enc)[j]? := fun j hj => by
    rw [← hcells, List.getElem?_take_of_lt hj]; simp
  have hH : HoldsK enc 3 w p'.blk 0 l.toArray := by
    intro j hj
    have hj' : j < l.length * 3 := by simpa using hj
    have := flat_get l.toArray j (by simpa using hj')
    simp only [World.cell?, World.frozen?, g3, Nat.zero_add]
    refine ⟨?_, by simp⟩
    show arr[j]? = _
    rw [hcell j hj']
    exact this
  have hlt : p'.blk < w.heap.size := (Array.getElem?_eq_some_iff.1 g3).1
  have eg : ∀ args w, (callFunc fItems1 args).run Try.prog w = .ok (.enter fItems1 args) w := enters_of Try.func22 (by kernel_rfl) rfl
  have hcon := AnyQ.slices_SortFunc Try.sortIt 3 Try.isAgg27 Try.sizeOf27 enc enc_length (fun x v hv => by simp [enc] at hv; rcases hv with rfl | rfl | rfl <;> rfl) cmpI swo_ahead fItems1 #[] p'.blk 0 cc l.toArray w eg (cmpLays p'.blk 0 l.toArray.size w) hH hlt (by simpa using hb)
  change Calls Try.prog fSort _ _ _ at hcon
  have hsl : l.toArray.size = l.length := by simp
  rw [hsl] at hcon
  refine hcon.mono ?_
  rintro e w' ⟨rfl, d', n, os, k1, k2, rfl⟩
  have hd : d'.toList = L := sorted_is hp hs (by rw [hsl]; exact k1) (by rw [hsl]; exact k2)
  have hds : d'.size = l.length := by rw [← hsl]; exact k1.1
  have hLl : L.length = l.length := hp.length_eq.symm
  refine ⟨.tuple #[], rfl, N, fun i _ => rfl, fun j hj hg => hN j hj ?_, ?_, ?_⟩
  · have e : j ≠ 0 := by omega
    rw [getO, if_neg e]; rfl
  · refine Rep.heap (Rep.turn (o' := .cells (rowV enc L) tIt) r (hfo _) rfl rfl rfl fun D hD => ?_) fun i => ?_
    · obtain ⟨p2, arr2, fz2, d1, d2, d3, d4, d5, d6, d7, d8⟩ := hD
      obtain rfl : p2 = p' := by rw [q1] at d1; cases d1; rfl
      rw [g3] at d3
      have hheap : ∀ b, b < w.heap.size → (sortWorldK enc 3 w p2.blk 0 n d' os).heap[b]? = (w.heap.modify p2.blk (onCells (putCells id 0 (flatK enc 3 d'))))[b]? := fun b hb => by
        show (w.heap.modify _ _ ++ os)[b]? = _
        rw [Array.getElem?_append_left (by simpa using hb)]
      refine ⟨fun b hb hnb => ?_, D, ⟨p2, putCells id 0 (flatK enc 3 d') arr, (0, 0), q1, d2, ?_, ?_, ?_, Or.inl rfl, ?_, fun _ => ⟨g9, rfl⟩⟩, fun b hb => Or.inl hb⟩
      · have hne : p2.blk ≠ b := fun e => hnb ((d2 b).2 e.symm)
        rw [hheap b hb, Array.getElem?_modify, if_neg hne]
      · rw [hheap _ hlt, Array.getElem?_modify, if_pos rfl, g3]; rfl
      · simpa [putCells] using g4
      · rw [rowV_length enc_length, hLl]; exact g5
      · rw [rowV_length enc_length, hLl, g9, List.drop_zero]
        have : (putCells id 0 (flatK enc 3 d') arr).toList.take (l.length * 3) = L.flatMap enc := by
          apply List.ext_getElem?
          intro j
          by_cases hj : j < l.length * 3
          · rw [List.getElem?_take_of_lt hj, ← hd, flat_get d' j (by rw [hds]; exact hj), Array.getElem?_toList, putCells, Array.getElem?_mapIdx, Array.getElem?_eq_getElem (by omega)]
            have hc : 0 ≤ j ∧ j < 0 + (flatK enc 3 d').size := ⟨Nat.zero_le _, by rw [size_flatK, hds]; omega⟩
            simp only [Option.map_some, if_pos hc, Nat.sub_zero, id]
          · rw [List.getElem?_eq_none (by rw [List.length_take]; omega), List.getElem?_eq_none (by rw [flat_len, hLl]; omega)]
        rw [this]
        exact VRs.vmap _
    · rw [T.find_set (by decide)]
      by_cases hi : i = 0
      · subst hi; rw [if_pos rfl, hfo]; rfl
      · rw [if_neg hi, hfn _ _ hi, hfn _ _ hi]
  · simp [VRs, VR]
end Go.Proofs.Ytcpijmlaglcblaa.Rk

/- A Line's Items: runs. -/
set_option linter.unusedVariables false
set_option linter.unusedSimpArgs false
set_option maxRecDepth 100000
namespace Go.Proofs.Ytcpijmlaglcblaa.Rk
open Go Go.RowKit Go.Proofs.Ytcpijmlaglcblaa.Eng
noncomputable section
abbrev fLItems : Nat := 12
def cSort (l L : List It) : List AV → Option (AP AV) := fun args => match args with
  | [.slice i 0 n 3 c, .v f] => some (.need (n = l.length) (useC (fun _ => i) [.slice 0 0 l.length 3 c, sF] args [(0, .cells (rowV enc l) tIt)] (.leaf .ret [.tuple []] [(0, .cells (rowV enc L) tIt)])))
  | _ => some (.fail "sort")
def cSort0 : List AV → Option (AP AV) := fun args => match args with
  | [.v (.slice none 0 0), .v f] => some (useC (fun i => i) [.v (.slice none 0 0), sF] args [] (.leaf .ret [.tuple []] []))
  | _ => some (.fail "sort")
theorem oLItems_eq (s : Ps) (L : List It) (F : HP) : oRun [(fSort, cSort s.xs L)] noHints [] fLItems [.ptr 0 0] (pL s) [0, 1001, 1002, 1100, 1101, 1102] F = VT.ite false (VT.bad "sort") (VT.leaf (AV.slice 1101 0 (0 + s.xs.length) 3 (Cp.lo (0 + s.xs.length))) [some (AO.cells [AV.slice 1001 0 s.xs.length 3 (Cp.lo (s.xs.length + s.g.length)), AV.map 1002] 100), some (AO.cells (rowV enc (s.xs ++ s.g)) 54), some (AO.map (mE iv s.m) s.ck), some (AO.cells [] 54), some (AO.cells (AV.rens (sgN (fun x => 1101) [] 0) (rowV enc L)) 54), none] 1102 (((Cnd.p (true = true)).a Cnd.t).a ((((Cnd.p (s.xs.length.ble s.xs.length = true)).a ((Cnd.p ((List.take (s.xs.length * 3) (List.drop 0 (rowV enc (s.xs ++ s.g)))).length.beq (s.xs.length * 3) = true)).a ((Cnd.p ((List.take (s.xs.length * 3) (List.drop 0 (rowV enc (s.xs ++ s.g)))).all AV.one = true)).a ((Cnd.p (Nat.blt 0 s.xs.length = true)).a ((Cnd.p (true = true)).a ((Cnd.p (((0 + s.xs.length) * 24).ble 140737488355328 = true)).a ((Cnd.p ((0 + s.xs.length).ble 9223372036854775807 = true)).a ((Cnd.p (true = true)).a ((Cnd.p (Nat.blt 0 (0 + s.xs.length) = true)).a Cnd.t))))))))).a Cnd.t).a (((Cnd.p (0 + s.xs.length = s.xs.length)).a ((Cnd.p (VW [AV.slice 1101 0 (0 + s.xs.length) 3 (Cp.lo (0 + s.xs.length)), AV.v (Value.func (Fn.func 22) (Array.mk []) (Array.mk []))] [AV.slice 1101 0 s.xs.length 3 (Cp.lo (0 + s.xs.length)), AV.v (Value.func (Fn.func 22) (Array.mk []) (Array.mk []))])).a ((Cnd.p (OW (AO.cells ([] ++ List.take (s.xs.length * 3) (List.drop 0 (rowV enc (s.xs ++ s.g)))) 54) (AO.cells (AV.rens (fun x => 1101) (rowV enc s.xs)) 54))).a Cnd.t))).a Cnd.t)))) := by kernel_rfl
theorem oLItems0_eq (F : HP) : oRun [(fSort, cSort0)] noHints [] fLItems [.ptr 0 0] pL0 [0, 1002] F = VT.ite true (VT.leaf (AV.v (Value.slice none 0 0)) [some (AO.cells [AV.v (Value.slice none 0 0), AV.map 1002] 100), some (AO.map [] 0)] 1100 (((Cnd.p (true = true)).a Cnd.t).a (((Cnd.p (VW [AV.v (Value.slice none 0 0), AV.v (Value.func (Fn.func 22) (Array.mk []) (Array.mk []))] [AV.v (Value.slice none 0 0), AV.v (Value.func (Fn.func 22) (Array.mk []) (Array.mk []))])).a Cnd.t).a Cnd.t))) (VT.bad "sort") := by kernel_rfl
end
end Go.Proofs.Ytcpijmlaglcblaa.Rk

/- A Line's Items: contracts. -/
set_option linter.unusedVariables false
set_option linter.unusedSimpArgs false
set_option maxRecDepth 100000
namespace Go.Proofs.Ytcpijmlaglcblaa.Rk
open Go Go.RowKit Go.Proofs.Ytcpijmlaglcblaa.Eng
theorem cSort_ok (l L : List It) (h0 : 0 < l.length) (hb : l.length < 4611686018427387904) (hp : l.Perm L) (hs : Sortd L) (F : HP) : C1OK Try.prog F fSort (cSort l L) := by
  intro st W0 N h w args vargs v h' n n' lg lg' c p hp1 he hc r ha hf
  unfold cSort at hp1
  split at hp1
  · rename_i i m cp f
    cases hp1
    obtain ⟨c0, he0, rfl⟩ := run_need he
    obtain ⟨hn, hc0⟩ := (Cnd.and_iff _ _).1 hc
    have hcl : ClosedC [.slice 0 0 l.length 3 cp, sF] [(0, .cells (rowV enc l) tIt)] [.tuple []] [(0, .cells (rowV enc L) tIt)] := ⟨rfl, rfl, ⟨rfl, trivial, trivial⟩, (fun x hx => by simp only [List.mem_singleton] at hx; subst hx; exact cls_rowV _ _), ⟨trivial, trivial⟩, fun x hx => by simp only [List.mem_singleton] at hx; subst hx; exact cls_rowV _ _⟩
    exact useC_ok oldDef (sort_tri l L cp h0 hb hp hs) rfl hcl he0 hc0 r ha hf
  · cases hp1
    exact (inv_fail he).elim
theorem sort0_tri : Tri Try.prog default fSort [.v (.slice none 0 0), sF] [] (.tuple []) [] := by
  intro W0 F N w vargs _ hN r hv
  simp only [VRs, sF] at hv
  obtain ⟨y1, r1, hy1, ⟨y2, r2, hy2, rfl, rfl⟩, hvl⟩ := hv
  obtain rfl : vargs = #[y1, y2] := by cases vargs; simp_all
  simp only [VR] at hy1 hy2
  subst hy1 hy2
  have hcon := AnyF.slices_SortFunc_none Try.sortIt none 0 (.func (.func fItems1) #[] #[]) w
  change Calls Try.prog fSort _ _ _ at hcon
  refine hcon.mono ?_
  rintro e w' ⟨rfl, rfl⟩
  exact ⟨.tuple #[], rfl, N, fun i _ => rfl, hN, r, by simp [VRs, VR]⟩
theorem cSort0_ok (F : HP) : C1OK Try.prog F fSort cSort0 := by
  intro st W0 N h w args vargs v h' n n' lg lg' c p hp1 he hc r ha hf
  unfold cSort0 at hp1
  split at hp1
  · rename_i f
    cases hp1
    have hcl : ClosedC [.v (.slice none 0 0), sF] [] [.tuple []] [] := ⟨rfl, rfl, ⟨trivial, trivial, trivial⟩, (fun x hx => by cases hx), ⟨trivial, trivial⟩, fun x hx => by cases hx⟩
    exact useC_ok oldDef sort0_tri rfl hcl he hc r ha hf
  · cases hp1
    exact (inv_fail he).elim
theorem items_tri (s : Ps) (L : List It) (hP : PI s) (h0 : 0 < s.xs.length) (hp : s.xs.Perm L) (hs : Sortd L) : Tri Try.prog default fLItems [.ptr 0 0] [(0, pO s)] (.slice 1000 0 L.length 3 (.lo L.length)) [(0, pO s), (1000, .cells (rowV enc L) tIt)] := by
  have hb := hP.big
  have hL : L.length = s.xs.length := hp.length_eq.symm
  have hx : List.take (s.xs.length * 3) (List.drop 0 (rowV enc (s.xs ++ s.g))) = rowV enc s.xs := by
    rw [List.drop_zero, rowV_take enc_length]; simp
  refine open_pile (tri_run (con := [(fSort, cSort s.xs L)]) (hints := noHints) (lc := []) [0, 1001, 1002, 1100, 1101, 1102] rfl (one_ok (cSort_ok s.xs L h0 (by omega) hp hs)) noL fun F => ?_)
  rw [oLItems_eq]
  refine ⟨fun h => (by cases h), fun _ => ⟨?_, ?_⟩⟩
  · rw [hx]
    simp only [Cnd.holds, List.nil_append, Nat.zero_add]
    and_intros
    all_goals first | exact trivial | exact VW.refl _ | exact OW.of_eq (by rw [rens_rowV]) | rfl | exact one_rowV (fun _ => rfl) _ | (simp only [rowV_length enc_length, Nat.beq_refl]) | (simp only [Nat.ble_eq, Nat.blt_eq]; omega)
  · have hgo : Goes [AV.slice 1000 0 L.length 3 (.lo L.length)] (pL s ++ [(1000, .cells (rowV enc L) tIt)]) [AV.slice 1000 0 L.length 3 (.lo L.length)] ((0, pO s) :: [(1000, .cells (rowV enc L) tIt)]) :=
      Goes.shut (σ := Unit) (R := fun _ => True) (L := fun _ => pL s) (m := .pile s) (H0 := [(1000, .cells (rowV enc L) tIt)]) () trivial rfl ⟨_, _, rfl, rfl⟩ ⟨rfl, trivial⟩ (fun x hx => by simp only [List.mem_singleton] at hx; subst hx; exact cls_rowV _ _)
    refine ⟨[.slice 1000 0 L.length 3 (.lo L.length)], (pL s ++ [((1000 : Nat), AO.cells (rowV enc L) tIt)] : LH), [(1001, 1001), (1002, 1002), (1000, 1101)], rfl, fit_mk _ (by kernel_rfl) (by kernel_rfl) ?_ ⟨⟨_, rfl, OW.refl _⟩, ⟨_, rfl, OW.of_eq ?_⟩, ⟨_, rfl, OW.of_eq ?_⟩, ⟨_, rfl, OW.of_eq ?_⟩, trivial⟩, hgo⟩
    · rw [hL, Nat.zero_add]; exact VW.refl _
    · show AO.cells _ _ = AO.cells (AV.rens _ _) _
      rw [rens_rowV]
    · show AO.map _ _ = AO.map (renE _ _) _
      rw [renE_mE]
    · show AO.cells (AV.rens _ _) _ = AO.cells (AV.rens _ _) _
      rw [rens_rowV, rens_rowV]
theorem items0_tri : Tri Try.prog default fLItems [.ptr 0 0] [(0, pO0)] (.v (.slice none 0 0)) [(0, pO0)] := by
  refine open_pile0 (tri_run (con := [(fSort, cSort0)]) (hints := noHints) (lc := []) [0, 1002] rfl (one_ok cSort0_ok) noL fun F => ?_)
  rw [oLItems0_eq]
  refine ⟨fun _ => ⟨?_, fits_pile0 [(1002, 1002)] (by kernel_rfl) (by kernel_rfl) (VW.refl _) ⟨trivial, trivial⟩ ⟨⟨_, rfl, OW.refl _⟩, ⟨_, rfl, OW.refl _⟩, trivial⟩⟩, fun h => (by cases h)⟩
  simp only [Cnd.holds]
  and_intros
  all_goals first | exact trivial | exact VW.refl _ | rfl
end Go.Proofs.Ytcpijmlaglcblaa.Rk

/- Items on a Line whole. -/
set_option linter.unusedVariables false
set_option linter.unusedSimpArgs false
set_option maxRecDepth 100000
namespace Go.Proofs.Ytcpijmlaglcblaa.Rk
open Go Go.RowKit Go.Proofs.Ytcpijmlaglcblaa.Eng
theorem goes_ow2 {vs : List AV} {i : Nat} {o o' : AO} {H0 : LH} (hb : ∀ a, namesLt T.limit ((i, a) :: H0) = true) (h : OW o o') : Goes vs ((i, o) :: H0) vs ((i, o') :: H0) := by
  intro W0 F N ys w ⟨N', g1, g2, r, hv⟩
  have hf : ∀ (a : AO) j, (heapOf ((i, a) :: H0)).find j = if j = i then some a else getO H0 j := fun a j => by
    rw [find_heapOf (hb a), getO]
  refine ⟨N', g1, fun j hj hg => g2 j hj ?_, ?_, hv⟩
  · rw [getO] at hg ⊢
    split at hg
    · cases hg
    · rename_i e; rw [if_neg e]; exact hg
  · obtain ⟨D0, D, h1, h2, h3⟩ := r.sat
    have q : ∀ j b, (heapOf ((i, o') :: H0)).find j = some b → ∃ b2, (heapOf ((i, o) :: H0)).find j = some b2 := fun j b hj => by
      rw [hf] at hj ⊢
      split at hj
      · rename_i e; exact ⟨o, by rw [if_pos e]⟩
      · rename_i e; exact ⟨b, by rw [if_neg e]; exact hj⟩
    refine ⟨r.os, r.tape, r.output, D0, D, h1, fun j b hj => ?_, fun j k b b' hj hk hjk => ?_⟩
    · rw [hf] at hj
      split at hj
      · rename_i e; cases hj; subst e
        have := h2 j o (by rw [hf, if_pos rfl])
        exact ⟨h _ _ _ _ this.1, this.2⟩
      · rename_i e; exact h2 j b (by rw [hf, if_neg e]; exact hj)
    · obtain ⟨b2, hb2⟩ := q j b hj
      obtain ⟨b3, hb3⟩ := q k b' hk
      exact h3 j k b2 b3 hb2 hb3 hjk
/-- Where there is one item at least. -/
theorem Aitems_tri (L : List It) (hL : L ≠ []) : Tri Try.prog default fLItems [.ptr 0 0] [(0, lO L)] (.slice 1000 0 L.length 3 (.lo L.length)) [(0, lO L), (1000, .cells (rowV enc L) tIt)] := by
  refine open_line ⟨rfl, trivial⟩ (fun s hs => ?_) (fun e => absurd e hL)
  have h0 : 0 < s.xs.length := by
    rw [hs.len]
    exact List.length_pos_iff.2 hL
  exact Tri.post (items_tri s L hs.pi h0 hs.perm.symm hs.sorted) (goes_ow2 (fun _ => rfl) (ow_line hs))
end Go.Proofs.Ytcpijmlaglcblaa.Rk

/- An item taken out and put back stands where it stood. No program. -/
set_option linter.unusedVariables false
set_option linter.unusedSimpArgs false
set_option maxRecDepth 100000
namespace Go.Proofs.Ytcpijmlaglcblaa.Rk
open Go Go.RowKit Go.Proofs.Ytcpijmlaglcblaa.Eng
def Uniq (L : List It) : Prop := ∀ y ∈ L, ∀ z ∈ L, y.b = z.b → y = z
theorem sorted_eq {A B : List It} (hp : A.Perm B) (ha : Sortd A) (hb : Sortd B) : A = B :=
  List.Perm.eq_of_pairwise (le := fun a b => ahead a b = true) (fun a b _ _ h1 h2 => by
    have := ahead_trans h1 h2
    rw [ahead_irrefl] at this; cases this) ha hb hp
theorem upTo_uniq (items : List It) : ∀ k, k ≤ items.length → Uniq (upTo items k)
  | 0, _ => by intro y hy; simp [upTo] at hy
  | k + 1, h => by
    rw [upTo_succ items k (by omega)]
    have ih := upTo_uniq items k (by omega)
    unfold putL
    cases hs : hasSeq (items.getD k It.zero).b (upTo items k) with
    | true => exact ih
    | false =>
      have hne : ∀ y ∈ upTo items k, y.b ≠ (items.getD k It.zero).b := fun y hy e => by
        have := List.any_eq_false.1 hs y hy
        exact this (by simp [e])
      intro y hy z hz e
      rcases List.mem_cons.1 ((ins_perm _ _).subset hy) with rfl | hy
      · rcases List.mem_cons.1 ((ins_perm _ _).subset hz) with rfl | hz
        · rfl
        · exact absurd e.symm (hne z hz)
      · rcases List.mem_cons.1 ((ins_perm _ _).subset hz) with rfl | hz
        · exact absurd e (hne y hy)
        · exact ih y hy z hz e
theorem find_has {k : Int} {L : List It} (h : hasSeq k L = true) : findI k L ∈ L ∧ (findI k L).b = k := by
  obtain ⟨y, hy, hb⟩ := List.any_eq_true.1 h
  rw [findI]
  cases hf : L.find? (fun y => y.b == k) with
  | none => exact absurd hb (List.find?_eq_none.1 hf y hy)
  | some z => exact ⟨List.mem_of_find?_eq_some hf, by have := List.find?_some hf; simpa using this⟩
theorem put_back {k : Int} {L : List It} (hu : Uniq L) (hs : Sortd L) (h : hasSeq k L = true) : hasSeq (findI k L).b (remK k L) = false ∧ putL (remK k L) (findI k L) = L ∧ (remK k L).length + 1 = L.length := by
  obtain ⟨h1, h2⟩ := find_has h
  have hp := remK_perm hu (sorted_nodup hs) h1 h2
  have hne : ∀ y ∈ remK k L, y.b ≠ (findI k L).b := fun y hy e => by
    have := (List.mem_filter.1 hy).2
    rw [e, h2] at this
    simp at this
  have h3 : hasSeq (findI k L).b (remK k L) = false := by
    rw [hasSeq, List.any_eq_false]
    intro y hy
    simpa using hne y hy
  refine ⟨h3, ?_, ?_⟩
  · rw [putL, h3]
    exact sorted_eq ((ins_perm _ _).trans hp.symm) (ins_sorted (hs.filter _) hne) hs
  · have := hp.length_eq
    rw [List.length_cons] at this
    exact this.symm
theorem not_there {k : Int} {L : List It} (h : hasSeq k L = false) : remK k L = L ∧ findI k L = It.zero := by
  have h1 := List.any_eq_false.1 h
  refine ⟨List.filter_eq_self.2 fun x hx => by simpa using h1 x hx, ?_⟩
  rw [findI, List.find?_eq_none.2 fun x hx => h1 x hx]; rfl
/-- What has been put in: a pile yet without items, or a Line. -/
noncomputable def lA : List It → AO
  | [] => pO0
  | x :: L => lO (x :: L)
theorem putL_ne (L : List It) (x : It) : putL L x ≠ [] := by
  intro e
  have h1 := putL_len L x
  rw [e] at h1
  cases hs : hasSeq x.b L with
  | true => rw [hs, if_pos rfl] at h1; cases L with
    | nil => cases hs
    | cons y L => cases h1
  | false => rw [hs, if_neg Bool.false_ne_true] at h1; cases h1
theorem lA_ne {L : List It} (h : L ≠ []) : lA L = lO L := by
  cases L with
  | nil => exact absurd rfl h
  | cons x L => rfl
theorem APut_tri (L : List It) (x : It) (hR : RoomL L) : Tri Try.prog default fLPut [.ptr 0 0, itA x] [(0, lA L)] (.v (.bool (!hasSeq x.b L))) [(0, lA (putL L x))] := by
  rw [lA_ne (putL_ne L x)]
  cases L with
  | nil =>
    refine Tri.post (lput0_tri x) (goes_ow (by decide) ?_)
    have := AbsS.empty.push (by show (0 + 1) * 24 ≤ _; omega) x rfl
    have e : hpushS emptyS x = pushS emptyS x := upS_zero _
    rw [e] at this
    exact ow_line this
  | cons y L => exact Aput_tri (y :: L) x hR
theorem ATake_tri (L : List It) (k : Int) : Tri Try.prog default fLTake [.ptr 0 0, iv k] [(0, lA L)] (.tuple [itA (findI k L), .v (.bool (hasSeq k L))]) [(0, match L with | [] => pO0 | L => lO (remK k L))] := by
  cases L with
  | nil => exact ltake0_tri k
  | cons y L => exact Atake_tri (y :: L) k
end Go.Proofs.Ytcpijmlaglcblaa.Rk

/- ref.Same: runs. -/
set_option linter.unusedVariables false
set_option linter.unusedSimpArgs false
set_option maxRecDepth 100000
namespace Go.Proofs.Ytcpijmlaglcblaa.Rk
open Go Go.RowKit Go.Proofs.Ytcpijmlaglcblaa.Eng
noncomputable section
abbrev fSame : Nat := 14
def aSame (n i : Nat) : List (Nat × AV) := [(0, .slice 0 0 n 3 (.lo n)), (1, .slice 1 0 n 3 (.lo n)), (5, iv (Int.ofNat i))]
def hSame (i : Nat) (x : It) : ClaimT := hintL [(fSame, 6, 3, hv (itA x)), (fSame, 6, 7, hv (itA x)), (fSame, 6, 8, hv (.lit false)), (fSame, 5, 1, hv (iv (Int.ofNat (i + 1))))]
theorem oLoopSame_eq (L : List It) (i : Nat) (x : It) (F : HP) : wLoop [] (hSame i x) [] default fSame (loopN fSame 4) (tms 0 26 (aSame L.length i)) [(0, .cells (rowV enc L) tIt), (1, .cells (rowV enc L) tIt)] [0, 1] [0, 1, 5] F = VT.ite (decide (Int.ofNat i < ↑L.length)) (VT.leaf (AX.normal, [AV.slice 0 0 L.length 3 (Cp.lo L.length), AV.slice 1 0 L.length 3 (Cp.lo L.length), AV.v (Value.int IntKind.i64 (Int.ofNat (i + 1)))], 26) [some (AO.cells (rowV enc L) 54), some (AO.cells (rowV enc L) 54)] 1100 (((Cnd.p (i.blt L.length = true)).a Cnd.t).a (((Cnd.p ((List.take 3 (List.drop (0 + i * 3) (rowV enc L))).length.beq 3 = true)).a ((Cnd.p (List.take 3 (List.drop (0 + i * 3) (rowV enc L)) = [AV.v (Value.int IntKind.i64 ((List.take 3 (List.drop (0 + i * 3) (rowV enc L))).getD 0 (AV.v (Value.tuple (Array.mk [])))).intOf), AV.v (Value.int IntKind.i64 ((List.take 3 (List.drop (0 + i * 3) (rowV enc L))).getD 1 (AV.v (Value.tuple (Array.mk [])))).intOf), AV.v (Value.int IntKind.i64 ((List.take 3 (List.drop (0 + i * 3) (rowV enc L))).getD 2 (AV.v (Value.tuple (Array.mk [])))).intOf)])).a ((Cnd.p (Wk (AV.agg [AV.v (Value.int IntKind.i64 ((List.take 3 (List.drop (0 + i * 3) (rowV enc L))).getD 0 (AV.v (Value.tuple (Array.mk [])))).intOf), AV.v (Value.int IntKind.i64 ((List.take 3 (List.drop (0 + i * 3) (rowV enc L))).getD 1 (AV.v (Value.tuple (Array.mk [])))).intOf), AV.v (Value.int IntKind.i64 ((List.take 3 (List.drop (0 + i * 3) (rowV enc L))).getD 2 (AV.v (Value.tuple (Array.mk [])))).intOf)]) (AV.agg [AV.v (Value.int IntKind.i64 x.a), AV.v (Value.int IntKind.i64 x.b), AV.v (Value.int IntKind.i64 x.c)]))).a Cnd.t))).a (((Cnd.p (i.blt L.length = true)).a Cnd.t).a (((Cnd.p ((List.take 3 (List.drop (0 + i * 3) (rowV enc L))).length.beq 3 = true)).a ((Cnd.p (List.take 3 (List.drop (0 + i * 3) (rowV enc L)) = [AV.v (Value.int IntKind.i64 ((List.take 3 (List.drop (0 + i * 3) (rowV enc L))).getD 0 (AV.v (Value.tuple (Array.mk [])))).intOf), AV.v (Value.int IntKind.i64 ((List.take 3 (List.drop (0 + i * 3) (rowV enc L))).getD 1 (AV.v (Value.tuple (Array.mk [])))).intOf), AV.v (Value.int IntKind.i64 ((List.take 3 (List.drop (0 + i * 3) (rowV enc L))).getD 2 (AV.v (Value.tuple (Array.mk [])))).intOf)])).a ((Cnd.p (Wk (AV.agg [AV.v (Value.int IntKind.i64 ((List.take 3 (List.drop (0 + i * 3) (rowV enc L))).getD 0 (AV.v (Value.tuple (Array.mk [])))).intOf), AV.v (Value.int IntKind.i64 ((List.take 3 (List.drop (0 + i * 3) (rowV enc L))).getD 1 (AV.v (Value.tuple (Array.mk [])))).intOf), AV.v (Value.int IntKind.i64 ((List.take 3 (List.drop (0 + i * 3) (rowV enc L))).getD 2 (AV.v (Value.tuple (Array.mk [])))).intOf)]) (AV.agg [AV.v (Value.int IntKind.i64 x.a), AV.v (Value.int IntKind.i64 x.b), AV.v (Value.int IntKind.i64 x.c)]))).a Cnd.t))).a (((Cnd.p (EqSem Try.prog 27 (Array.mk [Value.int IntKind.i64 x.a, Value.int IntKind.i64 x.b, Value.int IntKind.i64 x.c]) (Array.mk [Value.int IntKind.i64 x.a, Value.int IntKind.i64 x.b, Value.int IntKind.i64 x.c]) (valsQ [Value.int IntKind.i64 x.a, Value.int IntKind.i64 x.b, Value.int IntKind.i64 x.c] [Value.int IntKind.i64 x.a, Value.int IntKind.i64 x.b, Value.int IntKind.i64 x.c]))).a ((Cnd.p (Wk (AV.v (Value.bool !valsQ [Value.int IntKind.i64 x.a, Value.int IntKind.i64 x.b, Value.int IntKind.i64 x.c] [Value.int IntKind.i64 x.a, Value.int IntKind.i64 x.b, Value.int IntKind.i64 x.c])) (AV.lit false))).a Cnd.t)).a (((Cnd.p (Wk (AV.v (Value.int IntKind.i64 (IntKind.i64.wrap (Int.ofNat i + Int.ofNat 1)))) (AV.v (Value.int IntKind.i64 (Int.ofNat (i + 1)))))).a Cnd.t).a Cnd.t))))))) (VT.leaf (AX.exit 0, [AV.slice 0 0 L.length 3 (Cp.lo L.length), AV.slice 1 0 L.length 3 (Cp.lo L.length), AV.v (Value.int IntKind.i64 (Int.ofNat i))], 26) [some (AO.cells (rowV enc L) 54), some (AO.cells (rowV enc L) 54)] 1100 Cnd.t) := by kernel_rfl
def sameLc (L : List It) : List AV → AP (AX × List AV) := fun tmps => match getL tmps 0 with
  | .slice r0 _ _ _ _ => match getL tmps 1 with
    | .slice r1 _ _ _ _ => useG (nm3 r0 r1 r1) (tms 0 26 (aSame L.length 0)) tmps [(0, .cells (rowV enc L) tIt), (1, .cells (rowV enc L) tIt)] (.leaf (.exit 0) (tms 0 26 (aSame L.length L.length)) [(0, .cells (rowV enc L) tIt), (1, .cells (rowV enc L) tIt)])
    | _ => .fail "same"
  | _ => .fail "same"
def hSameL (n : Nat) : ClaimT := hintL [(fSame, 1, 1, hv (iv (Int.ofNat n))), (fSame, 1, 3, hv (iv (Int.ofNat n))), (fSame, 1, 4, hv (.lit false))]
theorem oSame_eq (L : List It) (F : HP) : oRun [] (hSameL L.length) [(fSame, 4, loopN fSame 4, sameLc L)] fSame [.slice 0 0 L.length 3 (.lo L.length), .slice 1 0 L.length 3 (.lo L.length)] [(0, .cells (rowV enc L) tIt), (1, .cells (rowV enc L) tIt)] [0, 1] F = VT.leaf (AV.v (Value.bool true)) [some (AO.cells (AV.rens (sgN (nm3 0 1 1) [] 0) (rowV enc L)) 54), some (AO.cells (AV.rens (sgN (nm3 0 1 1) [] 0) (rowV enc L)) 54)] 1100 (((Cnd.p (Wk (AV.v (Value.int IntKind.i64 ↑L.length)) (AV.v (Value.int IntKind.i64 (Int.ofNat L.length))))).a Cnd.t).a (((Cnd.p (Wk (AV.v (Value.int IntKind.i64 ↑L.length)) (AV.v (Value.int IntKind.i64 (Int.ofNat L.length))))).a Cnd.t).a (((Cnd.p (Wk (AV.v (Value.bool (Int.ofNat L.length != Int.ofNat L.length))) (AV.lit false))).a Cnd.t).a ((Cnd.p ((fSame, 4, loopN fSame 4, sameLc L).snd.snd.fst = (fSame, 4, loopN fSame 4, sameLc L).snd.snd.fst)).a ((Cnd.p (VW [AV.slice 0 0 L.length 3 (Cp.lo L.length), AV.slice 1 0 L.length 3 (Cp.lo L.length), AV.v (Value.tuple (Array.mk [])), AV.v (Value.tuple (Array.mk [])), AV.v (Value.bool false), AV.v (Value.int IntKind.i64 (Int.ofNat 0)), AV.slice 0 0 L.length 3 (Cp.lo L.length), AV.v (Value.int IntKind.i64 (Int.ofNat L.length)), AV.slice 1 0 L.length 3 (Cp.lo L.length), AV.v (Value.int IntKind.i64 (Int.ofNat L.length)), AV.lit false, AV.v (Value.tuple (Array.mk [])), AV.v (Value.tuple (Array.mk [])), AV.v (Value.tuple (Array.mk [])), AV.v (Value.tuple (Array.mk [])), AV.v (Value.tuple (Array.mk [])), AV.v (Value.tuple (Array.mk [])), AV.v (Value.tuple (Array.mk [])), AV.v (Value.tuple (Array.mk [])), AV.v (Value.tuple (Array.mk [])), AV.v (Value.tuple (Array.mk [])), AV.v (Value.tuple (Array.mk [])), AV.v (Value.tuple (Array.mk [])), AV.v (Value.tuple (Array.mk [])), AV.v (Value.tuple (Array.mk [])), AV.v (Value.tuple (Array.mk []))] [AV.slice 0 0 L.length 3 (Cp.lo L.length), AV.slice 1 0 L.length 3 (Cp.lo L.length), AV.any, AV.any, AV.any, AV.v (Value.int IntKind.i64 (Int.ofNat 0)), AV.any, AV.any, AV.any, AV.any, AV.any, AV.any, AV.any, AV.any, AV.any, AV.any, AV.any, AV.any, AV.any, AV.any, AV.any, AV.any, AV.any, AV.any, AV.any, AV.any])).a ((Cnd.p (OW (AO.cells (rowV enc L) 54) (AO.cells (AV.rens (nm3 0 1 1) (rowV enc L)) 54))).a ((Cnd.p (OW (AO.cells (rowV enc L) 54) (AO.cells (AV.rens (nm3 0 1 1) (rowV enc L)) 54))).a Cnd.t))))))) := by kernel_rfl
theorem oSame0_eq (F : HP) : oRun [] noHints [] fSame [.v (.slice none 0 0), .v (.slice none 0 0)] [] [] F = VT.ite false (VT.leaf (AV.v (Value.bool false)) [] 1100 Cnd.t) (VT.ite false (VT.bad "indexAddr") (VT.leaf (AV.v (Value.bool true)) [] 1100 Cnd.t)) := by kernel_rfl
end
end Go.Proofs.Ytcpijmlaglcblaa.Rk

/- ref.Same: contracts. -/
set_option linter.unusedVariables false
set_option linter.unusedSimpArgs false
set_option maxRecDepth 100000
namespace Go.Proofs.Ytcpijmlaglcblaa.Rk
open Go Go.RowKit Go.Proofs.Ytcpijmlaglcblaa.Eng
theorem same_loop (L : List It) (hb : L.length < 9223372036854775807) : LTri Try.prog default (loopN fSame 4) (tms 0 26 (aSame L.length 0)) [(0, .cells (rowV enc L) tIt), (1, .cells (rowV enc L) tIt)] (.exit 0) (tms 0 26 (aSame L.length L.length)) [(0, .cells (rowV enc L) tIt), (1, .cells (rowV enc L) tIt)] := by
  refine ltri_tms (σ := {k : Nat // k ≤ L.length}) (g := fSame) (con := fun _ => conL []) (claim := fun k => hSame k.1 (L.getD k.1 It.zero)) (lcon := fun _ => lconL []) 26 (fun k => aSame L.length k.1) (fun k => [(0, .cells (rowV enc L) tIt), (1, .cells (rowV enc L) tIt)]) (.exit 0) _ _ (fun k => L.length - k.1) [0, 1] [0, 1, 5] 1000 mixed (by intro h; cases h)
    (fun _ => rfl) rfl (fun p F _ => conL_ok rfl fun x hx => by cases hx) (fun p F _ => lconL_ok rfl fun x hx => by cases hx) ?_ ⟨0, Nat.zero_le _⟩
  rintro ⟨k, hk⟩ F _
  show (wLoop [] (hSame k (L.getD k It.zero)) [] default fSame (loopN fSame 4) (tms 0 26 (aSame L.length k)) [(0, .cells (rowV enc L) tIt), (1, .cells (rowV enc L) tIt)] [0, 1] [0, 1, 5] F).all _
  rw [oLoopSame_eq]
  have e : decide (Int.ofNat k < (L.length : Int)) = decide (k < L.length) := nat_lt k L.length
  rw [e]
  have hob : ∀ (l : List (Nat × Nat)), OW (.cells (rowV enc L) tIt) ((AO.cells (rowV enc L) tIt).ren (sg l)) := fun l => OW.of_eq (by
    show AO.cells _ _ = AO.cells (AV.rens _ _) _
    rw [rens_rowV])
  refine ⟨fun h1 => ⟨?_, rfl, .inl ⟨rfl, ⟨k + 1, of_decide_eq_true h1⟩, by have : k < L.length := (by simpa using h1); show L.length - (k + 1) < L.length - k; omega, [], rfl, rfl, ?_, ⟨⟨_, rfl, hob _⟩, ⟨_, rfl, hob _⟩, trivial⟩⟩⟩, fun h1 => ⟨trivial, rfl, .inr ⟨rfl, [], rfl, rfl, ?_, ⟨⟨_, rfl, hob _⟩, ⟨_, rfl, hob _⟩, trivial⟩⟩⟩⟩
  · have h2 : k < L.length := by simpa using h1
    have hr : List.take 3 (List.drop (0 + k * 3) (rowV enc L)) = vmap (enc (L.getD k It.zero)) := by
      rw [Nat.zero_add]; exact rowV_span enc_length L It.zero k h2
    rw [hr]
    have hw2 := wrap_succ k (by omega)
    have hq : valsQ (enc (L.getD k It.zero)) (enc (L.getD k It.zero)) = true := by simp [valsQ, valQ, enc]
    have hwl : Wk (.v (.bool !(valsQ (enc (L.getD k It.zero)) (enc (L.getD k It.zero))))) (.lit false) := by rw [hq]; exact wk_lit false
    have heq := item_eq (L.getD k It.zero) (L.getD k It.zero)
    simp only [Cnd.holds, Nat.blt_eq]
    and_intros
    all_goals first | exact trivial | exact h2 | exact hwl | exact heq | exact Wk.refl _ | exact wk_int hw2 | rfl
  · exact ⟨Wk.refl _, Wk.refl _, Wk.refl _, trivial⟩
  · have h2 : k = L.length := by have : ¬ k < L.length := (by simpa using h1); omega
    subst h2
    exact ⟨Wk.refl _, Wk.refl _, Wk.refl _, trivial⟩
theorem sameLc_ok (L : List It) (hb : L.length < 9223372036854775807) (F : HP) : L1OK Try.prog F (loopN fSame 4) (sameLc L) := by
  intro st W0 N h w tmps tmps' ax a h' n n' lg lg' c' Q he hc r ha hf hK
  unfold sameLc at he
  split at he
  · split at he
    · have hto : ∀ i, ∀ x ∈ aSame L.length i, AV.cl (kH [(0, AO.cells (rowV enc L) tIt), (1, AO.cells (rowV enc L) tIt)]) x.2 := by
        intro i x hx
        simp only [aSame, List.mem_cons, List.not_mem_nil, or_false] at hx
        rcases hx with rfl | rfl | rfl <;> first | trivial | rfl
      have hcl : ClosedC (tms 0 26 (aSame L.length 0)) [(0, .cells (rowV enc L) tIt), (1, .cells (rowV enc L) tIt)] (tms 0 26 (aSame L.length L.length)) [(0, .cells (rowV enc L) tIt), (1, .cells (rowV enc L) tIt)] := by
        refine ⟨rfl, rfl, cls_tms (hto 0) 26 0, ?_, cls_tms ?_ 26 0, ?_⟩
        · intro x hx
          simp only [List.mem_cons, List.not_mem_nil, or_false] at hx
          rcases hx with rfl | rfl <;> exact cls_rowV _ _
        · intro x hx
          simp only [aSame, List.mem_cons, List.not_mem_nil, or_false] at hx
          rcases hx with rfl | rfl | rfl <;> first | trivial | rfl
        · intro x hx
          simp only [RT.pick, List.mem_cons, List.not_mem_nil, or_false] at hx
          rcases hx with rfl | rfl <;> exact cls_rowV _ _
      exact useG_loop oldDef (same_loop L hb) hcl he hc r ha hf hK
    · exact (inv_fail he).elim
  · exact (inv_fail he).elim
theorem same_tri (L : List It) (hb : L.length < 9223372036854775807) : Tri Try.prog default fSame [.slice 0 0 L.length 3 (.lo L.length), .slice 1 0 L.length 3 (.lo L.length)] [(0, .cells (rowV enc L) tIt), (1, .cells (rowV enc L) tIt)] (.v (.bool true)) [(0, .cells (rowV enc L) tIt), (1, .cells (rowV enc L) tIt)] := by
  refine tri_run (con := []) (hints := hSameL L.length) (lc := [(fSame, 4, loopN fSame 4, sameLc L)]) [0, 1] rfl noC (fun x hx F => by simp only [List.mem_singleton] at hx; subst hx; exact sameLc_ok L hb F) fun F => ?_
  rw [oSame_eq]
  have hob : ∀ (σ : Nat → Nat), OW (.cells (rowV enc L) tIt) (.cells (AV.rens σ (rowV enc L)) tIt) := fun l => OW.of_eq (by rw [rens_rowV])
  have hne : (Int.ofNat L.length != Int.ofNat L.length) = false := by simp
  have hwl : Wk (.v (.bool (Int.ofNat L.length != Int.ofNat L.length))) (.lit false) := by rw [hne]; exact wk_lit false
  refine ⟨?_, Go.Proofs.Ytcpijmlaglcblaa.Eng.Fit.fits (l := []) ?_ rfl⟩
  rotate_left
  · refine fit_mk [] (by kernel_rfl) (by kernel_rfl) (VW.refl _) ⟨⟨_, rfl, ?_⟩, ⟨_, rfl, ?_⟩, trivial⟩
    · exact OW.of_eq (by show AO.cells (AV.rens _ _) _ = AO.cells (AV.rens _ _) _; rw [rens_rowV, rens_rowV])
    · exact OW.of_eq (by show AO.cells (AV.rens _ _) _ = AO.cells (AV.rens _ _) _; rw [rens_rowV, rens_rowV])
  · simp only [Cnd.holds]
    and_intros
    all_goals first | exact trivial | exact hwl | exact hob _ | exact Wk.refl _ | rfl | (repeat (first | exact VW.nil | refine VW.cons (Wk.refl _) ?_ | refine VW.cons (Wk.any _) ?_))
theorem same0_tri : Tri Try.prog default fSame [.v (.slice none 0 0), .v (.slice none 0 0)] [] (.v (.bool true)) [] := by
  refine tri_run (con := []) (hints := noHints) (lc := []) [] rfl noC noL fun F => ?_
  rw [oSame0_eq]
  exact ⟨fun h => (by cases h), fun _ => ⟨fun h => (by cases h), fun _ => ⟨trivial, (fit_mk (vs := [.v (.bool true)]) (vs' := [.v (.bool true)]) [] rfl rfl (VW.refl _) (show ObjsOK [] [] [] [] from trivial)).fits rfl⟩⟩⟩
end Go.Proofs.Ytcpijmlaglcblaa.Rk

/- RanksReturns: runs. -/
set_option linter.unusedVariables false
set_option linter.unusedSimpArgs false
set_option maxRecDepth 100000
namespace Go.Proofs.Ytcpijmlaglcblaa.Rk
open Go Go.RowKit Go.Proofs.Ytcpijmlaglcblaa.Eng
noncomputable section
abbrev fRet : Nat := 4
/-- Put, where the Line may be new. -/
def cPutA : List AV → Option (AP AV) := fun args => match args with
  | [.ptr i 0, .agg [.v (.int .i64 a), .v (.int .i64 b), .v (.int .i64 c)]] => some (ownC i fun m => match m with
    | .pile0 => useC (fun _ => i) [.ptr 0 0, itA ⟨a, b, c⟩] args [(0, pO0)] (.leaf .ret [.v (.bool true)] [(0, lO [⟨a, b, c⟩])])
    | .line L => .need (RoomL L) (lineC i [.ptr 0 0, itA ⟨a, b, c⟩] args L (.v (.bool (!hasSeq b L))) (putL L ⟨a, b, c⟩))
    | _ => .fail "line")
  | _ => some (.fail "put")
def aRet (V : AV) (n k : Nat) (q : Int) : List (Nat × AV) := [(0, V), (1, iv q), (5, .ptr 0 0), (16, V), (17, iv (Int.ofNat n)), (18, iv (Int.ofNat k))]
def zRet (V : AV) (q : Int) : List (Nat × AV) := [(0, V), (1, iv q), (5, .ptr 0 0)]
def hRet (k : Nat) (x : It) : ClaimT := hintL [(fRet, 8, 1, hv (itA x)), (fRet, 10, 0, hv (iv (Int.ofNat (k + 1))))]
theorem oLoopRet_eq (W : World) (a : Addr) (n c k : Nat) (q : Int) (x : It) (L : List It) (F : HP) : wLoop [(fLPut, cPutA)] (hRet k x) [] W fRet (loopN fRet 7) (tms 0 57 (aRet (slV (some a) n c) n k q)) [(0, lO L)] [0] [0, 1, 5, 16, 17, 18] F = VT.ite (decide (Int.ofNat k < Int.ofNat n)) (VT.leaf (AX.normal, [AV.v (Value.slice (some a) n c), AV.v (Value.int IntKind.i64 q), AV.ptr 0 0, AV.v (Value.slice (some a) n c), AV.v (Value.int IntKind.i64 (Int.ofNat n)), AV.v (Value.int IntKind.i64 (Int.ofNat (k + 1)))], 57) [some (AO.own (Md.line (putL L (It.mk x.a x.b x.c))) (lH (putL L (It.mk x.a x.b x.c))))] 1101 (((Cnd.p (k.blt n = true)).a Cnd.t).a (((Cnd.p (([0, 1, 2].all fun j => (W.cell? ((a.add (k * 3)).add j)).isSome) = true)).a ((Cnd.p ([AV.v ((W.cell? ((a.add (k * 3)).add 0)).getD (Value.tuple (Array.mk []))), AV.v ((W.cell? (Addr.mk (a.add (k * 3)).block ((a.add (k * 3)).off + 1) none)).getD (Value.tuple (Array.mk []))), AV.v ((W.cell? (Addr.mk (a.add (k * 3)).block ((a.add (k * 3)).off + 2) none)).getD (Value.tuple (Array.mk [])))] = [AV.v (Value.int IntKind.i64 (AV.v ((W.cell? ((a.add (k * 3)).add 0)).getD (Value.tuple (Array.mk [])))).intOf), AV.v (Value.int IntKind.i64 (AV.v ((W.cell? (Addr.mk (a.add (k * 3)).block ((a.add (k * 3)).off + 1) none)).getD (Value.tuple (Array.mk [])))).intOf), AV.v (Value.int IntKind.i64 (AV.v ((W.cell? (Addr.mk (a.add (k * 3)).block ((a.add (k * 3)).off + 2) none)).getD (Value.tuple (Array.mk [])))).intOf)])).a ((Cnd.p (Wk (AV.agg [AV.v (Value.int IntKind.i64 (AV.v ((W.cell? ((a.add (k * 3)).add 0)).getD (Value.tuple (Array.mk [])))).intOf), AV.v (Value.int IntKind.i64 (AV.v ((W.cell? (Addr.mk (a.add (k * 3)).block ((a.add (k * 3)).off + 1) none)).getD (Value.tuple (Array.mk [])))).intOf), AV.v (Value.int IntKind.i64 (AV.v ((W.cell? (Addr.mk (a.add (k * 3)).block ((a.add (k * 3)).off + 2) none)).getD (Value.tuple (Array.mk [])))).intOf)]) (AV.agg [AV.v (Value.int IntKind.i64 x.a), AV.v (Value.int IntKind.i64 x.b), AV.v (Value.int IntKind.i64 x.c)]))).a Cnd.t))).a (((Cnd.p (true = true)).a Cnd.t).a (((Cnd.p (true = true)).a ((Cnd.p ([AV.v (Value.int IntKind.i64 x.a), AV.v (Value.int IntKind.i64 x.b), AV.v (Value.int IntKind.i64 x.c)] = [AV.v (Value.int IntKind.i64 x.a), AV.v (Value.int IntKind.i64 x.b), AV.v (Value.int IntKind.i64 x.c)])).a Cnd.t)).a (((Cnd.p (RoomL L)).a ((Cnd.p (VW [AV.ptr 0 0, AV.agg [AV.v (Value.int IntKind.i64 x.a), AV.v (Value.int IntKind.i64 x.b), AV.v (Value.int IntKind.i64 x.c)]] [AV.ptr 0 0, AV.agg [AV.v (Value.int IntKind.i64 x.a), AV.v (Value.int IntKind.i64 x.b), AV.v (Value.int IntKind.i64 x.c)]])).a ((Cnd.p (OW (AO.own (Md.line L) (lH L)) (AO.own (Md.line L) (lH L)))).a Cnd.t))).a (((Cnd.p (Wk (AV.v (Value.int IntKind.i64 (IntKind.i64.wrap (Int.ofNat k + Int.ofNat 1)))) (AV.v (Value.int IntKind.i64 (Int.ofNat (k + 1)))))).a Cnd.t).a Cnd.t))))))) (VT.leaf (AX.exit 0, [AV.v (Value.slice (some a) n c), AV.v (Value.int IntKind.i64 q), AV.ptr 0 0, AV.v (Value.slice (some a) n c), AV.v (Value.int IntKind.i64 (Int.ofNat n)), AV.v (Value.int IntKind.i64 (Int.ofNat k))], 57) [some (AO.own (Md.line L) (lH L))] 1100 Cnd.t) := by kernel_rfl
theorem oLoopRetA_eq (W : World) (a : Addr) (n c k : Nat) (q : Int) (x : It) (F : HP) : wLoop [(fLPut, cPutA)] (hRet k x) [] W fRet (loopN fRet 7) (tms 0 57 (aRet (slV (some a) n c) n k q)) [(0, pO0)] [0] [0, 1, 5, 16, 17, 18] F = VT.ite (decide (Int.ofNat k < Int.ofNat n)) (VT.leaf (AX.normal, [AV.v (Value.slice (some a) n c), AV.v (Value.int IntKind.i64 q), AV.ptr 0 0, AV.v (Value.slice (some a) n c), AV.v (Value.int IntKind.i64 (Int.ofNat n)), AV.v (Value.int IntKind.i64 (Int.ofNat (k + 1)))], 57) [some (AO.own (Md.line [It.mk x.a x.b x.c]) (lH [It.mk x.a x.b x.c]))] 1101 (((Cnd.p (k.blt n = true)).a Cnd.t).a (((Cnd.p (([0, 1, 2].all fun j => (W.cell? ((a.add (k * 3)).add j)).isSome) = true)).a ((Cnd.p ([AV.v ((W.cell? ((a.add (k * 3)).add 0)).getD (Value.tuple (Array.mk []))), AV.v ((W.cell? (Addr.mk (a.add (k * 3)).block ((a.add (k * 3)).off + 1) none)).getD (Value.tuple (Array.mk []))), AV.v ((W.cell? (Addr.mk (a.add (k * 3)).block ((a.add (k * 3)).off + 2) none)).getD (Value.tuple (Array.mk [])))] = [AV.v (Value.int IntKind.i64 (AV.v ((W.cell? ((a.add (k * 3)).add 0)).getD (Value.tuple (Array.mk [])))).intOf), AV.v (Value.int IntKind.i64 (AV.v ((W.cell? (Addr.mk (a.add (k * 3)).block ((a.add (k * 3)).off + 1) none)).getD (Value.tuple (Array.mk [])))).intOf), AV.v (Value.int IntKind.i64 (AV.v ((W.cell? (Addr.mk (a.add (k * 3)).block ((a.add (k * 3)).off + 2) none)).getD (Value.tuple (Array.mk [])))).intOf)])).a ((Cnd.p (Wk (AV.agg [AV.v (Value.int IntKind.i64 (AV.v ((W.cell? ((a.add (k * 3)).add 0)).getD (Value.tuple (Array.mk [])))).intOf), AV.v (Value.int IntKind.i64 (AV.v ((W.cell? (Addr.mk (a.add (k * 3)).block ((a.add (k * 3)).off + 1) none)).getD (Value.tuple (Array.mk [])))).intOf), AV.v (Value.int IntKind.i64 (AV.v ((W.cell? (Addr.mk (a.add (k * 3)).block ((a.add (k * 3)).off + 2) none)).getD (Value.tuple (Array.mk [])))).intOf)]) (AV.agg [AV.v (Value.int IntKind.i64 x.a), AV.v (Value.int IntKind.i64 x.b), AV.v (Value.int IntKind.i64 x.c)]))).a Cnd.t))).a (((Cnd.p (true = true)).a Cnd.t).a (((Cnd.p (true = true)).a ((Cnd.p ([AV.v (Value.int IntKind.i64 x.a), AV.v (Value.int IntKind.i64 x.b), AV.v (Value.int IntKind.i64 x.c)] = [AV.v (Value.int IntKind.i64 x.a), AV.v (Value.int IntKind.i64 x.b), AV.v (Value.int IntKind.i64 x.c)])).a Cnd.t)).a (((Cnd.p (VW [AV.ptr 0 0, AV.agg [AV.v (Value.int IntKind.i64 x.a), AV.v (Value.int IntKind.i64 x.b), AV.v (Value.int IntKind.i64 x.c)]] [AV.ptr 0 0, AV.agg [AV.v (Value.int IntKind.i64 x.a), AV.v (Value.int IntKind.i64 x.b), AV.v (Value.int IntKind.i64 x.c)]])).a ((Cnd.p (OW (AO.own Md.pile0 pH0) (AO.own Md.pile0 pH0))).a Cnd.t)).a (((Cnd.p (Wk (AV.v (Value.int IntKind.i64 (IntKind.i64.wrap (Int.ofNat k + Int.ofNat 1)))) (AV.v (Value.int IntKind.i64 (Int.ofNat (k + 1)))))).a Cnd.t).a Cnd.t))))))) (VT.leaf (AX.exit 0, [AV.v (Value.slice (some a) n c), AV.v (Value.int IntKind.i64 q), AV.ptr 0 0, AV.v (Value.slice (some a) n c), AV.v (Value.int IntKind.i64 (Int.ofNat n)), AV.v (Value.int IntKind.i64 (Int.ofNat k))], 57) [some (AO.own Md.pile0 pH0)] 1100 Cnd.t) := by kernel_rfl
theorem oLoopRet0_eq (W : World) (c : Nat) (q : Int) (x : It) (F : HP) : wLoop [(fLPut, cPutA)] (hRet 0 x) [] W fRet (loopN fRet 7) (tms 0 57 (aRet (slV none 0 c) 0 0 q)) [(0, pO0)] [0] [0, 1, 5, 16, 17, 18] F = VT.ite false (VT.bad "indexAddr") (VT.leaf (AX.exit 0, [AV.v (Value.slice none 0 c), AV.v (Value.int IntKind.i64 q), AV.ptr 0 0, AV.v (Value.slice none 0 c), AV.v (Value.int IntKind.i64 (Int.ofNat 0)), AV.v (Value.int IntKind.i64 (Int.ofNat 0))], 57) [some (AO.own Md.pile0 pH0)] 1100 Cnd.t) := by kernel_rfl
end
end Go.Proofs.Ytcpijmlaglcblaa.Rk

/- RanksReturns: the loop that puts. -/
set_option linter.unusedVariables false
set_option linter.unusedSimpArgs false
set_option maxRecDepth 100000
namespace Go.Proofs.Ytcpijmlaglcblaa.Rk
open Go Go.RowKit Go.Proofs.Ytcpijmlaglcblaa.Eng
theorem cPutA_ok (F : HP) : C1OK Try.prog F fLPut cPutA := by
  intro st W0 N h w args vargs v h' n n' lg lg' c p hp he hc r ha hf
  unfold cPutA at hp
  split at hp
  · rename_i i a b c
    cases hp
    obtain ⟨m, lg1, he1⟩ := ownC_run he
    split at he1
    · have hcl : ClosedC [.ptr 0 0, itA ⟨a, b, c⟩] [(0, pO0)] [.v (.bool true)] [(0, lO [⟨a, b, c⟩])] := ⟨rfl, rfl, ⟨rfl, ⟨trivial, trivial, trivial, trivial⟩, trivial⟩, (fun x hx => by simp only [List.mem_singleton] at hx; subst hx; trivial), ⟨trivial, trivial⟩, fun x hx => by simp only [List.mem_singleton] at hx; subst hx; trivial⟩
      exact useC_ok oldDef (APut_tri [] ⟨a, b, c⟩ (by show (0 + 1) * 24 ≤ _; omega)) rfl hcl he1 hc r ha hf
    · rename_i L
      obtain ⟨c1, he2, rfl⟩ := run_need he1
      obtain ⟨hR, hc2⟩ := (Cnd.and_iff _ _).1 hc
      have hcl : ClosedC [.ptr 0 0, itA ⟨a, b, c⟩] [(0, lO L)] [.v (.bool (!hasSeq b L))] [(0, lO (putL L ⟨a, b, c⟩))] := ⟨rfl, rfl, ⟨rfl, ⟨trivial, trivial, trivial, trivial⟩, trivial⟩, (fun x hx => by simp only [List.mem_singleton] at hx; subst hx; trivial), ⟨trivial, trivial⟩, fun x hx => by simp only [List.mem_singleton] at hx; subst hx; trivial⟩
      exact useC_ok oldDef (Aput_tri L ⟨a, b, c⟩ hR) rfl hcl he2 hc2 r ha hf
    · exact (inv_fail he1).elim
  · cases hp
    exact (inv_fail he).elim
theorem ret_loop (W : World) (oa : Option Addr) (items : List It) (c : Nat) (q : Int) (hI : In W oa items) : LTri Try.prog W (loopN fRet 7) (tms 0 57 (aRet (slV oa items.length c) items.length 0 q)) [(0, pO0)] (.exit 0) (tms 0 57 (zRet (slV oa items.length c) q)) [(0, lA (putAll items))] := by
  refine ltri_tms (σ := {k : Nat // k ≤ items.length}) (g := fRet) (con := fun _ => conL [(fLPut, cPutA)]) (claim := fun k => hRet k.1 (items.getD k.1 It.zero)) (lcon := fun _ => lconL []) 57 (fun k => aRet (slV oa items.length c) items.length k.1 q) (fun k => [(0, lA (upTo items k.1))]) (.exit 0) _ _ (fun k => items.length - k.1) [0] [0, 1, 5, 16, 17, 18] 1000 mixed (by intro h; cases h)
    (fun k => by cases upTo items k.1 <;> rfl) rfl (fun p F _ => conL_ok rfl fun x hx => one_ok cPutA_ok x hx F) (fun p F _ => lconL_ok rfl fun x hx => by cases hx) ?_ ⟨0, Nat.zero_le _⟩
  rintro ⟨k, hk⟩ F _
  have hbig := hI.big
  cases oa with
  | none =>
    have h0 : items = [] := Classical.byContradiction fun h => by obtain ⟨a, ha⟩ := hI.addr h; cases ha
    subst h0
    have hk0 : k = 0 := by simpa using hk
    subst hk0
    show (wLoop [(fLPut, cPutA)] (hRet 0 It.zero) [] W fRet (loopN fRet 7) (tms 0 57 (aRet (slV none 0 c) 0 0 q)) [(0, pO0)] [0] [0, 1, 5, 16, 17, 18] F).all _
    rw [oLoopRet0_eq]
    exact ⟨(fun h => (by cases h)), fun _ => ⟨trivial, rfl, .inr ⟨rfl, [], rfl, rfl, ⟨Wk.refl _, Wk.refl _, Wk.refl _, trivial⟩, ⟨⟨_, rfl, OW.refl _⟩, trivial⟩⟩⟩⟩
  | some a =>
    show (wLoop [(fLPut, cPutA)] (hRet k (items.getD k It.zero)) [] W fRet (loopN fRet 7) (tms 0 57 (aRet (slV (some a) items.length c) items.length k q)) [(0, lA (upTo items k))] [0] [0, 1, 5, 16, 17, 18] F).all _
    have hl := upTo_len items k hk
    have next : ∀ (o : AO), o = lA (upTo items (k + 1)) → ∀ (h1 : k < items.length), (57 : Nat) = 57 ∧ (((.normal : AX) = .normal ∧ ∃ s' : {k : Nat // k ≤ items.length}, items.length - s'.1 < items.length - k ∧ ∃ l, FitT [0] [0, 1, 5, 16, 17, 18] [slV (some a) items.length c, iv q, AV.ptr 0 0, slV (some a) items.length c, iv (Int.ofNat items.length), iv (Int.ofNat (k + 1))] [some o] (aRet (slV (some a) items.length c) items.length s'.1 q) [(0, lA (upTo items s'.1))] l) ∨
        ((.normal : AX) = .exit 0 ∧ ∃ l, FitT [0] [0, 1, 5, 16, 17, 18] [slV (some a) items.length c, iv q, AV.ptr 0 0, slV (some a) items.length c, iv (Int.ofNat items.length), iv (Int.ofNat (k + 1))] [some o] (zRet (slV (some a) items.length c) q) [(0, lA (putAll items))] l)) := by
      intro o ho h1
      refine ⟨rfl, .inl ⟨rfl, ⟨k + 1, h1⟩, by show items.length - (k + 1) < _; omega, [], rfl, by cases upTo items (k + 1) <;> rfl, ⟨Wk.refl _, Wk.refl _, Wk.refl _, Wk.refl _, Wk.refl _, Wk.refl _, trivial⟩, ⟨⟨_, rfl, OW.of_eq ?_⟩, trivial⟩⟩⟩
      rw [ho]; cases upTo items (k + 1) <;> rfl
    have conds : k < items.length → W.cell? ((a.add (k * 3)).add 0) = some (.int .i64 (items.getD k It.zero).a) ∧ W.cell? (Addr.mk (a.add (k * 3)).block ((a.add (k * 3)).off + 1) none) = some (.int .i64 (items.getD k It.zero).b) ∧ W.cell? (Addr.mk (a.add (k * 3)).block ((a.add (k * 3)).off + 2) none) = some (.int .i64 (items.getD k It.zero).c) ∧ ([0, 1, 2].all fun j => (W.cell? ((a.add (k * 3)).add j)).isSome) = true := fun h1 => by
      obtain ⟨e0, e1, e2⟩ := hI.cell a rfl k h1
      exact ⟨e0, e1, e2, by simp [List.all, e0, e1, e2]⟩
    have hlast : ¬ k < items.length → k = items.length := fun h => by omega
    by_cases hL : upTo items k = []
    · have hA : lA (upTo items k) = pO0 := by rw [hL]; rfl
      rw [hA, oLoopRetA_eq, nat_lt]
      refine ⟨fun h1 => ⟨?_, next _ ?_ (of_decide_eq_true h1)⟩, fun h1 => ?_⟩
      · obtain ⟨e0, e1', e2', hn⟩ := conds (of_decide_eq_true h1)
        have h1' : k < items.length := of_decide_eq_true h1
        have hw2 := wrap_succ k (by omega)
        simp only [Cnd.holds, hn, e0, e1', e2', Option.getD_some, Nat.blt_eq]
        and_intros
        all_goals first | exact trivial | exact h1' | exact VW.refl _ | exact OW.refl _ | exact Wk.refl _ | exact wk_int hw2 | rfl
      · rw [upTo_succ items k (of_decide_eq_true h1), hL]; rfl
      · have hke := hlast (of_decide_eq_false h1)
        subst hke
        have hall := upTo_all items
        refine ⟨trivial, rfl, .inr ⟨rfl, [], rfl, by cases putAll items <;> rfl, ⟨Wk.refl _, Wk.refl _, Wk.refl _, trivial⟩, ⟨⟨_, rfl, OW.of_eq (by rw [← hall, hA]; rfl)⟩, trivial⟩⟩⟩
    · have hne : upTo items k ≠ [] := hL
      rw [lA_ne hne, oLoopRet_eq, nat_lt]
      refine ⟨fun h1 => ⟨?_, next _ ?_ (of_decide_eq_true h1)⟩, fun h1 => ?_⟩
      · obtain ⟨e0, e1', e2', hn⟩ := conds (of_decide_eq_true h1)
        have h1' : k < items.length := of_decide_eq_true h1
        have hw2 := wrap_succ k (by omega)
        have hroom : RoomL (upTo items k) := by show (_ + 1) * 24 ≤ _; omega
        simp only [Cnd.holds, hn, e0, e1', e2', Option.getD_some, Nat.blt_eq]
        and_intros
        all_goals first | exact trivial | exact h1' | exact hroom | exact VW.refl _ | exact OW.refl _ | exact Wk.refl _ | exact wk_int hw2 | rfl
      · rw [upTo_succ items k (of_decide_eq_true h1), lA_ne (putL_ne _ _)]; rfl
      · have hke := hlast (of_decide_eq_false h1)
        subst hke
        have hall := upTo_all items
        refine ⟨trivial, rfl, .inr ⟨rfl, [], rfl, by cases putAll items <;> rfl, ⟨Wk.refl _, Wk.refl _, Wk.refl _, trivial⟩, ⟨⟨_, rfl, OW.of_eq (by rw [← hall, lA_ne hne]; rfl)⟩, trivial⟩⟩⟩
end Go.Proofs.Ytcpijmlaglcblaa.Rk

/- RanksReturns: the law's run. -/
set_option linter.unusedVariables false
set_option linter.unusedSimpArgs false
set_option maxRecDepth 100000
namespace Go.Proofs.Ytcpijmlaglcblaa.Rk
open Go Go.RowKit Go.Proofs.Ytcpijmlaglcblaa.Eng
noncomputable section
def cNewA : List AV → Option (AP AV) := fun args => match args with
  | [] => some (useC (fun i => i) [] [] [] (.leaf .ret [.ptr 1000 0] [(1000, pO0)]))
  | _ => some (.fail "new")
def cItemsA : List AV → Option (AP AV) := fun args => match args with
  | [.ptr i 0] => some (ownC i fun m => match m with
    | .pile0 => useC (fun _ => i) [.ptr 0 0] args [(0, pO0)] (.leaf .ret [.v (.slice none 0 0)] [(0, pO0)])
    | .line L => .need (L ≠ []) (useC (fun _ => i) [.ptr 0 0] args [(0, lO L)] (.leaf .ret [.slice 1000 0 L.length 3 (.lo L.length)] [(0, lO L), (1000, .cells (rowV enc L) tIt)]))
    | _ => .fail "items")
  | _ => some (.fail "items")
def cTakeA : List AV → Option (AP AV) := fun args => match args with
  | [.ptr i 0, .v (.int .i64 k)] => some (ownC i fun m => match m with
    | .pile0 => useC (fun _ => i) [.ptr 0 0, iv k] args [(0, pO0)] (.leaf .ret [.tuple [itA It.zero, .v (.bool false)]] [(0, pO0)])
    | .line L => lineC i [.ptr 0 0, iv k] args L (.tuple [itA (findI k L), .v (.bool (hasSeq k L))]) (remK k L)
    | _ => .fail "take")
  | _ => some (.fail "take")
def cSameA (L : List It) : List AV → Option (AP AV) := fun args => match args with
  | [.slice i 0 _ 3 _, .slice j 0 _ 3 _] => some (useC (nm3 i j j) [.slice 0 0 L.length 3 (.lo L.length), .slice 1 0 L.length 3 (.lo L.length)] args [(0, .cells (rowV enc L) tIt), (1, .cells (rowV enc L) tIt)] (.leaf .ret [.v (.bool true)] [(0, .cells (rowV enc L) tIt), (1, .cells (rowV enc L) tIt)]))
  | [.v (.slice none 0 0), .v (.slice none 0 0)] => some (useC (fun i => i) [.v (.slice none 0 0), .v (.slice none 0 0)] args [] (.leaf .ret [.v (.bool true)] []))
  | _ => some (.fail "same")
def conT (L : List It) : List (FuncId × (List AV → Option (AP AV))) := [(fNew, cNewA), (fLPut, cPutA), (fLItems, cItemsA), (fLTake, cTakeA), (fLLen, cLLen), (fSame, cSameA L), (fSpeaks, cSpeaks)]
def retLc (V : AV) (n : Nat) (q : Int) (o : AO) : List AV → AP (AX × List AV) := fun tmps => match getL tmps 5 with
  | .ptr r 0 => useG (fun _ => r) (tms 0 57 (aRet V n 0 q)) tmps [(0, pO0)] (.leaf (.exit 0) (tms 0 57 (zRet V q)) [(0, o)])
  | _ => .fail "ret"
def hT (b : Bool) (x : It) : ClaimT := hintL [(fRet, 1, 1, hv (.lit false)), (fRet, 4, 1, hv (.lit false)), (fRet, 12, 3, hv (.tuple [itA x, .lit b])), (fRet, 15, 5, hv (.lit true)), (fRet, 15, 9, hv (.lit true))]
theorem oRetA_eq (W : World) (oa : Option Addr) (n c : Nat) (q : Int) (F : HP) : wRun (conT []) (hT false It.zero) [(fRet, 7, loopN fRet 7, retLc (slV oa n c) n q pO0)] W fRet [slV oa n c, iv q] [] [] F = VT.ite true (VT.leaf (AV.v (Value.bool true)) [] 1102 (((Cnd.p (VW [] [])).a Cnd.t).a (((Cnd.p (Wk (AV.v (Value.bool false)) (AV.lit false))).a Cnd.t).a (((Cnd.p (VW [] [])).a Cnd.t).a (((Cnd.p (Wk (AV.v (Value.bool false)) (AV.lit false))).a Cnd.t).a ((Cnd.p ((fRet, 7, loopN fRet 7, retLc (slV oa n c) n q pO0).snd.snd.fst = (fRet, 7, loopN fRet 7, retLc (slV oa n c) n q pO0).snd.snd.fst)).a ((Cnd.p (VW [AV.v (Value.slice oa n c), AV.v (Value.int IntKind.i64 q), AV.v (Value.tuple (Array.mk [])), AV.v (Value.tuple (Array.mk [])), AV.v (Value.bool false), AV.ptr 1100 0, AV.v (Value.tuple (Array.mk [])), AV.v (Value.tuple (Array.mk [])), AV.v (Value.tuple (Array.mk [])), AV.v (Value.tuple (Array.mk [])), AV.v (Value.tuple (Array.mk [])), AV.v (Value.bool true), AV.lit false, AV.ptr 1100 0, AV.ptr 1100 0, AV.lit false, AV.v (Value.slice oa n c), AV.v (Value.int IntKind.i64 ↑n), AV.v (Value.int IntKind.i64 (Int.ofNat 0)), AV.v (Value.tuple (Array.mk [])), AV.v (Value.tuple (Array.mk [])), AV.v (Value.tuple (Array.mk [])), AV.v (Value.tuple (Array.mk [])), AV.v (Value.tuple (Array.mk [])), AV.v (Value.tuple (Array.mk [])), AV.v (Value.tuple (Array.mk [])), AV.v (Value.tuple (Array.mk [])), AV.v (Value.tuple (Array.mk [])), AV.v (Value.tuple (Array.mk [])), AV.v (Value.tuple (Array.mk [])), AV.v (Value.tuple (Array.mk [])), AV.v (Value.tuple (Array.mk [])), AV.v (Value.tuple (Array.mk [])), AV.v (Value.tuple (Array.mk [])), AV.v (Value.tuple (Array.mk [])), AV.v (Value.tuple (Array.mk [])), AV.v (Value.tuple (Array.mk [])), AV.v (Value.tuple (Array.mk [])), AV.v (Value.tuple (Array.mk [])), AV.v (Value.tuple (Array.mk [])), AV.v (Value.tuple (Array.mk [])), AV.v (Value.tuple (Array.mk [])), AV.v (Value.tuple (Array.mk [])), AV.v (Value.tuple (Array.mk [])), AV.v (Value.tuple (Array.mk [])), AV.v (Value.tuple (Array.mk [])), AV.v (Value.tuple (Array.mk [])), AV.v (Value.tuple (Array.mk [])), AV.v (Value.tuple (Array.mk [])), AV.v (Value.tuple (Array.mk [])), AV.v (Value.tuple (Array.mk [])), AV.v (Value.tuple (Array.mk [])), AV.v (Value.tuple (Array.mk [])), AV.v (Value.tuple (Array.mk [])), AV.v (Value.tuple (Array.mk [])), AV.v (Value.tuple (Array.mk [])), AV.v (Value.tuple (Array.mk []))] [AV.v (Value.slice oa n c), AV.v (Value.int IntKind.i64 q), AV.any, AV.any, AV.any, AV.ptr 1100 0, AV.any, AV.any, AV.any, AV.any, AV.any, AV.any, AV.any, AV.any, AV.any, AV.any, AV.v (Value.slice oa n c), AV.v (Value.int IntKind.i64 (Int.ofNat n)), AV.v (Value.int IntKind.i64 (Int.ofNat 0)), AV.any, AV.any, AV.any, AV.any, AV.any, AV.any, AV.any, AV.any, AV.any, AV.any, AV.any, AV.any, AV.any, AV.any, AV.any, AV.any, AV.any, AV.any, AV.any, AV.any, AV.any, AV.any, AV.any, AV.any, AV.any, AV.any, AV.any, AV.any, AV.any, AV.any, AV.any, AV.any, AV.any, AV.any, AV.any, AV.any, AV.any, AV.any])).a ((Cnd.p (OW (AO.own Md.pile0 pH0) (AO.own Md.pile0 pH0))).a (((Cnd.p (VW [AV.ptr 1100 0] [AV.ptr 1100 0])).a ((Cnd.p (OW (AO.own Md.pile0 pH0) (AO.own Md.pile0 pH0))).a Cnd.t)).a (((Cnd.p (VW [AV.ptr 1100 0, AV.v (Value.int IntKind.i64 q)] [AV.ptr 1100 0, AV.v (Value.int IntKind.i64 q)])).a ((Cnd.p (OW (AO.own Md.pile0 pH0) (AO.own Md.pile0 pH0))).a Cnd.t)).a (((Cnd.p (Wk (AV.tuple [AV.agg [AV.v (Value.int IntKind.i64 (Int.ofNat 0)), AV.v (Value.int IntKind.i64 (Int.ofNat 0)), AV.v (Value.int IntKind.i64 (Int.ofNat 0))], AV.v (Value.bool false)]) (AV.tuple [AV.agg [AV.v (Value.int IntKind.i64 (Int.ofNat 0)), AV.v (Value.int IntKind.i64 (Int.ofNat 0)), AV.v (Value.int IntKind.i64 (Int.ofNat 0))], AV.lit false]))).a Cnd.t).a (((Cnd.p (true = true)).a Cnd.t).a (((Cnd.p (VW [AV.ptr 1100 0] [AV.ptr 1100 0])).a ((Cnd.p (OW (AO.own Md.pile0 pH0) (AO.own Md.pile0 pH0))).a Cnd.t)).a (((Cnd.p (VW [AV.v (Value.slice none 0 0), AV.v (Value.slice none 0 0)] [AV.v (Value.slice none 0 0), AV.v (Value.slice none 0 0)])).a Cnd.t).a Cnd.t)))))))))))))) (VT.bad "line") := by kernel_rfl
theorem oRetB_eq (W : World) (oa : Option Addr) (n c : Nat) (q : Int) (L : List It) (F : HP) : wRun (conT L) (hT false It.zero) [(fRet, 7, loopN fRet 7, retLc (slV oa n c) n q (lO L))] W fRet [slV oa n c, iv q] [] [] F = VT.ite true (VT.leaf (AV.v (Value.bool true)) [] 1104 (((Cnd.p (VW [] [])).a Cnd.t).a (((Cnd.p (Wk (AV.v (Value.bool false)) (AV.lit false))).a Cnd.t).a (((Cnd.p (VW [] [])).a Cnd.t).a (((Cnd.p (Wk (AV.v (Value.bool false)) (AV.lit false))).a Cnd.t).a ((Cnd.p ((fRet, 7, loopN fRet 7, retLc (slV oa n c) n q (lO L)).snd.snd.fst = (fRet, 7, loopN fRet 7, retLc (slV oa n c) n q (lO L)).snd.snd.fst)).a ((Cnd.p (VW [AV.v (Value.slice oa n c), AV.v (Value.int IntKind.i64 q), AV.v (Value.tuple (Array.mk [])), AV.v (Value.tuple (Array.mk [])), AV.v (Value.bool false), AV.ptr 1100 0, AV.v (Value.tuple (Array.mk [])), AV.v (Value.tuple (Array.mk [])), AV.v (Value.tuple (Array.mk [])), AV.v (Value.tuple (Array.mk [])), AV.v (Value.tuple (Array.mk [])), AV.v (Value.bool true), AV.lit false, AV.ptr 1100 0, AV.ptr 1100 0, AV.lit false, AV.v (Value.slice oa n c), AV.v (Value.int IntKind.i64 ↑n), AV.v (Value.int IntKind.i64 (Int.ofNat 0)), AV.v (Value.tuple (Array.mk [])), AV.v (Value.tuple (Array.mk [])), AV.v (Value.tuple (Array.mk [])), AV.v (Value.tuple (Array.mk [])), AV.v (Value.tuple (Array.mk [])), AV.v (Value.tuple (Array.mk [])), AV.v (Value.tuple (Array.mk [])), AV.v (Value.tuple (Array.mk [])), AV.v (Value.tuple (Array.mk [])), AV.v (Value.tuple (Array.mk [])), AV.v (Value.tuple (Array.mk [])), AV.v (Value.tuple (Array.mk [])), AV.v (Value.tuple (Array.mk [])), AV.v (Value.tuple (Array.mk [])), AV.v (Value.tuple (Array.mk [])), AV.v (Value.tuple (Array.mk [])), AV.v (Value.tuple (Array.mk [])), AV.v (Value.tuple (Array.mk [])), AV.v (Value.tuple (Array.mk [])), AV.v (Value.tuple (Array.mk [])), AV.v (Value.tuple (Array.mk [])), AV.v (Value.tuple (Array.mk [])), AV.v (Value.tuple (Array.mk [])), AV.v (Value.tuple (Array.mk [])), AV.v (Value.tuple (Array.mk [])), AV.v (Value.tuple (Array.mk [])), AV.v (Value.tuple (Array.mk [])), AV.v (Value.tuple (Array.mk [])), AV.v (Value.tuple (Array.mk [])), AV.v (Value.tuple (Array.mk [])), AV.v (Value.tuple (Array.mk [])), AV.v (Value.tuple (Array.mk [])), AV.v (Value.tuple (Array.mk [])), AV.v (Value.tuple (Array.mk [])), AV.v (Value.tuple (Array.mk [])), AV.v (Value.tuple (Array.mk [])), AV.v (Value.tuple (Array.mk [])), AV.v (Value.tuple (Array.mk []))] [AV.v (Value.slice oa n c), AV.v (Value.int IntKind.i64 q), AV.any, AV.any, AV.any, AV.ptr 1100 0, AV.any, AV.any, AV.any, AV.any, AV.any, AV.any, AV.any, AV.any, AV.any, AV.any, AV.v (Value.slice oa n c), AV.v (Value.int IntKind.i64 (Int.ofNat n)), AV.v (Value.int IntKind.i64 (Int.ofNat 0)), AV.any, AV.any, AV.any, AV.any, AV.any, AV.any, AV.any, AV.any, AV.any, AV.any, AV.any, AV.any, AV.any, AV.any, AV.any, AV.any, AV.any, AV.any, AV.any, AV.any, AV.any, AV.any, AV.any, AV.any, AV.any, AV.any, AV.any, AV.any, AV.any, AV.any, AV.any, AV.any, AV.any, AV.any, AV.any, AV.any, AV.any, AV.any])).a ((Cnd.p (OW (AO.own Md.pile0 pH0) (AO.own Md.pile0 pH0))).a (((Cnd.p (L ≠ [])).a ((Cnd.p (VW [AV.ptr 1100 0] [AV.ptr 1100 0])).a ((Cnd.p (OW (AO.own (Md.line L) (lH L)) (AO.own (Md.line L) (lH L)))).a Cnd.t))).a (((Cnd.p (VW [AV.ptr 1100 0, AV.v (Value.int IntKind.i64 q)] [AV.ptr 1100 0, AV.v (Value.int IntKind.i64 q)])).a ((Cnd.p (OW (AO.own (Md.line L) (lH L)) (AO.own (Md.line L) (lH L)))).a Cnd.t)).a (((Cnd.p (Wk (AV.tuple [AV.agg [AV.v (Value.int IntKind.i64 (findI q L).a), AV.v (Value.int IntKind.i64 (findI q L).b), AV.v (Value.int IntKind.i64 (findI q L).c)], AV.v (Value.bool (hasSeq q L))]) (AV.tuple [AV.agg [AV.v (Value.int IntKind.i64 (Int.ofNat 0)), AV.v (Value.int IntKind.i64 (Int.ofNat 0)), AV.v (Value.int IntKind.i64 (Int.ofNat 0))], AV.lit false]))).a Cnd.t).a (((Cnd.p (true = true)).a Cnd.t).a (((Cnd.p (remK q L ≠ [])).a ((Cnd.p (VW [AV.ptr 1100 0] [AV.ptr 1100 0])).a ((Cnd.p (OW (AO.own (Md.line (remK q L)) (lH (remK q L))) (AO.own (Md.line (remK q L)) (lH (remK q L))))).a Cnd.t))).a (((Cnd.p (VW [AV.slice 1103 0 (remK q L).length 3 (Cp.lo (remK q L).length), AV.slice 1101 0 L.length 3 (Cp.lo L.length)] [AV.slice 1103 0 L.length 3 (Cp.lo L.length), AV.slice 1101 0 L.length 3 (Cp.lo L.length)])).a ((Cnd.p (OW (AO.cells (AV.rens (sgN (fun x => 1100) [1000] 1103) (rowV enc (remK q L))) 54) (AO.cells (AV.rens (nm3 1103 1101 1101) (rowV enc L)) 54))).a ((Cnd.p (OW (AO.cells (AV.rens (sgN (fun x => 1100) [1000] 1101) (rowV enc L)) 54) (AO.cells (AV.rens (nm3 1103 1101 1101) (rowV enc L)) 54))).a Cnd.t))).a Cnd.t)))))))))))))) (VT.leaf (AV.v (Value.bool true)) [] 1104 (((Cnd.p (VW [] [])).a Cnd.t).a (((Cnd.p (Wk (AV.v (Value.bool false)) (AV.lit false))).a Cnd.t).a (((Cnd.p (VW [] [])).a Cnd.t).a (((Cnd.p (Wk (AV.v (Value.bool false)) (AV.lit false))).a Cnd.t).a ((Cnd.p ((fRet, 7, loopN fRet 7, retLc (slV oa n c) n q (lO L)).snd.snd.fst = (fRet, 7, loopN fRet 7, retLc (slV oa n c) n q (lO L)).snd.snd.fst)).a ((Cnd.p (VW [AV.v (Value.slice oa n c), AV.v (Value.int IntKind.i64 q), AV.v (Value.tuple (Array.mk [])), AV.v (Value.tuple (Array.mk [])), AV.v (Value.bool false), AV.ptr 1100 0, AV.v (Value.tuple (Array.mk [])), AV.v (Value.tuple (Array.mk [])), AV.v (Value.tuple (Array.mk [])), AV.v (Value.tuple (Array.mk [])), AV.v (Value.tuple (Array.mk [])), AV.v (Value.bool true), AV.lit false, AV.ptr 1100 0, AV.ptr 1100 0, AV.lit false, AV.v (Value.slice oa n c), AV.v (Value.int IntKind.i64 ↑n), AV.v (Value.int IntKind.i64 (Int.ofNat 0)), AV.v (Value.tuple (Array.mk [])), AV.v (Value.tuple (Array.mk [])), AV.v (Value.tuple (Array.mk [])), AV.v (Value.tuple (Array.mk [])), AV.v (Value.tuple (Array.mk [])), AV.v (Value.tuple (Array.mk [])), AV.v (Value.tuple (Array.mk [])), AV.v (Value.tuple (Array.mk [])), AV.v (Value.tuple (Array.mk [])), AV.v (Value.tuple (Array.mk [])), AV.v (Value.tuple (Array.mk [])), AV.v (Value.tuple (Array.mk [])), AV.v (Value.tuple (Array.mk [])), AV.v (Value.tuple (Array.mk [])), AV.v (Value.tuple (Array.mk [])), AV.v (Value.tuple (Array.mk [])), AV.v (Value.tuple (Array.mk [])), AV.v (Value.tuple (Array.mk [])), AV.v (Value.tuple (Array.mk [])), AV.v (Value.tuple (Array.mk [])), AV.v (Value.tuple (Array.mk [])), AV.v (Value.tuple (Array.mk [])), AV.v (Value.tuple (Array.mk [])), AV.v (Value.tuple (Array.mk [])), AV.v (Value.tuple (Array.mk [])), AV.v (Value.tuple (Array.mk [])), AV.v (Value.tuple (Array.mk [])), AV.v (Value.tuple (Array.mk [])), AV.v (Value.tuple (Array.mk [])), AV.v (Value.tuple (Array.mk [])), AV.v (Value.tuple (Array.mk [])), AV.v (Value.tuple (Array.mk [])), AV.v (Value.tuple (Array.mk [])), AV.v (Value.tuple (Array.mk [])), AV.v (Value.tuple (Array.mk [])), AV.v (Value.tuple (Array.mk [])), AV.v (Value.tuple (Array.mk [])), AV.v (Value.tuple (Array.mk []))] [AV.v (Value.slice oa n c), AV.v (Value.int IntKind.i64 q), AV.any, AV.any, AV.any, AV.ptr 1100 0, AV.any, AV.any, AV.any, AV.any, AV.any, AV.any, AV.any, AV.any, AV.any, AV.any, AV.v (Value.slice oa n c), AV.v (Value.int IntKind.i64 (Int.ofNat n)), AV.v (Value.int IntKind.i64 (Int.ofNat 0)), AV.any, AV.any, AV.any, AV.any, AV.any, AV.any, AV.any, AV.any, AV.any, AV.any, AV.any, AV.any, AV.any, AV.any, AV.any, AV.any, AV.any, AV.any, AV.any, AV.any, AV.any, AV.any, AV.any, AV.any, AV.any, AV.any, AV.any, AV.any, AV.any, AV.any, AV.any, AV.any, AV.any, AV.any, AV.any, AV.any, AV.any, AV.any])).a ((Cnd.p (OW (AO.own Md.pile0 pH0) (AO.own Md.pile0 pH0))).a (((Cnd.p (L ≠ [])).a ((Cnd.p (VW [AV.ptr 1100 0] [AV.ptr 1100 0])).a ((Cnd.p (OW (AO.own (Md.line L) (lH L)) (AO.own (Md.line L) (lH L)))).a Cnd.t))).a (((Cnd.p (VW [AV.ptr 1100 0, AV.v (Value.int IntKind.i64 q)] [AV.ptr 1100 0, AV.v (Value.int IntKind.i64 q)])).a ((Cnd.p (OW (AO.own (Md.line L) (lH L)) (AO.own (Md.line L) (lH L)))).a Cnd.t)).a (((Cnd.p (Wk (AV.tuple [AV.agg [AV.v (Value.int IntKind.i64 (findI q L).a), AV.v (Value.int IntKind.i64 (findI q L).b), AV.v (Value.int IntKind.i64 (findI q L).c)], AV.v (Value.bool (hasSeq q L))]) (AV.tuple [AV.agg [AV.v (Value.int IntKind.i64 (Int.ofNat 0)), AV.v (Value.int IntKind.i64 (Int.ofNat 0)), AV.v (Value.int IntKind.i64 (Int.ofNat 0))], AV.lit false]))).a Cnd.t).a (((Cnd.p (true = true)).a Cnd.t).a (((Cnd.p (VW [AV.ptr 1100 0] [AV.ptr 1100 0])).a ((Cnd.p (OW (AO.own (Md.line (remK q L)) (lH (remK q L))) (AO.own (Md.line (remK q L)) (lH (remK q L))))).a Cnd.t)).a (((Cnd.p (Wk (AV.v (Value.bool (Int.ofNat (remK q L).length == IntKind.i64.wrap (↑L.length - Int.ofNat 1)))) (AV.lit true))).a Cnd.t).a (((Cnd.p (true = true)).a ((Cnd.p ([AV.v (Value.int IntKind.i64 (Int.ofNat 0)), AV.v (Value.int IntKind.i64 (Int.ofNat 0)), AV.v (Value.int IntKind.i64 (Int.ofNat 0))] = [AV.v (Value.int IntKind.i64 (Int.ofNat 0)), AV.v (Value.int IntKind.i64 (Int.ofNat 0)), AV.v (Value.int IntKind.i64 (Int.ofNat 0))])).a Cnd.t)).a (((Cnd.p (RoomL (remK q L))).a ((Cnd.p (VW [AV.ptr 1100 0, AV.agg [AV.v (Value.int IntKind.i64 (Int.ofNat 0)), AV.v (Value.int IntKind.i64 (Int.ofNat 0)), AV.v (Value.int IntKind.i64 (Int.ofNat 0))]] [AV.ptr 1100 0, AV.agg [AV.v (Value.int IntKind.i64 (Int.ofNat 0)), AV.v (Value.int IntKind.i64 (Int.ofNat 0)), AV.v (Value.int IntKind.i64 (Int.ofNat 0))]])).a ((Cnd.p (OW (AO.own (Md.line (remK q L)) (lH (remK q L))) (AO.own (Md.line (remK q L)) (lH (remK q L))))).a ((Cnd.p (Wk (AV.v (Value.bool !hasSeq (Int.ofNat 0) (remK q L))) (AV.lit true))).a Cnd.t)))).a (((Cnd.p (putL (remK q L) (It.mk (Int.ofNat 0) (Int.ofNat 0) (Int.ofNat 0)) ≠ [])).a ((Cnd.p (VW [AV.ptr 1100 0] [AV.ptr 1100 0])).a ((Cnd.p (OW (AO.own (Md.line (putL (remK q L) (It.mk (Int.ofNat 0) (Int.ofNat 0) (Int.ofNat 0)))) (lH (putL (remK q L) (It.mk (Int.ofNat 0) (Int.ofNat 0) (Int.ofNat 0))))) (AO.own (Md.line (putL (remK q L) (It.mk (Int.ofNat 0) (Int.ofNat 0) (Int.ofNat 0)))) (lH (putL (remK q L) (It.mk (Int.ofNat 0) (Int.ofNat 0) (Int.ofNat 0))))))).a Cnd.t))).a (((Cnd.p (VW [AV.slice 1103 0 (putL (remK q L) (It.mk (Int.ofNat 0) (Int.ofNat 0) (Int.ofNat 0))).length 3 (Cp.lo (putL (remK q L) (It.mk (Int.ofNat 0) (Int.ofNat 0) (Int.ofNat 0))).length), AV.slice 1101 0 L.length 3 (Cp.lo L.length)] [AV.slice 1103 0 L.length 3 (Cp.lo L.length), AV.slice 1101 0 L.length 3 (Cp.lo L.length)])).a ((Cnd.p (OW (AO.cells (AV.rens (sgN (fun x => 1100) [1000] 1103) (rowV enc (putL (remK q L) (It.mk (Int.ofNat 0) (Int.ofNat 0) (Int.ofNat 0))))) 54) (AO.cells (AV.rens (nm3 1103 1101 1101) (rowV enc L)) 54))).a ((Cnd.p (OW (AO.cells (AV.rens (sgN (fun x => 1100) [1000] 1101) (rowV enc L)) 54) (AO.cells (AV.rens (nm3 1103 1101 1101) (rowV enc L)) 54))).a Cnd.t))).a Cnd.t)))))))))))))))))) := by kernel_rfl
theorem oRetC_eq (W : World) (oa : Option Addr) (n c : Nat) (q : Int) (L : List It) (x : It) (F : HP) : wRun (conT L) (hT true x) [(fRet, 7, loopN fRet 7, retLc (slV oa n c) n q (lO L))] W fRet [slV oa n c, iv q] [] [] F = VT.ite false (VT.leaf (AV.v (Value.bool true)) [] 1104 (((Cnd.p (VW [] [])).a Cnd.t).a (((Cnd.p (Wk (AV.v (Value.bool false)) (AV.lit false))).a Cnd.t).a (((Cnd.p (VW [] [])).a Cnd.t).a (((Cnd.p (Wk (AV.v (Value.bool false)) (AV.lit false))).a Cnd.t).a ((Cnd.p ((fRet, 7, loopN fRet 7, retLc (slV oa n c) n q (lO L)).snd.snd.fst = (fRet, 7, loopN fRet 7, retLc (slV oa n c) n q (lO L)).snd.snd.fst)).a ((Cnd.p (VW [AV.v (Value.slice oa n c), AV.v (Value.int IntKind.i64 q), AV.v (Value.tuple (Array.mk [])), AV.v (Value.tuple (Array.mk [])), AV.v (Value.bool false), AV.ptr 1100 0, AV.v (Value.tuple (Array.mk [])), AV.v (Value.tuple (Array.mk [])), AV.v (Value.tuple (Array.mk [])), AV.v (Value.tuple (Array.mk [])), AV.v (Value.tuple (Array.mk [])), AV.v (Value.bool true), AV.lit false, AV.ptr 1100 0, AV.ptr 1100 0, AV.lit false, AV.v (Value.slice oa n c), AV.v (Value.int IntKind.i64 ↑n), AV.v (Value.int IntKind.i64 (Int.ofNat 0)), AV.v (Value.tuple (Array.mk [])), AV.v (Value.tuple (Array.mk [])), AV.v (Value.tuple (Array.mk [])), AV.v (Value.tuple (Array.mk [])), AV.v (Value.tuple (Array.mk [])), AV.v (Value.tuple (Array.mk [])), AV.v (Value.tuple (Array.mk [])), AV.v (Value.tuple (Array.mk [])), AV.v (Value.tuple (Array.mk [])), AV.v (Value.tuple (Array.mk [])), AV.v (Value.tuple (Array.mk [])), AV.v (Value.tuple (Array.mk [])), AV.v (Value.tuple (Array.mk [])), AV.v (Value.tuple (Array.mk [])), AV.v (Value.tuple (Array.mk [])), AV.v (Value.tuple (Array.mk [])), AV.v (Value.tuple (Array.mk [])), AV.v (Value.tuple (Array.mk [])), AV.v (Value.tuple (Array.mk [])), AV.v (Value.tuple (Array.mk [])), AV.v (Value.tuple (Array.mk [])), AV.v (Value.tuple (Array.mk [])), AV.v (Value.tuple (Array.mk [])), AV.v (Value.tuple (Array.mk [])), AV.v (Value.tuple (Array.mk [])), AV.v (Value.tuple (Array.mk [])), AV.v (Value.tuple (Array.mk [])), AV.v (Value.tuple (Array.mk [])), AV.v (Value.tuple (Array.mk [])), AV.v (Value.tuple (Array.mk [])), AV.v (Value.tuple (Array.mk [])), AV.v (Value.tuple (Array.mk [])), AV.v (Value.tuple (Array.mk [])), AV.v (Value.tuple (Array.mk [])), AV.v (Value.tuple (Array.mk [])), AV.v (Value.tuple (Array.mk [])), AV.v (Value.tuple (Array.mk [])), AV.v (Value.tuple (Array.mk []))] [AV.v (Value.slice oa n c), AV.v (Value.int IntKind.i64 q), AV.any, AV.any, AV.any, AV.ptr 1100 0, AV.any, AV.any, AV.any, AV.any, AV.any, AV.any, AV.any, AV.any, AV.any, AV.any, AV.v (Value.slice oa n c), AV.v (Value.int IntKind.i64 (Int.ofNat n)), AV.v (Value.int IntKind.i64 (Int.ofNat 0)), AV.any, AV.any, AV.any, AV.any, AV.any, AV.any, AV.any, AV.any, AV.any, AV.any, AV.any, AV.any, AV.any, AV.any, AV.any, AV.any, AV.any, AV.any, AV.any, AV.any, AV.any, AV.any, AV.any, AV.any, AV.any, AV.any, AV.any, AV.any, AV.any, AV.any, AV.any, AV.any, AV.any, AV.any, AV.any, AV.any, AV.any, AV.any])).a ((Cnd.p (OW (AO.own Md.pile0 pH0) (AO.own Md.pile0 pH0))).a (((Cnd.p (L ≠ [])).a ((Cnd.p (VW [AV.ptr 1100 0] [AV.ptr 1100 0])).a ((Cnd.p (OW (AO.own (Md.line L) (lH L)) (AO.own (Md.line L) (lH L)))).a Cnd.t))).a (((Cnd.p (VW [AV.ptr 1100 0, AV.v (Value.int IntKind.i64 q)] [AV.ptr 1100 0, AV.v (Value.int IntKind.i64 q)])).a ((Cnd.p (OW (AO.own (Md.line L) (lH L)) (AO.own (Md.line L) (lH L)))).a Cnd.t)).a (((Cnd.p (Wk (AV.tuple [AV.agg [AV.v (Value.int IntKind.i64 (findI q L).a), AV.v (Value.int IntKind.i64 (findI q L).b), AV.v (Value.int IntKind.i64 (findI q L).c)], AV.v (Value.bool (hasSeq q L))]) (AV.tuple [AV.agg [AV.v (Value.int IntKind.i64 x.a), AV.v (Value.int IntKind.i64 x.b), AV.v (Value.int IntKind.i64 x.c)], AV.lit true]))).a Cnd.t).a (((Cnd.p (true = true)).a Cnd.t).a (((Cnd.p (remK q L ≠ [])).a ((Cnd.p (VW [AV.ptr 1100 0] [AV.ptr 1100 0])).a ((Cnd.p (OW (AO.own (Md.line (remK q L)) (lH (remK q L))) (AO.own (Md.line (remK q L)) (lH (remK q L))))).a Cnd.t))).a (((Cnd.p (VW [AV.slice 1103 0 (remK q L).length 3 (Cp.lo (remK q L).length), AV.slice 1101 0 L.length 3 (Cp.lo L.length)] [AV.slice 1103 0 L.length 3 (Cp.lo L.length), AV.slice 1101 0 L.length 3 (Cp.lo L.length)])).a ((Cnd.p (OW (AO.cells (AV.rens (sgN (fun x => 1100) [1000] 1103) (rowV enc (remK q L))) 54) (AO.cells (AV.rens (nm3 1103 1101 1101) (rowV enc L)) 54))).a ((Cnd.p (OW (AO.cells (AV.rens (sgN (fun x => 1100) [1000] 1101) (rowV enc L)) 54) (AO.cells (AV.rens (nm3 1103 1101 1101) (rowV enc L)) 54))).a Cnd.t))).a Cnd.t)))))))))))))) (VT.leaf (AV.v (Value.bool true)) [] 1104 (((Cnd.p (VW [] [])).a Cnd.t).a (((Cnd.p (Wk (AV.v (Value.bool false)) (AV.lit false))).a Cnd.t).a (((Cnd.p (VW [] [])).a Cnd.t).a (((Cnd.p (Wk (AV.v (Value.bool false)) (AV.lit false))).a Cnd.t).a ((Cnd.p ((fRet, 7, loopN fRet 7, retLc (slV oa n c) n q (lO L)).snd.snd.fst = (fRet, 7, loopN fRet 7, retLc (slV oa n c) n q (lO L)).snd.snd.fst)).a ((Cnd.p (VW [AV.v (Value.slice oa n c), AV.v (Value.int IntKind.i64 q), AV.v (Value.tuple (Array.mk [])), AV.v (Value.tuple (Array.mk [])), AV.v (Value.bool false), AV.ptr 1100 0, AV.v (Value.tuple (Array.mk [])), AV.v (Value.tuple (Array.mk [])), AV.v (Value.tuple (Array.mk [])), AV.v (Value.tuple (Array.mk [])), AV.v (Value.tuple (Array.mk [])), AV.v (Value.bool true), AV.lit false, AV.ptr 1100 0, AV.ptr 1100 0, AV.lit false, AV.v (Value.slice oa n c), AV.v (Value.int IntKind.i64 ↑n), AV.v (Value.int IntKind.i64 (Int.ofNat 0)), AV.v (Value.tuple (Array.mk [])), AV.v (Value.tuple (Array.mk [])), AV.v (Value.tuple (Array.mk [])), AV.v (Value.tuple (Array.mk [])), AV.v (Value.tuple (Array.mk [])), AV.v (Value.tuple (Array.mk [])), AV.v (Value.tuple (Array.mk [])), AV.v (Value.tuple (Array.mk [])), AV.v (Value.tuple (Array.mk [])), AV.v (Value.tuple (Array.mk [])), AV.v (Value.tuple (Array.mk [])), AV.v (Value.tuple (Array.mk [])), AV.v (Value.tuple (Array.mk [])), AV.v (Value.tuple (Array.mk [])), AV.v (Value.tuple (Array.mk [])), AV.v (Value.tuple (Array.mk [])), AV.v (Value.tuple (Array.mk [])), AV.v (Value.tuple (Array.mk [])), AV.v (Value.tuple (Array.mk [])), AV.v (Value.tuple (Array.mk [])), AV.v (Value.tuple (Array.mk [])), AV.v (Value.tuple (Array.mk [])), AV.v (Value.tuple (Array.mk [])), AV.v (Value.tuple (Array.mk [])), AV.v (Value.tuple (Array.mk [])), AV.v (Value.tuple (Array.mk [])), AV.v (Value.tuple (Array.mk [])), AV.v (Value.tuple (Array.mk [])), AV.v (Value.tuple (Array.mk [])), AV.v (Value.tuple (Array.mk [])), AV.v (Value.tuple (Array.mk [])), AV.v (Value.tuple (Array.mk [])), AV.v (Value.tuple (Array.mk [])), AV.v (Value.tuple (Array.mk [])), AV.v (Value.tuple (Array.mk [])), AV.v (Value.tuple (Array.mk [])), AV.v (Value.tuple (Array.mk [])), AV.v (Value.tuple (Array.mk []))] [AV.v (Value.slice oa n c), AV.v (Value.int IntKind.i64 q), AV.any, AV.any, AV.any, AV.ptr 1100 0, AV.any, AV.any, AV.any, AV.any, AV.any, AV.any, AV.any, AV.any, AV.any, AV.any, AV.v (Value.slice oa n c), AV.v (Value.int IntKind.i64 (Int.ofNat n)), AV.v (Value.int IntKind.i64 (Int.ofNat 0)), AV.any, AV.any, AV.any, AV.any, AV.any, AV.any, AV.any, AV.any, AV.any, AV.any, AV.any, AV.any, AV.any, AV.any, AV.any, AV.any, AV.any, AV.any, AV.any, AV.any, AV.any, AV.any, AV.any, AV.any, AV.any, AV.any, AV.any, AV.any, AV.any, AV.any, AV.any, AV.any, AV.any, AV.any, AV.any, AV.any, AV.any, AV.any])).a ((Cnd.p (OW (AO.own Md.pile0 pH0) (AO.own Md.pile0 pH0))).a (((Cnd.p (L ≠ [])).a ((Cnd.p (VW [AV.ptr 1100 0] [AV.ptr 1100 0])).a ((Cnd.p (OW (AO.own (Md.line L) (lH L)) (AO.own (Md.line L) (lH L)))).a Cnd.t))).a (((Cnd.p (VW [AV.ptr 1100 0, AV.v (Value.int IntKind.i64 q)] [AV.ptr 1100 0, AV.v (Value.int IntKind.i64 q)])).a ((Cnd.p (OW (AO.own (Md.line L) (lH L)) (AO.own (Md.line L) (lH L)))).a Cnd.t)).a (((Cnd.p (Wk (AV.tuple [AV.agg [AV.v (Value.int IntKind.i64 (findI q L).a), AV.v (Value.int IntKind.i64 (findI q L).b), AV.v (Value.int IntKind.i64 (findI q L).c)], AV.v (Value.bool (hasSeq q L))]) (AV.tuple [AV.agg [AV.v (Value.int IntKind.i64 x.a), AV.v (Value.int IntKind.i64 x.b), AV.v (Value.int IntKind.i64 x.c)], AV.lit true]))).a Cnd.t).a (((Cnd.p (true = true)).a Cnd.t).a (((Cnd.p (VW [AV.ptr 1100 0] [AV.ptr 1100 0])).a ((Cnd.p (OW (AO.own (Md.line (remK q L)) (lH (remK q L))) (AO.own (Md.line (remK q L)) (lH (remK q L))))).a Cnd.t)).a (((Cnd.p (Wk (AV.v (Value.bool (Int.ofNat (remK q L).length == IntKind.i64.wrap (↑L.length - Int.ofNat 1)))) (AV.lit true))).a Cnd.t).a (((Cnd.p (true = true)).a ((Cnd.p ([AV.v (Value.int IntKind.i64 x.a), AV.v (Value.int IntKind.i64 x.b), AV.v (Value.int IntKind.i64 x.c)] = [AV.v (Value.int IntKind.i64 x.a), AV.v (Value.int IntKind.i64 x.b), AV.v (Value.int IntKind.i64 x.c)])).a Cnd.t)).a (((Cnd.p (RoomL (remK q L))).a ((Cnd.p (VW [AV.ptr 1100 0, AV.agg [AV.v (Value.int IntKind.i64 x.a), AV.v (Value.int IntKind.i64 x.b), AV.v (Value.int IntKind.i64 x.c)]] [AV.ptr 1100 0, AV.agg [AV.v (Value.int IntKind.i64 x.a), AV.v (Value.int IntKind.i64 x.b), AV.v (Value.int IntKind.i64 x.c)]])).a ((Cnd.p (OW (AO.own (Md.line (remK q L)) (lH (remK q L))) (AO.own (Md.line (remK q L)) (lH (remK q L))))).a ((Cnd.p (Wk (AV.v (Value.bool !hasSeq x.b (remK q L))) (AV.lit true))).a Cnd.t)))).a (((Cnd.p (putL (remK q L) (It.mk x.a x.b x.c) ≠ [])).a ((Cnd.p (VW [AV.ptr 1100 0] [AV.ptr 1100 0])).a ((Cnd.p (OW (AO.own (Md.line (putL (remK q L) (It.mk x.a x.b x.c))) (lH (putL (remK q L) (It.mk x.a x.b x.c)))) (AO.own (Md.line (putL (remK q L) (It.mk x.a x.b x.c))) (lH (putL (remK q L) (It.mk x.a x.b x.c)))))).a Cnd.t))).a (((Cnd.p (VW [AV.slice 1103 0 (putL (remK q L) (It.mk x.a x.b x.c)).length 3 (Cp.lo (putL (remK q L) (It.mk x.a x.b x.c)).length), AV.slice 1101 0 L.length 3 (Cp.lo L.length)] [AV.slice 1103 0 L.length 3 (Cp.lo L.length), AV.slice 1101 0 L.length 3 (Cp.lo L.length)])).a ((Cnd.p (OW (AO.cells (AV.rens (sgN (fun x => 1100) [1000] 1103) (rowV enc (putL (remK q L) (It.mk x.a x.b x.c)))) 54) (AO.cells (AV.rens (nm3 1103 1101 1101) (rowV enc L)) 54))).a ((Cnd.p (OW (AO.cells (AV.rens (sgN (fun x => 1100) [1000] 1101) (rowV enc L)) 54) (AO.cells (AV.rens (nm3 1103 1101 1101) (rowV enc L)) 54))).a Cnd.t))).a Cnd.t)))))))))))))))))) := by kernel_rfl
end
end Go.Proofs.Ytcpijmlaglcblaa.Rk

/- RanksReturns: contracts of the law's calls. -/
set_option linter.unusedVariables false
set_option linter.unusedSimpArgs false
set_option maxRecDepth 100000
namespace Go.Proofs.Ytcpijmlaglcblaa.Rk
open Go Go.RowKit Go.Proofs.Ytcpijmlaglcblaa.Eng
theorem cNewA_ok (F : HP) : C1OK Try.prog F fNew cNewA := by
  intro st W0 N h w args vargs v h' n n' lg lg' c p hp he hc r ha hf
  unfold cNewA at hp
  split at hp
  · cases hp
    have hcl : ClosedC [] [] [.ptr 1000 0] [(1000, pO0)] := ⟨rfl, rfl, trivial, (fun x hx => by cases hx), ⟨rfl, trivial⟩, fun x hx => by simp only [List.mem_singleton] at hx; subst hx; trivial⟩
    exact useC_ok oldDef new_tri rfl hcl he hc r ha hf
  · cases hp
    exact (inv_fail he).elim
theorem cItemsA_ok (F : HP) : C1OK Try.prog F fLItems cItemsA := by
  intro st W0 N h w args vargs v h' n n' lg lg' c p hp he hc r ha hf
  unfold cItemsA at hp
  split at hp
  · rename_i i
    cases hp
    obtain ⟨m, lg1, he1⟩ := ownC_run he
    split at he1
    · have hcl : ClosedC [.ptr 0 0] [(0, pO0)] [.v (.slice none 0 0)] [(0, pO0)] := ⟨rfl, rfl, ⟨rfl, trivial⟩, (fun x hx => by simp only [List.mem_singleton] at hx; subst hx; trivial), ⟨trivial, trivial⟩, fun x hx => by simp only [List.mem_singleton] at hx; subst hx; trivial⟩
      exact useC_ok oldDef items0_tri rfl hcl he1 hc r ha hf
    · rename_i L
      obtain ⟨c1, he2, rfl⟩ := run_need he1
      obtain ⟨hR, hc2⟩ := (Cnd.and_iff _ _).1 hc
      have hcl : ClosedC [.ptr 0 0] [(0, lO L)] [.slice 1000 0 L.length 3 (.lo L.length)] [(0, lO L), (1000, .cells (rowV enc L) tIt)] := ⟨rfl, rfl, ⟨rfl, trivial⟩, (fun x hx => by simp only [List.mem_singleton] at hx; subst hx; trivial), ⟨rfl, trivial⟩, fun x hx => by
        simp only [RT.pick, List.mem_cons, List.not_mem_nil, or_false] at hx
        rcases hx with rfl | rfl
        · trivial
        · exact cls_rowV _ _⟩
      exact useC_ok oldDef (Aitems_tri L hR) rfl hcl he2 hc2 r ha hf
    · exact (inv_fail he1).elim
  · cases hp
    exact (inv_fail he).elim
theorem cTakeA_ok (F : HP) : C1OK Try.prog F fLTake cTakeA := by
  intro st W0 N h w args vargs v h' n n' lg lg' c p hp he hc r ha hf
  unfold cTakeA at hp
  split at hp
  · rename_i i k
    cases hp
    obtain ⟨m, lg1, he1⟩ := ownC_run he
    split at he1
    · have hcl : ClosedC [.ptr 0 0, iv k] [(0, pO0)] [.tuple [itA It.zero, .v (.bool false)]] [(0, pO0)] := ⟨rfl, rfl, ⟨rfl, trivial, trivial⟩, (fun x hx => by simp only [List.mem_singleton] at hx; subst hx; trivial), ⟨⟨⟨trivial, trivial, trivial, trivial⟩, trivial, trivial⟩, trivial⟩, fun x hx => by simp only [List.mem_singleton] at hx; subst hx; trivial⟩
      exact useC_ok oldDef (ltake0_tri k) rfl hcl he1 hc r ha hf
    · rename_i L
      exact lineC_ok (Atake_tri L k) ⟨rfl, trivial, trivial⟩ ⟨⟨⟨trivial, trivial, trivial, trivial⟩, trivial, trivial⟩, trivial⟩ he1 hc r ha hf
    · exact (inv_fail he1).elim
  · cases hp
    exact (inv_fail he).elim
theorem cSameA_ok (L : List It) (hb : L.length < 9223372036854775807) (F : HP) : C1OK Try.prog F fSame (cSameA L) := by
  intro st W0 N h w args vargs v h' n n' lg lg' c p hp he hc r ha hf
  unfold cSameA at hp
  split at hp
  · cases hp
    have hcl : ClosedC [.slice 0 0 L.length 3 (.lo L.length), .slice 1 0 L.length 3 (.lo L.length)] [(0, .cells (rowV enc L) tIt), (1, .cells (rowV enc L) tIt)] [.v (.bool true)] [(0, .cells (rowV enc L) tIt), (1, .cells (rowV enc L) tIt)] := ⟨rfl, rfl, ⟨rfl, rfl, trivial⟩, (fun x hx => by
        simp only [List.mem_cons, List.not_mem_nil, or_false] at hx
        rcases hx with rfl | rfl <;> exact cls_rowV _ _), ⟨trivial, trivial⟩, fun x hx => by
        simp only [RT.pick, List.mem_cons, List.not_mem_nil, or_false] at hx
        rcases hx with rfl | rfl <;> exact cls_rowV _ _⟩
    exact useC_ok oldDef (same_tri L hb) rfl hcl he hc r ha hf
  · cases hp
    have hcl : ClosedC [.v (.slice none 0 0), .v (.slice none 0 0)] [] [.v (.bool true)] [] := ⟨rfl, rfl, ⟨trivial, trivial, trivial⟩, (fun x hx => by cases hx), ⟨trivial, trivial⟩, fun x hx => by cases hx⟩
    exact useC_ok oldDef same0_tri rfl hcl he hc r ha hf
  · cases hp
    exact (inv_fail he).elim
theorem conT_ok (L : List It) (hb : L.length < 9223372036854775807) : ∀ x ∈ conT L, ∀ F, C1OK Try.prog F x.1 x.2 := by
  intro x hx F
  simp only [conT, List.mem_cons, List.not_mem_nil, or_false] at hx
  rcases hx with rfl | rfl | rfl | rfl | rfl | rfl | rfl
  · exact cNewA_ok F
  · exact cPutA_ok F
  · exact cItemsA_ok F
  · exact cTakeA_ok F
  · exact cLLen_ok F
  · exact cSameA_ok L hb F
  · exact cSpeaks_ok F
end Go.Proofs.Ytcpijmlaglcblaa.Rk

/- RanksReturns: the law in the engine's words. -/
set_option linter.unusedVariables false
set_option linter.unusedSimpArgs false
set_option maxRecDepth 100000
namespace Go.Proofs.Ytcpijmlaglcblaa.Rk
open Go Go.RowKit Go.Proofs.Ytcpijmlaglcblaa.Eng
theorem lA_cl (K : Nat → Bool) (L : List It) : (lA L).cl K := by cases L <;> trivial
theorem retLc_ok (W : World) (oa : Option Addr) (items : List It) (c : Nat) (q : Int) (hI : In W oa items) (F : HP) (hF : OldOK W F) : L1OK Try.prog F (loopN fRet 7) (retLc (slV oa items.length c) items.length q (lA (putAll items))) := by
  intro st W0 N h w tmps tmps' ax a h' n n' lg lg' c' Q he hc r ha hf hK
  unfold retLc at he
  split at he
  · have hcl : ClosedC (tms 0 57 (aRet (slV oa items.length c) items.length 0 q)) [(0, pO0)] (tms 0 57 (zRet (slV oa items.length c) q)) [(0, lA (putAll items))] := by
      refine ⟨rfl, rfl, cls_tms ?_ 57 0, ?_, cls_tms ?_ 57 0, ?_⟩
      · intro x hx
        simp only [aRet, List.mem_cons, List.not_mem_nil, or_false] at hx
        rcases hx with rfl | rfl | rfl | rfl | rfl | rfl <;> first | trivial | rfl
      · intro x hx
        simp only [List.mem_singleton] at hx; subst hx; trivial
      · intro x hx
        simp only [zRet, List.mem_cons, List.not_mem_nil, or_false] at hx
        rcases hx with rfl | rfl | rfl <;> first | trivial | rfl
      · intro x hx
        simp only [RT.pick, List.mem_singleton] at hx; subst hx; exact lA_cl _ _
    exact useG_loop hF (ret_loop W oa items c q hI) hcl he hc r ha hf hK
  · exact (inv_fail he).elim
theorem wkT (y : It) (b : Bool) : Wk (.tuple [itA y, .v (.bool b)]) (.tuple [itA y, .lit b]) := by
  intro N z hz
  simp only [VR, VRs] at hz ⊢
  exact hz
theorem returns_tri (W : World) (oa : Option Addr) (items : List It) (c : Nat) (q : Int) (hI : In W oa items) : Tri Try.prog W fRet [slV oa items.length c, iv q] [] (.v (.bool true)) [] := by
  have hle : (putAll items).length ≤ items.length := by rw [← upTo_all]; exact upTo_len items _ (Nat.le_refl _)
  have hS : Sortd (putAll items) := by rw [← upTo_all]; exact upTo_sorted items _ (Nat.le_refl _)
  have hU : Uniq (putAll items) := by rw [← upTo_all]; exact upTo_uniq items _ (Nat.le_refl _)
  have hbig := hI.big
  have hlo := retLc_ok W oa items c q hI
  generalize putAll items = L at hle hS hU hlo
  have hb : L.length < 9223372036854775807 := by omega
  have hfin : Fits [] [.v (.bool true)] [] [.v (.bool true)] [] := (fit_mk (vs := [.v (.bool true)]) (vs' := [.v (.bool true)]) [] rfl rfl (VW.refl _) (show ObjsOK [] [] [] [] from trivial)).fits rfl
  by_cases hL : L = []
  · subst hL
    refine tri_of_run (con := conL (conT [])) (claim := hT false It.zero) (lcon := lconL [(fRet, 7, loopN fRet 7, retLc (slV oa items.length c) items.length q pO0)]) [] 1000 mixed rfl (fun F _ => conL_ok rfl fun x hx => conT_ok [] hb x hx F) (fun F hF => lconL_ok rfl fun x hx => by simp only [List.mem_singleton] at hx; subst hx; exact hlo F hF) fun F _ => ?_
    show (wRun (conT []) (hT false It.zero) [(fRet, 7, loopN fRet 7, retLc (slV oa items.length c) items.length q pO0)] W fRet [slV oa items.length c, iv q] [] [] F).all _
    rw [oRetA_eq]
    refine ⟨fun _ => ⟨?_, hfin⟩, fun h => (by cases h)⟩
    simp only [Cnd.holds]
    and_intros
    all_goals first | exact trivial | exact wk_lit _ | exact wkT It.zero false | exact VW.refl _ | exact OW.refl _ | exact Wk.refl _ | rfl | (repeat (first | exact VW.nil | refine VW.cons (Wk.refl _) ?_ | refine VW.cons (wk_unlit _) ?_ | refine VW.cons (Wk.any _) ?_))
  · have hA : lA L = lO L := lA_ne hL
    rw [hA] at hlo
    cases hq : hasSeq q L with
    | false =>
      obtain ⟨n1, n2⟩ := not_there hq
      refine tri_of_run (con := conL (conT L)) (claim := hT false It.zero) (lcon := lconL [(fRet, 7, loopN fRet 7, retLc (slV oa items.length c) items.length q (lO L))]) [] 1000 mixed rfl (fun F _ => conL_ok rfl fun x hx => conT_ok L hb x hx F) (fun F hF => lconL_ok rfl fun x hx => by simp only [List.mem_singleton] at hx; subst hx; exact hlo F hF) fun F _ => ?_
      show (wRun (conT L) (hT false It.zero) [(fRet, 7, loopN fRet 7, retLc (slV oa items.length c) items.length q (lO L))] W fRet [slV oa items.length c, iv q] [] [] F).all _
      rw [oRetB_eq, n1, n2, hq]
      refine ⟨fun _ => ⟨?_, hfin⟩, fun h => (by cases h)⟩
      simp only [Cnd.holds, rens_rowV]
      and_intros
      all_goals first | exact trivial | exact hL | exact wk_lit _ | exact wkT It.zero false | exact VW.refl _ | exact OW.refl _ | exact Wk.refl _ | rfl | (repeat (first | exact VW.nil | refine VW.cons (Wk.refl _) ?_ | refine VW.cons (wk_unlit _) ?_ | refine VW.cons (Wk.any _) ?_))
    | true =>
      obtain ⟨b1, b2, b3⟩ := put_back hU hS hq
      refine tri_of_run (con := conL (conT L)) (claim := hT true (findI q L)) (lcon := lconL [(fRet, 7, loopN fRet 7, retLc (slV oa items.length c) items.length q (lO L))]) [] 1000 mixed rfl (fun F _ => conL_ok rfl fun x hx => conT_ok L hb x hx F) (fun F hF => lconL_ok rfl fun x hx => by simp only [List.mem_singleton] at hx; subst hx; exact hlo F hF) fun F _ => ?_
      show (wRun (conT L) (hT true (findI q L)) [(fRet, 7, loopN fRet 7, retLc (slV oa items.length c) items.length q (lO L))] W fRet [slV oa items.length c, iv q] [] [] F).all _
      have b2' : putL (remK q L) (It.mk (findI q L).a (findI q L).b (findI q L).c) = L := b2
      rw [oRetC_eq, b2', hq]
      have hroom : RoomL (remK q L) := by show (_ + 1) * 24 ≤ _; omega
      have hn : (Int.ofNat (remK q L).length == IntKind.i64.wrap ((L.length : Int) - Int.ofNat 1)) = true := by
        rw [IntWalk.i64_in _ (by simp only [Int.ofNat_eq_natCast]; omega), beq_iff_eq]; simp only [Int.ofNat_eq_natCast]; omega
      have hs : (!hasSeq (findI q L).b (remK q L)) = true := by rw [b1]; rfl
      rw [hn, hs]
      refine ⟨fun h => (by cases h), fun _ => ⟨?_, hfin⟩⟩
      simp only [Cnd.holds, rens_rowV]
      and_intros
      all_goals first | exact trivial | exact hL | exact hroom | exact wk_lit _ | exact wkT (findI q L) true | exact VW.refl _ | exact OW.refl _ | exact Wk.refl _ | rfl | (repeat (first | exact VW.nil | refine VW.cons (Wk.refl _) ?_ | refine VW.cons (wk_unlit _) ?_ | refine VW.cons (Wk.any _) ?_))
end Go.Proofs.Ytcpijmlaglcblaa.Rk

