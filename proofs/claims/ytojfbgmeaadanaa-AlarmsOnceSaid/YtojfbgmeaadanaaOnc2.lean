/- Parts of the proof, merged. -/
import Derived.Test.YtojfbgmeaadanaaOnc1
import Derived.Test.YtojfbgmeaadanaaEngKit2
/- Alarms: heap.Pop, heap.Remove. -/
set_option linter.unusedVariables false
set_option linter.unusedSimpArgs false
set_option maxRecDepth 100000
namespace Go.Proofs.Ytojfbgmeaadanaa.Alm
open Go Go.RowKit Go.Proofs.Ytojfbgmeaadanaa.Eng Go.Proofs.Ytojfbgmeaadanaa.Kit
/-- What the heap's walks leave as it was. -/
structure Keep (s s' : Ps) : Prop where
  len : s'.xs.length = s.xs.length
  g : s'.g = s.g
  m : s'.m = s.m
  ck : s'.ck = s.ck
  tn : s'.tn = s.tn
theorem Keep.refl (s : Ps) : Keep s s := ⟨rfl, rfl, rfl, rfl, rfl⟩
theorem Keep.trans {s s' s'' : Ps} (h : Keep s s') (h' : Keep s' s'') : Keep s s'' := ⟨h'.len.trans h.len, h'.g.trans h.g, h'.m.trans h.m, h'.ck.trans h.ck, h'.tn.trans h.tn⟩
theorem Keep.room {s s' : Ps} (h : Keep s s') : roomOf s' = roomOf s := by simp only [roomOf, h.len, h.g]
theorem Keep.big {s s' : Ps} (h : Keep s s') (hB : Big s) : Big s' := by unfold Big; rw [h.len]; exact hB
theorem swap_keep (s : Ps) (i j : Nat) : Keep s (swapS s i j) := ⟨swap_len s i j, rfl, rfl, rfl, rfl⟩
theorem up_keep : ∀ (j : Nat) (s : Ps), Keep s (upS s j) := by
  intro j
  induction j using Nat.strongRecOn with
  | ind j ih =>
    intro s
    rw [upS]
    split
    · exact Keep.refl s
    · split
      · exact (swap_keep s _ _).trans (ih _ (by omega) _)
      · exact Keep.refl s
theorem down_keep (n : Nat) : ∀ (d : Nat) (s : Ps) (i : Nat), n - i ≤ d → Keep s (downS s i n).1 := by
  intro d
  induction d with
  | zero => intro s i hd; rw [downS, dif_pos (by omega)]; exact Keep.refl s
  | succ d ih =>
    intro s i hd
    rw [downS]
    split
    · exact Keep.refl s
    · split
      · have := downJ_gt s i n
        exact (swap_keep s _ _).trans (ih _ _ (by omega))
      · exact Keep.refl s
theorem down_keeps (s : Ps) (i n : Nat) : Keep s (downS s i n).1 := down_keep n _ s i (Nat.le_refl _)
theorem ow_hdr {s s' : Ps} (h : Keep s s') (r m : Nat) : OW (hdr r m s.xs.length (roomOf s) s.tn) (hdr r m s'.xs.length (roomOf s') s'.tn) := OW.of_eq (by rw [h.len, h.room, h.tn])
theorem pop_fits {s : Ps} {σ1 σ2 : Nat → Nat} : Fits [0, 1, 2, 3, 1100, 1101] [.iface 55 (.ptr 1100 0)] [some (hdr 1 3 (popS s).xs.length (roomOf (popS s)) s.tn), some (.cells (AV.rens σ1 (rowV pv (blocks (popS s)))) tPtr), some (famO (fam 0 (popS s).xs)), some (.map (renE σ2 (mE ptrV s.m)) s.ck), some (alO (lastOf s) (s.xs.length - 1)), some (.same 1100 (lastOf s).k)] [alP] (uL (popS s) ++ outL (lastOf s) (s.xs.length - 1)) := by
  rw [rens_rowV, map_renE]
  exact (fit_mk (vs := [.iface 55 (.ptr 1100 0)]) (vs' := [alP]) (H' := uL (popS s) ++ outL (lastOf s) (s.xs.length - 1)) [(1004, 1100), (1005, 1101)] (by kernel_rfl) (by kernel_rfl) (VW.refl _)
    ⟨⟨_, rfl, OW.refl _⟩, ⟨_, rfl, OW.of_eq (calm_row _ _).symm⟩, ⟨_, rfl, OW.refl _⟩, ⟨_, rfl, OW.of_eq (map_ren s _).symm⟩, ⟨_, rfl, OW.refl _⟩, ⟨_, rfl, OW.refl _⟩, trivial⟩).fits rfl
theorem pred_wrap (n : Nat) (h0 : 0 < n) (h : n ≤ 9382499223688) : IntKind.i64.wrap (Int.ofNat n - Int.ofNat 1) = Int.ofNat (n - 1) := by
  obtain ⟨k, rfl⟩ : ∃ k, n = k + 1 := ⟨n - 1, by omega⟩
  exact len_down k (by omega)
def hpopT (s : Ps) : Ps := swapS s 0 (s.xs.length - 1)
theorem hpop_tri (s : Ps) (hB : Big s) (h0 : 0 < s.xs.length) : Tri Try.prog default fHPop [hI] (uL s) alP (uL (popS (hpopD s)) ++ outL (lastOf (hpopD s)) ((hpopD s).xs.length - 1)) := by
  refine tri_run (con := [(fLen, cLen s), (fSwap, cSwap s), (fDown, cDown (hpopT s)), (fPop, cPop (hpopD s))]) (hints := hHPop s.xs.length) (lc := []) [0, 1, 2, 3, 1100, 1101] rfl
    (fun F _ => con_cons (cLen_ok s F) (con_cons (cSwap_ok s F) (con_cons (cDown_ok _ F) (con_cons (cPop_ok _ F) noC)))) (fun _ _ => noL) fun F => ?_
  have hle := hB.le
  have hw := pred_wrap s.xs.length h0 hle
  have k1 : Keep s (hpopT s) := swap_keep ..
  have k2 : Keep (hpopT s) (hpopD s) := down_keeps ..
  have l1 : s.xs.length - 1 < s.xs.length := by omega
  have l2 : s.xs.length - 1 ≤ (hpopT s).xs.length := by rw [k1.len]; omega
  have l3 : 0 < (hpopD s).xs.length := by rw [k2.len, k1.len]; exact h0
  have l4 : (hpopD s).xs.length ≤ 9223372036854775807 := by rw [k2.len, k1.len]; omega
  refine cast (congrArg (VAll _) (oHPop_eq s (hpopT s) (hpopD s) F).symm) ⟨⟨?_, pop_fits⟩⟩
  simp only [Cnd.holds, rens_rowV, map_renE, true_and, and_true]
  and_intros
  all_goals first
    | exact k1.big hB
    | exact h0
    | exact l1
    | exact l2
    | exact l3
    | exact l4
    | exact Nat.zero_le _
    | exact wk_int hw
    | exact VW.refl _
    | exact OW.refl _
    | exact ow_hdr k1 1 3
/-! heap.Remove: three ways. -/
theorem hrem1_tri (s : Ps) (i : Nat) (hB : Big s) (hi : i + 1 = s.xs.length) : Tri Try.prog default fHRem [hI, iv (Int.ofNat i)] (uL s) alP (uL (popS s) ++ outL (lastOf s) (s.xs.length - 1)) := by
  refine tri_run (con := [(fLen, cLen s), (fPop, cPop s)]) (hints := hRem s.xs.length) (lc := []) [0, 1, 2, 3, 1100, 1101] rfl
    (fun F _ => con_cons (cLen_ok s F) (con_cons (cPop_ok _ F) noC)) (fun _ _ => noL) fun F => ?_
  have hle := hB.le
  have h0 : 0 < s.xs.length := by omega
  have hw := pred_wrap s.xs.length h0 hle
  have l4 : s.xs.length ≤ 9223372036854775807 := by omega
  have hne : (Int.ofNat (s.xs.length - 1) != Int.ofNat i) = false := by
    rw [show s.xs.length - 1 = i by omega]; simp
  refine cast (congrArg (VAll _) (oHRem1_eq s i F).symm) ⟨⟨?_, pop_fits⟩⟩
  simp only [Cnd.holds, rens_rowV, map_renE, true_and, and_true]
  and_intros
  all_goals first
    | exact h0
    | exact l4
    | exact wk_litE hne
    | exact wk_int hw
    | exact VW.refl _
    | exact OW.refl _
def hremT (s : Ps) (i : Nat) : Ps := swapS s i (s.xs.length - 1)
def hremD (s : Ps) (i : Nat) : Ps := (downS (hremT s i) i (s.xs.length - 1)).1
theorem hrem2_tri (s : Ps) (i : Nat) (hB : Big s) (hi : i + 1 < s.xs.length) (hd : i < (downS (hremT s i) i (s.xs.length - 1)).2) : Tri Try.prog default fHRem [hI, iv (Int.ofNat i)] (uL s) alP (uL (popS (hremD s i)) ++ outL (lastOf (hremD s i)) ((hremD s i).xs.length - 1)) := by
  refine tri_run (con := [(fLen, cLen s), (fSwap, cSwap s), (fDown, cDown (hremT s i)), (fPop, cPop (hremD s i))]) (hints := hRemB s.xs.length false) (lc := []) [0, 1, 2, 3, 1100, 1101] rfl
    (fun F _ => con_cons (cLen_ok s F) (con_cons (cSwap_ok s F) (con_cons (cDown_ok _ F) (con_cons (cPop_ok _ F) noC)))) (fun _ _ => noL) fun F => ?_
  have hle := hB.le
  have h0 : 0 < s.xs.length := by omega
  have hw := pred_wrap s.xs.length h0 hle
  have k1 : Keep s (hremT s i) := swap_keep ..
  have k2 : Keep (hremT s i) (hremD s i) := down_keeps ..
  have l0 : i < s.xs.length := by omega
  have l1 : s.xs.length - 1 < s.xs.length := by omega
  have l2 : s.xs.length - 1 ≤ (hremT s i).xs.length := by rw [k1.len]; omega
  have l5 : i ≤ (hremT s i).xs.length := by rw [k1.len]; omega
  have l3 : 0 < (hremD s i).xs.length := by rw [k2.len, k1.len]; exact h0
  have l4 : (hremD s i).xs.length ≤ 9223372036854775807 := by rw [k2.len, k1.len]; omega
  have hne : (Int.ofNat (s.xs.length - 1) != Int.ofNat i) = true := by
    apply bne_iff_ne.2; simp only [Int.ofNat_eq_natCast]; omega
  have hdn : (!decide (i < (downS (hremT s i) i (s.xs.length - 1)).2)) = false := by simp [hd]
  refine cast (congrArg (VAll _) (oHRem2_eq s (hremT s i) (hremD s i) i F).symm) ⟨⟨?_, pop_fits⟩⟩
  simp only [Cnd.holds, rens_rowV, map_renE, true_and, and_true]
  and_intros
  all_goals first
    | exact k1.big hB
    | exact l0
    | exact l1
    | exact l2
    | exact l3
    | exact l4
    | exact l5
    | exact wk_litE hne
    | exact wk_litE hdn
    | exact wk_int hw
    | exact VW.refl _
    | exact OW.refl _
    | exact ow_hdr k1 1 3
def hremU (s : Ps) (i : Nat) : Ps := upS (hremD s i) i
theorem hrem3_tri (s : Ps) (i : Nat) (hB : Big s) (hi : i + 1 < s.xs.length) (hd : ¬ i < (downS (hremT s i) i (s.xs.length - 1)).2) : Tri Try.prog default fHRem [hI, iv (Int.ofNat i)] (uL s) alP (uL (popS (hremU s i)) ++ outL (lastOf (hremU s i)) ((hremU s i).xs.length - 1)) := by
  refine tri_run (con := [(fLen, cLen s), (fSwap, cSwap s), (fDown, cDown (hremT s i)), (fUp, cUp (hremD s i)), (fPop, cPop (hremU s i))]) (hints := hRemB s.xs.length true) (lc := []) [0, 1, 2, 3, 1100, 1101] rfl
    (fun F _ => con_cons (cLen_ok s F) (con_cons (cSwap_ok s F) (con_cons (cDown_ok _ F) (con_cons (cUp_ok _ F) (con_cons (cPop_ok _ F) noC))))) (fun _ _ => noL) fun F => ?_
  have hle := hB.le
  have h0 : 0 < s.xs.length := by omega
  have hw := pred_wrap s.xs.length h0 hle
  have k1 : Keep s (hremT s i) := swap_keep ..
  have k2 : Keep (hremT s i) (hremD s i) := down_keeps ..
  have k3 : Keep (hremD s i) (hremU s i) := up_keep ..
  have l0 : i < s.xs.length := by omega
  have l1 : s.xs.length - 1 < s.xs.length := by omega
  have l2 : s.xs.length - 1 ≤ (hremT s i).xs.length := by rw [k1.len]; omega
  have l5 : i ≤ (hremT s i).xs.length := by rw [k1.len]; omega
  have l6 : i < (hremD s i).xs.length := by rw [k2.len, k1.len]; omega
  have l3 : 0 < (hremU s i).xs.length := by rw [k3.len, k2.len, k1.len]; exact h0
  have l4 : (hremU s i).xs.length ≤ 9223372036854775807 := by rw [k3.len, k2.len, k1.len]; omega
  have hne : (Int.ofNat (s.xs.length - 1) != Int.ofNat i) = true := by
    apply bne_iff_ne.2; simp only [Int.ofNat_eq_natCast]; omega
  have hdn : (!decide (i < (downS (hremT s i) i (s.xs.length - 1)).2)) = true := by simp [hd]
  refine cast (congrArg (VAll _) (oHRem3_eq s (hremT s i) (hremD s i) (hremU s i) i F).symm) ⟨⟨?_, pop_fits⟩⟩
  simp only [Cnd.holds, rens_rowV, map_renE, true_and, and_true]
  and_intros
  all_goals first
    | exact k1.big hB
    | exact k2.big (k1.big hB)
    | exact l0
    | exact l1
    | exact l2
    | exact l3
    | exact l4
    | exact l5
    | exact l6
    | exact wk_litE hne
    | exact wk_litE hdn
    | exact wk_int hw
    | exact VW.refl _
    | exact OW.refl _
    | exact ow_hdr k1 1 3
end Go.Proofs.Ytojfbgmeaadanaa.Alm

/- Alarms: the plain law of container/heap. -/
set_option linter.unusedVariables false
set_option linter.unusedSimpArgs false
namespace Go.Proofs.Ytojfbgmeaadanaa.Alm
open Go Go.RowKit Go.Proofs.Ytojfbgmeaadanaa.Eng Go.Proofs.Ytojfbgmeaadanaa.Kit
theorem swap_at_i (s : Ps) (i j : Nat) (hi : i < s.xs.length) (hj : j < s.xs.length) : (swapS s i j).xs.getD i It.zero = at' s j := by
  simp only [swapS, at', List.getD]
  by_cases h : j = i
  · subst h; simp [hj]
  · rw [List.getElem?_set_ne h, List.getElem?_set_self hi]; rfl
theorem swap_at_j (s : Ps) (i j : Nat) (hi : i < s.xs.length) (hj : j < s.xs.length) : (swapS s i j).xs.getD j It.zero = at' s i := by
  simp only [swapS, at', List.getD]
  rw [List.getElem?_set_self (by simpa using hj)]; rfl
/-! The order. -/
theorem ahead_iff (x y : It) : ahead x y = true ↔ x.a < y.a ∨ (x.a = y.a ∧ x.b < y.b) := by
  simp [ahead]
theorem ahead_irrefl (x : It) : ahead x x = false := by
  cases h : ahead x x with
  | false => rfl
  | true => rw [ahead_iff] at h; omega
theorem ahead_trans {x y z : It} (h1 : ahead x y = true) (h2 : ahead y z = true) : ahead x z = true := by
  rw [ahead_iff] at *; omega
/-- y isn't ahead of x. -/
def nb (x y : It) : Prop := ahead y x = false
theorem nb_iff (x y : It) : nb x y ↔ ¬ (y.a < x.a ∨ (y.a = x.a ∧ y.b < x.b)) := by
  rw [nb, ← Bool.not_eq_true, ahead_iff]
theorem nb_trans {x y z : It} (h1 : nb x y) (h2 : nb y z) : nb x z := by rw [nb_iff] at *; omega
theorem nb_of_ahead {x y : It} (h : ahead x y = true) : nb x y := by rw [nb_iff]; rw [ahead_iff] at h; omega
theorem ahead_of_nb {x y : It} (h : nb x y) (hs : x.b ≠ y.b) : ahead x y = true := by rw [nb_iff] at h; rw [ahead_iff]; omega
/-! Places that are exchanged. -/
def swapF (f : Nat → It) (i j k : Nat) : It := if k = j then f i else if k = i then f j else f k
theorem at_swap (s : Ps) (i j k : Nat) (hi : i < s.xs.length) (hj : j < s.xs.length) : at' (swapS s i j) k = swapF (at' s) i j k := by
  unfold swapF
  by_cases h1 : k = j
  · rw [if_pos h1, h1]; exact swap_at_j s i j hi hj
  · rw [if_neg h1]
    by_cases h2 : k = i
    · rw [if_pos h2, h2]; exact swap_at_i s i j hi hj
    · rw [if_neg h2]
      simp only [swapS, at', List.getD]
      rw [List.getElem?_set_ne (Ne.symm h1), List.getElem?_set_ne (Ne.symm h2)]
theorem at_get (s : Ps) (i : Nat) (hi : i < s.xs.length) : at' s i = s.xs[i] := by
  simp [at', List.getD, List.getElem?_eq_getElem hi]
theorem swap_perm (s : Ps) (i j : Nat) (hi : i < s.xs.length) (hj : j < s.xs.length) : (swapS s i j).xs.Perm s.xs := by
  simp only [swapS, at_get s i hi, at_get s j hj]
  exact List.set_set_perm hi hj
/-- A heap as far as n, but for what hangs on j. -/
def HeapTo (f : Nat → It) (n : Nat) : Prop := ∀ c, 0 < c → c < n → nb (f ((c - 1) / 2)) (f c)
def HeapUp (f : Nat → It) (n j : Nat) : Prop := (∀ c, 0 < c → c < n → c ≠ j → nb (f ((c - 1) / 2)) (f c)) ∧ ∀ c, 0 < c → c < n → (c - 1) / 2 = j → 0 < j → nb (f ((j - 1) / 2)) (f c)
def HeapDown (f : Nat → It) (n i : Nat) : Prop := (∀ c, 0 < c → c < n → (c - 1) / 2 ≠ i → nb (f ((c - 1) / 2)) (f c)) ∧ ∀ c, 0 < c → c < n → (c - 1) / 2 = i → 0 < i → nb (f ((i - 1) / 2)) (f c)
theorem heapUp_step {f : Nat → It} {n j : Nat} (h : HeapUp f n j) (hj0 : 0 < j) (hjn : j < n) (ha : ahead (f j) (f ((j - 1) / 2)) = true) : HeapUp (swapF f ((j - 1) / 2) j) n ((j - 1) / 2) := by
  have hpj : (j - 1) / 2 < j := by omega
  have hpn : (j - 1) / 2 ≠ j := by omega
  have e1 : swapF f ((j - 1) / 2) j j = f ((j - 1) / 2) := if_pos rfl
  have e2 : swapF f ((j - 1) / 2) j ((j - 1) / 2) = f j := by rw [swapF, if_neg hpn, if_pos rfl]
  have e3 : ∀ k, k ≠ j → k ≠ (j - 1) / 2 → swapF f ((j - 1) / 2) j k = f k := fun k h1 h2 => by rw [swapF, if_neg h1, if_neg h2]
  refine ⟨fun c hc hcn hne => ?_, fun c hc hcn hpc hp0 => ?_⟩
  · by_cases hcj : c = j
    · rw [hcj, e1, e2]; exact nb_of_ahead ha
    · rw [e3 c hcj hne]
      by_cases h1 : (c - 1) / 2 = j
      · rw [h1, e1]; exact h.2 c hc hcn h1 hj0
      · by_cases h2 : (c - 1) / 2 = (j - 1) / 2
        · rw [h2, e2]
          exact nb_trans (nb_of_ahead ha) (h2 ▸ h.1 c hc hcn hcj)
        · rw [e3 _ h1 h2]; exact h.1 c hc hcn hcj
  · have hq : ((j - 1) / 2 - 1) / 2 ≠ j := by omega
    have hq2 : ((j - 1) / 2 - 1) / 2 ≠ (j - 1) / 2 := by omega
    rw [e3 _ hq hq2]
    have hb := h.1 ((j - 1) / 2) hp0 (by omega) hpn
    by_cases hcj : c = j
    · rw [hcj, e1]; exact hb
    · rw [e3 c hcj (by omega)]
      exact nb_trans hb (hpc ▸ h.1 c hc hcn hcj)
theorem heapUp_done {f : Nat → It} {n j : Nat} (h : HeapUp f n j) (hd : j = 0 ∨ nb (f ((j - 1) / 2)) (f j)) : HeapTo f n := by
  intro c hc hcn
  by_cases e : c = j
  · rcases hd with h0 | h1
    · omega
    · rw [e]; exact h1
  · exact h.1 c hc hcn e
theorem up_heap : ∀ (j : Nat) (s : Ps), j < s.xs.length → HeapUp (at' s) s.xs.length j → HeapTo (at' (upS s j)) s.xs.length ∧ (upS s j).xs.Perm s.xs := by
  intro j
  induction j using Nat.strongRecOn with
  | ind j ih =>
    intro s hj h
    rw [upS]
    split
    · rename_i h0; exact ⟨heapUp_done h (.inl h0), List.Perm.refl _⟩
    · split
      · rename_i h0 ha
        have hp : (j - 1) / 2 < s.xs.length := by omega
        have hf : at' (swapS s ((j - 1) / 2) j) = swapF (at' s) ((j - 1) / 2) j := funext fun k => at_swap s _ _ k hp hj
        have h2 := heapUp_step h (by omega) hj ha
        have := ih ((j - 1) / 2) (by omega) (swapS s ((j - 1) / 2) j) (by rw [swap_len]; exact hp) (by rw [hf, swap_len]; exact h2)
        rw [swap_len] at this
        exact ⟨this.1, this.2.trans (swap_perm s _ _ hp hj)⟩
      · rename_i h0 ha
        exact ⟨heapUp_done h (.inr (by rw [nb]; simpa using ha)), List.Perm.refl _⟩
theorem heapDown_step {f : Nat → It} {n i j : Nat} (h : HeapDown f n i) (hji : (j - 1) / 2 = i) (hj0 : 0 < j) (hjn : j < n) (ha : ahead (f j) (f i) = true) (hs : ∀ c, 0 < c → c < n → (c - 1) / 2 = i → nb (f j) (f c)) : HeapDown (swapF f i j) n j := by
  have hij : i ≠ j := by omega
  have e1 : swapF f i j j = f i := if_pos rfl
  have e2 : swapF f i j i = f j := by rw [swapF, if_neg hij, if_pos rfl]
  have e3 : ∀ k, k ≠ j → k ≠ i → swapF f i j k = f k := fun k h1 h2 => by rw [swapF, if_neg h1, if_neg h2]
  refine ⟨fun c hc hcn hne => ?_, fun c hc hcn hpc _ => ?_⟩
  · by_cases h1 : (c - 1) / 2 = i
    · rw [h1, e2]
      by_cases hcj : c = j
      · rw [hcj, e1]; exact nb_of_ahead ha
      · rw [e3 c hcj (by omega)]; exact hs c hc hcn h1
    · rw [e3 _ hne h1]
      by_cases hci : c = i
      · rw [hci, e2]
        have hi0 : 0 < i := by omega
        have := h.2 j hj0 hjn hji hi0
        exact this
      · rw [e3 c (fun e => h1 (e ▸ hji)) hci]; exact h.1 c hc hcn h1
  · have hcj : c ≠ j := by omega
    have hci : c ≠ i := by omega
    rw [hji, e2, e3 c hcj hci]
    have := h.1 c hc hcn (by omega)
    rwa [hpc] at this
theorem heapDown_done {f : Nat → It} {n i : Nat} (h : HeapDown f n i) (hd : ∀ c, 0 < c → c < n → (c - 1) / 2 = i → nb (f i) (f c)) : HeapTo f n := by
  intro c hc hcn
  by_cases e : (c - 1) / 2 = i
  · rw [e]; exact hd c hc hcn e
  · exact h.1 c hc hcn e
theorem down_heap (n : Nat) : ∀ (d : Nat) (s : Ps) (i : Nat), n - i ≤ d → n ≤ s.xs.length → HeapDown (at' s) n i → HeapTo (at' (downS s i n).1) n ∧ (downS s i n).1.xs.Perm s.xs ∧ ∀ k, n ≤ k → at' (downS s i n).1 k = at' s k := by
  intro d
  induction d with
  | zero =>
    intro s i hd hn h
    rw [downS, dif_pos (by omega)]
    exact ⟨heapDown_done h (fun c hc hcn e => by omega), List.Perm.refl _, fun _ _ => rfl⟩
  | succ d ih =>
    intro s i hd hn h
    rw [downS]
    split
    · exact ⟨heapDown_done h (fun c hc hcn e => by omega), List.Perm.refl _, fun _ _ => rfl⟩
    · rename_i hlt
      have hjn := downJ_lt s i n hlt
      have hji : (downJ s i n - 1) / 2 = i := by unfold downJ; split <;> omega
      have hj0 : 0 < downJ s i n := by unfold downJ; split <;> omega
      have hmin : ∀ c, 0 < c → c < n → (c - 1) / 2 = i → nb (at' s (downJ s i n)) (at' s c) := by
        intro c hc hcn e
        have hcase : c = 2 * i + 1 ∨ c = 2 * i + 2 := by omega
        unfold downJ
        split
        · rename_i hh
          rcases hcase with rfl | rfl
          · exact nb_of_ahead hh.2
          · exact ahead_irrefl _
        · rename_i hh
          rcases hcase with rfl | rfl
          · exact ahead_irrefl _
          · cases hb : ahead (at' s (2 * i + 2)) (at' s (2 * i + 1)) with
            | false => exact hb
            | true => exact absurd ⟨hcn, hb⟩ hh
      split
      · rename_i ha
        have hj2 : downJ s i n < s.xs.length := by omega
        have hi2 : i < s.xs.length := by omega
        have hf : at' (swapS s i (downJ s i n)) = swapF (at' s) i (downJ s i n) := funext fun k => at_swap s _ _ k hi2 hj2
        have := ih (swapS s i (downJ s i n)) (downJ s i n) (by have := downJ_gt s i n; omega) (by rw [swap_len]; exact hn) (by rw [hf]; exact heapDown_step h hji hj0 hjn ha hmin)
        refine ⟨this.1, this.2.1.trans (swap_perm s _ _ hi2 hj2), fun k hk => ?_⟩
        rw [this.2.2 k hk, hf, swapF, if_neg (by omega), if_neg (by omega)]
      · rename_i ha
        refine ⟨heapDown_done h fun c hc hcn e => ?_, List.Perm.refl _, fun _ _ => rfl⟩
        have ha' : nb (at' s i) (at' s (downJ s i n)) := by simpa [nb] using ha
        exact nb_trans ha' (hmin c hc hcn e)
/-- The root stands ahead. -/
theorem heap_root {f : Nat → It} {n : Nat} (h : HeapTo f n) : ∀ c, c < n → nb (f 0) (f c) := by
  intro c
  induction c using Nat.strongRecOn with
  | ind c ih =>
    intro hc
    by_cases h0 : c = 0
    · rw [h0]; exact ahead_irrefl _
    · exact nb_trans (ih ((c - 1) / 2) (by omega) (by omega)) (h c (by omega) hc)
theorem up_heapN (n : Nat) : ∀ (j : Nat) (s : Ps), j < n → n ≤ s.xs.length → HeapUp (at' s) n j → HeapTo (at' (upS s j)) n ∧ (upS s j).xs.Perm s.xs ∧ ∀ k, n ≤ k → at' (upS s j) k = at' s k := by
  intro j
  induction j using Nat.strongRecOn with
  | ind j ih =>
    intro s hj hn h
    rw [upS]
    split
    · rename_i h0; exact ⟨heapUp_done h (.inl h0), List.Perm.refl _, fun _ _ => rfl⟩
    · split
      · rename_i h0 ha
        have hp : (j - 1) / 2 < s.xs.length := by omega
        have hf : at' (swapS s ((j - 1) / 2) j) = swapF (at' s) ((j - 1) / 2) j := funext fun k => at_swap s _ _ k hp (by omega)
        have h2 := heapUp_step h (by omega) hj ha
        have := ih ((j - 1) / 2) (by omega) (swapS s ((j - 1) / 2) j) (by omega) (by rw [swap_len]; exact hn) (by rw [hf]; exact h2)
        refine ⟨this.1, this.2.1.trans (swap_perm s _ _ hp (by omega)), fun k hk => ?_⟩
        rw [this.2.2 k hk, hf, swapF, if_neg (by omega), if_neg (by omega)]
      · rename_i h0 ha
        exact ⟨heapUp_done h (.inr (by rw [nb]; simpa using ha)), List.Perm.refl _, fun _ _ => rfl⟩
/-- A heap but for what hangs on i, above and below. -/
def HeapHole (f : Nat → It) (n i : Nat) : Prop := (∀ c, 0 < c → c < n → c ≠ i → (c - 1) / 2 ≠ i → nb (f ((c - 1) / 2)) (f c)) ∧ ∀ c, 0 < c → c < n → (c - 1) / 2 = i → 0 < i → nb (f ((i - 1) / 2)) (f c)
theorem hole_step {f : Nat → It} {n i j : Nat} (h : HeapHole f n i) (hji : (j - 1) / 2 = i) (hj0 : 0 < j) (hjn : j < n) (ha : ahead (f j) (f i) = true) (hs : ∀ c, 0 < c → c < n → (c - 1) / 2 = i → nb (f j) (f c)) (hcj : ∀ c, 0 < c → c < n → (c - 1) / 2 = j → nb (f j) (f c)) : HeapDown (swapF f i j) n j := by
  have hij : i ≠ j := by omega
  have e1 : swapF f i j j = f i := if_pos rfl
  have e2 : swapF f i j i = f j := by rw [swapF, if_neg hij, if_pos rfl]
  have e3 : ∀ k, k ≠ j → k ≠ i → swapF f i j k = f k := fun k h1 h2 => by rw [swapF, if_neg h1, if_neg h2]
  refine ⟨fun c hc hcn hne => ?_, fun c hc hcn hpc _ => ?_⟩
  · by_cases h1 : (c - 1) / 2 = i
    · rw [h1, e2]
      by_cases hcj' : c = j
      · rw [hcj', e1]; exact nb_of_ahead ha
      · rw [e3 c hcj' (by omega)]; exact hs c hc hcn h1
    · rw [e3 _ hne h1]
      by_cases hci : c = i
      · rw [hci, e2]
        exact h.2 j hj0 hjn hji (by omega)
      · rw [e3 c (fun e => h1 (e ▸ hji)) hci]; exact h.1 c hc hcn hci h1
  · rw [hji, e2, e3 c (by omega) (by omega)]
    exact hcj c hc hcn hpc
theorem hole_down (n : Nat) (s : Ps) (i : Nat) (hn : n ≤ s.xs.length) (hin : i < n) (h : HeapHole (at' s) n i) :
    (i < (downS s i n).2 → HeapTo (at' (downS s i n).1) n) ∧ (¬ i < (downS s i n).2 → (downS s i n).1 = s ∧ HeapUp (at' s) n i) ∧ (downS s i n).1.xs.Perm s.xs ∧ ∀ k, n ≤ k → at' (downS s i n).1 k = at' s k := by
  have snd_ge : ∀ (d : Nat) (s : Ps) (i : Nat), n - i ≤ d → i ≤ (downS s i n).2 := by
    intro d
    induction d with
    | zero => intro s i hd; rw [downS, dif_pos (by omega)]; exact Nat.le_refl _
    | succ d ih =>
      intro s i hd
      rw [downS]
      split
      · exact Nat.le_refl _
      · have hg := downJ_gt s i n
        split
        · exact Nat.le_trans (Nat.le_of_lt hg) (ih _ _ (by omega))
        · exact Nat.le_refl _
  by_cases hlt : n ≤ 2 * i + 1
  · have e : downS s i n = (s, i) := by rw [downS, dif_pos hlt]
    rw [e]
    refine ⟨fun hh => absurd hh (Nat.lt_irrefl _), fun _ => ⟨rfl, fun c hc hcn hne => h.1 c hc hcn hne (by omega), h.2⟩, List.Perm.refl _, fun _ _ => rfl⟩
  · have hjn := downJ_lt s i n hlt
    have hji : (downJ s i n - 1) / 2 = i := by unfold downJ; split <;> omega
    have hj0 : 0 < downJ s i n := by unfold downJ; split <;> omega
    have hg := downJ_gt s i n
    have hmin : ∀ c, 0 < c → c < n → (c - 1) / 2 = i → nb (at' s (downJ s i n)) (at' s c) := by
      intro c hc hcn e
      have hcase : c = 2 * i + 1 ∨ c = 2 * i + 2 := by omega
      unfold downJ
      split
      · rename_i hh
        rcases hcase with rfl | rfl
        · exact nb_of_ahead hh.2
        · exact ahead_irrefl _
      · rename_i hh
        rcases hcase with rfl | rfl
        · exact ahead_irrefl _
        · cases hb : ahead (at' s (2 * i + 2)) (at' s (2 * i + 1)) with
          | false => exact hb
          | true => exact absurd ⟨hcn, hb⟩ hh
    by_cases ha : ahead (at' s (downJ s i n)) (at' s i) = true
    · have e : downS s i n = downS (swapS s i (downJ s i n)) (downJ s i n) n := by conv => lhs; rw [downS, dif_neg hlt, if_pos ha]
      rw [e]
      have hi2 : i < s.xs.length := by omega
      have hj2 : downJ s i n < s.xs.length := by omega
      have hf : at' (swapS s i (downJ s i n)) = swapF (at' s) i (downJ s i n) := funext fun k => at_swap s _ _ k hi2 hj2
      have hd := down_heap n _ (swapS s i (downJ s i n)) (downJ s i n) (Nat.le_refl _) (by rw [swap_len]; exact hn) (by
        rw [hf]
        refine hole_step h hji hj0 hjn ha hmin fun c hc hcn hp => ?_
        have := h.1 c hc hcn (by omega) (by omega)
        rwa [hp] at this)
      have hge := snd_ge _ (swapS s i (downJ s i n)) (downJ s i n) (Nat.le_refl _)
      refine ⟨fun _ => hd.1, fun hh => absurd (Nat.lt_of_lt_of_le hg hge) hh, hd.2.1.trans (swap_perm s _ _ hi2 hj2), fun k hk => ?_⟩
      rw [hd.2.2 k hk, hf, swapF, if_neg (by omega), if_neg (by omega)]
    · have e : downS s i n = (s, i) := by rw [downS, dif_neg hlt, if_neg ha]
      rw [e]
      have ha' : nb (at' s i) (at' s (downJ s i n)) := by simpa [nb] using ha
      refine ⟨fun hh => absurd hh (Nat.lt_irrefl _), fun _ => ⟨rfl, fun c hc hcn hne => ?_, h.2⟩, List.Perm.refl _, fun _ _ => rfl⟩
      by_cases hp : (c - 1) / 2 = i
      · rw [hp]; exact nb_trans ha' (hmin c hc hcn hp)
      · exact h.1 c hc hcn hne hp
end Go.Proofs.Ytojfbgmeaadanaa.Alm

/- Alarms: a clock as its alarms in the order of setting: the plain law. -/
set_option linter.unusedVariables false
set_option linter.unusedSimpArgs false
set_option maxRecDepth 100000
namespace Go.Proofs.Ytojfbgmeaadanaa.Alm
open Go Go.RowKit Go.Proofs.Ytojfbgmeaadanaa.Eng Go.Proofs.Ytojfbgmeaadanaa.Kit
/-- The clock with the i-th alarm at its end. -/
def remD (s : Ps) (i : Nat) : Ps := if i + 1 = s.xs.length then s else if i < (downS (hremT s i) i (s.xs.length - 1)).2 then hremD s i else hremU s i
theorem remD_keep (s : Ps) (i : Nat) : Keep s (remD s i) := by
  unfold remD
  split
  · exact Keep.refl s
  · split
    · exact (swap_keep ..).trans (down_keeps ..)
    · exact ((swap_keep ..).trans (down_keeps ..)).trans (up_keep ..)
theorem hrem_tri (s : Ps) (i : Nat) (hB : Big s) (hi : i < s.xs.length) : Tri Try.prog default fHRem [hI, iv (Int.ofNat i)] (uL s) alP (uL (popS (remD s i)) ++ outL (lastOf (remD s i)) ((remD s i).xs.length - 1)) := by
  unfold remD
  split
  · exact hrem1_tri s i hB (by assumption)
  · split
    · exact hrem2_tri s i hB (by omega) (by assumption)
    · exact hrem3_tri s i hB (by omega) (by assumption)
theorem mem_at {s : Ps} {x : It} : x ∈ s.xs ↔ ∃ i, i < s.xs.length ∧ at' s i = x := by
  rw [List.mem_iff_getElem]
  constructor
  · rintro ⟨i, hi, e⟩; exact ⟨i, hi, by rw [at_get s i hi, e]⟩
  · rintro ⟨i, hi, e⟩; exact ⟨i, hi, by rw [← at_get s i hi, e]⟩
theorem at_push (s : Ps) (x : It) (i : Nat) : at' (pushS s x) i = if i < s.xs.length then at' s i else if i = s.xs.length then x else It.zero := by
  simp only [at', pushS, List.getD]
  by_cases h1 : i < s.xs.length
  · rw [if_pos h1, List.getElem?_append_left h1]
  · rw [if_neg h1, List.getElem?_append_right (by omega)]
    by_cases h2 : i = s.xs.length
    · rw [if_pos h2, h2, Nat.sub_self]; rfl
    · rw [if_neg h2, List.getElem?_eq_none (by simp; omega)]; rfl
theorem dropLast_at (s : Ps) (k : Nat) (hk : k < s.xs.length - 1) : at' (popS s) k = at' s k := by
  show s.xs.dropLast.getD k It.zero = s.xs.getD k It.zero
  rw [List.getD, List.getD, List.getElem?_dropLast, if_pos hk]
theorem last_perm {s : Ps} (h0 : 0 < s.xs.length) : (lastOf s :: (popS s).xs).Perm s.xs := by
  have hne : s.xs ≠ [] := fun e => by rw [e] at h0; cases h0
  have hl : lastOf s = s.xs.getLast hne := by
    rw [lastOf, at', List.getD, List.getElem?_eq_getElem (by omega), List.getLast_eq_getElem]; rfl
  have hs := List.dropLast_concat_getLast hne
  conv => rhs; rw [← hs]
  rw [hl]
  exact List.perm_append_comm (l₁ := [_])
theorem pop_heap {s : Ps} {n : Nat} (hn : s.xs.length = n + 1) (h : HeapTo (at' s) n) : HeapTo (at' (popS s)) (popS s).xs.length := by
  rw [pop_len, hn]
  intro c hc hcn
  rw [dropLast_at s c (by omega), dropLast_at s _ (by omega)]
  exact h c hc (by omega)
theorem rem_spec (s : Ps) (i : Nat) (hh : HeapTo (at' s) s.xs.length) (hi : i < s.xs.length) : lastOf (remD s i) = at' s i ∧ HeapTo (at' (popS (remD s i))) (popS (remD s i)).xs.length ∧ (at' s i :: (popS (remD s i)).xs).Perm s.xs := by
  have hk := remD_keep s i
  have key : lastOf (remD s i) = at' s i ∧ HeapTo (at' (remD s i)) (s.xs.length - 1) ∧ (remD s i).xs.Perm s.xs := by
    unfold remD
    split
    · rename_i h1
      refine ⟨by rw [lastOf, ← h1]; rfl, fun c hc hcn => hh c hc (by omega), List.Perm.refl _⟩
    · rename_i h1
      have hlast : s.xs.length - 1 < s.xs.length := by omega
      have hsl := swap_len s i (s.xs.length - 1)
      have hf : at' (hremT s i) = swapF (at' s) i (s.xs.length - 1) := funext fun k => at_swap s _ _ k hi hlast
      have hhole : HeapHole (at' (hremT s i)) (s.xs.length - 1) i := by
        rw [hf]
        refine ⟨fun c hc hcn hci hpi => ?_, fun c hc hcn hp h0 => ?_⟩
        · rw [swapF, if_neg (by omega), if_neg hpi, swapF, if_neg (by omega), if_neg hci]
          exact hh c hc (by omega)
        · rw [swapF, if_neg (by omega), if_neg (by omega), swapF, if_neg (by omega), if_neg (by omega)]
          have a1 := hh i h0 hi
          have a2 := hh c hc (by omega)
          rw [hp] at a2
          exact nb_trans a1 a2
      have htl : (hremT s i).xs.length = s.xs.length := hsl
      obtain ⟨q1, q2, q3, q4⟩ := hole_down (s.xs.length - 1) (hremT s i) i (by omega) (by omega) hhole
      have hend : at' (hremT s i) (s.xs.length - 1) = at' s i := by rw [hf, swapF, if_pos rfl]
      have hpd : (hremD s i).xs.Perm s.xs := q3.trans (swap_perm s _ _ hi hlast)
      split
      · rename_i h2
        have hl : (hremD s i).xs.length = s.xs.length := hpd.length_eq
        exact ⟨by rw [lastOf, hl]; exact (q4 _ (Nat.le_refl _)).trans hend, q1 h2, hpd⟩
      · rename_i h2
        obtain ⟨e0, hup⟩ := q2 h2
        have e0' : hremD s i = hremT s i := e0
        obtain ⟨u1, u2, u3⟩ := up_heapN (s.xs.length - 1) i (hremT s i) (by omega) (by omega) hup
        have eU : hremU s i = upS (hremT s i) i := by rw [hremU, e0']
        rw [eU]
        have hp2 : (upS (hremT s i) i).xs.Perm s.xs := u2.trans (swap_perm s _ _ hi hlast)
        exact ⟨by rw [lastOf, hp2.length_eq, u3 _ (Nat.le_refl _), hend], u1, hp2⟩
  obtain ⟨k1, k2, k3⟩ := key
  refine ⟨k1, pop_heap (n := s.xs.length - 1) (by rw [hk.len]; omega) k2, ?_⟩
  rw [← k1]
  exact (last_perm (by rw [hk.len]; omega)).trans k3
theorem hpop_spec (s : Ps) (hh : HeapTo (at' s) s.xs.length) (h0 : 0 < s.xs.length) : lastOf (hpopD s) = at' s 0 ∧ HeapTo (at' (popS (hpopD s))) (popS (hpopD s)).xs.length ∧ (at' s 0 :: (popS (hpopD s)).xs).Perm s.xs ∧ Keep s (hpopD s) := by
  have hlast : s.xs.length - 1 < s.xs.length := by omega
  have hsl := swap_len s 0 (s.xs.length - 1)
  have hf : at' (hpopT s) = swapF (at' s) 0 (s.xs.length - 1) := funext fun k => at_swap s _ _ k h0 hlast
  have hdown : HeapDown (at' (hpopT s)) (s.xs.length - 1) 0 := by
    rw [hf]
    refine ⟨fun c hc hcn hne => ?_, fun c _ _ _ h0' => by omega⟩
    rw [swapF, if_neg (by omega), if_neg hne, swapF, if_neg (by omega), if_neg (by omega)]
    exact hh c hc (by omega)
  have htl : (hpopT s).xs.length = s.xs.length := hsl
  obtain ⟨q1, q2, q3⟩ := down_heap (s.xs.length - 1) _ (hpopT s) 0 (Nat.le_refl _) (by omega) hdown
  have hk : Keep s (hpopD s) := (swap_keep ..).trans (down_keeps ..)
  have hroot : at' (hpopD s) (s.xs.length - 1) = at' s 0 := by
    show at' (downS _ _ _).1 _ = _
    have := q3 (s.xs.length - 1) (Nat.le_refl _)
    rw [hf, swapF, if_pos rfl] at this
    exact this
  have k1 : lastOf (hpopD s) = at' s 0 := by rw [lastOf, hk.len]; exact hroot
  refine ⟨k1, pop_heap (n := s.xs.length - 1) (by rw [hk.len]; omega) q1, ?_, hk⟩
  rw [← k1]
  exact (last_perm (by rw [hk.len]; omega)).trans (q2.trans (swap_perm s 0 _ h0 hlast))
theorem push_spec (s : Ps) (x : It) (hh : HeapTo (at' s) s.xs.length) : HeapTo (at' (hpushS s x)) (hpushS s x).xs.length ∧ (hpushS s x).xs.Perm (s.xs ++ [x]) ∧ Keep (pushS s x) (hpushS s x) := by
  have hlen := push_len s x
  have hup : HeapUp (at' (pushS s x)) (pushS s x).xs.length s.xs.length := by
    rw [hlen]
    refine ⟨fun c hc hcn hne => ?_, fun c hc hcn e _ => by omega⟩
    rw [at_push, at_push, if_pos (by omega), if_pos (by omega)]
    exact hh c hc (by omega)
  obtain ⟨q1, q2⟩ := up_heap s.xs.length (pushS s x) (by omega) hup
  have hk : Keep (pushS s x) (hpushS s x) := up_keep ..
  refine ⟨?_, q2, hk⟩
  rw [hk.len]
  exact q1
/-! The relation. -/
structure AbsC (s : Ps) (L : List Al) (tn : Int) : Prop where
  heap : HeapTo (at' s) s.xs.length
  ord : ∃ ts : List It, ts.Perm s.xs ∧ ts.Pairwise (fun x y => x.b < y.b) ∧ L = ts.map fun x => ⟨x.c, x.a⟩
  top : ∀ x ∈ s.xs, x.b ≤ tn
  ids : (s.xs.map (·.c)).Nodup
  mi : MI s.m s.ck
  map : ∀ id b, mlook id s.m = some b ↔ ∃ x ∈ s.xs, x.c = id ∧ x.k = b
  tn : s.tn = tn
theorem AbsC.len {s : Ps} {L : List Al} {tn : Int} (h : AbsC s L tn) : L.length = s.xs.length := by
  obtain ⟨ts, h1, _, rfl⟩ := h.ord
  rw [List.length_map, h1.length_eq]
/-- The list without an id. -/
def without (L : List Al) (id : Int) : List Al := L.filter fun x => !decide (x.id = id)
theorem AbsC.take {s s' : Ps} {L : List Al} {tn : Int} {x : It} (h : AbsC s L tn) (hh : HeapTo (at' s') s'.xs.length) (hp : (x :: s'.xs).Perm s.xs) (hm : s'.m = mdel s.m x.c) (hc : s'.ck = s.ck) (ht : s'.tn = s.tn) : AbsC s' (without L x.c) tn := by
  have hids : ((x :: s'.xs).map (·.c)).Nodup := (hp.map _).nodup_iff.2 h.ids
  rw [List.map_cons, List.nodup_cons] at hids
  have hne : ∀ y ∈ s'.xs, y.c ≠ x.c := fun y hy e => hids.1 (List.mem_map.2 ⟨y, hy, e⟩)
  obtain ⟨ts, t1, t2, t3⟩ := h.ord
  refine ⟨hh, ⟨ts.filter fun y => !decide (y.c = x.c), ?_, t2.filter _, ?_⟩, fun y hy => h.top y (hp.subset (List.mem_cons_of_mem _ hy)), hids.2, ?_, fun id b => ?_, ht.trans h.tn⟩
  · have := (t1.trans hp.symm).filter fun y => !decide (y.c = x.c)
    rw [List.filter_cons, if_neg (by simp)] at this
    have e : s'.xs.filter (fun y => !decide (y.c = x.c)) = s'.xs := List.filter_eq_self.2 fun y hy => by simpa using hne y hy
    rw [e] at this
    exact this
  · rw [without, t3, List.filter_map]; rfl
  · rw [hm, hc]; exact h.mi.mdel _
  · rw [hm, mlook_mdel h.mi]
    by_cases e : id = x.c
    · rw [if_pos e]
      constructor
      · intro h'; cases h'
      · rintro ⟨y, hy, hyc, _⟩; exact absurd (hyc.trans e) (hne y hy)
    · rw [if_neg e, h.map]
      constructor
      · rintro ⟨y, hy, hyc, hyk⟩
        rcases List.mem_cons.1 (hp.mem_iff.2 hy) with rfl | hy'
        · exact absurd hyc.symm e
        · exact ⟨y, hy', hyc, hyk⟩
      · rintro ⟨y, hy, hyc, hyk⟩
        exact ⟨y, hp.subset (List.mem_cons_of_mem _ hy), hyc, hyk⟩
theorem AbsC.find {s : Ps} {L : List Al} {tn : Int} (h : AbsC s L tn) (id : Int) : (∃ i, i < s.xs.length ∧ (at' s i).c = id ∧ mlook id s.m = some (at' s i).k ∧ (L.find? fun x => decide (x.id = id)) = some ⟨id, (at' s i).a⟩) ∨ (mlook id s.m = none ∧ ∀ x ∈ L, x.id ≠ id) := by
  obtain ⟨ts, t1, t2, t3⟩ := h.ord
  cases hm : mlook id s.m with
  | some b =>
    obtain ⟨x, hx, hxc, hxk⟩ := (h.map id b).1 hm
    obtain ⟨i, hi, rfl⟩ := mem_at.1 hx
    refine .inl ⟨i, hi, hxc, by rw [hxk], ?_⟩
    rw [t3, List.find?_map]
    have hmem : at' s i ∈ ts := t1.mem_iff.2 hx
    have hids : (ts.map (·.c)).Nodup := (t1.map _).nodup_iff.2 h.ids
    have : ts.find? ((fun x => decide (x.id = id)) ∘ fun x => (⟨x.c, x.a⟩ : Al)) = some (at' s i) := by
      clear t1 t2 t3 hm
      induction ts with
      | nil => cases hmem
      | cons y ts ih =>
        rw [List.find?_cons]
        rw [List.map_cons, List.nodup_cons] at hids
        rcases List.mem_cons.1 hmem with e | e
        · subst e
          simp [hxc]
        · have hne : y.c ≠ id := fun e' => hids.1 (List.mem_map.2 ⟨_, e, by rw [hxc, e']⟩)
          simp only [Function.comp, hne, decide_false]
          exact ih e hids.2
    rw [this, Option.map_some, hxc]
  | none =>
    refine .inr ⟨rfl, fun x hx e => ?_⟩
    rw [t3] at hx
    obtain ⟨y, hy, rfl⟩ := List.mem_map.1 hx
    have := (h.map id y.k).2 ⟨y, t1.mem_iff.1 hy, e, rfl⟩
    rw [hm] at this; cases this
theorem without_same {L : List Al} {id : Int} (h : ∀ x ∈ L, x.id ≠ id) : without L id = L := List.filter_eq_self.2 fun x hx => by simpa using h x hx
theorem AbsC.push {s : Ps} {L : List Al} {tn : Int} (h : AbsC s L tn) (id at_ : Int) (b : Nat) (hn : ∀ x ∈ L, x.id ≠ id) : AbsC (hpushS { s with m := mset s.m s.ck id b, ck := mbump s.m s.ck id, tn := tn + 1 } ⟨at_, tn + 1, id, b⟩) (L ++ [⟨id, at_⟩]) (tn + 1) := by
  obtain ⟨q1, q2, q3⟩ := push_spec { s with m := mset s.m s.ck id b, ck := mbump s.m s.ck id, tn := tn + 1 } ⟨at_, tn + 1, id, b⟩ h.heap
  obtain ⟨ts, t1, t2, t3⟩ := h.ord
  have hnew : ∀ y ∈ s.xs, y.c ≠ id := fun y hy e => by
    have : (⟨y.c, y.a⟩ : Al) ∈ L := by rw [t3]; exact List.mem_map.2 ⟨y, t1.mem_iff.2 hy, rfl⟩
    exact hn _ this e
  refine ⟨q1, ⟨ts ++ [⟨at_, tn + 1, id, b⟩], (t1.append_right _).trans q2.symm, ?_, by rw [t3, List.map_append]; rfl⟩, fun y hy => ?_, ?_, ?_, fun i k => ?_, ?_⟩
  · refine List.pairwise_append.2 ⟨t2, List.pairwise_singleton _ _, fun x hx y hy => ?_⟩
    simp only [List.mem_singleton] at hy
    subst hy
    have := h.top x (t1.mem_iff.1 hx)
    show x.b < tn + 1
    omega
  · rcases List.mem_append.1 (q2.mem_iff.1 hy) with hy | hy
    · have := h.top y hy; omega
    · simp only [List.mem_singleton] at hy; subst hy; exact Int.le_refl _
  · refine ((q2.map _).nodup_iff).2 ?_
    rw [List.map_append, List.nodup_append]
    refine ⟨h.ids, by simp, fun a ha b' hb' => ?_⟩
    obtain ⟨y, hy, rfl⟩ := List.mem_map.1 ha
    simp only [List.map_cons, List.map_nil, List.mem_singleton] at hb'
    subst hb'
    exact hnew y hy
  · rw [q3.m, q3.ck]; exact h.mi.mset _ _
  · rw [q3.m]
    show mlook i (mset s.m s.ck id b) = some k ↔ _
    rw [mlook_mset]
    by_cases e : i = id
    · rw [if_pos e]
      constructor
      · intro hk
        exact ⟨⟨at_, tn + 1, id, b⟩, q2.mem_iff.2 (by simp), e.symm, Option.some.inj hk⟩
      · rintro ⟨y, hy, hyc, hyk⟩
        rcases List.mem_append.1 (q2.mem_iff.1 hy) with hy | hy
        · exact absurd (hyc.trans e) (hnew y hy)
        · simp only [List.mem_singleton] at hy; subst hy; rw [← hyk]
    · rw [if_neg e, h.map]
      constructor
      · rintro ⟨y, hy, hyc, hyk⟩
        exact ⟨y, q2.mem_iff.2 (List.mem_append_left _ hy), hyc, hyk⟩
      · rintro ⟨y, hy, hyc, hyk⟩
        rcases List.mem_append.1 (q2.mem_iff.1 hy) with hy | hy
        · exact ⟨y, hy, hyc, hyk⟩
        · simp only [List.mem_singleton] at hy; subst hy; exact absurd hyc.symm e
  · rw [q3.tn]; rfl
/-- The first one due. -/
theorem AbsC.root {s : Ps} {L : List Al} {tn : Int} (h : AbsC s L tn) (h0 : 0 < s.xs.length) : ∃ A B, L = A ++ ⟨(at' s 0).c, (at' s 0).a⟩ :: B ∧ (∀ y ∈ A, (at' s 0).a < y.tk) ∧ ∀ y ∈ B, (at' s 0).a ≤ y.tk := by
  obtain ⟨ts, t1, t2, rfl⟩ := h.ord
  have hm : at' s 0 ∈ ts := t1.mem_iff.2 (mem_at.2 ⟨0, h0, rfl⟩)
  obtain ⟨A, B, rfl⟩ := List.append_of_mem hm
  have hr : ∀ y ∈ A ++ at' s 0 :: B, nb (at' s 0) y := fun y hy => by
    obtain ⟨i, hi, rfl⟩ := mem_at.1 (t1.mem_iff.1 hy)
    exact heap_root h.heap i hi
  rw [List.pairwise_append, List.pairwise_cons] at t2
  refine ⟨A.map fun x => ⟨x.c, x.a⟩, B.map fun x => ⟨x.c, x.a⟩, by simp, fun y hy => ?_, fun y hy => ?_⟩
  · obtain ⟨z, hz, rfl⟩ := List.mem_map.1 hy
    have h1 := hr z (List.mem_append_left _ hz)
    rw [nb_iff] at h1
    have h2 := t2.2.2 z hz (at' s 0) List.mem_cons_self
    show (at' s 0).a < z.a
    omega
  · obtain ⟨z, hz, rfl⟩ := List.mem_map.1 hy
    have h1 := hr z (List.mem_append_right _ (List.mem_cons_of_mem _ hz))
    rw [nb_iff] at h1
    show (at' s 0).a ≤ z.a
    omega
end Go.Proofs.Ytojfbgmeaadanaa.Alm

/- Alarms: a clock's methods: runs. -/
set_option linter.unusedVariables false
set_option linter.unusedSimpArgs false
set_option maxRecDepth 100000
namespace Go.Proofs.Ytojfbgmeaadanaa.Alm
open Go Go.RowKit Go.Proofs.Ytojfbgmeaadanaa.Eng Go.Proofs.Ytojfbgmeaadanaa.Kit
noncomputable section
/-- A clock that lies open, its pile yet nil. -/
def uM0 (s : Ps) : LH := [(0, hdr0 1003 s.tn), (1003, mapO s)]
/-- One alarm lies beside the others. -/
def hremH (s : Ps) (i : Nat) : LH := [(0, hdr 1 3 s.xs.length (roomOf s) s.tn), (1, rowO (blocks s)), (2, famO ((fam 0 s.xs).eraseIdx i)), (3, mapO s), (1004, alO (at' s i) i), (1005, .same 1004 (at' s i).k)]
def oC (s : Ps) (i : Nat) : LH := [(0, hdr 1001 1003 s.xs.length (roomOf s) s.tn), (1001, rowO (blocks s)), (1002, famO ((fam 0 s.xs).eraseIdx i)), (1003, mapO s), (1004, alO (at' s i) i), (1005, .same 1004 (at' s i).k)]
def cHRem (s : Ps) (i : Nat) (d : Ps) : List AV → Option (AP AV) := mkC gUpL (fun _ => Big s ∧ i < s.xs.length ∧ remD s i = d) (fun p => nmU p.1 p.2.1 p.2.2.1) (fun _ => [hI, iv (Int.ofNat i)]) (fun _ => hremH s i) (fun _ => .leaf .ret [alP] (uL (popS d) ++ outL (lastOf d) (d.xs.length - 1)))
abbrev fNew : Nat := 7
abbrev fSet : Nat := 8
abbrev fDue : Nat := 9
abbrev fCan : Nat := 15
abbrev fAt : Nat := 16
abbrev fNext : Nat := 12
abbrev fCLen : Nat := 11
def nilP : AV := .v (.pointer none)
def hCanF (b : Nat) : ClaimT := hintL [(fCan, 1, 5, hv (.tuple [ptrV b, .lit true])), (fCan, 3, 4, hp 1005)]
def hCanN : ClaimT := hintL [(fCan, 1, 5, hv (.tuple [nilP, .lit false]))]
theorem oCanF_eq (s d : Ps) (id : Int) (i : Nat) (F : HP) : wRun [(fHRem, cHRem s i d)] (hCanF (at' s i).k) [] default fCan [.ptr 0 0, iv id] (oC s i) [0, 1001, 1002, 1003] F = VT.leaf (AV.v (Value.bool true)) [some (AO.cells [AV.slice 1001 0 d.xs.dropLast.length 1 (Cp.lo (roomOf (popS d))), AV.map 1003, AV.v (Value.int IntKind.i64 d.tn)] 108), some (AO.cells (AV.rens (sgN (nmU 0 1001 1003) [1004, 1005] 1100) (rowV pv (blocks (popS d)))) 110), some (AO.any (famHP 57 (fam 0 d.xs.dropLast))), some (AO.map (delE (AV.v (Value.int IntKind.i64 id)) (renE (sgN (nmU 0 1001 1003) [1004, 1005] 1100) (mE ptrV d.m))) d.ck)] 1102 (((Cnd.p (true = true)).a Cnd.t).a (((Cnd.p (findKey Try.prog (envW [(21, cHRem s i d)] (hCanF (at' s i).k) [] default F) 3 (AV.v (Value.int IntKind.i64 id)) (mE ptrV s.m) 0 = AP.ret (findS (AV.v (Value.int IntKind.i64 id)) (mE ptrV s.m) 0))).a ((Cnd.p (Wk (AV.tuple [foundX (findS (AV.v (Value.int IntKind.i64 id)) (mE ptrV s.m) 0) (Value.pointer none), AV.v (Value.bool (findS (AV.v (Value.int IntKind.i64 id)) (mE ptrV s.m) 0).isSome)]) (AV.tuple [AV.v (Value.pointer (some (Addr.mk (at' s i).k 0 none))), AV.lit true]))).a Cnd.t)).a (((Cnd.p (Wk (AV.v (Value.pointer (some (Addr.mk (at' s i).k 0 none)))) (AV.v (Value.pointer (some (Addr.mk (at' s i).k 0 none)))))).a Cnd.t).a (((Cnd.p (true = true)).a ((Cnd.p (AV.v (Value.int IntKind.i64 (Int.ofNat i)) = AV.v (Value.int IntKind.i64 (Int.ofNat i)))).a Cnd.t)).a (((Cnd.p (Big s ∧ i < s.xs.length ∧ remD s i = d)).a ((Cnd.p (VW [AV.iface 59 (AV.ptr 0 0), AV.v (Value.int IntKind.i64 (Int.ofNat i))] [AV.iface 59 (AV.ptr 0 0), AV.v (Value.int IntKind.i64 (Int.ofNat i))])).a ((Cnd.p (OW (AO.cells [AV.slice 1001 0 s.xs.length 1 (Cp.lo (roomOf s)), AV.map 1003, AV.v (Value.int IntKind.i64 s.tn)] 108) (AO.cells [AV.slice 1001 0 s.xs.length 1 (Cp.lo (roomOf s)), AV.map 1003, AV.v (Value.int IntKind.i64 s.tn)] 108))).a ((Cnd.p (OW (AO.cells (rowV pv (blocks s)) 110) (AO.cells (AV.rens (nmU 0 1001 1003) (rowV pv (blocks s))) 110))).a ((Cnd.p (OW (AO.any (famHP 57 ((fam 0 s.xs).eraseIdx i))) (AO.any (famHP 57 ((fam 0 s.xs).eraseIdx i))))).a ((Cnd.p (OW (AO.map (mE ptrV s.m) s.ck) (AO.map (renE (nmU 0 1001 1003) (mE ptrV s.m)) s.ck))).a ((Cnd.p (OW (AO.cells [AV.v (Value.int IntKind.i64 (at' s i).c), AV.v (Value.int IntKind.i64 (at' s i).a), AV.v (Value.int IntKind.i64 (at' s i).b), AV.v (Value.int IntKind.i64 (Int.ofNat i))] 114) (AO.cells [AV.v (Value.int IntKind.i64 (at' s i).c), AV.v (Value.int IntKind.i64 (at' s i).a), AV.v (Value.int IntKind.i64 (at' s i).b), AV.v (Value.int IntKind.i64 (Int.ofNat i))] 114))).a ((Cnd.p (OW (AO.same 1004 (at' s i).k) (AO.same 1004 (at' s i).k))).a Cnd.t)))))))).a (((Cnd.p (true = true)).a Cnd.t).a (((Cnd.p (findKey Try.prog (envW [(21, cHRem s i d)] (hCanF (at' s i).k) [] default F) 3 (AV.v (Value.int IntKind.i64 id)) (renE (sgN (nmU 0 1001 1003) [1004, 1005] 1100) (mE ptrV d.m)) 0 = AP.ret (findS (AV.v (Value.int IntKind.i64 id)) (renE (sgN (nmU 0 1001 1003) [1004, 1005] 1100) (mE ptrV d.m)) 0))).a Cnd.t).a Cnd.t))))))) := by kernel_rfl
theorem oCanN_eq (s : Ps) (id : Int) (F : HP) : wRun [] hCanN [] default fCan [.ptr 0 0, iv id] (uM s) [0, 1001, 1002, 1003] F = VT.leaf (AV.v (Value.bool false)) [some (AO.cells [AV.slice 1001 0 s.xs.length 1 (Cp.lo (roomOf s)), AV.map 1003, AV.v (Value.int IntKind.i64 s.tn)] 108), some (AO.cells (rowV pv (blocks s)) 110), some (AO.any (famHP 57 (fam 0 s.xs))), some (AO.map (mE ptrV s.m) s.ck)] 1100 (((Cnd.p (true = true)).a Cnd.t).a (((Cnd.p (findKey Try.prog (envW [] hCanN [] default F) 3 (AV.v (Value.int IntKind.i64 id)) (mE ptrV s.m) 0 = AP.ret (findS (AV.v (Value.int IntKind.i64 id)) (mE ptrV s.m) 0))).a ((Cnd.p (Wk (AV.tuple [foundX (findS (AV.v (Value.int IntKind.i64 id)) (mE ptrV s.m) 0) (Value.pointer none), AV.v (Value.bool (findS (AV.v (Value.int IntKind.i64 id)) (mE ptrV s.m) 0).isSome)]) (AV.tuple [AV.v (Value.pointer none), AV.lit false]))).a Cnd.t)).a Cnd.t)) := by kernel_rfl
theorem oCanN0_eq (s : Ps) (id : Int) (F : HP) : wRun [] hCanN [] default fCan [.ptr 0 0, iv id] (uM0 s) [0, 1003] F = VT.leaf (AV.v (Value.bool false)) [some (AO.cells [AV.v (Value.slice none 0 0), AV.map 1003, AV.v (Value.int IntKind.i64 s.tn)] 108), some (AO.map (mE ptrV s.m) s.ck)] 1100 (((Cnd.p (true = true)).a Cnd.t).a (((Cnd.p (findKey Try.prog (envW [] hCanN [] default F) 3 (AV.v (Value.int IntKind.i64 id)) (mE ptrV s.m) 0 = AP.ret (findS (AV.v (Value.int IntKind.i64 id)) (mE ptrV s.m) 0))).a ((Cnd.p (Wk (AV.tuple [foundX (findS (AV.v (Value.int IntKind.i64 id)) (mE ptrV s.m) 0) (Value.pointer none), AV.v (Value.bool (findS (AV.v (Value.int IntKind.i64 id)) (mE ptrV s.m) 0).isSome)]) (AV.tuple [AV.v (Value.pointer none), AV.lit false]))).a Cnd.t)).a Cnd.t)) := by kernel_rfl
def hAtF (b : Nat) : ClaimT := hintL [(fAt, 1, 5, hv (.tuple [ptrV b, .lit true])), (fAt, 4, 0, hp 1005)]
def hAtN : ClaimT := hintL [(fAt, 1, 5, hv (.tuple [nilP, .lit false]))]
theorem oAtF_eq (s : Ps) (id : Int) (i : Nat) (F : HP) : wRun [] (hAtF (at' s i).k) [] default fAt [.ptr 0 0, iv id] (oC s i) [0, 1001, 1002, 1003, 1004, 1005] F = VT.ite false (VT.leaf (AV.tuple [AV.v (Value.int IntKind.i64 (Int.ofNat 0)), AV.v (Value.bool false)]) [some (AO.cells [AV.slice 1001 0 s.xs.length 1 (Cp.lo (roomOf s)), AV.map 1003, AV.v (Value.int IntKind.i64 s.tn)] 108), some (AO.cells (rowV pv (blocks s)) 110), some (AO.any (famHP 57 ((fam 0 s.xs).eraseIdx i))), some (AO.map (mE ptrV s.m) s.ck), some (AO.cells [AV.v (Value.int IntKind.i64 (at' s i).c), AV.v (Value.int IntKind.i64 (at' s i).a), AV.v (Value.int IntKind.i64 (at' s i).b), AV.v (Value.int IntKind.i64 (Int.ofNat i))] 114), some (AO.same 1004 (at' s i).k)] 1100 (((Cnd.p (true = true)).a Cnd.t).a (((Cnd.p (findKey Try.prog (envW [] (hAtF (at' s i).k) [] default F) 3 (AV.v (Value.int IntKind.i64 id)) (mE ptrV s.m) 0 = AP.ret (findS (AV.v (Value.int IntKind.i64 id)) (mE ptrV s.m) 0))).a ((Cnd.p (Wk (AV.tuple [foundX (findS (AV.v (Value.int IntKind.i64 id)) (mE ptrV s.m) 0) (Value.pointer none), AV.v (Value.bool (findS (AV.v (Value.int IntKind.i64 id)) (mE ptrV s.m) 0).isSome)]) (AV.tuple [AV.v (Value.pointer (some (Addr.mk (at' s i).k 0 none))), AV.lit true]))).a Cnd.t)).a Cnd.t))) (VT.leaf (AV.tuple [AV.v (Value.int IntKind.i64 (at' s i).a), AV.v (Value.bool true)]) [some (AO.cells [AV.slice 1001 0 s.xs.length 1 (Cp.lo (roomOf s)), AV.map 1003, AV.v (Value.int IntKind.i64 s.tn)] 108), some (AO.cells (rowV pv (blocks s)) 110), some (AO.any (famHP 57 ((fam 0 s.xs).eraseIdx i))), some (AO.map (mE ptrV s.m) s.ck), some (AO.cells [AV.v (Value.int IntKind.i64 (at' s i).c), AV.v (Value.int IntKind.i64 (at' s i).a), AV.v (Value.int IntKind.i64 (at' s i).b), AV.v (Value.int IntKind.i64 (Int.ofNat i))] 114), some (AO.same 1004 (at' s i).k)] 1100 (((Cnd.p (true = true)).a Cnd.t).a (((Cnd.p (findKey Try.prog (envW [] (hAtF (at' s i).k) [] default F) 3 (AV.v (Value.int IntKind.i64 id)) (mE ptrV s.m) 0 = AP.ret (findS (AV.v (Value.int IntKind.i64 id)) (mE ptrV s.m) 0))).a ((Cnd.p (Wk (AV.tuple [foundX (findS (AV.v (Value.int IntKind.i64 id)) (mE ptrV s.m) 0) (Value.pointer none), AV.v (Value.bool (findS (AV.v (Value.int IntKind.i64 id)) (mE ptrV s.m) 0).isSome)]) (AV.tuple [AV.v (Value.pointer (some (Addr.mk (at' s i).k 0 none))), AV.lit true]))).a Cnd.t)).a (((Cnd.p (Wk (AV.v (Value.pointer (some (Addr.mk (at' s i).k 0 none)))) (AV.v (Value.pointer (some (Addr.mk (at' s i).k 0 none)))))).a Cnd.t).a (((Cnd.p (true = true)).a ((Cnd.p (AV.v (Value.int IntKind.i64 (at' s i).a) = AV.v (Value.int IntKind.i64 (at' s i).a))).a Cnd.t)).a Cnd.t))))) := by kernel_rfl
theorem oAtN_eq (s : Ps) (id : Int) (F : HP) : wRun [] hAtN [] default fAt [.ptr 0 0, iv id] (uM s) [0, 1001, 1002, 1003] F = VT.ite true (VT.leaf (AV.tuple [AV.v (Value.int IntKind.i64 (Int.ofNat 0)), AV.v (Value.bool false)]) [some (AO.cells [AV.slice 1001 0 s.xs.length 1 (Cp.lo (roomOf s)), AV.map 1003, AV.v (Value.int IntKind.i64 s.tn)] 108), some (AO.cells (rowV pv (blocks s)) 110), some (AO.any (famHP 57 (fam 0 s.xs))), some (AO.map (mE ptrV s.m) s.ck)] 1100 (((Cnd.p (true = true)).a Cnd.t).a (((Cnd.p (findKey Try.prog (envW [] hAtN [] default F) 3 (AV.v (Value.int IntKind.i64 id)) (mE ptrV s.m) 0 = AP.ret (findS (AV.v (Value.int IntKind.i64 id)) (mE ptrV s.m) 0))).a ((Cnd.p (Wk (AV.tuple [foundX (findS (AV.v (Value.int IntKind.i64 id)) (mE ptrV s.m) 0) (Value.pointer none), AV.v (Value.bool (findS (AV.v (Value.int IntKind.i64 id)) (mE ptrV s.m) 0).isSome)]) (AV.tuple [AV.v (Value.pointer none), AV.lit false]))).a Cnd.t)).a Cnd.t))) (VT.bad "nilCheck") := by kernel_rfl
theorem oAtN0_eq (s : Ps) (id : Int) (F : HP) : wRun [] hAtN [] default fAt [.ptr 0 0, iv id] (uM0 s) [0, 1003] F = VT.ite true (VT.leaf (AV.tuple [AV.v (Value.int IntKind.i64 (Int.ofNat 0)), AV.v (Value.bool false)]) [some (AO.cells [AV.v (Value.slice none 0 0), AV.map 1003, AV.v (Value.int IntKind.i64 s.tn)] 108), some (AO.map (mE ptrV s.m) s.ck)] 1100 (((Cnd.p (true = true)).a Cnd.t).a (((Cnd.p (findKey Try.prog (envW [] hAtN [] default F) 3 (AV.v (Value.int IntKind.i64 id)) (mE ptrV s.m) 0 = AP.ret (findS (AV.v (Value.int IntKind.i64 id)) (mE ptrV s.m) 0))).a ((Cnd.p (Wk (AV.tuple [foundX (findS (AV.v (Value.int IntKind.i64 id)) (mE ptrV s.m) 0) (Value.pointer none), AV.v (Value.bool (findS (AV.v (Value.int IntKind.i64 id)) (mE ptrV s.m) 0).isSome)]) (AV.tuple [AV.v (Value.pointer none), AV.lit false]))).a Cnd.t)).a Cnd.t))) (VT.bad "nilCheck") := by kernel_rfl
def hNextF : ClaimT := hintL [(fNext, 1, 5, hv (.lit false)), (fNext, 3, 5, hp 1005)]
def hNextE : ClaimT := hintL [(fNext, 1, 5, hv (.lit true))]
theorem oNextF_eq (s : Ps) (F : HP) : wRun [] hNextF [] default fNext [.ptr 0 0] (oC s 0) [0, 1001, 1002, 1003, 1004, 1005] F = VT.leaf (AV.tuple [AV.v (Value.int IntKind.i64 (at' s 0).a), AV.v (Value.bool true)]) [some (AO.cells [AV.slice 1001 0 s.xs.length 1 (Cp.lo (roomOf s)), AV.map 1003, AV.v (Value.int IntKind.i64 s.tn)] 108), some (AO.cells (rowV pv (blocks s)) 110), some (AO.any (famHP 57 ((fam 0 s.xs).eraseIdx 0))), some (AO.map (mE ptrV s.m) s.ck), some (AO.cells [AV.v (Value.int IntKind.i64 (at' s 0).c), AV.v (Value.int IntKind.i64 (at' s 0).a), AV.v (Value.int IntKind.i64 (at' s 0).b), AV.v (Value.int IntKind.i64 (Int.ofNat 0))] 114), some (AO.same 1004 (at' s 0).k)] 1100 (((Cnd.p (true = true)).a Cnd.t).a (((Cnd.p (Wk (AV.v (Value.bool (↑s.xs.length == Int.ofNat 0))) (AV.lit false))).a Cnd.t).a (((Cnd.p (true = true)).a Cnd.t).a (((Cnd.p (Nat.blt 0 s.xs.length = true)).a Cnd.t).a (((Cnd.p (Nat.blt 0 (rowV pv (blocks s)).length = true)).a ((Cnd.p (Wk ((rowV pv (blocks s)).getD 0 (AV.v (Value.tuple (Array.mk [])))) (AV.v (Value.pointer (some (Addr.mk (at' s 0).k 0 none)))))).a Cnd.t)).a (((Cnd.p (true = true)).a ((Cnd.p (AV.v (Value.int IntKind.i64 (at' s 0).a) = AV.v (Value.int IntKind.i64 (at' s 0).a))).a Cnd.t)).a Cnd.t)))))) := by kernel_rfl
theorem oNextE_eq (s : Ps) (F : HP) : wRun [] hNextE [] default fNext [.ptr 0 0] (uM s) [0, 1001, 1002, 1003] F = VT.leaf (AV.tuple [AV.v (Value.int IntKind.i64 (Int.ofNat 0)), AV.v (Value.bool false)]) [some (AO.cells [AV.slice 1001 0 s.xs.length 1 (Cp.lo (roomOf s)), AV.map 1003, AV.v (Value.int IntKind.i64 s.tn)] 108), some (AO.cells (rowV pv (blocks s)) 110), some (AO.any (famHP 57 (fam 0 s.xs))), some (AO.map (mE ptrV s.m) s.ck)] 1100 (((Cnd.p (true = true)).a Cnd.t).a (((Cnd.p (Wk (AV.v (Value.bool (↑s.xs.length == Int.ofNat 0))) (AV.lit true))).a Cnd.t).a Cnd.t)) := by kernel_rfl
theorem oNextE0_eq (s : Ps) (F : HP) : wRun [] hNextE [] default fNext [.ptr 0 0] (uM0 s) [0, 1003] F = VT.leaf (AV.tuple [AV.v (Value.int IntKind.i64 (Int.ofNat 0)), AV.v (Value.bool false)]) [some (AO.cells [AV.v (Value.slice none 0 0), AV.map 1003, AV.v (Value.int IntKind.i64 s.tn)] 108), some (AO.map (mE ptrV s.m) s.ck)] 1100 (((Cnd.p (true = true)).a Cnd.t).a (((Cnd.p (Wk (AV.v (Value.bool true)) (AV.lit true))).a Cnd.t).a Cnd.t)) := by kernel_rfl
theorem oCLen_eq (s : Ps) (F : HP) : wRun [] noHints [] default fCLen [.ptr 0 0] (uM s) [0, 1001, 1002, 1003] F = VT.leaf (AV.v (Value.int IntKind.i64 ↑s.xs.length)) [some (AO.cells [AV.slice 1001 0 s.xs.length 1 (Cp.lo (roomOf s)), AV.map 1003, AV.v (Value.int IntKind.i64 s.tn)] 108), some (AO.cells (rowV pv (blocks s)) 110), some (AO.any (famHP 57 (fam 0 s.xs))), some (AO.map (mE ptrV s.m) s.ck)] 1100 (((Cnd.p (true = true)).a Cnd.t).a Cnd.t) := by kernel_rfl
theorem oCLen0_eq (s : Ps) (F : HP) : wRun [] noHints [] default fCLen [.ptr 0 0] (uM0 s) [0, 1003] F = VT.leaf (AV.v (Value.int IntKind.i64 (Int.ofNat 0))) [some (AO.cells [AV.v (Value.slice none 0 0), AV.map 1003, AV.v (Value.int IntKind.i64 s.tn)] 108), some (AO.map (mE ptrV s.m) s.ck)] 1100 (((Cnd.p (true = true)).a Cnd.t).a Cnd.t) := by kernel_rfl
theorem oNew_eq (F : HP) : wRun [] noHints [] default fNew [] [] [1100, 1101, 1102] F = VT.leaf (AV.ptr 1101 0) [some (AO.map [] 0), some (AO.cells [AV.v (Value.slice none 0 0), AV.map 1100, AV.v (Value.int IntKind.i64 (Int.ofNat 0))] 108), none] 1102 Cnd.t := by kernel_rfl
end
end Go.Proofs.Ytojfbgmeaadanaa.Alm

/- Alarms: a clock's methods where it lies open. -/
set_option linter.unusedVariables false
set_option linter.unusedSimpArgs false
set_option maxRecDepth 100000
namespace Go.Proofs.Ytojfbgmeaadanaa.Alm
open Go Go.RowKit Go.Proofs.Ytojfbgmeaadanaa.Eng Go.Proofs.Ytojfbgmeaadanaa.Kit
theorem intT : Try.prog.underlying 3 = some (.int .i64) := by kernel_rfl
/-- One alarm is laid beside the others, and back. -/
theorem open_one (s : Ps) (i : Nat) (hi : i < s.xs.length) (vs : List AV) : Goes vs (uM s) vs (oC s i) := by
  have p := perm_at _ i _ (fam_at s i hi)
  refine (goes_lw (H := uM s) (H' := [(0, hdr 1001 1003 s.xs.length (roomOf s) s.tn), (1001, rowO (blocks s)), (1002, famO (((at' s i).k, alC (at' s i) i) :: (fam 0 s.xs).eraseIdx i)), (1003, mapO s)]) (by kernel_rfl) (by kernel_rfl) ⟨rfl, OW.refl _, rfl, OW.refl _, rfl, ow_fam p, rfl, OW.refl _, trivial⟩ (VW.refl _)).trans ?_
  exact goes_out (k := 1002) (i := 1004) (j := 1005) (e := tAl) (b := (at' s i).k) (c := alC (at' s i) i) (l := (fam 0 s.xs).eraseIdx i) (by kernel_rfl) (by kernel_rfl) rfl rfl rfl rfl (by decide) rfl rfl (by decide)
      (fun n h1 h2 h3 => by simp only [oC, getO, h1, h2, h3, if_false]) (fun _ _ _ _ h => h)
theorem shut_one (s : Ps) (i : Nat) (hi : i < s.xs.length) (v : AV) (hv : ∀ K : Nat → Bool, AV.cls K [v]) : Goes [v] (oC s i) [v] (uM s) := by
  have p := perm_at _ i _ (fam_at s i hi)
  refine Goes.trans (H' := [(0, hdr 1001 1003 s.xs.length (roomOf s) s.tn), (1001, rowO (blocks s)), (1002, famO (((at' s i).k, alC (at' s i) i) :: (fam 0 s.xs).eraseIdx i)), (1003, mapO s)]) ?_
    (goes_lw (by kernel_rfl) (by kernel_rfl) ⟨rfl, OW.refl _, rfl, OW.refl _, rfl, ow_fam p.symm, rfl, OW.refl _, trivial⟩ (VW.refl _))
  exact goes_in (k := 1002) (i := 1004) (j := 1005) (e := tAl) (b := (at' s i).k) (c := alC (at' s i) i) (l := (fam 0 s.xs).eraseIdx i) (by kernel_rfl) (by kernel_rfl) rfl rfl rfl rfl rfl rfl (by decide)
      (fun n h1 h2 h3 => by simp only [oC, getO, h1, h2, h3, if_false]) (hv _) (all_cons ⟨rfl, rfl, trivial, trivial⟩ (all_cons (cls_rowV _ _) (all_cons trivial (all_cons (map_clE _ _) all_nil))))
theorem hremH_tri (s : Ps) (i : Nat) (hB : Big s) (hi : i < s.xs.length) : Tri Try.prog default fHRem [hI, iv (Int.ofNat i)] (hremH s i) alP (uL (popS (remD s i)) ++ outL (lastOf (remD s i)) ((remD s i).xs.length - 1)) := by
  have p := perm_at _ i _ (fam_at s i hi)
  refine Tri.pre (Goes.trans (H' := [(0, hdr 1 3 s.xs.length (roomOf s) s.tn), (1, rowO (blocks s)), (2, famO (((at' s i).k, alC (at' s i) i) :: (fam 0 s.xs).eraseIdx i)), (3, mapO s)]) ?_
    (goes_lw (H' := uL s) (by kernel_rfl) (by kernel_rfl) ⟨rfl, OW.refl _, rfl, OW.refl _, rfl, ow_fam p.symm, rfl, OW.refl _, trivial⟩ (VW.refl _))) (hrem_tri s i hB hi)
  exact goes_in (k := 2) (i := 1004) (j := 1005) (e := tAl) (b := (at' s i).k) (c := alC (at' s i) i) (l := (fam 0 s.xs).eraseIdx i) (by kernel_rfl) (by kernel_rfl) rfl rfl rfl rfl rfl rfl (by decide)
      (fun n h1 h2 h3 => by simp only [hremH, getO, h1, h2, h3, if_false]) ⟨rfl, trivial, trivial⟩ (all_cons ⟨rfl, rfl, trivial, trivial⟩ (all_cons (cls_rowV _ _) (all_cons trivial (all_cons (map_clE _ _) all_nil))))
theorem cHRem_ok (s : Ps) (i : Nat) (d : Ps) (F : HP) : C1OK Try.prog F fHRem (cHRem s i d) :=
  mkC_ok (W := default) oldDef (fun _ => alP) gUpL_ro (fun _ => rfl) (fun q hq => by obtain ⟨h1, h2, rfl⟩ := hq; exact hremH_tri s i h1 h2)
    fun q => ⟨by kernel_rfl, by kernel_rfl, ⟨rfl, trivial, trivial⟩, all_cons ⟨rfl, rfl, trivial, trivial⟩ (all_cons (cls_rowV _ _) (all_cons trivial (all_cons (map_clE _ _) (all_cons ⟨trivial, trivial, trivial, trivial, trivial⟩ (all_cons rfl all_nil))))), ⟨rfl, trivial⟩,
      all_cons ⟨rfl, rfl, trivial, trivial⟩ (all_cons (cls_rowV _ _) (all_cons trivial (all_cons (map_clE _ _) (all_cons ⟨trivial, trivial, trivial, trivial, trivial⟩ (all_cons rfl all_nil)))))⟩
/-- What a lookup gives. -/
theorem look_some {m : IMap Nat} {id : Int} {b : Nat} (h : mlook id m = some b) : Wk (.tuple [foundX (findS (.v (.int .i64 id)) (mE ptrV m) 0) (.pointer none), .v (.bool (findS (.v (.int .i64 id)) (mE ptrV m) 0).isSome)]) (.tuple [ptrV b, .lit true]) := by
  rw [found_mE, found_isSome, h]
  intro N y hy
  simp only [VR, VRs] at hy ⊢
  obtain ⟨cs, ⟨y1, r1, e1, ⟨y2, r2, e2, e3, e4⟩, e5⟩, rfl⟩ := hy
  exact ⟨cs, ⟨y1, r1, e1, ⟨y2, r2, e2, e3, e4⟩, e5⟩, rfl⟩
theorem look_none {m : IMap Nat} {id : Int} (h : mlook id m = none) : Wk (.tuple [foundX (findS (.v (.int .i64 id)) (mE ptrV m) 0) (.pointer none), .v (.bool (findS (.v (.int .i64 id)) (mE ptrV m) 0).isSome)]) (.tuple [nilP, .lit false]) := by
  rw [found_mE, found_isSome, h]
  intro N y hy
  simp only [VR, VRs] at hy ⊢
  obtain ⟨cs, ⟨y1, r1, e1, ⟨y2, r2, e2, e3, e4⟩, e5⟩, rfl⟩ := hy
  exact ⟨cs, ⟨y1, r1, e1, ⟨y2, r2, e2, e3, e4⟩, e5⟩, rfl⟩
theorem uM_keep {v : AV} {s : Ps} (hv : ∀ σ, AV.ren σ v = v) : Fits [0, 1001, 1002, 1003] [v] [some (hdr 1001 1003 s.xs.length (roomOf s) s.tn), some (rowO (blocks s)), some (famO (fam 0 s.xs)), some (mapO s)] [v] (uM s) := by
  refine (fit_mk (vs := [v]) (vs' := [v]) (H' := uM s) [(1001, 1001), (1002, 1002), (1003, 1003)] (by kernel_rfl) (by kernel_rfl) ?_ ⟨⟨_, rfl, OW.refl _⟩, ⟨_, rfl, OW.of_eq (calm_row _ _).symm⟩, ⟨_, rfl, OW.refl _⟩, ⟨_, rfl, OW.of_eq (map_ren s _).symm⟩, trivial⟩).fits rfl
  show VW [v] [AV.ren _ v]
  rw [hv]; exact VW.refl _
theorem uM0_keep {v : AV} {s : Ps} (hv : ∀ σ, AV.ren σ v = v) : Fits [0, 1003] [v] [some (hdr0 1003 s.tn), some (mapO s)] [v] (uM0 s) := by
  refine (fit_mk (vs := [v]) (vs' := [v]) (H' := uM0 s) [(1003, 1003)] (by kernel_rfl) (by kernel_rfl) ?_ ⟨⟨_, rfl, OW.refl _⟩, ⟨_, rfl, OW.of_eq (map_ren s _).symm⟩, trivial⟩).fits rfl
  show VW [v] [AV.ren _ v]
  rw [hv]; exact VW.refl _
theorem oC_keep {v : AV} {s : Ps} {i : Nat} (hv : ∀ σ, AV.ren σ v = v) : Fits [0, 1001, 1002, 1003, 1004, 1005] [v] [some (hdr 1001 1003 s.xs.length (roomOf s) s.tn), some (rowO (blocks s)), some (famO ((fam 0 s.xs).eraseIdx i)), some (mapO s), some (alO (at' s i) i), some (.same 1004 (at' s i).k)] [v] (oC s i) := by
  refine (fit_mk (vs := [v]) (vs' := [v]) (H' := oC s i) [(1001, 1001), (1002, 1002), (1003, 1003), (1004, 1004), (1005, 1005)] (by kernel_rfl) (by kernel_rfl) ?_ ⟨⟨_, rfl, OW.refl _⟩, ⟨_, rfl, OW.of_eq (calm_row _ _).symm⟩, ⟨_, rfl, OW.refl _⟩, ⟨_, rfl, OW.of_eq (map_ren s _).symm⟩, ⟨_, rfl, OW.refl _⟩, ⟨_, rfl, OW.refl _⟩, trivial⟩).fits rfl
  show VW [v] [AV.ren _ v]
  rw [hv]; exact VW.refl _
/-! Cancel. -/
def canS (s : Ps) (i : Nat) (id : Int) : Ps := { popS (remD s i) with m := mdel s.m id }
theorem canF_tri (s : Ps) (i : Nat) (id : Int) (hB : Big s) (hi : i < s.xs.length) (hm : mlook id s.m = some (at' s i).k) : Tri Try.prog default fCan [.ptr 0 0, iv id] (uM s) (.v (.bool true)) (uM (canS s i id)) := by
  refine Tri.pre (open_one s i hi _) ?_
  refine tri_run (con := [(fHRem, cHRem s i (remD s i))]) (hints := hCanF (at' s i).k) (lc := []) [0, 1001, 1002, 1003] rfl (fun F _ => con_cons (cHRem_ok s i _ F) noC) (fun _ _ => noL) fun F => ?_
  have hk := remD_keep s i
  refine cast (congrArg (VAll _) (oCanF_eq s (remD s i) id i F).symm) ⟨⟨?_, ?_⟩⟩
  · simp only [Cnd.holds, rens_rowV, map_renE, true_and, and_true]
    and_intros
    all_goals first
      | (with_reducible exact hB)
      | (with_reducible exact hi)
      | (with_reducible exact rfl)
      | (with_reducible exact Wk.refl _)
      | (with_reducible exact VW.refl _)
      | (with_reducible exact OW.refl _)
      | exact findKey_mE intT _ _ _
      | exact look_some hm
  · refine (fit_mk (vs := [.v (.bool true)]) (vs' := [.v (.bool true)]) (H' := uM (canS s i id)) [(1001, 1001), (1002, 1002), (1003, 1003)] (by kernel_rfl) (by kernel_rfl) (VW.refl _) ⟨⟨_, rfl, OW.refl _⟩, ⟨_, rfl, OW.of_eq ?_⟩, ⟨_, rfl, OW.refl _⟩, ⟨_, rfl, OW.of_eq ?_⟩, trivial⟩).fits rfl
    · show _ = (rowO (blocks (popS (remD s i)))).ren _
      rw [calm_row, rens_rowV]
      rfl
    · show _ = (mapO (canS s i id)).ren _
      rw [map_ren, map_renE, delE_mE, hk.m, hk.ck]
      show _ = AO.map (mE ptrV (mdel s.m id)) (remD s i).ck
      rw [hk.ck]
theorem canN_tri (s : Ps) (id : Int) (hm : mlook id s.m = none) : Tri Try.prog default fCan [.ptr 0 0, iv id] (uM s) (.v (.bool false)) (uM s) := by
  refine tri_run (con := []) (hints := hCanN) (lc := []) [0, 1001, 1002, 1003] rfl (fun F _ => noC) (fun _ _ => noL) fun F => ?_
  refine cast (congrArg (VAll _) (oCanN_eq s id F).symm) ⟨⟨?_, uM_keep (fun _ => rfl)⟩⟩
  simp only [Cnd.holds, true_and, and_true]
  exact ⟨findKey_mE intT _ _ _, look_none hm⟩
theorem canN0_tri (s : Ps) (id : Int) (hm : mlook id s.m = none) : Tri Try.prog default fCan [.ptr 0 0, iv id] (uM0 s) (.v (.bool false)) (uM0 s) := by
  refine tri_run (con := []) (hints := hCanN) (lc := []) [0, 1003] rfl (fun F _ => noC) (fun _ _ => noL) fun F => ?_
  refine cast (congrArg (VAll _) (oCanN0_eq s id F).symm) ⟨⟨?_, uM0_keep (fun _ => rfl)⟩⟩
  simp only [Cnd.holds, true_and, and_true]
  exact ⟨findKey_mE intT _ _ _, look_none hm⟩
/-! At. -/
theorem atF_tri (s : Ps) (i : Nat) (id : Int) (hi : i < s.xs.length) (hm : mlook id s.m = some (at' s i).k) : Tri Try.prog default fAt [.ptr 0 0, iv id] (uM s) (.tuple [iv (at' s i).a, .v (.bool true)]) (uM s) := by
  refine Tri.pre (open_one s i hi _) (Tri.post ?_ (shut_one s i hi _ fun K => ⟨⟨trivial, trivial, trivial⟩, trivial⟩))
  refine tri_run (con := []) (hints := hAtF (at' s i).k) (lc := []) [0, 1001, 1002, 1003, 1004, 1005] rfl (fun F _ => noC) (fun _ _ => noL) fun F => ?_
  refine cast (congrArg (VAll _) (oAtF_eq s id i F).symm) ⟨⟨(fun h => by cases h), fun _ => ⟨?_, oC_keep (fun _ => rfl)⟩⟩⟩
  simp only [Cnd.holds, true_and, and_true]
  and_intros
  all_goals first
    | (with_reducible exact Wk.refl _)
    | exact findKey_mE intT _ _ _
    | exact look_some hm
theorem atN_tri (s : Ps) (id : Int) (hm : mlook id s.m = none) : Tri Try.prog default fAt [.ptr 0 0, iv id] (uM s) (.tuple [iv 0, .v (.bool false)]) (uM s) := by
  refine tri_run (con := []) (hints := hAtN) (lc := []) [0, 1001, 1002, 1003] rfl (fun F _ => noC) (fun _ _ => noL) fun F => ?_
  refine cast (congrArg (VAll _) (oAtN_eq s id F).symm) ⟨⟨fun _ => ⟨?_, uM_keep (fun _ => rfl)⟩, (fun h => by cases h)⟩⟩
  simp only [Cnd.holds, true_and, and_true]
  exact ⟨findKey_mE intT _ _ _, look_none hm⟩
theorem atN0_tri (s : Ps) (id : Int) (hm : mlook id s.m = none) : Tri Try.prog default fAt [.ptr 0 0, iv id] (uM0 s) (.tuple [iv 0, .v (.bool false)]) (uM0 s) := by
  refine tri_run (con := []) (hints := hAtN) (lc := []) [0, 1003] rfl (fun F _ => noC) (fun _ _ => noL) fun F => ?_
  refine cast (congrArg (VAll _) (oAtN0_eq s id F).symm) ⟨⟨fun _ => ⟨?_, uM0_keep (fun _ => rfl)⟩, (fun h => by cases h)⟩⟩
  simp only [Cnd.holds, true_and, and_true]
  exact ⟨findKey_mE intT _ _ _, look_none hm⟩
/-! Next, Len. -/
theorem nextF_tri (s : Ps) (h0 : 0 < s.xs.length) : Tri Try.prog default fNext [.ptr 0 0] (uM s) (.tuple [iv (at' s 0).a, .v (.bool true)]) (uM s) := by
  refine Tri.pre (open_one s 0 h0 _) (Tri.post ?_ (shut_one s 0 h0 _ fun K => ⟨⟨trivial, trivial, trivial⟩, trivial⟩))
  refine tri_run (con := []) (hints := hNextF) (lc := []) [0, 1001, 1002, 1003, 1004, 1005] rfl (fun F _ => noC) (fun _ _ => noL) fun F => ?_
  refine cast (congrArg (VAll _) (oNextF_eq s F).symm) ⟨⟨?_, oC_keep (fun _ => rfl)⟩⟩
  have p1 : ∀ d, (rowV pv (blocks s)).getD 0 d = ptrV (at' s 0).k := fun d => row_ptr _ 0 d _ (blocks_at s 0 h0)
  have l1 : 0 < s.xs.length + s.g.length := by omega
  have hb : ((s.xs.length : Int) == Int.ofNat 0) = false := by
    apply beq_eq_false_iff_ne.2; simp only [Int.ofNat_eq_natCast]; omega
  simp only [Cnd.holds, p1, row_len1, blocks_len, l1, h0, Nat.blt_eq, true_and, and_true]
  exact ⟨wk_litE hb, Wk.refl _⟩
theorem nextE_tri (s : Ps) (h0 : s.xs = []) : Tri Try.prog default fNext [.ptr 0 0] (uM s) (.tuple [iv 0, .v (.bool false)]) (uM s) := by
  refine tri_run (con := []) (hints := hNextE) (lc := []) [0, 1001, 1002, 1003] rfl (fun F _ => noC) (fun _ _ => noL) fun F => ?_
  refine cast (congrArg (VAll _) (oNextE_eq s F).symm) ⟨⟨?_, uM_keep (fun _ => rfl)⟩⟩
  have hb : ((s.xs.length : Int) == Int.ofNat 0) = true := by rw [h0]; rfl
  simp only [Cnd.holds, true_and, and_true]
  exact wk_litE hb
theorem nextE0_tri (s : Ps) : Tri Try.prog default fNext [.ptr 0 0] (uM0 s) (.tuple [iv 0, .v (.bool false)]) (uM0 s) := by
  refine tri_run (con := []) (hints := hNextE) (lc := []) [0, 1003] rfl (fun F _ => noC) (fun _ _ => noL) fun F => ?_
  refine cast (congrArg (VAll _) (oNextE0_eq s F).symm) ⟨⟨?_, uM0_keep (fun _ => rfl)⟩⟩
  simp only [Cnd.holds, true_and, and_true]
  try exact wk_lit _
theorem clen_tri (s : Ps) : Tri Try.prog default fCLen [.ptr 0 0] (uM s) (iv (Int.ofNat s.xs.length)) (uM s) := by
  refine tri_run (con := []) (hints := noHints) (lc := []) [0, 1001, 1002, 1003] rfl (fun F _ => noC) (fun _ _ => noL) fun F => ?_
  refine cast (congrArg (VAll _) (oCLen_eq s F).symm) ⟨⟨?_, uM_keep (fun _ => rfl)⟩⟩
  simp only [Cnd.holds, and_self]
theorem clen0_tri (s : Ps) : Tri Try.prog default fCLen [.ptr 0 0] (uM0 s) (iv (Int.ofNat 0)) (uM0 s) := by
  refine tri_run (con := []) (hints := noHints) (lc := []) [0, 1003] rfl (fun F _ => noC) (fun _ _ => noL) fun F => ?_
  refine cast (congrArg (VAll _) (oCLen0_eq s F).symm) ⟨⟨?_, uM0_keep (fun _ => rfl)⟩⟩
  simp only [Cnd.holds, and_self]
end Go.Proofs.Ytojfbgmeaadanaa.Alm

/- Alarms: a clock whole: what its methods do to the list of its alarms. -/
set_option linter.unusedVariables false
set_option linter.unusedSimpArgs false
set_option maxRecDepth 100000
namespace Go.Proofs.Ytojfbgmeaadanaa.Alm
open Go Go.RowKit Go.Proofs.Ytojfbgmeaadanaa.Eng Go.Proofs.Ytojfbgmeaadanaa.Kit
noncomputable section
def clL (z : Bool × Ps) : LH := match z.1 with
  | true => uM0 z.2
  | false => uM z.2
def clR (L : List Al) (tn : Int) (z : Bool × Ps) : Prop := AbsC z.2 L tn ∧ (z.1 = true → z.2.xs = [])
def clH (L : List Al) (tn : Int) : Nat → Nat → HP := exHP (clR L tn) clL
def clO (L : List Al) (tn : Int) : AO := .own (.clock L tn) (clH L tn)
end
theorem uM0_cl (K : Nat → Bool) (hK : K 1003 = true) (s : Ps) : ∀ x ∈ uM0 s, x.2.cl K := all_cons ⟨trivial, hK, trivial, trivial⟩ (all_cons (map_clE _ _) all_nil)
theorem open_clk {f : FuncId} {A : List AV} {L : List Al} {tn : Int} {v : AV} {H' : LH} (h1 : ∀ s, AbsC s L tn → Tri Try.prog default f A (uM s) v H') (h0 : ∀ s, AbsC s L tn → s.xs = [] → Tri Try.prog default f A (uM0 s) v H') : Tri Try.prog default f A [(0, clO L tn)] v H' := by
  refine Tri.open (σ := Bool × Ps) (R := clR L tn) (L := clL) (H0 := []) (fun z => ?_) (fun z => ?_) (fun z => ?_) (fun z hz => ?_)
  · obtain ⟨z, s⟩ := z
    cases z
    · exact (by kernel_rfl : ownL [] (uM s) = true)
    · exact (by kernel_rfl : ownL [] (uM0 s) = true)
  · obtain ⟨z, s⟩ := z
    cases z
    · exact uM_cl _ ⟨rfl, rfl⟩ s
    · exact uM0_cl _ rfl s
  · obtain ⟨z, s⟩ := z
    cases z
    · exact ⟨_, rfl⟩
    · exact ⟨_, rfl⟩
  · rw [List.append_nil]
    obtain ⟨z, s⟩ := z
    cases z
    · exact h1 s hz.1
    · exact h0 s hz.1 (hz.2 rfl)
theorem shut_clk {L : List Al} {tn : Int} (s : Ps) (h : AbsC s L tn) (v : AV) (hv : ∀ K : Nat → Bool, AV.cls K [v]) : Goes [v] (uM s) [v] [(0, clO L tn)] := by
  have := Goes.shut (σ := Bool × Ps) (R := clR L tn) (L := clL) (m := .clock L tn) (H0 := []) (vs := [v]) (false, s) ⟨h, fun e => by cases e⟩ (by kernel_rfl : ownL [] (uM s) = true) ⟨_, _, rfl, rfl⟩ (hv _) (fun x hx => by cases hx)
  rwa [List.append_nil] at this
theorem shut_clk0 {L : List Al} {tn : Int} (s : Ps) (h : AbsC s L tn) (hx : s.xs = []) (v : AV) (hv : ∀ K : Nat → Bool, AV.cls K [v]) : Goes [v] (uM0 s) [v] [(0, clO L tn)] := by
  have := Goes.shut (σ := Bool × Ps) (R := clR L tn) (L := clL) (m := .clock L tn) (H0 := []) (vs := [v]) (true, s) ⟨h, fun _ => hx⟩ (by kernel_rfl : ownL [] (uM0 s) = true) ⟨_, _, rfl, rfl⟩ (hv _) (fun x hx => by cases hx)
  rwa [List.append_nil] at this
/-- Few enough. -/
def BigL (L : List Al) : Prop := L.length * 15 ≤ 140737488355328
theorem AbsC.big {s : Ps} {L : List Al} {tn : Int} (h : AbsC s L tn) (hB : BigL L) : Big s := by unfold Big; rw [← h.len]; exact hB
def hasId (L : List Al) (id : Int) : Bool := L.any fun x => decide (x.id = id)
theorem hasId_none {L : List Al} {id : Int} (h : ∀ x ∈ L, x.id ≠ id) : hasId L id = false := by
  unfold hasId
  rw [List.any_eq_false]
  intro x hx
  simpa using h x hx
theorem hasId_some {L : List Al} {id : Int} {x : Al} (h : (L.find? fun x => decide (x.id = id)) = some x) : hasId L id = true := by
  unfold hasId
  rw [List.any_eq_true]
  exact ⟨x, List.mem_of_find?_eq_some h, List.find?_some (p := fun x : Al => decide (x.id = id)) h⟩
theorem AbsC.can {s : Ps} {L : List Al} {tn : Int} (h : AbsC s L tn) (i : Nat) (hi : i < s.xs.length) : AbsC (canS s i (at' s i).c) (without L (at' s i).c) tn := by
  obtain ⟨q1, q2, q3⟩ := rem_spec s i h.heap hi
  have hk := remD_keep s i
  exact h.take (s' := canS s i (at' s i).c) q2 q3 rfl hk.ck hk.tn
theorem Acan_tri (L : List Al) (tn id : Int) (hB : BigL L) : Tri Try.prog default fCan [.ptr 0 0, iv id] [(0, clO L tn)] (.v (.bool (hasId L id))) [(0, clO (without L id) tn)] := by
  refine open_clk (fun s h => ?_) (fun s h hx => ?_)
  · rcases h.find id with ⟨i, hi, rfl, hm, hf⟩ | ⟨hm, hn⟩
    · rw [hasId_some hf]
      exact Tri.post (canF_tri s i _ (h.big hB) hi hm) (shut_clk _ (h.can i hi) _ fun K => ⟨trivial, trivial⟩)
    · rw [hasId_none hn, without_same hn]
      exact Tri.post (canN_tri s id hm) (shut_clk _ h _ fun K => ⟨trivial, trivial⟩)
  · rcases h.find id with ⟨i, hi, _⟩ | ⟨hm, hn⟩
    · rw [hx] at hi; cases hi
    · rw [hasId_none hn, without_same hn]
      exact Tri.post (canN0_tri s id hm) (shut_clk0 _ h hx _ fun K => ⟨trivial, trivial⟩)
/-- When an alarm is due. -/
def atOf (L : List Al) (id : Int) : Int := match L.find? fun x => decide (x.id = id) with
  | some x => x.tk
  | none => 0
theorem atOf_none {L : List Al} {id : Int} (h : ∀ x ∈ L, x.id ≠ id) : atOf L id = 0 := by
  unfold atOf
  rw [List.find?_eq_none.2 fun x hx => by simpa using h x hx]
theorem Aat_tri (L : List Al) (tn id : Int) : Tri Try.prog default fAt [.ptr 0 0, iv id] [(0, clO L tn)] (.tuple [iv (atOf L id), .v (.bool (hasId L id))]) [(0, clO L tn)] := by
  refine open_clk (fun s h => ?_) (fun s h hx => ?_)
  · rcases h.find id with ⟨i, hi, rfl, hm, hf⟩ | ⟨hm, hn⟩
    · have e : atOf L (at' s i).c = (at' s i).a := by unfold atOf; rw [hf]
      rw [hasId_some hf, e]
      exact Tri.post (atF_tri s i _ hi hm) (shut_clk _ h _ fun K => ⟨⟨trivial, trivial, trivial⟩, trivial⟩)
    · rw [hasId_none hn, atOf_none hn]
      exact Tri.post (atN_tri s id hm) (shut_clk _ h _ fun K => ⟨⟨trivial, trivial, trivial⟩, trivial⟩)
  · rcases h.find id with ⟨i, hi, _⟩ | ⟨hm, hn⟩
    · rw [hx] at hi; cases hi
    · rw [hasId_none hn, atOf_none hn]
      exact Tri.post (atN0_tri s id hm) (shut_clk0 _ h hx _ fun K => ⟨⟨trivial, trivial, trivial⟩, trivial⟩)
theorem Alen_tri (L : List Al) (tn : Int) : Tri Try.prog default fCLen [.ptr 0 0] [(0, clO L tn)] (iv (Int.ofNat L.length)) [(0, clO L tn)] := by
  refine open_clk (fun s h => ?_) (fun s h hx => ?_)
  · rw [h.len]
    exact Tri.post (clen_tri s) (shut_clk _ h _ fun K => ⟨trivial, trivial⟩)
  · rw [h.len, hx]
    exact Tri.post (clen0_tri s) (shut_clk0 _ h hx _ fun K => ⟨trivial, trivial⟩)
/-- The least tick. -/
def nextOf : List Al → Option Int
  | [] => none
  | x :: L => match nextOf L with
    | none => some x.tk
    | some t => some (min x.tk t)
theorem nextOf_ge : ∀ {L : List Al} {a : Int}, (∀ y ∈ L, a ≤ y.tk) → ∀ t, nextOf L = some t → a ≤ t
  | [], a, _, t, h => by cases h
  | x :: L, a, hL, t, h => by
    have hx := hL x List.mem_cons_self
    simp only [nextOf] at h
    cases hn : nextOf L with
    | none => rw [hn] at h; cases h; exact hx
    | some u =>
      rw [hn] at h; cases h
      have := nextOf_ge (fun y hy => hL y (List.mem_cons_of_mem _ hy)) u hn
      omega
theorem nextOf_root : ∀ (A B : List Al) (x : Al), (∀ y ∈ A, x.tk < y.tk) → (∀ y ∈ B, x.tk ≤ y.tk) → nextOf (A ++ x :: B) = some x.tk
  | [], B, x, _, hB => by
    simp only [List.nil_append, nextOf]
    cases hn : nextOf B with
    | none => rfl
    | some u =>
      have := nextOf_ge hB u hn
      simp only [Int.min_eq_left this]
  | y :: A, B, x, hA, hB => by
    simp only [List.cons_append, nextOf]
    rw [nextOf_root A B x (fun z hz => hA z (List.mem_cons_of_mem _ hz)) hB]
    have := hA y List.mem_cons_self
    simp only [Int.min_eq_right (Int.le_of_lt this)]
theorem Anext_tri (L : List Al) (tn : Int) : Tri Try.prog default fNext [.ptr 0 0] [(0, clO L tn)] (.tuple [iv ((nextOf L).getD 0), .v (.bool (nextOf L).isSome)]) [(0, clO L tn)] := by
  refine open_clk (fun s h => ?_) (fun s h hx => ?_)
  · by_cases h0 : 0 < s.xs.length
    · obtain ⟨A, B, e, hA, hB⟩ := h.root h0
      have : nextOf L = some (at' s 0).a := by rw [e]; exact nextOf_root A B ⟨(at' s 0).c, (at' s 0).a⟩ hA hB
      rw [this]
      exact Tri.post (nextF_tri s h0) (shut_clk _ h _ fun K => ⟨⟨trivial, trivial, trivial⟩, trivial⟩)
    · have hx : s.xs = [] := List.eq_nil_of_length_eq_zero (by omega)
      have hL : L = [] := List.eq_nil_of_length_eq_zero (by rw [h.len, hx]; rfl)
      subst hL
      exact Tri.post (nextE_tri s hx) (shut_clk _ h _ fun K => ⟨⟨trivial, trivial, trivial⟩, trivial⟩)
  · have hL : L = [] := List.eq_nil_of_length_eq_zero (by rw [h.len, hx]; rfl)
    subst hL
    exact Tri.post (nextE0_tri s) (shut_clk0 _ h hx _ fun K => ⟨⟨trivial, trivial, trivial⟩, trivial⟩)
theorem AbsC.empty : AbsC ⟨[], [], [], 0, 0⟩ [] 0 := ⟨(fun c _ hc => absurd hc (Nat.not_lt_zero _)), ⟨[], List.Perm.refl _, List.Pairwise.nil, rfl⟩, (fun x hx => absurd hx List.not_mem_nil), List.nodup_nil, MI.nil, (fun id b => ⟨(fun h => by cases h), fun ⟨x, hx, _⟩ => absurd hx List.not_mem_nil⟩), rfl⟩
theorem Anew_tri : Tri Try.prog default fNew [] [] (.ptr 1000 0) [(1000, clO [] 0)] := by
  refine tri_run (con := []) (hints := noHints) (lc := []) [1100, 1101, 1102] rfl (fun F _ => noC) (fun _ _ => noL) fun F => ?_
  refine cast (congrArg (VAll _) (oNew_eq F).symm) ⟨⟨?_, [.ptr 1000 0], renL 1000 (uM0 ⟨[], [], [], 0, 0⟩), [(1000, 1101), (1003, 1100)], by kernel_rfl, fit_mk _ (by kernel_rfl) (by kernel_rfl) (VW.refl _) ⟨⟨_, rfl, OW.refl _⟩, ⟨_, rfl, OW.refl _⟩, trivial⟩, ?_⟩⟩
  · simp only [Cnd.holds, and_self]
  · exact Goes.shutNew (σ := Bool × Ps) (R := clR [] 0) (L := clL) (m := .clock [] 0) 1000 (by decide) (vs := [.ptr 1000 0]) (true, ⟨[], [], [], 0, 0⟩) ⟨AbsC.empty, fun _ => rfl⟩ rfl rfl ⟨_, _, rfl, rfl⟩ ⟨rfl, trivial⟩
end Go.Proofs.Ytojfbgmeaadanaa.Alm

/- Alarms: Set: runs. -/
set_option linter.unusedVariables false
set_option linter.unusedSimpArgs false
set_option maxRecDepth 100000
namespace Go.Proofs.Ytojfbgmeaadanaa.Alm
open Go Go.RowKit Go.Proofs.Ytojfbgmeaadanaa.Eng Go.Proofs.Ytojfbgmeaadanaa.Kit
noncomputable section
def nmM (i r m : Nat) : Nat → Nat := fun k => match Nat.beq k 0 with
  | true => i
  | false => match Nat.beq k 1003 with
    | true => m
    | false => match Nat.beq k 1001 with
      | true => r
      | false => match Nat.beq k 1002 with
        | true => r + 1
        | false => k
def gMap : List AV → AP (Nat × Nat) := fun args => match args with
  | .ptr i 0 :: _ => .read i fun o => match o with
    | .cells (_ :: .map m :: _) _ => .ret (i, m)
    | _ => .fail "map"
  | _ => .fail "map"
def cCan (s t : Ps) (id : Int) (b : Bool) : List AV → Option (AP AV) := mkC gHead (fun _ => True) (fun p => nmM p.1 p.2.1 p.2.2) (fun _ => [.ptr 0 0, iv id]) (fun _ => uM s) (fun _ => .leaf .ret [.v (.bool b)] (uM t))
def cCan0 (s : Ps) (id : Int) : List AV → Option (AP AV) := mkC gMap (fun _ => True) (fun p => nmM p.1 p.2 p.2) (fun _ => [.ptr 0 0, iv id]) (fun _ => uM0 s) (fun _ => .leaf .ret [.v (.bool false)] (uM0 s))
/-- A new alarm, of which the map tells already. -/
def newA (id at_ tn : Int) : It := ⟨at_, tn, id, 0⟩
def mapN (es : List (AV × AV × Nat)) (id : Int) (a ck : Nat) : AO := .map (es ++ [(iv id, .ptr a 0, ck)]) (ck + 1)
def setH (t : Ps) (es : List (AV × AV × Nat)) (id at_ : Int) : LH := [(0, hdr 1001 1003 t.xs.length (roomOf t) (t.tn + 1)), (1001, rowO (blocks t)), (1002, famO (fam 0 t.xs)), (1003, mapN es id 1004 t.ck), (1004, alO (newA id at_ (t.tn + 1)) 0)]
def setH0 (t : Ps) (es : List (AV × AV × Nat)) (id at_ : Int) : LH := [(0, hdr0 1003 (t.tn + 1)), (1003, mapN es id 1004 t.ck), (1004, alO (newA id at_ (t.tn + 1)) 0)]
def cHPushA (t : Ps) (es : List (AV × AV × Nat)) (id at_ : Int) (L : List Al) (tn : Int) : List AV → Option (AP AV) := mkC gPush (fun _ => True) (fun q => nmP q.1 q.2.1 q.2.2.1 q.2.2.2) (fun _ => [hI, alP]) (fun _ => setH t es id at_) (fun _ => .leaf .ret [.tuple []] [(0, clO L tn)])
def cHPushA0 (t : Ps) (es : List (AV × AV × Nat)) (id at_ : Int) (L : List Al) (tn : Int) : List AV → Option (AP AV) := mkC gPush (fun _ => True) (fun q => nmP q.1 q.2.1 q.2.2.1 q.2.2.2) (fun _ => [hI, alP]) (fun _ => setH0 t es id at_) (fun _ => .leaf .ret [.tuple []] [(0, clO L tn)])
def hSet (tn id : Int) (es : List (AV × AV × Nat)) (ck : Nat) : ClaimT := hintL [(fSet, 1, 4, hv (iv (tn + 1))), (fSet, 3, 6, ho 1102 (mapN es id 1103 ck))]
def hSet0 (tn id : Int) (es : List (AV × AV × Nat)) (ck : Nat) : ClaimT := hintL [(fSet, 1, 4, hv (iv (tn + 1))), (fSet, 3, 6, ho 1100 (mapN es id 1101 ck))]
theorem oSet_eq (s t : Ps) (id at_ : Int) (b : Bool) (es : List (AV × AV × Nat)) (L : List Al) (tn : Int) (F : HP) : wRun [(fCan, cCan s t id b), (fHPush, cHPushA t es id at_ L tn)] (hSet t.tn id es t.ck) [] default fSet [.ptr 0 0, iv id, iv at_] (uM s) [0] F = VT.leaf (AV.tuple []) [some (AO.own (Md.clock L tn) (clH L tn))] 1104 (((Cnd.p True).a ((Cnd.p (VW [AV.ptr 0 0, AV.v (Value.int IntKind.i64 id)] [AV.ptr 0 0, AV.v (Value.int IntKind.i64 id)])).a ((Cnd.p (OW (AO.cells [AV.slice 1001 0 s.xs.length 1 (Cp.lo (roomOf s)), AV.map 1003, AV.v (Value.int IntKind.i64 s.tn)] 108) (AO.cells [AV.slice 1001 0 s.xs.length 1 (Cp.lo (roomOf s)), AV.map 1003, AV.v (Value.int IntKind.i64 s.tn)] 108))).a ((Cnd.p (OW (AO.cells (rowV pv (blocks s)) 110) (AO.cells (AV.rens (nmM 0 1001 1003) (rowV pv (blocks s))) 110))).a ((Cnd.p (OW (AO.any (famHP 57 (fam 0 s.xs))) (AO.any (famHP 57 (fam 0 s.xs))))).a ((Cnd.p (OW (AO.map (mE ptrV s.m) s.ck) (AO.map (renE (nmM 0 1001 1003) (mE ptrV s.m)) s.ck))).a Cnd.t)))))).a (((Cnd.p (true = true)).a ((Cnd.p (AV.v (Value.int IntKind.i64 t.tn) = AV.v (Value.int IntKind.i64 t.tn))).a Cnd.t)).a (((Cnd.p (Wk (AV.v (Value.int IntKind.i64 (IntKind.i64.wrap (t.tn + Int.ofNat 1)))) (AV.v (Value.int IntKind.i64 (t.tn + Int.ofNat 1))))).a Cnd.t).a (((Cnd.p (true = true)).a Cnd.t).a (((Cnd.p (true = true)).a ((Cnd.p (AV.v (Value.int IntKind.i64 (t.tn + Int.ofNat 1)) = AV.v (Value.int IntKind.i64 (t.tn + Int.ofNat 1)))).a Cnd.t)).a (((Cnd.p (true = true)).a Cnd.t).a (((Cnd.p (findKey Try.prog (envW [(15, cCan s t id b), (19, cHPushA t es id at_ L tn)] (hSet t.tn id es t.ck) [] default F) 3 (AV.v (Value.int IntKind.i64 id)) (renE (sgN (nmM 0 1001 1003) [1001, 1002, 1003] 1100) (mE ptrV t.m)) 0 = AP.ret (findS (AV.v (Value.int IntKind.i64 id)) (renE (sgN (nmM 0 1001 1003) [1001, 1002, 1003] 1100) (mE ptrV t.m)) 0))).a ((Cnd.p (staysS (AV.v (Value.int IntKind.i64 id)) (renE (sgN (nmM 0 1001 1003) [1001, 1002, 1003] 1100) (mE ptrV t.m)))).a ((Cnd.p (OW (AO.map (setE (AV.v (Value.int IntKind.i64 id)) (AV.ptr 1103 0) (renE (sgN (nmM 0 1001 1003) [1001, 1002, 1003] 1100) (mE ptrV t.m)) t.ck) (bumpE (AV.v (Value.int IntKind.i64 id)) (renE (sgN (nmM 0 1001 1003) [1001, 1002, 1003] 1100) (mE ptrV t.m)) t.ck)) (AO.map (es ++ [(AV.v (Value.int IntKind.i64 id), AV.ptr 1103 0, t.ck)]) (t.ck + 1)))).a Cnd.t))).a (((Cnd.p True).a ((Cnd.p (VW [AV.iface 59 (AV.ptr 0 0), AV.iface 55 (AV.ptr 1103 0)] [AV.iface 59 (AV.ptr 0 0), AV.iface 55 (AV.ptr 1103 0)])).a ((Cnd.p (OW (AO.cells [AV.slice 1100 0 t.xs.length 1 (Cp.lo (roomOf t)), AV.map 1102, AV.v (Value.int IntKind.i64 (t.tn + Int.ofNat 1))] 108) (AO.cells [AV.slice 1100 0 t.xs.length 1 (Cp.lo (roomOf t)), AV.map 1102, AV.v (Value.int IntKind.i64 (t.tn + Int.ofNat 1))] 108))).a ((Cnd.p (OW (AO.cells (AV.rens (sgN (nmM 0 1001 1003) [1001, 1002, 1003] 1100) (rowV pv (blocks t))) 110) (AO.cells (AV.rens (nmP 0 1100 1102 1103) (rowV pv (blocks t))) 110))).a ((Cnd.p (OW (AO.any (famHP 57 (fam 0 t.xs))) (AO.any (famHP 57 (fam 0 t.xs))))).a ((Cnd.p (OW (AO.map (es ++ [(AV.v (Value.int IntKind.i64 id), AV.ptr 1103 0, t.ck)]) (t.ck + 1)) (AO.map (renE (nmP 0 1100 1102 1103) (es ++ [(AV.v (Value.int IntKind.i64 id), AV.ptr 1004 0, t.ck)])) (t.ck + 1)))).a ((Cnd.p (OW (AO.cells [AV.v (Value.int IntKind.i64 id), AV.v (Value.int IntKind.i64 at_), AV.v (Value.int IntKind.i64 (t.tn + Int.ofNat 1)), AV.v (Value.int IntKind.i64 (Int.ofNat 0))] 114) (AO.cells [AV.v (Value.int IntKind.i64 id), AV.v (Value.int IntKind.i64 at_), AV.v (Value.int IntKind.i64 (t.tn + Int.ofNat 1)), AV.v (Value.int IntKind.i64 (Int.ofNat 0))] 114))).a Cnd.t))))))).a Cnd.t)))))))) := by kernel_rfl
theorem oSet0_eq (s : Ps) (id at_ : Int) (es : List (AV × AV × Nat)) (L : List Al) (tn : Int) (F : HP) : wRun [(fCan, cCan0 s id), (fHPush, cHPushA0 s es id at_ L tn)] (hSet0 s.tn id es s.ck) [] default fSet [.ptr 0 0, iv id, iv at_] (uM0 s) [0] F = VT.leaf (AV.tuple []) [some (AO.own (Md.clock L tn) (clH L tn))] 1102 (((Cnd.p True).a ((Cnd.p (VW [AV.ptr 0 0, AV.v (Value.int IntKind.i64 id)] [AV.ptr 0 0, AV.v (Value.int IntKind.i64 id)])).a ((Cnd.p (OW (AO.cells [AV.v (Value.slice none 0 0), AV.map 1003, AV.v (Value.int IntKind.i64 s.tn)] 108) (AO.cells [AV.v (Value.slice none 0 0), AV.map 1003, AV.v (Value.int IntKind.i64 s.tn)] 108))).a ((Cnd.p (OW (AO.map (mE ptrV s.m) s.ck) (AO.map (renE (nmM 0 1003 1003) (mE ptrV s.m)) s.ck))).a Cnd.t)))).a (((Cnd.p (true = true)).a ((Cnd.p (AV.v (Value.int IntKind.i64 s.tn) = AV.v (Value.int IntKind.i64 s.tn))).a Cnd.t)).a (((Cnd.p (Wk (AV.v (Value.int IntKind.i64 (IntKind.i64.wrap (s.tn + Int.ofNat 1)))) (AV.v (Value.int IntKind.i64 (s.tn + Int.ofNat 1))))).a Cnd.t).a (((Cnd.p (true = true)).a Cnd.t).a (((Cnd.p (true = true)).a ((Cnd.p (AV.v (Value.int IntKind.i64 (s.tn + Int.ofNat 1)) = AV.v (Value.int IntKind.i64 (s.tn + Int.ofNat 1)))).a Cnd.t)).a (((Cnd.p (true = true)).a Cnd.t).a (((Cnd.p (findKey Try.prog (envW [(15, cCan0 s id), (19, cHPushA0 s es id at_ L tn)] (hSet0 s.tn id es s.ck) [] default F) 3 (AV.v (Value.int IntKind.i64 id)) (renE (sgN (nmM 0 1003 1003) [1003] 1100) (mE ptrV s.m)) 0 = AP.ret (findS (AV.v (Value.int IntKind.i64 id)) (renE (sgN (nmM 0 1003 1003) [1003] 1100) (mE ptrV s.m)) 0))).a ((Cnd.p (staysS (AV.v (Value.int IntKind.i64 id)) (renE (sgN (nmM 0 1003 1003) [1003] 1100) (mE ptrV s.m)))).a ((Cnd.p (OW (AO.map (setE (AV.v (Value.int IntKind.i64 id)) (AV.ptr 1101 0) (renE (sgN (nmM 0 1003 1003) [1003] 1100) (mE ptrV s.m)) s.ck) (bumpE (AV.v (Value.int IntKind.i64 id)) (renE (sgN (nmM 0 1003 1003) [1003] 1100) (mE ptrV s.m)) s.ck)) (AO.map (es ++ [(AV.v (Value.int IntKind.i64 id), AV.ptr 1101 0, s.ck)]) (s.ck + 1)))).a Cnd.t))).a (((Cnd.p True).a ((Cnd.p (VW [AV.iface 59 (AV.ptr 0 0), AV.iface 55 (AV.ptr 1101 0)] [AV.iface 59 (AV.ptr 0 0), AV.iface 55 (AV.ptr 1101 0)])).a ((Cnd.p (OW (AO.cells [AV.v (Value.slice none 0 0), AV.map 1100, AV.v (Value.int IntKind.i64 (s.tn + Int.ofNat 1))] 108) (AO.cells [AV.v (Value.slice none 0 0), AV.map 1100, AV.v (Value.int IntKind.i64 (s.tn + Int.ofNat 1))] 108))).a ((Cnd.p (OW (AO.map (es ++ [(AV.v (Value.int IntKind.i64 id), AV.ptr 1101 0, s.ck)]) (s.ck + 1)) (AO.map (renE (nmP 0 1100 1100 1101) (es ++ [(AV.v (Value.int IntKind.i64 id), AV.ptr 1004 0, s.ck)])) (s.ck + 1)))).a ((Cnd.p (OW (AO.cells [AV.v (Value.int IntKind.i64 id), AV.v (Value.int IntKind.i64 at_), AV.v (Value.int IntKind.i64 (s.tn + Int.ofNat 1)), AV.v (Value.int IntKind.i64 (Int.ofNat 0))] 114) (AO.cells [AV.v (Value.int IntKind.i64 id), AV.v (Value.int IntKind.i64 at_), AV.v (Value.int IntKind.i64 (s.tn + Int.ofNat 1)), AV.v (Value.int IntKind.i64 (Int.ofNat 0))] 114))).a Cnd.t))))).a Cnd.t)))))))) := by kernel_rfl
end
end Go.Proofs.Ytojfbgmeaadanaa.Alm

/- Alarms: Set. -/
set_option linter.unusedVariables false
set_option linter.unusedSimpArgs false
set_option maxRecDepth 100000
namespace Go.Proofs.Ytojfbgmeaadanaa.Alm
open Go Go.RowKit Go.Proofs.Ytojfbgmeaadanaa.Eng Go.Proofs.Ytojfbgmeaadanaa.Kit
theorem ers_last {N : Names} {k u v : AV} {c : Nat} (h : ∀ y, VR N u y → VR N v y) : ∀ {A : List (AV × AV × Nat)} {ys : List MapEntry}, ERs N (A ++ [(k, u, c)]) ys → ERs N (A ++ [(k, v, c)]) ys
  | [], ys, ⟨e, r, ⟨h1, h2, h3⟩, h4, h5⟩ => ⟨e, r, ⟨h1, h _ h2, h3⟩, h4, h5⟩
  | x :: A, ys, ⟨e, r, h1, h2, h3⟩ => ⟨e, r, h1, ers_last h h2, h3⟩
theorem mfind_none {m : IMap Nat} {id : Int} (h : mlook id m = none) : mfind id m 0 = none := by
  have := mfind_isSome id m 0
  rw [h] at this
  cases hf : mfind id m 0 with
  | none => rfl
  | some p => rw [hf] at this; cases this
theorem mset_new {m : IMap Nat} {id : Int} {c b : Nat} (h : mlook id m = none) : mE ptrV (mset m c id b) = mE ptrV m ++ [(iv id, ptrV b, c)] ∧ mbump m c id = c + 1 := by
  rw [mset, mbump, mfind_none h]
  exact ⟨by simp [mE]; rfl, rfl⟩
/-- The clock to which Set adds. -/
def setS (t : Ps) (id : Int) (b : Nat) : Ps := { t with m := mset t.m t.ck id b, ck := mbump t.m t.ck id, tn := t.tn + 1 }
theorem set_plain (t : Ps) (id at_ : Int) (b : Nat) (hm : mlook id t.m = none) : Goes [hI, alP] ((1005, .same 1004 b) :: setH t (mE ptrV t.m) id at_) [hI, alP] (pL (setS t id b) ⟨at_, t.tn + 1, id, b⟩ 0) := by
  obtain ⟨e1, e2⟩ := mset_new (c := t.ck) (b := b) hm
  refine goes_plain (i := 1004) (j := 1005) (b := b) (by kernel_rfl) (by kernel_rfl) rfl (fun n h => ?_) (fun n _ h => ?_) (fun _ _ _ _ h => h) (fun n o o' h h' N D w r hN ho => ?_)
  · simp only [setH, pL, getO] at h ⊢
    repeat' split at h
    all_goals first
      | (cases h; done)
      | simp only [*, if_false]
  · simp only [setH, pL, getO] at h ⊢
    repeat' split at h
    all_goals first
      | (cases h; done)
      | simp only [*, if_false]
  · by_cases hn : n = 1003
    · subst hn
      cases h
      cases h'
      obtain ⟨l, es', a1, a2, a3, a4⟩ := ho
      show OR N 1003 (.map (mE ptrV (mset t.m t.ck id b)) (mbump t.m t.ck id)) D w
      rw [e1, e2]
      refine ⟨l, es', a1, a2, a3, ers_last (fun y hy => ?_) a4⟩
      simp only [VR] at hy ⊢
      obtain ⟨l2, b1, b2⟩ := hy
      rw [hN] at b1
      cases b1
      exact b2
    · have hn5 : n = 1005 ∨ n ≠ 1005 := by omega
      rcases hn5 with rfl | hn5
      · cases h; cases h'; exact ho
      · have : o = o' := by
          simp only [setH, pL, getO, if_neg hn, if_neg hn5] at h h'
          exact Option.some.inj (h.symm.trans h')
        subst this
        exact ho
theorem set_plain0 (t : Ps) (id at_ : Int) (b : Nat) (hm : mlook id t.m = none) : Goes [hI, alP] ((1005, .same 1004 b) :: setH0 t (mE ptrV t.m) id at_) [hI, alP] (pL0 (setS t id b) ⟨at_, t.tn + 1, id, b⟩ 0) := by
  obtain ⟨e1, e2⟩ := mset_new (c := t.ck) (b := b) hm
  refine goes_plain (i := 1004) (j := 1005) (b := b) (by kernel_rfl) (by kernel_rfl) rfl (fun n h => ?_) (fun n _ h => ?_) (fun _ _ _ _ h => h) (fun n o o' h h' N D w r hN ho => ?_)
  · simp only [setH0, pL0, getO] at h ⊢
    repeat' split at h
    all_goals first
      | (cases h; done)
      | simp only [*, if_false]
  · simp only [setH0, pL0, getO] at h ⊢
    repeat' split at h
    all_goals first
      | (cases h; done)
      | simp only [*, if_false]
  · by_cases hn : n = 1003
    · subst hn
      cases h
      cases h'
      obtain ⟨l, es', a1, a2, a3, a4⟩ := ho
      show OR N 1003 (.map (mE ptrV (mset t.m t.ck id b)) (mbump t.m t.ck id)) D w
      rw [e1, e2]
      refine ⟨l, es', a1, a2, a3, ers_last (fun y hy => ?_) a4⟩
      simp only [VR] at hy ⊢
      obtain ⟨l2, b1, b2⟩ := hy
      rw [hN] at b1
      cases b1
      exact b2
    · have hn5 : n = 1005 ∨ n ≠ 1005 := by omega
      rcases hn5 with rfl | hn5
      · cases h; cases h'; exact ho
      · have : o = o' := by
          simp only [setH0, pL0, getO, if_neg hn, if_neg hn5] at h h'
          exact Option.some.inj (h.symm.trans h')
        subst this
        exact ho
theorem AbsC.look {s : Ps} {L : List Al} {tn : Int} (h : AbsC s L tn) {id : Int} (hn : ∀ x ∈ L, x.id ≠ id) : mlook id s.m = none := by
  rcases h.find id with ⟨i, hi, hc, hm, hf⟩ | ⟨hm, _⟩
  · exact absurd rfl (hn _ (List.mem_of_find?_eq_some hf))
  · exact hm
theorem AbsC.set {t : Ps} {L : List Al} {tn : Int} (h : AbsC t L tn) (id at_ : Int) (b : Nat) (hn : ∀ x ∈ L, x.id ≠ id) : AbsC (hpushS (setS t id b) ⟨at_, t.tn + 1, id, b⟩) (L ++ [⟨id, at_⟩]) (tn + 1) := by
  have := h.push id at_ b hn
  rwa [← h.tn] at this ⊢
/-- There is room for one more. -/
def RoomL (L : List Al) : Prop := (L.length + 1) * 15 ≤ 140737488355328
theorem RoomL.big {L : List Al} (h : RoomL L) : BigL L := by unfold RoomL at h; unfold BigL; omega
theorem hpushA_tri (t : Ps) (id at_ : Int) {L : List Al} {tn : Int} (h : AbsC t L tn) (hn : ∀ x ∈ L, x.id ≠ id) (hR : RoomL L) : Tri Try.prog default fHPush [hI, alP] (setH t (mE ptrV t.m) id at_) (.tuple []) [(0, clO (L ++ [⟨id, at_⟩]) (tn + 1))] := by
  refine tri_same (i := 1004) (j := 1005) (cs := vmap (alC (newA id at_ (t.tn + 1)) 0)) (e := 2 * tAl) (by kernel_rfl) (by decide) rfl (Nat.mul_mod_right 2 _) rfl fun b => ?_
  refine Tri.pre (set_plain t id at_ b (h.look hn)) (Tri.post (hpush_tri (setS t id b) _ 0 ?_) (shut_clk _ (h.set id at_ b hn) _ fun K => ⟨trivial, trivial⟩))
  unfold Room
  show (t.xs.length + 1) * 15 ≤ _
  rw [← h.len]; exact hR
theorem hpushA0_tri (t : Ps) (id at_ : Int) {L : List Al} {tn : Int} (h : AbsC t L tn) (hx : t.xs = []) (hn : ∀ x ∈ L, x.id ≠ id) : Tri Try.prog default fHPush [hI, alP] (setH0 t (mE ptrV t.m) id at_) (.tuple []) [(0, clO (L ++ [⟨id, at_⟩]) (tn + 1))] := by
  refine tri_same (i := 1004) (j := 1005) (cs := vmap (alC (newA id at_ (t.tn + 1)) 0)) (e := 2 * tAl) (by kernel_rfl) (by decide) rfl (Nat.mul_mod_right 2 _) rfl fun b => ?_
  exact Tri.pre (set_plain0 t id at_ b (h.look hn)) (Tri.post (hpush0_tri (setS t id b) _ 0 hx) (shut_clk _ (h.set id at_ b hn) _ fun K => ⟨trivial, trivial⟩))
end Go.Proofs.Ytojfbgmeaadanaa.Alm

/- Alarms: Set on a clock whole. -/
set_option linter.unusedVariables false
set_option linter.unusedSimpArgs false
set_option maxRecDepth 100000
namespace Go.Proofs.Ytojfbgmeaadanaa.Alm
open Go Go.RowKit Go.Proofs.Ytojfbgmeaadanaa.Eng Go.Proofs.Ytojfbgmeaadanaa.Kit
theorem gMap_ro : ∀ args, RO (gMap args) := by
  intro args
  unfold gMap
  repeat' split
  all_goals first
    | exact RO.fail _
    | (refine RO.read _ _ fun o => ?_
       repeat' split
       all_goals first | exact RO.ret _ | exact RO.fail _)
theorem clE_snoc (K : Nat → Bool) {k v : AV} {c : Nat} (hk : AV.cl K k) (hv : AV.cl K v) : ∀ {es : List (AV × AV × Nat)}, clE K es → clE K (es ++ [(k, v, c)])
  | [], _ => ⟨hk, hv, trivial⟩
  | x :: es, h => ⟨h.1, h.2.1, clE_snoc K hk hv h.2.2⟩
theorem renE_append (σ : Nat → Nat) : ∀ (a b : List (AV × AV × Nat)), renE σ (a ++ b) = renE σ a ++ renE σ b
  | [], b => rfl
  | x :: a, b => by rw [List.cons_append, renE, renE, renE_append σ a b, List.cons_append]
theorem setE_new {m : IMap Nat} {id : Int} {v : AV} {c : Nat} (h : mlook id m = none) : setE (.v (.int .i64 id)) v (mE ptrV m) c = mE ptrV m ++ [(iv id, v, c)] := by
  rw [setE, findS_mE, mfind_none h]; rfl
theorem cCan_ok {s t : Ps} {id : Int} {b : Bool} (h : Tri Try.prog default fCan [.ptr 0 0, iv id] (uM s) (.v (.bool b)) (uM t)) (F : HP) : C1OK Try.prog F fCan (cCan s t id b) :=
  mkC_ok (W := default) oldDef (fun _ => .v (.bool b)) gHead_ro (fun _ => rfl) (fun _ _ => h)
    fun q => ⟨by kernel_rfl, by kernel_rfl, ⟨rfl, trivial, trivial⟩, uM_cl _ ⟨rfl, rfl⟩ _, ⟨trivial, trivial⟩, uM_cl _ ⟨rfl, rfl⟩ _⟩
theorem cCan0_ok {s : Ps} {id : Int} (h : Tri Try.prog default fCan [.ptr 0 0, iv id] (uM0 s) (.v (.bool false)) (uM0 s)) (F : HP) : C1OK Try.prog F fCan (cCan0 s id) :=
  mkC_ok (W := default) oldDef (fun _ => .v (.bool false)) gMap_ro (fun _ => rfl) (fun _ _ => h)
    fun q => ⟨by kernel_rfl, by kernel_rfl, ⟨rfl, trivial, trivial⟩, uM0_cl _ rfl _, ⟨trivial, trivial⟩, uM0_cl _ rfl _⟩
theorem mapN_cl (K : Nat → Bool) (m : IMap Nat) (id : Int) (ck : Nat) (h : K 1004 = true) : (mapN (mE ptrV m) id 1004 ck).cl K := clE_snoc (k := iv id) (v := .ptr 1004 0) K trivial h (map_clE K m)
theorem cHPushA_ok {t : Ps} {id at_ : Int} {L : List Al} {tn : Int} (h : Tri Try.prog default fHPush [hI, alP] (setH t (mE ptrV t.m) id at_) (.tuple []) [(0, clO L tn)]) (F : HP) : C1OK Try.prog F fHPush (cHPushA t (mE ptrV t.m) id at_ L tn) :=
  mkC_ok (W := default) oldDef (fun _ => .tuple []) gPush_ro (fun _ => rfl) (fun _ _ => h)
    fun q => ⟨by kernel_rfl, by kernel_rfl, ⟨rfl, rfl, trivial⟩, all_cons ⟨rfl, rfl, trivial, trivial⟩ (all_cons (cls_rowV _ _) (all_cons trivial (all_cons (mapN_cl _ _ _ _ rfl) (all_cons ⟨trivial, trivial, trivial, trivial, trivial⟩ all_nil)))), ⟨trivial, trivial⟩, all_cons trivial all_nil⟩
theorem cHPushA0_ok {t : Ps} {id at_ : Int} {L : List Al} {tn : Int} (h : Tri Try.prog default fHPush [hI, alP] (setH0 t (mE ptrV t.m) id at_) (.tuple []) [(0, clO L tn)]) (F : HP) : C1OK Try.prog F fHPush (cHPushA0 t (mE ptrV t.m) id at_ L tn) :=
  mkC_ok (W := default) oldDef (fun _ => .tuple []) gPush_ro (fun _ => rfl) (fun _ _ => h)
    fun q => ⟨by kernel_rfl, by kernel_rfl, ⟨rfl, rfl, trivial⟩, all_cons ⟨trivial, rfl, trivial, trivial⟩ (all_cons (mapN_cl _ _ _ _ rfl) (all_cons ⟨trivial, trivial, trivial, trivial, trivial⟩ all_nil)), ⟨trivial, trivial⟩, all_cons trivial all_nil⟩
/-- The turns are few. -/
def TnOK (tn : Int) : Prop := 0 ≤ tn ∧ tn ≤ 9382499223688
theorem tn_wrap {tn : Int} (h : TnOK tn) : IntKind.i64.wrap (tn + Int.ofNat 1) = tn + Int.ofNat 1 := by
  obtain ⟨h1, h2⟩ := h
  exact IntWalk.i64_in _ (by simp only [Int.ofNat_eq_natCast]; omega)
theorem fits_own1 {v : AV} {o : AO} (hv : ∀ σ, AV.ren σ v = v) (ho : ∀ σ, o.ren σ = o) : Fits [0] [v] [some o] [v] [(0, o)] := by
  refine (fit_mk (vs := [v]) (vs' := [v]) (H' := [(0, o)]) [] rfl rfl ?_ ⟨⟨_, rfl, OW.of_eq (ho _).symm⟩, trivial⟩).fits rfl
  show VW [v] [AV.ren _ v]
  rw [hv]; exact VW.refl _
theorem setC_tri (s t : Ps) (id at_ : Int) (b : Bool) {L : List Al} {tn : Int} (hc : Tri Try.prog default fCan [.ptr 0 0, iv id] (uM s) (.v (.bool b)) (uM t)) (hpa : Tri Try.prog default fHPush [hI, alP] (setH t (mE ptrV t.m) id at_) (.tuple []) [(0, clO L tn)]) (hm : mlook id t.m = none) (hT : TnOK t.tn) :
    Tri Try.prog default fSet [.ptr 0 0, iv id, iv at_] (uM s) (.tuple []) [(0, clO L tn)] := by
  refine tri_run (con := [(fCan, cCan s t id b), (fHPush, cHPushA t (mE ptrV t.m) id at_ L tn)]) (hints := hSet t.tn id (mE ptrV t.m) t.ck) (lc := []) [0] rfl
    (fun F _ => con_cons (cCan_ok hc F) (con_cons (cHPushA_ok hpa F) noC)) (fun _ _ => noL) fun F => ?_
  refine cast (congrArg (VAll _) (oSet_eq s t id at_ b (mE ptrV t.m) L tn F).symm) ⟨⟨?_, fits_own1 (fun _ => rfl) (fun _ => rfl)⟩⟩
  have hw := tn_wrap hT
  have e1 : bumpE (.v (.int .i64 id)) (mE ptrV t.m) t.ck = t.ck + 1 := by rw [bumpE_mE, mbump, mfind_none hm]
  simp only [Cnd.holds, rens_rowV, map_renE, renE_append, setE_new hm, e1, true_and, and_true]
  and_intros
  all_goals first
    | (with_reducible exact rfl)
    | (with_reducible exact Wk.refl _)
    | (with_reducible exact VW.refl _)
    | (with_reducible exact OW.refl _)
    | exact findKey_mE intT _ _ _
    | exact staysS_mE _ _
    | exact wk_int hw
    | exact OW.refl _
theorem setC0_tri (s : Ps) (id at_ : Int) {L : List Al} {tn : Int} (hpa : Tri Try.prog default fHPush [hI, alP] (setH0 s (mE ptrV s.m) id at_) (.tuple []) [(0, clO L tn)]) (hm : mlook id s.m = none) (hT : TnOK s.tn) :
    Tri Try.prog default fSet [.ptr 0 0, iv id, iv at_] (uM0 s) (.tuple []) [(0, clO L tn)] := by
  refine tri_run (con := [(fCan, cCan0 s id), (fHPush, cHPushA0 s (mE ptrV s.m) id at_ L tn)]) (hints := hSet0 s.tn id (mE ptrV s.m) s.ck) (lc := []) [0] rfl
    (fun F _ => con_cons (cCan0_ok (canN0_tri s id hm) F) (con_cons (cHPushA0_ok hpa F) noC)) (fun _ _ => noL) fun F => ?_
  refine cast (congrArg (VAll _) (oSet0_eq s id at_ (mE ptrV s.m) L tn F).symm) ⟨⟨?_, fits_own1 (fun _ => rfl) (fun _ => rfl)⟩⟩
  have hw := tn_wrap hT
  have e1 : bumpE (.v (.int .i64 id)) (mE ptrV s.m) s.ck = s.ck + 1 := by rw [bumpE_mE, mbump, mfind_none hm]
  simp only [Cnd.holds, rens_rowV, map_renE, renE_append, setE_new hm, e1, true_and, and_true]
  and_intros
  all_goals first
    | (with_reducible exact rfl)
    | (with_reducible exact Wk.refl _)
    | (with_reducible exact VW.refl _)
    | (with_reducible exact OW.refl _)
    | exact findKey_mE intT _ _ _
    | exact staysS_mE _ _
    | exact wk_int hw
    | exact OW.refl _
theorem without_ne (L : List Al) (id : Int) : ∀ x ∈ without L id, x.id ≠ id := fun x hx => by
  have := (List.mem_filter.1 hx).2
  simpa using this
theorem without_len (L : List Al) (id : Int) : (without L id).length ≤ L.length := List.length_filter_le _ _
theorem Aset_tri (L : List Al) (tn id at_ : Int) (hR : RoomL L) (hT : TnOK tn) : Tri Try.prog default fSet [.ptr 0 0, iv id, iv at_] [(0, clO L tn)] (.tuple []) [(0, clO (without L id ++ [⟨id, at_⟩]) (tn + 1))] := by
  have hR' : RoomL (without L id) := by have := without_len L id; unfold RoomL at hR ⊢; exact Nat.le_trans (Nat.mul_le_mul_right 15 (Nat.succ_le_succ this)) hR
  refine open_clk (fun s h => ?_) (fun s h hx => ?_)
  · rcases h.find id with ⟨i, hi, hc, hm, hf⟩ | ⟨hm, hn⟩
    · subst hc
      exact setC_tri s (canS s i (at' s i).c) _ at_ true (canF_tri s i _ (h.big hR.big) hi hm) (hpushA_tri _ _ at_ (h.can i hi) (without_ne L _) hR') ((h.can i hi).look (without_ne L _)) ((h.can i hi).tn ▸ hT)
    · rw [without_same hn]
      exact setC_tri s s id at_ false (canN_tri s id hm) (hpushA_tri s id at_ h hn hR) hm (h.tn ▸ hT)
  · rcases h.find id with ⟨i, hi, _⟩ | ⟨hm, hn⟩
    · rw [hx] at hi; cases hi
    · rw [without_same hn]
      exact setC0_tri s id at_ (hpushA0_tri s id at_ h hx hn) hm (h.tn ▸ hT)
end Go.Proofs.Ytojfbgmeaadanaa.Alm

/- Alarms: Due: runs. -/
set_option linter.unusedVariables false
set_option linter.unusedSimpArgs false
set_option maxRecDepth 100000
namespace Go.Proofs.Ytojfbgmeaadanaa.Alm
open Go Go.RowKit Go.Proofs.Ytojfbgmeaadanaa.Eng Go.Proofs.Ytojfbgmeaadanaa.Kit
noncomputable section
def encI (x : Int) : List Value := [.int .i64 x]
abbrev tInt : TypeId := 2 * 3
def idsO (ids : List Int) : AO := .cells (rowV encI ids) tInt
def cHPop (s d : Ps) : List AV → Option (AP AV) := mkC gHead (fun _ => Big s ∧ 0 < s.xs.length ∧ hpopD s = d) (fun p => nmU p.1 p.2.1 p.2.2) (fun _ => [hI]) (fun _ => hremH s 0) (fun _ => .leaf .ret [alP] (uL (popS d) ++ outL (lastOf d) (d.xs.length - 1)))
def dueA (now : Int) (V : AV) : List (Nat × AV) := [(0, .ptr 0 0), (1, iv now), (4, V)]
def nilV : AV := .v (.slice none 0 0)
def idsV (n : Nat) : AV := .slice 1010 0 n 1 (.lo n)
def hDueE : ClaimT := hintL [(fDue, 1, 5, hv (.lit false))]
def hDueL : ClaimT := hintL [(fDue, 1, 5, hv (.lit true)), (fDue, 1, 12, hp 1005), (fDue, 1, 17, hv (.lit false))]
def hDueS : ClaimT := hintL [(fDue, 1, 5, hv (.lit true)), (fDue, 1, 12, hp 1005), (fDue, 1, 17, hv (.lit true))]
theorem oDueE_eq (s : Ps) (now : Int) (F : HP) : wLoop [] hDueE [] default fDue (loopN fDue 1) (tms 0 47 (dueA now nilV)) (uM s) [0, 1001, 1002, 1003, 1004, 1005, 1010, 1102, 1103] [0, 1, 4] F = VT.leaf (AX.exit 0, [AV.ptr 0 0, AV.v (Value.int IntKind.i64 now), AV.v (Value.slice none 0 0)], 47) [some (AO.cells [AV.slice 1001 0 s.xs.length 1 (Cp.lo (roomOf s)), AV.map 1003, AV.v (Value.int IntKind.i64 s.tn)] 108), some (AO.cells (rowV pv (blocks s)) 110), some (AO.any (famHP 57 (fam 0 s.xs))), some (AO.map (mE ptrV s.m) s.ck), none, none, none, none, none] 1100 (((Cnd.p (true = true)).a Cnd.t).a (((Cnd.p (Wk (AV.v (Value.bool (decide (↑s.xs.length > Int.ofNat 0)))) (AV.lit false))).a Cnd.t).a Cnd.t)) := by kernel_rfl
theorem oDueE1_eq (s : Ps) (now : Int) (ids : List Int) (F : HP) : wLoop [] hDueE [] default fDue (loopN fDue 1) (tms 0 47 (dueA now (idsV ids.length))) (uM s ++ [(1010, idsO ids)]) [0, 1001, 1002, 1003, 1004, 1005, 1010, 1102, 1103] [0, 1, 4] F = VT.leaf (AX.exit 0, [AV.ptr 0 0, AV.v (Value.int IntKind.i64 now), AV.slice 1010 0 ids.length 1 (Cp.lo ids.length)], 47) [some (AO.cells [AV.slice 1001 0 s.xs.length 1 (Cp.lo (roomOf s)), AV.map 1003, AV.v (Value.int IntKind.i64 s.tn)] 108), some (AO.cells (rowV pv (blocks s)) 110), some (AO.any (famHP 57 (fam 0 s.xs))), some (AO.map (mE ptrV s.m) s.ck), none, none, some (AO.cells (rowV encI ids) 6), none, none] 1100 (((Cnd.p (true = true)).a Cnd.t).a (((Cnd.p (Wk (AV.v (Value.bool (decide (↑s.xs.length > Int.ofNat 0)))) (AV.lit false))).a Cnd.t).a Cnd.t)) := by kernel_rfl
theorem oDueL_eq (s : Ps) (now : Int) (F : HP) : wLoop [] hDueL [] default fDue (loopN fDue 1) (tms 0 47 (dueA now nilV)) (oC s 0) [0, 1001, 1002, 1003, 1004, 1005, 1010, 1102, 1103] [0, 1, 4] F = VT.leaf (AX.exit 0, [AV.ptr 0 0, AV.v (Value.int IntKind.i64 now), AV.v (Value.slice none 0 0)], 47) [some (AO.cells [AV.slice 1001 0 s.xs.length 1 (Cp.lo (roomOf s)), AV.map 1003, AV.v (Value.int IntKind.i64 s.tn)] 108), some (AO.cells (rowV pv (blocks s)) 110), some (AO.any (famHP 57 ((fam 0 s.xs).eraseIdx 0))), some (AO.map (mE ptrV s.m) s.ck), some (AO.cells [AV.v (Value.int IntKind.i64 (at' s 0).c), AV.v (Value.int IntKind.i64 (at' s 0).a), AV.v (Value.int IntKind.i64 (at' s 0).b), AV.v (Value.int IntKind.i64 (Int.ofNat 0))] 114), some (AO.same 1004 (at' s 0).k), none, none, none] 1100 (((Cnd.p (true = true)).a Cnd.t).a (((Cnd.p (Wk (AV.v (Value.bool (decide (↑s.xs.length > Int.ofNat 0)))) (AV.lit true))).a Cnd.t).a (((Cnd.p (true = true)).a Cnd.t).a (((Cnd.p (Nat.blt 0 s.xs.length = true)).a Cnd.t).a (((Cnd.p (Nat.blt 0 (rowV pv (blocks s)).length = true)).a ((Cnd.p (Wk ((rowV pv (blocks s)).getD 0 (AV.v (Value.tuple (Array.mk [])))) (AV.v (Value.pointer (some (Addr.mk (at' s 0).k 0 none)))))).a Cnd.t)).a (((Cnd.p (true = true)).a ((Cnd.p (AV.v (Value.int IntKind.i64 (at' s 0).a) = AV.v (Value.int IntKind.i64 (at' s 0).a))).a Cnd.t)).a (((Cnd.p (Wk (AV.v (Value.bool (decide ((at' s 0).a ≤ now)))) (AV.lit false))).a Cnd.t).a Cnd.t))))))) := by kernel_rfl
theorem oDueS_eq (s d : Ps) (now : Int) (F : HP) : wLoop [(fHPop, cHPop s d)] hDueS [] default fDue (loopN fDue 1) (tms 0 47 (dueA now nilV)) (oC s 0) [0, 1001, 1002, 1003, 1004, 1005, 1010, 1102, 1103] [0, 1, 4] F = VT.leaf (AX.normal, [AV.ptr 0 0, AV.v (Value.int IntKind.i64 now), AV.slice 1103 0 1 1 (Cp.lo 1)], 47) [some (AO.cells [AV.slice 1001 0 d.xs.dropLast.length 1 (Cp.lo (roomOf (popS d))), AV.map 1003, AV.v (Value.int IntKind.i64 d.tn)] 108), some (AO.cells (AV.rens (sgN (nmU 0 1001 1003) [1004, 1005] 1100) (rowV pv (blocks (popS d)))) 110), some (AO.any (famHP 57 (fam 0 d.xs.dropLast))), some (AO.map (delE (AV.v (Value.int IntKind.i64 (lastOf d).c)) (renE (sgN (nmU 0 1001 1003) [1004, 1005] 1100) (mE ptrV d.m))) d.ck), none, none, none, some (AO.cells [AV.v (Value.int IntKind.i64 (lastOf d).c)] 6), some (AO.cells [AV.v (Value.int IntKind.i64 (lastOf d).c)] 6)] 1104 (((Cnd.p (true = true)).a Cnd.t).a (((Cnd.p (Wk (AV.v (Value.bool (decide (↑s.xs.length > Int.ofNat 0)))) (AV.lit true))).a Cnd.t).a (((Cnd.p (true = true)).a Cnd.t).a (((Cnd.p (Nat.blt 0 s.xs.length = true)).a Cnd.t).a (((Cnd.p (Nat.blt 0 (rowV pv (blocks s)).length = true)).a ((Cnd.p (Wk ((rowV pv (blocks s)).getD 0 (AV.v (Value.tuple (Array.mk [])))) (AV.v (Value.pointer (some (Addr.mk (at' s 0).k 0 none)))))).a Cnd.t)).a (((Cnd.p (true = true)).a ((Cnd.p (AV.v (Value.int IntKind.i64 (at' s 0).a) = AV.v (Value.int IntKind.i64 (at' s 0).a))).a Cnd.t)).a (((Cnd.p (Wk (AV.v (Value.bool (decide ((at' s 0).a ≤ now)))) (AV.lit true))).a Cnd.t).a (((Cnd.p (Big s ∧ 0 < s.xs.length ∧ hpopD s = d)).a ((Cnd.p (VW [AV.iface 59 (AV.ptr 0 0)] [AV.iface 59 (AV.ptr 0 0)])).a ((Cnd.p (OW (AO.cells [AV.slice 1001 0 s.xs.length 1 (Cp.lo (roomOf s)), AV.map 1003, AV.v (Value.int IntKind.i64 s.tn)] 108) (AO.cells [AV.slice 1001 0 s.xs.length 1 (Cp.lo (roomOf s)), AV.map 1003, AV.v (Value.int IntKind.i64 s.tn)] 108))).a ((Cnd.p (OW (AO.cells (rowV pv (blocks s)) 110) (AO.cells (AV.rens (nmU 0 1001 1003) (rowV pv (blocks s))) 110))).a ((Cnd.p (OW (AO.any (famHP 57 ((fam 0 s.xs).eraseIdx 0))) (AO.any (famHP 57 ((fam 0 s.xs).eraseIdx 0))))).a ((Cnd.p (OW (AO.map (mE ptrV s.m) s.ck) (AO.map (renE (nmU 0 1001 1003) (mE ptrV s.m)) s.ck))).a ((Cnd.p (OW (AO.cells [AV.v (Value.int IntKind.i64 (at' s 0).c), AV.v (Value.int IntKind.i64 (at' s 0).a), AV.v (Value.int IntKind.i64 (at' s 0).b), AV.v (Value.int IntKind.i64 (Int.ofNat 0))] 114) (AO.cells [AV.v (Value.int IntKind.i64 (at' s 0).c), AV.v (Value.int IntKind.i64 (at' s 0).a), AV.v (Value.int IntKind.i64 (at' s 0).b), AV.v (Value.int IntKind.i64 (Int.ofNat 0))] 114))).a ((Cnd.p (OW (AO.same 1004 (at' s 0).k) (AO.same 1004 (at' s 0).k))).a Cnd.t)))))))).a (((Cnd.p (true = true)).a Cnd.t).a (((Cnd.p (true = true)).a ((Cnd.p (AV.v (Value.int IntKind.i64 (lastOf d).c) = AV.v (Value.int IntKind.i64 (lastOf d).c))).a Cnd.t)).a (((Cnd.p (findKey Try.prog (envW [(20, cHPop s d)] hDueS [] default F) 3 (AV.v (Value.int IntKind.i64 (lastOf d).c)) (renE (sgN (nmU 0 1001 1003) [1004, 1005] 1100) (mE ptrV d.m)) 0 = AP.ret (findS (AV.v (Value.int IntKind.i64 (lastOf d).c)) (renE (sgN (nmU 0 1001 1003) [1004, 1005] 1100) (mE ptrV d.m)) 0))).a Cnd.t).a (((Cnd.p (true = true)).a ((Cnd.p (AV.v (Value.int IntKind.i64 (lastOf d).c) = AV.v (Value.int IntKind.i64 (lastOf d).c))).a Cnd.t)).a (((Cnd.p (true = true)).a ((Cnd.p (true = true)).a ((Cnd.p (true = true)).a ((Cnd.p (true = true)).a ((Cnd.p (true = true)).a ((Cnd.p (true = true)).a Cnd.t)))))).a Cnd.t))))))))))))) := by kernel_rfl
theorem oDueL1_eq (s : Ps) (now : Int) (ids : List Int) (F : HP) : wLoop [] hDueL [] default fDue (loopN fDue 1) (tms 0 47 (dueA now (idsV ids.length))) (oC s 0 ++ [(1010, idsO ids)]) [0, 1001, 1002, 1003, 1004, 1005, 1010, 1102, 1103] [0, 1, 4] F = VT.leaf (AX.exit 0, [AV.ptr 0 0, AV.v (Value.int IntKind.i64 now), AV.slice 1010 0 ids.length 1 (Cp.lo ids.length)], 47) [some (AO.cells [AV.slice 1001 0 s.xs.length 1 (Cp.lo (roomOf s)), AV.map 1003, AV.v (Value.int IntKind.i64 s.tn)] 108), some (AO.cells (rowV pv (blocks s)) 110), some (AO.any (famHP 57 ((fam 0 s.xs).eraseIdx 0))), some (AO.map (mE ptrV s.m) s.ck), some (AO.cells [AV.v (Value.int IntKind.i64 (at' s 0).c), AV.v (Value.int IntKind.i64 (at' s 0).a), AV.v (Value.int IntKind.i64 (at' s 0).b), AV.v (Value.int IntKind.i64 (Int.ofNat 0))] 114), some (AO.same 1004 (at' s 0).k), some (AO.cells (rowV encI ids) 6), none, none] 1100 (((Cnd.p (true = true)).a Cnd.t).a (((Cnd.p (Wk (AV.v (Value.bool (decide (↑s.xs.length > Int.ofNat 0)))) (AV.lit true))).a Cnd.t).a (((Cnd.p (true = true)).a Cnd.t).a (((Cnd.p (Nat.blt 0 s.xs.length = true)).a Cnd.t).a (((Cnd.p (Nat.blt 0 (rowV pv (blocks s)).length = true)).a ((Cnd.p (Wk ((rowV pv (blocks s)).getD 0 (AV.v (Value.tuple (Array.mk [])))) (AV.v (Value.pointer (some (Addr.mk (at' s 0).k 0 none)))))).a Cnd.t)).a (((Cnd.p (true = true)).a ((Cnd.p (AV.v (Value.int IntKind.i64 (at' s 0).a) = AV.v (Value.int IntKind.i64 (at' s 0).a))).a Cnd.t)).a (((Cnd.p (Wk (AV.v (Value.bool (decide ((at' s 0).a ≤ now)))) (AV.lit false))).a Cnd.t).a Cnd.t))))))) := by kernel_rfl
def hDueS1 (ids : List Int) : ClaimT := hintL [(fDue, 1, 5, hv (.lit true)), (fDue, 1, 12, hp 1005), (fDue, 1, 17, hv (.lit true)), (fDue, 4, 6, ho 1103 (idsO ids))]
theorem oDueS1_eq (s d : Ps) (now : Int) (ids ids2 : List Int) (F : HP) : wLoop [(fHPop, cHPop s d)] (hDueS1 ids2) [] default fDue (loopN fDue 1) (tms 0 47 (dueA now (idsV ids.length))) (oC s 0 ++ [(1010, idsO ids)]) [0, 1001, 1002, 1003, 1004, 1005, 1010, 1102, 1103] [0, 1, 4] F = VT.leaf (AX.normal, [AV.ptr 0 0, AV.v (Value.int IntKind.i64 now), AV.slice 1103 0 (ids.length + 1) 1 (Cp.lo (ids.length + 1))], 47) [some (AO.cells [AV.slice 1001 0 d.xs.dropLast.length 1 (Cp.lo (roomOf (popS d))), AV.map 1003, AV.v (Value.int IntKind.i64 d.tn)] 108), some (AO.cells (AV.rens (sgN (nmU 0 1001 1003) [1004, 1005] 1100) (rowV pv (blocks (popS d)))) 110), some (AO.any (famHP 57 (fam 0 d.xs.dropLast))), some (AO.map (delE (AV.v (Value.int IntKind.i64 (lastOf d).c)) (renE (sgN (nmU 0 1001 1003) [1004, 1005] 1100) (mE ptrV d.m))) d.ck), none, none, none, some (AO.cells [AV.v (Value.int IntKind.i64 (lastOf d).c)] 6), some (AO.cells (rowV encI ids2) 6)] 1104 (((Cnd.p (true = true)).a Cnd.t).a (((Cnd.p (Wk (AV.v (Value.bool (decide (↑s.xs.length > Int.ofNat 0)))) (AV.lit true))).a Cnd.t).a (((Cnd.p (true = true)).a Cnd.t).a (((Cnd.p (Nat.blt 0 s.xs.length = true)).a Cnd.t).a (((Cnd.p (Nat.blt 0 (rowV pv (blocks s)).length = true)).a ((Cnd.p (Wk ((rowV pv (blocks s)).getD 0 (AV.v (Value.tuple (Array.mk [])))) (AV.v (Value.pointer (some (Addr.mk (at' s 0).k 0 none)))))).a Cnd.t)).a (((Cnd.p (true = true)).a ((Cnd.p (AV.v (Value.int IntKind.i64 (at' s 0).a) = AV.v (Value.int IntKind.i64 (at' s 0).a))).a Cnd.t)).a (((Cnd.p (Wk (AV.v (Value.bool (decide ((at' s 0).a ≤ now)))) (AV.lit true))).a Cnd.t).a (((Cnd.p (Big s ∧ 0 < s.xs.length ∧ hpopD s = d)).a ((Cnd.p (VW [AV.iface 59 (AV.ptr 0 0)] [AV.iface 59 (AV.ptr 0 0)])).a ((Cnd.p (OW (AO.cells [AV.slice 1001 0 s.xs.length 1 (Cp.lo (roomOf s)), AV.map 1003, AV.v (Value.int IntKind.i64 s.tn)] 108) (AO.cells [AV.slice 1001 0 s.xs.length 1 (Cp.lo (roomOf s)), AV.map 1003, AV.v (Value.int IntKind.i64 s.tn)] 108))).a ((Cnd.p (OW (AO.cells (rowV pv (blocks s)) 110) (AO.cells (AV.rens (nmU 0 1001 1003) (rowV pv (blocks s))) 110))).a ((Cnd.p (OW (AO.any (famHP 57 ((fam 0 s.xs).eraseIdx 0))) (AO.any (famHP 57 ((fam 0 s.xs).eraseIdx 0))))).a ((Cnd.p (OW (AO.map (mE ptrV s.m) s.ck) (AO.map (renE (nmU 0 1001 1003) (mE ptrV s.m)) s.ck))).a ((Cnd.p (OW (AO.cells [AV.v (Value.int IntKind.i64 (at' s 0).c), AV.v (Value.int IntKind.i64 (at' s 0).a), AV.v (Value.int IntKind.i64 (at' s 0).b), AV.v (Value.int IntKind.i64 (Int.ofNat 0))] 114) (AO.cells [AV.v (Value.int IntKind.i64 (at' s 0).c), AV.v (Value.int IntKind.i64 (at' s 0).a), AV.v (Value.int IntKind.i64 (at' s 0).b), AV.v (Value.int IntKind.i64 (Int.ofNat 0))] 114))).a ((Cnd.p (OW (AO.same 1004 (at' s 0).k) (AO.same 1004 (at' s 0).k))).a Cnd.t)))))))).a (((Cnd.p (true = true)).a Cnd.t).a (((Cnd.p (true = true)).a ((Cnd.p (AV.v (Value.int IntKind.i64 (lastOf d).c) = AV.v (Value.int IntKind.i64 (lastOf d).c))).a Cnd.t)).a (((Cnd.p (findKey Try.prog (envW [(20, cHPop s d)] (hDueS1 ids2) [] default F) 3 (AV.v (Value.int IntKind.i64 (lastOf d).c)) (renE (sgN (nmU 0 1001 1003) [1004, 1005] 1100) (mE ptrV d.m)) 0 = AP.ret (findS (AV.v (Value.int IntKind.i64 (lastOf d).c)) (renE (sgN (nmU 0 1001 1003) [1004, 1005] 1100) (mE ptrV d.m)) 0))).a Cnd.t).a (((Cnd.p (true = true)).a ((Cnd.p (AV.v (Value.int IntKind.i64 (lastOf d).c) = AV.v (Value.int IntKind.i64 (lastOf d).c))).a Cnd.t)).a (((Cnd.p (true = true)).a ((Cnd.p (true = true)).a ((Cnd.p (true = true)).a ((Cnd.p (true = true)).a ((Cnd.p ((0 + ids.length * 1).ble (rowV encI ids).length = true)).a ((Cnd.p (((ids.length + 1) * 8).ble 140737488355328 = true)).a ((Cnd.p ((ids.length + 1).ble 9223372036854775807 = true)).a ((Cnd.p ((List.take (ids.length * 1) (List.drop 0 (rowV encI ids))).length.beq (ids.length * 1) = true)).a ((Cnd.p (OW (AO.cells (List.take (ids.length * 1) (List.drop 0 (rowV encI ids)) ++ [AV.v (Value.int IntKind.i64 (lastOf d).c)]) 6) (AO.cells (rowV encI ids2) 6))).a Cnd.t))))))))).a Cnd.t))))))))))))) := by kernel_rfl
end
end Go.Proofs.Ytojfbgmeaadanaa.Alm

/- Alarms: Due: its loop. -/
set_option linter.unusedVariables false
set_option linter.unusedSimpArgs false
set_option maxRecDepth 100000
namespace Go.Proofs.Ytojfbgmeaadanaa.Alm
open Go Go.RowKit Go.Proofs.Ytojfbgmeaadanaa.Eng Go.Proofs.Ytojfbgmeaadanaa.Kit
/-- One alarm comes due. -/
def dueS (s : Ps) : Ps := { popS (hpopD s) with m := mdel s.m (at' s 0).c }
def dueR (now : Int) : Nat → Ps → List Int → Ps × List Int
  | 0, s, ids => (s, ids)
  | n + 1, s, ids => if (at' s 0).a ≤ now then dueR now n (dueS s) (ids ++ [(at' s 0).c]) else (s, ids)
noncomputable section
def idsA (ids : List Int) : AV := match ids with
  | [] => nilV
  | _ => idsV ids.length
def idsH (ids : List Int) : LH := match ids with
  | [] => []
  | _ => [(1010, idsO ids)]
/-- Where the first alarm is looked at. -/
def dueH (s : Ps) (ids : List Int) : LH := match s.xs with
  | [] => uM s ++ idsH ids
  | _ => oC s 0 ++ idsH ids
end
theorem hpopH_tri (s : Ps) (hB : Big s) (h0 : 0 < s.xs.length) : Tri Try.prog default fHPop [hI] (hremH s 0) alP (uL (popS (hpopD s)) ++ outL (lastOf (hpopD s)) ((hpopD s).xs.length - 1)) := by
  have p := perm_at _ 0 _ (fam_at s 0 h0)
  refine Tri.pre (Goes.trans (H' := [(0, hdr 1 3 s.xs.length (roomOf s) s.tn), (1, rowO (blocks s)), (2, famO (((at' s 0).k, alC (at' s 0) 0) :: (fam 0 s.xs).eraseIdx 0)), (3, mapO s)]) ?_
    (goes_lw (H' := uL s) (by kernel_rfl) (by kernel_rfl) ⟨rfl, OW.refl _, rfl, OW.refl _, rfl, ow_fam p.symm, rfl, OW.refl _, trivial⟩ (VW.refl _))) (hpop_tri s hB h0)
  exact goes_in (k := 2) (i := 1004) (j := 1005) (e := tAl) (b := (at' s 0).k) (c := alC (at' s 0) 0) (l := (fam 0 s.xs).eraseIdx 0) (by kernel_rfl) (by kernel_rfl) rfl rfl rfl rfl rfl rfl (by decide)
      (fun n h1 h2 h3 => by simp only [hremH, getO, h1, h2, h3, if_false]) ⟨rfl, trivial⟩ (all_cons ⟨rfl, rfl, trivial, trivial⟩ (all_cons (cls_rowV _ _) (all_cons trivial (all_cons (map_clE _ _) all_nil))))
theorem cHPop_ok (s d : Ps) (F : HP) : C1OK Try.prog F fHPop (cHPop s d) :=
  mkC_ok (W := default) oldDef (fun _ => alP) gHead_ro (fun _ => rfl) (fun q hq => by obtain ⟨h1, h2, rfl⟩ := hq; exact hpopH_tri s h1 h2)
    fun q => ⟨by kernel_rfl, by kernel_rfl, ⟨rfl, trivial⟩, all_cons ⟨rfl, rfl, trivial, trivial⟩ (all_cons (cls_rowV _ _) (all_cons trivial (all_cons (map_clE _ _) (all_cons ⟨trivial, trivial, trivial, trivial, trivial⟩ (all_cons rfl all_nil))))), ⟨rfl, trivial⟩,
      all_cons ⟨rfl, rfl, trivial, trivial⟩ (all_cons (cls_rowV _ _) (all_cons trivial (all_cons (map_clE _ _) (all_cons ⟨trivial, trivial, trivial, trivial, trivial⟩ (all_cons rfl all_nil)))))⟩
theorem due_len (s : Ps) (h0 : 0 < s.xs.length) : (dueS s).xs.length = s.xs.length - 1 := by
  have hk : Keep s (hpopD s) := (swap_keep ..).trans (down_keeps ..)
  show (popS (hpopD s)).xs.length = _
  rw [pop_len, hk.len]
/-- The first alarm is laid beside the others, the ids told behind. -/
theorem open_ids (s : Ps) (hi : 0 < s.xs.length) (ids : List Int) (vs : List AV) : Goes vs (uM s ++ [(1010, idsO ids)]) vs (oC s 0 ++ [(1010, idsO ids)]) := by
  have p := perm_at _ 0 _ (fam_at s 0 hi)
  have hl : LW [(0, hdr 1001 1003 s.xs.length (roomOf s) s.tn), (1001, rowO (blocks s)), (1002, famO (fam 0 s.xs)), (1003, mapO s), (1010, idsO ids)] [(0, hdr 1001 1003 s.xs.length (roomOf s) s.tn), (1001, rowO (blocks s)), (1002, famO (((at' s 0).k, alC (at' s 0) 0) :: (fam 0 s.xs).eraseIdx 0)), (1003, mapO s), (1010, idsO ids)] :=
    ⟨rfl, OW.refl _, rfl, OW.refl _, rfl, ow_fam p, rfl, OW.refl _, rfl, OW.refl _, trivial⟩
  refine (goes_lw (H := uM s ++ [(1010, idsO ids)]) (by kernel_rfl) (by kernel_rfl) hl (VW.refl _)).trans ?_
  exact goes_out (k := 1002) (i := 1004) (j := 1005) (e := tAl) (b := (at' s 0).k) (c := alC (at' s 0) 0) (l := (fam 0 s.xs).eraseIdx 0) (by kernel_rfl) (by kernel_rfl) rfl rfl rfl rfl (by decide) rfl rfl (by decide)
      (fun n h1 h2 h3 => by simp only [oC, List.cons_append, List.nil_append, getO, h1, h2, h3, if_false]) (fun _ _ _ _ h => h)
theorem open_due (s : Ps) (ids : List Int) (vs : List AV) : Goes vs (uM s ++ idsH ids) vs (dueH s ids) := by
  unfold dueH
  cases hx : s.xs with
  | nil => exact Goes.refl _ _
  | cons x l =>
    have h0 : 0 < s.xs.length := by rw [hx]; exact Nat.succ_pos _
    cases ids with
    | nil => exact (List.append_nil (uM s)).symm ▸ (List.append_nil (oC s 0)).symm ▸ open_one s 0 h0 vs
    | cons y ids => exact open_ids s h0 _ vs
end Go.Proofs.Ytojfbgmeaadanaa.Alm

/- Alarms: Due: its loop, walked. -/
set_option linter.unusedVariables false
set_option linter.unusedSimpArgs false
set_option maxRecDepth 100000
namespace Go.Proofs.Ytojfbgmeaadanaa.Alm
open Go Go.RowKit Go.Proofs.Ytojfbgmeaadanaa.Eng Go.Proofs.Ytojfbgmeaadanaa.Kit
theorem idsA_ne {ids : List Int} (h : ids ≠ []) : idsA ids = idsV ids.length := by
  cases ids with
  | nil => exact absurd rfl h
  | cons x l => rfl
theorem idsH_ne {ids : List Int} (h : ids ≠ []) : idsH ids = [(1010, idsO ids)] := by
  cases ids with
  | nil => exact absurd rfl h
  | cons x l => rfl
theorem due_big {s : Ps} (hB : Big s) : Big (dueS s) := by
  have hk : Keep s (hpopD s) := (swap_keep ..).trans (down_keeps ..)
  unfold Big at hB ⊢
  show (popS (hpopD s)).xs.length * 15 ≤ _
  rw [pop_len, hk.len]
  exact Nat.le_trans (Nat.mul_le_mul_right 15 (Nat.sub_le _ _)) hB
theorem due_cl (K : Nat → Bool) (h0 : K 0 = true) (h1 : K 1010 = true) (now : Int) (ids : List Int) : ∀ x ∈ dueA now (idsA ids), AV.cl K x.2 := by
  refine all_cons h0 (all_cons trivial (all_cons ?_ all_nil))
  cases ids with
  | nil => exact trivial
  | cons x l => exact h1
theorem due_cl0 (K : Nat → Bool) (h0 : K 0 = true) (now : Int) : ∀ x ∈ dueA now nilV, AV.cl K x.2 := all_cons h0 (all_cons trivial (all_cons trivial all_nil))
/-- The first alarm is laid back. -/
theorem shut_ids (s : Ps) (hi : 0 < s.xs.length) (ids : List Int) (vs : List AV) (hv : ∀ K : Nat → Bool, K 0 = true → K 1010 = true → AV.cls K vs) : Goes vs (oC s 0 ++ [(1010, idsO ids)]) vs (uM s ++ [(1010, idsO ids)]) := by
  have p := perm_at _ 0 _ (fam_at s 0 hi)
  refine Goes.trans (H' := [(0, hdr 1001 1003 s.xs.length (roomOf s) s.tn), (1001, rowO (blocks s)), (1002, famO (((at' s 0).k, alC (at' s 0) 0) :: (fam 0 s.xs).eraseIdx 0)), (1003, mapO s), (1010, idsO ids)]) ?_
    (goes_lw (by kernel_rfl) (by kernel_rfl) ⟨rfl, OW.refl _, rfl, OW.refl _, rfl, ow_fam p.symm, rfl, OW.refl _, rfl, OW.refl _, trivial⟩ (VW.refl _))
  exact goes_in (k := 1002) (i := 1004) (j := 1005) (e := tAl) (b := (at' s 0).k) (c := alC (at' s 0) 0) (l := (fam 0 s.xs).eraseIdx 0) (by kernel_rfl) (by kernel_rfl) rfl rfl rfl rfl rfl rfl (by decide)
      (fun n h1 h2 h3 => by simp only [oC, List.cons_append, List.nil_append, getO, h1, h2, h3, if_false]) (hv _ rfl rfl) (all_cons ⟨rfl, rfl, trivial, trivial⟩ (all_cons (cls_rowV _ _) (all_cons trivial (all_cons (map_clE _ _) (all_cons (cls_rowV _ _) all_nil)))))
theorem shut_one' (s : Ps) (i : Nat) (hi : i < s.xs.length) (vs : List AV) (hv : ∀ K : Nat → Bool, K 0 = true → AV.cls K vs) : Goes vs (oC s i) vs (uM s) := by
  have p := perm_at _ i _ (fam_at s i hi)
  refine Goes.trans (H' := [(0, hdr 1001 1003 s.xs.length (roomOf s) s.tn), (1001, rowO (blocks s)), (1002, famO (((at' s i).k, alC (at' s i) i) :: (fam 0 s.xs).eraseIdx i)), (1003, mapO s)]) ?_
    (goes_lw (by kernel_rfl) (by kernel_rfl) ⟨rfl, OW.refl _, rfl, OW.refl _, rfl, ow_fam p.symm, rfl, OW.refl _, trivial⟩ (VW.refl _))
  exact goes_in (k := 1002) (i := 1004) (j := 1005) (e := tAl) (b := (at' s i).k) (c := alC (at' s i) i) (l := (fam 0 s.xs).eraseIdx i) (by kernel_rfl) (by kernel_rfl) rfl rfl rfl rfl rfl rfl (by decide)
      (fun n h1 h2 h3 => by simp only [oC, getO, h1, h2, h3, if_false]) (hv _ rfl) (all_cons ⟨rfl, rfl, trivial, trivial⟩ (all_cons (cls_rowV _ _) (all_cons trivial (all_cons (map_clE _ _) all_nil))))
abbrev ksD : List Nat := [0, 1001, 1002, 1003, 1004, 1005, 1010, 1102, 1103]
theorem uM_objs {s : Ps} {R : List AV} (hR : R = rowV pv (blocks s)) (r : List (Option AO)) : ObjsOK (0 :: 1001 :: 1002 :: 1003 :: [1004, 1005, 1010, 1102, 1103]) (some (hdr 1001 1003 s.xs.length (roomOf s) s.tn) :: some (.cells R tPtr) :: some (famO (fam 0 s.xs)) :: some (mapO s) :: r) [(1001, 1001), (1002, 1002), (1003, 1003)] (uM s) :=
  ⟨⟨_, rfl, OW.refl _⟩, ⟨_, rfl, OW.of_eq (by rw [hR]; exact (calm_row _ _).symm)⟩, ⟨_, rfl, OW.refl _⟩, ⟨_, rfl, OW.of_eq (map_ren s _).symm⟩, trivial⟩
theorem calm_ids (ids : List Int) (σ : Nat → Nat) : (idsO ids).ren σ = idsO ids := row_renA σ ids tInt
def RoomD (n0 : Nat) : Prop := n0 * 8 ≤ 140737488355328
theorem len_idsO (ids : List Int) : (rowV encI ids).length = ids.length := by rw [rowV_length (k := 1) fun _ => rfl, Nat.mul_one]
theorem due_loop (now : Int) (n0 : Nat) (hn0 : RoomD n0) (s : Ps) (ids : List Int) (hB : Big s) (hh : HeapTo (at' s) s.xs.length) (hle : ids.length + s.xs.length ≤ n0) :
    LTri Try.prog default (loopN fDue 1) (tms 0 47 (dueA now (idsA ids))) (dueH s ids) (.exit 0) (tms 0 47 (dueA now (idsA (dueR now s.xs.length s ids).2))) (uM (dueR now s.xs.length s ids).1 ++ idsH (dueR now s.xs.length s ids).2) := by
  obtain ⟨T, hT⟩ : ∃ T, dueR now s.xs.length s ids = T := ⟨_, rfl⟩
  rw [hT]
  refine ltri_runF (W := default) (g := fDue) (b := loopN fDue 1) (σ := {z : Ps × List Int // Big z.1 ∧ HeapTo (at' z.1) z.1.xs.length ∧ z.2.length + z.1.xs.length ≤ n0 ∧ dueR now z.1.xs.length z.1 z.2 = T}) 47 (fun z => dueA now (idsA z.1.2)) (fun z => dueH z.1.1 z.1.2) (.exit 0) (dueA now (idsA T.2)) (uM T.1 ++ idsH T.2) (fun z => z.1.1.xs.length) ksD [0, 1, 4] (by intro h; cases h) (fun z => ?_) ?_ ⟨(s, ids), hB, hh, hle, hT⟩
  · obtain ⟨⟨s, ids⟩, _⟩ := z
    show namesLt 1100 (dueH s ids) = true
    unfold dueH
    cases s.xs with
    | nil => cases ids with
      | nil => kernel_rfl
      | cons x l => kernel_rfl
    | cons y r => cases ids with
      | nil => kernel_rfl
      | cons x l => kernel_rfl
  rintro ⟨⟨s, ids⟩, hB, hh, hle, he⟩
  have hB : Big s := hB
  have hh : HeapTo (at' s) s.xs.length := hh
  have hle : ids.length + s.xs.length ≤ n0 := hle
  have he : dueR now s.xs.length s ids = T := he
  show ∃ (con : ConsL) (hints : ClaimT) (lc : LcL), _ ∧ _ ∧ ∀ F, VAll _ (wLoop con hints lc _ _ _ (tms 0 47 (dueA now (idsA ids))) (dueH s ids) _ _ F)
  have hneg : s.xs.length = 0 → decide ((s.xs.length : Int) > Int.ofNat 0) = false := fun h => by rw [h]; rfl
  have hpos : 0 < s.xs.length → decide ((s.xs.length : Int) > Int.ofNat 0) = true := fun h => by
    simp only [Int.ofNat_eq_natCast, gt_iff_lt, decide_eq_true_eq]; omega
  by_cases h0 : 0 < s.xs.length
  case neg =>
    have hz : s.xs.length = 0 := by omega
    have hx : s.xs = [] := List.eq_nil_of_length_eq_zero hz
    rw [hz] at he
    have he : (s, ids) = T := he
    subst he
    have hH : dueH s ids = uM s ++ idsH ids := by unfold dueH; rw [hx]
    rw [hH]
    by_cases hi : ids = []
    · subst hi
      refine ⟨[], hDueE, [], fun _ _ => noC, fun _ _ => noL, fun F => ?_⟩
      rw [show uM s ++ idsH [] = uM s from List.append_nil _]
      refine cast (congrArg (VAll _) (oDueE_eq s now F).symm) ⟨⟨?_, rfl, .inr ⟨rfl, FitT.fits (l := [(1001, 1001), (1002, 1002), (1003, 1003)]) ⟨by kernel_rfl, by kernel_rfl, ⟨Wk.refl _, Wk.refl _, Wk.refl _, trivial⟩, uM_objs rfl _⟩ (by kernel_rfl)⟩⟩⟩
      simp only [Cnd.holds, true_and, and_true]
      exact wk_litE (hneg hz)
    · refine ⟨[], hDueE, [], fun _ _ => noC, fun _ _ => noL, fun F => ?_⟩
      rw [idsA_ne hi, idsH_ne hi]
      refine cast (congrArg (VAll _) (oDueE1_eq s now ids F).symm) ⟨⟨?_, rfl, .inr ⟨rfl, FitT.fits (l := [(1001, 1001), (1002, 1002), (1003, 1003), (1010, 1010)]) ⟨by kernel_rfl, by kernel_rfl, ⟨Wk.refl _, Wk.refl _, Wk.refl _, trivial⟩, ?_⟩ (by kernel_rfl)⟩⟩⟩
      · simp only [Cnd.holds, true_and, and_true]
        exact wk_litE (hneg hz)
      · exact ⟨⟨_, rfl, OW.refl _⟩, ⟨_, rfl, OW.of_eq (calm_row _ _).symm⟩, ⟨_, rfl, OW.refl _⟩, ⟨_, rfl, OW.of_eq (map_ren s _).symm⟩, ⟨_, rfl, OW.of_eq (calm_ids _ _).symm⟩, trivial⟩
  case pos =>
    have hH : dueH s ids = oC s 0 ++ idsH ids := by
      unfold dueH
      cases hx : s.xs with
      | nil => rw [hx] at h0; cases h0
      | cons x l => rfl
    rw [hH]
    have p1 : ∀ d, (rowV pv (blocks s)).getD 0 d = ptrV (at' s 0).k := fun d => row_ptr _ 0 d _ (blocks_at s 0 h0)
    have l1 : 0 < s.xs.length + s.g.length := by omega
    obtain ⟨q1, q2, q3, hk⟩ := hpop_spec s hh h0
    have hlen := due_len s h0
    obtain ⟨n, hn⟩ : ∃ n, s.xs.length = n + 1 := ⟨s.xs.length - 1, by omega⟩
    by_cases hd : (at' s 0).a ≤ now
    case neg =>
      have he : (s, ids) = T := by rw [hn, dueR, if_neg hd] at he; exact he
      subst he
      have hdf : decide ((at' s 0).a ≤ now) = false := decide_eq_false hd
      by_cases hi : ids = []
      · subst hi
        refine ⟨[], hDueL, [], fun _ _ => noC, fun _ _ => noL, fun F => ?_⟩
        rw [show oC s 0 ++ idsH [] = oC s 0 from List.append_nil _, show uM s ++ idsH [] = uM s from List.append_nil _]
        refine cast (congrArg (VAll _) (oDueL_eq s now F).symm) ⟨⟨?_, rfl, .inr ⟨rfl, dueA now nilV, oC s 0, [(1001, 1001), (1002, 1002), (1003, 1003), (1004, 1004), (1005, 1005)], by kernel_rfl, ⟨by kernel_rfl, by kernel_rfl, ⟨Wk.refl _, Wk.refl _, Wk.refl _, trivial⟩, ?_⟩, shut_one' s 0 h0 _ fun K k0 => cls_tms (due_cl0 K k0 now) _ _⟩⟩⟩
        · simp only [Cnd.holds, p1, row_len1, blocks_len, l1, h0, Nat.blt_eq, true_and, and_true]
          exact ⟨wk_litE (hpos h0), Wk.refl _, wk_litE hdf⟩
        · exact ⟨⟨_, rfl, OW.refl _⟩, ⟨_, rfl, OW.of_eq (calm_row _ _).symm⟩, ⟨_, rfl, OW.refl _⟩, ⟨_, rfl, OW.of_eq (map_ren s _).symm⟩, ⟨_, rfl, OW.refl _⟩, ⟨_, rfl, OW.refl _⟩, trivial⟩
      · refine ⟨[], hDueL, [], fun _ _ => noC, fun _ _ => noL, fun F => ?_⟩
        rw [idsA_ne hi, idsH_ne hi]
        refine cast (congrArg (VAll _) (oDueL1_eq s now ids F).symm) ⟨⟨?_, rfl, .inr ⟨rfl, dueA now (idsV ids.length), oC s 0 ++ [(1010, idsO ids)], [(1001, 1001), (1002, 1002), (1003, 1003), (1004, 1004), (1005, 1005), (1010, 1010)], by kernel_rfl, ⟨by kernel_rfl, by kernel_rfl, ⟨Wk.refl _, Wk.refl _, Wk.refl _, trivial⟩, ?_⟩, ?_⟩⟩⟩
        · simp only [Cnd.holds, p1, row_len1, blocks_len, l1, h0, Nat.blt_eq, true_and, and_true]
          exact ⟨wk_litE (hpos h0), Wk.refl _, wk_litE hdf⟩
        · exact ⟨⟨_, rfl, OW.refl _⟩, ⟨_, rfl, OW.of_eq (calm_row _ _).symm⟩, ⟨_, rfl, OW.refl _⟩, ⟨_, rfl, OW.of_eq (map_ren s _).symm⟩, ⟨_, rfl, OW.refl _⟩, ⟨_, rfl, OW.refl _⟩, ⟨_, rfl, OW.of_eq (calm_ids _ _).symm⟩, trivial⟩
        · exact shut_ids s h0 ids _ fun K k0 k1 => cls_tms (idsA_ne hi ▸ due_cl K k0 k1 now ids) _ _
    case pos =>
      have he : dueR now n (dueS s) (ids ++ [(at' s 0).c]) = T := by rw [hn, dueR, if_pos hd] at he; exact he
      have hnn : (dueS s).xs.length = n := by rw [hlen, hn]; rfl
      have hdt : decide ((at' s 0).a ≤ now) = true := decide_eq_true hd
      obtain ⟨z', hz'⟩ : ∃ z' : {z : Ps × List Int // Big z.1 ∧ HeapTo (at' z.1) z.1.xs.length ∧ z.2.length + z.1.xs.length ≤ n0 ∧ dueR now z.1.xs.length z.1 z.2 = T}, z'.1 = (dueS s, ids ++ [(at' s 0).c]) := ⟨⟨(dueS s, ids ++ [(at' s 0).c]), due_big hB, q2, by
        show (ids ++ [(at' s 0).c]).length + (dueS s).xs.length ≤ n0
        rw [List.length_append, hnn]; simp only [List.length_singleton]; omega, by rw [← hnn] at he; exact he⟩, rfl⟩
      have hmu : (dueS s).xs.length < s.xs.length := by omega
      have hnew : ids ++ [(at' s 0).c] ≠ [] := by simp
      have hobj : ∀ (os : List (Option AO)), getK ksD os 0 = some (hdr 1001 1003 (popS (hpopD s)).xs.length (roomOf (popS (hpopD s))) (hpopD s).tn) → getK ksD os 1001 = some (.cells (AV.rens (sgN (nmU 0 1001 1003) [1004, 1005] 1100) (rowV pv (blocks (popS (hpopD s))))) tPtr) → getK ksD os 1002 = some (famO (fam 0 (hpopD s).xs.dropLast)) →
          getK ksD os 1003 = some (.map (delE (.v (.int .i64 (lastOf (hpopD s)).c)) (renE (sgN (nmU 0 1001 1003) [1004, 1005] 1100) (mE ptrV (hpopD s).m))) (hpopD s).ck) → getK ksD os 1103 = some (idsO (ids ++ [(at' s 0).c])) → ObjsOK ksD os [(1001, 1001), (1002, 1002), (1003, 1003), (1010, 1103)] (uM (dueS s) ++ [(1010, idsO (ids ++ [(at' s 0).c]))]) := by
        intro os o0 o1 o2 o3 o4
        refine ⟨⟨_, o0, OW.refl _⟩, ⟨_, o1, OW.of_eq ?_⟩, ⟨_, o2, OW.refl _⟩, ⟨_, o3, OW.of_eq ?_⟩, ⟨_, o4, OW.of_eq (calm_ids _ _).symm⟩, trivial⟩
        · show _ = (rowO (blocks (dueS s))).ren _
          rw [calm_row, rens_rowV]
          rfl
        · show _ = (mapO (dueS s)).ren _
          rw [map_ren, map_renE, delE_mE, hk.m, q1]
          rfl
      by_cases hi : ids = []
      · subst hi
        refine ⟨[(fHPop, cHPop s (hpopD s))], hDueS, [], fun F _ => con_cons (cHPop_ok s _ F) noC, fun _ _ => noL, fun F => ?_⟩
        rw [show oC s 0 ++ idsH [] = oC s 0 from List.append_nil _]
        refine cast (congrArg (VAll _) (oDueS_eq s (hpopD s) now F).symm) ⟨⟨?_, rfl, .inl ⟨rfl, z', by rw [hz']; exact hmu, ?_⟩⟩⟩
        · simp only [Cnd.holds, p1, row_len1, blocks_len, l1, h0, Nat.blt_eq, rens_rowV, map_renE, true_and, and_true]
          and_intros
          all_goals first
            | (with_reducible exact hB)
            | (with_reducible exact rfl)
            | (with_reducible exact Wk.refl _)
            | (with_reducible exact VW.refl _)
            | (with_reducible exact OW.refl _)
            | exact findKey_mE intT _ _ _
            | exact wk_litE (hpos h0)
            | exact wk_litE hdt
            | exact Wk.refl _
        · rw [hz', q1]
          refine ⟨dueA now (idsV 1), uM (dueS s) ++ [(1010, idsO [(at' s 0).c])], [(1001, 1001), (1002, 1002), (1003, 1003), (1010, 1103)], by kernel_rfl, ⟨by kernel_rfl, by kernel_rfl, ⟨Wk.refl _, Wk.refl _, Wk.refl _, trivial⟩, hobj _ rfl rfl rfl (by rw [q1]; rfl) rfl⟩, ?_⟩
          exact open_due (dueS s) [(at' s 0).c] _
      · refine ⟨[(fHPop, cHPop s (hpopD s))], hDueS1 (ids ++ [(at' s 0).c]), [], fun F _ => con_cons (cHPop_ok s _ F) noC, fun _ _ => noL, fun F => ?_⟩
        rw [idsA_ne hi, idsH_ne hi]
        refine cast (congrArg (VAll _) (oDueS1_eq s (hpopD s) now ids (ids ++ [(at' s 0).c]) F).symm) ⟨⟨?_, rfl, .inl ⟨rfl, z', by rw [hz']; exact hmu, ?_⟩⟩⟩
        · have w1 : List.take (ids.length * 1) (List.drop 0 (rowV encI ids)) = rowV encI ids := row_whole (k := 1) (enc := encI) (fun _ => rfl) ids _ rfl
          have w2 : rowV encI ids ++ [AV.v (Value.int IntKind.i64 (at' s 0).c)] = rowV encI (ids ++ [(at' s 0).c]) := by rw [rowV_append]; rfl
          have w3 : ids.length + 1 ≤ n0 := by omega
          have w4 : (ids.length + 1) * 8 ≤ 140737488355328 := Nat.le_trans (Nat.mul_le_mul_right 8 w3) hn0
          have w5 : ids.length + 1 ≤ 9223372036854775807 := by
            clear w2 w1
            unfold RoomD at hn0; omega
          rw [q1, w1, w2]
          simp only [Cnd.holds, p1, row_len1, blocks_len, len_idsO, l1, h0, w4, w5, Nat.blt_eq, Nat.ble_eq, Nat.mul_one, Nat.zero_add, Nat.le_refl, Nat.beq_refl, rens_rowV, map_renE, true_and, and_true]
          and_intros
          all_goals first
            | (with_reducible exact hB)
            | (with_reducible exact rfl)
            | (with_reducible exact Wk.refl _)
            | (with_reducible exact VW.refl _)
            | (with_reducible exact OW.refl _)
            | exact findKey_mE intT _ _ _
            | exact wk_litE (hpos h0)
            | exact wk_litE hdt
            | exact Wk.refl _
        · rw [hz']
          refine ⟨dueA now (idsV (ids.length + 1)), uM (dueS s) ++ [(1010, idsO (ids ++ [(at' s 0).c]))], [(1001, 1001), (1002, 1002), (1003, 1003), (1010, 1103)], by kernel_rfl, ⟨by kernel_rfl, by kernel_rfl, ⟨Wk.refl _, Wk.refl _, Wk.refl _, trivial⟩, hobj _ rfl rfl rfl rfl rfl⟩, ?_⟩
          have := open_due (dueS s) (ids ++ [(at' s 0).c]) (tms 0 47 (dueA now (idsV (ids.length + 1))))
          rw [idsH_ne hnew] at this
          rw [idsA_ne hnew, show (ids ++ [(at' s 0).c]).length = ids.length + 1 from by simp]
          exact this
end Go.Proofs.Ytojfbgmeaadanaa.Alm

/- Alarms: Due: the function's runs. -/
set_option linter.unusedVariables false
set_option linter.unusedSimpArgs false
set_option maxRecDepth 100000
namespace Go.Proofs.Ytojfbgmeaadanaa.Alm
open Go Go.RowKit Go.Proofs.Ytojfbgmeaadanaa.Eng Go.Proofs.Ytojfbgmeaadanaa.Kit
noncomputable section
def lDueE (s t : Ps) (now : Int) : List AV → AP (AX × List AV) := mkL gHead (fun _ => True) (fun p => nmM p.1 p.2.1 p.2.2) (fun _ => tms 0 47 (dueA now nilV)) (fun _ => uM s) (fun _ => .leaf (.exit 0) (tms 0 47 (dueA now nilV)) (uM t))
def lDueN (s t : Ps) (now : Int) (ids : List Int) : List AV → AP (AX × List AV) := mkL gHead (fun _ => True) (fun p => nmM p.1 p.2.1 p.2.2) (fun _ => tms 0 47 (dueA now nilV)) (fun _ => uM s) (fun _ => .leaf (.exit 0) (tms 0 47 (dueA now (idsV ids.length))) (uM t ++ [(1010, idsO ids)]))
theorem oDueFE_eq (s t : Ps) (now : Int) (F : HP) : wRun [] noHints [(fDue, 1, loopN fDue 1, lDueE s t now)] default fDue [.ptr 0 0, iv now] (uM s) [0, 1001, 1002, 1003, 1100, 1101, 1102, 1103, 1104, 1105] F = VT.leaf (AV.v (Value.slice none 0 0)) [some (AO.cells [AV.slice 1100 0 t.xs.length 1 (Cp.lo (roomOf t)), AV.map 1102, AV.v (Value.int IntKind.i64 t.tn)] 108), none, none, none, some (AO.cells (AV.rens (sgN (nmM 0 1001 1003) [1001, 1002, 1003] 1100) (rowV pv (blocks t))) 110), some (AO.any (famHP 57 (fam 0 t.xs))), some (AO.map (renE (sgN (nmM 0 1001 1003) [1001, 1002, 1003] 1100) (mE ptrV t.m)) t.ck), none, none, none] 1103 ((Cnd.p ((fDue, 1, loopN fDue 1, lDueE s t now).snd.snd.fst = (fDue, 1, loopN fDue 1, lDueE s t now).snd.snd.fst)).a ((Cnd.p True).a ((Cnd.p (VW [AV.ptr 0 0, AV.v (Value.int IntKind.i64 now), AV.v (Value.tuple (Array.mk [])), AV.v (Value.tuple (Array.mk [])), AV.v (Value.slice none 0 0), AV.v (Value.tuple (Array.mk [])), AV.v (Value.tuple (Array.mk [])), AV.v (Value.tuple (Array.mk [])), AV.v (Value.tuple (Array.mk [])), AV.v (Value.tuple (Array.mk [])), AV.v (Value.tuple (Array.mk [])), AV.v (Value.tuple (Array.mk [])), AV.v (Value.tuple (Array.mk [])), AV.v (Value.tuple (Array.mk [])), AV.v (Value.tuple (Array.mk [])), AV.v (Value.tuple (Array.mk [])), AV.v (Value.tuple (Array.mk [])), AV.v (Value.tuple (Array.mk [])), AV.v (Value.tuple (Array.mk [])), AV.v (Value.tuple (Array.mk [])), AV.v (Value.tuple (Array.mk [])), AV.v (Value.tuple (Array.mk [])), AV.v (Value.tuple (Array.mk [])), AV.v (Value.tuple (Array.mk [])), AV.v (Value.tuple (Array.mk [])), AV.v (Value.tuple (Array.mk [])), AV.v (Value.tuple (Array.mk [])), AV.v (Value.tuple (Array.mk [])), AV.v (Value.tuple (Array.mk [])), AV.v (Value.tuple (Array.mk [])), AV.v (Value.tuple (Array.mk [])), AV.v (Value.tuple (Array.mk [])), AV.v (Value.tuple (Array.mk [])), AV.v (Value.tuple (Array.mk [])), AV.v (Value.tuple (Array.mk [])), AV.v (Value.tuple (Array.mk [])), AV.v (Value.tuple (Array.mk [])), AV.v (Value.tuple (Array.mk [])), AV.v (Value.tuple (Array.mk [])), AV.v (Value.tuple (Array.mk [])), AV.v (Value.tuple (Array.mk [])), AV.v (Value.tuple (Array.mk [])), AV.v (Value.tuple (Array.mk [])), AV.v (Value.tuple (Array.mk [])), AV.v (Value.tuple (Array.mk [])), AV.v (Value.tuple (Array.mk [])), AV.v (Value.tuple (Array.mk []))] [AV.ptr 0 0, AV.v (Value.int IntKind.i64 now), AV.any, AV.any, AV.v (Value.slice none 0 0), AV.any, AV.any, AV.any, AV.any, AV.any, AV.any, AV.any, AV.any, AV.any, AV.any, AV.any, AV.any, AV.any, AV.any, AV.any, AV.any, AV.any, AV.any, AV.any, AV.any, AV.any, AV.any, AV.any, AV.any, AV.any, AV.any, AV.any, AV.any, AV.any, AV.any, AV.any, AV.any, AV.any, AV.any, AV.any, AV.any, AV.any, AV.any, AV.any, AV.any, AV.any, AV.any])).a ((Cnd.p (OW (AO.cells [AV.slice 1001 0 s.xs.length 1 (Cp.lo (roomOf s)), AV.map 1003, AV.v (Value.int IntKind.i64 s.tn)] 108) (AO.cells [AV.slice 1001 0 s.xs.length 1 (Cp.lo (roomOf s)), AV.map 1003, AV.v (Value.int IntKind.i64 s.tn)] 108))).a ((Cnd.p (OW (AO.cells (rowV pv (blocks s)) 110) (AO.cells (AV.rens (nmM 0 1001 1003) (rowV pv (blocks s))) 110))).a ((Cnd.p (OW (AO.any (famHP 57 (fam 0 s.xs))) (AO.any (famHP 57 (fam 0 s.xs))))).a ((Cnd.p (OW (AO.map (mE ptrV s.m) s.ck) (AO.map (renE (nmM 0 1001 1003) (mE ptrV s.m)) s.ck))).a Cnd.t))))))) := by kernel_rfl
theorem oDueFN_eq (s t : Ps) (now : Int) (ids : List Int) (F : HP) : wRun [] noHints [(fDue, 1, loopN fDue 1, lDueN s t now ids)] default fDue [.ptr 0 0, iv now] (uM s) [0, 1001, 1002, 1003, 1100, 1101, 1102, 1103, 1104, 1105] F = VT.leaf (AV.slice 1103 0 ids.length 1 (Cp.lo ids.length)) [some (AO.cells [AV.slice 1100 0 t.xs.length 1 (Cp.lo (roomOf t)), AV.map 1102, AV.v (Value.int IntKind.i64 t.tn)] 108), none, none, none, some (AO.cells (AV.rens (sgN (nmM 0 1001 1003) [1001, 1002, 1003, 1010] 1100) (rowV pv (blocks t))) 110), some (AO.any (famHP 57 (fam 0 t.xs))), some (AO.map (renE (sgN (nmM 0 1001 1003) [1001, 1002, 1003, 1010] 1100) (mE ptrV t.m)) t.ck), some (AO.cells (AV.rens (sgN (nmM 0 1001 1003) [1001, 1002, 1003, 1010] 1100) (rowV encI ids)) 6), none, none] 1104 ((Cnd.p ((fDue, 1, loopN fDue 1, lDueN s t now ids).snd.snd.fst = (fDue, 1, loopN fDue 1, lDueN s t now ids).snd.snd.fst)).a ((Cnd.p True).a ((Cnd.p (VW [AV.ptr 0 0, AV.v (Value.int IntKind.i64 now), AV.v (Value.tuple (Array.mk [])), AV.v (Value.tuple (Array.mk [])), AV.v (Value.slice none 0 0), AV.v (Value.tuple (Array.mk [])), AV.v (Value.tuple (Array.mk [])), AV.v (Value.tuple (Array.mk [])), AV.v (Value.tuple (Array.mk [])), AV.v (Value.tuple (Array.mk [])), AV.v (Value.tuple (Array.mk [])), AV.v (Value.tuple (Array.mk [])), AV.v (Value.tuple (Array.mk [])), AV.v (Value.tuple (Array.mk [])), AV.v (Value.tuple (Array.mk [])), AV.v (Value.tuple (Array.mk [])), AV.v (Value.tuple (Array.mk [])), AV.v (Value.tuple (Array.mk [])), AV.v (Value.tuple (Array.mk [])), AV.v (Value.tuple (Array.mk [])), AV.v (Value.tuple (Array.mk [])), AV.v (Value.tuple (Array.mk [])), AV.v (Value.tuple (Array.mk [])), AV.v (Value.tuple (Array.mk [])), AV.v (Value.tuple (Array.mk [])), AV.v (Value.tuple (Array.mk [])), AV.v (Value.tuple (Array.mk [])), AV.v (Value.tuple (Array.mk [])), AV.v (Value.tuple (Array.mk [])), AV.v (Value.tuple (Array.mk [])), AV.v (Value.tuple (Array.mk [])), AV.v (Value.tuple (Array.mk [])), AV.v (Value.tuple (Array.mk [])), AV.v (Value.tuple (Array.mk [])), AV.v (Value.tuple (Array.mk [])), AV.v (Value.tuple (Array.mk [])), AV.v (Value.tuple (Array.mk [])), AV.v (Value.tuple (Array.mk [])), AV.v (Value.tuple (Array.mk [])), AV.v (Value.tuple (Array.mk [])), AV.v (Value.tuple (Array.mk [])), AV.v (Value.tuple (Array.mk [])), AV.v (Value.tuple (Array.mk [])), AV.v (Value.tuple (Array.mk [])), AV.v (Value.tuple (Array.mk [])), AV.v (Value.tuple (Array.mk [])), AV.v (Value.tuple (Array.mk []))] [AV.ptr 0 0, AV.v (Value.int IntKind.i64 now), AV.any, AV.any, AV.v (Value.slice none 0 0), AV.any, AV.any, AV.any, AV.any, AV.any, AV.any, AV.any, AV.any, AV.any, AV.any, AV.any, AV.any, AV.any, AV.any, AV.any, AV.any, AV.any, AV.any, AV.any, AV.any, AV.any, AV.any, AV.any, AV.any, AV.any, AV.any, AV.any, AV.any, AV.any, AV.any, AV.any, AV.any, AV.any, AV.any, AV.any, AV.any, AV.any, AV.any, AV.any, AV.any, AV.any, AV.any])).a ((Cnd.p (OW (AO.cells [AV.slice 1001 0 s.xs.length 1 (Cp.lo (roomOf s)), AV.map 1003, AV.v (Value.int IntKind.i64 s.tn)] 108) (AO.cells [AV.slice 1001 0 s.xs.length 1 (Cp.lo (roomOf s)), AV.map 1003, AV.v (Value.int IntKind.i64 s.tn)] 108))).a ((Cnd.p (OW (AO.cells (rowV pv (blocks s)) 110) (AO.cells (AV.rens (nmM 0 1001 1003) (rowV pv (blocks s))) 110))).a ((Cnd.p (OW (AO.any (famHP 57 (fam 0 s.xs))) (AO.any (famHP 57 (fam 0 s.xs))))).a ((Cnd.p (OW (AO.map (mE ptrV s.m) s.ck) (AO.map (renE (nmM 0 1001 1003) (mE ptrV s.m)) s.ck))).a Cnd.t))))))) := by kernel_rfl
theorem oDueF0_eq (s : Ps) (now : Int) (F : HP) : wRun [] (hintL [(fDue, 1, 5, hv (.lit false))]) [] default fDue [.ptr 0 0, iv now] (uM0 s) [0, 1003] F = VT.leaf (AV.v (Value.slice none 0 0)) [some (AO.cells [AV.v (Value.slice none 0 0), AV.map 1003, AV.v (Value.int IntKind.i64 s.tn)] 108), some (AO.map (mE ptrV s.m) s.ck)] 1100 (((Cnd.p (true = true)).a Cnd.t).a (((Cnd.p (Wk (AV.v (Value.bool false)) (AV.lit false))).a Cnd.t).a Cnd.t)) := by kernel_rfl
end
end Go.Proofs.Ytojfbgmeaadanaa.Alm

