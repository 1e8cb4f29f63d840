/- Many blocks of one kind as one object; one of them taken out, put back. No program. -/
import Derived.Test.YtjjjchmkonnpfaaEngCon
set_option linter.unusedVariables false
set_option linter.unusedSimpArgs false
namespace Go.Proofs.Ytjjjchmkonnpfaa.Eng
open Go Go.RowKit
/-- So many cells lie in a block, from its first one on. -/
def memAt (w : World) (e : TypeId) (p : Nat × List Value) : Prop := ∃ arr, w.heap[p.1]? = some (.cells arr e (0, 0)) ∧ p.2.length ≤ arr.size ∧ arr.toList.take p.2.length = p.2
def famOn (e : TypeId) (l : List (Nat × List Value)) (D : Nat → Prop) (w : World) : Prop := (∀ x, D x ↔ ∃ p ∈ l, p.1 = x) ∧ (l.map (·.1)).Nodup ∧ ∀ p ∈ l, memAt w e p
def famHP (e : TypeId) (l : List (Nat × List Value)) : HP where
  on D w := famOn e l D w
  far {D w w'} hf := fun (h : famOn e l D w) => show famOn e l D w' from ⟨h.1, h.2.1, fun p hp => by
    obtain ⟨arr, h1, h2⟩ := h.2.2 p hp
    exact ⟨arr, (hf _ ((h.1 _).2 ⟨p, hp, rfl⟩)).trans h1, h2⟩⟩
  lt {D w} := fun (h : famOn e l D w) b hb => by
    obtain ⟨p, hp, rfl⟩ := (h.1 b).1 hb
    obtain ⟨arr, h1, _⟩ := h.2.2 p hp
    exact (Array.getElem?_eq_some_iff.1 h1).1
theorem famHP.perm {e : TypeId} {l l' : List (Nat × List Value)} (hp : l.Perm l') {D : Nat → Prop} {w : World} (h : (famHP e l).on D w) : (famHP e l').on D w :=
  ⟨fun x => (h.1 x).trans ⟨fun ⟨p, h1, h2⟩ => ⟨p, hp.subset h1, h2⟩, fun ⟨p, h1, h2⟩ => ⟨p, hp.symm.subset h1, h2⟩⟩, (hp.map _).nodup_iff.1 h.2.1, fun p h1 => h.2.2 p (hp.symm.subset h1)⟩
theorem ow_fam {e : TypeId} {l l' : List (Nat × List Value)} (hp : l.Perm l') : OW (.any (famHP e l)) (.any (famHP e l')) := fun N i D w h => famHP.perm hp h
theorem lt_lim {H : LH} (h : namesLt 1100 H = true) : namesLt T.limit H = true := namesLt_mono (by decide) h
/-- One block is taken out of the many: it gets a name. -/
theorem goes_out {vs vs' : List AV} {H H' : LH} {k i j : Nat} {e : TypeId} {b : Nat} {c : List Value} {l : List (Nat × List Value)} (hl : namesLt 1100 H = true) (hl' : namesLt 1100 H' = true)
    (hk : getO H k = some (.any (famHP e ((b, c) :: l)))) (hk' : getO H' k = some (.any (famHP e l))) (hi : getO H' i = some (.cells (vmap c) (2 * e))) (hj : getO H' j = some (.same i b))
    (hne : k ≠ i ∧ k ≠ j ∧ i ≠ j) (hi0 : getO H i = none) (hj0 : getO H j = none) (hi1 : 1000 ≤ i) (hr : ∀ n, n ≠ k → n ≠ i → n ≠ j → getO H' n = getO H n)
    (hv : ∀ N ys r, N i = some ⟨b, 0, r⟩ → VRs N vs ys → VRs N vs' ys) : Goes vs H vs' H' := by
  intro W0 F N ys w ⟨N1, g1, g2, r, hvs⟩
  obtain ⟨hki, hkj, hij⟩ := hne
  have hN0 : N1 i = none := g2 i hi1 hi0
  have hle : N1.le (N1.put i ⟨b, 0, c.length⟩) := Names.put_le hN0
  obtain ⟨D0, D, h1, h2, h3⟩ := r.sat
  have hf : ∀ n, (heapOf H).find n = getO H n := find_heapOf (lt_lim hl)
  have hf' : ∀ n, (heapOf H').find n = getO H' n := find_heapOf (lt_lim hl')
  obtain ⟨hfam, hfar⟩ := h2 k _ (by rw [hf]; exact hk)
  have hfam : (famHP e ((b, c) :: l)).on (D k) w := hfam
  obtain ⟨q1, q2, q3⟩ := hfam
  have hnb : b ∉ l.map (·.1) := (List.nodup_cons.1 q2).1
  have hDb : D k b := (q1 b).2 ⟨_, List.mem_cons_self, rfl⟩
  have hother : ∀ n o, getO H' n = some o → n ≠ k → n ≠ i → n ≠ j → getO H n = some o := fun n o ho a1 a2 a3 => by rw [← hr n a1 a2 a3]; exact ho
  refine ⟨N1.put i ⟨b, 0, c.length⟩, fun n hn => ?_, fun n hn hg => ?_, ?_, hv _ _ _ Names.put_same (hvs.mono hle)⟩
  · rw [Names.put_ne (show n ≠ i by omega)]; exact g1 n hn
  · have hni : n ≠ i := fun he => by rw [he, hi] at hg; cases hg
    rw [Names.put_ne hni]
    refine g2 n hn ?_
    by_cases a1 : n = k
    · rw [a1, hk'] at hg; cases hg
    · by_cases a3 : n = j
      · rw [a3]; exact hj0
      · rw [← hr n a1 hni a3]; exact hg
  · refine ⟨r.os, r.tape, r.output, D0, fun n x => if n = k then D k x ∧ x ≠ b else if n = i then x = b else if n = j then False else D n x, h1, fun n o ho => ?_, fun n m o o' hn hm hnm x hx hx' => ?_⟩
    · rw [hf'] at ho
      by_cases a1 : n = k
      · subst a1
        rw [hk'] at ho; cases ho
        simp only [if_true]
        refine ⟨⟨fun x => ⟨fun hx => ?_, fun ⟨p, hp, hx⟩ => ⟨(q1 x).2 ⟨p, List.mem_cons_of_mem _ hp, hx⟩, fun he => hnb (List.mem_map.2 ⟨p, hp, by rw [hx, he]⟩)⟩⟩, (List.nodup_cons.1 q2).2, fun p hp => q3 p (List.mem_cons_of_mem _ hp)⟩, fun x hx => hfar x hx.1⟩
        obtain ⟨p, hp, he⟩ := (q1 x).1 hx.1
        rcases List.mem_cons.1 hp with rfl | hp
        · exact absurd he.symm hx.2
        · exact ⟨p, hp, he⟩
      · by_cases a2 : n = i
        · subst a2
          rw [hi] at ho; cases ho
          simp only [if_neg a1, if_true]
          obtain ⟨arr, m1, m2, m3⟩ := q3 (b, c) List.mem_cons_self
          refine ⟨⟨⟨b, 0, c.length⟩, arr, (0, 0), Names.put_same, fun x => Iff.rfl, ?_, ?_, ?_, .inl rfl, ?_, fun _ => ⟨rfl, rfl⟩⟩, fun x hx => by subst hx; exact hfar _ hDb⟩
          · rw [Nat.mul_div_cancel_left e (by decide)]; exact m1
          · simpa using m2
          · simp [vmap]
          · rw [List.drop_zero, show (vmap c).length = c.length by simp [vmap], m3]; exact VRs.vmap _
        · by_cases a3 : n = j
          · subst a3
            rw [hj] at ho; cases ho
            simp only [if_neg a1, if_neg a2, if_true]
            exact ⟨⟨fun x hx => hx, _, Names.put_same⟩, fun x hx => hx.elim⟩
          · simp only [if_neg a1, if_neg a2, if_neg a3]
            have := h2 n o (by rw [hf]; exact hother n o ho a1 a2 a3)
            exact ⟨this.1.mono hle, this.2⟩
    · rw [hf'] at hn hm
      have key : ∀ n o, getO H' n = some o → n ≠ k → n ≠ i → n ≠ j → ∀ x, D k x → ¬ D n x := fun n o ho a1 a2 a3 x hx =>
        h3 k n _ o (by rw [hf]; exact hk) (by rw [hf]; exact hother n o ho a1 a2 a3) (fun e => a1 e.symm) x hx
      by_cases a1 : n = k
      · subst a1
        have b1 : m ≠ n := fun e => hnm e.symm
        simp only [if_true] at hx
        simp only [if_neg b1] at hx'
        by_cases b2 : m = i
        · simp only [b2, if_true] at hx'; exact hx.2 hx'
        · simp only [if_neg b2] at hx'
          by_cases b3 : m = j
          · simp only [b3, if_true] at hx'
          · simp only [if_neg b3] at hx'
            exact key m o' hm b1 b2 b3 x hx.1 hx'
      · simp only [if_neg a1] at hx
        by_cases a2 : n = i
        · simp only [a2, if_true] at hx
          subst hx
          by_cases b1 : m = k
          · simp only [b1, if_true] at hx'; exact hx'.2 rfl
          · simp only [if_neg b1] at hx'
            by_cases b2 : m = i
            · exact hnm (a2.trans b2.symm)
            · simp only [if_neg b2] at hx'
              by_cases b3 : m = j
              · simp only [b3, if_true] at hx'
              · simp only [if_neg b3] at hx'
                exact key m o' hm b1 b2 b3 _ hDb hx'
        · simp only [if_neg a2] at hx
          by_cases a3 : n = j
          · simp only [a3, if_true] at hx
          · simp only [if_neg a3] at hx
            by_cases b1 : m = k
            · simp only [b1, if_true] at hx'
              exact key n o hn a1 a2 a3 x hx'.1 hx
            · simp only [if_neg b1] at hx'
              by_cases b2 : m = i
              · simp only [b2, if_true] at hx'
                subst hx'
                exact key n o hn a1 a2 a3 _ hDb hx
              · simp only [if_neg b2] at hx'
                by_cases b3 : m = j
                · simp only [b3, if_true] at hx'
                · simp only [if_neg b3] at hx'
                  exact h3 n m o o' (by rw [hf]; exact hother n o hn a1 a2 a3) (by rw [hf]; exact hother m o' hm b1 b2 b3) hnm x hx hx'
/-- .. and put back: its name is forgotten. -/
theorem goes_in {vs : List AV} {H H' : LH} {k i j : Nat} {e : TypeId} {b : Nat} {c : List Value} {l : List (Nat × List Value)} (hl : namesLt 1100 H = true) (hl' : namesLt 1100 H' = true)
    (hk : getO H k = some (.any (famHP e l))) (hi : getO H i = some (.cells (vmap c) (2 * e))) (hj : getO H j = some (.same i b)) (hk' : getO H' k = some (.any (famHP e ((b, c) :: l)))) (hi' : getO H' i = none) (hj' : getO H' j = none)
    (hki : k ≠ i) (hr : ∀ n, n ≠ k → n ≠ i → n ≠ j → getO H' n = getO H n) (hv : AV.cls (fun n => Nat.blt n 1000 || (getO H' n).isSome) vs) (ho : ∀ x ∈ H', x.2.cl (fun n => Nat.blt n 1000 || (getO H' n).isSome)) : Goes vs H vs H' := by
  intro W0 F N ys w ⟨N1, g1, g2, r, hvs⟩
  obtain ⟨D0, D, h1, h2, h3⟩ := r.sat
  have hf : ∀ n, (heapOf H).find n = getO H n := find_heapOf (lt_lim hl)
  have hf' : ∀ n, (heapOf H').find n = getO H' n := find_heapOf (lt_lim hl')
  obtain ⟨hfam, hfar⟩ := h2 k _ (by rw [hf]; exact hk)
  have hfam : famOn e l (D k) w := hfam
  obtain ⟨q1, q2, q3⟩ := hfam
  obtain ⟨hcl, hcfar⟩ := h2 i _ (by rw [hf]; exact hi)
  obtain ⟨⟨_, rm, hsame⟩, _⟩ := h2 j _ (by rw [hf]; exact hj)
  obtain ⟨lc, arr, fz, a1, a2, a3, a4, a5, a6, a7, a8⟩ := hcl
  obtain rfl : lc = ⟨b, 0, rm⟩ := Option.some.inj (a1.symm.trans hsame)
  obtain ⟨_, rfl⟩ := a8 (by rw [Nat.mul_mod_right])
  simp only at a2 a3 a4 a5 a7
  have hcl : (vmap c).length = c.length := by simp [vmap]
  rw [List.drop_zero, hcl] at a7
  have hmem : memAt w e (b, c) := ⟨arr, by rw [Nat.mul_div_cancel_left e (by decide)] at a3; exact a3, by rw [hcl] at a5; simp only; omega, VRs.of_vmap a7⟩
  have hDi : D i b := (a2 b).2 rfl
  have hnb : b ∉ l.map (·.1) := fun hb => by
    obtain ⟨p, hp, he⟩ := List.mem_map.1 hb
    exact h3 k i _ _ (by rw [hf]; exact hk) (by rw [hf]; exact hi) hki b ((q1 b).2 ⟨p, hp, he⟩) hDi
  let K : Nat → Bool := fun n => Nat.blt n 1000 || (getO H' n).isSome
  let N2 : Names := fun n => if K n = true then N1 n else none
  have hN2 : ∀ n, K n = true → N2 n = N1 n := fun n hn => if_pos hn
  have hother : ∀ n o, getO H' n = some o → n ≠ k → getO H n = some o ∧ n ≠ i ∧ n ≠ j := fun n o ho a1 => by
    have b1 : n ≠ i := fun e => by rw [e, hi'] at ho; cases ho
    have b2 : n ≠ j := fun e => by rw [e, hj'] at ho; cases ho
    exact ⟨by rw [← hr n a1 b1 b2]; exact ho, b1, b2⟩
  refine ⟨N2, fun n hn => ?_, fun n hn hg => ?_, ?_, hvs.congr (K := K) hN2 hv⟩
  · rw [hN2 n (by simp [K, Nat.blt_eq, hn])]; exact g1 n hn
  · refine if_neg ?_
    simp only [K, hg, Bool.or_eq_true, Nat.blt_eq]
    rintro (hh | hh)
    · omega
    · cases hh
  · refine ⟨r.os, r.tape, r.output, D0, fun n x => if n = k then D k x ∨ x = b else D n x, h1, fun n o hno => ?_, fun n m o o' hn hm hnm x hx hx' => ?_⟩
    · rw [hf'] at hno
      by_cases c1 : n = k
      · subst c1
        rw [hk'] at hno; cases hno
        simp only [if_true]
        refine ⟨show famOn e ((b, c) :: l) _ w from ⟨fun x => ⟨fun hx => ?_, fun ⟨p, hp, hx⟩ => ?_⟩, ?_, fun p hp => ?_⟩, fun x hx => ?_⟩
        · rcases hx with hx | rfl
          · obtain ⟨p, hp, he⟩ := (q1 x).1 hx
            exact ⟨p, List.mem_cons_of_mem _ hp, he⟩
          · exact ⟨_, List.mem_cons_self, rfl⟩
        · rcases List.mem_cons.1 hp with rfl | hp
          · exact .inr hx.symm
          · exact .inl ((q1 x).2 ⟨p, hp, hx⟩)
        · exact List.nodup_cons.2 ⟨hnb, q2⟩
        · rcases List.mem_cons.1 hp with rfl | hp
          · exact hmem
          · exact q3 p hp
        · rcases hx with hx | rfl
          · exact hfar x hx
          · exact hcfar _ hDi
      · simp only [if_neg c1]
        obtain ⟨c2, _, _⟩ := hother n o hno c1
        have := h2 n o (by rw [hf]; exact c2)
        exact ⟨this.1.congr (K := K) hN2 (by simp [K, hno]) (ho _ (getO_mem hno)), this.2⟩
    · rw [hf'] at hn hm
      have key : ∀ n o, getO H' n = some o → n ≠ k → ∀ x, D k x ∨ x = b → ¬ D n x := fun n o hno c1 x hx hx' => by
        obtain ⟨c2, c3, _⟩ := hother n o hno c1
        rcases hx with hx | hxb
        · exact h3 k n _ o (by rw [hf]; exact hk) (by rw [hf]; exact c2) (fun e => c1 e.symm) x hx hx'
        · rw [hxb] at hx'
          exact h3 i n _ o (by rw [hf]; exact hi) (by rw [hf]; exact c2) (fun e => c3 e.symm) _ hDi hx'
      by_cases c1 : n = k
      · have c2 : m ≠ k := fun e => hnm (c1.trans e.symm)
        simp only [if_pos c1] at hx
        simp only [if_neg c2] at hx'
        exact key m o' hm c2 x hx hx'
      · simp only [if_neg c1] at hx
        by_cases c2 : m = k
        · simp only [if_pos c2] at hx'
          exact key n o hn c1 x hx' hx
        · simp only [if_neg c2] at hx'
          exact h3 n m o o' (by rw [hf]; exact (hother n o hn c1).1) (by rw [hf]; exact (hother m o' hm c2).1) hnm x hx hx'
/-- Where a block lies is some number. -/
theorem tri_same {P : Program} {W : World} {f : FuncId} {A : List AV} {H H' : LH} {v : AV} {i j : Nat} {cs : List AV} {e : TypeId} (hl : namesLt 1100 H = true) (hj1 : 1000 ≤ j ∧ j < 1100) (hi : getO H i = some (.cells cs e)) (he : e % 2 = 0) (hj : getO H j = none)
    (h : ∀ b, Tri P W f A ((j, .same i b) :: H) v H') : Tri P W f A H v H' := by
  intro W0 F N w vargs hF hNB r ha
  have hf : ∀ n, (heapOf H).find n = getO H n := find_heapOf (lt_lim hl)
  have hl2 : ∀ b, namesLt 1100 ((j, AO.same i b) :: H) = true := fun b => by
    simp only [namesLt, List.all_cons, Bool.and_eq_true, Nat.blt_eq]
    exact ⟨hj1.2, hl⟩
  have hf' : ∀ b n, (heapOf ((j, AO.same i b) :: H)).find n = if n = j then some (.same i b) else getO H n := fun b n => by rw [find_heapOf (lt_lim (hl2 b)), getO]
  obtain ⟨D0, D, h1, h2, h3⟩ := r.sat
  obtain ⟨⟨lc, arr, fz, a1, a2, a3, a4, a5, a6, a7, a8⟩, _⟩ := h2 i _ (by rw [hf]; exact hi)
  obtain ⟨a9, _⟩ := a8 he
  refine h lc.blk W0 F N w vargs hF (fun n hn hg => hNB n hn ?_) ?_ ha
  · rw [getO] at hg
    split at hg
    · cases hg
    · exact hg
  · refine ⟨r.os, r.tape, r.output, D0, fun n x => if n = j then False else D n x, h1, fun n o hn => ?_, fun n m o o' hn hm hnm x hx hx' => ?_⟩
    · rw [hf'] at hn
      by_cases c1 : n = j
      · rw [if_pos c1] at hn; cases hn
        simp only [if_pos c1]
        exact ⟨⟨fun x hx => hx, lc.room, by rw [a1]; cases lc; cases a9; rfl⟩, fun x hx => hx.elim⟩
      · rw [if_neg c1] at hn
        simp only [if_neg c1]
        exact h2 n o (by rw [hf]; exact hn)
    · rw [hf'] at hn hm
      by_cases c1 : n = j
      · simp only [if_pos c1] at hx
      · by_cases c2 : m = j
        · simp only [if_pos c2] at hx'
        · rw [if_neg c1] at hn
          rw [if_neg c2] at hm
          simp only [if_neg c1] at hx
          simp only [if_neg c2] at hx'
          exact h3 n m o o' (by rw [hf]; exact hn) (by rw [hf]; exact hm) hnm x hx hx'
/-- A pointer to a block whose number is known is that number. -/
theorem goes_plain {vs vs' : List AV} {H H' : LH} {i j b : Nat} (hl : namesLt 1100 H = true) (hl' : namesLt 1100 H' = true) (hj : getO H j = some (.same i b)) (hnone : ∀ n, getO H n = none → getO H' n = none) (hnone' : ∀ n, 1000 ≤ n → getO H' n = none → getO H n = none)
    (hv : ∀ N ys r, N i = some ⟨b, 0, r⟩ → VRs N vs ys → VRs N vs' ys) (ho : ∀ n o o', getO H n = some o → getO H' n = some o' → ∀ N D w r, N i = some ⟨b, 0, r⟩ → OR N n o D w → OR N n o' D w) : Goes vs H vs' H' := by
  intro W0 F N ys w ⟨N1, g1, g2, r, hvs⟩
  obtain ⟨D0, D, h1, h2, h3⟩ := r.sat
  have hf : ∀ n, (heapOf H).find n = getO H n := find_heapOf (lt_lim hl)
  have hf' : ∀ n, (heapOf H').find n = getO H' n := find_heapOf (lt_lim hl')
  obtain ⟨⟨_, rm, hsame⟩, _⟩ := h2 j _ (by rw [hf]; exact hj)
  have hback : ∀ n o', getO H' n = some o' → ∃ o, getO H n = some o := fun n o' hn => by
    cases hg : getO H n with
    | none => rw [hnone n hg] at hn; cases hn
    | some o => exact ⟨o, rfl⟩
  refine ⟨N1, g1, fun n hn hg => g2 n hn (hnone' n hn hg), ⟨r.os, r.tape, r.output, D0, D, h1, fun n o' hn => ?_, fun n m o o' hn hm hnm => ?_⟩, hv _ _ _ hsame hvs⟩
  · rw [hf'] at hn
    obtain ⟨o, hno⟩ := hback n o' hn
    have := h2 n o (by rw [hf]; exact hno)
    exact ⟨ho n o o' hno hn _ _ _ _ hsame this.1, this.2⟩
  · rw [hf'] at hn hm
    obtain ⟨o1, k1⟩ := hback n o hn
    obtain ⟨o2, k2⟩ := hback m o' hm
    exact h3 n m o1 o2 (by rw [hf]; exact k1) (by rw [hf]; exact k2) hnm
theorem Goes.trans {vs vs' vs'' : List AV} {H H' H'' : LH} (h : Goes vs H vs' H') (h' : Goes vs' H' vs'' H'') : Goes vs H vs'' H'' := fun W0 F N ys w hs => h' _ _ _ _ _ (h _ _ _ _ _ hs)
/-- The same names, each object telling no more. -/
def LW : LH → LH → Prop
  | [], [] => True
  | x :: H, y :: H' => x.1 = y.1 ∧ OW x.2 y.2 ∧ LW H H'
  | _, _ => False
theorem LW.get : ∀ {H H' : LH}, LW H H' → ∀ n, (getO H n = none ∧ getO H' n = none) ∨ ∃ o o', getO H n = some o ∧ getO H' n = some o' ∧ OW o o'
  | [], [], _, n => .inl ⟨rfl, rfl⟩
  | x :: H, y :: H', h, n => by
    obtain ⟨h1, h2, h3⟩ := h
    simp only [getO, ← h1]
    by_cases hx : n = x.1
    · exact .inr ⟨x.2, y.2, if_pos hx, if_pos hx, h2⟩
    · simp only [if_neg hx]
      exact LW.get h3 n
theorem goes_lw {vs vs' : List AV} {H H' : LH} (hl : namesLt 1100 H = true) (hl' : namesLt 1100 H' = true) (h : LW H H') (hv : VW vs vs') : Goes vs H vs' H' := by
  intro W0 F N ys w ⟨N1, g1, g2, r, hvs⟩
  obtain ⟨D0, D, h1, h2, h3⟩ := r.sat
  have hf : ∀ n, (heapOf H).find n = getO H n := find_heapOf (lt_lim hl)
  have hf' : ∀ n, (heapOf H').find n = getO H' n := find_heapOf (lt_lim hl')
  have back : ∀ n o', getO H' n = some o' → ∃ o, getO H n = some o ∧ OW o o' := fun n o' hn => by
    rcases h.get n with ⟨_, e⟩ | ⟨o, o2, e1, e2, hw⟩
    · rw [e] at hn; cases hn
    · rw [e2] at hn; cases hn; exact ⟨o, e1, hw⟩
  refine ⟨N1, g1, fun n hn hg => g2 n hn ?_, ⟨r.os, r.tape, r.output, D0, D, h1, fun n o' hn => ?_, fun n m o o' hn hm hnm => ?_⟩, hv _ _ hvs⟩
  · rcases h.get n with ⟨e, _⟩ | ⟨o, o2, _, e2, _⟩
    · exact e
    · rw [e2] at hg; cases hg
  · rw [hf'] at hn
    obtain ⟨o, hno, hw⟩ := back n o' hn
    have := h2 n o (by rw [hf]; exact hno)
    exact ⟨hw _ _ _ _ this.1, this.2⟩
  · rw [hf'] at hn hm
    obtain ⟨o1, k1, _⟩ := back n o hn
    obtain ⟨o2, k2, _⟩ := back m o' hm
    exact h3 n m o1 o2 (by rw [hf]; exact k1) (by rw [hf]; exact k2) hnm
/-- A family of none. -/
theorem goes_none {vs : List AV} {H H' : LH} {k : Nat} {e : TypeId} (hl : namesLt 1100 H = true) (hl' : namesLt 1100 H' = true) (hk : getO H' k = some (.any (famHP e []))) (hk0 : getO H k = none) (hr : ∀ n, n ≠ k → getO H' n = getO H n) : Goes vs H vs H' := by
  intro W0 F N ys w ⟨N1, g1, g2, r, hvs⟩
  obtain ⟨D0, D, h1, h2, h3⟩ := r.sat
  have hf : ∀ n, (heapOf H).find n = getO H n := find_heapOf (lt_lim hl)
  have hf' : ∀ n, (heapOf H').find n = getO H' n := find_heapOf (lt_lim hl')
  refine ⟨N1, g1, fun n hn hg => g2 n hn ?_, ⟨r.os, r.tape, r.output, D0, fun n x => if n = k then False else D n x, h1, fun n o hn => ?_, fun n m o o' hn hm hnm x hx hx' => ?_⟩, hvs⟩
  · by_cases c : n = k
    · rw [c, hk] at hg; cases hg
    · rw [← hr n c]; exact hg
  · rw [hf'] at hn
    by_cases c : n = k
    · subst c
      rw [hk] at hn; cases hn
      simp only [if_true]
      exact ⟨show famOn e [] _ w from ⟨fun x => ⟨fun h => h.elim, fun ⟨p, hp, _⟩ => by cases hp⟩, List.nodup_nil, fun p hp => by cases hp⟩, fun x hx => hx.elim⟩
    · simp only [if_neg c]
      exact h2 n o (by rw [hf, ← hr n c]; exact hn)
  · rw [hf'] at hn hm
    by_cases c : n = k
    · simp only [if_pos c] at hx
    · by_cases c' : m = k
      · simp only [if_pos c'] at hx'
      · simp only [if_neg c] at hx
        simp only [if_neg c'] at hx'
        exact h3 n m o o' (by rw [hf, ← hr n c]; exact hn) (by rw [hf, ← hr m c']; exact hm) hnm x hx hx'
/-- Cells whose last one tells another thing. -/
theorem vrs_last {N : Names} {u v : AV} (h : ∀ y, VR N u y → VR N v y) : ∀ {A : List AV} {ys : List Value}, VRs N (A ++ [u]) ys → VRs N (A ++ [v]) ys
  | [], ys, hv => by
    simp only [List.nil_append, VRs] at hv ⊢
    obtain ⟨y, r, h1, h2, h3⟩ := hv
    exact ⟨y, r, h y h1, h2, h3⟩
  | x :: A, ys, hv => by
    simp only [List.cons_append, VRs] at hv ⊢
    obtain ⟨y, r, h1, h2, h3⟩ := hv
    exact ⟨y, r, h1, vrs_last h h2, h3⟩
end Go.Proofs.Ytjjjchmkonnpfaa.Eng
