/- container/heap on a pile; a Line's methods: contracts. -/
import Derived.Test.YtcpijmlaglcblaaRkLine
set_option linter.unusedVariables false
set_option linter.unusedSimpArgs false
set_option maxRecDepth 100000
namespace Go.Proofs.Ytcpijmlaglcblaa.Rk
open Go Go.RowKit Go.Proofs.Ytcpijmlaglcblaa.Eng
theorem upS_keeps (s : Ps) (j : Nat) (h : PI s) : PI (upS s j) ∧ (upS s j).xs.length = s.xs.length := by
  induction j using Nat.strongRecOn generalizing s with
  | ind j ih =>
    rw [upS]
    split
    · exact ⟨h, rfl⟩
    · split
      · have := ih ((j - 1) / 2) (by omega) _ (h.swap ((j - 1) / 2) j)
        exact ⟨this.1, this.2.trans (swap_len _ _ _)⟩
      · exact ⟨h, rfl⟩
theorem downS_keeps (n : Nat) : ∀ (d : Nat) (s : Ps) (i : Nat), n - i ≤ d → PI s → PI (downS s i n).1 ∧ (downS s i n).1.xs.length = s.xs.length := by
  intro d
  induction d with
  | zero =>
    intro s i hd h
    rw [downS, dif_pos (by omega)]
    exact ⟨h, rfl⟩
  | succ d ih =>
    intro s i hd h
    rw [downS]
    split
    · exact ⟨h, rfl⟩
    · split
      · have hj := downJ_gt s i n
        have := ih (swapS s i (downJ s i n)) (downJ s i n) (by omega) (h.swap i (downJ s i n))
        exact ⟨this.1, this.2.trans (swap_len _ _ _)⟩
      · exact ⟨h, rfl⟩
theorem fits_one {ks : List Nat} {os : List (Option AO)} {u v : AV} {o : AO} (hv : VW [u] (AV.rens (sg []) [v])) (ho : ∃ o1, getK ks os 0 = some o1 ∧ OW o1 (o.ren (sg []))) : Fits ks [u] os [v] [(0, o)] := (fits_own hv ho).fits rfl
theorem upL_ok (F : HP) : L1OK Try.prog F (loopOf fUp) upL := by
  intro st W0 N h w tmps tmps' ax a h' n n' lg lg' c Q he hc r ha hf hK
  unfold upL at he
  split at he
  · rename_i t i j rest
    obtain ⟨o, ho, he⟩ := run_read he
    split at he
    · rename_i s hh
      obtain ⟨c1, he2, rfl⟩ := run_need he
      obtain ⟨⟨h1, h2, h3⟩, hc2⟩ := (Cnd.and_iff _ _).1 hc
      have hcl : ClosedC (upA j.toNat) [(0, pO s)] (anys 23) [(0, pO (upS s j.toNat))] := ⟨rfl, rfl, ⟨rfl, trivial, cls_anys _ _⟩, (fun x hx => by simp only [List.mem_singleton] at hx; subst hx; trivial), cls_anys _ _, fun x hx => by simp only [List.mem_singleton] at hx; subst hx; trivial⟩
      exact useG_loop oldDef (up_loop s j.toNat h3 h2) hcl he2 hc2 r ha hf hK
    · exact (inv_fail he).elim
  · exact (inv_fail he).elim
theorem downL_ok (F : HP) : L1OK Try.prog F (loopOf fDown) downL := by
  intro st W0 N h w tmps tmps' ax a h' n n' lg lg' c Q he hc r ha hf hK
  unfold downL at he
  split at he
  · rename_i t p i0 m x3 x4 x5 x6 i rest
    obtain ⟨o, ho, he⟩ := run_read he
    split at he
    · rename_i s hh
      obtain ⟨c1, he2, rfl⟩ := run_need he
      obtain ⟨⟨h1, h2, h3, h4, h5, h6⟩, hc2⟩ := (Cnd.and_iff _ _).1 hc
      have hcl : ClosedC (downA i0.toNat m.toNat i.toNat) [(0, pO s)] (downA i0.toNat m.toNat (downS s i.toNat m.toNat).2) [(0, pO (downS s i.toNat m.toNat).1)] := ⟨rfl, rfl, ⟨rfl, trivial, trivial, trivial, trivial, trivial, trivial, trivial, cls_anys _ _⟩, (fun x hx => by simp only [List.mem_singleton] at hx; subst hx; trivial), ⟨rfl, trivial, trivial, trivial, trivial, trivial, trivial, trivial, cls_anys _ _⟩, fun x hx => by simp only [List.mem_singleton] at hx; subst hx; trivial⟩
      exact useG_loop oldDef (down_loop s i0.toNat m.toNat i.toNat h6 h4 h5) hcl he2 hc2 r ha hf hK
    · exact (inv_fail he).elim
  · exact (inv_fail he).elim
theorem up_tri (s : Ps) (j : Nat) (hP : PI s) (hj : j < s.xs.length) : Tri Try.prog default fUp [hI, iv (Int.ofNat j)] [(0, pO s)] (.tuple []) [(0, pO (upS s j))] := by
  refine tri_run (con := []) (hints := noHints) (lc := [(fUp, 0, loopOf fUp, upL)]) [0] rfl noC (fun x hx F => by simp only [List.mem_singleton] at hx; subst hx; exact upL_ok F) fun F => ?_
  rw [oUpF_eq]
  refine ⟨?_, fits_one (VW.refl _) ⟨_, rfl, OW.refl _⟩⟩
  refine ⟨rfl, ⟨Int.natCast_nonneg _, hj, hP⟩, VW.cons (Wk.refl _) (VW.cons (Wk.refl _) (vw_anys (n := 21) rfl)), OW.refl _, trivial⟩
theorem down_tri (s : Ps) (i n : Nat) (hP : PI s) (hn : n ≤ s.xs.length) (hi : i ≤ s.xs.length) : Tri Try.prog default fDown [hI, iv (Int.ofNat i), iv (Int.ofNat n)] [(0, pO s)] (.v (.bool (decide (i < (downS s i n).2)))) [(0, pO (downS s i n).1)] := by
  refine tri_run (con := []) (hints := noHints) (lc := [(fDown, 2, loopOf fDown, downL)]) [0] rfl noC (fun x hx F => by simp only [List.mem_singleton] at hx; subst hx; exact downL_ok F) fun F => ?_
  rw [oDownF_eq]
  have e : decide (Int.ofNat (downS s i n).snd > Int.ofNat i) = decide (i < (downS s i n).2) := by
    simp only [Int.ofNat_eq_natCast, gt_iff_lt, Int.ofNat_lt]
  refine ⟨?_, fits_one (by rw [e]; exact VW.refl _) ⟨_, rfl, OW.refl _⟩⟩
  refine ⟨rfl, ⟨Int.natCast_nonneg _, Int.natCast_nonneg _, Int.natCast_nonneg _, hn, hi, hP⟩, VW.cons (Wk.refl _) (VW.cons (Wk.refl _) (VW.cons (Wk.refl _) (VW.cons (Wk.any _) (VW.cons (Wk.any _) (VW.cons (Wk.any _) (VW.cons (Wk.any _) (VW.cons (Wk.refl _) (vw_anys (n := 40) rfl)))))))), OW.refl _, trivial⟩
theorem cUp_ok (F : HP) : C1OK Try.prog F fUp cUp := by
  intro st W0 N h w args vargs v h' n n' lg lg' c p hp he hc r ha hf
  unfold cUp at hp
  split at hp
  · rename_i t i j
    cases hp
    obtain ⟨c0, he0, rfl⟩ := run_need he
    obtain ⟨ht, hc0⟩ := (Cnd.and_iff _ _).1 hc
    have ht' : t = 53 := ht
    subst ht'
    obtain ⟨m, lg1, he1⟩ := ownC_run he0
    split at he1
    · rename_i s
      obtain ⟨c1, he2, rfl⟩ := run_need he1
      obtain ⟨⟨h1, h2, h3⟩, hc2⟩ := (Cnd.and_iff _ _).1 hc0
      obtain ⟨j, rfl⟩ := Int.eq_ofNat_of_zero_le h1
      exact onPile_ok (up_tri s j h3 h2) ⟨rfl, trivial, trivial⟩ ⟨trivial, trivial⟩ trivial he2 hc2 r ha hf
    · exact (inv_fail he1).elim
  · cases hp
theorem cDown_ok (F : HP) : C1OK Try.prog F fDown cDown := by
  intro st W0 N h w args vargs v h' n n' lg lg' c p hp he hc r ha hf
  unfold cDown at hp
  split at hp
  · rename_i t q i m
    cases hp
    obtain ⟨c0, he0, rfl⟩ := run_need he
    obtain ⟨ht, hc0⟩ := (Cnd.and_iff _ _).1 hc
    have ht' : t = 53 := ht
    subst ht'
    obtain ⟨md, lg1, he1⟩ := ownC_run he0
    split at he1
    · rename_i s
      obtain ⟨c1, he2, rfl⟩ := run_need he1
      obtain ⟨⟨h1, h2, h3, h4, h5⟩, hc2⟩ := (Cnd.and_iff _ _).1 hc0
      obtain ⟨m, rfl⟩ := Int.eq_ofNat_of_zero_le h1
      obtain ⟨i, rfl⟩ := Int.eq_ofNat_of_zero_le h2
      exact onPile_ok (down_tri s i m h5 h3 h4) ⟨rfl, trivial, trivial, trivial⟩ ⟨trivial, trivial⟩ trivial he2 hc2 r ha hf
    · exact (inv_fail he1).elim
  · cases hp
theorem conH_ok : ∀ x ∈ conH, ∀ F, C1OK Try.prog F x.1 x.2 := by
  intro x hx F
  rcases List.mem_cons.1 hx with rfl | hx
  · exact cUp_ok F
  rcases List.mem_cons.1 hx with rfl | hx
  · exact cDown_ok F
  exact conP_ok x hx F
theorem push_len (s : Ps) (x : It) : (pushS s x).xs.length = s.xs.length + 1 := by simp [pushS]
theorem PI.push {s : Ps} (h : PI s) (hR : Room s) (x : It) : PI (pushS s x) := ⟨h.m.mset _ _, by rw [push_len]; exact hR⟩
theorem hpush_tri (s : Ps) (x : It) (hP : PI s) (hR : Room s) : Tri Try.prog default fHPush [hI, itF x] [(0, pO s)] (.tuple []) [(0, pO (hpushS s x))] := by
  refine tri_run (con := conH) (hints := hintL [(fHPush, 1, 3, hv (iv (Int.ofNat s.xs.length)))]) (lc := []) [0] rfl conH_ok noL fun F => ?_
  rw [oHPush_eq]
  have hl : (s.xs ++ [x]).length = s.xs.length + 1 := by simp
  have hb := hP.big
  have hw : IntKind.i64.wrap (Int.ofNat (s.xs ++ [x]).length - Int.ofNat 1) = Int.ofNat s.xs.length := by
    rw [hl, IntWalk.i64_in _ (by simp only [Int.ofNat_eq_natCast]; omega)]; simp only [Int.ofNat_eq_natCast]; omega
  refine ⟨?_, fits_one (VW.refl _) ⟨_, rfl, OW.refl _⟩⟩
  refine ⟨⟨rfl, hR, VW.refl _, OW.refl _, trivial⟩, ⟨VW.refl _, OW.refl _, trivial⟩, ⟨wk_int hw, trivial⟩, ⟨rfl, ⟨Int.natCast_nonneg _, ?_, hP.push hR x⟩, VW.refl _, OW.refl _, trivial⟩, trivial⟩
  show s.xs.length < (s.xs ++ [x]).length
  omega
theorem upS_zero (s : Ps) : upS s 0 = s := by rw [upS, dif_pos rfl]
theorem hpush0_tri (x : It) : Tri Try.prog default fHPush [hI, itF x] [(0, pO0)] (.tuple []) [(0, pO (pushS emptyS x))] := by
  refine tri_run (con := conH) (hints := hintL [(fHPush, 1, 3, hv (iv (Int.ofNat 0)))]) (lc := []) [0] rfl conH_ok noL fun F => ?_
  rw [oHPush0_eq]
  have hP : PI (pushS emptyS x) := PI.push (s := emptyS) ⟨MI.nil, by show 0 * 24 ≤ _; omega⟩ (by show (0 + 1) * 24 ≤ _; omega) x
  refine ⟨?_, fits_one (VW.refl _) ⟨_, rfl, OW.of_eq ?_⟩⟩
  · simp only [Cnd.holds]
    and_intros
    all_goals first | exact trivial | exact VW.refl _ | exact OW.refl _ | exact Wk.refl _ | exact hP | rfl | decide
  · show pO (upS (pushS emptyS x) 0) = pO (pushS emptyS x)
    rw [upS_zero]
theorem hpop_tri (s : Ps) (hP : PI s) (h0 : 0 < s.xs.length) : Tri Try.prog default fHPop [hI] [(0, pO s)] (itF (hpopV s)) [(0, pO (hpopS s))] := by
  refine tri_run (con := conH) (hints := hintL [(fHPop, 1, 2, hv (iv (Int.ofNat (s.xs.length - 1))))]) (lc := []) [0] rfl conH_ok noL fun F => ?_
  rw [oHPop_eq]
  have hb := hP.big
  have hw : IntKind.i64.wrap (Int.ofNat s.xs.length - Int.ofNat 1) = Int.ofNat (s.xs.length - 1) := by
    rw [IntWalk.i64_in _ (by simp only [Int.ofNat_eq_natCast]; omega)]; simp only [Int.ofNat_eq_natCast]; omega
  have hsl := swap_len s 0 (s.xs.length - 1)
  obtain ⟨hd1, hd2⟩ := downS_keeps (s.xs.length - 1) _ (swapS s 0 (s.xs.length - 1)) 0 (Nat.le_refl _) (hP.swap 0 (s.xs.length - 1))
  refine ⟨?_, fits_one (VW.refl _) ⟨_, rfl, OW.refl _⟩⟩
  simp only [Cnd.holds]
  and_intros
  all_goals first
    | exact trivial
    | exact VW.refl _
    | exact OW.refl _
    | exact wk_int hw
    | exact hP.m
    | exact hP.swap _ _
    | rfl
    | exact h0
    | exact Int.natCast_nonneg _
    | (show s.xs.length - 1 < _; omega)
    | (show s.xs.length - 1 ≤ (swapS s 0 (s.xs.length - 1)).xs.length; omega)
    | exact Nat.zero_le _
    | (show 0 < (downS (swapS s 0 (s.xs.length - 1)) 0 (s.xs.length - 1)).1.xs.length; omega)
    | (show (downS (swapS s 0 (s.xs.length - 1)) 0 (s.xs.length - 1)).1.xs.length ≤ _; omega)
    | decide
end Go.Proofs.Ytcpijmlaglcblaa.Rk
