/- The pile's methods as calls; up and down. -/
import Derived.Test.YtcpijmlaglcblaaRkHeap
set_option linter.unusedVariables false
set_option linter.unusedSimpArgs false
set_option maxRecDepth 100000
namespace Go.Proofs.Ytcpijmlaglcblaa.Rk
open Go Go.RowKit Go.Proofs.Ytcpijmlaglcblaa.Eng
theorem ownC_run {i : Nat} {k : Md → AP AV} {st : Bool} {h h' : T} {n n' : Nat} {lg lg' : Log} {v : AV} {c : Cnd} (he : (ownC i k).run st h n lg = .ok v h' n' lg' c) : ∃ m lg1, (k m).run st h n lg1 = .ok v h' n' lg' c := by
  obtain ⟨o, ho, he⟩ := run_read he
  split at he
  · exact ⟨_, _, he⟩
  · exact (inv_fail he).elim
theorem closedO {A : List AV} {v : AV} {o o' : AO} (ha : AV.cls (kH [(0, o)]) A) (hv : AV.cls (kR [(0, o)] [(0, o')]) [v]) (ho : o.cl (kH [(0, o)])) (ho' : o'.cl (kR [(0, o)] [(0, o')])) : ClosedC A [(0, o)] [v] [(0, o')] :=
  ⟨rfl, rfl, ha, (fun x hx => by simp only [List.mem_singleton] at hx; subst hx; exact ho), hv, fun x hx => by simp only [List.mem_singleton] at hx; subst hx; exact ho'⟩
theorem onPile_ok {F : HP} {f : FuncId} {s : Ps} {A args : List AV} {i : Nat} {v0 : AV} {o : AO} (ht : Tri Try.prog default f A [(0, pO s)] v0 [(0, o)]) (ha : AV.cls (kH [(0, pO s)]) A) (hv : AV.cls (kR [(0, pO s)] [(0, o)]) [v0]) (ho : o.cl (kR [(0, pO s)] [(0, o)]))
    {st : Bool} {W0 : World} {N : Names} {h : T} {w : World} {vargs : Array Value} {v : AV} {h' : T} {n n' : Nat} {lg lg' : Log} {c : Cnd} (he : (onPile s A args i v0 o).run st h n lg = .ok v h' n' lg' c) (hc : c.holds)
    (r : Rep W0 N F h w) (hargs : VRs N args vargs.toList) (hf : Fresh N n n') : Calls Try.prog f vargs w (CallPost W0 F N v h' n n') :=
  useC_ok oldDef ht rfl (closedO ha hv trivial ho) he hc r hargs hf
theorem cLess_ok (F : HP) : C1OK Try.prog F fLess cLess := by
  intro st W0 N h w args vargs v h' n n' lg lg' c p hp he hc r ha hf
  unfold cLess at hp
  split at hp
  · rename_i i a b
    cases hp
    obtain ⟨m, lg1, he1⟩ := ownC_run he
    split at he1
    · rename_i s
      obtain ⟨c1, he2, rfl⟩ := run_need he1
      obtain ⟨⟨h1, h2, h3, h4⟩, hc2⟩ := (Cnd.and_iff _ _).1 hc
      obtain ⟨a, rfl⟩ := Int.eq_ofNat_of_zero_le h1
      obtain ⟨b, rfl⟩ := Int.eq_ofNat_of_zero_le h3
      exact onPile_ok (less_tri s a b h2 h4) ⟨rfl, trivial, trivial, trivial⟩ ⟨trivial, trivial⟩ trivial he2 hc2 r ha hf
    · exact (inv_fail he1).elim
  · cases hp
theorem cSwap_ok (F : HP) : C1OK Try.prog F fSwap cSwap := by
  intro st W0 N h w args vargs v h' n n' lg lg' c p hp he hc r ha hf
  unfold cSwap at hp
  split at hp
  · rename_i i a b
    cases hp
    obtain ⟨m, lg1, he1⟩ := ownC_run he
    split at he1
    · rename_i s
      obtain ⟨c1, he2, rfl⟩ := run_need he1
      obtain ⟨⟨h1, h2, h3, h4, h5⟩, hc2⟩ := (Cnd.and_iff _ _).1 hc
      obtain ⟨a, rfl⟩ := Int.eq_ofNat_of_zero_le h1
      obtain ⟨b, rfl⟩ := Int.eq_ofNat_of_zero_le h3
      exact onPile_ok (swap_tri s a b h2 h4 h5) ⟨rfl, trivial, trivial, trivial⟩ ⟨trivial, trivial⟩ trivial he2 hc2 r ha hf
    · exact (inv_fail he1).elim
  · cases hp
theorem cLen_ok (F : HP) : C1OK Try.prog F fLen cLen := by
  intro st W0 N h w args vargs v h' n n' lg lg' c p hp he hc r ha hf
  unfold cLen at hp
  split at hp
  · rename_i i
    cases hp
    obtain ⟨m, lg1, he1⟩ := ownC_run he
    split at he1
    · exact onPile_ok (len_tri _) ⟨rfl, trivial⟩ ⟨trivial, trivial⟩ trivial he1 hc r ha hf
    · exact useC_ok oldDef len0_tri rfl (closedO (A := [.ptr 0 0]) (v := iv (Int.ofNat 0)) (o := pO0) (o' := pO0) ⟨rfl, trivial⟩ ⟨trivial, trivial⟩ trivial trivial) he1 hc r ha hf
    · exact (inv_fail he1).elim
  · cases hp
theorem cPush_ok (F : HP) : C1OK Try.prog F fPush cPush := by
  intro st W0 N h w args vargs v h' n n' lg lg' c p hp he hc r ha hf
  unfold cPush at hp
  split at hp
  · rename_i i t a b c
    cases hp
    obtain ⟨c0, he0, rfl⟩ := run_need he
    obtain ⟨ht, hc0⟩ := (Cnd.and_iff _ _).1 hc
    have ht' : t = 27 := ht
    subst ht'
    obtain ⟨m, lg1, he1⟩ := ownC_run he0
    split at he1
    · rename_i s
      obtain ⟨c1, he2, rfl⟩ := run_need he1
      obtain ⟨h1, hc2⟩ := (Cnd.and_iff _ _).1 hc0
      exact onPile_ok (push_tri s ⟨a, b, c⟩ h1) ⟨rfl, ⟨trivial, trivial, trivial, trivial⟩, trivial⟩ ⟨trivial, trivial⟩ trivial he2 hc2 r ha hf
    · exact useC_ok oldDef (push0_tri ⟨a, b, c⟩) rfl (closedO (A := [.ptr 0 0, .iface 27 (itA ⟨a, b, c⟩)]) (v := .tuple []) (o := pO0) (o' := pO (pushS ⟨[], [], [], 0⟩ ⟨a, b, c⟩)) ⟨rfl, ⟨trivial, trivial, trivial, trivial⟩, trivial⟩ ⟨trivial, trivial⟩ trivial trivial) he1 hc0 r ha hf
    · exact (inv_fail he1).elim
  · cases hp
theorem cPop_ok (F : HP) : C1OK Try.prog F fPop cPop := by
  intro st W0 N h w args vargs v h' n n' lg lg' c p hp he hc r ha hf
  unfold cPop at hp
  split at hp
  · rename_i i
    cases hp
    obtain ⟨m, lg1, he1⟩ := ownC_run he
    split at he1
    · rename_i s
      obtain ⟨c1, he2, rfl⟩ := run_need he1
      obtain ⟨⟨h1, h2⟩, hc2⟩ := (Cnd.and_iff _ _).1 hc
      exact onPile_ok (pop_tri s h1 h2) ⟨rfl, trivial⟩ ⟨⟨trivial, trivial, trivial, trivial⟩, trivial⟩ trivial he2 hc2 r ha hf
    · exact (inv_fail he1).elim
  · cases hp
theorem conP_ok : ∀ x ∈ conP, ∀ F, C1OK Try.prog F x.1 x.2 := by
  intro x hx F
  simp only [conP, List.mem_cons, List.not_mem_nil, or_false] at hx
  rcases hx with rfl | rfl | rfl | rfl | rfl
  · exact cLess_ok F
  · exact cSwap_ok F
  · exact cLen_ok F
  · exact cPush_ok F
  · exact cPop_ok F
theorem fits_own {ks : List Nat} {os : List (Option AO)} {vs vs' : List AV} {o : AO} (hv : VW vs (AV.rens (sg []) vs')) (ho : ∃ o1, getK ks os 0 = some o1 ∧ OW o1 (o.ren (sg []))) : Fit ks vs os vs' [(0, o)] [] :=
  fit_mk [] rfl rfl hv ⟨ho, trivial⟩
/-- What a pile is fit for. -/
structure PI (s : Ps) : Prop where
  m : MI s.m s.ck
  big : s.xs.length * 24 ≤ 140737488355328
theorem PI.swap {s : Ps} (h : PI s) (i j : Nat) : PI (swapS s i j) := ⟨(h.m.mset _ _).mset _ _, by rw [swap_len]; exact h.big⟩
theorem up_loop (s : Ps) (j : Nat) (hP : PI s) (hj : j < s.xs.length) : LTri Try.prog default (loopOf fUp) (upA j) [(0, pO s)] (.exit 0) (anys 23) [(0, pO (upS s j))] := by
  refine ltri_loop (σ := {p : Ps × Nat // PI p.1 ∧ p.2 < p.1.xs.length}) (g := fUp) (con := fun _ => conL conP) (claim := fun p => hUp p.1.2) (lcon := fun _ => lconL []) (fun p => upA p.1.2) (fun p => [(0, pO p.1.1)]) (fun p => (.exit 0, anys 23, [(0, pO (upS p.1.1 p.1.2))])) (fun p => p.1.2) [0] 1000 mixed
    (fun _ => rfl) (fun p F _ => conL_ok rfl fun x hx => conP_ok x hx F) (fun p F _ => lconL_ok rfl fun x hx => by cases hx) ?_ ⟨(s, j), hP, hj⟩
  rintro ⟨⟨s, j⟩, hP, hj⟩ F _
  show (lRun conP (hUp j) [] fUp (loopOf fUp) (upA j) [(0, pO s)] [0] F).all _
  rw [oUp_eq]
  have hbig := hP.big
  have hj : j < s.xs.length := hj
  have hbig : s.xs.length * 24 ≤ 140737488355328 := hbig
  have hwr : IntKind.i64.wrap ((IntKind.i64.wrap (Int.ofNat j - Int.ofNat 1)).tdiv (Int.ofNat 2)) = Int.ofNat ((j - 1) / 2) := by
    have hj2 : j < s.xs.length := hj
    rw [IntWalk.i64_in (Int.ofNat j - Int.ofNat 1) (by simp only [Int.ofNat_eq_natCast]; omega)]
    cases j with
    | zero => rfl
    | succ j =>
      rw [IntWalk.i64_quo _ _ (by simp only [Int.ofNat_eq_natCast]; omega)]
      simp only [Int.ofNat_eq_natCast]; omega
  have hfin : ∀ (l : List AV), l.length = 23 → VW l (AV.rens (sg []) (anys 23)) := fun l hl => by rw [rens_anys]; exact vw_anys hl
  have hup0 : (Int.ofNat ((j - 1) / 2) == Int.ofNat j) = decide (j = 0) := by
    simp only [Int.ofNat_eq_natCast]
    by_cases h : j = 0
    · subst h; rfl
    · simp only [h, decide_false]; apply beq_eq_false_iff_ne.2; omega
  have hw : ∀ (x y : Nat), (Int.ofNat x).toNat = x := fun x y => rfl
  rw [hup0]
  refine ⟨fun h1 => ?_, fun h1 => ⟨fun h2 => ?_, fun h2 => ?_⟩⟩
  · simp only [decide_eq_true_eq] at h1
    have e : upS s j = s := by rw [upS, dif_pos h1]
    refine ⟨⟨⟨wk_int hwr, trivial⟩, trivial⟩, .inr ⟨(fun h => by cases h), rfl, (fits_own (hfin _ rfl) ⟨_, rfl, OW.of_eq ?_⟩).fits rfl⟩⟩
    show _ = (pO (upS s j)).ren _
    rw [e]; rfl
  · simp only [decide_eq_false_iff_not] at h1
    have h2' : (!ahead (at' s j) (at' s ((j - 1) / 2))) = true := h2
    have e : upS s j = s := by rw [upS, dif_neg h1, if_neg (by simpa using h2')]
    refine ⟨⟨⟨wk_int hwr, trivial⟩, ⟨⟨by simp only [Int.ofNat_eq_natCast]; omega, hj, by simp only [Int.ofNat_eq_natCast]; omega, by show (j - 1) / 2 < _; omega⟩, VW.refl _, OW.refl _, trivial⟩, trivial⟩, .inr ⟨(fun h => by cases h), rfl, (fits_own (hfin _ rfl) ⟨_, rfl, OW.of_eq ?_⟩).fits rfl⟩⟩
    show _ = (pO (upS s j)).ren _
    rw [e]; rfl
  · simp only [decide_eq_false_iff_not] at h1
    have h2' : (!ahead (at' s j) (at' s ((j - 1) / 2))) = false := h2
    have e1 : (j - 1) / 2 < s.xs.length := by omega
    have e : upS s j = upS (swapS s ((j - 1) / 2) j) ((j - 1) / 2) := by
      conv => lhs; rw [upS, dif_neg h1, if_pos (by simpa using h2')]
    refine ⟨⟨⟨wk_int hwr, trivial⟩, ⟨⟨by simp only [Int.ofNat_eq_natCast]; omega, hj, by simp only [Int.ofNat_eq_natCast]; omega, e1⟩, VW.refl _, OW.refl _, trivial⟩, ⟨⟨by simp only [Int.ofNat_eq_natCast]; omega, e1, by simp only [Int.ofNat_eq_natCast]; omega, hj, hP.m⟩, VW.refl _, OW.refl _, trivial⟩, trivial⟩, .inl ⟨rfl, ⟨(swapS s ((j - 1) / 2) j, (j - 1) / 2), hP.swap _ _, by rw [swap_len]; exact e1⟩, ?_, ?_, [], fits_own ?_ ⟨_, rfl, OW.refl _⟩⟩⟩
    · show (j - 1) / 2 < j
      omega
    · simp only [e]
    · exact VW.cons (Wk.refl _) (VW.cons (Wk.refl _) (by rw [rens_anys]; exact vw_anys rfl))
theorem downJ_lt (s : Ps) (i n : Nat) (h : ¬ n ≤ 2 * i + 1) : downJ s i n < n := by unfold downJ; split <;> omega
theorem down_loop (s : Ps) (i0 n i : Nat) (hP : PI s) (hn : n ≤ s.xs.length) (hi : i ≤ s.xs.length) : LTri Try.prog default (loopOf fDown) (downA i0 n i) [(0, pO s)] (.exit 0) (downA i0 n (downS s i n).2) [(0, pO (downS s i n).1)] := by
  refine ltri_loop (σ := {p : Ps × Nat // PI p.1 ∧ n ≤ p.1.xs.length ∧ p.2 ≤ p.1.xs.length}) (g := fDown) (con := fun _ => conL conP) (claim := fun p => hDown p.1.2) (lcon := fun _ => lconL []) (fun p => downA i0 n p.1.2) (fun p => [(0, pO p.1.1)]) (fun p => (.exit 0, downA i0 n (downS p.1.1 p.1.2 n).2, [(0, pO (downS p.1.1 p.1.2 n).1)])) (fun p => n - p.1.2) [0] 1000 mixed
    (fun _ => rfl) (fun p F _ => conL_ok rfl fun x hx => conP_ok x hx F) (fun p F _ => lconL_ok rfl fun x hx => by cases hx) ?_ ⟨(s, i), hP, hn, hi⟩
  rintro ⟨⟨s, i⟩, hP, hn, hi⟩ F _
  show (lRun conP (hDown i) [] fDown (loopOf fDown) (downA i0 n i) [(0, pO s)] [0] F).all _
  rw [oDown_eq]
  have hn : n ≤ s.xs.length := hn
  have hi : i ≤ s.xs.length := hi
  have hbig : s.xs.length * 24 ≤ 140737488355328 := hP.big
  have hw1 : IntKind.i64.wrap (IntKind.i64.wrap (Int.ofNat 2 * Int.ofNat i) + Int.ofNat 1) = Int.ofNat (2 * i + 1) := by
    rw [IntWalk.i64_in (Int.ofNat 2 * Int.ofNat i) (by simp only [Int.ofNat_eq_natCast]; omega), IntWalk.i64_in _ (by simp only [Int.ofNat_eq_natCast]; omega)]
    simp only [Int.ofNat_eq_natCast]; omega
  have hw2 : IntKind.i64.wrap (Int.ofNat (2 * i + 1) + Int.ofNat 1) = Int.ofNat (2 * i + 2) := by
    rw [IntWalk.i64_in _ (by simp only [Int.ofNat_eq_natCast]; omega)]
    simp only [Int.ofNat_eq_natCast]; omega
  have hM := hP.m
  have hfin : ∀ (i0' n' i' : Nat) (l : List AV), l.length = 40 → ∀ x3 x4 x5 x6, VW (hI :: iv (Int.ofNat i0) :: iv (Int.ofNat n) :: x3 :: x4 :: x5 :: x6 :: iv (Int.ofNat i') :: l) (AV.rens (sg []) (downA i0 n i')) := by
    intro _ _ i' l hl x3 x4 x5 x6
    have : AV.rens (sg []) (downA i0 n i') = downA i0 n i' := by
      show hI :: iv _ :: iv _ :: .any :: .any :: .any :: .any :: iv _ :: AV.rens (sg []) (anys 40) = _
      rw [rens_anys]; rfl
    rw [this]
    exact VW.cons (Wk.refl _) (VW.cons (Wk.refl _) (VW.cons (Wk.refl _) (VW.cons (Wk.any _) (VW.cons (Wk.any _) (VW.cons (Wk.any _) (VW.cons (Wk.any _) (VW.cons (Wk.refl _) (vw_anys hl))))))))
  -- how a round ends
  have stop : ∀ (tm : List AV), (downS s i n) = (s, i) → VW tm (AV.rens (sg []) (downA i0 n i)) → Fits [0] tm [some (pO s)] (downA i0 n (downS s i n).2) [(0, pO (downS s i n).1)] := by
    intro tm e hv
    rw [e]
    exact (fits_own hv ⟨_, rfl, OW.refl _⟩).fits rfl
  have goes : ∀ j, j < n → i < j → downS s i n = downS (swapS s i j) j n → ∀ tm, VW tm (AV.rens (sg []) (downA i0 n j)) →
      ∃ s' : {p : Ps × Nat // PI p.1 ∧ n ≤ p.1.xs.length ∧ p.2 ≤ p.1.xs.length}, n - s'.1.2 < n - i ∧ ((AX.exit 0, downA i0 n (downS s'.1.1 s'.1.2 n).2, [(0, pO (downS s'.1.1 s'.1.2 n).1)]) : AX × List AV × LH) = (.exit 0, downA i0 n (downS s i n).2, [(0, pO (downS s i n).1)]) ∧ ∃ l, Fit [0] tm [some (pO (swapS s i j))] (downA i0 n s'.1.2) [(0, pO s'.1.1)] l := by
    intro j hj hij e tm hv
    refine ⟨⟨(swapS s i j, j), hP.swap _ _, by rw [swap_len]; exact hn, by rw [swap_len]; exact Nat.le_of_lt (Nat.lt_of_lt_of_le hj hn)⟩, ?_, ?_, [], fits_own hv ⟨_, rfl, OW.refl _⟩⟩
    · show n - j < n - i; omega
    · simp only [e]
  have big : ∀ h : ¬ n ≤ 2 * i + 1, downS s i n = if ahead (at' s (downJ s i n)) (at' s i) = true then downS (swapS s i (downJ s i n)) (downJ s i n) n else (s, i) := fun h => by conv => lhs; rw [downS, dif_neg h]
  refine ⟨fun h1 => ?_, fun h1 => ⟨(fun h => by cases h), fun _ => ⟨fun h2 => ⟨fun h3 => ⟨fun h4 => ?_, fun h4 => ?_⟩, fun h3 => ⟨fun h4 => ?_, fun h4 => ?_⟩⟩, fun h2 => ⟨fun h4 => ?_, fun h4 => ?_⟩⟩⟩⟩
  · simp only [Int.ofNat_eq_natCast, decide_eq_true_eq] at h1
    exact ⟨⟨⟨wk_int hw1, trivial⟩, trivial⟩, .inr ⟨(fun h => by cases h), rfl, stop _ (by rw [downS, dif_pos (by omega)]) (hfin 0 0 i _ rfl _ _ _ _)⟩⟩
  all_goals simp only [Int.ofNat_eq_natCast, decide_eq_true_eq, decide_eq_false_iff_not] at h1 h2
  all_goals have hb := big (by omega)
  all_goals have h4' := h4
  all_goals simp only [Int.ofNat_eq_natCast, Int.toNat_natCast, Bool.not_eq_true', Bool.not_eq_false'] at h4'
  · have h3' : ahead (at' s (2 * i + 2)) (at' s (2 * i + 1)) = true := h3
    have hj : downJ s i n = 2 * i + 2 := by rw [downJ, if_pos ⟨by omega, h3'⟩]
    rw [hj, h4'] at hb
    refine ⟨?_, .inr ⟨(fun h => by cases h), rfl, stop _ (by rw [hb]; rfl) (hfin 0 0 i _ rfl _ _ _ _)⟩⟩
    simp only [Cnd.holds]
    and_intros
    all_goals first | exact trivial | exact wk_int hw1 | exact wk_int hw2 | exact VW.refl _ | exact OW.refl _ | exact hM | omega | (simp only [Int.ofNat_eq_natCast]; omega)
  · have h3' : ahead (at' s (2 * i + 2)) (at' s (2 * i + 1)) = true := h3
    have hj : downJ s i n = 2 * i + 2 := by rw [downJ, if_pos ⟨by omega, h3'⟩]
    rw [hj, h4', if_pos rfl] at hb
    refine ⟨?_, .inl ⟨rfl, goes (2 * i + 2) (by omega) (by omega) hb _ (hfin 0 0 (2 * i + 2) _ rfl _ _ _ _)⟩⟩
    simp only [Cnd.holds]
    and_intros
    all_goals first | exact trivial | exact wk_int hw1 | exact wk_int hw2 | exact VW.refl _ | exact OW.refl _ | exact hM | omega | (simp only [Int.ofNat_eq_natCast]; omega)
  · have h3' : ahead (at' s (2 * i + 2)) (at' s (2 * i + 1)) = false := h3
    have hj : downJ s i n = 2 * i + 1 := by rw [downJ, if_neg (by rw [h3']; simp)]
    rw [hj, h4'] at hb
    refine ⟨?_, .inr ⟨(fun h => by cases h), rfl, stop _ (by rw [hb]; rfl) (hfin 0 0 i _ rfl _ _ _ _)⟩⟩
    simp only [Cnd.holds]
    and_intros
    all_goals first | exact trivial | exact wk_int hw1 | exact wk_int hw2 | exact VW.refl _ | exact OW.refl _ | exact hM | omega | (simp only [Int.ofNat_eq_natCast]; omega)
  · have h3' : ahead (at' s (2 * i + 2)) (at' s (2 * i + 1)) = false := h3
    have hj : downJ s i n = 2 * i + 1 := by rw [downJ, if_neg (by rw [h3']; simp)]
    rw [hj, h4', if_pos rfl] at hb
    refine ⟨?_, .inl ⟨rfl, goes (2 * i + 1) (by omega) (by omega) hb _ (hfin 0 0 (2 * i + 1) _ rfl _ _ _ _)⟩⟩
    simp only [Cnd.holds]
    and_intros
    all_goals first | exact trivial | exact wk_int hw1 | exact wk_int hw2 | exact VW.refl _ | exact OW.refl _ | exact hM | omega | (simp only [Int.ofNat_eq_natCast]; omega)
  · have hj : downJ s i n = 2 * i + 1 := by rw [downJ, if_neg (by intro h; omega)]
    rw [hj, h4'] at hb
    refine ⟨?_, .inr ⟨(fun h => by cases h), rfl, stop _ (by rw [hb]; rfl) (hfin 0 0 i _ rfl _ _ _ _)⟩⟩
    simp only [Cnd.holds]
    and_intros
    all_goals first | exact trivial | exact wk_int hw1 | exact wk_int hw2 | exact VW.refl _ | exact OW.refl _ | exact hM | omega | (simp only [Int.ofNat_eq_natCast]; omega)
  · have hj : downJ s i n = 2 * i + 1 := by rw [downJ, if_neg (by intro h; omega)]
    rw [hj, h4', if_pos rfl] at hb
    refine ⟨?_, .inl ⟨rfl, goes (2 * i + 1) (by omega) (by omega) hb _ (hfin 0 0 (2 * i + 1) _ rfl _ _ _ _)⟩⟩
    simp only [Cnd.holds]
    and_intros
    all_goals first | exact trivial | exact wk_int hw1 | exact wk_int hw2 | exact VW.refl _ | exact OW.refl _ | exact hM | omega | (simp only [Int.ofNat_eq_natCast]; omega)
end Go.Proofs.Ytcpijmlaglcblaa.Rk
