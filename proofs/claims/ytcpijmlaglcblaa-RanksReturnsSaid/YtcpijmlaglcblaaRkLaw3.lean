/- RanksDrains: the search, the draining, the whole. -/
import Derived.Test.YtcpijmlaglcblaaRkLaw2
set_option linter.unusedVariables false
set_option linter.unusedSimpArgs false
set_option maxRecDepth 100000
namespace Go.Proofs.Ytcpijmlaglcblaa.Rk
open Go Go.RowKit Go.Proofs.Ytcpijmlaglcblaa.Eng
theorem wk_unlit (b : Bool) : Wk (.lit b) (.v (.bool b)) := fun N y hy => VR_v.2 (VR_lit.1 hy)
theorem fnd_succ (items : List It) (it : It) (k : Nat) (hk : k < items.length) : fnd (items.take (k + 1)) it = (fnd (items.take k) it || sameIt (items.getD k It.zero) it) := by
  unfold fnd
  rw [List.take_succ_eq_append_getElem hk, List.any_append]
  simp [List.getD, List.getElem?_eq_getElem hk]
theorem find_loop (W : World) (oa : Option Addr) (items : List It) (c p i : Nat) (it last : It) (L : List It) (hI : In W oa items) : LTri Try.prog W (loopN fDrains 22) (tms 0 84 (aFind (slV oa items.length c) items.length 0 p i false)) [(0, lO L), (1, boxO last), (2, boxO it)] (.exit 4) (tms 0 84 (zFind (slV oa items.length c) p i (fnd items it))) [(0, lO L), (1, boxO last), (2, boxO it)] := by
  refine ltri_tms (σ := {k : Nat // k ≤ items.length}) (g := fDrains) (con := fun _ => conL conR) (claim := fun k => hFind k.1 (items.getD k.1 It.zero)) (lcon := fun _ => lconL []) 84 (fun k => aFind (slV oa items.length c) items.length k.1 p i (fnd (items.take k.1) it)) (fun k => [(0, lO L), (1, boxO last), (2, boxO it)]) (.exit 4) _ _ (fun k => items.length - k.1) [0, 1, 2] [0, 3, 4, 7, 8, 9, 11, 56, 57, 58] 1000 mixed (by intro h; cases h)
    (fun _ => rfl) rfl (fun p F _ => conL_ok rfl fun x hx => conR_ok x hx F) (fun p F _ => lconL_ok rfl fun x hx => by cases hx) ?_ ⟨0, Nat.zero_le _⟩
  rintro ⟨k, hk⟩ F _
  have hbig := hI.big
  cases oa with
  | none =>
    have h0 : items = [] := Classical.byContradiction fun h => by obtain ⟨a, ha⟩ := hI.addr h; cases ha
    subst h0
    have hk0 : k = 0 := by simpa using hk
    subst hk0
    show (wLoop conR (hFind 0 It.zero) [] W fDrains (loopN fDrains 22) (tms 0 84 (aFind (slV none 0 c) 0 0 p i false)) [(0, lO L), (1, boxO last), (2, boxO it)] [0, 1, 2] [0, 3, 4, 7, 8, 9, 11, 56, 57, 58] F).all _
    rw [oLoopFind0_eq]
    exact ⟨(fun h => by cases h), fun _ => ⟨trivial, rfl, .inr ⟨rfl, [], rfl, rfl, ⟨Wk.refl _, Wk.refl _, Wk.refl _, Wk.refl _, Wk.refl _, Wk.refl _, Wk.refl _, trivial⟩, ⟨⟨_, rfl, OW.refl _⟩, ⟨_, rfl, OW.refl _⟩, ⟨_, rfl, OW.refl _⟩, trivial⟩⟩⟩⟩
  | some a =>
    show (wLoop conR (hFind k (items.getD k It.zero)) [] W fDrains (loopN fDrains 22) (tms 0 84 (aFind (slV (some a) items.length c) items.length k p i (fnd (items.take k) it))) [(0, lO L), (1, boxO last), (2, boxO it)] [0, 1, 2] [0, 3, 4, 7, 8, 9, 11, 56, 57, 58] F).all _
    rw [oLoopFind_eq, nat_lt]
    refine ⟨fun h1 => ?_, fun h1 => ?_⟩
    · simp only [decide_eq_true_eq] at h1
      obtain ⟨e0, e1, e2⟩ := hI.cell a rfl k h1
      have e1' : W.cell? (Addr.mk (a.add (k * 3)).block ((a.add (k * 3)).off + 1) none) = some (.int .i64 (items.getD k It.zero).b) := e1
      have e2' : W.cell? (Addr.mk (a.add (k * 3)).block ((a.add (k * 3)).off + 2) none) = some (.int .i64 (items.getD k It.zero).c) := e2
      have hs := fnd_succ items it k h1
      have hw2 := wrap_succ k (by omega)
      have hn : ([0, 1, 2].all fun j => (W.cell? ((a.add (k * 3)).add j)).isSome) = true := by simp [List.all, e0, e1, e2]
      have heq := item_eq (items.getD k It.zero) it
      refine ⟨fun h2 => ⟨?_, rfl, .inl ⟨rfl, ⟨k + 1, h1⟩, by show items.length - (k + 1) < items.length - k; omega, [], rfl, rfl, ?_, ⟨⟨_, rfl, OW.refl _⟩, ⟨_, rfl, OW.refl _⟩, ⟨_, rfl, OW.refl _⟩, trivial⟩⟩⟩, fun h2 => ⟨?_, rfl, .inl ⟨rfl, ⟨k + 1, h1⟩, by show items.length - (k + 1) < items.length - k; omega, [], rfl, rfl, ?_, ⟨⟨_, rfl, OW.refl _⟩, ⟨_, rfl, OW.refl _⟩, ⟨_, rfl, OW.refl _⟩, trivial⟩⟩⟩⟩
      · simp only [Cnd.holds, hn, e0, e1', e2', Option.getD_some, Nat.blt_eq]
        and_intros
        all_goals first | exact trivial | exact h1 | exact VW.refl _ | exact OW.refl _ | exact Wk.refl _ | exact wk_int hw2 | rfl
      · have : fnd (items.take (k + 1)) it = true := by rw [hs, h2]; rfl
        simp only [this]
        exact ⟨Wk.refl _, Wk.refl _, Wk.refl _, Wk.refl _, Wk.refl _, Wk.refl _, wk_unlit true, Wk.refl _, Wk.refl _, Wk.refl _, trivial⟩
      · simp only [Cnd.holds, hn, e0, e1', e2', Option.getD_some, Nat.blt_eq]
        and_intros
        all_goals first | exact trivial | exact h1 | exact heq | exact VW.refl _ | exact OW.refl _ | exact Wk.refl _ | exact wk_int hw2 | rfl
      · have : fnd (items.take (k + 1)) it = sameIt (items.getD k It.zero) it := by rw [hs, h2]; rfl
        simp only [this]
        exact ⟨Wk.refl _, Wk.refl _, Wk.refl _, Wk.refl _, Wk.refl _, Wk.refl _, Wk.refl _, Wk.refl _, Wk.refl _, Wk.refl _, trivial⟩
    · simp only [decide_eq_false_iff_not] at h1
      have hke : k = items.length := by omega
      subst hke
      have hall : items.take items.length = items := List.take_length
      refine ⟨trivial, rfl, .inr ⟨rfl, [], rfl, rfl, ?_, ⟨⟨_, rfl, OW.refl _⟩, ⟨_, rfl, OW.refl _⟩, ⟨_, rfl, OW.refl _⟩, trivial⟩⟩⟩
      rw [hall]
      exact ⟨Wk.refl _, Wk.refl _, Wk.refl _, Wk.refl _, Wk.refl _, Wk.refl _, Wk.refl _, trivial⟩
theorem cls_told {K : Nat → Bool} {told : List (Nat × AV)} (h : ∀ x ∈ told, AV.cl K x.2) : AV.cls K (tms 0 84 told) := cls_tms h 84 0
theorem findLc_ok (W : World) (oa : Option Addr) (items : List It) (c p i : Nat) (L : List It) (last it : It) (hI : In W oa items) (F : HP) (hF : OldOK W F) : L1OK Try.prog F (loopN fDrains 22) (findLc (slV oa items.length c) items items.length p i L last it) := by
  intro st W0 N h w tmps tmps' ax a h' n n' lg lg' c' Q he hc r ha hf hK
  unfold findLc at he
  split at he
  · split at he
    · split at he
      · have hcl : ClosedC (tms 0 84 (aFind (slV oa items.length c) items.length 0 p i false)) [(0, lO L), (1, boxO last), (2, boxO it)] (tms 0 84 (zFind (slV oa items.length c) p i (fnd items it))) [(0, lO L), (1, boxO last), (2, boxO it)] := by
          refine ⟨rfl, rfl, cls_told ?_, ?_, cls_told ?_, ?_⟩
          · intro x hx
            simp only [aFind, List.mem_cons, List.not_mem_nil, or_false] at hx
            rcases hx with rfl | rfl | rfl | rfl | rfl | rfl | rfl | rfl | rfl | rfl <;> first | trivial | rfl
          · intro x hx
            simp only [List.mem_cons, List.not_mem_nil, or_false] at hx
            rcases hx with rfl | rfl | rfl <;> first | trivial | exact cls_vmap _ _
          · intro x hx
            simp only [zFind, List.mem_cons, List.not_mem_nil, or_false] at hx
            rcases hx with rfl | rfl | rfl | rfl | rfl | rfl | rfl <;> first | trivial | rfl
          · intro x hx
            simp only [RT.pick, List.mem_cons, List.not_mem_nil, or_false] at hx
            rcases hx with rfl | rfl | rfl <;> first | trivial | exact cls_vmap _ _
        exact useG_loop hF (find_loop W oa items c p i it last L hI) hcl he hc r ha hf hK
      · exact (inv_fail he).elim
    · exact (inv_fail he).elim
  · exact (inv_fail he).elim
/-- What the draining keeps. -/
structure OI (items : List It) (p : Nat) (lastF : It) (s : Nat × List It × It) : Prop where
  len : s.1 + s.2.1.length = p
  sorted : Sortd s.2.1
  behind : 0 < s.1 → ∀ x ∈ s.2.1, ahead s.2.2 x = true
  sub : ∀ x ∈ s.2.1, x ∈ items
  last : s.2.1.getLastD s.2.2 = lastF
theorem sameIt_self (x : It) : sameIt x x = true := by simp [sameIt, valsQ, valQ, enc]
theorem fnd_mem {items : List It} {x : It} (h : x ∈ items) : fnd items x = true := List.any_eq_true.2 ⟨x, h, sameIt_self x⟩
noncomputable section
def claimO : Nat × List It × It → ClaimT
  | (_, [], _) => hEnd
  | (i, x :: _, _) => hOut i x
def lconO (V : AV) (items : List It) (n p : Nat) : Nat × List It × It → List (FuncId × Nat × Code × (List AV → AP (AX × List AV)))
  | (_, [], _) => []
  | (i, x :: L, last) => [(fDrains, 22, loopN fDrains 22, findLc V items n p i L last x)]
end
theorem out_loop (W : World) (oa : Option Addr) (items : List It) (c : Nat) (LL : List It) (hI : In W oa items) (hlen : LL.length ≤ items.length) (hs : Sortd LL) (hsub : ∀ x ∈ LL, x ∈ items) : LTri Try.prog W (loopN fDrains 15) (tms 0 84 (aOut (slV oa items.length c) LL.length 0)) [(0, lO LL), (1, boxO It.zero)] (.exit 2) (tms 0 84 (aOut (slV oa items.length c) LL.length LL.length)) [(0, lO []), (1, boxO (LL.getLastD It.zero))] := by
  refine ltri_tms (σ := {s : Nat × List It × It // OI items LL.length (LL.getLastD It.zero) s}) (g := fDrains) (con := fun _ => conL conR) (claim := fun s => claimO s.1) (lcon := fun s => lconL (lconO (slV oa items.length c) items items.length LL.length s.1)) 84 (fun s => aOut (slV oa items.length c) LL.length s.1.1) (fun s => [(0, lO s.1.2.1), (1, boxO s.1.2.2)]) (.exit 2) _ _ (fun s => s.1.2.1.length) [0, 1] [0, 3, 4, 7, 8] 1000 mixed (by intro h; cases h)
    (fun _ => rfl) rfl (fun p F _ => conL_ok rfl fun x hx => conR_ok x hx F) (fun s F hF => lconL_ok rfl fun x hx => ?_) ?_ ⟨(0, LL, It.zero), by simp, hs, (fun h => by cases h), hsub, rfl⟩
  · obtain ⟨⟨i, L, last⟩, hs'⟩ := s
    cases L with
    | nil => cases hx
    | cons y L =>
      have hx : x ∈ [(fDrains, 22, loopN fDrains 22, findLc (slV oa items.length c) items items.length LL.length i L last y)] := hx
      simp only [List.mem_singleton] at hx
      subst hx
      exact findLc_ok W oa items c LL.length i L last y hI F hF
  · rintro ⟨⟨i, L, last⟩, h1, h2, h3, h4, h5⟩ F hF
    have hbig := hI.big
    cases L with
    | nil =>
      have hi : i = LL.length := by simpa using h1
      subst hi
      show (wLoop conR hEnd [] W fDrains (loopN fDrains 15) (tms 0 84 (aOut (slV oa items.length c) LL.length LL.length)) [(0, lO []), (1, boxO last)] [0, 1] [0, 3, 4, 7, 8] F).all _
      rw [oLoopEnd_eq, nat_lt]
      have e : decide (LL.length < LL.length) = false := by simp
      have h5' : last = LL.getLastD It.zero := h5
      rw [e]
      exact ⟨⟨⟨wk_lit false, trivial⟩, trivial⟩, rfl, .inr ⟨rfl, [], rfl, rfl, ⟨Wk.refl _, Wk.refl _, Wk.refl _, Wk.refl _, Wk.refl _, trivial⟩, ⟨⟨_, rfl, OW.refl _⟩, ⟨_, rfl, OW.of_eq (by rw [← h5']; rfl)⟩, trivial⟩⟩⟩
    | cons x L =>
      show (wLoop conR (hOut i x) [(fDrains, 22, loopN fDrains 22, findLc (slV oa items.length c) items items.length LL.length i L last x)] W fDrains (loopN fDrains 15) (tms 0 84 (aOut (slV oa items.length c) LL.length i)) [(0, lO (x :: L)), (1, boxO last)] [0, 1] [0, 3, 4, 7, 8] F).all _
      rw [oLoopOut_eq]
      have h1' : i + (L.length + 1) = LL.length := h1
      have hip : decide (Int.ofNat i < Int.ofNat LL.length) = true := by rw [nat_lt]; simp; omega
      have hi0 : decide (Int.ofNat i > Int.ofNat 0) = decide (0 < i) := by show decide (Int.ofNat 0 < Int.ofNat i) = _; rw [nat_lt]
      have hf := fnd_mem (h4 x List.mem_cons_self)
      have hw := wrap_succ i (by omega)
      obtain ⟨s1, s2⟩ := List.pairwise_cons.1 h2
      have hwt : ∀ (y : AV), Wk (.tuple [y, .v (.bool true)]) (.tuple [y, .lit true]) := by
        intro y N z hz
        simp only [VR, VRs] at hz ⊢
        exact hz
      have next : OI items LL.length (LL.getLastD It.zero) (i + 1, L, x) := ⟨by show i + 1 + L.length = _; omega, s2, fun _ => s1, fun y hy => h4 y (List.mem_cons_of_mem _ hy), by
        have h5' : (x :: L).getLastD last = LL.getLastD It.zero := h5
        show L.getLastD x = _
        rw [← h5', List.getLastD_cons]⟩
      have fin : ∀ (n : Nat), (84 : Nat) = 84 ∧ (((.normal : AX) = .normal ∧ ∃ s' : {s : Nat × List It × It // OI items LL.length (LL.getLastD It.zero) s}, s'.1.2.1.length < (x :: L).length ∧ ∃ l, FitT [0, 1] [0, 3, 4, 7, 8] [slV oa items.length c, AV.ptr 0 0, iv (Int.ofNat LL.length), AV.ptr 1 0, iv (Int.ofNat (i + 1))] [some (lO L), some (boxO x)] (aOut (slV oa items.length c) LL.length s'.1.1) [(0, lO s'.1.2.1), (1, boxO s'.1.2.2)] l) ∨
          ((.normal : AX) = .exit 2 ∧ ∃ l, FitT [0, 1] [0, 3, 4, 7, 8] [slV oa items.length c, AV.ptr 0 0, iv (Int.ofNat LL.length), AV.ptr 1 0, iv (Int.ofNat (i + 1))] [some (lO L), some (boxO x)] (aOut (slV oa items.length c) LL.length LL.length) [(0, lO []), (1, boxO (LL.getLastD It.zero))] l)) := by
        intro n
        exact ⟨rfl, .inl ⟨rfl, ⟨(i + 1, L, x), next⟩, by simp, [], rfl, rfl, ⟨Wk.refl _, Wk.refl _, Wk.refl _, Wk.refl _, Wk.refl _, trivial⟩, ⟨⟨_, rfl, OW.refl _⟩, ⟨_, rfl, OW.refl _⟩, trivial⟩⟩⟩
      rw [hi0]
      refine ⟨fun h6 => ⟨fun h7 => ?_, fun h7 => ⟨fun h8 => ?_, fun h8 => ⟨?_, fin 0⟩⟩⟩, fun h6 => ⟨fun h8 => ?_, fun h8 => ⟨?_, fin 0⟩⟩⟩
      · simp only [decide_eq_true_eq] at h6
        have := h3 h6 x List.mem_cons_self
        have h7' : (!ahead last x) = true := h7
        rw [this] at h7'; cases h7'
      · rw [hf] at h8; cases h8
      · simp only [Cnd.holds, hip]
        and_intros
        all_goals first | exact trivial | exact wk_lit _ | exact hwt _ | exact VW.refl _ | exact OW.refl _ | exact Wk.refl _ | exact wk_int hw | rfl | (repeat (first | exact VW.nil | refine VW.cons (Wk.refl _) ?_ | refine VW.cons (wk_unlit _) ?_ | refine VW.cons (Wk.any _) ?_))
      · rw [hf] at h8; cases h8
      · simp only [Cnd.holds, hip]
        and_intros
        all_goals first | exact trivial | exact wk_lit _ | exact hwt _ | exact VW.refl _ | exact OW.refl _ | exact Wk.refl _ | exact wk_int hw | rfl | (repeat (first | exact VW.nil | refine VW.cons (Wk.refl _) ?_ | refine VW.cons (wk_unlit _) ?_ | refine VW.cons (Wk.any _) ?_))
theorem putLc_ok (W : World) (oa : Option Addr) (items : List It) (c : Nat) (hI : In W oa items) (F : HP) (hF : OldOK W F) : L1OK Try.prog F (loopN fDrains 8) (putLc (slV oa items.length c) items items.length) := by
  intro st W0 N h w tmps tmps' ax a h' n n' lg lg' c' Q he hc r ha hf hK
  unfold putLc at he
  split at he
  · have hcl : ClosedC (tms 0 84 (aPut (slV oa items.length c) items.length 0 0)) [(0, lO [])] (tms 0 84 (zPut (slV oa items.length c) (putAll items).length)) [(0, lO (putAll items))] := by
      refine ⟨rfl, rfl, cls_told ?_, ?_, cls_told ?_, ?_⟩
      · intro x hx
        simp only [aPut, List.mem_cons, List.not_mem_nil, or_false] at hx
        rcases hx with rfl | rfl | rfl | rfl | rfl | rfl <;> first | trivial | rfl
      · intro x hx
        simp only [List.mem_cons, List.not_mem_nil, or_false] at hx
        subst hx; trivial
      · intro x hx
        simp only [zPut, List.mem_cons, List.not_mem_nil, or_false] at hx
        rcases hx with rfl | rfl | rfl <;> first | trivial | rfl
      · intro x hx
        simp only [RT.pick, List.mem_cons, List.not_mem_nil, or_false] at hx
        subst hx; trivial
    exact useG_loop hF (put_loop W oa items c hI) hcl he hc r ha hf hK
  · exact (inv_fail he).elim
theorem outLc_ok (W : World) (oa : Option Addr) (items : List It) (c : Nat) (LL : List It) (hI : In W oa items) (hlen : LL.length ≤ items.length) (hs : Sortd LL) (hsub : ∀ x ∈ LL, x ∈ items) (F : HP) (hF : OldOK W F) : L1OK Try.prog F (loopN fDrains 15) (outLc (slV oa items.length c) LL) := by
  intro st W0 N h w tmps tmps' ax a h' n n' lg lg' c' Q he hc r ha hf hK
  unfold outLc at he
  split at he
  · split at he
    · have hcl : ClosedC (tms 0 84 (aOut (slV oa items.length c) LL.length 0)) [(0, lO LL), (1, boxO It.zero)] (tms 0 84 (aOut (slV oa items.length c) LL.length LL.length)) [(0, lO []), (1, boxO (LL.getLastD It.zero))] := by
        refine ⟨rfl, rfl, cls_told ?_, ?_, cls_told ?_, ?_⟩
        · intro x hx
          simp only [aOut, List.mem_cons, List.not_mem_nil, or_false] at hx
          rcases hx with rfl | rfl | rfl | rfl | rfl <;> first | trivial | rfl
        · intro x hx
          simp only [List.mem_cons, List.not_mem_nil, or_false] at hx
          rcases hx with rfl | rfl <;> first | trivial | exact cls_vmap _ _
        · intro x hx
          simp only [aOut, List.mem_cons, List.not_mem_nil, or_false] at hx
          rcases hx with rfl | rfl | rfl | rfl | rfl <;> first | trivial | rfl
        · intro x hx
          simp only [RT.pick, List.mem_cons, List.not_mem_nil, or_false] at hx
          rcases hx with rfl | rfl <;> first | trivial | exact cls_vmap _ _
      exact useG_loop hF (out_loop W oa items c LL hI hlen hs hsub) hcl he hc r ha hf hK
    · exact (inv_fail he).elim
  · exact (inv_fail he).elim
theorem drains_tri (W : World) (oa : Option Addr) (items : List It) (c : Nat) (hI : In W oa items) : Tri Try.prog W fDrains [slV oa items.length c] [] (.v (.bool true)) [] := by
  have hle : (putAll items).length ≤ items.length := by rw [← upTo_all]; exact upTo_len items _ (Nat.le_refl _)
  have hsort : Sortd (putAll items) := by rw [← upTo_all]; exact upTo_sorted items _ (Nat.le_refl _)
  have hsub : ∀ x ∈ putAll items, x ∈ items := by rw [← upTo_all]; exact upTo_sub items _ (Nat.le_refl _)
  refine tri_of_run (con := conL conR) (claim := hD) (lcon := lconL (lcD (slV oa items.length c) items items.length)) [] 1000 mixed rfl (fun F _ => conL_ok rfl fun x hx => conR_ok x hx F) (fun F hF => lconL_ok rfl fun x hx => ?_) fun F _ => ?_
  · simp only [lcD, List.mem_cons, List.not_mem_nil, or_false] at hx
    rcases hx with rfl | rfl
    · exact putLc_ok W oa items c hI F hF
    · exact outLc_ok W oa items c (putAll items) hI hle hsort hsub F hF
  · show (wRun conR hD (lcD (slV oa items.length c) items items.length) W fDrains [slV oa items.length c] [] [] F).all _
    rw [oDrains_eq]
    have hwt : ∀ (y : AV), Wk (.tuple [y, .v (.bool false)]) (.tuple [y, .lit false]) := by
      intro y N z hz
      simp only [VR, VRs] at hz ⊢
      exact hz
    refine ⟨?_, (fit_mk (vs := [.v (.bool true)]) (vs' := [.v (.bool true)]) [] rfl rfl (VW.refl _) (show ObjsOK [] [] [] [] from trivial)).fits rfl⟩
    simp only [Cnd.holds]
    and_intros
    all_goals first | exact trivial | exact wk_lit _ | exact hwt _ | exact VW.refl _ | exact OW.refl _ | exact Wk.refl _ | rfl | (repeat (first | exact VW.nil | refine VW.cons (Wk.refl _) ?_ | refine VW.cons (wk_unlit _) ?_ | refine VW.cons (Wk.any _) ?_))
end Go.Proofs.Ytcpijmlaglcblaa.Rk
