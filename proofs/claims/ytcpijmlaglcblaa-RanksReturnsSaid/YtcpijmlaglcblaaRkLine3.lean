/- A Line's methods: contracts, and as calls. -/
import Derived.Test.YtcpijmlaglcblaaRkLine2
set_option linter.unusedVariables false
set_option linter.unusedSimpArgs false
set_option maxRecDepth 100000
namespace Go.Proofs.Ytcpijmlaglcblaa.Rk
open Go Go.RowKit Go.Proofs.Ytcpijmlaglcblaa.Eng
theorem shut_pile (s : Ps) {vs : List AV} (hc : AV.cls (fun i => Nat.blt i 1000) vs) : Goes vs (pL s) vs [(0, pO s)] := by
  have := Goes.shut (σ := Unit) (R := fun _ => True) (L := fun _ => pL s) (m := .pile s) (H0 := []) (vs := vs) () trivial rfl ⟨_, _, rfl, rfl⟩ (by
    have e : (fun i => Nat.blt i 1000 || (getO ([] : LH) i).isSome) = fun i => Nat.blt i 1000 := by funext i; simp [getO]
    rw [e]; exact hc) (fun x hx => by cases hx)
  rwa [List.append_nil] at this
theorem shut_pile0 {vs : List AV} (hc : AV.cls (fun i => Nat.blt i 1000) vs) : Goes vs pL0 vs [(0, pO0)] := by
  have := Goes.shut (σ := Unit) (R := fun _ => True) (L := fun _ => pL0) (m := .pile0) (H0 := []) (vs := vs) () trivial rfl ⟨_, _, rfl, rfl⟩ (by
    have e : (fun i => Nat.blt i 1000 || (getO ([] : LH) i).isSome) = fun i => Nat.blt i 1000 := by funext i; simp [getO]
    rw [e]; exact hc) (fun x hx => by cases hx)
  rwa [List.append_nil] at this
theorem clE_mE (K : Nat → Bool) : ∀ m : IMap Int, clE K (mE iv m)
  | [] => trivial
  | e :: m => ⟨trivial, trivial, clE_mE K m⟩
theorem closedL {s : Ps} {A : List AV} {v : AV} {o : AO} (ha : AV.cls (kH (pL s)) A) (hv : AV.cls (kR (pL s) [(0, o)]) [v]) (ho : o.cl (kR (pL s) [(0, o)])) : ClosedC A (pL s) [v] [(0, o)] := by
  refine ⟨rfl, rfl, ha, fun x hx => ?_, hv, fun x hx => by simp only [List.mem_singleton] at hx; subst hx; exact ho⟩
  simp only [pL, List.mem_cons, List.not_mem_nil, or_false] at hx
  rcases hx with rfl | rfl | rfl
  · exact ⟨rfl, rfl, trivial⟩
  · exact cls_rowV _ _
  · exact clE_mE _ _
theorem cHPushO_ok (s : Ps) (F : HP) : C1OK Try.prog F fHPush (cHPushO s) := by
  intro st W0 N h w args vargs v h' n n' lg lg' c p hp he hc r ha hf
  unfold cHPushO at hp
  split at hp
  · rename_i t i t' a b c
    cases hp
    obtain ⟨c0, he0, rfl⟩ := run_need he
    obtain ⟨⟨rfl, rfl, hR, hP⟩, hc0⟩ := (Cnd.and_iff _ _).1 hc
    obtain ⟨o, ho, he1⟩ := run_read he0
    split at he1
    · exact useC_ok oldDef (Tri.pre (shut_pile s (vs := [hI, itF ⟨a, b, c⟩]) ⟨rfl, ⟨trivial, trivial, trivial, trivial⟩, trivial⟩) (hpush_tri s ⟨a, b, c⟩ hP hR)) rfl (closedL (s := s) (A := [hI, itF ⟨a, b, c⟩]) (v := .tuple []) (o := pO (hpushS s ⟨a, b, c⟩)) ⟨rfl, ⟨trivial, trivial, trivial, trivial⟩, trivial⟩ ⟨trivial, trivial⟩ trivial) he1 hc0 r ha hf
    · exact (inv_fail he1).elim
  · cases hp
theorem cHPushO0_ok (F : HP) : C1OK Try.prog F fHPush cHPushO0 := by
  intro st W0 N h w args vargs v h' n n' lg lg' c p hp he hc r ha hf
  unfold cHPushO0 at hp
  split at hp
  · rename_i t i t' a b c
    cases hp
    obtain ⟨c0, he0, rfl⟩ := run_need he
    obtain ⟨⟨rfl, rfl⟩, hc0⟩ := (Cnd.and_iff _ _).1 hc
    obtain ⟨o, ho, he1⟩ := run_read he0
    split at he1
    · have hcl : ClosedC [hI, itF ⟨a, b, c⟩] pL0 [.tuple []] [(0, pO (pushS emptyS ⟨a, b, c⟩))] := by
        refine ⟨rfl, rfl, ⟨rfl, ⟨trivial, trivial, trivial, trivial⟩, trivial⟩, fun x hx => ?_, ⟨trivial, trivial⟩, fun x hx => by simp only [List.mem_singleton] at hx; subst hx; trivial⟩
        simp only [pL0, List.mem_cons, List.not_mem_nil, or_false] at hx
        rcases hx with rfl | rfl
        · exact ⟨trivial, rfl, trivial⟩
        · exact trivial
      exact useC_ok oldDef (Tri.pre (shut_pile0 (vs := [hI, itF ⟨a, b, c⟩]) ⟨rfl, ⟨trivial, trivial, trivial, trivial⟩, trivial⟩) (hpush0_tri ⟨a, b, c⟩)) rfl hcl he1 hc0 r ha hf
    · exact (inv_fail he1).elim
  · cases hp
theorem cHPopO_ok (s : Ps) (F : HP) : C1OK Try.prog F fHPop (cHPopO s) := by
  intro st W0 N h w args vargs v h' n n' lg lg' c p hp he hc r ha hf
  unfold cHPopO at hp
  split at hp
  · rename_i t i
    cases hp
    obtain ⟨c0, he0, rfl⟩ := run_need he
    obtain ⟨⟨rfl, hP, h0⟩, hc0⟩ := (Cnd.and_iff _ _).1 hc
    obtain ⟨o, ho, he1⟩ := run_read he0
    split at he1
    · exact useC_ok oldDef (Tri.pre (shut_pile s (vs := [hI]) ⟨rfl, trivial⟩) (hpop_tri s hP h0)) rfl (closedL (s := s) (A := [hI]) (v := itF (hpopV s)) (o := pO (hpopS s)) ⟨rfl, trivial⟩ ⟨⟨trivial, trivial, trivial, trivial⟩, trivial⟩ trivial) he1 hc0 r ha hf
    · exact (inv_fail he1).elim
  · cases hp
theorem one_ok {f : FuncId} {g : List AV → Option (AP AV)} (h : ∀ F, C1OK Try.prog F f g) : ∀ x ∈ [(f, g)], ∀ F, C1OK Try.prog F x.1 x.2 := fun x hx F => by simp only [List.mem_singleton] at hx; subst hx; exact h F
theorem new_tri : Tri Try.prog default fNew [] [] (.ptr 1000 0) [(1000, pO0)] := by
  refine tri_run (con := []) (hints := noHints) (lc := []) [1100, 1101] rfl noC noL fun F => ?_
  rw [oNew_eq]
  refine ⟨trivial, [.ptr 1000 0], renL 1000 pL0, [(1000, 1101), (1002, 1100)], rfl, fit_mk _ (by kernel_rfl) (by kernel_rfl) (VW.refl _) ⟨⟨_, rfl, OW.refl _⟩, ⟨_, rfl, OW.refl _⟩, trivial⟩, ?_⟩
  exact Goes.shutNew (σ := Unit) (R := fun _ => True) (L := fun _ => pL0) (m := .pile0) 1000 ⟨by decide, by decide⟩ () trivial rfl rfl ⟨_, _, rfl, rfl⟩ ⟨rfl, trivial⟩
theorem llen_tri (s : Ps) : Tri Try.prog default fLLen [.ptr 0 0] [(0, pO s)] (iv (Int.ofNat s.xs.length)) [(0, pO s)] := by
  refine open_pile (tri_run (con := []) (hints := noHints) (lc := []) [0, 1001, 1002] rfl noC noL fun F => ?_)
  rw [oLLen_eq]
  exact ⟨by simp only [Cnd.holds, and_self], fits_pile s [(1001, 1001), (1002, 1002)] (by kernel_rfl) (by kernel_rfl) (VW.refl _) ⟨trivial, trivial⟩ (objs_pile s rfl rfl rfl rfl rfl rfl)⟩
theorem llen0_tri : Tri Try.prog default fLLen [.ptr 0 0] [(0, pO0)] (iv (Int.ofNat 0)) [(0, pO0)] := by
  refine open_pile0 (tri_run (con := []) (hints := noHints) (lc := []) [0, 1002] rfl noC noL fun F => ?_)
  rw [oLLen0_eq]
  exact ⟨by simp only [Cnd.holds, and_self], fits_pile0 [(1002, 1002)] (by kernel_rfl) (by kernel_rfl) (VW.refl _) ⟨trivial, trivial⟩ ⟨⟨_, rfl, OW.refl _⟩, ⟨_, rfl, OW.refl _⟩, trivial⟩⟩
def isIn (k : Int) (s : Ps) : Bool := (mlook k s.m).isSome
def putS (s : Ps) (x : It) : Ps := match isIn x.b s with
  | true => s
  | false => hpushS s x
theorem look_eta (k : Int) (m : IMap Int) : foundX (findS (.v (.int .i64 k)) (mE iv m) 0) (.int .i64 (Int.ofNat 0)) = iv (lookD k m) := by
  rw [found_mE, lookD]
  cases mlook k m <;> rfl
theorem lput_tri (s : Ps) (x : It) (hP : PI s) (hR : Room s) : Tri Try.prog default fLPut [.ptr 0 0, itA x] [(0, pO s)] (.v (.bool (!isIn x.b s))) [(0, pO (putS s x))] := by
  refine open_pile (tri_run (con := [(fHPush, cHPushO s)]) (hints := hPut s x) (lc := []) [0, 1001, 1002] rfl (one_ok (cHPushO_ok s)) noL fun F => ?_)
  rw [oLPut_eq]
  have e1 := look_eta x.b s.m
  have e2 := found_isSome (ev := iv) x.b s.m
  have e3 : Wk (AV.tuple [AV.v (Value.int IntKind.i64 (foundX (findS (.v (.int .i64 x.b)) (mE iv s.m) 0) (.int .i64 (Int.ofNat 0))).intOf), AV.v (Value.bool (findS (AV.v (Value.int IntKind.i64 x.b)) (mE iv s.m) 0).isSome)]) (AV.tuple [AV.v (Value.int IntKind.i64 (lookD x.b s.m)), AV.v (Value.bool (mlook x.b s.m).isSome)]) := by
    refine Wk.of_eq ?_
    rw [e1, e2]; rfl
  refine ⟨fun h1 => ⟨?_, ?_⟩, fun h1 => ⟨?_, ?_⟩⟩
  · simp only [Cnd.holds]
    and_intros
    all_goals first | exact trivial | exact findKey_mE intT _ _ _ | exact e3 | (rw [e1]; rfl) | rfl
  · have hi : isIn x.b s = true := h1
    have hp : putS s x = s := by rw [putS, hi]
    rw [hi, hp]
    exact fits_pile s [(1001, 1001), (1002, 1002)] (by kernel_rfl) (by kernel_rfl) (VW.refl _) ⟨trivial, trivial⟩ (objs_pile s rfl rfl rfl rfl rfl rfl)
  · simp only [Cnd.holds]
    and_intros
    all_goals first | exact trivial | exact findKey_mE intT _ _ _ | exact e3 | exact hR | exact hP | exact VW.refl _ | exact OW.refl _ | exact OW.of_eq (by rw [rens_rowV]) | exact OW.of_eq (by rw [renE_mE]) | (rw [e1]; rfl) | rfl
  · have hi : isIn x.b s = false := h1
    have hp : putS s x = hpushS s x := by rw [putS, hi]
    rw [hi, hp]
    exact fits_one (VW.refl _) ⟨_, rfl, OW.refl _⟩
theorem lput0_tri (x : It) : Tri Try.prog default fLPut [.ptr 0 0, itA x] [(0, pO0)] (.v (.bool true)) [(0, pO (pushS emptyS x))] := by
  refine open_pile0 (tri_run (con := [(fHPush, cHPushO0)]) (hints := hPut0) (lc := []) [0, 1001, 1002] rfl (one_ok cHPushO0_ok) noL fun F => ?_)
  rw [oLPut0_eq]
  have e3 : Wk (AV.tuple [AV.v (Value.int IntKind.i64 (Int.ofNat 0)), AV.v (Value.bool false)]) (AV.tuple [AV.v (Value.int IntKind.i64 (Int.ofNat 0)), AV.lit false]) := by
    intro N y hy
    simp only [VR, VRs] at hy ⊢
    exact hy
  refine ⟨?_, fits_one (VW.refl _) ⟨_, rfl, OW.refl _⟩⟩
  simp only [Cnd.holds]
  and_intros
  all_goals first | exact trivial | exact e3 | exact VW.refl _ | exact OW.refl _ | rfl
def lpopS (s : Ps) : Ps := if s.xs.length = 0 then s else hpopS s
def lpopV (s : Ps) : It := if s.xs.length = 0 then It.zero else hpopV s
theorem lpop_tri (s : Ps) (hP : PI s) : Tri Try.prog default fLPop [.ptr 0 0] [(0, pO s)] (.tuple [itA (lpopV s), .v (.bool (!decide (s.xs.length = 0)))]) [(0, pO (lpopS s))] := by
  refine open_pile (tri_run (con := [(fHPop, cHPopO s)]) (hints := noHints) (lc := []) [0, 1001, 1002] rfl (one_ok (cHPopO_ok s)) noL fun F => ?_)
  rw [oLPop_eq]
  have hz : ((s.xs.length : Int) == Int.ofNat 0) = decide (s.xs.length = 0) := by
    by_cases h : s.xs.length = 0
    · rw [h]; rfl
    · simp only [h, decide_false]; apply beq_eq_false_iff_ne.2; simp only [Int.ofNat_eq_natCast]; omega
  rw [hz]
  refine ⟨fun h1 => ⟨?_, ?_⟩, fun h1 => ⟨?_, ?_⟩⟩
  · simp only [Cnd.holds]
    and_intros
    all_goals first | exact trivial | rfl
  · simp only [decide_eq_true_eq] at h1
    have e1 : lpopV s = It.zero := if_pos h1
    have e2 : lpopS s = s := if_pos h1
    have e3 : (!decide (s.xs.length = 0)) = false := by rw [decide_eq_true h1]; rfl
    rw [e1, e2, e3]
    exact fits_pile s [(1001, 1001), (1002, 1002)] (by kernel_rfl) (by kernel_rfl) (VW.refl _) ⟨⟨⟨trivial, trivial, trivial, trivial⟩, trivial, trivial⟩, trivial⟩ (objs_pile s rfl rfl rfl rfl rfl rfl)
  · simp only [decide_eq_false_iff_not] at h1
    simp only [Cnd.holds]
    and_intros
    all_goals first | exact trivial | exact hP | exact VW.refl _ | exact OW.refl _ | exact OW.of_eq (by rw [rens_rowV]) | exact OW.of_eq (by rw [renE_mE]) | omega | rfl
  · simp only [decide_eq_false_iff_not] at h1
    have e1 : lpopV s = hpopV s := if_neg h1
    have e2 : lpopS s = hpopS s := if_neg h1
    have e3 : decide (s.xs.length = 0) = false := decide_eq_false h1
    rw [e1, e2, e3]
    exact fits_one (VW.refl _) ⟨_, rfl, OW.refl _⟩
theorem lpop0_tri : Tri Try.prog default fLPop [.ptr 0 0] [(0, pO0)] (.tuple [itA It.zero, .v (.bool false)]) [(0, pO0)] := by
  refine open_pile0 (tri_run (con := []) (hints := noHints) (lc := []) [0, 1002] rfl noC noL fun F => ?_)
  rw [oLPop0_eq]
  refine ⟨fun _ => ⟨?_, fits_pile0 [(1002, 1002)] (by kernel_rfl) (by kernel_rfl) (VW.refl _) ⟨⟨⟨trivial, trivial, trivial, trivial⟩, trivial, trivial⟩, trivial⟩ ⟨⟨_, rfl, OW.refl _⟩, ⟨_, rfl, OW.refl _⟩, trivial⟩⟩, fun h => by cases h⟩
  simp only [Cnd.holds]
  and_intros
  all_goals first | exact trivial | rfl
end Go.Proofs.Ytcpijmlaglcblaa.Rk
