/- RanksDrains: every call answers true. -/
import Derived.Test.YtcpijmlaglcblaaRkLaw
import Derived.Test.YtcpijmlaglcblaaEngClosed
import Derived.Handy
import Derived.Laws.StructEq
set_option linter.unusedVariables false
set_option linter.unusedSimpArgs false
set_option maxRecDepth 100000
namespace Go.Proofs.Ytcpijmlaglcblaa.Rk
open Go Go.RowKit Go.Proofs.Ytcpijmlaglcblaa.Eng
theorem item_eq (x y : It) : EqSem Try.prog 27 (Array.mk (enc x)) (Array.mk (enc y)) (valsQ (enc x) (enc y)) := by
  intro w
  have u3 := Try.underlying3
  have a3 := Try.isAgg3
  have z3 := Try.sizeOf3
  have hS : Try.prog.underlying 27 = some (.struct (Try.prog.fieldsOf 27)) := by kernel_rfl
  show (Op.equalIn 10000 27 (.agg #[.int .i64 x.a, .int .i64 x.b, .int .i64 x.c]) (.agg #[.int .i64 y.a, .int .i64 y.b, .int .i64 y.c])).run Try.prog w = _
  rw [show (10000 : Nat) = 9999 + 1 from rfl, run_equalIn_agg w 9999 _ _ _ hS (by kernel_rfl)]
  simp only [Program.fieldsOf, Try.underlying27]
  go_simp
  by_cases h1 : x.a = y.a <;> by_cases h2 : x.b = y.b <;> by_cases h3 : x.c = y.c <;> simp [valsQ, valQ, enc, h1, h2, h3]
theorem before_tri (x y : It) : Tri Try.prog default fBefore [itA x, itA y] [] (.v (.bool (ahead x y))) [] := by
  refine tri_run (con := []) (hints := noHints) (lc := []) [] rfl noC noL fun F => ?_
  rw [oBefore_eq]
  have fin : ∀ b, b = ahead x y → Fits [] [.v (.bool b)] [] [.v (.bool (ahead x y))] [] := fun b hb => (fit_mk [] rfl rfl (by subst hb; exact VW.refl _) (show ObjsOK [] [] [] [] from trivial)).fits rfl
  refine ⟨fun h1 => ⟨by simp only [Cnd.holds, and_self], fin _ ?_⟩, fun h1 => ⟨by simp only [Cnd.holds, and_self], fin _ ?_⟩⟩
  · simp only [bne_iff_ne, ne_eq] at h1
    have : (x.a == y.a) = false := beq_eq_false_iff_ne.2 h1
    simp only [ahead, ← gt_iff_lt, this, Bool.false_and, Bool.or_false]
  · have h2 : x.a = y.a := by simpa using h1
    simp [ahead, h2]
theorem speaks_calls (w : World) : Calls Try.prog fSpeaks (List.toArray []) w fun e w' => e = .returned (.bool true) ∧ Below w.heap.size w w' :=
  closed_call (args := []) mixed (fuel := 100000) (fun w => by kernel_rfl) w
theorem tri_closed {W : World} {f : FuncId} {args : List Value} {x : Value} (h : ∀ w, Calls Try.prog f args.toArray w fun e w' => e = .returned x ∧ Below w.heap.size w w') : Tri Try.prog W f (vmap args) [] (.v x) [] := by
  intro W0 F N w vargs hF hNB r ha
  have : vargs = args.toArray := by
    have := ha.of_vmap
    rw [← this]
  subst this
  refine (h w).mono ?_
  rintro e w' ⟨rfl, hb⟩
  exact ⟨x, rfl, N, fun _ _ => rfl, hNB, r.below hb, VRs_cons.2 ⟨VR_v.2 rfl, VRs_nil⟩⟩
theorem closedN {A : List AV} {v : AV} (ha : AV.cls (kH []) A) (hv : AV.cls (kR [] []) [v]) : ClosedC A [] [v] [] := ⟨rfl, rfl, ha, (fun x hx => by cases hx), hv, fun x hx => by cases hx⟩
theorem closedO' {A : List AV} {L L' : List It} {v : AV} (ha : AV.cls (kH [(0, lO L)]) A) (hv : AV.cls (kR [(0, lO L)] [(0, lO L')]) [v]) : ClosedC A [(0, lO L)] [v] [(0, lO L')] := closedO ha hv trivial trivial
theorem lineC_ok {F : HP} {f : FuncId} {L L' : List It} {A args : List AV} {i : Nat} {v0 : AV} (ht : Tri Try.prog default f A [(0, lO L)] v0 [(0, lO L')]) (ha : AV.cls (kH [(0, lO L)]) A) (hv : AV.cls (kR [(0, lO L)] [(0, lO L')]) [v0])
    {st : Bool} {W0 : World} {N : Names} {h : T} {w : World} {vargs : Array Value} {v : AV} {h' : T} {n n' : Nat} {lg lg' : Log} {c : Cnd} (he : (lineC i A args L v0 L').run st h n lg = .ok v h' n' lg' c) (hc : c.holds)
    (r : Rep W0 N F h w) (hargs : VRs N args vargs.toList) (hf : Fresh N n n') : Calls Try.prog f vargs w (CallPost W0 F N v h' n n') :=
  useC_ok oldDef ht rfl (closedO ha hv trivial trivial) he hc r hargs hf
theorem pureC_ok {F : HP} {f : FuncId} {A args : List AV} {v0 : AV} (ht : Tri Try.prog default f A [] v0 []) (ha : AV.cls (kH []) A) (hv : AV.cls (kR [] []) [v0])
    {st : Bool} {W0 : World} {N : Names} {h : T} {w : World} {vargs : Array Value} {v : AV} {h' : T} {n n' : Nat} {lg lg' : Log} {c : Cnd} (he : (useC (fun i => i) A args [] (.leaf .ret [v0] [])).run st h n lg = .ok v h' n' lg' c) (hc : c.holds)
    (r : Rep W0 N F h w) (hargs : VRs N args vargs.toList) (hf : Fresh N n n') : Calls Try.prog f vargs w (CallPost W0 F N v h' n n') :=
  useC_ok oldDef ht rfl (closedN ha hv) he hc r hargs hf
theorem cNew_ok (F : HP) : C1OK Try.prog F fNew cNew := by
  intro st W0 N h w args vargs v h' n n' lg lg' c p hp he hc r ha hf
  unfold cNew at hp
  split at hp
  · cases hp
    have hcl : ClosedC [] [] [.ptr 1000 0] [(1000, lO [])] := ⟨rfl, rfl, trivial, (fun x hx => by cases hx), ⟨rfl, trivial⟩, fun x hx => by simp only [List.mem_singleton] at hx; subst hx; trivial⟩
    exact useC_ok oldDef Anew_tri rfl hcl he hc r ha hf
  · cases hp
theorem cLPut_ok (F : HP) : C1OK Try.prog F fLPut cLPut := by
  intro st W0 N h w args vargs v h' n n' lg lg' c p hp he hc r ha hf
  unfold cLPut at hp
  split at hp
  · rename_i i a b c
    cases hp
    obtain ⟨m, lg1, he1⟩ := ownC_run he
    split at he1
    · rename_i L
      obtain ⟨c1, he2, rfl⟩ := run_need he1
      obtain ⟨h1, hc2⟩ := (Cnd.and_iff _ _).1 hc
      exact lineC_ok (Aput_tri L ⟨a, b, c⟩ h1) ⟨rfl, ⟨trivial, trivial, trivial, trivial⟩, trivial⟩ ⟨trivial, trivial⟩ he2 hc2 r ha hf
    · exact (inv_fail he1).elim
  · cases hp
theorem cLPop_ok (F : HP) : C1OK Try.prog F fLPop cLPop := by
  intro st W0 N h w args vargs v h' n n' lg lg' c p hp he hc r ha hf
  unfold cLPop at hp
  split at hp
  · cases hp
    obtain ⟨m, lg1, he1⟩ := ownC_run he
    split at he1
    · rename_i L
      exact lineC_ok (Apop_tri L) ⟨rfl, trivial⟩ ⟨⟨⟨trivial, trivial, trivial, trivial⟩, trivial, trivial⟩, trivial⟩ he1 hc r ha hf
    · exact (inv_fail he1).elim
  · cases hp
theorem cLLen_ok (F : HP) : C1OK Try.prog F fLLen cLLen := by
  intro st W0 N h w args vargs v h' n n' lg lg' c p hp he hc r ha hf
  unfold cLLen at hp
  split at hp
  · cases hp
    obtain ⟨m, lg1, he1⟩ := ownC_run he
    split at he1
    · rename_i L
      exact lineC_ok (Alen_tri L) ⟨rfl, trivial⟩ ⟨trivial, trivial⟩ he1 hc r ha hf
    · exact (inv_fail he1).elim
  · cases hp
theorem cBefore_ok (F : HP) : C1OK Try.prog F fBefore cBefore := by
  intro st W0 N h w args vargs v h' n n' lg lg' c p hp he hc r ha hf
  unfold cBefore at hp
  split at hp
  · rename_i a b c a' b' c'
    cases hp
    exact pureC_ok (before_tri ⟨a, b, c⟩ ⟨a', b', c'⟩) ⟨⟨trivial, trivial, trivial, trivial⟩, ⟨trivial, trivial, trivial, trivial⟩, trivial⟩ ⟨trivial, trivial⟩ he hc r ha hf
  · cases hp
theorem cSpeaks_ok (F : HP) : C1OK Try.prog F fSpeaks cSpeaks := by
  intro st W0 N h w args vargs v h' n n' lg lg' c p hp he hc r ha hf
  unfold cSpeaks at hp
  split at hp
  · cases hp
    exact pureC_ok (tri_closed (args := []) speaks_calls) trivial ⟨trivial, trivial⟩ he hc r ha hf
  · cases hp
theorem conR_ok : ∀ x ∈ conR, ∀ F, C1OK Try.prog F x.1 x.2 := by
  intro x hx F
  simp only [conR, List.mem_cons, List.not_mem_nil, or_false] at hx
  rcases hx with rfl | rfl | rfl | rfl | rfl | rfl
  · exact cNew_ok F
  · exact cLPut_ok F
  · exact cLPop_ok F
  · exact cLLen_ok F
  · exact cBefore_ok F
  · exact cSpeaks_ok F
theorem wk_lit (b : Bool) : Wk (.v (.bool b)) (.lit b) := fun N y hy => VR_lit.2 (VR_v.1 hy)
/-! What comes in. -/
/-- The items lie in the world that was there. -/
structure In (W : World) (oa : Option Addr) (items : List It) : Prop where
  addr : items ≠ [] → ∃ a, oa = some a
  cell : ∀ a, oa = some a → ∀ (k : Nat) (hk : k < items.length), W.cell? ((a.add (k * 3)).add 0) = some (.int .i64 (items.getD k It.zero).a) ∧ W.cell? ((a.add (k * 3)).add 1) = some (.int .i64 (items.getD k It.zero).b) ∧ W.cell? ((a.add (k * 3)).add 2) = some (.int .i64 (items.getD k It.zero).c)
  big : items.length * 24 ≤ 140737488355328
def upTo (items : List It) (k : Nat) : List It := (items.take k).foldl putL []
theorem putL_len (L : List It) (x : It) : (putL L x).length = if hasSeq x.b L = true then L.length else L.length + 1 := by
  unfold putL
  cases hasSeq x.b L with
  | true => rfl
  | false => simp [(ins_perm x L).length_eq]
theorem upTo_succ (items : List It) (k : Nat) (hk : k < items.length) : upTo items (k + 1) = putL (upTo items k) (items.getD k It.zero) := by
  unfold upTo
  rw [List.take_succ_eq_append_getElem hk, List.foldl_append]
  simp [List.getD, List.getElem?_eq_getElem hk]
theorem upTo_len (items : List It) : ∀ k, k ≤ items.length → (upTo items k).length ≤ k
  | 0, _ => by simp [upTo]
  | k + 1, h => by
    rw [upTo_succ items k (by omega), putL_len]
    have := upTo_len items k (by omega)
    split <;> omega
theorem upTo_all (items : List It) : upTo items items.length = putAll items := by simp [upTo, putAll]
theorem upTo_sub (items : List It) : ∀ k, k ≤ items.length → ∀ x ∈ upTo items k, x ∈ items
  | 0, _, x, hx => by simp [upTo] at hx
  | k + 1, h, x, hx => by
    rw [upTo_succ items k (by omega)] at hx
    have ih := upTo_sub items k (by omega)
    have hm : items.getD k It.zero ∈ items := by
      rw [List.getD, List.getElem?_eq_getElem (by omega)]; exact List.getElem_mem _
    unfold putL at hx
    split at hx
    · exact ih x hx
    · rcases List.mem_cons.1 ((ins_perm _ _).subset hx) with rfl | hx
      · exact hm
      · exact ih x hx
theorem upTo_sorted (items : List It) : ∀ k, k ≤ items.length → Sortd (upTo items k)
  | 0, _ => by simp [upTo, Sortd]
  | k + 1, h => by
    rw [upTo_succ items k (by omega)]
    have ih := upTo_sorted items k (by omega)
    unfold putL
    cases hs : hasSeq (items.getD k It.zero).b (upTo items k) with
    | true => exact ih
    | false =>
      refine ins_sorted ih fun y hy e => ?_
      have := List.any_eq_false.1 hs y hy
      exact this (by simp [e])
theorem nat_lt (k n : Nat) : decide (Int.ofNat k < Int.ofNat n) = decide (k < n) := by
  simp only [Int.ofNat_eq_natCast, Int.ofNat_lt]
theorem wrap_succ (k : Nat) (h : k < 9223372036854775807) : IntKind.i64.wrap (Int.ofNat k + Int.ofNat 1) = Int.ofNat (k + 1) := by
  rw [IntWalk.i64_in _ (by simp only [Int.ofNat_eq_natCast]; omega)]; simp only [Int.ofNat_eq_natCast]; omega
theorem put_loop (W : World) (oa : Option Addr) (items : List It) (c : Nat) (hI : In W oa items) : LTri Try.prog W (loopN fDrains 8) (tms 0 84 (aPut (slV oa items.length c) items.length 0 0)) [(0, lO [])] (.exit 0) (tms 0 84 (zPut (slV oa items.length c) (putAll items).length)) [(0, lO (putAll items))] := by
  refine ltri_tms (σ := {k : Nat // k ≤ items.length}) (g := fDrains) (con := fun _ => conL conR) (claim := fun k => hPutL k.1 (upTo items k.1).length (items.getD k.1 It.zero)) (lcon := fun _ => lconL []) 84 (fun k => aPut (slV oa items.length c) items.length k.1 (upTo items k.1).length) (fun k => [(0, lO (upTo items k.1))]) (.exit 0) _ _ (fun k => items.length - k.1) [0] [0, 3, 4, 21, 22, 23] 1000 mixed (by intro h; cases h)
    (fun _ => rfl) rfl (fun p F _ => conL_ok rfl fun x hx => conR_ok x hx F) (fun p F _ => lconL_ok rfl fun x hx => by cases hx) ?_ ⟨0, Nat.zero_le _⟩
  rintro ⟨k, hk⟩ F _
  have hbig := hI.big
  cases oa with
  | none =>
    have h0 : items = [] := Classical.byContradiction fun h => by obtain ⟨a, ha⟩ := hI.addr h; cases ha
    subst h0
    have hk0 : k = 0 := by simpa using hk
    subst hk0
    show (wLoop conR (hPutL 0 0 It.zero) [] W fDrains (loopN fDrains 8) (tms 0 84 (aPut (slV none 0 c) 0 0 0)) [(0, lO [])] [0] [0, 3, 4, 21, 22, 23] F).all _
    rw [oLoopPut0_eq]
    exact ⟨(fun h => by cases h), fun _ => ⟨trivial, rfl, .inr ⟨rfl, [], rfl, rfl, ⟨Wk.refl _, Wk.refl _, Wk.refl _, trivial⟩, ⟨⟨_, rfl, OW.refl _⟩, trivial⟩⟩⟩⟩
  | some a =>
    show (wLoop conR (hPutL k (upTo items k).length (items.getD k It.zero)) [] W fDrains (loopN fDrains 8) (tms 0 84 (aPut (slV (some a) items.length c) items.length k (upTo items k).length)) [(0, lO (upTo items k))] [0] [0, 3, 4, 21, 22, 23] F).all _
    rw [oLoopPut_eq, nat_lt]
    have hl := upTo_len items k hk
    refine ⟨fun h1 => ?_, fun h1 => ?_⟩
    · simp only [decide_eq_true_eq] at h1
      obtain ⟨e0, e1, e2⟩ := hI.cell a rfl k h1
      have e1' : W.cell? (Addr.mk (a.add (k * 3)).block ((a.add (k * 3)).off + 1) none) = some (.int .i64 (items.getD k It.zero).b) := e1
      have e2' : W.cell? (Addr.mk (a.add (k * 3)).block ((a.add (k * 3)).off + 2) none) = some (.int .i64 (items.getD k It.zero).c) := e2
      have hs := upTo_succ items k h1
      have hpl := putL_len (upTo items k) (items.getD k It.zero)
      have hroom : RoomL (upTo items k) := by show (_ + 1) * 24 ≤ _; omega
      have hw1 := wrap_succ (upTo items k).length (by omega)
      have hw2 := wrap_succ k (by omega)
      have hn : ([0, 1, 2].all fun j => (W.cell? ((a.add (k * 3)).add j)).isSome) = true := by simp [List.all, e0, e1, e2]
      have next : ∀ (p : Nat), (upTo items (k + 1)).length = p → (84 : Nat) = 84 ∧ (((.normal : AX) = .normal ∧ ∃ s' : {k : Nat // k ≤ items.length}, items.length - s'.1 < items.length - k ∧ ∃ l, FitT [0] [0, 3, 4, 21, 22, 23] [slV (some a) items.length c, AV.ptr 0 0, iv (Int.ofNat p), slV (some a) items.length c, iv (Int.ofNat items.length), iv (Int.ofNat (k + 1))] [some (lO (putL (upTo items k) (items.getD k It.zero)))] (aPut (slV (some a) items.length c) items.length s'.1 (upTo items s'.1).length) [(0, lO (upTo items s'.1))] l) ∨
          ((.normal : AX) = .exit 0 ∧ ∃ l, FitT [0] [0, 3, 4, 21, 22, 23] [slV (some a) items.length c, AV.ptr 0 0, iv (Int.ofNat p), slV (some a) items.length c, iv (Int.ofNat items.length), iv (Int.ofNat (k + 1))] [some (lO (putL (upTo items k) (items.getD k It.zero)))] (zPut (slV (some a) items.length c) (putAll items).length) [(0, lO (putAll items))] l)) := by
        intro p hp
        refine ⟨rfl, .inl ⟨rfl, ⟨k + 1, h1⟩, by show items.length - (k + 1) < _; omega, [], rfl, rfl, ?_, ⟨⟨_, rfl, OW.of_eq (by rw [← hs]; rfl)⟩, trivial⟩⟩⟩
        rw [hp]
        exact ⟨Wk.refl _, Wk.refl _, Wk.refl _, Wk.refl _, Wk.refl _, Wk.refl _, trivial⟩
      refine ⟨fun h2 => ⟨?_, next _ ?_⟩, fun h2 => ⟨?_, next _ ?_⟩⟩
      · simp only [Cnd.holds, hn, e0, e1', e2', Option.getD_some, Nat.blt_eq]
        and_intros
        all_goals first | exact trivial | exact h1 | exact hroom | exact VW.refl _ | exact OW.refl _ | exact Wk.refl _ | exact wk_int hw1 | exact wk_int hw2 | rfl
      · rw [hs, hpl, if_neg (by simpa using h2)]
      · simp only [Cnd.holds, hn, e0, e1', e2', Option.getD_some, Nat.blt_eq]
        and_intros
        all_goals first | exact trivial | exact h1 | exact hroom | exact VW.refl _ | exact OW.refl _ | exact Wk.refl _ | exact wk_int hw1 | exact wk_int hw2 | rfl
      · rw [hs, hpl, if_pos (by simpa using h2)]
    · simp only [decide_eq_false_iff_not] at h1
      have hke : k = items.length := by omega
      subst hke
      have hall := upTo_all items
      refine ⟨trivial, rfl, .inr ⟨rfl, [], rfl, rfl, ?_, ⟨⟨_, rfl, OW.of_eq (by rw [← hall]; rfl)⟩, trivial⟩⟩⟩
      rw [← hall]
      exact ⟨Wk.refl _, Wk.refl _, Wk.refl _, trivial⟩
end Go.Proofs.Ytcpijmlaglcblaa.Rk
