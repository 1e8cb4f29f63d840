/- Parts of the proof, merged. -/
import Derived.Test.YtojfbgmeaadanaaOnc2
import Derived.Test.YtojfbgmeaadanaaRows
import Derived.Test.YtojfbgmeaadanaaOpenSl
import Derived.Test.YtojfbgmeaadanaaPieces
import Derived.ProofKit
import Derived.OpenShut
import Derived.Deep.Fields
/- Alarms: Due on a clock whole. -/
set_option linter.unusedVariables false
set_option linter.unusedSimpArgs false
set_option maxRecDepth 100000
namespace Go.Proofs.Ytojfbgmeaadanaa.Alm
open Go Go.RowKit Go.Proofs.Ytojfbgmeaadanaa.Eng Go.Proofs.Ytojfbgmeaadanaa.Kit
/-- What is due, in order; what stays. -/
def dueN (now : Int) : Nat → List Al → List Int × List Al
  | 0, L => ([], L)
  | n + 1, L => match nextOf L with
    | none => ([], L)
    | some t => if t ≤ now then (match L.find? fun x => decide (x.tk = t) with
      | none => ([], L)
      | some x => (x.id :: (dueN now n (without L x.id)).1, (dueN now n (without L x.id)).2)) else ([], L)
def dueL (L : List Al) (now : Int) : List Int × List Al := dueN now L.length L
theorem AbsC.next {s : Ps} {L : List Al} {tn : Int} (h : AbsC s L tn) (h0 : 0 < s.xs.length) : nextOf L = some (at' s 0).a ∧ (L.find? fun x => decide (x.tk = (at' s 0).a)) = some ⟨(at' s 0).c, (at' s 0).a⟩ := by
  obtain ⟨A, B, e, hA, hB⟩ := h.root h0
  refine ⟨by rw [e]; exact nextOf_root A B ⟨(at' s 0).c, (at' s 0).a⟩ hA hB, ?_⟩
  rw [e, List.find?_append]
  have : (A.find? fun x => decide (x.tk = (at' s 0).a)) = none := List.find?_eq_none.2 fun x hx => by
    have := hA x hx
    simp only [decide_eq_true_eq]; omega
  rw [this]
  simp
theorem AbsC.due {s : Ps} {L : List Al} {tn : Int} (h : AbsC s L tn) (h0 : 0 < s.xs.length) : AbsC (dueS s) (without L (at' s 0).c) tn := by
  obtain ⟨q1, q2, q3, hk⟩ := hpop_spec s h.heap h0
  exact h.take (s' := dueS s) q2 q3 rfl hk.ck hk.tn
theorem due_abs (now : Int) : ∀ (n : Nat) (s : Ps) (L : List Al) (tn : Int) (ids : List Int), AbsC s L tn → s.xs.length = n → (dueR now n s ids).2 = ids ++ (dueN now n L).1 ∧ AbsC (dueR now n s ids).1 (dueN now n L).2 tn
  | 0, s, L, tn, ids, h, hn => ⟨(List.append_nil _).symm, h⟩
  | n + 1, s, L, tn, ids, h, hn => by
    have h0 : 0 < s.xs.length := by omega
    obtain ⟨e1, e2⟩ := h.next h0
    by_cases hd : (at' s 0).a ≤ now
    · have := due_abs now n (dueS s) _ tn (ids ++ [(at' s 0).c]) (h.due h0) (by rw [due_len s h0, hn]; rfl)
      simp only [dueR, dueN, e1, e2, if_pos hd]
      refine ⟨?_, this.2⟩
      rw [this.1, List.append_assoc]; rfl
    · simp only [dueR, dueN, e1, if_neg hd, List.append_nil, true_and]
      exact h
theorem lDueE_ok {s t : Ps} {now : Int} (h : LTri Try.prog default (loopN fDue 1) (tms 0 47 (dueA now nilV)) (uM s) (.exit 0) (tms 0 47 (dueA now nilV)) (uM t)) (F : HP) : L1OK Try.prog F (loopN fDue 1) (lDueE s t now) :=
  mkL_ok (W := default) oldDef gHead_ro (fun _ _ => h) fun _ => closedT rfl rfl (due_cl0 _ rfl now) (uM_cl _ ⟨rfl, rfl⟩ s) (due_cl0 _ rfl now) (uM_cl _ ⟨rfl, rfl⟩ t)
theorem cl_app {K : Nat → Bool} {H H' : LH} (h : ∀ x ∈ H, x.2.cl K) (h' : ∀ x ∈ H', x.2.cl K) : ∀ x ∈ H ++ H', x.2.cl K := fun x hx => by
  rcases List.mem_append.1 hx with hx | hx
  · exact h x hx
  · exact h' x hx
theorem ids_cl (K : Nat → Bool) (ids : List Int) : ∀ x ∈ [(1010, idsO ids)], x.2.cl K := all_cons (cls_rowV _ _) all_nil
theorem lDueN_ok {s t : Ps} {now : Int} {ids : List Int} (h : LTri Try.prog default (loopN fDue 1) (tms 0 47 (dueA now nilV)) (uM s) (.exit 0) (tms 0 47 (dueA now (idsV ids.length))) (uM t ++ [(1010, idsO ids)])) (F : HP) : L1OK Try.prog F (loopN fDue 1) (lDueN s t now ids) :=
  mkL_ok (W := default) oldDef gHead_ro (fun _ _ => h) fun _ => by
    have k0 : kR (uM s) (uM t ++ [(1010, idsO ids)]) 0 = true := by kernel_rfl
    have k1 : kR (uM s) (uM t ++ [(1010, idsO ids)]) 1010 = true := by kernel_rfl
    have kc : ∀ x ∈ dueA now (idsV ids.length), AV.cl (kR (uM s) (uM t ++ [(1010, idsO ids)])) x.2 := all_cons k0 (all_cons trivial (all_cons k1 all_nil))
    exact closedT (H' := uM t ++ [(1010, idsO ids)]) rfl (by kernel_rfl) (due_cl0 _ rfl now) (uM_cl _ ⟨rfl, rfl⟩ s) kc (cl_app (uM_cl _ ⟨by kernel_rfl, by kernel_rfl⟩ t) (ids_cl _ _))
theorem dueFE_tri (s t : Ps) (now : Int) (h : LTri Try.prog default (loopN fDue 1) (tms 0 47 (dueA now nilV)) (uM s) (.exit 0) (tms 0 47 (dueA now nilV)) (uM t)) : Tri Try.prog default fDue [.ptr 0 0, iv now] (uM s) nilV (uM t) := by
  refine tri_run (con := []) (hints := noHints) (lc := [(fDue, 1, loopN fDue 1, lDueE s t now)]) [0, 1001, 1002, 1003, 1100, 1101, 1102, 1103, 1104, 1105] rfl (fun F _ => noC) (fun F _ => one_l (lDueE_ok h F)) fun F => ?_
  refine cast (congrArg (VAll _) (oDueFE_eq s t now F).symm) ⟨⟨?_, (fit_mk (vs := [nilV]) (vs' := [nilV]) (H' := uM t) [(1001, 1100), (1002, 1101), (1003, 1102)] (by kernel_rfl) (by kernel_rfl) (VW.refl _) ⟨⟨_, rfl, OW.refl _⟩, ⟨_, rfl, OW.of_eq ?_⟩, ⟨_, rfl, OW.refl _⟩, ⟨_, rfl, OW.of_eq ?_⟩, trivial⟩).fits rfl⟩⟩
  · simp only [Cnd.holds, rens_rowV, map_renE, true_and, and_true]
    all_goals and_intros
    all_goals first
      | (with_reducible exact rfl)
      | (with_reducible exact OW.refl _)
      | (repeat (first | exact VW.nil | refine VW.cons (Wk.refl _) ?_ | refine VW.cons (Wk.any _) ?_))
      | exact OW.refl _
  · show _ = (rowO (blocks t)).ren _
    rw [calm_row, rens_rowV]; rfl
  · show _ = (mapO t).ren _
    rw [map_ren, map_renE]; rfl
theorem dueFN_tri (s t : Ps) (now : Int) (ids : List Int) (h : LTri Try.prog default (loopN fDue 1) (tms 0 47 (dueA now nilV)) (uM s) (.exit 0) (tms 0 47 (dueA now (idsV ids.length))) (uM t ++ [(1010, idsO ids)])) : Tri Try.prog default fDue [.ptr 0 0, iv now] (uM s) (idsV ids.length) (uM t ++ [(1010, idsO ids)]) := by
  refine tri_run (con := []) (hints := noHints) (lc := [(fDue, 1, loopN fDue 1, lDueN s t now ids)]) [0, 1001, 1002, 1003, 1100, 1101, 1102, 1103, 1104, 1105] rfl (fun F _ => noC) (fun F _ => one_l (lDueN_ok h F)) fun F => ?_
  refine cast (congrArg (VAll _) (oDueFN_eq s t now ids F).symm) ⟨⟨?_, (fit_mk (vs := [.slice 1103 0 ids.length 1 (.lo ids.length)]) (vs' := [idsV ids.length]) (H' := uM t ++ [(1010, idsO ids)]) [(1001, 1100), (1002, 1101), (1003, 1102), (1010, 1103)] (by kernel_rfl) (by kernel_rfl) (VW.refl _) ?_).fits (by kernel_rfl)⟩⟩
  · simp only [Cnd.holds, rens_rowV, map_renE, true_and, and_true]
    all_goals and_intros
    all_goals first
      | (with_reducible exact rfl)
      | (with_reducible exact OW.refl _)
      | (repeat (first | exact VW.nil | refine VW.cons (Wk.refl _) ?_ | refine VW.cons (Wk.any _) ?_))
      | exact OW.refl _
  refine ⟨⟨_, rfl, OW.refl _⟩, ⟨_, rfl, OW.of_eq ?_⟩, ⟨_, rfl, OW.refl _⟩, ⟨_, rfl, OW.of_eq ?_⟩, ⟨_, rfl, OW.of_eq ?_⟩, trivial⟩
  · show _ = (rowO (blocks t)).ren _
    rw [calm_row, rens_rowV]; rfl
  · show _ = (mapO t).ren _
    rw [map_ren, map_renE]; rfl
  · show _ = (idsO ids).ren _
    rw [calm_ids, rens_rowV]; rfl
theorem dueF0_tri (s : Ps) (now : Int) : Tri Try.prog default fDue [.ptr 0 0, iv now] (uM0 s) nilV (uM0 s) := by
  refine tri_run (con := []) (hints := hintL [(fDue, 1, 5, hv (.lit false))]) (lc := []) [0, 1003] rfl (fun F _ => noC) (fun _ _ => noL) fun F => ?_
  refine cast (congrArg (VAll _) (oDueF0_eq s now F).symm) ⟨⟨?_, uM0_keep (fun _ => rfl)⟩⟩
  simp only [Cnd.holds, true_and, and_true]
  exact wk_lit _
theorem due_tri (s : Ps) (now : Int) (hB : Big s) (hh : HeapTo (at' s) s.xs.length) (T : Ps × List Int) (hT : dueR now s.xs.length s [] = T) : Tri Try.prog default fDue [.ptr 0 0, iv now] (uM s) (idsA T.2) (uM T.1 ++ idsH T.2) := by
  have hr : RoomD s.xs.length := by unfold Big at hB; unfold RoomD; omega
  have hl := due_loop now s.xs.length hr s [] hB hh (by simp)
  rw [hT] at hl
  have hl := LTri.pre (open_due s [] (tms 0 47 (dueA now (idsA [])))) hl
  rw [show uM s ++ idsH [] = uM s from List.append_nil _] at hl
  obtain ⟨t, ids⟩ := T
  simp only at hl ⊢
  by_cases hi : ids = []
  · subst hi
    rw [show uM t ++ idsH [] = uM t from List.append_nil _] at hl ⊢
    exact dueFE_tri s t now hl
  · rw [idsA_ne hi, idsH_ne hi] at hl ⊢
    exact dueFN_tri s t now ids hl
theorem shut_clkI {L : List Al} {tn : Int} (s : Ps) (h : AbsC s L tn) (ids : List Int) : Goes [idsA ids] (uM s ++ idsH ids) [idsA ids] ((0, clO L tn) :: idsH ids) := by
  cases ids with
  | nil => exact (List.append_nil (uM s)).symm ▸ shut_clk s h nilV fun K => ⟨trivial, trivial⟩
  | cons x ids => exact Goes.shut (σ := Bool × Ps) (R := clR L tn) (L := clL) (m := .clock L tn) (H0 := [(1010, idsO (x :: ids))]) (vs := [idsV (x :: ids).length]) (false, s) ⟨h, fun e => by cases e⟩ (by kernel_rfl : ownL [(1010, idsO (x :: ids))] (uM s) = true) ⟨_, _, rfl, rfl⟩ ⟨rfl, trivial⟩ (ids_cl _ _)
theorem Adue_tri (L : List Al) (tn now : Int) (hB : BigL L) : Tri Try.prog default fDue [.ptr 0 0, iv now] [(0, clO L tn)] (idsA (dueL L now).1) ((0, clO (dueL L now).2 tn) :: idsH (dueL L now).1) := by
  refine open_clk (fun s h => ?_) (fun s h hx => ?_)
  · obtain ⟨e1, e2⟩ := due_abs now s.xs.length s L tn [] h rfl
    have := due_tri s now (h.big hB) h.heap _ rfl
    rw [e1, List.nil_append, ← h.len] at this
    rw [← h.len] at e2
    exact Tri.post this (shut_clkI _ e2 _)
  · have hL : L = [] := List.eq_nil_of_length_eq_zero (by rw [h.len, hx]; rfl)
    subst hL
    exact Tri.post (dueF0_tri s now) (shut_clk0 _ h hx _ fun K => ⟨trivial, trivial⟩)
end Go.Proofs.Ytojfbgmeaadanaa.Alm

/- Alarms: contracts for callers; SameInts: runs. -/
set_option linter.unusedVariables false
set_option linter.unusedSimpArgs false
set_option maxRecDepth 100000
namespace Go.Proofs.Ytojfbgmeaadanaa.Alm
open Go Go.RowKit Go.Proofs.Ytojfbgmeaadanaa.Eng Go.Proofs.Ytojfbgmeaadanaa.Kit
/-- An alarm is set. -/
def setL (L : List Al) (id at_ : Int) : List Al := without L id ++ [⟨id, at_⟩]
def noneDue (L : List Al) (now : Int) : Bool := (dueL L now).1.isEmpty
noncomputable section
def intA : AV → Int
  | .v (.int .i64 a) => a
  | _ => 0
def gClk : List AV → AP (Nat × List Al × Int × Int × Int) := fun args => match args with
  | .ptr i 0 :: r => .read i fun o => match o with
    | .own (.clock L tn) _ => .ret (i, L, tn, intA (getL r 0), intA (getL r 1))
    | _ => .fail "clock"
  | _ => .fail "clock"
def cANew : List AV → Option (AP AV) := mkC (fun _ => .ret ()) (fun _ => True) (fun _ i => i) (fun _ => []) (fun _ => []) (fun _ => .leaf .ret [.ptr 1000 0] [(1000, clO [] 0)])
def cASet : List AV → Option (AP AV) := mkC gClk (fun p => RoomL p.2.1 ∧ TnOK p.2.2.1) (fun p _ => p.1) (fun p => [.ptr 0 0, iv p.2.2.2.1, iv p.2.2.2.2]) (fun p => [(0, clO p.2.1 p.2.2.1)]) (fun p => .leaf .ret [.tuple []] [(0, clO (setL p.2.1 p.2.2.2.1 p.2.2.2.2) (p.2.2.1 + 1))])
def cACan : List AV → Option (AP AV) := mkC gClk (fun p => BigL p.2.1) (fun p _ => p.1) (fun p => [.ptr 0 0, iv p.2.2.2.1]) (fun p => [(0, clO p.2.1 p.2.2.1)]) (fun p => .leaf .ret [.v (.bool (hasId p.2.1 p.2.2.2.1))] [(0, clO (without p.2.1 p.2.2.2.1) p.2.2.1)])
def cAAt : List AV → Option (AP AV) := mkC gClk (fun p => True) (fun p _ => p.1) (fun p => [.ptr 0 0, iv p.2.2.2.1]) (fun p => [(0, clO p.2.1 p.2.2.1)]) (fun p => .leaf .ret [.tuple [iv (atOf p.2.1 p.2.2.2.1), .v (.bool (hasId p.2.1 p.2.2.2.1))]] [(0, clO p.2.1 p.2.2.1)])
def cANext : List AV → Option (AP AV) := mkC gClk (fun p => True) (fun p _ => p.1) (fun p => [.ptr 0 0]) (fun p => [(0, clO p.2.1 p.2.2.1)]) (fun p => .leaf .ret [.tuple [iv ((nextOf p.2.1).getD 0), .v (.bool (nextOf p.2.1).isSome)]] [(0, clO p.2.1 p.2.2.1)])
def cALen : List AV → Option (AP AV) := mkC gClk (fun p => True) (fun p _ => p.1) (fun p => [.ptr 0 0]) (fun p => [(0, clO p.2.1 p.2.2.1)]) (fun p => .leaf .ret [iv (Int.ofNat p.2.1.length)] [(0, clO p.2.1 p.2.2.1)])
def rtDue (p : Nat × List Al × Int × Int × Int) : RT := .ite (noneDue p.2.1 p.2.2.2.1) (.leaf .ret [nilV] [(0, clO (dueL p.2.1 p.2.2.2.1).2 p.2.2.1)]) (.leaf .ret [idsV (dueL p.2.1 p.2.2.2.1).1.length] [(0, clO (dueL p.2.1 p.2.2.2.1).2 p.2.2.1), (1010, idsO (dueL p.2.1 p.2.2.2.1).1)])
def cADue : List AV → Option (AP AV) := mkC gClk (fun p => BigL p.2.1) (fun p _ => p.1) (fun p => [.ptr 0 0, iv p.2.2.2.1]) (fun p => [(0, clO p.2.1 p.2.2.1)]) rtDue
abbrev fSpeaks : Nat := 6
def cASpeaks : List AV → Option (AP AV) := mkC (fun _ => .ret ()) (fun _ => True) (fun _ i => i) (fun _ => []) (fun _ => []) (fun _ => .leaf .ret [.v (.bool true)] [])
/-! SameInts of one list told twice. -/
abbrev fSame : Nat := 10
def isl (i : Nat) (l : List Int) : AV := .slice i 0 l.length 1 (.lo l.length)
def aSame (l : List Int) (i : Nat) : List (Nat × AV) := [(0, isl 0 l), (1, isl 1 l), (5, iv (Int.ofNat i))]
def oSame (l : List Int) : LH := [(0, idsO l), (1, idsO l)]
def hSame (i : Nat) (x : Int) : ClaimT := hintL [(fSame, 6, 3, hv (iv x)), (fSame, 6, 7, hv (iv x)), (fSame, 6, 8, hv (.lit false)), (fSame, 5, 1, hv (iv (Int.ofNat (i + 1))))]
theorem oLoopSame_eq (l : List Int) (i : Nat) (x : Int) (F : HP) : wLoop [] (hSame i x) [] default fSame (loopN fSame 4) (tms 0 26 (aSame l i)) (oSame l) [0, 1] [0, 1, 5] F = VT.ite (decide (Int.ofNat i < ↑l.length)) (VT.leaf (AX.normal, [AV.slice 0 0 l.length 1 (Cp.lo l.length), AV.slice 1 0 l.length 1 (Cp.lo l.length), AV.v (Value.int IntKind.i64 (Int.ofNat (i + 1)))], 26) [some (AO.cells (rowV encI l) 6), some (AO.cells (rowV encI l) 6)] 1100 (((Cnd.p (i.blt l.length = true)).a Cnd.t).a (((Cnd.p ((0 + i * 1).blt (rowV encI l).length = true)).a ((Cnd.p ((rowV encI l).getD (0 + i * 1) (AV.v (Value.tuple (Array.mk []))) = AV.v (Value.int IntKind.i64 ((rowV encI l).getD (0 + i * 1) (AV.v (Value.tuple (Array.mk [])))).intOf))).a ((Cnd.p (Wk (AV.v (Value.int IntKind.i64 ((rowV encI l).getD (0 + i * 1) (AV.v (Value.tuple (Array.mk [])))).intOf)) (AV.v (Value.int IntKind.i64 x)))).a Cnd.t))).a (((Cnd.p (i.blt l.length = true)).a Cnd.t).a (((Cnd.p ((0 + i * 1).blt (rowV encI l).length = true)).a ((Cnd.p ((rowV encI l).getD (0 + i * 1) (AV.v (Value.tuple (Array.mk []))) = AV.v (Value.int IntKind.i64 ((rowV encI l).getD (0 + i * 1) (AV.v (Value.tuple (Array.mk [])))).intOf))).a ((Cnd.p (Wk (AV.v (Value.int IntKind.i64 ((rowV encI l).getD (0 + i * 1) (AV.v (Value.tuple (Array.mk [])))).intOf)) (AV.v (Value.int IntKind.i64 x)))).a Cnd.t))).a (((Cnd.p (Wk (AV.v (Value.bool (x != x))) (AV.lit false))).a Cnd.t).a (((Cnd.p (Wk (AV.v (Value.int IntKind.i64 (IntKind.i64.wrap (Int.ofNat i + Int.ofNat 1)))) (AV.v (Value.int IntKind.i64 (Int.ofNat (i + 1)))))).a Cnd.t).a Cnd.t))))))) (VT.leaf (AX.exit 0, [AV.slice 0 0 l.length 1 (Cp.lo l.length), AV.slice 1 0 l.length 1 (Cp.lo l.length), AV.v (Value.int IntKind.i64 (Int.ofNat i))], 26) [some (AO.cells (rowV encI l) 6), some (AO.cells (rowV encI l) 6)] 1100 Cnd.t) := by kernel_rfl
def gSame : List AV → AP (Nat × Nat) := fun tmps => match getL tmps 0 with
  | .slice r0 _ _ _ _ => match getL tmps 1 with
    | .slice r1 _ _ _ _ => .ret (r0, r1)
    | _ => .ret (r0, r0)
  | _ => match getL tmps 1 with
    | .slice r1 _ _ _ _ => .ret (r1, r1)
    | _ => .fail "same"
def nm2 (r0 r1 : Nat) : Nat → Nat := fun k => match Nat.beq k 0 with
  | true => r0
  | false => r1
def lSame (l : List Int) : List AV → AP (AX × List AV) := mkL gSame (fun _ => True) (fun p => nm2 p.1 p.2) (fun _ => tms 0 26 (aSame l 0)) (fun _ => oSame l) (fun _ => .leaf (.exit 0) (tms 0 26 (aSame l l.length)) (oSame l))
def hSame1 (n : Nat) : ClaimT := hintL [(fSame, 1, 1, hv (iv (Int.ofNat n))), (fSame, 1, 3, hv (iv (Int.ofNat n))), (fSame, 1, 4, hv (.lit false))]
theorem oSame_eq (l : List Int) (F : HP) : wRun [] (hSame1 l.length) [(fSame, 4, loopN fSame 4, lSame l)] default fSame [isl 0 l, isl 1 l] (oSame l) [0, 1] F = VT.leaf (AV.v (Value.bool true)) [some (AO.cells (AV.rens (sgN (nm2 0 1) [] 0) (rowV encI l)) 6), some (AO.cells (AV.rens (sgN (nm2 0 1) [] 0) (rowV encI l)) 6)] 1100 (((Cnd.p (Wk (AV.v (Value.int IntKind.i64 ↑l.length)) (AV.v (Value.int IntKind.i64 (Int.ofNat l.length))))).a Cnd.t).a (((Cnd.p (Wk (AV.v (Value.int IntKind.i64 ↑l.length)) (AV.v (Value.int IntKind.i64 (Int.ofNat l.length))))).a Cnd.t).a (((Cnd.p (Wk (AV.v (Value.bool (Int.ofNat l.length != Int.ofNat l.length))) (AV.lit false))).a Cnd.t).a ((Cnd.p ((fSame, 4, loopN fSame 4, lSame l).snd.snd.fst = (fSame, 4, loopN fSame 4, lSame l).snd.snd.fst)).a ((Cnd.p True).a ((Cnd.p (VW [AV.slice 0 0 l.length 1 (Cp.lo l.length), AV.slice 1 0 l.length 1 (Cp.lo l.length), AV.v (Value.tuple (Array.mk [])), AV.v (Value.tuple (Array.mk [])), AV.v (Value.bool false), AV.v (Value.int IntKind.i64 (Int.ofNat 0)), AV.slice 0 0 l.length 1 (Cp.lo l.length), AV.v (Value.int IntKind.i64 (Int.ofNat l.length)), AV.slice 1 0 l.length 1 (Cp.lo l.length), AV.v (Value.int IntKind.i64 (Int.ofNat l.length)), AV.lit false, AV.v (Value.tuple (Array.mk [])), AV.v (Value.tuple (Array.mk [])), AV.v (Value.tuple (Array.mk [])), AV.v (Value.tuple (Array.mk [])), AV.v (Value.tuple (Array.mk [])), AV.v (Value.tuple (Array.mk [])), AV.v (Value.tuple (Array.mk [])), AV.v (Value.tuple (Array.mk [])), AV.v (Value.tuple (Array.mk [])), AV.v (Value.tuple (Array.mk [])), AV.v (Value.tuple (Array.mk [])), AV.v (Value.tuple (Array.mk [])), AV.v (Value.tuple (Array.mk [])), AV.v (Value.tuple (Array.mk [])), AV.v (Value.tuple (Array.mk []))] [AV.slice 0 0 l.length 1 (Cp.lo l.length), AV.slice 1 0 l.length 1 (Cp.lo l.length), AV.any, AV.any, AV.any, AV.v (Value.int IntKind.i64 (Int.ofNat 0)), AV.any, AV.any, AV.any, AV.any, AV.any, AV.any, AV.any, AV.any, AV.any, AV.any, AV.any, AV.any, AV.any, AV.any, AV.any, AV.any, AV.any, AV.any, AV.any, AV.any])).a ((Cnd.p (OW (AO.cells (rowV encI l) 6) (AO.cells (AV.rens (nm2 0 1) (rowV encI l)) 6))).a ((Cnd.p (OW (AO.cells (rowV encI l) 6) (AO.cells (AV.rens (nm2 0 1) (rowV encI l)) 6))).a Cnd.t)))))))) := by kernel_rfl
def hSame0 : ClaimT := hintL [(fSame, 1, 4, hv (.lit false)), (fSame, 4, 3, hv (.lit false))]
theorem oSameL_eq (F : HP) : wRun [] hSame0 [] default fSame [nilV, isl 0 []] [(0, idsO [])] [0] F = VT.leaf (AV.v (Value.bool true)) [some (AO.cells [] 6)] 1100 (((Cnd.p (Wk (AV.v (Value.bool false)) (AV.lit false))).a Cnd.t).a (((Cnd.p (Wk (AV.v (Value.bool false)) (AV.lit false))).a Cnd.t).a Cnd.t)) := by kernel_rfl
theorem oSameR_eq (F : HP) : wRun [] hSame0 [] default fSame [isl 0 [], nilV] [(0, idsO [])] [0] F = VT.leaf (AV.v (Value.bool true)) [some (AO.cells [] 6)] 1100 (((Cnd.p (Wk (AV.v (Value.bool false)) (AV.lit false))).a Cnd.t).a (((Cnd.p (Wk (AV.v (Value.bool false)) (AV.lit false))).a Cnd.t).a Cnd.t)) := by kernel_rfl
def cSameB (l : List Int) : List AV → Option (AP AV) := mkC gSame (fun _ => True) (fun p => nm2 p.1 p.2) (fun _ => [isl 0 l, isl 1 l]) (fun _ => oSame l) (fun _ => .leaf .ret [.v (.bool true)] (oSame l))
def cSameR : List AV → Option (AP AV) := mkC gSame (fun _ => True) (fun p => nm2 p.1 p.2) (fun _ => [isl 0 [], nilV]) (fun _ => [(0, idsO [])]) (fun _ => .leaf .ret [.v (.bool true)] [(0, idsO [])])
def cSameL : List AV → Option (AP AV) := mkC gSame (fun _ => True) (fun p => nm2 p.1 p.2) (fun _ => [nilV, isl 0 []]) (fun _ => [(0, idsO [])]) (fun _ => .leaf .ret [.v (.bool true)] [(0, idsO [])])
/-- One list told twice, wherever it lies. -/
def cSame (l : List Int) : List AV → Option (AP AV) := fun args => match args with
  | [.slice .., .slice ..] => cSameB l args
  | [.slice .., _] => cSameR args
  | _ => cSameL args
end
end Go.Proofs.Ytojfbgmeaadanaa.Alm

/- Alarms: contracts for callers, proved. -/
set_option linter.unusedVariables false
set_option linter.unusedSimpArgs false
set_option maxRecDepth 100000
namespace Go.Proofs.Ytojfbgmeaadanaa.Alm
open Go Go.RowKit Go.Proofs.Ytojfbgmeaadanaa.Eng Go.Proofs.Ytojfbgmeaadanaa.Kit
theorem gClk_ro : ∀ args, RO (gClk args) := by
  intro args
  unfold gClk
  split
  · refine RO.read _ _ fun o => ?_
    split
    · exact RO.ret _
    · exact RO.fail _
  · exact RO.fail _
theorem gSame_ro : ∀ args, RO (gSame args) := by
  intro args
  unfold gSame
  repeat' split
  all_goals first | exact RO.ret _ | exact RO.fail _
theorem cANew_ok (F : HP) : C1OK Try.prog F fNew cANew :=
  mkC_ok (W := default) oldDef (fun _ => .ptr 1000 0) (fun _ => RO.ret _) (fun _ => rfl) (fun _ _ => Anew_tri) fun _ => ⟨rfl, rfl, trivial, all_nil, ⟨rfl, trivial⟩, all_cons trivial all_nil⟩
theorem cASet_ok (F : HP) : C1OK Try.prog F fSet cASet :=
  mkC_ok (W := default) oldDef (fun _ => .tuple []) gClk_ro (fun _ => rfl) (fun p h => Aset_tri p.2.1 p.2.2.1 p.2.2.2.1 p.2.2.2.2 h.1 h.2) fun _ => ⟨rfl, rfl, ⟨rfl, trivial, trivial, trivial⟩, all_cons trivial all_nil, ⟨trivial, trivial⟩, all_cons trivial all_nil⟩
theorem cACan_ok (F : HP) : C1OK Try.prog F fCan cACan :=
  mkC_ok (W := default) oldDef (fun p => .v (.bool (hasId p.2.1 p.2.2.2.1))) gClk_ro (fun _ => rfl) (fun p h => Acan_tri p.2.1 p.2.2.1 p.2.2.2.1 h) fun _ => ⟨rfl, rfl, ⟨rfl, trivial, trivial⟩, all_cons trivial all_nil, ⟨trivial, trivial⟩, all_cons trivial all_nil⟩
theorem cAAt_ok (F : HP) : C1OK Try.prog F fAt cAAt :=
  mkC_ok (W := default) oldDef (fun p => .tuple [iv (atOf p.2.1 p.2.2.2.1), .v (.bool (hasId p.2.1 p.2.2.2.1))]) gClk_ro (fun _ => rfl) (fun p h => Aat_tri p.2.1 p.2.2.1 p.2.2.2.1) fun _ => ⟨rfl, rfl, ⟨rfl, trivial, trivial⟩, all_cons trivial all_nil, ⟨⟨trivial, trivial, trivial⟩, trivial⟩, all_cons trivial all_nil⟩
theorem cANext_ok (F : HP) : C1OK Try.prog F fNext cANext :=
  mkC_ok (W := default) oldDef (fun p => .tuple [iv ((nextOf p.2.1).getD 0), .v (.bool (nextOf p.2.1).isSome)]) gClk_ro (fun _ => rfl) (fun p h => Anext_tri p.2.1 p.2.2.1) fun _ => ⟨rfl, rfl, ⟨rfl, trivial⟩, all_cons trivial all_nil, ⟨⟨trivial, trivial, trivial⟩, trivial⟩, all_cons trivial all_nil⟩
theorem cALen_ok (F : HP) : C1OK Try.prog F fCLen cALen :=
  mkC_ok (W := default) oldDef (fun p => iv (Int.ofNat p.2.1.length)) gClk_ro (fun _ => rfl) (fun p h => Alen_tri p.2.1 p.2.2.1) fun _ => ⟨rfl, rfl, ⟨rfl, trivial⟩, all_cons trivial all_nil, ⟨trivial, trivial⟩, all_cons trivial all_nil⟩
theorem none_due {L : List Al} {now : Int} (h : noneDue L now = true) : (dueL L now).1 = [] := List.isEmpty_iff.1 h
theorem some_due {L : List Al} {now : Int} (h : noneDue L now = false) : (dueL L now).1 ≠ [] := fun e => by
  unfold noneDue at h; rw [e] at h; cases h
theorem cADue_ok (F : HP) : C1OK Try.prog F fDue cADue := by
  refine mkC_ok (W := default) oldDef (fun p => idsA (dueL p.2.1 p.2.2.2.1).1) gClk_ro (fun p => ?_) (fun p h => ?_) fun p => ?_
  · simp only [rtDue, RT.pick]
    cases hd : noneDue p.2.1 p.2.2.2.1 with
    | true => rw [none_due hd]; rfl
    | false => rw [idsA_ne (some_due hd)]
  · have := Adue_tri p.2.1 p.2.2.1 p.2.2.2.1 h
    simp only [rtDue, RT.pick]
    cases hd : noneDue p.2.1 p.2.2.2.1 with
    | true => rw [none_due hd] at this ⊢; exact this
    | false => rw [idsH_ne (some_due hd)] at this; exact this
  · simp only [rtDue, RT.pick]
    cases hd : noneDue p.2.1 p.2.2.2.1 with
    | true => rw [none_due hd]; exact ⟨rfl, rfl, ⟨rfl, trivial, trivial⟩, all_cons trivial all_nil, ⟨trivial, trivial⟩, all_cons trivial all_nil⟩
    | false => rw [idsA_ne (some_due hd)]; exact ⟨rfl, rfl, ⟨rfl, trivial, trivial⟩, all_cons trivial all_nil, ⟨rfl, trivial⟩, all_cons trivial (ids_cl _ _)⟩
theorem speaks_calls (w : World) : Calls Try.prog fSpeaks (List.toArray []) w fun e w' => e = .returned (.bool true) ∧ Below w.heap.size w w' :=
  closed_call (args := []) mixed (fuel := 100000) (fun w => by kernel_rfl) w
theorem cASpeaks_ok (F : HP) : C1OK Try.prog F fSpeaks cASpeaks :=
  mkC_ok (W := default) oldDef (fun _ => .v (.bool true)) (fun _ => RO.ret _) (fun _ => rfl) (fun _ _ => tri_closed (args := []) speaks_calls) fun _ => ⟨rfl, rfl, trivial, all_nil, ⟨trivial, trivial⟩, all_nil⟩
/-! SameInts. -/
theorem row_int (l : List Int) (i : Nat) (d : AV) (h : i < l.length) : (rowV encI l).getD i d = iv (l.getD i 0) := by
  induction l generalizing i with
  | nil => cases h
  | cons x l ih =>
    cases i with
    | zero => rfl
    | succ i => exact ih i (by simpa using h)
/-- Few enough. -/
def RoomI (l : List Int) : Prop := l.length < 9223372036854775807
theorem same_fit (l : List Int) (k : Nat) : FitT [0, 1] [0, 1, 5] [isl 0 l, isl 1 l, iv (Int.ofNat k)] [some (idsO l), some (idsO l)] (aSame l k) (oSame l) [] := ⟨rfl, rfl, ⟨Wk.refl _, Wk.refl _, Wk.refl _, trivial⟩, ⟨⟨_, rfl, OW.of_eq (calm_ids _ _).symm⟩, ⟨_, rfl, OW.of_eq (calm_ids _ _).symm⟩, trivial⟩⟩
theorem same_loop (l : List Int) (hR : RoomI l) : LTri Try.prog default (loopN fSame 4) (tms 0 26 (aSame l 0)) (oSame l) (.exit 0) (tms 0 26 (aSame l l.length)) (oSame l) := by
  refine ltri_run (W := default) (g := fSame) (b := loopN fSame 4) (σ := {i : Nat // i ≤ l.length}) 26 (fun i => aSame l i.1) (fun _ => oSame l) (.exit 0) (aSame l l.length) (oSame l) (fun i => l.length - i.1) [0, 1] [0, 1, 5] (by intro h; cases h) (fun _ => rfl) rfl ?_ ⟨0, Nat.zero_le _⟩
  rintro ⟨i, hi⟩
  refine ⟨[], hSame i (l.getD i 0), [], fun _ _ => noC, fun _ _ => noL, fun F => ?_⟩
  refine cast (congrArg (VAll _) (oLoopSame_eq l i (l.getD i 0) F).symm) ?_
  rw [nat_ltC]
  refine ⟨⟨fun h1 => ⟨?_, rfl, .inl ⟨rfl, ⟨i + 1, of_decide_eq_true h1⟩, sub_down (of_decide_eq_true h1), [], same_fit l (i + 1)⟩⟩, fun h1 => ⟨trivial, rfl, .inr ⟨rfl, [], ?_⟩⟩⟩⟩
  · have h1 : i < l.length := of_decide_eq_true h1
    have hw := wrap_succ i (by unfold RoomI at hR; omega)
    have hg : ∀ d, (rowV encI l).getD i d = iv (l.getD i 0) := fun d => row_int l i d h1
    simp only [Cnd.holds, Nat.zero_add, Nat.mul_one, hg, len_idsO, Nat.blt_eq, h1, bne_self_eq_false, true_and, and_true]
    and_intros
    all_goals first
      | (with_reducible exact Wk.refl _)
      | (with_reducible exact wk_lit _)
      | (with_reducible exact wk_int hw)
      | exact rfl
      | exact Wk.refl _
  · have h1 : ¬ i < l.length := of_decide_eq_false h1
    have : i = l.length := by omega
    rw [this]; exact same_fit l _
theorem same_cl (K : Nat → Bool) (h0 : K 0 = true) (h1 : K 1 = true) (l : List Int) (i : Nat) : ∀ x ∈ aSame l i, AV.cl K x.2 := all_cons h0 (all_cons h1 (all_cons trivial all_nil))
theorem sameO_cl (K : Nat → Bool) (l : List Int) : ∀ x ∈ oSame l, x.2.cl K := all_cons (cls_rowV _ _) (all_cons (cls_rowV _ _) all_nil)
theorem lSame_ok (l : List Int) (hR : RoomI l) (F : HP) : L1OK Try.prog F (loopN fSame 4) (lSame l) :=
  mkL_ok (W := default) oldDef gSame_ro (fun _ _ => same_loop l hR) fun _ => closedT rfl rfl (same_cl _ rfl rfl l 0) (sameO_cl _ l) (same_cl _ rfl rfl l _) (sameO_cl _ l)
theorem same_tri (l : List Int) (hR : RoomI l) : Tri Try.prog default fSame [isl 0 l, isl 1 l] (oSame l) (.v (.bool true)) (oSame l) := by
  refine tri_run (con := []) (hints := hSame1 l.length) (lc := [(fSame, 4, loopN fSame 4, lSame l)]) [0, 1] rfl (fun _ _ => noC) (fun F _ => one_l (lSame_ok l hR F)) fun F => ?_
  refine cast (congrArg (VAll _) (oSame_eq l F).symm) ⟨⟨?_, (fit_mk (vs' := [.v (.bool true)]) (H' := oSame l) [] rfl rfl (VW.refl _) ⟨⟨_, rfl, OW.of_eq ?_⟩, ⟨_, rfl, OW.of_eq ?_⟩, trivial⟩).fits rfl⟩⟩
  · simp only [Cnd.holds, rens_rowV, bne_self_eq_false, true_and, and_true]
    and_intros
    all_goals first
      | (with_reducible exact rfl)
      | (with_reducible exact Wk.refl _)
      | (with_reducible exact OW.refl _)
      | (with_reducible exact wk_lit _)
      | exact Wk.refl _
      | (repeat (first | exact VW.nil | refine VW.cons (Wk.refl _) ?_ | refine VW.cons (Wk.any _) ?_))
      | exact Wk.refl _
  all_goals
    show _ = (idsO l).ren _
    rw [calm_ids, rens_rowV]; rfl
theorem sameL_tri : Tri Try.prog default fSame [nilV, isl 0 []] [(0, idsO [])] (.v (.bool true)) [(0, idsO [])] := by
  refine tri_run (con := []) (hints := hSame0) (lc := []) [0] rfl (fun _ _ => noC) (fun F _ => noL) fun F => ?_
  exact cast (congrArg (VAll _) (oSameL_eq F).symm) ⟨⟨⟨⟨wk_lit _, trivial⟩, ⟨wk_lit _, trivial⟩, trivial⟩, fits_own1 (fun _ => rfl) (fun _ => rfl)⟩⟩
theorem sameR_tri : Tri Try.prog default fSame [isl 0 [], nilV] [(0, idsO [])] (.v (.bool true)) [(0, idsO [])] := by
  refine tri_run (con := []) (hints := hSame0) (lc := []) [0] rfl (fun _ _ => noC) (fun F _ => noL) fun F => ?_
  exact cast (congrArg (VAll _) (oSameR_eq F).symm) ⟨⟨⟨⟨wk_lit _, trivial⟩, ⟨wk_lit _, trivial⟩, trivial⟩, fits_own1 (fun _ => rfl) (fun _ => rfl)⟩⟩
theorem cSameB_ok (l : List Int) (hR : RoomI l) (F : HP) : C1OK Try.prog F fSame (cSameB l) :=
  mkC_ok (W := default) oldDef (fun _ => .v (.bool true)) gSame_ro (fun _ => rfl) (fun _ _ => same_tri l hR) (fun _ => ⟨rfl, rfl, ⟨rfl, rfl, trivial⟩, sameO_cl _ l, ⟨trivial, trivial⟩, sameO_cl _ l⟩)
theorem cSameR_ok (F : HP) : C1OK Try.prog F fSame cSameR :=
  mkC_ok (W := default) oldDef (fun _ => .v (.bool true)) gSame_ro (fun _ => rfl) (fun _ _ => sameR_tri) (fun _ => ⟨rfl, rfl, ⟨rfl, trivial, trivial⟩, all_cons trivial all_nil, ⟨trivial, trivial⟩, all_cons trivial all_nil⟩)
theorem cSameL_ok (F : HP) : C1OK Try.prog F fSame cSameL :=
  mkC_ok (W := default) oldDef (fun _ => .v (.bool true)) gSame_ro (fun _ => rfl) (fun _ _ => sameL_tri) (fun _ => ⟨rfl, rfl, ⟨trivial, rfl, trivial⟩, all_cons trivial all_nil, ⟨trivial, trivial⟩, all_cons trivial all_nil⟩)
theorem cSame_ok (l : List Int) (hR : RoomI l) (F : HP) : C1OK Try.prog F fSame (cSame l) := by
  intro st W0 N h w args vargs v h' n n' lg lg' c p hp he hc r ha hf
  unfold cSame at hp
  split at hp
  · exact cSameB_ok l hR F st W0 N h w _ vargs v h' n n' lg lg' c p hp he hc r ha hf
  · exact cSameR_ok F st W0 N h w _ vargs v h' n n' lg lg' c p hp he hc r ha hf
  · exact cSameL_ok F st W0 N h w _ vargs v h' n n' lg lg' c p hp he hc r ha hf
end Go.Proofs.Ytojfbgmeaadanaa.Alm

/- AlarmsSplit: runs. -/
set_option linter.unusedVariables false
set_option linter.unusedSimpArgs false
set_option maxRecDepth 100000
namespace Go.Proofs.Ytojfbgmeaadanaa.Alm
open Go Go.RowKit Go.Proofs.Ytojfbgmeaadanaa.Eng Go.Proofs.Ytojfbgmeaadanaa.Kit
noncomputable section
abbrev fSplit : Nat := 3
def enc2 (x : Al) : List Value := [.int .i64 x.id, .int .i64 x.tk]
def conA (l : List Int) : ConsL := [(fNew, cANew), (fSet, cASet), (fDue, cADue), (fCLen, cALen), (fCan, cACan), (fAt, cAAt), (fNext, cANext), (fSame, cSame l), (fSpeaks, cASpeaks)]
def aSp (V : AV) (n k : Nat) (a b : Int) : List (Nat × AV) := [(1, iv a), (2, iv b), (7, .ptr 0 0), (8, .ptr 1 0), (30, V), (31, iv (Int.ofNat n)), (32, iv (Int.ofNat k))]
def zSp (a b : Int) : List (Nat × AV) := [(1, iv a), (2, iv b), (7, .ptr 0 0), (8, .ptr 1 0)]
def oSp (L : List Al) (k : Nat) : LH := [(0, clO L (Int.ofNat k)), (1, clO L (Int.ofNat k))]
def hSp (k : Nat) (x : Al) : ClaimT := hintL [(fSplit, 7, 0, hv (.lit true)), (fSplit, 8, 1, hv (.agg (vmap (enc2 x)))), (fSplit, 11, 0, hv (iv (Int.ofNat (k + 1))))]
def hSpE : ClaimT := hintL [(fSplit, 7, 0, hv (.lit false))]
theorem oSpRound_eq (W : World) (ad : Addr) (n c k : Nat) (a b : Int) (L : List Al) (x : Al) (F : HP) : wLoop (conA []) (hSp k x) [] W fSplit (loopN fSplit 7) (tms 0 71 (aSp (slV (some ad) n c) n k a b)) (oSp L k) [0, 1] [1, 2, 7, 8, 30, 31, 32] F = VT.leaf (AX.normal, [AV.v (Value.int IntKind.i64 a), AV.v (Value.int IntKind.i64 b), AV.ptr 0 0, AV.ptr 1 0, AV.v (Value.slice (some ad) n c), AV.v (Value.int IntKind.i64 (Int.ofNat n)), AV.v (Value.int IntKind.i64 (Int.ofNat (k + 1)))], 71) [some (AO.own (Md.clock (setL L (intA (AV.v (Value.int IntKind.i64 x.id))) (intA (AV.v (Value.int IntKind.i64 x.tk)))) (Int.ofNat k + Int.ofNat 1)) (clH (setL L (intA (AV.v (Value.int IntKind.i64 x.id))) (intA (AV.v (Value.int IntKind.i64 x.tk)))) (Int.ofNat k + Int.ofNat 1))), some (AO.own (Md.clock (setL L (intA (AV.v (Value.int IntKind.i64 x.id))) (intA (AV.v (Value.int IntKind.i64 x.tk)))) (Int.ofNat k + Int.ofNat 1)) (clH (setL L (intA (AV.v (Value.int IntKind.i64 x.id))) (intA (AV.v (Value.int IntKind.i64 x.tk)))) (Int.ofNat k + Int.ofNat 1)))] 1101 (((Cnd.p (Wk (AV.v (Value.bool (decide (Int.ofNat k < Int.ofNat n)))) (AV.lit true))).a Cnd.t).a (((Cnd.p (k.blt n = true)).a Cnd.t).a (((Cnd.p (([0, 1].all fun j => (W.cell? ((ad.add (k * 2)).add j)).isSome) = true)).a ((Cnd.p ([AV.v ((W.cell? ((ad.add (k * 2)).add 0)).getD (Value.tuple (Array.mk []))), AV.v ((W.cell? (Addr.mk (ad.add (k * 2)).block ((ad.add (k * 2)).off + 1) none)).getD (Value.tuple (Array.mk [])))] = [AV.v (Value.int IntKind.i64 (AV.v ((W.cell? ((ad.add (k * 2)).add 0)).getD (Value.tuple (Array.mk [])))).intOf), AV.v (Value.int IntKind.i64 (AV.v ((W.cell? (Addr.mk (ad.add (k * 2)).block ((ad.add (k * 2)).off + 1) none)).getD (Value.tuple (Array.mk [])))).intOf)])).a ((Cnd.p (Wk (AV.agg [AV.v (Value.int IntKind.i64 (AV.v ((W.cell? ((ad.add (k * 2)).add 0)).getD (Value.tuple (Array.mk [])))).intOf), AV.v (Value.int IntKind.i64 (AV.v ((W.cell? (Addr.mk (ad.add (k * 2)).block ((ad.add (k * 2)).off + 1) none)).getD (Value.tuple (Array.mk [])))).intOf)]) (AV.agg [AV.v (Value.int IntKind.i64 x.id), AV.v (Value.int IntKind.i64 x.tk)]))).a Cnd.t))).a (((Cnd.p (true = true)).a Cnd.t).a (((Cnd.p (true = true)).a ((Cnd.p (AV.v (Value.int IntKind.i64 x.id) = AV.v (Value.int IntKind.i64 x.id))).a Cnd.t)).a (((Cnd.p (true = true)).a ((Cnd.p (AV.v (Value.int IntKind.i64 x.tk) = AV.v (Value.int IntKind.i64 x.tk))).a Cnd.t)).a (((Cnd.p (RoomL L ∧ TnOK (Int.ofNat k))).a ((Cnd.p (VW [AV.ptr 0 0, AV.v (Value.int IntKind.i64 x.id), AV.v (Value.int IntKind.i64 x.tk)] [AV.ptr 0 0, AV.v (Value.int IntKind.i64 (intA (AV.v (Value.int IntKind.i64 x.id)))), AV.v (Value.int IntKind.i64 (intA (AV.v (Value.int IntKind.i64 x.tk))))])).a ((Cnd.p (OW (AO.own (Md.clock L (Int.ofNat k)) (clH L (Int.ofNat k))) (AO.own (Md.clock L (Int.ofNat k)) (clH L (Int.ofNat k))))).a Cnd.t))).a (((Cnd.p (true = true)).a ((Cnd.p (AV.v (Value.int IntKind.i64 x.id) = AV.v (Value.int IntKind.i64 x.id))).a Cnd.t)).a (((Cnd.p (true = true)).a ((Cnd.p (AV.v (Value.int IntKind.i64 x.tk) = AV.v (Value.int IntKind.i64 x.tk))).a Cnd.t)).a (((Cnd.p (RoomL L ∧ TnOK (Int.ofNat k))).a ((Cnd.p (VW [AV.ptr 1 0, AV.v (Value.int IntKind.i64 x.id), AV.v (Value.int IntKind.i64 x.tk)] [AV.ptr 1 0, AV.v (Value.int IntKind.i64 (intA (AV.v (Value.int IntKind.i64 x.id)))), AV.v (Value.int IntKind.i64 (intA (AV.v (Value.int IntKind.i64 x.tk))))])).a ((Cnd.p (OW (AO.own (Md.clock L (Int.ofNat k)) (clH L (Int.ofNat k))) (AO.own (Md.clock L (Int.ofNat k)) (clH L (Int.ofNat k))))).a Cnd.t))).a (((Cnd.p (Wk (AV.v (Value.int IntKind.i64 (IntKind.i64.wrap (Int.ofNat k + Int.ofNat 1)))) (AV.v (Value.int IntKind.i64 (Int.ofNat (k + 1)))))).a Cnd.t).a Cnd.t))))))))))) := by kernel_rfl
theorem oSpEnd_eq (W : World) (V : AV) (n k : Nat) (a b : Int) (L : List Al) (F : HP) : wLoop (conA []) hSpE [] W fSplit (loopN fSplit 7) (tms 0 71 (aSp V n k a b)) (oSp L k) [0, 1] [1, 2, 7, 8, 30, 31, 32] F = VT.leaf (AX.exit 0, [AV.v (Value.int IntKind.i64 a), AV.v (Value.int IntKind.i64 b), AV.ptr 0 0, AV.ptr 1 0, getL [AV.any, AV.v (Value.int IntKind.i64 a), AV.v (Value.int IntKind.i64 b), AV.any, AV.any, AV.any, AV.any, AV.ptr 0 0, AV.ptr 1 0, AV.any, AV.any, AV.any, AV.any, AV.any, AV.any, AV.any, AV.any, AV.any, AV.any, AV.any, AV.any, AV.any, AV.any, AV.any, AV.any, AV.any, AV.any, AV.any, AV.any, AV.any, V, AV.v (Value.int IntKind.i64 (Int.ofNat n)), AV.v (Value.int IntKind.i64 (Int.ofNat k)), AV.lit false, AV.any, AV.any, AV.any, AV.any, AV.any, AV.any, AV.any, AV.any, AV.any, AV.any, AV.any, AV.any, AV.any, AV.any, AV.any, AV.any, AV.any, AV.any, AV.any, AV.any, AV.any, AV.any, AV.any, AV.any, AV.any, AV.any, AV.any, AV.any, AV.any, AV.any, AV.any, AV.any, AV.any, AV.any, AV.any, AV.any, AV.any] 30, AV.v (Value.int IntKind.i64 (Int.ofNat n)), AV.v (Value.int IntKind.i64 (Int.ofNat k))], 71) [some (AO.own (Md.clock L (Int.ofNat k)) (clH L (Int.ofNat k))), some (AO.own (Md.clock L (Int.ofNat k)) (clH L (Int.ofNat k)))] 1100 (((Cnd.p (Wk (AV.v (Value.bool (decide (Int.ofNat k < Int.ofNat n)))) (AV.lit false))).a Cnd.t).a Cnd.t) := by kernel_rfl
def gTwoP (i j : Nat) : List AV → AP (Nat × Nat) := fun tmps => match getL tmps i with
  | .ptr r0 _ => match getL tmps j with
    | .ptr r1 _ => .ret (r0, r1)
    | _ => .fail "two"
  | _ => .fail "two"
def lSp (V : AV) (n : Nat) (a b : Int) (L : List Al) : List AV → AP (AX × List AV) := mkL (gTwoP 7 8) (fun _ => True) (fun p => nm2 p.1 p.2) (fun _ => tms 0 71 (aSp V n 0 a b)) (fun _ => oSp [] 0) (fun _ => .leaf (.exit 0) (tms 0 71 (zSp a b)) (oSp L n))
def hSpL : ClaimT := hintL [(fSplit, 1, 1, hv (.lit false)), (fSplit, 4, 1, hv (.lit false)), (fSplit, 4, 4, hv (.lit false)), (fSplit, 4, 9, hv (.lit false)), (fSplit, 14, 4, hv (.lit true)), (fSplit, 14, 10, hv (.lit true))]
theorem oSpG_eq (W : World) (V : AV) (n : Nat) (a b : Int) (L : List Al) (F : HP) : wRun (conA []) (hintL [(fSplit, 1, 1, hv (.lit false)), (fSplit, 4, 1, hv (.lit false)), (fSplit, 4, 4, hv (.lit false)), (fSplit, 4, 9, hv (.lit true))]) [(fSplit, 7, loopN fSplit 7, lSp V n a b L)] W fSplit [V, iv a, iv b] [] [] F = VT.leaf (AV.v (Value.bool (decide (a > b)))) [] 1102 (((Cnd.p True).a ((Cnd.p (VW [] [])).a Cnd.t)).a (((Cnd.p (Wk (AV.v (Value.bool false)) (AV.lit false))).a Cnd.t).a (((Cnd.p True).a ((Cnd.p (VW [] [])).a Cnd.t)).a (((Cnd.p True).a ((Cnd.p (VW [] [])).a Cnd.t)).a (((Cnd.p (Wk (AV.v (Value.bool false)) (AV.lit false))).a Cnd.t).a (((Cnd.p (Wk (AV.v (Value.bool false)) (AV.lit false))).a Cnd.t).a (((Cnd.p (Wk (AV.v (Value.bool (decide (a > b)))) (AV.lit true))).a Cnd.t).a Cnd.t))))))) := by kernel_rfl
theorem oSpL_eq (W : World) (oa : Option Addr) (n c : Nat) (a b : Int) (L : List Al) (l : List Int) (F : HP) : wRun (conA l) hSpL [(fSplit, 7, loopN fSplit 7, lSp (slV oa n c) n a b L)] W fSplit [slV oa n c, iv a, iv b] [] [] F = VT.ite (noneDue L a) (VT.ite (noneDue (dueL L a).snd b) (VT.ite (noneDue L b) (VT.leaf (AV.v (Value.bool true)) [] 1103 (((Cnd.p True).a ((Cnd.p (VW [] [])).a Cnd.t)).a (((Cnd.p (Wk (AV.v (Value.bool false)) (AV.lit false))).a Cnd.t).a (((Cnd.p True).a ((Cnd.p (VW [] [])).a Cnd.t)).a (((Cnd.p True).a ((Cnd.p (VW [] [])).a Cnd.t)).a (((Cnd.p (Wk (AV.v (Value.bool false)) (AV.lit false))).a Cnd.t).a (((Cnd.p (Wk (AV.v (Value.bool false)) (AV.lit false))).a Cnd.t).a (((Cnd.p (Wk (AV.v (Value.bool (decide (a > b)))) (AV.lit false))).a Cnd.t).a ((Cnd.p ((fSplit, 7, loopN fSplit 7, lSp (slV oa n c) n a b L).snd.snd.fst = (fSplit, 7, loopN fSplit 7, lSp (slV oa n c) n a b L).snd.snd.fst)).a ((Cnd.p True).a ((Cnd.p (VW [AV.v (Value.slice oa n c), AV.v (Value.int IntKind.i64 a), AV.v (Value.int IntKind.i64 b), AV.v (Value.tuple (Array.mk [])), AV.v (Value.tuple (Array.mk [])), AV.v (Value.tuple (Array.mk [])), AV.v (Value.bool false), AV.ptr 1100 0, AV.ptr 1101 0, AV.v (Value.tuple (Array.mk [])), AV.v (Value.tuple (Array.mk [])), AV.v (Value.tuple (Array.mk [])), AV.v (Value.bool true), AV.lit false, AV.ptr 1100 0, AV.ptr 1101 0, AV.ptr 1100 0, AV.lit false, AV.lit false, AV.ptr 1101 0, AV.lit false, AV.lit false, AV.lit false, AV.v (Value.int IntKind.i64 a), AV.v (Value.int IntKind.i64 b), AV.lit false, AV.lit false, AV.v (Value.tuple (Array.mk [])), AV.v (Value.tuple (Array.mk [])), AV.v (Value.tuple (Array.mk [])), AV.v (Value.slice oa n c), AV.v (Value.int IntKind.i64 ↑n), AV.v (Value.int IntKind.i64 (Int.ofNat 0)), AV.v (Value.tuple (Array.mk [])), AV.v (Value.tuple (Array.mk [])), AV.v (Value.tuple (Array.mk [])), AV.v (Value.tuple (Array.mk [])), AV.v (Value.tuple (Array.mk [])), AV.v (Value.tuple (Array.mk [])), AV.v (Value.tuple (Array.mk [])), AV.v (Value.tuple (Array.mk [])), AV.v (Value.tuple (Array.mk [])), AV.v (Value.tuple (Array.mk [])), AV.v (Value.tuple (Array.mk [])), AV.v (Value.tuple (Array.mk [])), AV.v (Value.tuple (Array.mk [])), AV.v (Value.tuple (Array.mk [])), AV.v (Value.tuple (Array.mk [])), AV.v (Value.tuple (Array.mk [])), AV.v (Value.tuple (Array.mk [])), AV.v (Value.tuple (Array.mk [])), AV.v (Value.tuple (Array.mk [])), AV.v (Value.tuple (Array.mk [])), AV.v (Value.tuple (Array.mk [])), AV.v (Value.tuple (Array.mk [])), AV.v (Value.tuple (Array.mk [])), AV.v (Value.tuple (Array.mk [])), AV.v (Value.tuple (Array.mk [])), AV.v (Value.tuple (Array.mk [])), AV.v (Value.tuple (Array.mk [])), AV.v (Value.tuple (Array.mk [])), AV.v (Value.tuple (Array.mk [])), AV.v (Value.tuple (Array.mk [])), AV.v (Value.tuple (Array.mk [])), AV.v (Value.tuple (Array.mk [])), AV.v (Value.tuple (Array.mk [])), AV.v (Value.tuple (Array.mk [])), AV.v (Value.tuple (Array.mk [])), AV.v (Value.tuple (Array.mk [])), AV.v (Value.tuple (Array.mk [])), AV.v (Value.tuple (Array.mk []))] [AV.any, AV.v (Value.int IntKind.i64 a), AV.v (Value.int IntKind.i64 b), AV.any, AV.any, AV.any, AV.any, AV.ptr 1100 0, AV.ptr 1101 0, AV.any, AV.any, AV.any, AV.any, AV.any, AV.any, AV.any, AV.any, AV.any, AV.any, AV.any, AV.any, AV.any, AV.any, AV.any, AV.any, AV.any, AV.any, AV.any, AV.any, AV.any, AV.v (Value.slice oa n c), AV.v (Value.int IntKind.i64 (Int.ofNat n)), AV.v (Value.int IntKind.i64 (Int.ofNat 0)), AV.any, AV.any, AV.any, AV.any, AV.any, AV.any, AV.any, AV.any, AV.any, AV.any, AV.any, AV.any, AV.any, AV.any, AV.any, AV.any, AV.any, AV.any, AV.any, AV.any, AV.any, AV.any, AV.any, AV.any, AV.any, AV.any, AV.any, AV.any, AV.any, AV.any, AV.any, AV.any, AV.any, AV.any, AV.any, AV.any, AV.any, AV.any])).a ((Cnd.p (OW (AO.own (Md.clock [] (Int.ofNat 0)) (clH [] (Int.ofNat 0))) (AO.own (Md.clock [] (Int.ofNat 0)) (clH [] (Int.ofNat 0))))).a ((Cnd.p (OW (AO.own (Md.clock [] (Int.ofNat 0)) (clH [] (Int.ofNat 0))) (AO.own (Md.clock [] (Int.ofNat 0)) (clH [] (Int.ofNat 0))))).a (((Cnd.p (BigL L)).a ((Cnd.p (VW [AV.ptr 1100 0, AV.v (Value.int IntKind.i64 a)] [AV.ptr 1100 0, AV.v (Value.int IntKind.i64 a)])).a ((Cnd.p (OW (AO.own (Md.clock L (Int.ofNat n)) (clH L (Int.ofNat n))) (AO.own (Md.clock L (Int.ofNat n)) (clH L (Int.ofNat n))))).a Cnd.t))).a (((Cnd.p (0 = 0)).a Cnd.t).a (((Cnd.p (BigL (dueL L a).snd)).a ((Cnd.p (VW [AV.ptr 1100 0, AV.v (Value.int IntKind.i64 b)] [AV.ptr 1100 0, AV.v (Value.int IntKind.i64 b)])).a ((Cnd.p (OW (AO.own (Md.clock (dueL L a).snd (Int.ofNat n)) (clH (dueL L a).snd (Int.ofNat n))) (AO.own (Md.clock (dueL L a).snd (Int.ofNat n)) (clH (dueL L a).snd (Int.ofNat n))))).a Cnd.t))).a (((Cnd.p (0 = 0)).a Cnd.t).a (((Cnd.p (BigL L)).a ((Cnd.p (VW [AV.ptr 1101 0, AV.v (Value.int IntKind.i64 b)] [AV.ptr 1101 0, AV.v (Value.int IntKind.i64 b)])).a ((Cnd.p (OW (AO.own (Md.clock L (Int.ofNat n)) (clH L (Int.ofNat n))) (AO.own (Md.clock L (Int.ofNat n)) (clH L (Int.ofNat n))))).a Cnd.t))).a (((Cnd.p True).a ((Cnd.p (VW [AV.slice 1102 0 0 1 (Cp.ex 0), AV.v (Value.slice none 0 0)] [AV.slice 1102 0 0 1 (Cp.lo 0), AV.v (Value.slice none 0 0)])).a ((Cnd.p (OW (AO.cells [] 6) (AO.cells [] 6))).a ((Cnd.p (Wk (AV.v (Value.bool true)) (AV.lit true))).a Cnd.t)))).a (((Cnd.p True).a ((Cnd.p (VW [AV.ptr 1100 0] [AV.ptr 1100 0])).a ((Cnd.p (OW (AO.own (Md.clock (dueL (dueL L a).snd b).snd (Int.ofNat n)) (clH (dueL (dueL L a).snd b).snd (Int.ofNat n))) (AO.own (Md.clock (dueL (dueL L a).snd b).snd (Int.ofNat n)) (clH (dueL (dueL L a).snd b).snd (Int.ofNat n))))).a Cnd.t))).a (((Cnd.p True).a ((Cnd.p (VW [AV.ptr 1101 0] [AV.ptr 1101 0])).a ((Cnd.p (OW (AO.own (Md.clock (dueL L b).snd (Int.ofNat n)) (clH (dueL L b).snd (Int.ofNat n))) (AO.own (Md.clock (dueL L b).snd (Int.ofNat n)) (clH (dueL L b).snd (Int.ofNat n))))).a Cnd.t))).a (((Cnd.p (Wk (AV.v (Value.bool (Int.ofNat (dueL (dueL L a).snd b).snd.length == Int.ofNat (dueL L b).snd.length))) (AV.lit true))).a Cnd.t).a Cnd.t)))))))))))))))))))))) (VT.leaf (AV.v (Value.bool true)) [] 1104 (((Cnd.p True).a ((Cnd.p (VW [] [])).a Cnd.t)).a (((Cnd.p (Wk (AV.v (Value.bool false)) (AV.lit false))).a Cnd.t).a (((Cnd.p True).a ((Cnd.p (VW [] [])).a Cnd.t)).a (((Cnd.p True).a ((Cnd.p (VW [] [])).a Cnd.t)).a (((Cnd.p (Wk (AV.v (Value.bool false)) (AV.lit false))).a Cnd.t).a (((Cnd.p (Wk (AV.v (Value.bool false)) (AV.lit false))).a Cnd.t).a (((Cnd.p (Wk (AV.v (Value.bool (decide (a > b)))) (AV.lit false))).a Cnd.t).a ((Cnd.p ((fSplit, 7, loopN fSplit 7, lSp (slV oa n c) n a b L).snd.snd.fst = (fSplit, 7, loopN fSplit 7, lSp (slV oa n c) n a b L).snd.snd.fst)).a ((Cnd.p True).a ((Cnd.p (VW [AV.v (Value.slice oa n c), AV.v (Value.int IntKind.i64 a), AV.v (Value.int IntKind.i64 b), AV.v (Value.tuple (Array.mk [])), AV.v (Value.tuple (Array.mk [])), AV.v (Value.tuple (Array.mk [])), AV.v (Value.bool false), AV.ptr 1100 0, AV.ptr 1101 0, AV.v (Value.tuple (Array.mk [])), AV.v (Value.tuple (Array.mk [])), AV.v (Value.tuple (Array.mk [])), AV.v (Value.bool true), AV.lit false, AV.ptr 1100 0, AV.ptr 1101 0, AV.ptr 1100 0, AV.lit false, AV.lit false, AV.ptr 1101 0, AV.lit false, AV.lit false, AV.lit false, AV.v (Value.int IntKind.i64 a), AV.v (Value.int IntKind.i64 b), AV.lit false, AV.lit false, AV.v (Value.tuple (Array.mk [])), AV.v (Value.tuple (Array.mk [])), AV.v (Value.tuple (Array.mk [])), AV.v (Value.slice oa n c), AV.v (Value.int IntKind.i64 ↑n), AV.v (Value.int IntKind.i64 (Int.ofNat 0)), AV.v (Value.tuple (Array.mk [])), AV.v (Value.tuple (Array.mk [])), AV.v (Value.tuple (Array.mk [])), AV.v (Value.tuple (Array.mk [])), AV.v (Value.tuple (Array.mk [])), AV.v (Value.tuple (Array.mk [])), AV.v (Value.tuple (Array.mk [])), AV.v (Value.tuple (Array.mk [])), AV.v (Value.tuple (Array.mk [])), AV.v (Value.tuple (Array.mk [])), AV.v (Value.tuple (Array.mk [])), AV.v (Value.tuple (Array.mk [])), AV.v (Value.tuple (Array.mk [])), AV.v (Value.tuple (Array.mk [])), AV.v (Value.tuple (Array.mk [])), AV.v (Value.tuple (Array.mk [])), AV.v (Value.tuple (Array.mk [])), AV.v (Value.tuple (Array.mk [])), AV.v (Value.tuple (Array.mk [])), AV.v (Value.tuple (Array.mk [])), AV.v (Value.tuple (Array.mk [])), AV.v (Value.tuple (Array.mk [])), AV.v (Value.tuple (Array.mk [])), AV.v (Value.tuple (Array.mk [])), AV.v (Value.tuple (Array.mk [])), AV.v (Value.tuple (Array.mk [])), AV.v (Value.tuple (Array.mk [])), AV.v (Value.tuple (Array.mk [])), AV.v (Value.tuple (Array.mk [])), AV.v (Value.tuple (Array.mk [])), AV.v (Value.tuple (Array.mk [])), AV.v (Value.tuple (Array.mk [])), AV.v (Value.tuple (Array.mk [])), AV.v (Value.tuple (Array.mk [])), AV.v (Value.tuple (Array.mk [])), AV.v (Value.tuple (Array.mk [])), AV.v (Value.tuple (Array.mk [])), AV.v (Value.tuple (Array.mk []))] [AV.any, AV.v (Value.int IntKind.i64 a), AV.v (Value.int IntKind.i64 b), AV.any, AV.any, AV.any, AV.any, AV.ptr 1100 0, AV.ptr 1101 0, AV.any, AV.any, AV.any, AV.any, AV.any, AV.any, AV.any, AV.any, AV.any, AV.any, AV.any, AV.any, AV.any, AV.any, AV.any, AV.any, AV.any, AV.any, AV.any, AV.any, AV.any, AV.v (Value.slice oa n c), AV.v (Value.int IntKind.i64 (Int.ofNat n)), AV.v (Value.int IntKind.i64 (Int.ofNat 0)), AV.any, AV.any, AV.any, AV.any, AV.any, AV.any, AV.any, AV.any, AV.any, AV.any, AV.any, AV.any, AV.any, AV.any, AV.any, AV.any, AV.any, AV.any, AV.any, AV.any, AV.any, AV.any, AV.any, AV.any, AV.any, AV.any, AV.any, AV.any, AV.any, AV.any, AV.any, AV.any, AV.any, AV.any, AV.any, AV.any, AV.any, AV.any])).a ((Cnd.p (OW (AO.own (Md.clock [] (Int.ofNat 0)) (clH [] (Int.ofNat 0))) (AO.own (Md.clock [] (Int.ofNat 0)) (clH [] (Int.ofNat 0))))).a ((Cnd.p (OW (AO.own (Md.clock [] (Int.ofNat 0)) (clH [] (Int.ofNat 0))) (AO.own (Md.clock [] (Int.ofNat 0)) (clH [] (Int.ofNat 0))))).a (((Cnd.p (BigL L)).a ((Cnd.p (VW [AV.ptr 1100 0, AV.v (Value.int IntKind.i64 a)] [AV.ptr 1100 0, AV.v (Value.int IntKind.i64 a)])).a ((Cnd.p (OW (AO.own (Md.clock L (Int.ofNat n)) (clH L (Int.ofNat n))) (AO.own (Md.clock L (Int.ofNat n)) (clH L (Int.ofNat n))))).a Cnd.t))).a (((Cnd.p (0 = 0)).a Cnd.t).a (((Cnd.p (BigL (dueL L a).snd)).a ((Cnd.p (VW [AV.ptr 1100 0, AV.v (Value.int IntKind.i64 b)] [AV.ptr 1100 0, AV.v (Value.int IntKind.i64 b)])).a ((Cnd.p (OW (AO.own (Md.clock (dueL L a).snd (Int.ofNat n)) (clH (dueL L a).snd (Int.ofNat n))) (AO.own (Md.clock (dueL L a).snd (Int.ofNat n)) (clH (dueL L a).snd (Int.ofNat n))))).a Cnd.t))).a (((Cnd.p (0 = 0)).a Cnd.t).a (((Cnd.p (BigL L)).a ((Cnd.p (VW [AV.ptr 1101 0, AV.v (Value.int IntKind.i64 b)] [AV.ptr 1101 0, AV.v (Value.int IntKind.i64 b)])).a ((Cnd.p (OW (AO.own (Md.clock L (Int.ofNat n)) (clH L (Int.ofNat n))) (AO.own (Md.clock L (Int.ofNat n)) (clH L (Int.ofNat n))))).a Cnd.t))).a (((Cnd.p True).a ((Cnd.p (VW [AV.slice 1102 0 0 1 (Cp.ex 0), AV.slice 1103 0 (dueL L b).fst.length 1 (Cp.lo (dueL L b).fst.length)] [AV.slice 1102 0 l.length 1 (Cp.lo l.length), AV.slice 1103 0 l.length 1 (Cp.lo l.length)])).a ((Cnd.p (OW (AO.cells [] 6) (AO.cells (AV.rens (nm2 1102 1103) (rowV encI l)) 6))).a ((Cnd.p (OW (AO.cells (AV.rens (sgN (fun x => 1101) [1010] 1103) (rowV encI (dueL L b).fst)) 6) (AO.cells (AV.rens (nm2 1102 1103) (rowV encI l)) 6))).a ((Cnd.p (Wk (AV.v (Value.bool true)) (AV.lit true))).a Cnd.t))))).a (((Cnd.p True).a ((Cnd.p (VW [AV.ptr 1100 0] [AV.ptr 1100 0])).a ((Cnd.p (OW (AO.own (Md.clock (dueL (dueL L a).snd b).snd (Int.ofNat n)) (clH (dueL (dueL L a).snd b).snd (Int.ofNat n))) (AO.own (Md.clock (dueL (dueL L a).snd b).snd (Int.ofNat n)) (clH (dueL (dueL L a).snd b).snd (Int.ofNat n))))).a Cnd.t))).a (((Cnd.p True).a ((Cnd.p (VW [AV.ptr 1101 0] [AV.ptr 1101 0])).a ((Cnd.p (OW (AO.own (Md.clock (dueL L b).snd (Int.ofNat n)) (clH (dueL L b).snd (Int.ofNat n))) (AO.own (Md.clock (dueL L b).snd (Int.ofNat n)) (clH (dueL L b).snd (Int.ofNat n))))).a Cnd.t))).a (((Cnd.p (Wk (AV.v (Value.bool (Int.ofNat (dueL (dueL L a).snd b).snd.length == Int.ofNat (dueL L b).snd.length))) (AV.lit true))).a Cnd.t).a Cnd.t))))))))))))))))))))))) (VT.ite (noneDue L b) (VT.leaf (AV.v (Value.bool true)) [] 1105 (((Cnd.p True).a ((Cnd.p (VW [] [])).a Cnd.t)).a (((Cnd.p (Wk (AV.v (Value.bool false)) (AV.lit false))).a Cnd.t).a (((Cnd.p True).a ((Cnd.p (VW [] [])).a Cnd.t)).a (((Cnd.p True).a ((Cnd.p (VW [] [])).a Cnd.t)).a (((Cnd.p (Wk (AV.v (Value.bool false)) (AV.lit false))).a Cnd.t).a (((Cnd.p (Wk (AV.v (Value.bool false)) (AV.lit false))).a Cnd.t).a (((Cnd.p (Wk (AV.v (Value.bool (decide (a > b)))) (AV.lit false))).a Cnd.t).a ((Cnd.p ((fSplit, 7, loopN fSplit 7, lSp (slV oa n c) n a b L).snd.snd.fst = (fSplit, 7, loopN fSplit 7, lSp (slV oa n c) n a b L).snd.snd.fst)).a ((Cnd.p True).a ((Cnd.p (VW [AV.v (Value.slice oa n c), AV.v (Value.int IntKind.i64 a), AV.v (Value.int IntKind.i64 b), AV.v (Value.tuple (Array.mk [])), AV.v (Value.tuple (Array.mk [])), AV.v (Value.tuple (Array.mk [])), AV.v (Value.bool false), AV.ptr 1100 0, AV.ptr 1101 0, AV.v (Value.tuple (Array.mk [])), AV.v (Value.tuple (Array.mk [])), AV.v (Value.tuple (Array.mk [])), AV.v (Value.bool true), AV.lit false, AV.ptr 1100 0, AV.ptr 1101 0, AV.ptr 1100 0, AV.lit false, AV.lit false, AV.ptr 1101 0, AV.lit false, AV.lit false, AV.lit false, AV.v (Value.int IntKind.i64 a), AV.v (Value.int IntKind.i64 b), AV.lit false, AV.lit false, AV.v (Value.tuple (Array.mk [])), AV.v (Value.tuple (Array.mk [])), AV.v (Value.tuple (Array.mk [])), AV.v (Value.slice oa n c), AV.v (Value.int IntKind.i64 ↑n), AV.v (Value.int IntKind.i64 (Int.ofNat 0)), AV.v (Value.tuple (Array.mk [])), AV.v (Value.tuple (Array.mk [])), AV.v (Value.tuple (Array.mk [])), AV.v (Value.tuple (Array.mk [])), AV.v (Value.tuple (Array.mk [])), AV.v (Value.tuple (Array.mk [])), AV.v (Value.tuple (Array.mk [])), AV.v (Value.tuple (Array.mk [])), AV.v (Value.tuple (Array.mk [])), AV.v (Value.tuple (Array.mk [])), AV.v (Value.tuple (Array.mk [])), AV.v (Value.tuple (Array.mk [])), AV.v (Value.tuple (Array.mk [])), AV.v (Value.tuple (Array.mk [])), AV.v (Value.tuple (Array.mk [])), AV.v (Value.tuple (Array.mk [])), AV.v (Value.tuple (Array.mk [])), AV.v (Value.tuple (Array.mk [])), AV.v (Value.tuple (Array.mk [])), AV.v (Value.tuple (Array.mk [])), AV.v (Value.tuple (Array.mk [])), AV.v (Value.tuple (Array.mk [])), AV.v (Value.tuple (Array.mk [])), AV.v (Value.tuple (Array.mk [])), AV.v (Value.tuple (Array.mk [])), AV.v (Value.tuple (Array.mk [])), AV.v (Value.tuple (Array.mk [])), AV.v (Value.tuple (Array.mk [])), AV.v (Value.tuple (Array.mk [])), AV.v (Value.tuple (Array.mk [])), AV.v (Value.tuple (Array.mk [])), AV.v (Value.tuple (Array.mk [])), AV.v (Value.tuple (Array.mk [])), AV.v (Value.tuple (Array.mk [])), AV.v (Value.tuple (Array.mk [])), AV.v (Value.tuple (Array.mk [])), AV.v (Value.tuple (Array.mk [])), AV.v (Value.tuple (Array.mk []))] [AV.any, AV.v (Value.int IntKind.i64 a), AV.v (Value.int IntKind.i64 b), AV.any, AV.any, AV.any, AV.any, AV.ptr 1100 0, AV.ptr 1101 0, AV.any, AV.any, AV.any, AV.any, AV.any, AV.any, AV.any, AV.any, AV.any, AV.any, AV.any, AV.any, AV.any, AV.any, AV.any, AV.any, AV.any, AV.any, AV.any, AV.any, AV.any, AV.v (Value.slice oa n c), AV.v (Value.int IntKind.i64 (Int.ofNat n)), AV.v (Value.int IntKind.i64 (Int.ofNat 0)), AV.any, AV.any, AV.any, AV.any, AV.any, AV.any, AV.any, AV.any, AV.any, AV.any, AV.any, AV.any, AV.any, AV.any, AV.any, AV.any, AV.any, AV.any, AV.any, AV.any, AV.any, AV.any, AV.any, AV.any, AV.any, AV.any, AV.any, AV.any, AV.any, AV.any, AV.any, AV.any, AV.any, AV.any, AV.any, AV.any, AV.any, AV.any])).a ((Cnd.p (OW (AO.own (Md.clock [] (Int.ofNat 0)) (clH [] (Int.ofNat 0))) (AO.own (Md.clock [] (Int.ofNat 0)) (clH [] (Int.ofNat 0))))).a ((Cnd.p (OW (AO.own (Md.clock [] (Int.ofNat 0)) (clH [] (Int.ofNat 0))) (AO.own (Md.clock [] (Int.ofNat 0)) (clH [] (Int.ofNat 0))))).a (((Cnd.p (BigL L)).a ((Cnd.p (VW [AV.ptr 1100 0, AV.v (Value.int IntKind.i64 a)] [AV.ptr 1100 0, AV.v (Value.int IntKind.i64 a)])).a ((Cnd.p (OW (AO.own (Md.clock L (Int.ofNat n)) (clH L (Int.ofNat n))) (AO.own (Md.clock L (Int.ofNat n)) (clH L (Int.ofNat n))))).a Cnd.t))).a (((Cnd.p (0 = 0)).a Cnd.t).a (((Cnd.p (BigL (dueL L a).snd)).a ((Cnd.p (VW [AV.ptr 1100 0, AV.v (Value.int IntKind.i64 b)] [AV.ptr 1100 0, AV.v (Value.int IntKind.i64 b)])).a ((Cnd.p (OW (AO.own (Md.clock (dueL L a).snd (Int.ofNat n)) (clH (dueL L a).snd (Int.ofNat n))) (AO.own (Md.clock (dueL L a).snd (Int.ofNat n)) (clH (dueL L a).snd (Int.ofNat n))))).a Cnd.t))).a (((Cnd.p ((dueL (dueL L a).snd b).fst.length.ble (dueL (dueL L a).snd b).fst.length = true)).a ((Cnd.p ((List.take ((dueL (dueL L a).snd b).fst.length * 1) (List.drop 0 (AV.rens (sgN (fun x => 1100) [1010] 1103) (rowV encI (dueL (dueL L a).snd b).fst)))).length.beq ((dueL (dueL L a).snd b).fst.length * 1) = true)).a ((Cnd.p ((List.take ((dueL (dueL L a).snd b).fst.length * 1) (List.drop 0 (AV.rens (sgN (fun x => 1100) [1010] 1103) (rowV encI (dueL (dueL L a).snd b).fst)))).all AV.one = true)).a ((Cnd.p (Nat.blt 0 (dueL (dueL L a).snd b).fst.length = true)).a ((Cnd.p (true = true)).a ((Cnd.p (((0 + (dueL (dueL L a).snd b).fst.length) * 8).ble 140737488355328 = true)).a ((Cnd.p ((0 + (dueL (dueL L a).snd b).fst.length).ble 9223372036854775807 = true)).a ((Cnd.p (true = true)).a ((Cnd.p (Nat.blt 0 (0 + (dueL (dueL L a).snd b).fst.length) = true)).a Cnd.t))))))))).a (((Cnd.p (BigL L)).a ((Cnd.p (VW [AV.ptr 1101 0, AV.v (Value.int IntKind.i64 b)] [AV.ptr 1101 0, AV.v (Value.int IntKind.i64 b)])).a ((Cnd.p (OW (AO.own (Md.clock L (Int.ofNat n)) (clH L (Int.ofNat n))) (AO.own (Md.clock L (Int.ofNat n)) (clH L (Int.ofNat n))))).a Cnd.t))).a (((Cnd.p True).a ((Cnd.p (VW [AV.slice 1104 0 (0 + (dueL (dueL L a).snd b).fst.length) 1 (Cp.lo (0 + (dueL (dueL L a).snd b).fst.length)), AV.v (Value.slice none 0 0)] [AV.slice 1104 0 0 1 (Cp.lo 0), AV.v (Value.slice none 0 0)])).a ((Cnd.p (OW (AO.cells ([] ++ List.take ((dueL (dueL L a).snd b).fst.length * 1) (List.drop 0 (AV.rens (sgN (fun x => 1100) [1010] 1103) (rowV encI (dueL (dueL L a).snd b).fst)))) 6) (AO.cells [] 6))).a ((Cnd.p (Wk (AV.v (Value.bool true)) (AV.lit true))).a Cnd.t)))).a (((Cnd.p True).a ((Cnd.p (VW [AV.ptr 1100 0] [AV.ptr 1100 0])).a ((Cnd.p (OW (AO.own (Md.clock (dueL (dueL L a).snd b).snd (Int.ofNat n)) (clH (dueL (dueL L a).snd b).snd (Int.ofNat n))) (AO.own (Md.clock (dueL (dueL L a).snd b).snd (Int.ofNat n)) (clH (dueL (dueL L a).snd b).snd (Int.ofNat n))))).a Cnd.t))).a (((Cnd.p True).a ((Cnd.p (VW [AV.ptr 1101 0] [AV.ptr 1101 0])).a ((Cnd.p (OW (AO.own (Md.clock (dueL L b).snd (Int.ofNat n)) (clH (dueL L b).snd (Int.ofNat n))) (AO.own (Md.clock (dueL L b).snd (Int.ofNat n)) (clH (dueL L b).snd (Int.ofNat n))))).a Cnd.t))).a (((Cnd.p (Wk (AV.v (Value.bool (Int.ofNat (dueL (dueL L a).snd b).snd.length == Int.ofNat (dueL L b).snd.length))) (AV.lit true))).a Cnd.t).a Cnd.t)))))))))))))))))))))) (VT.leaf (AV.v (Value.bool true)) [] 1106 (((Cnd.p True).a ((Cnd.p (VW [] [])).a Cnd.t)).a (((Cnd.p (Wk (AV.v (Value.bool false)) (AV.lit false))).a Cnd.t).a (((Cnd.p True).a ((Cnd.p (VW [] [])).a Cnd.t)).a (((Cnd.p True).a ((Cnd.p (VW [] [])).a Cnd.t)).a (((Cnd.p (Wk (AV.v (Value.bool false)) (AV.lit false))).a Cnd.t).a (((Cnd.p (Wk (AV.v (Value.bool false)) (AV.lit false))).a Cnd.t).a (((Cnd.p (Wk (AV.v (Value.bool (decide (a > b)))) (AV.lit false))).a Cnd.t).a ((Cnd.p ((fSplit, 7, loopN fSplit 7, lSp (slV oa n c) n a b L).snd.snd.fst = (fSplit, 7, loopN fSplit 7, lSp (slV oa n c) n a b L).snd.snd.fst)).a ((Cnd.p True).a ((Cnd.p (VW [AV.v (Value.slice oa n c), AV.v (Value.int IntKind.i64 a), AV.v (Value.int IntKind.i64 b), AV.v (Value.tuple (Array.mk [])), AV.v (Value.tuple (Array.mk [])), AV.v (Value.tuple (Array.mk [])), AV.v (Value.bool false), AV.ptr 1100 0, AV.ptr 1101 0, AV.v (Value.tuple (Array.mk [])), AV.v (Value.tuple (Array.mk [])), AV.v (Value.tuple (Array.mk [])), AV.v (Value.bool true), AV.lit false, AV.ptr 1100 0, AV.ptr 1101 0, AV.ptr 1100 0, AV.lit false, AV.lit false, AV.ptr 1101 0, AV.lit false, AV.lit false, AV.lit false, AV.v (Value.int IntKind.i64 a), AV.v (Value.int IntKind.i64 b), AV.lit false, AV.lit false, AV.v (Value.tuple (Array.mk [])), AV.v (Value.tuple (Array.mk [])), AV.v (Value.tuple (Array.mk [])), AV.v (Value.slice oa n c), AV.v (Value.int IntKind.i64 ↑n), AV.v (Value.int IntKind.i64 (Int.ofNat 0)), AV.v (Value.tuple (Array.mk [])), AV.v (Value.tuple (Array.mk [])), AV.v (Value.tuple (Array.mk [])), AV.v (Value.tuple (Array.mk [])), AV.v (Value.tuple (Array.mk [])), AV.v (Value.tuple (Array.mk [])), AV.v (Value.tuple (Array.mk [])), AV.v (Value.tuple (Array.mk [])), AV.v (Value.tuple (Array.mk [])), AV.v (Value.tuple (Array.mk [])), AV.v (Value.tuple (Array.mk [])), AV.v (Value.tuple (Array.mk [])), AV.v (Value.tuple (Array.mk [])), AV.v (Value.tuple (Array.mk [])), AV.v (Value.tuple (Array.mk [])), AV.v (Value.tuple (Array.mk [])), AV.v (Value.tuple (Array.mk [])), AV.v (Value.tuple (Array.mk [])), AV.v (Value.tuple (Array.mk [])), AV.v (Value.tuple (Array.mk [])), AV.v (Value.tuple (Array.mk [])), AV.v (Value.tuple (Array.mk [])), AV.v (Value.tuple (Array.mk [])), AV.v (Value.tuple (Array.mk [])), AV.v (Value.tuple (Array.mk [])), AV.v (Value.tuple (Array.mk [])), AV.v (Value.tuple (Array.mk [])), AV.v (Value.tuple (Array.mk [])), AV.v (Value.tuple (Array.mk [])), AV.v (Value.tuple (Array.mk [])), AV.v (Value.tuple (Array.mk [])), AV.v (Value.tuple (Array.mk [])), AV.v (Value.tuple (Array.mk [])), AV.v (Value.tuple (Array.mk [])), AV.v (Value.tuple (Array.mk [])), AV.v (Value.tuple (Array.mk [])), AV.v (Value.tuple (Array.mk [])), AV.v (Value.tuple (Array.mk []))] [AV.any, AV.v (Value.int IntKind.i64 a), AV.v (Value.int IntKind.i64 b), AV.any, AV.any, AV.any, AV.any, AV.ptr 1100 0, AV.ptr 1101 0, AV.any, AV.any, AV.any, AV.any, AV.any, AV.any, AV.any, AV.any, AV.any, AV.any, AV.any, AV.any, AV.any, AV.any, AV.any, AV.any, AV.any, AV.any, AV.any, AV.any, AV.any, AV.v (Value.slice oa n c), AV.v (Value.int IntKind.i64 (Int.ofNat n)), AV.v (Value.int IntKind.i64 (Int.ofNat 0)), AV.any, AV.any, AV.any, AV.any, AV.any, AV.any, AV.any, AV.any, AV.any, AV.any, AV.any, AV.any, AV.any, AV.any, AV.any, AV.any, AV.any, AV.any, AV.any, AV.any, AV.any, AV.any, AV.any, AV.any, AV.any, AV.any, AV.any, AV.any, AV.any, AV.any, AV.any, AV.any, AV.any, AV.any, AV.any, AV.any, AV.any, AV.any])).a ((Cnd.p (OW (AO.own (Md.clock [] (Int.ofNat 0)) (clH [] (Int.ofNat 0))) (AO.own (Md.clock [] (Int.ofNat 0)) (clH [] (Int.ofNat 0))))).a ((Cnd.p (OW (AO.own (Md.clock [] (Int.ofNat 0)) (clH [] (Int.ofNat 0))) (AO.own (Md.clock [] (Int.ofNat 0)) (clH [] (Int.ofNat 0))))).a (((Cnd.p (BigL L)).a ((Cnd.p (VW [AV.ptr 1100 0, AV.v (Value.int IntKind.i64 a)] [AV.ptr 1100 0, AV.v (Value.int IntKind.i64 a)])).a ((Cnd.p (OW (AO.own (Md.clock L (Int.ofNat n)) (clH L (Int.ofNat n))) (AO.own (Md.clock L (Int.ofNat n)) (clH L (Int.ofNat n))))).a Cnd.t))).a (((Cnd.p (0 = 0)).a Cnd.t).a (((Cnd.p (BigL (dueL L a).snd)).a ((Cnd.p (VW [AV.ptr 1100 0, AV.v (Value.int IntKind.i64 b)] [AV.ptr 1100 0, AV.v (Value.int IntKind.i64 b)])).a ((Cnd.p (OW (AO.own (Md.clock (dueL L a).snd (Int.ofNat n)) (clH (dueL L a).snd (Int.ofNat n))) (AO.own (Md.clock (dueL L a).snd (Int.ofNat n)) (clH (dueL L a).snd (Int.ofNat n))))).a Cnd.t))).a (((Cnd.p ((dueL (dueL L a).snd b).fst.length.ble (dueL (dueL L a).snd b).fst.length = true)).a ((Cnd.p ((List.take ((dueL (dueL L a).snd b).fst.length * 1) (List.drop 0 (AV.rens (sgN (fun x => 1100) [1010] 1103) (rowV encI (dueL (dueL L a).snd b).fst)))).length.beq ((dueL (dueL L a).snd b).fst.length * 1) = true)).a ((Cnd.p ((List.take ((dueL (dueL L a).snd b).fst.length * 1) (List.drop 0 (AV.rens (sgN (fun x => 1100) [1010] 1103) (rowV encI (dueL (dueL L a).snd b).fst)))).all AV.one = true)).a ((Cnd.p (Nat.blt 0 (dueL (dueL L a).snd b).fst.length = true)).a ((Cnd.p (true = true)).a ((Cnd.p (((0 + (dueL (dueL L a).snd b).fst.length) * 8).ble 140737488355328 = true)).a ((Cnd.p ((0 + (dueL (dueL L a).snd b).fst.length).ble 9223372036854775807 = true)).a ((Cnd.p (true = true)).a ((Cnd.p (Nat.blt 0 (0 + (dueL (dueL L a).snd b).fst.length) = true)).a Cnd.t))))))))).a (((Cnd.p (BigL L)).a ((Cnd.p (VW [AV.ptr 1101 0, AV.v (Value.int IntKind.i64 b)] [AV.ptr 1101 0, AV.v (Value.int IntKind.i64 b)])).a ((Cnd.p (OW (AO.own (Md.clock L (Int.ofNat n)) (clH L (Int.ofNat n))) (AO.own (Md.clock L (Int.ofNat n)) (clH L (Int.ofNat n))))).a Cnd.t))).a (((Cnd.p True).a ((Cnd.p (VW [AV.slice 1104 0 (0 + (dueL (dueL L a).snd b).fst.length) 1 (Cp.lo (0 + (dueL (dueL L a).snd b).fst.length)), AV.slice 1105 0 (dueL L b).fst.length 1 (Cp.lo (dueL L b).fst.length)] [AV.slice 1104 0 l.length 1 (Cp.lo l.length), AV.slice 1105 0 l.length 1 (Cp.lo l.length)])).a ((Cnd.p (OW (AO.cells ([] ++ List.take ((dueL (dueL L a).snd b).fst.length * 1) (List.drop 0 (AV.rens (sgN (fun x => 1100) [1010] 1103) (rowV encI (dueL (dueL L a).snd b).fst)))) 6) (AO.cells (AV.rens (nm2 1104 1105) (rowV encI l)) 6))).a ((Cnd.p (OW (AO.cells (AV.rens (sgN (fun x => 1101) [1010] 1105) (rowV encI (dueL L b).fst)) 6) (AO.cells (AV.rens (nm2 1104 1105) (rowV encI l)) 6))).a ((Cnd.p (Wk (AV.v (Value.bool true)) (AV.lit true))).a Cnd.t))))).a (((Cnd.p True).a ((Cnd.p (VW [AV.ptr 1100 0] [AV.ptr 1100 0])).a ((Cnd.p (OW (AO.own (Md.clock (dueL (dueL L a).snd b).snd (Int.ofNat n)) (clH (dueL (dueL L a).snd b).snd (Int.ofNat n))) (AO.own (Md.clock (dueL (dueL L a).snd b).snd (Int.ofNat n)) (clH (dueL (dueL L a).snd b).snd (Int.ofNat n))))).a Cnd.t))).a (((Cnd.p True).a ((Cnd.p (VW [AV.ptr 1101 0] [AV.ptr 1101 0])).a ((Cnd.p (OW (AO.own (Md.clock (dueL L b).snd (Int.ofNat n)) (clH (dueL L b).snd (Int.ofNat n))) (AO.own (Md.clock (dueL L b).snd (Int.ofNat n)) (clH (dueL L b).snd (Int.ofNat n))))).a Cnd.t))).a (((Cnd.p (Wk (AV.v (Value.bool (Int.ofNat (dueL (dueL L a).snd b).snd.length == Int.ofNat (dueL L b).snd.length))) (AV.lit true))).a Cnd.t).a Cnd.t)))))))))))))))))))))))) (VT.ite (noneDue (dueL L a).snd b) (VT.ite (noneDue L b) (VT.leaf (AV.v (Value.bool true)) [] 1105 (((Cnd.p True).a ((Cnd.p (VW [] [])).a Cnd.t)).a (((Cnd.p (Wk (AV.v (Value.bool false)) (AV.lit false))).a Cnd.t).a (((Cnd.p True).a ((Cnd.p (VW [] [])).a Cnd.t)).a (((Cnd.p True).a ((Cnd.p (VW [] [])).a Cnd.t)).a (((Cnd.p (Wk (AV.v (Value.bool false)) (AV.lit false))).a Cnd.t).a (((Cnd.p (Wk (AV.v (Value.bool false)) (AV.lit false))).a Cnd.t).a (((Cnd.p (Wk (AV.v (Value.bool (decide (a > b)))) (AV.lit false))).a Cnd.t).a ((Cnd.p ((fSplit, 7, loopN fSplit 7, lSp (slV oa n c) n a b L).snd.snd.fst = (fSplit, 7, loopN fSplit 7, lSp (slV oa n c) n a b L).snd.snd.fst)).a ((Cnd.p True).a ((Cnd.p (VW [AV.v (Value.slice oa n c), AV.v (Value.int IntKind.i64 a), AV.v (Value.int IntKind.i64 b), AV.v (Value.tuple (Array.mk [])), AV.v (Value.tuple (Array.mk [])), AV.v (Value.tuple (Array.mk [])), AV.v (Value.bool false), AV.ptr 1100 0, AV.ptr 1101 0, AV.v (Value.tuple (Array.mk [])), AV.v (Value.tuple (Array.mk [])), AV.v (Value.tuple (Array.mk [])), AV.v (Value.bool true), AV.lit false, AV.ptr 1100 0, AV.ptr 1101 0, AV.ptr 1100 0, AV.lit false, AV.lit false, AV.ptr 1101 0, AV.lit false, AV.lit false, AV.lit false, AV.v (Value.int IntKind.i64 a), AV.v (Value.int IntKind.i64 b), AV.lit false, AV.lit false, AV.v (Value.tuple (Array.mk [])), AV.v (Value.tuple (Array.mk [])), AV.v (Value.tuple (Array.mk [])), AV.v (Value.slice oa n c), AV.v (Value.int IntKind.i64 ↑n), AV.v (Value.int IntKind.i64 (Int.ofNat 0)), AV.v (Value.tuple (Array.mk [])), AV.v (Value.tuple (Array.mk [])), AV.v (Value.tuple (Array.mk [])), AV.v (Value.tuple (Array.mk [])), AV.v (Value.tuple (Array.mk [])), AV.v (Value.tuple (Array.mk [])), AV.v (Value.tuple (Array.mk [])), AV.v (Value.tuple (Array.mk [])), AV.v (Value.tuple (Array.mk [])), AV.v (Value.tuple (Array.mk [])), AV.v (Value.tuple (Array.mk [])), AV.v (Value.tuple (Array.mk [])), AV.v (Value.tuple (Array.mk [])), AV.v (Value.tuple (Array.mk [])), AV.v (Value.tuple (Array.mk [])), AV.v (Value.tuple (Array.mk [])), AV.v (Value.tuple (Array.mk [])), AV.v (Value.tuple (Array.mk [])), AV.v (Value.tuple (Array.mk [])), AV.v (Value.tuple (Array.mk [])), AV.v (Value.tuple (Array.mk [])), AV.v (Value.tuple (Array.mk [])), AV.v (Value.tuple (Array.mk [])), AV.v (Value.tuple (Array.mk [])), AV.v (Value.tuple (Array.mk [])), AV.v (Value.tuple (Array.mk [])), AV.v (Value.tuple (Array.mk [])), AV.v (Value.tuple (Array.mk [])), AV.v (Value.tuple (Array.mk [])), AV.v (Value.tuple (Array.mk [])), AV.v (Value.tuple (Array.mk [])), AV.v (Value.tuple (Array.mk [])), AV.v (Value.tuple (Array.mk [])), AV.v (Value.tuple (Array.mk [])), AV.v (Value.tuple (Array.mk [])), AV.v (Value.tuple (Array.mk [])), AV.v (Value.tuple (Array.mk [])), AV.v (Value.tuple (Array.mk []))] [AV.any, AV.v (Value.int IntKind.i64 a), AV.v (Value.int IntKind.i64 b), AV.any, AV.any, AV.any, AV.any, AV.ptr 1100 0, AV.ptr 1101 0, AV.any, AV.any, AV.any, AV.any, AV.any, AV.any, AV.any, AV.any, AV.any, AV.any, AV.any, AV.any, AV.any, AV.any, AV.any, AV.any, AV.any, AV.any, AV.any, AV.any, AV.any, AV.v (Value.slice oa n c), AV.v (Value.int IntKind.i64 (Int.ofNat n)), AV.v (Value.int IntKind.i64 (Int.ofNat 0)), AV.any, AV.any, AV.any, AV.any, AV.any, AV.any, AV.any, AV.any, AV.any, AV.any, AV.any, AV.any, AV.any, AV.any, AV.any, AV.any, AV.any, AV.any, AV.any, AV.any, AV.any, AV.any, AV.any, AV.any, AV.any, AV.any, AV.any, AV.any, AV.any, AV.any, AV.any, AV.any, AV.any, AV.any, AV.any, AV.any, AV.any, AV.any])).a ((Cnd.p (OW (AO.own (Md.clock [] (Int.ofNat 0)) (clH [] (Int.ofNat 0))) (AO.own (Md.clock [] (Int.ofNat 0)) (clH [] (Int.ofNat 0))))).a ((Cnd.p (OW (AO.own (Md.clock [] (Int.ofNat 0)) (clH [] (Int.ofNat 0))) (AO.own (Md.clock [] (Int.ofNat 0)) (clH [] (Int.ofNat 0))))).a (((Cnd.p (BigL L)).a ((Cnd.p (VW [AV.ptr 1100 0, AV.v (Value.int IntKind.i64 a)] [AV.ptr 1100 0, AV.v (Value.int IntKind.i64 a)])).a ((Cnd.p (OW (AO.own (Md.clock L (Int.ofNat n)) (clH L (Int.ofNat n))) (AO.own (Md.clock L (Int.ofNat n)) (clH L (Int.ofNat n))))).a Cnd.t))).a (((Cnd.p ((dueL L a).fst.length.ble (dueL L a).fst.length = true)).a ((Cnd.p ((List.take ((dueL L a).fst.length * 1) (List.drop 0 (AV.rens (sgN (fun x => 1100) [1010] 1103) (rowV encI (dueL L a).fst)))).length.beq ((dueL L a).fst.length * 1) = true)).a ((Cnd.p ((List.take ((dueL L a).fst.length * 1) (List.drop 0 (AV.rens (sgN (fun x => 1100) [1010] 1103) (rowV encI (dueL L a).fst)))).all AV.one = true)).a ((Cnd.p (Nat.blt 0 (dueL L a).fst.length = true)).a ((Cnd.p (true = true)).a ((Cnd.p (((0 + (dueL L a).fst.length) * 8).ble 140737488355328 = true)).a ((Cnd.p ((0 + (dueL L a).fst.length).ble 9223372036854775807 = true)).a ((Cnd.p (true = true)).a ((Cnd.p (Nat.blt 0 (0 + (dueL L a).fst.length) = true)).a Cnd.t))))))))).a (((Cnd.p (BigL (dueL L a).snd)).a ((Cnd.p (VW [AV.ptr 1100 0, AV.v (Value.int IntKind.i64 b)] [AV.ptr 1100 0, AV.v (Value.int IntKind.i64 b)])).a ((Cnd.p (OW (AO.own (Md.clock (dueL L a).snd (Int.ofNat n)) (clH (dueL L a).snd (Int.ofNat n))) (AO.own (Md.clock (dueL L a).snd (Int.ofNat n)) (clH (dueL L a).snd (Int.ofNat n))))).a Cnd.t))).a (((Cnd.p (0 = 0)).a Cnd.t).a (((Cnd.p (BigL L)).a ((Cnd.p (VW [AV.ptr 1101 0, AV.v (Value.int IntKind.i64 b)] [AV.ptr 1101 0, AV.v (Value.int IntKind.i64 b)])).a ((Cnd.p (OW (AO.own (Md.clock L (Int.ofNat n)) (clH L (Int.ofNat n))) (AO.own (Md.clock L (Int.ofNat n)) (clH L (Int.ofNat n))))).a Cnd.t))).a (((Cnd.p True).a ((Cnd.p (VW [AV.slice 1104 0 (0 + (dueL L a).fst.length) 1 (Cp.lo (0 + (dueL L a).fst.length)), AV.v (Value.slice none 0 0)] [AV.slice 1104 0 0 1 (Cp.lo 0), AV.v (Value.slice none 0 0)])).a ((Cnd.p (OW (AO.cells ([] ++ List.take ((dueL L a).fst.length * 1) (List.drop 0 (AV.rens (sgN (fun x => 1100) [1010] 1103) (rowV encI (dueL L a).fst)))) 6) (AO.cells [] 6))).a ((Cnd.p (Wk (AV.v (Value.bool true)) (AV.lit true))).a Cnd.t)))).a (((Cnd.p True).a ((Cnd.p (VW [AV.ptr 1100 0] [AV.ptr 1100 0])).a ((Cnd.p (OW (AO.own (Md.clock (dueL (dueL L a).snd b).snd (Int.ofNat n)) (clH (dueL (dueL L a).snd b).snd (Int.ofNat n))) (AO.own (Md.clock (dueL (dueL L a).snd b).snd (Int.ofNat n)) (clH (dueL (dueL L a).snd b).snd (Int.ofNat n))))).a Cnd.t))).a (((Cnd.p True).a ((Cnd.p (VW [AV.ptr 1101 0] [AV.ptr 1101 0])).a ((Cnd.p (OW (AO.own (Md.clock (dueL L b).snd (Int.ofNat n)) (clH (dueL L b).snd (Int.ofNat n))) (AO.own (Md.clock (dueL L b).snd (Int.ofNat n)) (clH (dueL L b).snd (Int.ofNat n))))).a Cnd.t))).a (((Cnd.p (Wk (AV.v (Value.bool (Int.ofNat (dueL (dueL L a).snd b).snd.length == Int.ofNat (dueL L b).snd.length))) (AV.lit true))).a Cnd.t).a Cnd.t)))))))))))))))))))))) (VT.leaf (AV.v (Value.bool true)) [] 1106 (((Cnd.p True).a ((Cnd.p (VW [] [])).a Cnd.t)).a (((Cnd.p (Wk (AV.v (Value.bool false)) (AV.lit false))).a Cnd.t).a (((Cnd.p True).a ((Cnd.p (VW [] [])).a Cnd.t)).a (((Cnd.p True).a ((Cnd.p (VW [] [])).a Cnd.t)).a (((Cnd.p (Wk (AV.v (Value.bool false)) (AV.lit false))).a Cnd.t).a (((Cnd.p (Wk (AV.v (Value.bool false)) (AV.lit false))).a Cnd.t).a (((Cnd.p (Wk (AV.v (Value.bool (decide (a > b)))) (AV.lit false))).a Cnd.t).a ((Cnd.p ((fSplit, 7, loopN fSplit 7, lSp (slV oa n c) n a b L).snd.snd.fst = (fSplit, 7, loopN fSplit 7, lSp (slV oa n c) n a b L).snd.snd.fst)).a ((Cnd.p True).a ((Cnd.p (VW [AV.v (Value.slice oa n c), AV.v (Value.int IntKind.i64 a), AV.v (Value.int IntKind.i64 b), AV.v (Value.tuple (Array.mk [])), AV.v (Value.tuple (Array.mk [])), AV.v (Value.tuple (Array.mk [])), AV.v (Value.bool false), AV.ptr 1100 0, AV.ptr 1101 0, AV.v (Value.tuple (Array.mk [])), AV.v (Value.tuple (Array.mk [])), AV.v (Value.tuple (Array.mk [])), AV.v (Value.bool true), AV.lit false, AV.ptr 1100 0, AV.ptr 1101 0, AV.ptr 1100 0, AV.lit false, AV.lit false, AV.ptr 1101 0, AV.lit false, AV.lit false, AV.lit false, AV.v (Value.int IntKind.i64 a), AV.v (Value.int IntKind.i64 b), AV.lit false, AV.lit false, AV.v (Value.tuple (Array.mk [])), AV.v (Value.tuple (Array.mk [])), AV.v (Value.tuple (Array.mk [])), AV.v (Value.slice oa n c), AV.v (Value.int IntKind.i64 ↑n), AV.v (Value.int IntKind.i64 (Int.ofNat 0)), AV.v (Value.tuple (Array.mk [])), AV.v (Value.tuple (Array.mk [])), AV.v (Value.tuple (Array.mk [])), AV.v (Value.tuple (Array.mk [])), AV.v (Value.tuple (Array.mk [])), AV.v (Value.tuple (Array.mk [])), AV.v (Value.tuple (Array.mk [])), AV.v (Value.tuple (Array.mk [])), AV.v (Value.tuple (Array.mk [])), AV.v (Value.tuple (Array.mk [])), AV.v (Value.tuple (Array.mk [])), AV.v (Value.tuple (Array.mk [])), AV.v (Value.tuple (Array.mk [])), AV.v (Value.tuple (Array.mk [])), AV.v (Value.tuple (Array.mk [])), AV.v (Value.tuple (Array.mk [])), AV.v (Value.tuple (Array.mk [])), AV.v (Value.tuple (Array.mk [])), AV.v (Value.tuple (Array.mk [])), AV.v (Value.tuple (Array.mk [])), AV.v (Value.tuple (Array.mk [])), AV.v (Value.tuple (Array.mk [])), AV.v (Value.tuple (Array.mk [])), AV.v (Value.tuple (Array.mk [])), AV.v (Value.tuple (Array.mk [])), AV.v (Value.tuple (Array.mk [])), AV.v (Value.tuple (Array.mk [])), AV.v (Value.tuple (Array.mk [])), AV.v (Value.tuple (Array.mk [])), AV.v (Value.tuple (Array.mk [])), AV.v (Value.tuple (Array.mk [])), AV.v (Value.tuple (Array.mk [])), AV.v (Value.tuple (Array.mk [])), AV.v (Value.tuple (Array.mk [])), AV.v (Value.tuple (Array.mk [])), AV.v (Value.tuple (Array.mk [])), AV.v (Value.tuple (Array.mk [])), AV.v (Value.tuple (Array.mk []))] [AV.any, AV.v (Value.int IntKind.i64 a), AV.v (Value.int IntKind.i64 b), AV.any, AV.any, AV.any, AV.any, AV.ptr 1100 0, AV.ptr 1101 0, AV.any, AV.any, AV.any, AV.any, AV.any, AV.any, AV.any, AV.any, AV.any, AV.any, AV.any, AV.any, AV.any, AV.any, AV.any, AV.any, AV.any, AV.any, AV.any, AV.any, AV.any, AV.v (Value.slice oa n c), AV.v (Value.int IntKind.i64 (Int.ofNat n)), AV.v (Value.int IntKind.i64 (Int.ofNat 0)), AV.any, AV.any, AV.any, AV.any, AV.any, AV.any, AV.any, AV.any, AV.any, AV.any, AV.any, AV.any, AV.any, AV.any, AV.any, AV.any, AV.any, AV.any, AV.any, AV.any, AV.any, AV.any, AV.any, AV.any, AV.any, AV.any, AV.any, AV.any, AV.any, AV.any, AV.any, AV.any, AV.any, AV.any, AV.any, AV.any, AV.any, AV.any])).a ((Cnd.p (OW (AO.own (Md.clock [] (Int.ofNat 0)) (clH [] (Int.ofNat 0))) (AO.own (Md.clock [] (Int.ofNat 0)) (clH [] (Int.ofNat 0))))).a ((Cnd.p (OW (AO.own (Md.clock [] (Int.ofNat 0)) (clH [] (Int.ofNat 0))) (AO.own (Md.clock [] (Int.ofNat 0)) (clH [] (Int.ofNat 0))))).a (((Cnd.p (BigL L)).a ((Cnd.p (VW [AV.ptr 1100 0, AV.v (Value.int IntKind.i64 a)] [AV.ptr 1100 0, AV.v (Value.int IntKind.i64 a)])).a ((Cnd.p (OW (AO.own (Md.clock L (Int.ofNat n)) (clH L (Int.ofNat n))) (AO.own (Md.clock L (Int.ofNat n)) (clH L (Int.ofNat n))))).a Cnd.t))).a (((Cnd.p ((dueL L a).fst.length.ble (dueL L a).fst.length = true)).a ((Cnd.p ((List.take ((dueL L a).fst.length * 1) (List.drop 0 (AV.rens (sgN (fun x => 1100) [1010] 1103) (rowV encI (dueL L a).fst)))).length.beq ((dueL L a).fst.length * 1) = true)).a ((Cnd.p ((List.take ((dueL L a).fst.length * 1) (List.drop 0 (AV.rens (sgN (fun x => 1100) [1010] 1103) (rowV encI (dueL L a).fst)))).all AV.one = true)).a ((Cnd.p (Nat.blt 0 (dueL L a).fst.length = true)).a ((Cnd.p (true = true)).a ((Cnd.p (((0 + (dueL L a).fst.length) * 8).ble 140737488355328 = true)).a ((Cnd.p ((0 + (dueL L a).fst.length).ble 9223372036854775807 = true)).a ((Cnd.p (true = true)).a ((Cnd.p (Nat.blt 0 (0 + (dueL L a).fst.length) = true)).a Cnd.t))))))))).a (((Cnd.p (BigL (dueL L a).snd)).a ((Cnd.p (VW [AV.ptr 1100 0, AV.v (Value.int IntKind.i64 b)] [AV.ptr 1100 0, AV.v (Value.int IntKind.i64 b)])).a ((Cnd.p (OW (AO.own (Md.clock (dueL L a).snd (Int.ofNat n)) (clH (dueL L a).snd (Int.ofNat n))) (AO.own (Md.clock (dueL L a).snd (Int.ofNat n)) (clH (dueL L a).snd (Int.ofNat n))))).a Cnd.t))).a (((Cnd.p (0 = 0)).a Cnd.t).a (((Cnd.p (BigL L)).a ((Cnd.p (VW [AV.ptr 1101 0, AV.v (Value.int IntKind.i64 b)] [AV.ptr 1101 0, AV.v (Value.int IntKind.i64 b)])).a ((Cnd.p (OW (AO.own (Md.clock L (Int.ofNat n)) (clH L (Int.ofNat n))) (AO.own (Md.clock L (Int.ofNat n)) (clH L (Int.ofNat n))))).a Cnd.t))).a (((Cnd.p True).a ((Cnd.p (VW [AV.slice 1104 0 (0 + (dueL L a).fst.length) 1 (Cp.lo (0 + (dueL L a).fst.length)), AV.slice 1105 0 (dueL L b).fst.length 1 (Cp.lo (dueL L b).fst.length)] [AV.slice 1104 0 l.length 1 (Cp.lo l.length), AV.slice 1105 0 l.length 1 (Cp.lo l.length)])).a ((Cnd.p (OW (AO.cells ([] ++ List.take ((dueL L a).fst.length * 1) (List.drop 0 (AV.rens (sgN (fun x => 1100) [1010] 1103) (rowV encI (dueL L a).fst)))) 6) (AO.cells (AV.rens (nm2 1104 1105) (rowV encI l)) 6))).a ((Cnd.p (OW (AO.cells (AV.rens (sgN (fun x => 1101) [1010] 1105) (rowV encI (dueL L b).fst)) 6) (AO.cells (AV.rens (nm2 1104 1105) (rowV encI l)) 6))).a ((Cnd.p (Wk (AV.v (Value.bool true)) (AV.lit true))).a Cnd.t))))).a (((Cnd.p True).a ((Cnd.p (VW [AV.ptr 1100 0] [AV.ptr 1100 0])).a ((Cnd.p (OW (AO.own (Md.clock (dueL (dueL L a).snd b).snd (Int.ofNat n)) (clH (dueL (dueL L a).snd b).snd (Int.ofNat n))) (AO.own (Md.clock (dueL (dueL L a).snd b).snd (Int.ofNat n)) (clH (dueL (dueL L a).snd b).snd (Int.ofNat n))))).a Cnd.t))).a (((Cnd.p True).a ((Cnd.p (VW [AV.ptr 1101 0] [AV.ptr 1101 0])).a ((Cnd.p (OW (AO.own (Md.clock (dueL L b).snd (Int.ofNat n)) (clH (dueL L b).snd (Int.ofNat n))) (AO.own (Md.clock (dueL L b).snd (Int.ofNat n)) (clH (dueL L b).snd (Int.ofNat n))))).a Cnd.t))).a (((Cnd.p (Wk (AV.v (Value.bool (Int.ofNat (dueL (dueL L a).snd b).snd.length == Int.ofNat (dueL L b).snd.length))) (AV.lit true))).a Cnd.t).a Cnd.t))))))))))))))))))))))) (VT.ite (noneDue L b) (VT.leaf (AV.v (Value.bool true)) [] 1107 (((Cnd.p True).a ((Cnd.p (VW [] [])).a Cnd.t)).a (((Cnd.p (Wk (AV.v (Value.bool false)) (AV.lit false))).a Cnd.t).a (((Cnd.p True).a ((Cnd.p (VW [] [])).a Cnd.t)).a (((Cnd.p True).a ((Cnd.p (VW [] [])).a Cnd.t)).a (((Cnd.p (Wk (AV.v (Value.bool false)) (AV.lit false))).a Cnd.t).a (((Cnd.p (Wk (AV.v (Value.bool false)) (AV.lit false))).a Cnd.t).a (((Cnd.p (Wk (AV.v (Value.bool (decide (a > b)))) (AV.lit false))).a Cnd.t).a ((Cnd.p ((fSplit, 7, loopN fSplit 7, lSp (slV oa n c) n a b L).snd.snd.fst = (fSplit, 7, loopN fSplit 7, lSp (slV oa n c) n a b L).snd.snd.fst)).a ((Cnd.p True).a ((Cnd.p (VW [AV.v (Value.slice oa n c), AV.v (Value.int IntKind.i64 a), AV.v (Value.int IntKind.i64 b), AV.v (Value.tuple (Array.mk [])), AV.v (Value.tuple (Array.mk [])), AV.v (Value.tuple (Array.mk [])), AV.v (Value.bool false), AV.ptr 1100 0, AV.ptr 1101 0, AV.v (Value.tuple (Array.mk [])), AV.v (Value.tuple (Array.mk [])), AV.v (Value.tuple (Array.mk [])), AV.v (Value.bool true), AV.lit false, AV.ptr 1100 0, AV.ptr 1101 0, AV.ptr 1100 0, AV.lit false, AV.lit false, AV.ptr 1101 0, AV.lit false, AV.lit false, AV.lit false, AV.v (Value.int IntKind.i64 a), AV.v (Value.int IntKind.i64 b), AV.lit false, AV.lit false, AV.v (Value.tuple (Array.mk [])), AV.v (Value.tuple (Array.mk [])), AV.v (Value.tuple (Array.mk [])), AV.v (Value.slice oa n c), AV.v (Value.int IntKind.i64 ↑n), AV.v (Value.int IntKind.i64 (Int.ofNat 0)), AV.v (Value.tuple (Array.mk [])), AV.v (Value.tuple (Array.mk [])), AV.v (Value.tuple (Array.mk [])), AV.v (Value.tuple (Array.mk [])), AV.v (Value.tuple (Array.mk [])), AV.v (Value.tuple (Array.mk [])), AV.v (Value.tuple (Array.mk [])), AV.v (Value.tuple (Array.mk [])), AV.v (Value.tuple (Array.mk [])), AV.v (Value.tuple (Array.mk [])), AV.v (Value.tuple (Array.mk [])), AV.v (Value.tuple (Array.mk [])), AV.v (Value.tuple (Array.mk [])), AV.v (Value.tuple (Array.mk [])), AV.v (Value.tuple (Array.mk [])), AV.v (Value.tuple (Array.mk [])), AV.v (Value.tuple (Array.mk [])), AV.v (Value.tuple (Array.mk [])), AV.v (Value.tuple (Array.mk [])), AV.v (Value.tuple (Array.mk [])), AV.v (Value.tuple (Array.mk [])), AV.v (Value.tuple (Array.mk [])), AV.v (Value.tuple (Array.mk [])), AV.v (Value.tuple (Array.mk [])), AV.v (Value.tuple (Array.mk [])), AV.v (Value.tuple (Array.mk [])), AV.v (Value.tuple (Array.mk [])), AV.v (Value.tuple (Array.mk [])), AV.v (Value.tuple (Array.mk [])), AV.v (Value.tuple (Array.mk [])), AV.v (Value.tuple (Array.mk [])), AV.v (Value.tuple (Array.mk [])), AV.v (Value.tuple (Array.mk [])), AV.v (Value.tuple (Array.mk [])), AV.v (Value.tuple (Array.mk [])), AV.v (Value.tuple (Array.mk [])), AV.v (Value.tuple (Array.mk [])), AV.v (Value.tuple (Array.mk []))] [AV.any, AV.v (Value.int IntKind.i64 a), AV.v (Value.int IntKind.i64 b), AV.any, AV.any, AV.any, AV.any, AV.ptr 1100 0, AV.ptr 1101 0, AV.any, AV.any, AV.any, AV.any, AV.any, AV.any, AV.any, AV.any, AV.any, AV.any, AV.any, AV.any, AV.any, AV.any, AV.any, AV.any, AV.any, AV.any, AV.any, AV.any, AV.any, AV.v (Value.slice oa n c), AV.v (Value.int IntKind.i64 (Int.ofNat n)), AV.v (Value.int IntKind.i64 (Int.ofNat 0)), AV.any, AV.any, AV.any, AV.any, AV.any, AV.any, AV.any, AV.any, AV.any, AV.any, AV.any, AV.any, AV.any, AV.any, AV.any, AV.any, AV.any, AV.any, AV.any, AV.any, AV.any, AV.any, AV.any, AV.any, AV.any, AV.any, AV.any, AV.any, AV.any, AV.any, AV.any, AV.any, AV.any, AV.any, AV.any, AV.any, AV.any, AV.any])).a ((Cnd.p (OW (AO.own (Md.clock [] (Int.ofNat 0)) (clH [] (Int.ofNat 0))) (AO.own (Md.clock [] (Int.ofNat 0)) (clH [] (Int.ofNat 0))))).a ((Cnd.p (OW (AO.own (Md.clock [] (Int.ofNat 0)) (clH [] (Int.ofNat 0))) (AO.own (Md.clock [] (Int.ofNat 0)) (clH [] (Int.ofNat 0))))).a (((Cnd.p (BigL L)).a ((Cnd.p (VW [AV.ptr 1100 0, AV.v (Value.int IntKind.i64 a)] [AV.ptr 1100 0, AV.v (Value.int IntKind.i64 a)])).a ((Cnd.p (OW (AO.own (Md.clock L (Int.ofNat n)) (clH L (Int.ofNat n))) (AO.own (Md.clock L (Int.ofNat n)) (clH L (Int.ofNat n))))).a Cnd.t))).a (((Cnd.p ((dueL L a).fst.length.ble (dueL L a).fst.length = true)).a ((Cnd.p ((List.take ((dueL L a).fst.length * 1) (List.drop 0 (AV.rens (sgN (fun x => 1100) [1010] 1103) (rowV encI (dueL L a).fst)))).length.beq ((dueL L a).fst.length * 1) = true)).a ((Cnd.p ((List.take ((dueL L a).fst.length * 1) (List.drop 0 (AV.rens (sgN (fun x => 1100) [1010] 1103) (rowV encI (dueL L a).fst)))).all AV.one = true)).a ((Cnd.p (Nat.blt 0 (dueL L a).fst.length = true)).a ((Cnd.p (true = true)).a ((Cnd.p (((0 + (dueL L a).fst.length) * 8).ble 140737488355328 = true)).a ((Cnd.p ((0 + (dueL L a).fst.length).ble 9223372036854775807 = true)).a ((Cnd.p (true = true)).a ((Cnd.p (Nat.blt 0 (0 + (dueL L a).fst.length) = true)).a Cnd.t))))))))).a (((Cnd.p (BigL (dueL L a).snd)).a ((Cnd.p (VW [AV.ptr 1100 0, AV.v (Value.int IntKind.i64 b)] [AV.ptr 1100 0, AV.v (Value.int IntKind.i64 b)])).a ((Cnd.p (OW (AO.own (Md.clock (dueL L a).snd (Int.ofNat n)) (clH (dueL L a).snd (Int.ofNat n))) (AO.own (Md.clock (dueL L a).snd (Int.ofNat n)) (clH (dueL L a).snd (Int.ofNat n))))).a Cnd.t))).a (((Cnd.p ((dueL (dueL L a).snd b).fst.length.ble (dueL (dueL L a).snd b).fst.length = true)).a ((Cnd.p ((List.take ((dueL (dueL L a).snd b).fst.length * 1) (List.drop 0 (AV.rens (sgN (fun x => 1100) [1010] 1105) (rowV encI (dueL (dueL L a).snd b).fst)))).length.beq ((dueL (dueL L a).snd b).fst.length * 1) = true)).a ((Cnd.p ((List.take ((dueL (dueL L a).snd b).fst.length * 1) (List.drop 0 (AV.rens (sgN (fun x => 1100) [1010] 1105) (rowV encI (dueL (dueL L a).snd b).fst)))).all AV.one = true)).a ((Cnd.p (Nat.blt 0 (dueL (dueL L a).snd b).fst.length = true)).a ((Cnd.p ((0 + (0 + (dueL L a).fst.length) * 1).ble ([] ++ List.take ((dueL L a).fst.length * 1) (List.drop 0 (AV.rens (sgN (fun x => 1100) [1010] 1103) (rowV encI (dueL L a).fst)))).length = true)).a ((Cnd.p (((0 + (dueL L a).fst.length + (dueL (dueL L a).snd b).fst.length) * 8).ble 140737488355328 = true)).a ((Cnd.p ((0 + (dueL L a).fst.length + (dueL (dueL L a).snd b).fst.length).ble 9223372036854775807 = true)).a ((Cnd.p ((List.take ((0 + (dueL L a).fst.length) * 1) (List.drop 0 ([] ++ List.take ((dueL L a).fst.length * 1) (List.drop 0 (AV.rens (sgN (fun x => 1100) [1010] 1103) (rowV encI (dueL L a).fst)))))).length.beq ((0 + (dueL L a).fst.length) * 1) = true)).a Cnd.t)))))))).a (((Cnd.p (BigL L)).a ((Cnd.p (VW [AV.ptr 1101 0, AV.v (Value.int IntKind.i64 b)] [AV.ptr 1101 0, AV.v (Value.int IntKind.i64 b)])).a ((Cnd.p (OW (AO.own (Md.clock L (Int.ofNat n)) (clH L (Int.ofNat n))) (AO.own (Md.clock L (Int.ofNat n)) (clH L (Int.ofNat n))))).a Cnd.t))).a (((Cnd.p True).a ((Cnd.p (VW [AV.slice 1106 0 (0 + (dueL L a).fst.length + (dueL (dueL L a).snd b).fst.length) 1 (Cp.lo (0 + (dueL L a).fst.length + (dueL (dueL L a).snd b).fst.length)), AV.v (Value.slice none 0 0)] [AV.slice 1106 0 0 1 (Cp.lo 0), AV.v (Value.slice none 0 0)])).a ((Cnd.p (OW (AO.cells (List.take ((0 + (dueL L a).fst.length) * 1) (List.drop 0 ([] ++ List.take ((dueL L a).fst.length * 1) (List.drop 0 (AV.rens (sgN (fun x => 1100) [1010] 1103) (rowV encI (dueL L a).fst))))) ++ List.take ((dueL (dueL L a).snd b).fst.length * 1) (List.drop 0 (AV.rens (sgN (fun x => 1100) [1010] 1105) (rowV encI (dueL (dueL L a).snd b).fst)))) 6) (AO.cells [] 6))).a ((Cnd.p (Wk (AV.v (Value.bool true)) (AV.lit true))).a Cnd.t)))).a (((Cnd.p True).a ((Cnd.p (VW [AV.ptr 1100 0] [AV.ptr 1100 0])).a ((Cnd.p (OW (AO.own (Md.clock (dueL (dueL L a).snd b).snd (Int.ofNat n)) (clH (dueL (dueL L a).snd b).snd (Int.ofNat n))) (AO.own (Md.clock (dueL (dueL L a).snd b).snd (Int.ofNat n)) (clH (dueL (dueL L a).snd b).snd (Int.ofNat n))))).a Cnd.t))).a (((Cnd.p True).a ((Cnd.p (VW [AV.ptr 1101 0] [AV.ptr 1101 0])).a ((Cnd.p (OW (AO.own (Md.clock (dueL L b).snd (Int.ofNat n)) (clH (dueL L b).snd (Int.ofNat n))) (AO.own (Md.clock (dueL L b).snd (Int.ofNat n)) (clH (dueL L b).snd (Int.ofNat n))))).a Cnd.t))).a (((Cnd.p (Wk (AV.v (Value.bool (Int.ofNat (dueL (dueL L a).snd b).snd.length == Int.ofNat (dueL L b).snd.length))) (AV.lit true))).a Cnd.t).a Cnd.t)))))))))))))))))))))) (VT.leaf (AV.v (Value.bool true)) [] 1108 (((Cnd.p True).a ((Cnd.p (VW [] [])).a Cnd.t)).a (((Cnd.p (Wk (AV.v (Value.bool false)) (AV.lit false))).a Cnd.t).a (((Cnd.p True).a ((Cnd.p (VW [] [])).a Cnd.t)).a (((Cnd.p True).a ((Cnd.p (VW [] [])).a Cnd.t)).a (((Cnd.p (Wk (AV.v (Value.bool false)) (AV.lit false))).a Cnd.t).a (((Cnd.p (Wk (AV.v (Value.bool false)) (AV.lit false))).a Cnd.t).a (((Cnd.p (Wk (AV.v (Value.bool (decide (a > b)))) (AV.lit false))).a Cnd.t).a ((Cnd.p ((fSplit, 7, loopN fSplit 7, lSp (slV oa n c) n a b L).snd.snd.fst = (fSplit, 7, loopN fSplit 7, lSp (slV oa n c) n a b L).snd.snd.fst)).a ((Cnd.p True).a ((Cnd.p (VW [AV.v (Value.slice oa n c), AV.v (Value.int IntKind.i64 a), AV.v (Value.int IntKind.i64 b), AV.v (Value.tuple (Array.mk [])), AV.v (Value.tuple (Array.mk [])), AV.v (Value.tuple (Array.mk [])), AV.v (Value.bool false), AV.ptr 1100 0, AV.ptr 1101 0, AV.v (Value.tuple (Array.mk [])), AV.v (Value.tuple (Array.mk [])), AV.v (Value.tuple (Array.mk [])), AV.v (Value.bool true), AV.lit false, AV.ptr 1100 0, AV.ptr 1101 0, AV.ptr 1100 0, AV.lit false, AV.lit false, AV.ptr 1101 0, AV.lit false, AV.lit false, AV.lit false, AV.v (Value.int IntKind.i64 a), AV.v (Value.int IntKind.i64 b), AV.lit false, AV.lit false, AV.v (Value.tuple (Array.mk [])), AV.v (Value.tuple (Array.mk [])), AV.v (Value.tuple (Array.mk [])), AV.v (Value.slice oa n c), AV.v (Value.int IntKind.i64 ↑n), AV.v (Value.int IntKind.i64 (Int.ofNat 0)), AV.v (Value.tuple (Array.mk [])), AV.v (Value.tuple (Array.mk [])), AV.v (Value.tuple (Array.mk [])), AV.v (Value.tuple (Array.mk [])), AV.v (Value.tuple (Array.mk [])), AV.v (Value.tuple (Array.mk [])), AV.v (Value.tuple (Array.mk [])), AV.v (Value.tuple (Array.mk [])), AV.v (Value.tuple (Array.mk [])), AV.v (Value.tuple (Array.mk [])), AV.v (Value.tuple (Array.mk [])), AV.v (Value.tuple (Array.mk [])), AV.v (Value.tuple (Array.mk [])), AV.v (Value.tuple (Array.mk [])), AV.v (Value.tuple (Array.mk [])), AV.v (Value.tuple (Array.mk [])), AV.v (Value.tuple (Array.mk [])), AV.v (Value.tuple (Array.mk [])), AV.v (Value.tuple (Array.mk [])), AV.v (Value.tuple (Array.mk [])), AV.v (Value.tuple (Array.mk [])), AV.v (Value.tuple (Array.mk [])), AV.v (Value.tuple (Array.mk [])), AV.v (Value.tuple (Array.mk [])), AV.v (Value.tuple (Array.mk [])), AV.v (Value.tuple (Array.mk [])), AV.v (Value.tuple (Array.mk [])), AV.v (Value.tuple (Array.mk [])), AV.v (Value.tuple (Array.mk [])), AV.v (Value.tuple (Array.mk [])), AV.v (Value.tuple (Array.mk [])), AV.v (Value.tuple (Array.mk [])), AV.v (Value.tuple (Array.mk [])), AV.v (Value.tuple (Array.mk [])), AV.v (Value.tuple (Array.mk [])), AV.v (Value.tuple (Array.mk [])), AV.v (Value.tuple (Array.mk [])), AV.v (Value.tuple (Array.mk []))] [AV.any, AV.v (Value.int IntKind.i64 a), AV.v (Value.int IntKind.i64 b), AV.any, AV.any, AV.any, AV.any, AV.ptr 1100 0, AV.ptr 1101 0, AV.any, AV.any, AV.any, AV.any, AV.any, AV.any, AV.any, AV.any, AV.any, AV.any, AV.any, AV.any, AV.any, AV.any, AV.any, AV.any, AV.any, AV.any, AV.any, AV.any, AV.any, AV.v (Value.slice oa n c), AV.v (Value.int IntKind.i64 (Int.ofNat n)), AV.v (Value.int IntKind.i64 (Int.ofNat 0)), AV.any, AV.any, AV.any, AV.any, AV.any, AV.any, AV.any, AV.any, AV.any, AV.any, AV.any, AV.any, AV.any, AV.any, AV.any, AV.any, AV.any, AV.any, AV.any, AV.any, AV.any, AV.any, AV.any, AV.any, AV.any, AV.any, AV.any, AV.any, AV.any, AV.any, AV.any, AV.any, AV.any, AV.any, AV.any, AV.any, AV.any, AV.any])).a ((Cnd.p (OW (AO.own (Md.clock [] (Int.ofNat 0)) (clH [] (Int.ofNat 0))) (AO.own (Md.clock [] (Int.ofNat 0)) (clH [] (Int.ofNat 0))))).a ((Cnd.p (OW (AO.own (Md.clock [] (Int.ofNat 0)) (clH [] (Int.ofNat 0))) (AO.own (Md.clock [] (Int.ofNat 0)) (clH [] (Int.ofNat 0))))).a (((Cnd.p (BigL L)).a ((Cnd.p (VW [AV.ptr 1100 0, AV.v (Value.int IntKind.i64 a)] [AV.ptr 1100 0, AV.v (Value.int IntKind.i64 a)])).a ((Cnd.p (OW (AO.own (Md.clock L (Int.ofNat n)) (clH L (Int.ofNat n))) (AO.own (Md.clock L (Int.ofNat n)) (clH L (Int.ofNat n))))).a Cnd.t))).a (((Cnd.p ((dueL L a).fst.length.ble (dueL L a).fst.length = true)).a ((Cnd.p ((List.take ((dueL L a).fst.length * 1) (List.drop 0 (AV.rens (sgN (fun x => 1100) [1010] 1103) (rowV encI (dueL L a).fst)))).length.beq ((dueL L a).fst.length * 1) = true)).a ((Cnd.p ((List.take ((dueL L a).fst.length * 1) (List.drop 0 (AV.rens (sgN (fun x => 1100) [1010] 1103) (rowV encI (dueL L a).fst)))).all AV.one = true)).a ((Cnd.p (Nat.blt 0 (dueL L a).fst.length = true)).a ((Cnd.p (true = true)).a ((Cnd.p (((0 + (dueL L a).fst.length) * 8).ble 140737488355328 = true)).a ((Cnd.p ((0 + (dueL L a).fst.length).ble 9223372036854775807 = true)).a ((Cnd.p (true = true)).a ((Cnd.p (Nat.blt 0 (0 + (dueL L a).fst.length) = true)).a Cnd.t))))))))).a (((Cnd.p (BigL (dueL L a).snd)).a ((Cnd.p (VW [AV.ptr 1100 0, AV.v (Value.int IntKind.i64 b)] [AV.ptr 1100 0, AV.v (Value.int IntKind.i64 b)])).a ((Cnd.p (OW (AO.own (Md.clock (dueL L a).snd (Int.ofNat n)) (clH (dueL L a).snd (Int.ofNat n))) (AO.own (Md.clock (dueL L a).snd (Int.ofNat n)) (clH (dueL L a).snd (Int.ofNat n))))).a Cnd.t))).a (((Cnd.p ((dueL (dueL L a).snd b).fst.length.ble (dueL (dueL L a).snd b).fst.length = true)).a ((Cnd.p ((List.take ((dueL (dueL L a).snd b).fst.length * 1) (List.drop 0 (AV.rens (sgN (fun x => 1100) [1010] 1105) (rowV encI (dueL (dueL L a).snd b).fst)))).length.beq ((dueL (dueL L a).snd b).fst.length * 1) = true)).a ((Cnd.p ((List.take ((dueL (dueL L a).snd b).fst.length * 1) (List.drop 0 (AV.rens (sgN (fun x => 1100) [1010] 1105) (rowV encI (dueL (dueL L a).snd b).fst)))).all AV.one = true)).a ((Cnd.p (Nat.blt 0 (dueL (dueL L a).snd b).fst.length = true)).a ((Cnd.p ((0 + (0 + (dueL L a).fst.length) * 1).ble ([] ++ List.take ((dueL L a).fst.length * 1) (List.drop 0 (AV.rens (sgN (fun x => 1100) [1010] 1103) (rowV encI (dueL L a).fst)))).length = true)).a ((Cnd.p (((0 + (dueL L a).fst.length + (dueL (dueL L a).snd b).fst.length) * 8).ble 140737488355328 = true)).a ((Cnd.p ((0 + (dueL L a).fst.length + (dueL (dueL L a).snd b).fst.length).ble 9223372036854775807 = true)).a ((Cnd.p ((List.take ((0 + (dueL L a).fst.length) * 1) (List.drop 0 ([] ++ List.take ((dueL L a).fst.length * 1) (List.drop 0 (AV.rens (sgN (fun x => 1100) [1010] 1103) (rowV encI (dueL L a).fst)))))).length.beq ((0 + (dueL L a).fst.length) * 1) = true)).a Cnd.t)))))))).a (((Cnd.p (BigL L)).a ((Cnd.p (VW [AV.ptr 1101 0, AV.v (Value.int IntKind.i64 b)] [AV.ptr 1101 0, AV.v (Value.int IntKind.i64 b)])).a ((Cnd.p (OW (AO.own (Md.clock L (Int.ofNat n)) (clH L (Int.ofNat n))) (AO.own (Md.clock L (Int.ofNat n)) (clH L (Int.ofNat n))))).a Cnd.t))).a (((Cnd.p True).a ((Cnd.p (VW [AV.slice 1106 0 (0 + (dueL L a).fst.length + (dueL (dueL L a).snd b).fst.length) 1 (Cp.lo (0 + (dueL L a).fst.length + (dueL (dueL L a).snd b).fst.length)), AV.slice 1107 0 (dueL L b).fst.length 1 (Cp.lo (dueL L b).fst.length)] [AV.slice 1106 0 l.length 1 (Cp.lo l.length), AV.slice 1107 0 l.length 1 (Cp.lo l.length)])).a ((Cnd.p (OW (AO.cells (List.take ((0 + (dueL L a).fst.length) * 1) (List.drop 0 ([] ++ List.take ((dueL L a).fst.length * 1) (List.drop 0 (AV.rens (sgN (fun x => 1100) [1010] 1103) (rowV encI (dueL L a).fst))))) ++ List.take ((dueL (dueL L a).snd b).fst.length * 1) (List.drop 0 (AV.rens (sgN (fun x => 1100) [1010] 1105) (rowV encI (dueL (dueL L a).snd b).fst)))) 6) (AO.cells (AV.rens (nm2 1106 1107) (rowV encI l)) 6))).a ((Cnd.p (OW (AO.cells (AV.rens (sgN (fun x => 1101) [1010] 1107) (rowV encI (dueL L b).fst)) 6) (AO.cells (AV.rens (nm2 1106 1107) (rowV encI l)) 6))).a ((Cnd.p (Wk (AV.v (Value.bool true)) (AV.lit true))).a Cnd.t))))).a (((Cnd.p True).a ((Cnd.p (VW [AV.ptr 1100 0] [AV.ptr 1100 0])).a ((Cnd.p (OW (AO.own (Md.clock (dueL (dueL L a).snd b).snd (Int.ofNat n)) (clH (dueL (dueL L a).snd b).snd (Int.ofNat n))) (AO.own (Md.clock (dueL (dueL L a).snd b).snd (Int.ofNat n)) (clH (dueL (dueL L a).snd b).snd (Int.ofNat n))))).a Cnd.t))).a (((Cnd.p True).a ((Cnd.p (VW [AV.ptr 1101 0] [AV.ptr 1101 0])).a ((Cnd.p (OW (AO.own (Md.clock (dueL L b).snd (Int.ofNat n)) (clH (dueL L b).snd (Int.ofNat n))) (AO.own (Md.clock (dueL L b).snd (Int.ofNat n)) (clH (dueL L b).snd (Int.ofNat n))))).a Cnd.t))).a (((Cnd.p (Wk (AV.v (Value.bool (Int.ofNat (dueL (dueL L a).snd b).snd.length == Int.ofNat (dueL L b).snd.length))) (AV.lit true))).a Cnd.t).a Cnd.t)))))))))))))))))))))))) := by kernel_rfl
end
end Go.Proofs.Ytojfbgmeaadanaa.Alm

/- AlarmsSplit: the law. -/
set_option linter.unusedVariables false
set_option linter.unusedSimpArgs false
set_option maxRecDepth 100000
namespace Go.Proofs.Ytojfbgmeaadanaa.Alm
open Go Go.RowKit Go.Proofs.Ytojfbgmeaadanaa.Eng Go.Proofs.Ytojfbgmeaadanaa.Kit
/-! Plain. -/
theorem without_lt {L : List Al} {x : Al} (h : x ∈ L) : (without L x.id).length < L.length := by
  unfold without
  rw [← List.countP_eq_length_filter]
  refine Nat.lt_of_le_of_ne (List.countP_le_length) fun e => ?_
  have := List.countP_eq_length.1 e x h
  simp at this
theorem dueN_len (now : Int) : ∀ (n : Nat) (L : List Al), (dueN now n L).2.length ≤ L.length ∧ (dueN now n L).1.length + (dueN now n L).2.length ≤ L.length
  | 0, L => by simp [dueN]
  | n + 1, L => by
    unfold dueN
    split
    · simp
    · split
      · split
        · simp
        · rename_i x hx
          have h1 := dueN_len now n (without L x.id)
          have h2 := without_lt (List.mem_of_find?_eq_some hx)
          simp only [List.length_cons]
          omega
      · simp
theorem dueN_fuel (now : Int) : ∀ (n m : Nat) (L : List Al), L.length ≤ n → L.length ≤ m → dueN now n L = dueN now m L
  | 0, m, L, h, h' => by
    have : L = [] := List.eq_nil_of_length_eq_zero (by omega)
    subst this
    cases m <;> rfl
  | n + 1, 0, L, h, h' => by
    have : L = [] := List.eq_nil_of_length_eq_zero (by omega)
    subst this
    rfl
  | n + 1, m + 1, L, h, h' => by
    unfold dueN
    split
    · rfl
    · split
      · split
        · rfl
        · rename_i x hx
          have h2 := without_lt (List.mem_of_find?_eq_some hx)
          rw [dueN_fuel now n m _ (by omega) (by omega)]
      · rfl
theorem dueN_split {a b : Int} (hab : a ≤ b) : ∀ (n : Nat) (L : List Al), L.length ≤ n → dueN b n L = ((dueN a n L).1 ++ (dueN b n (dueN a n L).2).1, (dueN b n (dueN a n L).2).2)
  | 0, L, h => by
    have : L = [] := List.eq_nil_of_length_eq_zero (by omega)
    subst this
    rfl
  | n + 1, L, h => by
    cases hn : nextOf L with
    | none => simp only [dueN, hn, List.nil_append]
    | some t =>
      by_cases ht : t ≤ a
      · have htb : t ≤ b := Int.le_trans ht hab
        cases hf : (L.find? fun x => decide (x.tk = t)) with
        | none => simp only [dueN, hn, if_pos ht, if_pos htb, hf, List.nil_append]
        | some x =>
          have h2 := without_lt (List.mem_of_find?_eq_some hf)
          have ih := dueN_split hab n (without L x.id) (by omega)
          have e1 : dueN a (n + 1) L = (x.id :: (dueN a n (without L x.id)).1, (dueN a n (without L x.id)).2) := by simp only [dueN, hn, if_pos ht, hf]
          have e2 : dueN b (n + 1) L = (x.id :: (dueN b n (without L x.id)).1, (dueN b n (without L x.id)).2) := by simp only [dueN, hn, if_pos htb, hf]
          have h3 := (dueN_len a n (without L x.id)).1
          rw [e1, e2, ih]
          simp only [List.cons_append]
          rw [dueN_fuel b (n + 1) n _ (by omega) (by omega)]
      · have e1 : dueN a (n + 1) L = ([], L) := by simp only [dueN, hn, if_neg ht]
        rw [e1]; rfl
theorem dueL_split {a b : Int} (hab : a ≤ b) (L : List Al) : dueL L b = ((dueL L a).1 ++ (dueL (dueL L a).2 b).1, (dueL (dueL L a).2 b).2) := by
  have h := dueN_split hab L.length L (Nat.le_refl _)
  have h1 := (dueN_len a L.length L).1
  rw [dueN_fuel b L.length (dueN a L.length L).2.length _ h1 (Nat.le_refl _)] at h
  exact h
theorem dueL_len (L : List Al) (now : Int) : (dueL L now).2.length ≤ L.length ∧ (dueL L now).1.length + (dueL L now).2.length ≤ L.length := dueN_len now L.length L
/-- All are set. -/
def setsL (l : List Al) : List Al := l.foldl (fun L x => setL L x.id x.tk) []
theorem setL_len (L : List Al) (id at_ : Int) : (setL L id at_).length ≤ L.length + 1 := by
  unfold setL
  rw [List.length_append]
  have := without_len L id
  simp only [List.length_singleton]; omega
theorem setsL_len : ∀ l : List Al, (setsL l).length ≤ l.length := by
  suffices h : ∀ (l L : List Al), (l.foldl (fun L x => setL L x.id x.tk) L).length ≤ L.length + l.length by
    intro l
    have := h l []
    simpa [setsL] using this
  intro l
  induction l with
  | nil => intro L; simp
  | cons x l ih =>
    intro L
    have := ih (setL L x.id x.tk)
    have h1 := setL_len L x.id x.tk
    simp only [List.foldl_cons, List.length_cons]
    omega
theorem setsL_next (l : List Al) (k : Nat) (hk : k < l.length) : setsL (l.take (k + 1)) = setL (setsL (l.take k)) (l.getD k ⟨0, 0⟩).id (l.getD k ⟨0, 0⟩).tk := by
  unfold setsL
  rw [take_next l ⟨0, 0⟩ k hk, List.foldl_append]
  rfl
theorem conA_ok (l : List Int) (hl : RoomI l) (F : HP) : ∀ x ∈ conA l, C1OK Try.prog F x.1 x.2 := con_cons (cANew_ok F) (con_cons (cASet_ok F) (con_cons (cADue_ok F) (con_cons (cALen_ok F) (con_cons (cACan_ok F) (con_cons (cAAt_ok F) (con_cons (cANext_ok F) (con_cons (cSame_ok l hl F) (con_cons (cASpeaks_ok F) noC))))))))
/-! What comes in. -/
structure InA (W : World) (oa : Option Addr) (l : List Al) : Prop where
  here : l ≠ [] → ∃ a, oa = some a
  at_ : ∀ a, oa = some a → ∀ k, k < l.length → (([0, 1].all fun j => (W.cell? ((a.add (k * 2)).add j)).isSome) = true ∧ W.cell? ((a.add (k * 2)).add 0) = some (.int .i64 (l.getD k ⟨0, 0⟩).id) ∧ W.cell? (Addr.mk (a.add (k * 2)).block ((a.add (k * 2)).off + 1) none) = some (.int .i64 (l.getD k ⟨0, 0⟩).tk))
  few : l.length * 16 ≤ 140737488355328
theorem InA.room {W : World} {oa : Option Addr} {l : List Al} (h : InA W oa l) {k : Nat} (hk : k < l.length) : RoomL (setsL (l.take k)) ∧ TnOK (Int.ofNat k) := by
  have h1 := setsL_len (l.take k)
  rw [List.length_take] at h1
  have h2 := h.few
  refine ⟨?_, ?_, ?_⟩
  · unfold RoomL; omega
  · exact Int.natCast_nonneg k
  · simp only [Int.ofNat_eq_natCast]; omega
theorem InA.big {W : World} {oa : Option Addr} {l : List Al} (h : InA W oa l) : BigL (setsL l) := by
  have h1 := setsL_len l
  have h2 := h.few
  unfold BigL; omega
theorem own_wk {L L' : List Al} {tn tn' : Int} (h : L = L') (h' : tn = tn') : OW (.own (.clock L tn) (clH L tn)) (.own (.clock L' tn') (clH L' tn')) := by subst h h'; exact OW.refl _
theorem sp_loop (W : World) (oa : Option Addr) (l : List Al) (c : Nat) (a b : Int) (hI : InA W oa l) : LTri Try.prog W (loopN fSplit 7) (tms 0 71 (aSp (slV oa l.length c) l.length 0 a b)) (oSp [] 0) (.exit 0) (tms 0 71 (zSp a b)) (oSp (setsL l) l.length) := by
  refine ltri_run (W := W) (g := fSplit) (b := loopN fSplit 7) (σ := {k : Nat // k ≤ l.length}) 71 (fun k => aSp (slV oa l.length c) l.length k.1 a b) (fun k => oSp (setsL (l.take k.1)) k.1) (.exit 0) (zSp a b) (oSp (setsL l) l.length) (fun k => l.length - k.1) [0, 1] [1, 2, 7, 8, 30, 31, 32] (by intro h; cases h) (fun _ => rfl) rfl ?_ ⟨0, Nat.zero_le _⟩
  rintro ⟨k, hk⟩
  by_cases h1 : k < l.length
  · obtain ⟨ad, rfl⟩ := hI.here (fun e => by rw [e] at h1; cases h1)
    obtain ⟨e0, e1, e2⟩ := hI.at_ ad rfl k h1
    have hroom := hI.room h1
    have hnx := setsL_next l k h1
    refine ⟨conA [], hSp k (l.getD k ⟨0, 0⟩), [], fun F _ => conA_ok [] (by unfold RoomI; exact Nat.zero_lt_succ _) F, fun _ _ => noL, fun F => ?_⟩
    refine cast (congrArg (VAll _) (oSpRound_eq W ad l.length c k a b (setsL (l.take k)) (l.getD k ⟨0, 0⟩) F).symm) ?_
    generalize l.getD k ⟨0, 0⟩ = x at *
    refine ⟨⟨?_, rfl, .inl ⟨rfl, ⟨k + 1, h1⟩, sub_down h1, [], rfl, rfl, ⟨Wk.refl _, Wk.refl _, Wk.refl _, Wk.refl _, Wk.refl _, Wk.refl _, Wk.refl _, trivial⟩, ⟨_, rfl, own_wk hnx.symm rfl⟩, ⟨_, rfl, own_wk hnx.symm rfl⟩, trivial⟩⟩⟩
    have hw := wrap_succ k (by have := hI.few; omega)
    simp only [Cnd.holds, nat_lt, e0, e1, e2, Option.getD_some, Nat.blt_eq, true_and, and_true]
    and_intros
    all_goals first
      | (with_reducible exact h1)
      | (with_reducible exact hroom)
      | (with_reducible exact Wk.refl _)
      | (with_reducible exact VW.refl _)
      | (with_reducible exact OW.refl _)
      | exact wk_litE (decide_eq_true h1)
      | exact wk_int hw
      | exact rfl
      | exact hroom.1
      | exact hroom.2.1
      | exact hroom.2.2
      | exact Wk.refl _
      | exact VW.refl _
  · have hke : k = l.length := by omega
    subst hke
    refine ⟨conA [], hSpE, [], fun F _ => conA_ok [] (by unfold RoomI; exact Nat.zero_lt_succ _) F, fun _ _ => noL, fun F => ?_⟩
    refine cast (congrArg (VAll _) (oSpEnd_eq W (slV oa l.length c) l.length l.length a b (setsL (l.take l.length)) F).symm) ⟨⟨?_, rfl, .inr ⟨rfl, [], rfl, rfl, ⟨Wk.refl _, Wk.refl _, Wk.refl _, Wk.refl _, trivial⟩, ⟨_, rfl, own_wk (by rw [List.take_length]) rfl⟩, ⟨_, rfl, own_wk (by rw [List.take_length]) rfl⟩, trivial⟩⟩⟩
    simp only [Cnd.holds, and_true]
    exact wk_litE (by rw [nat_lt]; exact decide_eq_false (Nat.lt_irrefl _))
end Go.Proofs.Ytojfbgmeaadanaa.Alm

/- AlarmsSplit: every call answers true. -/
set_option linter.unusedVariables false
set_option linter.unusedSimpArgs false
set_option maxRecDepth 100000
namespace Go.Proofs.Ytojfbgmeaadanaa.Alm
open Go Go.RowKit Go.Proofs.Ytojfbgmeaadanaa.Eng Go.Proofs.Ytojfbgmeaadanaa.Kit
theorem gTwoP_ro (i j : Nat) : ∀ args, RO (gTwoP i j args) := by
  intro args
  unfold gTwoP
  repeat' split
  all_goals first | exact RO.ret _ | exact RO.fail _
theorem oSp_cl (K : Nat → Bool) (L : List Al) (k : Nat) : ∀ x ∈ oSp L k, x.2.cl K := all_cons trivial (all_cons trivial all_nil)
theorem lSp_ok (W : World) (oa : Option Addr) (l : List Al) (c : Nat) (a b : Int) (hI : InA W oa l) (F : HP) (hF : OldOK W F) : L1OK Try.prog F (loopN fSplit 7) (lSp (slV oa l.length c) l.length a b (setsL l)) :=
  mkL_ok hF (gTwoP_ro 7 8) (fun _ _ => sp_loop W oa l c a b hI) fun _ => by
    simp only [RT.pick]
    exact closedT rfl rfl (all_cons trivial (all_cons trivial (all_cons rfl (all_cons rfl (all_cons trivial (all_cons trivial (all_cons trivial all_nil))))))) (oSp_cl _ _ _) (all_cons trivial (all_cons trivial (all_cons rfl (all_cons rfl all_nil)))) (oSp_cl _ _ _)
theorem rowI_whole (l : List Int) : List.take (l.length * 1) (List.drop 0 (rowV encI l)) = rowV encI l := row_whole (k := 1) (enc := encI) (fun _ => rfl) l _ rfl
theorem rowI_all (l : List Int) : List.take l.length (List.drop 0 (rowV encI l)) = rowV encI l := by have := rowI_whole l; rwa [Nat.mul_one] at this
theorem rowI_one (l : List Int) : (rowV encI l).all AV.one = true := by
  induction l with
  | nil => rfl
  | cons x l ih => exact ih
theorem row_addI (l m : List Int) : rowV encI l ++ rowV encI m = rowV encI (l ++ m) := (rowV_append ..).symm
theorem row_ow {x : List AV} {l : List Int} {e : TypeId} (h : x = rowV encI l) : OW (.cells x e) (.cells (rowV encI l) e) := by subst h; exact OW.refl _
theorem split_tri (W : World) (oa : Option Addr) (l : List Al) (c : Nat) (a b : Int) (hI : InA W oa l) : Tri Try.prog W fSplit [slV oa l.length c, iv a, iv b] [] (.v (.bool true)) [] := by
  by_cases hab : a ≤ b
  case neg =>
    refine tri_run (con := conA []) (hints := hintL [(fSplit, 1, 1, hv (.lit false)), (fSplit, 4, 1, hv (.lit false)), (fSplit, 4, 4, hv (.lit false)), (fSplit, 4, 9, hv (.lit true))]) (lc := [(fSplit, 7, loopN fSplit 7, lSp (slV oa l.length c) l.length a b (setsL l))]) [] rfl (fun F _ => conA_ok [] (by unfold RoomI; exact Nat.zero_lt_succ _) F) (fun F hF => one_l (lSp_ok W oa l c a b hI F hF)) fun F => ?_
    have hgt : decide (a > b) = true := decide_eq_true (by omega)
    refine cast (congrArg (VAll _) (oSpG_eq W (slV oa l.length c) l.length a b (setsL l) F).symm) ⟨⟨?_, by rw [hgt]; exact fits_true⟩⟩
    simp only [Cnd.holds, true_and, and_true]
    exact ⟨VW.refl _, wk_lit _, VW.refl _, VW.refl _, wk_lit _, wk_lit _, wk_litE hgt⟩
  case pos =>
    have hgt : decide (a > b) = false := decide_eq_false (by omega)
    have hs := dueL_split hab (setsL l)
    have hB := hI.big
    have hlen := setsL_len l
    have h16 := hI.few
    have hn1 := dueL_len (setsL l) a
    have hn2 := dueL_len (dueL (setsL l) a).2 b
    have hd : (dueL (setsL l) b).1.length ≤ (setsL l).length := by have := (dueL_len (setsL l) b).2; omega
    have hRI : RoomI (dueL (setsL l) b).1 := by unfold RoomI; omega
    have hB1 : BigL (dueL (setsL l) a).2 := by unfold BigL at hB ⊢; omega
    refine tri_run (con := conA (dueL (setsL l) b).1) (hints := hSpL) (lc := [(fSplit, 7, loopN fSplit 7, lSp (slV oa l.length c) l.length a b (setsL l))]) [] rfl (fun F _ => conA_ok _ hRI F) (fun F hF => one_l (lSp_ok W oa l c a b hI F hF)) fun F => ?_
    refine cast (congrArg (VAll _) (oSpL_eq W oa l.length c a b (setsL l) (dueL (setsL l) b).1 F).symm) ?_
    have hs1 : (dueL (setsL l) b).1 = (dueL (setsL l) a).1 ++ (dueL (dueL (setsL l) a).2 b).1 := (Prod.ext_iff.1 hs).1
    have hs2 : (dueL (setsL l) b).2 = (dueL (dueL (setsL l) a).2 b).2 := (Prod.ext_iff.1 hs).2
    have hz1 : (dueL (setsL l) a).1.length ≤ 8796093022208 := by omega
    have hz2 : (dueL (dueL (setsL l) a).2 b).1.length ≤ 8796093022208 := by omega
    have hz3 : (dueL (setsL l) a).1.length + (dueL (dueL (setsL l) a).2 b).1.length ≤ 8796093022208 := by omega
    clear hs hd hn1 hn2 h16 hlen
    generalize hL : setsL l = L at *
    generalize hD1 : (dueL L a).1 = d1 at *
    generalize hL1 : (dueL L a).2 = L1 at *
    generalize hD2 : (dueL L1 b).1 = d2 at *
    generalize hL2 : (dueL L1 b).2 = L2 at *
    generalize hD : (dueL L b).1 = d at *
    generalize hM : (dueL L b).2 = M at *
    have f1 : noneDue L a = d1.isEmpty := by rw [← hD1]; rfl
    have f2 : noneDue L1 b = d2.isEmpty := by rw [← hD2]; rfl
    have f3 : noneDue L b = d.isEmpty := by rw [← hD]; rfl
    rw [f1, f2, f3]
    subst hs1
    have fin : ∀ (d' : Bool), d' = true → Fits [] [.v (.bool d')] [] [.v (.bool true)] [] := fun d' h => by subst h; exact fits_true
    by_cases h1 : d1 = []
    · subst h1
      by_cases h2 : d2 = []
      · subst h2
        refine ⟨⟨fun _ => ⟨fun _ => ⟨fun _ => ⟨?_, fits_true⟩, (fun h => by cases h)⟩, (fun h => by cases h)⟩, (fun h => by cases h)⟩⟩
        simp only [Cnd.holds, rens_rowV, len_idsO, rowI_all, rowI_one, row_addI, List.length_append, List.nil_append, List.append_nil, Nat.ble_eq, Nat.blt_eq, Nat.beq_refl, Nat.zero_add, Nat.mul_one, Nat.le_refl, true_and, and_true, hs2]
        and_intros
        all_goals first
          | (with_reducible exact rfl)
          | (with_reducible exact hB)
          | (with_reducible exact hB1)
          | (with_reducible exact Wk.refl _)
          | (with_reducible exact VW.refl _)
          | (with_reducible exact OW.refl _)
          | (with_reducible exact wk_lit _)
          | exact wk_litE hgt
          | exact VW.refl _
          | exact Wk.refl _
          | exact wk_litE (beq_self_eq_true _)
          | ((repeat (first | exact VW.nil | refine VW.cons (Wk.refl _) ?_ | refine VW.cons (Wk.any _) ?_ | refine VW.cons (wk_cap (Nat.le_refl _)) ?_)); done)
          | (trace_state; fail)
      · have p2 : 0 < d2.length := List.length_pos_iff.2 h2
        have n2 : d2.isEmpty = false := by simpa using h2
        have b2 : d2.length * 8 ≤ 140737488355328 := by omega
        have k2 : d2.length ≤ 9223372036854775807 := by omega
        rw [n2]
        refine ⟨⟨fun _ => ⟨(fun h => by cases h), fun _ => ⟨(fun h => by simp only [List.nil_append, n2] at h; cases h), fun _ => ⟨?_, fits_true⟩⟩⟩, (fun h => by cases h)⟩⟩
        simp only [Cnd.holds, rens_rowV, len_idsO, rowI_all, rowI_one, row_addI, List.length_append, List.nil_append, List.append_nil, Nat.ble_eq, Nat.blt_eq, Nat.beq_refl, Nat.zero_add, Nat.mul_one, Nat.le_refl, true_and, and_true, hs2, p2, b2, k2]
        and_intros
        all_goals first
          | (with_reducible exact rfl)
          | (with_reducible exact hB)
          | (with_reducible exact hB1)
          | (with_reducible exact Wk.refl _)
          | (with_reducible exact VW.refl _)
          | (with_reducible exact OW.refl _)
          | (with_reducible exact wk_lit _)
          | exact wk_litE hgt
          | exact VW.refl _
          | exact Wk.refl _
          | exact wk_litE (beq_self_eq_true _)
          | ((repeat (first | exact VW.nil | refine VW.cons (Wk.refl _) ?_ | refine VW.cons (Wk.any _) ?_ | refine VW.cons (wk_cap (Nat.le_refl _)) ?_)); done)
          | (trace_state; fail)
    · have p1 : 0 < d1.length := List.length_pos_iff.2 h1
      have n1 : d1.isEmpty = false := by simpa using h1
      have b1 : d1.length * 8 ≤ 140737488355328 := by omega
      have k1 : d1.length ≤ 9223372036854775807 := by omega
      have n3 : (d1 ++ d2).isEmpty = false := by simp [h1]
      rw [n1, n3]
      by_cases h2 : d2 = []
      · subst h2
        refine ⟨⟨(fun h => by cases h), fun _ => ⟨fun _ => ⟨(fun h => by cases h), fun _ => ⟨?_, fits_true⟩⟩, (fun h => by cases h)⟩⟩⟩
        simp only [Cnd.holds, rens_rowV, len_idsO, rowI_all, rowI_one, row_addI, List.length_append, List.nil_append, List.append_nil, Nat.ble_eq, Nat.blt_eq, Nat.beq_refl, Nat.zero_add, Nat.mul_one, Nat.le_refl, true_and, and_true, hs2, p1, b1, k1]
        and_intros
        all_goals first
          | (with_reducible exact rfl)
          | (with_reducible exact hB)
          | (with_reducible exact hB1)
          | (with_reducible exact Wk.refl _)
          | (with_reducible exact VW.refl _)
          | (with_reducible exact OW.refl _)
          | (with_reducible exact wk_lit _)
          | exact wk_litE hgt
          | exact VW.refl _
          | exact Wk.refl _
          | exact wk_litE (beq_self_eq_true _)
          | ((repeat (first | exact VW.nil | refine VW.cons (Wk.refl _) ?_ | refine VW.cons (Wk.any _) ?_ | refine VW.cons (wk_cap (Nat.le_refl _)) ?_)); done)
          | (trace_state; fail)
      · have p2 : 0 < d2.length := List.length_pos_iff.2 h2
        have n2 : d2.isEmpty = false := by simpa using h2
        have b2 : (d1.length + d2.length) * 8 ≤ 140737488355328 := by omega
        have k2 : d1.length + d2.length ≤ 9223372036854775807 := by omega
        rw [n2]
        refine ⟨⟨(fun h => by cases h), fun _ => ⟨(fun h => by cases h), fun _ => ⟨(fun h => by cases h), fun _ => ⟨?_, fits_true⟩⟩⟩⟩⟩
        simp only [Cnd.holds, rens_rowV, len_idsO, rowI_all, rowI_one, row_addI, List.length_append, List.nil_append, List.append_nil, Nat.ble_eq, Nat.blt_eq, Nat.beq_refl, Nat.zero_add, Nat.mul_one, Nat.le_refl, true_and, and_true, hs2, p1, b1, k1, p2, b2, k2]
        and_intros
        all_goals first
          | (with_reducible exact rfl)
          | (with_reducible exact hB)
          | (with_reducible exact hB1)
          | (with_reducible exact Wk.refl _)
          | (with_reducible exact VW.refl _)
          | (with_reducible exact OW.refl _)
          | (with_reducible exact wk_lit _)
          | exact wk_litE hgt
          | exact VW.refl _
          | exact Wk.refl _
          | exact wk_litE (beq_self_eq_true _)
          | ((repeat (first | exact VW.nil | refine VW.cons (Wk.refl _) ?_ | refine VW.cons (Wk.any _) ?_ | refine VW.cons (wk_cap (Nat.le_refl _)) ?_)); done)
          | (trace_state; fail)
end Go.Proofs.Ytojfbgmeaadanaa.Alm

/- What a slice of alarms that comes in is. -/
set_option linter.unusedVariables false
set_option linter.unusedSimpArgs false
namespace Go.Proofs.Ytojfbgmeaadanaa
open Go.ChangeShapes Go.WideShapes Go.RowKit Go.Deep
namespace Alm
open Go.Proofs.Ytojfbgmeaadanaa.Eng Go.Proofs.Ytojfbgmeaadanaa.Kit
theorem enc2_length (x : Al) : (enc2 x).length = 2 := rfl
section
variable {H : Type} {encD : TypeId × Value → H} {w : World} {base : Nat} {spare : Nat → Bool} {held : Bool}
theorem cells_al {fuel : Nat} {cs : List Value} {x : DataW H × List MemPlace} (h : DataW.trod encD Try.prog w base spare held fuel 27 cs = some x) : ∃ p : Al, cs = enc2 p ∧ True := by
  obtain ⟨ys, n, _, rfl, hlen, hyl, hf⟩ := DataW.trod_struct Try.underlying27 h
  have zI : Try.prog.cellsOf 3 = 1 := by kernel_rfl
  match cs, hlen.trans (by kernel_rfl : Try.prog.cellsOf 27 = 2) with
  | [c0, c1], _ =>
    match ys, hyl with
    | [y0, y1], _ =>
      obtain ⟨a0, e0, x0, b0⟩ := DataW.trod_int Try.underlying3 (by simpa [zI] using hf 0 _ rfl : DataW.trod encD Try.prog w base spare held n 3 [c0] = some y0)
      obtain rfl := (List.cons.inj e0).1
      obtain ⟨a1, e1, x1, b1⟩ := DataW.trod_int Try.underlying3 (by simpa [zI] using hf 1 _ rfl : DataW.trod encD Try.prog w base spare held n 3 [c1] = some y1)
      obtain rfl := (List.cons.inj e1).1
      exact ⟨⟨a0, a1⟩, rfl, trivial⟩
end
theorem inA_of_rd {W : World} {A : Option Addr} {l : List Al} (h : Rd W A l.length 2 (l.flatMap enc2)) (hb : l.length * 16 ≤ 140737488355328) : InA W A l := by
  refine ⟨fun hne => h.here (by cases l with | nil => exact absurd rfl hne | cons x l => simp), fun a ha k hk => ?_, hb⟩
  have hc : ∀ j (v : Value), j < 2 → (enc2 (l.getD k ⟨0, 0⟩))[j]? = some v → W.cell? ((a.add (k * 2)).add j) = some v := by
    intro j v hj hv
    rw [add_add']
    refine h.cells a ha _ _ ?_
    rw [pieces_get enc2_length l k j hk hj, ← hv]
    congr 2
    simp [List.getD, List.getElem?_eq_getElem hk]
  have e0 := hc 0 _ (by decide) rfl
  have e1 := hc 1 _ (by decide) rfl
  exact ⟨by simp [List.all, e0, e1], e0, e1⟩
end Alm
end Go.Proofs.Ytojfbgmeaadanaa

/- AlarmsOnce: runs. -/
set_option linter.unusedVariables false
set_option linter.unusedSimpArgs false
set_option maxRecDepth 100000
namespace Go.Proofs.Ytojfbgmeaadanaa.Alm
open Go Go.RowKit Go.Proofs.Ytojfbgmeaadanaa.Eng Go.Proofs.Ytojfbgmeaadanaa.Kit
noncomputable section
abbrev fOnce : Nat := 4
def ivm : Int → AV := iv
def lastO (m : IMap Int) (ck : Nat) : AO := .map (mE ivm m) ck
/-! The alarms are set. -/
def aOn (V : AV) (n k : Nat) : List (Nat × AV) := [(3, .ptr 0 0), (4, .map 1), (21, V), (22, iv (Int.ofNat n)), (23, iv (Int.ofNat k))]
def zOn : List (Nat × AV) := [(3, .ptr 0 0), (4, .map 1)]
def oOn (L : List Al) (tn : Int) (m : IMap Int) (ck : Nat) : LH := [(0, clO L tn), (1, lastO m ck)]
def hOn (k : Nat) (x : Al) : ClaimT := hintL [(fOnce, 8, 0, hv (.lit true)), (fOnce, 9, 1, hv (.agg (vmap (enc2 x)))), (fOnce, 12, 0, hv (iv (Int.ofNat (k + 1))))]
theorem oOnRound_eq (W : World) (ad : Addr) (n c k : Nat) (L : List Al) (m : IMap Int) (ck : Nat) (x : Al) (F : HP) : wLoop (conA []) (hOn k x) [] W fOnce (loopN fOnce 8) (tms 0 92 (aOn (slV (some ad) n c) n k)) (oOn L (Int.ofNat k) m ck) [0, 1] [3, 4, 21, 22, 23] F = VT.leaf (AX.normal, [AV.ptr 0 0, AV.map 1, AV.v (Value.slice (some ad) n c), AV.v (Value.int IntKind.i64 (Int.ofNat n)), AV.v (Value.int IntKind.i64 (Int.ofNat (k + 1)))], 92) [some (AO.own (Md.clock (setL L (intA (AV.v (Value.int IntKind.i64 x.id))) (intA (AV.v (Value.int IntKind.i64 x.tk)))) (Int.ofNat k + Int.ofNat 1)) (clH (setL L (intA (AV.v (Value.int IntKind.i64 x.id))) (intA (AV.v (Value.int IntKind.i64 x.tk)))) (Int.ofNat k + Int.ofNat 1))), some (AO.map (setE (AV.v (Value.int IntKind.i64 x.id)) (AV.v (Value.int IntKind.i64 x.tk)) (mE ivm m) ck) (bumpE (AV.v (Value.int IntKind.i64 x.id)) (mE ivm m) ck))] 1101 (((Cnd.p (Wk (AV.v (Value.bool (decide (Int.ofNat k < Int.ofNat n)))) (AV.lit true))).a Cnd.t).a (((Cnd.p (k.blt n = true)).a Cnd.t).a (((Cnd.p (([0, 1].all fun j => (W.cell? ((ad.add (k * 2)).add j)).isSome) = true)).a ((Cnd.p ([AV.v ((W.cell? ((ad.add (k * 2)).add 0)).getD (Value.tuple (Array.mk []))), AV.v ((W.cell? (Addr.mk (ad.add (k * 2)).block ((ad.add (k * 2)).off + 1) none)).getD (Value.tuple (Array.mk [])))] = [AV.v (Value.int IntKind.i64 (AV.v ((W.cell? ((ad.add (k * 2)).add 0)).getD (Value.tuple (Array.mk [])))).intOf), AV.v (Value.int IntKind.i64 (AV.v ((W.cell? (Addr.mk (ad.add (k * 2)).block ((ad.add (k * 2)).off + 1) none)).getD (Value.tuple (Array.mk [])))).intOf)])).a ((Cnd.p (Wk (AV.agg [AV.v (Value.int IntKind.i64 (AV.v ((W.cell? ((ad.add (k * 2)).add 0)).getD (Value.tuple (Array.mk [])))).intOf), AV.v (Value.int IntKind.i64 (AV.v ((W.cell? (Addr.mk (ad.add (k * 2)).block ((ad.add (k * 2)).off + 1) none)).getD (Value.tuple (Array.mk [])))).intOf)]) (AV.agg [AV.v (Value.int IntKind.i64 x.id), AV.v (Value.int IntKind.i64 x.tk)]))).a Cnd.t))).a (((Cnd.p (true = true)).a Cnd.t).a (((Cnd.p (true = true)).a ((Cnd.p (AV.v (Value.int IntKind.i64 x.id) = AV.v (Value.int IntKind.i64 x.id))).a Cnd.t)).a (((Cnd.p (true = true)).a ((Cnd.p (AV.v (Value.int IntKind.i64 x.tk) = AV.v (Value.int IntKind.i64 x.tk))).a Cnd.t)).a (((Cnd.p (RoomL L ∧ TnOK (Int.ofNat k))).a ((Cnd.p (VW [AV.ptr 0 0, AV.v (Value.int IntKind.i64 x.id), AV.v (Value.int IntKind.i64 x.tk)] [AV.ptr 0 0, AV.v (Value.int IntKind.i64 (intA (AV.v (Value.int IntKind.i64 x.id)))), AV.v (Value.int IntKind.i64 (intA (AV.v (Value.int IntKind.i64 x.tk))))])).a ((Cnd.p (OW (AO.own (Md.clock L (Int.ofNat k)) (clH L (Int.ofNat k))) (AO.own (Md.clock L (Int.ofNat k)) (clH L (Int.ofNat k))))).a Cnd.t))).a (((Cnd.p (true = true)).a ((Cnd.p (AV.v (Value.int IntKind.i64 x.id) = AV.v (Value.int IntKind.i64 x.id))).a Cnd.t)).a (((Cnd.p (true = true)).a ((Cnd.p (AV.v (Value.int IntKind.i64 x.tk) = AV.v (Value.int IntKind.i64 x.tk))).a Cnd.t)).a (((Cnd.p (findKey Try.prog (envW [(7, cANew), (8, cASet), (9, cADue), (11, cALen), (15, cACan), (16, cAAt), (12, cANext), (10, cSame []), (6, cASpeaks)] (hOn k x) [] W F) 3 (AV.v (Value.int IntKind.i64 x.id)) (mE ivm m) 0 = AP.ret (findS (AV.v (Value.int IntKind.i64 x.id)) (mE ivm m) 0))).a ((Cnd.p (staysS (AV.v (Value.int IntKind.i64 x.id)) (mE ivm m))).a Cnd.t)).a (((Cnd.p (Wk (AV.v (Value.int IntKind.i64 (IntKind.i64.wrap (Int.ofNat k + Int.ofNat 1)))) (AV.v (Value.int IntKind.i64 (Int.ofNat (k + 1)))))).a Cnd.t).a Cnd.t))))))))))) := by kernel_rfl
theorem oOnEnd_eq (W : World) (oa : Option Addr) (n c k : Nat) (L : List Al) (m : IMap Int) (ck : Nat) (F : HP) : wLoop (conA []) (hintL [(fOnce, 8, 0, hv (.lit false))]) [] W fOnce (loopN fOnce 8) (tms 0 92 (aOn (slV oa n c) n k)) (oOn L (Int.ofNat k) m ck) [0, 1] [3, 4, 21, 22, 23] F = VT.leaf (AX.exit 0, [AV.ptr 0 0, AV.map 1, AV.v (Value.slice oa n c), AV.v (Value.int IntKind.i64 (Int.ofNat n)), AV.v (Value.int IntKind.i64 (Int.ofNat k))], 92) [some (AO.own (Md.clock L (Int.ofNat k)) (clH L (Int.ofNat k))), some (AO.map (mE ivm m) ck)] 1100 (((Cnd.p (Wk (AV.v (Value.bool (decide (Int.ofNat k < Int.ofNat n)))) (AV.lit false))).a Cnd.t).a Cnd.t) := by kernel_rfl
/-! One tick's ids. -/
def aIn (n i : Nat) (at_ : Int) (l : List Int) (j : Nat) : List (Nat × AV) := [(3, .ptr 0 0), (4, .map 1), (7, iv (Int.ofNat n)), (8, iv (Int.ofNat i)), (9, iv at_), (62, isl 2 l), (63, iv (Int.ofNat l.length)), (64, iv (Int.ofNat j))]
def zIn (n i : Nat) : List (Nat × AV) := [(3, .ptr 0 0), (4, .map 1), (7, iv (Int.ofNat n)), (8, iv (Int.ofNat i))]
def oIn (L : List Al) (tn : Int) (m : IMap Int) (ck : Nat) (l : List Int) : LH := [(0, clO L tn), (1, lastO m ck), (2, idsO l)]
def hIn (at_ id : Int) (j : Nat) : ClaimT := hintL [(fOnce, 24, 1, hv (.lit false)), (fOnce, 21, 0, hv (.lit true)), (fOnce, 22, 1, hv (iv id)), (fOnce, 23, 2, hv (.tuple [iv at_, .lit true])), (fOnce, 24, 5, hv (.lit false)), (fOnce, 27, 0, hv (iv (Int.ofNat (j + 1))))]
theorem oInRound_eq (n i j : Nat) (at_ id : Int) (l : List Int) (L : List Al) (tn : Int) (m : IMap Int) (ck : Nat) (F : HP) : wLoop [] (hIn at_ id j) [] default fOnce (loopN fOnce 21) (tms 0 92 (aIn n i at_ l j)) (oIn L tn m ck l) [0, 1, 2] [3, 4, 7, 8, 9, 62, 63, 64] F = VT.leaf (AX.normal, [AV.ptr 0 0, AV.map 1, AV.v (Value.int IntKind.i64 (Int.ofNat n)), AV.v (Value.int IntKind.i64 (Int.ofNat i)), AV.v (Value.int IntKind.i64 at_), AV.slice 2 0 l.length 1 (Cp.lo l.length), AV.v (Value.int IntKind.i64 (Int.ofNat l.length)), AV.v (Value.int IntKind.i64 (Int.ofNat (j + 1)))], 92) [some (AO.own (Md.clock L tn) (clH L tn)), some (AO.map (delE (AV.v (Value.int IntKind.i64 id)) (mE ivm m)) ck), some (AO.cells (rowV encI l) 6)] 1100 (((Cnd.p (Wk (AV.v (Value.bool (decide (Int.ofNat j < Int.ofNat l.length)))) (AV.lit true))).a Cnd.t).a (((Cnd.p (j.blt l.length = true)).a Cnd.t).a (((Cnd.p ((0 + j * 1).blt (rowV encI l).length = true)).a ((Cnd.p ((rowV encI l).getD (0 + j * 1) (AV.v (Value.tuple (Array.mk []))) = AV.v (Value.int IntKind.i64 ((rowV encI l).getD (0 + j * 1) (AV.v (Value.tuple (Array.mk [])))).intOf))).a ((Cnd.p (Wk (AV.v (Value.int IntKind.i64 ((rowV encI l).getD (0 + j * 1) (AV.v (Value.tuple (Array.mk [])))).intOf)) (AV.v (Value.int IntKind.i64 id)))).a Cnd.t))).a (((Cnd.p (findKey Try.prog (envW [] (hIn at_ id j) [] default F) 3 (AV.v (Value.int IntKind.i64 id)) (mE ivm m) 0 = AP.ret (findS (AV.v (Value.int IntKind.i64 id)) (mE ivm m) 0))).a ((Cnd.p (foundX (findS (AV.v (Value.int IntKind.i64 id)) (mE ivm m) 0) (Value.int IntKind.i64 (Int.ofNat 0)) = AV.v (Value.int IntKind.i64 (foundX (findS (AV.v (Value.int IntKind.i64 id)) (mE ivm m) 0) (Value.int IntKind.i64 (Int.ofNat 0))).intOf))).a ((Cnd.p (Wk (AV.tuple [AV.v (Value.int IntKind.i64 (foundX (findS (AV.v (Value.int IntKind.i64 id)) (mE ivm m) 0) (Value.int IntKind.i64 (Int.ofNat 0))).intOf), AV.v (Value.bool (findS (AV.v (Value.int IntKind.i64 id)) (mE ivm m) 0).isSome)]) (AV.tuple [AV.v (Value.int IntKind.i64 at_), AV.lit true]))).a Cnd.t))).a (((Cnd.p (Wk (AV.v (Value.bool false)) (AV.lit false))).a Cnd.t).a (((Cnd.p (Wk (AV.v (Value.bool (at_ != at_))) (AV.lit false))).a Cnd.t).a (((Cnd.p (findKey Try.prog (envW [] (hIn at_ id j) [] default F) 3 (AV.v (Value.int IntKind.i64 id)) (mE ivm m) 0 = AP.ret (findS (AV.v (Value.int IntKind.i64 id)) (mE ivm m) 0))).a Cnd.t).a (((Cnd.p (Wk (AV.v (Value.int IntKind.i64 (IntKind.i64.wrap (Int.ofNat j + Int.ofNat 1)))) (AV.v (Value.int IntKind.i64 (Int.ofNat (j + 1)))))).a Cnd.t).a Cnd.t)))))))) := by kernel_rfl
theorem oInEnd_eq (n i j : Nat) (at_ : Int) (l : List Int) (L : List Al) (tn : Int) (m : IMap Int) (ck : Nat) (F : HP) : wLoop [] (hintL [(fOnce, 21, 0, hv (.lit false))]) [] default fOnce (loopN fOnce 21) (tms 0 92 (aIn n i at_ l j)) (oIn L tn m ck l) [0, 1, 2] [3, 4, 7, 8, 9, 62, 63, 64] F = VT.leaf (AX.exit 4, [AV.ptr 0 0, AV.map 1, AV.v (Value.int IntKind.i64 (Int.ofNat n)), AV.v (Value.int IntKind.i64 (Int.ofNat i)), AV.v (Value.int IntKind.i64 at_), AV.slice 2 0 l.length 1 (Cp.lo l.length), AV.v (Value.int IntKind.i64 (Int.ofNat l.length)), AV.v (Value.int IntKind.i64 (Int.ofNat j))], 92) [some (AO.own (Md.clock L tn) (clH L tn)), some (AO.map (mE ivm m) ck), some (AO.cells (rowV encI l) 6)] 1100 (((Cnd.p (Wk (AV.v (Value.bool (decide (Int.ofNat j < Int.ofNat l.length)))) (AV.lit false))).a Cnd.t).a Cnd.t) := by kernel_rfl
def gIn : List AV → AP (Nat × Nat × Nat) := fun tmps => match getL tmps 3 with
  | .ptr r0 _ => match getL tmps 4 with
    | .map r1 => match getL tmps 62 with
      | .slice r2 _ _ _ _ => .ret (r0, r1, r2)
      | _ => .fail "in"
    | _ => .fail "in"
  | _ => .fail "in"
def nm3 (r0 r1 r2 : Nat) : Nat → Nat := fun k => match Nat.beq k 0 with
  | true => r0
  | false => match Nat.beq k 1 with
    | true => r1
    | false => r2
def lIn (n i : Nat) (at_ : Int) (l : List Int) (L : List Al) (tn : Int) (m m' : IMap Int) (ck : Nat) : List AV → AP (AX × List AV) := mkL gIn (fun _ => True) (fun p => nm3 p.1 p.2.1 p.2.2) (fun _ => tms 0 92 (aIn n i at_ l 0)) (fun _ => oIn L tn m ck l) (fun _ => .leaf (.exit 4) (tms 0 92 (zIn n i)) (oIn L tn m' ck l))
/-! The ticks. -/
def aTk (n i : Nat) : List (Nat × AV) := [(3, .ptr 0 0), (4, .map 1), (7, iv (Int.ofNat n)), (8, iv (Int.ofNat i))]
def hTk (at_ : Int) (n i : Nat) : ClaimT := hintL [(fOnce, 18, 1, hv (.lit false)), (fOnce, 15, 2, hv (.lit true)), (fOnce, 17, 1, hv (.tuple [iv at_, .lit true])), (fOnce, 20, 3, hv (iv (Int.ofNat n))), (fOnce, 16, 1, hv (iv (Int.ofNat (i + 1))))]
theorem oTkRound_eq (n i : Nat) (at_ : Int) (L L' : List Al) (tn : Int) (m m' : IMap Int) (ck : Nat) (l : List Int) (F : HP) : wLoop (conA []) (hTk at_ l.length i) [(fOnce, 21, loopN fOnce 21, lIn n i at_ l L' tn m m' ck)] default fOnce (loopN fOnce 15) (tms 0 92 (aTk n i)) (oOn L tn m ck) [0, 1] [2, 3, 4, 7, 8] F = VT.ite (noneDue L at_) (VT.bad "in") (VT.leaf (AX.normal, [AV.any, AV.ptr 0 0, AV.map 1, AV.v (Value.int IntKind.i64 (Int.ofNat n)), AV.v (Value.int IntKind.i64 (Int.ofNat (i + 1)))], 92) [some (AO.own (Md.clock L' tn) (clH L' tn)), some (AO.map (renE (sgN (nm3 0 1 1100) [] 0) (mE ivm m')) ck)] 1101 (((Cnd.p (Wk (AV.v (Value.bool (decide (Int.ofNat i < Int.ofNat n)))) (AV.lit true))).a Cnd.t).a (((Cnd.p True).a ((Cnd.p (VW [AV.ptr 0 0] [AV.ptr 0 0])).a ((Cnd.p (OW (AO.own (Md.clock L tn) (clH L tn)) (AO.own (Md.clock L tn) (clH L tn)))).a ((Cnd.p (Wk (AV.tuple [AV.v (Value.int IntKind.i64 ((nextOf L).getD (Int.ofNat 0))), AV.v (Value.bool (nextOf L).isSome)]) (AV.tuple [AV.v (Value.int IntKind.i64 at_), AV.lit true]))).a Cnd.t)))).a (((Cnd.p (Wk (AV.v (Value.bool false)) (AV.lit false))).a Cnd.t).a (((Cnd.p (BigL L)).a ((Cnd.p (VW [AV.ptr 0 0, AV.v (Value.int IntKind.i64 at_)] [AV.ptr 0 0, AV.v (Value.int IntKind.i64 at_)])).a ((Cnd.p (OW (AO.own (Md.clock L tn) (clH L tn)) (AO.own (Md.clock L tn) (clH L tn)))).a Cnd.t))).a (((Cnd.p (Wk (AV.v (Value.int IntKind.i64 ↑(dueL L at_).fst.length)) (AV.v (Value.int IntKind.i64 (Int.ofNat l.length))))).a Cnd.t).a ((Cnd.p ((fOnce, 21, loopN fOnce 21, lIn n i at_ l L' tn m m' ck).snd.snd.fst = (fOnce, 21, loopN fOnce 21, lIn n i at_ l L' tn m m' ck).snd.snd.fst)).a ((Cnd.p True).a ((Cnd.p (VW [AV.any, AV.any, AV.any, AV.ptr 0 0, AV.map 1, AV.any, AV.any, AV.v (Value.int IntKind.i64 (Int.ofNat n)), AV.v (Value.int IntKind.i64 (Int.ofNat i)), AV.v (Value.int IntKind.i64 at_), AV.lit true, AV.any, AV.any, AV.any, AV.any, AV.any, AV.any, AV.any, AV.any, AV.any, AV.any, AV.any, AV.any, AV.any, AV.any, AV.any, AV.any, AV.any, AV.any, AV.any, AV.any, AV.any, AV.any, AV.any, AV.any, AV.any, AV.any, AV.any, AV.any, AV.any, AV.any, AV.v (Value.int IntKind.i64 (Int.ofNat i)), AV.v (Value.int IntKind.i64 (Int.ofNat n)), AV.lit true, AV.any, AV.any, AV.tuple [AV.v (Value.int IntKind.i64 at_), AV.lit true], AV.ptr 0 0, AV.tuple [AV.v (Value.int IntKind.i64 at_), AV.lit true], AV.v (Value.int IntKind.i64 at_), AV.lit true, AV.lit true, AV.lit false, AV.any, AV.any, AV.any, AV.any, AV.any, AV.any, AV.any, AV.ptr 0 0, AV.v (Value.int IntKind.i64 at_), AV.slice 1100 0 (dueL L at_).fst.length 1 (Cp.lo (dueL L at_).fst.length), AV.v (Value.int IntKind.i64 (Int.ofNat l.length)), AV.v (Value.int IntKind.i64 (Int.ofNat 0)), AV.any, AV.any, AV.any, AV.any, AV.any, AV.any, AV.any, AV.any, AV.any, AV.any, AV.any, AV.any, AV.any, AV.any, AV.any, AV.any, AV.any, AV.any, AV.any, AV.any, AV.any, AV.any, AV.any, AV.any, AV.any, AV.any, AV.any] [AV.any, AV.any, AV.any, AV.ptr 0 0, AV.map 1, AV.any, AV.any, AV.v (Value.int IntKind.i64 (Int.ofNat n)), AV.v (Value.int IntKind.i64 (Int.ofNat i)), AV.v (Value.int IntKind.i64 at_), AV.any, AV.any, AV.any, AV.any, AV.any, AV.any, AV.any, AV.any, AV.any, AV.any, AV.any, AV.any, AV.any, AV.any, AV.any, AV.any, AV.any, AV.any, AV.any, AV.any, AV.any, AV.any, AV.any, AV.any, AV.any, AV.any, AV.any, AV.any, AV.any, AV.any, AV.any, AV.any, AV.any, AV.any, AV.any, AV.any, AV.any, AV.any, AV.any, AV.any, AV.any, AV.any, AV.any, AV.any, AV.any, AV.any, AV.any, AV.any, AV.any, AV.any, AV.any, AV.any, AV.slice 1100 0 l.length 1 (Cp.lo l.length), AV.v (Value.int IntKind.i64 (Int.ofNat l.length)), AV.v (Value.int IntKind.i64 (Int.ofNat 0)), AV.any, AV.any, AV.any, AV.any, AV.any, AV.any, AV.any, AV.any, AV.any, AV.any, AV.any, AV.any, AV.any, AV.any, AV.any, AV.any, AV.any, AV.any, AV.any, AV.any, AV.any, AV.any, AV.any, AV.any, AV.any, AV.any, AV.any])).a ((Cnd.p (OW (AO.own (Md.clock (dueL L at_).snd tn) (clH (dueL L at_).snd tn)) (AO.own (Md.clock L' tn) (clH L' tn)))).a ((Cnd.p (OW (AO.map (mE ivm m) ck) (AO.map (renE (nm3 0 1 1100) (mE ivm m)) ck))).a ((Cnd.p (OW (AO.cells (AV.rens (sgN (fun x => 0) [1010] 1100) (rowV encI (dueL L at_).fst)) 6) (AO.cells (AV.rens (nm3 0 1 1100) (rowV encI l)) 6))).a (((Cnd.p (Wk (AV.v (Value.int IntKind.i64 (IntKind.i64.wrap (Int.ofNat i + Int.ofNat 1)))) (AV.v (Value.int IntKind.i64 (Int.ofNat (i + 1)))))).a Cnd.t).a Cnd.t))))))))))))) := by kernel_rfl
theorem oTkEnd_eq (n i : Nat) (L : List Al) (tn : Int) (m : IMap Int) (ck : Nat) (F : HP) : wLoop (conA []) (hintL [(fOnce, 15, 2, hv (.lit false))]) [] default fOnce (loopN fOnce 15) (tms 0 92 (aTk n i)) (oOn L tn m ck) [0, 1] [2, 3, 4, 7, 8] F = VT.leaf (AX.exit 2, [AV.any, AV.ptr 0 0, AV.map 1, AV.v (Value.int IntKind.i64 (Int.ofNat n)), AV.v (Value.int IntKind.i64 (Int.ofNat i))], 92) [some (AO.own (Md.clock L tn) (clH L tn)), some (AO.map (mE ivm m) ck)] 1100 (((Cnd.p (Wk (AV.v (Value.bool (decide (Int.ofNat i < Int.ofNat n)))) (AV.lit false))).a Cnd.t).a Cnd.t) := by kernel_rfl
theorem oTkRet_eq (n i : Nat) (tn : Int) (ck : Nat) (F : HP) : wLoop (conA []) (hintL [(fOnce, 15, 2, hv (.lit true)), (fOnce, 17, 1, hv (.tuple [iv 0, .lit false])), (fOnce, 18, 1, hv (.lit true)), (fOnce, 19, 1, hv (.lit true))]) [] default fOnce (loopN fOnce 15) (tms 0 92 (aTk n i)) (oOn [] tn [] ck) [0, 1] [2, 3, 4, 7, 8] F = VT.leaf (AX.ret, [AV.v (Value.bool true), AV.ptr 0 0, AV.map 1, AV.v (Value.int IntKind.i64 (Int.ofNat n)), AV.v (Value.int IntKind.i64 (Int.ofNat i))], 92) [some (AO.own (Md.clock [] tn) (clH [] tn)), some (AO.map [] ck)] 1100 (((Cnd.p (Wk (AV.v (Value.bool (decide (Int.ofNat i < Int.ofNat n)))) (AV.lit true))).a Cnd.t).a (((Cnd.p True).a ((Cnd.p (VW [AV.ptr 0 0] [AV.ptr 0 0])).a ((Cnd.p (OW (AO.own (Md.clock [] tn) (clH [] tn)) (AO.own (Md.clock [] tn) (clH [] tn)))).a ((Cnd.p (Wk (AV.tuple [AV.v (Value.int IntKind.i64 (Int.ofNat 0)), AV.v (Value.bool false)]) (AV.tuple [AV.v (Value.int IntKind.i64 (Int.ofNat 0)), AV.lit false]))).a Cnd.t)))).a (((Cnd.p (Wk (AV.v (Value.bool true)) (AV.lit true))).a Cnd.t).a (((Cnd.p (Wk (AV.v (Value.bool (decide (Int.ofNat i > Int.ofNat 0)))) (AV.lit true))).a Cnd.t).a Cnd.t)))) := by kernel_rfl
/-! The law. -/
def gTk : List AV → AP (Nat × Nat) := fun tmps => match getL tmps 3 with
  | .ptr r0 _ => match getL tmps 4 with
    | .map r1 => .ret (r0, r1)
    | _ => .fail "ticks"
  | _ => .fail "ticks"
def lOn (V : AV) (n : Nat) (L : List Al) (tn : Int) (m : IMap Int) (ck : Nat) : List AV → AP (AX × List AV) := mkL gTk (fun _ => True) (fun p => nm2 p.1 p.2) (fun _ => tms 0 92 (aOn V n 0)) (fun _ => oOn [] 0 [] 0) (fun _ => .leaf (.exit 0) (tms 0 92 zOn) (oOn L tn m ck))
def lTkE (n : Nat) (L : List Al) (tn : Int) (m : IMap Int) (ck : Nat) : List AV → AP (AX × List AV) := mkL gTk (fun _ => True) (fun p => nm2 p.1 p.2) (fun _ => tms 0 92 (aTk n 0)) (fun _ => oOn L tn m ck) (fun _ => .leaf (.exit 2) (tms 0 92 zOn) (oOn [] tn [] ck))
def lTkR (n : Nat) (L : List Al) (tn : Int) (m : IMap Int) (ck : Nat) : List AV → AP (AX × List AV) := mkL gTk (fun _ => True) (fun p => nm2 p.1 p.2) (fun _ => tms 0 92 (aTk n 0)) (fun _ => oOn L tn m ck) (fun _ => .leaf .ret (tms 0 92 [(2, bv true)]) [])
def hOnL : ClaimT := hintL [(fOnce, 1, 1, hv (.lit false)), (fOnce, 4, 1, hv (.lit false)), (fOnce, 28, 2, hv (.lit true))]
theorem oOnE_eq (W : World) (oa : Option Addr) (n c : Nat) (L : List Al) (tn : Int) (m : IMap Int) (ck : Nat) (F : HP) : wRun (conA []) hOnL [(fOnce, 8, loopN fOnce 8, lOn (slV oa n c) n L tn m ck), (fOnce, 15, loopN fOnce 15, lTkE L.length L tn m ck)] W fOnce [slV oa n c] [] [] F = VT.leaf (AV.v (Value.bool true)) [] 1102 (((Cnd.p True).a ((Cnd.p (VW [] [])).a Cnd.t)).a (((Cnd.p (Wk (AV.v (Value.bool false)) (AV.lit false))).a Cnd.t).a (((Cnd.p True).a ((Cnd.p (VW [] [])).a Cnd.t)).a (((Cnd.p (Wk (AV.v (Value.bool false)) (AV.lit false))).a Cnd.t).a ((Cnd.p ((fOnce, 8, loopN fOnce 8, lOn (slV oa n c) n L tn m ck).snd.snd.fst = (fOnce, 8, loopN fOnce 8, lOn (slV oa n c) n L tn m ck).snd.snd.fst)).a ((Cnd.p True).a ((Cnd.p (VW [AV.v (Value.slice oa n c), AV.v (Value.tuple (Array.mk [])), AV.v (Value.bool false), AV.ptr 1100 0, AV.map 1101, AV.v (Value.tuple (Array.mk [])), AV.v (Value.tuple (Array.mk [])), AV.v (Value.tuple (Array.mk [])), AV.v (Value.tuple (Array.mk [])), AV.v (Value.tuple (Array.mk [])), AV.v (Value.tuple (Array.mk [])), AV.v (Value.tuple (Array.mk [])), AV.v (Value.tuple (Array.mk [])), AV.v (Value.tuple (Array.mk [])), AV.v (Value.tuple (Array.mk [])), AV.v (Value.bool true), AV.lit false, AV.ptr 1100 0, AV.ptr 1100 0, AV.lit false, AV.map 1101, AV.v (Value.slice oa n c), AV.v (Value.int IntKind.i64 ↑n), AV.v (Value.int IntKind.i64 (Int.ofNat 0)), AV.v (Value.tuple (Array.mk [])), AV.v (Value.tuple (Array.mk [])), AV.v (Value.tuple (Array.mk [])), AV.v (Value.tuple (Array.mk [])), AV.v (Value.tuple (Array.mk [])), AV.v (Value.tuple (Array.mk [])), AV.v (Value.tuple (Array.mk [])), AV.v (Value.tuple (Array.mk [])), AV.v (Value.tuple (Array.mk [])), AV.v (Value.tuple (Array.mk [])), AV.v (Value.tuple (Array.mk [])), AV.v (Value.tuple (Array.mk [])), AV.v (Value.tuple (Array.mk [])), AV.v (Value.tuple (Array.mk [])), AV.v (Value.tuple (Array.mk [])), AV.v (Value.tuple (Array.mk [])), AV.v (Value.tuple (Array.mk [])), AV.v (Value.tuple (Array.mk [])), AV.v (Value.tuple (Array.mk [])), AV.v (Value.tuple (Array.mk [])), AV.v (Value.tuple (Array.mk [])), AV.v (Value.tuple (Array.mk [])), AV.v (Value.tuple (Array.mk [])), AV.v (Value.tuple (Array.mk [])), AV.v (Value.tuple (Array.mk [])), AV.v (Value.tuple (Array.mk [])), AV.v (Value.tuple (Array.mk [])), AV.v (Value.tuple (Array.mk [])), AV.v (Value.tuple (Array.mk [])), AV.v (Value.tuple (Array.mk [])), AV.v (Value.tuple (Array.mk [])), AV.v (Value.tuple (Array.mk [])), AV.v (Value.tuple (Array.mk [])), AV.v (Value.tuple (Array.mk [])), AV.v (Value.tuple (Array.mk [])), AV.v (Value.tuple (Array.mk [])), AV.v (Value.tuple (Array.mk [])), AV.v (Value.tuple (Array.mk [])), AV.v (Value.tuple (Array.mk [])), AV.v (Value.tuple (Array.mk [])), AV.v (Value.tuple (Array.mk [])), AV.v (Value.tuple (Array.mk [])), AV.v (Value.tuple (Array.mk [])), AV.v (Value.tuple (Array.mk [])), AV.v (Value.tuple (Array.mk [])), AV.v (Value.tuple (Array.mk [])), AV.v (Value.tuple (Array.mk [])), AV.v (Value.tuple (Array.mk [])), AV.v (Value.tuple (Array.mk [])), AV.v (Value.tuple (Array.mk [])), AV.v (Value.tuple (Array.mk [])), AV.v (Value.tuple (Array.mk [])), AV.v (Value.tuple (Array.mk [])), AV.v (Value.tuple (Array.mk [])), AV.v (Value.tuple (Array.mk [])), AV.v (Value.tuple (Array.mk [])), AV.v (Value.tuple (Array.mk [])), AV.v (Value.tuple (Array.mk [])), AV.v (Value.tuple (Array.mk [])), AV.v (Value.tuple (Array.mk [])), AV.v (Value.tuple (Array.mk [])), AV.v (Value.tuple (Array.mk [])), AV.v (Value.tuple (Array.mk [])), AV.v (Value.tuple (Array.mk [])), AV.v (Value.tuple (Array.mk [])), AV.v (Value.tuple (Array.mk [])), AV.v (Value.tuple (Array.mk [])), AV.v (Value.tuple (Array.mk []))] [AV.any, AV.any, AV.any, AV.ptr 1100 0, AV.map 1101, AV.any, AV.any, AV.any, AV.any, AV.any, AV.any, AV.any, AV.any, AV.any, AV.any, AV.any, AV.any, AV.any, AV.any, AV.any, AV.any, AV.v (Value.slice oa n c), AV.v (Value.int IntKind.i64 (Int.ofNat n)), AV.v (Value.int IntKind.i64 (Int.ofNat 0)), AV.any, AV.any, AV.any, AV.any, AV.any, AV.any, AV.any, AV.any, AV.any, AV.any, AV.any, AV.any, AV.any, AV.any, AV.any, AV.any, AV.any, AV.any, AV.any, AV.any, AV.any, AV.any, AV.any, AV.any, AV.any, AV.any, AV.any, AV.any, AV.any, AV.any, AV.any, AV.any, AV.any, AV.any, AV.any, AV.any, AV.any, AV.any, AV.any, AV.any, AV.any, AV.any, AV.any, AV.any, AV.any, AV.any, AV.any, AV.any, AV.any, AV.any, AV.any, AV.any, AV.any, AV.any, AV.any, AV.any, AV.any, AV.any, AV.any, AV.any, AV.any, AV.any, AV.any, AV.any, AV.any, AV.any, AV.any, AV.any])).a ((Cnd.p (OW (AO.own (Md.clock [] (Int.ofNat 0)) (clH [] (Int.ofNat 0))) (AO.own (Md.clock [] (Int.ofNat 0)) (clH [] (Int.ofNat 0))))).a ((Cnd.p (OW (AO.map [] 0) (AO.map [] 0))).a (((Cnd.p True).a ((Cnd.p (VW [AV.ptr 1100 0] [AV.ptr 1100 0])).a ((Cnd.p (OW (AO.own (Md.clock L tn) (clH L tn)) (AO.own (Md.clock L tn) (clH L tn)))).a Cnd.t))).a ((Cnd.p ((fOnce, 15, loopN fOnce 15, lTkE L.length L tn m ck).snd.snd.fst = (fOnce, 15, loopN fOnce 15, lTkE L.length L tn m ck).snd.snd.fst)).a ((Cnd.p True).a ((Cnd.p (VW [AV.any, AV.any, AV.any, AV.ptr 1100 0, AV.map 1101, AV.any, AV.any, AV.v (Value.int IntKind.i64 (Int.ofNat L.length)), AV.v (Value.int IntKind.i64 (Int.ofNat 0)), AV.any, AV.any, AV.any, AV.any, AV.any, AV.any, AV.any, AV.any, AV.any, AV.any, AV.any, AV.any, AV.any, AV.any, AV.any, AV.any, AV.any, AV.any, AV.any, AV.any, AV.any, AV.any, AV.any, AV.any, AV.any, AV.any, AV.any, AV.any, AV.any, AV.any, AV.ptr 1100 0, AV.v (Value.int IntKind.i64 (Int.ofNat L.length)), AV.any, AV.any, AV.any, AV.any, AV.any, AV.any, AV.any, AV.any, AV.any, AV.any, AV.any, AV.any, AV.any, AV.any, AV.any, AV.any, AV.any, AV.any, AV.any, AV.any, AV.any, AV.any, AV.any, AV.any, AV.any, AV.any, AV.any, AV.any, AV.any, AV.any, AV.any, AV.any, AV.any, AV.any, AV.any, AV.any, AV.any, AV.any, AV.any, AV.any, AV.any, AV.any, AV.any, AV.any, AV.any, AV.any, AV.any, AV.any, AV.any, AV.any, AV.any] [AV.any, AV.any, AV.any, AV.ptr 1100 0, AV.map 1101, AV.any, AV.any, AV.v (Value.int IntKind.i64 (Int.ofNat L.length)), AV.v (Value.int IntKind.i64 (Int.ofNat 0)), AV.any, AV.any, AV.any, AV.any, AV.any, AV.any, AV.any, AV.any, AV.any, AV.any, AV.any, AV.any, AV.any, AV.any, AV.any, AV.any, AV.any, AV.any, AV.any, AV.any, AV.any, AV.any, AV.any, AV.any, AV.any, AV.any, AV.any, AV.any, AV.any, AV.any, AV.any, AV.any, AV.any, AV.any, AV.any, AV.any, AV.any, AV.any, AV.any, AV.any, AV.any, AV.any, AV.any, AV.any, AV.any, AV.any, AV.any, AV.any, AV.any, AV.any, AV.any, AV.any, AV.any, AV.any, AV.any, AV.any, AV.any, AV.any, AV.any, AV.any, AV.any, AV.any, AV.any, AV.any, AV.any, AV.any, AV.any, AV.any, AV.any, AV.any, AV.any, AV.any, AV.any, AV.any, AV.any, AV.any, AV.any, AV.any, AV.any, AV.any, AV.any, AV.any, AV.any])).a ((Cnd.p (OW (AO.own (Md.clock L tn) (clH L tn)) (AO.own (Md.clock L tn) (clH L tn)))).a ((Cnd.p (OW (AO.map (renE (sgN (nm2 1100 1101) [] 0) (mE ivm m)) ck) (AO.map (renE (nm2 1100 1101) (mE ivm m)) ck))).a (((Cnd.p (Wk (AV.v (Value.bool true)) (AV.lit true))).a Cnd.t).a (((Cnd.p True).a ((Cnd.p (VW [AV.ptr 1100 0] [AV.ptr 1100 0])).a ((Cnd.p (OW (AO.own (Md.clock [] tn) (clH [] tn)) (AO.own (Md.clock [] tn) (clH [] tn)))).a Cnd.t))).a Cnd.t))))))))))))))))) := by kernel_rfl
theorem oOnR_eq (W : World) (oa : Option Addr) (n c : Nat) (L : List Al) (tn : Int) (m : IMap Int) (ck : Nat) (F : HP) : wRun (conA []) hOnL [(fOnce, 8, loopN fOnce 8, lOn (slV oa n c) n L tn m ck), (fOnce, 15, loopN fOnce 15, lTkR L.length L tn m ck)] W fOnce [slV oa n c] [] [] F = VT.leaf (AV.v (Value.bool true)) [] 1102 (((Cnd.p True).a ((Cnd.p (VW [] [])).a Cnd.t)).a (((Cnd.p (Wk (AV.v (Value.bool false)) (AV.lit false))).a Cnd.t).a (((Cnd.p True).a ((Cnd.p (VW [] [])).a Cnd.t)).a (((Cnd.p (Wk (AV.v (Value.bool false)) (AV.lit false))).a Cnd.t).a ((Cnd.p ((fOnce, 8, loopN fOnce 8, lOn (slV oa n c) n L tn m ck).snd.snd.fst = (fOnce, 8, loopN fOnce 8, lOn (slV oa n c) n L tn m ck).snd.snd.fst)).a ((Cnd.p True).a ((Cnd.p (VW [AV.v (Value.slice oa n c), AV.v (Value.tuple (Array.mk [])), AV.v (Value.bool false), AV.ptr 1100 0, AV.map 1101, AV.v (Value.tuple (Array.mk [])), AV.v (Value.tuple (Array.mk [])), AV.v (Value.tuple (Array.mk [])), AV.v (Value.tuple (Array.mk [])), AV.v (Value.tuple (Array.mk [])), AV.v (Value.tuple (Array.mk [])), AV.v (Value.tuple (Array.mk [])), AV.v (Value.tuple (Array.mk [])), AV.v (Value.tuple (Array.mk [])), AV.v (Value.tuple (Array.mk [])), AV.v (Value.bool true), AV.lit false, AV.ptr 1100 0, AV.ptr 1100 0, AV.lit false, AV.map 1101, AV.v (Value.slice oa n c), AV.v (Value.int IntKind.i64 ↑n), AV.v (Value.int IntKind.i64 (Int.ofNat 0)), AV.v (Value.tuple (Array.mk [])), AV.v (Value.tuple (Array.mk [])), AV.v (Value.tuple (Array.mk [])), AV.v (Value.tuple (Array.mk [])), AV.v (Value.tuple (Array.mk [])), AV.v (Value.tuple (Array.mk [])), AV.v (Value.tuple (Array.mk [])), AV.v (Value.tuple (Array.mk [])), AV.v (Value.tuple (Array.mk [])), AV.v (Value.tuple (Array.mk [])), AV.v (Value.tuple (Array.mk [])), AV.v (Value.tuple (Array.mk [])), AV.v (Value.tuple (Array.mk [])), AV.v (Value.tuple (Array.mk [])), AV.v (Value.tuple (Array.mk [])), AV.v (Value.tuple (Array.mk [])), AV.v (Value.tuple (Array.mk [])), AV.v (Value.tuple (Array.mk [])), AV.v (Value.tuple (Array.mk [])), AV.v (Value.tuple (Array.mk [])), AV.v (Value.tuple (Array.mk [])), AV.v (Value.tuple (Array.mk [])), AV.v (Value.tuple (Array.mk [])), AV.v (Value.tuple (Array.mk [])), AV.v (Value.tuple (Array.mk [])), AV.v (Value.tuple (Array.mk [])), AV.v (Value.tuple (Array.mk [])), AV.v (Value.tuple (Array.mk [])), AV.v (Value.tuple (Array.mk [])), AV.v (Value.tuple (Array.mk [])), AV.v (Value.tuple (Array.mk [])), AV.v (Value.tuple (Array.mk [])), AV.v (Value.tuple (Array.mk [])), AV.v (Value.tuple (Array.mk [])), AV.v (Value.tuple (Array.mk [])), AV.v (Value.tuple (Array.mk [])), AV.v (Value.tuple (Array.mk [])), AV.v (Value.tuple (Array.mk [])), AV.v (Value.tuple (Array.mk [])), AV.v (Value.tuple (Array.mk [])), AV.v (Value.tuple (Array.mk [])), AV.v (Value.tuple (Array.mk [])), AV.v (Value.tuple (Array.mk [])), AV.v (Value.tuple (Array.mk [])), AV.v (Value.tuple (Array.mk [])), AV.v (Value.tuple (Array.mk [])), AV.v (Value.tuple (Array.mk [])), AV.v (Value.tuple (Array.mk [])), AV.v (Value.tuple (Array.mk [])), AV.v (Value.tuple (Array.mk [])), AV.v (Value.tuple (Array.mk [])), AV.v (Value.tuple (Array.mk [])), AV.v (Value.tuple (Array.mk [])), AV.v (Value.tuple (Array.mk [])), AV.v (Value.tuple (Array.mk [])), AV.v (Value.tuple (Array.mk [])), AV.v (Value.tuple (Array.mk [])), AV.v (Value.tuple (Array.mk [])), AV.v (Value.tuple (Array.mk [])), AV.v (Value.tuple (Array.mk [])), AV.v (Value.tuple (Array.mk [])), AV.v (Value.tuple (Array.mk [])), AV.v (Value.tuple (Array.mk [])), AV.v (Value.tuple (Array.mk [])), AV.v (Value.tuple (Array.mk [])), AV.v (Value.tuple (Array.mk [])), AV.v (Value.tuple (Array.mk [])), AV.v (Value.tuple (Array.mk []))] [AV.any, AV.any, AV.any, AV.ptr 1100 0, AV.map 1101, AV.any, AV.any, AV.any, AV.any, AV.any, AV.any, AV.any, AV.any, AV.any, AV.any, AV.any, AV.any, AV.any, AV.any, AV.any, AV.any, AV.v (Value.slice oa n c), AV.v (Value.int IntKind.i64 (Int.ofNat n)), AV.v (Value.int IntKind.i64 (Int.ofNat 0)), AV.any, AV.any, AV.any, AV.any, AV.any, AV.any, AV.any, AV.any, AV.any, AV.any, AV.any, AV.any, AV.any, AV.any, AV.any, AV.any, AV.any, AV.any, AV.any, AV.any, AV.any, AV.any, AV.any, AV.any, AV.any, AV.any, AV.any, AV.any, AV.any, AV.any, AV.any, AV.any, AV.any, AV.any, AV.any, AV.any, AV.any, AV.any, AV.any, AV.any, AV.any, AV.any, AV.any, AV.any, AV.any, AV.any, AV.any, AV.any, AV.any, AV.any, AV.any, AV.any, AV.any, AV.any, AV.any, AV.any, AV.any, AV.any, AV.any, AV.any, AV.any, AV.any, AV.any, AV.any, AV.any, AV.any, AV.any, AV.any])).a ((Cnd.p (OW (AO.own (Md.clock [] (Int.ofNat 0)) (clH [] (Int.ofNat 0))) (AO.own (Md.clock [] (Int.ofNat 0)) (clH [] (Int.ofNat 0))))).a ((Cnd.p (OW (AO.map [] 0) (AO.map [] 0))).a (((Cnd.p True).a ((Cnd.p (VW [AV.ptr 1100 0] [AV.ptr 1100 0])).a ((Cnd.p (OW (AO.own (Md.clock L tn) (clH L tn)) (AO.own (Md.clock L tn) (clH L tn)))).a Cnd.t))).a ((Cnd.p ((fOnce, 15, loopN fOnce 15, lTkR L.length L tn m ck).snd.snd.fst = (fOnce, 15, loopN fOnce 15, lTkR L.length L tn m ck).snd.snd.fst)).a ((Cnd.p True).a ((Cnd.p (VW [AV.any, AV.any, AV.any, AV.ptr 1100 0, AV.map 1101, AV.any, AV.any, AV.v (Value.int IntKind.i64 (Int.ofNat L.length)), AV.v (Value.int IntKind.i64 (Int.ofNat 0)), AV.any, AV.any, AV.any, AV.any, AV.any, AV.any, AV.any, AV.any, AV.any, AV.any, AV.any, AV.any, AV.any, AV.any, AV.any, AV.any, AV.any, AV.any, AV.any, AV.any, AV.any, AV.any, AV.any, AV.any, AV.any, AV.any, AV.any, AV.any, AV.any, AV.any, AV.ptr 1100 0, AV.v (Value.int IntKind.i64 (Int.ofNat L.length)), AV.any, AV.any, AV.any, AV.any, AV.any, AV.any, AV.any, AV.any, AV.any, AV.any, AV.any, AV.any, AV.any, AV.any, AV.any, AV.any, AV.any, AV.any, AV.any, AV.any, AV.any, AV.any, AV.any, AV.any, AV.any, AV.any, AV.any, AV.any, AV.any, AV.any, AV.any, AV.any, AV.any, AV.any, AV.any, AV.any, AV.any, AV.any, AV.any, AV.any, AV.any, AV.any, AV.any, AV.any, AV.any, AV.any, AV.any, AV.any, AV.any, AV.any, AV.any] [AV.any, AV.any, AV.any, AV.ptr 1100 0, AV.map 1101, AV.any, AV.any, AV.v (Value.int IntKind.i64 (Int.ofNat L.length)), AV.v (Value.int IntKind.i64 (Int.ofNat 0)), AV.any, AV.any, AV.any, AV.any, AV.any, AV.any, AV.any, AV.any, AV.any, AV.any, AV.any, AV.any, AV.any, AV.any, AV.any, AV.any, AV.any, AV.any, AV.any, AV.any, AV.any, AV.any, AV.any, AV.any, AV.any, AV.any, AV.any, AV.any, AV.any, AV.any, AV.any, AV.any, AV.any, AV.any, AV.any, AV.any, AV.any, AV.any, AV.any, AV.any, AV.any, AV.any, AV.any, AV.any, AV.any, AV.any, AV.any, AV.any, AV.any, AV.any, AV.any, AV.any, AV.any, AV.any, AV.any, AV.any, AV.any, AV.any, AV.any, AV.any, AV.any, AV.any, AV.any, AV.any, AV.any, AV.any, AV.any, AV.any, AV.any, AV.any, AV.any, AV.any, AV.any, AV.any, AV.any, AV.any, AV.any, AV.any, AV.any, AV.any, AV.any, AV.any, AV.any])).a ((Cnd.p (OW (AO.own (Md.clock L tn) (clH L tn)) (AO.own (Md.clock L tn) (clH L tn)))).a ((Cnd.p (OW (AO.map (renE (sgN (nm2 1100 1101) [] 0) (mE ivm m)) ck) (AO.map (renE (nm2 1100 1101) (mE ivm m)) ck))).a Cnd.t))))))))))))))) := by kernel_rfl
end
end Go.Proofs.Ytojfbgmeaadanaa.Alm

