/- For every script of calls on a clock: every call answers exactly as the document says. -/
import Derived.Test.YtojfbgmeaadanaaPls3
import Derived.Test.YtojfbgmeaadanaaRows
import Derived.Test.YtojfbgmeaadanaaOpenSl
import Derived.Test.YtojfbgmeaadanaaPieces
import Derived.ProofKit
import Derived.OpenShut
import Derived.Deep.Fields
import Derived.ShutString
import Derived.Carry
import Derived.SizedLaws
/- AlarmsPlays: the loops within a round. -/
set_option linter.unusedVariables false
set_option linter.unusedSimpArgs false
set_option maxRecDepth 100000
namespace Go.Proofs.Ytojfbgmeaadanaa.Alm
open Go Go.RowKit Go.Proofs.Ytojfbgmeaadanaa.Eng Go.Proofs.Ytojfbgmeaadanaa.Kit
theorem cADueN_ok (L : List Al) (now : Int) (hB : BigL L) (h0 : (dueL L now).1 = []) (F : HP) : C1OK Try.prog F fDue (cADueN L now) :=
  mkC_ok (W := default) oldDef (fun _ => nilV) gClk_ro (fun _ => rfl) (fun p h => by
    have := Adue_tri L p.2.2.1 now hB
    rw [h0] at this
    exact this) fun _ => ⟨rfl, rfl, ⟨rfl, trivial, trivial⟩, all_cons trivial all_nil, ⟨trivial, trivial⟩, all_cons trivial all_nil⟩
theorem cADueS_ok (L : List Al) (now : Int) (hB : BigL L) (h0 : (dueL L now).1 ≠ []) (F : HP) : C1OK Try.prog F fDue (cADueS L now) :=
  mkC_ok (W := default) oldDef (fun _ => idsV (dueL L now).1.length) gClk_ro (fun _ => rfl) (fun p h => by
    have := Adue_tri L p.2.2.1 now hB
    rw [idsA_ne h0, idsH_ne h0] at this
    exact this) fun _ => ⟨rfl, rfl, ⟨rfl, trivial, trivial⟩, all_cons trivial all_nil, ⟨rfl, trivial⟩, all_cons trivial (ids_cl _ _)⟩
theorem atOf_next {M : List Al} (id : Int) (i : Nat) (hi : i < M.length) (hnd : (M.map (·.id)).Nodup) : (atOf (M.take (i + 1)) id, hasId (M.take (i + 1)) id) = if (M.getD i ⟨0, 0⟩).id = id then ((M.getD i ⟨0, 0⟩).tk, true) else (atOf (M.take i) id, hasId (M.take i) id) := by
  rw [take_next M ⟨0, 0⟩ i hi]
  have hg : M.getD i ⟨0, 0⟩ = M[i] := by rw [List.getD, List.getElem?_eq_getElem hi]; rfl
  by_cases h : (M.getD i ⟨0, 0⟩).id = id
  · rw [if_pos h]
    have hn : ∀ x ∈ M.take i, x.id ≠ id := by
      intro x hx e
      obtain ⟨k, hk, e2⟩ := List.mem_iff_getElem.1 hx
      rw [List.length_take] at hk
      rw [List.getElem_take] at e2
      have h3 : (M.map (·.id))[k]'(by rw [List.length_map]; omega) = (M.map (·.id))[i]'(by rw [List.length_map]; omega) := by
        rw [List.getElem_map, List.getElem_map, e2, e, ← h, hg]
      have := (List.getElem_inj hnd).1 h3
      omega
    have hf : (M.take i).find? (fun x => decide (x.id = id)) = none := List.find?_eq_none.2 fun x hx => by simpa using hn x hx
    generalize M.getD i ⟨0, 0⟩ = y at *
    unfold atOf hasId
    rw [List.find?_append, hf, List.any_append]
    simp [h]
  · rw [if_neg h]
    generalize M.getD i ⟨0, 0⟩ = y at *
    unfold atOf hasId
    rw [List.find?_append, List.any_append]
    have h1 : [y].find? (fun x => decide (x.id = id)) = none := by simp [h]
    rw [h1, Option.or_none]
    simp [h]
theorem nat_ltI (k n : Nat) (h : k < n) : decide (Int.ofNat k < Int.ofNat n) = true := by rw [nat_lt]; exact decide_eq_true h
theorem nat_geI (n : Nat) : decide (Int.ofNat n < Int.ofNat n) = false := by rw [nat_lt]; exact decide_eq_false (Nat.lt_irrefl _)
theorem lk_loop (V : AV) (hV : ∀ σ, AV.ren σ V = V) (k : Nat) (a9 : Int) (b10 : Bool) (M : List Al) (tn : Int) (n : Nat) (o : Op3) (hR : RoomA M) (hnd : (M.map (·.id)).Nodup) (h9 : a9 = atOf M o.id) (h10 : b10 = hasId M o.id) : LTri Try.prog default (loopN fPlays 29) (tms 0 156 (aLk V k a9 b10 M 0 false n 0)) (oLk M tn o) (.exit 3) (tms 0 156 (zLk V n k M o.id)) (oLk M tn o) := by
  refine ltri_run (W := default) (g := fPlays) (b := loopN fPlays 29) (σ := {i : Nat // i ≤ M.length}) 156 (fun i => aLk V k a9 b10 M (atOf (M.take i.1) o.id) (hasId (M.take i.1) o.id) n i.1) (fun i => oLk M tn o) (.exit 3) (zLk V n k M o.id) (oLk M tn o) (fun i => M.length - i.1) [0, 1000, 1001] [3, 4, 6, 9, 10, 11, 12, 28, 29, 30, 97, 98] (by intro h; cases h) (fun _ => rfl) rfl ?_ ⟨0, Nat.zero_le _⟩
  rintro ⟨i, hi⟩
  by_cases h1 : i < M.length
  · have e1 := nat_ltI i M.length h1
    have hw := wrap_succ i (by unfold RoomA at hR; omega)
    have hnx := atOf_next o.id i h1 hnd
    have g0 : ∀ d, (rowV enc2 M).getD (0 + i * 2 + 0) d = iv (M.getD i ⟨0, 0⟩).id := al_0 M i h1
    have g1 : ∀ d, (rowV enc2 M).getD (0 + i * 2 + 1) d = iv (M.getD i ⟨0, 0⟩).tk := al_1 M i h1
    have hlt : (0 + i * 2 + 0).blt (rowV enc2 M).length = true := row_lt enc2_len M i h1 0 (by decide)
    have hlt1 : (0 + i * 2 + 1).blt (rowV enc2 M).length = true := row_lt enc2_len M i h1 1 (by decide)
    generalize M.getD i ⟨0, 0⟩ = x at *
    clear hR
    have go : ∀ (y : Int) (b : Bool), (atOf (M.take (i + 1)) o.id, hasId (M.take (i + 1)) o.id) = (y, b) → FitT [0, 1000, 1001] [3, 4, 6, 9, 10, 11, 12, 28, 29, 30, 97, 98] [.ptr 0 0, lsl 1000 M, .ptr 1001 0, iv a9, bv b10, iv y, bv b, V, iv (Int.ofNat n), iv (Int.ofNat k), iv (Int.ofNat M.length), iv (Int.ofNat (i + 1))] [some (clO M tn), some (lob M), some (.cells (vmap (enc3 o)) tOp)] (aLk V k a9 b10 M (atOf (M.take (i + 1)) o.id) (hasId (M.take (i + 1)) o.id) n (i + 1)) (oLk M tn o) [(1000, 1000), (1001, 1001)] := fun y b e => by
      obtain ⟨ea, eb⟩ := Prod.ext_iff.1 e
      simp only at ea eb
      rw [ea, eb]
      exact ⟨rfl, rfl, ⟨Wk.refl _, Wk.refl _, Wk.refl _, Wk.refl _, Wk.refl _, Wk.refl _, Wk.refl _, by rw [hV]; exact Wk.refl _, Wk.refl _, Wk.refl _, Wk.refl _, Wk.refl _, trivial⟩, ⟨_, rfl, own_wk rfl rfl⟩, ⟨_, rfl, lob_owR rfl rfl⟩, ⟨_, rfl, OW.refl _⟩, trivial⟩
    by_cases hx : x.id = o.id
    · rw [if_pos hx] at hnx
      have hb : (x.id == o.id) = true := by rw [beq_iff_eq]; exact hx
      refine ⟨[], hLk i x true, [], fun _ _ => noC, fun _ _ => noL, fun F => ?_⟩
      refine cast (congrArg (VAll _) (oLkH_eq V k a9 b10 M tn (atOf (M.take i) o.id) (hasId (M.take i) o.id) n i x o F).symm) ⟨⟨?_, rfl, .inl ⟨rfl, ⟨i + 1, h1⟩, sub_down h1, [(1000, 1000), (1001, 1001)], go _ _ hnx⟩⟩⟩
      simp only [Cnd.holds, g0, g1, hlt, hlt1, e1, hb, Nat.blt_eq, h1, true_and, and_true]
      and_intros
      all_goals first
        | (with_reducible exact Wk.refl _)
        | (with_reducible exact wk_lit _)
        | (with_reducible exact wk_int hw)
        | exact rfl
        | exact Wk.refl _
    · rw [if_neg hx] at hnx
      have hb : (x.id == o.id) = false := by rw [beq_eq_false_iff_ne]; exact hx
      refine ⟨[], hLk i x false, [], fun _ _ => noC, fun _ _ => noL, fun F => ?_⟩
      refine cast (congrArg (VAll _) (oLkN_eq V k a9 b10 M tn (atOf (M.take i) o.id) (hasId (M.take i) o.id) n i x o F).symm) ⟨⟨?_, rfl, .inl ⟨rfl, ⟨i + 1, h1⟩, sub_down h1, [(1000, 1000), (1001, 1001)], go _ _ hnx⟩⟩⟩
      simp only [Cnd.holds, g0, g1, hlt, hlt1, e1, hb, Nat.blt_eq, h1, true_and, and_true]
      and_intros
      all_goals first
        | (with_reducible exact Wk.refl _)
        | (with_reducible exact wk_lit _)
        | (with_reducible exact wk_int hw)
        | exact rfl
        | exact Wk.refl _
  · have hke : i = M.length := by omega
    subst hke
    have e1 := nat_geI M.length
    refine ⟨[], hintL [(fPlays, 29, 0, hv (.lit false))], [], fun _ _ => noC, fun _ _ => noL, fun F => ?_⟩
    simp only [List.take_length]
    refine cast (congrArg (VAll _) (oLkE_eq V k a9 b10 M tn (atOf M o.id) (hasId M o.id) n M.length o F).symm) ⟨⟨?_, rfl, .inr ⟨rfl, [(1000, 1000), (1001, 1001)], rfl, rfl, ⟨Wk.refl _, Wk.refl _, by rw [h9]; exact Wk.refl _, by rw [h10]; exact Wk.refl _, Wk.refl _, Wk.refl _, by rw [hV]; exact Wk.refl _, Wk.refl _, Wk.refl _, trivial⟩, ⟨_, rfl, own_wk rfl rfl⟩, ⟨_, rfl, lob_owR rfl rfl⟩, ⟨_, rfl, OW.refl _⟩, trivial⟩⟩⟩
    simp only [Cnd.holds, and_true]
    exact wk_litE e1
theorem ni_loop (V : AV) (hV : ∀ σ, AV.ren σ V = V) (n k : Nat) (M : List Al) (tn : Int) (l0 : List Int) (hR : l0.length ≤ 8796093022208) : LTri Try.prog default (loopN fPlays 42) (tms 0 156 (aNi V n k M l0 0)) (oNi M tn l0) (.exit 5) (tms 0 156 (zNi V n k M)) (oZi M tn) := by
  refine ltri_run (W := default) (g := fPlays) (b := loopN fPlays 42) (σ := {z : Nat × List Int // z.1 ≤ z.2.length ∧ z.2.length ≤ 8796093022208}) 156 (fun z => aNi V n k M z.1.2 z.1.1) (fun z => oNi M tn z.1.2) (.exit 5) (zNi V n k M) (oZi M tn) (fun z => z.1.2.length - z.1.1) [0, 1000, 1001] [3, 15, 16, 28, 29, 30, 141, 142] (by intro h; cases h) (fun _ => rfl) rfl ?_ ⟨(0, l0), Nat.zero_le _, hR⟩
  rintro ⟨⟨i, l⟩, hi, hr⟩
  simp only at hi hr
  by_cases h1 : i < l.length
  · have e1 := nat_ltI i l.length h1
    have hw := wrap_succ i (by omega)
    have hle : (0 + i * 1 + 1).ble (rowV encI l).length = true := by rw [rowV_length encI_len, Nat.ble_eq]; omega
    have hs : splice (rowV encI l) (0 + i * 1) [iv (Int.negSucc 8)] = rowV encI (l.set i (Int.negSucc 8)) := by rw [Nat.zero_add]; exact rowV_splice encI_len l i (Int.negSucc 8) h1
    have hl : (l.set i (Int.negSucc 8)).length = l.length := List.length_set ..
    refine ⟨[], hintL [(fPlays, 42, 0, hv (.lit true)), (fPlays, 45, 0, hv (iv (Int.ofNat (i + 1))))], [], fun _ _ => noC, fun _ _ => noL, fun F => ?_⟩
    refine cast (congrArg (VAll _) (oNiR_eq V n k M tn l i F).symm) ⟨⟨?_, rfl, .inl ⟨rfl, ⟨(i + 1, l.set i (Int.negSucc 8)), by simp only [hl]; omega, by simp only [hl]; exact hr⟩, by simp only [hl]; omega, [(1000, 1000), (1001, 1001)], rfl, rfl, ⟨Wk.refl _, Wk.refl _, isl_wk rfl rfl hl.symm (by simp only [hl]; exact Nat.le_refl _), by rw [hV]; exact Wk.refl _, Wk.refl _, Wk.refl _, by simp only [hl]; exact Wk.refl _, Wk.refl _, trivial⟩, ⟨_, rfl, own_wk rfl rfl⟩, ⟨_, rfl, lob_owR rfl rfl⟩, ⟨_, rfl, idsO_owR hs (OW.refl _)⟩, trivial⟩⟩⟩
    simp only [Cnd.holds, hle, e1, Nat.blt_eq, h1, true_and, and_true]
    exact ⟨wk_lit _, wk_int hw⟩
  · have hke : i = l.length := by omega
    subst hke
    have e1 := nat_geI l.length
    refine ⟨[], hintL [(fPlays, 42, 0, hv (.lit false))], [], fun _ _ => noC, fun _ _ => noL, fun F => ?_⟩
    refine cast (congrArg (VAll _) (oNiE_eq V n k M tn l l.length F).symm) ⟨⟨?_, rfl, .inr ⟨rfl, [(1000, 1000)], rfl, rfl, ⟨Wk.refl _, Wk.refl _, by rw [hV]; exact Wk.refl _, Wk.refl _, Wk.refl _, trivial⟩, ⟨_, rfl, own_wk rfl rfl⟩, ⟨_, rfl, lob_owR rfl rfl⟩, trivial⟩⟩⟩
    simp only [Cnd.holds, and_true]
    exact wk_litE e1
theorem gLk_ro : ∀ args, RO (gLk args) := by
  intro args
  unfold gLk
  repeat' split
  all_goals first | exact RO.ret _ | exact RO.fail _
theorem gNi_ro : ∀ args, RO (gNi args) := by
  intro args
  unfold gNi
  repeat' split
  all_goals first | exact RO.ret _ | exact RO.fail _
theorem gPl_ro : ∀ args, RO (gPl args) := by
  intro args
  unfold gPl
  repeat' split
  all_goals first | exact RO.ret _ | exact RO.fail _
theorem lLk_ok (V : AV) (hV : ∀ σ, AV.ren σ V = V) (hC : ∀ K, AV.cl K V) (n k : Nat) (M : List Al) (tn : Int) (o : Op3) (hR : RoomA M) (hnd : (M.map (·.id)).Nodup) (F : HP) : L1OK Try.prog F (loopN fPlays 29) (lLk V n k M tn o) :=
  mkL_ok (W := default) oldDef gLk_ro (fun _ _ => lk_loop V hV k _ _ M tn n o hR hnd rfl rfl) fun _ => by
    simp only [RT.pick]
    exact closedT rfl rfl (all_cons rfl (all_cons rfl (all_cons rfl (all_cons trivial (all_cons trivial (all_cons trivial (all_cons trivial (all_cons (hC _) (all_cons trivial (all_cons trivial (all_cons trivial (all_cons trivial all_nil)))))))))))) (all_cons trivial (all_cons (lob_cl _ _) (all_cons (cls_vmap _ _) all_nil))) (all_cons rfl (all_cons rfl (all_cons trivial (all_cons trivial (all_cons trivial (all_cons trivial (all_cons (hC _) (all_cons trivial (all_cons trivial all_nil))))))))) (all_cons trivial (all_cons (lob_cl _ _) (all_cons (cls_vmap _ _) all_nil)))
theorem lNi_ok (V : AV) (hV : ∀ σ, AV.ren σ V = V) (hC : ∀ K, AV.cl K V) (n k : Nat) (M : List Al) (tn : Int) (l : List Int) (hR : l.length ≤ 8796093022208) (F : HP) : L1OK Try.prog F (loopN fPlays 42) (lNi V n k M tn l) :=
  mkL_ok (W := default) oldDef gNi_ro (fun _ _ => ni_loop V hV n k M tn l hR) fun _ => by
    simp only [RT.pick]
    exact closedT rfl rfl (all_cons rfl (all_cons rfl (all_cons rfl (all_cons (hC _) (all_cons trivial (all_cons trivial (all_cons trivial (all_cons trivial all_nil)))))))) (all_cons trivial (all_cons (lob_cl _ _) (all_cons (idsO_cl _ _) all_nil))) (all_cons rfl (all_cons rfl (all_cons (hC _) (all_cons trivial (all_cons trivial all_nil))))) (all_cons trivial (all_cons (lob_cl _ _) all_nil))
end Go.Proofs.Ytojfbgmeaadanaa.Alm

/- AlarmsPlays: the rounds; every call answers true. -/
set_option linter.unusedVariables false
set_option linter.unusedSimpArgs false
set_option maxRecDepth 100000
namespace Go.Proofs.Ytojfbgmeaadanaa.Alm
open Go Go.RowKit Go.Proofs.Ytojfbgmeaadanaa.Eng Go.Proofs.Ytojfbgmeaadanaa.Kit
/-- What comes in. -/
structure InP (W : World) (oa : Option Addr) (l : List Op3) : Prop where
  here : l ≠ [] → ∃ a, oa = some a
  at_ : ∀ a, oa = some a → ∀ k, k < l.length → (([0, 1, 2].all fun j => (W.cell? ((a.add (k * 3)).add j)).isSome) = true ∧ W.cell? ((a.add (k * 3)).add 0) = some (.int .i64 (l.getD k ⟨0, 0, 0⟩).kd) ∧ W.cell? (Addr.mk (a.add (k * 3)).block ((a.add (k * 3)).off + 1) none) = some (.int .i64 (l.getD k ⟨0, 0, 0⟩).id) ∧ W.cell? (Addr.mk (a.add (k * 3)).block ((a.add (k * 3)).off + 2) none) = some (.int .i64 (l.getD k ⟨0, 0, 0⟩).tk))
  few : l.length * 24 ≤ 140737488355328
def kindOf (o : Op3) : Int := IntKind.i64.wrap ↑(BitVec.ofInt 64 o.kd &&& BitVec.ofInt 64 (Int.ofNat 7)).toNat
/-- The state behind k calls. -/
structure PlS (n : Nat) (z : Nat × List Al × Int) : Prop where
  k : z.1 ≤ n
  len : z.2.1.length ≤ z.1
  t0 : 0 ≤ z.2.2
  t1 : z.2.2 ≤ z.1
  nd : (z.2.1.map (·.id)).Nodup
theorem setL_nodup {L : List Al} (h : (L.map (·.id)).Nodup) (id at_ : Int) : ((setL L id at_).map (·.id)).Nodup := by
  unfold setL
  rw [List.map_append, List.nodup_append]
  refine ⟨without_nodup h id, by simp, fun a ha b hb => ?_⟩
  obtain ⟨x, hx, rfl⟩ := List.mem_map.1 ha
  simp only [List.map_cons, List.map_nil, List.mem_singleton] at hb
  rw [hb]
  exact without_ne L id x hx
theorem dueN_nodup (now : Int) : ∀ (n : Nat) (L : List Al), (L.map (·.id)).Nodup → ((dueN now n L).2.map (·.id)).Nodup
  | 0, L, h => h
  | n + 1, L, h => by
    unfold dueN
    split
    · exact h
    · split
      · split
        · exact h
        · exact dueN_nodup now n _ (without_nodup h _)
      · exact h
theorem PlS.set {n : Nat} {k : Nat} {M : List Al} {tn : Int} (h : PlS n (k, M, tn)) (hk : k < n) (id at_ : Int) : PlS n (k + 1, setL M id at_, tn + 1) :=
  ⟨hk, by have := setL_len M id at_; have := h.len; simp only at *; omega, by have := h.t0; simp only at *; omega, by have := h.t1; simp only at *; omega, setL_nodup h.nd id at_⟩
theorem PlS.can {n : Nat} {k : Nat} {M : List Al} {tn : Int} (h : PlS n (k, M, tn)) (hk : k < n) (id : Int) : PlS n (k + 1, without M id, tn) :=
  ⟨hk, by have := without_len M id; have := h.len; simp only at *; omega, h.t0, by have := h.t1; simp only at *; omega, without_nodup h.nd id⟩
theorem PlS.same {n : Nat} {k : Nat} {M : List Al} {tn : Int} (h : PlS n (k, M, tn)) (hk : k < n) : PlS n (k + 1, M, tn) :=
  ⟨hk, by have := h.len; simp only at *; omega, h.t0, by have := h.t1; simp only at *; omega, h.nd⟩
theorem PlS.due {n : Nat} {k : Nat} {M : List Al} {tn : Int} (h : PlS n (k, M, tn)) (hk : k < n) (now : Int) : PlS n (k + 1, (dueL M now).2, tn) :=
  ⟨hk, by have := (dueL_len M now).1; have := h.len; simp only at *; omega, h.t0, by have := h.t1; simp only at *; omega, dueN_nodup now _ M h.nd⟩
theorem conA0_ok (F : HP) : ∀ x ∈ conA [], C1OK Try.prog F x.1 x.2 := conA_ok [] (by unfold RoomI; exact Nat.zero_lt_succ _) F
theorem rep_ex {x y : AO} (h : x = y) : OW x y := OW.of_eq h
theorem pl_loop (W : World) (oa : Option Addr) (l : List Op3) (c : Nat) (hI : InP W oa l) : LTri Try.prog W (loopN fPlays 8) (tms 0 156 (aPl (slV oa l.length c) [] l.length 0)) (oPl [] 0) (.exit 0) (tms 0 156 []) [] := by
  refine ltri_run (W := W) (g := fPlays) (b := loopN fPlays 8) (σ := {z : Nat × List Al × Int // PlS l.length z}) 156 (fun z => aPl (slV oa l.length c) z.1.2.1 l.length z.1.1) (fun z => oPl z.1.2.1 z.1.2.2) (.exit 0) [] [] (fun z => l.length - z.1.1) [0, 1000, 1100, 1101, 1102, 1103, 1104, 1105] [3, 4, 28, 29, 30] (by intro h; cases h) (fun _ => rfl) rfl ?_ ⟨(0, [], 0), Nat.zero_le _, Nat.le_refl _, Int.le_refl _, Int.le_refl _, List.nodup_nil⟩
  rintro ⟨⟨k, M, tn⟩, hs⟩
  by_cases h1 : k < l.length
  · obtain ⟨ad, rfl⟩ := hI.here (fun e => by rw [e] at h1; cases h1)
    obtain ⟨e0, e1, e2, e3⟩ := hI.at_ ad rfl k h1
    have hfew := hI.few
    have hlen : M.length ≤ k := hs.len
    have ht0 : 0 ≤ tn := hs.t0
    have ht1 : tn ≤ (k : Int) := hs.t1
    have hw := wrap_succ k (by omega)
    have el := nat_ltI k l.length h1
    have hRL : RoomL M := by unfold RoomL; omega
    have hB : BigL M := hRL.big
    have hT : TnOK tn := ⟨ht0, by omega⟩
    have hT1 : 0 ≤ tn := hT.1
    have hT2 : tn ≤ 9382499223688 := hT.2
    have hRS : RoomS M := by unfold RoomS; omega
    have hRA : RoomA M := hRS.a
    have hdl := dueL_len M (l.getD k ⟨0, 0, 0⟩).tk
    have hd8 : (dueL M (l.getD k ⟨0, 0, 0⟩).tk).1.length ≤ 8796093022208 := by omega
    have hnd : (M.map (·.id)).Nodup := hs.nd
    clear hfew hlen ht0 ht1 hdl
    generalize l.getD k ⟨0, 0, 0⟩ = o at *
    have hq : IntKind.i64.wrap ↑(BitVec.ofInt 64 o.kd &&& BitVec.ofInt 64 (Int.ofNat 7)).toNat = kindOf o := rfl
    generalize kindOf o = q at hq
    by_cases q0 : q = 0
    · have b0 : (q == Int.ofNat 0) = true := by rw [beq_iff_eq]; exact q0
      refine ⟨(fRSet, cRSet M o.id o.tk) :: conA [], hPl k o q [true] [], [], fun F _ => con_cons (cRSet_ok M o.id o.tk hRS F) (conA0_ok F), fun _ _ => noL, fun F => ?_⟩
      refine cast (congrArg (VAll _) (oPlS0_eq W ad l.length c k M tn o q F).symm) ⟨⟨?_, rfl, .inl ⟨rfl, ⟨(k + 1, setL M o.id o.tk, tn + 1), hs.set h1 o.id o.tk⟩, sub_down h1, [(1000, 1101)], rfl, rfl, ⟨Wk.refl _, lsl_wk rfl rfl rfl (Nat.le_refl _), Wk.refl _, Wk.refl _, Wk.refl _, trivial⟩, ⟨_, rfl, own_wk rfl rfl⟩, ⟨_, rfl, lob_owR (rens_rowV _ _) rfl⟩, trivial⟩⟩⟩
      simp only [Cnd.holds, rens_rowV, el, e0, e1, e2, e3, hq, b0, Option.getD_some, Nat.blt_eq, h1, true_and, and_true]
      and_intros
      all_goals first
        | (with_reducible exact Wk.refl _)
        | (with_reducible exact VW.refl _)
        | (with_reducible exact OW.refl _)
        | (with_reducible exact wk_lit _)
        | (with_reducible exact wk_int hw)
        | (with_reducible exact hRL)
        | (with_reducible exact hT1)
        | (with_reducible exact hT2)
        | exact rfl
        | exact wk_litE (bne_self_eq_false _)
        | exact wk_litE (congrArg not (beq_self_eq_true _))
        | exact VW.refl _
        | exact OW.refl _
        | exact Wk.refl _
        | ((repeat (first | exact VW.nil | refine VW.cons (Wk.refl _) ?_ | refine VW.cons (Wk.any _) ?_ | refine VW.cons (wk_cap (Nat.le_refl _)) ?_)); done)
        | (trace_state; fail)
    by_cases q1 : q = 1
    · have b0 : (q == Int.ofNat 0) = false := by rw [beq_eq_false_iff_ne]; exact q0
      have b1 : (q == Int.ofNat 1) = true := by rw [beq_iff_eq]; exact q1
      refine ⟨(fRSet, cRSet M o.id o.tk) :: conA [], hPl k o q [false, true] [], [], fun F _ => con_cons (cRSet_ok M o.id o.tk hRS F) (conA0_ok F), fun _ _ => noL, fun F => ?_⟩
      refine cast (congrArg (VAll _) (oPlS1_eq W ad l.length c k M tn o q F).symm) ⟨⟨?_, rfl, .inl ⟨rfl, ⟨(k + 1, setL M o.id o.tk, tn + 1), hs.set h1 o.id o.tk⟩, sub_down h1, [(1000, 1101)], rfl, rfl, ⟨Wk.refl _, lsl_wk rfl rfl rfl (Nat.le_refl _), Wk.refl _, Wk.refl _, Wk.refl _, trivial⟩, ⟨_, rfl, own_wk rfl rfl⟩, ⟨_, rfl, lob_owR (rens_rowV _ _) rfl⟩, trivial⟩⟩⟩
      simp only [Cnd.holds, rens_rowV, el, e0, e1, e2, e3, hq, b0, b1, Option.getD_some, Nat.blt_eq, h1, true_and, and_true]
      and_intros
      all_goals first
        | (with_reducible exact Wk.refl _)
        | (with_reducible exact VW.refl _)
        | (with_reducible exact OW.refl _)
        | (with_reducible exact wk_lit _)
        | (with_reducible exact wk_int hw)
        | (with_reducible exact hRL)
        | (with_reducible exact hT1)
        | (with_reducible exact hT2)
        | exact rfl
        | exact wk_litE (bne_self_eq_false _)
        | exact wk_litE (congrArg not (beq_self_eq_true _))
        | exact VW.refl _
        | exact OW.refl _
        | exact Wk.refl _
        | ((repeat (first | exact VW.nil | refine VW.cons (Wk.refl _) ?_ | refine VW.cons (Wk.any _) ?_ | refine VW.cons (wk_cap (Nat.le_refl _)) ?_)); done)
        | (trace_state; fail)
    by_cases q2 : q = 2
    · have b0 : (q == Int.ofNat 0) = false := by rw [beq_eq_false_iff_ne]; exact q0
      have b1 : (q == Int.ofNat 1) = false := by rw [beq_eq_false_iff_ne]; exact q1
      have b2 : (q == Int.ofNat 2) = true := by rw [beq_iff_eq]; exact q2
      refine ⟨(fRSet, cRSet M o.id o.tk) :: conA [], hPl k o q [false, false, true] [], [], fun F _ => con_cons (cRSet_ok M o.id o.tk hRS F) (conA0_ok F), fun _ _ => noL, fun F => ?_⟩
      refine cast (congrArg (VAll _) (oPlS2_eq W ad l.length c k M tn o q F).symm) ⟨⟨?_, rfl, .inl ⟨rfl, ⟨(k + 1, setL M o.id o.tk, tn + 1), hs.set h1 o.id o.tk⟩, sub_down h1, [(1000, 1101)], rfl, rfl, ⟨Wk.refl _, lsl_wk rfl rfl rfl (Nat.le_refl _), Wk.refl _, Wk.refl _, Wk.refl _, trivial⟩, ⟨_, rfl, own_wk rfl rfl⟩, ⟨_, rfl, lob_owR (rens_rowV _ _) rfl⟩, trivial⟩⟩⟩
      simp only [Cnd.holds, rens_rowV, el, e0, e1, e2, e3, hq, b0, b1, b2, Option.getD_some, Nat.blt_eq, h1, true_and, and_true]
      and_intros
      all_goals first
        | (with_reducible exact Wk.refl _)
        | (with_reducible exact VW.refl _)
        | (with_reducible exact OW.refl _)
        | (with_reducible exact wk_lit _)
        | (with_reducible exact wk_int hw)
        | (with_reducible exact hRL)
        | (with_reducible exact hT1)
        | (with_reducible exact hT2)
        | exact rfl
        | exact wk_litE (bne_self_eq_false _)
        | exact wk_litE (congrArg not (beq_self_eq_true _))
        | exact VW.refl _
        | exact OW.refl _
        | exact Wk.refl _
        | ((repeat (first | exact VW.nil | refine VW.cons (Wk.refl _) ?_ | refine VW.cons (Wk.any _) ?_ | refine VW.cons (wk_cap (Nat.le_refl _)) ?_)); done)
        | (trace_state; fail)
    by_cases q3 : q = 3
    · have b0 : (q == Int.ofNat 0) = false := by rw [beq_eq_false_iff_ne]; exact q0
      have b1 : (q == Int.ofNat 1) = false := by rw [beq_eq_false_iff_ne]; exact q1
      have b2 : (q == Int.ofNat 2) = false := by rw [beq_eq_false_iff_ne]; exact q2
      have b3 : (q == Int.ofNat 3) = true := by rw [beq_iff_eq]; exact q3
      refine ⟨(fRCan, cRCan M o.id) :: conA [], hPl k o q [false, false, false, true] [(fPlays, 22, 5, hv (.lit false))], [], fun F _ => con_cons (cRCan_ok M o.id hRA F) (conA0_ok F), fun _ _ => noL, fun F => ?_⟩
      refine cast (congrArg (VAll _) (oPlC_eq W ad l.length c k M tn o q F).symm) ⟨⟨?_, rfl, .inl ⟨rfl, ⟨(k + 1, without M o.id, tn), hs.can h1 o.id⟩, sub_down h1, [(1000, 1101)], rfl, rfl, ⟨Wk.refl _, lsl_wk rfl rfl rfl (Nat.le_refl _), Wk.refl _, Wk.refl _, Wk.refl _, trivial⟩, ⟨_, rfl, own_wk rfl rfl⟩, ⟨_, rfl, lob_owR (rens_rowV _ _) rfl⟩, trivial⟩⟩⟩
      simp only [Cnd.holds, rens_rowV, el, e0, e1, e2, e3, hq, b0, b1, b2, b3, Option.getD_some, Nat.blt_eq, h1, true_and, and_true]
      and_intros
      all_goals first
        | (with_reducible exact Wk.refl _)
        | (with_reducible exact VW.refl _)
        | (with_reducible exact OW.refl _)
        | (with_reducible exact wk_lit _)
        | (with_reducible exact wk_int hw)
        | (with_reducible exact hB)
        | exact rfl
        | exact wk_litE (bne_self_eq_false _)
        | exact wk_litE (congrArg not (beq_self_eq_true _))
        | exact VW.refl _
        | exact OW.refl _
        | exact Wk.refl _
        | ((repeat (first | exact VW.nil | refine VW.cons (Wk.refl _) ?_ | refine VW.cons (Wk.any _) ?_ | refine VW.cons (wk_cap (Nat.le_refl _)) ?_)); done)
        | (trace_state; fail)
    by_cases q4 : q = 4
    · have b0 : (q == Int.ofNat 0) = false := by rw [beq_eq_false_iff_ne]; exact q0
      have b1 : (q == Int.ofNat 1) = false := by rw [beq_eq_false_iff_ne]; exact q1
      have b2 : (q == Int.ofNat 2) = false := by rw [beq_eq_false_iff_ne]; exact q2
      have b3 : (q == Int.ofNat 3) = false := by rw [beq_eq_false_iff_ne]; exact q3
      have b4 : (q == Int.ofNat 4) = true := by rw [beq_iff_eq]; exact q4
      refine ⟨conA [], hPl k o q [false, false, false, false, true] [(fPlays, 34, 2, hv (.lit false)), (fPlays, 34, 6, hv (.lit false)), (fPlays, 34, 7, hv (.lit false))], [(fPlays, 29, loopN fPlays 29, lLk (slV (some ad) l.length c) l.length k M tn o)], fun F _ => conA0_ok F, fun F _ => one_l (lLk_ok (slV (some ad) l.length c) (slV_ren _ _ _) (slV_cl _ _ _) l.length k M tn o hRA hnd F), fun F => ?_⟩
      refine cast (congrArg (VAll _) (oPlA_eq W ad l.length c k M tn o q F).symm) ⟨⟨?_, rfl, .inl ⟨rfl, ⟨(k + 1, M, tn), hs.same h1⟩, sub_down h1, [(1000, 1101)], rfl, rfl, ⟨Wk.refl _, lsl_wk rfl rfl rfl (Nat.le_refl _), Wk.refl _, Wk.refl _, Wk.refl _, trivial⟩, ⟨_, rfl, own_wk rfl rfl⟩, ⟨_, rfl, lob_owR (rens_rowV _ _) rfl⟩, trivial⟩⟩⟩
      simp only [Cnd.holds, rens_rowV, el, e0, e1, e2, e3, hq, b0, b1, b2, b3, b4, Option.getD_some, Nat.blt_eq, h1, true_and, and_true]
      and_intros
      all_goals first
        | (with_reducible exact Wk.refl _)
        | (with_reducible exact VW.refl _)
        | (with_reducible exact OW.refl _)
        | (with_reducible exact wk_lit _)
        | (with_reducible exact wk_int hw)
        | exact rfl
        | exact wk_litE (bne_self_eq_false _)
        | exact wk_litE (congrArg not (beq_self_eq_true _))
        | exact VW.refl _
        | exact OW.refl _
        | exact Wk.refl _
        | ((repeat (first | exact VW.nil | refine VW.cons (Wk.refl _) ?_ | refine VW.cons (Wk.any _) ?_ | refine VW.cons (wk_cap (Nat.le_refl _)) ?_)); done)
        | (trace_state; fail)
    by_cases q5 : q = 5
    · by_cases hd : (dueL M o.tk).1 = []
      · have b0 : (q == Int.ofNat 0) = false := by rw [beq_eq_false_iff_ne]; exact q0
        have b1 : (q == Int.ofNat 1) = false := by rw [beq_eq_false_iff_ne]; exact q1
        have b2 : (q == Int.ofNat 2) = false := by rw [beq_eq_false_iff_ne]; exact q2
        have b3 : (q == Int.ofNat 3) = false := by rw [beq_eq_false_iff_ne]; exact q3
        have b4 : (q == Int.ofNat 4) = false := by rw [beq_eq_false_iff_ne]; exact q4
        have b5 : (q == Int.ofNat 5) = true := by rw [beq_iff_eq]; exact q5
        refine ⟨(fRDue, cRDu M o.tk) :: (fDue, cADueN M o.tk) :: conA [], hPl k o q [false, false, false, false, false, true] (hDu ++ [(fPlays, 42, 0, hv (.lit false))]), [], fun F _ => con_cons (cRDu_ok M o.tk hRA F) (con_cons (cADueN_ok M o.tk hB hd F) (conA0_ok F)), fun _ _ => noL, fun F => ?_⟩
        refine cast (congrArg (VAll _) (oPlD0_eq W ad l.length c k M tn o q F).symm) ⟨⟨?_, rfl, .inl ⟨rfl, ⟨(k + 1, (dueL M o.tk).2, tn), hs.due h1 o.tk⟩, sub_down h1, [(1000, 1101)], rfl, rfl, ⟨Wk.refl _, lsl_wk rfl rfl rfl (Nat.le_refl _), Wk.refl _, Wk.refl _, Wk.refl _, trivial⟩, ⟨_, rfl, own_wk rfl rfl⟩, ⟨_, rfl, lob_owR (rens_rowV _ _) rfl⟩, trivial⟩⟩⟩
        simp only [Cnd.holds, rens_rowV, el, e0, e1, e2, e3, hq, b0, b1, b2, b3, b4, b5, hd, Option.getD_some, Nat.blt_eq, h1, true_and, and_true]
        and_intros
        all_goals first
          | (with_reducible exact Wk.refl _)
          | (with_reducible exact VW.refl _)
          | (with_reducible exact OW.refl _)
          | (with_reducible exact wk_lit _)
          | (with_reducible exact wk_int hw)
          | exact rfl
          | exact wk_litE (bne_self_eq_false _)
          | exact wk_litE (congrArg not (beq_self_eq_true _))
          | exact VW.refl _
          | exact OW.refl _
          | exact Wk.refl _
          | ((repeat (first | exact VW.nil | refine VW.cons (Wk.refl _) ?_ | refine VW.cons (Wk.any _) ?_ | refine VW.cons (wk_cap (Nat.le_refl _)) ?_)); done)
          | (trace_state; fail)
      · have hRI : RoomI (dueL M o.tk).1 := by unfold RoomI; omega
        have b0 : (q == Int.ofNat 0) = false := by rw [beq_eq_false_iff_ne]; exact q0
        have b1 : (q == Int.ofNat 1) = false := by rw [beq_eq_false_iff_ne]; exact q1
        have b2 : (q == Int.ofNat 2) = false := by rw [beq_eq_false_iff_ne]; exact q2
        have b3 : (q == Int.ofNat 3) = false := by rw [beq_eq_false_iff_ne]; exact q3
        have b4 : (q == Int.ofNat 4) = false := by rw [beq_eq_false_iff_ne]; exact q4
        have b5 : (q == Int.ofNat 5) = true := by rw [beq_iff_eq]; exact q5
        refine ⟨(fRDue, cRDu M o.tk) :: (fDue, cADueS M o.tk) :: conA (dueL M o.tk).1, hPl k o q [false, false, false, false, false, true] hDu, [(fPlays, 42, loopN fPlays 42, lNi (slV (some ad) l.length c) l.length k (dueL M o.tk).2 tn (dueL M o.tk).1)], fun F _ => con_cons (cRDu_ok M o.tk hRA F) (con_cons (cADueS_ok M o.tk hB hd F) (conA_ok _ hRI F)), fun F _ => one_l (lNi_ok (slV (some ad) l.length c) (slV_ren _ _ _) (slV_cl _ _ _) l.length k _ tn _ hd8 F), fun F => ?_⟩
        refine cast (congrArg (VAll _) (oPlD1_eq W ad l.length c k M tn o q F).symm) ⟨⟨?_, rfl, .inl ⟨rfl, ⟨(k + 1, (dueL M o.tk).2, tn), hs.due h1 o.tk⟩, sub_down h1, [(1000, 1104)], rfl, rfl, ⟨Wk.refl _, lsl_wk rfl rfl rfl (Nat.le_refl _), Wk.refl _, Wk.refl _, Wk.refl _, trivial⟩, ⟨_, rfl, own_wk rfl rfl⟩, ⟨_, rfl, lob_owR (rens_rowV _ _) rfl⟩, trivial⟩⟩⟩
        simp only [Cnd.holds, rens_rowV, el, e0, e1, e2, e3, hq, b0, b1, b2, b3, b4, b5, Option.getD_some, Nat.blt_eq, h1, true_and, and_true]
        and_intros
        all_goals first
          | (with_reducible exact Wk.refl _)
          | (with_reducible exact VW.refl _)
          | (with_reducible exact OW.refl _)
          | (with_reducible exact wk_lit _)
          | (with_reducible exact wk_int hw)
          | exact rfl
          | exact wk_litE (bne_self_eq_false _)
          | exact wk_litE (congrArg not (beq_self_eq_true _))
          | exact VW.refl _
          | exact OW.refl _
          | exact Wk.refl _
          | ((repeat (first | exact VW.nil | refine VW.cons (Wk.refl _) ?_ | refine VW.cons (Wk.any _) ?_ | refine VW.cons (wk_cap (Nat.le_refl _)) ?_)); done)
          | (trace_state; fail)
    have b0 : (q == Int.ofNat 0) = false := by rw [beq_eq_false_iff_ne]; exact q0
    have b1 : (q == Int.ofNat 1) = false := by rw [beq_eq_false_iff_ne]; exact q1
    have b2 : (q == Int.ofNat 2) = false := by rw [beq_eq_false_iff_ne]; exact q2
    have b3 : (q == Int.ofNat 3) = false := by rw [beq_eq_false_iff_ne]; exact q3
    have b4 : (q == Int.ofNat 4) = false := by rw [beq_eq_false_iff_ne]; exact q4
    have b5 : (q == Int.ofNat 5) = false := by rw [beq_eq_false_iff_ne]; exact q5
    refine ⟨(fRNext, cRNx M) :: conA [], hPl k o q [] [(fPlays, 13, 2, hv (.lit false)), (fPlays, 13, 6, hv (.lit false)), (fPlays, 13, 7, hv (.lit false))], [], fun F _ => con_cons (cRNx_ok M hRA F) (conA0_ok F), fun _ _ => noL, fun F => ?_⟩
    refine cast (congrArg (VAll _) (oPlN_eq W ad l.length c k M tn o q F).symm) ⟨⟨?_, rfl, .inl ⟨rfl, ⟨(k + 1, M, tn), hs.same h1⟩, sub_down h1, [(1000, 1000)], rfl, rfl, ⟨Wk.refl _, lsl_wk rfl rfl rfl (Nat.le_refl _), Wk.refl _, Wk.refl _, Wk.refl _, trivial⟩, ⟨_, rfl, own_wk rfl rfl⟩, ⟨_, rfl, lob_owR (rens_rowV _ _) rfl⟩, trivial⟩⟩⟩
    simp only [Cnd.holds, rens_rowV, el, e0, e1, e2, e3, hq, b0, b1, b2, b3, b4, b5, Option.getD_some, Nat.blt_eq, h1, true_and, and_true]
    and_intros
    all_goals first
      | (with_reducible exact Wk.refl _)
      | (with_reducible exact VW.refl _)
      | (with_reducible exact OW.refl _)
      | (with_reducible exact wk_lit _)
      | (with_reducible exact wk_int hw)
      | exact rfl
      | exact wk_litE (bne_self_eq_false _)
      | exact wk_litE (congrArg not (beq_self_eq_true _))
      | exact VW.refl _
      | exact OW.refl _
      | exact Wk.refl _
      | ((repeat (first | exact VW.nil | refine VW.cons (Wk.refl _) ?_ | refine VW.cons (Wk.any _) ?_ | refine VW.cons (wk_cap (Nat.le_refl _)) ?_)); done)
      | (trace_state; fail)
  · have hke : k = l.length := by have : k ≤ l.length := hs.k; omega
    subst hke
    refine ⟨[], hintL [(fPlays, 8, 0, hv (.lit false))], [], fun _ _ => noC, fun _ _ => noL, fun F => ?_⟩
    refine cast (congrArg (VAll _) (oPlE_eq W (slV oa l.length c) l.length l.length M tn F).symm) ⟨⟨?_, rfl, .inr ⟨rfl, [], rfl, rfl, trivial, trivial⟩⟩⟩
    simp only [Cnd.holds, and_true]
    exact wk_litE (nat_geI _)
end Go.Proofs.Ytojfbgmeaadanaa.Alm

/- AlarmsPlays: every call answers true. -/
set_option linter.unusedVariables false
set_option linter.unusedSimpArgs false
set_option maxRecDepth 100000
namespace Go.Proofs.Ytojfbgmeaadanaa.Alm
open Go Go.RowKit Go.Proofs.Ytojfbgmeaadanaa.Eng Go.Proofs.Ytojfbgmeaadanaa.Kit
theorem lPl_ok (W : World) (oa : Option Addr) (l : List Op3) (c : Nat) (hI : InP W oa l) (F : HP) (hF : OldOK W F) : L1OK Try.prog F (loopN fPlays 8) (lPl (slV oa l.length c) l.length) :=
  mkL_ok hF gPl_ro (fun _ _ => pl_loop W oa l c hI) fun _ => by
    simp only [RT.pick]
    exact closedT rfl rfl (all_cons rfl (all_cons rfl (all_cons trivial (all_cons trivial (all_cons trivial all_nil))))) (all_cons trivial (all_cons (lob_cl _ _) all_nil)) all_nil all_nil
theorem plays_tri (W : World) (oa : Option Addr) (l : List Op3) (c : Nat) (hI : InP W oa l) : Tri Try.prog W fPlays [slV oa l.length c] [] (.v (.bool true)) [] := by
  refine tri_run (con := conA []) (hints := hintL [(fPlays, 1, 1, hv (.lit false)), (fPlays, 4, 1, hv (.lit false))]) (lc := [(fPlays, 8, loopN fPlays 8, lPl (slV oa l.length c) l.length)]) [] rfl (fun F _ => conA0_ok F) (fun F hF => one_l (lPl_ok W oa l c hI F hF)) fun F => ?_
  refine cast (congrArg (VAll _) (oPl_eq W oa l.length c F).symm) ⟨⟨?_, fits_true⟩⟩
  simp only [Cnd.holds, true_and, and_true]
  and_intros
  all_goals first
    | (with_reducible exact rfl)
    | (with_reducible exact Wk.refl _)
    | (with_reducible exact VW.refl _)
    | (with_reducible exact OW.refl _)
    | (with_reducible exact wk_lit _)
    | exact VW.refl _
    | exact Wk.refl _
    | ((repeat (first | exact VW.nil | refine VW.cons (Wk.refl _) ?_ | refine VW.cons (Wk.any _) ?_ | refine VW.cons (wk_cap (Nat.le_refl _)) ?_)); done)
    | exact OW.refl _
end Go.Proofs.Ytojfbgmeaadanaa.Alm

/- What a script of calls that comes in is. -/
set_option linter.unusedVariables false
set_option linter.unusedSimpArgs false
namespace Go.Proofs.Ytojfbgmeaadanaa
open Go.ChangeShapes Go.WideShapes Go.RowKit Go.Deep
namespace Alm
open Go.Proofs.Ytojfbgmeaadanaa.Eng Go.Proofs.Ytojfbgmeaadanaa.Kit
theorem enc3_length (x : Op3) : (enc3 x).length = 3 := rfl
section
variable {H : Type} {encD : TypeId × Value → H} {w : World} {base : Nat} {spare : Nat → Bool} {held : Bool}
theorem cells_op {fuel : Nat} {cs : List Value} {x : DataW H × List MemPlace} (h : DataW.trod encD Try.prog w base spare held fuel 40 cs = some x) : ∃ p : Op3, cs = enc3 p ∧ True := by
  obtain ⟨ys, n, _, rfl, hlen, hyl, hf⟩ := DataW.trod_struct Try.underlying40 h
  have zI : Try.prog.cellsOf 3 = 1 := by kernel_rfl
  match cs, hlen.trans (by kernel_rfl : Try.prog.cellsOf 40 = 3) with
  | [c0, c1, c2], _ =>
    match ys, hyl with
    | [y0, y1, y2], _ =>
      obtain ⟨a0, e0, x0, b0⟩ := DataW.trod_int Try.underlying3 (by simpa [zI] using hf 0 _ rfl : DataW.trod encD Try.prog w base spare held n 3 [c0] = some y0)
      obtain rfl := (List.cons.inj e0).1
      obtain ⟨a1, e1, x1, b1⟩ := DataW.trod_int Try.underlying3 (by simpa [zI] using hf 1 _ rfl : DataW.trod encD Try.prog w base spare held n 3 [c1] = some y1)
      obtain rfl := (List.cons.inj e1).1
      obtain ⟨a2, e2, x2, b2⟩ := DataW.trod_int Try.underlying3 (by simpa [zI] using hf 2 _ rfl : DataW.trod encD Try.prog w base spare held n 3 [c2] = some y2)
      obtain rfl := (List.cons.inj e2).1
      exact ⟨⟨a0, a1, a2⟩, rfl, trivial⟩
end
theorem inP_of_rd {W : World} {A : Option Addr} {l : List Op3} (h : Rd W A l.length 3 (l.flatMap enc3)) (hb : l.length * 24 ≤ 140737488355328) : InP W A l := by
  refine ⟨fun hne => h.here (by cases l with | nil => exact absurd rfl hne | cons x l => simp), fun a ha k hk => ?_, hb⟩
  have hc : ∀ j (v : Value), j < 3 → (enc3 (l.getD k ⟨0, 0, 0⟩))[j]? = some v → W.cell? ((a.add (k * 3)).add j) = some v := by
    intro j v hj hv
    rw [add_add']
    refine h.cells a ha _ _ ?_
    rw [pieces_get enc3_length l k j hk hj, ← hv]
    congr 2
    simp [List.getD, List.getElem?_eq_getElem hk]
  have e0 := hc 0 _ (by decide) rfl
  have e1 := hc 1 _ (by decide) rfl
  have e2 := hc 2 _ (by decide) rfl
  exact ⟨by simp [List.all, e0, e1, e2], e0, e1, e2⟩
end Alm
end Go.Proofs.Ytojfbgmeaadanaa

/- For every script of calls on a clock: every call answers exactly as the document says. -/
set_option linter.unusedVariables false
set_option linter.unusedSimpArgs false
namespace Go.Proofs.Ytojfbgmeaadanaa.alarmsPlays
open Go.ChangeShapes Go.WideShapes Go.ChangeAt Go.RowKit Go.Proofs.Ytojfbgmeaadanaa.Eng Go.Proofs.Ytojfbgmeaadanaa.Kit

theorem own : ownKnob Try.prog.godebug = none := by kernel_rfl
theorem laidOut : laidOutB Try.prog = true := by kernel_rfl

set_option maxRecDepth 100000 in
theorem lifted (os : Os) (started : os.Started) (H : Type) (enc : TypeId × Value → H) :
    ReturnsInHanded {} Try.checked os 5 .any (Rows.alarmsPlaysSpec.pre6 enc Try.prog Try.f5 Rows.alarmsPlaysRow.domain false) (Rows.alarmsPlaysSpec.post enc Try.prog Try.f5 false true false false) := by
  refine returnsInHanded_of_change_sized (C := Try.checked) own started (by kernel_rfl) Try.func5
    (ChangeSpec.witness6 (enc := enc) (C := Try.checked) false ⟨#[], #[.slice none 0 0], []⟩ 8 (by kernel_rfl) (by kernel_rfl) (by kernel_rfl) (by kernel_rfl)) ?_
  intro W base args ds gs before hval0 hW hcnd hsz0 _
  have hval : ∀ (j : Nat) t v, Try.f5.params[j]? = some t → args[j]? = some v → Value.okWide Try.prog W .any base t v := hval0
  have hsz : (DataW.weightsEach Try.prog (Try.f5.params.toList ++ Rows.alarmsPlaysSpec.plain.varTypes Try.prog) (ds ++ gs)).all (· ≤ reachBytes) = true := hsz0
  have hW' := hW
  obtain ⟨p, q, hA0, hV, rfl, hfz, hnd⟩ := hW
  have hA : DataW.TrodAll enc Try.prog W 0 (fun _ => true) true Try.f5.params.toList args.toList ds p := hA0
  rw [Try.params5] at hA hval hsz
  obtain ⟨v0, vs0, d0, ds0, p0, q0, hargs, rfl, rfl, h0, r0⟩ := trodAll_cons hA
  obtain ⟨rfl, rfl, rfl⟩ := trodAll_nil r0
  obtain rfl : args = #[v0] := by cases args; simp_all
  obtain ⟨rfl, rfl⟩ := trodVars_none hV
  have k0 := h0
  have lt0 : ∀ x ∈ p0, x.block < W.heap.size := by obtain ⟨m, hm⟩ := k0; exact DataW.trod_lt m _ _ _ hm
  obtain ⟨A0, len0, cap0, rfl⟩ := okWide_slice Try.underlying38 (hval 0 38 v0 rfl rfl)
  obtain ⟨fu0, hf0⟩ := h0
  obtain ⟨l0, rfl, _, hb0, hrd0, hq0⟩ := open_rd Alm.enc3 (by decide) Alm.enc3_length Try.underlying38 (by kernel_rfl) (fun n cs x h hL => Alm.cells_op h) hf0 (light_args hsz (j := 0) rfl rfl)
  have hs0 : l0.length * 24 ≤ 140737488355328 := by have e : Try.prog.bytesOf 40 = 24 := (by kernel_rfl); rw [e] at hb0; have : reachBytes ≤ 140737488355328 := (by decide); omega
  clear hA0 hval0
  refine (law_calls (Alm.plays_tri W A0 l0 cap0 (Alm.inP_of_rd hrd0 hs0))).mono fun e W' ⟨he, bel⟩ => ?_
  subst he
  exact ⟨_, rfl, _, _, _, [], _, [], hW', trodAll_mk1 (shut_bool Try.underlying4 _), (trodAll_cons_mk (Below.trod laidOut (by kernel_rfl) (of_decide_eq_true (by kernel_rfl)) k0 bel lt0) trodAll_mk0), rfl, bel.frame _, fun h => by cases h⟩

theorem proved : Rows.AlarmsPlaysSaid :=
  OpenClaim.holds_of_wide 5 Try.f5 rfl rfl rfl rfl rfl rfl rfl ⟨rfl, rfl, rfl, rfl, rfl⟩ rfl rfl rfl rfl rfl (by kernel_rfl) Try.func5 (by kernel_rfl)
    (of_decide_eq_true (by kernel_rfl)) (by unfold Func.isWrapper; first | (rw [if_pos (by decide +kernel)]; kernel_rfl) | (rw [if_neg (by decide +kernel)]; exact ⟨rfl, rfl⟩))
    (fun os started H enc _ => lifted os started H enc)
#print axioms proved
end Go.Proofs.Ytojfbgmeaadanaa.alarmsPlays

