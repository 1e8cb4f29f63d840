/- Parts of the proof, merged. -/
import Derived.Test.YtcpijmlaglcblaaPlk2
import Derived.Test.YtcpijmlaglcblaaPlk1
import Derived.Shelf.SlSortCmp.InsertionK
import Derived.WalkKit
import Derived.Deep.Fields
import Derived.Shelf.SlSortCmp.HeapSortK
import Derived.Shelf.SlLaysF0
import Derived.Ground.SlsfProg
import Derived.Test.YtcpijmlaglcblaaProg
import Derived.Test.YtcpijmlaglcblaaPieces
import Derived.Shelf.SlSortCmp.WholeK
import Derived.Shelf.SlSortCmp.NoneTotal
/- A Line's Take and Peek: contracts. -/
set_option linter.unusedVariables false
set_option linter.unusedSimpArgs false
set_option maxRecDepth 100000
namespace Go.Proofs.Ytcpijmlaglcblaa.Rk
open Go Go.RowKit Go.Proofs.Ytcpijmlaglcblaa.Eng
theorem cHRemO_ok (s : Ps) (F : HP) : C1OK Try.prog F fHRem (cHRemO s) := by
  intro st W0 N h w args vargs v h' n n' lg lg' c p hp he hc r ha hf
  unfold cHRemO at hp
  split at hp
  · rename_i t i j
    cases hp
    obtain ⟨c0, he0, rfl⟩ := run_need he
    obtain ⟨⟨rfl, hP, h0, hl⟩, hc0⟩ := (Cnd.and_iff _ _).1 hc
    obtain ⟨j, rfl⟩ := Int.eq_ofNat_of_zero_le h0
    obtain ⟨o, ho, he1⟩ := run_read he0
    split at he1
    · exact useC_ok oldDef (Tri.pre (shut_pile s (vs := [hI, iv (Int.ofNat j)]) ⟨rfl, trivial, trivial⟩) (hrem_tri s j hP hl)) rfl (closedL (s := s) (A := [hI, iv (Int.ofNat j)]) (v := itF (remV s j)) (o := pO (remS s j)) ⟨rfl, trivial, trivial⟩ ⟨⟨trivial, trivial, trivial, trivial⟩, trivial⟩ trivial) he1 hc0 r ha hf
    · exact (inv_fail he1).elim
  · cases hp
def ltakeV (s : Ps) (k : Int) : It := if isIn k s = true then remV s (lookD k s.m).toNat else It.zero
def ltakeS (s : Ps) (k : Int) : Ps := if isIn k s = true then remS s (lookD k s.m).toNat else s
theorem ltake_tri (s : Ps) (k : Int) (hP : PI s) (hM : MapOK s) : Tri Try.prog default fLTake [.ptr 0 0, iv k] [(0, pO s)] (.tuple [itA (ltakeV s k), .v (.bool (isIn k s))]) [(0, pO (ltakeS s k))] := by
  refine open_pile (tri_run (con := [(fHRem, cHRemO s)]) (hints := hTake s k) (lc := []) [0, 1001, 1002] rfl (one_ok (cHRemO_ok s)) noL fun F => ?_)
  rw [oLTake_eq]
  have e1 := look_eta k s.m
  have e2 := found_isSome (ev := iv) k s.m
  have e3 : Wk (AV.tuple [AV.v (Value.int IntKind.i64 (foundX (findS (.v (.int .i64 k)) (mE iv s.m) 0) (.int .i64 (Int.ofNat 0))).intOf), AV.v (Value.bool (findS (AV.v (Value.int IntKind.i64 k)) (mE iv s.m) 0).isSome)]) (AV.tuple [AV.v (Value.int IntKind.i64 (lookD k s.m)), AV.v (Value.bool (mlook k s.m).isSome)]) := by
    refine Wk.of_eq ?_
    rw [e1, e2]; rfl
  refine ⟨fun h1 => ⟨?_, ?_⟩, fun h1 => ⟨?_, ?_⟩⟩
  · simp only [Cnd.holds]
    and_intros
    all_goals first | exact trivial | exact findKey_mE intT _ _ _ | exact e3 | (rw [e1]; rfl) | rfl
  · have hi : isIn k s = false := by have h1' : (!isIn k s) = true := h1; simpa using h1'
    have hn : ¬ isIn k s = true := by rw [hi]; exact Bool.false_ne_true
    have e4 : ltakeV s k = It.zero := if_neg hn
    have e5 : ltakeS s k = s := if_neg hn
    rw [e4, e5, hi]
    exact fits_pile s [(1001, 1001), (1002, 1002)] (by kernel_rfl) (by kernel_rfl) (VW.refl _) ⟨⟨⟨trivial, trivial, trivial, trivial⟩, trivial, trivial⟩, trivial⟩ (objs_pile s rfl rfl rfl rfl rfl rfl)
  · have hi : isIn k s = true := by have h1' : (!isIn k s) = false := h1; simpa using h1'
    obtain ⟨v, hv⟩ := Option.isSome_iff_exists.1 (show (mlook k s.m).isSome = true from hi)
    obtain ⟨i, hil, _, rfl⟩ := (hM k v).1 hv
    have hd : lookD k s.m = (i : Int) := by rw [lookD, hv]; rfl
    have h0 : 0 ≤ lookD k s.m := by rw [hd]; exact Int.natCast_nonneg _
    have hl : (lookD k s.m).toNat < s.xs.length := by rw [hd]; exact hil
    simp only [Cnd.holds]
    and_intros
    all_goals first | exact trivial | exact findKey_mE intT _ _ _ | exact e3 | exact hP | exact h0 | exact hl | exact VW.refl _ | exact OW.refl _ | exact OW.of_eq (by rw [rens_rowV]) | exact OW.of_eq (by rw [renE_mE]) | (rw [e1]; rfl) | rfl
  · have hi : isIn k s = true := by have h1' : (!isIn k s) = false := h1; simpa using h1'
    have e4 : ltakeV s k = remV s (lookD k s.m).toNat := if_pos hi
    have e5 : ltakeS s k = remS s (lookD k s.m).toNat := if_pos hi
    rw [e4, e5, hi]
    exact fits_one (VW.refl _) ⟨_, rfl, OW.refl _⟩
theorem ltake0_tri (k : Int) : Tri Try.prog default fLTake [.ptr 0 0, iv k] [(0, pO0)] (.tuple [itA It.zero, .v (.bool false)]) [(0, pO0)] := by
  refine open_pile0 (tri_run (con := []) (hints := hTake0) (lc := []) [0, 1002] rfl noC noL fun F => ?_)
  rw [oLTake0_eq]
  have e3 : Wk (AV.tuple [AV.v (Value.int IntKind.i64 (Int.ofNat 0)), AV.v (Value.bool false)]) (AV.tuple [AV.v (Value.int IntKind.i64 (Int.ofNat 0)), AV.lit false]) := by
    intro N y hy
    simp only [VR, VRs] at hy ⊢
    exact hy
  refine ⟨fun _ => ⟨?_, fits_pile0 [(1002, 1002)] (by kernel_rfl) (by kernel_rfl) (VW.refl _) ⟨⟨⟨trivial, trivial, trivial, trivial⟩, trivial, trivial⟩, trivial⟩ ⟨⟨_, rfl, OW.refl _⟩, ⟨_, rfl, OW.refl _⟩, trivial⟩⟩, fun h => by cases h⟩
  simp only [Cnd.holds]
  and_intros
  all_goals first | exact trivial | exact e3 | rfl
def lpeekV (s : Ps) : It := if s.xs.length = 0 then It.zero else at' s 0
theorem lpeek_tri (s : Ps) : Tri Try.prog default fLPeek [.ptr 0 0] [(0, pO s)] (.tuple [itA (lpeekV s), .v (.bool (!decide (s.xs.length = 0)))]) [(0, pO s)] := by
  refine open_pile (tri_run (con := []) (hints := noHints) (lc := []) [0, 1001, 1002] rfl noC noL fun F => ?_)
  rw [oLPeek_eq]
  have hz : ((s.xs.length : Int) == Int.ofNat 0) = decide (s.xs.length = 0) := by
    by_cases h : s.xs.length = 0
    · rw [h]; rfl
    · simp only [h, decide_false]; apply beq_eq_false_iff_ne.2; simp only [Int.ofNat_eq_natCast]; omega
  rw [hz]
  refine ⟨fun h1 => ⟨?_, ?_⟩, fun h1 => ?_⟩
  · simp only [Cnd.holds]
    and_intros
    all_goals first | exact trivial | rfl
  · simp only [decide_eq_true_eq] at h1
    have e1 : lpeekV s = It.zero := if_pos h1
    have e3 : (!decide (s.xs.length = 0)) = false := by rw [decide_eq_true h1]; rfl
    rw [e1, e3]
    exact fits_pile s [(1001, 1001), (1002, 1002)] (by kernel_rfl) (by kernel_rfl) (VW.refl _) ⟨⟨⟨trivial, trivial, trivial, trivial⟩, trivial, trivial⟩, trivial⟩ (objs_pile s rfl rfl rfl rfl rfl rfl)
  · simp only [decide_eq_false_iff_not] at h1
    have e1 : lpeekV s = at' s 0 := if_neg h1
    have e3 : (!decide (s.xs.length = 0)) = true := by rw [decide_eq_false h1]; rfl
    have hr : List.take 3 (List.drop 0 (rowV enc (s.xs ++ s.g))) = vmap (enc (at' s 0)) := row_at s 0 (by omega)
    rw [e1, e3, hr]
    refine ⟨?_, fits_pile s [(1001, 1001), (1002, 1002)] (by kernel_rfl) (by kernel_rfl) (VW.refl _) ⟨⟨⟨trivial, trivial, trivial, trivial⟩, trivial, trivial⟩, trivial⟩ (objs_pile s rfl rfl rfl rfl rfl rfl)⟩
    simp only [Cnd.holds]
    and_intros
    all_goals first | exact trivial | rfl | (rw [Nat.blt_eq]; omega)
theorem lpeek0_tri : Tri Try.prog default fLPeek [.ptr 0 0] [(0, pO0)] (.tuple [itA It.zero, .v (.bool false)]) [(0, pO0)] := by
  refine open_pile0 (tri_run (con := []) (hints := noHints) (lc := []) [0, 1002] rfl noC noL fun F => ?_)
  rw [oLPeek0_eq]
  refine ⟨fun _ => ⟨?_, fits_pile0 [(1002, 1002)] (by kernel_rfl) (by kernel_rfl) (VW.refl _) ⟨⟨⟨trivial, trivial, trivial, trivial⟩, trivial, trivial⟩, trivial⟩ ⟨⟨_, rfl, OW.refl _⟩, ⟨_, rfl, OW.refl _⟩, trivial⟩⟩, fun h => by cases h⟩
  simp only [Cnd.holds]
  and_intros
  all_goals first | exact trivial | rfl
/-! On a Line whole. -/
def remK (k : Int) (L : List It) : List It := L.filter fun y => !(y.b == k)
def findI (k : Int) (L : List It) : It := (L.find? fun y => y.b == k).getD It.zero
theorem remK_perm {k : Int} : ∀ {L : List It} {x : It}, (∀ y ∈ L, ∀ z ∈ L, y.b = z.b → y = z) → L.Nodup → x ∈ L → x.b = k → L.Perm (x :: remK k L)
  | [], x, _, _, hx, _ => by cases hx
  | y :: l, x, hu, hd, hx, hk => by
    obtain ⟨hd1, hd2⟩ := List.nodup_cons.1 hd
    have hu' : ∀ a ∈ l, ∀ b ∈ l, a.b = b.b → a = b := fun a ha b hb => hu a (List.mem_cons_of_mem _ ha) b (List.mem_cons_of_mem _ hb)
    rcases List.mem_cons.1 hx with rfl | hx'
    · have e : remK k (x :: l) = l := by
        rw [remK, List.filter_cons]
        have h1 : (!(x.b == k)) = false := by simp [hk]
        rw [h1, if_neg Bool.false_ne_true, List.filter_eq_self]
        intro z hz
        have : z.b ≠ k := fun ez => hd1 (by rw [hu x List.mem_cons_self z (List.mem_cons_of_mem _ hz) (hk.trans ez.symm)]; exact hz)
        simpa using this
      rw [e]
    · have hy : y.b ≠ k := fun ey => hd1 (by rw [hu y List.mem_cons_self x hx (ey.trans hk.symm)]; exact hx')
      have e : remK k (y :: l) = y :: remK k l := by
        rw [remK, List.filter_cons]
        have h1 : (!(y.b == k)) = true := by simpa using hy
        rw [if_pos h1]; rfl
      rw [e]
      exact ((remK_perm hu' hd2 hx' hk).cons y).trans (List.Perm.swap x y _)
theorem sorted_nodup {L : List It} (h : Sortd L) : L.Nodup := h.imp fun {a b} hab e => by subst e; rw [ahead_irrefl] at hab; cases hab
theorem AbsS.uniq {s : Ps} {L : List It} (h : AbsS s L) : ∀ y ∈ L, ∀ z ∈ L, y.b = z.b → y = z := by
  intro y hy z hz e
  obtain ⟨i, hi, rfl⟩ := mem_at.1 (h.perm.mem_iff.1 hy)
  obtain ⟨j, hj, rfl⟩ := mem_at.1 (h.perm.mem_iff.1 hz)
  rw [h.map.inj hi hj e]
theorem find_mem {L : List It} (hu : ∀ y ∈ L, ∀ z ∈ L, y.b = z.b → y = z) {x : It} (hx : x ∈ L) {k : Int} (hk : x.b = k) : findI k L = x := by
  rw [findI]
  cases hf : L.find? (fun y => y.b == k) with
  | none =>
    have := List.find?_eq_none.1 hf x hx
    simp [hk] at this
  | some z =>
    have h1 := List.find?_some hf
    have h2 := List.mem_of_find?_eq_some hf
    exact hu z h2 x hx (by rw [hk]; simpa using h1)
theorem AbsS.take {s : Ps} {L : List It} (h : AbsS s L) (k : Int) : ltakeV s k = findI k L ∧ AbsS (ltakeS s k) (remK k L) := by
  cases hi : Rk.isIn k s with
  | false =>
    have hn : ¬ Rk.isIn k s = true := by rw [hi]; exact Bool.false_ne_true
    have e4 : ltakeV s k = It.zero := if_neg hn
    have e5 : ltakeS s k = s := if_neg hn
    rw [h.isIn k, List.any_eq_false] at hi
    have e6 : findI k L = It.zero := by
      rw [findI, List.find?_eq_none.2 fun x hx => hi x hx]; rfl
    have e7 : remK k L = L := List.filter_eq_self.2 fun x hx => by simpa using hi x hx
    rw [e4, e5, e6, e7]; exact ⟨rfl, h⟩
  | true =>
    have e4 : ltakeV s k = remV s (lookD k s.m).toNat := if_pos hi
    have e5 : ltakeS s k = remS s (lookD k s.m).toNat := if_pos hi
    obtain ⟨v, hv⟩ := Option.isSome_iff_exists.1 (show (mlook k s.m).isSome = true from hi)
    obtain ⟨i, hil, hb, rfl⟩ := (h.map k v).1 hv
    have hd : (lookD k s.m).toNat = i := by rw [lookD, hv]; rfl
    have hmem : at' s i ∈ L := h.perm.mem_iff.2 (mem_at.2 ⟨i, hil, rfl⟩)
    have hr := h.rem hil (remK_perm h.uniq (sorted_nodup h.sorted) hmem hb) (h.sorted.filter _)
    rw [e4, e5, hd, find_mem h.uniq hmem hb]
    exact hr
theorem AbsS.peek {s : Ps} {L : List It} (h : AbsS s L) : lpeekV s = L.headD It.zero := by
  cases L with
  | nil =>
    have h0 : s.xs.length = 0 := h.len
    exact if_pos h0
  | cons x L =>
    have hn : s.xs.length = L.length + 1 := h.len
    have e : lpeekV s = at' s 0 := if_neg (by omega)
    have hm : at' s 0 ∈ x :: L := h.perm.mem_iff.2 (mem_at.2 ⟨0, by omega, rfl⟩)
    rw [e]
    rcases List.mem_cons.1 hm with e | e
    · exact e
    · have h1 := (List.pairwise_cons.1 h.sorted).1 _ e
      obtain ⟨i, hi, hxi⟩ := mem_at.1 (h.perm.mem_iff.1 (List.mem_cons_self (a := x) (l := L)))
      have h2 := heap_root h.heap i hi
      rw [hxi, nb, h1] at h2; cases h2
theorem Atake_tri (L : List It) (k : Int) : Tri Try.prog default fLTake [.ptr 0 0, iv k] [(0, lO L)] (.tuple [itA (findI k L), .v (.bool (hasSeq k L))]) [(0, lO (remK k L))] := by
  refine open_line ⟨rfl, trivial, trivial⟩ (fun s hs => ?_) (fun e => ?_)
  · have ht := ltake_tri s k hs.pi hs.map
    have e1 : isIn k s = hasSeq k L := hs.isIn k
    rw [e1, (hs.take k).1] at ht
    exact Tri.post ht (goes_ow (by decide) (ow_line (hs.take k).2))
  · subst e
    exact Tri.post (ltake0_tri k) (goes_ow (by decide) ow_line0)
theorem Apeek_tri (L : List It) : Tri Try.prog default fLPeek [.ptr 0 0] [(0, lO L)] (.tuple [itA (L.headD It.zero), .v (.bool (!L.isEmpty))]) [(0, lO L)] := by
  refine open_line ⟨rfl, trivial⟩ (fun s hs => ?_) (fun e => ?_)
  · have ht := lpeek_tri s
    have e2 : (!decide (s.xs.length = 0)) = !L.isEmpty := by
      rw [hs.len]; cases L <;> simp
    rw [hs.peek, e2] at ht
    exact Tri.post ht (goes_ow (by decide) (ow_line hs))
  · subst e
    exact Tri.post lpeek0_tri (goes_ow (by decide) ow_line0)
end Go.Proofs.Ytcpijmlaglcblaa.Rk

/- ref.Take: the loop. -/
set_option linter.unusedVariables false
set_option linter.unusedSimpArgs false
set_option maxRecDepth 100000
namespace Go.Proofs.Ytcpijmlaglcblaa.Rk
open Go Go.RowKit Go.Proofs.Ytcpijmlaglcblaa.Eng
/-- The last item that bears the seq. -/
def lastI (q : Int) (L : List It) : It := L.foldl (fun x y => if y.b == q then y else x) It.zero
theorem lastI_app (q : Int) (P : List It) (y : It) : lastI q (P ++ [y]) = if y.b == q then y else lastI q P := by simp [lastI, List.foldl_append]
theorem remK_app (q : Int) (P : List It) (y : It) : remK q (P ++ [y]) = if y.b == q then remK q P else remK q P ++ [y] := by
  unfold remK
  rw [List.filter_append]
  cases h : y.b == q <;> simp [h]
theorem hasSeq_app (q : Int) (P : List It) (y : It) : hasSeq q (P ++ [y]) = (hasSeq q P || y.b == q) := by simp [hasSeq]
theorem remK_len (q : Int) (P : List It) : (remK q P).length ≤ P.length := List.length_filter_le _ _
theorem rtake_round (g L : List It) (q : Int) (hb0 : Room2 L) (i : Nat) (hi : i < L.length) (F : HP) :
    VAll (fun r os _ => r.2.2 = 40 ∧
      r.1 = .normal ∧ ∃ l, FitT [0, 2, 3, 1001, 1100, 1101] [0, 1, 5, 7, 8, 9, 10] r.2.1 os (aRTake g L (remK q (L.take (i + 1))) q (hasSeq q (L.take (i + 1))) (i + 1)) (oRTake g L (remK q (L.take (i + 1))) (lastI q (L.take (i + 1)))) l)
    (wLoop [] (hRTake i (L.getD i It.zero) ((L.getD i It.zero).b == q)) [] default fRTake (loopN fRTake 4) (tms 0 40 (aRTake g L (remK q (L.take i)) q (hasSeq q (L.take i)) i)) (oRTake g L (remK q (L.take i)) (lastI q (L.take i))) [0, 2, 3, 1001, 1100, 1101] [0, 1, 5, 7, 8, 9, 10] F) := by
  have hlen : (L.take i).length = i := by rw [List.length_take]; omega
  have hol : (remK q (L.take i)).length ≤ i := by have := remK_len q (L.take i); omega
  have htk := take_next L i hi
  have f1 := remK_app q (L.take i) (L.getD i It.zero)
  have f2 := hasSeq_app q (L.take i) (L.getD i It.zero)
  have f3 := lastI_app q (L.take i) (L.getD i It.zero)
  rw [← htk] at f1 f2 f3
  generalize remK q (L.take (i + 1)) = O1 at f1 ⊢
  generalize hasSeq q (L.take (i + 1)) = th1 at f2 ⊢
  generalize lastI q (L.take (i + 1)) = X1 at f3 ⊢
  have ha := rowO_at g L i hi
  have hs := rowO_seq g L i hi
  have hgl := rowO_len g L
  generalize L.getD i It.zero = y at ha hs f1 f2 f3 ⊢
  generalize remK q (L.take i) = O at hol f1 ⊢
  generalize hasSeq q (L.take i) = th at f2 ⊢
  generalize lastI q (L.take i) = X at f3 ⊢
  have hb : (L.length + 2) * 24 ≤ 140737488355328 := hb0
  have hr2 : (O.length + 1) * 24 ≤ 140737488355328 := Nat.le_trans (Nat.mul_le_mul_right 24 (by omega)) hb
  have hr3 : O.length + 1 ≤ 9223372036854775807 := Nat.le_trans (Nat.le_mul_of_pos_right _ (by decide)) (Nat.le_trans hr2 (by decide))
  have hw := wrap_succ i (by omega)
  have hvy : [AV.v (Value.int IntKind.i64 y.a), AV.v (Value.int IntKind.i64 y.b), AV.v (Value.int IntKind.i64 y.c)] = vmap (enc y) := rfl
  have fin : ∀ (r : Nat) (O' : List It) (m : Nat) (X' : It) (d : Bool) (os : List (Option AO)), m = O'.length → r = 1101 ∨ r = 1001 → getK [0, 2, 3, 1001, 1100, 1101] os 0 = some (lob g L) → getK [0, 2, 3, 1001, 1100, 1101] os 2 = some (boxO X') → getK [0, 2, 3, 1001, 1100, 1101] os 3 = some (boxO It.zero) → getK [0, 2, 3, 1001, 1100, 1101] os r = some (.cells (rowV enc O') tIt) →
      (40 : Nat) = 40 ∧ (AX.normal : AX) = .normal ∧ ∃ l, FitT [0, 2, 3, 1001, 1100, 1101] [0, 1, 5, 7, 8, 9, 10] [lsl 0 g L, iv q, AV.ptr 3 0, AV.slice r 0 m 3 (.lo m), AV.ptr 2 0, AV.v (Value.bool d), iv (Int.ofNat (i + 1))] os (aRTake g L O' q d (i + 1)) (oRTake g L O' X') l := by
    intro r O' m X' d os e3 hr k0 k2 k3 kr
    subst e3
    refine ⟨rfl, rfl, [(1001, r)], rfl, ?_, ⟨Wk.refl _, Wk.refl _, Wk.refl _, Wk.refl _, Wk.refl _, Wk.refl _, Wk.refl _, trivial⟩, ⟨⟨_, k0, OW.of_eq (lob_ren _ _ _).symm⟩, ⟨_, kr, OW.of_eq ?_⟩, ⟨_, k2, OW.refl _⟩, ⟨_, k3, OW.refl _⟩, trivial⟩⟩
    · rcases hr with rfl | rfl <;> rfl
    · simp only [AO.ren, rens_rowV]
  cases hyq : (y.b == q) with
  | true =>
    rw [hyq] at f1 f2 f3
    rw [if_pos rfl] at f1 f3
    rw [Bool.or_true] at f2
    subst f1 f2 f3
    rw [oLoopRTakeH_eq (b := true), nat_ltC]
    refine ⟨⟨fun _ => ⟨?_, fin 1001 _ _ _ true _ rfl (.inr rfl) rfl rfl rfl rfl⟩, fun h => by simp [hi] at h⟩⟩
    simp only [Cnd.holds, ha, hs, hyq, hgl, hvy, Nat.ble_eq, Nat.blt_eq, vmap_length, enc_length, Nat.beq_refl]
    and_intros
    all_goals first
      | (with_reducible exact trivial)
      | with_reducible rfl
      | (with_reducible exact Wk.refl _)
      | (with_reducible exact wk_lit _)
      | (with_reducible exact wk_int hw)
      | exact Wk.refl _
      | exact rfl
      | (clear hw hr2; omega)
  | false =>
    rw [hyq] at f1 f2 f3
    rw [if_neg (by decide)] at f1 f3
    rw [Bool.or_false] at f2
    subst f1 f2 f3
    rw [oLoopRTake_eq (b := true), nat_ltC]
    refine ⟨⟨fun _ => ⟨?_, fin 1101 _ _ _ _ _ (by simp) (.inl rfl) rfl rfl rfl (congrArg (fun r => some (AO.cells r tIt)) (row_add _ _))⟩, fun h => by simp [hi] at h⟩⟩
    · simp only [Cnd.holds, ha, hs, hyq, hgl, hvy, row_whole, rowV_length enc_length, Nat.ble_eq, Nat.blt_eq, vmap_length, enc_length, Nat.beq_refl]
      and_intros
      all_goals first
        | (with_reducible exact trivial)
        | with_reducible rfl
        | (with_reducible exact Wk.refl _)
        | (with_reducible exact wk_lit _)
        | (with_reducible exact wk_int hw)
        | (with_reducible exact hr2)
        | (with_reducible exact hr3)
        | exact Wk.refl _
        | exact rfl
        | (clear hw hr2; omega)
end Go.Proofs.Ytcpijmlaglcblaa.Rk

/- The closure that Items sorts by. -/
set_option linter.unusedVariables false
set_option linter.unusedSimpArgs false
set_option maxRecDepth 100000
namespace Go.Proofs.Ytcpijmlaglcblaa.Rk
open Go Go.RowKit Go.Proofs.Ytcpijmlaglcblaa.Eng Go.Sort Go.Lib Go.Shelf
abbrev fItems1 : Nat := 22
abbrev fAhead : Nat := 23
set_option maxHeartbeats 2000000 in
theorem ahead_calls (x y : It) (W : World) : Calls Try.prog fAhead #[.agg #[.int .i64 x.a, .int .i64 x.b, .int .i64 x.c], .agg #[.int .i64 y.a, .int .i64 y.b, .int .i64 y.c]] W fun e w' => e = .returned (.bool (ahead x y)) ∧ ∃ q os', w' = grow (W.drewN q) os' := by
  go_enter Try.func23, Try.ntmps23
  go_wp2
  all_goals go_ret
  all_goals refine ⟨?_, 0, _, by rw [alloc_eq_grow, alloc_eq_grow, grow_grow]; rfl⟩
  all_goals simp_all [ahead]
  all_goals omega
def cmpI (x y : It) : Int := if ahead x y = true then -1 else 1
set_option maxHeartbeats 2000000 in
theorem closure_calls (x y : It) (W : World) : Calls Try.prog fItems1 #[.agg #[.int .i64 x.a, .int .i64 x.b, .int .i64 x.c], .agg #[.int .i64 y.a, .int .i64 y.b, .int .i64 y.c]] W fun e w' => e = .returned (.int .i64 (cmpI x y)) ∧ ∃ q os', w' = grow (W.drewN q) os' := by
  have hcon := fun W' => ahead_calls x y W'
  change ∀ W', Calls Try.prog 23 _ _ _ at hcon
  unfold cmpI
  generalize ahead x y = r at hcon ⊢
  go_enter Try.func22, Try.ntmps22
  go_wp2_with (go_at_call 23; refine (hcon _).mono ?_; rintro e w' ⟨rfl, q, os', rfl⟩)
  all_goals go_ret
  all_goals refine ⟨?_, q, _, by rw [alloc_eq_grow, alloc_eq_grow, grow_grow]; exact grow_grow (W.drewN q) _ _⟩
  all_goals first | rfl | simp_all
/-! The order is strict and weak. -/
instance : Inhabited It := ⟨It.zero⟩
theorem cmpI_lt : ltOf cmpI = ahead := by
  funext x y
  unfold ltOf cmpI
  cases ahead x y <;> simp
theorem swo_ahead : SWO (ltOf cmpI) := by
  rw [cmpI_lt]
  refine ⟨fun x => ?_, fun x y z h1 h2 => ?_, fun x y z h1 h2 => ?_⟩
  · simp [ahead]
  · simp only [ahead, Bool.or_eq_true, Bool.and_eq_true, decide_eq_true_eq, beq_iff_eq] at *; omega
  · rw [← Bool.not_eq_true] at *
    simp only [ahead, Bool.or_eq_true, Bool.and_eq_true, decide_eq_true_eq, beq_iff_eq] at *; omega
theorem cmpLays (blk off size : Nat) (w : World) : CmpLays Try.prog fItems1 #[] enc 3 cmpI blk off size w := fun _ _ _ _ x y => closure_calls x y _
end Go.Proofs.Ytcpijmlaglcblaa.Rk

/- slices.SortFunc at items, laid by the kit's lay-plain.mjs. -/
namespace Go.Proofs
open Go.Shelf
def Try.sortIt_ren : Go.Shelf.Ren := ⟨fun | 6 => 21 | 15 => 28 | 14 => 27 | 28 => 37 | 29 => 38 | 20 => 29 | 21 => 30 | 22 => 31 | 23 => 32 | 24 => 33 | 25 => 34 | 26 => 35 | 27 => 36 | 46 => 39 | 47 => 40 | 48 => 41 | 49 => 42 | 50 => 43 | 57 => 44 | n => n, fun | 22 => 22 | 24 => 27 | 25 => 57 | 3 => 3 | 39 => 68 | 0 => 0 | 53 => 78 | 55 => 80 | 4 => 4 | 46 => 72 | 45 => 71 | 50 => 51 | 5 => 5 | 9 => 9 | 66 => 81 | 70 => 85 | 76 => 87 | 77 => 88 | n => n, fun | n => n⟩
theorem Try.sortIt : Go.Proofs.SlLaysF0.n6 Try.prog Try.sortIt_ren := {
  mixed := by kernel_rfl
  f6 := ⟨Try.f21.name, by decide, Try.func21.trans (congrArg some (by kernel_rfl))⟩
  f14 := ⟨Try.f27.name, by decide, Try.func27.trans (congrArg some (by kernel_rfl))⟩
  f15 := Try.func28.trans (congrArg some (by kernel_rfl))
  f20 := ⟨Try.f29.name, by decide, Try.func29.trans (congrArg some (by kernel_rfl))⟩
  f21 := ⟨Try.f30.name, by decide, Try.func30.trans (congrArg some (by kernel_rfl))⟩
  f22 := ⟨Try.f31.name, by decide, Try.func31.trans (congrArg some (by kernel_rfl))⟩
  f23 := ⟨Try.f32.name, by decide, Try.func32.trans (congrArg some (by kernel_rfl))⟩
  f24 := ⟨Try.f33.name, by decide, Try.func33.trans (congrArg some (by kernel_rfl))⟩
  f25 := ⟨Try.f34.name, by decide, Try.func34.trans (congrArg some (by kernel_rfl))⟩
  f26 := ⟨Try.f35.name, by decide, Try.func35.trans (congrArg some (by kernel_rfl))⟩
  f27 := ⟨Try.f36.name, by decide, Try.func36.trans (congrArg some (by kernel_rfl))⟩
  f28 := Try.func37.trans (congrArg some (by kernel_rfl))
  f29 := Try.func38.trans (congrArg some (by kernel_rfl))
  f46 := ⟨Try.f39.name, by decide, Try.func39.trans (congrArg some (by kernel_rfl))⟩
  f47 := Try.func40.trans (congrArg some (by kernel_rfl))
  f48 := Try.func41.trans (congrArg some (by kernel_rfl))
  f49 := ⟨Try.f42.name, by decide, Try.func42.trans (congrArg some (by kernel_rfl))⟩
  f50 := ⟨Try.f43.name, by decide, Try.func43.trans (congrArg some (by kernel_rfl))⟩
  f57 := ⟨Try.f44.name, by decide, Try.func44.trans (congrArg some (by kernel_rfl))⟩
  t0 := Try.underlying0
  a0 := Try.isAgg0
  z0 := Try.sizeOf0
  v0 := Try.zeroValue0
  t3 := Try.underlying3
  a3 := Try.isAgg3
  z3 := Try.sizeOf3
  v3 := Try.zeroValue3
  t4 := Try.underlying4
  a4 := Try.isAgg4
  z4 := Try.sizeOf4
  v4 := Try.zeroValue4
  t5 := Try.underlying5
  a5 := Try.isAgg5
  z5 := Try.sizeOf5
  v5 := Try.zeroValue5
  t9 := Try.underlying9
  a9 := Try.isAgg9
  z9 := Try.sizeOf9
  v9 := Try.zeroValue9
  t22 := Try.underlying22
  a22 := Try.isAgg22
  z22 := Try.sizeOf22
  v22 := Try.zeroValue22
  t25 := Try.underlying57
  a25 := Try.isAgg57
  z25 := Try.sizeOf57
  v25 := Try.zeroValue57
  t39 := Try.underlying68
  a39 := Try.isAgg68
  z39 := Try.sizeOf68
  v39 := Try.zeroValue68
  t45 := Try.underlying71
  a45 := Try.isAgg71
  z45 := Try.sizeOf71
  v45 := Try.zeroValue71
  t46 := Try.underlying72
  a46 := Try.isAgg72
  z46 := Try.sizeOf72
  v46 := Try.zeroValue72
  t50 := Try.underlying51
  a50 := Try.isAgg51
  z50 := Try.sizeOf51
  v50 := Try.zeroValue51
  t53 := Try.underlying78
  a53 := Try.isAgg78
  z53 := Try.sizeOf78
  v53 := Try.zeroValue78
  t55 := Try.underlying80
  a55 := Try.isAgg80
  z55 := Try.sizeOf80
  v55 := Try.zeroValue80
  t66 := Try.underlying81
  a66 := Try.isAgg81
  z66 := Try.sizeOf81
  v66 := Try.zeroValue81
  t70 := Try.underlying85
  a70 := Try.isAgg85
  z70 := Try.sizeOf85
  v70 := Try.zeroValue85
  t76 := Try.underlying87
  a76 := Try.isAgg87
  z76 := Try.sizeOf87
  v76 := Try.zeroValue87
  t77 := Try.underlying88
  a77 := Try.isAgg88
  z77 := Try.sizeOf88
  v77 := Try.zeroValue88 }
end Go.Proofs

/- slices.SortFunc on a row of items, as the closure of Items orders them: a contract. -/
set_option linter.unusedVariables false
set_option linter.unusedSimpArgs false
set_option maxRecDepth 100000
namespace Go.Proofs.Ytcpijmlaglcblaa.Rk
open Go Go.RowKit Go.Proofs.Ytcpijmlaglcblaa.Eng Go.Sort Go.Shelf
abbrev fSort : Nat := 21
theorem flat_get (d : Array It) (j : Nat) (hj : j < d.size * 3) : (d.toList.flatMap enc)[j]? = some ((flatK enc 3 d)[j]!) := by
  have h1 : j / 3 < d.toList.length := by rw [Array.length_toList]; omega
  have h2 := pieces_get enc_length d.toList (j / 3) (j % 3) h1 (by omega)
  have e : j / 3 * 3 + j % 3 = j := by omega
  rw [e] at h2
  rw [h2, get_flatK enc 3 d j hj]
  have h3 : d[j / 3]! = d.toList[j / 3] := by
    rw [getElem!_pos d (j / 3) (by simpa using h1)]; simp
  rw [h3]
  have hl : j % 3 < (enc d.toList[j / 3]).length := by rw [enc_length]; omega
  rw [List.getElem?_eq_getElem hl, getElem!_pos (enc d.toList[j / 3]) (j % 3) hl]
theorem flat_len (l : List It) : (l.flatMap enc).length = l.length * 3 := by
  have := rowV_length enc_length l
  rwa [rowV, vmap_length] at this
theorem sorted_is {l L : List It} {d' : Array It} (hp : l.Perm L) (hs : Sortd L) (h1 : PermIn 0 l.toArray.size l.toArray d') (h2 : SortedIn (ltOf cmpI) 0 l.toArray.size d') : d'.toList = L := by
  obtain ⟨hz, _, hpm⟩ := h1
  have e1 : d'.extract 0 l.toArray.size = d' := by rw [← hz]; simp
  have e2 : l.toArray.extract 0 l.toArray.size = l.toArray := by simp
  rw [e1, e2] at hpm
  have hpL : d'.toList.Perm L := hpm.trans hp
  refine List.Perm.eq_of_pairwise (le := nb) (fun a b ha hb h3 h4 => ?_) ?_ (hs.imp fun h => nb_of_ahead h) hpL
  · have ha' : a ∈ L := hpL.mem_iff.1 ha
    obtain ⟨i, hi, rfl⟩ := List.mem_iff_getElem.1 ha'
    obtain ⟨j, hj, rfl⟩ := List.mem_iff_getElem.1 hb
    have hs2 := List.pairwise_iff_getElem.1 hs
    rcases Nat.lt_trichotomy i j with h | h | h
    · have := hs2 i j hi hj h
      rw [nb, this] at h4; cases h4
    · subst h; rfl
    · have := hs2 j i hj hi h
      rw [nb, this] at h3; cases h3
  · rw [List.pairwise_iff_getElem]
    intro i j hi hj hij
    have hj' : j < d'.size := by simpa using hj
    have hi' : i < d'.size := by simpa using hi
    have := h2 i j (Nat.zero_le _) hij (by rw [← hz]; exact hj')
    rw [cmpI_lt, getElem!_pos d' j hj', getElem!_pos d' i hi'] at this
    simpa [nb] using this
def sF : AV := .v (.func (.func fItems1) #[] #[])
theorem sort_tri (l L : List It) (c : Cp) (h0 : 0 < l.length) (hb : l.length < 4611686018427387904) (hp : l.Perm L) (hs : Sortd L) : Tri Try.prog default fSort [.slice 0 0 l.length 3 c, sF] [(0, .cells (rowV enc l) tIt)] (.tuple []) [(0, .cells (rowV enc L) tIt)] := by
  intro W0 F N w vargs _ hN r hv
  have hfo : ∀ o : AO, (heapOf [(0, o)]).find 0 = some o := fun o => by
    rw [find_heapOf (by kernel_rfl), getO, if_pos rfl]
  have hfn : ∀ (o : AO) i, i ≠ 0 → (heapOf [(0, o)]).find i = none := fun o i hi => by
    rw [find_heapOf (by kernel_rfl), getO, if_neg hi]; rfl
  simp only [VRs, sF] at hv
  obtain ⟨y1, r1, hy1, ⟨y2, r2, hy2, rfl, rfl⟩, hvl⟩ := hv
  obtain rfl : vargs = #[y1, y2] := by cases vargs; simp_all
  simp only [VR] at hy1 hy2
  obtain ⟨p, x, cc, q1, rfl, q3, q4, q5, q6⟩ := hy1
  subst hy2
  obtain ⟨D, hO⟩ := r.obj (hfo _)
  obtain ⟨p', arr, fz, g1, g2, g3, g4, g5, g6, g7, g8⟩ := hO
  obtain rfl : p' = p := by rw [q1] at g1; cases g1; rfl
  obtain ⟨g9, rfl⟩ := g8 (by decide)
  rw [rowV_length enc_length] at g5 g7
  have hx : x = 0 := by
    rcases q3 with h | h
    · rw [h, g9]
    · omega
  subst hx
  rw [g9, List.drop_zero] at g7
  have hcells : arr.toList.take (l.length * 3) = l.flatMap enc := VRs.of_vmap g7
  have hsz : l.length * 3 ≤ arr.size := by omega
  have hcell : ∀ j, j < l.length * 3 → arr[j]? = (l.flatMap enc)[j]? := fun j hj => by
    rw [← hcells, List.getElem?_take_of_lt hj]; simp
  have hH : HoldsK enc 3 w p'.blk 0 l.toArray := by
    intro j hj
    have hj' : j < l.length * 3 := by simpa using hj
    have := flat_get l.toArray j (by simpa using hj')
    simp only [World.cell?, World.frozen?, g3, Nat.zero_add]
    refine ⟨?_, by simp⟩
    show arr[j]? = _
    rw [hcell j hj']
    exact this
  have hlt : p'.blk < w.heap.size := (Array.getElem?_eq_some_iff.1 g3).1
  have eg : ∀ args w, (callFunc fItems1 args).run Try.prog w = .ok (.enter fItems1 args) w := enters_of Try.func22 (by kernel_rfl) rfl
  have hcon := AnyQ.slices_SortFunc Try.sortIt 3 Try.isAgg27 Try.sizeOf27 enc enc_length (fun x v hv => by simp [enc] at hv; rcases hv with rfl | rfl | rfl <;> rfl) cmpI swo_ahead fItems1 #[] p'.blk 0 cc l.toArray w eg (cmpLays p'.blk 0 l.toArray.size w) hH hlt (by simpa using hb)
  change Calls Try.prog fSort _ _ _ at hcon
  have hsl : l.toArray.size = l.length := by simp
  rw [hsl] at hcon
  refine hcon.mono ?_
  rintro e w' ⟨rfl, d', n, os, k1, k2, rfl⟩
  have hd : d'.toList = L := sorted_is hp hs (by rw [hsl]; exact k1) (by rw [hsl]; exact k2)
  have hds : d'.size = l.length := by rw [← hsl]; exact k1.1
  have hLl : L.length = l.length := hp.length_eq.symm
  refine ⟨.tuple #[], rfl, N, fun i _ => rfl, fun j hj hg => hN j hj ?_, ?_, ?_⟩
  · have e : j ≠ 0 := by omega
    rw [getO, if_neg e]; rfl
  · refine Rep.heap (Rep.turn (o' := .cells (rowV enc L) tIt) r (hfo _) rfl rfl rfl fun D hD => ?_) fun i => ?_
    · obtain ⟨p2, arr2, fz2, d1, d2, d3, d4, d5, d6, d7, d8⟩ := hD
      obtain rfl : p2 = p' := by rw [q1] at d1; cases d1; rfl
      rw [g3] at d3
      have hheap : ∀ b, b < w.heap.size → (sortWorldK enc 3 w p2.blk 0 n d' os).heap[b]? = (w.heap.modify p2.blk (onCells (putCells id 0 (flatK enc 3 d'))))[b]? := fun b hb => by
        show (w.heap.modify _ _ ++ os)[b]? = _
        rw [Array.getElem?_append_left (by simpa using hb)]
      refine ⟨fun b hb hnb => ?_, D, ⟨p2, putCells id 0 (flatK enc 3 d') arr, (0, 0), q1, d2, ?_, ?_, ?_, Or.inl rfl, ?_, fun _ => ⟨g9, rfl⟩⟩, fun b hb => Or.inl hb⟩
      · have hne : p2.blk ≠ b := fun e => hnb ((d2 b).2 e.symm)
        rw [hheap b hb, Array.getElem?_modify, if_neg hne]
      · rw [hheap _ hlt, Array.getElem?_modify, if_pos rfl, g3]; rfl
      · simpa [putCells] using g4
      · rw [rowV_length enc_length, hLl]; exact g5
      · rw [rowV_length enc_length, hLl, g9, List.drop_zero]
        have : (putCells id 0 (flatK enc 3 d') arr).toList.take (l.length * 3) = L.flatMap enc := by
          apply List.ext_getElem?
          intro j
          by_cases hj : j < l.length * 3
          · rw [List.getElem?_take_of_lt hj, ← hd, flat_get d' j (by rw [hds]; exact hj), Array.getElem?_toList, putCells, Array.getElem?_mapIdx, Array.getElem?_eq_getElem (by omega)]
            have hc : 0 ≤ j ∧ j < 0 + (flatK enc 3 d').size := ⟨Nat.zero_le _, by rw [size_flatK, hds]; omega⟩
            simp only [Option.map_some, if_pos hc, Nat.sub_zero, id]
          · rw [List.getElem?_eq_none (by rw [List.length_take]; omega), List.getElem?_eq_none (by rw [flat_len, hLl]; omega)]
        rw [this]
        exact VRs.vmap _
    · rw [T.find_set (by decide)]
      by_cases hi : i = 0
      · subst hi; rw [if_pos rfl, hfo]; rfl
      · rw [if_neg hi, hfn _ _ hi, hfn _ _ hi]
  · simp [VRs, VR]
end Go.Proofs.Ytcpijmlaglcblaa.Rk

/- A Line's Items: runs. -/
set_option linter.unusedVariables false
set_option linter.unusedSimpArgs false
set_option maxRecDepth 100000
namespace Go.Proofs.Ytcpijmlaglcblaa.Rk
open Go Go.RowKit Go.Proofs.Ytcpijmlaglcblaa.Eng
noncomputable section
abbrev fLItems : Nat := 12
def cSort (l L : List It) : List AV → Option (AP AV) := fun args => match args with
  | [.slice i 0 n 3 c, .v f] => some (.need (n = l.length) (useC (fun _ => i) [.slice 0 0 l.length 3 c, sF] args [(0, .cells (rowV enc l) tIt)] (.leaf .ret [.tuple []] [(0, .cells (rowV enc L) tIt)])))
  | _ => some (.fail "sort")
def cSort0 : List AV → Option (AP AV) := fun args => match args with
  | [.v (.slice none 0 0), .v f] => some (useC (fun i => i) [.v (.slice none 0 0), sF] args [] (.leaf .ret [.tuple []] []))
  | _ => some (.fail "sort")
theorem oLItems_eq (s : Ps) (L : List It) (F : HP) : oRun [(fSort, cSort s.xs L)] noHints [] fLItems [.ptr 0 0] (pL s) [0, 1001, 1002, 1100, 1101, 1102] F = VT.ite false (VT.bad "sort") (VT.leaf (AV.slice 1101 0 (0 + s.xs.length) 3 (Cp.lo (0 + s.xs.length))) [some (AO.cells [AV.slice 1001 0 s.xs.length 3 (Cp.lo (s.xs.length + s.g.length)), AV.map 1002] 100), some (AO.cells (rowV enc (s.xs ++ s.g)) 54), some (AO.map (mE iv s.m) s.ck), some (AO.cells [] 54), some (AO.cells (AV.rens (sgN (fun x => 1101) [] 0) (rowV enc L)) 54), none] 1102 (((Cnd.p (true = true)).a Cnd.t).a ((((Cnd.p (s.xs.length.ble s.xs.length = true)).a ((Cnd.p ((List.take (s.xs.length * 3) (List.drop 0 (rowV enc (s.xs ++ s.g)))).length.beq (s.xs.length * 3) = true)).a ((Cnd.p ((List.take (s.xs.length * 3) (List.drop 0 (rowV enc (s.xs ++ s.g)))).all AV.one = true)).a ((Cnd.p (Nat.blt 0 s.xs.length = true)).a ((Cnd.p (true = true)).a ((Cnd.p (((0 + s.xs.length) * 24).ble 140737488355328 = true)).a ((Cnd.p ((0 + s.xs.length).ble 9223372036854775807 = true)).a ((Cnd.p (true = true)).a ((Cnd.p (Nat.blt 0 (0 + s.xs.length) = true)).a Cnd.t))))))))).a Cnd.t).a (((Cnd.p (0 + s.xs.length = s.xs.length)).a ((Cnd.p (VW [AV.slice 1101 0 (0 + s.xs.length) 3 (Cp.lo (0 + s.xs.length)), AV.v (Value.func (Fn.func 22) (Array.mk []) (Array.mk []))] [AV.slice 1101 0 s.xs.length 3 (Cp.lo (0 + s.xs.length)), AV.v (Value.func (Fn.func 22) (Array.mk []) (Array.mk []))])).a ((Cnd.p (OW (AO.cells ([] ++ List.take (s.xs.length * 3) (List.drop 0 (rowV enc (s.xs ++ s.g)))) 54) (AO.cells (AV.rens (fun x => 1101) (rowV enc s.xs)) 54))).a Cnd.t))).a Cnd.t)))) := by kernel_rfl
theorem oLItems0_eq (F : HP) : oRun [(fSort, cSort0)] noHints [] fLItems [.ptr 0 0] pL0 [0, 1002] F = VT.ite true (VT.leaf (AV.v (Value.slice none 0 0)) [some (AO.cells [AV.v (Value.slice none 0 0), AV.map 1002] 100), some (AO.map [] 0)] 1100 (((Cnd.p (true = true)).a Cnd.t).a (((Cnd.p (VW [AV.v (Value.slice none 0 0), AV.v (Value.func (Fn.func 22) (Array.mk []) (Array.mk []))] [AV.v (Value.slice none 0 0), AV.v (Value.func (Fn.func 22) (Array.mk []) (Array.mk []))])).a Cnd.t).a Cnd.t))) (VT.bad "sort") := by kernel_rfl
end
end Go.Proofs.Ytcpijmlaglcblaa.Rk

/- A Line's Items: contracts. -/
set_option linter.unusedVariables false
set_option linter.unusedSimpArgs false
set_option maxRecDepth 100000
namespace Go.Proofs.Ytcpijmlaglcblaa.Rk
open Go Go.RowKit Go.Proofs.Ytcpijmlaglcblaa.Eng
theorem cSort_ok (l L : List It) (h0 : 0 < l.length) (hb : l.length < 4611686018427387904) (hp : l.Perm L) (hs : Sortd L) (F : HP) : C1OK Try.prog F fSort (cSort l L) := by
  intro st W0 N h w args vargs v h' n n' lg lg' c p hp1 he hc r ha hf
  unfold cSort at hp1
  split at hp1
  · rename_i i m cp f
    cases hp1
    obtain ⟨c0, he0, rfl⟩ := run_need he
    obtain ⟨hn, hc0⟩ := (Cnd.and_iff _ _).1 hc
    have hcl : ClosedC [.slice 0 0 l.length 3 cp, sF] [(0, .cells (rowV enc l) tIt)] [.tuple []] [(0, .cells (rowV enc L) tIt)] := ⟨rfl, rfl, ⟨rfl, trivial, trivial⟩, (fun x hx => by simp only [List.mem_singleton] at hx; subst hx; exact cls_rowV _ _), ⟨trivial, trivial⟩, fun x hx => by simp only [List.mem_singleton] at hx; subst hx; exact cls_rowV _ _⟩
    exact useC_ok oldDef (sort_tri l L cp h0 hb hp hs) rfl hcl he0 hc0 r ha hf
  · cases hp1
    exact (inv_fail he).elim
theorem sort0_tri : Tri Try.prog default fSort [.v (.slice none 0 0), sF] [] (.tuple []) [] := by
  intro W0 F N w vargs _ hN r hv
  simp only [VRs, sF] at hv
  obtain ⟨y1, r1, hy1, ⟨y2, r2, hy2, rfl, rfl⟩, hvl⟩ := hv
  obtain rfl : vargs = #[y1, y2] := by cases vargs; simp_all
  simp only [VR] at hy1 hy2
  subst hy1 hy2
  have hcon := AnyF.slices_SortFunc_none Try.sortIt none 0 (.func (.func fItems1) #[] #[]) w
  change Calls Try.prog fSort _ _ _ at hcon
  refine hcon.mono ?_
  rintro e w' ⟨rfl, rfl⟩
  exact ⟨.tuple #[], rfl, N, fun i _ => rfl, hN, r, by simp [VRs, VR]⟩
theorem cSort0_ok (F : HP) : C1OK Try.prog F fSort cSort0 := by
  intro st W0 N h w args vargs v h' n n' lg lg' c p hp1 he hc r ha hf
  unfold cSort0 at hp1
  split at hp1
  · rename_i f
    cases hp1
    have hcl : ClosedC [.v (.slice none 0 0), sF] [] [.tuple []] [] := ⟨rfl, rfl, ⟨trivial, trivial, trivial⟩, (fun x hx => by cases hx), ⟨trivial, trivial⟩, fun x hx => by cases hx⟩
    exact useC_ok oldDef sort0_tri rfl hcl he hc r ha hf
  · cases hp1
    exact (inv_fail he).elim
theorem items_tri (s : Ps) (L : List It) (hP : PI s) (h0 : 0 < s.xs.length) (hp : s.xs.Perm L) (hs : Sortd L) : Tri Try.prog default fLItems [.ptr 0 0] [(0, pO s)] (.slice 1000 0 L.length 3 (.lo L.length)) [(0, pO s), (1000, .cells (rowV enc L) tIt)] := by
  have hb := hP.big
  have hL : L.length = s.xs.length := hp.length_eq.symm
  have hx : List.take (s.xs.length * 3) (List.drop 0 (rowV enc (s.xs ++ s.g))) = rowV enc s.xs := by
    rw [List.drop_zero, rowV_take enc_length]; simp
  refine open_pile (tri_run (con := [(fSort, cSort s.xs L)]) (hints := noHints) (lc := []) [0, 1001, 1002, 1100, 1101, 1102] rfl (one_ok (cSort_ok s.xs L h0 (by omega) hp hs)) noL fun F => ?_)
  rw [oLItems_eq]
  refine ⟨fun h => (by cases h), fun _ => ⟨?_, ?_⟩⟩
  · rw [hx]
    simp only [Cnd.holds, List.nil_append, Nat.zero_add]
    and_intros
    all_goals first | exact trivial | exact VW.refl _ | exact OW.of_eq (by rw [rens_rowV]) | rfl | exact one_rowV (fun _ => rfl) _ | (simp only [rowV_length enc_length, Nat.beq_refl]) | (simp only [Nat.ble_eq, Nat.blt_eq]; omega)
  · have hgo : Goes [AV.slice 1000 0 L.length 3 (.lo L.length)] (pL s ++ [(1000, .cells (rowV enc L) tIt)]) [AV.slice 1000 0 L.length 3 (.lo L.length)] ((0, pO s) :: [(1000, .cells (rowV enc L) tIt)]) :=
      Goes.shut (σ := Unit) (R := fun _ => True) (L := fun _ => pL s) (m := .pile s) (H0 := [(1000, .cells (rowV enc L) tIt)]) () trivial rfl ⟨_, _, rfl, rfl⟩ ⟨rfl, trivial⟩ (fun x hx => by simp only [List.mem_singleton] at hx; subst hx; exact cls_rowV _ _)
    refine ⟨[.slice 1000 0 L.length 3 (.lo L.length)], (pL s ++ [((1000 : Nat), AO.cells (rowV enc L) tIt)] : LH), [(1001, 1001), (1002, 1002), (1000, 1101)], rfl, fit_mk _ (by kernel_rfl) (by kernel_rfl) ?_ ⟨⟨_, rfl, OW.refl _⟩, ⟨_, rfl, OW.of_eq ?_⟩, ⟨_, rfl, OW.of_eq ?_⟩, ⟨_, rfl, OW.of_eq ?_⟩, trivial⟩, hgo⟩
    · rw [hL, Nat.zero_add]; exact VW.refl _
    · show AO.cells _ _ = AO.cells (AV.rens _ _) _
      rw [rens_rowV]
    · show AO.map _ _ = AO.map (renE _ _) _
      rw [renE_mE]
    · show AO.cells (AV.rens _ _) _ = AO.cells (AV.rens _ _) _
      rw [rens_rowV, rens_rowV]
theorem items0_tri : Tri Try.prog default fLItems [.ptr 0 0] [(0, pO0)] (.v (.slice none 0 0)) [(0, pO0)] := by
  refine open_pile0 (tri_run (con := [(fSort, cSort0)]) (hints := noHints) (lc := []) [0, 1002] rfl (one_ok cSort0_ok) noL fun F => ?_)
  rw [oLItems0_eq]
  refine ⟨fun _ => ⟨?_, fits_pile0 [(1002, 1002)] (by kernel_rfl) (by kernel_rfl) (VW.refl _) ⟨trivial, trivial⟩ ⟨⟨_, rfl, OW.refl _⟩, ⟨_, rfl, OW.refl _⟩, trivial⟩⟩, fun h => (by cases h)⟩
  simp only [Cnd.holds]
  and_intros
  all_goals first | exact trivial | exact VW.refl _ | rfl
end Go.Proofs.Ytcpijmlaglcblaa.Rk

/- Items on a Line whole. -/
set_option linter.unusedVariables false
set_option linter.unusedSimpArgs false
set_option maxRecDepth 100000
namespace Go.Proofs.Ytcpijmlaglcblaa.Rk
open Go Go.RowKit Go.Proofs.Ytcpijmlaglcblaa.Eng
theorem goes_ow2 {vs : List AV} {i : Nat} {o o' : AO} {H0 : LH} (hb : ∀ a, namesLt T.limit ((i, a) :: H0) = true) (h : OW o o') : Goes vs ((i, o) :: H0) vs ((i, o') :: H0) := by
  intro W0 F N ys w ⟨N', g1, g2, r, hv⟩
  have hf : ∀ (a : AO) j, (heapOf ((i, a) :: H0)).find j = if j = i then some a else getO H0 j := fun a j => by
    rw [find_heapOf (hb a), getO]
  refine ⟨N', g1, fun j hj hg => g2 j hj ?_, ?_, hv⟩
  · rw [getO] at hg ⊢
    split at hg
    · cases hg
    · rename_i e; rw [if_neg e]; exact hg
  · obtain ⟨D0, D, h1, h2, h3⟩ := r.sat
    have q : ∀ j b, (heapOf ((i, o') :: H0)).find j = some b → ∃ b2, (heapOf ((i, o) :: H0)).find j = some b2 := fun j b hj => by
      rw [hf] at hj ⊢
      split at hj
      · rename_i e; exact ⟨o, by rw [if_pos e]⟩
      · rename_i e; exact ⟨b, by rw [if_neg e]; exact hj⟩
    refine ⟨r.os, r.tape, r.output, D0, D, h1, fun j b hj => ?_, fun j k b b' hj hk hjk => ?_⟩
    · rw [hf] at hj
      split at hj
      · rename_i e; cases hj; subst e
        have := h2 j o (by rw [hf, if_pos rfl])
        exact ⟨h _ _ _ _ this.1, this.2⟩
      · rename_i e; exact h2 j b (by rw [hf, if_neg e]; exact hj)
    · obtain ⟨b2, hb2⟩ := q j b hj
      obtain ⟨b3, hb3⟩ := q k b' hk
      exact h3 j k b2 b3 hb2 hb3 hjk
/-- Where there is one item at least. -/
theorem Aitems_tri (L : List It) (hL : L ≠ []) : Tri Try.prog default fLItems [.ptr 0 0] [(0, lO L)] (.slice 1000 0 L.length 3 (.lo L.length)) [(0, lO L), (1000, .cells (rowV enc L) tIt)] := by
  refine open_line ⟨rfl, trivial⟩ (fun s hs => ?_) (fun e => absurd e hL)
  have h0 : 0 < s.xs.length := by
    rw [hs.len]
    exact List.length_pos_iff.2 hL
  exact Tri.post (items_tri s L hs.pi h0 hs.perm.symm hs.sorted) (goes_ow2 (fun _ => rfl) (ow_line hs))
end Go.Proofs.Ytcpijmlaglcblaa.Rk

/- ref.Take: the loop's contract, the function's run; ref.Same and the law's own loop: runs. -/
set_option linter.unusedVariables false
set_option linter.unusedSimpArgs false
set_option maxRecDepth 100000
namespace Go.Proofs.Ytcpijmlaglcblaa.Rk
open Go Go.RowKit Go.Proofs.Ytcpijmlaglcblaa.Eng
noncomputable section
theorem rtake_loop (g L : List It) (q : Int) (hb : Room2 L) :
    LTri Try.prog default (loopN fRTake 4) (tms 0 40 (aRTake g L [] q false 0)) (oRTake g L [] It.zero) (.exit 0) (tms 0 40 (zRTake (remK q L) (hasSeq q L))) [(1001, .cells (rowV enc (remK q L)) tIt), (2, boxO (lastI q L)), (3, boxO It.zero)] := by
  have key := ltri_V (P := Try.prog) (W := default) (b := loopN fRTake 4) (σ := stR L) (g := fRTake) (con := fun _ => conL []) (claim := fun i => hRTake i.1 (L.getD i.1 It.zero) ((L.getD i.1 It.zero).b == q)) (lcon := fun _ => lconL []) 40 (fun i => aRTake g L (remK q (L.take i.1)) q (hasSeq q (L.take i.1)) i.1) (fun i => oRTake g L (remK q (L.take i.1)) (lastI q (L.take i.1))) (.exit 0) (zRTake (remK q L) (hasSeq q L)) [(1001, .cells (rowV enc (remK q L)) tIt), (2, boxO (lastI q L)), (3, boxO It.zero)] (fun i => L.length - i.1) [0, 2, 3, 1001, 1100, 1101] [0, 1, 5, 7, 8, 9, 10] 1000 mixed (by intro h; cases h)
    (fun _ => rfl) rfl (fun p F _ => conL_ok rfl fun x hx => by cases hx) (fun p F _ => lconL_ok rfl fun x hx => by cases hx)
  refine key ?_ ⟨0, Nat.zero_le _⟩
  clear key
  rintro ⟨i, hi⟩ F _
  show VAll _ (wLoop [] (hRTake i (L.getD i It.zero) ((L.getD i It.zero).b == q)) [] default fRTake (loopN fRTake 4) (tms 0 40 (aRTake g L (remK q (L.take i)) q (hasSeq q (L.take i)) i)) (oRTake g L (remK q (L.take i)) (lastI q (L.take i))) [0, 2, 3, 1001, 1100, 1101] [0, 1, 5, 7, 8, 9, 10] F)
  by_cases h1 : i < L.length
  · refine (rtake_round g L q hb i h1 F).mono ?_
    rintro r os n ⟨e1, e2, l, hf⟩
    exact ⟨e1, .inl ⟨e2, ⟨i + 1, h1⟩, sub_down h1, l, hf⟩⟩
  · have hie : i = L.length := by omega
    subst hie
    rw [List.take_length]
    cases hyq : ((L.getD L.length It.zero).b == q) with
    | true =>
      rw [oLoopRTakeH_eq (b := true), nat_ltC]
      refine ⟨⟨fun h => by simp at h, fun _ => ⟨trivial, rfl, .inr ⟨rfl, [(1001, 1001)], rfl, rfl, ⟨Wk.refl _, Wk.refl _, Wk.refl _, Wk.refl _, trivial⟩, ⟨⟨_, rfl, OW.of_eq (by simp only [AO.ren, rens_rowV])⟩, ⟨_, rfl, OW.refl _⟩, ⟨_, rfl, OW.refl _⟩, trivial⟩⟩⟩⟩⟩
    | false =>
      rw [oLoopRTake_eq (b := true), nat_ltC]
      refine ⟨⟨fun h => by simp at h, fun _ => ⟨trivial, rfl, .inr ⟨rfl, [(1001, 1001)], rfl, rfl, ⟨Wk.refl _, Wk.refl _, Wk.refl _, Wk.refl _, trivial⟩, ⟨⟨_, rfl, OW.of_eq (by simp only [AO.ren, rens_rowV])⟩, ⟨_, rfl, OW.refl _⟩, ⟨_, rfl, OW.refl _⟩, trivial⟩⟩⟩⟩⟩
def gTake4 : List AV → AP (Nat × Nat × Nat × Nat) := fun tmps => match getL tmps 0 with
  | .slice r0 _ _ _ _ => match getL tmps 7 with
    | .slice r1 _ _ _ _ => match getL tmps 8 with
      | .ptr r2 _ => match getL tmps 5 with
        | .ptr r3 _ => .ret (r0, r1, r2, r3)
        | _ => .fail "take"
      | _ => .fail "take"
    | _ => .fail "take"
  | _ => .fail "take"
def nmT (r0 r1 r2 r3 : Nat) : Nat → Nat := fun k => match Nat.beq k 0 with
  | true => r0
  | false => match Nat.beq k 1001 with
    | true => r1
    | false => match Nat.beq k 2 with
      | true => r2
      | false => r3
def lRTake (g L : List It) (q : Int) : List AV → AP (AX × List AV) := mkL gTake4 (fun _ => True) (fun p => nmT p.1 p.2.1 p.2.2.1 p.2.2.2) (fun _ => tms 0 40 (aRTake g L [] q false 0)) (fun _ => oRTake g L [] It.zero) (fun _ => .leaf (.exit 0) (tms 0 40 (zRTake (remK q L) (hasSeq q L))) [(1001, .cells (rowV enc (remK q L)) tIt), (2, boxO (lastI q L)), (3, boxO It.zero)])
theorem oRTakeF_eq (g L : List It) (q : Int) (F : HP) : wRun [] (hintL [(fRTake, 9, 1, hv (itA (lastI q L)))]) [(fRTake, 4, loopN fRTake 4, lRTake g L q)] default fRTake [lsl 0 g L, iv q] [(0, lob g L)] [0, 1100, 1101, 1102, 1103, 1104, 1105] F = VT.leaf (AV.tuple [AV.slice 1103 0 (remK q L).length 3 (Cp.lo (remK q L).length), AV.agg [AV.v (Value.int IntKind.i64 (lastI q L).a), AV.v (Value.int IntKind.i64 (lastI q L).b), AV.v (Value.int IntKind.i64 (lastI q L).c)], AV.v (Value.bool (hasSeq q L))]) [none, some (AO.cells [AV.v (Value.int IntKind.i64 (lastI q L).a), AV.v (Value.int IntKind.i64 (lastI q L).b), AV.v (Value.int IntKind.i64 (lastI q L).c)] 54), none, some (AO.cells [AV.v (Value.int IntKind.i64 (lastI q L).a), AV.v (Value.int IntKind.i64 (lastI q L).b), AV.v (Value.int IntKind.i64 (lastI q L).c)] 54), some (AO.cells (AV.rens (sgN (nmT 0 1101 1102 1100) [1001] 1103) (rowV enc (remK q L))) 54), none, none] 1104 (((Cnd.p (true = true)).a Cnd.t).a ((Cnd.p ((fRTake, 4, loopN fRTake 4, lRTake g L q).snd.snd.fst = (fRTake, 4, loopN fRTake 4, lRTake g L q).snd.snd.fst)).a ((Cnd.p True).a ((Cnd.p (VW [AV.slice 0 (g.length * 3) L.length 3 (Cp.lo L.length), AV.v (Value.int IntKind.i64 q), AV.v (Value.tuple (Array.mk [])), AV.v (Value.tuple (Array.mk [])), AV.v (Value.slice none 0 0), AV.ptr 1100 0, AV.v (Value.bool false), AV.slice 1101 0 0 3 (Cp.ex 0), AV.ptr 1102 0, AV.v (Value.bool false), AV.v (Value.int IntKind.i64 (Int.ofNat 0)), AV.slice 1101 0 0 3 (Cp.ex 0), AV.agg [AV.v (Value.int IntKind.i64 (Int.ofNat 0)), AV.v (Value.int IntKind.i64 (Int.ofNat 0)), AV.v (Value.int IntKind.i64 (Int.ofNat 0))], AV.v (Value.tuple (Array.mk [])), AV.v (Value.tuple (Array.mk [])), AV.v (Value.tuple (Array.mk [])), AV.v (Value.tuple (Array.mk [])), AV.v (Value.tuple (Array.mk [])), AV.v (Value.tuple (Array.mk [])), AV.v (Value.tuple (Array.mk [])), AV.v (Value.tuple (Array.mk [])), AV.v (Value.tuple (Array.mk [])), AV.v (Value.tuple (Array.mk [])), AV.v (Value.tuple (Array.mk [])), AV.v (Value.tuple (Array.mk [])), AV.v (Value.tuple (Array.mk [])), AV.v (Value.tuple (Array.mk [])), AV.v (Value.tuple (Array.mk [])), AV.v (Value.tuple (Array.mk [])), AV.v (Value.tuple (Array.mk [])), AV.v (Value.tuple (Array.mk [])), AV.v (Value.tuple (Array.mk [])), AV.v (Value.tuple (Array.mk [])), AV.v (Value.tuple (Array.mk [])), AV.v (Value.tuple (Array.mk [])), AV.v (Value.tuple (Array.mk [])), AV.v (Value.tuple (Array.mk [])), AV.v (Value.tuple (Array.mk [])), AV.v (Value.tuple (Array.mk [])), AV.v (Value.tuple (Array.mk []))] [AV.slice 0 (g.length * 3) L.length 3 (Cp.lo L.length), AV.v (Value.int IntKind.i64 q), AV.any, AV.any, AV.any, AV.ptr 1100 0, AV.any, AV.slice 1101 0 0 3 (Cp.lo 0), AV.ptr 1102 0, AV.v (Value.bool false), AV.v (Value.int IntKind.i64 (Int.ofNat 0)), AV.any, AV.any, AV.any, AV.any, AV.any, AV.any, AV.any, AV.any, AV.any, AV.any, AV.any, AV.any, AV.any, AV.any, AV.any, AV.any, AV.any, AV.any, AV.any, AV.any, AV.any, AV.any, AV.any, AV.any, AV.any, AV.any, AV.any, AV.any, AV.any])).a ((Cnd.p (OW (AO.cells (rowV enc (g ++ L)) 54) (AO.cells (AV.rens (nmT 0 1101 1102 1100) (rowV enc (g ++ L))) 54))).a ((Cnd.p (OW (AO.cells [] 54) (AO.cells [] 54))).a ((Cnd.p (OW (AO.cells [AV.v (Value.int IntKind.i64 (Int.ofNat 0)), AV.v (Value.int IntKind.i64 (Int.ofNat 0)), AV.v (Value.int IntKind.i64 (Int.ofNat 0))] 54) (AO.cells [AV.v (Value.int IntKind.i64 (Int.ofNat 0)), AV.v (Value.int IntKind.i64 (Int.ofNat 0)), AV.v (Value.int IntKind.i64 (Int.ofNat 0))] 54))).a ((Cnd.p (OW (AO.cells [AV.v (Value.int IntKind.i64 (Int.ofNat 0)), AV.v (Value.int IntKind.i64 (Int.ofNat 0)), AV.v (Value.int IntKind.i64 (Int.ofNat 0))] 54) (AO.cells [AV.v (Value.int IntKind.i64 (Int.ofNat 0)), AV.v (Value.int IntKind.i64 (Int.ofNat 0)), AV.v (Value.int IntKind.i64 (Int.ofNat 0))] 54))).a (((Cnd.p (true = true)).a ((Cnd.p ([AV.v (Value.int IntKind.i64 (lastI q L).a), AV.v (Value.int IntKind.i64 (lastI q L).b), AV.v (Value.int IntKind.i64 (lastI q L).c)] = [AV.v (Value.int IntKind.i64 (lastI q L).a), AV.v (Value.int IntKind.i64 (lastI q L).b), AV.v (Value.int IntKind.i64 (lastI q L).c)])).a ((Cnd.p (Wk (AV.agg [AV.v (Value.int IntKind.i64 (lastI q L).a), AV.v (Value.int IntKind.i64 (lastI q L).b), AV.v (Value.int IntKind.i64 (lastI q L).c)]) (AV.agg [AV.v (Value.int IntKind.i64 (lastI q L).a), AV.v (Value.int IntKind.i64 (lastI q L).b), AV.v (Value.int IntKind.i64 (lastI q L).c)]))).a Cnd.t))).a (((Cnd.p (true = true)).a Cnd.t).a ((Cnd.p (true = true)).a ((Cnd.p ([AV.v (Value.int IntKind.i64 (lastI q L).a), AV.v (Value.int IntKind.i64 (lastI q L).b), AV.v (Value.int IntKind.i64 (lastI q L).c)] = [AV.v (Value.int IntKind.i64 (lastI q L).a), AV.v (Value.int IntKind.i64 (lastI q L).b), AV.v (Value.int IntKind.i64 (lastI q L).c)])).a Cnd.t)))))))))))) := by kernel_rfl
/-! ref.Same where both are one list. -/
abbrev fSame : Nat := 14
def aSameO (g L : List It) (i : Nat) : List (Nat × AV) := [(0, lsl 0 [] L), (1, lsl 1 g L), (5, iv (Int.ofNat i))]
def oSameO (g L : List It) : LH := [(0, lob [] L), (1, lob g L)]
def hSameO (i : Nat) (x : It) : ClaimT := hintL [(fSame, 6, 3, hv (itA x)), (fSame, 6, 7, hv (itA x)), (fSame, 6, 8, hv (.lit false)), (fSame, 5, 1, hv (iv (Int.ofNat (i + 1))))]
theorem oLoopSameO_eq (g L : List It) (i : Nat) (x : It) (F : HP) : wLoop [] (hSameO i x) [] default fSame (loopN fSame 4) (tms 0 26 (aSameO g L i)) (oSameO g L) [0, 1] [0, 1, 5] F = VT.ite (decide (Int.ofNat i < ↑L.length)) (VT.leaf (AX.normal, [AV.slice 0 0 L.length 3 (Cp.lo L.length), AV.slice 1 (g.length * 3) L.length 3 (Cp.lo L.length), AV.v (Value.int IntKind.i64 (Int.ofNat (i + 1)))], 26) [some (AO.cells (rowV enc ([] ++ L)) 54), some (AO.cells (rowV enc (g ++ L)) 54)] 1100 (((Cnd.p (i.blt L.length = true)).a Cnd.t).a (((Cnd.p ((List.take 3 (List.drop (0 + i * 3) (rowV enc ([] ++ L)))).length.beq 3 = true)).a ((Cnd.p (List.take 3 (List.drop (0 + i * 3) (rowV enc ([] ++ L))) = [AV.v (Value.int IntKind.i64 ((List.take 3 (List.drop (0 + i * 3) (rowV enc ([] ++ L)))).getD 0 (AV.v (Value.tuple (Array.mk [])))).intOf), AV.v (Value.int IntKind.i64 ((List.take 3 (List.drop (0 + i * 3) (rowV enc ([] ++ L)))).getD 1 (AV.v (Value.tuple (Array.mk [])))).intOf), AV.v (Value.int IntKind.i64 ((List.take 3 (List.drop (0 + i * 3) (rowV enc ([] ++ L)))).getD 2 (AV.v (Value.tuple (Array.mk [])))).intOf)])).a ((Cnd.p (Wk (AV.agg [AV.v (Value.int IntKind.i64 ((List.take 3 (List.drop (0 + i * 3) (rowV enc ([] ++ L)))).getD 0 (AV.v (Value.tuple (Array.mk [])))).intOf), AV.v (Value.int IntKind.i64 ((List.take 3 (List.drop (0 + i * 3) (rowV enc ([] ++ L)))).getD 1 (AV.v (Value.tuple (Array.mk [])))).intOf), AV.v (Value.int IntKind.i64 ((List.take 3 (List.drop (0 + i * 3) (rowV enc ([] ++ L)))).getD 2 (AV.v (Value.tuple (Array.mk [])))).intOf)]) (AV.agg [AV.v (Value.int IntKind.i64 x.a), AV.v (Value.int IntKind.i64 x.b), AV.v (Value.int IntKind.i64 x.c)]))).a Cnd.t))).a (((Cnd.p (i.blt L.length = true)).a Cnd.t).a (((Cnd.p ((List.take 3 (List.drop (g.length * 3 + i * 3) (rowV enc (g ++ L)))).length.beq 3 = true)).a ((Cnd.p (List.take 3 (List.drop (g.length * 3 + i * 3) (rowV enc (g ++ L))) = [AV.v (Value.int IntKind.i64 ((List.take 3 (List.drop (g.length * 3 + i * 3) (rowV enc (g ++ L)))).getD 0 (AV.v (Value.tuple (Array.mk [])))).intOf), AV.v (Value.int IntKind.i64 ((List.take 3 (List.drop (g.length * 3 + i * 3) (rowV enc (g ++ L)))).getD 1 (AV.v (Value.tuple (Array.mk [])))).intOf), AV.v (Value.int IntKind.i64 ((List.take 3 (List.drop (g.length * 3 + i * 3) (rowV enc (g ++ L)))).getD 2 (AV.v (Value.tuple (Array.mk [])))).intOf)])).a ((Cnd.p (Wk (AV.agg [AV.v (Value.int IntKind.i64 ((List.take 3 (List.drop (g.length * 3 + i * 3) (rowV enc (g ++ L)))).getD 0 (AV.v (Value.tuple (Array.mk [])))).intOf), AV.v (Value.int IntKind.i64 ((List.take 3 (List.drop (g.length * 3 + i * 3) (rowV enc (g ++ L)))).getD 1 (AV.v (Value.tuple (Array.mk [])))).intOf), AV.v (Value.int IntKind.i64 ((List.take 3 (List.drop (g.length * 3 + i * 3) (rowV enc (g ++ L)))).getD 2 (AV.v (Value.tuple (Array.mk [])))).intOf)]) (AV.agg [AV.v (Value.int IntKind.i64 x.a), AV.v (Value.int IntKind.i64 x.b), AV.v (Value.int IntKind.i64 x.c)]))).a Cnd.t))).a (((Cnd.p (EqSem Try.prog 27 (Array.mk [Value.int IntKind.i64 x.a, Value.int IntKind.i64 x.b, Value.int IntKind.i64 x.c]) (Array.mk [Value.int IntKind.i64 x.a, Value.int IntKind.i64 x.b, Value.int IntKind.i64 x.c]) (valsQ [Value.int IntKind.i64 x.a, Value.int IntKind.i64 x.b, Value.int IntKind.i64 x.c] [Value.int IntKind.i64 x.a, Value.int IntKind.i64 x.b, Value.int IntKind.i64 x.c]))).a ((Cnd.p (Wk (AV.v (Value.bool !valsQ [Value.int IntKind.i64 x.a, Value.int IntKind.i64 x.b, Value.int IntKind.i64 x.c] [Value.int IntKind.i64 x.a, Value.int IntKind.i64 x.b, Value.int IntKind.i64 x.c])) (AV.lit false))).a Cnd.t)).a (((Cnd.p (Wk (AV.v (Value.int IntKind.i64 (IntKind.i64.wrap (Int.ofNat i + Int.ofNat 1)))) (AV.v (Value.int IntKind.i64 (Int.ofNat (i + 1)))))).a Cnd.t).a Cnd.t))))))) (VT.leaf (AX.exit 0, [AV.slice 0 0 L.length 3 (Cp.lo L.length), AV.slice 1 (g.length * 3) L.length 3 (Cp.lo L.length), AV.v (Value.int IntKind.i64 (Int.ofNat i))], 26) [some (AO.cells (rowV enc ([] ++ L)) 54), some (AO.cells (rowV enc (g ++ L)) 54)] 1100 Cnd.t) := by kernel_rfl
def gSame2 : List AV → AP (Nat × Nat) := fun tmps => match getL tmps 0 with
  | .slice r0 _ _ _ _ => match getL tmps 1 with
    | .slice r1 _ _ _ _ => .ret (r0, r1)
    | _ => .fail "same"
  | _ => .fail "same"
def lSameO (g L : List It) : List AV → AP (AX × List AV) := mkL gSame2 (fun _ => True) (fun p => nm3 p.1 p.2 p.2) (fun _ => tms 0 26 (aSameO g L 0)) (fun _ => oSameO g L) (fun _ => .leaf (.exit 0) (tms 0 26 (aSameO g L L.length)) (oSameO g L))
def hSameO1 (n : Nat) : ClaimT := hintL [(fSame, 1, 1, hv (iv (Int.ofNat n))), (fSame, 1, 3, hv (iv (Int.ofNat n))), (fSame, 1, 4, hv (.lit false))]
theorem oSameO_eq (g L : List It) (F : HP) : wRun [] (hSameO1 L.length) [(fSame, 4, loopN fSame 4, lSameO g L)] default fSame [lsl 0 [] L, lsl 1 g L] (oSameO g L) [0, 1] F = VT.leaf (AV.v (Value.bool true)) [some (AO.cells (AV.rens (sgN (nm3 0 1 1) [] 0) (rowV enc ([] ++ L))) 54), some (AO.cells (AV.rens (sgN (nm3 0 1 1) [] 0) (rowV enc (g ++ L))) 54)] 1100 (((Cnd.p (Wk (AV.v (Value.int IntKind.i64 ↑L.length)) (AV.v (Value.int IntKind.i64 (Int.ofNat L.length))))).a Cnd.t).a (((Cnd.p (Wk (AV.v (Value.int IntKind.i64 ↑L.length)) (AV.v (Value.int IntKind.i64 (Int.ofNat L.length))))).a Cnd.t).a (((Cnd.p (Wk (AV.v (Value.bool (Int.ofNat L.length != Int.ofNat L.length))) (AV.lit false))).a Cnd.t).a ((Cnd.p ((fSame, 4, loopN fSame 4, lSameO g L).snd.snd.fst = (fSame, 4, loopN fSame 4, lSameO g L).snd.snd.fst)).a ((Cnd.p True).a ((Cnd.p (VW [AV.slice 0 0 L.length 3 (Cp.lo L.length), AV.slice 1 (g.length * 3) L.length 3 (Cp.lo L.length), AV.v (Value.tuple (Array.mk [])), AV.v (Value.tuple (Array.mk [])), AV.v (Value.bool false), AV.v (Value.int IntKind.i64 (Int.ofNat 0)), AV.slice 0 0 L.length 3 (Cp.lo L.length), AV.v (Value.int IntKind.i64 (Int.ofNat L.length)), AV.slice 1 (g.length * 3) L.length 3 (Cp.lo L.length), AV.v (Value.int IntKind.i64 (Int.ofNat L.length)), AV.lit false, AV.v (Value.tuple (Array.mk [])), AV.v (Value.tuple (Array.mk [])), AV.v (Value.tuple (Array.mk [])), AV.v (Value.tuple (Array.mk [])), AV.v (Value.tuple (Array.mk [])), AV.v (Value.tuple (Array.mk [])), AV.v (Value.tuple (Array.mk [])), AV.v (Value.tuple (Array.mk [])), AV.v (Value.tuple (Array.mk [])), AV.v (Value.tuple (Array.mk [])), AV.v (Value.tuple (Array.mk [])), AV.v (Value.tuple (Array.mk [])), AV.v (Value.tuple (Array.mk [])), AV.v (Value.tuple (Array.mk [])), AV.v (Value.tuple (Array.mk []))] [AV.slice 0 0 L.length 3 (Cp.lo L.length), AV.slice 1 (g.length * 3) L.length 3 (Cp.lo L.length), AV.any, AV.any, AV.any, AV.v (Value.int IntKind.i64 (Int.ofNat 0)), AV.any, AV.any, AV.any, AV.any, AV.any, AV.any, AV.any, AV.any, AV.any, AV.any, AV.any, AV.any, AV.any, AV.any, AV.any, AV.any, AV.any, AV.any, AV.any, AV.any])).a ((Cnd.p (OW (AO.cells (rowV enc ([] ++ L)) 54) (AO.cells (AV.rens (nm3 0 1 1) (rowV enc ([] ++ L))) 54))).a ((Cnd.p (OW (AO.cells (rowV enc (g ++ L)) 54) (AO.cells (AV.rens (nm3 0 1 1) (rowV enc (g ++ L))) 54))).a Cnd.t)))))))) := by kernel_rfl
theorem oSameE_eq (g : List It) (F : HP) : wRun [] (hintL [(fSame, 1, 4, hv (.lit false)), (fSame, 4, 3, hv (.lit false))]) [] default fSame [.mt, lsl 1 g []] [(1, lob g [])] [1] F = VT.leaf (AV.v (Value.bool true)) [some (AO.cells (rowV enc (g ++ [])) 54)] 1100 (((Cnd.p (Wk (AV.v (Value.bool false)) (AV.lit false))).a Cnd.t).a (((Cnd.p (Wk (AV.v (Value.bool false)) (AV.lit false))).a Cnd.t).a Cnd.t)) := by kernel_rfl
/-! Items of an empty Line. -/
abbrev fClone : Nat := 20
def cSortE : List AV → Option (AP AV) := fun args => match args with
  | [.slice i 0 0 3 c, .v f] => some (useC (fun _ => i) [.slice 0 0 0 3 c, sF] args [(0, .cells [] tIt)] (.leaf .ret [.tuple []] [(0, .cells [] tIt)]))
  | _ => some (.fail "sort")
theorem oLItemsE_eq (g : List It) (m : List (Int × Int × Nat)) (ck : Nat) (F : HP) : oRun [(fSort, cSortE)] (hintL [(fClone, 3, 2, h0)]) [] fLItems [.ptr 0 0] (pL ⟨[], g, m, ck⟩) [0, 1001, 1002, 1100] F = VT.ite false (VT.bad "sort") (VT.leaf (AV.slice 1100 0 0 3 (Cp.ex 0)) [some (AO.cells [AV.slice 1001 0 0 3 (Cp.lo (0 + g.length)), AV.map 1002] 100), some (AO.cells (rowV enc ([] ++ g)) 54), some (AO.map (mE iv m) ck), some (AO.cells [] 54)] 1101 (((Cnd.p (true = true)).a Cnd.t).a ((((Cnd.p (0 = 0)).a Cnd.t).a Cnd.t).a (((Cnd.p (VW [AV.slice 1100 0 0 3 (Cp.ex 0), AV.v (Value.func (Fn.func 22) (Array.mk []) (Array.mk []))] [AV.slice 1100 0 0 3 (Cp.ex 0), AV.v (Value.func (Fn.func 22) (Array.mk []) (Array.mk []))])).a ((Cnd.p (OW (AO.cells [] 54) (AO.cells [] 54))).a Cnd.t)).a Cnd.t)))) := by kernel_rfl
end
end Go.Proofs.Ytcpijmlaglcblaa.Rk

/- An item taken out and put back stands where it stood. No program. -/
set_option linter.unusedVariables false
set_option linter.unusedSimpArgs false
set_option maxRecDepth 100000
namespace Go.Proofs.Ytcpijmlaglcblaa.Rk
open Go Go.RowKit Go.Proofs.Ytcpijmlaglcblaa.Eng
def Uniq (L : List It) : Prop := ∀ y ∈ L, ∀ z ∈ L, y.b = z.b → y = z
theorem sorted_eq {A B : List It} (hp : A.Perm B) (ha : Sortd A) (hb : Sortd B) : A = B :=
  List.Perm.eq_of_pairwise (le := fun a b => ahead a b = true) (fun a b _ _ h1 h2 => by
    have := ahead_trans h1 h2
    rw [ahead_irrefl] at this; cases this) ha hb hp
theorem upTo_uniq (items : List It) : ∀ k, k ≤ items.length → Uniq (upTo items k)
  | 0, _ => by intro y hy; simp [upTo] at hy
  | k + 1, h => by
    rw [upTo_succ items k (by omega)]
    have ih := upTo_uniq items k (by omega)
    unfold putL
    cases hs : hasSeq (items.getD k It.zero).b (upTo items k) with
    | true => exact ih
    | false =>
      have hne : ∀ y ∈ upTo items k, y.b ≠ (items.getD k It.zero).b := fun y hy e => by
        have := List.any_eq_false.1 hs y hy
        exact this (by simp [e])
      intro y hy z hz e
      rcases List.mem_cons.1 ((ins_perm _ _).subset hy) with rfl | hy
      · rcases List.mem_cons.1 ((ins_perm _ _).subset hz) with rfl | hz
        · rfl
        · exact absurd e.symm (hne z hz)
      · rcases List.mem_cons.1 ((ins_perm _ _).subset hz) with rfl | hz
        · exact absurd e (hne y hy)
        · exact ih y hy z hz e
theorem find_has {k : Int} {L : List It} (h : hasSeq k L = true) : findI k L ∈ L ∧ (findI k L).b = k := by
  obtain ⟨y, hy, hb⟩ := List.any_eq_true.1 h
  rw [findI]
  cases hf : L.find? (fun y => y.b == k) with
  | none => exact absurd hb (List.find?_eq_none.1 hf y hy)
  | some z => exact ⟨List.mem_of_find?_eq_some hf, by have := List.find?_some hf; simpa using this⟩
theorem put_back {k : Int} {L : List It} (hu : Uniq L) (hs : Sortd L) (h : hasSeq k L = true) : hasSeq (findI k L).b (remK k L) = false ∧ putL (remK k L) (findI k L) = L ∧ (remK k L).length + 1 = L.length := by
  obtain ⟨h1, h2⟩ := find_has h
  have hp := remK_perm hu (sorted_nodup hs) h1 h2
  have hne : ∀ y ∈ remK k L, y.b ≠ (findI k L).b := fun y hy e => by
    have := (List.mem_filter.1 hy).2
    rw [e, h2] at this
    simp at this
  have h3 : hasSeq (findI k L).b (remK k L) = false := by
    rw [hasSeq, List.any_eq_false]
    intro y hy
    simpa using hne y hy
  refine ⟨h3, ?_, ?_⟩
  · rw [putL, h3]
    exact sorted_eq ((ins_perm _ _).trans hp.symm) (ins_sorted (hs.filter _) hne) hs
  · have := hp.length_eq
    rw [List.length_cons] at this
    exact this.symm
theorem not_there {k : Int} {L : List It} (h : hasSeq k L = false) : remK k L = L ∧ findI k L = It.zero := by
  have h1 := List.any_eq_false.1 h
  refine ⟨List.filter_eq_self.2 fun x hx => by simpa using h1 x hx, ?_⟩
  rw [findI, List.find?_eq_none.2 fun x hx => h1 x hx]; rfl
/-- What has been put in: a pile yet without items, or a Line. -/
noncomputable def lA : List It → AO
  | [] => pO0
  | x :: L => lO (x :: L)
theorem putL_ne (L : List It) (x : It) : putL L x ≠ [] := by
  intro e
  have h1 := putL_len L x
  rw [e] at h1
  cases hs : hasSeq x.b L with
  | true => rw [hs, if_pos rfl] at h1; cases L with
    | nil => cases hs
    | cons y L => cases h1
  | false => rw [hs, if_neg Bool.false_ne_true] at h1; cases h1
theorem lA_ne {L : List It} (h : L ≠ []) : lA L = lO L := by
  cases L with
  | nil => exact absurd rfl h
  | cons x L => rfl
theorem APut_tri (L : List It) (x : It) (hR : RoomL L) : Tri Try.prog default fLPut [.ptr 0 0, itA x] [(0, lA L)] (.v (.bool (!hasSeq x.b L))) [(0, lA (putL L x))] := by
  rw [lA_ne (putL_ne L x)]
  cases L with
  | nil =>
    refine Tri.post (lput0_tri x) (goes_ow (by decide) ?_)
    have := AbsS.empty.push (by show (0 + 1) * 24 ≤ _; omega) x rfl
    have e : hpushS emptyS x = pushS emptyS x := upS_zero _
    rw [e] at this
    exact ow_line this
  | cons y L => exact Aput_tri (y :: L) x hR
theorem ATake_tri (L : List It) (k : Int) : Tri Try.prog default fLTake [.ptr 0 0, iv k] [(0, lA L)] (.tuple [itA (findI k L), .v (.bool (hasSeq k L))]) [(0, match L with | [] => pO0 | L => lO (remK k L))] := by
  cases L with
  | nil => exact ltake0_tri k
  | cons y L => exact Atake_tri (y :: L) k
end Go.Proofs.Ytcpijmlaglcblaa.Rk

/- ref.Take, ref.Same, Items of an empty Line: contracts. -/
set_option linter.unusedVariables false
set_option linter.unusedSimpArgs false
set_option maxRecDepth 100000
namespace Go.Proofs.Ytcpijmlaglcblaa.Rk
open Go Go.RowKit Go.Proofs.Ytcpijmlaglcblaa.Eng
theorem gTake4_ro : ∀ args, RO (gTake4 args) := by
  intro args
  unfold gTake4
  repeat' split
  all_goals first | exact RO.ret _ | exact RO.fail _
theorem gSame2_ro : ∀ args, RO (gSame2 args) := by
  intro args
  unfold gSame2
  repeat' split
  all_goals first | exact RO.ret _ | exact RO.fail _
theorem lRTake_ok (g L : List It) (q : Int) (hb : Room2 L) (F : HP) : L1OK Try.prog F (loopN fRTake 4) (lRTake g L q) := by
  refine mkL_ok (W := default) oldDef gTake4_ro (fun _ _ => rtake_loop g L q hb) fun _ => ?_
  simp only [RT.pick]
  exact closedT rfl rfl (all_cons rfl (all_cons trivial (all_cons rfl (all_cons rfl (all_cons rfl (all_cons trivial (all_cons trivial all_nil))))))) (all_cons (lob_cl _ _ _) (all_cons (cls_rowV _ _) (all_cons (cls_vmap _ _) (all_cons (cls_vmap _ _) all_nil)))) (all_cons rfl (all_cons rfl (all_cons rfl (all_cons trivial all_nil)))) (all_cons (cls_rowV _ _) (all_cons (cls_vmap _ _) (all_cons (cls_vmap _ _) all_nil)))
theorem lastI_out {q : Int} : ∀ {L : List It} (x : It), hasSeq q L = false → L.foldl (fun x y => if y.b == q then y else x) x = x
  | [], x, _ => rfl
  | y :: L, x, h => by
    simp only [hasSeq, List.any_cons, Bool.or_eq_false_iff] at h
    rw [List.foldl_cons, h.1, if_neg (by decide)]
    exact lastI_out x h.2
theorem lastI_find {q : Int} : ∀ {L : List It} (x : It), Uniq L → L.Nodup → hasSeq q L = true → L.foldl (fun x y => if y.b == q then y else x) x = findI q L
  | [], x, _, _, h => by cases h
  | y :: L, x, hu, hn, h => by
    rw [List.foldl_cons]
    cases hy : y.b == q with
    | true =>
      rw [if_pos rfl]
      have hno : hasSeq q L = false := by
        refine List.any_eq_false.2 fun z hz hzq => ?_
        have : z = y := hu z (List.mem_cons_of_mem _ hz) y List.mem_cons_self (by rw [eq_of_beq hzq, eq_of_beq hy])
        subst this
        exact (List.nodup_cons.1 hn).1 hz
      rw [lastI_out y hno, findI, List.find?_cons, hy]; rfl
    | false =>
      rw [if_neg (by decide)]
      have h' : hasSeq q L = true := by simpa [hasSeq, hy] using h
      rw [lastI_find x (fun a ha b hb => hu a (List.mem_cons_of_mem _ ha) b (List.mem_cons_of_mem _ hb)) (List.nodup_cons.1 hn).2 h', findI, findI, List.find?_cons, hy]
theorem rtake_tri (g L : List It) (q : Int) (hb : Room2 L) : Tri Try.prog default fRTake [lsl 0 g L, iv q] [(0, lob g L)] (.tuple [lsl 1000 [] (remK q L), itA (lastI q L), .v (.bool (hasSeq q L))]) [(1000, lob [] (remK q L))] := by
  refine tri_V (con := conL []) (claim := hintL [(fRTake, 9, 1, hv (itA (lastI q L)))]) (lcon := lconL [(fRTake, 4, loopN fRTake 4, lRTake g L q)]) [0, 1100, 1101, 1102, 1103, 1104, 1105] 1000 mixed rfl (fun F _ => conL_ok rfl fun x hx => by cases hx) (fun F _ => lconL_ok rfl fun y hy => by simp only [List.mem_singleton] at hy; subst hy; exact lRTake_ok g L q hb F) fun F _ => ?_
  show VAll _ (wRun [] (hintL [(fRTake, 9, 1, hv (itA (lastI q L)))]) [(fRTake, 4, loopN fRTake 4, lRTake g L q)] default fRTake [lsl 0 g L, iv q] [(0, lob g L)] [0, 1100, 1101, 1102, 1103, 1104, 1105] F)
  rw [oRTakeF_eq]
  refine ⟨⟨?_, (fit_mk (vs' := [.tuple [lsl 1000 [] (remK q L), itA (lastI q L), .v (.bool (hasSeq q L))]]) (H' := [(1000, lob [] (remK q L))]) [(1000, 1103)] rfl rfl (VW.refl _) ⟨⟨_, rfl, by rw [lob_ren]; exact OW.of_eq (by simp only [rens_rowV]; rfl)⟩, trivial⟩).fits rfl⟩⟩
  simp only [Cnd.holds, rens_rowV]
  and_intros
  all_goals first
    | (with_reducible exact trivial)
    | with_reducible rfl
    | (with_reducible exact OW.refl _)
    | (with_reducible exact Wk.refl _)
    | exact OW.of_eq rfl
    | (repeat (first | exact VW.nil | refine VW.cons (Wk.refl _) ?_ | refine VW.cons (Wk.any _) ?_ | refine VW.cons (wk_cap (Nat.le_refl _)) ?_))
    | exact rfl
noncomputable def cRTake (g L : List It) (q : Int) : List AV → Option (AP AV) := mkC gArg0 (fun _ => True) (fun r _ => r) (fun _ => [lsl 0 g L, iv q]) (fun _ => [(0, lob g L)]) (fun _ => .leaf .ret [.tuple [lsl 1000 [] (remK q L), itA (lastI q L), .v (.bool (hasSeq q L))]] [(1000, lob [] (remK q L))])
theorem cRTake_ok (g L : List It) (q : Int) (hb : Room2 L) (F : HP) : C1OK Try.prog F fRTake (cRTake g L q) := by
  refine mkC_ok (W := default) oldDef (fun _ => .tuple [lsl 1000 [] (remK q L), itA (lastI q L), .v (.bool (hasSeq q L))]) gArg0_ro (fun _ => rfl) (fun _ _ => rtake_tri g L q hb) fun _ => ?_
  exact ⟨rfl, rfl, ⟨rfl, trivial, trivial⟩, all_cons (lob_cl _ _ _) all_nil, ⟨⟨rfl, cls_vmap _ _, trivial, trivial⟩, trivial⟩, all_cons (lob_cl _ _ _) all_nil⟩
/-! ref.Same -/
theorem same_loopO (g L : List It) (hb : Room2 L) : LTri Try.prog default (loopN fSame 4) (tms 0 26 (aSameO g L 0)) (oSameO g L) (.exit 0) (tms 0 26 (aSameO g L L.length)) (oSameO g L) := by
  have key := ltri_V (P := Try.prog) (W := default) (b := loopN fSame 4) (σ := stR L) (g := fSame) (con := fun _ => conL []) (claim := fun i => hSameO i.1 (L.getD i.1 It.zero)) (lcon := fun _ => lconL []) 26 (fun i => aSameO g L i.1) (fun i => oSameO g L) (.exit 0) (aSameO g L L.length) (oSameO g L) (fun i => L.length - i.1) [0, 1] [0, 1, 5] 1000 mixed (by intro h; cases h)
    (fun _ => rfl) rfl (fun p F _ => conL_ok rfl fun x hx => by cases hx) (fun p F _ => lconL_ok rfl fun x hx => by cases hx)
  refine key ?_ ⟨0, Nat.zero_le _⟩
  clear key
  rintro ⟨i, hi⟩ F _
  show VAll _ (wLoop [] (hSameO i (L.getD i It.zero)) [] default fSame (loopN fSame 4) (tms 0 26 (aSameO g L i)) (oSameO g L) [0, 1] [0, 1, 5] F)
  rw [oLoopSameO_eq, nat_ltC]
  have fit : ∀ (k : Nat), FitT [0, 1] [0, 1, 5] [lsl 0 [] L, lsl 1 g L, iv (Int.ofNat k)] [some (lob [] L), some (lob g L)] (aSameO g L k) (oSameO g L) [] := fun k => ⟨rfl, rfl, ⟨Wk.refl _, Wk.refl _, Wk.refl _, trivial⟩, ⟨⟨_, rfl, OW.of_eq (lob_ren _ _ _).symm⟩, ⟨_, rfl, OW.of_eq (lob_ren _ _ _).symm⟩, trivial⟩⟩
  refine ⟨⟨fun h1 => ⟨?_, rfl, .inl ⟨rfl, ⟨i + 1, of_decide_eq_true h1⟩, sub_down (of_decide_eq_true h1), [], fit (i + 1)⟩⟩, fun h1 => ⟨trivial, rfl, .inr ⟨rfl, [], ?_⟩⟩⟩⟩
  · have h1 : i < L.length := of_decide_eq_true h1
    have ha := rowO_at g L i h1
    have ha0 := rowO_at [] L i h1
    rw [show ([] : List It).length * 3 = 0 from rfl] at ha0
    have hb' : (L.length + 2) * 24 ≤ 140737488355328 := hb
    have hw := wrap_succ i (by omega)
    clear hb'
    simp only [Cnd.holds, ha, ha0, Nat.ble_eq, Nat.blt_eq, vmap_length, enc_length, Nat.beq_refl]
    generalize L.getD i It.zero = y
    have he := item_eq y y
    have hq : valsQ (enc y) (enc y) = true := by simp [valsQ, valQ, enc]
    and_intros
    all_goals first
      | (with_reducible exact trivial)
      | with_reducible rfl
      | (with_reducible exact h1)
      | (with_reducible exact Wk.refl _)
      | (with_reducible exact wk_int hw)
      | exact he
      | exact wk_litE (by show (!valsQ (enc y) (enc y)) = false; rw [hq]; rfl)
      | exact Wk.refl _
      | exact rfl
  · have h1 : ¬ i < L.length := of_decide_eq_false h1
    have : i = L.length := by omega
    rw [this]; exact fit _
theorem lSameO_ok (g L : List It) (hb : Room2 L) (F : HP) : L1OK Try.prog F (loopN fSame 4) (lSameO g L) := by
  refine mkL_ok (W := default) oldDef gSame2_ro (fun _ _ => same_loopO g L hb) fun _ => ?_
  simp only [RT.pick]
  exact closedT rfl rfl (all_cons rfl (all_cons rfl (all_cons trivial all_nil))) (all_cons (lob_cl _ _ _) (all_cons (lob_cl _ _ _) all_nil)) (all_cons rfl (all_cons rfl (all_cons trivial all_nil))) (all_cons (lob_cl _ _ _) (all_cons (lob_cl _ _ _) all_nil))
theorem sameO_tri (g L : List It) (hb : Room2 L) : Tri Try.prog default fSame [lsl 0 [] L, lsl 1 g L] (oSameO g L) (.v (.bool true)) (oSameO g L) := by
  refine tri_V (con := conL []) (claim := hSameO1 L.length) (lcon := lconL [(fSame, 4, loopN fSame 4, lSameO g L)]) [0, 1] 1000 mixed rfl (fun F _ => conL_ok rfl fun x hx => by cases hx) (fun F _ => lconL_ok rfl fun y hy => by simp only [List.mem_singleton] at hy; subst hy; exact lSameO_ok g L hb F) fun F _ => ?_
  show VAll _ (wRun [] (hSameO1 L.length) [(fSame, 4, loopN fSame 4, lSameO g L)] default fSame [lsl 0 [] L, lsl 1 g L] (oSameO g L) [0, 1] F)
  rw [oSameO_eq]
  refine ⟨⟨?_, (fit_mk (vs' := [.v (.bool true)]) (H' := oSameO g L) [] rfl rfl (VW.refl _) ⟨⟨_, rfl, OW.of_eq (by rw [lob_ren]; simp only [rens_rowV]; rfl)⟩, ⟨_, rfl, OW.of_eq (by rw [lob_ren]; simp only [rens_rowV]; rfl)⟩, trivial⟩).fits rfl⟩⟩
  simp only [Cnd.holds, rens_rowV, bne_self_eq_false]
  and_intros
  all_goals first
    | (with_reducible exact trivial)
    | with_reducible rfl
    | (with_reducible exact OW.refl _)
    | (with_reducible exact wk_lit _)
    | (with_reducible exact Wk.refl _)
    | exact Wk.refl _
    | (repeat (first | exact VW.nil | refine VW.cons (Wk.refl _) ?_ | refine VW.cons (wk_unlit _) ?_ | refine VW.cons (Wk.any _) ?_ | refine VW.cons (wk_cap (Nat.le_refl _)) ?_))
    | exact rfl
theorem sameE_tri (g : List It) : Tri Try.prog default fSame [.mt, lsl 1 g []] [(1, lob g [])] (.v (.bool true)) [(1, lob g [])] := by
  refine tri_V (con := conL []) (claim := hintL [(fSame, 1, 4, hv (.lit false)), (fSame, 4, 3, hv (.lit false))]) (lcon := lconL []) [1] 1000 mixed rfl (fun F _ => conL_ok rfl fun x hx => by cases hx) (fun F _ => lconL_ok rfl fun y hy => by cases hy) fun F _ => ?_
  show VAll _ (wRun [] (hintL [(fSame, 1, 4, hv (.lit false)), (fSame, 4, 3, hv (.lit false))]) [] default fSame [.mt, lsl 1 g []] [(1, lob g [])] [1] F)
  rw [oSameE_eq]
  refine ⟨⟨?_, (fit_mk (vs' := [.v (.bool true)]) (H' := [(1, lob g [])]) [] rfl rfl (VW.refl _) ⟨⟨_, rfl, OW.of_eq (by rw [lob_ren]; rfl)⟩, trivial⟩).fits rfl⟩⟩
  exact ⟨⟨wk_lit _, trivial⟩, ⟨wk_lit _, trivial⟩, trivial⟩
/-! Items of an empty Line. -/
theorem sortE_tri (c : Cp) : Tri Try.prog default fSort [.slice 0 0 0 3 c, sF] [(0, .cells [] tIt)] (.tuple []) [(0, .cells [] tIt)] := by
  intro W0 F N w vargs _ hN r hv
  simp only [VRs, sF] at hv
  obtain ⟨y1, r1, hy1, ⟨y2, r2, hy2, rfl, rfl⟩, hvl⟩ := hv
  obtain rfl : vargs = #[y1, y2] := by cases vargs; simp_all
  simp only [VR] at hy1 hy2
  obtain ⟨l, x, cc, q1, rfl, _⟩ := hy1
  subst hy2
  have hcon := AnyF.slices_SortFunc_none Try.sortIt (some ⟨l.blk, x, none⟩) cc (.func (.func fItems1) #[] #[]) w
  change Calls Try.prog fSort _ _ _ at hcon
  refine hcon.mono ?_
  rintro e w' ⟨rfl, rfl⟩
  exact ⟨.tuple #[], rfl, N, fun i _ => rfl, hN, r, by simp [VRs, VR]⟩
theorem cSortE_ok (F : HP) : C1OK Try.prog F fSort cSortE := by
  intro st W0 N h w args vargs v h' n n' lg lg' c p hp1 he hc r ha hf
  unfold cSortE at hp1
  split at hp1
  · rename_i i cp f
    cases hp1
    have hcl : ClosedC [.slice 0 0 0 3 cp, sF] [(0, .cells [] tIt)] [.tuple []] [(0, .cells [] tIt)] := ⟨rfl, rfl, ⟨rfl, trivial, trivial⟩, all_cons trivial all_nil, ⟨trivial, trivial⟩, all_cons trivial all_nil⟩
    exact useC_ok oldDef (sortE_tri cp) rfl hcl he hc r ha hf
  · cases hp1
    exact (inv_fail he).elim
theorem itemsE_tri (g : List It) (m : List (Int × Int × Nat)) (ck : Nat) : Tri Try.prog default fLItems [.ptr 0 0] [(0, pO ⟨[], g, m, ck⟩)] .mt [(0, pO ⟨[], g, m, ck⟩)] := by
  refine open_pile (tri_V (con := conL [(fSort, cSortE)]) (claim := hintL [(fClone, 3, 2, h0)]) (lcon := lconL []) [0, 1001, 1002, 1100] 1000 mixed rfl (fun F _ => conL_ok rfl fun x hx => by simp only [List.mem_singleton] at hx; subst hx; exact cSortE_ok F) (fun F _ => lconL_ok rfl fun y hy => by cases hy) fun F _ => ?_)
  show VAll _ (oRun [(fSort, cSortE)] (hintL [(fClone, 3, 2, h0)]) [] fLItems [.ptr 0 0] (pL ⟨[], g, m, ck⟩) [0, 1001, 1002, 1100] F)
  rw [oLItemsE_eq]
  refine ⟨⟨fun h => (by cases h), fun _ => ⟨?_, fits_pile ⟨[], g, m, ck⟩ [(1001, 1001), (1002, 1002)] (by kernel_rfl) (by kernel_rfl) (VW.cons wk_mt VW.nil) ⟨trivial, trivial⟩ (objs_pile _ rfl rfl rfl rfl rfl rfl)⟩⟩⟩
  simp only [Cnd.holds]
  and_intros
  all_goals first
    | (with_reducible exact trivial)
    | with_reducible rfl
    | (with_reducible exact OW.refl _)
    | (with_reducible exact VW.refl _)
    | exact rfl
theorem Tri.wk {f : FuncId} {A : List AV} {H H' : LH} {v v' : AV} (h : Tri Try.prog default f A H v H') (hw : Wk v v') : Tri Try.prog default f A H v' H' := by
  intro W0 F N w vargs hF hNB r ha
  refine (h W0 F N w vargs hF hNB r ha).mono ?_
  rintro e w' ⟨y, rfl, N', h1, h2, h3, h4⟩
  exact ⟨y, rfl, N', h1, h2, h3, VRs_cons.2 ⟨hw _ _ (VRs_cons.1 h4).1, VRs_nil⟩⟩
theorem AitemsE_tri : Tri Try.prog default fLItems [.ptr 0 0] [(0, lO [])] .mt [(0, lO [])] := by
  refine open_line ⟨rfl, trivial⟩ (fun s hs => ?_) (fun e => ?_)
  · have hx : s.xs = [] := List.eq_nil_of_length_eq_zero (by rw [hs.len]; rfl)
    obtain ⟨xs, g, m, ck⟩ := s
    simp only at hx
    subst hx
    exact Tri.post (itemsE_tri g m ck) (goes_ow (by decide) (ow_line hs))
  · exact Tri.post (Tri.wk items0_tri wk_mt0) (goes_ow (by decide) ow_line0)
end Go.Proofs.Ytcpijmlaglcblaa.Rk

