/- A Line as the row of its items in their order: contracts. -/
import Derived.Test.YtcpijmlaglcblaaRkAbs
import Derived.Test.YtcpijmlaglcblaaRkLine3
set_option linter.unusedVariables false
set_option linter.unusedSimpArgs false
set_option maxRecDepth 100000
namespace Go.Proofs.Ytcpijmlaglcblaa.Rk
open Go Go.RowKit Go.Proofs.Ytcpijmlaglcblaa.Eng
/-- Into its place. -/
def ins (x : It) : List It → List It
  | [] => [x]
  | y :: l => if ahead x y = true then x :: y :: l else y :: ins x l
theorem ins_perm (x : It) : ∀ l, (ins x l).Perm (x :: l)
  | [] => List.Perm.refl _
  | y :: l => by
    rw [ins]
    split
    · exact List.Perm.refl _
    · exact ((ins_perm x l).cons y).trans (List.Perm.swap x y l)
abbrev Sortd (L : List It) : Prop := L.Pairwise (fun a b => ahead a b = true)
theorem ins_sorted {x : It} : ∀ {L : List It}, Sortd L → (∀ y ∈ L, y.b ≠ x.b) → Sortd (ins x L)
  | [], _, _ => List.pairwise_singleton _ _
  | y :: l, h, hb => by
    rw [ins]
    obtain ⟨h1, h2⟩ := List.pairwise_cons.1 h
    split
    · rename_i ha
      refine List.pairwise_cons.2 ⟨fun z hz => ?_, h⟩
      rcases List.mem_cons.1 hz with rfl | hz
      · exact ha
      · exact ahead_trans ha (h1 z hz)
    · rename_i ha
      refine List.pairwise_cons.2 ⟨fun z hz => ?_, ins_sorted h2 fun z hz => hb z (List.mem_cons_of_mem _ hz)⟩
      rcases List.mem_cons.1 ((ins_perm x l).subset hz) with rfl | hz
      · exact ahead_of_nb (show nb y z by rw [nb]; simpa using ha) (hb y List.mem_cons_self)
      · exact h1 z hz
/-- A pile is a row of items in their order. -/
structure AbsS (s : Ps) (L : List It) : Prop where
  pi : PI s
  map : MapOK s
  heap : HeapTo (at' s) s.xs.length
  perm : L.Perm s.xs
  sorted : Sortd L
theorem AbsS.len {s : Ps} {L : List It} (h : AbsS s L) : s.xs.length = L.length := h.perm.length_eq.symm
theorem mem_at {s : Ps} {x : It} : x ∈ s.xs ↔ ∃ i, i < s.xs.length ∧ at' s i = x := by
  rw [List.mem_iff_getElem]
  constructor
  · rintro ⟨i, hi, h⟩; exact ⟨i, hi, (at_get s i hi).trans h⟩
  · rintro ⟨i, hi, h⟩; exact ⟨i, hi, (at_get s i hi).symm.trans h⟩
theorem AbsS.isIn {s : Ps} {L : List It} (h : AbsS s L) (k : Int) : isIn k s = L.any fun y => y.b == k := by
  rw [Bool.eq_iff_iff, List.any_eq_true]
  unfold Rk.isIn
  rw [Option.isSome_iff_exists]
  constructor
  · rintro ⟨v, hv⟩
    obtain ⟨i, hi, hb, _⟩ := (h.map k v).1 hv
    exact ⟨at' s i, h.perm.mem_iff.2 (mem_at.2 ⟨i, hi, rfl⟩), by simp [hb]⟩
  · rintro ⟨y, hy, hb⟩
    obtain ⟨i, hi, rfl⟩ := mem_at.1 (h.perm.mem_iff.1 hy)
    exact ⟨i, (h.map k i).2 ⟨i, hi, by simpa using hb, rfl⟩⟩
theorem at_push (s : Ps) (x : It) (i : Nat) : at' (pushS s x) i = if i < s.xs.length then at' s i else if i = s.xs.length then x else It.zero := by
  simp only [at', pushS, List.getD]
  by_cases h : i < s.xs.length
  · rw [if_pos h, List.getElem?_append_left h]
  · rw [if_neg h, List.getElem?_append_right (by omega)]
    by_cases h2 : i = s.xs.length
    · rw [if_pos h2, h2, Nat.sub_self]; rfl
    · rw [if_neg h2, List.getElem?_eq_none (by simp; omega)]; rfl
theorem AbsS.push {s : Ps} {L : List It} (h : AbsS s L) (hR : Room s) (x : It) (hx : Rk.isIn x.b s = false) : AbsS (hpushS s x) (ins x L) := by
  have hP := h.pi.push hR x
  have hlen := push_len s x
  have hnew : ∀ i, i < s.xs.length → (at' s i).b ≠ x.b := by
    intro i hi e
    have := (h.map x.b i).2 ⟨i, hi, e, rfl⟩
    unfold Rk.isIn at hx
    rw [this] at hx; cases hx
  have hm : MapOK (pushS s x) := by
    intro k v
    show mlook k (mset s.m s.ck x.b s.xs.length) = some v ↔ _
    rw [mlook_mset, hlen]
    by_cases hk : k = x.b
    · rw [if_pos hk]
      constructor
      · intro e
        refine ⟨s.xs.length, by omega, ?_, (Option.some.inj e).symm⟩
        rw [at_push, if_neg (by omega), if_pos rfl, hk]
      · rintro ⟨i, hi, hb, rfl⟩
        rw [at_push] at hb
        split at hb
        · rename_i hlt; exact absurd (hb.trans hk) (hnew i hlt)
        · rw [show i = s.xs.length by omega]
    · rw [if_neg hk, h.map k v]
      constructor
      · rintro ⟨i, hi, hb, hv⟩
        exact ⟨i, by omega, by rw [at_push, if_pos hi]; exact hb, hv⟩
      · rintro ⟨i, hi, hb, hv⟩
        rw [at_push] at hb
        split at hb
        · rename_i hlt; exact ⟨i, hlt, hb, hv⟩
        · rw [if_pos (by omega)] at hb; exact absurd hb.symm hk
  have hup : HeapUp (at' (pushS s x)) (pushS s x).xs.length s.xs.length := by
    rw [hlen]
    refine ⟨fun c hc hcn hne => ?_, fun c hc hcn e _ => by omega⟩
    rw [at_push, at_push, if_pos (by omega), if_pos (by omega)]
    exact h.heap c hc (by omega)
  obtain ⟨q1, q2⟩ := up_heap s.xs.length (pushS s x) (by omega) hup
  obtain ⟨k1, k2⟩ := upS_keeps (pushS s x) s.xs.length hP
  refine ⟨k1, up_map _ _ (by omega) hm, by show HeapTo (at' (upS _ _)) (upS _ _).xs.length; rw [k2]; exact q1, ?_, ins_sorted h.sorted fun y hy => ?_⟩
  · refine (ins_perm x L).trans ?_
    refine ((h.perm.cons x).trans ?_).trans q2.symm
    show (x :: s.xs).Perm (s.xs ++ [x])
    exact (List.perm_append_comm (l₁ := [x]) (l₂ := s.xs))
  · obtain ⟨i, hi, rfl⟩ := mem_at.1 (h.perm.mem_iff.1 hy)
    exact hnew i hi
theorem AbsS.empty : AbsS emptyS [] := ⟨⟨MI.nil, by show 0 * 24 ≤ _; omega⟩, (fun k v => by
  show mlook k [] = some v ↔ _
  constructor
  · intro h; cases h
  · rintro ⟨i, hi, _⟩; cases hi), (fun c hc hcn => by cases hcn), List.Perm.refl _, List.Pairwise.nil⟩
theorem dropLast_at (s : Ps) (k : Nat) (hk : k < s.xs.length - 1) : at' (popS s) k = at' s k := by
  show s.xs.dropLast.getD k It.zero = s.xs.getD k It.zero
  rw [List.getD, List.getD, List.getElem?_dropLast, if_pos hk]
theorem AbsS.pop {s : Ps} {x : It} {L : List It} (h : AbsS s (x :: L)) : hpopV s = x ∧ AbsS (hpopS s) L := by
  have hn : s.xs.length = L.length + 1 := h.len
  have h0 : 0 < s.xs.length := by omega
  have hlast : s.xs.length - 1 < s.xs.length := by omega
  have hsl := swap_len s 0 (s.xs.length - 1)
  have hf : at' (swapS s 0 (s.xs.length - 1)) = swapF (at' s) 0 (s.xs.length - 1) := funext fun k => at_swap s _ _ k h0 hlast
  have hdown : HeapDown (at' (swapS s 0 (s.xs.length - 1))) (s.xs.length - 1) 0 := by
    rw [hf]
    refine ⟨fun c hc hcn hne => ?_, fun c _ _ _ h0' => by omega⟩
    rw [swapF, if_neg (by omega), if_neg hne, swapF, if_neg (by omega), if_neg (by omega)]
    exact h.heap c hc (by omega)
  obtain ⟨q1, q2, q3⟩ := down_heap (s.xs.length - 1) _ (swapS s 0 (s.xs.length - 1)) 0 (Nat.le_refl _) (by omega) hdown
  obtain ⟨k1, k2⟩ := downS_keeps (s.xs.length - 1) _ (swapS s 0 (s.xs.length - 1)) 0 (Nat.le_refl _) (h.pi.swap 0 (s.xs.length - 1))
  have hDlen : (hpopD s).xs.length = s.xs.length := k2.trans hsl
  have hmap : MapOK (hpopD s) := down_map _ _ _ _ (Nat.le_refl _) (by omega) (h.map.swap h0 hlast)
  have hroot : at' (hpopD s) (s.xs.length - 1) = at' s 0 := by
    show at' (downS _ _ _).1 _ = _
    rw [q3 _ (Nat.le_refl _), hf, swapF, if_pos rfl]
  have hx : at' s 0 = x := by
    have hm : at' s 0 ∈ x :: L := h.perm.mem_iff.2 (mem_at.2 ⟨0, h0, rfl⟩)
    rcases List.mem_cons.1 hm with e | e
    · exact e
    · have h1 := (List.pairwise_cons.1 h.sorted).1 _ e
      obtain ⟨i, hi, hxi⟩ := mem_at.1 (h.perm.mem_iff.1 (List.mem_cons_self (a := x) (l := L)))
      have h2 := heap_root h.heap i hi
      rw [hxi, nb, h1] at h2; cases h2
  have hlastD : at' (hpopD s) ((hpopD s).xs.length - 1) = x := by rw [hDlen, hroot, hx]
  refine ⟨hlastD, ?_⟩
  have hpl : (hpopS s).xs.length = s.xs.length - 1 := by
    show (hpopD s).xs.dropLast.length = _
    rw [List.length_dropLast, hDlen]
  have hat : ∀ k, k < s.xs.length - 1 → at' (hpopS s) k = at' (hpopD s) k := fun k hk => dropLast_at _ _ (by rw [hDlen]; exact hk)
  refine ⟨⟨k1.m.mdel _, by have := k1.big; rw [hpl]; have e : (downS (swapS s 0 (s.xs.length - 1)) 0 (s.xs.length - 1)).1.xs.length = s.xs.length := hDlen; omega⟩, ?_, ?_, ?_, (List.pairwise_cons.1 h.sorted).2⟩
  · intro k v
    show mlook k (mdel (hpopD s).m (at' (hpopD s) ((hpopD s).xs.length - 1)).b) = some v ↔ _
    have hDm : MI (hpopD s).m (hpopD s).ck := k1.m
    rw [mlook_mdel hDm, hpl, hDlen]
    by_cases hk : k = (at' (hpopD s) (s.xs.length - 1)).b
    · rw [if_pos hk]
      constructor
      · intro e; cases e
      · rintro ⟨i, hi, hb, _⟩
        rw [hat i hi] at hb
        have := hmap.inj (i := i) (j := s.xs.length - 1) (by rw [hDlen]; omega) (by rw [hDlen]; omega) (hb.trans hk)
        omega
    · rw [if_neg hk, hmap k v, hDlen]
      constructor
      · rintro ⟨i, hi, hb, hv⟩
        have hne : i ≠ s.xs.length - 1 := fun e => hk (by rw [← hb, e])
        exact ⟨i, by omega, by rw [hat i (by omega)]; exact hb, hv⟩
      · rintro ⟨i, hi, hb, hv⟩
        exact ⟨i, by omega, by rw [← hat i hi]; exact hb, hv⟩
  · rw [hpl]
    intro c hc hcn
    rw [hat c hcn, hat _ (by omega)]
    exact q1 c hc hcn
  · have hp : (x :: L).Perm (hpopD s).xs := h.perm.trans ((q2.trans (swap_perm s 0 (s.xs.length - 1) h0 hlast)).symm)
    have hne : (hpopD s).xs ≠ [] := fun e => by rw [e] at hDlen; simp only [List.length_nil] at hDlen; omega
    have hl : (hpopD s).xs.getLast hne = x := by
      rw [List.getLast_eq_getElem, ← hlastD, at_get _ _ (by rw [hDlen]; exact hlast)]
    have hsplit : (hpopD s).xs = (hpopD s).xs.dropLast ++ [x] := by rw [← hl]; exact (List.dropLast_concat_getLast hne).symm
    rw [hsplit] at hp
    have := hp.trans (List.perm_append_comm (l₁ := (hpopD s).xs.dropLast) (l₂ := [x]))
    exact (List.perm_cons x).1 this
/-! A Line whole. -/
def Abs : Option Ps → List It → Prop
  | none, L => L = []
  | some s, L => AbsS s L
noncomputable section
def pLO : Option Ps → LH
  | none => pL0
  | some s => pL s
def lH (L : List It) : Nat → Nat → HP := exHP (fun o : Option Ps => Abs o L) pLO
def lO (L : List It) : AO := .own (.line L) (lH L)
end
theorem ow_line {s : Ps} {L : List It} (h : AbsS s L) : OW (pO s) (lO L) := fun N i D w ⟨l, h1, h2, _, _, h3⟩ => ⟨l, h1, h2, some s, h, h3⟩
theorem ow_line0 : OW pO0 (lO []) := fun N i D w ⟨l, h1, h2, _, _, h3⟩ => ⟨l, h1, h2, none, rfl, h3⟩
theorem goes_ow {vs : List AV} {i : Nat} {o o' : AO} (hi : i < 1100) (h : OW o o') : Goes vs [(i, o)] vs [(i, o')] := by
  intro W0 F N ys w ⟨N', g1, g2, r, hv⟩
  have hlim : i < T.limit := by have : T.limit = 1048576 := rfl; omega
  have hf : ∀ (a : AO) j b, (heapOf [(i, a)]).find j = some b → j = i ∧ b = a := by
    intro a j b hj
    rw [find_heapOf (by simp only [namesLt, List.all_cons, List.all_nil, Bool.and_true, Nat.blt_eq]; exact hlim), getO] at hj
    split at hj
    · rename_i e; cases hj; exact ⟨e, rfl⟩
    · cases hj
  have hf2 : (heapOf [(i, o)]).find i = some o := by
    rw [find_heapOf (by simp only [namesLt, List.all_cons, List.all_nil, Bool.and_true, Nat.blt_eq]; exact hlim), getO, if_pos rfl]
  refine ⟨N', g1, fun j hj hg => g2 j hj ?_, ?_, hv⟩
  · rw [getO] at hg ⊢
    split at hg
    · cases hg
    · rename_i e; rw [if_neg e]; rfl
  · obtain ⟨D0, D, h1, h2, h3⟩ := r.sat
    refine ⟨r.os, r.tape, r.output, D0, D, h1, fun j b hj => ?_, fun j k b b' hj hk hjk => ?_⟩
    · obtain ⟨rfl, rfl⟩ := hf _ j b hj
      exact ⟨h _ _ _ _ (h2 j o hf2).1, (h2 j o hf2).2⟩
    · exact (hjk ((hf _ j b hj).1.trans (hf _ k b' hk).1.symm)).elim
theorem open_line {f : FuncId} {A : List AV} {L : List It} {v : AV} {H' : LH} (hA : AV.cls (fun i => Nat.blt i 1000) A) (h1 : ∀ s, AbsS s L → Tri Try.prog default f A [(0, pO s)] v H') (h0 : L = [] → Tri Try.prog default f A [(0, pO0)] v H') : Tri Try.prog default f A [(0, lO L)] v H' := by
  refine Tri.open (σ := Option Ps) (R := fun o => Abs o L) (L := pLO) (H0 := []) (fun o => by cases o <;> rfl) (fun o x hx => ?_) (fun o => by cases o <;> exact ⟨_, rfl⟩) (fun o ho => ?_)
  · cases o with
    | none =>
      have hx : x ∈ pL0 := hx
      simp only [pL0, List.mem_cons, List.not_mem_nil, or_false] at hx
      rcases hx with rfl | rfl
      · exact ⟨trivial, rfl, trivial⟩
      · exact trivial
    | some s =>
      have hx : x ∈ pL s := hx
      simp only [pL, List.mem_cons, List.not_mem_nil, or_false] at hx
      rcases hx with rfl | rfl | rfl
      · exact ⟨rfl, rfl, trivial⟩
      · exact cls_rowV _ _
      · exact clE_mE _ _
  · rw [List.append_nil]
    cases o with
    | none => exact Tri.pre (shut_pile0 hA) (h0 ho)
    | some s => exact Tri.pre (shut_pile s hA) (h1 s ho)
def hasSeq (k : Int) (L : List It) : Bool := L.any fun y => y.b == k
def putL (L : List It) (x : It) : List It := match hasSeq x.b L with
  | true => L
  | false => ins x L
def RoomL (L : List It) : Prop := (L.length + 1) * 24 ≤ 140737488355328
theorem Aput_tri (L : List It) (x : It) (hR : RoomL L) : Tri Try.prog default fLPut [.ptr 0 0, itA x] [(0, lO L)] (.v (.bool (!hasSeq x.b L))) [(0, lO (putL L x))] := by
  refine open_line ⟨rfl, ⟨trivial, trivial, trivial, trivial⟩, trivial⟩ (fun s hs => ?_) (fun e => ?_)
  · have hR' : Room s := by unfold Room; rw [hs.len]; exact hR
    have e1 := hs.isIn x.b
    have ht := lput_tri s x hs.pi hR'
    rw [e1] at ht
    refine Tri.post ht (goes_ow (by decide) ?_)
    cases hb : hasSeq x.b L with
    | true =>
      have : isIn x.b s = true := e1.trans hb
      rw [putL, hb, putS, this]
      exact ow_line hs
    | false =>
      have : isIn x.b s = false := e1.trans hb
      rw [putL, hb, putS, this]
      exact ow_line (hs.push hR' x this)
  · subst e
    refine Tri.post (lput0_tri x) (goes_ow (by decide) ?_)
    have := AbsS.empty.push (by show (0 + 1) * 24 ≤ _; omega) x rfl
    have e : hpushS emptyS x = pushS emptyS x := upS_zero _
    rw [e] at this
    exact ow_line this
theorem Apop_tri (L : List It) : Tri Try.prog default fLPop [.ptr 0 0] [(0, lO L)] (.tuple [itA (L.headD It.zero), .v (.bool (!L.isEmpty))]) [(0, lO L.tail)] := by
  refine open_line ⟨rfl, trivial⟩ (fun s hs => ?_) (fun e => ?_)
  · have ht := lpop_tri s hs.pi
    cases L with
    | nil =>
      have h0 : s.xs.length = 0 := hs.len
      have e1 : lpopV s = It.zero := if_pos h0
      have e2 : lpopS s = s := if_pos h0
      have e3 : (!decide (s.xs.length = 0)) = false := by rw [decide_eq_true h0]; rfl
      rw [e1, e2, e3] at ht
      exact Tri.post ht (goes_ow (by decide) (ow_line hs))
    | cons x L =>
      have h0 : s.xs.length ≠ 0 := by rw [hs.len]; simp
      have e1 : lpopV s = hpopV s := if_neg h0
      have e2 : lpopS s = hpopS s := if_neg h0
      have e3 : (!decide (s.xs.length = 0)) = true := by rw [decide_eq_false h0]; rfl
      rw [e1, e2, e3, hs.pop.1] at ht
      exact Tri.post ht (goes_ow (by decide) (ow_line hs.pop.2))
  · subst e
    exact Tri.post lpop0_tri (goes_ow (by decide) ow_line0)
theorem Alen_tri (L : List It) : Tri Try.prog default fLLen [.ptr 0 0] [(0, lO L)] (iv (Int.ofNat L.length)) [(0, lO L)] := by
  refine open_line ⟨rfl, trivial⟩ (fun s hs => ?_) (fun e => ?_)
  · have ht := llen_tri s
    rw [hs.len] at ht
    exact Tri.post ht (goes_ow (by decide) (ow_line hs))
  · subst e
    exact Tri.post llen0_tri (goes_ow (by decide) ow_line0)
theorem Anew_tri : Tri Try.prog default fNew [] [] (.ptr 1000 0) [(1000, lO [])] := Tri.post new_tri (goes_ow (by decide) ow_line0)
end Go.Proofs.Ytcpijmlaglcblaa.Rk
