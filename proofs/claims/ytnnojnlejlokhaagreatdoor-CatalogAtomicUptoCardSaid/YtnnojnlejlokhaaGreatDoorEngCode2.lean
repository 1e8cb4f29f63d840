/- Regions: a run in the text's order serves every order. No program. -/
import Derived.Test.YtnnojnlejlokhaaGreatDoorEngCode
set_option linter.unusedVariables false
set_option linter.unusedSimpArgs false
namespace Go.Proofs.YtnnojnlejlokhaaGreatDoor.Eng
open Go Go.RowKit
variable {h h' : T} {n n' fuel : Nat} {lg lg' : Log} {c : Cnd} {f : FuncId} {args : List AV} {vargs : Array Value} {v : AV} {draw : Bool}
theorem LM' : ∀ (l : List Oper) (acc : List Nat), ME' l acc = Text.masks l acc
 | [], _ => rfl
 | o :: l, acc => LM' l _
section
variable {P : Program} {E : Env} {rc : Rc} {hn : Nat -> Option Hint} {st : Bool} {ops : Array Oper} {R : Nat -> Rcd} {W0 w : World} {N : A9'} {F : HP}
theorem ON' {marks : List Mk} (h : EN' ops marks = true) {j : Nat} {o : Oper} (ho : ops[j]? = some o) {e : Edge} (he : e ∈ o.after) (hb : Region.binds .any e = true) : e.on < j := by
 simp only [EN', Bool.and_eq_true] at h; have hj : j < ops.size := (Array.getElem?_eq_some_iff.1 ho).1; have h1 := List.all_eq_true.1 h.1 j (List.mem_range.2 hj); simp only [ho, Option.map_some, Option.getD_some, Array.all_eq_true_iff_forall_mem] at h1; have h2 := h1 e he; simpa [hb] using h2
theorem OM' {marks : List Mk} (h : EN' ops marks = true) (hm : ∀ k, k < ops.size -> marks.getD k ⟨[], 0, 0⟩ = (R k).mk') {i j : Nat} (hi : i < ops.size) (hj : j < i) : ((ME' ops.toList []).getD i 0).testBit j = true \/ hS' ops R j i := by
 simp only [EN', Bool.and_eq_true] at h; have h1 := List.all_eq_true.1 h.2 i (List.mem_range.2 hi); have h2 := List.all_eq_true.1 h1 j (List.mem_range.2 hj); rw [Bool.or_eq_true] at h2
 refine h2.imp id fun h3 => ?_
 unfold free1 at h3; split at h3
 ·rename_i oj oi hoj hoi; simp only [Bool.and_eq_true, Bool.not_eq_true'] at h3; rw [hm j ω, hm i hi] at h3
  exact ⟨oj, oi, hoj, hoi, h3.1.1, h3.1.2, fun _ _ => h3.2⟩
 ·cases h3
theorem QC' (hE : EnvOk P E) (hC : HJ' P E rc) {N0 : A9'} {z : S} {Q : Exit -> Act -> World -> Prop} (hap : hU' R ops.size) {marks : List Mk} (hok : EN' ops marks = true) (hm : ∀ k, k < ops.size -> marks.getD k ⟨[], 0, 0⟩ = (R k).mk')
  (hcs : ∀ i, i < ops.size -> (R i).want = true -> (R i).c) : ∀ (fuel : Nat) (listed : Array Bool) {s : S} {a : Act} {w : World} {N : A9'},
  listed.size = ops.size -> (Text.left ops.size listed).length = fuel -> (∀ j o, ops[j]? = some o -> listed.getD j false = true -> ∀ e ∈ o.after, Region.binds .any e = true -> listed.getD e.on false = true) ->
  GZ' P E rc hn st ops R (Text.left ops.size listed) s z -> Rep W0 N E.F s.2 w -> VRs N s.1 a.tmps.toList ->
  (∀ i ∈ Text.left ops.size listed, (R i).want = true -> BW' N (R i).lo (R i).hi) -> (∀ k, ¬ hT' R ops.size k -> N k = N0 k) -> UpOK E W0 a Q -> Ends W0 E.F N0 R ops.size z a (Q .normal) -> wpAny P .any ops Q fuel listed a w := by
 intro fuel
 induction fuel with
 | zero =>
  intro listed s a w N hsz hlen hcl hch r ht hf hN hU hend; have h0 : Text.left ops.size listed = [] := List.eq_nil_of_length_eq_zero hlen; rw [h0] at hch; cases hch; refine ⟨?_, hend N a w r ht rfl hN⟩
  cases hr : Region.ready .any ops listed with
  | nil => rfl
  | cons i rr =>
   exfalso
   have hi : i ∈ Region.ready .any ops listed := by rw [hr]; simp
   obtain ⟨hun, o, ho, _⟩ := mem_ready.1 hi
   have : i ∈ Text.left ops.size listed := by
    rw [Text.left, List.mem_filter]
    exact ⟨List.mem_range.2 (Array.getElem?_eq_some_iff.1 ho).1, by simp [hun]⟩
   rw [h0] at this; cases this
 | succ fuel ih =>
  intro listed s a w N hsz hlen hcl hch r ht hf hN hU hend
  have hgood : Text.Good ops (fun k => listed.getD k false = true) (Text.masks ops.toList []) :=
   Text.masks_good (listed := fun k => listed.getD k false = true) (fun j o ho hj e he hb => hcl j o ho hj e he hb) ops.toList [] (fun k => by simp) (fun j i hj => by simp at hj)
  have key : ∀ i ∈ Region.ready .any ops listed, wpOp P ops Q i (wpAny P .any ops Q fuel (listed.setIfInBounds i true)) a w := by
   intro i hi; obtain ⟨hun, o, ho, hall⟩ := mem_ready.1 hi; have hil : i < ops.size := (Array.getElem?_eq_some_iff.1 ho).1; obtain ⟨l1, l2, e1, e2, hb⟩ := Text.left_set hsz hun
   have hmem : ∀ j, j ∈ l1 ++ l2 -> j ∈ Text.left ops.size listed := fun j hj => by rw [e1]; simp only [List.mem_append, List.mem_cons] at hj ⊢; exact hj.imp id .inr
   have hne : ∀ j, j ∈ l1 ++ l2 -> j ≠ i := fun j hj e => by
    subst e; rw [<- e2, Text.left, List.mem_filter] at hj; have h1 := hj.2
    have : (listed.setIfInBounds j true).getD j true = true := by simp [show j < listed.size by omega]
    rw [this] at h1; cases h1
   have hlt : ∀ j, j ∈ Text.left ops.size listed -> j < ops.size := fun j hj => by rw [Text.left, List.mem_filter] at hj; exact List.mem_range.1 hj.1
   have him : i ∈ Text.left ops.size listed := by rw [e1]; simp
   rw [e1] at hch
   obtain ⟨s', h1, h2⟩ := L0' l1 l2 (fun j hj => by
    obtain ⟨hji, hjun⟩ := hb j hj
    rcases OM' hok hm hil hji with hm' | hm'
    ·exfalso; rw [LM'] at hm'
     have hlm : ∀ (l : List Oper) (acc : List Nat), (Text.masks l acc).length = acc.length + l.length := by
      intro l
      induction l with
      | nil => intro acc; rfl
      | cons o l ih => intro acc; rw [Text.masks, ih]; simp; omega
     have := hgood i j (by rw [hlm]; simpa using hil) ⟨o, ho, hall⟩ hm'
     rcases Nat.lt_or_ge j listed.size with h' | h'
     ·simp [h'] at this hjun; rw [this] at hjun; cases hjun
     ·omega
    ·exact hm') hch
   refine S3' hE hC h1 r ht (hf i him) (hcs i hil) hU fun N' a' w' r' ht' hd' hx => ?_
   refine ih (listed.setIfInBounds i true) (by simp [hsz]) ?_ ?_ (by rw [e2]; exact h2) r' ht' ?_ (fun k hk => ?_) (hU.of hd') (fun N2 a2 w2 r2 t2 d2 x2 => hend N2 a2 w2 r2 t2 (d2.trans hd') x2)
   ·rw [e2]; rw [e1] at hlen; simp only [List.length_append, List.length_cons] at hlen ⊢; omega
   ·intro j oj hj hlj e he hbd
    by_cases hij : i = j
    ·subst hij; have : oj = o := Option.some.inj (hj.symm.trans ho); subst this; exact getD_set_true (hall e he hbd)
    ·rw [getD_set_ne false hij] at hlj; exact getD_set_true (hcl j oj hj hlj e he hbd)
   ·intro j hj hwj k h3 h4; rw [e2] at hj; rw [hx k (fun hh => hap i j hil (hlt j (hmem j hj)) (Ne.symm (hne j hj)) hh.1 hwj k ⟨hh.2, h3, h4⟩)]; exact hf j (hmem j hj) hwj k h3 h4
   ·rw [hx k (fun hh => hk ⟨i, hil, hh⟩)]; exact hN k hk
  refine ⟨fun hr => ?_, key⟩
  exfalso
  cases hL : Text.left ops.size listed with
  | nil => rw [hL] at hlen; simp at hlen
  | cons i rr =>
   have him : i ∈ Text.left ops.size listed := by rw [hL]; simp
   rw [Text.left, List.mem_filter, List.mem_range] at him
   have hun : listed.getD i true = false := by simpa using him.2
   obtain ⟨l1, l2, e1, _, hb⟩ := Text.left_set hsz hun
   have hl1 : l1 = [] := by
    cases l1 with
    | nil => rfl
    | cons x xs =>
     rw [hL, List.cons_append] at e1; have hx : i = x := (List.cons.inj e1).1; have := (hb x (by simp)).1; omega
   have hready : i ∈ Region.ready .any ops listed := by
    refine mem_ready.2 ⟨hun, ops[i]'(by simpa using him.1), Array.getElem?_eq_getElem _, fun e he hbd => ?_⟩
    have hlt := ON' hok (Array.getElem?_eq_getElem (by simpa using him.1)) he hbd
    cases hx : listed.getD e.on true with
    | false =>
     exfalso; obtain ⟨m1, m2, f1, _, _⟩ := Text.left_set hsz hx
     have hmem : e.on ∈ Text.left ops.size listed := by rw [f1]; simp
     rw [e1, hl1] at hmem; simp only [List.nil_append, List.mem_cons] at hmem; have hsorted : (Text.left ops.size listed).Pairwise (· < ·) := List.Pairwise.filter _ List.pairwise_lt_range; rw [e1, hl1, List.nil_append, List.pairwise_cons] at hsorted
     rcases hmem with h' | h'
     ·omega
     ·have := hsorted.1 _ h'; omega
    | true =>
     rcases Nat.lt_or_ge e.on listed.size with h' | h'
     ·simp [h'] at hx ⊢; exact hx
     ·omega
   rw [hr] at hready; cases hready
theorem OW' (hE : EnvOk P E) (hm2 : P.follows .mixedOrders = true) (hC : HJ' P E rc) {id : Nat} {s z : S} {a : Act} {Q : Exit -> Act -> World -> Prop} (hap : hU' R ops.size) {marks : List Mk} (hok : draw = true -> EN' ops marks = true) (hm : ∀ k, k < ops.size -> marks.getD k ⟨[], 0, 0⟩ = (R k).mk')
  (hcs : ∀ i, i < ops.size -> (R i).want = true -> (R i).c) (hch : GZ' P E rc hn st ops R (List.range ops.size) s z) (r : Rep W0 N E.F s.2 w) (ht : VRs N s.1 a.tmps.toList) (hf : ∀ i, i < ops.size -> (R i).want = true -> BW' N (R i).lo (R i).hi)
  (hU : UpOK E W0 a Q) (hend : Ends W0 E.F N R ops.size z a (Q .normal)) : (Code.region id ops draw).wp P Q a w := by
 cases draw with
 | false => exact wp_region (KR' hE hC hap _ (fun i hi => List.mem_range.1 hi) List.nodup_range hch r ht (fun i hi => hf i (List.mem_range.1 hi)) (fun i hi => hcs i (List.mem_range.1 hi)) (fun _ _ => rfl) hU hend)
 | true =>
  refine wp_region_any hm2 ?_
  have hleft : Text.left ops.size (Array.replicate ops.size false) = List.range ops.size := by
   unfold Text.left
   refine List.filter_eq_self.2 fun i hi => ?_
   have := List.mem_range.1 hi; simp [this]
  refine QC' hE hC hap (hok rfl) hm hcs _ _ (by simp) (by rw [hleft]; simp) (fun j o _ hj => ?_) (by rw [hleft]; exact hch) (r.like rfl rfl rfl rfl) ht (fun i hi => hf i (by rw [hleft] at hi; exact List.mem_range.1 hi)) (fun _ _ => rfl) hU hend; exfalso
  rcases Nat.lt_or_ge j ops.size with h' | h'
  ·simp [h'] at hj
  ·simp [h'] at hj
end
section
variable {P : Program} {E : Env} {rc : Rc} {hn : Nat -> Option Hint} {st sb : Bool} {ops : Array Oper}
def Sorted : List Rcd -> Nat -> Nat -> Prop
 | [], n, n' => n = n'
 | r :: l, n, n' => (r.want = true -> r.lo = n /\ n <= r.hi /\ Sorted l r.hi n') /\ (r.want = false -> r.mk' = ⟨[], 0, 0⟩ /\ Sorted l n n')
theorem Sorted.le : ∀ {l : List Rcd} {n n' : Nat}, Sorted l n n' -> n <= n' /\ ∀ r ∈ l, r.want = true -> n <= r.lo /\ r.lo <= r.hi /\ r.hi <= n'
 | [], n, n', h => by cases h; exact ⟨Nat.le_refl _, fun r hr => by cases hr⟩
 | r :: l, n, n', h => by
  cases hw : r.want with
  | true =>
   obtain ⟨h1, h2, h3⟩ := h.1 hw; obtain ⟨h4, h5⟩ := h3.le
   refine ⟨ω, fun r' hr' hw' => ?_⟩
   rcases List.mem_cons.1 hr' with rfl | hr'
   ·omega
   ·have := h5 r' hr' hw'; omega
  | false =>
   obtain ⟨_, h3⟩ := h.2 hw; obtain ⟨h4, h5⟩ := h3.le
   refine ⟨h4, fun r' hr' hw' => ?_⟩
   rcases List.mem_cons.1 hr' with rfl | hr'
   ·rw [hw] at hw'; cases hw'
   ·exact h5 r' hr' hw'
theorem Sorted.apart : ∀ {l : List Rcd} {n n' : Nat}, Sorted l n n' -> ∀ (i j : Nat) (r r' : Rcd), i < j -> l[i]? = some r -> l[j]? = some r' -> r.want = true -> r'.want = true -> r.hi <= r'.lo
 | [], _, _, _, i, j, r, r', _, h, _, _, _ => by simp at h
 | q :: l, n, n', h, i, j, r, r', hij, hi, hj, hw, hw' => by
  obtain ⟨j', rfl⟩ : ∃ j', j = j' + 1 := ⟨j - 1, by omega⟩
  rw [List.getElem?_cons_succ] at hj
  cases i with
  | zero =>
   rw [List.getElem?_cons_zero] at hi; cases hi; obtain ⟨_, _, h3⟩ := h.1 hw; exact (h3.le.2 r' (List.mem_of_getElem? hj) hw').1
  | succ i' =>
   rw [List.getElem?_cons_succ] at hi
   cases hq : q.want with
   | true => exact Sorted.apart (h.1 hq).2.2 i' j' r r' ω hi hj hw hw'
   | false => exact Sorted.apart (h.2 hq).2 i' j' r r' ω hi hj hw hw'
def L4' : Rcd := ⟨false, AV.undef, AV.undef, 0, 0, [], .t⟩
theorem XT' {α : Type} (b : Bool) (v : AV) {k : AV -> AP α} {r : α} (he : (g4' b v k).run st h n lg = .ok r h' n' lg' c) :
  ∃ u, Wk v u /\ (k u).run st h n lg = .ok r h' n' lg' c := by
 unfold g4' at he; split at he
 ·split at he
  ·rename_i b'
   cases b' with
   | true => exact ⟨.lit true, fun N y hy => EF'.2 (VR_v.1 hy), he⟩
   | false => exact ⟨.lit false, fun N y hy => EF'.2 (VR_v.1 hy), he⟩
  ·exact ⟨v, Wk.refl v, he⟩
 ·exact ⟨v, Wk.refl v, he⟩
theorem G0' : ∀ (l : List Oper) (i : Nat) (tmps : List AV) (mk : List Mk) {h h' : T} {n n' : Nat} {lg lg' : Log} {c : Cnd} {tmps' : List AV} {mk' : List Mk}, (HR' sb (DQ' P E rc hn) ops l i tmps mk).run st h n lg = .ok (tmps', mk') h' n' lg' c -> c.holds ->
  ∃ rs : List Rcd, rs.length = l.length /\ mk' = mk.reverse ++ rs.map Rcd.mk' /\ (∀ r ∈ rs, r.want = true -> r.c) /\ Sorted rs n n' /\
   ∀ (R : Nat -> Rcd) (k : Nat), k = i -> (∀ t, t < l.length -> R (k + t) = rs.getD t L4') -> (∀ t, t < l.length -> ops[k + t]? = l[t]?) -> GZ' P E rc hn st ops R (List.range' k l.length) (tmps, h) (tmps', h')
 | [], i, tmps, mk, h, h', n, n', lg, lg', c, tmps', mk', he, hc => by
  obtain ⟨h1, rfl, rfl⟩ := A7' he; cases h1
  exact ⟨[], rfl, by simp, (fun r hr => by cases hr), rfl, fun R k _ _ _ => rfl⟩
 | o :: l, i, tmps, mk, h, h', n, n', lg, lg', c, tmps', mk', he, hc => by
  rw [HR'] at he
  cases hbl : L7' ops tmps o with
  | true => rw [hbl] at he; cases he
  | false =>
  rw [hbl] at he
  cases hw : Region.wanted o (C9' ops tmps) with
  | false =>
   rw [hw] at he; simp only [PR'] at he; obtain ⟨rs, h1, h2, h3, h4, h5⟩ := G0' l _ _ _ he hc
   refine ⟨L4' :: rs, by simp [h1], by rw [h2]; simp [L4', Rcd.mk'], fun r hr hwr => ?_, ⟨(fun hh => by cases hh), fun _ => ⟨rfl, h4⟩⟩, fun R k hki hR ho => ?_⟩
   ·rcases List.mem_cons.1 hr with rfl | hr
    ·cases hwr
    ·exact h3 r hr hwr
   ·have hR0 : R k = L4' := by simpa using hR 0 (by simp)
    have ho0 : ops[k]? = some o := by simpa using ho 0 (by simp)
    rw [List.length_cons, List.range'_succ]
    refine ⟨(putA tmps o.dst AV.undef, h), ⟨o, ho0, hbl, by rw [hw, hR0]; rfl, .inr ⟨by rw [hR0]; rfl, rfl, fun _ => rfl⟩⟩, h5 R (k + 1) (by rw [hki]) (fun t ht => ?_) (fun t ht => ?_)⟩
    ·have := hR (t + 1) (by simp; omega)
     rw [show k + (t + 1) = k + 1 + t from ω] at this
     simpa using this
    ·have := ho (t + 1) (by simp; omega)
     rw [show k + (t + 1) = k + 1 + t from ω] at this
     simpa using this
  | true =>
   rw [hw] at he; obtain ⟨v, g1, n1, l1, c1, c2, e1, e2, rfl⟩ := E2' he; have hcc := (Cnd.and_iff _ _).1 hc
   have e2' : ∃ u, Wk v u /\ ∃ c3 : Cnd, (HR' sb (DQ' P E rc hn) ops l (i + 1) (putA tmps o.dst u) (⟨l1, n, n1⟩ :: mk)).run st g1 n1 (l1.filter (own n n1) ++ lg) = .ok (tmps', mk') h' n' lg' c3 /\ c3.holds := by
    cases sb with
    | true => exact ⟨v, Wk.refl v, c2, by simpa only [PR', avK_eq] using e2, hcc.2⟩
    | false =>
     simp only [PR'] at e2; obtain ⟨u, hu, e3⟩ := XT' (ZB' i l) v e2; exact ⟨u, hu, c2, e3, hcc.2⟩
   obtain ⟨u, hu, c3, e2', hc3⟩ := e2'; have hle := E4' _ e1; obtain ⟨rs, h1, h2, h3, h4, h5⟩ := G0' l _ _ _ e2' hc3
   refine ⟨⟨true, v, u, n, n1, l1, c1⟩ :: rs, by simp [h1], by rw [h2]; simp [Rcd.mk'], fun r hr hwr => ?_, ⟨fun _ => ⟨rfl, hle, h4⟩, fun hh => by cases hh⟩, fun R k hki hR ho => ?_⟩
   ·rcases List.mem_cons.1 hr with rfl | hr
    ·exact hcc.1
    ·exact h3 r hr hwr
   ·have hR0 : R k = ⟨true, v, u, n, n1, l1, c1⟩ := by simpa using hR 0 (by simp)
    have ho0 : ops[k]? = some o := by simpa using ho 0 (by simp)
    rw [List.length_cons, List.range'_succ]
    refine ⟨(putA tmps o.dst u, g1), ⟨o, ho0, hbl, by rw [hw, hR0], .inl ⟨by rw [hR0], by rw [hR0], by rw [hR0]; exact hu, g1, by rw [hR0, hki]; exact e1, fun _ => rfl⟩⟩, h5 R (k + 1) (by rw [hki]) (fun t ht => ?_) (fun t ht => ?_)⟩
    ·have := hR (t + 1) (by simp; omega)
     rw [show k + (t + 1) = k + 1 + t from ω] at this
     simpa using this
    ·have := ho (t + 1) (by simp; omega)
     rw [show k + (t + 1) = k + 1 + t from ω] at this
     simpa using this
variable {W0 w : World} {N : A9'} {F : HP}
theorem G3' (hE : EnvOk P E) (hm : P.follows .mixedOrders = true) (hC : HJ' P E rc) {id : Nat} {tmps tmps' : List AV} {mk' : List Mk} {a : Act} {Q : Exit -> Act -> World -> Prop}
  (he : (HR' sb (DQ' P E rc hn) ops ops.toList 0 tmps []).run st h n lg = .ok (tmps', mk') h' n' lg' c) (hc : c) (hok : draw = true -> EN' ops mk' = true) (r : Rep W0 N E.F h w) (ht : VRs N tmps a.tmps.toList) (hf : BW' N n n') (hU : UpOK E W0 a Q)
  (hK : ∀ N' a' w', Rep W0 N' E.F h' w' -> VRs N' tmps' a'.tmps.toList -> a'.defers = a.defers -> Ext N N' n n' -> Q .normal a' w') : (Code.region id ops draw).wp P Q a w := by
 obtain ⟨rs, h1, h2, h3, h4, h5⟩ := G0' _ _ _ _ he hc
 have hlen : rs.length = ops.size := by rw [h1]; simp
 have hget : ∀ i, i < ops.size -> ∃ r, rs[i]? = some r /\ rs.getD i L4' = r := fun i hi => ⟨rs[i], List.getElem?_eq_getElem ω, by simp [List.getD, List.getElem?_eq_getElem (show i < rs.length by omega)]⟩
 have hch := h5 (fun i => rs.getD i L4') 0 rfl (fun t _ => by rw [Nat.zero_add]) (fun t _ => by simp); rw [<- List.range_eq_range', Array.length_toList] at hch
 have hin : ∀ i, i < ops.size -> (rs.getD i L4').want = true -> n <= (rs.getD i L4').lo /\ (rs.getD i L4').hi <= n' := fun i hi hw => by
  obtain ⟨r0, e1, e2⟩ := hget i hi; rw [e2] at hw ⊢; obtain ⟨k1, k2, k3⟩ := h4.le.2 r0 (List.mem_of_getElem? e1) hw; exact ⟨k1, k3⟩
 refine OW' hE hm hC (R := fun i => rs.getD i L4') ?_ hok (fun k hk => ?_) (fun i hi hw => ?_) hch r ht (fun i hi hw k k1 k2 => hf k (by have := (hin i hi hw).1; omega) (by have := (hin i hi hw).2; omega)) hU ?_
 ·intro i j hi hj hij hwi hwj k hk; obtain ⟨ri, e1, e2⟩ := hget i hi; obtain ⟨rj, e3, e4⟩ := hget j hj; simp only [e2] at hwi hk; simp only [e4] at hwj hk
  rcases Nat.lt_or_gt_of_ne hij with h' | h'
  ·have := h4.apart i j ri rj h' e1 e3 hwi hwj; omega
  ·have := h4.apart j i rj ri h' e3 e1 hwj hwi; omega
 ·obtain ⟨rk, e1, e2⟩ := hget k hk; rw [h2]; simp only [List.reverse_nil, List.nil_append, e2]; simp [List.getD, List.getElem?_map, e1]
 ·obtain ⟨ri, e1, e2⟩ := hget i hi; simp only [e2] at hw ⊢; exact h3 ri (List.mem_of_getElem? e1) hw
 ·intro N' a' w' r' t' d' x'
  refine hK N' a' w' r' t' d' fun k hk => x' k fun ⟨i, hi, hw, k1, k2⟩ => hk ?_
  have := hin i hi hw; simp only at k1 k2; omega
def EU' : AX -> Exit
 | .normal => .normal
 | .exit id => .exit id
 | .ret => .ret
def RcOK (P : Program) (E : Env) (rc : Rc) : Prop :=
 ∀ (st : Bool) (W0 : World) (N : A9') (h : T) (w : World) (g : FuncId) (cd : Code) (tmps tmps' : List AV) (ax : AX) (a : Act) (h' : T) (n n' : Nat) (lg lg' : Log) (c : Cnd) (Q : Exit -> Act -> World -> Prop),
  (rc g cd tmps).run st h n lg = .ok (ax, tmps') h' n' lg' c -> c -> Rep W0 N E.F h w -> VRs N tmps a.tmps.toList -> BW' N n n' -> UpOK E W0 a Q ->
  (∀ N' a' w', Rep W0 N' E.F h' w' -> VRs N' tmps' a'.tmps.toList -> a'.defers = a.defers -> Ext N N' n n' -> Q (EU' ax) a' w') -> cd.wp P Q a w
def DU' (P : Program) (E : Env) : Prop :=
 ∀ (st : Bool) (W0 : World) (N : A9') (h : T) (w : World) (g : FuncId) (b : Code) (tmps tmps' : List AV) (ax : AX) (a : Act) (h' : T) (n n' : Nat) (lg lg' : Log) (c : Cnd) (Q : Exit -> Act -> World -> Prop) (p : List AV -> AP (AX × List AV)),
  (CC' b).bind (E.lcon g) = some (b, p) -> (p tmps).run st h n lg = .ok (ax, tmps') h' n' lg' c -> c -> Rep W0 N E.F h w -> VRs N tmps a.tmps.toList -> BW' N n n' ->
  (∀ N' a' w', Rep W0 N' E.F h' w' -> VRs N' tmps' a'.tmps.toList -> a'.defers = a.defers -> Ext N N' n n' -> Q (EU' ax) a' w') -> (Code.loop b).wp P Q a w
def ND' (P : Program) (E : Env) : Prop :=
 ∀ (st : Bool) (W0 : World) (N : A9') (h : T) (w : World) (g : FuncId) (b : Code) (tmps tmps' : List AV) (ax : AX) (a : Act) (h' : T) (n n' : Nat) (lg lg' : Log) (c : Cnd) (Q : Exit -> Act -> World -> Prop) (p : List AV -> AP (AX × List AV)),
  (CC' b).bind (E.lcon g) = some (b, p) -> (p tmps).run st h n lg = .ok (ax, tmps') h' n' lg' c -> c -> Rep W0 N E.F h w -> VRs N tmps a.tmps.toList -> BW' N n n' -> UpOK E W0 a Q ->
  (∀ N' a' w', Rep W0 N' E.F h' w' -> VRs N' tmps' a'.tmps.toList -> a'.defers = a.defers -> Ext N N' n n' -> Q (EU' ax) a' w') -> (Code.loop b).wp P Q a w
theorem DU'.up {P : Program} {E : Env} (h : DU' P E) : ND' P E :=
 fun st W0 N hh w g b tmps tmps' ax a h' n n' lg lg' c Q p h1 h2 h3 h4 h5 h6 _ => h st W0 N hh w g b tmps tmps' ax a h' n n' lg lg' c Q p h1 h2 h3 h4 h5 h6
def PG' (P : Program) (E : Env) (rc : Rc) (m : Nat) : Prop :=
 ∀ (st : Bool) (W0 : World) (N : A9') (h : T) (w : World) (g : FuncId) (b : Code) (tmps tmps' : List AV) (ax : AX) (a : Act) (h' : T) (n n' : Nat) (lg lg' : Log) (c : Cnd) (Q : Exit -> Act -> World -> Prop),
  (CC' b).bind (E.lcon g) = none -> (rc g (.loop b) tmps).run st h n lg = .ok (ax, tmps') h' n' lg' c -> c -> Rep W0 N E.F h w -> VRs N tmps a.tmps.toList -> BW' N n n' -> UpOK E W0 a Q ->
  (∀ N' a' w', Rep W0 N' E.F h' w' -> VRs N' tmps' a'.tmps.toList -> a'.defers = a.defers -> Ext N N' n n' -> Q (EU' ax) a' w') -> Code.rounds P b Q m a w
theorem PW' (hR : RcOK P E rc) {m : Nat} (hL : PG' P E rc m) : PG' P E (OU' P E rc) (m + 1) := by
 intro st W0 N h w fg b tmps tmps' ax a h' n n' lg lg' c Q hnone he hc r ht hf hU hK; simp only [OU', hnone] at he; obtain ⟨⟨ax1, t1⟩, g1, n1, lg1, c1, c2, e1, e2, e3⟩ := run_bind (rc fg b tmps) _ he; have hle1 := E4' _ e1; have hle2 := E4' _ e2
 refine hR st W0 N h w fg b tmps t1 ax1 a g1 n n1 lg lg1 c1 _ e1 (e3 hc).1 r ht (hf.left hle2) hU fun N1 a1 w1 r1 t1' d1 x1 => ?_
 cases ax1 with
 | normal =>
  refine hL st W0 N1 g1 w1 fg b t1 tmps' ax a1 h' n1 n' lg1 lg' c2 Q hnone e2 (e3 hc).2 r1 t1' (hf.right x1 hle1) (hU.of d1) fun N2 a2 w2 r2 t2 d2 x2 => ?_
  exact hK N2 a2 w2 r2 t2 (d2.trans d1) (x1.trans x2 hle1 hle2)
 | exit id =>
  obtain ⟨h1, rfl, rfl⟩ := A7' e2; cases h1; exact hK N1 a1 w1 r1 t1' d1 x1
 | ret =>
  obtain ⟨h1, rfl, rfl⟩ := A7' e2; cases h1; exact hK N1 a1 w1 r1 t1' d1 x1
theorem QB' (hE : EnvOk P E) (hm : P.follows .mixedOrders = true) (hC : HJ' P E rc) (hR : RcOK P E rc) (hLc : ND' P E) {m : Nat} (hL : PG' P E (OU' P E rc) m) : RcOK P E (OU' P E rc) := by
 intro st W0 N h w fg cd tmps tmps' ax a h' n n' lg lg' c Q he hc r ht hf hU hK
 cases cd with
 | skip =>
  obtain ⟨h1, rfl, rfl⟩ := A7' he; cases h1; exact wp_skip (hK N a w r ht rfl (Ext.refl _ _ _))
 | label l =>
  obtain ⟨h1, rfl, rfl⟩ := A7' he; cases h1; exact wp_label (hK N a w r ht rfl (Ext.refl _ _ _))
 | region id ops draw =>
  obtain ⟨⟨t1, mk⟩, g1, n1, lg1, c1, c2, e1, e2, e3⟩ := run_bind (HR' E.strict (DQ' P E rc (E.claim fg id)) ops ops.toList 0 tmps []) _ he
  have hgo : ∀ {e4 : Unit}, (RL' E t1).run st g1 n1 lg1 = .ok (ax, tmps') h' n' lg' c2 -> (draw = true -> EN' ops mk = true) -> (Code.region id ops draw).wp P Q a w := by
   intro _ h4 hok; unfold RL' at h4; split at h4
   ·obtain ⟨h1, h2, h3⟩ := A7' h4; cases h1; subst h2 h3; exact G3' hE hm hC e1 (e3 hc).1 hok r ht hf hU hK
   ·obtain ⟨o, ho, h5⟩ := BM' h4; split at h5
    ·rename_i m hh; obtain ⟨c5, h6, rfl⟩ := AG' h5; have hno : ∀ a b D w, ¬ (hh a b).on D w := ((Cnd.and_iff _ _).1 (e3 hc).2).1; obtain ⟨h1, h2, h3⟩ := A7' h6; cases h1; subst h2 h3
     refine G3' hE hm hC e1 (e3 hc).1 hok r ht hf hU fun N' a' w' r' _ _ _ => ?_
     obtain ⟨D0, D, q1, q2, q3⟩ := r'.sat; obtain ⟨l, _, _, q4⟩ := (q2 _ _ ho).1; exact (hno _ _ _ _ q4).elim
    ·obtain ⟨h1, h2, h3⟩ := A7' h5; cases h1; subst h2 h3; exact G3' hE hm hC e1 (e3 hc).1 hok r ht hf hU hK
  cases draw with
  | false => exact hgo (e4 := ()) e2 (fun hh => by cases hh)
  | true =>
   obtain ⟨g, e4⟩ := A8' e2; exact hgo (e4 := ()) e4 (fun _ => g)
 | seq x y =>
  obtain ⟨⟨ax1, t1⟩, g1, n1, lg1, c1, c2, e1, e2, e3⟩ := run_bind (rc fg x tmps) _ he; have hle1 := E4' _ e1; have hle2 := E4' _ e2; refine wp_seq (hR st W0 N h w fg x tmps t1 ax1 a g1 n n1 lg lg1 c1 _ e1 (e3 hc).1 r ht (hf.left hle2) hU fun N1 a1 w1 r1 t1' d1 x1 => ?_)
  cases ax1 with
  | normal =>
   refine hR st W0 N1 g1 w1 fg y t1 tmps' ax a1 h' n1 n' lg1 lg' c2 Q e2 (e3 hc).2 r1 t1' (hf.right x1 hle1) (hU.of d1) fun N2 a2 w2 r2 t2 d2 x2 => ?_
   exact hK N2 a2 w2 r2 t2 (d2.trans d1) (x1.trans x2 hle1 hle2)
  | exit id =>
   obtain ⟨h1, rfl, rfl⟩ := A7' e2; cases h1; exact hK N1 a1 w1 r1 t1' d1 x1
  | ret =>
   obtain ⟨h1, rfl, rfl⟩ := A7' e2; cases h1; exact hK N1 a1 w1 r1 t1' d1 x1
 | cond o x y =>
  have hv := UX' ht o; simp only [OU'] at he
  have fin : ∀ (b : Bool) (t2 : List AV), a.eval o = .bool b -> VRs N t2 a.tmps.toList -> (rc fg (match b with | true => x | false => y) t2).run st h n lg = .ok (ax, tmps') h' n' lg' c -> (Code.cond o x y).wp P Q a w := by
   intro b t2 hb ht2 he2
   cases b with
   | true => exact wp_cond_true hb (hR st W0 N h w fg x t2 tmps' ax a h' n n' lg lg' c Q he2 hc r ht2 hf hU hK)
   | false => exact wp_cond_false hb (hR st W0 N h w fg y t2 tmps' ax a h' n n' lg lg' c Q he2 hc r ht2 hf hU hK)
  have hset : ∀ b, a.eval o = .bool b -> VRs N (TU' o b tmps) a.tmps.toList := by
   intro b hb
   cases o with
   | tmp t =>
    have h2 := ht.set t (x := .lit b) (y := .bool b) (EF'.2 rfl)
    have h3 : a.tmps.toList.set t (.bool b) = a.tmps.toList := by
     have hb' : a.tmps.toList.getD t Go.undef = .bool b := by
      have : a.tmps.getD t Go.undef = .bool b := hb; simpa [List.getD] using this
     by_cases hlt : t < a.tmps.toList.length
     ·have hb2 : a.tmps.toList[t] = .bool b := by
       rw [List.getD, List.getElem?_eq_getElem hlt] at hb'; exact hb'
      rw [<- hb2]; exact List.set_getElem_self hlt
     ·exact List.set_eq_of_length_le (Nat.le_of_not_lt hlt)
    rw [h3] at h2; exact h2
   | _ => exact ht
  split at he
  ·rename_i b hb; rw [hb, EF'] at hv
   cases b with
   | true => exact fin true tmps hv ht he
   | false => exact fin false tmps hv ht he
  ·rename_i b hb; rw [hb, VR_v] at hv
   cases hst : E.strict with
   | true =>
    rw [hst] at he
    cases b with
    | true => exact fin true tmps hv ht he
    | false => exact fin false tmps hv ht he
   | false =>
    rw [hst] at he
    cases b with
    | true => exact fin true _ hv (hset true hv) he
    | false => exact fin false _ hv (hset false hv) he
  ·cases he
 | block id b =>
  obtain ⟨⟨ax1, t1⟩, g1, n1, lg1, c1, c2, e1, e2, e3⟩ := run_bind (rc fg b tmps) _ he; have hle2 := E4' _ e2; refine wp_block (hR st W0 N h w fg b tmps t1 ax1 a g1 n n1 lg lg1 c1 _ e1 (e3 hc).1 r ht (hf.left hle2) hU fun N1 a1 w1 r1 t1' d1 x1 => ?_)
  cases ax1 with
  | normal =>
   obtain ⟨h1, rfl, rfl⟩ := A7' e2; cases h1; exact hK N1 a1 w1 r1 t1' d1 x1
  | exit j =>
   cases hj : Nat.beq j id with
   | true =>
    simp only [hj] at e2; obtain ⟨h1, rfl, rfl⟩ := A7' e2; cases h1; have hji := Nat.eq_of_beq_eq_true hj; simp only [EU', Exit.inBlock, hji, if_true]; exact hK N1 a1 w1 r1 t1' d1 x1
   | false =>
    simp only [hj] at e2; obtain ⟨h1, rfl, rfl⟩ := A7' e2; cases h1; have hji := Nat.ne_of_beq_eq_false hj; simp only [EU', Exit.inBlock, hji, if_false]; exact hK N1 a1 w1 r1 t1' d1 x1
  | ret =>
   obtain ⟨h1, rfl, rfl⟩ := A7' e2; cases h1; exact hK N1 a1 w1 r1 t1' d1 x1
 | loop b =>
  cases hl : (CC' b).bind (E.lcon fg) with
  | none => exact wp_loop_rounds m (hL st W0 N h w fg b tmps tmps' ax a h' n n' lg lg' c Q hl he hc r ht hf hU hK)
  | some p =>
   obtain ⟨b0, p⟩ := p; simp only [OU', hl] at he; obtain ⟨c5, e5, rfl⟩ := AG' he; obtain ⟨hb, hc5⟩ := (Cnd.and_iff _ _).1 hc; have hb' : b = b0 := hb; subst hb'; exact hLc st W0 N h w fg b tmps tmps' ax a h' n n' lg lg' _ Q p hl e5 hc5 r ht hf hU hK
 | exit id =>
  obtain ⟨h1, rfl, rfl⟩ := A7' he; cases h1; exact wp_exit (hK N a w r ht rfl (Ext.refl _ _ _))
 | ret =>
  obtain ⟨h1, rfl, rfl⟩ := A7' he; cases h1; exact wp_ret (hK N a w r ht rfl (Ext.refl _ _ _))
 | _ => cases he
theorem EK' {h : T} (hE : EnvOk P E) (r : Rep W0 N E.F h w) {tmps : List AV} {a : Act} (ht : VRs N tmps a.tmps.toList) : ∀ (l : List ResultVar) {h' : T} {n n' : Nat} {lg lg' : Log} {c : Cnd} {vs : List AV}, (EL' E tmps l).run st h n lg = .ok vs h' n' lg' c -> c.holds ->
  h' = h /\ n' = n /\ ∃ ys, VRs N vs ys /\ (l.mapM fun x => (match x with | .tmp t => pure (a.tmps.getD t Go.undef) | .cell p t => do loadVar t (<- asAddr (a.tmps.getD p Go.undef)) : Sem Value)).run P w = .ok ys w
 | [], h', n, n', lg, lg', c, vs, he, hc => by
  obtain ⟨rfl, rfl, rfl⟩ := A7' he; exact ⟨rfl, rfl, [], AX', rfl⟩
 | .tmp t :: l, h', n, n', lg, lg', c, vs, he, hc => by
  obtain ⟨vs1, g1, n1, lg1, c1, c2, e1, e2, k1⟩ := run_bind (EL' E tmps l) _ he; obtain ⟨rfl, rfl, rfl⟩ := A7' e2; obtain ⟨rfl, rfl, ys, hv, hr⟩ := EK' hE r ht l e1 (k1 hc).1; have h0 := ht.getD t; refine ⟨rfl, rfl, a.tmps.getD t Go.undef :: ys, AD'.2 ⟨by simpa [List.getD] using h0, hv⟩, ?_⟩; rw [List.mapM_cons]; simp only [Sem.run_bind, Sem.run_pure, Result.andThen_ok, hr]
 | .cell p t :: l, h', n, n', lg, lg', c, vs, he, hc => by
  obtain ⟨x, g1, n1, lg1, c1, c2, e1, e2, k1⟩ := run_bind (MY' E t (tmps.getD p AV.undef)) _ he; have h0 := ht.getD p; obtain ⟨y, hl, hvy, rfl, rfl⟩ := HF' hE r h0 e1 (k1 hc).1; obtain ⟨vs1, g2, n2, lg2, c3, c4, e3, e4, k2⟩ := run_bind (EL' E tmps l) _ e2; obtain ⟨rfl, rfl, rfl⟩ := A7' e4; obtain ⟨rfl, rfl, ys, hv, hr⟩ := EK' hE r ht l e3 (k2 (k1 hc).2).1; refine ⟨rfl, rfl, y :: ys, AD'.2 ⟨hvy, hv⟩, ?_⟩
  -- an address
  have hp : ∃ ad, a.tmps.getD p Go.undef = .pointer (some ad) := by
   replace e1 := VK' e1
   obtain ⟨_, _, _, _, _, e1⟩ := e1; unfold LW' at e1; split at e1
   ·rename_i i off hx; rw [hx] at h0; simp only [VR] at h0; obtain ⟨l0, _, h0⟩ := h0
    exact ⟨_, by simpa [List.getD] using h0⟩
   ·rename_i ad hx; rw [hx, VR_v] at h0
    exact ⟨ad, by simpa [List.getD] using h0⟩
   ·cases e1
  obtain ⟨ad, hp⟩ := hp
  have hl' : (loadVar t ad).run P w = .ok y w := by
   have h1 : a.tmps.toList.getD p Go.undef = .pointer (some ad) := by rw [<- hp]; simp [List.getD]
   rw [h1] at hl; simpa [Instr.loadAt, Instr.sureAddr] using hl
  have hasA : (asAddr (a.tmps.getD p Go.undef)).run P w = .ok ad w := by rw [hp]; rfl
  rw [List.mapM_cons]; simp only [Sem.run_bind, Sem.run_pure, Result.andThen_ok, hasA, hl', hr]
theorem HS' (hE : EnvOk P E) (hR : RcOK P E rc) (he : (K3' E rc f args).run st h n lg = .ok v h' n' lg' c) (hc : c) (r : Rep W0 N E.F h w) (ha : VRs N args vargs.toList) (hf : BW' N n n') :
  Calls P f vargs w (IC' (E.pan W0) W0 E.F N v h' n n') := by
 unfold K3' at he; obtain ⟨fn, hfn, he1⟩ := BK' he; obtain ⟨cd, hcd, he2⟩ := BK' he1; clear he he1; obtain ⟨⟨ax, t1⟩, g1, n1, lg1, c1, c2, e1, e2, e3⟩ := run_bind (rc f cd _) _ he2; have hle1 := E4' _ e1; have hle2 := E4' _ e2
 have hlen : args.length = vargs.size := by rw [ha.len]; simp
 refine calls_of_wp (hE.fn _ _ hfn) hcd ?_
 have ht0 : VRs N (args ++ List.replicate (fn.ntmps - args.length) AV.undef) (vargs ++ Array.replicate (fn.ntmps - vargs.size) Go.undef).toList := by
  rw [Array.toList_append, Array.toList_replicate, hlen]; refine ha.append ?_
  generalize fn.ntmps - vargs.size = k
  induction k with
  | zero => exact AX'
  | succ k ih => exact AD'.2 ⟨HL', ih⟩
 refine hR st W0 N h w f cd _ t1 ax _ g1 n n1 lg lg1 c1 _ e1 (e3 hc).1 r ht0 (hf.left hle2) (fun ch a' w' hd hu => ?_) fun N1 a1 w1 r1 t1' d1 x1 => ?_
 ·exact ⟨hd, .inr ⟨ch, rfl, hu⟩⟩
 have hN1 := x1.le (hf.left hle2)
 -- the results
 have fin : ∀ {e2' : AP AV} , ((EL' E t1 fn.results.toList >>= fun rs => match rs with | [x] => (pure x.plain : AP AV) | _ => pure (.tuple (rs.map AV.plain))).run st g1 n1 lg1 = .ok v h' n' lg' c2) -> h' = g1 /\ n' = n1 /\ ∃ y, (results fn a1.tmps).run P w1 = .ok y w1 /\ VR N1 v y := by
  intro _ hh; obtain ⟨vs, g2, n2, lg2, c3, c4, e4, e5, k1⟩ := run_bind _ _ hh; obtain ⟨rfl, rfl, ys, hv, hr⟩ := EK' hE r1 t1' _ e4 (k1 (e3 hc).2).1
  have hres : ∀ y, (if hz : ys.toArray.size = 1 then ys.toArray[0] else .tuple ys.toArray) = y -> (results fn a1.tmps).run P w1 = .ok y w1 := by
   intro y hy; unfold results; rw [Array.mapM_eq_mapM_toList]; simp only [Sem.run_bind, Sem.run_map]
   erw [hr]
   simp only [Result.andThen_ok, Sem.run_pure]; rw [<- hy]
  have hl := hv.len; clear e4
  match vs, ys, hv, hl, e5, hres with
  | [x], [y], hv, _, e5, hres =>
   obtain ⟨rfl, rfl, rfl⟩ := A7' e5; exact ⟨rfl, rfl, y, hres y (by simp), (AD'.1 hv).1.plain⟩
  | [], [], hv, _, e5, hres =>
   obtain ⟨rfl, rfl, rfl⟩ := A7' e5
   exact ⟨rfl, rfl, .tuple #[], hres _ (by simp), by simp only [VR, List.map_nil]; exact ⟨[], AX', rfl⟩⟩
  | x1 :: x2 :: xs, y1 :: y2 :: ys', hv, _, e5, hres =>
   obtain ⟨rfl, rfl, rfl⟩ := A7' e5
   exact ⟨rfl, rfl, .tuple (y1 :: y2 :: ys').toArray, hres _ (by simp), by simp only [VR]; exact ⟨_, hv.plain, rfl⟩⟩
 cases ax with
 | normal =>
  obtain ⟨rfl, rfl, y, hr, hv⟩ := fin (e2' := pure AV.undef) e2; exact ⟨d1, y, hr, .inl ⟨y, N1, rfl, r1, hv, x1⟩⟩
 | ret =>
  obtain ⟨rfl, rfl, y, hr, hv⟩ := fin (e2' := pure AV.undef) e2; exact ⟨d1, y, hr, .inl ⟨y, N1, rfl, r1, hv, x1⟩⟩
 | exit id => cases e2
end
def IB' (P : Program) (E : Env) : Prop :=
 ∀ (st : Bool) (W0 : World) (N : A9') (h : T) (w : World) (f : FuncId) (args : List AV) (vargs : Array Value) (v : AV) (h' : T) (n n' : Nat) (lg lg' : Log) (c : Cnd) (p : AP AV),
  E.con f args = some p -> p.run st h n lg = .ok v h' n' lg' c -> c -> Rep W0 N E.F h w -> VRs N args vargs.toList -> BW' N n n' -> Calls P f vargs w (DV' W0 E.F N v h' n n')
def SB' (P : Program) (E : Env) : Prop :=
 ∀ (st : Bool) (W0 : World) (N : A9') (h : T) (w : World) (f : FuncId) (args : List AV) (vargs : Array Value) (v : AV) (h' : T) (n n' : Nat) (lg lg' : Log) (c : Cnd) (p : AP AV),
  E.con f args = some p -> p.run st h n lg = .ok v h' n' lg' c -> c -> Rep W0 N E.F h w -> VRs N args vargs.toList -> BW' N n n' -> Calls P f vargs w (IC' (E.pan W0) W0 E.F N v h' n n')
theorem IB'.up {P : Program} {E : Env} (h : IB' P E) : SB' P E :=
 fun st W0 N hh w f args vargs v h' n n' lg lg' c p h1 h2 h3 h4 h5 h6 => (h st W0 N hh w f args vargs v h' n n' lg lg' c p h1 h2 h3 h4 h5 h6).mono fun _ _ h => .inl h
theorem SW' {P : Program} {E : Env} {rc : Rc} (hE : EnvOk P E) (hcon : SB' P E) (hR : RcOK P E rc) : HJ' P E rc := by
 intro st W0 N h w f args vargs v h' n n' lg lg' c he hc r ha hf; split at he
 ·rename_i p hp; exact hcon st W0 N h w f _ vargs v h' n n' lg lg' c p hp he hc r ha.plain hf
 ·exact HS' hE hR he hc r ha.plain hf
theorem DY' {P : Program} {E : Env} (hE : EnvOk P E) (hm : P.follows .mixedOrders = true) (hcon : SB' P E) (hl : ND' P E) : ∀ k, RcOK P E (CT' P E k) /\ PG' P E (CT' P E k) k
 | 0 => ⟨(fun st W0 N h w g cd tmps tmps' ax a h' n n' lg lg' c Q he => by cases he), fun st W0 N h w g b tmps tmps' ax a h' n n' lg lg' c Q _ he => by cases he⟩
 | k + 1 => by
  obtain ⟨h1, h2⟩ := DY' hE hm hcon hl k; have h3 : PG' P E (OU' P E (CT' P E k)) (k + 1) := PW' h1 h2; exact ⟨QB' hE hm (SW' hE hcon h1) h1 hl h3, h3⟩
theorem L3' {P : Program} {E : Env} (hE : EnvOk P E) (hm : P.follows .mixedOrders = true) (hcon : SB' P E) (hl : ND' P E) {st : Bool} {W0 : World} {N : A9'} {w : World}
  (he : (D3' P E fuel f args).run st h n lg = .ok v h' n' lg' c) (hc : c) (r : Rep W0 N E.F h w) (ha : VRs N args vargs.toList) (hf : BW' N n n') : Calls P f vargs w (IC' (E.pan W0) W0 E.F N v h' n n') :=
 HS' hE (DY' hE hm hcon hl fuel).1 he hc r ha hf
def fF' : World -> List PanicEntry -> World -> Prop := fun _ _ _ => False
def RcOK0 (P : Program) (E : Env) (rc : Rc) : Prop :=
 ∀ (st : Bool) (W0 : World) (N : A9') (h : T) (w : World) (g : FuncId) (cd : Code) (tmps tmps' : List AV) (ax : AX) (a : Act) (h' : T) (n n' : Nat) (lg lg' : Log) (c : Cnd) (Q : Exit -> Act -> World -> Prop),
  (rc g cd tmps).run st h n lg = .ok (ax, tmps') h' n' lg' c -> c -> Rep W0 N E.F h w -> VRs N tmps a.tmps.toList -> BW' N n n' ->
  (∀ N' a' w', Rep W0 N' E.F h' w' -> VRs N' tmps' a'.tmps.toList -> a'.defers = a.defers -> Ext N N' n n' -> Q (EU' ax) a' w') -> cd.wp P Q a w
theorem TK' {E : Env} (hp : E.pan = fF') (W0 : World) (a : Act) (Q : Exit -> Act -> World -> Prop) : UpOK E W0 a Q := fun ch a' w' _ hu => by rw [hp] at hu; exact hu.elim
theorem DA' {P : Program} {E : Env} (hE : EnvOk P E) (hm : P.follows .mixedOrders = true) (hcon : IB' P E) (hl : DU' P E) (k : Nat) (hp : E.pan = fF' := by rfl) : RcOK0 P E (CT' P E k) /\ True :=
 ⟨fun st W0 N h w g cd tmps tmps' ax a h' n n' lg lg' c Q he hc r ht hf hK => (DY' hE hm hcon.up hl.up k).1 st W0 N h w g cd tmps tmps' ax a h' n n' lg lg' c Q he hc r ht hf (TK' hp _ _ _) hK, trivial⟩
theorem DB' {P : Program} {E : Env} (hE : EnvOk P E) (hm : P.follows .mixedOrders = true) (hcon : IB' P E) (hl : DU' P E) {st : Bool} {W0 : World} {N : A9'} {w : World}
  (he : (D3' P E fuel f args).run st h n lg = .ok v h' n' lg' c) (hc : c) (r : Rep W0 N E.F h w) (ha : VRs N args vargs.toList) (hf : BW' N n n') (hp : E.pan = fF' := by rfl) : Calls P f vargs w (DV' W0 E.F N v h' n n') :=
 (L3' hE hm hcon.up hl.up he hc r ha hf).mono fun e w' h => by
  rcases h with h | ⟨ch, _, hu⟩
  ·exact h
  ·rw [hp] at hu; exact hu.elim
theorem I2' (i : Nat) : T.nil.find i = none := by
 unfold T.find; split
 ·exact (T.getF_eq _ _ _).trans (T.get_nil _ _)
 ·rfl
theorem M8' (w : World) : Rep w (fun _ => none) (HP.old w) .nil w :=
 ⟨rfl, rfl, rfl, fun b => b < w.heap.size, fun _ _ => False, ⟨fun _ => Iff.rfl, fun _ _ => rfl⟩, (fun i o hi => by rw [I2'] at hi; cases hi), (fun i j o o' hi => by rw [I2'] at hi; cases hi)⟩
theorem Rep.old_below {w w' : World} {N : A9'} (r : Rep w N (HP.old w) h w') : Below w.heap.size w w' := by
 obtain ⟨D0, D, h1, _, _⟩ := r.sat
 refine Sat.old_below (t := []) (W := w) ⟨r.os, r.tape, r.output, D0, D0, fun _ => False, fun b => by simp, fun _ _ h => h, h1, fun _ h => h⟩
def V9' : Out AV -> Option Value
 | .ok v _ _ _ .t => v.val?
 | _ => none
end Go.Proofs.YtnnojnlejlokhaaGreatDoor.Eng
