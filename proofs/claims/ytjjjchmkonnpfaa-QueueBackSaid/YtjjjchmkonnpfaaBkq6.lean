/- Parts of the proof, merged. -/
import Derived.Test.YtjjjchmkonnpfaaBkq5
import Derived.Test.YtjjjchmkonnpfaaEngShut
import Derived.Test.YtjjjchmkonnpfaaEngSorted
import Derived.Test.YtjjjchmkonnpfaaEngKit
noncomputable section
set_option linter.unusedVariables false
set_option linter.unusedSimpArgs false
set_option maxRecDepth 100000
set_option linter.unusedSectionVars false
namespace Go.Proofs.Ytjjjchmkonnpfaa.Qb
open Go Go.RowKit Eng Kit Tree
structure Lf where
 sa : Option Addr
 n : Nat
 c : Nat
 j : Nat
 Q : AO
structure Lm where
 I : List Int
 R : List Kc
 i : Nat
def a5 (y : AV) (n i : Nat) : List (Nat × AV) := [(104, y), (105, iv (Int.ofNat n)), (106, iv (Int.ofNat i))]
def a7 (b : Bool) (n i : Nat) : List (Nat × AV) := [(20, bv b), (123, slI 4 n), (124, iv (Int.ofNat n)), (125, iv (Int.ofNat i))]
def h7 (i : Nat) (s : Int) (b b1 : Bool) : AO' := AN' [ht' fLaw 42 0, (fLaw, 43, 1, hv (iv s)), (fLaw, 44, 0, hv (.lit b)), (fLaw, 44, 5, hv (.lit b1)), (fLaw, 45, 0, hv (iv (Int.ofNat (i + 1))))]
def Self (Q : AO) : Prop := (∀ σ, AO.ren σ Q = Q) /\ ∀ K, Q.cl K
open Rk (BZ' putL GZ' remK)
structure QI (A : Qs) (ins : List Int) (np : Nat) : Prop where
 mi : MI A.m A.ck
 oi : MI A.o A.ok
 key : ∀ k c, AG' k A.m = some c -> c.sq = k
 o1 : ∀ k v, AG' k A.o = some v -> v = 1
 lnd : (A.L.map (·.b)).Nodup
 ldj : ∀ x ∈ A.L, AG' x.b A.o = none
 mem : ∀ k, k ∈ ins ↔ k ∈ A.L.map (·.b) \/ AG' k A.o ≠ none
 nd : ins.Nodup
 look : ∀ k ∈ ins, ∃ c, AG' k A.m = some c
 rng : ∀ k ∈ ins, 1 <= k /\ k <= A.la
 la0 : 0 <= A.la
 la1 : A.la <= (np : Int)
 len : ins.length <= np
theorem KG' {α : Type} {m : IMap α} {k : Int} : AG' k m ≠ none ↔ k ∈ m.map (·.1) := by
 rw [ne_eq, JA', Decidable.not_not]
theorem EA' {k s : Int} {l : List Int} : s ∈ notK k l ↔ s ∈ l /\ s ≠ k := by simp [notK]
theorem QI.mono {A : Qs} {ins : List Int} {np np' : Nat} (h : QI A ins np) (hn : np <= np') : QI A ins np' :=
 { h with la1 := Int.le_trans h.la1 ω, len := Nat.le_trans h.len hn }
theorem QI.inL {A : Qs} {ins : List Int} {np : Nat} (h : QI A ins np) {x : It} (hx : x ∈ A.L) : x.b ∈ ins := (h.mem _).2 (.inl (List.mem_map_of_mem hx))
theorem QI.inO {A : Qs} {ins : List Int} {np : Nat} (h : QI A ins np) {k : Int} (hk : k ∈ A.o.map (·.1)) : k ∈ ins := (h.mem _).2 (.inr (KG'.2 hk))
theorem QI.perm {A : Qs} {ins : List Int} {np : Nat} (h : QI A ins np) : (A.L.map (·.b) ++ A.o.map (·.1)).Perm ins := by
 refine (List.perm_ext_iff_of_nodup ?_ h.nd).2 fun k => ?_
 ·refine List.nodup_append.2 ⟨h.lnd, h.oi.keys, fun a ha b hb e => ?_⟩
  obtain ⟨x, hx, rfl⟩ := List.mem_map.1 ha; exact KG'.2 hb (e ▸ h.ldj x hx)
 ·rw [List.mem_append, h.mem, KG']
theorem QI.size {A : Qs} {ins : List Int} {np : Nat} (h : QI A ins np) : A.L.length + A.o.length = ins.length := by
 have := h.perm.length_eq; rw [List.length_append, List.length_map, List.length_map] at this; exact this
theorem QI.ready_sq {A : Qs} {ins : List Int} {np : Nat} (h : QI A ins np) : (AM' A).map (·.sq) = A.L.map (·.b) := by
 rw [AM', List.map_map]
 refine List.map_congr_left fun x hx => ?_
 obtain ⟨c, hc⟩ := h.look _ (h.inL hx); show (cAt A x.b).sq = x.b; rw [cAt, hc]; exact h.key _ _ hc
theorem QI.out_sq {A : Qs} {ins : List Int} {np : Nat} (h : QI A ins np) : (outA A).map (·.sq) = BE' A.o := by
 rw [outA, List.map_map]
 have : (BE' A.o).map ((fun c : Kc => c.sq) ∘ fun k => cAt A k) = (BE' A.o).map id := List.map_congr_left fun k hk => by
  obtain ⟨c, hc⟩ := h.look k (h.inO ((D6' A.o).mem_iff.1 hk)); show (cAt A k).sq = k; rw [cAt, hc]; exact h.key _ _ hc
 rw [this, List.map_id]
theorem QI.told {A : Qs} {ins : List Int} {np : Nat} (h : QI A ins np) : ((AM' A ++ outA A).map (·.sq)).Nodup /\ (∀ c ∈ AM' A ++ outA A, c.sq ∈ ins) /\ (AM' A ++ outA A).length = ins.length := by
 have hp : ((AM' A ++ outA A).map (·.sq)).Perm ins := by
  rw [List.map_append, h.ready_sq, h.out_sq]; exact ((List.Perm.refl _).append (D6' A.o)).trans h.perm
 refine ⟨hp.nodup_iff.2 h.nd, fun c hc => hp.mem_iff.1 (List.mem_map_of_mem hc), ?_⟩
 have := hp.length_eq
 rwa [List.length_map] at this
theorem aU' {L : List It} {k : Int} (h : k ∉ L.map (·.b)) : BZ' k L = false := by
 rw [BZ', List.any_eq_false]; intro x hx
 have : x.b ≠ k := fun e => h (e ▸ List.mem_map_of_mem hx)
 simpa using this
theorem OT' {L : List It} {x : It} (h : x.b ∉ L.map (·.b)) : (putL L x).Perm (x :: L) := by
 rw [putL, aU' h]; exact Rk.ins_perm x L
theorem QI.stand {A : Qs} {ins : List Int} {np : Nat} (h : QI A ins np) {c : Kc} (hk : c.sq ∉ ins) (h1 : 1 <= c.sq) (h2 : c.sq <= (np : Int) + 1) {ins' : List Int} (hm : ∀ k, k ∈ ins' ↔ k ∈ ins \/ k = c.sq) (hn : ins'.Nodup) (hl : ins'.length <= np + 1) : QI (CV' A c) ins' (np + 1) := by
 have hL : c.sq ∉ A.L.map (·.b) := fun e => hk ((h.mem _).2 (.inl e))
 have hp := OT' (x := ⟨rkOf A.cf c.pi, c.sq, 0⟩) hL
 have hO : AG' c.sq A.o = none := by
  cases e : AG' c.sq A.o with
  | none => rfl
  | some v => exact absurd ((h.mem _).2 (.inr (by rw [e]; exact fun h => by cases h))) hk
 have hmb : ∀ k, k ∈ (putL A.L ⟨rkOf A.cf c.pi, c.sq, 0⟩).map (·.b) ↔ k = c.sq \/ k ∈ A.L.map (·.b) := fun k => by
  rw [(hp.map _).mem_iff, List.map_cons, List.mem_cons]
 refine ⟨h.mi.mset _ _, h.oi, fun k c' hc' => ?_, h.o1, ?_, fun x hx => ?_, fun k => ?_, hn, fun k hkk => ?_, fun k hkk => ?_, ?_, ?_, hl⟩
 ·have hc' : AG' k (mset A.m A.ck c.sq c) = some c' := hc'; rw [CT'] at hc'; split at hc'
  ·rename_i e; cases hc'; exact e.symm
  ·exact h.key _ _ hc'
 ·exact (hp.map _).nodup_iff.2 (by rw [List.map_cons]; exact List.nodup_cons.2 ⟨hL, h.lnd⟩)
 ·have hx : x ∈ putL A.L ⟨rkOf A.cf c.pi, c.sq, 0⟩ := hx
  rcases List.mem_cons.1 (hp.mem_iff.1 hx) with rfl | hx
  ·exact hO
  ·exact h.ldj x hx
 ·show _ ↔ k ∈ (putL A.L _).map (·.b) \/ AG' k A.o ≠ none; rw [hmb, hm, h.mem]
  constructor
  ·rintro ((h | h) | h)
   ·exact .inl (.inr h)
   ·exact .inr h
   ·exact .inl (.inl h)
  ·rintro ((h | h) | h)
   ·exact .inr h
   ·exact .inl (.inl h)
   ·exact .inl (.inr h)
 ·show ∃ c', AG' k (mset A.m A.ck c.sq c) = some c'; rw [CT']
  by_cases e : k = c.sq
  ·rw [if_pos e]; exact ⟨_, rfl⟩
  ·rw [if_neg e]; exact h.look k (((hm k).1 hkk).resolve_right e)
 ·show 1 <= k /\ k <= (if c.sq > A.la then c.sq else A.la)
  rcases (hm k).1 hkk with h3 | h3
  ·have := h.rng k h3; split <;> omega
  ·subst h3; split <;> omega
 ·show 0 <= (if c.sq > A.la then c.sq else A.la)
  have := h.la0; split <;> omega
 ·show (if c.sq > A.la then c.sq else A.la) <= ((np + 1 : Nat) : Int)
  have := h.la1; split <;> omega
theorem QI.push {A : Qs} {ins : List Int} {np : Nat} (h : QI A ins np) (c : Kc) : QI (T5' A c) (ins ++ [A.la + 1]) (np + 1) := by
 have hno : A.la + 1 ∉ ins := fun e => by have := (h.rng _ e).2; omega
 have h1 := h.la0; have h2 := h.la1; refine h.stand (c := { c with sq := A.la + 1 }) hno (by show 1 <= A.la + 1; omega) (by show A.la + 1 <= _; omega) (fun k => by simp) ?_ (by rw [List.length_append]; have := h.len; simp; omega)
 exact List.nodup_append.2 ⟨h.nd, by simp, fun a ha b hb e => by simp at hb; subst hb; exact hno (e ▸ ha)⟩
theorem MN' {k : Int} {l : List Int} (h : l.Nodup) : (notK k l).Nodup := h.sublist List.filter_sublist
theorem QI.over {A : Qs} {ins : List Int} {np : Nat} (h : QI A ins np) {x : It} {T : List It} (hL : A.L = x :: T) : QI (aQ' { A with L := T } x.b) (notK x.b ins) np := by
 have hnd := h.lnd; rw [hL, List.map_cons, List.nodup_cons] at hnd; have hxin : x.b ∈ ins := h.inL (by rw [hL]; exact List.mem_cons_self); have hxo := h.ldj x (by rw [hL]; exact List.mem_cons_self)
 have hlk : ∀ k, AG' k (mdel A.m x.b) = if k = x.b then none else AG' k A.m := fun k => D5' h.mi x.b k
 refine ⟨h.mi.mdel _, h.oi, fun k c hc => ?_, h.o1, hnd.2, fun y hy => h.ldj y (by rw [hL]; exact List.mem_cons_of_mem _ hy), fun k => ?_, MN' h.nd, fun k hk => ?_, fun k hk => h.rng k (EA'.1 hk).1, h.la0, h.la1, Nat.le_trans (List.length_filter_le _ _) h.len⟩
 ·have hc : AG' k (mdel A.m x.b) = some c := hc; rw [hlk] at hc; split at hc
  ·cases hc
  ·exact h.key _ _ hc
 ·show _ ↔ k ∈ T.map (·.b) \/ AG' k A.o ≠ none; rw [EA', h.mem, hL, List.map_cons, List.mem_cons]
  constructor
  ·rintro ⟨(h1 | h1) | h1, h2⟩
   ·exact absurd h1 h2
   ·exact .inl h1
   ·exact .inr h1
  ·rintro (h1 | h1)
   ·exact ⟨.inl (.inr h1), fun e => hnd.1 (e ▸ h1)⟩
   ·exact ⟨.inr h1, fun e => h1 (by rw [e]; exact hxo)⟩
 ·obtain ⟨h1, h2⟩ := EA'.1 hk; show ∃ c, AG' k (mdel A.m x.b) = some c; rw [hlk, if_neg h2]; exact h.look k h1
theorem QI.pop {A : Qs} {ins : List Int} {np : Nat} (h : QI A ins np) {x : It} {T : List It} (hL : A.L = x :: T) : QI (popA A x T) ins np := by
 have hnd := h.lnd; rw [hL, List.map_cons, List.nodup_cons] at hnd
 have hlo : ∀ k, AG' k (mset A.o A.ok x.b 1) = if k = x.b then some 1 else AG' k A.o := fun k => CT' A.o A.ok x.b 1 k
 refine ⟨h.mi, h.oi.mset _ _, h.key, fun k v hv => ?_, hnd.2, fun y hy => ?_, fun k => ?_, h.nd, h.look, h.rng, h.la0, h.la1, h.len⟩
 ·have hv : AG' k (mset A.o A.ok x.b 1) = some v := hv; rw [hlo] at hv; split at hv
  ·cases hv; rfl
  ·exact h.o1 _ _ hv
 ·show AG' y.b (mset A.o A.ok x.b 1) = none
  have hne : y.b ≠ x.b := fun e => hnd.1 (e ▸ List.mem_map_of_mem (f := fun z : It => z.b) hy)
  rw [hlo, if_neg hne]; exact h.ldj y (by rw [hL]; exact List.mem_cons_of_mem _ hy)
 ·show _ ↔ k ∈ T.map (·.b) \/ AG' k (mset A.o A.ok x.b 1) ≠ none; rw [h.mem, hL, List.map_cons, List.mem_cons, hlo]
  by_cases e : k = x.b
  ·rw [if_pos e]
   exact ⟨fun _ => .inr (fun h => by cases h), fun _ => .inl (.inl e)⟩
  ·rw [if_neg e]
   constructor
   ·rintro ((h1 | h1) | h1)
    ·exact absurd h1 e
    ·exact .inl h1
    ·exact .inr h1
   ·rintro (h1 | h1)
    ·exact .inl (.inr h1)
    ·exact .inr h1
theorem QI.settle {A : Qs} {ins : List Int} {np : Nat} (h : QI A ins np) {n v : Int} (ho : AG' n A.o = some v) : QI (GN' A n) (notK n ins) np := by
 have hlm : ∀ k, AG' k (mdel A.m n) = if k = n then none else AG' k A.m := fun k => D5' h.mi n k
 have hlo : ∀ k, AG' k (mdel A.o n) = if k = n then none else AG' k A.o := fun k => D5' h.oi n k
 have hnL : n ∉ A.L.map (·.b) := fun e => by
  obtain ⟨x, hx, rfl⟩ := List.mem_map.1 e; have := h.ldj x hx; rw [ho] at this; cases this
 refine ⟨h.mi.mdel _, h.oi.mdel _, fun k c hc => ?_, fun k v hv => ?_, h.lnd, fun y hy => ?_, fun k => ?_, MN' h.nd, fun k hk => ?_, fun k hk => h.rng k (EA'.1 hk).1, h.la0, h.la1, Nat.le_trans (List.length_filter_le _ _) h.len⟩
 ·have hc : AG' k (mdel A.m n) = some c := hc; rw [hlm] at hc; split at hc
  ·cases hc
  ·exact h.key _ _ hc
 ·have hv : AG' k (mdel A.o n) = some v := hv; rw [hlo] at hv; split at hv
  ·cases hv
  ·exact h.o1 _ _ hv
 ·show AG' y.b (mdel A.o n) = none; rw [hlo]; split
  ·rfl
  ·exact h.ldj y hy
 ·show _ ↔ k ∈ A.L.map (·.b) \/ AG' k (mdel A.o n) ≠ none; rw [EA', h.mem, hlo]
  by_cases e : k = n
  ·rw [if_pos e]; subst e
   exact ⟨fun h => absurd rfl h.2, fun h => h.elim (fun h => absurd h hnL) (fun h => absurd rfl h)⟩
  ·rw [if_neg e]
   exact ⟨fun h => h.1, fun h => ⟨h, e⟩⟩
 ·obtain ⟨h1, h2⟩ := EA'.1 hk; show ∃ c, AG' k (mdel A.m n) = some c; rw [hlm, if_neg h2]; exact h.look k h1
theorem QI.ret {A : Qs} {ins : List Int} {np : Nat} (h : QI A ins np) {c : Kc} {v : Int} (ho : AG' c.sq A.o = some v) : QI (CV' (GN' A c.sq) { c with re := true }) ins (np + 1) := by
 have hin : c.sq ∈ ins := (h.mem _).2 (.inr (by rw [ho]; exact fun h => by cases h)); have hr := h.rng _ hin; have h3 := h.la1; refine (h.settle ho).stand (c := { c with re := true }) (fun e => (EA'.1 e).2 rfl) hr.1 (by show c.sq <= _; omega) (fun k => ?_) h.nd (Nat.le_succ_of_le h.len); rw [EA']; show k ∈ ins ↔ (k ∈ ins /\ k ≠ c.sq) \/ k = c.sq
 by_cases e : k = c.sq
 ·subst e; exact ⟨fun _ => .inr rfl, fun _ => hin⟩
 ·exact ⟨fun h => .inl ⟨h, e⟩, fun h => h.elim (fun h => h.1) fun h => absurd h e⟩
theorem QI.new (c : Cf) : QI ⟨c, [], 0, [], [], 0, 0⟩ [] 0 :=
 ⟨MI.nil, MI.nil, fun k c h => (by cases h), fun k v h => (by cases h), List.nodup_nil, fun x h => (by cases h), fun k => ⟨fun h => (by cases h), fun h => h.elim (fun h => (by cases h)) fun h => absurd rfl h⟩, List.nodup_nil, fun k h => (by cases h), fun k h => (by cases h), Int.le_refl _, Int.le_refl _, Yd⟩
open Rk (BZ' putL)
def reT (c : Kc) : Kc := { c with re := true }
theorem T3' {A B : List It} (hp : A.Perm B) (ha : Rk.Sortd A) (hb : Rk.Sortd B) : A = B :=
 List.Perm.eq_of_pairwise (le := fun a b => Rk.ahead a b = true) (fun a b _ _ h1 h2 => by
  have := Rk.ahead_trans h1 h2
  rw [Rk.ahead_irrefl] at this; cases this) ha hb hp
theorem aS' {x y : It} : ∀ {l : List It}, (l.Pairwise fun a b => a.b ≠ b.b) -> x ∈ l -> y ∈ l -> x.b = y.b -> x = y
 | [], _, hx, _, _ => by cases hx
 | a :: l, h, hx, hy, e => by
  rw [List.pairwise_cons] at h
  rcases List.mem_cons.1 hx with h1 | h1
  ·rcases List.mem_cons.1 hy with h2 | h2
   ·exact h1.trans h2.symm
   ·exact absurd (h1 ▸ e) (h.1 y h2)
  ·rcases List.mem_cons.1 hy with h2 | h2
   ·exact absurd (h2 ▸ e.symm) (h.1 x h1)
   ·exact aS' h.2 h1 h2 e
structure BP (A : Qs) (n : Nat) : Prop where
 qi : ∃ ins, QI A ins n /\ ins.length = n
 lan : A.la = (n : Int)
 out : A.o = []
 srt : Rk.Sortd A.L
 rk : ∀ x ∈ A.L, ∃ c, AG' x.b A.m = some c /\ x = ⟨rkOf A.cf c.pi, x.b, 0⟩
theorem MK' {L : List It} {x : It} (h : x.b ∉ L.map (·.b)) (hs : Rk.Sortd L) : Rk.Sortd (putL L x) := by
 rw [putL, aU' h]
 exact Rk.ins_sorted hs fun y hy e => h (e ▸ List.mem_map_of_mem (f := fun z : It => z.b) hy)
theorem US' {L : List It} {x : It} (h : x.b ∉ L.map (·.b)) {y : It} : y ∈ putL L x ↔ y = x \/ y ∈ L := by
 rw [(OT' h).mem_iff, List.mem_cons]
theorem BP.zero (c : Cf) : BP ⟨c, [], 0, [], [], 0, 0⟩ 0 :=
 ⟨⟨[], QI.new c, rfl⟩, rfl, rfl, List.Pairwise.nil, fun x hx => by cases hx⟩
theorem BP.push {A : Qs} {n : Nat} (h : BP A n) (c : Kc) : BP (T5' A c) (n + 1) := by
 obtain ⟨⟨ins, hq, hl⟩, h1, h2, h3, h4⟩ := h
 have hno : A.la + 1 ∉ A.L.map (·.b) := fun e => by
  obtain ⟨x, hx, e⟩ := List.mem_map.1 e; have := (hq.rng _ (hq.inL hx)).2; omega
 refine ⟨⟨_, hq.push c, by rw [List.length_append, hl]; rfl⟩, ?_, h2, MK' hno h3, fun x hx => ?_⟩
 ·show (if A.la + 1 > A.la then A.la + 1 else A.la) = _; rw [if_pos ω, h1]; omega
 ·show ∃ c', AG' x.b (mset A.m A.ck (A.la + 1) _) = some c' /\ _; rw [CT']
  rcases (US' hno).1 hx with rfl | hx
  ·exact ⟨_, if_pos rfl, rfl⟩
  ·have hne : x.b ≠ A.la + 1 := fun e => hno (e ▸ List.mem_map_of_mem (f := fun z : It => z.b) hx)
   rw [if_neg hne]; exact h4 x hx
theorem BP.len {A : Qs} {n : Nat} (h : BP A n) : A.L.length = n := by
 obtain ⟨⟨ins, hq, hl⟩, h1, h2, h3, h4⟩ := h; have := hq.size; rw [h2] at this; simpa [hl] using this
structure BO (B A : Qs) (n j : Nat) : Prop where
 qi : ∃ ins, QI A ins n /\ ins.length = n /\ ∀ k, k ∈ ins ↔ k ∈ B.L.map (·.b)
 m : A.m = B.m
 cf : A.cf = B.cf
 L : A.L = B.L.drop j
theorem BP.out0 {A : Qs} {n : Nat} (h : BP A n) : BO A A n 0 := by
 obtain ⟨⟨ins, hq, hl⟩, h1, h2, h3, h4⟩ := h
 exact ⟨⟨ins, hq, hl, fun k => by rw [hq.mem, h2]; exact ⟨fun h => h.resolve_right fun h => h rfl, .inl⟩⟩, rfl, rfl, rfl⟩
theorem BO.pop {B A : Qs} {n j : Nat} (h : BO B A n j) {x : It} {T : List It} (hL : A.L = x :: T) : BO B (popA A x T) n (j + 1) := by
 obtain ⟨⟨ins, hq, hl, hi⟩, hm, hc, hLe⟩ := h; refine ⟨⟨ins, hq.pop hL, hl, hi⟩, hm, hc, ?_⟩; show T = _; rw [hL] at hLe; rw [<- List.tail_drop, <- hLe]; rfl
structure BR (B A : Qs) (n : Nat) (don : Int -> Bool) (np : Nat) : Prop where
 qi : ∃ ins, QI A ins np /\ ins.length = n /\ ∀ k, k ∈ ins ↔ k ∈ B.L.map (·.b)
 cf : A.cf = B.cf
 lk : ∀ k ∈ B.L.map (·.b), AG' k A.m = some (if don k then reT (cAt B k) else cAt B k)
 o : ∀ k ∈ B.L.map (·.b), (AG' k A.o = none ↔ don k = true)
 srt : Rk.Sortd A.L
 sub : ∀ x ∈ A.L, x ∈ B.L
theorem BO.ret0 {B A : Qs} {n : Nat} (hB : BP B n) (h : BO B A n n) : BR B A n (fun _ => false) n := by
 obtain ⟨⟨ins, hq, hl, hi⟩, hm, hc, hLe⟩ := h
 have hL : A.L = [] := by rw [hLe, List.drop_eq_nil_of_le]; rw [hB.len]; exact Yd
 refine ⟨⟨ins, hq, hl, hi⟩, hc, fun k hk => ?_, fun k hk => ?_, ?_, fun x hx => ?_⟩
 ·obtain ⟨c, hcc⟩ := hq.look k ((hi k).2 hk); show AG' k A.m = some (cAt B k); rw [cAt, <- hm, hcc]; rfl
 ·refine ⟨fun e => ?_, fun e => by cases e⟩
  rcases (hq.mem k).1 ((hi k).2 hk) with h1 | h1
  ·rw [hL] at h1; cases h1
  ·exact absurd e h1
 ·rw [hL]; exact List.Pairwise.nil
 ·rw [hL] at hx; cases hx
theorem BR.ret {B A : Qs} {n np : Nat} {don : Int -> Bool} (hB : BP B n) (h : BR B A n don np) {k : Int} (hk : k ∈ B.L.map (·.b)) (hd : don k = false) : ∃ c, c.sq = k /\ AG' c.sq A.o = some 1 /\ AG' c.sq A.m = some c /\ BR B (CV' (GN' A c.sq) { c with re := true }) n (fun i => don i || decide (i = k)) (np + 1) := by
 obtain ⟨⟨ins, hq, hl, hi⟩, hc, h1, h2, h3, h4⟩ := h; have hm := h1 k hk; rw [hd, if_neg Bool.false_ne_true] at hm; have hs : (cAt B k).sq = k := hq.key _ _ hm
 cases ho : AG' k A.o with
 | none => rw [(h2 k hk).1 ho] at hd; cases hd
 | some v =>
  obtain rfl := hq.o1 _ _ ho
  have hnL : k ∉ A.L.map (·.b) := fun e => by
   obtain ⟨x, hx, e⟩ := List.mem_map.1 e; have := hq.ldj x hx; rw [e, ho] at this; cases this
  have hnL' : (⟨rkOf A.cf (cAt B k).pi, (cAt B k).sq, 0⟩ : It).b ∉ A.L.map (·.b) := by rw [<- hs] at hnL; exact hnL
  have hqi := hq.ret (c := cAt B k) (by rw [hs]; exact ho)
  refine ⟨cAt B k, hs, by rw [hs]; exact ho, by rw [hs]; exact hm, ⟨ins, hqi, hl, hi⟩, hc, fun i hik => ?_, fun i hik => ?_, MK' hnL' h3, fun x hx => ?_⟩
  ·show AG' i (mset (mdel A.m (cAt B k).sq) A.ck (cAt B k).sq _) = _; rw [CT']
   by_cases e : i = k
   ·rw [if_pos (e.trans hs.symm), decide_eq_true e, Bool.or_true, if_pos rfl, e]; rfl
   ·have e' : ¬ i = (cAt B k).sq := fun h => e (h.trans hs)
    rw [if_neg e', decide_eq_false e, Bool.or_false, D5' hq.mi, if_neg e']; exact h1 i hik
  ·show AG' i (mdel A.o (cAt B k).sq) = none ↔ _; rw [D5' hq.oi, hs]
   by_cases e : i = k
   ·rw [if_pos e, decide_eq_true e, Bool.or_true]; simp
   ·rw [if_neg e, decide_eq_false e, Bool.or_false]; exact h2 i hik
  ·rcases (US' hnL').1 hx with rfl | hx
   ·obtain ⟨y, hy, e⟩ := List.mem_map.1 hk; obtain ⟨c, hcm, hye⟩ := hB.rk y hy
    have hcc : cAt B k = c := by rw [cAt, <- e, hcm]; rfl
    show (⟨rkOf A.cf (cAt B k).pi, (cAt B k).sq, 0⟩ : It) ∈ B.L; rw [hs, hcc, hc, <- e, <- hye]; exact hy
   ·exact h4 x hx
theorem BR.end {B A : Qs} {n np : Nat} {don : Int -> Bool} (hB : BP B n) (h : BR B A n don np) (hd : ∀ k ∈ B.L.map (·.b), don k = true) : AM' A = (AM' B).map reT := by
 obtain ⟨⟨ins, hq, hl, hi⟩, hc, h1, h2, h3, h4⟩ := h; obtain ⟨⟨ins', hq', _⟩, _⟩ := hB
 have hLL : A.L = B.L := by
  refine T3' ((List.perm_ext_iff_of_nodup (Rk.sorted_nodup h3) (Rk.sorted_nodup (by assumption))).2 fun x => ⟨h4 x, fun hx => ?_⟩) h3 (by assumption)
  have hxb : x.b ∈ B.L.map (·.b) := List.mem_map_of_mem (f := fun z : It => z.b) hx
  rcases (hq.mem x.b).1 ((hi _).2 hxb) with h5 | h5
  ·obtain ⟨y, hy, e⟩ := List.mem_map.1 h5
   have : y = x := by
    have hn := hq'.lnd; have hp := List.pairwise_map.1 hn; exact aS' hp (h4 y hy) hx e
   exact this ▸ hy
  ·exact absurd ((h2 _ hxb).2 (hd _ hxb)) h5
 rw [AM', hLL, AM', List.map_map]
 refine List.map_congr_left fun x hx => ?_
 have hxb : x.b ∈ B.L.map (·.b) := List.mem_map_of_mem (f := fun z : It => z.b) hx; have := h1 _ hxb; rw [hd _ hxb, if_pos rfl] at this; show cAt A x.b = reT (cAt B x.b); rw [cAt, this]; rfl
open Rk (lO itA BZ' putL GZ' remK)
open Int renaming ofNat -> o'
open Go.Value renaming string -> vs'
open Go.Value renaming int -> vi'
open Go.Value renaming bool -> vb'
open AO renaming cells -> ce'
open AV renaming ptr -> pt'
open Go.IntKind renaming i64 -> I'
open Go.Value renaming slice -> sl'
noncomputable section
def rowC (R : List Kc) : List Value := R.flatMap Kc.cells
def cCk (c : Kc) (P : Mem -> Prop) (FV TV : AV) (OF OT : AO) : List AV -> Option (AP AV) := mkC (fun _ => .ret ()) (fun _ => True) (fun _ k => match k with | 0 => 1002 | k => k) (fun _ => [aggK c]) (fun _ => [(0, .any (frz P))]) (fun _ => .leaf .ret [aggN c FV TV] [(0, .any (frz P)), (1007, OF), (1008, OT)])
def oRk (s : Qs) (P PR : Mem -> Prop) (I O : AO) : LH := [(0, qC s.cf s.la), (1001, .map (mE aggK s.m) s.ck), (1002, .any (frz P)), (1003, lO s.L), (1004, .map (mE iv s.o) s.ok), (1005, I), (1006, O), (1009, .any (frz PR))]
def kK : List Nat := [0, 1001, 1002, 1003, 1004, 1005, 1006, 1009, 1100, 1101, 1102, 1103, 1104, 1105, 1106]
abbrev k85' (q0 : Kc) (q1 : Mem -> Prop) (q2 q3 : AO) (q4 : Nat) (q5 : It) (q6 : HP) (q7 : Qs) : Cnd := ((p' (findKey Try.prog (envW [(30,cCk q0 q1 (e') AV.mt q2 q3)] (hRd q4 q5 q0) [] default q6) 3 (z' q5.b) (mE aggK q7.m) 0 = AP.ret (AR' (z' q5.b) (mE aggK q7.m) 0))).a (f' (Wk (BY' (AR' (z' q5.b) (mE aggK q7.m) 0) (Value.agg (Array.mk [vi' I' (o' 0),vi' I' (o' 0),vi' I' (o' 0),vi' I' (o' 0),vs' y0',vs' y0',vi' I' (o' 0),vs' y0',vs' y0',sl' none 0 0,vi' I' (o' 0),vi' I' (o' 0),vs' y0',vs' y0',vs' y0',vs' y0',vi' I' (o' 0),vs' y0',vs' y0',vs' y0',vi' I' (o' 0),vi' I' (o' 0),sl' none 0 0,vb' false,vb' false]))) (AV.agg [z' q0.sq,z' q0.gh,z' q0.bo,z' q0.si,s' q0.ex,s' q0.ke,z' q0.fl,s' q0.ct,s' q0.ce,AV.v (sl' q0.ha (List.length q0.f) q0.hc),z' q0.dm,z' q0.pr,s' q0.s1,s' q0.s2,s' q0.s3,s' q0.s4,z' q0.ts,s' q0.s5,s' q0.s6,s' q0.s7,z' q0.xp,z' q0.pi,AV.v (sl' q0.ta q0.tr.length q0.tc),b' q0.du,b' q0.re]))))
theorem V1' (s : Qs) (P PR : Mem -> Prop) (I : List It) (n j : Nat) (it : It) (c : Kc) (OF OT : AO) (F : HP) : BI' [(fCd, cCk c P nilS .mt OF OT)] (hRd j it c) [] default AJ' (AB' AJ' 2) (tms 0 28 (aRd n j nilS)) (oRk s P PR (rI3 I) dumZ) kK iRd F = VT.leaf (AX.normal,[pt' 0 0,AV.slice 1104 0 1 25 (Cp.lo 1),AV.slice 1005 0 n 3 (Cp.lo n),i' n,i' (j + 1)],28) [some (ce' [z' s.cf.t1,z' s.cf.t2,z' s.cf.ml,z' s.cf.mp,s' s.cf.a1,s' s.cf.a2,s' s.cf.a3,b' s.cf.b1,b' s.cf.b2,b' s.cf.b3,AV.map 1001,pt' 1003 0,AV.map 1004,z' s.la,e'] 128),some (AO.map (mE aggK s.m) s.ck),some (AO.any (frz P)),some (AO.own (Md.line s.L) (Rk.lH s.L)),some (AO.map (mE iv s.o) s.ok),some (ce' (rowV Rk.enc I) 142),some (AO.any (frz fun x => True)),some (AO.any (frz PR)),some (ce' [z' it.a,z' it.b,z' it.c] 142),some (AO.ren (sgN (fun k => match k with | 0 => 1002 | k => k) [1007,1008] 1101) OF),some (AO.ren (sgN (fun k => match k with | 0 => 1002 | k => k) [1007,1008] 1101) OT),some (ce' [z' c.sq,z' c.gh,z' c.bo,z' c.si,s' c.ex,s' c.ke,z' c.fl,s' c.ct,s' c.ce,e',z' c.dm,z' c.pr,s' c.s1,s' c.s2,s' c.s3,s' c.s4,z' c.ts,s' c.s5,s' c.s6,s' c.s7,z' c.xp,z' c.pi,AV.mt,b' c.du,b' c.re] 82),some (ce' [z' c.sq,z' c.gh,z' c.bo,z' c.si,s' c.ex,s' c.ke,z' c.fl,s' c.ct,s' c.ce,e',z' c.dm,z' c.pr,s' c.s1,s' c.s2,s' c.s3,s' c.s4,z' c.ts,s' c.s5,s' c.s6,s' c.s7,z' c.xp,z' c.pi,AV.mt,b' c.du,b' c.re] 82),none,none] 1105 (h78' j n I it ((k85' c P OF OT j it F s).a (h76' c P j k1'))) := χ
abbrev h86' (q0 : Kc) (q1 : Mem -> Prop) (q2 : Nat) (q3 : List Value) (q4 : Nat) (z : Cnd) : Cnd := (((p' True).a ((vw' [AV.agg [z' q0.sq,z' q0.gh,z' q0.bo,z' q0.si,s' q0.ex,s' q0.ke,z' q0.fl,s' q0.ct,s' q0.ce,AV.v (sl' q0.ha (List.length q0.f) q0.hc),z' q0.dm,z' q0.pr,s' q0.s1,s' q0.s2,s' q0.s3,s' q0.s4,z' q0.ts,s' q0.s5,s' q0.s6,s' q0.s7,z' q0.xp,z' q0.pi,AV.v (sl' q0.ta q0.tr.length q0.tc),b' q0.du,b' q0.re]]).a (f' (OW (AO.any (frz q1)) (AO.any (frz q1)))))).a ((tt'.a (tt'.a (tt'.a (tt'.a ((p' ((0 + q2 * 25).ble (vmap q3).length = true)).a ((p' (((q2 + 1) * 320).ble 140737488355328 = true)).a ((p' ((q2 + 1).ble 9223372036854775807 = true)).a (f' ((List.take (q2 * 25) (List.drop 0 (vmap q3))).length.beq (q2 * 25) = true))))))))).a ((f' (Wk (z' (IntKind.i64.wrap (o' q4 + o' 1))) (i' (q4 + 1)))).a z)))
theorem UX' (s : Qs) (P PR : Mem -> Prop) (I : List It) (n j m : Nat) (it : It) (c : Kc) (V : List Value) (OF OT : AO) (F : HP) : BI' [(fCd, cCk c P nilS .mt OF OT)] (hRd j it c) [] default AJ' (AB' AJ' 2) (tms 0 28 (aRd n j (slR 1006 m))) (oRk s P PR (rI3 I) (.cells (vmap V) tKc)) kK iRd F = VT.leaf (AX.normal,[pt' 0 0,AV.slice 1104 0 (m + 1) 25 (Cp.lo (m + 1)),AV.slice 1005 0 n 3 (Cp.lo n),i' n,i' (j + 1)],28) [some (ce' [z' s.cf.t1,z' s.cf.t2,z' s.cf.ml,z' s.cf.mp,s' s.cf.a1,s' s.cf.a2,s' s.cf.a3,b' s.cf.b1,b' s.cf.b2,b' s.cf.b3,AV.map 1001,pt' 1003 0,AV.map 1004,z' s.la,e'] 128),some (AO.map (mE aggK s.m) s.ck),some (AO.any (frz P)),some (AO.own (Md.line s.L) (Rk.lH s.L)),some (AO.map (mE iv s.o) s.ok),some (ce' (rowV Rk.enc I) 142),none,some (AO.any (frz PR)),some (ce' [z' it.a,z' it.b,z' it.c] 142),some (AO.ren (sgN (fun k => match k with | 0 => 1002 | k => k) [1007,1008] 1101) OF),some (AO.ren (sgN (fun k => match k with | 0 => 1002 | k => k) [1007,1008] 1101) OT),some (ce' [z' c.sq,z' c.gh,z' c.bo,z' c.si,s' c.ex,s' c.ke,z' c.fl,s' c.ct,s' c.ce,e',z' c.dm,z' c.pr,s' c.s1,s' c.s2,s' c.s3,s' c.s4,z' c.ts,s' c.s5,s' c.s6,s' c.s7,z' c.xp,z' c.pi,AV.mt,b' c.du,b' c.re] 82),some (ce' (List.take (m * 25) (List.drop 0 (vmap V)) ++ [z' c.sq,z' c.gh,z' c.bo,z' c.si,s' c.ex,s' c.ke,z' c.fl,s' c.ct,s' c.ce,e',z' c.dm,z' c.pr,s' c.s1,s' c.s2,s' c.s3,s' c.s4,z' c.ts,s' c.s5,s' c.s6,s' c.s7,z' c.xp,z' c.pi,AV.mt,b' c.du,b' c.re]) 82),none,none] 1105 (h78' j n I it ((k85' c P OF OT j it F s).a (h86' c P m V j k1'))) := χ
abbrev k87' (q0 : Kc) (q1 : Mem -> Prop) (q2 : Nat) (q3 q4 : AO) (q5 : Nat) (q6 : It) (q7 : HP) (q8 : Qs) : Cnd := ((p' (findKey Try.prog (envW [(30,cCk q0 q1 (e') (AV.slice q2 0 q0.tr.length 1 (Cp.lo q0.tr.length)) q3 q4)] (hRd q5 q6 q0) [] default q7) 3 (z' q6.b) (mE aggK q8.m) 0 = AP.ret (AR' (z' q6.b) (mE aggK q8.m) 0))).a (f' (Wk (BY' (AR' (z' q6.b) (mE aggK q8.m) 0) (Value.agg (Array.mk [vi' I' (o' 0),vi' I' (o' 0),vi' I' (o' 0),vi' I' (o' 0),vs' y0',vs' y0',vi' I' (o' 0),vs' y0',vs' y0',sl' none 0 0,vi' I' (o' 0),vi' I' (o' 0),vs' y0',vs' y0',vs' y0',vs' y0',vi' I' (o' 0),vs' y0',vs' y0',vs' y0',vi' I' (o' 0),vi' I' (o' 0),sl' none 0 0,vb' false,vb' false]))) (AV.agg [z' q0.sq,z' q0.gh,z' q0.bo,z' q0.si,s' q0.ex,s' q0.ke,z' q0.fl,s' q0.ct,s' q0.ce,AV.v (sl' q0.ha (List.length q0.f) q0.hc),z' q0.dm,z' q0.pr,s' q0.s1,s' q0.s2,s' q0.s3,s' q0.s4,z' q0.ts,s' q0.s5,s' q0.s6,s' q0.s7,z' q0.xp,z' q0.pi,AV.v (sl' q0.ta q0.tr.length q0.tc),b' q0.du,b' q0.re]))))
theorem V2' (s : Qs) (P PR : Mem -> Prop) (I : List It) (n j : Nat) (it : It) (c : Kc) (OF OT : AO) (F : HP) : BI' [(fCd, cCk c P nilS (sS 1008 c.tr.length) OF OT)] (hRd j it c) [] default AJ' (AB' AJ' 2) (tms 0 28 (aRd n j nilS)) (oRk s P PR (rI3 I) dumZ) kK iRd F = VT.leaf (AX.normal,[pt' 0 0,AV.slice 1104 0 1 25 (Cp.lo 1),AV.slice 1005 0 n 3 (Cp.lo n),i' n,i' (j + 1)],28) [some (ce' [z' s.cf.t1,z' s.cf.t2,z' s.cf.ml,z' s.cf.mp,s' s.cf.a1,s' s.cf.a2,s' s.cf.a3,b' s.cf.b1,b' s.cf.b2,b' s.cf.b3,AV.map 1001,pt' 1003 0,AV.map 1004,z' s.la,e'] 128),some (AO.map (mE aggK s.m) s.ck),some (AO.any (frz P)),some (AO.own (Md.line s.L) (Rk.lH s.L)),some (AO.map (mE iv s.o) s.ok),some (ce' (rowV Rk.enc I) 142),some (AO.any (frz fun x => True)),some (AO.any (frz PR)),some (ce' [z' it.a,z' it.b,z' it.c] 142),some (AO.ren (sgN (fun k => match k with | 0 => 1002 | k => k) [1007,1008] 1101) OF),some (AO.ren (sgN (fun k => match k with | 0 => 1002 | k => k) [1007,1008] 1101) OT),some (ce' [z' c.sq,z' c.gh,z' c.bo,z' c.si,s' c.ex,s' c.ke,z' c.fl,s' c.ct,s' c.ce,e',z' c.dm,z' c.pr,s' c.s1,s' c.s2,s' c.s3,s' c.s4,z' c.ts,s' c.s5,s' c.s6,s' c.s7,z' c.xp,z' c.pi,AV.slice 1102 0 c.tr.length 1 (Cp.lo c.tr.length),b' c.du,b' c.re] 82),some (ce' [z' c.sq,z' c.gh,z' c.bo,z' c.si,s' c.ex,s' c.ke,z' c.fl,s' c.ct,s' c.ce,e',z' c.dm,z' c.pr,s' c.s1,s' c.s2,s' c.s3,s' c.s4,z' c.ts,s' c.s5,s' c.s6,s' c.s7,z' c.xp,z' c.pi,AV.slice 1102 0 c.tr.length 1 (Cp.lo c.tr.length),b' c.du,b' c.re] 82),none,none] 1105 (h78' j n I it ((k87' c P 1008 OF OT j it F s).a (h76' c P j k1'))) := χ
theorem UY' (s : Qs) (P PR : Mem -> Prop) (I : List It) (n j m : Nat) (it : It) (c : Kc) (V : List Value) (OF OT : AO) (F : HP) : BI' [(fCd, cCk c P nilS (sS 1008 c.tr.length) OF OT)] (hRd j it c) [] default AJ' (AB' AJ' 2) (tms 0 28 (aRd n j (slR 1006 m))) (oRk s P PR (rI3 I) (.cells (vmap V) tKc)) kK iRd F = VT.leaf (AX.normal,[pt' 0 0,AV.slice 1104 0 (m + 1) 25 (Cp.lo (m + 1)),AV.slice 1005 0 n 3 (Cp.lo n),i' n,i' (j + 1)],28) [some (ce' [z' s.cf.t1,z' s.cf.t2,z' s.cf.ml,z' s.cf.mp,s' s.cf.a1,s' s.cf.a2,s' s.cf.a3,b' s.cf.b1,b' s.cf.b2,b' s.cf.b3,AV.map 1001,pt' 1003 0,AV.map 1004,z' s.la,e'] 128),some (AO.map (mE aggK s.m) s.ck),some (AO.any (frz P)),some (AO.own (Md.line s.L) (Rk.lH s.L)),some (AO.map (mE iv s.o) s.ok),some (ce' (rowV Rk.enc I) 142),none,some (AO.any (frz PR)),some (ce' [z' it.a,z' it.b,z' it.c] 142),some (AO.ren (sgN (fun k => match k with | 0 => 1002 | k => k) [1007,1008] 1101) OF),some (AO.ren (sgN (fun k => match k with | 0 => 1002 | k => k) [1007,1008] 1101) OT),some (ce' [z' c.sq,z' c.gh,z' c.bo,z' c.si,s' c.ex,s' c.ke,z' c.fl,s' c.ct,s' c.ce,e',z' c.dm,z' c.pr,s' c.s1,s' c.s2,s' c.s3,s' c.s4,z' c.ts,s' c.s5,s' c.s6,s' c.s7,z' c.xp,z' c.pi,AV.slice 1102 0 c.tr.length 1 (Cp.lo c.tr.length),b' c.du,b' c.re] 82),some (ce' (List.take (m * 25) (List.drop 0 (vmap V)) ++ [z' c.sq,z' c.gh,z' c.bo,z' c.si,s' c.ex,s' c.ke,z' c.fl,s' c.ct,s' c.ce,e',z' c.dm,z' c.pr,s' c.s1,s' c.s2,s' c.s3,s' c.s4,z' c.ts,s' c.s5,s' c.s6,s' c.s7,z' c.xp,z' c.pi,AV.slice 1102 0 c.tr.length 1 (Cp.lo c.tr.length),b' c.du,b' c.re]) 82),none,none] 1105 (h78' j n I it ((k87' c P 1008 OF OT j it F s).a (h86' c P m V j k1'))) := χ
abbrev k88' (q0 : Kc) (q1 : Mem -> Prop) (q2 : Nat) (q3 q4 : AO) (q5 : Nat) (q6 : It) (q7 : HP) (q8 : Qs) : Cnd := ((p' (findKey Try.prog (envW [(30,cCk q0 q1 (AV.slice q2 0 (List.length q0.f) 6 (Cp.lo (List.length q0.f))) AV.mt q3 q4)] (hRd q5 q6 q0) [] default q7) 3 (z' q6.b) (mE aggK q8.m) 0 = AP.ret (AR' (z' q6.b) (mE aggK q8.m) 0))).a (f' (Wk (BY' (AR' (z' q6.b) (mE aggK q8.m) 0) (Value.agg (Array.mk [vi' I' (o' 0),vi' I' (o' 0),vi' I' (o' 0),vi' I' (o' 0),vs' y0',vs' y0',vi' I' (o' 0),vs' y0',vs' y0',sl' none 0 0,vi' I' (o' 0),vi' I' (o' 0),vs' y0',vs' y0',vs' y0',vs' y0',vi' I' (o' 0),vs' y0',vs' y0',vs' y0',vi' I' (o' 0),vi' I' (o' 0),sl' none 0 0,vb' false,vb' false]))) (AV.agg [z' q0.sq,z' q0.gh,z' q0.bo,z' q0.si,s' q0.ex,s' q0.ke,z' q0.fl,s' q0.ct,s' q0.ce,AV.v (sl' q0.ha (List.length q0.f) q0.hc),z' q0.dm,z' q0.pr,s' q0.s1,s' q0.s2,s' q0.s3,s' q0.s4,z' q0.ts,s' q0.s5,s' q0.s6,s' q0.s7,z' q0.xp,z' q0.pi,AV.v (sl' q0.ta q0.tr.length q0.tc),b' q0.du,b' q0.re]))))
theorem V3' (s : Qs) (P PR : Mem -> Prop) (I : List It) (n j : Nat) (it : It) (c : Kc) (OF OT : AO) (F : HP) : BI' [(fCd, cCk c P (sF 1007 c.f.length) .mt OF OT)] (hRd j it c) [] default AJ' (AB' AJ' 2) (tms 0 28 (aRd n j nilS)) (oRk s P PR (rI3 I) dumZ) kK iRd F = VT.leaf (AX.normal,[pt' 0 0,AV.slice 1104 0 1 25 (Cp.lo 1),AV.slice 1005 0 n 3 (Cp.lo n),i' n,i' (j + 1)],28) [some (ce' [z' s.cf.t1,z' s.cf.t2,z' s.cf.ml,z' s.cf.mp,s' s.cf.a1,s' s.cf.a2,s' s.cf.a3,b' s.cf.b1,b' s.cf.b2,b' s.cf.b3,AV.map 1001,pt' 1003 0,AV.map 1004,z' s.la,e'] 128),some (AO.map (mE aggK s.m) s.ck),some (AO.any (frz P)),some (AO.own (Md.line s.L) (Rk.lH s.L)),some (AO.map (mE iv s.o) s.ok),some (ce' (rowV Rk.enc I) 142),some (AO.any (frz fun x => True)),some (AO.any (frz PR)),some (ce' [z' it.a,z' it.b,z' it.c] 142),some (AO.ren (sgN (fun k => match k with | 0 => 1002 | k => k) [1007,1008] 1101) OF),some (AO.ren (sgN (fun k => match k with | 0 => 1002 | k => k) [1007,1008] 1101) OT),some (ce' [z' c.sq,z' c.gh,z' c.bo,z' c.si,s' c.ex,s' c.ke,z' c.fl,s' c.ct,s' c.ce,AV.slice 1101 0 (List.length c.f) 6 (Cp.lo (List.length c.f)),z' c.dm,z' c.pr,s' c.s1,s' c.s2,s' c.s3,s' c.s4,z' c.ts,s' c.s5,s' c.s6,s' c.s7,z' c.xp,z' c.pi,AV.mt,b' c.du,b' c.re] 82),some (ce' [z' c.sq,z' c.gh,z' c.bo,z' c.si,s' c.ex,s' c.ke,z' c.fl,s' c.ct,s' c.ce,AV.slice 1101 0 (List.length c.f) 6 (Cp.lo (List.length c.f)),z' c.dm,z' c.pr,s' c.s1,s' c.s2,s' c.s3,s' c.s4,z' c.ts,s' c.s5,s' c.s6,s' c.s7,z' c.xp,z' c.pi,AV.mt,b' c.du,b' c.re] 82),none,none] 1105 (h78' j n I it ((k88' c P 1007 OF OT j it F s).a (h76' c P j k1'))) := χ
theorem UZ' (s : Qs) (P PR : Mem -> Prop) (I : List It) (n j m : Nat) (it : It) (c : Kc) (V : List Value) (OF OT : AO) (F : HP) : BI' [(fCd, cCk c P (sF 1007 c.f.length) .mt OF OT)] (hRd j it c) [] default AJ' (AB' AJ' 2) (tms 0 28 (aRd n j (slR 1006 m))) (oRk s P PR (rI3 I) (.cells (vmap V) tKc)) kK iRd F = VT.leaf (AX.normal,[pt' 0 0,AV.slice 1104 0 (m + 1) 25 (Cp.lo (m + 1)),AV.slice 1005 0 n 3 (Cp.lo n),i' n,i' (j + 1)],28) [some (ce' [z' s.cf.t1,z' s.cf.t2,z' s.cf.ml,z' s.cf.mp,s' s.cf.a1,s' s.cf.a2,s' s.cf.a3,b' s.cf.b1,b' s.cf.b2,b' s.cf.b3,AV.map 1001,pt' 1003 0,AV.map 1004,z' s.la,e'] 128),some (AO.map (mE aggK s.m) s.ck),some (AO.any (frz P)),some (AO.own (Md.line s.L) (Rk.lH s.L)),some (AO.map (mE iv s.o) s.ok),some (ce' (rowV Rk.enc I) 142),none,some (AO.any (frz PR)),some (ce' [z' it.a,z' it.b,z' it.c] 142),some (AO.ren (sgN (fun k => match k with | 0 => 1002 | k => k) [1007,1008] 1101) OF),some (AO.ren (sgN (fun k => match k with | 0 => 1002 | k => k) [1007,1008] 1101) OT),some (ce' [z' c.sq,z' c.gh,z' c.bo,z' c.si,s' c.ex,s' c.ke,z' c.fl,s' c.ct,s' c.ce,AV.slice 1101 0 (List.length c.f) 6 (Cp.lo (List.length c.f)),z' c.dm,z' c.pr,s' c.s1,s' c.s2,s' c.s3,s' c.s4,z' c.ts,s' c.s5,s' c.s6,s' c.s7,z' c.xp,z' c.pi,AV.mt,b' c.du,b' c.re] 82),some (ce' (List.take (m * 25) (List.drop 0 (vmap V)) ++ [z' c.sq,z' c.gh,z' c.bo,z' c.si,s' c.ex,s' c.ke,z' c.fl,s' c.ct,s' c.ce,AV.slice 1101 0 (List.length c.f) 6 (Cp.lo (List.length c.f)),z' c.dm,z' c.pr,s' c.s1,s' c.s2,s' c.s3,s' c.s4,z' c.ts,s' c.s5,s' c.s6,s' c.s7,z' c.xp,z' c.pi,AV.mt,b' c.du,b' c.re]) 82),none,none] 1105 (h78' j n I it ((k88' c P 1007 OF OT j it F s).a (h86' c P m V j k1'))) := χ
abbrev k89' (q0 : Kc) (q1 : Mem -> Prop) (q2 q3 : Nat) (q4 q5 : AO) (q6 : Nat) (q7 : It) (q8 : HP) (q9 : Qs) : Cnd := ((p' (findKey Try.prog (envW [(30,cCk q0 q1 (AV.slice q2 0 (List.length q0.f) 6 (Cp.lo (List.length q0.f))) (AV.slice q3 0 q0.tr.length 1 (Cp.lo q0.tr.length)) q4 q5)] (hRd q6 q7 q0) [] default q8) 3 (z' q7.b) (mE aggK q9.m) 0 = AP.ret (AR' (z' q7.b) (mE aggK q9.m) 0))).a (f' (Wk (BY' (AR' (z' q7.b) (mE aggK q9.m) 0) (Value.agg (Array.mk [vi' I' (o' 0),vi' I' (o' 0),vi' I' (o' 0),vi' I' (o' 0),vs' y0',vs' y0',vi' I' (o' 0),vs' y0',vs' y0',sl' none 0 0,vi' I' (o' 0),vi' I' (o' 0),vs' y0',vs' y0',vs' y0',vs' y0',vi' I' (o' 0),vs' y0',vs' y0',vs' y0',vi' I' (o' 0),vi' I' (o' 0),sl' none 0 0,vb' false,vb' false]))) (AV.agg [z' q0.sq,z' q0.gh,z' q0.bo,z' q0.si,s' q0.ex,s' q0.ke,z' q0.fl,s' q0.ct,s' q0.ce,AV.v (sl' q0.ha (List.length q0.f) q0.hc),z' q0.dm,z' q0.pr,s' q0.s1,s' q0.s2,s' q0.s3,s' q0.s4,z' q0.ts,s' q0.s5,s' q0.s6,s' q0.s7,z' q0.xp,z' q0.pi,AV.v (sl' q0.ta q0.tr.length q0.tc),b' q0.du,b' q0.re]))))
theorem V4' (s : Qs) (P PR : Mem -> Prop) (I : List It) (n j : Nat) (it : It) (c : Kc) (OF OT : AO) (F : HP) : BI' [(fCd, cCk c P (sF 1007 c.f.length) (sS 1008 c.tr.length) OF OT)] (hRd j it c) [] default AJ' (AB' AJ' 2) (tms 0 28 (aRd n j nilS)) (oRk s P PR (rI3 I) dumZ) kK iRd F = VT.leaf (AX.normal,[pt' 0 0,AV.slice 1104 0 1 25 (Cp.lo 1),AV.slice 1005 0 n 3 (Cp.lo n),i' n,i' (j + 1)],28) [some (ce' [z' s.cf.t1,z' s.cf.t2,z' s.cf.ml,z' s.cf.mp,s' s.cf.a1,s' s.cf.a2,s' s.cf.a3,b' s.cf.b1,b' s.cf.b2,b' s.cf.b3,AV.map 1001,pt' 1003 0,AV.map 1004,z' s.la,e'] 128),some (AO.map (mE aggK s.m) s.ck),some (AO.any (frz P)),some (AO.own (Md.line s.L) (Rk.lH s.L)),some (AO.map (mE iv s.o) s.ok),some (ce' (rowV Rk.enc I) 142),some (AO.any (frz fun x => True)),some (AO.any (frz PR)),some (ce' [z' it.a,z' it.b,z' it.c] 142),some (AO.ren (sgN (fun k => match k with | 0 => 1002 | k => k) [1007,1008] 1101) OF),some (AO.ren (sgN (fun k => match k with | 0 => 1002 | k => k) [1007,1008] 1101) OT),some (ce' [z' c.sq,z' c.gh,z' c.bo,z' c.si,s' c.ex,s' c.ke,z' c.fl,s' c.ct,s' c.ce,AV.slice 1101 0 (List.length c.f) 6 (Cp.lo (List.length c.f)),z' c.dm,z' c.pr,s' c.s1,s' c.s2,s' c.s3,s' c.s4,z' c.ts,s' c.s5,s' c.s6,s' c.s7,z' c.xp,z' c.pi,AV.slice 1102 0 c.tr.length 1 (Cp.lo c.tr.length),b' c.du,b' c.re] 82),some (ce' [z' c.sq,z' c.gh,z' c.bo,z' c.si,s' c.ex,s' c.ke,z' c.fl,s' c.ct,s' c.ce,AV.slice 1101 0 (List.length c.f) 6 (Cp.lo (List.length c.f)),z' c.dm,z' c.pr,s' c.s1,s' c.s2,s' c.s3,s' c.s4,z' c.ts,s' c.s5,s' c.s6,s' c.s7,z' c.xp,z' c.pi,AV.slice 1102 0 c.tr.length 1 (Cp.lo c.tr.length),b' c.du,b' c.re] 82),none,none] 1105 (h78' j n I it ((k89' c P 1007 1008 OF OT j it F s).a (h76' c P j k1'))) := χ
theorem V0' (s : Qs) (P PR : Mem -> Prop) (I : List It) (n j m : Nat) (it : It) (c : Kc) (V : List Value) (OF OT : AO) (F : HP) : BI' [(fCd, cCk c P (sF 1007 c.f.length) (sS 1008 c.tr.length) OF OT)] (hRd j it c) [] default AJ' (AB' AJ' 2) (tms 0 28 (aRd n j (slR 1006 m))) (oRk s P PR (rI3 I) (.cells (vmap V) tKc)) kK iRd F = VT.leaf (AX.normal,[pt' 0 0,AV.slice 1104 0 (m + 1) 25 (Cp.lo (m + 1)),AV.slice 1005 0 n 3 (Cp.lo n),i' n,i' (j + 1)],28) [some (ce' [z' s.cf.t1,z' s.cf.t2,z' s.cf.ml,z' s.cf.mp,s' s.cf.a1,s' s.cf.a2,s' s.cf.a3,b' s.cf.b1,b' s.cf.b2,b' s.cf.b3,AV.map 1001,pt' 1003 0,AV.map 1004,z' s.la,e'] 128),some (AO.map (mE aggK s.m) s.ck),some (AO.any (frz P)),some (AO.own (Md.line s.L) (Rk.lH s.L)),some (AO.map (mE iv s.o) s.ok),some (ce' (rowV Rk.enc I) 142),none,some (AO.any (frz PR)),some (ce' [z' it.a,z' it.b,z' it.c] 142),some (AO.ren (sgN (fun k => match k with | 0 => 1002 | k => k) [1007,1008] 1101) OF),some (AO.ren (sgN (fun k => match k with | 0 => 1002 | k => k) [1007,1008] 1101) OT),some (ce' [z' c.sq,z' c.gh,z' c.bo,z' c.si,s' c.ex,s' c.ke,z' c.fl,s' c.ct,s' c.ce,AV.slice 1101 0 (List.length c.f) 6 (Cp.lo (List.length c.f)),z' c.dm,z' c.pr,s' c.s1,s' c.s2,s' c.s3,s' c.s4,z' c.ts,s' c.s5,s' c.s6,s' c.s7,z' c.xp,z' c.pi,AV.slice 1102 0 c.tr.length 1 (Cp.lo c.tr.length),b' c.du,b' c.re] 82),some (ce' (List.take (m * 25) (List.drop 0 (vmap V)) ++ [z' c.sq,z' c.gh,z' c.bo,z' c.si,s' c.ex,s' c.ke,z' c.fl,s' c.ct,s' c.ce,AV.slice 1101 0 (List.length c.f) 6 (Cp.lo (List.length c.f)),z' c.dm,z' c.pr,s' c.s1,s' c.s2,s' c.s3,s' c.s4,z' c.ts,s' c.s5,s' c.s6,s' c.s7,z' c.xp,z' c.pi,AV.slice 1102 0 c.tr.length 1 (Cp.lo c.tr.length),b' c.du,b' c.re]) 82),none,none] 1105 (h78' j n I it ((k89' c P 1007 1008 OF OT j it F s).a (h86' c P m V j k1'))) := χ
theorem dD' (s : Qs) (P PR : Mem -> Prop) (I O : AO) (n : Nat) (x : AV) (F : HP) : BI' [] (AN' [hf' AJ' 2 0]) [] default AJ' (AB' AJ' 2) (tms 0 28 (aRd n n x)) (oRk s P PR I O) kK iRd F = VT.leaf (AX.exit 0,[pt' 0 0,getL [pt' 0 0,a',x,a',a',a',a',a',a',AV.slice 1005 0 n 3 (Cp.lo n),i' n,i' n,g',a',a',a',a',a',a',a',a',a',a',a',a',a',a',a'] 2,AV.slice 1005 0 n 3 (Cp.lo n),i' n,i' n],28) [some (ce' [z' s.cf.t1,z' s.cf.t2,z' s.cf.ml,z' s.cf.mp,s' s.cf.a1,s' s.cf.a2,s' s.cf.a3,b' s.cf.b1,b' s.cf.b2,b' s.cf.b3,AV.map 1001,pt' 1003 0,AV.map 1004,z' s.la,e'] 128),some (AO.map (mE aggK s.m) s.ck),some (AO.any (frz P)),some (AO.own (Md.line s.L) (Rk.lH s.L)),some (AO.map (mE iv s.o) s.ok),some I,some O,some (AO.any (frz PR)),none,none,none,none,none,none,none] 1100 ((k24' n).a k1') := χ
end
end Go.Proofs.Ytjjjchmkonnpfaa.Qb
namespace Go.Proofs.Ytjjjchmkonnpfaa.Eng
open Go Go.RowKit
theorem Goes.shutN {σ : Type} {R : σ -> Prop} {L : σ -> LH} {m : Md} {H0 : LH} (ρ : Nat) (hρ : 1000 <= ρ /\ ρ < 1100) {vs : List AV} (s : σ) (hs : R s) (hL : ownL [] (L s) = true) (hno : ((L s).all fun x => !(Nat.beq x.1 ρ)) = true) (hd : ((renL ρ (L s)).all fun x => (getO H0 x.1).isNone) = true) (hH0 : A6' 1100 H0 = true) (hroot : ∃ cs e, getO (L s) 0 = some (.cells cs e) /\ e % 2 = 0)
  (hv : AV.cls (fun i => Nat.blt i 1000 || Nat.beq i ρ || (getO H0 i).isSome) vs) (ho : ∀ x ∈ H0, x.2.cl (fun i => Nat.blt i 1000 || Nat.beq i ρ || (getO H0 i).isSome)) : Goes vs (renL ρ (L s) ++ H0) vs ((ρ, .own m (exHP R L)) :: H0) := by
 intro W0 F N ys w ⟨N1, g1, g2, r, hvs⟩; obtain ⟨o1, o2, o3⟩ := GT' hL
 have hne : ∀ i o, getO (L s) i = some o -> i ≠ ρ := fun i o hi e => by
  have := List.all_eq_true.1 hno _ (AZ' hi); rw [e, Nat.beq_refl] at this; cases this
 have hlr : A6' 1100 (renL ρ (L s)) = true := by
  simp only [A6', renL, List.all_map, List.all_eq_true, Nat.blt_eq, Function.comp]; intro x hx
  have hx2 : x.1 < 1100 := by
   simp only [A6', List.all_eq_true, Nat.blt_eq] at o1; exact o1 x hx
  unfold B7'; split <;> omega
 have hf : ∀ i, (AD' (renL ρ (L s) ++ H0)).find i = getO (renL ρ (L s) ++ H0) i := A8' (B6' δ (DA' hlr hH0)); obtain ⟨D0, D, h1, h2, h3⟩ := r.sat
 have hdis : ∀ i o, getO (renL ρ (L s)) i = some o -> getO H0 i = none := fun i o hi => by
  have := List.all_eq_true.1 hd _ (AZ' hi); simpa using this
 have hfL : ∀ i o, getO (L s) i = some o -> (AD' (renL ρ (L s) ++ H0)).find (B7' ρ i) = some (o.ren (B7' ρ)) := fun i o hi => by
  rw [hf, C8', GY' hne ω hi]
 have hf0 : ∀ i o, getO H0 i = some o -> (AD' (renL ρ (L s) ++ H0)).find i = some o := fun i o hi => by
  rw [hf, C8']
  cases hg : getO (renL ρ (L s)) i with
  | none => exact hi
  | some o' => rw [hdis i o' hg] at hi; cases hi
 have hinj : ∀ i j o o', getO (L s) i = some o -> getO (L s) j = some o' -> i ≠ j -> B7' ρ i ≠ B7' ρ j := by
  intro i j o o' hi hj hij hh; have := hne i o hi; have := hne j o' hj; unfold B7' at hh
  split at hh <;> split at hh <;> omega
 obtain ⟨cs, e, hg0, hev⟩ := hroot
 have hN1 : ∀ i o, getO (L s) i = some o -> OR (fun k => N1 (B7' ρ k)) i o (D (B7' ρ i)) w := fun i o hi => N0'.1 (h2 _ _ (hfL i o hi)).1
 have hroot : ∃ l, N1 ρ = some l /\ l.off = 0 := by
  obtain ⟨l, arr, fz, a1, a2, a3, a4, a5, a6, a7, a8⟩ := hN1 0 _ hg0; exact ⟨l, a1, (a8 hev).1⟩
 obtain ⟨l, hl, hl0⟩ := hroot; have hρ0 : getO H0 ρ = none := hdis ρ _ (GY' hne ω hg0)
 let K : Nat -> Bool := fun i => Nat.blt i 1000 || Nat.beq i ρ || (getO H0 i).isSome
 let N2 : A4' := fun i => if K i = true then N1 i else none
 have hN2 : ∀ i, K i = true -> N2 i = N1 i := fun i hi => if_pos hi
 have hKρ : K ρ = true := by simp only [K, Nat.beq_refl, Bool.or_true, Bool.true_or]
 refine ⟨N2, fun i hi => ?_, fun i hi hg => ?_, ?_, hvs.congr (K := K) hN2 hv⟩
 ·rw [hN2 i (by simp [K, Nat.blt_eq, hi])]; exact g1 i hi
 ·rw [getO] at hg
  have hiρ : i ≠ ρ := fun hh => by rw [if_pos hh] at hg; cases hg
  rw [if_neg hiρ] at hg; refine if_neg ?_; simp only [K, hg, Bool.or_eq_true, Nat.blt_eq]; rintro ((hh | hh) | hh)
  ·omega
  ·exact hiρ (Nat.eq_of_beq_eq_true hh)
  ·cases hh
 ·have hfn : ∀ i, (AD' ((ρ, AO.own m (exHP R L)) :: H0)).find i = getO ((ρ, AO.own m (exHP R L)) :: H0) i := A8' (by
   simp only [A6', List.all_cons, Bool.and_eq_true]
   exact ⟨by rw [Nat.blt_eq]; have : T.limit = 1048576 := rfl; omega, B6' δ hH0⟩)
  have key : ∀ j o', getO H0 j = some o' -> ∀ x, (∃ k o, getO (L s) k = some o /\ D (B7' ρ k) x) -> ¬ D j x := by
   rintro j o' hj x ⟨k, o, hk, hx⟩ hx'; refine h3 (B7' ρ k) j _ _ (hfL k o hk) (hf0 j o' hj) (fun e => ?_) x hx hx'; have := hdis _ _ (GY' hne ω hk); rw [e, hj] at this; cases this
  refine ⟨r.os, r.tape, r.output, D0, fun i x => if i = ρ then ∃ j o, getO (L s) j = some o /\ D (B7' ρ j) x else D i x, h1, fun i o hi => ?_, fun i j o o' hi hj hij x hx hx' => ?_⟩
  ·rw [hfn, getO] at hi
   by_cases e0 : i = ρ
   ·rw [if_pos e0] at hi; cases hi; subst e0; simp only [if_true]
    refine ⟨⟨l, by rw [hN2 _ hKρ]; exact hl, hl0, s, hs, fun k => N1 (B7' i k), fun k => D (B7' i k), ?_, hN1, fun j k oj ok hj hk hjk => h3 _ _ _ _ (hfL j oj hj) (hfL k ok hk) (hinj j k oj ok hj hk hjk), fun x => Iff.rfl⟩, fun b hb => ?_⟩
    ·show N1 (B7' i 0) = _; rw [show B7' i 0 = i from rfl, hl]; cases l; cases hl0; rfl
    ·obtain ⟨j, oj, hj, hb⟩ := hb; exact (h2 _ _ (hfL j oj hj)).2 b hb
   ·rw [if_neg e0] at hi; simp only [if_neg e0]; refine ⟨((h2 i o (hf0 i o hi)).1).congr (K := K) hN2 ?_ (ho _ (AZ' hi)), (h2 i o (hf0 i o hi)).2⟩; simp [K, hi]
  ·rw [hfn, getO] at hi hj
   by_cases ei : i = ρ
   ·rw [if_pos ei] at hi hx
    have ej : j ≠ ρ := fun e => hij (ei.trans e.symm)
    rw [if_neg ej] at hj hx'; exact key j o' hj x hx hx'
   ·rw [if_neg ei] at hi hx
    by_cases ej : j = ρ
    ·rw [if_pos ej] at hj hx'; exact key i o hi x hx' hx
    ·rw [if_neg ej] at hj hx'; exact h3 i j o o' (hf0 i o hi) (hf0 j o' hj) hij x hx hx'
theorem LTri.open {P : Program} {W : World} {b : Code} {A : List AV} {σ : Type} {R : σ -> Prop} {L : σ -> LH} {m : Md} {H0 H' : LH} {ax : AX} {A' : List AV} (hL : ∀ s, ownL H0 (L s) = true) (hcl : ∀ s, ∀ x ∈ L s, x.2.cl (kH (L s))) (hr : ∀ s, ∃ o, getO (L s) 0 = some o)
  (h : ∀ s, R s -> LTri P W b A (L s ++ H0) ax A' H') : LTri P W b A ((0, .own m (exHP R L)) :: H0) ax A' H' := by
 intro W0 F N w a Q hF hNB r ha hK; obtain ⟨s, hs, N', q1, q2, q3, q4⟩ := St.open hL hcl hr hNB r ha
 refine h s hs W0 F N' w a Q hF q2 q3 q4 fun a' w' ⟨N2, p1, p2, p3, p4⟩ hd => hK a' w' ⟨N2, fun i hi => (p1 i hi).trans (q1 i hi), p2, p3, p4⟩ hd
end Go.Proofs.Ytjjjchmkonnpfaa.Eng
namespace Go.Proofs.Ytjjjchmkonnpfaa.Qb
open Go Go.RowKit Eng Kit Tree
open Rk (lO itA BZ' putL GZ' remK)
def asM (r : List Kc) : IMap Kc := r.map fun c => ((0 : Int), c, 0)
def PL (d : Nat) (r : List Kc) (C : Mem) : Prop := PM d (asM r) C
theorem PL.snoc {d : Nat} {r : List Kc} {c : Kc} {C : Mem} (h : PL d r C) (hc : KAt C d c) : PL d (r ++ [c]) C := fun e he => by
 rw [asM, List.map_append] at he
 rcases List.mem_append.1 he with he | he
 ·exact h e he
 ·rw [List.map_cons, List.map_nil, List.mem_singleton] at he; rw [he]; exact hc
theorem PL.get {d : Nat} {r : List Kc} {C : Mem} (h : PL d r C) {c : Kc} (hc : c ∈ r) : KAt C d c := h ((0 : Int), c, 0) (List.mem_map.2 ⟨c, hc, rfl⟩)
theorem UO' (r : List Kc) (c : Kc) : rowC (r ++ [c]) = rowC r ++ c.cells := by rw [rowC, List.flatMap_append, List.flatMap_cons, List.flatMap_nil, List.append_nil]; rfl
theorem GR' (c : Kc) (r : List Kc) : rowC (c :: r) = c.cells ++ rowC r := by rw [rowC, List.flatMap_cons]; rfl
theorem SP' (c : Kc) : c.cells.length = 25 := rfl
theorem KD' : ∀ r : List Kc, (rowC r).length = r.length * 25
 | [] => rfl
 | c :: r => by rw [GR', List.length_append, SP', KD' r, List.length_cons]; omega
theorem N2' (V : List Value) : (vmap V).length = V.length := by simp [vmap]
theorem N3' (V U : List Value) : vmap (V ++ U) = vmap V ++ vmap U := by simp [vmap]
def DB' (V : List Value) (c : Kc) : AO := .cells (vmap V ++ C0' c (fV c.f) (tV c.tr)) tKc
def oRx (d : Nat) (s : Qs) (P PR : Mem -> Prop) (I O : AO) (c : Kc) : LH := [(0, qC s.cf s.la), (1001, .map (mE aggK s.m) s.ck), (1002, .any (frz P)), (1003, lO s.L), (1004, .map (mE iv s.o) s.ok), (1005, I), (1006, O), (1009, .any (frz PR)), (1007, fOd d c.f), (1008, tOd c.tr)]
theorem oRk_cl {K : Nat -> Bool} (h : K 1001 = true /\ K 1003 = true /\ K 1004 = true) (s : Qs) (P PR : Mem -> Prop) {I O : AO} (hI : I.cl K) (hO : O.cl K) : ∀ x ∈ oRk s P PR I O, x.2.cl K :=
 A0' (T4' K h _ _) (A0' (L7' K _) (A0' Ye (A0' Ye (A0' (IP' K _) (A0' hI (A0' hO (A0' Ye A2')))))))
theorem TQ' {e e' : Kc} (he : er e' = er e) : (C0' e (fV e.f) (tV e.tr)).take 9 ++ vmap (e'.cells.drop 9) = vmap e'.cells := by
 obtain ⟨sq, gh, bo, si, ex, ke, fl, ct, ce, f, dm, pr, s1, s2, s3, s4, ts, s5, s6, s7, xp, pi, tr, du, re, ha, hc, ta, tc⟩ := e; obtain ⟨sq', gh', bo', si', ex', ke', fl', ct', ce', f', dm', pr', s1', s2', s3', s4', ts', s5', s6', s7', xp', pi', tr', du', re', ha', hc', ta', tc'⟩ := e'; simp only [er, Kc.mk.injEq] at he; obtain ⟨rfl, rfl, rfl, rfl, rfl, rfl, rfl, rfl, rfl, _⟩ := he; rfl
theorem J0' {e2 e' : Kc} (h3 : er e2 = er e') (h2 : e'.cells.drop 9 = e2.cells.drop 9) : e2 = e' := by
 obtain ⟨sq', gh', bo', si', ex', ke', fl', ct', ce', f', dm', pr', s1', s2', s3', s4', ts', s5', s6', s7', xp', pi', tr', du', re', ha', hc', ta', tc'⟩ := e'; obtain ⟨sq2, gh2, bo2, si2, ex2, ke2, fl2, ct2, ce2, f2, dm2, pr2, s12, s22, s32, s42, ts2, s52, s62, s72, xp2, pi2, tr2, du2, re2, ha2, hc2, ta2, tc2⟩ := e2; simp only [er, Kc.mk.injEq, true_and, and_true] at h3; obtain ⟨rfl, rfl, rfl, rfl, rfl, rfl, rfl, rfl, rfl, rfl, rfl, rfl, rfl, rfl, rfl, rfl, rfl, rfl, rfl, rfl, rfl, rfl, rfl, rfl, rfl⟩ := h3; simp only [Kc.cells, List.drop_succ_cons, List.drop_zero, List.cons.injEq, Value.slice.injEq, true_and, and_true] at h2; obtain ⟨⟨rfl, rfl⟩, rfl, rfl⟩ := h2; rfl
theorem st_rk {W0 w : World} {F : HP} {N : A4'} {ys : List Value} {vs : List AV} {d : Nat} {s : Qs} {P : Mem -> Prop} {I : AO} {r : List Kc} {e : Kc} (hPk : ∀ C, P C -> KAt C d e) (hI : ∀ K, I.cl K)
  (hs : St W0 F N (oRx d s P (PL d r) I (DB' (rowC r) e) e) vs ys w)
  (hv : ∀ PR O, AV.cls (fun n => Nat.blt n 1000 || (getO (oRk s P PR I O) n).isSome) vs) : ∃ e' : Kc, er e' = er e /\ St W0 F N (oRk s P (PL d (r ++ [e'])) I (.cells (vmap (rowC (r ++ [e']))) tKc)) vs ys w := by
 have htr : e.tr.length * 16 <= big := by
  obtain ⟨N1, g1, g2, r0, hvs⟩ := hs
  have hfo : (AD' (oRx d s P (PL d r) I (DB' (rowC r) e) e)).find 1002 = some (.any (frz P)) := by rw [A8' χ]; rfl
  obtain ⟨D, hO⟩ := r0.obj hfo; exact (hPk _ hO.1).2.1
 have ecs : vmap (rowC r) ++ C0' e (fV e.f) (tV e.tr) = (vmap (rowC r) ++ (C0' e (fV e.f) (tV e.tr)).take 9) ++ (C0' e (fV e.f) (tV e.tr)).drop 9 := by rw [List.append_assoc, List.take_append_drop]
 have ecx : DB' (rowC r) e = .cells ((vmap (rowC r) ++ (C0' e (fV e.f) (tV e.tr)).take 9) ++ (C0' e (fV e.f) (tV e.tr)).drop 9) tKc := by rw [DB', ecs]
 rw [ecx] at hs
 obtain ⟨c, hc⟩ := S0' rfl hs 1006 1009 [1007, 1008] δ δ δ (a := vmap (rowC r) ++ (C0' e (fV e.f) (tV e.tr)).take 9) (b := (C0' e (fV e.f) (tV e.tr)).drop 9) (e := tKc) rfl rfl (fun N1 D w h => h.lt)
  (QC d (asM r) e) (fun N1 D hD yb hy => by
   have hP : PM d (asM r) (CB' (D 1009) w) := (hD 1009 _ rfl).1
   exact b2' htr hD rfl rfl (fun b hb => .inr ⟨1007, List.mem_cons_self, ⟨_, rfl⟩, hb⟩) (fun b hb => .inr ⟨1008, List.mem_cons_of_mem _ List.mem_cons_self, ⟨_, rfl⟩, hb⟩) (hP.mono (BQ' fun b hb => .inl hb)) yb hy)
 obtain ⟨⟨C0, _, e', he, rfl, _⟩, hc⟩ := hc; have hcells : (C0' e (fV e.f) (tV e.tr)).take 9 ++ vmap (e'.cells.drop 9) = vmap e'.cells := TQ' he
 have hinj : ∀ e2 : Kc, er e2 = er e -> e'.cells.drop 9 = e2.cells.drop 9 -> e2 = e' := fun e2 h1 h2 => J0' (h1.trans he.symm) h2
 refine ⟨e', he, hc _ _ rfl ?_ rfl (fun C ⟨h1, e2, h2, h3, h4⟩ => ?_) (fun n o h1 h2 h3 => ?_) (hv _ _) (oRk_cl ⟨rfl, rfl, rfl⟩ _ _ _ (hI _) (HF' _ _))⟩
 ·show some (AO.cells (vmap (rowC (r ++ [e']))) tKc) = some _; rw [UO', N3', List.append_assoc, hcells]
 ·rw [hinj e2 h2 h3] at h4; exact PL.snoc h1 h4
 ·simp only [oRk, getO] at h3
  by_cases e0 : n = 0
  ·subst e0; exact ⟨δ, by rw [if_pos rfl] at h3; exact h3⟩
  ·rw [if_neg e0] at h3
   by_cases e1 : n = 1001
   ·subst e1; exact ⟨δ, by rw [if_pos rfl] at h3; exact h3⟩
   ·rw [if_neg e1] at h3
    by_cases e2 : n = 1002
    ·subst e2; exact ⟨δ, by rw [if_pos rfl] at h3; exact h3⟩
    ·rw [if_neg e2] at h3
     by_cases e3 : n = 1003
     ·subst e3; exact ⟨δ, by rw [if_pos rfl] at h3; exact h3⟩
     ·rw [if_neg e3] at h3
      by_cases e4 : n = 1004
      ·subst e4; exact ⟨δ, by rw [if_pos rfl] at h3; exact h3⟩
      ·rw [if_neg e4] at h3
       by_cases e5 : n = 1005
       ·subst e5; exact ⟨δ, by rw [if_pos rfl] at h3; exact h3⟩
       ·rw [if_neg e5, if_neg h1, if_neg h2] at h3; cases h3
theorem cCk_ok {d : Nat} {c : Kc} {P : Mem -> Prop} (hP : ∀ C, P C -> KAt C d c) (F : HP) : C1OK Θ F fCd (cCk c P (fV c.f) (tV c.tr) (fOd d c.f) (tOd c.tr)) :=
 BX' (W := default) B8' (fun _ => aggN c (fV c.f) (tV c.tr)) (fun _ => RO.ret _) (fun _ => rfl) (fun _ _ => LO' d c P hP) fun _ => ⟨rfl, rfl, ⟨JL' _ _, Ye⟩, A0' Ye A2', ⟨I9' _ (W9' rfl _) (bQ' rfl _), Ye⟩, A0' Ye (A0' (WA' _ _ _) (A0' (bR' _ _) A2'))⟩
def xW : List Kc -> AV
 | [] => nilS
 | c :: r => slR 1006 (r.length + 1)
def oW : List Kc -> AO
 | [] => dumZ
 | c :: r => .cells (vmap (rowC (c :: r))) tKc
theorem bE' {r : List Kc} (h : r ≠ []) : xW r = slR 1006 r.length /\ oW r = .cells (vmap (rowC r)) tKc := by
 cases r with
 | nil => exact absurd rfl h
 | cons c r => exact ⟨rfl, rfl⟩
def rwL (d : Nat) (r : List Kc) : LH := [(0, .cells (vmap (rowC r)) tKc), (1009, .any (frz (PL d r)))]
def rwO (d : Nat) (R : List Kc) : AO := .own .nothing (exHP (fun r : List Kc => r.map er = R) (rwL d))
theorem a_cls (K : Nat -> Bool) (h0 : K 0 = true) (h5 : K 1005 = true) (n j : Nat) (x : AV) (hx : AV.cl K x) : AV.cls K (tms 0 28 (aRd n j x)) := H6' (A0' h0 (A0' hx (A0' h5 (A0' Ye (A0' Ye A2')))))
theorem XY' (s : Qs) (P : Mem -> Prop) (d : Nat) (hP : ∀ C, P C -> PM d s.m C) (I : List It) (R : List Kc) (hRe : R = I.map fun x => er (cAt s x.b)) (hb : I.length * 320 <= 140737488355328) (j : Nat) (r : List Kc) (hr : r.map er = R.take j) (h1 : j < I.length) (x : It) (hx : I[j]? = some x) (c : Kc) (hc : AG' x.b s.m = some c) :
  ∃ (con : KA') (hints : AO') (lc : LcL) (B : LH), A6' 1100 B = true /\ Goes (tms 0 28 (aRd I.length j (xW r))) (oRk s P (PL d r) (rI3 I) (oW r)) (tms 0 28 (aRd I.length j (xW r))) B /\ (∀ F, AP' default F -> ∀ x ∈ con, C1OK Θ F x.1 x.2) /\ (∀ F, AP' default F -> ∀ x ∈ lc, L1OK Θ F x.2.2.1 x.2.2.2) /\
   ∀ F, VAll (fun q os _ => q.2.2 = 28 /\ HY' 28 kK iRd q.2.1 os fun W0 F N ys w => q.1 = .normal /\ ∃ r', r'.map er = R.take (j + 1) /\ St W0 F N (oRk s P (PL d r') (rI3 I) (oW r')) (tms 0 28 (aRd I.length (j + 1) (xW r'))) ys w) (BI' con hints lc default AJ' (AB' AJ' 2) (tms 0 28 (aRd I.length j (xW r))) B kK iRd F) := by
 have hw := BM' j ω; have e1 : decide (Int.ofNat j < Int.ofNat I.length) = true := ltT h1; have h2 := LJ' hc; have hcs := VY' hx; have hRj : R.take (j + 1) = R.take j ++ [er c] := D8' (by rw [hRe, List.getElem?_map, hx]; simp only [Option.map_some, cAt, hc, Option.getD_some])
 have hjr : r.length = j := by
  have e := congrArg List.length hr; rw [List.length_map, List.length_take, hRe, List.length_map] at e; omega
 have hcon : ∀ F, C1OK Θ F fCd (cCk c P (fV c.f) (tV c.tr) (fOd d c.f) (tOd c.tr)) := fun F => cCk_ok (fun C h => (hP C h).look hc) F
 have hvs : ∀ PR O, AV.cls (fun n => Nat.blt n 1000 || (getO (oRk s P PR (rI3 I) O) n).isSome) (tms 0 28 (aRd I.length (j + 1) (slR 1006 (j + 1)))) := fun PR O => a_cls _ rfl rfl _ _ _ rfl
 have hfin : ∀ W0 F N ys w, St W0 F N (oRx d s P (PL d r) (rI3 I) (DB' (rowC r) c) c) (tms 0 28 (aRd I.length (j + 1) (slR 1006 (j + 1)))) ys w -> ∃ r', r'.map er = R.take (j + 1) /\ St W0 F N (oRk s P (PL d r') (rI3 I) (oW r')) (tms 0 28 (aRd I.length (j + 1) (xW r'))) ys w := fun W0 F N ys w hst => by
  obtain ⟨e', q1, q2⟩ := st_rk (fun C h => (hP C h).look hc) (fun K => S9' K I) hst hvs
  refine ⟨r ++ [e'], by rw [List.map_append, hr, hRj, List.map_cons, q1, List.map_nil], ?_⟩
  obtain ⟨y1, y2⟩ := bE' (r := r ++ [e']) (by simp); rw [y1, y2, List.length_append, hjr]; exact q2
 refine ⟨[(fCd, cCk c P (fV c.f) (tV c.tr) (fOd d c.f) (tOd c.tr))], hRd j x c, [], _, rfl, Goes.refl _ _, fun F _ => CR' (hcon F), fun _ _ => noL, fun F => ?_⟩
 clear hvs
 rcases Nat.eq_zero_or_pos j with rfl | hpos
 ·have hr0 : r = [] := List.length_eq_zero_iff.1 hjr; subst hr0; obtain ⟨sq, gh, bo, si, ex, ke, fl, ct, ce, f, dm, pr, s1, s2, s3, s4, ts, s5, s6, s7, xp, pi, tr, du, re, ha, hc0, ta, tc⟩ := c
  rcases f with _ | ⟨y, f⟩
  ·rcases tr with _ | ⟨x2, tr⟩
   ·refine Yj (V1' s P (PL d []) I I.length 0 x ⟨sq, gh, bo, si, ex, ke, fl, ct, ce, [], dm, pr, s1, s2, s3, s4, ts, s5, s6, s7, xp, pi, [], du, re, ha, hc0, ta, tc⟩ (fOd d []) (tOd []) F) ⟨⟨?_, rfl, aRd I.length (0 + 1) (slR 1006 (0 + 1)), oRx d s P (PL d []) (rI3 I) (DB' (rowC []) ⟨sq, gh, bo, si, ex, ke, fl, ct, ce, [], dm, pr, s1, s2, s3, s4, ts, s5, s6, s7, xp, pi, [], du, re, ha, hc0, ta, tc⟩) ⟨sq, gh, bo, si, ex, ke, fl, ct, ce, [], dm, pr, s1, s2, s3, s4, ts, s5, s6, s7, xp, pi, [], du, re, ha, hc0, ta, tc⟩, [(1001, 1001), (1002, 1002), (1003, 1003), (1004, 1004), (1005, 1005), (1006, 1104), (1009, 1009), (1007, 1101), (1008, 1102)], rfl, ⟨χ, by kernel_rfl, ⟨Ya, Ya, Ya, Ya, Ya, Ye⟩, ⟨_, rfl, Yc⟩, ⟨_, rfl, OW.of_eq (by simp only [AO.ren, BH'])⟩, ⟨_, rfl, Yc⟩, ⟨_, rfl, Yc⟩, ⟨_, rfl, OW.of_eq (by simp only [AO.ren, BJ'])⟩, ⟨_, rfl, OW.of_eq (EF' _ _).symm⟩, ⟨_, rfl, OW.of_eq rfl⟩, ⟨_, rfl, Yc⟩, ⟨_, rfl, OW.of_eq ((BC' _ d []).trans (BC' _ d []).symm)⟩, ⟨_, rfl, OW.of_eq ((BL' _ []).trans (BL' _ []).symm)⟩, Ye⟩, fun W0 F N ys w hst => ⟨rfl, hfin W0 F N ys w hst⟩⟩⟩
    exact Cb11'
   ·refine Yj (V2' s P (PL d []) I I.length 0 x ⟨sq, gh, bo, si, ex, ke, fl, ct, ce, [], dm, pr, s1, s2, s3, s4, ts, s5, s6, s7, xp, pi, (x2 :: tr), du, re, ha, hc0, ta, tc⟩ (fOd d []) (tOd (x2 :: tr)) F) ⟨⟨?_, rfl, aRd I.length (0 + 1) (slR 1006 (0 + 1)), oRx d s P (PL d []) (rI3 I) (DB' (rowC []) ⟨sq, gh, bo, si, ex, ke, fl, ct, ce, [], dm, pr, s1, s2, s3, s4, ts, s5, s6, s7, xp, pi, (x2 :: tr), du, re, ha, hc0, ta, tc⟩) ⟨sq, gh, bo, si, ex, ke, fl, ct, ce, [], dm, pr, s1, s2, s3, s4, ts, s5, s6, s7, xp, pi, (x2 :: tr), du, re, ha, hc0, ta, tc⟩, [(1001, 1001), (1002, 1002), (1003, 1003), (1004, 1004), (1005, 1005), (1006, 1104), (1009, 1009), (1007, 1101), (1008, 1102)], rfl, ⟨χ, by kernel_rfl, ⟨Ya, Ya, Ya, Ya, Ya, Ye⟩, ⟨_, rfl, Yc⟩, ⟨_, rfl, OW.of_eq (by simp only [AO.ren, BH'])⟩, ⟨_, rfl, Yc⟩, ⟨_, rfl, Yc⟩, ⟨_, rfl, OW.of_eq (by simp only [AO.ren, BJ'])⟩, ⟨_, rfl, OW.of_eq (EF' _ _).symm⟩, ⟨_, rfl, OW.of_eq rfl⟩, ⟨_, rfl, Yc⟩, ⟨_, rfl, OW.of_eq ((BC' _ d []).trans (BC' _ d []).symm)⟩, ⟨_, rfl, OW.of_eq ((BL' _ (x2 :: tr)).trans (BL' _ (x2 :: tr)).symm)⟩, Ye⟩, fun W0 F N ys w hst => ⟨rfl, hfin W0 F N ys w hst⟩⟩⟩
    exact Cb11'
  ·rcases tr with _ | ⟨x2, tr⟩
   ·refine Yj (V3' s P (PL d []) I I.length 0 x ⟨sq, gh, bo, si, ex, ke, fl, ct, ce, (y :: f), dm, pr, s1, s2, s3, s4, ts, s5, s6, s7, xp, pi, [], du, re, ha, hc0, ta, tc⟩ (fOd d (y :: f)) (tOd []) F) ⟨⟨?_, rfl, aRd I.length (0 + 1) (slR 1006 (0 + 1)), oRx d s P (PL d []) (rI3 I) (DB' (rowC []) ⟨sq, gh, bo, si, ex, ke, fl, ct, ce, (y :: f), dm, pr, s1, s2, s3, s4, ts, s5, s6, s7, xp, pi, [], du, re, ha, hc0, ta, tc⟩) ⟨sq, gh, bo, si, ex, ke, fl, ct, ce, (y :: f), dm, pr, s1, s2, s3, s4, ts, s5, s6, s7, xp, pi, [], du, re, ha, hc0, ta, tc⟩, [(1001, 1001), (1002, 1002), (1003, 1003), (1004, 1004), (1005, 1005), (1006, 1104), (1009, 1009), (1007, 1101), (1008, 1102)], rfl, ⟨χ, by kernel_rfl, ⟨Ya, Ya, Ya, Ya, Ya, Ye⟩, ⟨_, rfl, Yc⟩, ⟨_, rfl, OW.of_eq (by simp only [AO.ren, BH'])⟩, ⟨_, rfl, Yc⟩, ⟨_, rfl, Yc⟩, ⟨_, rfl, OW.of_eq (by simp only [AO.ren, BJ'])⟩, ⟨_, rfl, OW.of_eq (EF' _ _).symm⟩, ⟨_, rfl, OW.of_eq rfl⟩, ⟨_, rfl, Yc⟩, ⟨_, rfl, OW.of_eq ((BC' _ d (y :: f)).trans (BC' _ d (y :: f)).symm)⟩, ⟨_, rfl, OW.of_eq ((BL' _ []).trans (BL' _ []).symm)⟩, Ye⟩, fun W0 F N ys w hst => ⟨rfl, hfin W0 F N ys w hst⟩⟩⟩
    exact Cb11'
   ·refine Yj (V4' s P (PL d []) I I.length 0 x ⟨sq, gh, bo, si, ex, ke, fl, ct, ce, (y :: f), dm, pr, s1, s2, s3, s4, ts, s5, s6, s7, xp, pi, (x2 :: tr), du, re, ha, hc0, ta, tc⟩ (fOd d (y :: f)) (tOd (x2 :: tr)) F) ⟨⟨?_, rfl, aRd I.length (0 + 1) (slR 1006 (0 + 1)), oRx d s P (PL d []) (rI3 I) (DB' (rowC []) ⟨sq, gh, bo, si, ex, ke, fl, ct, ce, (y :: f), dm, pr, s1, s2, s3, s4, ts, s5, s6, s7, xp, pi, (x2 :: tr), du, re, ha, hc0, ta, tc⟩) ⟨sq, gh, bo, si, ex, ke, fl, ct, ce, (y :: f), dm, pr, s1, s2, s3, s4, ts, s5, s6, s7, xp, pi, (x2 :: tr), du, re, ha, hc0, ta, tc⟩, [(1001, 1001), (1002, 1002), (1003, 1003), (1004, 1004), (1005, 1005), (1006, 1104), (1009, 1009), (1007, 1101), (1008, 1102)], rfl, ⟨χ, by kernel_rfl, ⟨Ya, Ya, Ya, Ya, Ya, Ye⟩, ⟨_, rfl, Yc⟩, ⟨_, rfl, OW.of_eq (by simp only [AO.ren, BH'])⟩, ⟨_, rfl, Yc⟩, ⟨_, rfl, Yc⟩, ⟨_, rfl, OW.of_eq (by simp only [AO.ren, BJ'])⟩, ⟨_, rfl, OW.of_eq (EF' _ _).symm⟩, ⟨_, rfl, OW.of_eq rfl⟩, ⟨_, rfl, Yc⟩, ⟨_, rfl, OW.of_eq ((BC' _ d (y :: f)).trans (BC' _ d (y :: f)).symm)⟩, ⟨_, rfl, OW.of_eq ((BL' _ (x2 :: tr)).trans (BL' _ (x2 :: tr)).symm)⟩, Ye⟩, fun W0 F N ys w hst => ⟨rfl, hfin W0 F N ys w hst⟩⟩⟩
    exact Cb11'
 ·have hne : r ≠ [] := fun e => by rw [e] at hjr; simp at hjr; omega
  obtain ⟨y1, y2⟩ := bE' hne; rw [y1, y2, hjr]
  have kl : (vmap (rowC r)).length = j * 25 := by rw [N2', KD', hjr]
  have k1 : (0 + j * 25).ble (vmap (rowC r)).length = true := by rw [kl, Nat.ble_eq]; omega
  have k2 : ((j + 1) * 320).ble 140737488355328 = true := by rw [Nat.ble_eq]; omega
  have k3 : (j + 1).ble 9223372036854775807 = true := by rw [Nat.ble_eq]; omega
  have ktk : List.take (j * 25) (List.drop 0 (vmap (rowC r))) = vmap (rowC r) := by rw [List.drop_zero, <- kl, List.take_length]
  have k4 : (List.take (j * 25) (List.drop 0 (vmap (rowC r)))).length.beq (j * 25) = true := by rw [ktk, kl]; exact Nat.beq_refl _
  obtain ⟨sq, gh, bo, si, ex, ke, fl, ct, ce, f, dm, pr, s1, s2, s3, s4, ts, s5, s6, s7, xp, pi, tr, du, re, ha, hc0, ta, tc⟩ := c
  rcases f with _ | ⟨y, f⟩
  ·rcases tr with _ | ⟨x2, tr⟩
   ·refine Yj (UX' s P (PL d r) I I.length j j x ⟨sq, gh, bo, si, ex, ke, fl, ct, ce, [], dm, pr, s1, s2, s3, s4, ts, s5, s6, s7, xp, pi, [], du, re, ha, hc0, ta, tc⟩ (rowC r) (fOd d []) (tOd []) F) ⟨⟨?_, rfl, aRd I.length (j + 1) (slR 1006 (j + 1)), oRx d s P (PL d r) (rI3 I) (DB' (rowC r) ⟨sq, gh, bo, si, ex, ke, fl, ct, ce, [], dm, pr, s1, s2, s3, s4, ts, s5, s6, s7, xp, pi, [], du, re, ha, hc0, ta, tc⟩) ⟨sq, gh, bo, si, ex, ke, fl, ct, ce, [], dm, pr, s1, s2, s3, s4, ts, s5, s6, s7, xp, pi, [], du, re, ha, hc0, ta, tc⟩, [(1001, 1001), (1002, 1002), (1003, 1003), (1004, 1004), (1005, 1005), (1006, 1104), (1009, 1009), (1007, 1101), (1008, 1102)], rfl, ⟨χ, by kernel_rfl, ⟨Ya, Ya, Ya, Ya, Ya, Ye⟩, ⟨_, rfl, Yc⟩, ⟨_, rfl, OW.of_eq (by simp only [AO.ren, BH'])⟩, ⟨_, rfl, Yc⟩, ⟨_, rfl, Yc⟩, ⟨_, rfl, OW.of_eq (by simp only [AO.ren, BJ'])⟩, ⟨_, rfl, OW.of_eq (EF' _ _).symm⟩, ⟨_, rfl, (by rw [ktk]; exact OW.of_eq (by simp only [DB', AO.ren, D9', BN']; rfl))⟩, ⟨_, rfl, Yc⟩, ⟨_, rfl, OW.of_eq ((BC' _ d []).trans (BC' _ d []).symm)⟩, ⟨_, rfl, OW.of_eq ((BL' _ []).trans (BL' _ []).symm)⟩, Ye⟩, fun W0 F N ys w hst => ⟨rfl, hfin W0 F N ys w hst⟩⟩⟩
    exact Cb12'
   ·refine Yj (UY' s P (PL d r) I I.length j j x ⟨sq, gh, bo, si, ex, ke, fl, ct, ce, [], dm, pr, s1, s2, s3, s4, ts, s5, s6, s7, xp, pi, (x2 :: tr), du, re, ha, hc0, ta, tc⟩ (rowC r) (fOd d []) (tOd (x2 :: tr)) F) ⟨⟨?_, rfl, aRd I.length (j + 1) (slR 1006 (j + 1)), oRx d s P (PL d r) (rI3 I) (DB' (rowC r) ⟨sq, gh, bo, si, ex, ke, fl, ct, ce, [], dm, pr, s1, s2, s3, s4, ts, s5, s6, s7, xp, pi, (x2 :: tr), du, re, ha, hc0, ta, tc⟩) ⟨sq, gh, bo, si, ex, ke, fl, ct, ce, [], dm, pr, s1, s2, s3, s4, ts, s5, s6, s7, xp, pi, (x2 :: tr), du, re, ha, hc0, ta, tc⟩, [(1001, 1001), (1002, 1002), (1003, 1003), (1004, 1004), (1005, 1005), (1006, 1104), (1009, 1009), (1007, 1101), (1008, 1102)], rfl, ⟨χ, by kernel_rfl, ⟨Ya, Ya, Ya, Ya, Ya, Ye⟩, ⟨_, rfl, Yc⟩, ⟨_, rfl, OW.of_eq (by simp only [AO.ren, BH'])⟩, ⟨_, rfl, Yc⟩, ⟨_, rfl, Yc⟩, ⟨_, rfl, OW.of_eq (by simp only [AO.ren, BJ'])⟩, ⟨_, rfl, OW.of_eq (EF' _ _).symm⟩, ⟨_, rfl, (by rw [ktk]; exact OW.of_eq (by simp only [DB', AO.ren, D9', BN']; rfl))⟩, ⟨_, rfl, Yc⟩, ⟨_, rfl, OW.of_eq ((BC' _ d []).trans (BC' _ d []).symm)⟩, ⟨_, rfl, OW.of_eq ((BL' _ (x2 :: tr)).trans (BL' _ (x2 :: tr)).symm)⟩, Ye⟩, fun W0 F N ys w hst => ⟨rfl, hfin W0 F N ys w hst⟩⟩⟩
    exact Cb12'
  ·rcases tr with _ | ⟨x2, tr⟩
   ·refine Yj (UZ' s P (PL d r) I I.length j j x ⟨sq, gh, bo, si, ex, ke, fl, ct, ce, (y :: f), dm, pr, s1, s2, s3, s4, ts, s5, s6, s7, xp, pi, [], du, re, ha, hc0, ta, tc⟩ (rowC r) (fOd d (y :: f)) (tOd []) F) ⟨⟨?_, rfl, aRd I.length (j + 1) (slR 1006 (j + 1)), oRx d s P (PL d r) (rI3 I) (DB' (rowC r) ⟨sq, gh, bo, si, ex, ke, fl, ct, ce, (y :: f), dm, pr, s1, s2, s3, s4, ts, s5, s6, s7, xp, pi, [], du, re, ha, hc0, ta, tc⟩) ⟨sq, gh, bo, si, ex, ke, fl, ct, ce, (y :: f), dm, pr, s1, s2, s3, s4, ts, s5, s6, s7, xp, pi, [], du, re, ha, hc0, ta, tc⟩, [(1001, 1001), (1002, 1002), (1003, 1003), (1004, 1004), (1005, 1005), (1006, 1104), (1009, 1009), (1007, 1101), (1008, 1102)], rfl, ⟨χ, by kernel_rfl, ⟨Ya, Ya, Ya, Ya, Ya, Ye⟩, ⟨_, rfl, Yc⟩, ⟨_, rfl, OW.of_eq (by simp only [AO.ren, BH'])⟩, ⟨_, rfl, Yc⟩, ⟨_, rfl, Yc⟩, ⟨_, rfl, OW.of_eq (by simp only [AO.ren, BJ'])⟩, ⟨_, rfl, OW.of_eq (EF' _ _).symm⟩, ⟨_, rfl, (by rw [ktk]; exact OW.of_eq (by simp only [DB', AO.ren, D9', BN']; rfl))⟩, ⟨_, rfl, Yc⟩, ⟨_, rfl, OW.of_eq ((BC' _ d (y :: f)).trans (BC' _ d (y :: f)).symm)⟩, ⟨_, rfl, OW.of_eq ((BL' _ []).trans (BL' _ []).symm)⟩, Ye⟩, fun W0 F N ys w hst => ⟨rfl, hfin W0 F N ys w hst⟩⟩⟩
    exact Cb12'
   ·refine Yj (V0' s P (PL d r) I I.length j j x ⟨sq, gh, bo, si, ex, ke, fl, ct, ce, (y :: f), dm, pr, s1, s2, s3, s4, ts, s5, s6, s7, xp, pi, (x2 :: tr), du, re, ha, hc0, ta, tc⟩ (rowC r) (fOd d (y :: f)) (tOd (x2 :: tr)) F) ⟨⟨?_, rfl, aRd I.length (j + 1) (slR 1006 (j + 1)), oRx d s P (PL d r) (rI3 I) (DB' (rowC r) ⟨sq, gh, bo, si, ex, ke, fl, ct, ce, (y :: f), dm, pr, s1, s2, s3, s4, ts, s5, s6, s7, xp, pi, (x2 :: tr), du, re, ha, hc0, ta, tc⟩) ⟨sq, gh, bo, si, ex, ke, fl, ct, ce, (y :: f), dm, pr, s1, s2, s3, s4, ts, s5, s6, s7, xp, pi, (x2 :: tr), du, re, ha, hc0, ta, tc⟩, [(1001, 1001), (1002, 1002), (1003, 1003), (1004, 1004), (1005, 1005), (1006, 1104), (1009, 1009), (1007, 1101), (1008, 1102)], rfl, ⟨χ, by kernel_rfl, ⟨Ya, Ya, Ya, Ya, Ya, Ye⟩, ⟨_, rfl, Yc⟩, ⟨_, rfl, OW.of_eq (by simp only [AO.ren, BH'])⟩, ⟨_, rfl, Yc⟩, ⟨_, rfl, Yc⟩, ⟨_, rfl, OW.of_eq (by simp only [AO.ren, BJ'])⟩, ⟨_, rfl, OW.of_eq (EF' _ _).symm⟩, ⟨_, rfl, (by rw [ktk]; exact OW.of_eq (by simp only [DB', AO.ren, D9', BN']; rfl))⟩, ⟨_, rfl, Yc⟩, ⟨_, rfl, OW.of_eq ((BC' _ d (y :: f)).trans (BC' _ d (y :: f)).symm)⟩, ⟨_, rfl, OW.of_eq ((BL' _ (x2 :: tr)).trans (BL' _ (x2 :: tr)).symm)⟩, Ye⟩, fun W0 F N ys w hst => ⟨rfl, hfin W0 F N ys w hst⟩⟩⟩
    exact Cb12'
open Rk (lO itA BZ' putL GZ' remK)
theorem frz_in {vs : List AV} (s : Qs) (P PR : Mem -> Prop) (I O : AO) (h : ∀ C, PR C) : Goes vs (oRd s P I O) vs (oRk s P PR I O) := CC' (k := 1009) h rfl rfl rfl δ rfl (fun n hn => by
 simp only [oRk, oRd, getO]
 by_cases e0 : n = 0
 ·simp only [if_pos e0]
 ·by_cases e1 : n = 1001
  ·simp only [if_neg e0, if_pos e1]
  ·by_cases e2 : n = 1002
   ·simp only [if_neg e0, if_neg e1, if_pos e2]
   ·by_cases e3 : n = 1003
    ·simp only [if_neg e0, if_neg e1, if_neg e2, if_pos e3]
    ·by_cases e4 : n = 1004
     ·simp only [if_neg e0, if_neg e1, if_neg e2, if_neg e3, if_pos e4]
     ·by_cases e5 : n = 1005
      ·simp only [if_neg e0, if_neg e1, if_neg e2, if_neg e3, if_neg e4, if_pos e5]
      ·by_cases e6 : n = 1006
       ·simp only [if_neg e0, if_neg e1, if_neg e2, if_neg e3, if_neg e4, if_neg e5, if_pos e6]
       ·simp only [if_neg e0, if_neg e1, if_neg e2, if_neg e3, if_neg e4, if_neg e5, if_neg e6, if_neg hn])
def uK (d : Nat) (s : Qs) (P : Mem -> Prop) (r : List Kc) : LH := renL 1006 (rwL d r) ++ uQ s P
theorem bX' (d : Nat) (s : Qs) (P : Mem -> Prop) (R r : List Kc) (hr : r.map er = R) (n : Nat) : Goes (tms 0 28 [(2, slR 1006 n)]) (uK d s P r) (tms 0 28 [(2, slR 1006 n)]) (uO s P (rwO d R)) := by
 refine Goes.trans (Goes.shutN (R := fun r : List Kc => r.map er = R) (L := rwL d) (m := .nothing) (H0 := uQ s P) 1006 δ r hr χ χ χ χ ⟨_, _, rfl, rfl⟩ (H6' (A0' rfl A2')) (uQ_cl _ ⟨rfl, rfl, rfl⟩ _ _)) ?_; refine LH' χ χ (Yb) (fun i o h => ?_) (H6' (A0' rfl A2')) (A0' (T4' _ ⟨rfl, rfl, rfl⟩ _ _) (A0' (L7' _ _) (A0' Ye (A0' Ye (A0' (IP' _ _) (A0' Ye A2')))))); simp only [uO, uQ, getO] at h ⊢
 by_cases e6 : i = 1006
 ·subst e6; rw [if_neg δ, if_neg δ, if_neg δ, if_neg δ, if_neg δ, if_pos rfl] at h; rw [if_pos rfl]; exact h
 ·rw [if_neg e6] at h ⊢; exact h
theorem weakV {α : Type} {Q Q' : α -> List (Option AO) -> Nat -> Prop} {v : VT α} (h : VAll Q v) (hq : ∀ a os n, Q a os n -> Q' a os n) : VAll Q' v := ⟨VT.all_mono (fun a os n => hq a os n) h.out⟩
theorem fC' (s : Qs) (P : Mem -> Prop) (d : Nat) (hP : ∀ C, P C -> PM d s.m C) (I : List It) (R : List Kc) (hRe : R = I.map fun x => er (cAt s x.b)) (hb : I.length * 320 <= 140737488355328) (hI : ∀ x ∈ I, ∃ c, AG' x.b s.m = some c) (hne : I ≠ []) :
  LTri Θ default (AB' AJ' 2) (tms 0 28 (aRd I.length 0 nilS)) (uI s P (rI3 I)) (.exit 0) (tms 0 28 [(2, slR 1006 I.length)]) (uO s P (rwO d R)) := by
 refine LTri.pre (WL' s P _) (LTri.pre (frz_in s P (PL d []) (rI3 I) dumZ fun C e he => by cases he) ?_)
 have hRl : R.length = I.length := by rw [hRe, List.length_map]
 have hpos : 0 < I.length := List.length_pos_iff.2 hne
 have hc : CTri Θ default (.loop (AB' AJ' 2)) (tms 0 28 (aRd I.length 0 (xW []))) (oRk s P (PL d []) (rI3 I) (oW [])) (fun _ : {r : List Kc // r.map er = R} => .exit 0) (fun q => tms 0 28 [(2, slR 1006 I.length)]) (fun q => uK d s P q.1) := by
  refine eQ' (W := default) (g := AJ') (b := AB' AJ' 2) (σ := {z : Nat × List Kc // z.1 <= I.length /\ z.2.map er = R.take z.1}) (ρ := {r : List Kc // r.map er = R}) 28 (fun z => aRd I.length z.1.1 (xW z.1.2)) (fun z => oRk s P (PL d z.1.2) (rI3 I) (oW z.1.2)) (fun _ => .exit 0) (fun _ => [(2, slR 1006 I.length)]) (fun q => uK d s P q.1) (fun _ h => by cases h) (fun z => I.length - z.1.1) kK iRd (fun _ => rfl) ?_ ⟨(0, []), Nat.zero_le _, rfl⟩; rintro ⟨⟨j, r⟩, hj, hr⟩; simp only at hj hr ⊢
  by_cases h1 : j < I.length
  ·obtain ⟨x, hx⟩ := BP' h1; obtain ⟨c, hc⟩ := hI x (List.mem_of_getElem? hx); obtain ⟨con, hints, lc, B, hB, hg, hcon, hl, hv⟩ := XY' s P d hP I R hRe hb j r hr h1 x hx c hc
   refine ⟨con, hints, lc, B, hB, hg, hcon, hl, fun F => weakV (hv F) fun a os n h => ?_⟩
   obtain ⟨b0, t1, H1, l, b1, b2, b3⟩ := h
   refine ⟨b0, t1, H1, l, b1, b2, fun W0 F N ys w hst => ?_⟩
   obtain ⟨e, r', e2, q⟩ := b3 W0 F N ys w hst
   exact .inl ⟨e, ⟨(j + 1, r'), h1, e2⟩, by show I.length - (j + 1) < I.length - j; omega, q⟩
  ·have hje : j = I.length := ω
   subst hje
   have hr' : r.map er = R := by rw [hr, <- hRl, List.take_length]
   have hrl : r.length = I.length := by rw [<- hRl, <- hr', List.length_map]
   obtain ⟨y1, y2⟩ := bE' (r := r) (fun e => by rw [e] at hrl; simp at hrl; omega); rw [y1, y2, hrl]
   refine ⟨[], AN' [hf' AJ' 2 0], [], _, rfl, Goes.refl _ _, fun _ _ => noC, fun _ _ => noL, fun F => ?_⟩
   refine Yj (dD' s P (PL d r) (rI3 I) (.cells (vmap (rowC r)) tKc) I.length (slR 1006 I.length) F) ⟨⟨?_, rfl, [(2, slR 1006 I.length)], uK d s P r, [(1001, 1001), (1002, 1002), (1003, 1003), (1004, 1004), (1006, 1006), (1009, 1009)], rfl, ⟨χ, by kernel_rfl, ⟨Ya, Ye⟩, ⟨_, rfl, OW.of_eq (by simp only [AO.ren, BN'])⟩, ⟨_, rfl, Yc⟩, ⟨_, rfl, Yc⟩, ⟨_, rfl, OW.of_eq (by simp only [AO.ren, BH'])⟩, ⟨_, rfl, Yc⟩, ⟨_, rfl, Yc⟩, ⟨_, rfl, OW.of_eq (by simp only [AO.ren, BJ'])⟩, Ye⟩, fun W0 F N ys w hst => .inr ⟨⟨r, hr'⟩, rfl, hst⟩⟩⟩
   simp only [Cnd.holds, and_true]; exact AC' ltF
 have hc2 : CTri Θ default (.loop (AB' AJ' 2)) (tms 0 28 (aRd I.length 0 (xW []))) (oRk s P (PL d []) (rI3 I) (oW [])) (fun _ : Unit => .exit 0) (fun _ => tms 0 28 [(2, slR 1006 I.length)]) (fun _ => uO s P (rwO d R)) := hc.post fun q => ⟨(), rfl, bX' d s P R q.1 q.2 _⟩
 exact fun W0 F N w a Q hF hN r ha hK => hc2 W0 F N w a Q hF hN r ha fun _ => hK
theorem rwO_cl (K : Nat -> Bool) (d : Nat) (R : List Kc) : (rwO d R).cl K := trivial
def uRk (d : Nat) (s : Qs) (P : Mem -> Prop) (R : List Kc) : LH := uQ s P ++ [(1000, rwO d R)]
theorem XL' (d : Nat) (A : Qs) (hb : A.L.length * 320 <= 140737488355328) (hI : ∀ x ∈ A.L, ∃ c, AG' x.b A.m = some c) (hL : A.L ≠ []) : Tri Θ default AJ' [.ptr 0 0] [(0, qO d A)] (slR 1000 A.L.length) [(0, qO d A), (1000, rwO d (AM' A))] := by
 refine L2' fun s hs => ?_
 obtain ⟨e1, e2, e3, e4, e5, e6⟩ := hs.facts
 have hR : AM' A = (s.L.map fun x => cAt s x.b).map er := by rw [AM', <- e3]; exact VM' hs _ _
 have hRe : AM' A = s.L.map fun x => er (cAt s x.b) := by rw [hR, List.map_map]; rfl
 have hLs : s.L ≠ [] := fun e => hL (e3 ▸ e)
 have hl : ∀ F, L1OK Θ F (AB' AJ' 2) (lRd s (PM d s.m) s.L s.L.length (slR 1006 s.L.length) (rwO d (AM' A))) := fun F =>
  E8' B8' (W6' 9) (fun _ _ => fC' s (PM d s.m) d (fun C h => h) s.L (AM' A) hRe (by rw [e3]; exact hb) (fun x hx => by
     obtain ⟨c, hc⟩ := hI x (by rw [<- e3]; exact hx); obtain ⟨c', hc', _⟩ := hs.look hc
     exact ⟨c', hc'⟩) hLs) fun _ => by
     simp only [RT.pick]; exact D1' rfl rfl (A0' rfl (A0' Ye (A0' rfl (A0' Ye (A0' Ye A2'))))) (bO' ⟨rfl, rfl, rfl⟩ _ _ (S9' _ _)) (A0' rfl A2') (bN' ⟨rfl, rfl, rfl⟩ _ _ (rwO_cl _ _ _))
 refine AK' (con := [(BB', cIt s.L s.L.length)]) (hints := AF') (lc := [(AJ', 2, AB' AJ' 2, lRd s (PM d s.m) s.L s.L.length (slR 1006 s.L.length) (rwO d (AM' A)))]) kH rfl (fun F _ => CR' (b6' hLs F)) (fun F _ => L3' (hl F)) fun F => ?_
 rw [<- e3]; refine Yj (SG' s (PM d s.m) s.L.length (rwO d (AM' A)) F) ⟨⟨?_, [slR 1000 s.L.length], uRk d s (PM d s.m) (AM' A), [(1001, 1101), (1002, 1102), (1003, 1103), (1004, 1104), (1000, 1105)], rfl, B2' (vs' := [slR 1000 s.L.length]) (H' := uRk d s (PM d s.m) (AM' A)) _ χ χ (Yb) ⟨⟨_, rfl, Yc⟩, ⟨_, rfl, OW.of_eq (by simp only [AO.ren, BH'])⟩, ⟨_, rfl, Yc⟩, ⟨_, rfl, Yc⟩, ⟨_, rfl, OW.of_eq (by simp only [AO.ren, BJ'])⟩, ⟨_, rfl, Yc⟩, Ye⟩, UH' (H0 := [(1000, rwO d (AM' A))]) hs (fun C h => h) χ rfl ⟨rfl, Ye⟩ (A0' Ye A2')⟩⟩; exact Cb10'
end Go.Proofs.Ytjjjchmkonnpfaa.Qb
namespace Go.Proofs.Ytjjjchmkonnpfaa.Que
open Go Go.RowKit Eng Kit
abbrev fSpeaks : Nat := 6
theorem OK' (w : World) : Calls Θ fSpeaks (List.toArray []) w fun e w' => e = .returned (.bool true) /\ Below w.heap.size w w' :=
 R3' (args := []) χ (fuel := 100000) (fun w => χ) w
noncomputable def cSpeaks : List AV -> Option (AP AV) := mkC (fun _ => .ret ()) (fun _ => True) (fun _ i => i) (fun _ => []) (fun _ => []) (fun _ => .leaf .ret [.v (.bool true)] [])
theorem cSpeaks_ok (F : HP) : C1OK Θ F fSpeaks cSpeaks :=
 BX' (W := default) B8' (fun _ => .v (.bool true)) (fun _ => RO.ret _) (fun _ => rfl) (fun _ _ => T1' (args := []) OK') fun _ => ⟨rfl, rfl, Ye, A2', ⟨Ye, Ye⟩, A2'⟩
end Go.Proofs.Ytjjjchmkonnpfaa.Que
