/- A contract in a caller's hands. No program. -/
import Derived.Test.YtnnojnlejlokhaaGreatDoorEngTri
set_option linter.unusedVariables false
set_option linter.unusedSimpArgs false
namespace Go.Proofs.YtnnojnlejlokhaaGreatDoor.Eng
open Go Go.RowKit
open Nat renaming blt_eq -> bl'
open List renaming mem_cons_self -> ms'
variable {P : Program} {H : LH} {m : Nat} {W0 w W : World} {N : A9'} {F : HP} {σ : Nat -> Nat} {A args tmps : List AV}
noncomputable section
inductive RT where
 | leaf (ax : AX) (vs : List AV) (H : LH)
 | ite (b : Bool) (x y : RT)
def RT.pick : RT -> AX × List AV × LH
 | .leaf ax vs H => (ax, vs, H)
 | .ite b x y => match b with
  | true => x.pick
  | false => y.pick
def VW (l l' : List AV) : Prop := ∀ N ys, VRs N l ys -> VRs N l' ys
theorem VW.refl (l : List AV) : VW l l := fun _ _ h => h
theorem VW.of_eq {l l' : List AV} (h : l = l') : VW l l' := h ▸ VW.refl l
theorem VW.cons {x y : AV} {l l' : List AV} (h : Wk x y) (h' : VW l l') : VW (x :: l) (y :: l') := fun N ys hv => by
 simp only [VRs] at hv ⊢; obtain ⟨z, r, h1, h2, rfl⟩ := hv; exact ⟨z, r, h _ _ h1, h' _ _ h2, rfl⟩
section
variable {α : Type}
def TX' (σ : Nat -> Nat) (k : AP α) : LH -> AP α
 | [] => k
 | x :: l => .read (σ x.1) fun o => .need (OW o (x.2.ren σ)) (TX' σ k l)
def OC' (H' : LH) (x : Nat × AO) : Bool := Nat.ble 1000 x.1 || !(H'.any fun y => Nat.beq y.1 x.1)
def OB' (σ : Nat -> Nat) (H' : LH) (k : AP α) : LH -> AP α
 | [] => k
 | x :: l => match OC' H' x with
  | true => .kill (σ x.1) (OB' σ H' k l)
  | false => OB' σ H' k l
def PH' (σ : Nat -> Nat) (k : AP α) : LH -> AP α
 | [] => k
 | x :: l => .write (σ x.1) (x.2.ren σ) (PH' σ k l)
def fG' (k : AP α) : Nat -> AP α
 | 0 => k
 | m + 1 => .new (.striter .empty 0) fun _ => fG' k m
def newsC (k : Nat -> AP α) : Nat -> AP α
 | 0 => k 0
 | m + 1 => .new (.striter .empty 0) fun n0 => fG' (k n0) m
end
def newL (H : LH) : List Nat := (H.map (·.1)).filter (Nat.ble 1000 ·)
def idx : List Nat -> Nat -> Nat
 | [], _ => 0
 | x :: l, i => match Nat.beq i x with
  | true => 0
  | false => idx l i + 1
def sgN (σ : Nat -> Nat) (L : List Nat) (n0 : Nat) (i : Nat) : Nat := match Nat.blt i 1000 with
 | true => σ i
 | false => n0 + idx L i
def XW' : List Nat -> Bool
 | [] => true
 | x :: l => !(l.any (Nat.beq x ·)) && XW' l
def rtC (σ : Nat -> Nat) (H : LH) : RT -> AP (AX × List AV)
 | .ite b x y => .ite b (rtC σ H x) (rtC σ H y)
 | .leaf ax vs H' => do
  AJ' (XW' (H'.map (·.1))) "contract names"
  AJ' (H'.all fun x => Nat.ble 1000 x.1 || (getO H x.1).isSome) "contract names"
  newsC (fun n0 => do
   AJ' (Nat.beq (newL H').length 0 || H.all fun x => Nat.blt (σ x.1) n0) "contract drawn"
   OB' σ H' (PH' (sgN σ (newL H') n0) (.ret (ax, AV.rens (sgN σ (newL H') n0) vs)) H') H) (newL H').length
def useG (σ : Nat -> Nat) (A args : List AV) (H : LH) (rt : RT) : AP (AX × List AV) :=
 .need (VW args (AV.rens σ A)) do
  AJ' (injB (H.map (·.1)) σ) "contract names"
  TX' σ (rtC σ H rt) H
section
variable {α : Type} {st : Bool} {h h' : T} {n n' : Nat} {lg lg' : Log} {r : α} {c : Cnd}
theorem NQ' {σ : Nat -> Nat} {k : AP α} : ∀ {H : LH} {h h' : T} {n n' : Nat} {lg lg' : Log} {r : α} {c : Cnd}, (TX' σ k H).run st h n lg = .ok r h' n' lg' c -> c.holds ->
  (∀ x ∈ H, ∃ o, h.find (σ x.1) = some o /\ OW o (x.2.ren σ)) /\ ∃ lg1 c1, k.run st h n lg1 = .ok r h' n' lg' c1 /\ c1.holds
 | [], h, h', n, n', lg, lg', r, c, he, hc => ⟨(fun x hx => by cases hx), lg, c, he, hc⟩
 | x :: l, h, h', n, n', lg, lg', r, c, he, hc => by
  obtain ⟨o, ho, he⟩ := BM' he; obtain ⟨c1, he2, rfl⟩ := AG' he; rw [Cnd.and_iff] at hc; obtain ⟨h1, h2⟩ := NQ' he2 hc.2
  refine ⟨fun y hy => ?_, h2⟩
  rcases List.mem_cons.1 hy with rfl | hy
  ·exact ⟨o, ho, hc.1⟩
  ·exact h1 y hy
theorem KG' {σ : Nat -> Nat} {H' : LH} {k : AP α} : ∀ {H : LH} {h h' : T} {n n' : Nat} {lg lg' : Log} {r : α} {c : Cnd}, (OB' σ H' k H).run st h n lg = .ok r h' n' lg' c ->
  ∃ h1 lg1, k.run st h1 n lg1 = .ok r h' n' lg' c /\ ∀ j o, h1.find j = some o -> h.find j = some o /\ ∀ x ∈ H, OC' H' x = true -> σ x.1 ≠ j
 | [], h, h', n, n', lg, lg', r, c, he => ⟨h, lg, he, fun j o hj => ⟨hj, fun x hx => by cases hx⟩⟩
 | x :: l, h, h', n, n', lg, lg', r, c, he => by
  rw [OB'] at he
  cases hk : OC' H' x with
  | false =>
   rw [hk] at he; obtain ⟨h1, lg1, e1, e2⟩ := KG' he
   refine ⟨h1, lg1, e1, fun j o hj => ⟨(e2 j o hj).1, fun y hy hy2 => ?_⟩⟩
   rcases List.mem_cons.1 hy with rfl | hy
   ·rw [hk] at hy2; cases hy2
   ·exact (e2 j o hj).2 y hy hy2
  | true =>
   rw [hk] at he; obtain ⟨o0, ho, he⟩ := EJ' he; obtain ⟨h1, lg1, e1, e2⟩ := KG' he
   refine ⟨h1, lg1, e1, fun j o hj => ?_⟩
   obtain ⟨q1, q2⟩ := e2 j o hj; rw [T.find_set (T.lt_of_find ho)] at q1
   by_cases e : j = σ x.1
   ·rw [if_pos e] at q1; cases q1
   ·rw [if_neg e] at q1
    refine ⟨q1, fun y hy hy2 => ?_⟩
    rcases List.mem_cons.1 hy with rfl | hy
    ·exact Ne.symm e
    ·exact q2 y hy hy2
theorem LF' {σ : Nat -> Nat} {k : AP α} : ∀ {H : LH} {h h' : T} {n n' : Nat} {lg lg' : Log} {r : α} {c : Cnd}, (PH' σ k H).run st h n lg = .ok r h' n' lg' c ->
  ∃ h1 lg1, k.run st h1 n lg1 = .ok r h' n' lg' c /\ ∀ j o, h1.find j = some o -> (∃ x ∈ H, σ x.1 = j /\ o = x.2.ren σ) \/ ((∀ x ∈ H, σ x.1 ≠ j) /\ h.find j = some o)
 | [], h, h', n, n', lg, lg', r, c, he => ⟨h, lg, he, fun j o hj => .inr ⟨(fun x hx => by cases hx), hj⟩⟩
 | x :: l, h, h', n, n', lg, lg', r, c, he => by
  obtain ⟨o0, ho, he⟩ := B2' he; obtain ⟨h1, lg1, e1, e2⟩ := LF' he
  refine ⟨h1, lg1, e1, fun j o hj => ?_⟩
  rcases e2 j o hj with ⟨y, hy, q1, q2⟩ | ⟨q1, q2⟩
  ·exact .inl ⟨y, List.mem_cons_of_mem _ hy, q1, q2⟩
  ·rw [T.find_set (T.lt_of_find ho)] at q2
   by_cases e : j = σ x.1
   ·rw [if_pos e] at q2; have q3 : some (x.2.ren σ) = some o := q2; cases q3; exact .inl ⟨x, ms', e.symm, rfl⟩
   ·rw [if_neg e] at q2
    refine .inr ⟨fun y hy => ?_, q2⟩
    rcases List.mem_cons.1 hy with rfl | hy
    ·exact Ne.symm e
    ·exact q1 y hy
theorem RF' {k : AP α} : ∀ {m : Nat} {h h' : T} {n n' : Nat} {lg lg' : Log} {r : α} {c : Cnd}, (fG' k m).run st h n lg = .ok r h' n' lg' c ->
  ∃ h1, k.run st h1 (n + m) lg = .ok r h' n' lg' c /\ ∀ j o, ¬ (n <= j /\ j < n + m) -> h1.find j = some o -> h.find j = some o
 | 0, h, h', n, n', lg, lg', r, c, he => ⟨h, he, fun j o _ hj => hj⟩
 | m + 1, h, h', n, n', lg, lg', r, c, he => by
  obtain ⟨hn, he⟩ := BX' he; obtain ⟨h1, e1, e2⟩ := RF' he
  refine ⟨h1, by rw [show n + (m + 1) = n + 1 + m from ω]; exact e1, fun j o hj hjo => ?_⟩
  have := e2 j o ω hjo; rw [T.find_set hn, if_neg ω] at this; exact this
theorem XD' {k : Nat -> AP α} (he : (newsC k m).run st h n lg = .ok r h' n' lg' c) :
  ∃ h1 n0, (k n0).run st h1 (n + m) lg = .ok r h' n' lg' c /\ (0 < m -> n0 = n) /\ ∀ j o, ¬ (n <= j /\ j < n + m) -> h1.find j = some o -> h.find j = some o := by
 cases m with
 | zero => exact ⟨h, 0, he, (fun hh => ω), fun j o _ hj => hj⟩
 | succ m =>
  obtain ⟨hn, he⟩ := BX' he; obtain ⟨h1, e1, e2⟩ := RF' he
  refine ⟨h1, n, by rw [show n + (m + 1) = n + 1 + m from ω]; exact e1, fun _ => rfl, fun j o hj hjo => ?_⟩
  have := e2 j o ω hjo; rw [T.find_set hn, if_neg ω] at this; exact this
end
theorem LU' : ∀ {l : List Nat}, XW' l = true -> l.Nodup
 | [], _ => List.nodup_nil
 | x :: l, h => by
  simp only [XW', Bool.and_eq_true, Bool.not_eq_true'] at h
  refine List.nodup_cons.2 ⟨fun hx => ?_, LU' h.2⟩
  have := List.any_eq_false.1 h.1 x hx; exact this (Nat.beq_refl x)
theorem UR' : ∀ {l : List Nat}, l.Nodup -> ∀ {j i : Nat}, l[j]? = some i -> idx l i = j
 | x :: l, hn, 0, i, h => by
  simp only [List.getElem?_cons_zero, Option.some.injEq] at h; subst h; rw [idx, Nat.beq_refl]
 | x :: l, hn, j + 1, i, h => by
  rw [List.getElem?_cons_succ] at h
  have hne : Nat.beq i x = false := by
   cases hb : Nat.beq i x with
   | false => rfl
   | true =>
    have e := Nat.eq_of_beq_eq_true hb; exact absurd (e ▸ List.mem_of_getElem? h) (List.nodup_cons.1 hn).1
  rw [idx, hne]; exact congrArg (· + 1) (UR' (List.nodup_cons.1 hn).2 h)
theorem ZA' : ∀ {l : List Nat} {i : Nat}, i ∈ l -> l[idx l i]? = some i /\ idx l i < l.length
 | x :: l, i, h => by
  rw [idx]
  cases hb : Nat.beq i x with
  | true =>
   rw [Nat.eq_of_beq_eq_true hb]; simp
  | false =>
   rcases List.mem_cons.1 h with rfl | h
   ·rw [Nat.beq_refl] at hb; cases hb
   ·obtain ⟨h1, h2⟩ := ZA' h; simp only [List.getElem?_cons_succ, List.length_cons]
    exact ⟨h1, by omega⟩
def kH (H : LH) (i : Nat) : Bool := (getO H i).isSome
def kR (H H' : LH) (i : Nat) : Bool := (Nat.blt i 1000 && (getO H i).isSome) || (Nat.ble 1000 i && (getO H' i).isSome)
structure ClosedC (A : List AV) (H : LH) (vs : List AV) (H' : LH) : Prop where
 h : AA' 1100 H = true
 h' : AA' 1100 H' = true
 a : AV.cls (kH H) A
 o : ∀ x ∈ H, x.2.cl (kH H)
 v : AV.cls (kR H H') vs
 o' : ∀ x ∈ H', x.2.cl (kR H H')
theorem PK' {st : Bool} {h h' : T} {n n' : Nat} {lg' : Log} {σ : Nat -> Nat} {H : LH} {r : AX × List AV} : ∀ {rt : RT} {lg1 : Log} {c : Cnd}, (rtC σ H rt).run st h n lg1 = .ok r h' n' lg' c ->
  ∃ lg1 c3, (rtC σ H (.leaf rt.pick.1 rt.pick.2.1 rt.pick.2.2)).run st h n lg1 = .ok r h' n' lg' c3
 | .leaf ax vs H', lg1, c, he => ⟨lg1, c, he⟩
 | .ite b x y, lg1, c, he => by
  cases b with
  | true => exact PK' (rt := x) he
  | false => exact PK' (rt := y) he
theorem LG' {st : Bool} {h h' : T} {n n' : Nat} {lg lg' : Log} {c : Cnd} {rt : RT} {ax' : AX} {vs' : List AV} {vals : List Value}
  (he : (useG σ A args H rt).run st h n lg = .ok (ax', vs') h' n' lg' c) (hc : c.holds) (r : Rep W0 N F h w) (ha : VRs N args vals) (hf : BW' N n n') (hcl : ClosedC A H rt.pick.2.1 rt.pick.2.2) :
  ∃ N1 F1, NB N1 H /\ (∀ W, AH' W F -> AH' W F1) /\ Rep W0 N1 F1 (AK' H) w /\ VRs N1 A vals /\ ax' = rt.pick.1 /\
   (∀ w' vals', St W0 F1 N1 rt.pick.2.2 rt.pick.2.1 vals' w' -> ∃ N2, Rep W0 N2 F h' w' /\ VRs N2 vs' vals' /\ Ext N N2 n n') /\
   ∀ N0 w', Rep W0 N0 F1 .nil w' -> Rep W0 (fun _ => none) F .nil w' := by
 obtain ⟨c1, he0, rfl⟩ := AG' he; rw [Cnd.and_iff] at hc; obtain ⟨hargs, hc⟩ := hc; clear he; obtain ⟨hinj, he⟩ := A8' he0; obtain ⟨hobj, lg1, c2, he, hc⟩ := NQ' he hc
 -- the way
 have hway : ∃ lg1 c3, (rtC σ H (.leaf rt.pick.1 rt.pick.2.1 rt.pick.2.2)).run st h n lg1 = .ok (ax', vs') h' n' lg' c3 := by
  exact PK' he
 clear he; obtain ⟨lg2, c3, he⟩ := hway
 generalize rt.pick = p at he hcl ⊢
 obtain ⟨ax, vs, H'⟩ := p; simp only at he hcl ⊢; obtain ⟨hdist, he⟩ := A8' he; obtain ⟨hsub, he⟩ := A8' he; obtain ⟨h1, n0, he, hn0, hnew⟩ := XD' he; obtain ⟨hlow, he⟩ := A8' he; obtain ⟨h2, lg3, he, hkill⟩ := KG' he; obtain ⟨h3, lg4, he, hwrite⟩ := LF' he; obtain ⟨he1, rfl, rfl⟩ := AB' he; cases he1; clear he; have hnd := LU' hdist; have hLnd : (newL H').Nodup := hnd.filter _
 have hL : ∀ i, i ∈ newL H' ↔ 1000 <= i /\ ∃ o, getO H' i = some o := by
  intro i; simp only [newL, List.mem_filter, List.mem_map, Nat.ble_eq]
  constructor
  ·rintro ⟨⟨x, hx, rfl⟩, hi⟩; exact ⟨hi, EE' hx⟩
  ·rintro ⟨hi, o, ho⟩; exact ⟨⟨_, BC' ho, rfl⟩, hi⟩
 obtain ⟨D0, D, q1, q2, q3⟩ := r.sat
 have hfindH : ∀ i o, getO H i = some o -> ∃ o1, h.find (σ i) = some o1 /\ OW o1 (o.ren σ) := fun i o hi => hobj _ (BC' hi)
 have hK : ∀ k, (H.any fun x => Nat.beq (σ x.1) k) = true ↔ ∃ i o, getO H i = some o /\ σ i = k := by
  intro k; rw [List.any_eq_true]
  constructor
  ·rintro ⟨x, hx, e⟩; obtain ⟨o, ho⟩ := EE' hx; exact ⟨x.1, o, ho, Nat.eq_of_beq_eq_true e⟩
  ·rintro ⟨i, o, hi, e⟩
   exact ⟨_, BC' hi, by rw [<- e]; exact Nat.beq_refl _⟩
 have hKf : ∀ k, (H.any fun x => Nat.beq (σ x.1) k) = false ↔ ∀ i o, getO H i = some o -> σ i ≠ k := by
  intro k; rw [<- Bool.not_eq_true, hK]
  exact ⟨fun hh i o hi e => hh ⟨i, o, hi, e⟩, fun hh ⟨i, o, hi, e⟩ => hh i o hi e⟩
 refine ⟨fun i => if kH H i = true then N (σ i) else none, TV' F N h (fun k => H.any fun x => Nat.beq (σ x.1) k), fun i hi hg => ?_, fun W hW D' w' hon a v hv => ?_, ?_, ?_, rfl, ?_, fun N0 w' r0 => ?_⟩
 ·simp [kH, hg]
 ·obtain ⟨D0', D1, a1, _⟩ := hon; exact hW _ _ a1 a v hv
 ·refine ⟨r.os, r.tape, r.output, fun b => D0 b \/ ∃ i o, h.find i = some o /\ (H.any fun x => Nat.beq (σ x.1) i) = false /\ D i b, fun i => D (σ i), ⟨D0, D, q1, fun i o hi _ => q2 i o hi, fun i j o o' hi hj _ _ => q3 i j o o' hi hj, fun b => Iff.rfl⟩, fun i o hi => ?_, fun i j o o' hi hj hij => ?_⟩
  ·rw [AE' (BN' δ hcl.h)] at hi; obtain ⟨o1, e1, e2⟩ := hfindH i o hi
   refine ⟨((PF'.1 (e2 _ _ _ _ (q2 _ _ e1).1))).congr (K := kH H) (fun j hj => by simp [hj]) (by simp [kH, hi]) (hcl.o _ (BC' hi)), fun b hb => ?_⟩
   rintro (hb0 | ⟨j, o2, hj, hkj, hb0⟩)
   ·exact (q2 _ _ e1).2 b hb hb0
   ·exact q3 _ _ _ _ e1 hj ((hKf j).1 hkj i o hi) b hb hb0
  ·rw [AE' (BN' δ hcl.h)] at hi hj; obtain ⟨o1, e1, _⟩ := hfindH i o hi; obtain ⟨o2, e2, _⟩ := hfindH j o' hj; exact q3 _ _ _ _ e1 e2 (KL' hinj hi hj hij)
 ·exact (ET'.1 (hargs _ _ ha)).congr (K := kH H) (fun j hj => by simp [hj]) hcl.a
 ·rintro w' vals' ⟨N1', g1, g2, g3, g4⟩
  have hidx : ∀ i, i ∈ newL H' -> n <= sgN σ (newL H') n0 i /\ sgN σ (newL H') n0 i < n + (newL H').length /\ (newL H')[sgN σ (newL H') n0 i - n]? = some i := by
   intro i hi; obtain ⟨e1, e2⟩ := ZA' hi
   have hpos : 0 < (newL H').length := ω
   have hge := ((hL i).1 hi).1
   have hb : Nat.blt i 1000 = false := by
    cases hb : Nat.blt i 1000 with
    | false => rfl
    | true => rw [bl'] at hb; omega
   rw [sgN, hb, hn0 hpos]; simp only
   exact ⟨ω, by omega, by rw [show n + idx (newL H') i - n = idx (newL H') i from ω]; exact e1⟩
  have hlo : ∀ i o, i < 1000 -> getO H i = some o -> sgN σ (newL H') n0 i = σ i /\ ¬ (n <= σ i /\ σ i < n + (newL H').length) := by
   intro i o hi hg
   have hb : Nat.blt i 1000 = true := by rw [bl']; exact hi
   refine ⟨by rw [sgN, hb], fun hh => ?_⟩
   have hpos : 0 < (newL H').length := ω
   rw [Bool.or_eq_true] at hlow
   rcases hlow with hz | hz
   ·have := Nat.eq_of_beq_eq_true hz; omega
   ·have := List.all_eq_true.1 hz _ (BC' hg); rw [bl', hn0 hpos] at this; have this2 : σ i < n := this; omega
  let N2 : A9' := fun k => if n <= k /\ k < n + (newL H').length then (match (newL H')[k - n]? with | some i => N1' i | none => none) else N k
  have hext : Ext N N2 n (n + (newL H').length) := fun k hk => if_neg hk
  have hN2 : ∀ i, kR H H' i = true -> N2 (sgN σ (newL H') n0 i) = N1' i := by
   intro i hi; simp only [kR, Bool.or_eq_true, Bool.and_eq_true, bl', Nat.ble_eq, Option.isSome_iff_exists] at hi
   rcases hi with ⟨hi, o, ho⟩ | ⟨hi, o, ho⟩
   ·obtain ⟨e1, e2⟩ := hlo i o hi ho; rw [e1]; show (if n <= σ i /\ σ i < n + (newL H').length then _ else N (σ i)) = _; rw [if_neg e2, g1 i hi]; simp [kH, ho]
   ·obtain ⟨e1, e2, e3⟩ := hidx i ((hL i).2 ⟨hi, o, ho⟩); show (if n <= sgN σ (newL H') n0 i /\ sgN σ (newL H') n0 i < n + (newL H').length then _ else _) = _; rw [if_pos ⟨e1, e2⟩, e3]
  have hinj' : ∀ i j o o', getO H' i = some o -> getO H' j = some o' -> sgN σ (newL H') n0 i = sgN σ (newL H') n0 j -> i = j := by
   intro i j o o' hi hj e
   have hcase : ∀ i o, getO H' i = some o -> (i < 1000 /\ ∃ o2, getO H i = some o2) \/ i ∈ newL H' := by
    intro i o hi
    by_cases hlt : i < 1000
    ·have := List.all_eq_true.1 hsub _ (BC' hi); simp only [Bool.or_eq_true, Nat.ble_eq, Option.isSome_iff_exists] at this
     rcases this with h4 | h4
     ·omega
     ·exact .inl ⟨hlt, h4⟩
    ·exact .inr ((hL i).2 ⟨ω, o, hi⟩)
   rcases hcase i o hi with ⟨hi1, o1, ho1⟩ | hi1
   ·obtain ⟨a1, a2⟩ := hlo i o1 hi1 ho1
    rcases hcase j o' hj with ⟨hj1, o2, ho2⟩ | hj1
    ·obtain ⟨b1, b2⟩ := hlo j o2 hj1 ho2
     refine Classical.byContradiction fun hne => KL' hinj ho1 ho2 hne ?_
     rw [<- a1, <- b1, e]
    ·obtain ⟨b1, b2, _⟩ := hidx j hj1; rw [a1] at e; exact (a2 (by rw [e]; exact ⟨b1, b2⟩)).elim
   ·obtain ⟨a1, a2, a3⟩ := hidx i hi1
    rcases hcase j o' hj with ⟨hj1, o2, ho2⟩ | hj1
    ·obtain ⟨b1, b2⟩ := hlo j o2 hj1 ho2; rw [b1] at e; exact (b2 (by rw [<- e]; exact ⟨a1, a2⟩)).elim
    ·obtain ⟨b1, b2, b3⟩ := hidx j hj1; rw [e, b3] at a3; cases a3; rfl
  refine ⟨N2, ?_, ?_, hext⟩
  ·obtain ⟨D0', D', ⟨D00, D1, a1, a2, a3, a4⟩, b2, b3⟩ := g3.sat
   have hfd : ∀ i o, getO H' i = some o -> (AK' H').find i = some o := fun i o hi => by rw [AE' (BN' δ hcl.h')]; exact hi
   -- an object of the whole heap
   have hcases : ∀ k o, h'.find k = some o -> (∃ i oi, getO H' i = some oi /\ sgN σ (newL H') n0 i = k /\ o = oi.ren (sgN σ (newL H') n0)) \/ ((∀ i oi, getO H' i = some oi -> sgN σ (newL H') n0 i ≠ k) /\ h.find k = some o /\ (H.any fun x => Nat.beq (σ x.1) k) = false /\ ¬ (n <= k /\ k < n + (newL H').length)) := by
    intro k o hk
    rcases hwrite k o hk with ⟨x, hx, e1, e2⟩ | ⟨e1, e2⟩
    ·refine .inl ⟨x.1, x.2, ?_, e1, e2⟩; obtain ⟨o2, ho2⟩ := EE' hx; have hmem := BC' ho2
     have : ∀ (l : LH), (l.map (·.1)).Nodup -> x ∈ l -> (x.1, o2) ∈ l -> o2 = x.2 := by
      intro l hn2 m1 m2
      induction l with
      | nil => cases m1
      | cons y l ih =>
       have hh := List.nodup_cons.1 hn2
       rcases List.mem_cons.1 m1 with rfl | m1
       ·rcases List.mem_cons.1 m2 with m2 | m2
        ·rw [<- m2]
        ·exact absurd (List.mem_map.2 ⟨_, m2, rfl⟩) hh.1
       ·rcases List.mem_cons.1 m2 with m2 | m2
        ·exact absurd (List.mem_map.2 ⟨_, m1, by rw [<- m2]⟩) hh.1
        ·exact ih hh.2 m1 m2
     rw [ho2, this H' hnd hx hmem]
    ·refine .inr ?_
     have e1' : ∀ i oi, getO H' i = some oi -> sgN σ (newL H') n0 i ≠ k := fun i oi hi => e1 _ (BC' hi)
     obtain ⟨e3, e4⟩ := hkill k o e2
     have hout : ¬ (n <= k /\ k < n + (newL H').length) := by
      intro hh
      have hlt : k - n < (newL H').length := ω
      have hget : (newL H')[k - n]? = some (newL H')[k - n] := List.getElem?_eq_getElem hlt; have hmem := List.mem_of_getElem? hget; obtain ⟨hge, oi, hoi⟩ := (hL _).1 hmem; refine e1' _ oi hoi ?_
      have hb : Nat.blt (newL H')[k - n] 1000 = false := by
       cases hb : Nat.blt (newL H')[k - n] 1000 with
       | false => rfl
       | true => rw [bl'] at hb; omega
      rw [sgN, hb, hn0 ω]; simp only; rw [UR' hLnd hget]; omega
     refine ⟨e1', hnew k o hout e3, ?_, hout⟩; rw [hKf]; intro i oi hi e; have hkl := e4 _ (BC' hi)
     cases hkd : OC' H' (i, oi) with
     | true => exact hkl hkd e
     | false =>
      simp only [OC', Bool.or_eq_false_iff, Bool.not_eq_false'] at hkd
      have hi1 : i < 1000 := by
       have := hkd.1
       cases hle : Nat.ble 1000 i with
       | true => rw [hle] at this; cases this
       | false => refine Nat.lt_of_not_le fun hh => ?_; rw [<- Nat.ble_eq, hle] at hh; cases hh
      obtain ⟨y, hy, ey⟩ := List.any_eq_true.1 hkd.2; obtain ⟨o3, ho3⟩ := EE' hy; rw [Nat.eq_of_beq_eq_true ey] at ho3; obtain ⟨f1, _⟩ := hlo i oi hi1 hi; exact e1' i o3 ho3 (f1.trans e)
   obtain ⟨DD, hDD⟩ : ∃ DD : Nat -> Nat -> Prop, DD = fun k x => (∃ i oi, getO H' i = some oi /\ sgN σ (newL H') n0 i = k /\ D' i x) \/ ((∀ i oi, getO H' i = some oi -> sgN σ (newL H') n0 i ≠ k) /\ D1 k x) := ⟨_, rfl⟩
   refine ⟨g3.os, g3.tape, g3.output, D00, DD, a1, fun k o hk => ?_, fun k m o o' hk hm hkm x hx hx' => ?_⟩
   ·rcases hcases k o hk with ⟨i, oi, hi, rfl, rfl⟩ | ⟨e1, e2, e3, e4⟩
    ·have hset : DD (sgN σ (newL H') n0 i) = D' i := by
      rw [hDD]; funext x
      refine propext ⟨?_, fun hx => .inl ⟨i, oi, hi, rfl, hx⟩⟩
      rintro (⟨j, oj, hj, e, hx⟩ | ⟨hno, _⟩)
      ·rwa [hinj' j i oj oi hj hi e] at hx
      ·exact (hno i oi hi rfl).elim
     rw [hset]
     refine ⟨PF'.2 (((b2 i oi (hfd i oi hi)).1).congr (K := kR H H') hN2 ?_ (hcl.o' _ (BC' hi))), fun b hb hb0 => (b2 i oi (hfd i oi hi)).2 b hb ((a4 b).2 (.inl hb0))⟩
     by_cases hlt : i < 1000
     ·have := List.all_eq_true.1 hsub _ (BC' hi); simp only [Bool.or_eq_true, Nat.ble_eq] at this; simp only [kR, Bool.or_eq_true, Bool.and_eq_true, bl', Nat.ble_eq]
      rcases this with h4 | h4
      ·omega
      ·exact .inl ⟨hlt, h4⟩
     ·simp only [kR, Bool.or_eq_true, Bool.and_eq_true, bl', Nat.ble_eq, hi]; exact .inr ⟨ω, rfl⟩
    ·have hset : DD k = D1 k := by
      rw [hDD]; funext x
      refine propext ⟨?_, fun hx => .inr ⟨e1, hx⟩⟩
      rintro (⟨j, oj, hj, e, hx⟩ | ⟨_, hx⟩)
      ·exact (e1 j oj hj e).elim
      ·exact hx
     rw [hset]; obtain ⟨k1, k2⟩ := a2 k o e2 e3; exact ⟨k1.mono (hext.le hf), k2⟩
   ·have key : ∀ k m o o', h'.find k = some o -> h'.find m = some o' -> k ≠ m -> ∀ x, (∃ i oi, getO H' i = some oi /\ sgN σ (newL H') n0 i = k /\ D' i x) -> (∀ j oj, getO H' j = some oj -> sgN σ (newL H') n0 j ≠ m) -> D1 m x -> False := by
     rintro k m o o' hk hm hkm x ⟨i, oi, hi, e, hx⟩ hno hx'
     rcases hcases m o' hm with ⟨j, oj, hj, e', _⟩ | ⟨e1, e2, e3, _⟩
     ·exact hno j oj hj e'
     ·exact (b2 i oi (hfd i oi hi)).2 x hx ((a4 x).2 (.inr ⟨m, o', e2, e3, hx'⟩))
    subst hDD
    rcases hx with hx | ⟨hno, hx⟩
    ·rcases hx' with hx' | ⟨hno', hx'⟩
     ·obtain ⟨i, oi, hi, e, hx⟩ := hx; obtain ⟨j, oj, hj, e', hx'⟩ := hx'
      have hij : i ≠ j := fun hh => hkm (by rw [<- e, <- e', hh])
      exact b3 i j oi oj (hfd i oi hi) (hfd j oj hj) hij x hx hx'
     ·exact key k m o o' hk hm hkm x hx hno' hx'
    ·rcases hx' with hx' | ⟨hno', hx'⟩
     ·exact key m k o' o hm hk (Ne.symm hkm) x hx' hno hx
     ·rcases hcases k o hk with ⟨j, oj, hj, e', _⟩ | ⟨e1, e2, e3, _⟩
      ·exact hno j oj hj e'
      ·rcases hcases m o' hm with ⟨j, oj, hj, e', _⟩ | ⟨f1, f2, f3, _⟩
       ·exact hno' j oj hj e'
       ·exact a3 k m o o' e2 f2 e3 f3 hkm x hx hx'
  ·exact ET'.2 (g4.congr (K := kR H H') hN2 hcl.v)
 ·obtain ⟨E0, E1, a1, _, _⟩ := r0.sat; obtain ⟨E2, E3, a2, _⟩ := a1
  exact ⟨r0.os, r0.tape, r0.output, E2, fun _ _ => False, a2, (fun i o hi => by rw [I2'] at hi; cases hi), (fun i j o o' hi => by rw [I2'] at hi; cases hi)⟩
def JB' (ks : List Nat) (os : List (Option AO)) (l : List (Nat × Nat)) : LH -> Prop
 | [] => True
 | x :: H => (∃ o, getK ks os (sg l x.1) = some o /\ OW o (x.2.ren (sg l))) /\ JB' ks os l H
theorem JB'.all {ks : List Nat} {os : List (Option AO)} {l : List (Nat × Nat)} : ∀ {H : LH}, JB' ks os l H -> ∀ x ∈ H, ∃ o, getK ks os (sg l x.1) = some o /\ OW o (x.2.ren (sg l))
 | y :: H, h, x, hx => by
  rcases List.mem_cons.1 hx with rfl | hx
  ·exact h.1
  ·exact JB'.all h.2 x hx
theorem AO' {ks : List Nat} {os : List (Option AO)} {vs vs' : List AV} {H' : LH} (l : List (Nat × Nat)) (hk : KH' H' l = true) (hi : injB (H'.map (·.1)) (sg l) = true) (hv : VW vs (AV.rens (sg l) vs')) (ho : JB' ks os l H') : Fit ks vs os vs' H' l :=
 ⟨hk, hi, hv, ho.all⟩
theorem VW.nil : VW [] [] := VW.refl []
def tms : Nat -> Nat -> List (Nat × AV) -> List AV
 | _, 0, _ => []
 | k, m + 1, l => (match l.find? (fun x => Nat.beq x.1 k) with | some x => x.2 | none => .any) :: tms (k + 1) m l
theorem JV' {σ : Nat -> Nat} {told : List (Nat × AV)} : ∀ {m k : Nat} {l : List AV}, l.length = m -> (∀ j x, l[j]? = some x -> ∀ t, told.find? (fun y => Nat.beq y.1 (k + j)) = some t -> Wk x (t.2.ren σ)) -> VW l (AV.rens σ (tms k m told))
 | 0, k, [], _, _ => VW.nil
 | m + 1, k, x :: l, hl, h => by
  rw [tms, AV.rens]; refine VW.cons ?_ (JV' (by simpa using hl) fun j y hy t ht => h (j + 1) y (by simpa using hy) t (by rw [show k + (j + 1) = k + 1 + j from ω]; exact ht))
  cases hf : told.find? (fun y => Nat.beq y.1 k) with
  | none => exact Wk.any x
  | some t => exact h 0 x rfl t hf
def SM' : List Nat -> List AV -> Nat -> AV
 | i :: idx, x :: l, j => match Nat.beq i j with
  | true => x
  | false => SM' idx l j
 | _, _, _ => .any
def TOK (idx : List Nat) (ts : List AV) (l : List (Nat × Nat)) : List (Nat × AV) -> Prop
 | [] => True
 | x :: r => Wk (SM' idx ts x.1) (x.2.ren (sg l)) /\ TOK idx ts l r
theorem O4' (tmps : List AV) (j : Nat) : ∀ idx : List Nat, SM' idx (idx.map (getL tmps)) j = getL tmps j \/ SM' idx (idx.map (getL tmps)) j = .any
 | [] => .inr rfl
 | i :: idx => by
  rw [List.map_cons, SM']
  cases hb : Nat.beq i j with
  | true => rw [Nat.eq_of_beq_eq_true hb]; exact .inl rfl
  | false => exact O4' tmps j idx
theorem TOK.mem {idx : List Nat} {ts : List AV} {l : List (Nat × Nat)} : ∀ {told : List (Nat × AV)}, TOK idx ts l told -> ∀ x ∈ told, Wk (SM' idx ts x.1) (x.2.ren (sg l))
 | y :: r, h, x, hx => by
  rcases List.mem_cons.1 hx with rfl | hx
  ·exact h.1
  ·exact TOK.mem h.2 x hx
theorem vw_tms {idx : List Nat} {l : List (Nat × Nat)} {told : List (Nat × AV)} (hl : tmps.length = m) (h : TOK idx (idx.map (getL tmps)) l told) : VW tmps (AV.rens (sg l) (tms 0 m told)) := by
 refine JV' hl fun j x hx t ht => ?_
 rw [Nat.zero_add] at ht; have hm := h.mem t (List.mem_of_find?_eq_some ht); have ht1 : t.1 = j := Nat.eq_of_beq_eq_true (by simpa using List.find?_some ht); rw [ht1] at hm
 have hg : getL tmps j = x := by rw [Q6', List.getD, hx]; rfl
 rcases O4' tmps j idx with e | e
 ·rw [e, hg] at hm; exact hm
 ·rw [e] at hm; exact fun N y _ => hm N y (by simp only [VR])
theorem MR' {K : Nat -> Bool} {told : List (Nat × AV)} (h : ∀ x ∈ told, AV.cl K x.2) : ∀ (m k : Nat), AV.cls K (tms k m told)
 | 0, k => trivial
 | m + 1, k => by
  refine ⟨?_, MR' h m (k + 1)⟩
  cases hf : told.find? (fun y => Nat.beq y.1 k) with
  | none => exact trivial
  | some t => exact h t (List.mem_of_find?_eq_some hf)
def VT.map {α β : Type} (f : α -> β) : VT α -> VT β
 | .leaf a os n c => .leaf (f a) os n c
 | .bad why => .bad why
 | .ite b x y => .ite b (x.map f) (y.map f)
theorem VT.all_map {α β : Type} {f : α -> β} {Q : β -> List (Option AO) -> Nat -> Prop} : ∀ {v : VT α}, (v.map f).all Q -> v.all fun a os n => Q (f a) os n
 | .leaf .., h => h
 | .bad _, h => h
 | .ite b x y, h => ⟨fun hb => VT.all_map (h.1 hb), fun hb => VT.all_map (h.2 hb)⟩
theorem VT.all_mono {α : Type} {Q Q' : α -> List (Option AO) -> Nat -> Prop} (hq : ∀ a os n, Q a os n -> Q' a os n) : ∀ {v : VT α}, v.all Q -> v.all Q'
 | .leaf .., h => ⟨h.1, hq _ _ _ h.2⟩
 | .bad _, h => h
 | .ite b x y, h => ⟨fun hb => VT.all_mono hq (h.1 hb), fun hb => VT.all_mono hq (h.2 hb)⟩
def aM' (idx : List Nat) (r : AX × List AV) : AX × List AV × Nat := (r.1, idx.map (getL r.2), r.2.length)
structure FitT (ks : List Nat) (idx : List Nat) (ts : List AV) (os : List (Option AO)) (told : List (Nat × AV)) (H : LH) (l : List (Nat × Nat)) : Prop where
 keys : KH' H l = true
 inj : injB (H.map (·.1)) (sg l) = true
 vals : TOK idx ts l told
 objs : JB' ks os l H
theorem FitT.fit {ks idx : List Nat} {os : List (Option AO)} {told : List (Nat × AV)} {l : List (Nat × Nat)} (hl : tmps.length = m) (h : FitT ks idx (idx.map (getL tmps)) os told H l) : Fit ks tmps os (tms 0 m told) H l :=
 AO' l h.keys h.inj (vw_tms hl h.vals) h.objs
theorem XH' {σ : Type} {con : σ -> ConT} {claim : σ -> BI'} {lcon : σ -> JJ'} {g : FuncId} {b : Code} (m : Nat) (A : σ -> List (Nat × AV)) (H : σ -> LH) (ax : AX) (Z : List (Nat × AV)) (HZ : LH) (μ : σ -> Nat) (ks idx : List Nat) (fuel : Nat) (hm : P.follows .mixedOrders = true) (hax : ax ≠ .normal)
  (hH : ∀ s, AA' 1100 (H s) = true) (hZ : AA' 1100 HZ = true)
  (hcon : ∀ s F, AH' W F -> IB' P (envO P F (con s) (claim s) (lcon s) W)) (hl : ∀ s F, AH' W F -> DU' P (envO P F (con s) (claim s) (lcon s) W))
  (hstep : ∀ s F, AH' W F -> ((((CT' P (envO P F (con s) (claim s) (lcon s) W) fuel g b (tms 0 m (A s))).run2 (AK' (H s)) 1100 []).view ks).map (aM' idx)).all fun r os _ => r.2.2 = m /\
   ((r.1 = .normal /\ ∃ s', μ s' < μ s /\ ∃ l, FitT ks idx r.2.1 os (A s') (H s') l) \/ (r.1 = ax /\ ∃ l, FitT ks idx r.2.1 os Z HZ l))) (s : σ) :
  LTri P W b (tms 0 m (A s)) (H s) ax (tms 0 m Z) HZ :=
 UF' (σ := σ) (con := con) (claim := claim) (lcon := lcon) (g := g) (fun s => tms 0 m (A s)) H (fun _ => (ax, tms 0 m Z, HZ)) μ ks fuel hm hH hcon hl (fun s F hF => VT.all_mono (fun r os n h => by
  obtain ⟨h1, h2⟩ := h
  rcases h2 with ⟨e, s', hμ, l, hf⟩ | ⟨e, l, hf⟩
  ·exact .inl ⟨e, s', hμ, rfl, l, hf.fit h1⟩
  ·exact .inr ⟨(by rw [show r.1 = ax from e]; exact hax), e, (hf.fit h1).fits hZ⟩) (VT.all_map (hstep s F hF))) s
def conL : List (FuncId × (List AV -> Option (AP AV))) -> ConT
 | [], _, _ => none
 | x :: l, f, args => match Nat.beq f x.1 with
  | true => x.2 args
  | false => conL l f args
def C1OK (P : Program) (F : HP) (f : FuncId) (g : List AV -> Option (AP AV)) : Prop :=
 ∀ (st : Bool) (W0 : World) (N : A9') (h : T) (w : World) (args : List AV) (vargs : Array Value) (v : AV) (h' : T) (n n' : Nat) (lg lg' : Log) (c : Cnd) (p : AP AV),
  g args = some p -> p.run st h n lg = .ok v h' n' lg' c -> c -> Rep W0 N F h w -> VRs N args vargs.toList -> BW' N n n' -> Calls P f vargs w (DV' W0 F N v h' n n')
theorem MQ' {E : Env} : ∀ {l : List (FuncId × (List AV -> Option (AP AV)))}, E.con = conL l -> (∀ x ∈ l, C1OK P E.F x.1 x.2) -> IB' P E := by
 intro l hE h st W0 N h1 w f args vargs v h' n n' lg lg' c p hp he hc r ha hf; rw [hE] at hp; clear hE
 induction l with
 | nil => cases hp
 | cons x l ih =>
  rw [conL] at hp
  cases hb : Nat.beq f x.1 with
  | true =>
   rw [hb] at hp; rw [Nat.eq_of_beq_eq_true hb]; exact h x ms' st W0 N h1 w args vargs v h' n n' lg lg' c p hp he hc r ha hf
  | false =>
   rw [hb] at hp; exact ih (fun y hy => h y (List.mem_cons_of_mem _ hy)) hp
def Q0' : List (FuncId × Nat × Code × (List AV -> AP (AX × List AV))) -> JJ'
 | [], _, _ => none
 | x :: l, g, i => match Nat.beq g x.1 && Nat.beq i x.2.1 with
  | true => some x.2.2
  | false => Q0' l g i
def L1OK (P : Program) (F : HP) (b : Code) (p : List AV -> AP (AX × List AV)) : Prop :=
 ∀ (st : Bool) (W0 : World) (N : A9') (h : T) (w : World) (tmps tmps' : List AV) (ax : AX) (a : Act) (h' : T) (n n' : Nat) (lg lg' : Log) (c : Cnd) (Q : Exit -> Act -> World -> Prop),
  (p tmps).run st h n lg = .ok (ax, tmps') h' n' lg' c -> c -> Rep W0 N F h w -> VRs N tmps a.tmps.toList -> BW' N n n' ->
  (∀ N' a' w', Rep W0 N' F h' w' -> VRs N' tmps' a'.tmps.toList -> a'.defers = a.defers -> Ext N N' n n' -> Q (EU' ax) a' w') -> (Code.loop b).wp P Q a w
theorem JO' {E : Env} : ∀ {l : List (FuncId × Nat × Code × (List AV -> AP (AX × List AV)))}, E.lcon = Q0' l -> (∀ x ∈ l, L1OK P E.F x.2.2.1 x.2.2.2) -> DU' P E := by
 intro l hE h st W0 N h1 w g b tmps tmps' ax a h' n n' lg lg' c Q p hp he hc r ht hf hK; rw [hE] at hp
 cases hfr : CC' b with
 | none => rw [hfr] at hp; cases hp
 | some i =>
  rw [hfr, Option.bind_some] at hp; clear hE hfr
  induction l with
  | nil => cases hp
  | cons x l ih =>
   rw [Q0'] at hp
   cases hb : (Nat.beq g x.1 && Nat.beq i x.2.1) with
   | true =>
    rw [hb] at hp; have hx := h x ms'; obtain ⟨x1, x2, x3⟩ := x; cases hp; exact hx st W0 N h1 w tmps tmps' ax a h' n n' lg lg' c Q he hc r ht hf hK
   | false =>
    rw [hb] at hp; exact ih (fun y hy => h y (List.mem_cons_of_mem _ hy)) hp
def useC (σ : Nat -> Nat) (A args : List AV) (H : LH) (rt : RT) : AP AV := (useG σ A args H rt).bind fun r => .ret (r.2.headD AV.undef)
theorem a8' (hF : AH' W F) {f : FuncId} {rt : RT} {v0 : AV} (ht : Tri P W f A H v0 rt.pick.2.2) (hv : rt.pick.2.1 = [v0]) (hcl : ClosedC A H [v0] rt.pick.2.2)
  {st : Bool} {h : T} {vargs : Array Value} {v : AV} {h' : T} {n n' : Nat} {lg lg' : Log} {c : Cnd} (he : (useC σ A args H rt).run st h n lg = .ok v h' n' lg' c) (hc : c.holds)
  (r : Rep W0 N F h w) (ha : VRs N args vargs.toList) (hf : BW' N n n') : Calls P f vargs w (DV' W0 F N v h' n n') := by
 obtain ⟨⟨ax, vs⟩, g1, n1, lg1, c1, c2, e1, e2, k1⟩ := run_bind _ _ he; obtain ⟨h1, rfl, rfl⟩ := AB' e2; obtain ⟨N1, F1, q1, q2, q3, q4, q5, q6, _⟩ := LG' e1 (k1 hc).1 r ha hf (by rw [hv]; exact hcl); refine (ht W0 F1 N1 w vargs (q2 W hF) q1 q3 q4).mono ?_; rintro e w' ⟨y, rfl, hst⟩; obtain ⟨N2, r2, hv2, hx⟩ := q6 w' [y] (by rw [hv]; exact hst); refine ⟨y, N2, rfl, r2, ?_, hx⟩; have hl := hv2.len
 match vs, hl, hv2, h1 with
 | [x], _, hv2, h1 => subst h1; exact (AD'.1 hv2).1
theorem TJ' (hF : AH' W F) {b : Code} {rt : RT} (ht : LTri P W b A H rt.pick.1 rt.pick.2.1 rt.pick.2.2) (hcl : ClosedC A H rt.pick.2.1 rt.pick.2.2)
  {st : Bool} {h : T} {ax : AX} {tmps' : List AV} {a : Act} {h' : T} {n n' : Nat} {lg lg' : Log} {c : Cnd} {Q : Exit -> Act -> World -> Prop} (he : (useG σ A args H rt).run st h n lg = .ok (ax, tmps') h' n' lg' c) (hc : c.holds)
  (r : Rep W0 N F h w) (ha : VRs N args a.tmps.toList) (hf : BW' N n n')
  (hK : ∀ N' a' w', Rep W0 N' F h' w' -> VRs N' tmps' a'.tmps.toList -> a'.defers = a.defers -> Ext N N' n n' -> Q (EU' ax) a' w') : (Code.loop b).wp P Q a w := by
 obtain ⟨N1, F1, q1, q2, q3, q4, rfl, q6, _⟩ := LG' he hc r ha hf hcl
 refine ht W0 F1 N1 w a Q (q2 W hF) q1 q3 q4 fun a' w' hst hd => ?_
 obtain ⟨N2, r2, hv2, hx⟩ := q6 w' _ hst; exact hK N2 a' w' r2 hv2 hd hx
end
end Go.Proofs.YtnnojnlejlokhaaGreatDoor.Eng
