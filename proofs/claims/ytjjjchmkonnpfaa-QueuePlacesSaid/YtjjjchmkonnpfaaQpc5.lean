/- Parts of the proof, merged. -/
import Derived.Test.YtjjjchmkonnpfaaQpc4
noncomputable section
set_option linter.unusedVariables false
set_option linter.unusedSimpArgs false
set_option maxRecDepth 100000
set_option linter.unusedSectionVars false
namespace Go.Proofs.Ytjjjchmkonnpfaa.Qb
open Go Go.RowKit Eng Kit Tree
open Rk (lO itA CP' putL JI' remK)
theorem ow_cells {cs cs' : List AV} {e : TypeId} (h : VW cs cs') (hl : cs.length = cs'.length) : OW (.cells cs e) (.cells cs' e) := by
 intro N i D w ⟨l, arr, fz, h1, h2, h3, h4, h5, h6, h7, h8⟩
 refine ⟨l, arr, fz, h1, h2, h3, h4, by rw [<- hl]; exact h5, h6, ?_, h8⟩
 rw [<- hl]; exact h _ _ h7
theorem bA' {b b' : List AV} (h : VW b b') : ∀ a : List AV, VW (a ++ b) (a ++ b')
 | [] => h
 | x :: a => VW.cons (Wk.refl x) (bA' h a)
theorem vw_K (c : Kc) : VW (vmap c.cells) (uC c) := vw_N c (P5' c.ha c.f.length c.hc) (P5' c.ta c.tr.length c.tc)
def want (now : Int) (c : Kc) : Bool := decide (0 <= c.xp) && decide (c.xp <= now)
def exN (now : Int) (I : List It) (s : Qs) : Nat -> Qs × List Kc
 | 0 => (s, [])
 | j + 1 => match I[j]? with
  | none => exN now I s j
  | some it => match want now (cAt s it.b) with
   | false => exN now I s j
   | true => ({ (exN now I s j).1 with m := mdel (exN now I s j).1.m it.b, L := remK it.b (exN now I s j).1.L }, (exN now I s j).2 ++ [cAt s it.b])
theorem O2' {now : Int} {I : List It} {s : Qs} (hm : MI s.m s.ck) : ∀ j, MI (exN now I s j).1.m s.ck /\ (∀ k, k ∉ (I.take j).map (·.b) -> AK' k (exN now I s j).1.m = AK' k s.m) /\ (exN now I s j).2.length <= j /\ (∀ e ∈ (exN now I s j).1.m, e ∈ s.m)
 | 0 => ⟨hm, fun k _ => rfl, Yd, fun e he => he⟩
 | j + 1 => by
  obtain ⟨h1, h2, h3, h4⟩ := O2' hm j; rw [exN]
  cases hI : I[j]? with
  | none =>
   refine ⟨h1, fun k hk => h2 k fun h => hk ?_, Nat.le_succ_of_le h3, h4⟩
   rw [List.take_add_one, List.map_append]; exact List.mem_append_left _ h
  | some it =>
   have ht := DP' hI; simp only
   cases want now (cAt s it.b) with
   | false =>
    refine ⟨h1, fun k hk => h2 k fun h => hk ?_, Nat.le_succ_of_le h3, h4⟩
    rw [ht, List.map_append]; exact List.mem_append_left _ h
   | true =>
    refine ⟨h1.mdel _, fun k hk => ?_, ?_, fun e he => h4 e ((JB' _ _).subset he)⟩
    ·rw [ht, List.map_append, List.mem_append] at hk; show AK' k (mdel _ _) = _; rw [DM' h1, if_neg (fun e => hk (.inr (by rw [e]; exact List.mem_singleton.2 rfl)))]
     exact h2 k fun h => hk (.inl h)
    ·show ((exN now I s j).2 ++ [_]).length <= _; rw [List.length_append]; exact Nat.succ_le_succ h3
def uT (s : Qs) (P : Mem -> Prop) (I : AO) (now : Int) : LH := [(0, qC s.cf s.la), (1001, .map (mE aggK s.m) s.ck), (1002, .any (frz P)), (1003, lO s.L), (1004, .map (mE iv s.o) s.ok), (1005, I), (1007, .cells [iv now] tIn)]
theorem g5' {vs : List AV} (s : Qs) (P : Mem -> Prop) (I : AO) (now : Int) : Goes vs (uT s P I now) vs (oTk s P I dumZ now) := BR' (k := 1006) (fun C => trivial) rfl rfl rfl δ rfl (fun n hn => by
 simp only [uT, oTk, getO]
 by_cases e0 : n = 0
 ·simp only [if_pos e0]
 ·by_cases e1 : n = 1001
  ·simp only [if_neg e0, if_pos e1]
  ·by_cases e2 : n = 1002
   ·simp only [if_neg e0, if_neg e1, if_pos e2]
   ·by_cases e3 : n = 1003
    ·simp only [if_neg e0, if_neg e1, if_neg e2, if_pos e3]
    ·by_cases e4 : n = 1004
     ·simp only [if_neg e0, if_neg e1, if_neg e2, if_neg e3, if_pos e4]
     ·by_cases e5 : n = 1005
      ·simp only [if_neg e0, if_neg e1, if_neg e2, if_neg e3, if_neg e4, if_pos e5]
      ·simp only [if_neg e0, if_neg e1, if_neg e2, if_neg e3, if_neg e4, if_neg e5, if_neg hn])
theorem XI' (L : List It) (k : Int) (F : HP) : C1OK Θ F CU' (M3' L k) :=
 D7' (W := default) B6' (fun _ => .tuple [itA (JI' k L), .v (.bool (CP' k L))]) KL' (fun _ => rfl) (fun _ _ => Rk.Atake_tri L k) fun _ => ⟨rfl, rfl, ⟨rfl, Ye, Ye⟩, A0' Ye A4', ⟨⟨⟨Ye, Ye, Ye, Ye⟩, Ye, Ye⟩, Ye⟩, A0' Ye A4'⟩
theorem gQ' (s : Qs) (P : Mem -> Prop) (now : Int) (hm : MI s.m s.ck) (I : List It) (hb : I.length * 320 <= 140737488355328) (hnd : (I.map (·.b)).Nodup) (hI : ∀ x ∈ I, ∃ c, AK' x.b s.m = some c) :
  LTri Θ default (AH' C6' 2) (tms 0 42 (aTk I.length 0 nilS)) (uT s P (rI3 I) now) (.exit 0) (tms 0 42 [(4, xRk 1006 (exN now I s I.length).2)]) (uO (exN now I s I.length).1 P (rO (exN now I s I.length).2)) := by
 refine LTri.pre (g5' s P _ _) ?_; refine CT' (W := default) (g := C6') (b := AH' C6' 2) (σ := {j : Nat // j <= I.length}) 42 (fun z => aTk I.length z.1 (xRk 1006 (exN now I s z.1).2)) (fun z => oTk (exN now I s z.1).1 P (rI3 I) (rO (exN now I s z.1).2) now) (.exit 0) [(4, xRk 1006 (exN now I s I.length).2)] (uO (exN now I s I.length).1 P (rO (exN now I s I.length).2)) (fun z => I.length - z.1) kT iTk (by intro h; cases h) (fun _ => rfl) ?_ ⟨0, Nat.zero_le _⟩; rintro ⟨j, hj⟩; simp only at hj ⊢
 by_cases h1 : j < I.length
 ·obtain ⟨it, hx⟩ := DD' h1; obtain ⟨c, hc⟩ := hI it (List.mem_of_getElem? hx)
  have hca : cAt s it.b = c := by simp only [cAt, hc, Option.getD_some]
  have hnotin : it.b ∉ (I.take j).map (·.b) := by
   have h2 := hnd; rw [<- List.take_append_drop j I, List.map_append, List.nodup_append] at h2; intro h3
   have h4 : it.b ∈ (I.drop j).map (·.b) := by
    rw [List.drop_eq_getElem_cons h1, List.map_cons]; have := (List.getElem?_eq_some_iff.1 hx).2; rw [this]; exact List.mem_cons_self
   exact h2.2.2 _ h3 _ h4 rfl
  obtain ⟨i1, i2, i3, i4⟩ := O2' (now := now) (I := I) hm j; have hct : AK' it.b (exN now I s j).1.m = some c := (i2 _ hnotin).trans hc
  have hst : exN now I s (j + 1) = match want now c with
   | false => exN now I s j
   | true => ({ (exN now I s j).1 with m := mdel (exN now I s j).1.m it.b, L := remK it.b (exN now I s j).1.L }, (exN now I s j).2 ++ [c]) := by
   rw [exN, hx]; simp only [hca]
  obtain ⟨⟨t, R⟩, hp⟩ : ∃ p, exN now I s j = p := ⟨_, rfl⟩; rw [hp] at hct hst i3 ⊢; simp only at hct hst i3 ⊢; have hw := BZ' j ω; have e1 : decide (Int.ofNat j < Int.ofNat I.length) = true := ltT h1; have h2 := IN' hct; have hcs := WN' hx; have h1' := h1
  by_cases w1 : 0 <= c.xp
  ·by_cases w2 : c.xp <= now
   ·have hwt : want now c = true := by simp only [want, decide_eq_true w1, decide_eq_true w2, Bool.and_self]
    rw [hwt] at hst; simp only at hst; have b1 : decide (Int.ofNat 0 <= c.xp) = true := decide_eq_true w1; have b2 : decide (c.xp <= now) = true := decide_eq_true w2
    refine ⟨[(CU', M3' t.L it.b)], hTk j it c true true, [], fun F hF => C7' (XI' _ _ F), fun _ _ => noL, fun F => ?_⟩
    by_cases hR : R = []
    ·subst hR
     refine Yj (dZ' t P I I.length j now it c F) ⟨⟨fun _ => ⟨?_, rfl, .inl ⟨rfl, aTk I.length (j + 1) (xRk 1006 [c]), oTk { t with m := mdel t.m it.b, L := remK it.b t.L } P (rI3 I) (rO [c]) now, [(1001, 1001), (1002, 1002), (1003, 1003), (1004, 1004), (1005, 1005), (1006, 1105), (1007, 1007)], rfl, ⟨χ, by kernel_rfl, ⟨Ya, Ya, Ya, Ya, Ya, Ya, Ye⟩, ⟨_, rfl, Yc⟩, ⟨_, rfl, OW.of_eq (by show AO.map (delE (.v (.int .i64 it.b)) (mE aggK t.m)) t.ck = AO.map (renE _ (mE aggK (mdel t.m it.b))) t.ck; rw [B5', H0'])⟩, ⟨_, rfl, Yc⟩, ⟨_, rfl, Yc⟩, ⟨_, rfl, OW.of_eq (by simp only [AO.ren, BB'])⟩, ⟨_, rfl, OW.of_eq (JW' _ I).symm⟩, ⟨_, rfl, by rw [DZ']; show OW _ (AO.cells (rowU [c]) tKc); rw [ET']; exact ow_cells (vw_K c) rfl⟩, ⟨_, rfl, Yc⟩, Ye⟩, fun W0 F N ys w hs => ?_⟩⟩, fun h => (by cases h)⟩⟩
     ·exact Cq10'
     ·refine ⟨⟨j + 1, h1⟩, BE' h1, ?_⟩; simp only; rw [hst]; exact hs
    ·obtain ⟨x1, x2⟩ := D5' (k := 1006) hR; obtain ⟨m, hml⟩ : ∃ m, R.length = m := ⟨_, rfl⟩; rw [x1, x2, hml]
     have hmj : m <= j := ω
     have k1 : (0 + m * 25).ble (rowU R).length = true := by rw [BV', hml, Nat.ble_eq]; omega
     have k2 : ((m + 1) * 320).ble 140737488355328 = true := by rw [Nat.ble_eq]; omega
     have k3 : (m + 1).ble 9223372036854775807 = true := by rw [Nat.ble_eq]; omega
     have ktk : List.take (m * 25) (List.drop 0 (rowU R)) = rowU R := by rw [List.drop_zero, <- hml, HG', List.take_length]
     have k4 : (List.take (m * 25) (List.drop 0 (rowU R))).length.beq (m * 25) = true := by rw [ktk, BV', hml]; exact Nat.beq_refl _
     have hcc : rO (R ++ [c]) = .cells (rowU (R ++ [c])) tKc := (D5' (k := 1006) (by simp)).2
     have hcx : xRk 1006 (R ++ [c]) = slR 1006 (m + 1) := by rw [(D5' (k := 1006) (by simp)).1, List.length_append, hml]; rfl
     refine Yj (dW' t P I I.length j m now it c R F) ⟨⟨fun _ => ⟨?_, rfl, .inl ⟨rfl, aTk I.length (j + 1) (slR 1006 (m + 1)), oTk { t with m := mdel t.m it.b, L := remK it.b t.L } P (rI3 I) (.cells (rowU R ++ uC c) tKc) now, [(1001, 1001), (1002, 1002), (1003, 1003), (1004, 1004), (1005, 1005), (1006, 1105), (1007, 1007)], rfl, ⟨χ, by kernel_rfl, ⟨Ya, Ya, Ya, Ya, Ya, Ya, Ye⟩, ⟨_, rfl, Yc⟩, ⟨_, rfl, OW.of_eq (by show AO.map (delE (.v (.int .i64 it.b)) (mE aggK t.m)) t.ck = AO.map (renE _ (mE aggK (mdel t.m it.b))) t.ck; rw [B5', H0'])⟩, ⟨_, rfl, Yc⟩, ⟨_, rfl, Yc⟩, ⟨_, rfl, OW.of_eq (by simp only [AO.ren, BB'])⟩, ⟨_, rfl, OW.of_eq (JW' _ I).symm⟩, ⟨_, rfl, by rw [ktk]; simp only [AO.ren, GR', AC', NV']; exact ow_cells (bA' (vw_K c) _) (by rw [List.length_append, List.length_append]; rfl)⟩, ⟨_, rfl, Yc⟩, Ye⟩, fun W0 F N ys w hs => ?_⟩⟩, fun h => (by cases h)⟩⟩
     ·simp only [Cnd.holds, Nat.blt_eq, true_and, and_true, e1, h1, h2, hcs, b1, b2, k1, k2, k3, k4]; and_intros; all_goals exact Kq8'
     ·refine ⟨⟨j + 1, h1⟩, BE' h1, ?_⟩; simp only; rw [hst]; simp only; rw [hcc, hcx, D2', ET']; exact hs
   ·have hwt : want now c = false := by simp only [want, decide_eq_false w2, Bool.and_false]
    rw [hwt] at hst; simp only at hst; have b1 : decide (Int.ofNat 0 <= c.xp) = true := decide_eq_true w1; have b2 : decide (c.xp <= now) = false := decide_eq_false w2
    refine ⟨[], hTk j it c true false, [], fun _ _ => noC, fun _ _ => noL, fun F => ?_⟩
    refine Yj (dY' t P I (rO R) I.length j (xRk 1006 R) now it c F) ⟨⟨fun h => (by cases h), fun _ => ⟨?_, rfl, .inl ⟨rfl, aTk I.length (j + 1) (xRk 1006 R), oTk t P (rI3 I) (rO R) now, [(1001, 1001), (1002, 1002), (1003, 1003), (1004, 1004), (1005, 1005), (1006, 1006), (1007, 1007)], rfl, ⟨χ, by kernel_rfl, ⟨Ya, Ya, by rw [PB']; exact Ya, Ya, Ya, Ya, Ye⟩, ⟨_, rfl, Yc⟩, ⟨_, rfl, OW.of_eq (by simp only [AO.ren, B5'])⟩, ⟨_, rfl, Yc⟩, ⟨_, rfl, Yc⟩, ⟨_, rfl, OW.of_eq (by simp only [AO.ren, BB'])⟩, ⟨_, rfl, OW.of_eq (JW' _ I).symm⟩, ⟨_, rfl, OW.of_eq (DZ' _ R).symm⟩, ⟨_, rfl, Yc⟩, Ye⟩, fun W0 F N ys w hs => ?_⟩⟩⟩⟩
    ·exact Cq10'
    ·refine ⟨⟨j + 1, h1⟩, BE' h1, ?_⟩; simp only; rw [hst]; exact hs
  ·have hwt : want now c = false := by simp only [want, decide_eq_false w1, Bool.false_and]
   rw [hwt] at hst; simp only at hst; have b1 : decide (Int.ofNat 0 <= c.xp) = false := decide_eq_false w1
   refine ⟨[], hTk j it c false false, [], fun _ _ => noC, fun _ _ => noL, fun F => ?_⟩
   refine Yj (dX' t P I (rO R) I.length j (xRk 1006 R) now it c F) ⟨⟨fun h => (by cases h), fun _ => ⟨?_, rfl, .inl ⟨rfl, aTk I.length (j + 1) (xRk 1006 R), oTk t P (rI3 I) (rO R) now, [(1001, 1001), (1002, 1002), (1003, 1003), (1004, 1004), (1005, 1005), (1006, 1006), (1007, 1007)], rfl, ⟨χ, by kernel_rfl, ⟨Ya, Ya, by rw [PB']; exact Ya, Ya, Ya, Ya, Ye⟩, ⟨_, rfl, Yc⟩, ⟨_, rfl, OW.of_eq (by simp only [AO.ren, B5'])⟩, ⟨_, rfl, Yc⟩, ⟨_, rfl, Yc⟩, ⟨_, rfl, OW.of_eq (by simp only [AO.ren, BB'])⟩, ⟨_, rfl, OW.of_eq (JW' _ I).symm⟩, ⟨_, rfl, OW.of_eq (DZ' _ R).symm⟩, ⟨_, rfl, Yc⟩, Ye⟩, fun W0 F N ys w hs => ?_⟩⟩⟩⟩
   ·simp only [Cnd.holds, Nat.blt_eq, true_and, and_true, e1, h1, h2, hcs, b1]; and_intros; all_goals first | (with_reducible exact Ye) | (with_reducible exact rfl) | (with_reducible exact Ya) | (with_reducible exact Yb) | (with_reducible exact Yc) | (with_reducible exact AM' _) | (with_reducible assumption) | exact AS' hu3 _ _ _ | exact B3' _ _ | (with_reducible exact AW' hw) | exact A5' e1 | exact A5' b1 | exact Kq21'
   ·refine ⟨⟨j + 1, h1⟩, BE' h1, ?_⟩; simp only; rw [hst]; exact hs
 ·have hje : j = I.length := ω
  subst hje
  refine ⟨[], AJ' [hf' C6' 2 0], [], fun _ _ => noC, fun _ _ => noL, fun F => ?_⟩
  refine Yj (e3' (exN now I s I.length).1 P (rI3 I) (rO (exN now I s I.length).2) I.length (xRk 1006 (exN now I s I.length).2) now F) ⟨⟨?_, rfl, .inr ⟨rfl, [(4, xRk 1006 (exN now I s I.length).2)], uO (exN now I s I.length).1 P (rO (exN now I s I.length).2), [(1001, 1001), (1002, 1002), (1003, 1003), (1004, 1004), (1006, 1006)], rfl, ⟨χ, by kernel_rfl, ⟨?_, Ye⟩, ⟨_, rfl, Yc⟩, ⟨_, rfl, OW.of_eq (by simp only [AO.ren, B5'])⟩, ⟨_, rfl, Yc⟩, ⟨_, rfl, Yc⟩, ⟨_, rfl, OW.of_eq (by simp only [AO.ren, BB'])⟩, ⟨_, rfl, OW.of_eq (DZ' _ _).symm⟩, Ye⟩, fun W0 F N ys w hs => hs⟩⟩⟩
  ·simp only [Cnd.holds, and_true]; exact A5' ltF
  ·rw [PB']; exact Ya
open Rk (lO itA CP' putL JI' remK)
noncomputable section
def cIt (L : List It) (n : Nat) : List AV -> Option (AP AV) := mkC gP1 (fun _ => True) nmP (fun _ => [.ptr 0 0]) (fun _ => [(0, lO L)]) (fun _ => .leaf .ret [.slice 1000 0 n 3 (.lo n)] [(0, lO L), (1000, rI3 L)])
def cIt0 : List AV -> Option (AP AV) := mkC gP1 (fun _ => True) nmP (fun _ => [.ptr 0 0]) (fun _ => [(0, lO [])]) (fun _ => .leaf .ret [.mt] [(0, lO [])])
def gSo : List AV -> AP Nat := fun args => match args with
 | [.func _ _ (.ptr i _ :: _)] => .ret i
 | _ => .fail "sorted"
def nmS (i : Nat) : Nat -> Nat := fun k => match k with | 0 => i | 1 => 1004 | k => k
def cSo (o : IMap Int) (ck n : Nat) : List AV -> Option (AP AV) := mkC gSo (fun _ => True) nmS (fun _ => [.func (.func X1') [] [.ptr 0 0]]) (fun _ => [(0, .cells [.map 1] (2 * 62)), (1, .map (mE iv o) ck)]) (fun _ => .leaf .ret [.slice 1000 0 n 1 (.lo n)] [(0, .cells [.map 1] (2 * 62)), (1, .map (mE iv o) ck), (1000, rZ (EF' o))])
def cSo0 (ck : Nat) : List AV -> Option (AP AV) := mkC gSo (fun _ => True) nmS (fun _ => [.func (.func X1') [] [.ptr 0 0]]) (fun _ => [(0, .cells [.map 1] (2 * 62)), (1, .map [] ck)]) (fun _ => .leaf .ret [.v (.slice none 0 0)] [(0, .cells [.map 1] (2 * 62)), (1, .map [] ck)])
def gLp (k : Nat) : List AV -> AP Nat := fun tmps => match getL tmps k with
 | .slice i _ _ _ _ => .ret i
 | _ => .fail "items"
def nmL (i : Nat) : Nat -> Nat := fun k => match Nat.beq k 1005 with | true => i | false => k
def lRd (s : Qs) (P : Mem -> Prop) (L : List It) (n : Nat) (x : AV) (O : AO) : List AV -> AP (AX × List AV) := mkL (gLp 9) (fun _ => True) nmL (fun _ => tms 0 28 (aRd n 0 nilS)) (fun _ => uI s P (rI3 L)) (fun _ => .leaf (.exit 0) (tms 0 28 [(2, x)]) (uO s P O))
def lOt (s : Qs) (P : Mem -> Prop) (I : List Int) (n : Nat) (x : AV) (O : AO) : List AV -> AP (AX × List AV) := mkL (gLp 10) (fun _ => True) nmL (fun _ => tms 0 28 (aOt n 0 nilS)) (fun _ => uI s P (rZ I)) (fun _ => .leaf (.exit 0) (tms 0 28 [(2, x)]) (uO s P O))
def gLt : List AV -> AP (Nat × Nat) := fun tmps => match getL tmps 11 with
 | .slice i _ _ _ _ => match getL tmps 1 with
  | .func _ _ (.ptr b _ :: _) => .ret (i, b)
  | _ => .fail "closure"
 | _ => .fail "items"
def nmT (q : Nat × Nat) : Nat -> Nat := fun k => match Nat.beq k 1005 with
 | true => q.1
 | false => match Nat.beq k 1007 with
  | true => q.2
  | false => k
def lTk (s t : Qs) (P : Mem -> Prop) (L : List It) (n : Nat) (now : Int) (x : AV) (O : AO) : List AV -> AP (AX × List AV) := mkL gLt (fun _ => True) nmT (fun _ => tms 0 42 (aTk n 0 nilS)) (fun _ => uT s P (rI3 L) now) (fun _ => .leaf (.exit 0) (tms 0 42 [(4, x)]) (uO t P O))
def kH : List Nat := [0, 1001, 1002, 1003, 1004, 1006, 1100, 1101, 1102, 1103, 1104, 1105, 1106, 1107]
theorem Z5' (s : Qs) (P : Mem -> Prop) (F : HP) : wRun [(BM', cIt0)] (AJ' [hf' B8' 2 0]) [] default B8' [.ptr 0 0] (uQ { s with L := [] } P) kH F = VT.leaf (e') [some (AO.cells [z' s.cf.t1,z' s.cf.t2,z' s.cf.ml,z' s.cf.mp,s' s.cf.a1,s' s.cf.a2,s' s.cf.a3,b' s.cf.b1,b' s.cf.b2,b' s.cf.b3,AV.map 1001,AV.ptr 1003 0,AV.map 1004,z' s.la,e'] 128),some (AO.map (mE aggK s.m) s.ck),some (AO.any (frz P)),some (AO.own (Md.line []) (Rk.lH [])),some (AO.map (mE iv s.o) s.ok),none,none,none,none,none,none,none,none,none] 1100 (k6'.a ((k60' 1003).a (k17'.a k1'))) := χ
abbrev k68' (q0 : Qs) : Cnd := (ow' (AO.own (Md.line q0.L) (Rk.lH q0.L)))
abbrev k69' (q0 : Qs) (q1 : Nat) : Cnd := (p' (OW (AO.map (mE aggK q0.m) q0.ck) (AO.map (renE (nmL q1) (mE aggK q0.m)) q0.ck)))
abbrev k70' (q0 : Qs) (q1 q2 q3 : Nat) : Cnd := (ow' (AO.cells [z' q0.cf.t1,z' q0.cf.t2,z' q0.cf.ml,z' q0.cf.mp,s' q0.cf.a1,s' q0.cf.a2,s' q0.cf.a3,b' q0.cf.b1,b' q0.cf.b2,b' q0.cf.b3,AV.map q1,AV.ptr q2 0,AV.map q3,z' q0.la,e'] 128))
theorem Z4' (s : Qs) (P : Mem -> Prop) (n : Nat) (O : AO) (F : HP) : wRun [(BM', cIt s.L n)] AF' [(B8', 2, AH' B8' 2, lRd s P s.L n (slR 1006 n) O)] default B8' [.ptr 0 0] (uQ s P) kH F = VT.leaf (AV.slice 1105 0 n 25 (Cp.lo n)) [some (AO.cells [z' s.cf.t1,z' s.cf.t2,z' s.cf.ml,z' s.cf.mp,s' s.cf.a1,s' s.cf.a2,s' s.cf.a3,b' s.cf.b1,b' s.cf.b2,b' s.cf.b3,AV.map 1101,AV.ptr 1103 0,AV.map 1104,z' s.la,e'] 128),none,none,none,none,none,none,some (AO.map (renE (sgN (nmL 1100) [1001,1002,1003,1004,1006] 1101) (mE aggK s.m)) s.ck),some (AO.any (frz P)),some (AO.own (Md.line s.L) (Rk.lH s.L)),some (AO.map (renE (sgN (nmL 1100) [1001,1002,1003,1004,1006] 1101) (mE iv s.o)) s.ok),some (AO.ren (sgN (nmL 1100) [1001,1002,1003,1004,1006] 1101) O),none,none] 1106 (k6'.a ((k65' 1003 s).a ((p' ((B8',2,AH' B8' 2,lRd s P s.L n (slR 1006 n) O).snd.snd.fst = (B8',2,AH' B8' 2,lRd s P s.L n (slR 1006 n) O).snd.snd.fst)).a (k11'.a ((p' (VW (AV.ptr 0 0::u'::e'::u'::u'::AV.ptr 0 0::AV.ptr 0 0::AV.ptr 0 11::AV.ptr 1003 0::AV.slice 1100 0 n 3 (Cp.lo n)::z' ↑n::i' 0::ru16 ([])) (AV.ptr 0 0::a'::e'::ra4 (a'::a'::AV.slice 1100 0 n 3 (Cp.lo n)::i' n::i' 0::ra16 ([]))))).a ((k70' s 1001 1003 1004).a ((k69' s 1100).a ((ow' (AO.any (frz P))).a ((k68' s).a ((p' (OW (AO.map (mE iv s.o) s.ok) (AO.map (renE (nmL 1100) (mE iv s.o)) s.ok))).a ((p' (OW (AO.cells (AV.rens (sgN (nmP 1003) [1000] 1100) (rowV Rk.enc s.L)) 142) (AO.cells (AV.rens (nmL 1100) (rowV Rk.enc s.L)) 142))).a k1'))))))))))) := χ
theorem ZA' (s : Qs) (P : Mem -> Prop) (F : HP) : wRun [(IO', cSo0 s.ok)] (AJ' [hf' fOut 2 0]) [] default fOut [.ptr 0 0] (uQ { s with o := [] } P) kH F = VT.leaf (e') [some (AO.cells [z' s.cf.t1,z' s.cf.t2,z' s.cf.ml,z' s.cf.mp,s' s.cf.a1,s' s.cf.a2,s' s.cf.a3,b' s.cf.b1,b' s.cf.b2,b' s.cf.b3,AV.map 1001,AV.ptr 1003 0,AV.map 1004,z' s.la,e'] 128),some (AO.map (mE aggK s.m) s.ck),some (AO.any (frz P)),some (AO.own (Md.line s.L) (Rk.lH s.L)),some (AO.map [] s.ok),none,some (AO.cells [AV.map 1004] 124),none,none,none,none,none,none,none] 1101 (k6'.a (((Cnd.p True).a ((vw' [AV.func (Fn.func 54) [] [AV.ptr 1100 0]]).a ((ow' (AO.cells [AV.map 1004] 124)).a (f' (OW (AO.map [] s.ok) (AO.map [] s.ok)))))).a (k17'.a k1'))) := χ
theorem Z9' (s : Qs) (P : Mem -> Prop) (n : Nat) (O : AO) (F : HP) : wRun [(IO', cSo s.o s.ok n)] AF' [(fOut, 2, AH' fOut 2, lOt s P (EF' s.o) n (slR 1006 n) O)] default fOut [.ptr 0 0] (uQ s P) kH F = VT.leaf (AV.slice 1106 0 n 25 (Cp.lo n)) [some (AO.cells [z' s.cf.t1,z' s.cf.t2,z' s.cf.ml,z' s.cf.mp,s' s.cf.a1,s' s.cf.a2,s' s.cf.a3,b' s.cf.b1,b' s.cf.b2,b' s.cf.b3,AV.map 1102,AV.ptr 1104 0,AV.map 1105,z' s.la,e'] 128),none,none,none,none,none,some (AO.cells [AV.map 1004] 124),none,some (AO.map (renE (sgN (nmL 1101) [1001,1002,1003,1004,1006] 1102) (mE aggK s.m)) s.ck),some (AO.any (frz P)),some (AO.own (Md.line s.L) (Rk.lH s.L)),some (AO.map (renE (sgN (nmL 1101) [1001,1002,1003,1004,1006] 1102) (mE iv s.o)) s.ok),some (AO.ren (sgN (nmL 1101) [1001,1002,1003,1004,1006] 1102) O),none] 1107 (k6'.a (((Cnd.p True).a ((vw' [AV.func (Fn.func 54) [] [AV.ptr 1100 0]]).a ((ow' (AO.cells [AV.map 1004] 124)).a (f' (OW (AO.map (mE iv s.o) s.ok) (AO.map (renE (nmS 1100) (mE iv s.o)) s.ok)))))).a ((p' ((fOut,2,AH' fOut 2,lOt s P (EF' s.o) n (slR 1006 n) O).snd.snd.fst = (fOut,2,AH' fOut 2,lOt s P (EF' s.o) n (slR 1006 n) O).snd.snd.fst)).a (k11'.a ((p' (VW (AV.ptr 0 0::u'::e'::u'::u'::AV.ptr 0 0::AV.ptr 0 0::AV.ptr 0 12::AV.map 1004::AV.func (Fn.func 54) [] [AV.ptr 1100 0]::AV.slice 1101 0 n 1 (Cp.lo n)::z' ↑n::i' 0::ru8 (ru4 (u'::u'::u'::[]))) (AV.ptr 0 0::a'::e'::ra4 (a'::a'::a'::AV.slice 1101 0 n 1 (Cp.lo n)::i' n::i' 0::ra8 (ra4 (a'::a'::a'::[])))))).a ((k70' s 1001 1003 1004).a ((k69' s 1101).a ((ow' (AO.any (frz P))).a ((k68' s).a ((p' (OW (AO.map (renE (sgN (nmS 1100) [1000] 1101) (mE iv s.o)) s.ok) (AO.map (renE (nmL 1101) (mE iv s.o)) s.ok))).a ((p' (OW (AO.cells (AV.rens (sgN (nmS 1100) [1000] 1101) (vmap (List.map encZ (List.brecOn (List.map (fun x => x.fst) s.o) (R0'._f leZ))))) 6) (AO.cells (AV.rens (nmL 1101) (vmap (List.map encZ (List.brecOn (List.map (fun x => x.fst) s.o) (R0'._f leZ))))) 6))).a k1'))))))))))) := χ
theorem ZW' (s : Qs) (P : Mem -> Prop) (now : Int) (F : HP) : wRun [(BM', cIt0)] (AJ' [hf' C6' 2 0]) [] default G2' [.ptr 0 0, iv now] (uQ { s with L := [] } P) kH F = VT.leaf (e') [some (AO.cells [z' s.cf.t1,z' s.cf.t2,z' s.cf.ml,z' s.cf.mp,s' s.cf.a1,s' s.cf.a2,s' s.cf.a3,b' s.cf.b1,b' s.cf.b2,b' s.cf.b3,AV.map 1001,AV.ptr 1003 0,AV.map 1004,z' s.la,e'] 128),some (AO.map (mE aggK s.m) s.ck),some (AO.any (frz P)),some (AO.own (Md.line []) (Rk.lH [])),some (AO.map (mE iv s.o) s.ok),none,some (AO.cells [z' now] 6),none,none,none,none,none,none,none] 1101 (((fe' true).a (((Cnd.p True).a ((vw' [AV.ptr 1003 0]).a (f' (OW (AO.own (Md.line []) (Rk.lH [])) (AO.own (Md.line []) (Rk.lH [])))))).a ((f' (Wk (b' false) g')).a t'))).a k1') := χ
theorem ZU' (s t : Qs) (P : Mem -> Prop) (n : Nat) (now : Int) (O : AO) (F : HP) : wRun [(BM', cIt s.L n)] AF' [(C6', 2, AH' C6' 2, lTk s t P s.L n now nilS O)] default G2' [.ptr 0 0, iv now] (uQ s P) kH F = VT.leaf (e') [some (AO.cells [z' t.cf.t1,z' t.cf.t2,z' t.cf.ml,z' t.cf.mp,s' t.cf.a1,s' t.cf.a2,s' t.cf.a3,b' t.cf.b1,b' t.cf.b2,b' t.cf.b3,AV.map 1102,AV.ptr 1104 0,AV.map 1105,z' t.la,e'] 128),none,none,none,none,none,none,none,some (AO.map (renE (sgN (nmT (1101,1100)) [1001,1002,1003,1004,1006] 1102) (mE aggK t.m)) t.ck),some (AO.any (frz P)),some (AO.own (Md.line t.L) (Rk.lH t.L)),some (AO.map (renE (sgN (nmT (1101,1100)) [1001,1002,1003,1004,1006] 1102) (mE iv t.o)) t.ok),some (AO.ren (sgN (nmT (1101,1100)) [1001,1002,1003,1004,1006] 1102) O),none] 1107 (((fe' true).a (((Cnd.p True).a ((vw' [AV.ptr 1003 0]).a (f' (OW (AO.own (Md.line s.L) (Rk.lH s.L)) (AO.own (Md.line s.L) (Rk.lH s.L)))))).a ((p' ((C6',2,AH' C6' 2,lTk s t P s.L n now nilS O).snd.snd.fst = (C6',2,AH' C6' 2,lTk s t P s.L n now nilS O).snd.snd.fst)).a ((Cnd.p True).a ((p' (VW (AV.ptr 0 0::AV.func (Fn.func 40) [] [AV.ptr 1100 0]::u'::u'::e'::u'::u'::AV.ptr 0 0::AV.ptr 0 0::AV.ptr 0 11::AV.ptr 1003 0::AV.slice 1101 0 n 3 (Cp.lo n)::z' ↑n::i' 0::ru16 (ru8 (ru4 ([])))) (AV.ptr 0 0::AV.func (Fn.func 40) [] [AV.ptr 1100 0]::a'::a'::e'::ra4 (a'::a'::AV.slice 1101 0 n 3 (Cp.lo n)::i' n::i' 0::ra16 (ra8 (ra4 ([]))))))).a ((ow' (AO.cells [z' s.cf.t1,z' s.cf.t2,z' s.cf.ml,z' s.cf.mp,s' s.cf.a1,s' s.cf.a2,s' s.cf.a3,b' s.cf.b1,b' s.cf.b2,b' s.cf.b3,AV.map 1001,AV.ptr 1003 0,AV.map 1004,z' s.la,e'] 128)).a ((p' (OW (AO.map (mE aggK s.m) s.ck) (AO.map (renE (nmT (1101,1100)) (mE aggK s.m)) s.ck))).a ((ow' (AO.any (frz P))).a ((ow' (AO.own (Md.line s.L) (Rk.lH s.L))).a ((p' (OW (AO.map (mE iv s.o) s.ok) (AO.map (renE (nmT (1101,1100)) (mE iv s.o)) s.ok))).a ((p' (OW (AO.cells (AV.rens (sgN (nmP 1003) [1000] 1101) (rowV Rk.enc s.L)) 142) (AO.cells (AV.rens (nmT (1101,1100)) (rowV Rk.enc s.L)) 142))).a (f' (OW (AO.cells [z' now] 6) (AO.cells [z' now] 6)))))))))))))).a k1') := χ
theorem ZV' (s t : Qs) (P : Mem -> Prop) (n m : Nat) (now : Int) (O : AO) (F : HP) : wRun [(BM', cIt s.L n)] AF' [(C6', 2, AH' C6' 2, lTk s t P s.L n now (slR 1006 m) O)] default G2' [.ptr 0 0, iv now] (uQ s P) kH F = VT.leaf (AV.slice 1106 0 m 25 (Cp.lo m)) [some (AO.cells [z' t.cf.t1,z' t.cf.t2,z' t.cf.ml,z' t.cf.mp,s' t.cf.a1,s' t.cf.a2,s' t.cf.a3,b' t.cf.b1,b' t.cf.b2,b' t.cf.b3,AV.map 1102,AV.ptr 1104 0,AV.map 1105,z' t.la,e'] 128),none,none,none,none,none,none,none,some (AO.map (renE (sgN (nmT (1101,1100)) [1001,1002,1003,1004,1006] 1102) (mE aggK t.m)) t.ck),some (AO.any (frz P)),some (AO.own (Md.line t.L) (Rk.lH t.L)),some (AO.map (renE (sgN (nmT (1101,1100)) [1001,1002,1003,1004,1006] 1102) (mE iv t.o)) t.ok),some (AO.ren (sgN (nmT (1101,1100)) [1001,1002,1003,1004,1006] 1102) O),none] 1107 (((fe' true).a (((Cnd.p True).a ((vw' [AV.ptr 1003 0]).a (f' (OW (AO.own (Md.line s.L) (Rk.lH s.L)) (AO.own (Md.line s.L) (Rk.lH s.L)))))).a ((p' ((C6',2,AH' C6' 2,lTk s t P s.L n now (slR 1006 m) O).snd.snd.fst = (C6',2,AH' C6' 2,lTk s t P s.L n now (slR 1006 m) O).snd.snd.fst)).a ((Cnd.p True).a ((p' (VW (AV.ptr 0 0::AV.func (Fn.func 40) [] [AV.ptr 1100 0]::u'::u'::e'::u'::u'::AV.ptr 0 0::AV.ptr 0 0::AV.ptr 0 11::AV.ptr 1003 0::AV.slice 1101 0 n 3 (Cp.lo n)::z' ↑n::i' 0::ru16 (ru8 (ru4 ([])))) (AV.ptr 0 0::AV.func (Fn.func 40) [] [AV.ptr 1100 0]::a'::a'::e'::ra4 (a'::a'::AV.slice 1101 0 n 3 (Cp.lo n)::i' n::i' 0::ra16 (ra8 (ra4 ([]))))))).a ((ow' (AO.cells [z' s.cf.t1,z' s.cf.t2,z' s.cf.ml,z' s.cf.mp,s' s.cf.a1,s' s.cf.a2,s' s.cf.a3,b' s.cf.b1,b' s.cf.b2,b' s.cf.b3,AV.map 1001,AV.ptr 1003 0,AV.map 1004,z' s.la,e'] 128)).a ((p' (OW (AO.map (mE aggK s.m) s.ck) (AO.map (renE (nmT (1101,1100)) (mE aggK s.m)) s.ck))).a ((ow' (AO.any (frz P))).a ((ow' (AO.own (Md.line s.L) (Rk.lH s.L))).a ((p' (OW (AO.map (mE iv s.o) s.ok) (AO.map (renE (nmT (1101,1100)) (mE iv s.o)) s.ok))).a ((p' (OW (AO.cells (AV.rens (sgN (nmP 1003) [1000] 1101) (rowV Rk.enc s.L)) 142) (AO.cells (AV.rens (nmT (1101,1100)) (rowV Rk.enc s.L)) 142))).a (f' (OW (AO.cells [z' now] 6) (AO.cells [z' now] 6)))))))))))))).a k1') := χ
end
open Rk (lO itA CP' putL JI' remK)
open Int renaming ofNat -> o'
open Go.Value renaming string -> vs'
open Go.Value renaming int -> vi'
open Go.Value renaming bool -> vb'
open AO renaming cells -> ce'
open AV renaming v -> v'
open AV renaming ptr -> pt'
open Go.IntKind renaming i64 -> I'
open Cnd renaming holds -> ch'
open Go.Value renaming slice -> sl'
theorem VH' : ∀ R : List Kc, rowU (R.map er) = rowU R
 | [] => rfl
 | c :: R => by rw [List.map_cons, CG', CG', VH' R]; rfl
theorem UY' (k : Nat) : ∀ R : List Kc, xRk k (R.map er) = xRk k R
 | [] => rfl
 | c :: R => by simp only [List.map_cons, xRk, List.length_map]
theorem dN' : ∀ R : List Kc, rO (R.map er) = rO R
 | [] => rfl
 | c :: R => by
  show ce' (rowU ((c :: R).map er)) tKc = ce' (rowU (c :: R)) tKc; rw [VH']
theorem d2' {A s : Qs} (h : RQ A s) (k : Int) : cAt A k = er (cAt s k) := by
 unfold cAt; rw [<- h.2, TD']
 cases AK' k s.m <;> rfl
theorem bK' {A s : Qs} (h : RQ A s) {α : Type} (f : α -> Int) (I : List α) : (I.map fun x => cAt A (f x)) = (I.map fun x => cAt s (f x)).map er := by
 rw [List.map_map]
 exact List.map_congr_left fun x _ => d2' h (f x)
theorem uI_cl {K : Nat -> Bool} (h : K 1001 = true /\ K 1003 = true /\ K 1004 = true) (s : Qs) (P : Mem -> Prop) {I : AO} (hI : I.cl K) : ∀ x ∈ uI s P I, x.2.cl K :=
 A0' (VM' K h _ _) (A0' (N5' K _) (A0' Ye (A0' Ye (A0' (KI' K _) (A0' hI A4')))))
theorem YK' {K : Nat -> Bool} (h : K 1001 = true /\ K 1003 = true /\ K 1004 = true) (s : Qs) (P : Mem -> Prop) {O : AO} (hO : O.cl K) : ∀ x ∈ uO s P O, x.2.cl K :=
 A0' (VM' K h _ _) (A0' (N5' K _) (A0' Ye (A0' Ye (A0' (KI' K _) (A0' hO A4')))))
theorem uT_cl {K : Nat -> Bool} (h : K 1001 = true /\ K 1003 = true /\ K 1004 = true) (s : Qs) (P : Mem -> Prop) (now : Int) {I : AO} (hI : I.cl K) : ∀ x ∈ uT s P I now, x.2.cl K :=
 A0' (VM' K h _ _) (A0' (N5' K _) (A0' Ye (A0' Ye (A0' (KI' K _) (A0' hI (A0' ⟨Ye, Ye⟩ A4'))))))
def uR (s : Qs) (P : Mem -> Prop) (O : AO) : LH := [(0, qC s.cf s.la), (1001, .map (mE aggK s.m) s.ck), (1002, .any (frz P)), (1003, lO s.L), (1004, .map (mE iv s.o) s.ok), (1000, O)]
theorem bP' : ∀ args, RO (gSo args) := by
 intro args; unfold gSo
 repeat' split
 all_goals exact Kq19'
theorem bR' (k : Nat) : ∀ args, RO (gLp k args) := by
 intro args; unfold gLp
 repeat' split
 all_goals exact Kq19'
theorem bQ' : ∀ args, RO (gLt args) := by
 intro args; unfold gLt
 repeat' split
 all_goals exact Kq19'
theorem XJ' {L : List It} (hL : L ≠ []) (F : HP) : C1OK Θ F BM' (cIt L L.length) :=
 D7' (W := default) B6' (fun _ => .slice 1000 0 L.length 3 (.lo L.length)) KL' (fun _ => rfl) (fun _ _ => Rk.Aitems_tri L hL) fun _ => ⟨rfl, rfl, ⟨rfl, Ye⟩, A0' Ye A4', ⟨rfl, Ye⟩, A0' Ye (A0' (SY' _ L) A4')⟩
theorem XK' (F : HP) : C1OK Θ F BM' cIt0 :=
 D7' (W := default) B6' (fun _ => .mt) KL' (fun _ => rfl) (fun _ _ => Rk.AitemsE_tri) fun _ => ⟨rfl, rfl, ⟨rfl, Ye⟩, A0' Ye A4', ⟨Ye, Ye⟩, A0' Ye A4'⟩
theorem bD' : H6' Θ IO' X1' 3 := dK'
structure OkO (o : IMap Int) (ck : Nat) : Prop where
 mi : MI o ck
 len : o.length * 8 <= 140737488355328
 wf : ∀ k ∈ o.map (·.1), (Lit.int .i64 k).wf = true
theorem cSo_ok {o : IMap Int} {ck : Nat} (ho : OkO o ck) (hne : o ≠ []) (F : HP) : C1OK Θ F IO' (cSo o ck o.length) :=
 D7' (W := default) B6' (fun _ => .slice 1000 0 o.length 1 (.lo o.length)) bP' (fun _ => rfl) (fun _ _ => QX' hu3 bD' ho.mi ho.len ho.wf hne) fun _ => ⟨rfl, rfl, ⟨⟨Ye, rfl, Ye⟩, Ye⟩, A0' ⟨rfl, Ye⟩ (A0' (KI' _ _) A4'), ⟨rfl, Ye⟩, A0' ⟨rfl, Ye⟩ (A0' (KI' _ _) (A0' (I7' _ _) A4'))⟩
theorem gD' (ck : Nat) (F : HP) : C1OK Θ F IO' (cSo0 ck) :=
 D7' (W := default) B6' (fun _ => .v (.slice none 0 0)) bP' (fun _ => rfl) (fun _ _ => QY' hu3 bD') fun _ => ⟨rfl, rfl, ⟨⟨Ye, rfl, Ye⟩, Ye⟩, A0' ⟨rfl, Ye⟩ (A0' Ye A4'), ⟨Ye, Ye⟩, A0' ⟨rfl, Ye⟩ (A0' Ye A4')⟩
theorem LB' {d : Nat} {A s : Qs} {P : Mem -> Prop} {R : List Kc} (hs : RQ A s) (hP : ∀ C, P C -> PM d s.m C) : Goes [xRk 1000 R] (uQ s P ++ [(1000, rO R)]) [xRk 1000 R] [(0, qO d A), (1000, rO R)] :=
 bF' (H0 := [(1000, rO R)]) hs hP χ rfl ⟨xR_cl rfl R, Ye⟩ (A0' (VL' _ R) A4')
theorem RO' {v : AV} (s : Qs) (P : Mem -> Prop) : Goes [v] (uQ s P) [v] (uQ s P ++ [(1000, dumZ)]) := BR' (k := 1000) (fun C => trivial) rfl rfl rfl δ rfl (fun n hn => by
 show getO [(0, _), (1001, _), (1002, _), (1003, _), (1004, _), (1000, _)] n = getO [(0, _), (1001, _), (1002, _), (1003, _), (1004, _)] n; simp only [getO]
 by_cases e0 : n = 0
 ·simp only [if_pos e0]
 ·by_cases e1 : n = 1001
  ·simp only [if_neg e0, if_pos e1]
  ·by_cases e2 : n = 1002
   ·simp only [if_neg e0, if_neg e1, if_pos e2]
   ·by_cases e3 : n = 1003
    ·simp only [if_neg e0, if_neg e1, if_neg e2, if_pos e3]
    ·by_cases e4 : n = 1004
     ·simp only [if_neg e0, if_neg e1, if_neg e2, if_neg e3, if_pos e4]
     ·simp only [if_neg e0, if_neg e1, if_neg e2, if_neg e3, if_neg e4, if_neg hn])
def DR' (A : Qs) : List Kc := A.L.map fun x => cAt A x.b
def outA (A : Qs) : List Kc := (EF' A.o).map fun k => cAt A k
theorem Aready (d : Nat) (A : Qs) (hb : A.L.length * 320 <= 140737488355328) (hI : ∀ x ∈ A.L, ∃ c, AK' x.b A.m = some c) : Tri Θ default B8' [.ptr 0 0] [(0, qO d A)] (xRk 1000 (DR' A)) [(0, qO d A), (1000, rO (DR' A))] := by
 refine GC' fun s hs => ?_
 obtain ⟨e1, e2, e3, e4, e5, e6⟩ := hs.facts
 by_cases hL : A.L = []
 ·have hr : DR' A = [] := by simp only [DR', hL, List.map_nil]
  rw [hr]; obtain ⟨cf, m, ck, L, o, ok, la⟩ := s; simp only at e3; have hl : L = [] := e3.trans hL; subst hl
  refine AR' (con := [(BM', cIt0)]) (hints := AJ' [hf' B8' 2 0]) (lc := []) kH rfl (fun F _ => C7' (XK' F)) (fun _ _ => noL) fun F => ?_
  refine Yj (Z5' ⟨cf, m, ck, [], o, ok, la⟩ (PM d m) F) ⟨⟨?_, [nilS], uQ ⟨cf, m, ck, [], o, ok, la⟩ (PM d m), [(1001, 1001), (1002, 1002), (1003, 1003), (1004, 1004)], rfl, BC' (vs' := [nilS]) (H' := uQ ⟨cf, m, ck, [], o, ok, la⟩ (PM d m)) _ χ χ (Yb) ⟨⟨_, rfl, Yc⟩, ⟨_, rfl, OW.of_eq (by simp only [AO.ren, B5'])⟩, ⟨_, rfl, Yc⟩, ⟨_, rfl, Yc⟩, ⟨_, rfl, OW.of_eq (by simp only [AO.ren, BB'])⟩, Ye⟩, (RO' _ _).trans (LB' (R := []) hs fun C h => h)⟩⟩
  ·exact Cq11'
 ·have hR : DR' A = (s.L.map fun x => cAt s x.b).map er := by rw [DR', <- e3]; exact bK' hs _ _
  obtain ⟨R, hRe⟩ : ∃ R, R = s.L.map fun x => cAt s x.b := ⟨_, rfl⟩
  have hn : R.length = s.L.length := by rw [hRe, List.length_map]
  have hne : R ≠ [] := fun e => by
   rw [e] at hn; exact hL (e3 ▸ List.eq_nil_of_length_eq_zero hn.symm)
  obtain ⟨x1, x2⟩ := D5' (k := 1006) hne
  have hx : xRk 1000 R = slR 1000 s.L.length := by rw [<- hn]; exact (D5' hne).1
  rw [hR, <- hRe, UY', dN']
  have hl : ∀ F, L1OK Θ F (AH' B8' 2) (lRd s (PM d s.m) s.L s.L.length (slR 1006 s.L.length) (rO R)) := fun F =>
   EV' B6' (bR' 9) (fun _ _ => by
    have := gR' s (PM d s.m) d (fun C h => h) s.L (by rw [e3]; exact hb) (fun x hx => by
     obtain ⟨c, hc⟩ := hI x (by rw [<- e3]; exact hx); obtain ⟨c', hc', _⟩ := hs.look hc
     exact ⟨c', hc'⟩)
    rw [<- hRe, x1, hn] at this
    exact this) fun _ => by
     simp only [RT.pick]; exact DF' rfl rfl (A0' rfl (A0' Ye (A0' rfl (A0' Ye (A0' Ye A4'))))) (uI_cl ⟨rfl, rfl, rfl⟩ _ _ (SY' _ _)) (A0' rfl A4') (YK' ⟨rfl, rfl, rfl⟩ _ _ (VL' _ R))
  have hLs : s.L ≠ [] := fun e => hL (e3 ▸ e)
  refine AR' (con := [(BM', cIt s.L s.L.length)]) (hints := AF') (lc := [(B8', 2, AH' B8' 2, lRd s (PM d s.m) s.L s.L.length (slR 1006 s.L.length) (rO R))]) kH rfl (fun F _ => C7' (XJ' hLs F)) (fun F _ => MD' (hl F)) fun F => ?_
  refine Yj (Z4' s (PM d s.m) s.L.length (rO R) F) ⟨⟨?_, [slR 1000 s.L.length], uR s (PM d s.m) (rO R), [(1001, 1101), (1002, 1102), (1003, 1103), (1004, 1104), (1000, 1105)], rfl, BC' (vs' := [slR 1000 s.L.length]) (H' := uR s (PM d s.m) (rO R)) _ χ χ (Yb) ⟨⟨_, rfl, Yc⟩, ⟨_, rfl, OW.of_eq (by simp only [AO.ren, B5'])⟩, ⟨_, rfl, Yc⟩, ⟨_, rfl, Yc⟩, ⟨_, rfl, OW.of_eq (by simp only [AO.ren, BB'])⟩, ⟨_, rfl, OW.of_eq ((DZ' _ R).trans (DZ' _ R).symm)⟩, Ye⟩, by rw [hx]; rw [<- hx]; exact LB' hs fun C h => h⟩⟩
  ·exact Cq11'
theorem Aout (d : Nat) (A : Qs) (hb : A.o.length * 320 <= 140737488355328) (ho : OkO A.o A.ok) (hI : ∀ k ∈ A.o.map (·.1), ∃ c, AK' k A.m = some c) : Tri Θ default fOut [.ptr 0 0] [(0, qO d A)] (xRk 1000 (outA A)) [(0, qO d A), (1000, rO (outA A))] := by
 refine GC' fun s hs => ?_
 obtain ⟨e1, e2, e3, e4, e5, e6⟩ := hs.facts
 by_cases hL : A.o = []
 ·have hr : outA A = [] := by simp only [outA, hL]; rfl
  rw [hr]; obtain ⟨cf, m, ck, L, o, ok, la⟩ := s; simp only at e4; have hl : o = [] := e4.trans hL; subst hl
  refine AR' (con := [(IO', cSo0 ok)]) (hints := AJ' [hf' fOut 2 0]) (lc := []) kH rfl (fun F _ => C7' (gD' ok F)) (fun _ _ => noL) fun F => ?_
  refine Yj (ZA' ⟨cf, m, ck, L, [], ok, la⟩ (PM d m) F) ⟨⟨?_, [nilS], uQ ⟨cf, m, ck, L, [], ok, la⟩ (PM d m), [(1001, 1001), (1002, 1002), (1003, 1003), (1004, 1004)], rfl, BC' (vs' := [nilS]) (H' := uQ ⟨cf, m, ck, L, [], ok, la⟩ (PM d m)) _ χ χ (Yb) ⟨⟨_, rfl, Yc⟩, ⟨_, rfl, OW.of_eq (by simp only [AO.ren, B5'])⟩, ⟨_, rfl, Yc⟩, ⟨_, rfl, Yc⟩, ⟨_, rfl, Yc⟩, Ye⟩, (RO' _ _).trans (LB' (R := []) hs fun C h => h)⟩⟩
  ·exact Cq11'
 ·have hR : outA A = ((EF' s.o).map fun k => cAt s k).map er := by rw [outA, <- e4]; exact bK' hs (fun k => k) _
  obtain ⟨R, hRe⟩ : ∃ R, R = (EF' s.o).map fun k => cAt s k := ⟨_, rfl⟩
  have hn : R.length = s.o.length := by rw [hRe, List.length_map, D9']
  have hne : R ≠ [] := fun e => by
   rw [e] at hn; exact hL (e4 ▸ List.eq_nil_of_length_eq_zero hn.symm)
  obtain ⟨x1, x2⟩ := D5' (k := 1006) hne
  have hx : xRk 1000 R = slR 1000 s.o.length := by rw [<- hn]; exact (D5' hne).1
  rw [hR, <- hRe, UY', dN']
  have hl : ∀ F, L1OK Θ F (AH' fOut 2) (lOt s (PM d s.m) (EF' s.o) s.o.length (slR 1006 s.o.length) (rO R)) := fun F =>
   EV' B6' (bR' 10) (fun _ _ => by
    have := gS' s (PM d s.m) d (fun C h => h) (EF' s.o) (by rw [D9', e4]; exact hb) (fun k hk => by
     obtain ⟨c, hc⟩ := hI k (by rw [<- e4]; exact (HT' s.o).mem_iff.1 hk); obtain ⟨c', hc', _⟩ := hs.look hc
     exact ⟨c', hc'⟩)
    rw [<- hRe, x1, hn, D9'] at this
    exact this) fun _ => by
     simp only [RT.pick]; exact DF' rfl rfl (A0' rfl (A0' Ye (A0' rfl (A0' Ye (A0' Ye A4'))))) (uI_cl ⟨rfl, rfl, rfl⟩ _ _ (I7' _ _)) (A0' rfl A4') (YK' ⟨rfl, rfl, rfl⟩ _ _ (VL' _ R))
  have hLs : s.o ≠ [] := fun e => hL (e4 ▸ e)
  have ho' : OkO s.o s.ok := by rw [e4, e5]; exact ho
  refine AR' (con := [(IO', cSo s.o s.ok s.o.length)]) (hints := AF') (lc := [(fOut, 2, AH' fOut 2, lOt s (PM d s.m) (EF' s.o) s.o.length (slR 1006 s.o.length) (rO R))]) kH rfl (fun F _ => C7' (cSo_ok ho' hLs F)) (fun F _ => MD' (hl F)) fun F => ?_
  refine Yj (Z9' s (PM d s.m) s.o.length (rO R) F) ⟨⟨?_, [slR 1000 s.o.length], uR s (PM d s.m) (rO R), [(1001, 1102), (1002, 1103), (1003, 1104), (1004, 1105), (1000, 1106)], rfl, BC' (vs' := [slR 1000 s.o.length]) (H' := uR s (PM d s.m) (rO R)) _ χ χ (Yb) ⟨⟨_, rfl, Yc⟩, ⟨_, rfl, OW.of_eq (by simp only [AO.ren, B5'])⟩, ⟨_, rfl, Yc⟩, ⟨_, rfl, Yc⟩, ⟨_, rfl, OW.of_eq (by simp only [AO.ren, BB'])⟩, ⟨_, rfl, OW.of_eq ((DZ' _ R).trans (DZ' _ R).symm)⟩, Ye⟩, by rw [hx]; rw [<- hx]; exact LB' hs fun C h => h⟩⟩
  ·exact Cq11'
theorem dC' (now : Int) (c : Kc) : want now (er c) = want now c := rfl
theorem bW' {A s : Qs} (h : RQ A s) (now : Int) (I : List It) : ∀ j, RQ (exN now I A j).1 (exN now I s j).1 /\ (exN now I A j).2 = (exN now I s j).2.map er
 | 0 => ⟨h, rfl⟩
 | j + 1 => by
  obtain ⟨h1, h2⟩ := bW' h now I j; rw [exN, exN]
  cases I[j]? with
  | none => exact ⟨h1, h2⟩
  | some it =>
   simp only; rw [d2' h it.b, dC']
   cases want now (cAt s it.b) with
   | false => exact ⟨h1, h2⟩
   | true =>
    obtain ⟨e1, e2, e3, e4, e5, e6⟩ := h1.facts; refine ⟨RQ.mk' e1 e2 (by simp only [e3]) e4 e5 e6 (by simp only [RM', h1.2]), ?_⟩; simp only [h2, List.map_append, List.map_cons, List.map_nil]
def expA (now : Int) (A : Qs) : Qs × List Kc := exN now A.L A A.L.length
theorem h6' (d : Nat) (A : Qs) (now : Int) (hb : A.L.length * 320 <= 140737488355328) (hm : MI A.m A.ck) (hnd : (A.L.map (·.b)).Nodup) (hI : ∀ x ∈ A.L, ∃ c, AK' x.b A.m = some c) : Tri Θ default G2' [.ptr 0 0, iv now] [(0, qO d A)] (xRk 1000 (expA now A).2) [(0, qO d (expA now A).1), (1000, rO (expA now A).2)] := by
 refine GC' fun s hs => ?_
 obtain ⟨e1, e2, e3, e4, e5, e6⟩ := hs.facts
 by_cases hL : A.L = []
 ·have hr : expA now A = (A, []) := by rw [expA, hL]; rfl
  rw [hr]; obtain ⟨cf, m, ck, L, o, ok, la⟩ := s; simp only at e3; have hl : L = [] := e3.trans hL; subst hl
  refine AR' (con := [(BM', cIt0)]) (hints := AJ' [hf' C6' 2 0]) (lc := []) kH rfl (fun F _ => C7' (XK' F)) (fun _ _ => noL) fun F => ?_
  refine Yj (ZW' ⟨cf, m, ck, [], o, ok, la⟩ (PM d m) now F) ⟨⟨?_, [nilS], uQ ⟨cf, m, ck, [], o, ok, la⟩ (PM d m), [(1001, 1001), (1002, 1002), (1003, 1003), (1004, 1004)], rfl, BC' (vs' := [nilS]) (H' := uQ ⟨cf, m, ck, [], o, ok, la⟩ (PM d m)) _ χ χ (Yb) ⟨⟨_, rfl, Yc⟩, ⟨_, rfl, OW.of_eq (by simp only [AO.ren, B5'])⟩, ⟨_, rfl, Yc⟩, ⟨_, rfl, Yc⟩, ⟨_, rfl, OW.of_eq (by simp only [AO.ren, BB'])⟩, Ye⟩, (RO' _ _).trans (LB' (R := []) hs fun C h => h)⟩⟩
  ·exact Cq11'
 ·have hmi : MI s.m s.ck := by
   have h1 := hm; rw [<- hs.2, <- e2] at h1
   refine ⟨?_, ?_, fun e he => ?_⟩
   ·have := h1.keys; rw [erM, List.map_map] at this; exact this
   ·have := h1.stamps; rw [erM, List.map_map] at this; exact this
   ·exact h1.low (e.1, er e.2.1, e.2.2) (List.mem_map_of_mem he)
  obtain ⟨q1, q2⟩ := bW' hs now A.L A.L.length; rw [<- e3] at q1 q2; obtain ⟨t, ht⟩ : ∃ t, exN now s.L s s.L.length = t := ⟨_, rfl⟩
  have hA : expA now A = exN now s.L A s.L.length := by rw [expA, e3]
  rw [hA]; obtain ⟨i1, i2, i3, i4⟩ := O2' (now := now) (I := s.L) hmi s.L.length; rw [ht] at q1 q2 i1 i2 i3 i4; rw [q2, UY', dN']
  have hloop := gQ' s (PM d s.m) now hmi s.L (by rw [e3]; exact hb) (by rw [e3]; exact hnd) (fun x hx => by
   obtain ⟨c, hc⟩ := hI x (by rw [<- e3]; exact hx); obtain ⟨c', hc', _⟩ := hs.look hc
   exact ⟨c', hc'⟩)
  rw [ht] at hloop; obtain ⟨t, R⟩ := t; simp only at q1 q2 i1 i2 i3 i4 hloop ⊢
  have hPt : ∀ C, PM d s.m C -> PM d t.m C := fun C h e he => h e (i4 e he)
  have hLs : s.L ≠ [] := fun e => hL (e3 ▸ e)
  by_cases hR : R = []
  ·subst hR
   have hl : ∀ F, L1OK Θ F (AH' C6' 2) (lTk s t (PM d s.m) s.L s.L.length now nilS (rO [])) := fun F =>
    EV' B6' bQ' (fun _ _ => hloop) fun _ => by
     simp only [RT.pick]; exact DF' rfl rfl (A0' rfl (A0' ⟨Ye, rfl, Ye⟩ (A0' Ye (A0' rfl (A0' Ye (A0' Ye A4')))))) (uT_cl ⟨rfl, rfl, rfl⟩ _ _ _ (SY' _ _)) (A0' Ye A4') (YK' ⟨rfl, rfl, rfl⟩ _ _ (VL' _ []))
   refine AR' (con := [(BM', cIt s.L s.L.length)]) (hints := AF') (lc := [(C6', 2, AH' C6' 2, lTk s t (PM d s.m) s.L s.L.length now nilS (rO []))]) kH rfl (fun F _ => C7' (XJ' hLs F)) (fun F _ => MD' (hl F)) fun F => ?_
   refine Yj (ZU' s t (PM d s.m) s.L.length now (rO []) F) ⟨⟨?_, [nilS], uR t (PM d s.m) (rO []), [(1001, 1102), (1002, 1103), (1003, 1104), (1004, 1105), (1000, 1106)], rfl, BC' (vs' := [nilS]) (H' := uR t (PM d s.m) (rO [])) _ χ χ (Yb) ⟨⟨_, rfl, Yc⟩, ⟨_, rfl, OW.of_eq (by simp only [AO.ren, B5'])⟩, ⟨_, rfl, Yc⟩, ⟨_, rfl, Yc⟩, ⟨_, rfl, OW.of_eq (by simp only [AO.ren, BB'])⟩, ⟨_, rfl, OW.of_eq ((DZ' _ []).trans (DZ' _ []).symm)⟩, Ye⟩, LB' (R := []) q1 hPt⟩⟩
   ·exact Cq11'
  ·obtain ⟨x1, x2⟩ := D5' (k := 1006) hR; obtain ⟨m, hml⟩ : ∃ m, R.length = m := ⟨_, rfl⟩
   have hx : xRk 1000 R = slR 1000 m := by rw [<- hml]; exact (D5' hR).1
   rw [x1, hml] at hloop
   have hl : ∀ F, L1OK Θ F (AH' C6' 2) (lTk s t (PM d s.m) s.L s.L.length now (slR 1006 m) (rO R)) := fun F =>
    EV' B6' bQ' (fun _ _ => hloop) fun _ => by
     simp only [RT.pick]; exact DF' rfl rfl (A0' rfl (A0' ⟨Ye, rfl, Ye⟩ (A0' Ye (A0' rfl (A0' Ye (A0' Ye A4')))))) (uT_cl ⟨rfl, rfl, rfl⟩ _ _ _ (SY' _ _)) (A0' rfl A4') (YK' ⟨rfl, rfl, rfl⟩ _ _ (VL' _ R))
   refine AR' (con := [(BM', cIt s.L s.L.length)]) (hints := AF') (lc := [(C6', 2, AH' C6' 2, lTk s t (PM d s.m) s.L s.L.length now (slR 1006 m) (rO R))]) kH rfl (fun F _ => C7' (XJ' hLs F)) (fun F _ => MD' (hl F)) fun F => ?_
   refine Yj (ZV' s t (PM d s.m) s.L.length m now (rO R) F) ⟨⟨?_, [slR 1000 m], uR t (PM d s.m) (rO R), [(1001, 1102), (1002, 1103), (1003, 1104), (1004, 1105), (1000, 1106)], rfl, BC' (vs' := [slR 1000 m]) (H' := uR t (PM d s.m) (rO R)) _ χ χ (Yb) ⟨⟨_, rfl, Yc⟩, ⟨_, rfl, OW.of_eq (by simp only [AO.ren, B5'])⟩, ⟨_, rfl, Yc⟩, ⟨_, rfl, Yc⟩, ⟨_, rfl, OW.of_eq (by simp only [AO.ren, BB'])⟩, ⟨_, rfl, OW.of_eq ((DZ' _ R).trans (DZ' _ R).symm)⟩, Ye⟩, by rw [hx]; rw [<- hx]; exact LB' q1 hPt⟩⟩
   ·exact Cq11'
noncomputable section
abbrev fLaw : Nat := 5
abbrev fGo : Nat := 19
abbrev tB : TypeId := 2 * 22
def slI (k m : Nat) : AV := .slice k 0 m 1 (.lo m)
def xI (k : Nat) : List Int -> AV
 | [] => .mt
 | x :: l => .slice k 0 (l.length + 1) 1 (.lo (l.length + 1))
def iO : List Int -> AO
 | [] => dumZ
 | x :: l => rZ (x :: l)
def bxI (x : AV) : AO := .cells [x] tB
def cKU (c : Kc) : AO := .cells (E1' c .un .un) tKc
structure Gf where
 n : Nat
 j : Nat
 B : AO
 R : AO
def aGi (g : Gf) (n i : Nat) (x : AV) : List (Nat × AV) := [(1, .ptr 0 0), (5, .ptr 1010 0), (6, x), (9, slR 1005 g.n), (10, iv (o' g.n)), (11, iv (o' g.j)), (16, slI 1004 n), (17, iv (o' n)), (18, iv (o' i))]
def oGi (g : Gf) (I : List Int) (c : Kc) (O : AO) : LH := [(0, g.B), (1004, rZ I), (1005, g.R), (1010, cKU c), (1006, O)]
def oG0 (g : Gf) (I : List Int) (c : Kc) : LH := [(0, g.B), (1004, rZ I), (1005, g.R), (1010, cKU c)]
def iGi : List Nat := [1, 5, 6, 9, 10, 11, 16, 17, 18]
def kGi : List Nat := [0, 1004, 1005, 1010, 1006, 1100, 1101, 1102]
def zGi (g : Gf) (x : AV) : List (Nat × AV) := [(1, .ptr 0 0), (5, .ptr 1010 0), (6, x), (9, slR 1005 g.n), (10, iv (o' g.n)), (11, iv (o' g.j))]
def hGi (i : Nat) (s : Int) (b : Bool) : AY' := AJ' [ht' fGo 6 0, (fGo, 7, 1, hv (iv s)), (fGo, 8, 3, hv (.lit b)), (fGo, 10, 0, hv (iv (o' (i + 1))))]
abbrev h71' (q0 q1 : Nat) (q2 : List Int) (q3 : Int) (q4 : Kc) (z : Cnd) : Cnd := ((wb' (decide (o' q0 < o' q1)) j').a ((f' (q0.blt q1 = true)).a (((p' ((0 + q0 * 1).blt (vmap (List.map encZ q2)).length = true)).a ((p' ((vmap (List.map encZ q2)).getD (0 + q0 * 1) (u') = v' (vi' I' ((vmap (List.map encZ q2)).getD (0 + q0 * 1) (u')).intOf))).a (f' (Wk (v' (vi' I' ((vmap (List.map encZ q2)).getD (0 + q0 * 1) (u')).intOf)) (z' q3))))).a ((ee' (z' q4.sq)).a z))))
theorem f0' (g : Gf) (I : List Int) (n i : Nat) (s : Int) (c : Kc) (x : AV) (O : AO) (F : HP) : B0' [] (hGi i s false) [] default fGo (AH' fGo 6) (tms 0 39 (aGi g n i x)) (oGi g I c O) kGi iGi F = VT.leaf (AX.normal,[pt' 0 0,pt' 1010 0,getL [a',pt' 0 0,a',a',a',pt' 1010 0,x,a',z' s,AV.slice 1005 0 g.n 25 (Cp.lo g.n),i' g.n,i' g.j,a',a',a',a',AV.slice 1004 0 n 1 (Cp.lo n),i' n,i' (i + 1),j',pt' 1004 (0 + i * 1),z' s,z' s,pt' 1010 0,z' c.sq,g',a',a',a',a',i' (i + 1),a',a',a',a',a',a',a',a'] 6,AV.slice 1005 0 g.n 25 (Cp.lo g.n),i' g.n,i' g.j,AV.slice 1004 0 n 1 (Cp.lo n),i' n,i' (i + 1)],39) [some g.B,some (ce' (vmap (List.map encZ I)) 6),some g.R,some (ce' [z' c.sq,z' c.gh,z' c.bo,z' c.si,s' c.ex,s' c.ke,z' c.fl,s' c.ct,s' c.ce,AV.un,z' c.dm,z' c.pr,s' c.s1,s' c.s2,s' c.s3,s' c.s4,z' c.ts,s' c.s5,s' c.s6,s' c.s7,z' c.xp,z' c.pi,AV.un,b' c.du,b' c.re] 82),some O,none,none,none] 1100 (h71' i n I s c ((wb' (s != c.sq) g').a ((k7' i).a k1'))) := χ
abbrev k72' (q0 : Int) (q1 : Kc) : Cnd := (wb' (q0 != q1.sq) j')
theorem f2' (g : Gf) (I : List Int) (n i : Nat) (s : Int) (c : Kc) (F : HP) : B0' [] (hGi i s true) [] default fGo (AH' fGo 6) (tms 0 39 (aGi g n i .mt)) (oGi g I c dumZ) kGi iGi F = VT.leaf (AX.normal,[pt' 0 0,pt' 1010 0,AV.slice 1101 0 1 1 (Cp.lo 1),AV.slice 1005 0 g.n 25 (Cp.lo g.n),i' g.n,i' g.j,AV.slice 1004 0 n 1 (Cp.lo n),i' n,i' (i + 1)],39) [some g.B,some (ce' (vmap (List.map encZ I)) 6),some g.R,some (ce' [z' c.sq,z' c.gh,z' c.bo,z' c.si,s' c.ex,s' c.ke,z' c.fl,s' c.ct,s' c.ce,AV.un,z' c.dm,z' c.pr,s' c.s1,s' c.s2,s' c.s3,s' c.s4,z' c.ts,s' c.s5,s' c.s6,s' c.s7,z' c.xp,z' c.pi,AV.un,b' c.du,b' c.re] 82),some (AO.any (frz fun x => True)),some (ce' [z' s] 6),some (ce' [z' s] 6),none] 1102 (h71' i n I s c ((k72' s c).a (k28'.a ((k7' i).a k1')))) := χ
abbrev k73' (q0 : Nat) (q1 : List Int) : Cnd := (tt'.a (tt'.a (tt'.a (tt'.a ((p' ((0 + q0 * 1).ble (vmap (List.map encZ q1)).length = true)).a ((p' (((q0 + 1) * 8).ble 140737488355328 = true)).a ((p' ((q0 + 1).ble 9223372036854775807 = true)).a (f' ((List.take (q0 * 1) (List.drop 0 (vmap (List.map encZ q1)))).length.beq (q0 * 1) = true)))))))))
theorem f1' (g : Gf) (I : List Int) (n i m : Nat) (s : Int) (c : Kc) (J : List Int) (F : HP) : B0' [] (hGi i s true) [] default fGo (AH' fGo 6) (tms 0 39 (aGi g n i (slI 1006 m))) (oGi g I c (rZ J)) kGi iGi F = VT.leaf (AX.normal,[pt' 0 0,pt' 1010 0,AV.slice 1101 0 (m + 1) 1 (Cp.lo (m + 1)),AV.slice 1005 0 g.n 25 (Cp.lo g.n),i' g.n,i' g.j,AV.slice 1004 0 n 1 (Cp.lo n),i' n,i' (i + 1)],39) [some g.B,some (ce' (vmap (List.map encZ I)) 6),some g.R,some (ce' [z' c.sq,z' c.gh,z' c.bo,z' c.si,s' c.ex,s' c.ke,z' c.fl,s' c.ct,s' c.ce,AV.un,z' c.dm,z' c.pr,s' c.s1,s' c.s2,s' c.s3,s' c.s4,z' c.ts,s' c.s5,s' c.s6,s' c.s7,z' c.xp,z' c.pi,AV.un,b' c.du,b' c.re] 82),none,some (ce' [z' s] 6),some (ce' (List.take (m * 1) (List.drop 0 (vmap (List.map encZ J))) ++ [z' s]) 6),none] 1102 (h71' i n I s c ((k72' s c).a ((k73' m J).a ((k7' i).a k1')))) := χ
theorem f3' (g : Gf) (I : List Int) (n : Nat) (c : Kc) (x : AV) (O : AO) (F : HP) : B0' [] (AJ' [hf' fGo 6 0]) [] default fGo (AH' fGo 6) (tms 0 39 (aGi g n n x)) (oGi g I c O) kGi iGi F = VT.leaf (AX.exit 2,[pt' 0 0,pt' 1010 0,getL [a',pt' 0 0,a',a',a',pt' 1010 0,x,a',a',AV.slice 1005 0 g.n 25 (Cp.lo g.n),i' g.n,i' g.j,a',a',a',a',AV.slice 1004 0 n 1 (Cp.lo n),i' n,i' n,g',a',a',a',a',a',a',a',a',a',a',a',a',a',a',a',a',a',a',a'] 6,AV.slice 1005 0 g.n 25 (Cp.lo g.n),i' g.n,i' g.j,AV.slice 1004 0 n 1 (Cp.lo n),i' n,i' n],39) [some g.B,some (ce' (vmap (List.map encZ I)) 6),some g.R,some (ce' [z' c.sq,z' c.gh,z' c.bo,z' c.si,s' c.ex,s' c.ke,z' c.fl,s' c.ct,s' c.ce,AV.un,z' c.dm,z' c.pr,s' c.s1,s' c.s2,s' c.s3,s' c.s4,z' c.ts,s' c.s5,s' c.s6,s' c.s7,z' c.xp,z' c.pi,AV.un,b' c.du,b' c.re] 82),some O,none,none,none] 1100 ((k9' n).a k1') := χ
def gGi : List AV -> AP Nat := fun tmps => match getL tmps 5 with
 | .ptr i _ => .ret i
 | _ => .fail "copy"
def nmG (k0 i : Nat) : Nat -> Nat := fun k => match Nat.beq k k0 with | true => i | false => k
def lGi (g : Gf) (I : List Int) (n : Nat) (c : Kc) (x : AV) (O : AO) : List AV -> AP (AX × List AV) := mkL gGi (fun _ => True) (nmG 1010) (fun _ => tms 0 39 (aGi g n 0 .mt)) (fun _ => oG0 g I c) (fun _ => .leaf (.exit 2) (tms 0 39 (zGi g x)) (oGi g I c O))
def aGo (n j : Nat) : List (Nat × AV) := [(1, .ptr 0 0), (9, slR 1005 n), (10, iv (o' n)), (11, iv (o' j))]
def oGo (B O : AO) (R : List Kc) : LH := [(0, B), (1004, O), (1005, .cells (rowU R) tKc)]
def iGo : List Nat := [1, 9, 10, 11]
def kGo : List Nat := [0, 1004, 1005, 1100, 1101, 1102, 1103, 1104, 1105]
def hGo (j n : Nat) (c : Kc) : AY' := AJ' [ht' fGo 2 0, (fGo, 3, 1, hv (aggU c)), (fGo, 11, 4, hv (iv (o' n))), hf' fGo 11 5, (fGo, 14, 0, hv (iv (o' (j + 1))))]
abbrev k74' (q0 : Kc) : Cnd := (ow' (ce' [z' q0.sq,z' q0.gh,z' q0.bo,z' q0.si,s' q0.ex,s' q0.ke,z' q0.fl,s' q0.ct,s' q0.ce,AV.un,z' q0.dm,z' q0.pr,s' q0.s1,s' q0.s2,s' q0.s3,s' q0.s4,z' q0.ts,s' q0.s5,s' q0.s6,s' q0.s7,z' q0.xp,z' q0.pi,AV.un,b' q0.du,b' q0.re] 82))
abbrev k75' (q0 q1 : Nat) : Cnd := (ow' (ce' [AV.slice q0 0 q1 1 (Cp.lo q1)] 44))
abbrev k76' (q0 q1 q2 q3 q4 : Nat) (q5 : Kc) (q6 q7 : Nat) : Cnd := (p' (VW (a'::pt' 0 0::a'::a'::a'::pt' q0 0::AV.slice q1 0 0 1 (Cp.ex 0)::a'::a'::AV.slice q2 0 q3 25 (Cp.lo q3)::i' q3::i' q4::j'::pt' q2 (0 + q4 * 25)::AV.agg [z' q5.sq,z' q5.gh,z' q5.bo,z' q5.si,s' q5.ex,s' q5.ke,z' q5.fl,s' q5.ct,s' q5.ce,AV.un,z' q5.dm,z' q5.pr,s' q5.s1,s' q5.s2,s' q5.s3,s' q5.s4,z' q5.ts,s' q5.s5,s' q5.s6,s' q5.s7,z' q5.xp,z' q5.pi,AV.un,b' q5.du,b' q5.re]::AV.slice q1 0 0 1 (Cp.ex 0)::AV.slice q6 0 q7 1 (Cp.lo q7)::z' ↑q7::i' 0::ra16 (ra4 ([]))) (a'::pt' 0 0::a'::a'::a'::pt' q0 0::AV.mt::a'::a'::AV.slice q2 0 q3 25 (Cp.lo q3)::i' q3::i' q4::ra4 (AV.slice q6 0 q7 1 (Cp.lo q7)::i' q7::i' 0::ra16 (ra4 ([]))))))
abbrev k77' (q0 : Nat) (q1 : List Kc) (q2 : Kc) : Cnd := ((p' ((List.take 25 (List.drop (0 + q0 * 25) (rowU q1))).length.beq 25 = true)).a ((p' (List.take 25 (List.drop (0 + q0 * 25) (rowU q1)) = [v' (vi' I' ((List.take 25 (List.drop (0 + q0 * 25) (rowU q1))).getD 0 (u')).intOf),v' (vi' I' ((List.take 25 (List.drop (0 + q0 * 25) (rowU q1))).getD 1 (u')).intOf),v' (vi' I' ((List.take 25 (List.drop (0 + q0 * 25) (rowU q1))).getD 2 (u')).intOf),v' (vi' I' ((List.take 25 (List.drop (0 + q0 * 25) (rowU q1))).getD 3 (u')).intOf),v' (vs' ((List.take 25 (List.drop (0 + q0 * 25) (rowU q1))).getD 4 (u')).strOf),v' (vs' ((List.take 25 (List.drop (0 + q0 * 25) (rowU q1))).getD 5 (u')).strOf),v' (vi' I' ((List.take 25 (List.drop (0 + q0 * 25) (rowU q1))).getD 6 (u')).intOf),v' (vs' ((List.take 25 (List.drop (0 + q0 * 25) (rowU q1))).getD 7 (u')).strOf),v' (vs' ((List.take 25 (List.drop (0 + q0 * 25) (rowU q1))).getD 8 (u')).strOf),(List.take 25 (List.drop (0 + q0 * 25) (rowU q1))).getD 9 (u'),v' (vi' I' ((List.take 25 (List.drop (0 + q0 * 25) (rowU q1))).getD 10 (u')).intOf),v' (vi' I' ((List.take 25 (List.drop (0 + q0 * 25) (rowU q1))).getD 11 (u')).intOf),v' (vs' ((List.take 25 (List.drop (0 + q0 * 25) (rowU q1))).getD 12 (u')).strOf),v' (vs' ((List.take 25 (List.drop (0 + q0 * 25) (rowU q1))).getD 13 (u')).strOf),v' (vs' ((List.take 25 (List.drop (0 + q0 * 25) (rowU q1))).getD 14 (u')).strOf),v' (vs' ((List.take 25 (List.drop (0 + q0 * 25) (rowU q1))).getD 15 (u')).strOf),v' (vi' I' ((List.take 25 (List.drop (0 + q0 * 25) (rowU q1))).getD 16 (u')).intOf),v' (vs' ((List.take 25 (List.drop (0 + q0 * 25) (rowU q1))).getD 17 (u')).strOf),v' (vs' ((List.take 25 (List.drop (0 + q0 * 25) (rowU q1))).getD 18 (u')).strOf),v' (vs' ((List.take 25 (List.drop (0 + q0 * 25) (rowU q1))).getD 19 (u')).strOf),v' (vi' I' ((List.take 25 (List.drop (0 + q0 * 25) (rowU q1))).getD 20 (u')).intOf),v' (vi' I' ((List.take 25 (List.drop (0 + q0 * 25) (rowU q1))).getD 21 (u')).intOf),(List.take 25 (List.drop (0 + q0 * 25) (rowU q1))).getD 22 (u'),v' (vb' ((List.take 25 (List.drop (0 + q0 * 25) (rowU q1))).getD 23 (u')).boolOf),v' (vb' ((List.take 25 (List.drop (0 + q0 * 25) (rowU q1))).getD 24 (u')).boolOf)])).a (f' (Wk (AV.agg [v' (vi' I' ((List.take 25 (List.drop (0 + q0 * 25) (rowU q1))).getD 0 (u')).intOf),v' (vi' I' ((List.take 25 (List.drop (0 + q0 * 25) (rowU q1))).getD 1 (u')).intOf),v' (vi' I' ((List.take 25 (List.drop (0 + q0 * 25) (rowU q1))).getD 2 (u')).intOf),v' (vi' I' ((List.take 25 (List.drop (0 + q0 * 25) (rowU q1))).getD 3 (u')).intOf),v' (vs' ((List.take 25 (List.drop (0 + q0 * 25) (rowU q1))).getD 4 (u')).strOf),v' (vs' ((List.take 25 (List.drop (0 + q0 * 25) (rowU q1))).getD 5 (u')).strOf),v' (vi' I' ((List.take 25 (List.drop (0 + q0 * 25) (rowU q1))).getD 6 (u')).intOf),v' (vs' ((List.take 25 (List.drop (0 + q0 * 25) (rowU q1))).getD 7 (u')).strOf),v' (vs' ((List.take 25 (List.drop (0 + q0 * 25) (rowU q1))).getD 8 (u')).strOf),(List.take 25 (List.drop (0 + q0 * 25) (rowU q1))).getD 9 (u'),v' (vi' I' ((List.take 25 (List.drop (0 + q0 * 25) (rowU q1))).getD 10 (u')).intOf),v' (vi' I' ((List.take 25 (List.drop (0 + q0 * 25) (rowU q1))).getD 11 (u')).intOf),v' (vs' ((List.take 25 (List.drop (0 + q0 * 25) (rowU q1))).getD 12 (u')).strOf),v' (vs' ((List.take 25 (List.drop (0 + q0 * 25) (rowU q1))).getD 13 (u')).strOf),v' (vs' ((List.take 25 (List.drop (0 + q0 * 25) (rowU q1))).getD 14 (u')).strOf),v' (vs' ((List.take 25 (List.drop (0 + q0 * 25) (rowU q1))).getD 15 (u')).strOf),v' (vi' I' ((List.take 25 (List.drop (0 + q0 * 25) (rowU q1))).getD 16 (u')).intOf),v' (vs' ((List.take 25 (List.drop (0 + q0 * 25) (rowU q1))).getD 17 (u')).strOf),v' (vs' ((List.take 25 (List.drop (0 + q0 * 25) (rowU q1))).getD 18 (u')).strOf),v' (vs' ((List.take 25 (List.drop (0 + q0 * 25) (rowU q1))).getD 19 (u')).strOf),v' (vi' I' ((List.take 25 (List.drop (0 + q0 * 25) (rowU q1))).getD 20 (u')).intOf),v' (vi' I' ((List.take 25 (List.drop (0 + q0 * 25) (rowU q1))).getD 21 (u')).intOf),(List.take 25 (List.drop (0 + q0 * 25) (rowU q1))).getD 22 (u'),v' (vb' ((List.take 25 (List.drop (0 + q0 * 25) (rowU q1))).getD 23 (u')).boolOf),v' (vb' ((List.take 25 (List.drop (0 + q0 * 25) (rowU q1))).getD 24 (u')).boolOf)]) (AV.agg [z' q2.sq,z' q2.gh,z' q2.bo,z' q2.si,s' q2.ex,s' q2.ke,z' q2.fl,s' q2.ct,s' q2.ce,AV.un,z' q2.dm,z' q2.pr,s' q2.s1,s' q2.s2,s' q2.s3,s' q2.s4,z' q2.ts,s' q2.s5,s' q2.s6,s' q2.s7,z' q2.xp,z' q2.pi,AV.un,b' q2.du,b' q2.re])))))
theorem eY' (I : List Int) (R : List Kc) (n m j : Nat) (c : Kc) (F : HP) : B0' [] (hGo j 0 c) [(fGo, 6, AH' fGo 6, lGi ⟨n, j, bxI (slI 1004 m), .cells (rowU R) tKc⟩ I m c .mt dumZ)] default fGo (AH' fGo 2) (tms 0 39 (aGo n j)) (oGo (bxI (slI 1004 m)) (rZ I) R) kGo iGo F = VT.leaf (AX.normal,[pt' 0 0,AV.slice 1103 0 n 25 (Cp.lo n),i' n,i' (j + 1)],39) [some (ce' [AV.mt] 44),none,none,none,some (ce' (rep [i' 0] 0) 6),some (ce' (AV.rens (sgN (nmG 1010 1100) [1004,1005,1010,1006] 1102) (vmap (List.map encZ I))) 6),some (ce' (AV.rens (sgN (nmG 1010 1100) [1004,1005,1010,1006] 1102) (rowU R)) 82),some (ce' [z' c.sq,z' c.gh,z' c.bo,z' c.si,s' c.ex,s' c.ke,z' c.fl,s' c.ct,s' c.ce,AV.un,z' c.dm,z' c.pr,s' c.s1,s' c.s2,s' c.s3,s' c.s4,z' c.ts,s' c.s5,s' c.s6,s' c.s7,z' c.xp,z' c.pi,AV.un,b' c.du,b' c.re] 82),some (AO.any (frz fun x => True))] 1106 (h8' j n ((k77' j R c).a (h19' ((p' ((fGo,6,AH' fGo 6,lGi (Gf.mk n j (bxI (slI 1004 m)) (ce' (rowU R) tKc)) I m c AV.mt dumZ).snd.snd.fst = (fGo,6,AH' fGo 6,lGi (Gf.mk n j (bxI (slI 1004 m)) (ce' (rowU R) tKc)) I m c AV.mt dumZ).snd.snd.fst)).a (k11'.a ((k76' 1100 1101 1005 n j c 1004 m).a ((k75' 1004 m).a ((p' (OW (ce' (vmap (List.map encZ I)) 6) (ce' (AV.rens (nmG 1010 1100) (vmap (List.map encZ I))) 6))).a ((p' (OW (ce' (rowU R) 82) (ce' (AV.rens (nmG 1010 1100) (rowU R)) 82))).a ((k74' c).a (k6'.a ((f' (Wk (z' (IntKind.i64.wrap (↑m - o' 1))) (i' 0))).a (h62' ((k7' j).a k1')))))))))))))) := χ
theorem eX' (I J : List Int) (R : List Kc) (n m k j : Nat) (c : Kc) (F : HP) : B0' [] (hGo j k c) [(fGo, 6, AH' fGo 6, lGi ⟨n, j, bxI (slI 1004 m), .cells (rowU R) tKc⟩ I m c (slI 1006 k) (rZ J))] default fGo (AH' fGo 2) (tms 0 39 (aGo n j)) (oGo (bxI (slI 1004 m)) (rZ I) R) kGo iGo F = VT.leaf (AX.normal,[pt' 0 0,AV.slice 1103 0 n 25 (Cp.lo n),i' n,i' (j + 1)],39) [some (ce' [AV.slice 1105 0 k 1 (Cp.lo k)] 44),none,none,none,some (ce' (rep [i' 0] 0) 6),some (ce' (AV.rens (sgN (nmG 1010 1100) [1004,1005,1010,1006] 1102) (vmap (List.map encZ I))) 6),some (ce' (AV.rens (sgN (nmG 1010 1100) [1004,1005,1010,1006] 1102) (rowU R)) 82),some (ce' [z' c.sq,z' c.gh,z' c.bo,z' c.si,s' c.ex,s' c.ke,z' c.fl,s' c.ct,s' c.ce,AV.un,z' c.dm,z' c.pr,s' c.s1,s' c.s2,s' c.s3,s' c.s4,z' c.ts,s' c.s5,s' c.s6,s' c.s7,z' c.xp,z' c.pi,AV.un,b' c.du,b' c.re] 82),some (ce' (AV.rens (sgN (nmG 1010 1100) [1004,1005,1010,1006] 1102) (vmap (List.map encZ J))) 6)] 1106 (h8' j n ((k77' j R c).a (h19' ((p' ((fGo,6,AH' fGo 6,lGi (Gf.mk n j (bxI (slI 1004 m)) (ce' (rowU R) tKc)) I m c (slI 1006 k) (rZ J)).snd.snd.fst = (fGo,6,AH' fGo 6,lGi (Gf.mk n j (bxI (slI 1004 m)) (ce' (rowU R) tKc)) I m c (slI 1006 k) (rZ J)).snd.snd.fst)).a (k11'.a ((k76' 1100 1101 1005 n j c 1004 m).a ((k75' 1004 m).a ((p' (OW (ce' (vmap (List.map encZ I)) 6) (ce' (AV.rens (nmG 1010 1100) (vmap (List.map encZ I))) 6))).a ((p' (OW (ce' (rowU R) 82) (ce' (AV.rens (nmG 1010 1100) (rowU R)) 82))).a ((k74' c).a (k6'.a ((f' (Wk (z' (IntKind.i64.wrap (↑m - o' 1))) (i' k))).a ((wb' (↑k != o' k) g').a (k6'.a ((k7' j).a k1'))))))))))))))) := χ
theorem eZ' (B O : AO) (R : List Kc) (n : Nat) (F : HP) : B0' [] (AJ' [hf' fGo 2 0]) [] default fGo (AH' fGo 2) (tms 0 39 (aGo n n)) (oGo B O R) kGo iGo F = VT.leaf (AX.exit 0,[pt' 0 0,AV.slice 1005 0 n 25 (Cp.lo n),i' n,i' n],39) [some B,some O,some (ce' (rowU R) 82),none,none,none,none,none,none] 1100 ((k9' n).a k1') := χ
def gGo : List AV -> AP Nat := fun tmps => match getL tmps 9 with
 | .slice i _ _ _ _ => .ret i
 | _ => .fail "copies"
def lGo (B O B' O' : AO) (R : List Kc) (n : Nat) : List AV -> AP (AX × List AV) := mkL gGo (fun _ => True) (nmG 1005) (fun _ => tms 0 39 (aGo n 0)) (fun _ => oGo B O R) (fun _ => .leaf (.exit 0) (tms 0 39 [(1, .ptr 0 0)]) [(0, B'), (1004, O')])
theorem ZL' (B O : AO) (F : HP) : wRun [] (AJ' [hf' fGo 2 0]) [] default fGo [nilS, .ptr 0 0] [(0, B), (1004, O)] [0, 1004, 1100] F = VT.leaf (b' true) [some B,some O,none] 1100 (k17'.a k1') := χ
theorem ZK' (B O B' O' : AO) (R : List Kc) (n : Nat) (F : HP) : wRun [] AF' [(fGo, 2, AH' fGo 2, lGo B O B' O' R n)] default fGo [slR 1005 n, .ptr 0 0] (oGo B O R) [0, 1004, 1005, 1100, 1101, 1102] F = VT.leaf (b' true) [some (AO.ren (sgN (nmG 1005 1005) [1004] 1100) B'),none,none,some (AO.ren (sgN (nmG 1005 1005) [1004] 1100) O'),none,none] 1101 ((p' ((fGo,2,AH' fGo 2,lGo B O B' O' R n).snd.snd.fst = (fGo,2,AH' fGo 2,lGo B O B' O' R n).snd.snd.fst)).a (k11'.a ((p' (VW (AV.slice 1005 0 n 25 (Cp.lo n)::pt' 0 0::u'::b' false::ru4 (u'::AV.slice 1005 0 n 25 (Cp.lo n)::z' ↑n::i' 0::ru16 (ru8 (u'::u'::u'::[])))) (a'::pt' 0 0::ra4 (a'::a'::a'::AV.slice 1005 0 n 25 (Cp.lo n)::i' n::i' 0::ra16 (ra8 (a'::a'::a'::[])))))).a ((p' (OW B (AO.ren (nmG 1005 1005) B))).a ((p' (OW O (AO.ren (nmG 1005 1005) O))).a ((p' (OW (ce' (rowU R) 82) (ce' (AV.rens (nmG 1005 1005) (rowU R)) 82))).a k1')))))) := χ
end
def notK (k : Int) (l : List Int) : List Int := l.filter fun s => !decide (s = k)
theorem T4' {k : Int} : ∀ {l : List Int}, l.Nodup -> k ∈ l -> (notK k l).length + 1 = l.length
 | [], _, h => by cases h
 | x :: l, hn, h => by
  have hx := (List.nodup_cons.1 hn)
  by_cases e : x = k
  ·subst e
   have : notK x (x :: l) = l := by
    show List.filter _ (x :: l) = l; rw [List.filter_cons_of_neg (by simp)]
    exact List.filter_eq_self.2 fun y hy => by
     have : y ≠ x := fun e => hx.1 (e ▸ hy)
     simp [this]
   rw [this]; rfl
  ·have : notK k (x :: l) = x :: notK k l := List.filter_cons_of_pos (by simp [e]); rw [this, List.length_cons, List.length_cons, T4' hx.2 ((List.mem_cons.1 h).resolve_left (Ne.symm e))]
theorem W6' {k : Int} {I : List Int} {i : Nat} {s : Int} (h : I[i]? = some s) : notK k (I.take (i + 1)) = if s = k then notK k (I.take i) else notK k (I.take i) ++ [s] := by
 unfold notK; rw [DP' h, List.filter_append]
 by_cases e : s = k
 ·rw [if_pos e, List.filter_cons_of_neg (by simp [e])]; simp
 ·rw [if_neg e, List.filter_cons_of_pos (by simp [e])]; simp
theorem I6' {k : Nat} {I : List Int} (h : I ≠ []) : xI k I = slI k I.length /\ iO I = rZ I := by
 cases I with
 | nil => exact absurd rfl h
 | cons c R => exact ⟨rfl, rfl⟩
theorem EU' (σ : Nat -> Nat) (k : Nat) : ∀ I, AV.ren σ (xI k I) = xI (σ k) I
 | [] => rfl
 | _ :: _ => rfl
theorem AU' (σ : Nat -> Nat) : ∀ I, AO.ren σ (iO I) = iO I
 | [] => rfl
 | c :: R => BK' σ (c :: R)
theorem QU' {K : Nat -> Bool} {k : Nat} (h : K k = true) : ∀ I, AV.cl K (xI k I)
 | [] => trivial
 | _ :: _ => h
theorem RH' (K : Nat -> Bool) : ∀ I, (iO I).cl K
 | [] => trivial
 | c :: R => I7' K (c :: R)
theorem E2' {K : Nat -> Bool} {x : AV} (h : AV.cl K x) : (bxI x).cl K := ⟨h, Ye⟩
theorem QB' (K : Nat -> Bool) (c : Kc) : (cKU c).cl K := bZ' K c
theorem RG' (l : List Int) (x : Int) : iO (l ++ [x]) = rZ (l ++ [x]) := (I6' (k := 0) (by simp)).2
theorem QT' (k : Nat) (l : List Int) (x : Int) : xI k (l ++ [x]) = slI k (l.length + 1) := by rw [(I6' (by simp)).1, List.length_append]; rfl
theorem VK' (l : List Int) (x : Int) : rZ (l ++ [x]) = .cells (vmap (l.map encZ) ++ [iv x]) tIn := by simp only [rZ, List.map_append, vmap]; rfl
theorem NL' (l : List Int) : List.take (l.length * 1) (List.drop 0 (vmap (l.map encZ))) = vmap (l.map encZ) := by
 rw [List.drop_zero, Nat.mul_one, List.take_of_length_le (by rw [C5']; exact Yd)]
theorem YG' (n : Nat) (h : n < 9223372036854775807) : IntKind.i64.wrap (o' n) = o' n := by
 cases n with
 | zero => rfl
 | succ k =>
  have := BZ' k ω; exact this
theorem gY' (g : Gf) (I : List Int) (c : Kc) (hb : I.length * 8 <= 140737488355328) (hB : AO.cl (fun i => Nat.blt i 1000 || (getO (oGi g I c dumZ) i).isSome) g.B) (hR : AO.cl (fun i => Nat.blt i 1000 || (getO (oGi g I c dumZ) i).isSome) g.R) (rB : ∀ l : List (Nat × Nat), (∀ k, k ∈ [1004, 1005, 1010] -> sg l k = k) -> AO.ren (sg l) g.B = g.B) (rR : ∀ l : List (Nat × Nat), (∀ k, k ∈ [1004, 1005, 1010] -> sg l k = k) -> AO.ren (sg l) g.R = g.R) :
  LTri Θ default (AH' fGo 6) (tms 0 39 (aGi g I.length 0 .mt)) (oG0 g I c) (.exit 2) (tms 0 39 (zGi g (xI 1006 (notK c.sq I)))) (oGi g I c (iO (notK c.sq I))) := by
 refine LTri.pre (BR' (k := 1006) (H' := oGi g I c dumZ) (fun C => trivial) rfl rfl rfl δ rfl (fun n hn => ?_)) ?_
 ·simp only [oGi, oG0, getO]
  by_cases e0 : n = 0
  ·simp only [if_pos e0]
  ·by_cases e1 : n = 1004
   ·simp only [if_neg e0, if_pos e1]
   ·by_cases e2 : n = 1005
    ·simp only [if_neg e0, if_neg e1, if_pos e2]
    ·by_cases e3 : n = 1010
     ·simp only [if_neg e0, if_neg e1, if_neg e2, if_pos e3]
     ·simp only [if_neg e0, if_neg e1, if_neg e2, if_neg e3, if_neg hn]
 refine CT' (W := default) (g := fGo) (b := AH' fGo 6) (σ := {i : Nat // i <= I.length}) 39 (fun z => aGi g I.length z.1 (xI 1006 (notK c.sq (I.take z.1)))) (fun z => oGi g I c (iO (notK c.sq (I.take z.1)))) (.exit 2) (zGi g (xI 1006 (notK c.sq I))) (oGi g I c (iO (notK c.sq I))) (fun z => I.length - z.1) kGi iGi (by intro h; cases h) (fun _ => rfl) ?_ ⟨0, Nat.zero_le _⟩
 rintro ⟨i, hi⟩; simp only at hi ⊢
 by_cases h1 : i < I.length
 ·obtain ⟨s, hx⟩ := DD' h1; have hw := BZ' i ω; have e1 : decide (o' i < o' I.length) = true := ltT h1; have hcs := NM' hx; have hnx := W6' (k := c.sq) hx; have hml : (notK c.sq (I.take i)).length <= i := Nat.le_trans (List.length_filter_le _ _) (by rw [List.length_take]; omega)
  by_cases hk : s = c.sq
  ·rw [if_pos hk] at hnx
   have b1 : (s != c.sq) = false := by simp [hk]
   refine ⟨[], hGi i s false, [], fun _ _ => noC, fun _ _ => noL, fun F => ?_⟩
   refine Yj (f0' g I I.length i s c (xI 1006 (notK c.sq (I.take i))) (iO (notK c.sq (I.take i))) F) ⟨⟨?_, rfl, .inl ⟨rfl, aGi g I.length (i + 1) (xI 1006 (notK c.sq (I.take i))), oGi g I c (iO (notK c.sq (I.take i))), [(1004, 1004), (1005, 1005), (1010, 1010), (1006, 1006)], rfl, ⟨χ, by kernel_rfl, ⟨Ya, Ya, by rw [EU']; exact Ya, Ya, Ya, Ya, Ya, Ya, Ya, Ye⟩, ⟨_, rfl, OW.of_eq (rB _ δ).symm⟩, ⟨_, rfl, OW.of_eq (BK' _ I).symm⟩, ⟨_, rfl, OW.of_eq (rR _ δ).symm⟩, ⟨_, rfl, Yc⟩, ⟨_, rfl, OW.of_eq (AU' _ _).symm⟩, Ye⟩, fun W0 F N ys w hs => ?_⟩⟩⟩
   ·exact Cq12'
   ·refine ⟨⟨i + 1, h1⟩, BE' h1, ?_⟩; simp only; rw [hnx]; exact hs
  ·rw [if_neg hk] at hnx
   have b1 : (s != c.sq) = true := by simp [hk]
   obtain ⟨J, hJ⟩ : ∃ J, notK c.sq (I.take i) = J := ⟨_, rfl⟩; rw [hJ] at hnx hml ⊢
   by_cases hJe : J = []
   ·subst hJe
    refine ⟨[], hGi i s true, [], fun _ _ => noC, fun _ _ => noL, fun F => ?_⟩
    refine Yj (f2' g I I.length i s c F) ⟨⟨?_, rfl, .inl ⟨rfl, aGi g I.length (i + 1) (xI 1006 [s]), oGi g I c (iO [s]), [(1004, 1004), (1005, 1005), (1010, 1010), (1006, 1101)], rfl, ⟨χ, by kernel_rfl, ⟨Ya, Ya, Ya, Ya, Ya, Ya, Ya, Ya, Ya, Ye⟩, ⟨_, rfl, OW.of_eq (rB _ δ).symm⟩, ⟨_, rfl, OW.of_eq (BK' _ I).symm⟩, ⟨_, rfl, OW.of_eq (rR _ δ).symm⟩, ⟨_, rfl, Yc⟩, ⟨_, rfl, Yc⟩, Ye⟩, fun W0 F N ys w hs => ?_⟩⟩⟩
    ·exact Cq12'
    ·refine ⟨⟨i + 1, h1⟩, BE' h1, ?_⟩; simp only; rw [hnx]; exact hs
   ·obtain ⟨x1, x2⟩ := I6' (k := 1006) hJe
    have k1 : (0 + J.length * 1).ble (vmap (J.map encZ)).length = true := by rw [C5', Nat.ble_eq]; omega
    have k2 : ((J.length + 1) * 8).ble 140737488355328 = true := by rw [Nat.ble_eq]; omega
    have k3 : (J.length + 1).ble 9223372036854775807 = true := by rw [Nat.ble_eq]; omega
    have ktk := NL' J
    have k4 : (List.take (J.length * 1) (List.drop 0 (vmap (J.map encZ)))).length.beq (J.length * 1) = true := by rw [ktk, C5', Nat.mul_one]; exact Nat.beq_refl _
    rw [x1, x2]
    refine ⟨[], hGi i s true, [], fun _ _ => noC, fun _ _ => noL, fun F => ?_⟩
    refine Yj (f1' g I I.length i J.length s c J F) ⟨⟨?_, rfl, .inl ⟨rfl, aGi g I.length (i + 1) (slI 1006 (J.length + 1)), oGi g I c (rZ (J ++ [s])), [(1004, 1004), (1005, 1005), (1010, 1010), (1006, 1101)], rfl, ⟨χ, by kernel_rfl, ⟨Ya, Ya, Ya, Ya, Ya, Ya, Ya, Ya, Ya, Ye⟩, ⟨_, rfl, OW.of_eq (rB _ δ).symm⟩, ⟨_, rfl, OW.of_eq (BK' _ I).symm⟩, ⟨_, rfl, OW.of_eq (rR _ δ).symm⟩, ⟨_, rfl, Yc⟩, ⟨_, rfl, OW.of_eq (by rw [ktk, BK', VK']; rfl)⟩, Ye⟩, fun W0 F N ys w hs => ?_⟩⟩⟩
    ·simp only [ch', Nat.blt_eq, true_and, and_true, e1, h1, hcs, C5', b1, k1, k2, k3, k4]; and_intros; all_goals exact Kq6'
    ·refine ⟨⟨i + 1, h1⟩, BE' h1, ?_⟩; simp only; rw [hnx, RG', QT']; exact hs
 ·have hje : i = I.length := ω
  subst hje; rw [List.take_length]
  refine ⟨[], AJ' [hf' fGo 6 0], [], fun _ _ => noC, fun _ _ => noL, fun F => ?_⟩
  refine Yj (f3' g I I.length c (xI 1006 (notK c.sq I)) (iO (notK c.sq I)) F) ⟨⟨?_, rfl, .inr ⟨rfl, zGi g (xI 1006 (notK c.sq I)), oGi g I c (iO (notK c.sq I)), [(1004, 1004), (1005, 1005), (1010, 1010), (1006, 1006)], rfl, ⟨χ, by kernel_rfl, ⟨Ya, Ya, by rw [EU']; exact Ya, Ya, Ya, Ya, Ye⟩, ⟨_, rfl, OW.of_eq (rB _ δ).symm⟩, ⟨_, rfl, OW.of_eq (BK' _ I).symm⟩, ⟨_, rfl, OW.of_eq (rR _ δ).symm⟩, ⟨_, rfl, Yc⟩, ⟨_, rfl, OW.of_eq (AU' _ _).symm⟩, Ye⟩, fun W0 F N ys w hs => hs⟩⟩⟩
  simp only [ch', and_true]; exact A5' ltF
def BD' (ins : List Int) (R : List Kc) : List Int := R.foldl (fun l c => notK c.sq l) ins
theorem NB' (ins : List Int) (R : List Kc) (c : Kc) : BD' ins (R ++ [c]) = notK c.sq (BD' ins R) := by simp only [BD', List.foldl_append, List.foldl_cons, List.foldl_nil]
theorem RI' {ins : List Int} (h : ins.Nodup) : ∀ R : List Kc, (BD' ins R).Nodup := by
 intro R
 induction R generalizing ins with
 | nil => exact h
 | cons c R ih => exact ih (h.sublist List.filter_sublist)
theorem WW' (ins : List Int) (R : List Kc) : (BD' ins R).length <= ins.length := by
 induction R generalizing ins with
 | nil => exact Yd
 | cons c R ih => exact Nat.le_trans (ih _) (List.length_filter_le _ _)
def JR' (ins : List Int) (R : List Kc) : Prop := ∀ (j : Nat) (c : Kc), R[j]? = some c -> c.sq ∈ BD' ins (R.take j)
theorem bS' : ∀ args, RO (gGi args) := by
 intro args; unfold gGi
 repeat' split
 all_goals exact Kq19'
theorem gGo_ro : ∀ args, RO (gGo args) := by
 intro args; unfold gGo
 repeat' split
 all_goals exact Kq19'
theorem bC' {R : List Kc} {j : Nat} {c : Kc} (h : R[j]? = some c) : List.take 25 (List.drop (0 + j * 25) (rowU R)) = uC c := by rw [Nat.zero_add]; exact VG' R j c h
theorem ren_bx (l : List (Nat × Nat)) (h : sg l 1004 = 1004) (m : Nat) : AO.ren (sg l) (bxI (slI 1004 m)) = bxI (slI 1004 m) := by
 show ce' [AV.slice (sg l 1004) 0 m 1 (.lo m)] tB = _; rw [h]; rfl
theorem DJ' (σ : Nat -> Nat) (R : List Kc) : AO.ren σ (.cells (rowU R) tKc) = .cells (rowU R) tKc := by simp only [AO.ren, AC']
theorem gX' (ins : List Int) (R : List Kc) (hb : ins.length * 8 <= 140737488355328) (hn : ins.Nodup) (hR : R.length * 320 <= 140737488355328) (hG : JR' ins R) :
  LTri Θ default (AH' fGo 2) (tms 0 39 (aGo R.length 0)) (oGo (bxI (xI 1004 ins)) (iO ins) R) (.exit 0) (tms 0 39 [(1, .ptr 0 0)]) [(0, bxI (xI 1004 (BD' ins R))), (1004, iO (BD' ins R))] := by
 refine CT' (W := default) (g := fGo) (b := AH' fGo 2) (σ := {j : Nat // j <= R.length}) 39 (fun z => aGo R.length z.1) (fun z => oGo (bxI (xI 1004 (BD' ins (R.take z.1)))) (iO (BD' ins (R.take z.1))) R) (.exit 0) [(1, .ptr 0 0)] [(0, bxI (xI 1004 (BD' ins R))), (1004, iO (BD' ins R))] (fun z => R.length - z.1) kGo iGo (by intro h; cases h) (fun _ => rfl) ?_ ⟨0, Nat.zero_le _⟩
 rintro ⟨j, hj⟩; simp only at hj ⊢
 by_cases h1 : j < R.length
 ·obtain ⟨c, hc⟩ := DD' h1; have hmem := hG j c hc; have hw := BZ' j ω; have e1 : decide (o' j < o' R.length) = true := ltT h1; have hcs := bC' hc
  have hnx : BD' ins (R.take (j + 1)) = notK c.sq (BD' ins (R.take j)) := by rw [DP' hc, NB']
  have hnd := RI' hn (R.take j); have hll := WW' ins (R.take j); obtain ⟨I, hI⟩ : ∃ I, BD' ins (R.take j) = I := ⟨_, rfl⟩; rw [hI] at hmem hnx hnd hll ⊢
  have hIne : I ≠ [] := fun e => by rw [e] at hmem; cases hmem
  obtain ⟨x1, x2⟩ := I6' (k := 1004) hIne; rw [x1, x2]; have hlen := T4' hnd hmem; have hb' : I.length * 8 <= 140737488355328 := Nat.le_trans (Nat.mul_le_mul_right _ hll) hb; have hinner := gY' ⟨R.length, j, bxI (slI 1004 I.length), .cells (rowU R) tKc⟩ I c hb' (E2' rfl) (CZ' _ R) (fun l hl => ren_bx l (hl 1004 δ) _) (fun l hl => DJ' _ R); obtain ⟨J, hJ⟩ : ∃ J, notK c.sq I = J := ⟨_, rfl⟩; rw [hJ] at hinner hnx hlen
  have w1 : IntKind.i64.wrap (o' I.length - o' 1) = o' J.length := by
   rw [<- hlen]
   have e : o' (J.length + 1) - o' 1 = o' J.length := by simp only [Z0]; omega
   rw [e]; exact YG' _ ω
  have w2 : (o' J.length != o' J.length) = false := by simp
  by_cases hJe : J = []
  ·subst hJe
   have hl : ∀ F, L1OK Θ F (AH' fGo 6) (lGi ⟨R.length, j, bxI (slI 1004 I.length), .cells (rowU R) tKc⟩ I I.length c .mt dumZ) := fun F =>
    EV' B6' bS' (fun _ _ => hinner) fun _ => by
     simp only [RT.pick]; exact DF' rfl rfl (A0' rfl (A0' rfl (A0' Ye (A0' rfl (A0' Ye (A0' Ye (A0' rfl (A0' Ye (A0' Ye A4'))))))))) (A0' (E2' rfl) (A0' (I7' _ I) (A0' (CZ' _ R) (A0' (QB' _ c) A4')))) (A0' rfl (A0' rfl (A0' Ye (A0' rfl (A0' Ye (A0' Ye A4')))))) (A0' (E2' rfl) (A0' (I7' _ I) (A0' (CZ' _ R) (A0' (QB' _ c) (A0' Ye A4')))))
   refine ⟨[], hGo j 0 c, [(fGo, 6, AH' fGo 6, lGi ⟨R.length, j, bxI (slI 1004 I.length), .cells (rowU R) tKc⟩ I I.length c .mt dumZ)], fun _ _ => noC, fun F _ => MD' (hl F), fun F => ?_⟩
   refine Yj (eY' I R R.length I.length j c F) ⟨⟨?_, rfl, .inl ⟨rfl, aGo R.length (j + 1), oGo (bxI .mt) dumZ R, [(1004, 1105), (1005, 1103)], rfl, ⟨χ, by kernel_rfl, ⟨Ya, Ya, Ya, Ya, Ye⟩, ⟨_, rfl, Yc⟩, ⟨_, rfl, Yc⟩, ⟨_, rfl, OW.of_eq (by simp only [AO.ren, AC'])⟩, Ye⟩, fun W0 F N ys w hs => ?_⟩⟩⟩
   ·exact Cq13'
   ·refine ⟨⟨j + 1, h1⟩, BE' h1, ?_⟩; simp only; rw [hnx]; exact hs
  ·obtain ⟨y1, y2⟩ := I6' (k := 1006) hJe; obtain ⟨z1, z2⟩ := I6' (k := 1004) hJe; rw [y1, y2] at hinner
   have hl : ∀ F, L1OK Θ F (AH' fGo 6) (lGi ⟨R.length, j, bxI (slI 1004 I.length), .cells (rowU R) tKc⟩ I I.length c (slI 1006 J.length) (rZ J)) := fun F =>
    EV' B6' bS' (fun _ _ => hinner) fun _ => by
     simp only [RT.pick]; exact DF' rfl rfl (A0' rfl (A0' rfl (A0' Ye (A0' rfl (A0' Ye (A0' Ye (A0' rfl (A0' Ye (A0' Ye A4'))))))))) (A0' (E2' rfl) (A0' (I7' _ I) (A0' (CZ' _ R) (A0' (QB' _ c) A4')))) (A0' rfl (A0' rfl (A0' rfl (A0' rfl (A0' Ye (A0' Ye A4')))))) (A0' (E2' rfl) (A0' (I7' _ I) (A0' (CZ' _ R) (A0' (QB' _ c) (A0' (I7' _ J) A4')))))
   refine ⟨[], hGo j J.length c, [(fGo, 6, AH' fGo 6, lGi ⟨R.length, j, bxI (slI 1004 I.length), .cells (rowU R) tKc⟩ I I.length c (slI 1006 J.length) (rZ J))], fun _ _ => noC, fun F _ => MD' (hl F), fun F => ?_⟩
   refine Yj (eX' I J R R.length I.length J.length j c F) ⟨⟨?_, rfl, .inl ⟨rfl, aGo R.length (j + 1), oGo (bxI (slI 1004 J.length)) (rZ J) R, [(1004, 1105), (1005, 1103)], rfl, ⟨χ, by kernel_rfl, ⟨Ya, Ya, Ya, Ya, Ye⟩, ⟨_, rfl, Yc⟩, ⟨_, rfl, OW.of_eq (by simp only [AO.ren, rZ, AB'])⟩, ⟨_, rfl, OW.of_eq (by simp only [AO.ren, AC'])⟩, Ye⟩, fun W0 F N ys w hs => ?_⟩⟩⟩
   ·exact Cq13'
   ·refine ⟨⟨j + 1, h1⟩, BE' h1, ?_⟩; simp only; rw [hnx, z1, z2]; exact hs
 ·have hje : j = R.length := ω
  subst hje; rw [List.take_length]
  refine ⟨[], AJ' [hf' fGo 2 0], [], fun _ _ => noC, fun _ _ => noL, fun F => ?_⟩
  refine Yj (eZ' (bxI (xI 1004 (BD' ins R))) (iO (BD' ins R)) R R.length F) ⟨⟨?_, rfl, .inr ⟨rfl, [(1, .ptr 0 0)], [(0, bxI (xI 1004 (BD' ins R))), (1004, iO (BD' ins R))], [(1004, 1004)], rfl, ⟨χ, by kernel_rfl, ⟨Ya, Ye⟩, ⟨_, rfl, OW.of_eq (by show ce' [_] _ = ce' [AV.ren _ _] _; rw [EU']; rfl)⟩, ⟨_, rfl, OW.of_eq (AU' _ _).symm⟩, Ye⟩, fun W0 F N ys w hs => hs⟩⟩⟩
  simp only [ch', and_true]; exact A5' ltF
theorem nmG_id (k : Nat) : nmG k k = fun i => i := by
 funext i; unfold nmG; split
 ·rename_i h; exact (Nat.eq_of_beq_eq_true h).symm
 ·rfl
theorem dM' (k : Nat) (l : List Int) : AO.ren (nmG 1005 1005) (bxI (xI k l)) = bxI (xI k l) := by
 rw [nmG_id]; show ce' [AV.ren _ _] _ = _; rw [EU']; rfl
theorem T9' (ins : List Int) (R : List Kc) (hb : ins.length * 8 <= 140737488355328) (hn : ins.Nodup) (hR : R.length * 320 <= 140737488355328) (hG : JR' ins R) :
  Tri Θ default fGo [xRk 1005 R, .ptr 0 0] [(0, bxI (xI 1004 ins)), (1004, iO ins), (1005, rO R)] (bv true) [(0, bxI (xI 1004 (BD' ins R))), (1004, iO (BD' ins R))] := by
 cases R with
 | nil =>
  refine Tri.pre (H1 := [(0, bxI (xI 1004 ins)), (1004, iO ins)]) (LU' rfl rfl (Yb) (fun i o h => ?_) ⟨Ye, rfl, Ye⟩ (A0' (E2' (QU' rfl _)) (A0' (RH' _ _) A4'))) ?_
  ·simp only [getO] at h ⊢
   by_cases e0 : i = 0
   ·rw [if_pos e0] at h ⊢; exact h
   ·rw [if_neg e0] at h ⊢
    by_cases e1 : i = 1004
    ·rw [if_pos e1] at h ⊢; exact h
    ·rw [if_neg e1] at h; cases h
  refine AR' (con := []) (hints := AJ' [hf' fGo 2 0]) (lc := []) [0, 1004, 1100] rfl (fun F _ => noC) (fun _ _ => noL) fun F => ?_
  refine Yj (ZL' (bxI (xI 1004 ins)) (iO ins) F) ⟨⟨?_, (BC' (vs' := [bv true]) (H' := [(0, bxI (xI 1004 ins)), (1004, iO ins)]) [(1004, 1004)] χ χ (Yb) ⟨⟨_, rfl, OW.of_eq (by show ce' [_] _ = ce' [AV.ren _ _] _; rw [EU']; rfl)⟩, ⟨_, rfl, OW.of_eq (AU' _ _).symm⟩, Ye⟩).fits rfl⟩⟩; simp only [ch', and_true]; exact AM' _
 | cons c R =>
  obtain ⟨R', hR'⟩ : ∃ R', R' = c :: R := ⟨_, rfl⟩; obtain ⟨x1, x2⟩ := D5' (k := 1005) (R := c :: R) (by simp); rw [x1, x2, <- hR']; rw [<- hR'] at hR hG
  have hl : ∀ F, L1OK Θ F (AH' fGo 2) (lGo (bxI (xI 1004 ins)) (iO ins) (bxI (xI 1004 (BD' ins R'))) (iO (BD' ins R')) R' R'.length) := fun F =>
   EV' B6' gGo_ro (fun _ _ => gX' ins R' hb hn hR hG) fun _ => by
    simp only [RT.pick]; exact DF' rfl rfl (A0' rfl (A0' rfl (A0' Ye (A0' Ye A4')))) (A0' (E2' (QU' rfl _)) (A0' (RH' _ _) (A0' (CZ' _ R') A4'))) (A0' rfl A4') (A0' (E2' (QU' rfl _)) (A0' (RH' _ _) A4'))
  refine AR' (con := []) (hints := AF') (lc := [(fGo, 2, AH' fGo 2, lGo (bxI (xI 1004 ins)) (iO ins) (bxI (xI 1004 (BD' ins R'))) (iO (BD' ins R')) R' R'.length)]) [0, 1004, 1005, 1100, 1101, 1102] rfl (fun F _ => noC) (fun F _ => MD' (hl F)) fun F => ?_
  refine Yj (ZK' (bxI (xI 1004 ins)) (iO ins) (bxI (xI 1004 (BD' ins R'))) (iO (BD' ins R')) R' R'.length F) ⟨⟨?_, (BC' (vs' := [bv true]) (H' := [(0, bxI (xI 1004 (BD' ins R'))), (1004, iO (BD' ins R'))]) [(1004, 1100)] χ χ (Yb) ⟨⟨_, rfl, OW.of_eq (by show ce' [AV.ren _ _] _ = ce' [AV.ren _ _] _; rw [EU', EU']; rfl)⟩, ⟨_, rfl, OW.of_eq ((AU' _ _).trans (AU' _ _).symm)⟩, Ye⟩).fits rfl⟩⟩
  ·simp only [ch', Nat.blt_eq, true_and, and_true]; and_intros; all_goals first | (with_reducible exact Ye) | (with_reducible exact rfl) | (with_reducible exact Ya) | (with_reducible exact Yb) | (with_reducible exact Yc) | (with_reducible exact AM' _) | (with_reducible assumption) | exact OW.of_eq (dM' _ _).symm | exact OW.of_eq (AU' _ _).symm | exact rfl | exact Ya | exact Yb | exact Yc | (refine OW.of_eq ?_; simp only [A8', AB', AC']; done) | ((repeat (first | exact VW.nil | refine VW.cons Ya ?_ | refine VW.cons (Wk.any _) ?_ | refine VW.cons C3' ?_)); done)
noncomputable section
structure Lf where
 sa : Option Addr
 n : Nat
 c : Nat
 j : Nat
 Q : AO
def clG : AV := .func (.func fGo) [] [.ptr 3 0]
def bL (g : Lf) : List (Nat × AV) := [(5, .ptr 2 0), (6, .ptr 3 0), (7, clG), (31, slV g.sa g.n g.c), (32, iv (o' g.n)), (33, iv (o' g.j))]
def iL : List Nat := [5, 6, 7, 31, 32, 33]
structure Lm where
 I : List Int
 R : List Kc
 i : Nat
def aM (g : Lf) (m : Lm) (y : AV) (l : List (Nat × AV)) : List (Nat × AV) := [(5, .ptr 2 0), (6, .ptr 3 0), (7, clG), (10, bv true), (15, y), (17, .ptr 10 0), (31, slV g.sa g.n g.c), (32, iv (o' g.n)), (33, iv (o' g.j)), (98, slR 5 m.R.length), (99, iv (o' m.R.length)), (100, iv (o' m.i))] ++ l
def oM (g : Lf) (m : Lm) (c : Kc) (O : AO) : LH := [(2, g.Q), (3, bxI (slI 4 m.I.length)), (4, rZ m.I), (5, .cells (rowU m.R) tKc), (6, O), (10, cKU c)]
def iM (l : List Nat) : List Nat := [5, 6, 7, 10, 15, 17, 31, 32, 33, 98, 99, 100] ++ l
def kM : List Nat := [2, 3, 4, 5, 6, 10, 1100, 1101, 1102]
def a5 (y : AV) (n i : Nat) : List (Nat × AV) := [(104, y), (105, iv (o' n)), (106, iv (o' i))]
abbrev k78' (q0 : Kc) : Cnd := (ee' (z' q0.sq))
theorem eV' (g : Lf) (m : Lm) (c : Kc) (M : List Int) (n i : Nat) (s : Int) (F : HP) : B0' [] (AJ' [ht' fLaw 35 0, (fLaw, 36, 1, hv (iv s)), ht' fLaw 37 0, ht' fLaw 37 5, (fLaw, 38, 0, hv (iv (o' (i + 1))))]) [] default fLaw (AH' fLaw 35) (tms 0 152 (aM g m (slI 6 n) (a5 (slI 6 n) n i))) (oM g m c (rZ M)) kM (iM [104, 105, 106]) F = VT.leaf (AX.normal,[pt' 2 0,pt' 3 0,AV.func (Fn.func 19) [] [pt' 3 0],j',AV.slice 6 0 n 1 (Cp.lo n),pt' 10 0,v' (sl' g.sa g.n g.c),i' g.n,i' g.j,AV.slice 5 0 m.R.length 25 (Cp.lo m.R.length),i' m.R.length,i' m.i,AV.slice 6 0 n 1 (Cp.lo n),i' n,i' (i + 1)],152) [some g.Q,some (ce' [AV.slice 4 0 m.I.length 1 (Cp.lo m.I.length)] 44),some (ce' (vmap (List.map encZ m.I)) 6),some (ce' (rowU m.R) 82),some (ce' (vmap (List.map encZ M)) 6),some (ce' [z' c.sq,z' c.gh,z' c.bo,z' c.si,s' c.ex,s' c.ke,z' c.fl,s' c.ct,s' c.ce,AV.un,z' c.dm,z' c.pr,s' c.s1,s' c.s2,s' c.s3,s' c.s4,z' c.ts,s' c.s5,s' c.s6,s' c.s7,z' c.xp,z' c.pi,AV.un,b' c.du,b' c.re] 82),none,none,none] 1100 (h55' i n M s (k16'.a ((k78' c).a ((k72' s c).a ((k7' i).a k1'))))) := χ
theorem eW' (g : Lf) (m : Lm) (c : Kc) (O : AO) (y : AV) (n : Nat) (F : HP) : B0' [] (AJ' [hf' fLaw 35 0]) [] default fLaw (AH' fLaw 35) (tms 0 152 (aM g m y (a5 y n n))) (oM g m c O) kM (iM [104, 105, 106]) F = VT.leaf (AX.exit 5,[pt' 2 0,pt' 3 0,AV.func (Fn.func 19) [] [pt' 3 0],b' true,getL [a',a',a',a',a',pt' 2 0,pt' 3 0,AV.func (Fn.func 19) [] [pt' 3 0],a',a',b' true,a',a',a',a',y,a',pt' 10 0,a',a',a',a',a',a',a',a',a',a',a',a',a',v' (sl' g.sa g.n g.c),i' g.n,i' g.j,a',a',a',a',a',a',a',a',a',a',a',a',a',a',a',a',a',a',a',a',a',a',a',a',a',a',a',a',a',a',a',a',a',a',a',a',a',a',a',a',a',a',a',a',a',a',a',a',a',a',a',a',a',a',a',a',a',a',a',a',a',a',a',a',AV.slice 5 0 m.R.length 25 (Cp.lo m.R.length),i' m.R.length,i' m.i,a',a',a',y,i' n,i' n,g',a',a',a',a',a',a',a',a',a',a',a',a',a',a',a',a',a',a',a',a',a',a',a',a',a',a',a',a',a',a',a',a',a',a',a',a',a',a',a',a',a',a',a',a'] 15,pt' 10 0,v' (sl' g.sa g.n g.c),i' g.n,i' g.j,AV.slice 5 0 m.R.length 25 (Cp.lo m.R.length),i' m.R.length,i' m.i,getL [a',a',a',a',a',pt' 2 0,pt' 3 0,AV.func (Fn.func 19) [] [pt' 3 0],a',a',b' true,a',a',a',a',y,a',pt' 10 0,a',a',a',a',a',a',a',a',a',a',a',a',a',v' (sl' g.sa g.n g.c),i' g.n,i' g.j,a',a',a',a',a',a',a',a',a',a',a',a',a',a',a',a',a',a',a',a',a',a',a',a',a',a',a',a',a',a',a',a',a',a',a',a',a',a',a',a',a',a',a',a',a',a',a',a',a',a',a',a',a',a',a',a',a',a',a',a',a',a',a',a',AV.slice 5 0 m.R.length 25 (Cp.lo m.R.length),i' m.R.length,i' m.i,a',a',a',y,i' n,i' n,g',a',a',a',a',a',a',a',a',a',a',a',a',a',a',a',a',a',a',a',a',a',a',a',a',a',a',a',a',a',a',a',a',a',a',a',a',a',a',a',a',a',a',a',a'] 104,i' n,i' n],152) [some g.Q,some (ce' [AV.slice 4 0 m.I.length 1 (Cp.lo m.I.length)] 44),some (ce' (vmap (List.map encZ m.I)) 6),some (ce' (rowU m.R) 82),some O,some (ce' [z' c.sq,z' c.gh,z' c.bo,z' c.si,s' c.ex,s' c.ke,z' c.fl,s' c.ct,s' c.ce,AV.un,z' c.dm,z' c.pr,s' c.s1,s' c.s2,s' c.s3,s' c.s4,z' c.ts,s' c.s5,s' c.s6,s' c.s7,z' c.xp,z' c.pi,AV.un,b' c.du,b' c.re] 82),none,none,none] 1100 ((k9' n).a k1') := χ
def a7 (b : Bool) (n i : Nat) : List (Nat × AV) := [(20, bv b), (123, slI 4 n), (124, iv (o' n)), (125, iv (o' i))]
def h7 (i : Nat) (s : Int) (b b1 : Bool) : AY' := AJ' [ht' fLaw 42 0, (fLaw, 43, 1, hv (iv s)), (fLaw, 44, 0, hv (.lit b)), (fLaw, 44, 5, hv (.lit b1)), (fLaw, 45, 0, hv (iv (o' (i + 1))))]
abbrev h79' (q0 q1 : Nat) (q2 : Lm) (q3 : Int) (z : Cnd) : Cnd := ((wb' (decide (o' q0 < o' q1)) j').a ((f' (q0.blt q1 = true)).a (((p' ((0 + q0 * 1).blt (vmap (List.map encZ q2.I)).length = true)).a ((p' ((vmap (List.map encZ q2.I)).getD (0 + q0 * 1) (u') = v' (vi' I' ((vmap (List.map encZ q2.I)).getD (0 + q0 * 1) (u')).intOf))).a (f' (Wk (v' (vi' I' ((vmap (List.map encZ q2.I)).getD (0 + q0 * 1) (u')).intOf)) (z' q3))))).a z)))
theorem eR' (g : Lf) (m : Lm) (c : Kc) (O : AO) (y : Nat) (n i : Nat) (s : Int) (F : HP) : B0' [] (h7 i s true true) [] default fLaw (AH' fLaw 42) (tms 0 152 (aM g m (slI 6 y) (a7 true n i))) (oM g m c O) kM (iM [20, 123, 124, 125]) F = VT.leaf (AX.normal,[pt' 2 0,pt' 3 0,AV.func (Fn.func 19) [] [pt' 3 0],b' true,AV.slice 6 0 y 1 (Cp.lo y),pt' 10 0,v' (sl' g.sa g.n g.c),i' g.n,i' g.j,AV.slice 5 0 m.R.length 25 (Cp.lo m.R.length),i' m.R.length,i' m.i,j',AV.slice 4 0 n 1 (Cp.lo n),i' n,i' (i + 1)],152) [some g.Q,some (ce' [AV.slice 4 0 m.I.length 1 (Cp.lo m.I.length)] 44),some (ce' (vmap (List.map encZ m.I)) 6),some (ce' (rowU m.R) 82),some O,some (ce' [z' c.sq,z' c.gh,z' c.bo,z' c.si,s' c.ex,s' c.ke,z' c.fl,s' c.ct,s' c.ce,AV.un,z' c.dm,z' c.pr,s' c.s1,s' c.s2,s' c.s3,s' c.s4,z' c.ts,s' c.s5,s' c.s6,s' c.s7,z' c.xp,z' c.pi,AV.un,b' c.du,b' c.re] 82),none,none,none] 1100 (h79' i n m s (k16'.a ((k7' i).a k1'))) := χ
theorem eT' (g : Lf) (m : Lm) (c : Kc) (O : AO) (y : Nat) (n i : Nat) (s : Int) (F : HP) : B0' [] (h7 i s false false) [] default fLaw (AH' fLaw 42) (tms 0 152 (aM g m (slI 6 y) (a7 false n i))) (oM g m c O) kM (iM [20, 123, 124, 125]) F = VT.leaf (AX.normal,[pt' 2 0,pt' 3 0,AV.func (Fn.func 19) [] [pt' 3 0],b' true,AV.slice 6 0 y 1 (Cp.lo y),pt' 10 0,v' (sl' g.sa g.n g.c),i' g.n,i' g.j,AV.slice 5 0 m.R.length 25 (Cp.lo m.R.length),i' m.R.length,i' m.i,g',AV.slice 4 0 n 1 (Cp.lo n),i' n,i' (i + 1)],152) [some g.Q,some (ce' [AV.slice 4 0 m.I.length 1 (Cp.lo m.I.length)] 44),some (ce' (vmap (List.map encZ m.I)) 6),some (ce' (rowU m.R) 82),some O,some (ce' [z' c.sq,z' c.gh,z' c.bo,z' c.si,s' c.ex,s' c.ke,z' c.fl,s' c.ct,s' c.ce,AV.un,z' c.dm,z' c.pr,s' c.s1,s' c.s2,s' c.s3,s' c.s4,z' c.ts,s' c.s5,s' c.s6,s' c.s7,z' c.xp,z' c.pi,AV.un,b' c.du,b' c.re] 82),none,none,none] 1100 (h79' i n m s (k17'.a ((k78' c).a ((wb' (s == c.sq) g').a ((k7' i).a k1'))))) := χ
theorem eS' (g : Lf) (m : Lm) (c : Kc) (O : AO) (y : Nat) (n i : Nat) (s : Int) (F : HP) : B0' [] (h7 i s false true) [] default fLaw (AH' fLaw 42) (tms 0 152 (aM g m (slI 6 y) (a7 false n i))) (oM g m c O) kM (iM [20, 123, 124, 125]) F = VT.leaf (AX.normal,[pt' 2 0,pt' 3 0,AV.func (Fn.func 19) [] [pt' 3 0],b' true,AV.slice 6 0 y 1 (Cp.lo y),pt' 10 0,v' (sl' g.sa g.n g.c),i' g.n,i' g.j,AV.slice 5 0 m.R.length 25 (Cp.lo m.R.length),i' m.R.length,i' m.i,j',AV.slice 4 0 n 1 (Cp.lo n),i' n,i' (i + 1)],152) [some g.Q,some (ce' [AV.slice 4 0 m.I.length 1 (Cp.lo m.I.length)] 44),some (ce' (vmap (List.map encZ m.I)) 6),some (ce' (rowU m.R) 82),some O,some (ce' [z' c.sq,z' c.gh,z' c.bo,z' c.si,s' c.ex,s' c.ke,z' c.fl,s' c.ct,s' c.ce,AV.un,z' c.dm,z' c.pr,s' c.s1,s' c.s2,s' c.s3,s' c.s4,z' c.ts,s' c.s5,s' c.s6,s' c.s7,z' c.xp,z' c.pi,AV.un,b' c.du,b' c.re] 82),none,none,none] 1100 (h79' i n m s (k17'.a ((k78' c).a ((wb' (s == c.sq) j').a ((k7' i).a k1'))))) := χ
theorem eU' (g : Lf) (m : Lm) (c : Kc) (O : AO) (y : Nat) (n : Nat) (b : Bool) (F : HP) : B0' [] (AJ' [hf' fLaw 42 0]) [] default fLaw (AH' fLaw 42) (tms 0 152 (aM g m (slI 6 y) (a7 b n n))) (oM g m c O) kM (iM [20, 123, 124, 125]) F = VT.leaf (AX.exit 7,[pt' 2 0,pt' 3 0,AV.func (Fn.func 19) [] [pt' 3 0],b' true,AV.slice 6 0 y 1 (Cp.lo y),pt' 10 0,v' (sl' g.sa g.n g.c),i' g.n,i' g.j,AV.slice 5 0 m.R.length 25 (Cp.lo m.R.length),i' m.R.length,i' m.i,b' b,AV.slice 4 0 n 1 (Cp.lo n),i' n,i' n],152) [some g.Q,some (ce' [AV.slice 4 0 m.I.length 1 (Cp.lo m.I.length)] 44),some (ce' (vmap (List.map encZ m.I)) 6),some (ce' (rowU m.R) 82),some O,some (ce' [z' c.sq,z' c.gh,z' c.bo,z' c.si,s' c.ex,s' c.ke,z' c.fl,s' c.ct,s' c.ce,AV.un,z' c.dm,z' c.pr,s' c.s1,s' c.s2,s' c.s3,s' c.s4,z' c.ts,s' c.s5,s' c.s6,s' c.s7,z' c.xp,z' c.pi,AV.un,b' c.du,b' c.re] 82),none,none,none] 1100 ((k9' n).a k1') := χ
def g17 : List AV -> AP (Nat × Nat) := fun tmps => match getL tmps 17 with
 | .ptr i _ => match getL tmps 15 with
  | .slice k _ _ _ _ => .ret (i, k)
  | _ => .ret (i, 1006)
 | _ => .fail "copy"
def nm7 (q : Nat × Nat) : Nat -> Nat := fun k => match Nat.beq k 10 with
 | true => q.1
 | false => match Nat.beq k 6 with
  | true => q.2
  | false => k
def l5 (g : Lf) (m : Lm) (c : Kc) (y : AV) (n : Nat) (O : AO) : List AV -> AP (AX × List AV) := mkL g17 (fun _ => True) nm7 (fun _ => tms 0 152 (aM g m y (a5 y n 0))) (fun _ => oM g m c O) (fun _ => .leaf (.exit 5) (tms 0 152 (aM g m y [])) (oM g m c O))
def l7 (g : Lf) (m : Lm) (c : Kc) (y n : Nat) (O : AO) : List AV -> AP (AX × List AV) := mkL g17 (fun _ => True) nm7 (fun _ => tms 0 152 (aM g m (slI 6 y) (a7 false n 0))) (fun _ => oM g m c O) (fun _ => .leaf (.exit 7) (tms 0 152 (aM g m (slI 6 y) [(20, bv true)])) (oM g m c O))
def aLr (g : Lf) (m : Lm) (y : AV) : List (Nat × AV) := [(5, .ptr 2 0), (6, .ptr 3 0), (7, clG), (10, bv true), (15, y), (31, slV g.sa g.n g.c), (32, iv (o' g.n)), (33, iv (o' g.j)), (98, slR 5 m.R.length), (99, iv (o' m.R.length)), (100, iv (o' m.i))]
def oLr (g : Lf) (m : Lm) (O : AO) : LH := [(2, g.Q), (3, bxI (slI 4 m.I.length)), (4, rZ m.I), (5, .cells (rowU m.R) tKc), (1006, O)]
def iLr : List Nat := [5, 6, 7, 10, 15, 31, 32, 33, 98, 99, 100]
def kLr : List Nat := [2, 3, 4, 5, 1006, 1100, 1101, 1102, 1103, 1104, 1105, 1106, 1107, 1108, 1109, 1110, 1111, 1112, 1113, 1114]
def hLr (i : Nat) (c : Kc) : AY' := AJ' [ht' fLaw 32 0, (fLaw, 33, 1, hv (aggU c)), ht' fLaw 46 0, ht' fLaw 46 3, (fLaw, 47, 0, hv (iv (o' (i + 1))))]
abbrev k80' (q0 : Lm) : Cnd := (f' (Wk (z' (IntKind.i64.wrap (o' q0.i + o' 1))) (i' (q0.i + 1))))
abbrev k81' (q0 q1 : Nat) (q2 : Lm) (q3 : Nat) : Cnd := (p' (OW (ce' (AV.rens (sgN (nm7 (q0,q1)) [] 0) (vmap (List.map encZ q2.I))) 6) (ce' (AV.rens (nm7 (q0,q3)) (vmap (List.map encZ q2.I))) 6)))
abbrev k82' (q0 : Lm) : Cnd := (ow' (ce' [AV.slice 4 0 q0.I.length 1 (Cp.lo q0.I.length)] 44))
abbrev k83' (q0 : Lm) (q1 q2 : Nat) : Cnd := (p' (OW (ce' (vmap (List.map encZ q0.I)) 6) (ce' (AV.rens (nm7 (q1,q2)) (vmap (List.map encZ q0.I))) 6)))
abbrev k84' (q0 : Lm) (q1 : Kc) : Cnd := ((p' ((List.take 25 (List.drop (0 + q0.i * 25) (rowU q0.R))).length.beq 25 = true)).a ((p' (List.take 25 (List.drop (0 + q0.i * 25) (rowU q0.R)) = [v' (vi' I' ((List.take 25 (List.drop (0 + q0.i * 25) (rowU q0.R))).getD 0 (u')).intOf),v' (vi' I' ((List.take 25 (List.drop (0 + q0.i * 25) (rowU q0.R))).getD 1 (u')).intOf),v' (vi' I' ((List.take 25 (List.drop (0 + q0.i * 25) (rowU q0.R))).getD 2 (u')).intOf),v' (vi' I' ((List.take 25 (List.drop (0 + q0.i * 25) (rowU q0.R))).getD 3 (u')).intOf),v' (vs' ((List.take 25 (List.drop (0 + q0.i * 25) (rowU q0.R))).getD 4 (u')).strOf),v' (vs' ((List.take 25 (List.drop (0 + q0.i * 25) (rowU q0.R))).getD 5 (u')).strOf),v' (vi' I' ((List.take 25 (List.drop (0 + q0.i * 25) (rowU q0.R))).getD 6 (u')).intOf),v' (vs' ((List.take 25 (List.drop (0 + q0.i * 25) (rowU q0.R))).getD 7 (u')).strOf),v' (vs' ((List.take 25 (List.drop (0 + q0.i * 25) (rowU q0.R))).getD 8 (u')).strOf),(List.take 25 (List.drop (0 + q0.i * 25) (rowU q0.R))).getD 9 (u'),v' (vi' I' ((List.take 25 (List.drop (0 + q0.i * 25) (rowU q0.R))).getD 10 (u')).intOf),v' (vi' I' ((List.take 25 (List.drop (0 + q0.i * 25) (rowU q0.R))).getD 11 (u')).intOf),v' (vs' ((List.take 25 (List.drop (0 + q0.i * 25) (rowU q0.R))).getD 12 (u')).strOf),v' (vs' ((List.take 25 (List.drop (0 + q0.i * 25) (rowU q0.R))).getD 13 (u')).strOf),v' (vs' ((List.take 25 (List.drop (0 + q0.i * 25) (rowU q0.R))).getD 14 (u')).strOf),v' (vs' ((List.take 25 (List.drop (0 + q0.i * 25) (rowU q0.R))).getD 15 (u')).strOf),v' (vi' I' ((List.take 25 (List.drop (0 + q0.i * 25) (rowU q0.R))).getD 16 (u')).intOf),v' (vs' ((List.take 25 (List.drop (0 + q0.i * 25) (rowU q0.R))).getD 17 (u')).strOf),v' (vs' ((List.take 25 (List.drop (0 + q0.i * 25) (rowU q0.R))).getD 18 (u')).strOf),v' (vs' ((List.take 25 (List.drop (0 + q0.i * 25) (rowU q0.R))).getD 19 (u')).strOf),v' (vi' I' ((List.take 25 (List.drop (0 + q0.i * 25) (rowU q0.R))).getD 20 (u')).intOf),v' (vi' I' ((List.take 25 (List.drop (0 + q0.i * 25) (rowU q0.R))).getD 21 (u')).intOf),(List.take 25 (List.drop (0 + q0.i * 25) (rowU q0.R))).getD 22 (u'),v' (vb' ((List.take 25 (List.drop (0 + q0.i * 25) (rowU q0.R))).getD 23 (u')).boolOf),v' (vb' ((List.take 25 (List.drop (0 + q0.i * 25) (rowU q0.R))).getD 24 (u')).boolOf)])).a (f' (Wk (AV.agg [v' (vi' I' ((List.take 25 (List.drop (0 + q0.i * 25) (rowU q0.R))).getD 0 (u')).intOf),v' (vi' I' ((List.take 25 (List.drop (0 + q0.i * 25) (rowU q0.R))).getD 1 (u')).intOf),v' (vi' I' ((List.take 25 (List.drop (0 + q0.i * 25) (rowU q0.R))).getD 2 (u')).intOf),v' (vi' I' ((List.take 25 (List.drop (0 + q0.i * 25) (rowU q0.R))).getD 3 (u')).intOf),v' (vs' ((List.take 25 (List.drop (0 + q0.i * 25) (rowU q0.R))).getD 4 (u')).strOf),v' (vs' ((List.take 25 (List.drop (0 + q0.i * 25) (rowU q0.R))).getD 5 (u')).strOf),v' (vi' I' ((List.take 25 (List.drop (0 + q0.i * 25) (rowU q0.R))).getD 6 (u')).intOf),v' (vs' ((List.take 25 (List.drop (0 + q0.i * 25) (rowU q0.R))).getD 7 (u')).strOf),v' (vs' ((List.take 25 (List.drop (0 + q0.i * 25) (rowU q0.R))).getD 8 (u')).strOf),(List.take 25 (List.drop (0 + q0.i * 25) (rowU q0.R))).getD 9 (u'),v' (vi' I' ((List.take 25 (List.drop (0 + q0.i * 25) (rowU q0.R))).getD 10 (u')).intOf),v' (vi' I' ((List.take 25 (List.drop (0 + q0.i * 25) (rowU q0.R))).getD 11 (u')).intOf),v' (vs' ((List.take 25 (List.drop (0 + q0.i * 25) (rowU q0.R))).getD 12 (u')).strOf),v' (vs' ((List.take 25 (List.drop (0 + q0.i * 25) (rowU q0.R))).getD 13 (u')).strOf),v' (vs' ((List.take 25 (List.drop (0 + q0.i * 25) (rowU q0.R))).getD 14 (u')).strOf),v' (vs' ((List.take 25 (List.drop (0 + q0.i * 25) (rowU q0.R))).getD 15 (u')).strOf),v' (vi' I' ((List.take 25 (List.drop (0 + q0.i * 25) (rowU q0.R))).getD 16 (u')).intOf),v' (vs' ((List.take 25 (List.drop (0 + q0.i * 25) (rowU q0.R))).getD 17 (u')).strOf),v' (vs' ((List.take 25 (List.drop (0 + q0.i * 25) (rowU q0.R))).getD 18 (u')).strOf),v' (vs' ((List.take 25 (List.drop (0 + q0.i * 25) (rowU q0.R))).getD 19 (u')).strOf),v' (vi' I' ((List.take 25 (List.drop (0 + q0.i * 25) (rowU q0.R))).getD 20 (u')).intOf),v' (vi' I' ((List.take 25 (List.drop (0 + q0.i * 25) (rowU q0.R))).getD 21 (u')).intOf),(List.take 25 (List.drop (0 + q0.i * 25) (rowU q0.R))).getD 22 (u'),v' (vb' ((List.take 25 (List.drop (0 + q0.i * 25) (rowU q0.R))).getD 23 (u')).boolOf),v' (vb' ((List.take 25 (List.drop (0 + q0.i * 25) (rowU q0.R))).getD 24 (u')).boolOf)]) (AV.agg [z' q1.sq,z' q1.gh,z' q1.bo,z' q1.si,s' q1.ex,s' q1.ke,z' q1.fl,s' q1.ct,s' q1.ce,AV.un,z' q1.dm,z' q1.pr,s' q1.s1,s' q1.s2,s' q1.s3,s' q1.s4,z' q1.ts,s' q1.s5,s' q1.s6,s' q1.s7,z' q1.xp,z' q1.pi,AV.un,b' q1.du,b' q1.re])))))
abbrev k85' (q0 : Lm) : Cnd := (wb' (decide (o' q0.i < o' q0.R.length)) j')
theorem eP' (g : Lf) (m : Lm) (c : Kc) (F : HP) : B0' [] (hLr m.i c) [(fLaw, 35, AH' fLaw 35, l5 g m c .mt 0 dumZ), (fLaw, 42, AH' fLaw 42, l7 g m c 1 m.I.length (rZ [c.sq]))] default fLaw (AH' fLaw 32) (tms 0 152 (aLr g m .mt)) (oLr g m dumZ) kLr iLr F = VT.leaf (AX.normal,[pt' 2 0,pt' 3 0,AV.func (Fn.func 19) [] [pt' 3 0],j',AV.slice 1102 0 1 1 (Cp.lo 1),v' (sl' g.sa g.n g.c),i' g.n,i' g.j,AV.slice 5 0 m.R.length 25 (Cp.lo m.R.length),i' m.R.length,i' (m.i + 1)],152) [some (AO.ren (sgN (nm7 (1100,1102)) [] 0) g.Q),some (ce' [AV.slice 4 0 m.I.length 1 (Cp.lo m.I.length)] 44),some (ce' (AV.rens (sgN (nm7 (1100,1102)) [] 0) (vmap (List.map encZ m.I))) 6),some (ce' (AV.rens (sgN (nm7 (1100,1102)) [] 0) (rowU m.R)) 82),some (AO.any (frz fun x => True)),some (ce' [z' c.sq,z' c.gh,z' c.bo,z' c.si,s' c.ex,s' c.ke,z' c.fl,s' c.ct,s' c.ce,AV.un,z' c.dm,z' c.pr,s' c.s1,s' c.s2,s' c.s3,s' c.s4,z' c.ts,s' c.s5,s' c.s6,s' c.s7,z' c.xp,z' c.pi,AV.un,b' c.du,b' c.re] 82),some (ce' [z' c.sq] 6),some (ce' [z' c.sq] 6),none,none,none,none,none,none,none,none,none,none,none,none] 1103 ((k85' m).a ((f' (m.i.blt m.R.length = true)).a ((k84' m c).a (k6'.a ((p' ((fLaw,35,AH' fLaw 35,l5 g m c AV.mt 0 dumZ).snd.snd.fst = (fLaw,35,AH' fLaw 35,l5 g m c AV.mt 0 dumZ).snd.snd.fst)).a (k11'.a ((p' (VW (ra4 (a'::pt' 2 0::pt' 3 0::AV.func (Fn.func 19) [] [pt' 3 0]::a'::a'::b' true::ra4 (AV.mt::a'::pt' 1100 0::ra8 (ra4 (a'::v' (sl' g.sa g.n g.c)::i' g.n::i' g.j::ra16 (ra16 (ra16 (ra16 (AV.slice 5 0 m.R.length 25 (Cp.lo m.R.length)::i' m.R.length::i' m.i::j'::pt' 5 (0 + m.i * 25)::AV.agg [z' c.sq,z' c.gh,z' c.bo,z' c.si,s' c.ex,s' c.ke,z' c.fl,s' c.ct,s' c.ce,AV.un,z' c.dm,z' c.pr,s' c.s1,s' c.s2,s' c.s3,s' c.s4,z' c.ts,s' c.s5,s' c.s6,s' c.s7,z' c.xp,z' c.pi,AV.un,b' c.du,b' c.re]::AV.mt::i' 0::i' 0::ra16 (ra16 (ra8 (ra4 (a'::[]))))))))))))) (ra4 (a'::pt' 2 0::pt' 3 0::AV.func (Fn.func 19) [] [pt' 3 0]::a'::a'::b' true::ra4 (AV.mt::a'::pt' 1100 0::ra8 (ra4 (a'::v' (sl' g.sa g.n g.c)::i' g.n::i' g.j::ra16 (ra16 (ra16 (ra16 (AV.slice 5 0 m.R.length 25 (Cp.lo m.R.length)::i' m.R.length::i' m.i::a'::a'::a'::AV.mt::i' 0::i' 0::ra16 (ra16 (ra8 (ra4 (a'::[]))))))))))))))).a ((p' (OW g.Q (AO.ren (nm7 (1100,1006)) g.Q))).a ((k82' m).a ((k83' m 1100 1006).a ((p' (OW (ce' (rowU m.R) 82) (ce' (AV.rens (nm7 (1100,1006)) (rowU m.R)) 82))).a ((ow' (AO.any (frz fun x => True))).a ((k74' c).a ((k78' c).a (k28'.a (k6'.a ((p' ((fLaw,42,AH' fLaw 42,l7 g m c 1 m.I.length (rZ [c.sq])).snd.snd.fst = (fLaw,42,AH' fLaw 42,l7 g m c 1 m.I.length (rZ [c.sq])).snd.snd.fst)).a (k11'.a ((p' (VW (ra4 (a'::pt' 2 0::pt' 3 0::AV.func (Fn.func 19) [] [pt' 3 0]::a'::a'::b' true::ra4 (AV.slice 1102 0 1 1 (Cp.lo 1)::a'::pt' 1100 0::a'::a'::b' false::ra8 (a'::a'::v' (sl' g.sa g.n g.c)::i' g.n::i' g.j::ra16 (ra16 (ra16 (ra16 (AV.slice 5 0 m.R.length 25 (Cp.lo m.R.length)::i' m.R.length::i' m.i::ra16 (a'::AV.mt::pt' 1100 0::z' c.sq::AV.slice 1101 0 1 1 (Cp.ex 1)::AV.slice 1102 0 1 1 (Cp.lo 1)::AV.slice 4 0 m.I.length 1 (Cp.lo m.I.length)::z' ↑m.I.length::i' 0::ra16 (ra8 (a'::a'::[]))))))))))) (ra4 (a'::pt' 2 0::pt' 3 0::AV.func (Fn.func 19) [] [pt' 3 0]::a'::a'::b' true::ra4 (AV.slice 1102 0 1 1 (Cp.lo 1)::a'::pt' 1100 0::a'::a'::b' false::ra8 (a'::a'::v' (sl' g.sa g.n g.c)::i' g.n::i' g.j::ra16 (ra16 (ra16 (ra16 (AV.slice 5 0 m.R.length 25 (Cp.lo m.R.length)::i' m.R.length::i' m.i::ra16 (ra4 (a'::a'::AV.slice 4 0 m.I.length 1 (Cp.lo m.I.length)::i' m.I.length::i' 0::ra16 (ra8 (a'::a'::[])))))))))))))).a ((p' (OW (AO.ren (sgN (nm7 (1100,1006)) [] 0) g.Q) (AO.ren (nm7 (1100,1102)) g.Q))).a ((k82' m).a ((k81' 1100 1006 m 1102).a ((p' (OW (ce' (AV.rens (sgN (nm7 (1100,1006)) [] 0) (rowU m.R)) 82) (ce' (AV.rens (nm7 (1100,1102)) (rowU m.R)) 82))).a ((ow' (ce' [z' c.sq] 6)).a ((k74' c).a (k16'.a (k16'.a ((k80' m).a k1')))))))))))))))))))))))))))) := χ
theorem eO' (g : Lf) (m : Lm) (c : Kc) (M M' : List Int) (n : Nat) (F : HP) : B0' [] (hLr m.i c) [(fLaw, 35, AH' fLaw 35, l5 g m c (slI 6 n) n (rZ M)), (fLaw, 42, AH' fLaw 42, l7 g m c (n + 1) m.I.length (rZ M'))] default fLaw (AH' fLaw 32) (tms 0 152 (aLr g m (slI 1006 n))) (oLr g m (rZ M)) kLr iLr F = VT.leaf (AX.normal,[pt' 2 0,pt' 3 0,AV.func (Fn.func 19) [] [pt' 3 0],j',AV.slice 1102 0 (n + 1) 1 (Cp.lo (n + 1)),v' (sl' g.sa g.n g.c),i' g.n,i' g.j,AV.slice 5 0 m.R.length 25 (Cp.lo m.R.length),i' m.R.length,i' (m.i + 1)],152) [some (AO.ren (sgN (nm7 (1100,1102)) [] 0) g.Q),some (ce' [AV.slice 4 0 m.I.length 1 (Cp.lo m.I.length)] 44),some (ce' (AV.rens (sgN (nm7 (1100,1102)) [] 0) (vmap (List.map encZ m.I))) 6),some (ce' (AV.rens (sgN (nm7 (1100,1102)) [] 0) (rowU m.R)) 82),none,some (ce' [z' c.sq,z' c.gh,z' c.bo,z' c.si,s' c.ex,s' c.ke,z' c.fl,s' c.ct,s' c.ce,AV.un,z' c.dm,z' c.pr,s' c.s1,s' c.s2,s' c.s3,s' c.s4,z' c.ts,s' c.s5,s' c.s6,s' c.s7,z' c.xp,z' c.pi,AV.un,b' c.du,b' c.re] 82),some (ce' [z' c.sq] 6),some (ce' (AV.rens (sgN (nm7 (1100,1102)) [] 0) (vmap (List.map encZ M'))) 6),none,none,none,none,none,none,none,none,none,none,none,none] 1103 ((k85' m).a ((f' (m.i.blt m.R.length = true)).a ((k84' m c).a (k6'.a ((p' ((fLaw,35,AH' fLaw 35,l5 g m c (slI 6 n) n (rZ M)).snd.snd.fst = (fLaw,35,AH' fLaw 35,l5 g m c (slI 6 n) n (rZ M)).snd.snd.fst)).a (k11'.a ((p' (VW (ra4 (a'::pt' 2 0::pt' 3 0::AV.func (Fn.func 19) [] [pt' 3 0]::a'::a'::b' true::ra4 (AV.slice 1006 0 n 1 (Cp.lo n)::a'::pt' 1100 0::ra8 (ra4 (a'::v' (sl' g.sa g.n g.c)::i' g.n::i' g.j::ra16 (ra16 (ra16 (ra16 (AV.slice 5 0 m.R.length 25 (Cp.lo m.R.length)::i' m.R.length::i' m.i::j'::pt' 5 (0 + m.i * 25)::AV.agg [z' c.sq,z' c.gh,z' c.bo,z' c.si,s' c.ex,s' c.ke,z' c.fl,s' c.ct,s' c.ce,AV.un,z' c.dm,z' c.pr,s' c.s1,s' c.s2,s' c.s3,s' c.s4,z' c.ts,s' c.s5,s' c.s6,s' c.s7,z' c.xp,z' c.pi,AV.un,b' c.du,b' c.re]::AV.slice 1006 0 n 1 (Cp.lo n)::z' ↑n::i' 0::ra16 (ra16 (ra8 (ra4 (a'::[]))))))))))))) (ra4 (a'::pt' 2 0::pt' 3 0::AV.func (Fn.func 19) [] [pt' 3 0]::a'::a'::b' true::ra4 (AV.slice 1006 0 n 1 (Cp.lo n)::a'::pt' 1100 0::ra8 (ra4 (a'::v' (sl' g.sa g.n g.c)::i' g.n::i' g.j::ra16 (ra16 (ra16 (ra16 (AV.slice 5 0 m.R.length 25 (Cp.lo m.R.length)::i' m.R.length::i' m.i::a'::a'::a'::AV.slice 1006 0 n 1 (Cp.lo n)::i' n::i' 0::ra16 (ra16 (ra8 (ra4 (a'::[]))))))))))))))).a ((p' (OW g.Q (AO.ren (nm7 (1100,1006)) g.Q))).a ((k82' m).a ((k83' m 1100 1006).a ((p' (OW (ce' (rowU m.R) 82) (ce' (AV.rens (nm7 (1100,1006)) (rowU m.R)) 82))).a ((p' (OW (ce' (vmap (List.map encZ M)) 6) (ce' (AV.rens (nm7 (1100,1006)) (vmap (List.map encZ M))) 6))).a ((k74' c).a ((k78' c).a ((tt'.a (tt'.a (tt'.a (tt'.a ((p' ((0 + n * 1).ble (AV.rens (sgN (nm7 (1100,1006)) [] 0) (vmap (List.map encZ M))).length = true)).a ((p' (((n + 1) * 8).ble 140737488355328 = true)).a ((p' ((n + 1).ble 9223372036854775807 = true)).a (f' ((List.take (n * 1) (List.drop 0 (AV.rens (sgN (nm7 (1100,1006)) [] 0) (vmap (List.map encZ M))))).length.beq (n * 1) = true))))))))).a (k6'.a ((p' ((fLaw,42,AH' fLaw 42,l7 g m c (n + 1) m.I.length (rZ M')).snd.snd.fst = (fLaw,42,AH' fLaw 42,l7 g m c (n + 1) m.I.length (rZ M')).snd.snd.fst)).a (k11'.a ((p' (VW (ra4 (a'::pt' 2 0::pt' 3 0::AV.func (Fn.func 19) [] [pt' 3 0]::a'::a'::b' true::ra4 (AV.slice 1102 0 (n + 1) 1 (Cp.lo (n + 1))::a'::pt' 1100 0::a'::a'::b' false::ra8 (a'::a'::v' (sl' g.sa g.n g.c)::i' g.n::i' g.j::ra16 (ra16 (ra16 (ra16 (AV.slice 5 0 m.R.length 25 (Cp.lo m.R.length)::i' m.R.length::i' m.i::ra16 (a'::AV.slice 1006 0 n 1 (Cp.lo n)::pt' 1100 0::z' c.sq::AV.slice 1101 0 1 1 (Cp.ex 1)::AV.slice 1102 0 (n + 1) 1 (Cp.lo (n + 1))::AV.slice 4 0 m.I.length 1 (Cp.lo m.I.length)::z' ↑m.I.length::i' 0::ra16 (ra8 (a'::a'::[]))))))))))) (ra4 (a'::pt' 2 0::pt' 3 0::AV.func (Fn.func 19) [] [pt' 3 0]::a'::a'::b' true::ra4 (AV.slice 1102 0 (n + 1) 1 (Cp.lo (n + 1))::a'::pt' 1100 0::a'::a'::b' false::ra8 (a'::a'::v' (sl' g.sa g.n g.c)::i' g.n::i' g.j::ra16 (ra16 (ra16 (ra16 (AV.slice 5 0 m.R.length 25 (Cp.lo m.R.length)::i' m.R.length::i' m.i::ra16 (ra4 (a'::a'::AV.slice 4 0 m.I.length 1 (Cp.lo m.I.length)::i' m.I.length::i' 0::ra16 (ra8 (a'::a'::[])))))))))))))).a ((p' (OW (AO.ren (sgN (nm7 (1100,1006)) [] 0) g.Q) (AO.ren (nm7 (1100,1102)) g.Q))).a ((k82' m).a ((k81' 1100 1006 m 1102).a ((p' (OW (ce' (AV.rens (sgN (nm7 (1100,1006)) [] 0) (rowU m.R)) 82) (ce' (AV.rens (nm7 (1100,1102)) (rowU m.R)) 82))).a ((p' (OW (ce' (List.take (n * 1) (List.drop 0 (AV.rens (sgN (nm7 (1100,1006)) [] 0) (vmap (List.map encZ M)))) ++ [z' c.sq]) 6) (ce' (AV.rens (nm7 (1100,1102)) (vmap (List.map encZ M'))) 6))).a ((k74' c).a (k16'.a (k16'.a ((k80' m).a k1')))))))))))))))))))))))))))) := χ
abbrev k86' (q0 : List Kc) : Cnd := (wb' (decide (o' q0.length < o' q0.length)) g')
theorem ZC' (g : Lf) (I : List Int) (R : List Kc) (O : AO) (F : HP) : B0' [] (AJ' [hf' fLaw 32 0]) [] default fLaw (AH' fLaw 32) (tms 0 152 (aLr g ⟨I, R, R.length⟩ .mt)) (oLr g ⟨I, R, R.length⟩ O) kLr iLr F = VT.leaf (AX.exit 3,[pt' 2 0,pt' 3 0,AV.func (Fn.func 19) [] [pt' 3 0],b' true,AV.mt,v' (sl' g.sa g.n g.c),i' g.n,i' g.j,AV.slice 5 0 R.length 25 (Cp.lo R.length),i' R.length,i' R.length],152) [some g.Q,some (ce' [AV.slice 4 0 I.length 1 (Cp.lo I.length)] 44),some (ce' (vmap (List.map encZ I)) 6),some (ce' (rowU R) 82),some O,none,none,none,none,none,none,none,none,none,none,none,none,none,none,none] 1100 ((k86' R).a k1') := χ
theorem ZB' (g : Lf) (I : List Int) (R : List Kc) (n : Nat) (O : AO) (F : HP) : B0' [] (AJ' [hf' fLaw 32 0]) [] default fLaw (AH' fLaw 32) (tms 0 152 (aLr g ⟨I, R, R.length⟩ (slI 1006 n))) (oLr g ⟨I, R, R.length⟩ O) kLr iLr F = VT.leaf (AX.exit 3,[pt' 2 0,pt' 3 0,AV.func (Fn.func 19) [] [pt' 3 0],b' true,AV.slice 1006 0 n 1 (Cp.lo n),v' (sl' g.sa g.n g.c),i' g.n,i' g.j,AV.slice 5 0 R.length 25 (Cp.lo R.length),i' R.length,i' R.length],152) [some g.Q,some (ce' [AV.slice 4 0 I.length 1 (Cp.lo I.length)] 44),some (ce' (vmap (List.map encZ I)) 6),some (ce' (rowU R) 82),some O,none,none,none,none,none,none,none,none,none,none,none,none,none,none,none] 1100 ((k86' R).a k1') := χ
end
def Self (Q : AO) : Prop := (∀ σ, AO.ren σ Q = Q) /\ ∀ K, Q.cl K
theorem gV' (g : Lf) (m : Lm) (c : Kc) (M : List Int) (hQ : Self g.Q) (hb : M.length * 8 <= 140737488355328) (hM : c.sq ∉ M) :
  LTri Θ default (AH' fLaw 35) (tms 0 152 (aM g m (xI 6 M) (a5 (xI 6 M) M.length 0))) (oM g m c (iO M)) (.exit 5) (tms 0 152 (aM g m (xI 6 M) [])) (oM g m c (iO M)) := by
 have hQ1 : ∀ σ, AO.ren σ g.Q = g.Q := hQ.1; refine CT' (W := default) (g := fLaw) (b := AH' fLaw 35) (σ := {i : Nat // i <= M.length}) 152 (fun z => aM g m (xI 6 M) (a5 (xI 6 M) M.length z.1)) (fun z => oM g m c (iO M)) (.exit 5) (aM g m (xI 6 M) []) (oM g m c (iO M)) (fun z => M.length - z.1) kM (iM [104, 105, 106]) (by intro h; cases h) (fun _ => rfl) ?_ ⟨0, Nat.zero_le _⟩; rintro ⟨i, hi⟩; simp only at hi ⊢
 by_cases h1 : i < M.length
 ·obtain ⟨s, hx⟩ := DD' h1
  have hMe : M ≠ [] := fun e => by rw [e] at h1; exact absurd h1 (Nat.not_lt_zero _)
  obtain ⟨x1, x2⟩ := I6' (k := 6) hMe; rw [x1, x2]; have hw := BZ' i ω; have e1 : decide (o' i < o' M.length) = true := ltT h1; have hcs := NM' hx
  have b1 : (s != c.sq) = true := by
   have : s ≠ c.sq := fun e => hM (e ▸ List.mem_of_getElem? hx)
   simp [this]
  refine ⟨[], AJ' [ht' fLaw 35 0, (fLaw, 36, 1, hv (iv s)), ht' fLaw 37 0, ht' fLaw 37 5, (fLaw, 38, 0, hv (iv (o' (i + 1))))], [], fun _ _ => noC, fun _ _ => noL, fun F => ?_⟩
  refine Yj (eV' g m c M M.length i s F) ⟨⟨?_, rfl, .inl ⟨rfl, aM g m (slI 6 M.length) (a5 (slI 6 M.length) M.length (i + 1)), oM g m c (rZ M), [], rfl, ⟨χ, by kernel_rfl, ⟨Ya, Ya, Ya, CF' rfl, Ya, Ya, Ya, Ya, Ya, Ya, Ya, Ya, Ya, Ya, Ya, Ye⟩, ⟨_, rfl, OW.of_eq (hQ.1 _).symm⟩, ⟨_, rfl, Yc⟩, ⟨_, rfl, OW.of_eq (BK' _ m.I).symm⟩, ⟨_, rfl, OW.of_eq (DJ' _ m.R).symm⟩, ⟨_, rfl, OW.of_eq (BK' _ M).symm⟩, ⟨_, rfl, Yc⟩, Ye⟩, fun W0 F N ys w hs => ?_⟩⟩⟩
  ·exact Cq14'
  ·exact ⟨⟨i + 1, h1⟩, BE' h1, hs⟩
 ·have hje : i = M.length := ω
  subst hje
  refine ⟨[], AJ' [hf' fLaw 35 0], [], fun _ _ => noC, fun _ _ => noL, fun F => ?_⟩
  refine Yj (eW' g m c (iO M) (xI 6 M) M.length F) ⟨⟨?_, rfl, .inr ⟨rfl, aM g m (xI 6 M) [], oM g m c (iO M), [], rfl, ⟨χ, by kernel_rfl, ⟨Ya, Ya, Ya, Ya, (by rw [EU']; exact Ya), Ya, Ya, Ya, Ya, Ya, Ya, Ya, Ye⟩, ⟨_, rfl, OW.of_eq (hQ.1 _).symm⟩, ⟨_, rfl, Yc⟩, ⟨_, rfl, OW.of_eq (BK' _ m.I).symm⟩, ⟨_, rfl, OW.of_eq (DJ' _ m.R).symm⟩, ⟨_, rfl, OW.of_eq (AU' _ M).symm⟩, ⟨_, rfl, Yc⟩, Ye⟩, fun W0 F N ys w hs => hs⟩⟩⟩
  simp only [ch', and_true]; exact A5' ltF
theorem gU' (g : Lf) (m : Lm) (c : Kc) (M : List Int) (hMe : M ≠ []) (hQ : Self g.Q) (hb : m.I.length * 8 <= 140737488355328) (hI : c.sq ∈ m.I) :
  LTri Θ default (AH' fLaw 42) (tms 0 152 (aM g m (slI 6 M.length) (a7 false m.I.length 0))) (oM g m c (rZ M)) (.exit 7) (tms 0 152 (aM g m (slI 6 M.length) [(20, bv true)])) (oM g m c (rZ M)) := by
 have hQ1 : ∀ σ, AO.ren σ g.Q = g.Q := hQ.1
 have hany : (m.I.take m.I.length).any (fun s => decide (s = c.sq)) = true := by
  rw [List.take_length, List.any_eq_true]
  exact ⟨c.sq, hI, by simp⟩
 refine CT' (W := default) (g := fLaw) (b := AH' fLaw 42) (σ := {i : Nat // i <= m.I.length}) 152 (fun z => aM g m (slI 6 M.length) (a7 ((m.I.take z.1).any fun s => decide (s = c.sq)) m.I.length z.1)) (fun z => oM g m c (rZ M)) (.exit 7) (aM g m (slI 6 M.length) [(20, bv true)]) (oM g m c (rZ M)) (fun z => m.I.length - z.1) kM (iM [20, 123, 124, 125]) (by intro h; cases h) (fun _ => rfl) ?_ ⟨0, Nat.zero_le _⟩
 rintro ⟨i, hi⟩; simp only at hi ⊢
 by_cases h1 : i < m.I.length
 ·obtain ⟨s, hx⟩ := DD' h1; have hw := BZ' i ω; have e1 : decide (o' i < o' m.I.length) = true := ltT h1; have hcs := NM' hx
  have hnx : (m.I.take (i + 1)).any (fun s => decide (s = c.sq)) = ((m.I.take i).any (fun s => decide (s = c.sq)) || decide (s = c.sq)) := by rw [DP' hx, List.any_append, List.any_cons, List.any_nil, Bool.or_false]
  cases hb0 : (m.I.take i).any (fun s => decide (s = c.sq)) with
  | true =>
   rw [hb0, Bool.true_or] at hnx
   refine ⟨[], h7 i s true true, [], fun _ _ => noC, fun _ _ => noL, fun F => ?_⟩
   refine Yj (eR' g m c (rZ M) M.length m.I.length i s F) ⟨⟨?_, rfl, .inl ⟨rfl, aM g m (slI 6 M.length) (a7 true m.I.length (i + 1)), oM g m c (rZ M), [], rfl, ⟨χ, by kernel_rfl, ⟨Ya, Ya, Ya, Ya, Ya, Ya, Ya, Ya, Ya, Ya, Ya, Ya, CF' rfl, Ya, Ya, Ya, Ye⟩, ⟨_, rfl, OW.of_eq (hQ.1 _).symm⟩, ⟨_, rfl, Yc⟩, ⟨_, rfl, OW.of_eq (BK' _ m.I).symm⟩, ⟨_, rfl, OW.of_eq (DJ' _ m.R).symm⟩, ⟨_, rfl, OW.of_eq (BK' _ M).symm⟩, ⟨_, rfl, Yc⟩, Ye⟩, fun W0 F N ys w hs => ?_⟩⟩⟩
   ·simp only [ch', Nat.blt_eq, true_and, and_true, e1, h1, hcs, C5']; and_intros; all_goals first | (with_reducible exact Ye) | (with_reducible exact rfl) | (with_reducible exact Ya) | (with_reducible exact Yb) | (with_reducible exact Yc) | (with_reducible exact AM' _) | (with_reducible assumption) | (with_reducible exact AW' hw) | exact A5' e1 | (rw [Nat.zero_add, Nat.mul_one]; exact h1) | (rw [Nat.ble_eq]; omega) | exact Kq4'
   ·refine ⟨⟨i + 1, h1⟩, BE' h1, ?_⟩; simp only; rw [hnx]; exact hs
  | false =>
   rw [hb0, Bool.false_or] at hnx
   by_cases hk : s = c.sq
   ·have b1 : (s == c.sq) = true := by simp [hk]
    have hnx' : (m.I.take (i + 1)).any (fun s => decide (s = c.sq)) = true := by rw [hnx]; exact decide_eq_true hk
    refine ⟨[], h7 i s false true, [], fun _ _ => noC, fun _ _ => noL, fun F => ?_⟩
    refine Yj (eS' g m c (rZ M) M.length m.I.length i s F) ⟨⟨?_, rfl, .inl ⟨rfl, aM g m (slI 6 M.length) (a7 true m.I.length (i + 1)), oM g m c (rZ M), [], rfl, ⟨χ, by kernel_rfl, ⟨Ya, Ya, Ya, Ya, Ya, Ya, Ya, Ya, Ya, Ya, Ya, Ya, CF' rfl, Ya, Ya, Ya, Ye⟩, ⟨_, rfl, OW.of_eq (hQ.1 _).symm⟩, ⟨_, rfl, Yc⟩, ⟨_, rfl, OW.of_eq (BK' _ m.I).symm⟩, ⟨_, rfl, OW.of_eq (DJ' _ m.R).symm⟩, ⟨_, rfl, OW.of_eq (BK' _ M).symm⟩, ⟨_, rfl, Yc⟩, Ye⟩, fun W0 F N ys w hs => ?_⟩⟩⟩
    ·exact Cq14'
    ·refine ⟨⟨i + 1, h1⟩, BE' h1, ?_⟩; simp only; rw [hnx']; exact hs
   ·have b1 : (s == c.sq) = false := by simp [hk]
    have hnx' : (m.I.take (i + 1)).any (fun s => decide (s = c.sq)) = false := by rw [hnx]; exact decide_eq_false hk
    refine ⟨[], h7 i s false false, [], fun _ _ => noC, fun _ _ => noL, fun F => ?_⟩
    refine Yj (eT' g m c (rZ M) M.length m.I.length i s F) ⟨⟨?_, rfl, .inl ⟨rfl, aM g m (slI 6 M.length) (a7 false m.I.length (i + 1)), oM g m c (rZ M), [], rfl, ⟨χ, by kernel_rfl, ⟨Ya, Ya, Ya, Ya, Ya, Ya, Ya, Ya, Ya, Ya, Ya, Ya, CF' rfl, Ya, Ya, Ya, Ye⟩, ⟨_, rfl, OW.of_eq (hQ.1 _).symm⟩, ⟨_, rfl, Yc⟩, ⟨_, rfl, OW.of_eq (BK' _ m.I).symm⟩, ⟨_, rfl, OW.of_eq (DJ' _ m.R).symm⟩, ⟨_, rfl, OW.of_eq (BK' _ M).symm⟩, ⟨_, rfl, Yc⟩, Ye⟩, fun W0 F N ys w hs => ?_⟩⟩⟩
    ·exact Cq14'
    ·refine ⟨⟨i + 1, h1⟩, BE' h1, ?_⟩; simp only; rw [hnx']; exact hs
 ·have hje : i = m.I.length := ω
  subst hje; rw [hany]
  refine ⟨[], AJ' [hf' fLaw 42 0], [], fun _ _ => noC, fun _ _ => noL, fun F => ?_⟩
  refine Yj (eU' g m c (rZ M) M.length m.I.length true F) ⟨⟨?_, rfl, .inr ⟨rfl, aM g m (slI 6 M.length) [(20, bv true)], oM g m c (rZ M), [], rfl, ⟨χ, by kernel_rfl, ⟨Ya, Ya, Ya, Ya, Ya, Ya, Ya, Ya, Ya, Ya, Ya, Ya, Ya, Ye⟩, ⟨_, rfl, OW.of_eq (hQ.1 _).symm⟩, ⟨_, rfl, Yc⟩, ⟨_, rfl, OW.of_eq (BK' _ m.I).symm⟩, ⟨_, rfl, OW.of_eq (DJ' _ m.R).symm⟩, ⟨_, rfl, OW.of_eq (BK' _ M).symm⟩, ⟨_, rfl, Yc⟩, Ye⟩, fun W0 F N ys w hs => hs⟩⟩⟩
  simp only [ch', and_true]; exact A5' ltF
theorem two_l {F : HP} {f f' : FuncId} {r r' : Nat} {b b' : Code} {g g' : List AV -> AP (AX × List AV)} (h : L1OK Θ F b g) (h' : L1OK Θ F b' g') : ∀ x ∈ ([(f, r, b, g), (f', r', b', g')] : LcL), L1OK Θ F x.2.2.1 x.2.2.2 := fun x hx => by
 rcases List.mem_cons.1 hx with rfl | hx
 ·exact h
 ·rw [List.mem_singleton.1 hx]; exact h'
theorem WX' : ∀ args, RO (g17 args) := by
 intro args; unfold g17
 repeat' split
 all_goals exact Kq19'
theorem UQ' {K : Nat -> Bool} (h : K 2 = true /\ K 3 = true /\ K 5 = true /\ K 10 = true) (g : Lf) (m : Lm) {y : AV} {l : List (Nat × AV)} (hy : AV.cl K y) (hl : ∀ x ∈ l, AV.cl K x.2) : ∀ x ∈ aM g m y l, AV.cl K x.2 :=
 A0' h.1 (A0' h.2.1 (A0' ⟨Ye, h.2.1, Ye⟩ (A0' Ye (A0' hy (A0' h.2.2.2 (A0' Ye (A0' Ye (A0' Ye (A0' h.2.2.1 (A0' Ye (A0' Ye hl)))))))))))
theorem TT' {K : Nat -> Bool} (h : K 4 = true) (g : Lf) (m : Lm) (c : Kc) {O : AO} (hQ : Self g.Q) (hO : O.cl K) : ∀ x ∈ oM g m c O, x.2.cl K :=
 A0' (hQ.2 K) (A0' (E2' h) (A0' (I7' K m.I) (A0' (CZ' K m.R) (A0' hO (A0' (QB' K c) A4')))))
theorem gT' (g : Lf) (I : List Int) (R : List Kc) (hQ : Self g.Q) (hb : I.length * 8 <= 140737488355328) (hRb : R.length * 320 <= 140737488355328) (hI : ∀ c ∈ R, c.sq ∈ I) (hnd : (R.map (·.sq)).Nodup) :
  LTri Θ default (AH' fLaw 32) (tms 0 152 (aLr g ⟨I, R, 0⟩ .mt)) [(2, g.Q), (3, bxI (slI 4 I.length)), (4, rZ I), (5, .cells (rowU R) tKc)] (.exit 3) (tms 0 152 [(5, .ptr 2 0), (6, .ptr 3 0), (7, clG), (10, bv true), (15, xI 1006 (R.map (·.sq))), (31, slV g.sa g.n g.c), (32, iv (o' g.n)), (33, iv (o' g.j))]) [(2, g.Q), (3, bxI (slI 4 I.length)), (4, rZ I), (1006, iO (R.map (·.sq)))] := by
 have hQ1 : ∀ σ, AO.ren σ g.Q = g.Q := hQ.1; refine LTri.pre (BR' (k := 1006) (H' := oLr g ⟨I, R, 0⟩ dumZ) (fun C => trivial) rfl rfl rfl δ rfl (fun n hn => ?_)) ?_
 ·simp only [oLr, getO]
  by_cases e0 : n = 2
  ·simp only [if_pos e0]
  ·by_cases e1 : n = 3
   ·simp only [if_neg e0, if_pos e1]
   ·by_cases e2 : n = 4
    ·simp only [if_neg e0, if_neg e1, if_pos e2]
    ·by_cases e3 : n = 5
     ·simp only [if_neg e0, if_neg e1, if_neg e2, if_pos e3]
     ·simp only [if_neg e0, if_neg e1, if_neg e2, if_neg e3, if_neg hn]
 refine CT' (W := default) (g := fLaw) (b := AH' fLaw 32) (σ := {i : Nat // i <= R.length}) 152 (fun z => aLr g ⟨I, R, z.1⟩ (xI 1006 ((R.take z.1).map (·.sq)))) (fun z => oLr g ⟨I, R, z.1⟩ (iO ((R.take z.1).map (·.sq)))) (.exit 3) [(5, .ptr 2 0), (6, .ptr 3 0), (7, clG), (10, bv true), (15, xI 1006 (R.map (·.sq))), (31, slV g.sa g.n g.c), (32, iv (o' g.n)), (33, iv (o' g.j))] [(2, g.Q), (3, bxI (slI 4 I.length)), (4, rZ I), (1006, iO (R.map (·.sq)))] (fun z => R.length - z.1) kLr iLr (by intro h; cases h) (fun _ => rfl) ?_ ⟨0, Nat.zero_le _⟩
 rintro ⟨i, hi⟩; simp only at hi ⊢
 by_cases h1 : i < R.length
 ·obtain ⟨c, hc⟩ := DD' h1; have hcI := hI c (List.mem_of_getElem? hc); have hw := BZ' i ω; have e1 : decide (o' i < o' R.length) = true := ltT h1; have hcs := bC' hc
  have hnx : (R.take (i + 1)).map (·.sq) = (R.take i).map (·.sq) ++ [c.sq] := by rw [DP' hc, List.map_append]; rfl
  have hnot : c.sq ∉ (R.take i).map (·.sq) := by
   have h2 := hnd; rw [<- List.take_append_drop i R, List.map_append, List.nodup_append] at h2; intro h3
   have h4 : c.sq ∈ (R.drop i).map (·.sq) := by
    rw [List.drop_eq_getElem_cons h1, List.map_cons]; have := (List.getElem?_eq_some_iff.1 hc).2; rw [this]; exact List.mem_cons_self
   exact h2.2.2 _ h3 _ h4 rfl
  have hMl : ((R.take i).map (·.sq)).length = i := by rw [List.length_map, List.length_take]; omega
  obtain ⟨M, hM⟩ : ∃ M, (R.take i).map (·.sq) = M := ⟨_, rfl⟩; rw [hM] at hnx hnot hMl ⊢
  have hMb : M.length * 8 <= 140737488355328 := ω
  have h5 := gV' g ⟨I, R, i⟩ c M hQ hMb hnot; have h7 := gU' g ⟨I, R, i⟩ c (M ++ [c.sq]) (by simp) hQ hb hcI; rw [List.length_append] at h7
  have hl7 : ∀ n O, n = M.length + 1 -> O = rZ (M ++ [c.sq]) -> ∀ F, L1OK Θ F (AH' fLaw 42) (l7 g ⟨I, R, i⟩ c n I.length O) := fun n O hn hO F => by
   subst hn hO
   exact EV' B6' WX' (fun _ _ => h7) fun _ => by
    simp only [RT.pick]; exact DF' rfl rfl (UQ' ⟨rfl, rfl, rfl, rfl⟩ _ _ rfl (A0' Ye (A0' rfl (A0' Ye (A0' Ye A4'))))) (TT' rfl _ _ _ hQ (I7' _ _)) (UQ' ⟨rfl, rfl, rfl, rfl⟩ _ _ rfl (A0' Ye A4')) (TT' rfl _ _ _ hQ (I7' _ _))
  by_cases hMe : M = []
  ·subst hMe; have hi0 : i = 0 := hMl.symm; subst hi0
   have hl5 : ∀ F, L1OK Θ F (AH' fLaw 35) (l5 g ⟨I, R, 0⟩ c .mt 0 dumZ) := fun F =>
    EV' B6' WX' (fun _ _ => h5) fun _ => by
     simp only [RT.pick]; exact DF' rfl rfl (UQ' ⟨rfl, rfl, rfl, rfl⟩ _ _ trivial (A0' Ye (A0' Ye (A0' Ye A4')))) (TT' rfl _ _ _ hQ trivial) (UQ' ⟨rfl, rfl, rfl, rfl⟩ _ _ trivial A4') (TT' rfl _ _ _ hQ trivial)
   refine ⟨[], hLr 0 c, [(fLaw, 35, AH' fLaw 35, l5 g ⟨I, R, 0⟩ c .mt 0 dumZ), (fLaw, 42, AH' fLaw 42, l7 g ⟨I, R, 0⟩ c 1 I.length (rZ [c.sq]))], fun _ _ => noC, fun F _ => two_l (hl5 F) (hl7 1 (rZ [c.sq]) rfl rfl F), fun F => ?_⟩
   refine Yj (eP' g ⟨I, R, 0⟩ c F) ⟨⟨?_, rfl, .inl ⟨rfl, aLr g ⟨I, R, 1⟩ (xI 1006 [c.sq]), oLr g ⟨I, R, 1⟩ (iO [c.sq]), [(1006, 1102)], rfl, ⟨χ, by kernel_rfl, ⟨Ya, Ya, Ya, CF' rfl, Ya, Ya, Ya, Ya, Ya, Ya, Ya, Ye⟩, ⟨_, rfl, OW.of_eq ((hQ.1 _).trans (hQ.1 _).symm)⟩, ⟨_, rfl, Yc⟩, ⟨_, rfl, OW.of_eq ((BK' _ I).trans (BK' _ I).symm)⟩, ⟨_, rfl, OW.of_eq ((DJ' _ R).trans (DJ' _ R).symm)⟩, ⟨_, rfl, Yc⟩, Ye⟩, fun W0 F N ys w hs => ?_⟩⟩⟩
   ·simp only [ch', Nat.blt_eq, true_and, and_true, e1, h1, hcs, AB', AC']; and_intros; all_goals first | (with_reducible exact Ye) | (with_reducible exact rfl) | (with_reducible exact Ya) | (with_reducible exact Yb) | (with_reducible exact Yc) | (with_reducible exact AM' _) | (with_reducible assumption) | (with_reducible exact AW' hw) | exact A5' e1 | (rw [Nat.zero_add, Nat.mul_one]; exact h1) | (rw [Nat.ble_eq]; omega) | (with_reducible exact OW.of_eq ((hQ1 _).trans (hQ1 _).symm)) | exact Kq4'
   ·refine ⟨⟨1, h1⟩, BE' h1, ?_⟩; simp only; rw [hnx]; exact hs
  ·obtain ⟨x1, x2⟩ := I6' (k := 1006) hMe; obtain ⟨y1, y2⟩ := I6' (k := 6) hMe; rw [y1, y2] at h5
   have hl5 : ∀ F, L1OK Θ F (AH' fLaw 35) (l5 g ⟨I, R, i⟩ c (slI 6 M.length) M.length (rZ M)) := fun F =>
    EV' B6' WX' (fun _ _ => h5) fun _ => by
     simp only [RT.pick]; exact DF' rfl rfl (UQ' ⟨rfl, rfl, rfl, rfl⟩ _ _ rfl (A0' rfl (A0' Ye (A0' Ye A4')))) (TT' rfl _ _ _ hQ (I7' _ _)) (UQ' ⟨rfl, rfl, rfl, rfl⟩ _ _ rfl A4') (TT' rfl _ _ _ hQ (I7' _ _))
   have k1 : (0 + M.length * 1).ble (vmap (M.map encZ)).length = true := by rw [C5', Nat.ble_eq]; omega
   have k2 : ((M.length + 1) * 8).ble 140737488355328 = true := by rw [Nat.ble_eq]; omega
   have k3 : (M.length + 1).ble 9223372036854775807 = true := by rw [Nat.ble_eq]; omega
   have ktk := NL' M
   have k4 : (List.take (M.length * 1) (List.drop 0 (vmap (M.map encZ)))).length.beq (M.length * 1) = true := by rw [ktk, C5', Nat.mul_one]; exact Nat.beq_refl _
   rw [x1, x2]
   refine ⟨[], hLr i c, [(fLaw, 35, AH' fLaw 35, l5 g ⟨I, R, i⟩ c (slI 6 M.length) M.length (rZ M)), (fLaw, 42, AH' fLaw 42, l7 g ⟨I, R, i⟩ c (M.length + 1) I.length (rZ (M ++ [c.sq])))], fun _ _ => noC, fun F _ => two_l (hl5 F) (hl7 _ _ rfl rfl F), fun F => ?_⟩
   refine Yj (eO' g ⟨I, R, i⟩ c M (M ++ [c.sq]) M.length F) ⟨⟨?_, rfl, .inl ⟨rfl, aLr g ⟨I, R, i + 1⟩ (slI 1006 (M.length + 1)), oLr g ⟨I, R, i + 1⟩ (rZ (M ++ [c.sq])), [(1006, 1102)], rfl, ⟨χ, by kernel_rfl, ⟨Ya, Ya, Ya, CF' rfl, Ya, Ya, Ya, Ya, Ya, Ya, Ya, Ye⟩, ⟨_, rfl, OW.of_eq ((hQ.1 _).trans (hQ.1 _).symm)⟩, ⟨_, rfl, Yc⟩, ⟨_, rfl, OW.of_eq ((BK' _ I).trans (BK' _ I).symm)⟩, ⟨_, rfl, OW.of_eq ((DJ' _ R).trans (DJ' _ R).symm)⟩, ⟨_, rfl, OW.of_eq ((BK' _ _).trans (BK' _ _).symm)⟩, Ye⟩, fun W0 F N ys w hs => ?_⟩⟩⟩
   ·simp only [ch', Nat.blt_eq, true_and, and_true, e1, h1, hcs, AB', AC', k1, k2, k3, k4]; and_intros; all_goals first | (with_reducible exact Ye) | (with_reducible exact rfl) | (with_reducible exact Ya) | (with_reducible exact Yb) | (with_reducible exact Yc) | (with_reducible exact AM' _) | (with_reducible assumption) | (with_reducible exact AW' hw) | exact A5' e1 | (rw [Nat.zero_add, Nat.mul_one]; exact h1) | (rw [Nat.ble_eq]; omega) | (with_reducible exact OW.of_eq ((hQ1 _).trans (hQ1 _).symm)) | (rw [ktk]; refine OW.of_eq ?_; simp only [vmap, List.map_append]; rfl) | exact Kq4'
   ·refine ⟨⟨i + 1, h1⟩, BE' h1, ?_⟩; simp only; rw [hnx, RG', QT']; exact hs
 ·have hje : i = R.length := ω
  subst hje; rw [List.take_length]
  refine ⟨[], AJ' [hf' fLaw 32 0], [], fun _ _ => noC, fun _ _ => noL, fun F => ?_⟩
  obtain ⟨M, hM⟩ : ∃ M, R.map (·.sq) = M := ⟨_, rfl⟩; rw [hM]
  by_cases hMe : M = []
  ·subst hMe
   refine Yj (ZC' g I R (iO []) F) ⟨⟨?_, rfl, .inr ⟨rfl, [(5, .ptr 2 0), (6, .ptr 3 0), (7, clG), (10, bv true), (15, .mt), (31, slV g.sa g.n g.c), (32, iv (o' g.n)), (33, iv (o' g.j))], [(2, g.Q), (3, bxI (slI 4 I.length)), (4, rZ I), (1006, iO [])], [(1006, 1006)], rfl, ⟨χ, by kernel_rfl, ⟨Ya, Ya, Ya, Ya, Ya, Ya, Ya, Ya, Ye⟩, ⟨_, rfl, OW.of_eq (hQ.1 _).symm⟩, ⟨_, rfl, Yc⟩, ⟨_, rfl, OW.of_eq (BK' _ I).symm⟩, ⟨_, rfl, Yc⟩, Ye⟩, fun W0 F N ys w hs => hs⟩⟩⟩
   simp only [ch', and_true]; exact A5' ltF
  ·obtain ⟨x1, x2⟩ := I6' (k := 1006) hMe; rw [x1, x2]
   refine Yj (ZB' g I R M.length (rZ M) F) ⟨⟨?_, rfl, .inr ⟨rfl, [(5, .ptr 2 0), (6, .ptr 3 0), (7, clG), (10, bv true), (15, slI 1006 M.length), (31, slV g.sa g.n g.c), (32, iv (o' g.n)), (33, iv (o' g.j))], [(2, g.Q), (3, bxI (slI 4 I.length)), (4, rZ I), (1006, rZ M)], [(1006, 1006)], rfl, ⟨χ, by kernel_rfl, ⟨Ya, Ya, Ya, Ya, Ya, Ya, Ya, Ya, Ye⟩, ⟨_, rfl, OW.of_eq (hQ.1 _).symm⟩, ⟨_, rfl, Yc⟩, ⟨_, rfl, OW.of_eq (BK' _ I).symm⟩, ⟨_, rfl, OW.of_eq (BK' _ M).symm⟩, Ye⟩, fun W0 F N ys w hs => hs⟩⟩⟩
   simp only [ch', and_true]; exact A5' ltF
end Go.Proofs.Ytjjjchmkonnpfaa.Qb
