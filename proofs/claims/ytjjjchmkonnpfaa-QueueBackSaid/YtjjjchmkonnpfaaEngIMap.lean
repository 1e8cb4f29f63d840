/- Maps with whole numbers as keys. No program. -/
import Derived.Test.YtjjjchmkonnpfaaEngRow
set_option linter.unusedVariables false
set_option linter.unusedSimpArgs false
namespace Go.Proofs.Ytjjjchmkonnpfaa.Eng
open Go Go.RowKit
variable {c : Nat}
abbrev IMap (α : Type) := List (Int × α × Nat)
section
variable {α : Type} {ev : α -> AV}
def mE (ev : α -> AV) (m : IMap α) : List (AV × AV × Nat) := m.map fun e => (.v (.int .i64 e.1), ev e.2.1, e.2.2)
def C6' (k : Int) : IMap α -> Nat -> Option (Nat × α)
 | [], _ => none
 | e :: l, i => if k = e.1 then some (i, e.2.1) else C6' k l (i + 1)
def AG' (k : Int) : IMap α -> Option α
 | [] => none
 | e :: l => if k = e.1 then some e.2.1 else AG' k l
def mset (m : IMap α) (c : Nat) (k : Int) (x : α) : IMap α := match C6' k m 0 with
 | some (j, _) => m.set j (k, x, ((m[j]?).map (·.2.2)).getD 0)
 | none => m ++ [(k, x, c)]
def DY' (m : IMap α) (c : Nat) (k : Int) : Nat := match C6' k m 0 with
 | some _ => c
 | none => c + 1
def mdel (m : IMap α) (k : Int) : IMap α := match C6' k m 0 with
 | some (j, _) => m.eraseIdx j
 | none => m
structure MI (m : IMap α) (c : Nat) : Prop where
 keys : (m.map (·.1)).Nodup
 stamps : (m.map (·.2.2)).Nodup
 low : ∀ e ∈ m, e.2.2 < c
theorem VN' (m : IMap α) (j : Nat) : (mE ev m)[j]? = (m[j]?).map fun e => (.v (.int .i64 e.1), ev e.2.1, e.2.2) := by simp [mE]
theorem SJ' (a b : Int) : keyQ (.v (.int .i64 a)) (.v (.int .i64 b)) = decide (a = b) := by
 simp [keyQ, valQ]
theorem DM' (k : Int) : ∀ (m : IMap α) (i : Nat), AR' (.v (.int .i64 k)) (mE ev m) i = (C6' k m i).map fun p => (p.1, ev p.2)
 | [], i => rfl
 | e :: l, i => by
  have ih := DM' k l (i + 1); show AR' (.v (.int .i64 k)) ((.v (.int .i64 e.1), ev e.2.1, e.2.2) :: mE ev l) i = _; rw [AR', SJ', C6']
  by_cases h : k = e.1
  ·rw [if_pos h]; simp [h]
  ·rw [if_neg h]; simp only [h, decide_false]; exact ih
theorem E9' : ∀ {m : IMap α} {i : Nat} {k : Int} {j : Nat} {x : α}, C6' k m i = some (j, x) -> i <= j /\ ∃ s, m[j - i]? = some (k, x, s)
 | [], i, k, j, x, h => by cases h
 | e :: l, i, k, j, x, h => by
  rw [C6'] at h; split at h
  ·rename_i hk; cases h; refine ⟨Nat.le_refl _, e.2.2, ?_⟩; rw [Nat.sub_self]; simp [hk]
  ·obtain ⟨h1, s, h2⟩ := E9' h; refine ⟨ω, s, ?_⟩
   rw [show j - i = (j - (i + 1)) + 1 from ω, List.getElem?_cons_succ]; exact h2
theorem CU' (k : Int) : ∀ (m : IMap α) (i : Nat), (C6' k m i).map (·.2) = AG' k m
 | [], i => rfl
 | e :: l, i => by
  rw [C6', AG']; split
  ·rfl
  ·exact CU' k l (i + 1)
theorem AS' {P : Program} {E : Env} {t : TypeId} (hu : P.underlying t = some (.int .i64)) (k : Int) : ∀ (m : IMap α) (i : Nat), findKey P E t (.v (.int .i64 k)) (mE ev m) i = .ret (AR' (.v (.int .i64 k)) (mE ev m) i)
 | [], i => rfl
 | e :: l, i => by
  have ih := AS' (E := E) hu k l (i + 1)
  have hk : TF' P E t (.v (.int .i64 k)) (.v (.int .i64 e.1)) = .ret (decide (k = e.1)) := by
   show (match Instr.sameNow ((P.underlying t).getD .invalid) (.int .i64 k) (.int .i64 e.1) with
    | some r => pure r
    | none => AP.opt "key " (CG' P (Op.equal t (.int .i64 k) (.int .i64 e.1)))) = AP.ret (decide (k = e.1))
   rw [hu]; show (AP.ret (k == e.1) : AP Bool) = _
   by_cases h : k = e.1 <;> simp [h]
  show ((TF' P E t (.v (.int .i64 k)) (.v (.int .i64 e.1))).bind fun b => match b with
   | true => pure (some (i, ev e.2.1))
   | false => findKey P E t (.v (.int .i64 k)) (mE ev l) (i + 1)) = .ret (AR' (.v (.int .i64 k)) ((.v (.int .i64 e.1), ev e.2.1, e.2.2) :: mE ev l) i)
  rw [hk, AR', SJ']
  show (match decide (k = e.1) with
   | true => (pure (some (i, ev e.2.1)) : AP (Option (Nat × AV)))
   | false => findKey P E t (.v (.int .i64 k)) (mE ev l) (i + 1)) = _
  cases decide (k = e.1) with
  | true => rfl
  | false => exact ih
theorem B4' (k : Int) (m : IMap α) : GI' (.v (.int .i64 k)) (mE ev m) := by
 intro j v h; rw [DM'] at h
 cases hf : C6' k m 0 with
 | none => rw [hf] at h; cases h
 | some p =>
  rw [hf] at h; cases h; obtain ⟨_, s, h2⟩ := E9' (x := p.2) (j := p.1) hf; rw [Nat.sub_zero] at h2
  refine ⟨_, by rw [VN', h2]; rfl, ?_⟩
  show Instr.sameBits 10000 (.int .i64 k) (.int .i64 k) = true; simp [Instr.sameBits]
theorem aP' (m : IMap α) (j : Nat) (k : Int) (x : α) (s : Nat) : (mE ev m).set j (.v (.int .i64 k), ev x, s) = mE ev (m.set j (k, x, s)) := by simp [mE, List.map_set]
theorem N8' (k : Int) (x : α) (m : IMap α) (c : Nat) : setE (.v (.int .i64 k)) (ev x) (mE ev m) c = mE ev (mset m c k x) := by
 rw [setE, DM', mset]
 cases hf : C6' k m 0 with
 | none => simp [mE]
 | some p =>
  simp only [Option.map_some]; rw [VN', Option.map_map, <- aP']; rfl
theorem HG' (k : Int) (m : IMap α) (c : Nat) : E1' (.v (.int .i64 k)) (mE ev m) c = DY' m c k := by
 rw [E1', DM', DY']
 cases C6' k m 0 <;> rfl
theorem NP' (k : Int) (m : IMap α) : delE (.v (.int .i64 k)) (mE ev m) = mE ev (mdel m k) := by
 rw [delE, DM', mdel]
 cases C6' k m 0 with
 | none => rfl
 | some p => simp [mE, List.eraseIdx_eq_take_drop_succ]
theorem NM' (k : Int) (m : IMap α) (z : Value) : BY' (AR' (.v (.int .i64 k)) (mE ev m) 0) z = ((AG' k m).map ev).getD (.v z) := by
 rw [DM', <- CU' k m 0]
 cases C6' k m 0 <;> rfl
theorem PF' (k : Int) (m : IMap α) : (AR' (.v (.int .i64 k)) (mE ev m) 0).isSome = (AG' k m).isSome := by
 rw [DM', <- CU' k m 0]; simp
theorem MV' : ∀ {l : List (AV × AV × Nat)} {i j : Nat} {b : Nat}, (l.map (·.2.2)).Nodup -> (∃ e, l[j]? = some e /\ e.2.2 = b) -> DC' b l i = some (i + j)
 | [], i, j, b, _, ⟨e, h, _⟩ => by simp at h
 | (a, x, s) :: l, i, 0, b, _, ⟨e, h, hb⟩ => by
  simp only [List.getElem?_cons_zero, Option.some.injEq] at h; subst h; rw [DC']; have : s = b := hb; rw [this, Nat.beq_refl]; rfl
 | (a, x, s) :: l, i, j + 1, b, hn, ⟨e, h, hb⟩ => by
  rw [List.getElem?_cons_succ] at h; rw [List.map_cons, List.nodup_cons] at hn
  have hne : Nat.beq s b = false := by
   cases hq : Nat.beq s b with
   | false => rfl
   | true =>
    have e1 := Nat.eq_of_beq_eq_true hq; exact absurd (List.mem_map.2 ⟨e, List.mem_of_getElem? h, by rw [hb]; exact e1.symm⟩) hn.1
  rw [DC', hne]; simp only; rw [MV' hn.2 ⟨e, h, hb⟩]
  congr 1; omega
theorem L6' (m : IMap α) : (mE ev m).map (·.2.2) = m.map (·.2.2) := by simp [mE]
theorem WI' {m : IMap α} (h : MI m c) (k : Int) (z : AV) :
  (DC' (EL' (.v (.int .i64 k)) (mE ev m) c) (ensE (.v (.int .i64 k)) z (mE ev m) c) 0).isSome = true /\
   ∀ x, KQ' (EL' (.v (.int .i64 k)) (mE ev m) c) (ev x) (ensE (.v (.int .i64 k)) z (mE ev m) c) = mE ev (mset m c k x) := by
 have key : ∀ (l : List (AV × AV × Nat)) (j b : Nat), (l.map (·.2.2)).Nodup -> ∀ e, l[j]? = some e -> e.2.2 = b -> (DC' b l 0).isSome = true /\ ∀ x, KQ' b x l = l.set j (e.1, x, e.2.2) := by
  intro l j b hn e he hb; have hj := MV' (i := 0) hn ⟨e, he, hb⟩; rw [Nat.zero_add] at hj
  refine ⟨by rw [hj]; rfl, fun x => ?_⟩
  obtain ⟨e1, e2, e3⟩ := e; rw [KQ', hj]; simp only [he]
 cases hf : C6' k m 0 with
 | none =>
  have hS : AR' (.v (.int .i64 k)) (mE ev m) 0 = none := by rw [DM', hf]; rfl
  have h1 : EL' (.v (.int .i64 k)) (mE ev m) c = c := by rw [EL', hS]
  have h2 : ensE (.v (.int .i64 k)) z (mE ev m) c = mE ev m ++ [(.v (.int .i64 k), z, c)] := by rw [ensE, hS]
  rw [h1, h2]
  obtain ⟨q1, q2⟩ := key (mE ev m ++ [(.v (.int .i64 k), z, c)]) (mE ev m).length c (by
   rw [List.map_append, L6', List.map_cons, List.map_nil, List.nodup_append]
   refine ⟨h.stamps, by simp, fun a ha b hb => ?_⟩
   obtain ⟨e, he, rfl⟩ := List.mem_map.1 ha; simp only [List.mem_singleton] at hb; have := h.low e he
   omega) (.v (.int .i64 k), z, c) (by simp) rfl
  refine ⟨q1, fun x => ?_⟩
  rw [q2 (ev x), mset, hf]; simp [mE]
 | some p =>
  obtain ⟨j, y⟩ := p; obtain ⟨_, s, hj⟩ := E9' hf; rw [Nat.sub_zero] at hj
  have hS : AR' (.v (.int .i64 k)) (mE ev m) 0 = some (j, ev y) := by rw [DM', hf]; rfl
  have hg : (mE ev m)[j]? = some (.v (.int .i64 k), ev y, s) := by rw [VN', hj]; rfl
  have h1 : EL' (.v (.int .i64 k)) (mE ev m) c = s := by rw [EL', hS]; simp [hg]
  have h2 : ensE (.v (.int .i64 k)) z (mE ev m) c = mE ev m := by
   rw [ensE, hS]; simp only [hg]; obtain ⟨hlt, he⟩ := List.getElem?_eq_some_iff.1 hg; rw [<- he]; exact List.set_getElem_self hlt
  rw [h1, h2]; obtain ⟨q1, q2⟩ := key (mE ev m) j s (by rw [L6']; exact h.stamps) _ hg rfl
  refine ⟨q1, fun x => ?_⟩
  rw [q2 (ev x), mset, hf]; simp only [hj, Option.map_some, Option.getD_some]; exact aP' m j k x s
theorem JA' {m : IMap α} {k : Int} : AG' k m = none ↔ k ∉ m.map (·.1) := by
 induction m with
 | nil => simp [AG']
 | cons e l ih =>
  rw [AG']
  by_cases h : k = e.1
  ·rw [if_pos h]; simp [h]
  ·rw [if_neg h, ih]; simp [h]
theorem K3' {m : IMap α} {k : Int} {x : α} {s : Nat} (h : AG' k m = none) (k' : Int) : AG' k' (m ++ [(k, x, s)]) = if k' = k then some x else AG' k' m := by
 induction m with
 | nil => simp [AG']
 | cons e l ih =>
  rw [AG'] at h; split at h
  ·cases h
  ·rename_i hne; rw [List.cons_append, AG', AG', ih h]
   by_cases h1 : k' = e.1
   ·rw [if_pos h1, if_pos h1, if_neg (fun h2 : k' = k => hne (h2 ▸ h1))]
   ·rw [if_neg h1, if_neg h1]
theorem P1' : ∀ {m : IMap α} {i : Nat} {k : Int} {j : Nat} {y x : α} {s : Nat}, C6' k m i = some (j, y) -> ∀ k', AG' k' (m.set (j - i) (k, x, s)) = if k' = k then some x else AG' k' m
 | [], i, k, j, y, x, s, h, k' => by cases h
 | e :: l, i, k, j, y, x, s, h, k' => by
  rw [C6'] at h; split at h
  ·rename_i hk; cases h; rw [Nat.sub_self, List.set_cons_zero, AG', AG']
   by_cases h1 : k' = k
   ·rw [if_pos h1, if_pos h1]
   ·rw [if_neg h1, if_neg h1, if_neg (fun h2 : k' = e.1 => h1 (h2.trans hk.symm))]
  ·rename_i hk; obtain ⟨hle, _⟩ := E9' h
   rw [show j - i = (j - (i + 1)) + 1 from ω, List.set_cons_succ, AG', AG', P1' h]
   by_cases h1 : k' = e.1
   ·rw [if_pos h1, if_pos h1, if_neg (fun h2 : k' = k => hk (h2 ▸ h1))]
   ·rw [if_neg h1, if_neg h1]
theorem CT' (m : IMap α) (c : Nat) (k : Int) (x : α) (k' : Int) : AG' k' (mset m c k x) = if k' = k then some x else AG' k' m := by
 rw [mset]
 cases hf : C6' k m 0 with
 | none => exact K3' (by rw [<- CU' k m 0, hf]; rfl) k'
 | some p => exact P1' (i := 0) hf k'
theorem VJ' (m : IMap α) (c : Nat) (k : Int) (x : α) : (mset m c k x).map (·.1) = if k ∈ m.map (·.1) then m.map (·.1) else m.map (·.1) ++ [k] := by
 rw [mset]
 cases hf : C6' k m 0 with
 | none =>
  have : AG' k m = none := by rw [<- CU' k m 0, hf]; rfl
  rw [if_neg (JA'.1 this)]; simp
 | some p =>
  obtain ⟨j, y⟩ := p; obtain ⟨_, s, hj⟩ := E9' hf; rw [Nat.sub_zero] at hj; rw [if_pos (List.mem_map.2 ⟨_, List.mem_of_getElem? hj, rfl⟩), List.map_set]; obtain ⟨hlt, he⟩ := List.getElem?_eq_some_iff.1 hj
  have : (m.map (·.1))[j]'(by simpa using hlt) = k := by simp [he]
  simp only; rw [<- this]; exact List.set_getElem_self _
theorem MI.mset {m : IMap α} (h : MI m c) (k : Int) (x : α) : MI (mset m c k x) (DY' m c k) := by
 have hk : ((Eng.mset m c k x).map (·.1)).Nodup := by
  rw [VJ']; split
  ·exact h.keys
  ·rename_i hn; rw [List.nodup_append]
   refine ⟨h.keys, by simp, fun a ha b hb => ?_⟩
   simp only [List.mem_singleton] at hb; rintro rfl; exact hn (hb ▸ ha)
 refine ⟨hk, ?_, ?_⟩
 ·rw [Eng.mset]
  cases hf : C6' k m 0 with
  | none =>
   rw [List.map_append, List.nodup_append]
   refine ⟨h.stamps, by simp, fun a ha b hb => ?_⟩
   obtain ⟨e, he, rfl⟩ := List.mem_map.1 ha; simp only [List.map_cons, List.map_nil, List.mem_singleton] at hb; have := h.low e he; omega
  | some p =>
   obtain ⟨j, y⟩ := p; obtain ⟨_, s, hj⟩ := E9' hf; rw [Nat.sub_zero] at hj; simp only [hj, Option.map_some, Option.getD_some, List.map_set]; obtain ⟨hlt, he⟩ := List.getElem?_eq_some_iff.1 hj
   have : (m.map (·.2.2))[j]'(by simpa using hlt) = s := by simp [he]
   rw [<- this, List.set_getElem_self]; exact h.stamps
 ·intro e he; rw [Eng.mset] at he; rw [DY']
  cases hf : C6' k m 0 with
  | none =>
   rw [hf] at he
   rcases List.mem_append.1 he with he | he
   ·have := h.low e he; simp only; omega
   ·simp only [List.mem_singleton] at he; subst he; simp
  | some p =>
   obtain ⟨j, y⟩ := p; obtain ⟨_, s, hj⟩ := E9' hf; rw [Nat.sub_zero] at hj; rw [hf] at he; simp only [hj, Option.map_some, Option.getD_some] at he ⊢
   rcases List.mem_or_eq_of_mem_set he with he | he
   ·exact h.low e he
   ·subst he; exact h.low (k, y, s) (List.mem_of_getElem? hj)
theorem KF' (m : IMap α) (k : Int) : List.Sublist (mdel m k) m := by
 rw [mdel]
 cases C6' k m 0 with
 | none => exact List.Sublist.refl _
 | some p => exact List.eraseIdx_sublist _ _
theorem MI.mdel {m : IMap α} (h : MI m c) (k : Int) : MI (mdel m k) c :=
 ⟨h.keys.sublist ((KF' m k).map _), h.stamps.sublist ((KF' m k).map _), fun e he => h.low e ((KF' m k).subset he)⟩
theorem L5' : ∀ {m : IMap α} {i : Nat} {k : Int} {j : Nat} {y : α}, (m.map (·.1)).Nodup -> C6' k m i = some (j, y) -> ∀ k', AG' k' (m.eraseIdx (j - i)) = if k' = k then none else AG' k' m
 | [], i, k, j, y, _, h, k' => by cases h
 | e :: l, i, k, j, y, hn, h, k' => by
  rw [List.map_cons, List.nodup_cons] at hn; rw [C6'] at h; split at h
  ·rename_i hk; cases h; rw [Nat.sub_self, List.eraseIdx_cons_zero, AG']
   by_cases h1 : k' = k
   ·rw [if_pos h1, JA', h1, hk]; exact hn.1
   ·rw [if_neg h1, if_neg (fun h2 : k' = e.1 => h1 (h2.trans hk.symm))]
  ·rename_i hk; obtain ⟨hle, _⟩ := E9' h
   rw [show j - i = (j - (i + 1)) + 1 from ω, List.eraseIdx_cons_succ, AG', AG', L5' hn.2 h]
   by_cases h1 : k' = e.1
   ·rw [if_pos h1, if_pos h1, if_neg (fun h2 : k' = k => hk (h2 ▸ h1))]
   ·rw [if_neg h1, if_neg h1]
theorem D5' {m : IMap α} (h : MI m c) (k k' : Int) : AG' k' (mdel m k) = if k' = k then none else AG' k' m := by
 rw [Eng.mdel]
 cases hf : C6' k m 0 with
 | none =>
  have hn : AG' k m = none := by rw [<- CU' k m 0, hf]; rfl
  by_cases h1 : k' = k
  ·rw [if_pos h1, h1]; exact hn
  ·rw [if_neg h1]
 | some p => exact L5' (i := 0) h.keys hf k'
theorem MI.nil : MI ([] : IMap α) 0 := ⟨List.nodup_nil, List.nodup_nil, fun e he => by cases he⟩
end
end Go.Proofs.Ytjjjchmkonnpfaa.Eng
