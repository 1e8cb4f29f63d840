/- Maps with keys of whatever kind. No program. -/
import Derived.Test.YtbmoancedlbhlaaDoorEngRow
set_option linter.unusedVariables false
set_option linter.unusedSimpArgs false
namespace Go.Proofs.YtbmoancedlbhlaaDoor.Eng
open Go Go.RowKit
abbrev KMap (κ α : Type) := List (κ × α × Nat)
structure KOK {κ : Type} [DecidableEq κ] (kv : κ → Value) : Prop where
  inj : ∀ a b, valQ (kv a) (kv b) = decide (a = b)
  same : ∀ k, Instr.sameBits 10000 (kv k) (kv k) = true
def KTy {κ : Type} [DecidableEq κ] (P : Program) (t : TypeId) (kv : κ → Value) : Prop := ∀ (E : Env) a b, keyEq P E t (.v (kv a)) (.v (kv b)) = .ret (decide (a = b))
section
variable {κ α : Type} {kv : κ → Value} {ev : α → AV}
def kE (kv : κ → Value) (ev : α → AV) (m : KMap κ α) : List (AV × AV × Nat) := m.map fun e => (.v (kv e.1), ev e.2.1, e.2.2)
structure KI (m : KMap κ α) (c : Nat) : Prop where
  keys : (m.map (·.1)).Nodup
  stamps : (m.map (·.2.2)).Nodup
  low : ∀ e ∈ m, e.2.2 < c
theorem kE_get (m : KMap κ α) (j : Nat) : (kE kv ev m)[j]? = (m[j]?).map fun e => (.v (kv e.1), ev e.2.1, e.2.2) := by simp [kE]
theorem kE_set (m : KMap κ α) (j : Nat) (k : κ) (x : α) (s : Nat) : (kE kv ev m).set j (.v (kv k), ev x, s) = kE kv ev (m.set j (k, x, s)) := by simp [kE, List.map_set]
theorem KI.nil : KI ([] : KMap κ α) 0 := ⟨List.nodup_nil, List.nodup_nil, fun e he => by cases he⟩
end
section
variable {κ α : Type} [DecidableEq κ] {kv : κ → Value} {ev : α → AV}
def kfind (k : κ) : KMap κ α → Nat → Option (Nat × α)
  | [], _ => none
  | e :: l, i => if k = e.1 then some (i, e.2.1) else kfind k l (i + 1)
def klook (k : κ) : KMap κ α → Option α
  | [] => none
  | e :: l => if k = e.1 then some e.2.1 else klook k l
def kset (m : KMap κ α) (c : Nat) (k : κ) (x : α) : KMap κ α := match kfind k m 0 with
  | some (j, _) => m.set j (k, x, ((m[j]?).map (·.2.2)).getD 0)
  | none => m ++ [(k, x, c)]
def kbump (m : KMap κ α) (c : Nat) (k : κ) : Nat := match kfind k m 0 with
  | some _ => c
  | none => c + 1
def kdel (m : KMap κ α) (k : κ) : KMap κ α := match kfind k m 0 with
  | some (j, _) => m.eraseIdx j
  | none => m
theorem keyQ_kv (hO : KOK kv) (a b : κ) : keyQ (.v (kv a)) (.v (kv b)) = decide (a = b) := hO.inj a b
theorem findS_kE (hO : KOK kv) (k : κ) : ∀ (m : KMap κ α) (i : Nat), findS (.v (kv k)) (kE kv ev m) i = (kfind k m i).map fun p => (p.1, ev p.2)
  | [], i => rfl
  | e :: l, i => by
    have ih := findS_kE hO k l (i + 1)
    show findS (.v (kv k)) ((.v (kv e.1), ev e.2.1, e.2.2) :: kE kv ev l) i = _
    rw [findS, keyQ_kv hO, kfind]
    by_cases h : k = e.1
    · rw [if_pos h]; simp [h]
    · rw [if_neg h]; simp only [h, decide_false]; exact ih
theorem kfind_lt : ∀ {m : KMap κ α} {i : Nat} {k : κ} {j : Nat} {x : α}, kfind k m i = some (j, x) → i ≤ j ∧ ∃ s, m[j - i]? = some (k, x, s)
  | [], i, k, j, x, h => by cases h
  | e :: l, i, k, j, x, h => by
    rw [kfind] at h
    split at h
    · rename_i hk
      cases h
      refine ⟨Nat.le_refl _, e.2.2, ?_⟩
      rw [Nat.sub_self]; simp [hk]
    · obtain ⟨h1, s, h2⟩ := kfind_lt h
      refine ⟨by omega, s, ?_⟩
      rw [show j - i = (j - (i + 1)) + 1 from by omega, List.getElem?_cons_succ]; exact h2
theorem kfind_look (k : κ) : ∀ (m : KMap κ α) (i : Nat), (kfind k m i).map (·.2) = klook k m
  | [], i => rfl
  | e :: l, i => by
    rw [kfind, klook]
    split
    · rfl
    · exact kfind_look k l (i + 1)
theorem findKey_kE {P : Program} {E : Env} {t : TypeId} (hO : KOK kv) (hu : KTy P t kv) (k : κ) : ∀ (m : KMap κ α) (i : Nat), findKey P E t (.v (kv k)) (kE kv ev m) i = .ret (findS (.v (kv k)) (kE kv ev m) i)
  | [], i => rfl
  | e :: l, i => by
    have ih := findKey_kE (E := E) hO hu k l (i + 1)
    have hk : keyEq P E t (.v (kv k)) (.v (kv e.1)) = .ret (decide (k = e.1)) := hu E k e.1
    show ((keyEq P E t (.v (kv k)) (.v (kv e.1))).bind fun b => match b with
      | true => pure (some (i, ev e.2.1))
      | false => findKey P E t (.v (kv k)) (kE kv ev l) (i + 1)) = .ret (findS (.v (kv k)) ((.v (kv e.1), ev e.2.1, e.2.2) :: kE kv ev l) i)
    rw [hk, findS, keyQ_kv hO]
    show (match decide (k = e.1) with
      | true => (pure (some (i, ev e.2.1)) : AP (Option (Nat × AV)))
      | false => findKey P E t (.v (kv k)) (kE kv ev l) (i + 1)) = _
    cases decide (k = e.1) with
    | true => rfl
    | false => exact ih
theorem staysS_kE (hO : KOK kv) (k : κ) (m : KMap κ α) : staysS (.v (kv k)) (kE kv ev m) := by
  intro j v h
  rw [findS_kE hO] at h
  cases hf : kfind k m 0 with
  | none => rw [hf] at h; cases h
  | some p =>
    rw [hf] at h
    cases h
    obtain ⟨_, s, h2⟩ := kfind_lt (x := p.2) (j := p.1) hf
    rw [Nat.sub_zero] at h2
    refine ⟨_, by rw [kE_get, h2]; rfl, ?_⟩
    exact hO.same k
theorem setE_kE (hO : KOK kv) (k : κ) (x : α) (m : KMap κ α) (c : Nat) : setE (.v (kv k)) (ev x) (kE kv ev m) c = kE kv ev (kset m c k x) := by
  rw [setE, findS_kE hO, kset]
  cases hf : kfind k m 0 with
  | none => simp [kE]
  | some p =>
    simp only [Option.map_some]
    rw [kE_get, Option.map_map, ← kE_set]
    rfl
theorem bumpE_kE (hO : KOK kv) (k : κ) (m : KMap κ α) (c : Nat) : bumpE (.v (kv k)) (kE kv ev m) c = kbump m c k := by
  rw [bumpE, findS_kE hO, kbump]
  cases kfind k m 0 <;> rfl
theorem found_kE (hO : KOK kv) (k : κ) (m : KMap κ α) (z : Value) : foundX (findS (.v (kv k)) (kE kv ev m) 0) z = ((klook k m).map ev).getD (.v z) := by
  rw [findS_kE hO, ← kfind_look k m 0]
  cases kfind k m 0 <;> rfl
/-! What is found afterwards. -/
theorem klook_none {m : KMap κ α} {k : κ} : klook k m = none ↔ k ∉ m.map (·.1) := by
  induction m with
  | nil => simp [klook]
  | cons e l ih =>
    rw [klook]
    by_cases h : k = e.1
    · rw [if_pos h]; simp [h]
    · rw [if_neg h, ih]; simp [h]
theorem klook_append_new {m : KMap κ α} {k : κ} {x : α} {s : Nat} (h : klook k m = none) (k' : κ) : klook k' (m ++ [(k, x, s)]) = if k' = k then some x else klook k' m := by
  induction m with
  | nil => simp [klook]
  | cons e l ih =>
    rw [klook] at h
    split at h
    · cases h
    · rename_i hne
      rw [List.cons_append, klook, klook, ih h]
      by_cases h1 : k' = e.1
      · rw [if_pos h1, if_pos h1, if_neg (fun h2 : k' = k => hne (h2 ▸ h1))]
      · rw [if_neg h1, if_neg h1]
theorem klook_set : ∀ {m : KMap κ α} {i : Nat} {k : κ} {j : Nat} {y x : α} {s : Nat}, kfind k m i = some (j, y) → ∀ k', klook k' (m.set (j - i) (k, x, s)) = if k' = k then some x else klook k' m
  | [], i, k, j, y, x, s, h, k' => by cases h
  | e :: l, i, k, j, y, x, s, h, k' => by
    rw [kfind] at h
    split at h
    · rename_i hk
      cases h
      rw [Nat.sub_self, List.set_cons_zero, klook, klook]
      by_cases h1 : k' = k
      · rw [if_pos h1, if_pos h1]
      · rw [if_neg h1, if_neg h1, if_neg (fun h2 : k' = e.1 => h1 (h2.trans hk.symm))]
    · rename_i hk
      obtain ⟨hle, _⟩ := kfind_lt h
      rw [show j - i = (j - (i + 1)) + 1 from by omega, List.set_cons_succ, klook, klook, klook_set h]
      by_cases h1 : k' = e.1
      · rw [if_pos h1, if_pos h1, if_neg (fun h2 : k' = k => hk (h2 ▸ h1))]
      · rw [if_neg h1, if_neg h1]
theorem klook_kset (m : KMap κ α) (c : Nat) (k : κ) (x : α) (k' : κ) : klook k' (kset m c k x) = if k' = k then some x else klook k' m := by
  rw [kset]
  cases hf : kfind k m 0 with
  | none => exact klook_append_new (by rw [← kfind_look k m 0, hf]; rfl) k'
  | some p => exact klook_set (i := 0) hf k'
theorem kset_keys (m : KMap κ α) (c : Nat) (k : κ) (x : α) : (kset m c k x).map (·.1) = if k ∈ m.map (·.1) then m.map (·.1) else m.map (·.1) ++ [k] := by
  rw [kset]
  cases hf : kfind k m 0 with
  | none =>
    have : klook k m = none := by rw [← kfind_look k m 0, hf]; rfl
    rw [if_neg (klook_none.1 this)]; simp
  | some p =>
    obtain ⟨j, y⟩ := p
    obtain ⟨_, s, hj⟩ := kfind_lt hf
    rw [Nat.sub_zero] at hj
    rw [if_pos (List.mem_map.2 ⟨_, List.mem_of_getElem? hj, rfl⟩), List.map_set]
    obtain ⟨hlt, he⟩ := List.getElem?_eq_some_iff.1 hj
    have : (m.map (·.1))[j]'(by simpa using hlt) = k := by simp [he]
    simp only
    rw [← this]
    exact List.set_getElem_self _
theorem KI.kset {m : KMap κ α} {c : Nat} (h : KI m c) (k : κ) (x : α) : KI (kset m c k x) (kbump m c k) := by
  have hk : ((Eng.kset m c k x).map (·.1)).Nodup := by
    rw [kset_keys]
    split
    · exact h.keys
    · rename_i hn
      rw [List.nodup_append]
      refine ⟨h.keys, by simp, fun a ha b hb => ?_⟩
      simp only [List.mem_singleton] at hb
      rintro rfl
      exact hn (hb ▸ ha)
  refine ⟨hk, ?_, ?_⟩
  · rw [Eng.kset]
    cases hf : kfind k m 0 with
    | none =>
      rw [List.map_append, List.nodup_append]
      refine ⟨h.stamps, by simp, fun a ha b hb => ?_⟩
      obtain ⟨e, he, rfl⟩ := List.mem_map.1 ha
      simp only [List.map_cons, List.map_nil, List.mem_singleton] at hb
      have := h.low e he
      omega
    | some p =>
      obtain ⟨j, y⟩ := p
      obtain ⟨_, s, hj⟩ := kfind_lt hf
      rw [Nat.sub_zero] at hj
      simp only [hj, Option.map_some, Option.getD_some, List.map_set]
      obtain ⟨hlt, he⟩ := List.getElem?_eq_some_iff.1 hj
      have : (m.map (·.2.2))[j]'(by simpa using hlt) = s := by simp [he]
      rw [← this, List.set_getElem_self]
      exact h.stamps
  · intro e he
    rw [Eng.kset] at he
    rw [kbump]
    cases hf : kfind k m 0 with
    | none =>
      rw [hf] at he
      rcases List.mem_append.1 he with he | he
      · have := h.low e he; simp only; omega
      · simp only [List.mem_singleton] at he; subst he; simp
    | some p =>
      obtain ⟨j, y⟩ := p
      obtain ⟨_, s, hj⟩ := kfind_lt hf
      rw [Nat.sub_zero] at hj
      rw [hf] at he
      simp only [hj, Option.map_some, Option.getD_some] at he ⊢
      rcases List.mem_or_eq_of_mem_set he with he | he
      · exact h.low e he
      · subst he; exact h.low (k, y, s) (List.mem_of_getElem? hj)
theorem kdel_sub (m : KMap κ α) (k : κ) : List.Sublist (kdel m k) m := by
  rw [kdel]
  cases kfind k m 0 with
  | none => exact List.Sublist.refl _
  | some p => exact List.eraseIdx_sublist _ _
theorem KI.kdel {m : KMap κ α} {c : Nat} (h : KI m c) (k : κ) : KI (kdel m k) c :=
  ⟨h.keys.sublist ((kdel_sub m k).map _), h.stamps.sublist ((kdel_sub m k).map _), fun e he => h.low e ((kdel_sub m k).subset he)⟩
theorem klook_erase : ∀ {m : KMap κ α} {i : Nat} {k : κ} {j : Nat} {y : α}, (m.map (·.1)).Nodup → kfind k m i = some (j, y) → ∀ k', klook k' (m.eraseIdx (j - i)) = if k' = k then none else klook k' m
  | [], i, k, j, y, _, h, k' => by cases h
  | e :: l, i, k, j, y, hn, h, k' => by
    rw [List.map_cons, List.nodup_cons] at hn
    rw [kfind] at h
    split at h
    · rename_i hk
      cases h
      rw [Nat.sub_self, List.eraseIdx_cons_zero, klook]
      by_cases h1 : k' = k
      · rw [if_pos h1, klook_none, h1, hk]; exact hn.1
      · rw [if_neg h1, if_neg (fun h2 : k' = e.1 => h1 (h2.trans hk.symm))]
    · rename_i hk
      obtain ⟨hle, _⟩ := kfind_lt h
      rw [show j - i = (j - (i + 1)) + 1 from by omega, List.eraseIdx_cons_succ, klook, klook, klook_erase hn.2 h]
      by_cases h1 : k' = e.1
      · rw [if_pos h1, if_pos h1, if_neg (fun h2 : k' = k => hk (h2 ▸ h1))]
      · rw [if_neg h1, if_neg h1]
theorem klook_kdel {m : KMap κ α} {c : Nat} (h : KI m c) (k k' : κ) : klook k' (kdel m k) = if k' = k then none else klook k' m := by
  rw [Eng.kdel]
  cases hf : kfind k m 0 with
  | none =>
    have hn : klook k m = none := by rw [← kfind_look k m 0, hf]; rfl
    by_cases h1 : k' = k
    · rw [if_pos h1, h1]; exact hn
    · rw [if_neg h1]
  | some p => exact klook_erase (i := 0) h.keys hf k'
end
end Go.Proofs.YtbmoancedlbhlaaDoor.Eng
