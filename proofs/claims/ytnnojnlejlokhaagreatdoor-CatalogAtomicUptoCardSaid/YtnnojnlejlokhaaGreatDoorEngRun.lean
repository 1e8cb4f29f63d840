/- What a run of the engine's programs touches. No program. -/
import Derived.Test.YtnnojnlejlokhaaGreatDoorEngDef
set_option linter.unusedVariables false
set_option linter.unusedSimpArgs false
namespace Go.Proofs.YtnnojnlejlokhaaGreatDoor.Eng
open Go
open Nat renaming blt_eq -> bl'
variable {st : Bool} {h h' t : T} {n i n' : Nat} {lg lg' : Log} {c : Cnd} {o : AO}
theorem T.get_nil (d i : Nat) : T.get d .nil i = none := by cases d <;> rfl
theorem T.get_left (d : Nat) (t : T) (i : Nat) (h : i % 2 = 0) : T.get (d + 1) t i = T.get d t.left (i / 2) := by
 cases t <;> simp [T.get, T.left, T.get_nil, h]
theorem T.get_right (d : Nat) (t : T) (i : Nat) (h : ¬ i % 2 = 0) : T.get (d + 1) t i = T.get d t.right (i / 2) := by
 have hb : Nat.beq (i % 2) 0 = false := by
  cases hb : Nat.beq (i % 2) 0 with
  | false => rfl
  | true => exact absurd (Nat.eq_of_beq_eq_true hb) h
 cases t <;> simp only [T.get, T.right, T.get_nil, hb]
theorem T.get_set_same (d : Nat) : ∀ (t x : T) (i : Nat), T.get d (T.set d t i x) i = T.get 0 x 0 := by
 induction d with
 | zero => intro t x i; cases x <;> rfl
 | succ d ih =>
  intro t x i
  by_cases h : i % 2 = 0
  ·simp only [T.set, h, Nat.beq, T.get]; exact ih _ _ _
  ·have hb : Nat.beq (i % 2) 0 = false := by
    cases hb : Nat.beq (i % 2) 0 with
    | false => rfl
    | true => exact absurd (Nat.eq_of_beq_eq_true hb) h
   simp only [T.set, hb, T.get]; exact ih _ _ _
theorem T.get_set_ne (d : Nat) : ∀ (t x : T) (i j : Nat), i < 2 ^ d -> j < 2 ^ d -> i ≠ j -> T.get d (T.set d t i x) j = T.get d t j := by
 induction d with
 | zero => intro t x i j hi hj hij; omega
 | succ d ih =>
  intro t x i j hi hj hij; have e : (2 : Nat) ^ (d + 1) = 2 ^ d * 2 := Nat.pow_succ 2 d
  by_cases h : i % 2 = 0
  ·simp only [T.set, h, Nat.beq]
   by_cases hj2 : j % 2 = 0
   ·rw [T.get_left _ _ _ hj2, T.get_left _ _ _ hj2]; exact ih _ _ _ _ ω ω ω
   ·rw [T.get_right _ _ _ hj2, T.get_right _ _ _ hj2]; rfl
  ·have hb : Nat.beq (i % 2) 0 = false := by
    cases hb : Nat.beq (i % 2) 0 with
    | false => rfl
    | true => exact absurd (Nat.eq_of_beq_eq_true hb) h
   simp only [T.set, hb]
   by_cases hj2 : j % 2 = 0
   ·rw [T.get_left _ _ _ hj2, T.get_left _ _ _ hj2]; rfl
   ·rw [T.get_right _ _ _ hj2, T.get_right _ _ _ hj2]; exact ih _ _ _ _ ω ω ω
theorem T.find_none (h : ¬ i < T.limit) : t.find i = none := by
 have : Nat.blt i T.limit = false := by
  cases hb : Nat.blt i T.limit with
  | false => rfl
  | true => exact absurd (by simpa [bl'] using hb) h
 simp only [T.find, this]
theorem T.find_some (h : i < T.limit) : t.find i = T.get T.depth t i := by
 have : Nat.blt i T.limit = true := by simpa [bl'] using h
 simp only [T.find, this, T.getF_eq]
theorem T.lt_of_find (h : t.find i = some o) : i < T.limit := by
 by_cases hi : i < T.limit
 ·exact hi
 ·rw [T.find_none hi] at h; cases h
theorem T.find_set {x : T} {j : Nat} (hi : i < T.limit) : (T.set T.depth t i x).find j = if j = i then T.get 0 x 0 else t.find j := by
 by_cases hj : j < T.limit
 ·rw [T.find_some hj, T.find_some hj]; split
  ·rename_i h; subst h; exact T.get_set_same _ _ _ _
  ·rename_i h; exact T.get_set_ne _ _ _ _ _ (by simpa [T.limit, T.depth] using hi) (by simpa [T.limit, T.depth] using hj) (Ne.symm h)
 ·rw [T.find_none hj, T.find_none hj, if_neg ω]
theorem U9' {α : Type} {p : Cnd} {o : Out α} {a : α} (he : o.and p = .ok a h n lg c) : ∃ c', o = .ok a h n lg c' /\ c = p.and c' := by
 cases o with
 | ok a' h' n' lg' c' => simp only [Out.and, Out.ok.injEq] at he; obtain ⟨rfl, rfl, rfl, rfl, rfl⟩ := he; exact ⟨c', rfl, rfl⟩
 | bad => cases he
theorem DO' {α : Type} {k : AP α} :
  (AP.write i o k).run st h n lg = match h.find i with | some _ => k.run st (T.set T.depth h i (.leaf o)) n ((i, true) :: lg) | none => .bad "write no such object" := by
 cases st <;> simp only [AP.run, ZV', T.setK_eq] <;> rfl
theorem EI' {α : Type} {k : AP α} :
  (AP.kill i k).run st h n lg = match h.find i with | some _ => k.run st (T.set T.depth h i .nil) n ((i, true) :: lg) | none => .bad "kill no such object" := by
 simp only [AP.run, T.setK_eq]; rfl
theorem GG' {α : Type} {k : Nat -> AP α} :
  (AP.new o k).run st h n lg = match Nat.blt n T.limit with | true => (k n).run st (T.set T.depth h n (.leaf o)) (n + 1) lg | false => .bad "no more names" := by
 cases st <;> simp only [AP.run, ZV', T.setK_eq, IL'] <;> rfl
theorem BM' {α : Type} {k : AO -> AP α} {r : α}
  (he : (AP.read i k).run st h n lg = .ok r h' n' lg' c) : ∃ o, h.find i = some o /\ (k o).run st h n ((i, false) :: lg) = .ok r h' n' lg' c := by
 rw [AP.run] at he; split at he
 ·rename_i o ho; exact ⟨o, ho, he⟩
 ·cases he
theorem B2' {α : Type} {k : AP α} {r : α}
  (he : (AP.write i o k).run st h n lg = .ok r h' n' lg' c) : ∃ o0, h.find i = some o0 /\ k.run st (T.set T.depth h i (.leaf o)) n ((i, true) :: lg) = .ok r h' n' lg' c := by
 rw [DO'] at he; split at he
 ·rename_i o0 ho; exact ⟨o0, ho, he⟩
 ·cases he
theorem EJ' {α : Type} {k : AP α} {r : α}
  (he : (AP.kill i k).run st h n lg = .ok r h' n' lg' c) : ∃ o0, h.find i = some o0 /\ k.run st (T.set T.depth h i .nil) n ((i, true) :: lg) = .ok r h' n' lg' c := by
 rw [EI'] at he; split at he
 ·rename_i o0 ho; exact ⟨o0, ho, he⟩
 ·cases he
theorem BX' {α : Type} {k : Nat -> AP α} {r : α}
  (he : (AP.new o k).run st h n lg = .ok r h' n' lg' c) : n < T.limit /\ (k n).run st (T.set T.depth h n (.leaf o)) (n + 1) lg = .ok r h' n' lg' c := by
 rw [GG'] at he; split at he
 ·rename_i hb; exact ⟨by simpa [bl'] using hb, he⟩
 ·cases he
theorem AG' {α : Type} {p : Prop} {k : AP α} {r : α}
  (he : (AP.need p k).run st h n lg = .ok r h' n' lg' c) : ∃ c', k.run st h n lg = .ok r h' n' lg' c' /\ c = Cnd.and (.p p) c' := by
 rw [AP.run] at he; exact U9' he
theorem E2' {α : Type} {p : AP AV} {k : AV -> Log -> Nat -> Nat -> AP α} {r : α}
  (he : (AP.listen p k).run st h n lg = .ok r h' n' lg' c) :
  ∃ v h1 n1 l1 c1 c2, p.run st h n [] = .ok v h1 n1 l1 c1 /\ (k v l1 n n1).run st h1 n1 (l1.filter (own n n1) ++ lg) = .ok r h' n' lg' c2 /\ c = Cnd.and c1 c2 := by
 rw [AP.run] at he; split at he
 ·rename_i v h1 n1 l1 c1 hp; rw [DD'] at he; obtain ⟨c2, h2, h3⟩ := U9' he; exact ⟨v, h1, n1, l1, c1, c2, hp, h2, h3⟩
 ·cases he
theorem run_bind {α β : Type} (p : AP α) (f : α -> AP β) : ∀ {h : T} {n : Nat} {lg : Log} {r : β} {h' : T} {n' : Nat} {lg' : Log} {c : Cnd},
  (p.bind f).run st h n lg = .ok r h' n' lg' c ->
  ∃ a h1 n1 lg1 c1 c2, p.run st h n lg = .ok a h1 n1 lg1 c1 /\ (f a).run st h1 n1 lg1 = .ok r h' n' lg' c2 /\ (c -> c1 /\ c2) := by
 induction p with
 | ret a => intro h n lg r h' n' lg' c he; exact ⟨a, h, n, lg, .t, c, rfl, he, fun hc => ⟨trivial, hc⟩⟩
 | fail why => intro h n lg r h' n' lg' c he; cases he
 | read i k ih =>
  intro h n lg r h' n' lg' c he; obtain ⟨o, ho, he⟩ := BM' he; obtain ⟨a, h1, n1, lg1, c1, c2, e1, e2, e3⟩ := ih o f he
  exact ⟨a, h1, n1, lg1, c1, c2, by rw [AP.run]; simp only [ho]; exact e1, e2, e3⟩
 | write i o k ih =>
  intro h n lg r h' n' lg' c he; obtain ⟨o0, ho, he⟩ := B2' he; obtain ⟨a, h1, n1, lg1, c1, c2, e1, e2, e3⟩ := ih f he
  exact ⟨a, h1, n1, lg1, c1, c2, by rw [DO']; simp only [ho]; exact e1, e2, e3⟩
 | kill i k ih =>
  intro h n lg r h' n' lg' c he; obtain ⟨o0, ho, he⟩ := EJ' he; obtain ⟨a, h1, n1, lg1, c1, c2, e1, e2, e3⟩ := ih f he
  exact ⟨a, h1, n1, lg1, c1, c2, by rw [EI']; simp only [ho]; exact e1, e2, e3⟩
 | new o k ih =>
  intro h n lg r h' n' lg' c he; obtain ⟨hn, he⟩ := BX' he; obtain ⟨a, h1, n1, lg1, c1, c2, e1, e2, e3⟩ := ih n f he
  have hb : Nat.blt n T.limit = true := by simpa [bl'] using hn
  exact ⟨a, h1, n1, lg1, c1, c2, by rw [GG']; simp only [hb]; exact e1, e2, e3⟩
 | need p k ih =>
  intro h n lg r h' n' lg' c he; obtain ⟨c', he2, rfl⟩ := AG' he; obtain ⟨a, h1, n1, lg1, c1, c2, e1, e2, e3⟩ := ih f he2
  exact ⟨a, h1, n1, lg1, Cnd.and (.p p) c1, c2, by rw [AP.run, e1]; rfl, e2, fun hc => by rw [Cnd.and_iff] at hc ⊢; exact ⟨⟨hc.1, (e3 hc.2).1⟩, (e3 hc.2).2⟩⟩
 | ite b x y ihx ihy =>
  intro h n lg r h' n' lg' c he
  cases b with
  | true => exact ihx f he
  | false => exact ihy f he
 | listen p k _ ih =>
  intro h n lg r h' n' lg' c he; obtain ⟨v, h1, n1, l1, c1, c2, hp, he2, rfl⟩ := E2' he; obtain ⟨a, h2, n2, lg2, c3, c4, e1, e2, e3⟩ := ih v l1 n n1 f he2
  exact ⟨a, h2, n2, lg2, Cnd.and c1 c3, c4, by rw [AP.run, hp]; simp only [DD']; rw [e1]; rfl, e2, fun hc => by rw [Cnd.and_iff] at hc ⊢; exact ⟨⟨hc.1, (e3 hc.2).1⟩, (e3 hc.2).2⟩⟩
theorem E4' {α : Type} (p : AP α) : ∀ {h : T} {n : Nat} {lg : Log} {r : α} {h' : T} {n' : Nat} {lg' : Log} {c : Cnd}, p.run st h n lg = .ok r h' n' lg' c -> n <= n' := by
 induction p with
 | ret a => intro h n lg r h' n' lg' c he; cases he; exact Nat.le_refl _
 | fail why => intro h n lg r h' n' lg' c he; cases he
 | read i k ih => intro h n lg r h' n' lg' c he; obtain ⟨o, _, he⟩ := BM' he; exact ih o he
 | write i o k ih => intro h n lg r h' n' lg' c he; obtain ⟨o, _, he⟩ := B2' he; exact ih he
 | kill i k ih => intro h n lg r h' n' lg' c he; obtain ⟨o, _, he⟩ := EJ' he; exact ih he
 | new o k ih => intro h n lg r h' n' lg' c he; obtain ⟨_, he⟩ := BX' he; have := ih n he; omega
 | need p k ih => intro h n lg r h' n' lg' c he; obtain ⟨_, he, _⟩ := AG' he; exact ih he
 | ite b x y ihx ihy =>
  intro h n lg r h' n' lg' c he
  cases b with
  | true => exact ihx he
  | false => exact ihy he
 | listen p k ihp ih =>
  intro h n lg r h' n' lg' c he; obtain ⟨v, h1, n1, l1, c1, c2, hp, he, _⟩ := E2' he; have := ihp hp; have := ih v l1 n n1 he; omega
def Wr (new : Log) (n n' i : Nat) : Prop := (i, true) ∈ new \/ (n <= i /\ i < n')
theorem K2' {α : Type} (p : AP α) : ∀ {h : T} {n : Nat} {lg : Log} {r : α} {h' : T} {n' : Nat} {lg' : Log} {c : Cnd}, p.run st h n lg = .ok r h' n' lg' c ->
  ∃ new, lg' = new ++ lg /\ (∀ i, ¬ Wr new n n' i -> h'.find i = h.find i) /\
   ∀ (g : T) (lg2 : Log), (∀ x ∈ new, g.find x.1 = h.find x.1) -> (∀ i, n <= i -> i < n' -> g.find i = h.find i) ->
    ∃ g', p.run st g n lg2 = .ok r g' n' (new ++ lg2) c /\ (∀ i, Wr new n n' i -> g'.find i = h'.find i) /\ ∀ i, ¬ Wr new n n' i -> g'.find i = g.find i := by
 induction p with
 | ret a =>
  intro h n lg r h' n' lg' c he; cases he
  exact ⟨[], rfl, fun _ _ => rfl, fun g lg2 _ _ => ⟨g, rfl, fun i hi => by rcases hi with hi | hi; cases hi; omega, fun _ _ => rfl⟩⟩
 | fail why => intro h n lg r h' n' lg' c he; cases he
 | read i k ih =>
  intro h n lg r h' n' lg' c he; obtain ⟨o, ho, he⟩ := BM' he; obtain ⟨new, e1, e2, e3⟩ := ih o he
  refine ⟨new ++ [(i, false)], by rw [e1]; simp, fun j hj => e2 j (fun hw => hj (hw.imp (by simp) id)), fun g lg2 hg hf => ?_⟩
  have hgo : g.find i = some o := (hg (i, false) (by simp)).trans ho; obtain ⟨g', f1, f2, f3⟩ := e3 g ((i, false) :: lg2) (fun x hx => hg x (by simp [hx])) hf
  refine ⟨g', by rw [AP.run]; simp only [hgo]; rw [f1]; simp, fun j hj => f2 j (hj.imp (by simp) id), fun j hj => f3 j (fun hw => hj (hw.imp (by simp) id))⟩
 | write i o k ih =>
  intro h n lg r h' n' lg' c he; obtain ⟨o0, ho, he⟩ := B2' he; have hi := T.lt_of_find ho; obtain ⟨new, e1, e2, e3⟩ := ih he
  refine ⟨new ++ [(i, true)], by rw [e1]; simp, fun j hj => ?_, fun g lg2 hg hf => ?_⟩
  ·rw [e2 j (fun hw => hj (hw.imp (by simp; exact .inl) id)), T.find_set hi, if_neg (fun e => hj (.inl (by simp [e])))]
  ·have hgo : g.find i = some o0 := (hg (i, true) (by simp)).trans ho; obtain ⟨g', f1, f2, f3⟩ := e3 (T.set T.depth g i (.leaf o)) ((i, true) :: lg2) (fun x hx => by rw [T.find_set hi, T.find_set hi, hg x (by simp [hx])]) (fun j h1 h2 => by rw [T.find_set hi, T.find_set hi, hf j h1 h2])
   refine ⟨g', by rw [DO']; simp only [hgo]; rw [f1]; simp, fun j hj => ?_, fun j hj => ?_⟩
   ·by_cases hw : Wr new n n' j
    ·exact f2 j hw
    ·have hji : j = i := by
      rcases hj with hj | hj
      ·rw [List.mem_append] at hj
       rcases hj with hj | hj
       ·exact absurd (.inl hj) hw
       ·simpa using hj
      ·exact absurd (.inr hj) hw
     subst hji; rw [f3 _ hw, e2 _ hw, T.find_set hi, T.find_set hi, if_pos rfl, if_pos rfl]
   ·rw [f3 j (fun hw => hj (hw.imp (by simp; exact .inl) id)), T.find_set hi, if_neg (fun e => hj (.inl (by simp [e])))]
 | kill i k ih =>
  intro h n lg r h' n' lg' c he; obtain ⟨o0, ho, he⟩ := EJ' he; have hi := T.lt_of_find ho; obtain ⟨new, e1, e2, e3⟩ := ih he
  refine ⟨new ++ [(i, true)], by rw [e1]; simp, fun j hj => ?_, fun g lg2 hg hf => ?_⟩
  ·rw [e2 j (fun hw => hj (hw.imp (by simp; exact .inl) id)), T.find_set hi, if_neg (fun e => hj (.inl (by simp [e])))]
  ·have hgo : g.find i = some o0 := (hg (i, true) (by simp)).trans ho; obtain ⟨g', f1, f2, f3⟩ := e3 (T.set T.depth g i .nil) ((i, true) :: lg2) (fun x hx => by rw [T.find_set hi, T.find_set hi, hg x (by simp [hx])]) (fun j h1 h2 => by rw [T.find_set hi, T.find_set hi, hf j h1 h2])
   refine ⟨g', by rw [EI']; simp only [hgo]; rw [f1]; simp, fun j hj => ?_, fun j hj => ?_⟩
   ·by_cases hw : Wr new n n' j
    ·exact f2 j hw
    ·have hji : j = i := by
      rcases hj with hj | hj
      ·rw [List.mem_append] at hj
       rcases hj with hj | hj
       ·exact absurd (.inl hj) hw
       ·simpa using hj
      ·exact absurd (.inr hj) hw
     subst hji; rw [f3 _ hw, e2 _ hw, T.find_set hi, T.find_set hi, if_pos rfl, if_pos rfl]
   ·rw [f3 j (fun hw => hj (hw.imp (by simp; exact .inl) id)), T.find_set hi, if_neg (fun e => hj (.inl (by simp [e])))]
 | new o k ih =>
  intro h n lg r h' n' lg' c he; obtain ⟨hn, he⟩ := BX' he; have hle := E4' _ he; obtain ⟨new, e1, e2, e3⟩ := ih n he
  refine ⟨new, e1, fun j hj => ?_, fun g lg2 hg hf => ?_⟩
  ·rw [e2 j (fun hw => hj (hw.imp id ω)), T.find_set hn, if_neg (fun e => hj (.inr ω))]
  ·obtain ⟨g', f1, f2, f3⟩ := e3 (T.set T.depth g n (.leaf o)) lg2 (fun x hx => by rw [T.find_set hn, T.find_set hn, hg x hx]) (fun j h1 h2 => by rw [T.find_set hn, T.find_set hn, hf j ω h2])
   have hb : Nat.blt n T.limit = true := by simpa [bl'] using hn
   refine ⟨g', by rw [GG']; simp only [hb]; exact f1, fun j hj => ?_, fun j hj => ?_⟩
   ·by_cases hw : Wr new (n + 1) n' j
    ·exact f2 j hw
    ·have hji : j = n := by
      rcases hj with hj | hj
      ·exact absurd (.inl hj) hw
      ·by_cases hjn : j = n
       ·exact hjn
       ·exact absurd (.inr ω) hw
     subst hji; rw [f3 _ hw, e2 _ hw, T.find_set hn, T.find_set hn, if_pos rfl, if_pos rfl]
   ·rw [f3 j (fun hw => hj (hw.imp id ω)), T.find_set hn, if_neg (fun e => hj (.inr ω))]
 | need p k ih =>
  intro h n lg r h' n' lg' c he; obtain ⟨c', he2, rfl⟩ := AG' he; obtain ⟨new, e1, e2, e3⟩ := ih he2
  refine ⟨new, e1, e2, fun g lg2 hg hf => ?_⟩
  obtain ⟨g', f1, f2, f3⟩ := e3 g lg2 hg hf
  exact ⟨g', by rw [AP.run, f1]; rfl, f2, f3⟩
 | ite b x y ihx ihy =>
  intro h n lg r h' n' lg' c he
  cases b with
  | true => exact ihx he
  | false => exact ihy he
 | listen p k ihp ih =>
  intro h n lg r h' n' lg' c he; obtain ⟨v, h1, n1, l1, c1, c2, hp, he2, rfl⟩ := E2' he; have hle1 := E4' _ hp; have hle2 := E4' _ he2; obtain ⟨new1, a1, a2, a3⟩ := ihp hp; obtain ⟨new, e1, e2, e3⟩ := ih v l1 n n1 he2; rw [List.append_nil] at a1; subst a1
  have hmem : ∀ i b, (i, b) ∈ l1.filter (own n n1) ↔ (i, b) ∈ l1 /\ ¬ (n <= i /\ i < n1) := fun i b => by
   simp only [List.mem_filter, own, Bool.or_eq_true, bl', Nat.ble_eq]
   exact and_congr_right fun _ => ω
  refine ⟨new ++ l1.filter (own n n1), by rw [e1]; simp, fun j hj => ?_, fun g lg2 hg hf => ?_⟩
  ·rw [e2 j (fun hw => hj (hw.imp (fun hm => List.mem_append_left _ hm) ω)), a2 j (fun hw => ?_)]
   rcases hw with hw | hw
   ·by_cases hin : n <= j /\ j < n1
    ·exact hj (.inr ω)
    ·exact hj (.inl (List.mem_append_right _ ((hmem j true).2 ⟨hw, hin⟩)))
   ·exact hj (.inr ω)
  ·obtain ⟨g1, b1, b2, b3⟩ := a3 g [] (fun x hx => by
    by_cases hin : n <= x.1 /\ x.1 < n1
    ·exact hf x.1 hin.1 ω
    ·exact hg x (List.mem_append_right _ ((hmem x.1 x.2).2 ⟨hx, hin⟩))) (fun i h1 h2 => hf i h1 ω)
   rw [List.append_nil] at b1
   have hag : ∀ i, g.find i = h.find i -> g1.find i = h1.find i := fun i hi => by
    by_cases hw : Wr l1 n n1 i
    ·exact b2 i hw
    ·rw [b3 i hw, a2 i hw, hi]
   obtain ⟨g', f1, f2, f3⟩ := e3 g1 (l1.filter (own n n1) ++ lg2) (fun x hx => hag _ (hg x (List.mem_append_left _ hx))) (fun i h1 h2 => hag _ (hf i ω h2))
   refine ⟨g', ?_, fun j hj => ?_, fun j hj => ?_⟩
   ·rw [AP.run, b1]; simp only [DD']; rw [f1]; simp [Out.and]
   ·by_cases hw : Wr new n1 n' j
    ·exact f2 j hw
    ·rw [f3 j hw, e2 j hw]; refine b2 j ?_
     rcases hj with hj | hj
     ·rw [List.mem_append] at hj
      rcases hj with hj | hj
      ·exact absurd (.inl hj) hw
      ·exact .inl ((hmem j true).1 hj).1
     ·refine .inr ⟨hj.1, ?_⟩
      rcases Nat.lt_or_ge j n1 with h' | h'
      ·exact h'
      ·exact absurd (.inr ⟨h', hj.2⟩) hw
   ·rw [f3 j (fun hw => hj (hw.imp (fun hm => List.mem_append_left _ hm) ω))]; refine b3 j (fun hw => ?_)
    rcases hw with hw | hw
    ·by_cases hin : n <= j /\ j < n1
     ·exact hj (.inr ω)
     ·exact hj (.inl (List.mem_append_right _ ((hmem j true).2 ⟨hw, hin⟩)))
    ·exact hj (.inr ω)
end Go.Proofs.YtnnojnlejlokhaaGreatDoor.Eng
