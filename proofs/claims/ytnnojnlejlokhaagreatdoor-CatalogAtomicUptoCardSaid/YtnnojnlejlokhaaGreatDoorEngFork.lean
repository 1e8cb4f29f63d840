/- All ways of an open run. No program. -/
import Derived.Test.YtnnojnlejlokhaaGreatDoorEngFrame
set_option linter.unusedVariables false
set_option linter.unusedSimpArgs false
namespace Go.Proofs.YtnnojnlejlokhaaGreatDoor.Eng
open Go Go.RowKit
noncomputable section
inductive OT (α : Type) where
 | ok (a : α) (h : T) (n : Nat) (lg : Log) (c : Cnd)
 | bad (why : String)
 | ite (b : Bool) (x y : OT α)
def OT.and {α : Type} (p : Cnd) : OT α -> OT α
 | .ok a h n lg c => .ok a h n lg (p.and c)
 | .bad why => .bad why
 | .ite b x y => .ite b (x.and p) (y.and p)
def OT.next {α β : Type} (f : α -> T -> Nat -> Log -> Cnd -> OT β) : OT α -> OT β
 | .ok a h n lg c => f a h n lg c
 | .bad why => .bad why
 | .ite b x y => .ite b (x.next f) (y.next f)
def AP.run2 {α : Type} (p : AP α) (h : T) (n : Nat) (lg : Log) : OT α :=
 match p with
 | .ret a => .ok a h n lg .t
 | .fail why => .bad why
 | .read i k => match h.find i with
  | some o => (k o).run2 h n ((i, false) :: lg)
  | none => .bad "read no such object"
 | .write i o k => match h.find i with
  | some _ => k.run2 (T.set T.depth h i (.leaf o)) n ((i, true) :: lg)
  | none => .bad "write no such object"
 | .kill i k => match h.find i with
  | some _ => k.run2 (T.set T.depth h i .nil) n ((i, true) :: lg)
  | none => .bad "kill no such object"
 | .new o k => match Nat.blt n T.limit with
  | true => (k n).run2 (T.set T.depth h n (.leaf o)) (n + 1) lg
  | false => .bad "no more names"
 | .need p k => (k.run2 h n lg).and (.p p)
 | .ite b x y => .ite b (x.run2 h n lg) (y.run2 h n lg)
 | .listen p k => (p.run2 h n []).next fun v h' n' l c => ((k v l n n').run2 h' n' (l.filter (own n n') ++ lg)).and c
def OT.pick {α : Type} : OT α -> Out α
 | .ok a h n lg c => .ok a h n lg c
 | .bad why => .bad why
 | .ite b x y => match b with
  | true => x.pick
  | false => y.pick
theorem OT.and_pick {α : Type} (p : Cnd) : ∀ o : OT α, (o.and p).pick = o.pick.and p
 | .ok .. => rfl
 | .bad _ => rfl
 | .ite b x y => by cases b <;> simp only [OT.and, OT.pick, OT.and_pick p x, OT.and_pick p y]
theorem OT.next_pick {α β : Type} {f : α -> T -> Nat -> Log -> Cnd -> OT β} : ∀ o : OT α, (o.next f).pick = match o.pick with | .ok a h n lg c => (f a h n lg c).pick | .bad why => .bad why
 | .ok .. => rfl
 | .bad _ => rfl
 | .ite b x y => by cases b <;> simp only [OT.next, OT.pick, OT.next_pick x, OT.next_pick y]
theorem E6' {α : Type} (p : AP α) : ∀ {h : T} {n : Nat} {lg : Log}, (p.run2 h n lg).pick = p.run false h n lg := by
 induction p with
 | ret a => intro h n lg; rfl
 | fail why => intro h n lg; rfl
 | read i k ih =>
  intro h n lg; rw [AP.run2, AP.run]
  cases h.find i with
  | some o => exact ih o
  | none => rfl
 | write i o k ih =>
  intro h n lg; rw [AP.run2, DO']
  cases h.find i with
  | some _ => exact ih
  | none => rfl
 | kill i k ih =>
  intro h n lg; rw [AP.run2, EI']
  cases h.find i with
  | some _ => exact ih
  | none => rfl
 | new o k ih =>
  intro h n lg; rw [AP.run2, GG']
  cases Nat.blt n T.limit with
  | true => exact ih n
  | false => rfl
 | need p k ih => intro h n lg; rw [AP.run2, AP.run, OT.and_pick, ih]
 | ite b x y ihx ihy =>
  intro h n lg; rw [AP.run2]
  cases b with
  | true => exact ihx
  | false => exact ihy
 | listen p k ihp ih =>
  intro h n lg; rw [AP.run2, AP.run, OT.next_pick, ihp]
  cases p.run false h n [] with
  | ok v h' n' l c =>
   simp only [DD']; rw [OT.and_pick, ih]
  | bad => rfl
inductive VT (α : Type) where
 | leaf (a : α) (os : List (Option AO)) (n : Nat) (c : Cnd)
 | bad (why : String)
 | ite (b : Bool) (x y : VT α)
def OT.view {α : Type} (ks : List Nat) : OT α -> VT α
 | .ok a h n _ c => .leaf a (ks.map h.find) n c
 | .bad why => .bad why
 | .ite b x y => .ite b (x.view ks) (y.view ks)
def VT.all {α : Type} (Q : α -> List (Option AO) -> Nat -> Prop) : VT α -> Prop
 | .leaf a os n c => c.holds /\ Q a os n
 | .bad _ => False
 | .ite b x y => (b = true -> x.all Q) /\ (b = false -> y.all Q)
theorem VT.all_pick {α : Type} {ks : List Nat} {Q : α -> List (Option AO) -> Nat -> Prop} : ∀ {o : OT α}, (o.view ks).all Q -> ∃ a h n lg c, o.pick = .ok a h n lg c /\ c.holds /\ Q a (ks.map h.find) n
 | .ok a h n lg c, hq => ⟨a, h, n, lg, c, rfl, hq⟩
 | .bad _, hq => hq.elim
 | .ite b x y, hq => by
  cases b with
  | true => exact VT.all_pick (o := x) (hq.1 rfl)
  | false => exact VT.all_pick (o := y) (hq.2 rfl)
end
end Go.Proofs.YtnnojnlejlokhaaGreatDoor.Eng
