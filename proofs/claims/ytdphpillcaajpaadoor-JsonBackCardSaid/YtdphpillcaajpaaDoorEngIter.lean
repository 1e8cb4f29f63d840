/- The engine's iterators over maps, and what is emptied. No program. -/
import Derived.Test.YtdphpillcaajpaaDoorEngOps2
import Derived.Test.YtdphpillcaajpaaDoorEngMem7
set_option linter.unusedVariables false
set_option linter.unusedSimpArgs false
namespace Go.Proofs.YtdphpillcaajpaaDoor.Eng
open Go Go.RowKit
variable {a : AV} {v : Value}
section
variable {P : Program} {E : Env} {W0 w : World} {N : A5'} {F : HP} {st : Bool} {h h' : T} {n n' : Nat} {lg lg' : Log} {c : Cnd}
theorem QH' (hE : EnvOk P E) (r : Rep W0 N F h w) {t ty : TypeId} {m : AV} {vm : Value} (hm : VR N m vm) (he : (aC' E t m).run st h n lg = .ok a h' n' lg' c) (hc : c.holds) :
  ∃ w' y, (Builtin.clear_ #[t] ty #[vm]).run P w = .ok y w' /\ Rep W0 N F h' w' /\ n' = n /\ VR N a y := by
 unfold aC' at he; cases he
theorem QG' (hE : EnvOk P E) (r : Rep W0 N F h w) {f : FuncId} (hcl : E.clone f = true) {x : AV} {an : AN} (hfr : BE' N n n') (hx : VR N x v) (he : (TY' x).run st h n lg = .ok an h' n' lg' c) :
  ∃ w' N' nx, (callFunc f #[v]).run P w = .ok nx w' /\ Rep W0 N' F h' w' /\ Ext N N' n n' /\ aQ' N' an nx := by
 unfold TY' at he; cases he
theorem ERs.filter {p : AV × AV × Nat -> Bool} {q : MapEntry -> Bool} (hpq : ∀ a e, ER N a e -> p a = q e) : ∀ {l : List (AV × AV × Nat)} {l' : List MapEntry}, ERs N l l' -> ERs N (l.filter p) (l'.filter q)
 | [], l', h => by simp only [ERs] at h; subst h; simp [ERs]
 | a :: l, l', ⟨e, r, h1, h2, h3⟩ => by
  subst h3; have h4 := ERs.filter hpq h2; rw [List.filter_cons, List.filter_cons, hpq a e h1]; cases q e
  ·exact h4
  ·exact ⟨e, _, h1, h4, rfl⟩
theorem ERs.nil {l' : List MapEntry} (h : ERs N [] l') : l' = [] := by simpa only [ERs] using h
theorem ERs.one {a : AV × AV × Nat} {l' : List MapEntry} (h : ERs N [a] l') : ∃ e, l' = [e] /\ ER N a e := by
 obtain ⟨e, r, h1, h2, rfl⟩ := h; rw [ERs.nil h2]; exact ⟨e, rfl, h1⟩
theorem ERs.any {p : AV × AV × Nat -> Bool} {q : MapEntry -> Bool} (hpq : ∀ a e, ER N a e -> p a = q e) : ∀ {l : List (AV × AV × Nat)} {l' : List MapEntry}, ERs N l l' -> l.any p = l'.any q
 | [], l', h => by simp only [ERs] at h; subst h; rfl
 | a :: l, l', ⟨e, r, h1, h2, h3⟩ => by
  subst h3; rw [List.any_cons, List.any_cons, hpq a e h1, ERs.any hpq h2]
theorem ERs.find {p : AV × AV × Nat -> Bool} {q : MapEntry -> Bool} (hpq : ∀ a e, ER N a e -> p a = q e) : ∀ {l : List (AV × AV × Nat)} {l' : List MapEntry}, ERs N l l' -> ∀ {x}, l.find? p = some x -> ∃ e, l'.find? q = some e /\ ER N x e
 | [], l', h, x, hx => by cases hx
 | a :: l, l', ⟨e, r, h1, h2, h3⟩, x, hx => by
  subst h3; rw [List.find?_cons] at hx ⊢; rw [<- hpq a e h1]
  cases hp : p a with
  | true => rw [hp] at hx; cases hx; exact ⟨e, rfl, h1⟩
  | false => rw [hp] at hx; exact ERs.find hpq h2 hx
theorem ERs.len {l : List (AV × AV × Nat)} {r : List MapEntry} (h : ERs N l r) : l.length = r.length := (I1'.1 h).1
theorem QC' (r : Rep W0 N F h w) {it : AV} {ty : TypeId} (hx : VR N it v) (he : (a7' it).run st h n lg = .ok a h' n' lg' c) :
  ∃ w' y, (Instr.next v false ty).run P w = .ok y w' /\ Rep W0 N F h' w' /\ n' = n /\ VR N a y := by
 unfold a7' at he; cases he
theorem QF' (r : Rep W0 N F h w) {it : AV} (hx : VR N it v) (he : (aB' it).run st h n lg = .ok a h' n' lg' c) :
  ∃ y, (Instr.entry v).run P w = .ok y w /\ h' = h /\ n' = n /\ VR N a y := by
 unfold aB' at he; cases he
end
end Go.Proofs.YtdphpillcaajpaaDoor.Eng
