/- Rows of like elements as cells. No program. -/
import Derived.Test.YtnnojnlejlokhaaGreatDoorEngShut
set_option linter.unusedVariables false
set_option linter.unusedSimpArgs false
namespace Go.Proofs.YtnnojnlejlokhaaGreatDoor.Eng
open Go Go.RowKit
def rowV {α : Type} (enc : α -> List Value) (xs : List α) : List AV := vmap (xs.flatMap enc)
section
variable {α : Type} {enc : α -> List Value} {k : Nat}
theorem DU' (l : List Value) : (vmap l).length = l.length := by simp [vmap]
theorem U2' : rowV enc [] = [] := rfl
theorem J7' (x : α) (xs : List α) : rowV enc (x :: xs) = vmap (enc x) ++ rowV enc xs := by simp [rowV, vmap]
theorem AB' (xs ys : List α) : rowV enc (xs ++ ys) = rowV enc xs ++ rowV enc ys := by simp [rowV, vmap]
theorem BE' (hk : ∀ x, (enc x).length = k) (xs : List α) : (rowV enc xs).length = xs.length * k := by
 induction xs with
 | nil => simp [rowV, vmap]
 | cons x xs ih => rw [J7', List.length_append, ih, DU', hk, List.length_cons, Nat.add_mul, Nat.one_mul, Nat.add_comm]
theorem MD' (hk : ∀ x, (enc x).length = k) : ∀ (xs : List α) (i : Nat), (rowV enc xs).drop (i * k) = rowV enc (xs.drop i)
 | xs, 0 => by simp
 | [], i + 1 => by simp [U2']
 | x :: xs, i + 1 => by
  have h2 : (i + 1) * k = (vmap (enc x)).length + i * k := by rw [DU', hk, Nat.add_mul, Nat.one_mul, Nat.add_comm]
  rw [J7', h2, List.drop_length_add_append, MD' hk xs i, List.drop_succ_cons]
theorem MC' (hk : ∀ x, (enc x).length = k) (xs : List α) (d : α) (i : Nat) (h : i < xs.length) : ((rowV enc xs).drop (i * k)).take k = vmap (enc (xs.getD i d)) := by
 rw [MD' hk, List.drop_eq_getElem_cons h, J7', List.take_append_of_le_length (by rw [DU', hk]; exact Nat.le_refl _), List.take_of_length_le (by rw [DU', hk]; exact Nat.le_refl _)]; simp [List.getD, List.getElem?_eq_getElem h]
theorem EI' (σ : Nat -> Nat) (l : List Value) : AV.rens σ (vmap l) = vmap l := by
 induction l with
 | nil => rfl
 | cons x l ih =>
  show AV.rens σ (AV.v x :: vmap l) = _; rw [AV.rens, ih]; rfl
theorem AD' (σ : Nat -> Nat) (xs : List α) : AV.rens σ (rowV enc xs) = rowV enc xs := EI' σ _
theorem EW' (K : Nat -> Bool) (l : List Value) : AV.cls K (vmap l) := by
 induction l with
 | nil => exact trivial
 | cons x l ih => exact ⟨trivial, ih⟩
theorem PX' (K : Nat -> Bool) (xs : List α) : AV.cls K (rowV enc xs) := EW' K _
end
end Go.Proofs.YtnnojnlejlokhaaGreatDoor.Eng
