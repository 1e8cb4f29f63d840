/- Rows of like elements as cells. No program. -/
import Derived.Test.YtnnojnlejlokhaaGreatDoorEngShut
set_option linter.unusedVariables false
set_option linter.unusedSimpArgs false
namespace Go.Proofs.YtnnojnlejlokhaaGreatDoor.Eng
open Go Go.RowKit
def rowV {α : Type} (enc : α -> List Value) (xs : List α) : List AV := vmap (xs.flatMap enc)
section
variable {α : Type} {enc : α -> List Value} {k : Nat}
theorem DF' (l : List Value) : (vmap l).length = l.length := by simp [vmap]
theorem M6' : rowV enc [] = [] := rfl
theorem G1' (x : α) (xs : List α) : rowV enc (x :: xs) = vmap (enc x) ++ rowV enc xs := by simp [rowV, vmap]
theorem BY' (xs ys : List α) : rowV enc (xs ++ ys) = rowV enc xs ++ rowV enc ys := by simp [rowV, vmap]
theorem BP' (hk : ∀ x, (enc x).length = k) (xs : List α) : (rowV enc xs).length = xs.length * k := by
 induction xs with
 | nil => simp [rowV, vmap]
 | cons x xs ih => rw [G1', List.length_append, ih, DF', hk, List.length_cons, Nat.add_mul, Nat.one_mul, Nat.add_comm]
theorem K5' (hk : ∀ x, (enc x).length = k) : ∀ (xs : List α) (i : Nat), (rowV enc xs).drop (i * k) = rowV enc (xs.drop i)
 | xs, 0 => by simp
 | [], i + 1 => by simp [M6']
 | x :: xs, i + 1 => by
  have h2 : (i + 1) * k = (vmap (enc x)).length + i * k := by rw [DF', hk, Nat.add_mul, Nat.one_mul, Nat.add_comm]
  rw [G1', h2, List.drop_length_add_append, K5' hk xs i, List.drop_succ_cons]
theorem NP' (hk : ∀ x, (enc x).length = k) : ∀ (xs : List α) (i : Nat), (rowV enc xs).take (i * k) = rowV enc (xs.take i)
 | xs, 0 => by simp [M6']
 | [], i + 1 => by simp [M6']
 | x :: xs, i + 1 => by
  have h2 : (i + 1) * k = (vmap (enc x)).length + i * k := by rw [DF', hk, Nat.add_mul, Nat.one_mul, Nat.add_comm]
  rw [G1', h2, List.take_length_add_append, NP' hk xs i, List.take_succ_cons, G1']
theorem K4' (hk : ∀ x, (enc x).length = k) (xs : List α) (d : α) (i : Nat) (h : i < xs.length) : ((rowV enc xs).drop (i * k)).take k = vmap (enc (xs.getD i d)) := by
 rw [K5' hk, List.drop_eq_getElem_cons h, G1', List.take_append_of_le_length (by rw [DF', hk]; exact Nat.le_refl _), List.take_of_length_le (by rw [DF', hk]; exact Nat.le_refl _)]; simp [List.getD, List.getElem?_eq_getElem h]
theorem AS' (σ : Nat -> Nat) (l : List Value) : AV.rens σ (vmap l) = vmap l := by
 induction l with
 | nil => rfl
 | cons x l ih =>
  show AV.rens σ (AV.v x :: vmap l) = _; rw [AV.rens, ih]; rfl
theorem A5' (σ : Nat -> Nat) (xs : List α) : AV.rens σ (rowV enc xs) = rowV enc xs := AS' σ _
theorem C1' (K : Nat -> Bool) (l : List Value) : AV.cls K (vmap l) := by
 induction l with
 | nil => exact trivial
 | cons x l ih => exact ⟨trivial, ih⟩
theorem RS' (K : Nat -> Bool) (xs : List α) : AV.cls K (rowV enc xs) := C1' K _
end
end Go.Proofs.YtnnojnlejlokhaaGreatDoor.Eng
