/- Rows of like elements as cells. No program. -/
import Derived.Test.YtdphpillcaajpaaGreatDoorEngShut
set_option linter.unusedVariables false
set_option linter.unusedSimpArgs false
namespace Go.Proofs.YtdphpillcaajpaaGreatDoor.Eng
open Go Go.RowKit
def rowV {α : Type} (enc : α → List Value) (xs : List α) : List AV := vmap (xs.flatMap enc)
section
variable {α : Type} {enc : α → List Value} {k : Nat}
theorem J3' (l : List Value) : (vmap l).length = l.length := by simp [vmap]
theorem QF' : rowV enc [] = [] := rfl
theorem JB' (x : α) (xs : List α) : rowV enc (x :: xs) = vmap (enc x) ++ rowV enc xs := by simp [rowV, vmap]
theorem JC' (xs ys : List α) : rowV enc (xs ++ ys) = rowV enc xs ++ rowV enc ys := by simp [rowV, vmap]
theorem W4' (x : α) : rowV enc [x] = vmap (enc x) := by simp [rowV]
theorem GL' (hk : ∀ x, (enc x).length = k) (xs : List α) : (rowV enc xs).length = xs.length * k := by
 induction xs with
 | nil => simp [rowV, vmap]
 | cons x xs ih => rw [JB', List.length_append, ih, J3', hk, List.length_cons, Nat.add_mul, Nat.one_mul, Nat.add_comm]
theorem N5' (hk : ∀ x, (enc x).length = k) : ∀ (xs : List α) (i : Nat), (rowV enc xs).take (i * k) = rowV enc (xs.take i)
 | xs, 0 => by simp [QF']
 | [], i + 1 => by simp [QF']
 | x :: xs, i + 1 => by
  have h2 : (i + 1) * k = (vmap (enc x)).length + i * k := by rw [J3', hk, Nat.add_mul, Nat.one_mul, Nat.add_comm]
  rw [JB', h2, List.take_length_add_append, N5' hk xs i, List.take_succ_cons, JB']
theorem SY' (σ : Nat → Nat) (l : List Value) : AV.rens σ (vmap l) = vmap l := by
 induction l with
 | nil => rfl
 | cons x l ih =>
  show AV.rens σ (AV.v x :: vmap l) = _
  rw [AV.rens, ih]; rfl
theorem AQ' (σ : Nat → Nat) (xs : List α) : AV.rens σ (rowV enc xs) = rowV enc xs := SY' σ _
theorem XV' (K : Nat → Bool) (l : List Value) : AV.cls K (vmap l) := by
 induction l with
 | nil => exact trivial
 | cons x l ih => exact ⟨trivial, ih⟩
theorem M2' (K : Nat → Bool) (xs : List α) : AV.cls K (rowV enc xs) := XV' K _
end
end Go.Proofs.YtdphpillcaajpaaGreatDoor.Eng
