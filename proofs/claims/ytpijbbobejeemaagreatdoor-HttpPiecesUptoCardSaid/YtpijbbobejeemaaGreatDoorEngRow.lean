/- Rows of like elements as cells. No program. -/
import Derived.Test.YtpijbbobejeemaaGreatDoorEngShut
set_option linter.unusedVariables false
set_option linter.unusedSimpArgs false
namespace Go.Proofs.YtpijbbobejeemaaGreatDoor.Eng
open Go Go.RowKit
theorem ow_cells {a b : List AV} {e : TypeId} (h : a = b) : OW (.cells a e) (.cells b e) := OW.of_eq (by rw [h])
def rowV {α : Type} (enc : α → List Value) (xs : List α) : List AV := vmap (xs.flatMap enc)
section
variable {α : Type} {enc : α → List Value} {k : Nat}
theorem vmap_length (l : List Value) : (vmap l).length = l.length := by simp [vmap]
theorem rowV_nil : rowV enc [] = [] := rfl
theorem rowV_cons (x : α) (xs : List α) : rowV enc (x :: xs) = vmap (enc x) ++ rowV enc xs := by simp [rowV, vmap]
theorem rowV_append (xs ys : List α) : rowV enc (xs ++ ys) = rowV enc xs ++ rowV enc ys := by simp [rowV, vmap]
theorem rowV_length (hk : ∀ x, (enc x).length = k) (xs : List α) : (rowV enc xs).length = xs.length * k := by
  induction xs with
  | nil => simp [rowV, vmap]
  | cons x xs ih => rw [rowV_cons, List.length_append, ih, vmap_length, hk, List.length_cons, Nat.add_mul, Nat.one_mul, Nat.add_comm]
theorem rowV_drop (hk : ∀ x, (enc x).length = k) : ∀ (xs : List α) (i : Nat), (rowV enc xs).drop (i * k) = rowV enc (xs.drop i)
  | xs, 0 => by simp
  | [], i + 1 => by simp [rowV_nil]
  | x :: xs, i + 1 => by
    have h2 : (i + 1) * k = (vmap (enc x)).length + i * k := by rw [vmap_length, hk, Nat.add_mul, Nat.one_mul, Nat.add_comm]
    rw [rowV_cons, h2, List.drop_length_add_append, rowV_drop hk xs i, List.drop_succ_cons]
theorem rowV_span (hk : ∀ x, (enc x).length = k) (xs : List α) (d : α) (i : Nat) (h : i < xs.length) : ((rowV enc xs).drop (i * k)).take k = vmap (enc (xs.getD i d)) := by
  rw [rowV_drop hk, List.drop_eq_getElem_cons h, rowV_cons, List.take_append_of_le_length (by rw [vmap_length, hk]; exact Nat.le_refl _), List.take_of_length_le (by rw [vmap_length, hk]; exact Nat.le_refl _)]
  simp [List.getD, List.getElem?_eq_getElem h]
theorem rens_vmap (σ : Nat → Nat) (l : List Value) : AV.rens σ (vmap l) = vmap l := by
  induction l with
  | nil => rfl
  | cons x l ih =>
    show AV.rens σ (AV.v x :: vmap l) = _
    rw [AV.rens, ih]; rfl
theorem rens_rowV (σ : Nat → Nat) (xs : List α) : AV.rens σ (rowV enc xs) = rowV enc xs := rens_vmap σ _
theorem cls_vmap (K : Nat → Bool) (l : List Value) : AV.cls K (vmap l) := by
  induction l with
  | nil => exact trivial
  | cons x l ih => exact ⟨trivial, ih⟩
theorem cls_rowV (K : Nat → Bool) (xs : List α) : AV.cls K (rowV enc xs) := cls_vmap K _
theorem one_rowV (h : ∀ x, (enc x).all oneV = true) (xs : List α) : (rowV enc xs).all AV.one = true := by
  rw [rowV, vmap, List.all_map]
  induction xs with
  | nil => rfl
  | cons x xs ih =>
    rw [List.flatMap_cons, List.all_append, ih, Bool.and_true]
    exact h x
end
end Go.Proofs.YtpijbbobejeemaaGreatDoor.Eng
