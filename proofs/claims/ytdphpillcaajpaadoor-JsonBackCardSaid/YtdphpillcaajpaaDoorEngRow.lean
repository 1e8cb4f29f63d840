/- Rows of like elements as cells. No program. -/
import Derived.Test.YtdphpillcaajpaaDoorEngShut
set_option linter.unusedVariables false
set_option linter.unusedSimpArgs false
namespace Go.Proofs.YtdphpillcaajpaaDoor.Eng
open Go Go.RowKit
theorem SZ' {a b : List AV} {e : TypeId} (h : a = b) : OW (.cells a e) (.cells b e) := OW.of_eq (by rw [h])
def rowV {α : Type} (enc : α -> List Value) (xs : List α) : List AV := vmap (xs.flatMap enc)
section
variable {α : Type} {enc : α -> List Value} {k : Nat}
theorem DI' (l : List Value) : (vmap l).length = l.length := by simp [vmap]
theorem NH' : rowV enc [] = [] := rfl
theorem GG' (x : α) (xs : List α) : rowV enc (x :: xs) = vmap (enc x) ++ rowV enc xs := by simp [rowV, vmap]
theorem HQ' (xs ys : List α) : rowV enc (xs ++ ys) = rowV enc xs ++ rowV enc ys := by simp [rowV, vmap]
theorem ST' (x : α) : rowV enc [x] = vmap (enc x) := by simp [rowV]
theorem CP' (hk : ∀ x, (enc x).length = k) (xs : List α) : (rowV enc xs).length = xs.length * k := by
 induction xs with
 | nil => simp [rowV, vmap]
 | cons x xs ih => rw [GG', List.length_append, ih, DI', hk, List.length_cons, Nat.add_mul, Nat.one_mul, Nat.add_comm]
theorem OS' (hk : ∀ x, (enc x).length = k) : ∀ (xs : List α) (i : Nat), (rowV enc xs).drop (i * k) = rowV enc (xs.drop i)
 | xs, 0 => by simp
 | [], i + 1 => by simp [NH']
 | x :: xs, i + 1 => by
  have h2 : (i + 1) * k = (vmap (enc x)).length + i * k := by rw [DI', hk, Nat.add_mul, Nat.one_mul, Nat.add_comm]
  rw [GG', h2, List.drop_length_add_append, OS' hk xs i, List.drop_succ_cons]
theorem OR' (hk : ∀ x, (enc x).length = k) : ∀ (xs : List α) (i : Nat), (rowV enc xs).take (i * k) = rowV enc (xs.take i)
 | xs, 0 => by simp [NH']
 | [], i + 1 => by simp [NH']
 | x :: xs, i + 1 => by
  have h2 : (i + 1) * k = (vmap (enc x)).length + i * k := by rw [DI', hk, Nat.add_mul, Nat.one_mul, Nat.add_comm]
  rw [GG', h2, List.take_length_add_append, OR' hk xs i, List.take_succ_cons, GG']
theorem WI' (hk : ∀ x, (enc x).length = k) (xs : List α) (d : α) (i : Nat) (h : i < xs.length) : ((rowV enc xs).drop (i * k)).take k = vmap (enc (xs.getD i d)) := by
 rw [OS' hk, List.drop_eq_getElem_cons h, GG', List.take_append_of_le_length (by rw [DI', hk]; exact Nat.le_refl _), List.take_of_length_le (by rw [DI', hk]; exact Nat.le_refl _)]; simp [List.getD, List.getElem?_eq_getElem h]
theorem WN' (σ : Nat -> Nat) (l : List Value) : AV.rens σ (vmap l) = vmap l := by
 induction l with
 | nil => rfl
 | cons x l ih =>
  show AV.rens σ (AV.v x :: vmap l) = _; rw [AV.rens, ih]; rfl
theorem AO' (σ : Nat -> Nat) (xs : List α) : AV.rens σ (rowV enc xs) = rowV enc xs := WN' σ _
theorem f5' (K : Nat -> Bool) (l : List Value) : AV.cls K (vmap l) := by
 induction l with
 | nil => exact trivial
 | cons x l ih => exact ⟨trivial, ih⟩
theorem IQ' (K : Nat -> Bool) (xs : List α) : AV.cls K (rowV enc xs) := f5' K _
end
end Go.Proofs.YtdphpillcaajpaaDoor.Eng
