/- Rows of like elements as cells. No program. -/
import Derived.Test.YtjjjchmkonnpfaaEngShut
set_option linter.unusedVariables false
set_option linter.unusedSimpArgs false
namespace Go.Proofs.Ytjjjchmkonnpfaa.Eng
open Go Go.RowKit
theorem aN' {a b : List (AV × AV × Nat)} {c d : Nat} (h1 : a = b) (h2 : c = d) : OW (.map a c) (.map b d) := OW.of_eq (by rw [h1, h2])
theorem NH' {a b : List AV} {e : TypeId} (h : a = b) : OW (.cells a e) (.cells b e) := OW.of_eq (by rw [h])
def rowV {α : Type} (enc : α -> List Value) (xs : List α) : List AV := vmap (xs.flatMap enc)
section
variable {α : Type} {enc : α -> List Value} {k : Nat}
theorem CQ' (l : List Value) : (vmap l).length = l.length := by simp [vmap]
theorem NC' : rowV enc [] = [] := rfl
theorem GQ' (x : α) (xs : List α) : rowV enc (x :: xs) = vmap (enc x) ++ rowV enc xs := by simp [rowV, vmap]
theorem DS' (xs ys : List α) : rowV enc (xs ++ ys) = rowV enc xs ++ rowV enc ys := by simp [rowV, vmap]
theorem KB' (x : α) : rowV enc [x] = vmap (enc x) := by simp [rowV]
theorem B9' (hk : ∀ x, (enc x).length = k) (xs : List α) : (rowV enc xs).length = xs.length * k := by
 induction xs with
 | nil => simp [rowV, vmap]
 | cons x xs ih => rw [GQ', List.length_append, ih, CQ', hk, List.length_cons, Nat.add_mul, Nat.one_mul, Nat.add_comm]
theorem KV' (hk : ∀ x, (enc x).length = k) : ∀ (xs : List α) (i : Nat), (rowV enc xs).drop (i * k) = rowV enc (xs.drop i)
 | xs, 0 => by simp
 | [], i + 1 => by simp [NC']
 | x :: xs, i + 1 => by
  have h2 : (i + 1) * k = (vmap (enc x)).length + i * k := by rw [CQ', hk, Nat.add_mul, Nat.one_mul, Nat.add_comm]
  rw [GQ', h2, List.drop_length_add_append, KV' hk xs i, List.drop_succ_cons]
theorem EQ' (hk : ∀ x, (enc x).length = k) : ∀ (xs : List α) (i : Nat), (rowV enc xs).take (i * k) = rowV enc (xs.take i)
 | xs, 0 => by simp [NC']
 | [], i + 1 => by simp [NC']
 | x :: xs, i + 1 => by
  have h2 : (i + 1) * k = (vmap (enc x)).length + i * k := by rw [CQ', hk, Nat.add_mul, Nat.one_mul, Nat.add_comm]
  rw [GQ', h2, List.take_length_add_append, EQ' hk xs i, List.take_succ_cons, GQ']
theorem KU' (hk : ∀ x, (enc x).length = k) (xs : List α) (d : α) (i : Nat) (h : i < xs.length) : ((rowV enc xs).drop (i * k)).take k = vmap (enc (xs.getD i d)) := by
 rw [KV' hk, List.drop_eq_getElem_cons h, GQ', List.take_append_of_le_length (by rw [CQ', hk]; exact Nat.le_refl _), List.take_of_length_le (by rw [CQ', hk]; exact Nat.le_refl _)]; simp [List.getD, List.getElem?_eq_getElem h]
theorem QD' (hk : ∀ x, (enc x).length = k) (xs : List α) (i : Nat) (y : α) (h : i < xs.length) : splice (rowV enc xs) (i * k) (vmap (enc y)) = rowV enc (xs.set i y) := by
 have h2 : i * k + (vmap (enc y)).length = (i + 1) * k := by rw [CQ', hk, Nat.add_mul, Nat.one_mul]
 rw [splice, h2, EQ' hk, KV' hk, <- KB' (enc := enc), <- DS', <- DS', List.set_eq_take_append_cons_drop, if_pos h, List.append_assoc, List.singleton_append]
theorem BN' (σ : Nat -> Nat) (l : List Value) : AV.rens σ (vmap l) = vmap l := by
 induction l with
 | nil => rfl
 | cons x l ih =>
  show AV.rens σ (AV.v x :: vmap l) = _; rw [AV.rens, ih]; rfl
theorem BG' (σ : Nat -> Nat) (xs : List α) : AV.rens σ (rowV enc xs) = rowV enc xs := BN' σ _
theorem HF' (K : Nat -> Bool) (l : List Value) : AV.cls K (vmap l) := by
 induction l with
 | nil => exact trivial
 | cons x l ih => exact ⟨trivial, ih⟩
theorem DP' (K : Nat -> Bool) (xs : List α) : AV.cls K (rowV enc xs) := HF' K _
theorem Y7' (h : ∀ x, (enc x).all oneV = true) (xs : List α) : (rowV enc xs).all AV.one = true := by
 rw [rowV, vmap, List.all_map]
 induction xs with
 | nil => rfl
 | cons x xs ih =>
  rw [List.flatMap_cons, List.all_append, ih, Bool.and_true]; exact h x
end
end Go.Proofs.Ytjjjchmkonnpfaa.Eng
