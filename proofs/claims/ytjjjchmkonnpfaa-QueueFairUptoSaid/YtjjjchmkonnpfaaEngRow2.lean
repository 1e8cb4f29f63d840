/- Rows of like elements: cells one by one. No program. -/
import Derived.Test.YtjjjchmkonnpfaaEngCon
import Derived.Test.YtjjjchmkonnpfaaEngRow
set_option linter.unusedVariables false
set_option linter.unusedSimpArgs false
namespace Go.Proofs.Ytjjjchmkonnpfaa.Eng
open Go Go.RowKit
section
variable {α : Type} {enc : α → List Value} {k : Nat}
theorem row_getD (hk : ∀ x, (enc x).length = k) (L : List α) (d0 : α) (i : Nat) (hi : i < L.length) (j : Nat) (hj : j < k) (v : Value) (hv : (enc (L.getD i d0))[j]? = some v) (d : AV) : (rowV enc L).getD (0 + i * k + j) d = .v v := by
  have h := rowV_span hk L d0 i hi
  have h2 : (((rowV enc L).drop (i * k)).take k)[j]? = some (.v v) := by
    rw [h, vmap, List.getElem?_map, hv]; rfl
  rw [List.getElem?_take_of_lt hj, List.getElem?_drop] at h2
  rw [Nat.zero_add, List.getD, h2]; rfl
theorem row_take (hk : ∀ x, (enc x).length = k) (L : List α) (d0 : α) (i : Nat) (hi : i < L.length) : List.take k (List.drop (0 + i * k) (rowV enc L)) = vmap (enc (L.getD i d0)) := by
  rw [Nat.zero_add]; exact rowV_span hk L d0 i hi
theorem row_lt (hk : ∀ x, (enc x).length = k) (L : List α) (i : Nat) (hi : i < L.length) (j : Nat) (hj : j < k) : (0 + i * k + j).blt (rowV enc L).length = true := by
  rw [Nat.blt_eq, rowV_length hk, Nat.zero_add]
  calc i * k + j < i * k + k := by omega
    _ = (i + 1) * k := by rw [Nat.add_mul, Nat.one_mul]
    _ ≤ L.length * k := Nat.mul_le_mul_right k hi
theorem row_addW (hk : ∀ x, (enc x).length = k) (P : List α) (y : α) : List.take (P.length * k) (List.drop 0 (rowV enc P)) ++ vmap (enc y) = rowV enc (P ++ [y]) := by
  rw [List.drop_zero, rowV_take hk, List.take_length, ← rowV_one (enc := enc), ← rowV_append]
theorem row_full (hk : ∀ x, (enc x).length = k) (P : List α) : (List.take (P.length * k) (List.drop 0 (rowV enc P))).length.beq (P.length * k) = true := by
  rw [List.drop_zero, rowV_take hk, List.take_length, rowV_length hk]; exact Nat.beq_refl _
theorem row_in (hk : ∀ x, (enc x).length = k) (P : List α) : (0 + P.length * k).ble (rowV enc P).length = true := by
  rw [rowV_length hk, Nat.ble_eq]; omega
end
theorem getD_lt {α : Type} {L : List α} {d : α} {i : Nat} (h : i < L.length) : L.getD i d ∈ L := by
  rw [List.getD, List.getElem?_eq_getElem h]; exact List.getElem_mem h
end Go.Proofs.Ytjjjchmkonnpfaa.Eng
