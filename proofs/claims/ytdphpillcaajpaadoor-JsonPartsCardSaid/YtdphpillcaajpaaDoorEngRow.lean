/- Rows of like elements as cells. No program. -/
import Derived.Test.YtdphpillcaajpaaDoorEngShut
set_option linter.unusedVariables false
set_option linter.unusedSimpArgs false
namespace Go.Proofs.YtdphpillcaajpaaDoor.Eng
open Go Go.RowKit
def rowV {α : Type} (enc : α → List Value) (xs : List α) : List AV := vmap (xs.flatMap enc)
section
variable {α : Type} {enc : α → List Value} {k : Nat}
theorem vmap_length (l : List Value) : (vmap l).length = l.length := by simp [vmap]
theorem rowV_cons (x : α) (xs : List α) : rowV enc (x :: xs) = vmap (enc x) ++ rowV enc xs := by simp [rowV, vmap]
theorem rowV_length (hk : ∀ x, (enc x).length = k) (xs : List α) : (rowV enc xs).length = xs.length * k := by
  induction xs with
  | nil => simp [rowV, vmap]
  | cons x xs ih => rw [rowV_cons, List.length_append, ih, vmap_length, hk, List.length_cons, Nat.add_mul, Nat.one_mul, Nat.add_comm]
end
end Go.Proofs.YtdphpillcaajpaaDoor.Eng
