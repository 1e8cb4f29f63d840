/- The operations on memory, said of parts that lie side by side. No program. -/
import Derived.Test.YtfledabgdcnkfaaSat
set_option linter.unusedVariables false
set_option linter.unusedSimpArgs false
namespace Go.Proofs.Ytfledabgdcnkfaa
open Go.RowKit
section
variable {P : Program} {W0 w : World} {t : List HP}

end

theorem Sat.row_lit {W0 w : World} {t : List HP} (hs : Sat W0 t w) (e : TypeId) (size n : Nat) (xs : List Value) (hl : xs.length = n * size) (hn : n ≤ maxLen) :
    Sat W0 (HP.row e size (.slice (some ⟨w.heap.size, 0, none⟩) n n) n xs :: t) (w.alloc (.cells xs.toArray e)) :=
  Sat.row_new hs ((Below.refl _ _).alloc (Nat.le_refl _) _) ⟨hl, .inr ⟨w.heap.size, n, xs.toArray, rfl, Nat.le_refl _, heap_alloc_new w _, Nat.le_refl _, hn, by simpa using hl, by rw [← hl]; simp⟩⟩

/-! What a slice that owns its block reads as. -/
end Go.Proofs.Ytfledabgdcnkfaa
