/- Maps with whole numbers as keys. No program. -/
import Derived.Test.YtnnojnlejlokhaaGreatDoorEngRow
set_option linter.unusedVariables false
set_option linter.unusedSimpArgs false
namespace Go.Proofs.YtnnojnlejlokhaaGreatDoor.Eng
open Go Go.RowKit
abbrev IMap (α : Type) := List (Int × α × Nat)
section
variable {α : Type} {ev : α -> AV}
structure MI (m : IMap α) (c : Nat) : Prop where
 keys : (m.map (·.1)).Nodup
 stamps : (m.map (·.2.2)).Nodup
 low : ∀ e ∈ m, e.2.2 < c
theorem MI.nil : MI ([] : IMap α) 0 := ⟨List.nodup_nil, List.nodup_nil, fun e he => by cases he⟩
end
end Go.Proofs.YtnnojnlejlokhaaGreatDoor.Eng
