/- Maps with keys of whatever kind. No program. -/
import Derived.Test.YtpijbbobejeemaaGreatDoorEngRow
set_option linter.unusedVariables false
set_option linter.unusedSimpArgs false
namespace Go.Proofs.YtpijbbobejeemaaGreatDoor.Eng
open Go Go.RowKit
abbrev KMap (κ α : Type) := List (κ × α × Nat)
structure KOK {κ : Type} [DecidableEq κ] (kv : κ → Value) : Prop where
  inj : ∀ a b, valQ (kv a) (kv b) = decide (a = b)
  same : ∀ k, Instr.sameBits 10000 (kv k) (kv k) = true
section
variable {κ α : Type} {kv : κ → Value} {ev : α → AV}
structure KI (m : KMap κ α) (c : Nat) : Prop where
  keys : (m.map (·.1)).Nodup
  stamps : (m.map (·.2.2)).Nodup
  low : ∀ e ∈ m, e.2.2 < c
theorem KI.nil : KI ([] : KMap κ α) 0 := ⟨List.nodup_nil, List.nodup_nil, fun e he => by cases he⟩
end
section
variable {κ α : Type} [DecidableEq κ] {kv : κ → Value} {ev : α → AV}
/-! What is found afterwards. -/
end
end Go.Proofs.YtpijbbobejeemaaGreatDoor.Eng
