/- What an object may be a model of: queues, items in line. No program. -/
namespace Go.Proofs.Ytjjjchmkonnpfaa
theorem ω {p : Prop} (h : p := by omega) : p := h
theorem δ {p : Prop} (h : p := by decide) : p := h
abbrev Δ := ByteArray
abbrev Γ := List UInt8
end Go.Proofs.Ytjjjchmkonnpfaa
namespace Go.Proofs.Ytjjjchmkonnpfaa.Eng
structure It where
 a : Int
 b : Int
 c : Int
 deriving DecidableEq
structure Ps where
 xs : List It
 g : List It
 m : List (Int × Int × Nat)
 ck : Nat
inductive Md where
 | turns (L : List Int)
 | nothing
 | pile0
 | pile (s : Ps)
 | line (L : List It)
end Go.Proofs.Ytjjjchmkonnpfaa.Eng
