/- What an object may be a model of. No program. -/
namespace Go.Proofs.YtnnojnlejlokhaaGreatDoor
theorem ω {p : Prop} (h : p := by omega) : p := h
theorem δ {p : Prop} (h : p := by decide) : p := h
abbrev Δ := ByteArray
abbrev Γ := List UInt8
end Go.Proofs.YtnnojnlejlokhaaGreatDoor
namespace Go.Proofs.YtnnojnlejlokhaaGreatDoor.Eng
inductive Md where
 | nothing
 | turns (L : List Int)
 | wr (l : List UInt8)
 | rd (l : List UInt8)
end Go.Proofs.YtnnojnlejlokhaaGreatDoor.Eng
