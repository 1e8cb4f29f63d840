/- What an object may be a model of: builders of texts. No program. -/
namespace Go.Proofs.YtdphpillcaajpaaDoor
theorem ω {p : Prop} (h : p := by omega) : p := h
theorem δ {p : Prop} (h : p := by decide) : p := h
abbrev Δ := ByteArray
abbrev Γ := List UInt8
end Go.Proofs.YtdphpillcaajpaaDoor
namespace Go.Proofs.YtdphpillcaajpaaDoor.Eng
inductive Md where
 | text (s : ByteArray)
 | nothing
end Go.Proofs.YtdphpillcaajpaaDoor.Eng
