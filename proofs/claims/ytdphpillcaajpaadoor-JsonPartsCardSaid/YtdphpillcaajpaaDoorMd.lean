/- What an object may be a model of: builders of texts. No program. -/
namespace Go.Proofs.YtdphpillcaajpaaDoor.Eng
inductive Md where
  /-- a builder, by its text -/
  | text (s : ByteArray)
  /-- nothing in particular -/
  | nothing
end Go.Proofs.YtdphpillcaajpaaDoor.Eng
