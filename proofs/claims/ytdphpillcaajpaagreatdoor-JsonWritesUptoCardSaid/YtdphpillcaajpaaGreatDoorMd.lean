/- What an object may be a model of: builders of texts. No program. -/
namespace Go.Proofs.YtdphpillcaajpaaGreatDoor.Eng
inductive Md where
 | text (s : ByteArray)
 | nothing
end Go.Proofs.YtdphpillcaajpaaGreatDoor.Eng
