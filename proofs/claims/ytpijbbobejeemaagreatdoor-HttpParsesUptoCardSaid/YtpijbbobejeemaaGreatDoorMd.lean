/- What an object may be a model of. No program. -/
namespace Go.Proofs.YtpijbbobejeemaaGreatDoor.Eng
inductive Md where
 | nothing
end Go.Proofs.YtpijbbobejeemaaGreatDoor.Eng
