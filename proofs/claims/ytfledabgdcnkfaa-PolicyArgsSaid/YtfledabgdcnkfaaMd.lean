/- What an object may be a model of. No program. -/
namespace Go.Proofs.Ytfledabgdcnkfaa.Eng
inductive Md where
  | nothing
end Go.Proofs.Ytfledabgdcnkfaa.Eng
