/- What an object may be a model of: queues. No program. -/
namespace Go.Proofs.Ytjjjchmkonnpfaa.Eng
inductive Md where
  /-- a queue, by the consumers in their turn -/
  | turns (L : List Int)
end Go.Proofs.Ytjjjchmkonnpfaa.Eng
