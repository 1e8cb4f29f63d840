/- A closed call of a program with maps, sorts and laid variables. No program. -/
import Derived.Test.YtjjjchmkonnpfaaEngSorted
set_option linter.unusedVariables false
set_option linter.unusedSimpArgs false
namespace Go.Proofs.Ytjjjchmkonnpfaa.Eng
open Go Go.RowKit
structure Cfg where
 strs : List (FuncId × FuncId × TypeId)
 ints : List (FuncId × FuncId × TypeId)
 same : List FuncId
 clone : List FuncId
 laid : List (Nat × List Value)
structure CfgOk (P : Program) (K : Cfg) : Prop where
 strs : ∀ x ∈ K.strs, P.underlying x.2.2 = some .string /\ a7' P x.1 x.2.1 x.2.2
 ints : ∀ x ∈ K.ints, P.underlying x.2.2 = some (.int .i64) /\ GG' P x.1 x.2.1 x.2.2
 same : ∀ f ∈ K.same, ∀ v w, (callFunc f #[v]).run P w = .ok (.value v) w
 clone : ∀ f ∈ K.clone, ∀ t b es k w, w.heap[b]? = some (.map es k) -> (callFunc f #[.iface t (.map (some b))]).run P w = .ok (.value (.iface t (.map (some w.heap.size)))) (w.alloc (.map es k))
end Go.Proofs.Ytjjjchmkonnpfaa.Eng
