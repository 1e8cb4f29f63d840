/- Maps with pointers as keys, where it is known what blocks they stand for. No program. -/
import Derived.Test.YtdphpillcaajpaaDoorEngMem6
set_option linter.unusedVariables false
set_option linter.unusedSimpArgs false
namespace Go.Proofs.YtdphpillcaajpaaDoor.Eng
open Go Go.RowKit
section
variable {P : Program} {E : Env} {W0 w : World} {N : A5'} {F : HP} {st : Bool} {h h' : T} {n n' : Nat} {lg lg' : Log} {c : Cnd}
theorem M6' (hE : EnvOk P E) (r : Rep W0 N F h w) {t : TypeId} {x k a : AV} {v vk : Value} (hx : VR N x v) (hk : VR N k vk) (he : (O0' E t x k).run st h n lg = .ok a h' n' lg' c) (hc : c.holds) :
  ∃ y, (Instr.lookup t v vk false).run P w = .ok y w /\ VR N a y /\ h' = h /\ n' = n := by
 unfold O0' at he; cases he
theorem JQ' (hE : EnvOk P E) (r : Rep W0 N F h w) {t : TypeId} {m k x : AV} {vm vk vx : Value} {u : Unit} (hm : VR N m vm) (hk : VR N k vk) (hx : VR N x vx) (he : (HY' E t m k x).run st h n lg = .ok u h' n' lg' c) (hc : c.holds) :
  ∃ w', (Instr.mapUpdate t vm vk vx).run P w = .ok () w' /\ Rep W0 N F h' w' /\ n' = n := by
 unfold HY' at he; cases he
end
end Go.Proofs.YtdphpillcaajpaaDoor.Eng
