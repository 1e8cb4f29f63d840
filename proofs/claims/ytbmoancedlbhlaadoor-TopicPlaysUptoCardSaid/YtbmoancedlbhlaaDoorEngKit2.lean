/- Loops whose rounds end a step before the next state, over the program. -/
import Derived.Test.YtbmoancedlbhlaaDoorEngKit
import Derived.Test.YtbmoancedlbhlaaDoorEngLoop
set_option linter.unusedVariables false
set_option linter.unusedSimpArgs false
namespace Go.Proofs.YtbmoancedlbhlaaDoor.Kit
open Go Go.RowKit Go.Proofs.YtbmoancedlbhlaaDoor.Eng
end Go.Proofs.YtbmoancedlbhlaaDoor.Kit
