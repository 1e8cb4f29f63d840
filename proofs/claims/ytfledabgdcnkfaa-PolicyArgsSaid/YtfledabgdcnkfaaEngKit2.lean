/- Loops whose rounds end a step before the next state, over the program. -/
import Derived.Test.YtfledabgdcnkfaaEngKit
import Derived.Test.YtfledabgdcnkfaaEngLoop
set_option linter.unusedVariables false
set_option linter.unusedSimpArgs false
namespace Go.Proofs.Ytfledabgdcnkfaa.Kit
open Go Go.RowKit Go.Proofs.Ytfledabgdcnkfaa.Eng
end Go.Proofs.Ytfledabgdcnkfaa.Kit
