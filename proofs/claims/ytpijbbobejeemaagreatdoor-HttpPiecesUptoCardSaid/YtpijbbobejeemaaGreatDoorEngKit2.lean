/- Loops whose rounds end a step before the next state, over the program. -/
import Derived.Test.YtpijbbobejeemaaGreatDoorEngKit
import Derived.Test.YtpijbbobejeemaaGreatDoorEngLoop
set_option linter.unusedVariables false
set_option linter.unusedSimpArgs false
namespace Go.Proofs.YtpijbbobejeemaaGreatDoor.Kit
open Go Go.RowKit Go.Proofs.YtpijbbobejeemaaGreatDoor.Eng
end Go.Proofs.YtpijbbobejeemaaGreatDoor.Kit
