/- Loops whose next state is one of many, over the program. -/
import Derived.Test.YtpijbbobejeemaaGreatDoorEngKit2
import Derived.Test.YtpijbbobejeemaaGreatDoorEngLoopE
import Derived.Test.YtpijbbobejeemaaGreatDoorEngFamS
import Derived.Test.YtpijbbobejeemaaGreatDoorEngKMap
set_option linter.unusedVariables false
set_option linter.unusedSimpArgs false
namespace Go.Proofs.YtpijbbobejeemaaGreatDoor.Kit
open Go Go.RowKit Go.Proofs.YtpijbbobejeemaaGreatDoor.Eng
end Go.Proofs.YtpijbbobejeemaaGreatDoor.Kit
