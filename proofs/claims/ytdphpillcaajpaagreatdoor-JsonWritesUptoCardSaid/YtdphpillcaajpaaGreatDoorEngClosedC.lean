/- A closed call with contracts. No program. -/
import Derived.Test.YtdphpillcaajpaaGreatDoorEngClosed
import Derived.Test.YtdphpillcaajpaaGreatDoorEngUse
set_option linter.unusedVariables false
set_option linter.unusedSimpArgs false
namespace Go.Proofs.YtdphpillcaajpaaGreatDoor.Eng
open Go Go.RowKit
end Go.Proofs.YtdphpillcaajpaaGreatDoor.Eng
