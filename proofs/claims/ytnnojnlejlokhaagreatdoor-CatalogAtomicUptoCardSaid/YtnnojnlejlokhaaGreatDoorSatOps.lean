/- The operations on memory, said of parts that lie side by side. No program. -/
import Derived.Test.YtnnojnlejlokhaaGreatDoorSat
set_option linter.unusedVariables false
set_option linter.unusedSimpArgs false
namespace Go.Proofs.YtnnojnlejlokhaaGreatDoor
open Go.RowKit
section
variable {P : Program} {W0 w : World} {t : List HP}
end
end Go.Proofs.YtnnojnlejlokhaaGreatDoor
