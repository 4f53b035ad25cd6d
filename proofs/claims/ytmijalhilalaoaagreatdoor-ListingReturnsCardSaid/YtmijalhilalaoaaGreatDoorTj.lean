/- Contracts of the reference of layer 17: exists, line, Line. -/
import Derived.Test.YtmijalhilalaoaaGreatDoorTi
namespace Go.Proofs.YtmijalhilalaoaaGreatDoor
open Go.RowKit Go.Proofs
set_option linter.unusedVariables false

end Go.Proofs.YtmijalhilalaoaaGreatDoor
