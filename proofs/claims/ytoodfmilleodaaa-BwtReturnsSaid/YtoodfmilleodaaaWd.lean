/- Contracts of the reference: Check. -/
import Derived.Test.YtoodfmilleodaaaWb
namespace Go.Proofs.Ytoodfmilleodaaa
open Go.RowKit Go.Proofs
set_option linter.unusedVariables false

end Go.Proofs.Ytoodfmilleodaaa
