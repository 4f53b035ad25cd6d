/- The reference of layer 15: Encode (its error; what it writes is left open). -/
import Derived.Test.YtlbhggjkcfcobaaDoorIh
namespace Go.Proofs.YtlbhggjkcfcobaaDoor
open Go.RowKit Go.Proofs
set_option linter.unusedVariables false

end Go.Proofs.YtlbhggjkcfcobaaDoor
