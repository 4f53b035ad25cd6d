/- Contracts: common, permutation, the reference's Ranks. -/
import Derived.Test.YtoodfmilleodaaaWa
import Derived.Test.YtoodfmilleodaaaSp
namespace Go.Proofs.Ytoodfmilleodaaa
open Go.RowKit Go.Proofs
set_option linter.unusedVariables false

theorem uI : Try.prog.underlying 31 = some (.slice 3) := by kernel_rfl
theorem uL : Try.prog.underlying 44 = some (.slice 4) := by kernel_rfl
theorem infoI : (Try.prog.info? 3).map (fun i => (i.zero, i.size, i.bytes)) = some (some (.int .i64 0), 1, 8) := by kernel_rfl
theorem infoL : (Try.prog.info? 4).map (fun i => (i.zero, i.size, i.bytes)) = some (some (.bool false), 1, 1) := by kernel_rfl

end Go.Proofs.Ytoodfmilleodaaa
