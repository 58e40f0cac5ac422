/- A closed fact on the program. -/
import Derived.Test.YtinlmodkdjpocaaRow
set_option linter.unusedVariables false
namespace Go.Proofs.Ytinlmodkdjpocaa
open Go.ChangeShapes Go.WideShapes Go.ChangeAt Go.RowKit Go.Deep
set_option maxRecDepth 100000
theorem seat_c27 : ((Try.prog.make == some Rows.textSymsRow.make)) = true := by kernel_rfl
end Go.Proofs.Ytinlmodkdjpocaa
