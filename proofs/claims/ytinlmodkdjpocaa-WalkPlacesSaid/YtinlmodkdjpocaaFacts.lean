/- Closed facts on the program, one a theorem. -/
import Derived.Test.YtinlmodkdjpocaaRow
import Derived.Test.YtinlmodkdjpocaaFactsA
import Derived.Test.YtinlmodkdjpocaaFactsB
import Derived.Test.YtinlmodkdjpocaaFactsC
set_option linter.unusedVariables false
namespace Go.Proofs.Ytinlmodkdjpocaa
open Go.ChangeShapes Go.WideShapes Go.ChangeAt Go.RowKit Go.Deep
set_option maxRecDepth 100000
theorem seat_c1 : (laidOutB Try.prog) = true := by kernel_rfl
theorem seat_c2 : (mapsRowed Try.prog) = true := by kernel_rfl
theorem seat_c6 : ((Try.prog.stops == [])) = true := by kernel_rfl
theorem seat_c8 : ((Try.prog.stopKnobs == [])) = true := by kernel_rfl
theorem seat_c22 : ((Rows.textSymsRow.plainKeys == Try.prog.plainKeys)) = true := by kernel_rfl
theorem seat_c24 : (Try.prog.stopsHeard) = true := by kernel_rfl
theorem and_t {a b : Bool} (h : a = true) (k : b = true) : (a && b) = true := by rw [h, k]; rfl
end Go.Proofs.Ytinlmodkdjpocaa
