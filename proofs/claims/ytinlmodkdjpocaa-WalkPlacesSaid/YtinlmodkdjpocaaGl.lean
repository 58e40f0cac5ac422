/- The library's variable that bytes.Index reads holds some number. -/
import Derived.Test.YtinlmodkdjpocaaRow
import Derived.Test.YtinlmodkdjpocaaTxz
import Derived.Shelf.Vars
set_option linter.unusedVariables false
namespace Go.Proofs.Ytinlmodkdjpocaa
open Go.ChangeShapes Go.WideShapes Go.ChangeAt Go.RowKit Go.Deep

theorem gl_of {W : World} (h : W.ShapedOpen Try.checked.prog) : GL W :=
  cell_of_shapedOpen_int (P := Try.prog) (t := 3) (zero := #[.int .i64 0]) h (of_decide_eq_true (by kernel_rfl)) (by kernel_rfl) rfl (by kernel_rfl) (by kernel_rfl) Try.underlying3
theorem u8_of {z : Int} (h : (Lit.int .u8 z).wf = true) : ∃ y : UInt8, z = (y.toNat : Int) := by
  obtain ⟨h1, h2⟩ := wf_u8 h
  exact ⟨UInt8.ofNat z.toNat, by rw [UInt8.toNat_ofNat']; omega⟩
end Go.Proofs.Ytinlmodkdjpocaa
