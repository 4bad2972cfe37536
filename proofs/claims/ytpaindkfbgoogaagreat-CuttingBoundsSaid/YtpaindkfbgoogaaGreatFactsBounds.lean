/- The closed cells of the row of CuttingBounds are what the program forces. -/
import Derived.Test.YtpaindkfbgoogaaGreatFrame
set_option linter.unusedVariables false
namespace Go.Proofs.YtpaindkfbgoogaaGreat
open Go Go.ChangeShapes Go.WideShapes Go.ChangeAt Go.RowKit
set_option maxRecDepth 100000
theorem cuttingBounds_inPlace : (Rows.cuttingBoundsRow.inPlace == Tryz.checked.prog.inPlace 3) = true := by kernel_rfl
theorem cuttingBounds_unfollowed : (Rows.cuttingBoundsRow.unfollowed == Tryz.checked.prog.unfollowed 3) = true := by kernel_rfl
theorem cuttingBounds_recurses : (Rows.cuttingBoundsRow.recurses == Tryz.checked.prog.recurses 3) = true := by kernel_rfl
theorem cuttingBounds_named : (Rows.cuttingBoundsRow.named == Tryz.checked.prog.varsNamed 3) = true := by kernel_rfl
theorem cuttingBounds_closed : joinedFacts Tryz.checked.prog 3 Tryz.f3 Rows.cuttingBoundsSpec Rows.cuttingBoundsRow = true := by
  unfold joinedFacts
  rw [cuttingBounds_inPlace, cuttingBounds_unfollowed, cuttingBounds_recurses, cuttingBounds_named]
  kernel_rfl
end Go.Proofs.YtpaindkfbgoogaaGreat
