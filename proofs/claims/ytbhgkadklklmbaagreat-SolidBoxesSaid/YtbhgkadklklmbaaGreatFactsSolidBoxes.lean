/- The closed cells of the row of SolidBoxes are what the program forces. -/
import Derived.Test.YtbhgkadklklmbaaGreatFrame
set_option linter.unusedVariables false
namespace Go.Proofs.YtbhgkadklklmbaaGreat
open Go Go.ChangeShapes Go.WideShapes Go.ChangeAt Go.RowKit
set_option maxRecDepth 100000
theorem solidBoxes_inPlace : (Rows.solidBoxesRow.inPlace == Tryz.checked.prog.inPlace 11) = true := by kernel_rfl
theorem solidBoxes_unfollowed : (Rows.solidBoxesRow.unfollowed == Tryz.checked.prog.unfollowed 11) = true := by kernel_rfl
theorem solidBoxes_recurses : (Rows.solidBoxesRow.recurses == Tryz.checked.prog.recurses 11) = true := by kernel_rfl
theorem solidBoxes_named : (Rows.solidBoxesRow.named == Tryz.checked.prog.varsNamed 11) = true := by kernel_rfl
theorem solidBoxes_closed : joinedFacts Tryz.checked.prog 11 Tryz.f11 Rows.solidBoxesSpec Rows.solidBoxesRow = true := by
 unfold joinedFacts
 rw [solidBoxes_inPlace, solidBoxes_unfollowed, solidBoxes_recurses, solidBoxes_named]
 kernel_rfl
end Go.Proofs.YtbhgkadklklmbaaGreat
