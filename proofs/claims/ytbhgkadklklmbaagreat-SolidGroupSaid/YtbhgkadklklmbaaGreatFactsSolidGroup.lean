/- The closed cells of the row of SolidGroup are what the program forces. -/
import Derived.Test.YtbhgkadklklmbaaGreatFrame
set_option linter.unusedVariables false
namespace Go.Proofs.YtbhgkadklklmbaaGreat
open Go Go.ChangeShapes Go.WideShapes Go.ChangeAt Go.RowKit
set_option maxRecDepth 100000
theorem solidGroup_inPlace : (Rows.solidGroupRow.inPlace == Tryz.checked.prog.inPlace 15) = true := by kernel_rfl
theorem solidGroup_unfollowed : (Rows.solidGroupRow.unfollowed == Tryz.checked.prog.unfollowed 15) = true := by kernel_rfl
theorem solidGroup_recurses : (Rows.solidGroupRow.recurses == Tryz.checked.prog.recurses 15) = true := by kernel_rfl
theorem solidGroup_named : (Rows.solidGroupRow.named == Tryz.checked.prog.varsNamed 15) = true := by kernel_rfl
theorem solidGroup_closed : joinedFacts Tryz.checked.prog 15 Tryz.f15 Rows.solidGroupSpec Rows.solidGroupRow = true := by
 unfold joinedFacts
 rw [solidGroup_inPlace, solidGroup_unfollowed, solidGroup_recurses, solidGroup_named]
 kernel_rfl
end Go.Proofs.YtbhgkadklklmbaaGreat
