/- The closed cells of the row of SolidClashes are what the program forces. -/
import Derived.Test.YtbhgkadklklmbaaGreatFrame
set_option linter.unusedVariables false
namespace Go.Proofs.YtbhgkadklklmbaaGreat
open Go Go.ChangeShapes Go.WideShapes Go.ChangeAt Go.RowKit
set_option maxRecDepth 100000
theorem solidClashes_inPlace : (Rows.solidClashesRow.inPlace == Tryz.checked.prog.inPlace 14) = true := by kernel_rfl
theorem solidClashes_unfollowed : (Rows.solidClashesRow.unfollowed == Tryz.checked.prog.unfollowed 14) = true := by kernel_rfl
theorem solidClashes_recurses : (Rows.solidClashesRow.recurses == Tryz.checked.prog.recurses 14) = true := by kernel_rfl
theorem solidClashes_named : (Rows.solidClashesRow.named == Tryz.checked.prog.varsNamed 14) = true := by kernel_rfl
theorem solidClashes_closed : joinedFacts Tryz.checked.prog 14 Tryz.f14 Rows.solidClashesSpec Rows.solidClashesRow = true := by
 unfold joinedFacts
 rw [solidClashes_inPlace, solidClashes_unfollowed, solidClashes_recurses, solidClashes_named]
 kernel_rfl
end Go.Proofs.YtbhgkadklklmbaaGreat
