/- The closed cells of the row of SolidMeets are what the program forces. -/
import Derived.Test.YtbhgkadklklmbaaGreatFrame
set_option linter.unusedVariables false
namespace Go.Proofs.YtbhgkadklklmbaaGreat
open Go Go.ChangeShapes Go.WideShapes Go.ChangeAt Go.RowKit
set_option maxRecDepth 100000
theorem solidMeets_inPlace : (Rows.solidMeetsRow.inPlace == Tryz.checked.prog.inPlace 13) = true := by kernel_rfl
theorem solidMeets_unfollowed : (Rows.solidMeetsRow.unfollowed == Tryz.checked.prog.unfollowed 13) = true := by kernel_rfl
theorem solidMeets_recurses : (Rows.solidMeetsRow.recurses == Tryz.checked.prog.recurses 13) = true := by kernel_rfl
theorem solidMeets_named : (Rows.solidMeetsRow.named == Tryz.checked.prog.varsNamed 13) = true := by kernel_rfl
theorem solidMeets_closed : joinedFacts Tryz.checked.prog 13 Tryz.f13 Rows.solidMeetsSpec Rows.solidMeetsRow = true := by
 unfold joinedFacts
 rw [solidMeets_inPlace, solidMeets_unfollowed, solidMeets_recurses, solidMeets_named]
 kernel_rfl
end Go.Proofs.YtbhgkadklklmbaaGreat
