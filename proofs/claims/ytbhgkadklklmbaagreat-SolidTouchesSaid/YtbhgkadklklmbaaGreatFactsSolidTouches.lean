/- The closed cells of the row of SolidTouches are what the program forces. -/
import Derived.Test.YtbhgkadklklmbaaGreatFrame
set_option linter.unusedVariables false
namespace Go.Proofs.YtbhgkadklklmbaaGreat
open Go Go.ChangeShapes Go.WideShapes Go.ChangeAt Go.RowKit
set_option maxRecDepth 100000
theorem solidTouches_inPlace : (Rows.solidTouchesRow.inPlace == Tryz.checked.prog.inPlace 6) = true := by kernel_rfl
theorem solidTouches_unfollowed : (Rows.solidTouchesRow.unfollowed == Tryz.checked.prog.unfollowed 6) = true := by kernel_rfl
theorem solidTouches_recurses : (Rows.solidTouchesRow.recurses == Tryz.checked.prog.recurses 6) = true := by kernel_rfl
theorem solidTouches_named : (Rows.solidTouchesRow.named == Tryz.checked.prog.varsNamed 6) = true := by kernel_rfl
theorem solidTouches_closed : joinedFacts Tryz.checked.prog 6 Tryz.f6 Rows.solidTouchesSpec Rows.solidTouchesRow = true := by
 unfold joinedFacts
 rw [solidTouches_inPlace, solidTouches_unfollowed, solidTouches_recurses, solidTouches_named]
 kernel_rfl
end Go.Proofs.YtbhgkadklklmbaaGreat
