/- The closed cells of the row of TopRowsAreBars are what the program forces. -/
import Derived.Test.YtoelfalmmaddlaaGreatFrame
set_option linter.unusedVariables false
namespace Go.Proofs.YtoelfalmmaddlaaGreat
open Go Go.ChangeShapes Go.WideShapes Go.ChangeAt Go.RowKit
set_option maxRecDepth 100000
theorem topRowsAreBars_inPlace : (Rows.topRowsAreBarsRow.inPlace == Tryz.checked.prog.inPlace 3) = true := by kernel_rfl
theorem topRowsAreBars_unfollowed : (Rows.topRowsAreBarsRow.unfollowed == Tryz.checked.prog.unfollowed 3) = true := by kernel_rfl
theorem topRowsAreBars_recurses : (Rows.topRowsAreBarsRow.recurses == Tryz.checked.prog.recurses 3) = true := by kernel_rfl
theorem topRowsAreBars_named : (Rows.topRowsAreBarsRow.named == Tryz.checked.prog.varsNamed 3) = true := by kernel_rfl
theorem topRowsAreBars_closed : joinedFacts Tryz.checked.prog 3 Tryz.f3 Rows.topRowsAreBarsSpec Rows.topRowsAreBarsRow = true := by
 unfold joinedFacts
 rw [topRowsAreBars_inPlace, topRowsAreBars_unfollowed, topRowsAreBars_recurses, topRowsAreBars_named]
 kernel_rfl
end Go.Proofs.YtoelfalmmaddlaaGreat
