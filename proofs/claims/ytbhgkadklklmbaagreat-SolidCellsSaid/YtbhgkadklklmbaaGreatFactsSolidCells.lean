/- The closed cells of the row of SolidCells are what the program forces. -/
import Derived.Test.YtbhgkadklklmbaaGreatFrame
set_option linter.unusedVariables false
namespace Go.Proofs.YtbhgkadklklmbaaGreat
open Go Go.ChangeShapes Go.WideShapes Go.ChangeAt Go.RowKit
set_option maxRecDepth 100000
theorem solidCells_inPlace : (Rows.solidCellsRow.inPlace == Tryz.checked.prog.inPlace 3) = true := by kernel_rfl
theorem solidCells_unfollowed : (Rows.solidCellsRow.unfollowed == Tryz.checked.prog.unfollowed 3) = true := by kernel_rfl
theorem solidCells_recurses : (Rows.solidCellsRow.recurses == Tryz.checked.prog.recurses 3) = true := by kernel_rfl
theorem solidCells_named : (Rows.solidCellsRow.named == Tryz.checked.prog.varsNamed 3) = true := by kernel_rfl
theorem solidCells_closed : joinedFacts Tryz.checked.prog 3 Tryz.f3 Rows.solidCellsSpec Rows.solidCellsRow = true := by
 unfold joinedFacts
 rw [solidCells_inPlace, solidCells_unfollowed, solidCells_recurses, solidCells_named]
 kernel_rfl
end Go.Proofs.YtbhgkadklklmbaaGreat
