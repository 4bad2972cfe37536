/- The closed cells of the row of TopOffcutsAreBoards are what the program forces. -/
import Derived.Test.YtjmgboipbhddlaaGreatDoorFrame
set_option linter.unusedVariables false
namespace Go.Proofs.YtjmgboipbhddlaaGreatDoor
open Go Go.ChangeShapes Go.WideShapes Go.ChangeAt Go.RowKit
set_option maxRecDepth 100000
theorem topOffcutsAreBoards_inPlace : (Rows.topOffcutsAreBoardsRow.inPlace == Tryz.checked.prog.inPlace 4) = true := by kernel_rfl
theorem topOffcutsAreBoards_unfollowed : (Rows.topOffcutsAreBoardsRow.unfollowed == Tryz.checked.prog.unfollowed 4) = true := by kernel_rfl
theorem topOffcutsAreBoards_recurses : (Rows.topOffcutsAreBoardsRow.recurses == Tryz.checked.prog.recurses 4) = true := by kernel_rfl
theorem topOffcutsAreBoards_named : (Rows.topOffcutsAreBoardsRow.named == Tryz.checked.prog.varsNamed 4) = true := by kernel_rfl
theorem topOffcutsAreBoards_closed : joinedFacts Tryz.checked.prog 4 Tryz.f4 Rows.topOffcutsAreBoardsSpec Rows.topOffcutsAreBoardsRow = true := by
  unfold joinedFacts
  rw [topOffcutsAreBoards_inPlace, topOffcutsAreBoards_unfollowed, topOffcutsAreBoards_recurses, topOffcutsAreBoards_named]
  kernel_rfl
end Go.Proofs.YtjmgboipbhddlaaGreatDoor
