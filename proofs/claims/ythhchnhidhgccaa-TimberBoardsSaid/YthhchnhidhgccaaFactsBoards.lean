/- The closed cells of the row of TimberBoards are what the program forces. -/
import Derived.Test.YthhchnhidhgccaaFrame
set_option linter.unusedVariables false
namespace Go.Proofs.Ythhchnhidhgccaa
open Go Go.ChangeShapes Go.WideShapes Go.ChangeAt Go.RowKit
set_option maxRecDepth 100000
theorem timberBoards_inPlace : (Rows.timberBoardsRow.inPlace == Try.checked.prog.inPlace 9) = true := by kernel_rfl
theorem timberBoards_unfollowed : (Rows.timberBoardsRow.unfollowed == Try.checked.prog.unfollowed 9) = true := by kernel_rfl
theorem timberBoards_recurses : (Rows.timberBoardsRow.recurses == Try.checked.prog.recurses 9) = true := by kernel_rfl
theorem timberBoards_named : (Rows.timberBoardsRow.named == Try.checked.prog.varsNamed 9) = true := by kernel_rfl
theorem timberBoards_closed : joinedFacts Try.checked.prog 9 Try.f9 Rows.timberBoardsSpec Rows.timberBoardsRow = true := by
  unfold joinedFacts
  rw [timberBoards_inPlace, timberBoards_unfollowed, timberBoards_recurses, timberBoards_named]
  kernel_rfl
end Go.Proofs.Ythhchnhidhgccaa
