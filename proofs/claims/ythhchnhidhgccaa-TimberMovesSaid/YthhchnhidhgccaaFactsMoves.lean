/- The closed cells of the row of TimberMoves are what the program forces. -/
import Derived.Test.YthhchnhidhgccaaFrame
set_option linter.unusedVariables false
namespace Go.Proofs.Ythhchnhidhgccaa
open Go Go.ChangeShapes Go.WideShapes Go.ChangeAt Go.RowKit
set_option maxRecDepth 100000
theorem timberMoves_inPlace : (Rows.timberMovesRow.inPlace == Try.checked.prog.inPlace 10) = true := by kernel_rfl
theorem timberMoves_unfollowed : (Rows.timberMovesRow.unfollowed == Try.checked.prog.unfollowed 10) = true := by kernel_rfl
theorem timberMoves_recurses : (Rows.timberMovesRow.recurses == Try.checked.prog.recurses 10) = true := by kernel_rfl
theorem timberMoves_named : (Rows.timberMovesRow.named == Try.checked.prog.varsNamed 10) = true := by kernel_rfl
theorem timberMoves_closed : joinedFacts Try.checked.prog 10 Try.f10 Rows.timberMovesSpec Rows.timberMovesRow = true := by
  unfold joinedFacts
  rw [timberMoves_inPlace, timberMoves_unfollowed, timberMoves_recurses, timberMoves_named]
  kernel_rfl
end Go.Proofs.Ythhchnhidhgccaa
