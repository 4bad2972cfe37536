/- The closed cells of the row of TimberClear are what the program forces. -/
import Derived.Test.YthhchnhidhgccaaFrame
set_option linter.unusedVariables false
namespace Go.Proofs.Ythhchnhidhgccaa
open Go Go.ChangeShapes Go.WideShapes Go.ChangeAt Go.RowKit
set_option maxRecDepth 100000
theorem timberClear_inPlace : (Rows.timberClearRow.inPlace == Try.checked.prog.inPlace 15) = true := by kernel_rfl
theorem timberClear_unfollowed : (Rows.timberClearRow.unfollowed == Try.checked.prog.unfollowed 15) = true := by kernel_rfl
theorem timberClear_recurses : (Rows.timberClearRow.recurses == Try.checked.prog.recurses 15) = true := by kernel_rfl
theorem timberClear_named : (Rows.timberClearRow.named == Try.checked.prog.varsNamed 15) = true := by kernel_rfl
theorem timberClear_closed : joinedFacts Try.checked.prog 15 Try.f15 Rows.timberClearSpec Rows.timberClearRow = true := by
  unfold joinedFacts
  rw [timberClear_inPlace, timberClear_unfollowed, timberClear_recurses, timberClear_named]
  kernel_rfl
end Go.Proofs.Ythhchnhidhgccaa
