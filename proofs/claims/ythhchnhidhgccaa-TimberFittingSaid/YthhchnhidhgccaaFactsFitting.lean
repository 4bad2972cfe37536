/- The closed cells of the row of TimberFitting are what the program forces. -/
import Derived.Test.YthhchnhidhgccaaFrame
set_option linter.unusedVariables false
namespace Go.Proofs.Ythhchnhidhgccaa
open Go Go.ChangeShapes Go.WideShapes Go.ChangeAt Go.RowKit
set_option maxRecDepth 100000
theorem timberFitting_inPlace : (Rows.timberFittingRow.inPlace == Try.checked.prog.inPlace 13) = true := by kernel_rfl
theorem timberFitting_unfollowed : (Rows.timberFittingRow.unfollowed == Try.checked.prog.unfollowed 13) = true := by kernel_rfl
theorem timberFitting_recurses : (Rows.timberFittingRow.recurses == Try.checked.prog.recurses 13) = true := by kernel_rfl
theorem timberFitting_named : (Rows.timberFittingRow.named == Try.checked.prog.varsNamed 13) = true := by kernel_rfl
theorem timberFitting_closed : joinedFacts Try.checked.prog 13 Try.f13 Rows.timberFittingSpec Rows.timberFittingRow = true := by
  unfold joinedFacts
  rw [timberFitting_inPlace, timberFitting_unfollowed, timberFitting_recurses, timberFitting_named]
  kernel_rfl
end Go.Proofs.Ythhchnhidhgccaa
