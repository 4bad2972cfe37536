/- The closed cells of the row of TimberGrades are what the program forces. -/
import Derived.Test.YthhchnhidhgccaaFrame
set_option linter.unusedVariables false
namespace Go.Proofs.Ythhchnhidhgccaa
open Go Go.ChangeShapes Go.WideShapes Go.ChangeAt Go.RowKit
set_option maxRecDepth 100000
theorem timberGrades_inPlace : (Rows.timberGradesRow.inPlace == Try.checked.prog.inPlace 17) = true := by kernel_rfl
theorem timberGrades_unfollowed : (Rows.timberGradesRow.unfollowed == Try.checked.prog.unfollowed 17) = true := by kernel_rfl
theorem timberGrades_recurses : (Rows.timberGradesRow.recurses == Try.checked.prog.recurses 17) = true := by kernel_rfl
theorem timberGrades_named : (Rows.timberGradesRow.named == Try.checked.prog.varsNamed 17) = true := by kernel_rfl
theorem timberGrades_closed : joinedFacts Try.checked.prog 17 Try.f17 Rows.timberGradesSpec Rows.timberGradesRow = true := by
  unfold joinedFacts
  rw [timberGrades_inPlace, timberGrades_unfollowed, timberGrades_recurses, timberGrades_named]
  kernel_rfl
end Go.Proofs.Ythhchnhidhgccaa
