/- The closed cells of the row of TimberMonotone are what the program forces. -/
import Derived.Test.YthhchnhidhgccaaFrame
set_option linter.unusedVariables false
namespace Go.Proofs.Ythhchnhidhgccaa
open Go Go.ChangeShapes Go.WideShapes Go.ChangeAt Go.RowKit
set_option maxRecDepth 100000
theorem timberMonotone_inPlace : (Rows.timberMonotoneRow.inPlace == Try.checked.prog.inPlace 5) = true := by kernel_rfl
theorem timberMonotone_unfollowed : (Rows.timberMonotoneRow.unfollowed == Try.checked.prog.unfollowed 5) = true := by kernel_rfl
theorem timberMonotone_recurses : (Rows.timberMonotoneRow.recurses == Try.checked.prog.recurses 5) = true := by kernel_rfl
theorem timberMonotone_named : (Rows.timberMonotoneRow.named == Try.checked.prog.varsNamed 5) = true := by kernel_rfl
theorem timberMonotone_closed : joinedFacts Try.checked.prog 5 Try.f5 Rows.timberMonotoneSpec Rows.timberMonotoneRow = true := by
  unfold joinedFacts
  rw [timberMonotone_inPlace, timberMonotone_unfollowed, timberMonotone_recurses, timberMonotone_named]
  kernel_rfl
end Go.Proofs.Ythhchnhidhgccaa
