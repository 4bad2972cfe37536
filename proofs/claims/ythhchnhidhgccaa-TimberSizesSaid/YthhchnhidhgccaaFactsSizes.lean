/- The closed cells of the row of TimberSizes are what the program forces. -/
import Derived.Test.YthhchnhidhgccaaFrame
set_option linter.unusedVariables false
namespace Go.Proofs.Ythhchnhidhgccaa
open Go Go.ChangeShapes Go.WideShapes Go.ChangeAt Go.RowKit
set_option maxRecDepth 100000
theorem timberSizes_inPlace : (Rows.timberSizesRow.inPlace == Try.checked.prog.inPlace 11) = true := by kernel_rfl
theorem timberSizes_unfollowed : (Rows.timberSizesRow.unfollowed == Try.checked.prog.unfollowed 11) = true := by kernel_rfl
theorem timberSizes_recurses : (Rows.timberSizesRow.recurses == Try.checked.prog.recurses 11) = true := by kernel_rfl
theorem timberSizes_named : (Rows.timberSizesRow.named == Try.checked.prog.varsNamed 11) = true := by kernel_rfl
theorem timberSizes_closed : joinedFacts Try.checked.prog 11 Try.f11 Rows.timberSizesSpec Rows.timberSizesRow = true := by
  unfold joinedFacts
  rw [timberSizes_inPlace, timberSizes_unfollowed, timberSizes_recurses, timberSizes_named]
  kernel_rfl
end Go.Proofs.Ythhchnhidhgccaa
