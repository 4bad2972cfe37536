/- The closed cells of the row of TimberRanges are what the program forces. -/
import Derived.Test.YthhchnhidhgccaaFrame
set_option linter.unusedVariables false
namespace Go.Proofs.Ythhchnhidhgccaa
open Go Go.ChangeShapes Go.WideShapes Go.ChangeAt Go.RowKit
set_option maxRecDepth 100000
theorem timberRanges_inPlace : (Rows.timberRangesRow.inPlace == Try.checked.prog.inPlace 4) = true := by kernel_rfl
theorem timberRanges_unfollowed : (Rows.timberRangesRow.unfollowed == Try.checked.prog.unfollowed 4) = true := by kernel_rfl
theorem timberRanges_recurses : (Rows.timberRangesRow.recurses == Try.checked.prog.recurses 4) = true := by kernel_rfl
theorem timberRanges_named : (Rows.timberRangesRow.named == Try.checked.prog.varsNamed 4) = true := by kernel_rfl
theorem timberRanges_closed : joinedFacts Try.checked.prog 4 Try.f4 Rows.timberRangesSpec Rows.timberRangesRow = true := by
  unfold joinedFacts
  rw [timberRanges_inPlace, timberRanges_unfollowed, timberRanges_recurses, timberRanges_named]
  kernel_rfl
end Go.Proofs.Ythhchnhidhgccaa
