/- The closed cells of the row of TimberDefects are what the program forces. -/
import Derived.Test.YthhchnhidhgccaaFrame
set_option linter.unusedVariables false
namespace Go.Proofs.Ythhchnhidhgccaa
open Go Go.ChangeShapes Go.WideShapes Go.ChangeAt Go.RowKit
set_option maxRecDepth 100000
theorem timberDefects_inPlace : (Rows.timberDefectsRow.inPlace == Try.checked.prog.inPlace 16) = true := by kernel_rfl
theorem timberDefects_unfollowed : (Rows.timberDefectsRow.unfollowed == Try.checked.prog.unfollowed 16) = true := by kernel_rfl
theorem timberDefects_recurses : (Rows.timberDefectsRow.recurses == Try.checked.prog.recurses 16) = true := by kernel_rfl
theorem timberDefects_named : (Rows.timberDefectsRow.named == Try.checked.prog.varsNamed 16) = true := by kernel_rfl
theorem timberDefects_closed : joinedFacts Try.checked.prog 16 Try.f16 Rows.timberDefectsSpec Rows.timberDefectsRow = true := by
  unfold joinedFacts
  rw [timberDefects_inPlace, timberDefects_unfollowed, timberDefects_recurses, timberDefects_named]
  kernel_rfl
end Go.Proofs.Ythhchnhidhgccaa
