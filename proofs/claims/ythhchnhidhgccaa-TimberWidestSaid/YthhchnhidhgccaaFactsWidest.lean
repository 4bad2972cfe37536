/- The closed cells of the row of TimberWidest are what the program forces. -/
import Derived.Test.YthhchnhidhgccaaFrame
set_option linter.unusedVariables false
namespace Go.Proofs.Ythhchnhidhgccaa
open Go Go.ChangeShapes Go.WideShapes Go.ChangeAt Go.RowKit
set_option maxRecDepth 100000
theorem timberWidest_inPlace : (Rows.timberWidestRow.inPlace == Try.checked.prog.inPlace 7) = true := by kernel_rfl
theorem timberWidest_unfollowed : (Rows.timberWidestRow.unfollowed == Try.checked.prog.unfollowed 7) = true := by kernel_rfl
theorem timberWidest_recurses : (Rows.timberWidestRow.recurses == Try.checked.prog.recurses 7) = true := by kernel_rfl
theorem timberWidest_named : (Rows.timberWidestRow.named == Try.checked.prog.varsNamed 7) = true := by kernel_rfl
theorem timberWidest_closed : joinedFacts Try.checked.prog 7 Try.f7 Rows.timberWidestSpec Rows.timberWidestRow = true := by
  unfold joinedFacts
  rw [timberWidest_inPlace, timberWidest_unfollowed, timberWidest_recurses, timberWidest_named]
  kernel_rfl
end Go.Proofs.Ythhchnhidhgccaa
