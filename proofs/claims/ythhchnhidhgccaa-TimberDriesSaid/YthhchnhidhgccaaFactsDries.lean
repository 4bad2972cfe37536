/- The closed cells of the row of TimberDries are what the program forces. -/
import Derived.Test.YthhchnhidhgccaaFrame
set_option linter.unusedVariables false
namespace Go.Proofs.Ythhchnhidhgccaa
open Go Go.ChangeShapes Go.WideShapes Go.ChangeAt Go.RowKit
set_option maxRecDepth 100000
theorem timberDries_inPlace : (Rows.timberDriesRow.inPlace == Try.checked.prog.inPlace 14) = true := by kernel_rfl
theorem timberDries_unfollowed : (Rows.timberDriesRow.unfollowed == Try.checked.prog.unfollowed 14) = true := by kernel_rfl
theorem timberDries_recurses : (Rows.timberDriesRow.recurses == Try.checked.prog.recurses 14) = true := by kernel_rfl
theorem timberDries_named : (Rows.timberDriesRow.named == Try.checked.prog.varsNamed 14) = true := by kernel_rfl
theorem timberDries_closed : joinedFacts Try.checked.prog 14 Try.f14 Rows.timberDriesSpec Rows.timberDriesRow = true := by
  unfold joinedFacts
  rw [timberDries_inPlace, timberDries_unfollowed, timberDries_recurses, timberDries_named]
  kernel_rfl
end Go.Proofs.Ythhchnhidhgccaa
