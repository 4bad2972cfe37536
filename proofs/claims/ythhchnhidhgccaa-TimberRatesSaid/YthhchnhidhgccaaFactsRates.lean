/- The closed cells of the row of TimberRates are what the program forces. -/
import Derived.Test.YthhchnhidhgccaaFrame
set_option linter.unusedVariables false
namespace Go.Proofs.Ythhchnhidhgccaa
open Go Go.ChangeShapes Go.WideShapes Go.ChangeAt Go.RowKit
set_option maxRecDepth 100000
theorem timberRates_inPlace : (Rows.timberRatesRow.inPlace == Try.checked.prog.inPlace 8) = true := by kernel_rfl
theorem timberRates_unfollowed : (Rows.timberRatesRow.unfollowed == Try.checked.prog.unfollowed 8) = true := by kernel_rfl
theorem timberRates_recurses : (Rows.timberRatesRow.recurses == Try.checked.prog.recurses 8) = true := by kernel_rfl
theorem timberRates_named : (Rows.timberRatesRow.named == Try.checked.prog.varsNamed 8) = true := by kernel_rfl
theorem timberRates_closed : joinedFacts Try.checked.prog 8 Try.f8 Rows.timberRatesSpec Rows.timberRatesRow = true := by
  unfold joinedFacts
  rw [timberRates_inPlace, timberRates_unfollowed, timberRates_recurses, timberRates_named]
  kernel_rfl
end Go.Proofs.Ythhchnhidhgccaa
