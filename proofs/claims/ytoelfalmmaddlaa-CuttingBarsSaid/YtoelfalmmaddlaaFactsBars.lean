/- The closed cells of the row of CuttingBars are what the program forces. -/
import Derived.Test.YtoelfalmmaddlaaFrame
set_option linter.unusedVariables false
namespace Go.Proofs.Ytoelfalmmaddlaa
open Go Go.ChangeShapes Go.WideShapes Go.ChangeAt Go.RowKit
set_option maxRecDepth 100000
theorem cuttingBars_inPlace : (Rows.cuttingBarsRow.inPlace == Try.checked.prog.inPlace 3) = true := by kernel_rfl
theorem cuttingBars_unfollowed : (Rows.cuttingBarsRow.unfollowed == Try.checked.prog.unfollowed 3) = true := by kernel_rfl
theorem cuttingBars_recurses : (Rows.cuttingBarsRow.recurses == Try.checked.prog.recurses 3) = true := by kernel_rfl
theorem cuttingBars_named : (Rows.cuttingBarsRow.named == Try.checked.prog.varsNamed 3) = true := by kernel_rfl
theorem cuttingBars_closed : joinedFacts Try.checked.prog 3 Try.f3 Rows.cuttingBarsSpec Rows.cuttingBarsRow = true := by
  unfold joinedFacts
  rw [cuttingBars_inPlace, cuttingBars_unfollowed, cuttingBars_recurses, cuttingBars_named]
  kernel_rfl
end Go.Proofs.Ytoelfalmmaddlaa
