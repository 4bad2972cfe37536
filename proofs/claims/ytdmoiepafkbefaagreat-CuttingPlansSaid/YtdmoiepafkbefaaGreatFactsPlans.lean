/- The closed cells of the row of CuttingPlans are what the program forces. -/
import Derived.Test.YtdmoiepafkbefaaGreatFrame
set_option linter.unusedVariables false
namespace Go.Proofs.YtdmoiepafkbefaaGreat
open Go Go.ChangeShapes Go.WideShapes Go.ChangeAt Go.RowKit
set_option maxRecDepth 100000
theorem cuttingPlans_inPlace : (Rows.cuttingPlansRow.inPlace == Tryz.checked.prog.inPlace 3) = true := by kernel_rfl
theorem cuttingPlans_unfollowed : (Rows.cuttingPlansRow.unfollowed == Tryz.checked.prog.unfollowed 3) = true := by kernel_rfl
theorem cuttingPlans_recurses : (Rows.cuttingPlansRow.recurses == Tryz.checked.prog.recurses 3) = true := by kernel_rfl
theorem cuttingPlans_named : (Rows.cuttingPlansRow.named == Tryz.checked.prog.varsNamed 3) = true := by kernel_rfl
theorem cuttingPlans_closed : joinedFacts Tryz.checked.prog 3 Tryz.f3 Rows.cuttingPlansSpec Rows.cuttingPlansRow = true := by
  unfold joinedFacts
  rw [cuttingPlans_inPlace, cuttingPlans_unfollowed, cuttingPlans_recurses, cuttingPlans_named]
  kernel_rfl
end Go.Proofs.YtdmoiepafkbefaaGreat
