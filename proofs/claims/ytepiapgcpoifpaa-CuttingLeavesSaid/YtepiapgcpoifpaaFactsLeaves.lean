/- The closed cells of the row of CuttingLeaves are what the program forces. -/
import Derived.Test.YtepiapgcpoifpaaFrame
set_option linter.unusedVariables false
namespace Go.Proofs.Ytepiapgcpoifpaa
open Go Go.ChangeShapes Go.WideShapes Go.ChangeAt Go.RowKit
set_option maxRecDepth 100000
theorem cuttingLeaves_inPlace : (Rows.cuttingLeavesRow.inPlace == Try.checked.prog.inPlace 10) = true := by kernel_rfl
theorem cuttingLeaves_unfollowed : (Rows.cuttingLeavesRow.unfollowed == Try.checked.prog.unfollowed 10) = true := by kernel_rfl
theorem cuttingLeaves_recurses : (Rows.cuttingLeavesRow.recurses == Try.checked.prog.recurses 10) = true := by kernel_rfl
theorem cuttingLeaves_named : (Rows.cuttingLeavesRow.named == Try.checked.prog.varsNamed 10) = true := by kernel_rfl
theorem cuttingLeaves_closed : joinedFacts Try.checked.prog 10 Try.f10 Rows.cuttingLeavesSpec Rows.cuttingLeavesRow = true := by
  unfold joinedFacts
  rw [cuttingLeaves_inPlace, cuttingLeaves_unfollowed, cuttingLeaves_recurses, cuttingLeaves_named]
  kernel_rfl
end Go.Proofs.Ytepiapgcpoifpaa
