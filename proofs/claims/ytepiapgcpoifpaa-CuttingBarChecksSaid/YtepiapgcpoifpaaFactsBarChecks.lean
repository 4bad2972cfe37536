/- The closed cells of the row of CuttingBarChecks are what the program forces. -/
import Derived.Test.YtepiapgcpoifpaaFrame
set_option linter.unusedVariables false
namespace Go.Proofs.Ytepiapgcpoifpaa
open Go Go.ChangeShapes Go.WideShapes Go.ChangeAt Go.RowKit
set_option maxRecDepth 100000
theorem cuttingBarChecks_inPlace : (Rows.cuttingBarChecksRow.inPlace == Try.checked.prog.inPlace 6) = true := by kernel_rfl
theorem cuttingBarChecks_unfollowed : (Rows.cuttingBarChecksRow.unfollowed == Try.checked.prog.unfollowed 6) = true := by kernel_rfl
theorem cuttingBarChecks_recurses : (Rows.cuttingBarChecksRow.recurses == Try.checked.prog.recurses 6) = true := by kernel_rfl
theorem cuttingBarChecks_named : (Rows.cuttingBarChecksRow.named == Try.checked.prog.varsNamed 6) = true := by kernel_rfl
theorem cuttingBarChecks_closed : joinedFacts Try.checked.prog 6 Try.f6 Rows.cuttingBarChecksSpec Rows.cuttingBarChecksRow = true := by
  unfold joinedFacts
  rw [cuttingBarChecks_inPlace, cuttingBarChecks_unfollowed, cuttingBarChecks_recurses, cuttingBarChecks_named]
  kernel_rfl
end Go.Proofs.Ytepiapgcpoifpaa
