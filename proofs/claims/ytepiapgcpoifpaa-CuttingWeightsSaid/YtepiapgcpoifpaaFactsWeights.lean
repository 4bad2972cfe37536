/- The closed cells of the row of CuttingWeights are what the program forces. -/
import Derived.Test.YtepiapgcpoifpaaFrame
set_option linter.unusedVariables false
namespace Go.Proofs.Ytepiapgcpoifpaa
open Go Go.ChangeShapes Go.WideShapes Go.ChangeAt Go.RowKit
set_option maxRecDepth 100000
theorem cuttingWeights_inPlace : (Rows.cuttingWeightsRow.inPlace == Try.checked.prog.inPlace 4) = true := by kernel_rfl
theorem cuttingWeights_unfollowed : (Rows.cuttingWeightsRow.unfollowed == Try.checked.prog.unfollowed 4) = true := by kernel_rfl
theorem cuttingWeights_recurses : (Rows.cuttingWeightsRow.recurses == Try.checked.prog.recurses 4) = true := by kernel_rfl
theorem cuttingWeights_named : (Rows.cuttingWeightsRow.named == Try.checked.prog.varsNamed 4) = true := by kernel_rfl
theorem cuttingWeights_closed : joinedFacts Try.checked.prog 4 Try.f4 Rows.cuttingWeightsSpec Rows.cuttingWeightsRow = true := by
  unfold joinedFacts
  rw [cuttingWeights_inPlace, cuttingWeights_unfollowed, cuttingWeights_recurses, cuttingWeights_named]
  kernel_rfl
end Go.Proofs.Ytepiapgcpoifpaa
