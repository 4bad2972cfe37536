/- The closed cells of the row of CuttingLayouts are what the program forces. -/
import Derived.Test.YtepiapgcpoifpaaFrame
set_option linter.unusedVariables false
namespace Go.Proofs.Ytepiapgcpoifpaa
open Go Go.ChangeShapes Go.WideShapes Go.ChangeAt Go.RowKit
set_option maxRecDepth 100000
theorem cuttingLayouts_inPlace : (Rows.cuttingLayoutsRow.inPlace == Try.checked.prog.inPlace 8) = true := by kernel_rfl
theorem cuttingLayouts_unfollowed : (Rows.cuttingLayoutsRow.unfollowed == Try.checked.prog.unfollowed 8) = true := by kernel_rfl
theorem cuttingLayouts_recurses : (Rows.cuttingLayoutsRow.recurses == Try.checked.prog.recurses 8) = true := by kernel_rfl
theorem cuttingLayouts_named : (Rows.cuttingLayoutsRow.named == Try.checked.prog.varsNamed 8) = true := by kernel_rfl
theorem cuttingLayouts_closed : joinedFacts Try.checked.prog 8 Try.f8 Rows.cuttingLayoutsSpec Rows.cuttingLayoutsRow = true := by
  unfold joinedFacts
  rw [cuttingLayouts_inPlace, cuttingLayouts_unfollowed, cuttingLayouts_recurses, cuttingLayouts_named]
  kernel_rfl
end Go.Proofs.Ytepiapgcpoifpaa
