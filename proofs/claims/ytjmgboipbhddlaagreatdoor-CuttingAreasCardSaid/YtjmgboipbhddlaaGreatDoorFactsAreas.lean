import Derived.Test.YtjmgboipbhddlaaGreatDoorFrame
set_option linter.unusedVariables false
namespace Go.Proofs.YtjmgboipbhddlaaGreatDoor
open Go Go.ChangeShapes Go.WideShapes Go.ChangeAt Go.RowKit
set_option maxRecDepth 100000
theorem cuttingAreas_inPlace : (Rows.cuttingAreasRow.inPlace == Tryz.checked.prog.inPlace 3) = true := by kernel_rfl
theorem cuttingAreas_unfollowed : (Rows.cuttingAreasRow.unfollowed == Tryz.checked.prog.unfollowed 3) = true := by kernel_rfl
theorem cuttingAreas_recurses : (Rows.cuttingAreasRow.recurses == Tryz.checked.prog.recurses 3) = true := by kernel_rfl
theorem cuttingAreas_named : (Rows.cuttingAreasRow.named == Tryz.checked.prog.varsNamed 3) = true := by kernel_rfl
theorem cuttingAreas_closed : joinedFacts Tryz.checked.prog 3 Tryz.f3 Rows.cuttingAreasSpec Rows.cuttingAreasRow = true := by
 unfold joinedFacts
 rw [cuttingAreas_inPlace, cuttingAreas_unfollowed, cuttingAreas_recurses, cuttingAreas_named]
 kernel_rfl
end Go.Proofs.YtjmgboipbhddlaaGreatDoor
