/- The closed cells of the row of SolidParts are what the program forces. -/
import Derived.Test.YtbhgkadklklmbaaGreatFrame
set_option linter.unusedVariables false
namespace Go.Proofs.YtbhgkadklklmbaaGreat
open Go Go.ChangeShapes Go.WideShapes Go.ChangeAt Go.RowKit
set_option maxRecDepth 100000
theorem solidParts_inPlace : (Rows.solidPartsRow.inPlace == Tryz.checked.prog.inPlace 16) = true := by kernel_rfl
theorem solidParts_unfollowed : (Rows.solidPartsRow.unfollowed == Tryz.checked.prog.unfollowed 16) = true := by kernel_rfl
theorem solidParts_recurses : (Rows.solidPartsRow.recurses == Tryz.checked.prog.recurses 16) = true := by kernel_rfl
theorem solidParts_named : (Rows.solidPartsRow.named == Tryz.checked.prog.varsNamed 16) = true := by kernel_rfl
theorem solidParts_closed : joinedFacts Tryz.checked.prog 16 Tryz.f16 Rows.solidPartsSpec Rows.solidPartsRow = true := by
 unfold joinedFacts
 rw [solidParts_inPlace, solidParts_unfollowed, solidParts_recurses, solidParts_named]
 kernel_rfl
end Go.Proofs.YtbhgkadklklmbaaGreat
