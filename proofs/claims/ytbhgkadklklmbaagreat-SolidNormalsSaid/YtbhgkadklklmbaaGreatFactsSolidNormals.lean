/- The closed cells of the row of SolidNormals are what the program forces. -/
import Derived.Test.YtbhgkadklklmbaaGreatFrame
set_option linter.unusedVariables false
namespace Go.Proofs.YtbhgkadklklmbaaGreat
open Go Go.ChangeShapes Go.WideShapes Go.ChangeAt Go.RowKit
set_option maxRecDepth 100000
theorem solidNormals_inPlace : (Rows.solidNormalsRow.inPlace == Tryz.checked.prog.inPlace 5) = true := by kernel_rfl
theorem solidNormals_unfollowed : (Rows.solidNormalsRow.unfollowed == Tryz.checked.prog.unfollowed 5) = true := by kernel_rfl
theorem solidNormals_recurses : (Rows.solidNormalsRow.recurses == Tryz.checked.prog.recurses 5) = true := by kernel_rfl
theorem solidNormals_named : (Rows.solidNormalsRow.named == Tryz.checked.prog.varsNamed 5) = true := by kernel_rfl
theorem solidNormals_closed : joinedFacts Tryz.checked.prog 5 Tryz.f5 Rows.solidNormalsSpec Rows.solidNormalsRow = true := by
  unfold joinedFacts
  rw [solidNormals_inPlace, solidNormals_unfollowed, solidNormals_recurses, solidNormals_named]
  kernel_rfl
end Go.Proofs.YtbhgkadklklmbaaGreat
