/- The closed cells of the row of SolidVolumes are what the program forces. -/
import Derived.Test.YtbhgkadklklmbaaGreatFrame
set_option linter.unusedVariables false
namespace Go.Proofs.YtbhgkadklklmbaaGreat
open Go Go.ChangeShapes Go.WideShapes Go.ChangeAt Go.RowKit
set_option maxRecDepth 100000
theorem solidVolumes_inPlace : (Rows.solidVolumesRow.inPlace == Tryz.checked.prog.inPlace 7) = true := by kernel_rfl
theorem solidVolumes_unfollowed : (Rows.solidVolumesRow.unfollowed == Tryz.checked.prog.unfollowed 7) = true := by kernel_rfl
theorem solidVolumes_recurses : (Rows.solidVolumesRow.recurses == Tryz.checked.prog.recurses 7) = true := by kernel_rfl
theorem solidVolumes_named : (Rows.solidVolumesRow.named == Tryz.checked.prog.varsNamed 7) = true := by kernel_rfl
theorem solidVolumes_closed : joinedFacts Tryz.checked.prog 7 Tryz.f7 Rows.solidVolumesSpec Rows.solidVolumesRow = true := by
 unfold joinedFacts
 rw [solidVolumes_inPlace, solidVolumes_unfollowed, solidVolumes_recurses, solidVolumes_named]
 kernel_rfl
end Go.Proofs.YtbhgkadklklmbaaGreat
