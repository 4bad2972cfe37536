/- The closed cells of the row of SolidPlaces are what the program forces. -/
import Derived.Test.YtbhgkadklklmbaaGreatFrame
set_option linter.unusedVariables false
namespace Go.Proofs.YtbhgkadklklmbaaGreat
open Go Go.ChangeShapes Go.WideShapes Go.ChangeAt Go.RowKit
set_option maxRecDepth 100000
theorem solidPlaces_inPlace : (Rows.solidPlacesRow.inPlace == Tryz.checked.prog.inPlace 9) = true := by kernel_rfl
theorem solidPlaces_unfollowed : (Rows.solidPlacesRow.unfollowed == Tryz.checked.prog.unfollowed 9) = true := by kernel_rfl
theorem solidPlaces_recurses : (Rows.solidPlacesRow.recurses == Tryz.checked.prog.recurses 9) = true := by kernel_rfl
theorem solidPlaces_named : (Rows.solidPlacesRow.named == Tryz.checked.prog.varsNamed 9) = true := by kernel_rfl
theorem solidPlaces_closed : joinedFacts Tryz.checked.prog 9 Tryz.f9 Rows.solidPlacesSpec Rows.solidPlacesRow = true := by
  unfold joinedFacts
  rw [solidPlaces_inPlace, solidPlaces_unfollowed, solidPlaces_recurses, solidPlaces_named]
  kernel_rfl
end Go.Proofs.YtbhgkadklklmbaaGreat
