/- The closed cells of the row of SolidCovers are what the program forces. -/
import Derived.Test.YtbhgkadklklmbaaGreatFrame
set_option linter.unusedVariables false
namespace Go.Proofs.YtbhgkadklklmbaaGreat
open Go Go.ChangeShapes Go.WideShapes Go.ChangeAt Go.RowKit
set_option maxRecDepth 100000
theorem solidCovers_inPlace : (Rows.solidCoversRow.inPlace == Tryz.checked.prog.inPlace 4) = true := by kernel_rfl
theorem solidCovers_unfollowed : (Rows.solidCoversRow.unfollowed == Tryz.checked.prog.unfollowed 4) = true := by kernel_rfl
theorem solidCovers_recurses : (Rows.solidCoversRow.recurses == Tryz.checked.prog.recurses 4) = true := by kernel_rfl
theorem solidCovers_named : (Rows.solidCoversRow.named == Tryz.checked.prog.varsNamed 4) = true := by kernel_rfl
theorem solidCovers_closed : joinedFacts Tryz.checked.prog 4 Tryz.f4 Rows.solidCoversSpec Rows.solidCoversRow = true := by
 unfold joinedFacts
 rw [solidCovers_inPlace, solidCovers_unfollowed, solidCovers_recurses, solidCovers_named]
 kernel_rfl
end Go.Proofs.YtbhgkadklklmbaaGreat
