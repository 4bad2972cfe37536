/- The closed cells of the row of SolidTurns are what the program forces. -/
import Derived.Test.YtbhgkadklklmbaaGreatFrame
set_option linter.unusedVariables false
namespace Go.Proofs.YtbhgkadklklmbaaGreat
open Go Go.ChangeShapes Go.WideShapes Go.ChangeAt Go.RowKit
set_option maxRecDepth 100000
theorem solidTurns_inPlace : (Rows.solidTurnsRow.inPlace == Tryz.checked.prog.inPlace 17) = true := by kernel_rfl
theorem solidTurns_unfollowed : (Rows.solidTurnsRow.unfollowed == Tryz.checked.prog.unfollowed 17) = true := by kernel_rfl
theorem solidTurns_recurses : (Rows.solidTurnsRow.recurses == Tryz.checked.prog.recurses 17) = true := by kernel_rfl
theorem solidTurns_named : (Rows.solidTurnsRow.named == Tryz.checked.prog.varsNamed 17) = true := by kernel_rfl
theorem solidTurns_closed : joinedFacts Tryz.checked.prog 17 Tryz.f17 Rows.solidTurnsSpec Rows.solidTurnsRow = true := by
 unfold joinedFacts
 rw [solidTurns_inPlace, solidTurns_unfollowed, solidTurns_recurses, solidTurns_named]
 kernel_rfl
end Go.Proofs.YtbhgkadklklmbaaGreat
