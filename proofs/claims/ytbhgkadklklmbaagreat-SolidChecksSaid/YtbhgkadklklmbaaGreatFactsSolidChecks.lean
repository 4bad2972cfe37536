/- The closed cells of the row of SolidChecks are what the program forces. -/
import Derived.Test.YtbhgkadklklmbaaGreatFrame
set_option linter.unusedVariables false
namespace Go.Proofs.YtbhgkadklklmbaaGreat
open Go Go.ChangeShapes Go.WideShapes Go.ChangeAt Go.RowKit
set_option maxRecDepth 100000
theorem solidChecks_inPlace : (Rows.solidChecksRow.inPlace == Tryz.checked.prog.inPlace 8) = true := by kernel_rfl
theorem solidChecks_unfollowed : (Rows.solidChecksRow.unfollowed == Tryz.checked.prog.unfollowed 8) = true := by kernel_rfl
theorem solidChecks_recurses : (Rows.solidChecksRow.recurses == Tryz.checked.prog.recurses 8) = true := by kernel_rfl
theorem solidChecks_named : (Rows.solidChecksRow.named == Tryz.checked.prog.varsNamed 8) = true := by kernel_rfl
theorem solidChecks_closed : joinedFacts Tryz.checked.prog 8 Tryz.f8 Rows.solidChecksSpec Rows.solidChecksRow = true := by
  unfold joinedFacts
  rw [solidChecks_inPlace, solidChecks_unfollowed, solidChecks_recurses, solidChecks_named]
  kernel_rfl
end Go.Proofs.YtbhgkadklklmbaaGreat
