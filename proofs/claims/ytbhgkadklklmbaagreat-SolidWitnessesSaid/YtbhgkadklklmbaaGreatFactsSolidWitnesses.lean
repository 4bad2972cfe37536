/- The closed cells of the row of SolidWitnesses are what the program forces. -/
import Derived.Test.YtbhgkadklklmbaaGreatFrame
set_option linter.unusedVariables false
namespace Go.Proofs.YtbhgkadklklmbaaGreat
open Go Go.ChangeShapes Go.WideShapes Go.ChangeAt Go.RowKit
set_option maxRecDepth 100000
theorem solidWitnesses_inPlace : (Rows.solidWitnessesRow.inPlace == Tryz.checked.prog.inPlace 10) = true := by kernel_rfl
theorem solidWitnesses_unfollowed : (Rows.solidWitnessesRow.unfollowed == Tryz.checked.prog.unfollowed 10) = true := by kernel_rfl
theorem solidWitnesses_recurses : (Rows.solidWitnessesRow.recurses == Tryz.checked.prog.recurses 10) = true := by kernel_rfl
theorem solidWitnesses_named : (Rows.solidWitnessesRow.named == Tryz.checked.prog.varsNamed 10) = true := by kernel_rfl
theorem solidWitnesses_closed : joinedFacts Tryz.checked.prog 10 Tryz.f10 Rows.solidWitnessesSpec Rows.solidWitnessesRow = true := by
 unfold joinedFacts
 rw [solidWitnesses_inPlace, solidWitnesses_unfollowed, solidWitnesses_recurses, solidWitnesses_named]
 kernel_rfl
end Go.Proofs.YtbhgkadklklmbaaGreat
