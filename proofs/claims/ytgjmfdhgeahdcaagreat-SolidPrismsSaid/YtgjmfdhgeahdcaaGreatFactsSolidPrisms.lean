/- The closed cells of the row of SolidPrisms are what the program forces. -/
import Derived.Test.YtgjmfdhgeahdcaaGreatFrame
set_option linter.unusedVariables false
namespace Go.Proofs.YtgjmfdhgeahdcaaGreat
open Go Go.ChangeShapes Go.WideShapes Go.ChangeAt Go.RowKit
set_option maxRecDepth 100000
theorem solidPrisms_inPlace : (Rows.solidPrismsRow.inPlace == Tryz.checked.prog.inPlace 3) = true := by kernel_rfl
theorem solidPrisms_unfollowed : (Rows.solidPrismsRow.unfollowed == Tryz.checked.prog.unfollowed 3) = true := by kernel_rfl
theorem solidPrisms_recurses : (Rows.solidPrismsRow.recurses == Tryz.checked.prog.recurses 3) = true := by kernel_rfl
theorem solidPrisms_named : (Rows.solidPrismsRow.named == Tryz.checked.prog.varsNamed 3) = true := by kernel_rfl
theorem solidPrisms_closed : joinedFacts Tryz.checked.prog 3 Tryz.f3 Rows.solidPrismsSpec Rows.solidPrismsRow = true := by
 unfold joinedFacts
 rw [solidPrisms_inPlace, solidPrisms_unfollowed, solidPrisms_recurses, solidPrisms_named]
 kernel_rfl
end Go.Proofs.YtgjmfdhgeahdcaaGreat
