/- The closed cells of the row of CuttingProves are what the program forces. -/
import Derived.Test.YtpaindkfbgoogaaGreatFrame
set_option linter.unusedVariables false
namespace Go.Proofs.YtpaindkfbgoogaaGreat
open Go Go.ChangeShapes Go.WideShapes Go.ChangeAt Go.RowKit
set_option maxRecDepth 100000
theorem cuttingProves_inPlace : (Rows.cuttingProvesRow.inPlace == Tryz.checked.prog.inPlace 4) = true := by kernel_rfl
theorem cuttingProves_unfollowed : (Rows.cuttingProvesRow.unfollowed == Tryz.checked.prog.unfollowed 4) = true := by kernel_rfl
theorem cuttingProves_recurses : (Rows.cuttingProvesRow.recurses == Tryz.checked.prog.recurses 4) = true := by kernel_rfl
theorem cuttingProves_named : (Rows.cuttingProvesRow.named == Tryz.checked.prog.varsNamed 4) = true := by kernel_rfl
theorem cuttingProves_closed : joinedFacts Tryz.checked.prog 4 Tryz.f4 Rows.cuttingProvesSpec Rows.cuttingProvesRow = true := by
  unfold joinedFacts
  rw [cuttingProves_inPlace, cuttingProves_unfollowed, cuttingProves_recurses, cuttingProves_named]
  kernel_rfl
end Go.Proofs.YtpaindkfbgoogaaGreat
