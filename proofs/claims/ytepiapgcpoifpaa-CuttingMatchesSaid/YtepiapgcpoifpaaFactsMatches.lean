/- The closed cells of the row of CuttingMatches are what the program forces. -/
import Derived.Test.YtepiapgcpoifpaaFrame
set_option linter.unusedVariables false
namespace Go.Proofs.Ytepiapgcpoifpaa
open Go Go.ChangeShapes Go.WideShapes Go.ChangeAt Go.RowKit
set_option maxRecDepth 100000
theorem cuttingMatches_inPlace : (Rows.cuttingMatchesRow.inPlace == Try.checked.prog.inPlace 7) = true := by kernel_rfl
theorem cuttingMatches_unfollowed : (Rows.cuttingMatchesRow.unfollowed == Try.checked.prog.unfollowed 7) = true := by kernel_rfl
theorem cuttingMatches_recurses : (Rows.cuttingMatchesRow.recurses == Try.checked.prog.recurses 7) = true := by kernel_rfl
theorem cuttingMatches_named : (Rows.cuttingMatchesRow.named == Try.checked.prog.varsNamed 7) = true := by kernel_rfl
theorem cuttingMatches_closed : joinedFacts Try.checked.prog 7 Try.f7 Rows.cuttingMatchesSpec Rows.cuttingMatchesRow = true := by
  unfold joinedFacts
  rw [cuttingMatches_inPlace, cuttingMatches_unfollowed, cuttingMatches_recurses, cuttingMatches_named]
  kernel_rfl
end Go.Proofs.Ytepiapgcpoifpaa
