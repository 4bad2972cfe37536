/- The closed cells of the row of CuttingSound are what the program forces. -/
import Derived.Test.YtdmoiepafkbefaaFrame
set_option linter.unusedVariables false
namespace Go.Proofs.Ytdmoiepafkbefaa
open Go Go.ChangeShapes Go.WideShapes Go.ChangeAt Go.RowKit
set_option maxRecDepth 100000
theorem cuttingSound_inPlace : (Rows.cuttingSoundRow.inPlace == Try.checked.prog.inPlace 4) = true := by kernel_rfl
theorem cuttingSound_unfollowed : (Rows.cuttingSoundRow.unfollowed == Try.checked.prog.unfollowed 4) = true := by kernel_rfl
theorem cuttingSound_recurses : (Rows.cuttingSoundRow.recurses == Try.checked.prog.recurses 4) = true := by kernel_rfl
theorem cuttingSound_named : (Rows.cuttingSoundRow.named == Try.checked.prog.varsNamed 4) = true := by kernel_rfl
theorem cuttingSound_closed : joinedFacts Try.checked.prog 4 Try.f4 Rows.cuttingSoundSpec Rows.cuttingSoundRow = true := by
  unfold joinedFacts
  rw [cuttingSound_inPlace, cuttingSound_unfollowed, cuttingSound_recurses, cuttingSound_named]
  kernel_rfl
end Go.Proofs.Ytdmoiepafkbefaa
