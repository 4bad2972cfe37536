/- The closed cells of the row of CuttingUnity are what the program forces. -/
import Derived.Test.YtdmoiepafkbefaaFrame
set_option linter.unusedVariables false
namespace Go.Proofs.Ytdmoiepafkbefaa
open Go Go.ChangeShapes Go.WideShapes Go.ChangeAt Go.RowKit
set_option maxRecDepth 100000
theorem cuttingUnity_inPlace : (Rows.cuttingUnityRow.inPlace == Try.checked.prog.inPlace 5) = true := by kernel_rfl
theorem cuttingUnity_unfollowed : (Rows.cuttingUnityRow.unfollowed == Try.checked.prog.unfollowed 5) = true := by kernel_rfl
theorem cuttingUnity_recurses : (Rows.cuttingUnityRow.recurses == Try.checked.prog.recurses 5) = true := by kernel_rfl
theorem cuttingUnity_named : (Rows.cuttingUnityRow.named == Try.checked.prog.varsNamed 5) = true := by kernel_rfl
theorem cuttingUnity_closed : joinedFacts Try.checked.prog 5 Try.f5 Rows.cuttingUnitySpec Rows.cuttingUnityRow = true := by
  unfold joinedFacts
  rw [cuttingUnity_inPlace, cuttingUnity_unfollowed, cuttingUnity_recurses, cuttingUnity_named]
  kernel_rfl
end Go.Proofs.Ytdmoiepafkbefaa
