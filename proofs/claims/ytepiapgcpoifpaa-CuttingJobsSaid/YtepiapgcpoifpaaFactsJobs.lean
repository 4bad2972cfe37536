/- The closed cells of the row of CuttingJobs are what the program forces. -/
import Derived.Test.YtepiapgcpoifpaaFrame
set_option linter.unusedVariables false
namespace Go.Proofs.Ytepiapgcpoifpaa
open Go Go.ChangeShapes Go.WideShapes Go.ChangeAt Go.RowKit
set_option maxRecDepth 100000
theorem cuttingJobs_inPlace : (Rows.cuttingJobsRow.inPlace == Try.checked.prog.inPlace 5) = true := by kernel_rfl
theorem cuttingJobs_unfollowed : (Rows.cuttingJobsRow.unfollowed == Try.checked.prog.unfollowed 5) = true := by kernel_rfl
theorem cuttingJobs_recurses : (Rows.cuttingJobsRow.recurses == Try.checked.prog.recurses 5) = true := by kernel_rfl
theorem cuttingJobs_named : (Rows.cuttingJobsRow.named == Try.checked.prog.varsNamed 5) = true := by kernel_rfl
theorem cuttingJobs_closed : joinedFacts Try.checked.prog 5 Try.f5 Rows.cuttingJobsSpec Rows.cuttingJobsRow = true := by
  unfold joinedFacts
  rw [cuttingJobs_inPlace, cuttingJobs_unfollowed, cuttingJobs_recurses, cuttingJobs_named]
  kernel_rfl
end Go.Proofs.Ytepiapgcpoifpaa
