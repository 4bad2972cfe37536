/- The closed cells of the row of TimberMasses are what the program forces. -/
import Derived.Test.YthhchnhidhgccaaFrame
set_option linter.unusedVariables false
namespace Go.Proofs.Ythhchnhidhgccaa
open Go Go.ChangeShapes Go.WideShapes Go.ChangeAt Go.RowKit
set_option maxRecDepth 100000
theorem timberMasses_inPlace : (Rows.timberMassesRow.inPlace == Try.checked.prog.inPlace 3) = true := by kernel_rfl
theorem timberMasses_unfollowed : (Rows.timberMassesRow.unfollowed == Try.checked.prog.unfollowed 3) = true := by kernel_rfl
theorem timberMasses_recurses : (Rows.timberMassesRow.recurses == Try.checked.prog.recurses 3) = true := by kernel_rfl
theorem timberMasses_named : (Rows.timberMassesRow.named == Try.checked.prog.varsNamed 3) = true := by kernel_rfl
theorem timberMasses_closed : joinedFacts Try.checked.prog 3 Try.f3 Rows.timberMassesSpec Rows.timberMassesRow = true := by
  unfold joinedFacts
  rw [timberMasses_inPlace, timberMasses_unfollowed, timberMasses_recurses, timberMasses_named]
  kernel_rfl
end Go.Proofs.Ythhchnhidhgccaa
