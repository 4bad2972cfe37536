/- The closed cells of the row of TopVeneerInSequence are what the program forces. -/
import Derived.Test.YtepiapgcpoifpaaFrame
set_option linter.unusedVariables false
namespace Go.Proofs.Ytepiapgcpoifpaa
open Go Go.ChangeShapes Go.WideShapes Go.ChangeAt Go.RowKit
set_option maxRecDepth 100000
theorem topVeneerInSequence_inPlace : (Rows.topVeneerInSequenceRow.inPlace == Try.checked.prog.inPlace 13) = true := by kernel_rfl
theorem topVeneerInSequence_unfollowed : (Rows.topVeneerInSequenceRow.unfollowed == Try.checked.prog.unfollowed 13) = true := by kernel_rfl
theorem topVeneerInSequence_recurses : (Rows.topVeneerInSequenceRow.recurses == Try.checked.prog.recurses 13) = true := by kernel_rfl
theorem topVeneerInSequence_named : (Rows.topVeneerInSequenceRow.named == Try.checked.prog.varsNamed 13) = true := by kernel_rfl
theorem topVeneerInSequence_closed : joinedFacts Try.checked.prog 13 Try.f13 Rows.topVeneerInSequenceSpec Rows.topVeneerInSequenceRow = true := by
  unfold joinedFacts
  rw [topVeneerInSequence_inPlace, topVeneerInSequence_unfollowed, topVeneerInSequence_recurses, topVeneerInSequence_named]
  kernel_rfl
end Go.Proofs.Ytepiapgcpoifpaa
