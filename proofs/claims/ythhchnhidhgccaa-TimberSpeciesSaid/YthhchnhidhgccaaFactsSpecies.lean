/- The closed cells of the row of TimberSpecies are what the program forces. -/
import Derived.Test.YthhchnhidhgccaaFrame
set_option linter.unusedVariables false
namespace Go.Proofs.Ythhchnhidhgccaa
open Go Go.ChangeShapes Go.WideShapes Go.ChangeAt Go.RowKit
set_option maxRecDepth 100000
theorem timberSpecies_inPlace : (Rows.timberSpeciesRow.inPlace == Try.checked.prog.inPlace 6) = true := by kernel_rfl
theorem timberSpecies_unfollowed : (Rows.timberSpeciesRow.unfollowed == Try.checked.prog.unfollowed 6) = true := by kernel_rfl
theorem timberSpecies_recurses : (Rows.timberSpeciesRow.recurses == Try.checked.prog.recurses 6) = true := by kernel_rfl
theorem timberSpecies_named : (Rows.timberSpeciesRow.named == Try.checked.prog.varsNamed 6) = true := by kernel_rfl
theorem timberSpecies_closed : joinedFacts Try.checked.prog 6 Try.f6 Rows.timberSpeciesSpec Rows.timberSpeciesRow = true := by
  unfold joinedFacts
  rw [timberSpecies_inPlace, timberSpecies_unfollowed, timberSpecies_recurses, timberSpecies_named]
  kernel_rfl
end Go.Proofs.Ythhchnhidhgccaa
