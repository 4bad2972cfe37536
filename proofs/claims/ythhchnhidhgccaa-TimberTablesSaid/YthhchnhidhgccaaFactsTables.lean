/- The closed cells of the row of TimberTables are what the program forces. -/
import Derived.Test.YthhchnhidhgccaaFrame
set_option linter.unusedVariables false
namespace Go.Proofs.Ythhchnhidhgccaa
open Go Go.ChangeShapes Go.WideShapes Go.ChangeAt Go.RowKit
set_option maxRecDepth 100000
theorem timberTables_inPlace : (Rows.timberTablesRow.inPlace == Try.checked.prog.inPlace 12) = true := by kernel_rfl
theorem timberTables_unfollowed : (Rows.timberTablesRow.unfollowed == Try.checked.prog.unfollowed 12) = true := by kernel_rfl
theorem timberTables_recurses : (Rows.timberTablesRow.recurses == Try.checked.prog.recurses 12) = true := by kernel_rfl
theorem timberTables_named : (Rows.timberTablesRow.named == Try.checked.prog.varsNamed 12) = true := by kernel_rfl
theorem timberTables_closed : joinedFacts Try.checked.prog 12 Try.f12 Rows.timberTablesSpec Rows.timberTablesRow = true := by
  unfold joinedFacts
  rw [timberTables_inPlace, timberTables_unfollowed, timberTables_recurses, timberTables_named]
  kernel_rfl
end Go.Proofs.Ythhchnhidhgccaa
