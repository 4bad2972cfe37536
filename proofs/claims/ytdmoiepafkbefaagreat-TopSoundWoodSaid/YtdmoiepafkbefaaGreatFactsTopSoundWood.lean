/- The closed cells of the row of TopSoundWood are what the program forces. -/
import Derived.Test.YtdmoiepafkbefaaGreatFrame
set_option linter.unusedVariables false
namespace Go.Proofs.YtdmoiepafkbefaaGreat
open Go Go.ChangeShapes Go.WideShapes Go.ChangeAt Go.RowKit
set_option maxRecDepth 100000
theorem topSoundWood_inPlace : (Rows.topSoundWoodRow.inPlace == Tryz.checked.prog.inPlace 7) = true := by kernel_rfl
theorem topSoundWood_unfollowed : (Rows.topSoundWoodRow.unfollowed == Tryz.checked.prog.unfollowed 7) = true := by kernel_rfl
theorem topSoundWood_recurses : (Rows.topSoundWoodRow.recurses == Tryz.checked.prog.recurses 7) = true := by kernel_rfl
theorem topSoundWood_named : (Rows.topSoundWoodRow.named == Tryz.checked.prog.varsNamed 7) = true := by kernel_rfl
theorem topSoundWood_closed : joinedFacts Tryz.checked.prog 7 Tryz.f7 Rows.topSoundWoodSpec Rows.topSoundWoodRow = true := by
  unfold joinedFacts
  rw [topSoundWood_inPlace, topSoundWood_unfollowed, topSoundWood_recurses, topSoundWood_named]
  kernel_rfl
end Go.Proofs.YtdmoiepafkbefaaGreat
