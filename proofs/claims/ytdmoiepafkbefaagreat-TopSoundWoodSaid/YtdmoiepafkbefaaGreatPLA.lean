/- Brief plans; equal places. -/
import Derived.Test.YtdmoiepafkbefaaGreatA8
import Derived.Test.YtdmoiepafkbefaaGreatRR
import Derived.Test.YtdmoiepafkbefaaGreatJob7
import Derived.Test.YtdmoiepafkbefaaGreatPL9
set_option linter.unusedVariables false
set_option linter.unusedSimpArgs false
namespace Go.Proofs.YtdmoiepafkbefaaGreat
open Go Go.RowKit

def briefsL (n : Nat) : Prop := ¬ (6 < n ∧ n ≤ 100) ∧ ¬ 110 < n
instance (n : Nat) : Decidable (briefsL n) := by unfold briefsL; infer_instance
end Go.Proofs.YtdmoiepafkbefaaGreat
