/- What is left and what is common are the whole: what the calls of the law answer (plain). -/
import Derived.Test.YtbhgkadklklmbaaGreatQU
import Derived.Test.YtbhgkadklklmbaaGreatQI
import Derived.Test.YtbhgkadklklmbaaGreatQD
set_option linter.unusedVariables false
set_option linter.unusedSimpArgs false
namespace Go.Proofs.YtbhgkadklklmbaaGreat

theorem solE_zero {l : List Cell} : solE l = 0 ↔ l.length ≤ 100 ∧ ∀ c ∈ l, readE c.planes = 0 := by
 unfold solE
 split
 ·rename_i h; simp; omega
 ·rename_i h; rw [chkCs_all]; simp; omega
end Go.Proofs.YtbhgkadklklmbaaGreat
