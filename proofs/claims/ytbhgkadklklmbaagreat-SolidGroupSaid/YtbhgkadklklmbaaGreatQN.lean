/- The document's greatest common divisor, and the lowest form of a plane. -/
import Derived.Test.YtbhgkadklklmbaaGreatQC
import Derived.Test.YtbhgkadklklmbaaGreatQE
import Derived.Test.YtbhgkadklklmbaaGreatQF
import Derived.Test.YtbhgkadklklmbaaGreatQA
import Derived.Test.YtbhgkadklklmbaaGreatQB
set_option linter.unusedVariables false
set_option linter.unusedSimpArgs false
namespace Go.Proofs.YtbhgkadklklmbaaGreat
open Go Go.RowKit Go.Sort Go.Lib

theorem withinR_any (n lo hi : Int) (w : World) : Calls Tryz.prog 82 #[.int .i64 n, .int .i64 lo, .int .i64 hi] w fun e w' => e = .returned (.bool (withinB n lo hi)) ∧ w = w' := by
 by_cases h : lo ≤ n
 ·have hE := Lib.hid (show withinB n lo hi = decide (n ≤ hi) by unfold withinB; rw [decide_eq_true h]; rfl)
  go_enter Tryz.func82, Tryz.ntmps82
  go_wp2_with fail
  go_ret
  exact ⟨ret_bool (by rw [hE.out]), rfl⟩
 ·have hE := Lib.hid (show withinB n lo hi = false by unfold withinB; rw [decide_eq_false h]; rfl)
  go_enter Tryz.func82, Tryz.ntmps82
  go_wp2_with fail
  go_ret
  exact ⟨ret_bool (by rw [hE.out]), rfl⟩
end Go.Proofs.YtbhgkadklklmbaaGreat
