/- The least box about a solid, as the program says it. -/
import Derived.Test.YtbhgkadklklmbaaGreatQM
import Derived.Test.YtbhgkadklklmbaaGreatQG
import Derived.Test.YtbhgkadklklmbaaGreatQF
import Derived.Test.YtbhgkadklklmbaaGreatQO
import Derived.Test.YtbhgkadklklmbaaGreatQB
import Derived.Test.YtbhgkadklklmbaaGreatQK
set_option linter.unusedVariables false
set_option linter.unusedSimpArgs false
namespace Go.Proofs.YtbhgkadklklmbaaGreat
open Go Go.RowKit Go.Sort Go.Lib

/-- A corner of a good solid: its coordinates, its box. -/
structure CoRm (c : Co) : Prop where
 n : 1 ≤ c.n ∧ c.n ≤ 5000
 x : -1500000000 ≤ c.x ∧ c.x ≤ 1500000000
 y : -1500000000 ≤ c.y ∧ c.y ≤ 1500000000
 z : -1500000000 ≤ c.z ∧ c.z ≤ 1500000000
 r : Rm c
theorem corn_coRm {l : List Pl} (h : readE l = 0) : ∀ c ∈ corn l, CoRm c := fun c hc => by
 have hr := List.all_eq_true.1 (readE_zero.1 h).2.2.2.2 c hc
 have hg := good_of (readE_zero.1 h).2.1
 have hn := (corn_low c hc).pos
 have hi := (corn_in hg c hc).2
 have hm := room_rm hn hr
 unfold inRoomB withinB at hr
 simp only [Bool.and_eq_true, decide_eq_true_eq] at hr
 have hl : c.n ≤ 5000 := by omega
 exact ⟨by omega, by omega, by omega, by omega, hm⟩
end Go.Proofs.YtbhgkadklklmbaaGreat
