/- The greedy plan is accepted: the pieces. -/
import Derived.Test.YtoelfalmmaddlaaGreatA8
import Derived.Test.YtoelfalmmaddlaaGreatQG
set_option linter.unusedVariables false
set_option linter.unusedSimpArgs false
namespace Go.Proofs.YtoelfalmmaddlaaGreat

section
variable {j : Job} {b : Board} {s0 : BS} {x1 y1 x2 y2 : Int}
end

section
variable {j : Job}
/-! What comes out. -/
theorem seq_lt {l : List Blank} {i : Nat} (h : i ∈ seqM l) : i < l.length := by
 unfold seqM at h
 obtain ⟨x, hx, hi⟩ := List.mem_flatMap.1 h
 obtain rfl := (List.mem_replicate.1 hi).2
 exact orderM_lt hx
end
end Go.Proofs.YtoelfalmmaddlaaGreat
