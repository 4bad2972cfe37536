/- The tree of a layout's regions: what holds of the regions still whole, from step to step. Laws of a layout's regions: how they lie, and sums over them. Weights add up: a weight's scaled value never falls short where two fractions are put together. An accepted plan: its pieces lie in the usable rectangles, on sound wood, a kerf apart; there are as many as are wanted. -/
import Derived.Test.YtpaindkfbgoogaaGreatRR
import Derived.Test.YtpaindkfbgoogaaGreatPL2
set_option linter.unusedVariables false
set_option linter.unusedSimpArgs false
namespace Go.Proofs.YtpaindkfbgoogaaGreat

section
variable {kerf : Int} {l : List Cut}
end
end Go.Proofs.YtpaindkfbgoogaaGreat

set_option linter.unusedVariables false
set_option linter.unusedSimpArgs false
namespace Go.Proofs.YtpaindkfbgoogaaGreat

section
variable {kerf : Int} {l : List Cut} {u : Rect}

/-! How they lie. -/
def apart (kerf : Int) (a b : Rect) : Prop := a.x2 + kerf ≤ b.x1 ∨ b.x2 + kerf ≤ a.x1 ∨ a.y2 + kerf ≤ b.y1 ∨ b.y2 + kerf ≤ a.y1
end
end Go.Proofs.YtpaindkfbgoogaaGreat

set_option linter.unusedVariables false
set_option linter.unusedSimpArgs false
namespace Go.Proofs.YtpaindkfbgoogaaGreat

end Go.Proofs.YtpaindkfbgoogaaGreat

set_option linter.unusedVariables false
set_option linter.unusedSimpArgs false
namespace Go.Proofs.YtpaindkfbgoogaaGreat

theorem whole_real (r : Rect) : wholeR r = zeroR ∨ ((wholeR r).x1 < (wholeR r).x2 ∧ (wholeR r).y1 < (wholeR r).y2) := by
  unfold wholeR
  by_cases h : r.x2 ≤ r.x1 ∨ r.y2 ≤ r.y1
  · rw [if_pos h]; exact .inl rfl
  · rw [if_neg h]; exact .inr (by omega)
end Go.Proofs.YtpaindkfbgoogaaGreat
