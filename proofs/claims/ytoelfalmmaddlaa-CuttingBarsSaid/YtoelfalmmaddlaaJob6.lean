/- Small jobs; checkCut, Usable of the program and of the reference. -/
import Derived.Test.YtoelfalmmaddlaaA8
import Derived.Test.YtoelfalmmaddlaaVG
set_option linter.unusedVariables false
set_option linter.unusedSimpArgs false
namespace Go.Proofs.Ytoelfalmmaddlaa
open Go Go.RowKit

structure Zero4 (W : World) (g : Nat) : Prop where
  c0 : W.cell? ⟨g, 0, none⟩ = some (.int .i64 0)
  c1 : W.cell? ⟨g, 1, none⟩ = some (.int .i64 0)
  c2 : W.cell? ⟨g, 2, none⟩ = some (.int .i64 0)
  c3 : W.cell? ⟨g, 3, none⟩ = some (.int .i64 0)
  f0 : W.frozen? ⟨g, 0, none⟩ = false
  f1 : W.frozen? ⟨g, 1, none⟩ = false
  f2 : W.frozen? ⟨g, 2, none⟩ = false
  f3 : W.frozen? ⟨g, 3, none⟩ = false
theorem Zero4.keep {W W' : World} {g : Nat} (h : Zero4 W g) (hb : Below W.heap.size W W') (hz : g < W.heap.size) : Zero4 W' g :=
  ⟨cell_keep hb h.c0, cell_keep hb h.c1, cell_keep hb h.c2, cell_keep hb h.c3, frozen_keep hb hz h.f0, frozen_keep hb hz h.f1, frozen_keep hb hz h.f2, frozen_keep hb hz h.f3⟩
def cutE (b : Board) (t : Trim) : Int := if boardErr b ≠ 0 then boardErr b else trimE t
theorem cutE_ok {b : Board} {t : Trim} (h : cutE b t = 0) : boardErr b = 0 ∧ trimE t = 0 := by
  unfold cutE at h
  split at h
  · rename_i h1; exact absurd h h1
  · rename_i h1; exact ⟨by simpa using h1, h⟩
theorem cut_bounds {b : Board} {t : Trim} (h : cutE b t = 0) : (0 ≤ b.length ∧ b.length ≤ 600000 ∧ 0 ≤ b.width ∧ b.width ≤ 600000) ∧ (0 ≤ t.ends ∧ t.ends ≤ 10000 ∧ 0 ≤ t.sides ∧ t.sides ≤ 10000) := by
  obtain ⟨h1, h2⟩ := cutE_ok h
  obtain ⟨_, h3, _⟩ := boardErr_ok h1
  have h4 := trimE_ok h2
  omega
def usableM (b : Board) (t : Trim) : Rect × Int := if cutE b t ≠ 0 then (⟨0, 0, 0, 0⟩, cutE b t) else (usableR b t, 0)
end Go.Proofs.Ytoelfalmmaddlaa
