/- A piece of a plan: its error, by the program and by the reference. -/
import Derived.Test.YtpaindkfbgoogaaGreatCH1
import Derived.Test.YtpaindkfbgoogaaGreatRR
set_option linter.unusedVariables false
set_option linter.unusedSimpArgs false
namespace Go.Proofs.YtpaindkfbgoogaaGreat
open Go Go.RowKit

structure Placed where
  board : Int
  blank : Int
  at_ : Rect
deriving DecidableEq
theorem blank_row {w : World} {a : Option Addr} {l : List Blank} (h : Blanks.V w a l) {k : Nat} (hk : k < l.length) : ∃ g off, a = some ⟨g, off, none⟩ ∧ CellsB w g (off + k * 6) l[k] := by
  obtain ⟨g, off, ha, c0, c1, c2, c3, c4, c5, -⟩ := h.at_ hk
  exact ⟨g, off, ha, c0, c1, c2, c3, c4, c5⟩
theorem CellsB.keep2 {W W' : World} {g o : Nat} {x : Blank} (h : CellsB W g o x) (hb : Below W.heap.size W W') : CellsB W' g o x := ⟨cell_keep hb h.c0, cell_keep hb h.c1, cell_keep hb h.c2, cell_keep hb h.c3, cell_keep hb h.c4, cell_keep hb h.c5⟩

end Go.Proofs.YtpaindkfbgoogaaGreat
