/- Rows of bools, appends at a desk: what other texts of chapter 8 want of those on veneers. -/
import Derived.Test.YtpaindkfbgoogaaGreatInts
import Derived.Deep.QuietTactic
import Derived.BigQuiet
import Derived.Test.YtpaindkfbgoogaaGreatQL
import Derived.Lib.Walk
set_option linter.unusedVariables false
set_option linter.unusedSimpArgs false
namespace Go.Proofs.YtpaindkfbgoogaaGreat
open Go Go.ChangeShapes Go.WideShapes Go.ChangeAt Go.RowKit Go.Deep
theorem frozen_keep {w w' : World} {b o : Nat} (hb : Below w.heap.size w w') (hz : b < w.heap.size) (h : w.frozen? ⟨b, o, none⟩ = false) : w'.frozen? ⟨b, o, none⟩ = false := by
  rw [(bcell hb).2 b o hz]; exact h
end Go.Proofs.YtpaindkfbgoogaaGreat
