/- Layouts: the error of one region (checkRegion and cutErr). Layouts: cutErr of the reference. Layouts: the model of a layout's regions; rows of rectangles of the call's own. The two regions of a cut, by the reference. A cut and a trim in a box of their own. Layouts: lists of rectangles that are equal; brief layouts. Layouts: regions of the program. Layouts: Regions and CheckLayout of the program. Layouts: Regions of the reference (loops 1 and 2; loop 3 is open). Layouts: CheckLayout of the reference. -/
import Derived.Test.YtpaindkfbgoogaaGreatJob6
import Derived.Test.YtpaindkfbgoogaaGreatQL
import Derived.Test.YtpaindkfbgoogaaGreatVG
import Derived.Test.YtpaindkfbgoogaaGreatQA
import Derived.Test.YtpaindkfbgoogaaGreatC8c
import Derived.Test.YtpaindkfbgoogaaGreatSlots
set_option linter.unusedVariables false
set_option linter.unusedSimpArgs false
namespace Go.Proofs.YtpaindkfbgoogaaGreat
open Go Go.RowKit

section
variable {c : Cut} {i n : Int}
end
end Go.Proofs.YtpaindkfbgoogaaGreat

set_option linter.unusedVariables false
set_option linter.unusedSimpArgs false
namespace Go.Proofs.YtpaindkfbgoogaaGreat
open Go Go.RowKit

end Go.Proofs.YtpaindkfbgoogaaGreat

set_option linter.unusedVariables false
set_option linter.unusedSimpArgs false
namespace Go.Proofs.YtpaindkfbgoogaaGreat
open Go Go.RowKit

section
variable {α : Type} {enc : α → List Value} {k : Nat}
end
/-! The model. -/
section
variable {n : Nat} {l : List Cut} {k : Nat} {O : List Bool} {q : Int × List Bool}
end
section
variable {kerf : Int} {l : List Cut} {k : Nat} {R : List Rect} {q : List Rect × Int}
end
end Go.Proofs.YtpaindkfbgoogaaGreat

set_option linter.unusedVariables false
set_option linter.unusedSimpArgs false
namespace Go.Proofs.YtpaindkfbgoogaaGreat
open Go Go.RowKit

theorem bne_t5 {a : Int} (h : ¬ a = 0) : (a != 0) = true := by simpa using h
section
variable {W : World} {g : Nat} {x1 y1 x2 y2 : Int}
end
end Go.Proofs.YtpaindkfbgoogaaGreat

set_option linter.unusedVariables false
set_option linter.unusedSimpArgs false
namespace Go.Proofs.YtpaindkfbgoogaaGreat
open Go Go.RowKit

end Go.Proofs.YtpaindkfbgoogaaGreat

set_option linter.unusedVariables false
set_option linter.unusedSimpArgs false
namespace Go.Proofs.YtpaindkfbgoogaaGreat
open Go Go.RowKit

end Go.Proofs.YtpaindkfbgoogaaGreat

set_option linter.unusedVariables false
set_option linter.unusedSimpArgs false
namespace Go.Proofs.YtpaindkfbgoogaaGreat
open Go Go.RowKit

end Go.Proofs.YtpaindkfbgoogaaGreat

set_option linter.unusedVariables false
set_option linter.unusedSimpArgs false
namespace Go.Proofs.YtpaindkfbgoogaaGreat
open Go Go.RowKit

end Go.Proofs.YtpaindkfbgoogaaGreat

set_option linter.unusedVariables false
set_option linter.unusedSimpArgs false
namespace Go.Proofs.YtpaindkfbgoogaaGreat
open Go Go.RowKit

end Go.Proofs.YtpaindkfbgoogaaGreat

set_option linter.unusedVariables false
set_option linter.unusedSimpArgs false
namespace Go.Proofs.YtpaindkfbgoogaaGreat
open Go Go.RowKit

end Go.Proofs.YtpaindkfbgoogaaGreat
