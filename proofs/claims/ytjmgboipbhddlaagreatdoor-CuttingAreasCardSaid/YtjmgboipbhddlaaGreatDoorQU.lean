import Derived.Test.YtjmgboipbhddlaaGreatDoorRR
import Derived.Test.YtjmgboipbhddlaaGreatDoorCH1
import Derived.Test.YtjmgboipbhddlaaGreatDoorQL
import Derived.Test.YtjmgboipbhddlaaGreatDoorPX1
import Derived.Test.YtjmgboipbhddlaaGreatDoorQG
import Derived.OpenShut
import Derived.Test.YtjmgboipbhddlaaGreatDoorA8
set_option linter.unusedVariables false
set_option linter.unusedSimpArgs false
namespace Go.Proofs.YtjmgboipbhddlaaGreatDoor
open Go Go.RowKit

def roomTo (j : Job) (sp : ByteArray) : Nat → Int × Int
 | 0 => (0, 0)
 | k + 1 => if ((j.stock.getD k default).species.toList == sp.toList) = true then (max (roomTo j sp k).1 ((usableR (j.stock.getD k default) j.trim).x2 - (usableR (j.stock.getD k default) j.trim).x1), max (roomTo j sp k).2 ((usableR (j.stock.getD k default) j.trim).y2 - (usableR (j.stock.getD k default) j.trim).y1)) else roomTo j sp k
def roomM (j : Job) (sp : ByteArray) : Int × Int := roomTo j sp j.stock.length
end Go.Proofs.YtjmgboipbhddlaaGreatDoor

set_option linter.unusedVariables false
set_option linter.unusedSimpArgs false
namespace Go.Proofs.YtjmgboipbhddlaaGreatDoor
open Go Go.RowKit

def fitsP (j : Job) (x : Blank) : Prop := x.length ≤ (roomM j x.species).1 ∧ x.width ≤ (roomM j x.species).2
instance (j : Job) (x : Blank) : Decidable (fitsP j x) := by unfold fitsP; infer_instance
end Go.Proofs.YtjmgboipbhddlaaGreatDoor

set_option linter.unusedVariables false
set_option linter.unusedSimpArgs false
namespace Go.Proofs.YtjmgboipbhddlaaGreatDoor
open Go Go.ChangeShapes Go.WideShapes Go.ChangeAt Go.RowKit

theorem okWide_pair {P : Program} {w : World} {r : Reach} {base : Nat} {t e : TypeId} {n : Nat} {v : Value} (ht : P.underlying t = some (.array n e)) (h : Value.okWide P w r base t v) : ∃ cs, v = .agg cs ∧ cs.size = P.cellsOf t := by
 simp only [Value.okWide, ht] at h
 obtain ⟨cs, h1, h2, _⟩ := h
 exact ⟨cs, h1, h2⟩
theorem pair_open {H : Type} {enc : TypeId × Value → H} {w : World} {spare : Nat → Bool} {held : Bool} {fuel : Nat} {cs : List Value} {y : DataW H × List MemPlace} (h : DataW.trod enc Tryz.prog w 0 spare held fuel 29 cs = some y) :
    ∃ p q : Int, cs = [.int .i64 p, .int .i64 q] ∧ ((-9223372036854775808 ≤ p ∧ p ≤ 9223372036854775807) ∧ (-9223372036854775808 ≤ q ∧ q ≤ 9223372036854775807)) := by
 obtain ⟨xs, m, -, -, hl, hx, hi⟩ := DataW.trod_array Tryz.underlying29 h
 have hl2 : cs.length = 2 := hl.trans (by kernel_rfl)
 have h1 : Tryz.prog.cellsOf 3 = 1 := by kernel_rfl
 rw [h1] at hi
 match cs, hl2, xs, hx with
 | [v0, v1], _, [y0, y1], _ =>
  have t0 := hi 0 (by decide)
  have t1 := hi 1 (by decide)
  simp at t0 t1
  obtain ⟨n0, g0, -, q0⟩ := DataW.trod_int Tryz.underlying3 t0
  obtain ⟨n1, g1, -, q1⟩ := DataW.trod_int Tryz.underlying3 t1
  simp only [List.cons.injEq, and_true] at g0 g1
  exact ⟨n0, n1, by rw [g0, g1], int_wf q0, int_wf q1⟩
end Go.Proofs.YtjmgboipbhddlaaGreatDoor

set_option linter.unusedVariables false
set_option linter.unusedSimpArgs false
namespace Go.Proofs.YtjmgboipbhddlaaGreatDoor

section
variable {u : Rect} {kerf : Int} {s : BS}
end
end Go.Proofs.YtjmgboipbhddlaaGreatDoor

set_option linter.unusedVariables false
set_option linter.unusedSimpArgs false
namespace Go.Proofs.YtjmgboipbhddlaaGreatDoor

section
variable {j : Job} {b : Board} {s0 : BS} {x1 y1 x2 y2 : Int}
end

section
variable {j : Job}
end
end Go.Proofs.YtjmgboipbhddlaaGreatDoor
