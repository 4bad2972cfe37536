/- Cells through a store into a box beside them; rows of cells put together. -/
import Derived.Test.YtbhgkadklklmbaaGreatQS
import Derived.Test.YtbhgkadklklmbaaGreatQN
import Derived.Test.YtbhgkadklklmbaaGreatQB
import Derived.Test.YtbhgkadklklmbaaGreatQC
import Derived.Test.YtbhgkadklklmbaaGreatQI
import Derived.Test.YtbhgkadklklmbaaGreatQO
import Derived.Test.YtbhgkadklklmbaaGreatQE
import Derived.Test.YtbhgkadklklmbaaGreatQD
import Derived.Test.YtbhgkadklklmbaaGreatQG
import Derived.Test.YtbhgkadklklmbaaGreatQP
import Derived.Test.YtbhgkadklklmbaaGreatQU
import Derived.Test.YtbhgkadklklmbaaGreatQY
import Derived.Test.YtbhgkadklklmbaaGreatQT2
set_option linter.unusedVariables false
set_option linter.unusedSimpArgs false
namespace Go.Proofs.YtbhgkadklklmbaaGreat
open Go Go.RowKit Go.Sort Go.Lib

/-- A store into the box of a solid leaves the cells of another one alone. -/
theorem cells_set {w : World} {a wa : Option Addr} {l V : List Cell} {g wc : Nat} (h : Cells.V w a l) (hne : ∀ x ∈ l, x.planes ≠ []) (hbox : w.cell? ⟨g, 0, none⟩ = some (.slice wa V.length wc)) (hV : Cells.V w wa V) (u : Value) : Cells.V (w.setCell ⟨g, 0, none⟩ u) a l := fun hl => by
 obtain ⟨b, off, rfl, hx⟩ := h hl
 refine ⟨b, off, rfl, fun k x hk => ?_⟩
 obtain ⟨pa, pc, h1, h2, h3, h4, h5⟩ := hx k x hk
 have hxn := hne x (List.mem_of_getElem? hk)
 obtain ⟨pb, poff, rfl, hp⟩ := h2 hxn
 have n1 : (⟨g, 0, none⟩ : Addr) ≠ ⟨b, off + k * 1, none⟩ := fun e => by
  rw [← e, hbox] at h1
  injection h1 with h1
  injection h1 with e1 e2 e3
  have hVn : V ≠ [] := fun e => by rw [e] at e2; exact hxn (List.length_eq_zero_iff.1 e2.symm)
  obtain ⟨vb, voff, e4, hv⟩ := hV hVn
  rw [e4] at e1
  injection e1 with e1
  injection e1 with e5 e6
  subst e5 e6
  cases hxp : x.planes with
  | nil => exact hxn hxp
  | cons p ps =>
   cases hvp : V with
   | nil => exact hVn hvp
   | cons y ys =>
    have c1 := (hp 0 p (by rw [hxp]; rfl)).1
    obtain ⟨qa, qc, c2, -⟩ := hv 0 y (by rw [hvp]; rfl)
    rw [Nat.zero_mul, Nat.add_zero] at c1 c2
    rw [c1] at c2
    cases c2
 refine ⟨some ⟨pb, poff, none⟩, pc, by rw [cell_set_ne n1 rfl rfl]; exact h1, fun _ => ⟨pb, poff, rfl, fun j p hj => ?_⟩, h3, h4, h5⟩
 obtain ⟨c0, c1, c2, c3, hw⟩ := hp j p hj
 have key : ∀ o z, w.cell? ⟨pb, o, none⟩ = some (.int .i64 z) → (w.setCell ⟨g, 0, none⟩ u).cell? ⟨pb, o, none⟩ = some (.int .i64 z) := fun o z hz => by
  rw [cell_set_ne (fun e => by rw [← e, hbox] at hz; injection hz with hz; cases hz) rfl rfl]; exact hz
 exact ⟨key _ _ c0, key _ _ c1, key _ _ c2, key _ _ c3, hw⟩
end Go.Proofs.YtbhgkadklklmbaaGreat
