/- The program's copy of a solid, and two solids joined. -/
import Derived.Test.YtbhgkadklklmbaaGreatQP
import Derived.Test.YtbhgkadklklmbaaGreatQI
import Derived.Test.YtbhgkadklklmbaaGreatQD
set_option linter.unusedVariables false
set_option linter.unusedSimpArgs false
namespace Go.Proofs.YtbhgkadklklmbaaGreat
open Go Go.RowKit Go.Sort Go.Lib

structure RowCe where
 a : Option Addr
 l : List PR
 c : Nat
instance : Inhabited RowCe := ⟨⟨none, [], 0⟩⟩
end Go.Proofs.YtbhgkadklklmbaaGreat
/- What is left and what is common are valid cells (plain). -/
set_option linter.unusedVariables false
set_option linter.unusedSimpArgs false
namespace Go.Proofs.YtbhgkadklklmbaaGreat

theorem Good.opp {p : Pl} (h : p.in_ ∧ nrm p ≠ v0) : (opp p).in_ ∧ nrm (opp p) ≠ v0 := by
 obtain ⟨⟨⟨h1, h2, h3⟩, h4⟩, h5⟩ := h
 refine ⟨?_, by rw [nrm_opp]; exact neg_ne h5⟩
 unfold Pl.in_ Vec.in_ nrm Go.Proofs.YtbhgkadklklmbaaGreat.opp at *
 simp only at *
 omega
end Go.Proofs.YtbhgkadklklmbaaGreat
