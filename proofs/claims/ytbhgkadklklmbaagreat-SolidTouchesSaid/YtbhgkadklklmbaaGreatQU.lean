/- The program's copy of a solid, and two solids joined. -/
import Derived.Test.YtbhgkadklklmbaaGreatQP
import Derived.Test.YtbhgkadklklmbaaGreatQI
set_option linter.unusedVariables false
set_option linter.unusedSimpArgs false
namespace Go.Proofs.YtbhgkadklklmbaaGreat
open Go Go.RowKit Go.Sort Go.Lib

structure RowCe where
 a : Option Addr
 l : List PR
 c : Nat
instance : Inhabited RowCe := ⟨⟨none, [], 0⟩⟩
end Go.Proofs.YtbhgkadklklmbaaGreat
