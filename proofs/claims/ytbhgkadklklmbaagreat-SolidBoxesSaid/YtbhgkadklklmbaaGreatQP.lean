/- The copy of a solid. -/
import Derived.Test.YtbhgkadklklmbaaGreatQO
import Derived.Test.YtbhgkadklklmbaaGreatQI
set_option linter.unusedVariables false
set_option linter.unusedSimpArgs false
namespace Go.Proofs.YtbhgkadklklmbaaGreat
open Go Go.RowKit Go.Sort Go.Lib

/-- Planes in memory. -/
structure PR where
 ps : List Pl
 pa : Option Addr
 pc : Nat
end Go.Proofs.YtbhgkadklklmbaaGreat
