/- The document's common cells of two solids. -/
import Derived.Test.YtbhgkadklklmbaaGreatQS
import Derived.Test.YtbhgkadklklmbaaGreatQX
import Derived.Test.YtbhgkadklklmbaaGreatQG
import Derived.Test.YtbhgkadklklmbaaGreatQD
import Derived.Test.YtbhgkadklklmbaaGreatQU
import Derived.Test.YtbhgkadklklmbaaGreatQO
import Derived.Test.YtbhgkadklklmbaaGreatQV
import Derived.Test.YtbhgkadklklmbaaGreatQI
set_option linter.unusedVariables false
set_option linter.unusedSimpArgs false
namespace Go.Proofs.YtbhgkadklklmbaaGreat
open Go Go.RowKit Go.Sort Go.Lib

def meetRT (c : List Pl) (out : List (List Pl)) (y Y : List (List Pl)) (x : List (List Pl)) : Option (List (List Pl)) := match meetRK c out y with | none => none | some r => meetR Y r x
def bothRE (X Y : List (List Pl)) : Int := match meetR Y [] X with | none => 8 | some _ => 0
def bothRV (X Y : List (List Pl)) : List (List Pl) := (meetR Y [] X).getD []
end Go.Proofs.YtbhgkadklklmbaaGreat
