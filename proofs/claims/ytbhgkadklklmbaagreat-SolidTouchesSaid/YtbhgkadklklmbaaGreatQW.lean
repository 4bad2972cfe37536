/- The document's first overlap of two solids. -/
import Derived.Test.YtbhgkadklklmbaaGreatQS
import Derived.Test.YtbhgkadklklmbaaGreatQV
import Derived.Test.YtbhgkadklklmbaaGreatQO
import Derived.Test.YtbhgkadklklmbaaGreatQI
import Derived.Test.YtbhgkadklklmbaaGreatQH
import Derived.Test.YtbhgkadklklmbaaGreatQT2
set_option linter.unusedVariables false
set_option linter.unusedSimpArgs false
namespace Go.Proofs.YtbhgkadklklmbaaGreat
open Go Go.RowKit Go.Sort Go.Lib

theorem refP_len {l : List Pl} (h : l.length ≤ 40) : (refP l).length = (corn l).length := (perm_refP l).length_eq
/-- What the document's functions tell of good planes in memory. -/
structure GoodP (l : List Pl) : Prop where
 g : Good l
 l : l.length ≤ 20
end Go.Proofs.YtbhgkadklklmbaaGreat
/- The first overlap is accepted as a witness (plain). -/
set_option linter.unusedVariables false
set_option linter.unusedSimpArgs false
namespace Go.Proofs.YtbhgkadklklmbaaGreat

theorem valid_good {x : Cell} (h : readE x.planes = 0) : GoodP x.planes := ⟨good_of (readE_zero.1 h).2.1, by have := (readE_zero.1 h).1; omega⟩
end Go.Proofs.YtbhgkadklklmbaaGreat
