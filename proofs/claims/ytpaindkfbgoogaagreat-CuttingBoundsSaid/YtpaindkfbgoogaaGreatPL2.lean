/- A plan: the model of its places and of its errors; Places of the reference. -/
import Derived.Test.YtpaindkfbgoogaaGreatPL1
set_option linter.unusedVariables false
set_option linter.unusedSimpArgs false
namespace Go.Proofs.YtpaindkfbgoogaaGreat
open Go Go.RowKit

instance layoutI : Inhabited Layout := ⟨⟨0, []⟩⟩
/-! What a row that grows leaves alone. -/
/-! The places of a plan. -/
end Go.Proofs.YtpaindkfbgoogaaGreat
