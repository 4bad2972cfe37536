/- What the document leaves of a solid without another one. -/
import Derived.Test.YtbhgkadklklmbaaGreatQS
import Derived.Test.YtbhgkadklklmbaaGreatQX
import Derived.Test.YtbhgkadklklmbaaGreatQG
import Derived.Test.YtbhgkadklklmbaaGreatQD
import Derived.Test.YtbhgkadklklmbaaGreatQP
import Derived.Test.YtbhgkadklklmbaaGreatQU
import Derived.Test.YtbhgkadklklmbaaGreatQO
import Derived.Test.YtbhgkadklklmbaaGreatQV
import Derived.Test.YtbhgkadklklmbaaGreatQI
import Derived.Test.YtbhgkadklklmbaaGreatQY
import Derived.Test.YtbhgkadklklmbaaGreatQT2
set_option linter.unusedVariables false
set_option linter.unusedSimpArgs false
namespace Go.Proofs.YtbhgkadklklmbaaGreat
open Go Go.RowKit Go.Sort Go.Lib

/-- What is left, step by step. -/
def leftT (n : Nat) (out : List (List Pl)) (ps : List (List Pl)) (y Y : List (List Pl)) (x : List (List Pl)) : Option (List (List Pl)) := match piecesR n ps y with | none => none | some r => leftR Y (out ++ r) x
def leftRE (X Y : List (List Pl)) : Int := match leftR Y [] X with | none => 8 | some _ => 0
def leftRV (X Y : List (List Pl)) : List (List Pl) := (leftR Y [] X).getD []
end Go.Proofs.YtbhgkadklklmbaaGreat
/- Cells through a store into a box beside them; rows of cells put together. -/
set_option linter.unusedVariables false
set_option linter.unusedSimpArgs false
namespace Go.Proofs.YtbhgkadklklmbaaGreat
open Go Go.RowKit Go.Sort Go.Lib

/-- What the calls of the law answer. -/
theorem both_same {A B : List Cell} (h0 : twoE A B = 0) : bothE A B = bothRE (A.map (·.planes)) (B.map (·.planes)) ∧ bothV A B = bothRV (A.map (·.planes)) (B.map (·.planes)) := by
 obtain ⟨ha, hb⟩ := twoE_zero.1 h0
 obtain ⟨e1, e2⟩ := bothE_val h0
 rw [e1, e2, meet_same (solX hb) (solX ha)]
 exact ⟨rfl, rfl⟩
theorem min_same {A B : List Cell} (h0 : twoE A B = 0) : minE A B = leftRE (A.map (·.planes)) (B.map (·.planes)) ∧ leftV A B = leftRV (A.map (·.planes)) (B.map (·.planes)) := by
 obtain ⟨ha, hb⟩ := twoE_zero.1 h0
 obtain ⟨e1, e2⟩ := minE_val h0
 rw [e1, e2, left_same (solX hb) (solX ha)]
 exact ⟨rfl, rfl⟩
theorem both_val {A B : List Cell} : ∀ q ∈ bothV A B, readE q = 0 := fun q hq => by
 unfold bothV at hq
 split at hq
 ·cases hq
 ·rename_i h0
  have h0' : twoE A B = 0 := by simpa using h0
  obtain ⟨ha, hb⟩ := twoE_zero.1 h0'
  cases hm : meetM (B.map (·.planes)) [] (A.map (·.planes)) with
  | none => rw [hm] at hq; cases hq
  | some l => rw [hm] at hq; rw [meet_same (solX hb) (solX ha)] at hm; exact (meet_val (readX ha) (readX hb) hm).1 q hq
theorem left_valid {A B : List Cell} : ∀ q ∈ leftV A B, readE q = 0 := fun q hq => by
 unfold leftV at hq
 split at hq
 ·cases hq
 ·rename_i h0
  have h0' : twoE A B = 0 := by simpa using h0
  obtain ⟨ha, hb⟩ := twoE_zero.1 h0'
  cases hm : leftM (B.map (·.planes)) [] (A.map (·.planes)) with
  | none => rw [hm] at hq; cases hq
  | some l => rw [hm] at hq; rw [left_same (solX hb) (solX ha)] at hm; exact left_val (readX ha) (readX hb) hm q hq
end Go.Proofs.YtbhgkadklklmbaaGreat
