/- What is left and what is common are the whole: what the calls of the law answer (plain). -/
import Derived.Test.YtbhgkadklklmbaaGreatQU
import Derived.Test.YtbhgkadklklmbaaGreatQI
set_option linter.unusedVariables false
set_option linter.unusedSimpArgs false
namespace Go.Proofs.YtbhgkadklklmbaaGreat

theorem solE_zero {l : List Cell} : solE l = 0 ↔ l.length ≤ 100 ∧ ∀ c ∈ l, readE c.planes = 0 := by
 unfold solE
 split
 ·rename_i h; simp; omega
 ·rename_i h; rw [chkCs_all]; simp; omega
theorem mk_planes (l : List (List Pl)) : (l.map Cell.mk).map (·.planes) = l := by simp [List.map_map, Function.comp_def]
theorem sol_mk {l : List (List Pl)} (h : ∀ q ∈ l, readE q = 0) (hl : l.length ≤ 100) : solE (l.map Cell.mk) = 0 :=
 solE_zero.2 ⟨by simpa using hl, fun c hc => by obtain ⟨q, hq, rfl⟩ := List.mem_map.1 hc; exact h q hq⟩
theorem readX {A : List Cell} (h : solE A = 0) : ∀ c ∈ A.map (·.planes), readE c = 0 := fun c hc => by
 obtain ⟨x, hx, rfl⟩ := List.mem_map.1 hc
 exact (solE_zero.1 h).2 x hx
theorem solX {A : List Cell} (h : solE A = 0) : ∀ c ∈ A.map (·.planes), Sol c := fun c hc => sol_of (readX h c hc)
theorem minE_val {A B : List Cell} (h0 : twoE A B = 0) : minE A B = (match leftM (B.map (·.planes)) [] (A.map (·.planes)) with | none => 8 | some _ => 0) ∧ leftV A B = (leftM (B.map (·.planes)) [] (A.map (·.planes))).getD [] := by
 unfold minE leftV leftE
 rw [if_neg (by simpa using h0), if_neg (by simpa using h0)]
 exact ⟨rfl, rfl⟩
theorem bothE_val {A B : List Cell} (h0 : twoE A B = 0) : bothE A B = (match meetM (B.map (·.planes)) [] (A.map (·.planes)) with | none => 8 | some _ => 0) ∧ bothV A B = (meetM (B.map (·.planes)) [] (A.map (·.planes))).getD [] := by
 unfold bothE bothV
 rw [if_neg (by simpa using h0), if_neg (by simpa using h0)]
 exact ⟨rfl, rfl⟩
end Go.Proofs.YtbhgkadklklmbaaGreat
