/- Two rows of planes joined; what the laws know of few cells. -/
import Derived.Test.YtbhgkadklklmbaaGreatQM
set_option linter.unusedVariables false
set_option linter.unusedSimpArgs false
namespace Go.Proofs.YtbhgkadklklmbaaGreat
open Go Go.RowKit Go.Sort Go.Lib

theorem cells_len {w : World} {a : Option Addr} {l : List Cell} (h : Cells.V w a l) : ∀ x ∈ l, x.planes.length ≤ 9223372036854775807 := fun x hx => by
 obtain ⟨b, off, rfl, hz⟩ := h (List.ne_nil_of_mem hx)
 obtain ⟨k, hk, rfl⟩ := List.mem_iff_getElem.1 hx
 obtain ⟨pa, pc, -, -, h1, h2, -⟩ := hz k _ (List.getElem?_eq_getElem hk)
 simp only [maxLen] at h2
 omega
theorem few_len {cs : List Cell} {m : Int} (hm : m ≤ 4) (h : fewB cs m = true) : cs.length ≤ 105 := by
 unfold fewB at h
 simp only [Bool.and_eq_true, Bool.not_eq_true', Bool.or_eq_false_iff, decide_eq_false_iff_not] at h
 omega
theorem few_pl {cs : List Cell} {m : Int} (h : fewB cs m = true) : ∀ x ∈ cs, x.planes.length ≤ 20 := fun x hx => by
 unfold fewB at h
 rw [Bool.and_eq_true] at h
 have := List.all_eq_true.1 h.2 x hx
 unfold slimB at this
 simp only [Bool.or_eq_true, Bool.and_eq_true, decide_eq_true_eq] at this
 omega
end Go.Proofs.YtbhgkadklklmbaaGreat
