/- Rows of numbers and of truth values; numbers that rise, or follow each other. -/
import Derived.Test.YtpaindkfbgoogaaGreatC8c
set_option linter.unusedVariables false
set_option linter.unusedSimpArgs false
namespace Go.Proofs.YtpaindkfbgoogaaGreat
open Go Go.ChangeShapes Go.WideShapes Go.ChangeAt Go.RowKit

/-! Neighbours. -/
theorem all_step {α : Type} {p : α → Bool} {l : List α} {k : Nat} (hk : k < l.length) (h : ∀ j (hj : j < l.length), j < k → p l[j] = true) (h1 : p l[k] = true) : ∀ j (hj : j < l.length), j < k + 1 → p l[j] = true := by
  intro j hj hlt
  rcases Nat.lt_succ_iff_lt_or_eq.1 hlt with h' | rfl
  · exact h j hj h'
  · exact h1
theorem all_yes {α : Type} {p : α → Bool} {l : List α} {k : Nat} (hk : l.length ≤ k) (h : ∀ j (hj : j < l.length), j < k → p l[j] = true) : l.all p = true := by
  rw [List.all_eq_true]
  intro x hx
  obtain ⟨j, hj, rfl⟩ := List.mem_iff_getElem.1 hx
  exact h j hj (by omega)
theorem all_no {α : Type} {p : α → Bool} {l : List α} {k : Nat} (hk : k < l.length) (h : p l[k] = false) : l.all p = false := by
  rw [Bool.eq_false_iff]
  intro h2
  rw [List.all_eq_true.1 h2 _ (List.getElem_mem hk)] at h; cases h
end Go.Proofs.YtpaindkfbgoogaaGreat
