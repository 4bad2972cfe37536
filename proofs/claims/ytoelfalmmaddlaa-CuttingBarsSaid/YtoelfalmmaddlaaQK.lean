/- Jobs: what the reference's CheckBlanks, CheckTrim and Pieces return. Jobs: what the reference's CheckJob returns. -/
import Derived.Test.YtoelfalmmaddlaaQJ
set_option linter.unusedVariables false
set_option linter.unusedSimpArgs false
namespace Go.Proofs.Ytoelfalmmaddlaa
open Go Go.RowKit

theorem any_noneF {α : Type} {f : α → ByteArray} {st : List α} {k : Nat} (hk : k < st.length) (h : ∀ j (hj : j < st.length), j < k → ((f st[j]).toList == (f st[k]).toList) = false) : (((st.map f).take k).any fun t => (f st[k]).toList == t.toList) = false := by
  rw [List.any_eq_false]
  intro t ht
  obtain ⟨j, hj, rfl⟩ := List.mem_iff_getElem.1 ht
  simp only [List.length_take, List.length_map] at hj
  simp only [List.getElem_take, List.getElem_map]
  have := h j (by omega) (by omega)
  simp only [beq_eq_false_iff_ne, beq_iff_eq] at this ⊢
  exact fun e => this e.symm
theorem any_someF {α : Type} {f : α → ByteArray} {st : List α} {k j : Nat} (hk : k < st.length) (hj : j < st.length) (hjk : j < k) (h : ((f st[j]).toList == (f st[k]).toList) = true) : (((st.map f).take k).any fun t => (f st[k]).toList == t.toList) = true := by
  rw [List.any_eq_true]
  refine ⟨f st[j], ?_, ?_⟩
  · rw [List.mem_iff_getElem]
    exact ⟨j, by simp; omega, by simp⟩
  · simp only [beq_iff_eq] at h ⊢
    exact h.symm
theorem blankErr_rng {x : Blank} (h1 : nameB x.name = true) (h2 : nameB x.species = true) : blankErr x = if rngB x then 0 else 2 := by
  unfold blankErr rngB
  rw [if_neg (by simp [h1, h2])]
  cases withinB x.length 1 600000 <;> cases withinB x.width 1 600000 <;> cases withinB x.thick 1 600000 <;> cases withinB x.count 1 200 <;> rfl

end Go.Proofs.Ytoelfalmmaddlaa

set_option linter.unusedVariables false
set_option linter.unusedSimpArgs false
namespace Go.Proofs.Ytoelfalmmaddlaa
open Go Go.RowKit

end Go.Proofs.Ytoelfalmmaddlaa
