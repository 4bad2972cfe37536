import Derived.Test.YtjmgboipbhddlaaGreatDoorCX
set_option linter.unusedVariables false
set_option linter.unusedSimpArgs false
namespace Go.Proofs.YtjmgboipbhddlaaGreatDoor
open Go Go.ChangeShapes Go.WideShapes Go.ChangeAt Go.RowKit

def boolAt (w : World) (b o : Nat) (x : Bool) : Prop := w.cell? ⟨b, o, none⟩ = some (.bool x)
def Bools.V (w : World) (a : Option Addr) (l : List Bool) : Prop := RowV 1 boolAt w a l
theorem Bools.V.keep {w w' : World} {a : Option Addr} {l : List Bool} (h : Bools.V w a l) (hb : Below w.heap.size w w') : Bools.V w' a l := RowV.keep (fun _ _ _ h => cell_keep hb h) h
theorem Bools.V.at' {w : World} {a : Option Addr} {l : List Bool} (h : Bools.V w a l) {k : Nat} (hk : k < l.length) : ∃ b off, a = some ⟨b, off, none⟩ ∧ w.cell? ⟨b, off + k, none⟩ = some (.bool l[k]) := by
 obtain ⟨b, off, ha, h1⟩ := h.at_ hk
 exact ⟨b, off, ha, by unfold boolAt at h1; simpa using h1⟩
theorem all_step {α : Type} {p : α → Bool} {l : List α} {k : Nat} (hk : k < l.length) (h : ∀ j (hj : j < l.length), j < k → p l[j] = true) (h1 : p l[k] = true) : ∀ j (hj : j < l.length), j < k + 1 → p l[j] = true := by
 intro j hj hlt
 rcases Nat.lt_succ_iff_lt_or_eq.1 hlt with h' | rfl
 ·exact h j hj h'
 ·exact h1
theorem all_yes {α : Type} {p : α → Bool} {l : List α} {k : Nat} (hk : l.length ≤ k) (h : ∀ j (hj : j < l.length), j < k → p l[j] = true) : l.all p = true := by
 rw [List.all_eq_true]
 intro x hx
 obtain ⟨j, hj, rfl⟩ := List.mem_iff_getElem.1 hx
 exact h j hj (by omega)
theorem all_no {α : Type} {p : α → Bool} {l : List α} {k : Nat} (hk : k < l.length) (h : p l[k] = false) : l.all p = false := by
 rw [Bool.eq_false_iff]
 intro h2
 rw [List.all_eq_true.1 h2 _ (List.getElem_mem hk)] at h; cases h
end Go.Proofs.YtjmgboipbhddlaaGreatDoor
