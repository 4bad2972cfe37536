/- Rows of numbers and of truth values; numbers that rise, or follow each other. -/
import Derived.Test.YtoelfalmmaddlaaGreatCX
set_option linter.unusedVariables false
set_option linter.unusedSimpArgs false
namespace Go.Proofs.YtoelfalmmaddlaaGreat
open Go Go.ChangeShapes Go.WideShapes Go.ChangeAt Go.RowKit

def intAt (w : World) (b o : Nat) (x : Int) : Prop := w.cell? ⟨b, o, none⟩ = some (.int .i64 x) ∧ (-9223372036854775808 ≤ x ∧ x ≤ 9223372036854775807)
def Intss.V (w : World) (a : Option Addr) (l : List Int) : Prop := RowV 1 intAt w a l
theorem Intss.V.keep {w w' : World} {a : Option Addr} {l : List Int} (h : Intss.V w a l) (hb : Below w.heap.size w w') : Intss.V w' a l := RowV.keep (fun _ _ _ h => ⟨cell_keep hb h.1, h.2⟩) h
theorem Intss.V.at' {w : World} {a : Option Addr} {l : List Int} (h : Intss.V w a l) {k : Nat} (hk : k < l.length) : ∃ b off, a = some ⟨b, off, none⟩ ∧ w.cell? ⟨b, off + k, none⟩ = some (.int .i64 l[k]) ∧ (-9223372036854775808 ≤ l[k] ∧ l[k] ≤ 9223372036854775807) := by
 obtain ⟨b, off, ha, h1, h2⟩ := h.at_ hk
 exact ⟨b, off, ha, by simpa using h1, h2⟩
theorem Intss.V.ints {w : World} {a : Option Addr} {l : List Int} (h : Intss.V w a l) : IntsV w a l := by
 intro hne
 obtain ⟨b, off, ha, hx⟩ := h hne
 exact ⟨b, off, ha, fun k x hk => by have := (hx k x hk).1; simpa using this⟩
theorem Intss.V.of {w : World} {a : Option Addr} {l : List Int} (h : IntsV w a l) (hl : ∀ x ∈ l, -9223372036854775808 ≤ x ∧ x ≤ 9223372036854775807) : Intss.V w a l := by
 intro hne
 obtain ⟨b, off, ha, hx⟩ := h hne
 exact ⟨b, off, ha, fun k x hk => ⟨by have := hx k x hk; simpa using this, hl x (List.mem_of_getElem? hk)⟩⟩
def boolAt (w : World) (b o : Nat) (x : Bool) : Prop := w.cell? ⟨b, o, none⟩ = some (.bool x)
def Bools.V (w : World) (a : Option Addr) (l : List Bool) : Prop := RowV 1 boolAt w a l
theorem Bools.V.keep {w w' : World} {a : Option Addr} {l : List Bool} (h : Bools.V w a l) (hb : Below w.heap.size w w') : Bools.V w' a l := RowV.keep (fun _ _ _ h => cell_keep hb h) h
theorem Bools.V.at' {w : World} {a : Option Addr} {l : List Bool} (h : Bools.V w a l) {k : Nat} (hk : k < l.length) : ∃ b off, a = some ⟨b, off, none⟩ ∧ w.cell? ⟨b, off + k, none⟩ = some (.bool l[k]) := by
 obtain ⟨b, off, ha, h1⟩ := h.at_ hk
 exact ⟨b, off, ha, by unfold boolAt at h1; simpa using h1⟩
/-! Neighbours. -/
theorem all_step {α : Type} {p : α → Bool} {l : List α} {k : Nat} (hk : k < l.length) (h : ∀ j (hj : j < l.length), j < k → p l[j] = true) (h1 : p l[k] = true) : ∀ j (hj : j < l.length), j < k + 1 → p l[j] = true := by
 intro j hj hlt
 rcases Nat.lt_succ_iff_lt_or_eq.1 hlt with h' | rfl
 ·exact h j hj h'
 ·exact h1
theorem all_yes {α : Type} {p : α → Bool} {l : List α} {k : Nat} (hk : l.length ≤ k) (h : ∀ j (hj : j < l.length), j < k → p l[j] = true) : l.all p = true := by
 rw [List.all_eq_true]
 intro x hx
 obtain ⟨j, hj, rfl⟩ := List.mem_iff_getElem.1 hx
 exact h j hj (by omega)
theorem all_no {α : Type} {p : α → Bool} {l : List α} {k : Nat} (hk : k < l.length) (h : p l[k] = false) : l.all p = false := by
 rw [Bool.eq_false_iff]
 intro h2
 rw [List.all_eq_true.1 h2 _ (List.getElem_mem hk)] at h; cases h
end Go.Proofs.YtoelfalmmaddlaaGreat
