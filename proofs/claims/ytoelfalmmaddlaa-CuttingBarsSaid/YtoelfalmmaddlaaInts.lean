/- Rows of numbers and of truth values; numbers that rise, or follow each other. -/
import Derived.Test.YtoelfalmmaddlaaC8c
set_option linter.unusedVariables false
set_option linter.unusedSimpArgs false
namespace Go.Proofs.Ytoelfalmmaddlaa
open Go Go.ChangeShapes Go.WideShapes Go.ChangeAt Go.RowKit

def intAt (w : World) (b o : Nat) (x : Int) : Prop := w.cell? ⟨b, o, none⟩ = some (.int .i64 x) ∧ (-9223372036854775808 ≤ x ∧ x ≤ 9223372036854775807)
def Intss.V (w : World) (a : Option Addr) (l : List Int) : Prop := RowV 1 intAt w a l
theorem Intss.V.keep {w w' : World} {a : Option Addr} {l : List Int} (h : Intss.V w a l) (hb : Below w.heap.size w w') : Intss.V w' a l := RowV.keep (fun _ _ _ h => ⟨cell_keep hb h.1, h.2⟩) h
theorem Intss.V.at' {w : World} {a : Option Addr} {l : List Int} (h : Intss.V w a l) {k : Nat} (hk : k < l.length) : ∃ b off, a = some ⟨b, off, none⟩ ∧ w.cell? ⟨b, off + k, none⟩ = some (.int .i64 l[k]) ∧ (-9223372036854775808 ≤ l[k] ∧ l[k] ≤ 9223372036854775807) := by
  obtain ⟨b, off, ha, h1, h2⟩ := h.at_ hk
  exact ⟨b, off, ha, by simpa using h1, h2⟩
theorem Intss.V.ints {w : World} {a : Option Addr} {l : List Int} (h : Intss.V w a l) : IntsV w a l := by
  intro hne
  obtain ⟨b, off, ha, hx⟩ := h hne
  exact ⟨b, off, ha, fun k x hk => by have := (hx k x hk).1; simpa using this⟩
theorem Intss.V.of {w : World} {a : Option Addr} {l : List Int} (h : IntsV w a l) (hl : ∀ x ∈ l, -9223372036854775808 ≤ x ∧ x ≤ 9223372036854775807) : Intss.V w a l := by
  intro hne
  obtain ⟨b, off, ha, hx⟩ := h hne
  exact ⟨b, off, ha, fun k x hk => ⟨by have := hx k x hk; simpa using this, hl x (List.mem_of_getElem? hk)⟩⟩
theorem Intss.open_ {H : Type} {enc : TypeId × Value → H} {w : World} {spare : Nat → Bool} {held : Bool} {fuel : Nat} {v : Value} {y : DataW H × List MemPlace} (h : DataW.trod enc Try.prog w 0 spare held fuel 22 [v] = some y) :
    ∃ (a : Option Addr) (l : List Int) (c : Nat), v = .slice a l.length c ∧ Intss.V w a l ∧ l.length ≤ c ∧ c ≤ maxLen :=
  open_row (R := intAt) (Of := fun w cs x => cs = [.int .i64 x] ∧ (-9223372036854775808 ≤ x ∧ x ≤ 9223372036854775807)) Try.underlying22 (by kernel_rfl) (by decide)
    (fun _ _ _ h => by
      obtain ⟨n, g, -, q⟩ := DataW.trod_int Try.underlying3 h
      exact ⟨n, g, int_wf q⟩)
    (fun _ _ _ _ hc h => ⟨by rw [h.1] at hc; exact hc 0 _ rfl, h.2⟩) h
def boolAt (w : World) (b o : Nat) (x : Bool) : Prop := w.cell? ⟨b, o, none⟩ = some (.bool x)
def Bools.V (w : World) (a : Option Addr) (l : List Bool) : Prop := RowV 1 boolAt w a l
theorem Bools.V.keep {w w' : World} {a : Option Addr} {l : List Bool} (h : Bools.V w a l) (hb : Below w.heap.size w w') : Bools.V w' a l := RowV.keep (fun _ _ _ h => cell_keep hb h) h
theorem Bools.V.at' {w : World} {a : Option Addr} {l : List Bool} (h : Bools.V w a l) {k : Nat} (hk : k < l.length) : ∃ b off, a = some ⟨b, off, none⟩ ∧ w.cell? ⟨b, off + k, none⟩ = some (.bool l[k]) := by
  obtain ⟨b, off, ha, h1⟩ := h.at_ hk
  exact ⟨b, off, ha, by unfold boolAt at h1; simpa using h1⟩
theorem Bools.open_ {H : Type} {enc : TypeId × Value → H} {w : World} {spare : Nat → Bool} {held : Bool} {fuel : Nat} {v : Value} {y : DataW H × List MemPlace} (h : DataW.trod enc Try.prog w 0 spare held fuel 37 [v] = some y) :
    ∃ (a : Option Addr) (l : List Bool) (c : Nat), v = .slice a l.length c ∧ Bools.V w a l ∧ l.length ≤ c ∧ c ≤ maxLen :=
  open_row (R := boolAt) (Of := fun w cs x => cs = [.bool x]) Try.underlying37 (by kernel_rfl) (by decide)
    (fun _ _ _ h => by
      obtain ⟨n, g, -⟩ := DataW.trod_bool Try.underlying4 h
      exact ⟨n, g⟩)
    (fun _ _ _ _ hc h => by rw [h] at hc; exact hc 0 _ rfl) h

/-! Neighbours. -/
def nextB (p : Int → Int → Bool) : List Int → Bool
  | a :: b :: r => p a b && nextB p (b :: r)
  | _ => true
theorem nextB_iff {p : Int → Int → Bool} : ∀ {l : List Int}, nextB p l = true ↔ ∀ j (h : j + 1 < l.length), p l[j] l[j + 1] = true
  | [] => by simp [nextB]
  | [a] => by simp [nextB]
  | a :: b :: r => by
    rw [nextB, Bool.and_eq_true, nextB_iff]
    constructor
    · rintro ⟨h1, h2⟩ j hj
      match j, hj with
      | 0, _ => exact h1
      | j + 1, hj => exact h2 j (by simpa using hj)
    · intro h
      exact ⟨h 0 (by simp), fun j hj => h (j + 1) (by simpa using hj)⟩
theorem nextB_yes {p : Int → Int → Bool} {l : List Int} {k : Nat} (hk : l.length ≤ k + 1) (h : ∀ j (hj : j + 1 < l.length), j < k → p l[j] l[j + 1] = true) : nextB p l = true := nextB_iff.2 fun j hj => h j hj (by omega)
theorem nextB_no {p : Int → Int → Bool} {l : List Int} {k : Nat} (hk : k + 1 < l.length) (h : p l[k] l[k + 1] = false) : nextB p l = false := by
  rw [Bool.eq_false_iff]
  intro h2
  rw [nextB_iff.1 h2 k hk] at h; cases h
theorem nextB_step {p : Int → Int → Bool} {l : List Int} {k : Nat} (hk : k + 1 < l.length) (h : ∀ j (hj : j + 1 < l.length), j < k → p l[j] l[j + 1] = true) (h1 : p l[k] l[k + 1] = true) : ∀ j (hj : j + 1 < l.length), j < k + 1 → p l[j] l[j + 1] = true := by
  intro j hj hlt
  rcases Nat.lt_succ_iff_lt_or_eq.1 hlt with h' | rfl
  · exact h j hj h'
  · exact h1
def riseP (a b : Int) : Bool := decide (a < b)
def followP (a b : Int) : Bool := decide (b = a + 1)
def followB (l : List Int) : Bool := nextB followP l
theorem all_step {α : Type} {p : α → Bool} {l : List α} {k : Nat} (hk : k < l.length) (h : ∀ j (hj : j < l.length), j < k → p l[j] = true) (h1 : p l[k] = true) : ∀ j (hj : j < l.length), j < k + 1 → p l[j] = true := by
  intro j hj hlt
  rcases Nat.lt_succ_iff_lt_or_eq.1 hlt with h' | rfl
  · exact h j hj h'
  · exact h1
theorem all_yes {α : Type} {p : α → Bool} {l : List α} {k : Nat} (hk : l.length ≤ k) (h : ∀ j (hj : j < l.length), j < k → p l[j] = true) : l.all p = true := by
  rw [List.all_eq_true]
  intro x hx
  obtain ⟨j, hj, rfl⟩ := List.mem_iff_getElem.1 hx
  exact h j hj (by omega)
theorem all_no {α : Type} {p : α → Bool} {l : List α} {k : Nat} (hk : k < l.length) (h : p l[k] = false) : l.all p = false := by
  rw [Bool.eq_false_iff]
  intro h2
  rw [List.all_eq_true.1 h2 _ (List.getElem_mem hk)] at h; cases h
end Go.Proofs.Ytoelfalmmaddlaa
