import Derived.Test.YtjmgboipbhddlaaGreatDoorGX
import Derived.Sort.WalkA
set_option linter.unusedVariables false
set_option linter.unusedSimpArgs false
namespace Go.Proofs.YtjmgboipbhddlaaGreatDoor
open Go Go.Sort

section
variable {α : Type} [Inhabited α] (lt : α → α → Bool)
def posL (pre : List α) (x : α) : Nat → Nat
 | 0 => 0
 | n + 1 => if lt x (pre.getD n default) then posL pre x n else n + 1
theorem posL_le (pre : List α) (x : α) : ∀ n, posL lt pre x n ≤ n
 | 0 => Nat.le_refl _
 | n + 1 => by
  unfold posL
  split
  ·have := posL_le pre x n; omega
  ·exact Nat.le_refl _
theorem posL_app (pre : List α) (x y : α) : ∀ n, n ≤ pre.length → posL lt (pre ++ [y]) x n = posL lt pre x n
 | 0, _ => rfl
 | n + 1, h => by
  have e : (pre ++ [y]).getD n default = pre.getD n default := by
   simp only [List.getD_eq_getElem?_getD]
   rw [List.getElem?_append_left (by omega)]
  unfold posL
  rw [e, posL_app pre x y n (by omega)]
def insL (pre : List α) (x : α) : List α := pre.take (posL lt pre x pre.length) ++ x :: pre.drop (posL lt pre x pre.length)
theorem get_mid (pre suf : List α) (x : α) : (pre ++ x :: suf).toArray[pre.length]! = x := by
 simp
theorem swp_mid (pre suf : List α) (x y : α) : swp (pre ++ y :: x :: suf).toArray (pre.length + 1) pre.length = (pre ++ x :: y :: suf).toArray := by
 have h1 : (pre ++ y :: x :: suf).toArray[pre.length]! = y := get_mid _ _ _
 have h2 : (pre ++ y :: x :: suf).toArray[pre.length + 1]! = x := by simp
 unfold swp
 rw [h1, h2]
 simp [List.set_append]
theorem insInner_list : ∀ (j : Nat) (pre suf : List α) (x : α), pre.length = j → insInner lt 0 j (pre ++ x :: suf).toArray = (insL lt pre x ++ suf).toArray
 | 0, pre, suf, x, h => by
  obtain rfl := List.length_eq_zero_iff.1 h
  simp [insInner, insL, posL]
 | j + 1, pre, suf, x, h => by
  obtain ⟨p, y, rfl⟩ : ∃ p y, pre = p ++ [y] := by
   rcases List.eq_nil_or_concat pre with rfl | ⟨p, y, rfl⟩
   ·simp at h
   ·exact ⟨p, y, by simp⟩
  have hp : p.length = j := by simpa using h
  have e : p ++ [y] ++ x :: suf = p ++ y :: x :: suf := by simp
  have h1 : (p ++ y :: x :: suf).toArray[j]! = y := by rw [← hp]; exact get_mid _ _ _
  have h2 : (p ++ y :: x :: suf).toArray[j + 1]! = x := by
   rw [← hp]; simp
  have hl : (p ++ [y]).length = j + 1 := h
  have hy : (p ++ [y]).getD j default = y := by
   simp only [List.getD_eq_getElem?_getD]
   rw [List.getElem?_append_right (by omega)]; simp [hp]
  rw [e]
  unfold insInner
  rw [h1, h2]
  unfold insL
  rw [hl]
  unfold posL
  rw [hy]
  cases hq : lt x y
  ·simp only [Bool.and_false, Bool.false_eq_true, if_false]
   rw [List.take_of_length_le (by omega), List.drop_of_length_le (by omega)]
   simp
  ·have ih := insInner_list j p (y :: suf) x hp
   have hle := posL_le lt p x j
   rw [← hp, swp_mid, hp]
   simp only [Nat.zero_lt_succ, decide_true, Bool.and_self, if_true, gt_iff_lt]
   rw [ih, posL_app lt p x y j (by omega)]
   unfold insL
   rw [hp, List.take_append_of_le_length (by omega), List.drop_append_of_le_length (by omega)]
   simp
def sortL : List α → List α → List α
 | [], acc => acc
 | x :: r, acc => sortL r (insL lt acc x)
theorem insL_len (pre : List α) (x : α) : (insL lt pre x).length = pre.length + 1 := by
 unfold insL
 have := posL_le lt pre x pre.length
 simp; omega
theorem insOuter_list : ∀ (r acc : List α), insOuter lt 0 (acc.length + r.length) acc.length (acc ++ r).toArray = (sortL lt r acc).toArray
 | [], acc => by rw [insOuter_stop _ _ _ _ _ (by simp)]; simp [sortL]
 | x :: r, acc => by
  rw [insOuter_go _ _ _ _ _ (by simp), insInner_list lt acc.length acc r x rfl]
  have h := insOuter_list r (insL lt acc x)
  rw [insL_len] at h
  rw [show acc.length + (x :: r).length = acc.length + 1 + r.length by simp; omega]
  rw [h]; rfl
theorem insertionSort_list (x : α) (r : List α) : insertionSort lt (x :: r).toArray 0 (r.length + 1) = (sortL lt (x :: r) []).toArray := by
 unfold insertionSort
 have h := insOuter_list lt r [x]
 rw [show [x].length + r.length = r.length + 1 by simp; omega] at h
 have e : sortL lt (x :: r) [] = sortL lt r [x] := by simp [sortL, insL, posL]
 rw [e, ← h]; rfl
end
theorem cmpB_lt (x y : Blank) : decide (cmpB x y < 0) = earlierB x y := by
 unfold cmpB orI cmpI earlierB
 rw [Bool.eq_iff_iff]
 simp only [decide_eq_true_eq, Bool.or_eq_true, Bool.and_eq_true]
 generalize x.length * x.width = p
 generalize y.length * y.width = q
 split <;> (repeat' split) <;> omega
end Go.Proofs.YtjmgboipbhddlaaGreatDoor
