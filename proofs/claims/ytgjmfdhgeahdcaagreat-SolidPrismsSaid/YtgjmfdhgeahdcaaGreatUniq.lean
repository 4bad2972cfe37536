/- The ascending list of a list's members, without repetition: what Sort and Compact make of it. -/
import Derived.Lib.RowBridge
set_option linter.unusedVariables false
set_option linter.unusedSimpArgs false
namespace Go.Proofs.YtgjmfdhgeahdcaaGreat
open Go

def uniq (zs : List Int) : List Int := Lib.compact (zs.mergeSort fun x y => decide (x ≤ y))

theorem upTo_mem (d : Array Int) (x : Int) : ∀ m, x ∈ Lib.compactUpTo d m ↔ ∃ j, j < m ∧ d[j]! = x
 | 0 => by simp [Lib.compactUpTo]
 | m + 1 => by
  rw [Lib.compactUpTo_succ, List.mem_append, upTo_mem d x m]
  cases hk : Lib.keeps d m with
  | true =>
   simp only [if_true, List.mem_singleton]
   constructor
   ·rintro (⟨j, hj, e⟩ | e)
    ·exact ⟨j, by omega, e⟩
    ·exact ⟨m, by omega, e.symm⟩
   ·rintro ⟨j, hj, e⟩
    rcases Nat.lt_succ_iff_lt_or_eq.1 hj with h | rfl
    ·exact .inl ⟨j, h, e⟩
    ·exact .inr e.symm
  | false =>
   have hk' : m ≠ 0 ∧ d[m]! = d[m - 1]! := by
    unfold Lib.keeps at hk
    rw [decide_eq_false_iff_not] at hk
    exact ⟨fun h => hk (.inl h), Classical.not_not.1 fun h => hk (.inr h)⟩
   simp only [Bool.false_eq_true, if_false, List.not_mem_nil, or_false]
   constructor
   ·rintro ⟨j, hj, e⟩; exact ⟨j, by omega, e⟩
   ·rintro ⟨j, hj, e⟩
    rcases Nat.lt_succ_iff_lt_or_eq.1 hj with h | rfl
    ·exact ⟨j, h, e⟩
    ·exact ⟨j - 1, by omega, by rw [← hk'.2]; exact e⟩

theorem upTo_asc (d : Array Int) (n : Nat) (hs : ∀ i j, i ≤ j → j < n → d[i]! ≤ d[j]!) : ∀ m, m ≤ n → (Lib.compactUpTo d m).Pairwise (· < ·)
 | 0, _ => by simp [Lib.compactUpTo]
 | m + 1, hm => by
  rw [Lib.compactUpTo_succ, List.pairwise_append]
  refine ⟨upTo_asc d n hs m (by omega), by split <;> simp, fun a ha b hb => ?_⟩
  cases hk : Lib.keeps d m with
  | false => rw [hk] at hb; simp at hb
  | true =>
   rw [hk] at hb
   simp only [if_true, List.mem_singleton] at hb
   subst hb
   obtain ⟨j, hj, rfl⟩ := (upTo_mem d a m).1 ha
   unfold Lib.keeps at hk
   have hk := of_decide_eq_true hk
   have h1 := hs j (m - 1) (by omega) (by omega)
   have h2 := hs (m - 1) m (by omega) (by omega)
   rcases hk with h | h
   ·omega
   ·omega

theorem getBang (l : List Int) (j : Nat) (hj : j < l.length) : l.toArray[j]! = l[j] := by
 rw [getElem!_pos _ _ (by simpa using hj)]; simp

theorem uniq_mem {zs : List Int} {x : Int} : x ∈ uniq zs ↔ x ∈ zs := by
 unfold uniq Lib.compact
 rw [upTo_mem, ← List.mem_mergeSort (le := fun x y => decide (x ≤ y)) (l := zs) (a := x)]
 generalize zs.mergeSort (fun x y => decide (x ≤ y)) = l
 rw [List.mem_iff_getElem]
 constructor
 ·rintro ⟨j, hj, e⟩; exact ⟨j, hj, by rw [← getBang _ _ hj]; exact e⟩
 ·rintro ⟨j, hj, e⟩; exact ⟨j, hj, by rw [getBang _ _ hj]; exact e⟩

theorem uniq_asc (zs : List Int) : (uniq zs).Pairwise (· < ·) := by
 unfold uniq Lib.compact
 have hs : (zs.mergeSort (fun x y => decide (x ≤ y))).Pairwise (fun a b => decide (a ≤ b) = true) :=
  List.pairwise_mergeSort (le := fun x y : Int => decide (x ≤ y)) (fun a b c h1 h2 => by simp at *; omega) (fun a b => by simp; omega) zs
 generalize zs.mergeSort (fun x y => decide (x ≤ y)) = l at *
 refine upTo_asc _ l.length (fun i j hij hj => ?_) _ (Nat.le_refl _)
 rw [getBang _ _ (by omega), getBang _ _ hj]
 rcases Nat.lt_or_eq_of_le hij with h | rfl
 ·have := List.pairwise_iff_getElem.1 hs i j (by omega) hj h
  simpa using this
 ·exact Int.le_refl _

theorem uniq_length (zs : List Int) : (uniq zs).length ≤ zs.length := by
 unfold uniq
 have := Lib.compact_length_le (zs.mergeSort fun x y => decide (x ≤ y))
 simpa using this
end Go.Proofs.YtgjmfdhgeahdcaaGreat
