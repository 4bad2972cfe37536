import Derived.Test.YtjmgboipbhddlaaGreatDoorProg
import Derived.WalkKit
import Derived.WalkLawsBesides
import Derived.BigQuiet
import Derived.Deep.QuietTactic
import Derived.Lib.Hide
set_option linter.unusedVariables false
set_option linter.unusedSimpArgs false
namespace Go.Proofs.YtjmgboipbhddlaaGreatDoor
open Go Go.RowKit

def byteAt (s : ByteArray) (i : Nat) : Int := ((s.data.getD i 0).toNat : Int)
theorem byteAt_eq (s : ByteArray) (i : Nat) (h : i < s.size) : byteAt s i = ((s[i]).toNat : Int) := by
 unfold byteAt
 rw [Array.getD_eq_getD_getElem?, Array.getElem?_eq_getElem (by simpa using h)]
 rfl
def okAt (s : ByteArray) (i : Nat) : Prop :=
 (97 ≤ byteAt s i ∧ byteAt s i ≤ 122) ∨ (65 ≤ byteAt s i ∧ byteAt s i ≤ 90) ∨ (i ≠ 0 ∧ (byteAt s i = 45 ∨ (48 ≤ byteAt s i ∧ byteAt s i ≤ 57)))
instance (s : ByteArray) (i : Nat) : Decidable (okAt s i) := by unfold okAt; infer_instance
def nameB (s : ByteArray) : Bool := decide (∀ i, i < s.size → okAt s i) && (decide (1 ≤ s.size) && decide (s.size ≤ 12))

theorem ret_bool {a b : Bool} (h : a = b) : Ending.returned (.bool a) = .returned (.bool b) := by rw [h]
theorem nameB_no {s : ByteArray} {k : Nat} (hk : k < s.size) (h : ¬ okAt s k) : false = nameB s := by
 unfold nameB
 rw [decide_eq_false (fun hh => h (hh k hk)), Bool.false_and]
theorem nameB_yes {s : ByteArray} {k : Nat} (hk : s.size ≤ k) (h : ∀ j, j < k → okAt s j) : nameB s = (decide (1 ≤ s.size) && decide (s.size ≤ 12)) := by
 unfold nameB
 rw [decide_eq_true (fun i hi => h i (by omega)), Bool.true_and]
theorem okAt_step {s : ByteArray} {k : Nat} (h : ∀ j, j < k → okAt s j) (hk : okAt s k) : ∀ j, j < k + 1 → okAt s j := by
 intro j hj
 rcases Nat.lt_succ_iff_lt_or_eq.1 hj with h' | rfl
 ·exact h j h'
 ·exact hk

set_option maxHeartbeats 4000000 in
theorem isName_any (s : ByteArray) (w : World) (hs : s.size ≤ 9223372036854775807) :
    Calls Tryz.prog 87 #[.string s] w fun e w' => e = .returned (.bool (nameB s)) ∧ w = w' := by
 go_enter Tryz.func87, Tryz.ntmps87
 go_wp2
 go_loop [7] (fun i => ∃ k : Nat, k ≤ s.size ∧ i = .int .i64 k ∧ Hid (∀ j, j < k → okAt s j)) (fun i => s.size - (intOf i).toNat)
 case atStart => exact ⟨0, Nat.zero_le _, rfl, Lib.hid (fun j h => by omega)⟩
 case round =>
  obtain ⟨k, hk, rfl, HK⟩ := hrel
  by_cases hlt : k < s.size
  ·rcases Nat.eq_zero_or_pos k with rfl | hpos
   ·go_wp2
    all_goals (first
     | (go_ret; exact ⟨ret_bool (nameB_no hlt (by unfold okAt; rw [byteAt_eq _ _ hlt]; (try simp only [Bool.not_eq_eq_eq_not, Bool.not_true, Bool.not_false, Bool.not_eq_true', Bool.not_eq_false', decide_eq_false_iff_not, decide_eq_true_eq, beq_iff_eq, beq_eq_false_iff_ne, bne_iff_ne, ne_eq, bne_eq_false_iff_eq, Bool.and_eq_true, Bool.or_eq_true, Bool.and_eq_false_iff, Bool.or_eq_false_iff, not_true_eq_false, not_false_eq_true, false_and, and_false, or_false, false_or, true_and, and_true, true_or, or_true] at *) <;> omega)), rfl⟩)
     | (go_round
        case rel => exact ⟨1, by omega, by go_num, Lib.hid (okAt_step HK.out (by unfold okAt; rw [byteAt_eq _ _ hlt]; (try simp only [Bool.not_eq_eq_eq_not, Bool.not_true, Bool.not_false, Bool.not_eq_true', Bool.not_eq_false', decide_eq_false_iff_not, decide_eq_true_eq, beq_iff_eq, beq_eq_false_iff_ne, bne_iff_ne, ne_eq, bne_eq_false_iff_eq, Bool.and_eq_true, Bool.or_eq_true, Bool.and_eq_false_iff, Bool.or_eq_false_iff, not_true_eq_false, not_false_eq_true, false_and, and_false, or_false, false_or, true_and, and_true, true_or, or_true] at *) <;> omega))⟩
        case measure => simp [intOf]; omega))
   ·go_wp2
    all_goals (first
     | (go_ret; exact ⟨ret_bool (nameB_no hlt (by unfold okAt; rw [byteAt_eq _ _ hlt]; (try simp only [Bool.not_eq_eq_eq_not, Bool.not_true, Bool.not_false, Bool.not_eq_true', Bool.not_eq_false', decide_eq_false_iff_not, decide_eq_true_eq, beq_iff_eq, beq_eq_false_iff_ne, bne_iff_ne, ne_eq, bne_eq_false_iff_eq, Bool.and_eq_true, Bool.or_eq_true, Bool.and_eq_false_iff, Bool.or_eq_false_iff, not_true_eq_false, not_false_eq_true, false_and, and_false, or_false, false_or, true_and, and_true, true_or, or_true] at *) <;> omega)), rfl⟩)
     | (go_round
        case rel => exact ⟨k + 1, by omega, by go_num, Lib.hid (okAt_step HK.out (by unfold okAt; rw [byteAt_eq _ _ hlt]; (try simp only [Bool.not_eq_eq_eq_not, Bool.not_true, Bool.not_false, Bool.not_eq_true', Bool.not_eq_false', decide_eq_false_iff_not, decide_eq_true_eq, beq_iff_eq, beq_eq_false_iff_ne, bne_iff_ne, ne_eq, bne_eq_false_iff_eq, Bool.and_eq_true, Bool.or_eq_true, Bool.and_eq_false_iff, Bool.or_eq_false_iff, not_true_eq_false, not_false_eq_true, false_and, and_false, or_false, false_or, true_and, and_true, true_or, or_true] at *) <;> omega))⟩
        case measure => simp [intOf]; omega))
  ·have hke : s.size ≤ k := by omega
   have HA := Lib.hid (nameB_yes hke HK.out)
   clear HK
   go_wp2
   all_goals (go_ret; exact ⟨ret_bool (by rw [HA.out, Bool.eq_iff_iff]; simp <;> omega), rfl⟩)

set_option maxHeartbeats 4000000 in
theorem baseIsName_any (s : ByteArray) (w : World) (hs : s.size ≤ 9223372036854775807) :
    Calls Tryz.prog 66 #[.string s] w fun e w' => e = .returned (.bool (nameB s)) ∧ w = w' := by
 go_enter Tryz.func66, Tryz.ntmps66
 go_wp2
 go_loop [3] (fun i => ∃ k : Nat, k ≤ s.size ∧ i = .int .i64 k ∧ Hid (∀ j, j < k → okAt s j)) (fun i => s.size - (intOf i).toNat)
 case atStart => exact ⟨0, Nat.zero_le _, rfl, Lib.hid (fun j h => by omega)⟩
 case round =>
  obtain ⟨k, hk, rfl, HK⟩ := hrel
  by_cases hlt : k < s.size
  ·rcases Nat.eq_zero_or_pos k with rfl | hpos
   ·go_wp2
    all_goals (first
     | (go_ret; exact ⟨ret_bool (nameB_no hlt (by unfold okAt; rw [byteAt_eq _ _ hlt]; (try simp only [Bool.not_eq_eq_eq_not, Bool.not_true, Bool.not_false, Bool.not_eq_true', Bool.not_eq_false', decide_eq_false_iff_not, decide_eq_true_eq, beq_iff_eq, beq_eq_false_iff_ne, bne_iff_ne, ne_eq, bne_eq_false_iff_eq, Bool.and_eq_true, Bool.or_eq_true, Bool.and_eq_false_iff, Bool.or_eq_false_iff, not_true_eq_false, not_false_eq_true, false_and, and_false, or_false, false_or, true_and, and_true, true_or, or_true] at *) <;> omega)), rfl⟩)
     | (go_round
        case rel => exact ⟨1, by omega, by go_num, Lib.hid (okAt_step HK.out (by unfold okAt; rw [byteAt_eq _ _ hlt]; (try simp only [Bool.not_eq_eq_eq_not, Bool.not_true, Bool.not_false, Bool.not_eq_true', Bool.not_eq_false', decide_eq_false_iff_not, decide_eq_true_eq, beq_iff_eq, beq_eq_false_iff_ne, bne_iff_ne, ne_eq, bne_eq_false_iff_eq, Bool.and_eq_true, Bool.or_eq_true, Bool.and_eq_false_iff, Bool.or_eq_false_iff, not_true_eq_false, not_false_eq_true, false_and, and_false, or_false, false_or, true_and, and_true, true_or, or_true] at *) <;> omega))⟩
        case measure => simp [intOf]; omega))
   ·go_wp2
    all_goals (first
     | (go_ret; exact ⟨ret_bool (nameB_no hlt (by unfold okAt; rw [byteAt_eq _ _ hlt]; (try simp only [Bool.not_eq_eq_eq_not, Bool.not_true, Bool.not_false, Bool.not_eq_true', Bool.not_eq_false', decide_eq_false_iff_not, decide_eq_true_eq, beq_iff_eq, beq_eq_false_iff_ne, bne_iff_ne, ne_eq, bne_eq_false_iff_eq, Bool.and_eq_true, Bool.or_eq_true, Bool.and_eq_false_iff, Bool.or_eq_false_iff, not_true_eq_false, not_false_eq_true, false_and, and_false, or_false, false_or, true_and, and_true, true_or, or_true] at *) <;> omega)), rfl⟩)
     | (go_round
        case rel => exact ⟨k + 1, by omega, by go_num, Lib.hid (okAt_step HK.out (by unfold okAt; rw [byteAt_eq _ _ hlt]; (try simp only [Bool.not_eq_eq_eq_not, Bool.not_true, Bool.not_false, Bool.not_eq_true', Bool.not_eq_false', decide_eq_false_iff_not, decide_eq_true_eq, beq_iff_eq, beq_eq_false_iff_ne, bne_iff_ne, ne_eq, bne_eq_false_iff_eq, Bool.and_eq_true, Bool.or_eq_true, Bool.and_eq_false_iff, Bool.or_eq_false_iff, not_true_eq_false, not_false_eq_true, false_and, and_false, or_false, false_or, true_and, and_true, true_or, or_true] at *) <;> omega))⟩
        case measure => simp [intOf]; omega))
  ·have hke : s.size ≤ k := by omega
   have HA := Lib.hid (nameB_yes hke HK.out)
   clear HK
   go_wp2
   all_goals (go_ret; exact ⟨ret_bool (by rw [HA.out, Bool.eq_iff_iff]; simp <;> omega), rfl⟩)
end Go.Proofs.YtjmgboipbhddlaaGreatDoor
