import Derived.Test.YtjmgboipbhddlaaGreatDoorNames
import Derived.Test.YtjmgboipbhddlaaGreatDoorData
import Derived.Lib.ConvBytes
set_option linter.unusedVariables false
set_option linter.unusedSimpArgs false
namespace Go.Proofs.YtjmgboipbhddlaaGreatDoor
open Go Go.RowKit

theorem below_bytes (w : World) (e : TypeId) (s : ByteArray) : Below w.heap.size w (Lib.bytesWorld w e s) :=
 ⟨by simp [Lib.bytesWorld, World.freeze, World.alloc, World.drew, -World.alloc_eq, -World.drew_eq], by simp [Lib.bytesWorld, World.freeze, World.alloc, World.drew, -World.alloc_eq, -World.drew_eq], by simp [Lib.bytesWorld, World.freeze, World.alloc, World.drew, -World.alloc_eq, -World.drew_eq], by rw [Lib.bytesWorld_size]; omega, fun k hk => Lib.bytesWorld_at_old w e s k hk⟩
theorem bytes_cell (w : World) (e : TypeId) (s : ByteArray) (j : Nat) (hj : j < s.size) : (Lib.bytesWorld w e s).cell? ⟨w.heap.size, j, none⟩ = some (.int .u8 (byteAt s j)) := by
 rw [Lib.bytesWorld_cell w e s j hj]
 unfold byteAt
 simp [List.getD, Array.getD_eq_getD_getElem?]

theorem toList_nil (s : ByteArray) : s.toList.isEmpty = true ↔ s.size = 0 := by
 obtain ⟨⟨l⟩⟩ := s
 rw [ByteArray.toList_eq]
 cases l <;> simp [ByteArray.size]

set_option maxRecDepth 100000 in
set_option maxHeartbeats 4000000 in
theorem cisName_any (s : ByteArray) (w : World) (hs : s.size ≤ 9223372036854775807) :
    Calls Tryz.prog 102 #[.string s] w fun e w' => e = .returned (.bool (nameB s)) ∧ Below w.heap.size w w' := by
 have hcv := Lib.run_convert_string_bytes (P := Tryz.prog) w 9 178 5 s Tryz.underlying9 Tryz.underlying178 Tryz.underlying5
 go_enter Tryz.func102, Tryz.ntmps102
 go_wp2_with fail
 go_loop [9] (fun i => ∃ k : Nat, k ≤ s.size ∧ i = .int .i64 k ∧ Hid (∀ j, j < k → okAt s j)) (fun i => s.size - (intOf i).toNat)
 case atStart => exact ⟨0, Nat.zero_le _, rfl, Lib.hid (fun j h => by omega)⟩
 case round =>
  obtain ⟨k, hk, rfl, HK⟩ := hrel
  by_cases hlt : k < s.size
  ·have hcell := bytes_cell w 5 s k hlt
   have hb0 : (0 : Int) ≤ byteAt s k := by unfold byteAt; omega
   have HNO := Lib.hid (fun h => nameB_no (s := s) hlt h)
   have HST := Lib.hid (fun h => okAt_step HK.out h)
   have HO := Lib.hid (show okAt s k ↔ ((97 ≤ byteAt s k ∧ byteAt s k ≤ 122) ∨ (65 ≤ byteAt s k ∧ byteAt s k ≤ 90) ∨ (k ≠ 0 ∧ (byteAt s k = 45 ∨ (48 ≤ byteAt s k ∧ byteAt s k ≤ 57)))) from Iff.rfl)
   generalize byteAt s k = z at *
   rcases Nat.eq_zero_or_pos k with rfl | hpos
   ·go_wp2_with fail
    all_goals (first
     | (go_ret; exact ⟨ret_bool (HNO.out (by rw [HO.out]; (try simp only [Bool.not_eq_eq_eq_not, Bool.not_true, Bool.not_false, Bool.not_eq_true', Bool.not_eq_false', decide_eq_false_iff_not, decide_eq_true_eq, beq_iff_eq, beq_eq_false_iff_ne, bne_iff_ne, ne_eq, bne_eq_false_iff_eq, Bool.and_eq_true, Bool.or_eq_true, Bool.and_eq_false_iff, Bool.or_eq_false_iff, not_true_eq_false, not_false_eq_true, false_and, and_false, or_false, false_or, true_and, and_true, true_or, or_true] at *) <;> omega)), below_bytes _ _ _⟩)
     | (go_round
        case rel => exact ⟨1, by omega, by go_num, Lib.hid (HST.out (by rw [HO.out]; (try simp only [Bool.not_eq_eq_eq_not, Bool.not_true, Bool.not_false, Bool.not_eq_true', Bool.not_eq_false', decide_eq_false_iff_not, decide_eq_true_eq, beq_iff_eq, beq_eq_false_iff_ne, bne_iff_ne, ne_eq, bne_eq_false_iff_eq, Bool.and_eq_true, Bool.or_eq_true, Bool.and_eq_false_iff, Bool.or_eq_false_iff, not_true_eq_false, not_false_eq_true, false_and, and_false, or_false, false_or, true_and, and_true, true_or, or_true] at *) <;> omega))⟩
        case measure => simp [intOf]; omega))
   ·go_wp2_with fail
    all_goals (first
     | (go_ret; exact ⟨ret_bool (HNO.out (by rw [HO.out]; (try simp only [Bool.not_eq_eq_eq_not, Bool.not_true, Bool.not_false, Bool.not_eq_true', Bool.not_eq_false', decide_eq_false_iff_not, decide_eq_true_eq, beq_iff_eq, beq_eq_false_iff_ne, bne_iff_ne, ne_eq, bne_eq_false_iff_eq, Bool.and_eq_true, Bool.or_eq_true, Bool.and_eq_false_iff, Bool.or_eq_false_iff, not_true_eq_false, not_false_eq_true, false_and, and_false, or_false, false_or, true_and, and_true, true_or, or_true] at *) <;> omega)), below_bytes _ _ _⟩)
     | (go_round
        case rel => exact ⟨k + 1, by omega, by go_num, Lib.hid (HST.out (by rw [HO.out]; (try simp only [Bool.not_eq_eq_eq_not, Bool.not_true, Bool.not_false, Bool.not_eq_true', Bool.not_eq_false', decide_eq_false_iff_not, decide_eq_true_eq, beq_iff_eq, beq_eq_false_iff_ne, bne_iff_ne, ne_eq, bne_eq_false_iff_eq, Bool.and_eq_true, Bool.or_eq_true, Bool.and_eq_false_iff, Bool.or_eq_false_iff, not_true_eq_false, not_false_eq_true, false_and, and_false, or_false, false_or, true_and, and_true, true_or, or_true] at *) <;> omega))⟩
        case measure => simp [intOf]; omega))
  ·have hke : s.size ≤ k := by omega
   have HA := Lib.hid (nameB_yes hke HK.out)
   clear HK
   have hz := toList_nil s
   cases hq : s.toList.isEmpty
   ·have h1 : 1 ≤ s.size := by
      rcases Nat.eq_zero_or_pos s.size with h | h
      ·rw [hz.2 h] at hq; cases hq
      ·exact h
    clear hz
    go_wp2_with fail
    all_goals (go_ret; exact ⟨ret_bool (by rw [HA.out, Bool.eq_iff_iff]; simp <;> omega), below_bytes _ _ _⟩)
   ·have h1 : s.size = 0 := hz.1 hq
    clear hz
    go_wp2_with fail
    all_goals (go_ret; exact ⟨ret_bool (by rw [HA.out, Bool.eq_iff_iff]; simp <;> omega), below_bytes _ _ _⟩)
end Go.Proofs.YtjmgboipbhddlaaGreatDoor
