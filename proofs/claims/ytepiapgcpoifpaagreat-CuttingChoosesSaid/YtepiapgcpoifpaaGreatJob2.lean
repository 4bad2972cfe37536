/- Jobs: what the program's CheckTrim, checkBoard and CheckJob return. -/
import Derived.Test.YtepiapgcpoifpaaGreatJob1
set_option linter.unusedVariables false
set_option linter.unusedSimpArgs false
namespace Go.Proofs.YtepiapgcpoifpaaGreat
open Go Go.RowKit Go.Maps Go.WideMaps

theorem checkTrim_any (t : Trim) (w : World) :
    Calls Tryz.prog 77 #[.agg #[.int .i64 t.kerf, .int .i64 t.ends, .int .i64 t.sides]] w fun e w' => e = .returned (.int .i64 (trimE t)) ∧ Below w.heap.size w w' := by
  have i0 : ∀ w, (Instr.index 179 (.agg #[.int .i64 t.kerf, .int .i64 t.ends, .int .i64 t.sides]) (.int .i64 0)).run Tryz.prog w = .ok (.int .i64 t.kerf) w := fun _ => by kernel_rfl
  have i1 : ∀ w, (Instr.index 179 (.agg #[.int .i64 t.kerf, .int .i64 t.ends, .int .i64 t.sides]) (.int .i64 1)).run Tryz.prog w = .ok (.int .i64 t.ends) w := fun _ => by kernel_rfl
  have i2 : ∀ w, (Instr.index 179 (.agg #[.int .i64 t.kerf, .int .i64 t.ends, .int .i64 t.sides]) (.int .i64 2)).run Tryz.prog w = .ok (.int .i64 t.sides) w := fun _ => by kernel_rfl
  go_enter Tryz.func77, Tryz.ntmps77
  go_wp2_with (first
    | (go_at_call 56; refine (cwithin_any _ _ _ _).mono ?_; rintro e w' ⟨rfl, rfl⟩)
    | (with_reducible refine rounds_step ?_)
    | (with_reducible refine wp_loop_rounds 4 ?_))
  all_goals (go_ret; exact ⟨ret_int (by go_tidy; (try simp only [Bool.not_eq_eq_eq_not, Bool.not_true, Bool.not_false, Bool.not_eq_true', Bool.not_eq_false', decide_eq_false_iff_not, decide_eq_true_eq, beq_iff_eq, beq_eq_false_iff_ne, bne_iff_ne, ne_eq, bne_eq_false_iff_eq, Bool.and_eq_true, Bool.or_eq_true, Bool.and_eq_false_iff, Bool.or_eq_false_iff, not_true_eq_false, not_false_eq_true, false_and, and_false, or_false, false_or, true_and, and_true, true_or, or_true] at *) <;> simp [trimE, *]), (Below.refl _ _).alloc (Nat.le_refl _) _⟩)

set_option maxHeartbeats 2000000 in
theorem areaP_e (b : Board) (a : Option Addr) (c : Nat) (w : World) (hv : Rects.V w a b.defects) (hl : b.defects.length ≤ 9223372036854775807) (hw : b.wf) :
    Calls Tryz.prog 119 #[.agg #[.string b.name, .string b.species, .int .i64 b.length, .int .i64 b.width, .int .i64 b.thick, .int .i64 b.cut, .int .i64 b.moisture, .slice a b.defects.length c]] w fun e w' => (∃ n, e = .returned (.tuple #[.int .i64 n, .int .i64 (boardErr b)])) ∧ Below w.heap.size w w' := by
  go_enter Tryz.func119, Tryz.ntmps119
  cases h0 : (boardErr b != 0)
  · have HE := Lib.hid (show boardErr b = 0 by simpa using h0)
    go_wp2_with (go_at_call 156; refine (checkBoard_any b _ _ _ (hv.keep ((Below.refl _ _).alloc (Nat.le_refl _) _)) hl hw).mono ?_; rintro e w1 ⟨rfl, hb1⟩; obtain ⟨hk1, hf1⟩ := bcell hb1; have hc1 := ((Below.refl w.heap.size w).alloc (Nat.le_refl _) _).trans (hb1.mono (by simp)); have hz1 : w.heap.size < w1.heap.size := (by have := hb1.size; simp at this; omega))
    go_ret2
    exact ⟨⟨_, by rw [HE.out]; rfl⟩, hc1⟩
  · go_wp2_with (go_at_call 156; refine (checkBoard_any b _ _ _ (hv.keep ((Below.refl _ _).alloc (Nat.le_refl _) _)) hl hw).mono ?_; rintro e w1 ⟨rfl, hb1⟩; have hc1 := ((Below.refl w.heap.size w).alloc (Nat.le_refl _) _).trans (hb1.mono (by simp)))
    go_ret2
    exact ⟨⟨_, rfl⟩, hc1⟩
set_option maxHeartbeats 1000000 in
theorem ccheckBoard_any (b : Board) (a : Option Addr) (c : Nat) (w : World) (hv : Rects.V w a b.defects) (hl : b.defects.length ≤ 9223372036854775807) (hw : b.wf) :
    Calls Tryz.prog 75 #[.agg #[.string b.name, .string b.species, .int .i64 b.length, .int .i64 b.width, .int .i64 b.thick, .int .i64 b.cut, .int .i64 b.moisture, .slice a b.defects.length c]] w fun e w' => e = .returned (.int .i64 (boardErr b)) ∧ Below w.heap.size w w' := by
  go_enter Tryz.func75, Tryz.ntmps75
  go_wp2_with (go_at_call 119; refine (areaP_e b _ _ _ (hv.keep ((Below.refl _ _).alloc (Nat.le_refl _) _)) hl hw).mono ?_; rintro e w1 ⟨⟨n, rfl⟩, hb1⟩; have hc1 := ((Below.refl w.heap.size w).alloc (Nat.le_refl _) _).trans (hb1.mono (by simp)))
  go_ret
  exact ⟨rfl, hc1⟩
end Go.Proofs.YtepiapgcpoifpaaGreat
