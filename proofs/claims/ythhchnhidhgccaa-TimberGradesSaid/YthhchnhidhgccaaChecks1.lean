/- Small checks: ranges, and a species by itself, of the program and of the reference. -/
import Derived.Test.YthhchnhidhgccaaNames
import Derived.Test.YthhchnhidhgccaaData
import Derived.LoopN
set_option linter.unusedVariables false
set_option linter.unusedSimpArgs false
namespace Go.Proofs.Ythhchnhidhgccaa
open Go Go.RowKit

theorem rounds_step {P : Program} {c : Code} {Q : Exit → Act → World → Prop} {n : Nat} {a : Act} {w : World} (h : c.wp P (Exit.then (Code.rounds P c Q n) Q) a w) : Code.rounds P c Q (n + 1) a w := h

def withinB (n lo hi : Int) : Bool := decide (lo ≤ n) && decide (n ≤ hi)
theorem ret_int {a b : Int} (h : a = b) : Ending.returned (.int .i64 a) = .returned (.int .i64 b) := by rw [h]

theorem within_any (n lo hi : Int) (w : World) : Calls Try.prog 83 #[.int .i64 n, .int .i64 lo, .int .i64 hi] w fun e w' => e = .returned (.bool (withinB n lo hi)) ∧ w = w' := by
  unfold withinB
  go_enter Try.func83, Try.ntmps83
  go_wp2
  all_goals (go_ret; exact ⟨ret_bool (by rw [Bool.eq_iff_iff]; simp <;> omega), rfl⟩)

theorem baseWithin_any (n lo hi : Int) (w : World) : Calls Try.prog 28 #[.int .i64 n, .int .i64 lo, .int .i64 hi] w fun e w' => e = .returned (.bool (withinB n lo hi)) ∧ w = w' := by
  unfold withinB
  go_enter Try.func28, Try.ntmps28
  go_wp2
  all_goals (go_ret; exact ⟨ret_bool (by rw [Bool.eq_iff_iff]; simp <;> omega), rfl⟩)

def speciesErr (s : Species) : Int :=
  if nameB s.name = false then 4 else if withinB s.along 0 2000 = false ∨ withinB s.across 0 2000 = false ∨ withinB s.radial 0 2000 = false ∨
    withinB s.density 1 2000 = false ∨ withinB s.stiffness 1 100000 = false ∨ withinB s.strength 1 1000 = false then 2 else 0

set_option maxHeartbeats 2000000 in
theorem speciesErr_any (s : Species) (w : World) (hs : s.name.size ≤ 9223372036854775807) :
    Calls Try.prog 80 #[.agg #[.string s.name, .int .i64 s.along, .int .i64 s.across, .int .i64 s.radial, .int .i64 s.density, .int .i64 s.stiffness, .int .i64 s.strength]] w
      fun e w' => e = .returned (.int .i64 (speciesErr s)) ∧ Below w.heap.size w w' := by
  go_enter Try.func80, Try.ntmps80
  go_wp2_with (first
    | (go_at_call 85; refine (baseIsName_any _ _ hs).mono ?_; rintro e w' ⟨rfl, rfl⟩)
    | (go_at_call 28; refine (baseWithin_any _ _ _ _).mono ?_; rintro e w' ⟨rfl, rfl⟩))
  all_goals (go_ret; exact ⟨ret_int (by go_tidy; (try simp only [Bool.not_eq_eq_eq_not, Bool.not_true, Bool.not_false, Bool.not_eq_true', Bool.not_eq_false', decide_eq_false_iff_not, decide_eq_true_eq, beq_iff_eq, beq_eq_false_iff_ne, bne_iff_ne, ne_eq, bne_eq_false_iff_eq, Bool.and_eq_true, Bool.or_eq_true, Bool.and_eq_false_iff, Bool.or_eq_false_iff, not_true_eq_false, not_false_eq_true, false_and, and_false, or_false, false_or, true_and, and_true, true_or, or_true] at *) <;> simp [speciesErr, *]), (Below.refl _ _).alloc (Nat.le_refl _) _⟩)

set_option maxHeartbeats 2000000 in
theorem checkOne_any (s : Species) (w : World) (hs : s.name.size ≤ 9223372036854775807) :
    Calls Try.prog 81 #[.agg #[.string s.name, .int .i64 s.along, .int .i64 s.across, .int .i64 s.radial, .int .i64 s.density, .int .i64 s.stiffness, .int .i64 s.strength]] w
      fun e w' => e = .returned (.int .i64 (speciesErr s)) ∧ Below w.heap.size w w' := by
  have i0 : ∀ w, (Instr.index 88 (.agg #[.int .i64 s.along, .int .i64 s.across, .int .i64 s.radial]) (.int .i64 0)).run Try.prog w = .ok (.int .i64 s.along) w := fun _ => by kernel_rfl
  have i1 : ∀ w, (Instr.index 88 (.agg #[.int .i64 s.along, .int .i64 s.across, .int .i64 s.radial]) (.int .i64 1)).run Try.prog w = .ok (.int .i64 s.across) w := fun _ => by kernel_rfl
  have i2 : ∀ w, (Instr.index 88 (.agg #[.int .i64 s.along, .int .i64 s.across, .int .i64 s.radial]) (.int .i64 2)).run Try.prog w = .ok (.int .i64 s.radial) w := fun _ => by kernel_rfl
  go_enter Try.func81, Try.ntmps81
  go_wp2_with (first
    | (go_at_call 98; refine (isName_any _ _ hs).mono ?_; rintro e w' ⟨rfl, rfl⟩)
    | (go_at_call 83; refine (within_any _ _ _ _).mono ?_; rintro e w' ⟨rfl, rfl⟩)
    | (with_reducible refine rounds_step ?_)
    | (with_reducible refine wp_loop_rounds 4 ?_))
  all_goals (go_ret; exact ⟨ret_int (by go_tidy; (try simp only [Bool.not_eq_eq_eq_not, Bool.not_true, Bool.not_false, Bool.not_eq_true', Bool.not_eq_false', decide_eq_false_iff_not, decide_eq_true_eq, beq_iff_eq, beq_eq_false_iff_ne, bne_iff_ne, ne_eq, bne_eq_false_iff_eq, Bool.and_eq_true, Bool.or_eq_true, Bool.and_eq_false_iff, Bool.or_eq_false_iff, not_true_eq_false, not_false_eq_true, false_and, and_false, or_false, false_or, true_and, and_true, true_or, or_true] at *) <;> simp [speciesErr, *]), (Below.refl _ _).alloc (Nat.le_refl _) _⟩)
end Go.Proofs.Ythhchnhidhgccaa
