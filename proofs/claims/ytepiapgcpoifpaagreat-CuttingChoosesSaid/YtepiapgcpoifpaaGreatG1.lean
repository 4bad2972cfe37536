/- Rectangles of the program: whole, common, sound, usable, parted. -/
import Derived.Test.YtepiapgcpoifpaaGreatC8c
import Derived.Test.YtepiapgcpoifpaaGreatGreedyM
import Derived.Test.YtepiapgcpoifpaaGreatTree
set_option linter.unusedVariables false
set_option linter.unusedSimpArgs false
namespace Go.Proofs.YtepiapgcpoifpaaGreat
open Go Go.RowKit

theorem whole_is (r q : Rect) (w : World) (hq : wholeR r = q) : Calls Tryz.prog 121 #[.agg #[.int .i64 r.x1, .int .i64 r.y1, .int .i64 r.x2, .int .i64 r.y2]] w fun e w' => e = .returned (.agg #[.int .i64 q.x1, .int .i64 q.y1, .int .i64 q.x2, .int .i64 q.y2]) ∧ Below w.heap.size w w' := by
  subst hq
  unfold wholeR
  go_enter Tryz.func121, Tryz.ntmps121
  by_cases h : r.x2 ≤ r.x1 ∨ r.y2 ≤ r.y1
  · rw [if_pos h]
    go_wp2
    all_goals (first
      | (exact bodyPost_ret (v := .agg #[.int .i64 0, .int .i64 0, .int .i64 0, .int .i64 0]) (by simp [results, Tryz.results121, go_sem]) rfl ⟨rfl, by repeat (first | exact Below.refl _ _ | (refine Below.setCell ?_ (by simp) _) | (refine Below.alloc ?_ (by first | omega | (simp; omega) | (simp; done)) _))⟩)
      | (exfalso; go_tidy; (try simp only [Bool.not_eq_eq_eq_not, Bool.not_true, Bool.not_false, Bool.not_eq_true', Bool.not_eq_false', decide_eq_false_iff_not, decide_eq_true_eq, beq_iff_eq, beq_eq_false_iff_ne, bne_iff_ne, ne_eq, bne_eq_false_iff_eq, Bool.and_eq_true, Bool.or_eq_true, Bool.and_eq_false_iff, Bool.or_eq_false_iff, not_true_eq_false, not_false_eq_true, false_and, and_false, or_false, false_or, true_and, and_true, true_or, or_true] at *); omega))
  · rw [if_neg h]
    go_wp2
    all_goals (first
      | (exact bodyPost_ret (v := .agg #[.int .i64 r.x1, .int .i64 r.y1, .int .i64 r.x2, .int .i64 r.y2]) (by simp [results, Tryz.results121, go_sem]) rfl ⟨rfl, by repeat (first | exact Below.refl _ _ | (refine Below.setCell ?_ (by simp) _) | (refine Below.alloc ?_ (by first | omega | (simp; omega) | (simp; done)) _))⟩)
      | (exfalso; go_tidy; (try simp only [Bool.not_eq_eq_eq_not, Bool.not_true, Bool.not_false, Bool.not_eq_true', Bool.not_eq_false', decide_eq_false_iff_not, decide_eq_true_eq, beq_iff_eq, beq_eq_false_iff_ne, bne_iff_ne, ne_eq, bne_eq_false_iff_eq, Bool.and_eq_true, Bool.or_eq_true, Bool.and_eq_false_iff, Bool.or_eq_false_iff, not_true_eq_false, not_false_eq_true, false_and, and_false, or_false, false_or, true_and, and_true, true_or, or_true] at *); omega))

def interR (a b : Rect) : Rect := ⟨max a.x1 b.x1, max a.y1 b.y1, min a.x2 b.x2, min a.y2 b.y2⟩
theorem inter_mk {a b : Rect} {p q r s : Int} (h1 : p = max a.x1 b.x1) (h2 : q = max a.y1 b.y1) (h3 : r = min a.x2 b.x2) (h4 : s = min a.y2 b.y2) : (⟨p, q, r, s⟩ : Rect) = interR a b := by unfold interR; rw [h1, h2, h3, h4]
theorem cells4 {W w1 : World} {T : TypeId} {a b c d : Value} (h : Below (W.alloc (.cells #[a, b, c, d] T)).heap.size (W.alloc (.cells #[a, b, c, d] T)) w1) :
    (w1.cell? ⟨W.heap.size, 0, none⟩ = some a ∧ w1.cell? ⟨W.heap.size, 1, none⟩ = some b ∧ w1.cell? ⟨W.heap.size, 2, none⟩ = some c ∧ w1.cell? ⟨W.heap.size, 3, none⟩ = some d) ∧
    w1.frozen? ⟨W.heap.size, 0, none⟩ = false ∧ w1.frozen? ⟨W.heap.size, 1, none⟩ = false ∧ w1.frozen? ⟨W.heap.size, 2, none⟩ = false ∧ w1.frozen? ⟨W.heap.size, 3, none⟩ = false := by
  have hz : W.heap.size < (W.alloc (.cells #[a, b, c, d] T)).heap.size := by simp
  refine ⟨⟨?_, ?_, ?_, ?_⟩, ?_, ?_, ?_, ?_⟩
  all_goals first
    | exact cell_keep h (by simp [go_sem])
    | (rw [h.frozen (p := ⟨W.heap.size, _, none⟩) hz]; simp [go_sem])
set_option maxRecDepth 100000 in
set_option maxHeartbeats 2000000 in
theorem common_is (a b q : Rect) (w : World) (hq : wholeR (interR a b) = q) : Calls Tryz.prog 136 #[.agg #[.int .i64 a.x1, .int .i64 a.y1, .int .i64 a.x2, .int .i64 a.y2], .agg #[.int .i64 b.x1, .int .i64 b.y1, .int .i64 b.x2, .int .i64 b.y2]] w fun e w' => e = .returned (.agg #[.int .i64 q.x1, .int .i64 q.y1, .int .i64 q.x2, .int .i64 q.y2]) ∧ Below w.heap.size w w' := by
  go_enter Tryz.func136, Tryz.ntmps136
  go_wp2_with (go_at_call 121; go_loud (with_reducible refine (whole_is ⟨_, _, _, _⟩ q _ (by rw [← hq]; exact congrArg wholeR (inter_mk (by omega) (by omega) (by omega) (by omega)))).mono ?_); rintro e w1 ⟨rfl, hb⟩; obtain ⟨⟨k0, k1, k2, k3⟩, f0, f1, f2, f3⟩ := cells4 hb; simp only [World.size_alloc] at k0 k1 k2 k3 f0 f1 f2 f3)
  all_goals (exact bodyPost_ret (v := .agg #[.int .i64 q.x1, .int .i64 q.y1, .int .i64 q.x2, .int .i64 q.y2]) (by simp [results, Tryz.results136, go_sem, *]) rfl ⟨rfl, by repeat (first | (exact ((((Below.refl _ _).alloc (Nat.le_refl _) _).alloc (by simp) _).alloc (by simp; omega) _).trans (hb.mono (by simp; omega))) | (refine Below.setCell ?_ (by simp; omega) _))⟩)
end Go.Proofs.YtepiapgcpoifpaaGreat
