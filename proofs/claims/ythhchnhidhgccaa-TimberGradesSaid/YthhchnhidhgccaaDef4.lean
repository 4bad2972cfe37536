/- Area and Defective of the program, with their checks; soundness in two ways. -/
import Derived.Test.YthhchnhidhgccaaDef3
set_option linter.unusedVariables false
set_option linter.unusedSimpArgs false
namespace Go.Proofs.Ythhchnhidhgccaa
open Go Go.RowKit

def areaV (b : Board) : Int := if boardErr b = 0 then b.length * b.width else 0
def defV (b : Board) : Int := if boardErr b = 0 then refArea b else 0
theorem boardOk_defs {b : Board} (h : BoardOk b) : DefsIn b := ⟨h.length.1, h.width.1, h.inside⟩
theorem area_bd {b : Board} (h : BoardOk b) : 0 ≤ b.length * b.width ∧ b.length * b.width ≤ 60000000000 := by
  have h1 := h.length
  have h2 := h.width
  have : b.length * b.width ≤ 600000 * 100000 := Int.mul_le_mul (by omega) (by omega) (by omega) (by omega)
  exact ⟨Int.mul_nonneg (by omega) (by omega), by omega⟩
set_option maxHeartbeats 1000000 in
theorem areaP_any (b : Board) (a : Option Addr) (c : Nat) (w : World) (hv : Rects.V w a b.defects) (hl : b.defects.length ≤ 9223372036854775807) (hw : b.wf) :
    Calls Try.prog 65 #[.agg #[.string b.name, .string b.species, .int .i64 b.length, .int .i64 b.width, .int .i64 b.thick, .int .i64 b.cut, .int .i64 b.moisture, .slice a b.defects.length c]] w fun e w' => e = .returned (.tuple #[.int .i64 (areaV b), .int .i64 (boardErr b)]) ∧ Below w.heap.size w w' := by
  by_cases h0 : boardErr b = 0
  · have h0' : (boardErr b != 0) = false := by simp [h0]
    have HA := Lib.hid (show areaV b = b.length * b.width by simp [areaV, h0])
    have HB := area_bd (boardErr_ok h0)
    have HE := Lib.hid h0
    have hwr : IntKind.i64.wrap (b.length * b.width) = b.length * b.width := IntWalk.i64_in _ (by omega)
    clear h0
    go_enter Try.func65, Try.ntmps65
    go_wp2_with (go_at_call 82; refine (checkBoard_any b _ _ _ (hv.keep ((Below.refl _ _).alloc (Nat.le_refl _) _)) hl hw).mono ?_; rintro e w1 ⟨rfl, hb1⟩; obtain ⟨hk1, hf1⟩ := bcell hb1; have hc1 := ((Below.refl w.heap.size w).alloc (Nat.le_refl _) _).trans (hb1.mono (by simp)); have hz1 : w.heap.size < w1.heap.size := (by have := hb1.size; simp at this; omega))
    go_ret2
    exact ⟨by rw [HA.out, HE.out]; rfl, hc1⟩
  · have h0' : (boardErr b != 0) = true := by simp [h0]
    have HA := Lib.hid (show areaV b = 0 by simp [areaV, h0])
    clear h0
    go_enter Try.func65, Try.ntmps65
    go_wp2_with (go_at_call 82; refine (checkBoard_any b _ _ _ (hv.keep ((Below.refl _ _).alloc (Nat.le_refl _) _)) hl hw).mono ?_; rintro e w1 ⟨rfl, hb1⟩; have hc1 := ((Below.refl w.heap.size w).alloc (Nat.le_refl _) _).trans (hb1.mono (by simp)))
    go_ret2
    exact ⟨by rw [HA.out]; rfl, hc1⟩
set_option maxHeartbeats 1000000 in
theorem defectiveP_any (b : Board) (a : Option Addr) (c : Nat) (w : World) (hv : Rects.V w a b.defects) (hl : b.defects.length ≤ 9223372036854775807) (hw : b.wf) :
    Calls Try.prog 66 #[.agg #[.string b.name, .string b.species, .int .i64 b.length, .int .i64 b.width, .int .i64 b.thick, .int .i64 b.cut, .int .i64 b.moisture, .slice a b.defects.length c]] w fun e w' => e = .returned (.tuple #[.int .i64 (defV b), .int .i64 (boardErr b)]) ∧ Below w.heap.size w w' := by
  by_cases h0 : boardErr b = 0
  · have h0' : (boardErr b != 0) = false := by simp [h0]
    have HOK := Lib.hid (boardErr_ok h0)
    have HA := Lib.hid (show defV b = progArea b by simp [defV, h0, area_same (boardOk_defs (boardErr_ok h0))])
    have HE := Lib.hid h0
    clear h0
    go_enter Try.func66, Try.ntmps66
    go_wp2_with (first
      | (go_at_call 82; refine (checkBoard_any b _ _ _ (hv.keep ((Below.refl _ _).alloc (Nat.le_refl _) _)) hl hw).mono ?_; rintro e w1 ⟨rfl, hb1⟩; obtain ⟨hk1, hf1⟩ := bcell hb1; have hc1 := ((Below.refl w.heap.size w).alloc (Nat.le_refl _) _).trans (hb1.mono (by simp)); have hz1 : w.heap.size < w1.heap.size := (by have := hb1.size; simp at this; omega))
      | (go_at_call 104; refine (defective_any b a c _ (hv.keep hc1) HOK.out.few (boardOk_defs HOK.out) HOK.out.length.2 HOK.out.width.2).mono ?_; rintro e w2 ⟨rfl, hb2⟩; have hc2 := hc1.trans (hb2.mono hc1.size)))
    go_ret2
    exact ⟨by rw [HA.out, HE.out]; rfl, hc2⟩
  · have h0' : (boardErr b != 0) = true := by simp [h0]
    have HA := Lib.hid (show defV b = 0 by simp [defV, h0])
    clear h0
    go_enter Try.func66, Try.ntmps66
    go_wp2_with (go_at_call 82; refine (checkBoard_any b _ _ _ (hv.keep ((Below.refl _ _).alloc (Nat.le_refl _) _)) hl hw).mono ?_; rintro e w1 ⟨rfl, hb1⟩; have hc1 := ((Below.refl w.heap.size w).alloc (Nat.le_refl _) _).trans (hb1.mono (by simp)))
    go_ret2
    exact ⟨by rw [HA.out]; rfl, hc1⟩
theorem areaP_is (b : Board) (a : Option Addr) (c : Nat) (w : World) (hv : Rects.V w a b.defects) (hl : b.defects.length ≤ 9223372036854775807) (hw : b.wf) {v e0 : Int} (h1 : areaV b = v) (h2 : boardErr b = e0) :
    Calls Try.prog 65 #[.agg #[.string b.name, .string b.species, .int .i64 b.length, .int .i64 b.width, .int .i64 b.thick, .int .i64 b.cut, .int .i64 b.moisture, .slice a b.defects.length c]] w fun e w' => e = .returned (.tuple #[.int .i64 v, .int .i64 e0]) ∧ Below w.heap.size w w' := by
  subst h1 h2; exact areaP_any b a c w hv hl hw
theorem defectiveP_is (b : Board) (a : Option Addr) (c : Nat) (w : World) (hv : Rects.V w a b.defects) (hl : b.defects.length ≤ 9223372036854775807) (hw : b.wf) {v e0 : Int} (h1 : defV b = v) (h2 : boardErr b = e0) :
    Calls Try.prog 66 #[.agg #[.string b.name, .string b.species, .int .i64 b.length, .int .i64 b.width, .int .i64 b.thick, .int .i64 b.cut, .int .i64 b.moisture, .slice a b.defects.length c]] w fun e w' => e = .returned (.tuple #[.int .i64 v, .int .i64 e0]) ∧ Below w.heap.size w w' := by
  subst h1 h2; exact defectiveP_any b a c w hv hl hw
theorem refBoardErr_is (b : Board) (a : Option Addr) (c : Nat) (w : World) (hv : Rects.V w a b.defects) (hl : b.defects.length ≤ 9223372036854775807) (hw : b.wf) {e0 : Int} (h2 : boardErr b = e0) :
    Calls Try.prog 34 #[.agg #[.string b.name, .string b.species, .int .i64 b.length, .int .i64 b.width, .int .i64 b.thick, .int .i64 b.cut, .int .i64 b.moisture, .slice a b.defects.length c]] w fun e w' => e = .returned (.int .i64 e0) ∧ Below w.heap.size w w' := by
  subst h2; exact refBoardErr_any b a c w hv hl hw
theorem rectErrB_is (r : Rect) (w : World) {v : Int} (h : rectErr r = v) : Calls Try.prog 36 #[.agg #[.int .i64 r.x1, .int .i64 r.y1, .int .i64 r.x2, .int .i64 r.y2]] w fun e w' => e = .returned (.int .i64 v) ∧ Below w.heap.size w w' := by
  subst h; exact rectErr_any r w
theorem insideB_is (r q : Rect) (w : World) {v : Bool} (h : insideB r q = v) : Calls Try.prog 37 #[.agg #[.int .i64 r.x1, .int .i64 r.y1, .int .i64 r.x2, .int .i64 r.y2], .agg #[.int .i64 q.x1, .int .i64 q.y1, .int .i64 q.x2, .int .i64 q.y2]] w fun e w' => e = .returned (.bool v) ∧ Below w.heap.size w w' := by
  subst h; exact inside_any r q w
theorem psound_same {ds : List Rect} {r : Rect} (hd : ∀ d ∈ ds, d.x1 < d.x2 ∧ d.y1 < d.y2) (h1 : r.x1 < r.x2) (h2 : r.y1 < r.y2) : psound ds r = soundB ds r := by
  unfold psound soundB
  rw [Bool.eq_iff_iff, Bool.not_eq_true', Bool.not_eq_true', List.any_eq_false, List.any_eq_false]
  refine forall_congr' fun d => forall_congr' fun hd' => ?_
  have := hd d hd'
  unfold overlapB overlapsB
  simp only [decide_eq_true_eq, Bool.and_eq_true]
  omega
theorem psound_less {ds : List Rect} {r : Rect} (h2 : r.x1 + 2 ≤ r.x2) (h : psound ds r = true) : psound ds ⟨r.x1 + 1, r.y1, r.x2, r.y2⟩ = true := by
  unfold psound at *
  rw [Bool.not_eq_true', List.any_eq_false] at *
  intro d hd
  have := h d hd
  unfold overlapB at *
  simp only [decide_eq_true_eq] at *
  omega
theorem rectIn_of {l wd : Int} {r : Rect} (h : rectErr r = 0) (hi : insideB r ⟨0, 0, l, wd⟩ = true) : rectIn l wd r = 0 ∧ 0 ≤ r.x1 ∧ r.x1 < r.x2 ∧ r.x2 ≤ l ∧ 0 ≤ r.y1 ∧ r.y1 < r.y2 ∧ r.y2 ≤ wd := by
  unfold rectErr at h
  unfold insideB at hi
  simp only [Bool.and_eq_true, decide_eq_true_eq] at hi
  split at h
  · cases h
  · unfold rectIn
    rw [if_neg (by omega), if_neg (by omega)]
    omega
theorem rectIn_no {l wd : Int} {r : Rect} (h : rectErr r = 0) (hi : insideB r ⟨0, 0, l, wd⟩ = false) : rectIn l wd r = 2 := by
  unfold rectErr at h
  split at h
  · cases h
  · unfold rectIn
    rw [if_neg (by omega), if_pos]
    unfold insideB at hi
    simp only [Bool.and_eq_false_iff, decide_eq_false_iff_not] at hi
    omega
end Go.Proofs.Ythhchnhidhgccaa
