/- Small jobs; checkCut, Usable of the program and of the reference. -/
import Derived.Test.YtpaindkfbgoogaaGreatA8
import Derived.Test.YtpaindkfbgoogaaGreatVG
set_option linter.unusedVariables false
set_option linter.unusedSimpArgs false
namespace Go.Proofs.YtpaindkfbgoogaaGreat
open Go Go.RowKit

set_option maxRecDepth 100000 in
set_option maxHeartbeats 4000000 in
theorem refUsable_is (b : Board) (t : Trim) (q : Rect) (a : Option Addr) (c : Nat) (w : World) (hq : usableR b t = q) (hb : 0 ≤ b.length ∧ b.length ≤ 600000 ∧ 0 ≤ b.width ∧ b.width ≤ 600000) (ht : 0 ≤ t.ends ∧ t.ends ≤ 10000 ∧ 0 ≤ t.sides ∧ t.sides ≤ 10000) :
    Calls Tryz.prog 67 #[.agg #[.string b.name, .string b.species, .int .i64 b.length, .int .i64 b.width, .int .i64 b.thick, .int .i64 b.cut, .int .i64 b.moisture, .slice a b.defects.length c], .agg #[.int .i64 t.kerf, .int .i64 t.ends, .int .i64 t.sides]] w fun e w' => e = .returned (.agg #[.int .i64 q.x1, .int .i64 q.y1, .int .i64 q.x2, .int .i64 q.y2]) ∧ Below w.heap.size w w' := by
  have v1 : IntKind.i64.wrap (b.length - t.ends) = b.length - t.ends := IntWalk.i64_in _ (by omega)
  have v2 : IntKind.i64.wrap (b.width - t.sides) = b.width - t.sides := IntWalk.i64_in _ (by omega)
  obtain ⟨x2, hx2⟩ : ∃ x, x = b.length - t.ends := ⟨_, rfl⟩
  obtain ⟨y2, hy2⟩ : ∃ x, x = b.width - t.sides := ⟨_, rfl⟩
  unfold usableR at hq
  rw [← hx2, ← hy2] at hq
  rw [← hx2] at v1
  rw [← hy2] at v2
  have u1 : IntKind.i64.wrap (b.length - t.ends) = x2 := by rw [← hx2]; exact v1
  have u2 : IntKind.i64.wrap (b.width - t.sides) = y2 := by rw [← hy2]; exact v2
  clear v1 v2 hx2 hy2
  have HRE := Lib.hid (show rectErr ⟨t.ends, t.sides, x2, y2⟩ = (if x2 ≤ t.ends ∨ y2 ≤ t.sides then 3 else 0) from rfl)
  by_cases hin : x2 ≤ t.ends ∨ y2 ≤ t.sides
  · have HQ := Lib.hid (show q = ⟨0, 0, 0, 0⟩ by rw [← hq]; unfold wholeR; rw [if_pos hin])
    have hE := HRE.out
    rw [if_pos hin] at hE
    have HE := Lib.hid hE
    clear hq hin hE HRE
    go_enter Tryz.func67, Tryz.ntmps67
    go_wp2_with (go_at_call 62; refine (rectErr_any ⟨t.ends, t.sides, x2, y2⟩ _).mono ?_; rw [HE.out]; rintro e w1 ⟨rfl, hb1⟩; have r0 : w1.cell? ⟨w.heap.size + 2, 0, none⟩ = some (.int .i64 0) := (cell_keep hb1 (by simp [go_sem])); have r1 : w1.cell? ⟨w.heap.size + 2, 1, none⟩ = some (.int .i64 0) := (cell_keep hb1 (by simp [go_sem])); have r2 : w1.cell? ⟨w.heap.size + 2, 2, none⟩ = some (.int .i64 0) := (cell_keep hb1 (by simp [go_sem])); have r3 : w1.cell? ⟨w.heap.size + 2, 3, none⟩ = some (.int .i64 0) := (cell_keep hb1 (by simp [go_sem])); have f0 : w1.frozen? ⟨w.heap.size + 2, 0, none⟩ = false := (frozen_keep hb1 (by simp; try omega) (by simp [go_sem])); have f1 : w1.frozen? ⟨w.heap.size + 2, 1, none⟩ = false := (frozen_keep hb1 (by simp; try omega) (by simp [go_sem])); have f2 : w1.frozen? ⟨w.heap.size + 2, 2, none⟩ = false := (frozen_keep hb1 (by simp; try omega) (by simp [go_sem])); have f3 : w1.frozen? ⟨w.heap.size + 2, 3, none⟩ = false := (frozen_keep hb1 (by simp; try omega) (by simp [go_sem])); have HB := Lib.hid hb1; have hz := hb1.size; simp only [World.size_alloc, size_set] at hz; clear hb1)
    refine bodyPost_ret (v := .agg #[.int .i64 0, .int .i64 0, .int .i64 0, .int .i64 0]) (by simp [results, Tryz.results67, go_sem, r0, r1, r2, r3]) rfl ⟨by rw [HQ.out], ?_⟩
    repeat (first | (refine Below.setCell ?_ (by first | (simp; done) | (simp; omega)) _) | (exact (Below.trans ?_ (HB.out.mono (by first | (simp; done) | (simp; omega))))) | (refine Below.trans ?_ (HB.out.mono (by first | (simp; done) | (simp; omega)))) | (refine Below.alloc ?_ (by first | (simp; done) | (simp; omega)) _) | exact Below.refl _ _)
  · have HQ := Lib.hid (show q = ⟨t.ends, t.sides, x2, y2⟩ by rw [← hq]; unfold wholeR; rw [if_neg hin])
    have hE := HRE.out
    rw [if_neg hin] at hE
    have HE := Lib.hid hE
    clear hq hin hE HRE
    go_enter Tryz.func67, Tryz.ntmps67
    go_wp2_with (go_at_call 62; refine (rectErr_any ⟨t.ends, t.sides, x2, y2⟩ _).mono ?_; rw [HE.out]; rintro e w1 ⟨rfl, hb1⟩; have r0 : w1.cell? ⟨w.heap.size + 2, 0, none⟩ = some (.int .i64 0) := (cell_keep hb1 (by simp [go_sem])); have r1 : w1.cell? ⟨w.heap.size + 2, 1, none⟩ = some (.int .i64 0) := (cell_keep hb1 (by simp [go_sem])); have r2 : w1.cell? ⟨w.heap.size + 2, 2, none⟩ = some (.int .i64 0) := (cell_keep hb1 (by simp [go_sem])); have r3 : w1.cell? ⟨w.heap.size + 2, 3, none⟩ = some (.int .i64 0) := (cell_keep hb1 (by simp [go_sem])); have f0 : w1.frozen? ⟨w.heap.size + 2, 0, none⟩ = false := (frozen_keep hb1 (by simp; try omega) (by simp [go_sem])); have f1 : w1.frozen? ⟨w.heap.size + 2, 1, none⟩ = false := (frozen_keep hb1 (by simp; try omega) (by simp [go_sem])); have f2 : w1.frozen? ⟨w.heap.size + 2, 2, none⟩ = false := (frozen_keep hb1 (by simp; try omega) (by simp [go_sem])); have f3 : w1.frozen? ⟨w.heap.size + 2, 3, none⟩ = false := (frozen_keep hb1 (by simp; try omega) (by simp [go_sem])); have s0 : w1.cell? ⟨w.heap.size + 3, 0, none⟩ = some (.int .i64 t.ends) := (cell_keep hb1 (by simp [go_sem])); have s1 : w1.cell? ⟨w.heap.size + 3, 1, none⟩ = some (.int .i64 t.sides) := (cell_keep hb1 (by simp [go_sem])); have s2 : w1.cell? ⟨w.heap.size + 3, 2, none⟩ = some (.int .i64 x2) := (cell_keep hb1 (by simp [go_sem])); have s3 : w1.cell? ⟨w.heap.size + 3, 3, none⟩ = some (.int .i64 y2) := (cell_keep hb1 (by simp [go_sem])); have HB := Lib.hid hb1; have hz := hb1.size; simp only [World.size_alloc, size_set] at hz; clear hb1)
    refine bodyPost_ret (v := .agg #[.int .i64 t.ends, .int .i64 t.sides, .int .i64 x2, .int .i64 y2]) (by simp [results, Tryz.results67, go_sem, r0, r1, r2, r3]) rfl ⟨by rw [HQ.out], ?_⟩
    repeat (first | (refine Below.setCell ?_ (by first | (simp; done) | (simp; omega)) _) | (refine Below.trans ?_ (HB.out.mono (by first | (simp; done) | (simp; omega)))) | (refine Below.alloc ?_ (by first | (simp; done) | (simp; omega)) _) | exact Below.refl _ _)

end Go.Proofs.YtpaindkfbgoogaaGreat
