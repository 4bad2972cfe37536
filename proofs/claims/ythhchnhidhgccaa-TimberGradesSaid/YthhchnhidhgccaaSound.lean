/- Sound rectangles: what Overlaps, IsSound, sound and Sound return. -/
import Derived.Test.YthhchnhidhgccaaLinesR
set_option linter.unusedVariables false
set_option linter.unusedSimpArgs false
namespace Go.Proofs.Ythhchnhidhgccaa
open Go Go.RowKit

theorem Rects.V.drew {w : World} {a : Option Addr} {l : List Rect} (h : Rects.V w a l) : Rects.V w.drew a l := h

set_option maxHeartbeats 2000000 in
theorem refOverlaps_any (r s : Rect) (w : World) : Calls Try.prog 105 #[.agg #[.int .i64 r.x1, .int .i64 r.y1, .int .i64 r.x2, .int .i64 r.y2], .agg #[.int .i64 s.x1, .int .i64 s.y1, .int .i64 s.x2, .int .i64 s.y2]] w fun e w' => e = .returned (.bool (overlapsB r s)) ∧ Below w.heap.size w w' := by
  unfold overlapsB
  go_enter Try.func105, Try.ntmps105
  go_wp2
  all_goals (go_ret; exact ⟨ret_bool (by go_tidy; rw [Bool.eq_iff_iff]; simp <;> omega), ((Below.refl _ _).alloc (Nat.le_refl _) _).alloc (by simp) _⟩)

theorem sound_step {ds : List Rect} {r : Rect} {k : Nat} (hk : k < ds.length) (h : soundB ds r = soundB (ds.drop k) r) (h1 : overlapsB ds[k] r = false) : soundB ds r = soundB (ds.drop (k + 1)) r := by
  rw [h]
  unfold soundB
  rw [List.drop_eq_getElem_cons hk, List.any_cons, h1, Bool.false_or]
theorem sound_no {ds : List Rect} {r : Rect} {k : Nat} (hk : k < ds.length) (h1 : overlapsB ds[k] r = true) : soundB ds r = false := by
  unfold soundB
  rw [Bool.not_eq_false']
  exact List.any_eq_true.2 ⟨_, List.getElem_mem hk, h1⟩

set_option maxRecDepth 100000 in
set_option maxHeartbeats 2000000 in
theorem isSound_any (b : Board) (r : Rect) (a : Option Addr) (c : Nat) (w : World) (hv : Rects.V w a b.defects) (hl : b.defects.length ≤ 9223372036854775807) :
    Calls Try.prog 68 #[.agg #[.string b.name, .string b.species, .int .i64 b.length, .int .i64 b.width, .int .i64 b.thick, .int .i64 b.cut, .int .i64 b.moisture, .slice a b.defects.length c], .agg #[.int .i64 r.x1, .int .i64 r.y1, .int .i64 r.x2, .int .i64 r.y2]] w fun e w' => e = .returned (.bool (soundB b.defects r)) ∧ Below w.heap.size w w' := by
  go_enter Try.func68, Try.ntmps68
  go_upto_region 1 with fail
  refine gen_world (fun W => W.cell? ⟨w.heap.size, 7, none⟩ = some (.slice a b.defects.length c) ∧ W.cell? ⟨w.heap.size + 1, 0, none⟩ = some (.int .i64 r.x1) ∧ W.cell? ⟨w.heap.size + 1, 1, none⟩ = some (.int .i64 r.y1) ∧ W.cell? ⟨w.heap.size + 1, 2, none⟩ = some (.int .i64 r.x2) ∧ W.cell? ⟨w.heap.size + 1, 3, none⟩ = some (.int .i64 r.y2) ∧ Below w.heap.size w W) ?_ ?_
  · exact ⟨by simp [go_sem], by simp [go_sem], by simp [go_sem], by simp [go_sem], by simp [go_sem], ((Below.refl _ _).alloc (Nat.le_refl _) _).alloc (by simp) _⟩
  rintro W ⟨e7, r0, r1, r2, r3, hbW⟩
  have hz0 := block_lt_of_cell e7
  have hz1 := block_lt_of_cell r0
  simp only at hz0 hz1
  go_wp2_with fail
  go_loopw [5] (fun i wr => ∃ k : Nat, k ≤ b.defects.length ∧ i = .int .i64 k ∧ Hid (soundB b.defects r = soundB (b.defects.drop k) r) ∧ Below W.heap.size W wr) (fun i _ => b.defects.length - (intOf i).toNat)
  case atStart => exact ⟨0, Nat.zero_le _, rfl, Lib.hid (by simp), Below.refl _ _⟩
  case round =>
    obtain ⟨k, hk, rfl, HF, hbw⟩ := hrel
    have hbw0 := hbW.trans (hbw.mono hbW.size)
    have f7 := cell_keep hbw e7
    have q0 := cell_keep hbw r0
    have q1 := cell_keep hbw r1
    have q2 := cell_keep hbw r2
    have q3 := cell_keep hbw r3
    have hsz := hbw.size
    have hz2 : w.heap.size < wr.heap.size := by omega
    have hz3 : w.heap.size + 1 < wr.heap.size := by omega
    by_cases hlt : k < b.defects.length
    · obtain ⟨bk, off, rfl, hat⟩ := (hv.keep hbw0).at_ hlt
      obtain ⟨c0, c1, c2, c3, -⟩ := hat
      have hbk := block_lt_of_cell c0
      simp only at hbk
      have hki : (k : Int) < (b.defects.length : Int) := by omega
      have HOV := Lib.hid (fun h => sound_step (r := r) hlt HF.out h)
      have HNO := Lib.hid (fun h => sound_no (r := r) hlt h)
      generalize hd0 : b.defects[k] = d at *
      clear hd0 HF
      go_wp2_with fail
      refine wp_region_grew (by kernel_rfl) (by kernel_rfl) ?_
      repeat (first
        | go_big_quiet_step ((go_at_call 105; exact grew_of (refOverlaps_any d r _)))
        | quiet_step ((go_at_call 105; exact grew_of (refOverlaps_any d r _))))
      refine wpQuiet_nil ?_
      rintro _ ⟨g, rfl⟩
      cases hq : overlapsB d r
      · go_wp2_with fail
        go_roundw
        case rel => exact ⟨k + 1, by omega, by go_num, Lib.hid (HOV.out hq), grewB hbw (by omega) _⟩
        case measure => simp [intOf]; omega
      · go_wp2_with fail
        go_ret
        exact ⟨ret_bool (by go_tidy; rw [HNO.out hq]), grewB hbw0 (by omega) _⟩
    · have hm := Lib.hid (show soundB b.defects r = true by rw [HF.out, List.drop_of_length_le (by omega)]; rfl)
      clear HF
      go_wp2_with fail
      go_ret
      exact ⟨ret_bool (by go_tidy; rw [hm.out]), hbw0⟩
end Go.Proofs.Ythhchnhidhgccaa
