/- A board by itself: what the reference BoardErr returns. -/
import Derived.Test.YthhchnhidhgccaaBoards1
import Derived.Test.YthhchnhidhgccaaGrew
set_option linter.unusedVariables false
set_option linter.unusedSimpArgs false
namespace Go.Proofs.Ythhchnhidhgccaa
open Go Go.RowKit

theorem rectIn_form {l wd : Int} {r : Rect} (h : (rectErr r != 0) = true) : rectIn l wd r = rectErr r ∧ (rectIn l wd r != 0) = true := by
  unfold rectErr at h ⊢
  unfold rectIn
  split at h
  · rename_i hc; rw [if_pos hc, if_pos hc]; exact ⟨rfl, rfl⟩
  · simp at h
theorem rectIn_out {l wd : Int} {r : Rect} (h : (rectErr r != 0) = false) (h' : insideB r ⟨0, 0, l, wd⟩ = false) : rectIn l wd r = 2 ∧ (rectIn l wd r != 0) = true := by
  unfold rectErr at h
  unfold insideB at h'
  unfold rectIn
  split at h
  · simp at h
  · rename_i hc
    rw [if_neg hc]
    simp only [Bool.and_eq_false_iff, decide_eq_false_iff_not] at h'
    rw [if_pos (by omega)]; exact ⟨rfl, rfl⟩
theorem rectIn_in {l wd : Int} {r : Rect} (h : (rectErr r != 0) = false) (h' : insideB r ⟨0, 0, l, wd⟩ = true) : (rectIn l wd r != 0) = false := by
  unfold rectErr at h
  unfold insideB at h'
  unfold rectIn
  split at h
  · simp at h
  · rename_i hc
    rw [if_neg hc]
    simp only [Bool.and_eq_true, decide_eq_true_eq] at h'
    rw [if_neg (by omega)]; rfl

set_option maxRecDepth 100000 in
set_option maxHeartbeats 2000000 in
theorem refBoardErr_any (b : Board) (a : Option Addr) (c : Nat) (w : World) (hv : Rects.V w a b.defects) (hl : b.defects.length ≤ 9223372036854775807) (hw : b.wf) :
    Calls Try.prog 34 #[.agg #[.string b.name, .string b.species, .int .i64 b.length, .int .i64 b.width, .int .i64 b.thick, .int .i64 b.cut, .int .i64 b.moisture, .slice a b.defects.length c]] w fun e w' => e = .returned (.int .i64 (boardErr b)) ∧ Below w.heap.size w w' := by
  obtain ⟨hn1, hn2, -⟩ := hw
  cases h1 : nameB b.name
  · go_enter Try.func34, Try.ntmps34
    go_wp2_with (first
      | (go_at_call 85; refine (baseIsName_any _ _ (by assumption)).mono ?_; rintro e w' ⟨rfl, rfl⟩)
      | (go_at_call 28; refine (baseWithin_any _ _ _ _).mono ?_; rintro e w' ⟨rfl, rfl⟩))
    go_ret
    exact ⟨ret_int (by go_tidy; simp [boardErr, *]), (Below.refl _ _).alloc (Nat.le_refl _) _⟩
  cases h2 : nameB b.species
  · go_enter Try.func34, Try.ntmps34
    go_wp2_with (first
      | (go_at_call 85; refine (baseIsName_any _ _ (by assumption)).mono ?_; rintro e w' ⟨rfl, rfl⟩)
      | (go_at_call 28; refine (baseWithin_any _ _ _ _).mono ?_; rintro e w' ⟨rfl, rfl⟩))
    go_ret
    exact ⟨ret_int (by go_tidy; simp [boardErr, *]), (Below.refl _ _).alloc (Nat.le_refl _) _⟩
  cases h3 : withinB b.length 1 600000
  · go_enter Try.func34, Try.ntmps34
    go_wp2_with (first
      | (go_at_call 85; refine (baseIsName_any _ _ (by assumption)).mono ?_; rintro e w' ⟨rfl, rfl⟩)
      | (go_at_call 28; refine (baseWithin_any _ _ _ _).mono ?_; rintro e w' ⟨rfl, rfl⟩))
    go_ret
    exact ⟨ret_int (by go_tidy; simp [boardErr, *]), (Below.refl _ _).alloc (Nat.le_refl _) _⟩
  cases h4 : withinB b.width 1 100000
  · go_enter Try.func34, Try.ntmps34
    go_wp2_with (first
      | (go_at_call 85; refine (baseIsName_any _ _ (by assumption)).mono ?_; rintro e w' ⟨rfl, rfl⟩)
      | (go_at_call 28; refine (baseWithin_any _ _ _ _).mono ?_; rintro e w' ⟨rfl, rfl⟩))
    go_ret
    exact ⟨ret_int (by go_tidy; simp [boardErr, *]), (Below.refl _ _).alloc (Nat.le_refl _) _⟩
  cases h5 : withinB b.thick 1 20000
  · go_enter Try.func34, Try.ntmps34
    go_wp2_with (first
      | (go_at_call 85; refine (baseIsName_any _ _ (by assumption)).mono ?_; rintro e w' ⟨rfl, rfl⟩)
      | (go_at_call 28; refine (baseWithin_any _ _ _ _).mono ?_; rintro e w' ⟨rfl, rfl⟩))
    go_ret
    exact ⟨ret_int (by go_tidy; simp [boardErr, *]), (Below.refl _ _).alloc (Nat.le_refl _) _⟩
  cases h6 : withinB b.cut 0 1
  · go_enter Try.func34, Try.ntmps34
    go_wp2_with (first
      | (go_at_call 85; refine (baseIsName_any _ _ (by assumption)).mono ?_; rintro e w' ⟨rfl, rfl⟩)
      | (go_at_call 28; refine (baseWithin_any _ _ _ _).mono ?_; rintro e w' ⟨rfl, rfl⟩))
    go_ret
    exact ⟨ret_int (by go_tidy; simp [boardErr, *]), (Below.refl _ _).alloc (Nat.le_refl _) _⟩
  cases h7 : withinB b.moisture 0 400
  · go_enter Try.func34, Try.ntmps34
    go_wp2_with (first
      | (go_at_call 85; refine (baseIsName_any _ _ (by assumption)).mono ?_; rintro e w' ⟨rfl, rfl⟩)
      | (go_at_call 28; refine (baseWithin_any _ _ _ _).mono ?_; rintro e w' ⟨rfl, rfl⟩))
    go_ret
    exact ⟨ret_int (by go_tidy; simp [boardErr, *]), (Below.refl _ _).alloc (Nat.le_refl _) _⟩
  by_cases h8 : 60 < b.defects.length
  · go_enter Try.func34, Try.ntmps34
    go_wp2_with (first
      | (go_at_call 85; refine (baseIsName_any _ _ (by assumption)).mono ?_; rintro e w' ⟨rfl, rfl⟩)
      | (go_at_call 28; refine (baseWithin_any _ _ _ _).mono ?_; rintro e w' ⟨rfl, rfl⟩))
    go_ret
    exact ⟨ret_int (by go_tidy; simp [boardErr, *]), (Below.refl _ _).alloc (Nat.le_refl _) _⟩
  have HF := Lib.hid (show boardErr b = boardGo b.length b.width (b.defects.drop 0) by simp [boardErr, h1, h2, h3, h4, h5, h6, h7, h8])
  go_enter Try.func34, Try.ntmps34
  go_wp2_with (first
    | (go_at_call 85; refine (baseIsName_any _ _ (by assumption)).mono ?_; rintro e w' ⟨rfl, rfl⟩)
    | (go_at_call 28; refine (baseWithin_any _ _ _ _).mono ?_; rintro e w' ⟨rfl, rfl⟩))
  clear h1 h2 h3 h4 h5 h6 h7
  go_loopw [3] (fun i wr => ∃ k : Nat, k ≤ b.defects.length ∧ i = .int .i64 k ∧ Hid (boardErr b = boardGo b.length b.width (b.defects.drop k)) ∧ Below (w.heap.size + 1) (w.alloc (.cells #[.string b.name, .string b.species, .int .i64 b.length, .int .i64 b.width, .int .i64 b.thick, .int .i64 b.cut, .int .i64 b.moisture, .slice a b.defects.length c] 25)) wr) (fun i _ => b.defects.length - (intOf i).toNat)
  case atStart => exact ⟨0, Nat.zero_le _, rfl, HF, Below.refl _ _⟩
  case round =>
    clear HF
    obtain ⟨k, hk, rfl, HF, hbw⟩ := hrel
    have hbw0 := ((Below.refl w.heap.size w).alloc (Nat.le_refl _) _).trans (hbw.mono (Nat.le_succ _))
    obtain ⟨hc, hf⟩ := bcellB hbw
    have hsz := hbw.size
    simp at hsz
    have hsz1 : w.heap.size < wr.heap.size := by omega
    by_cases hlt : k < b.defects.length
    · obtain ⟨bk, off, rfl, hat⟩ := (hv.keep hbw0).at_ hlt
      have hat0 := Lib.hid hat
      obtain ⟨c0, c1, c2, c3, hwf⟩ := hat
      have hki : (k : Int) < (b.defects.length : Int) := by omega
      go_wp2_with (go_at_call 36; refine (rectErr_any b.defects[k] _).mono ?_; rintro e w1 ⟨rfl, hb⟩; have hb1 : Below wr.heap.size wr w1 := hb; clear hb)
      · go_ret
        have hh := rectIn_form (l := b.length) (wd := b.width) (r := b.defects[k]) (by assumption)
        exact ⟨ret_int (by rw [← hh.1]; exact (boardGo_err hlt HF.out hh.2).symm), hbw0.trans (hb1.mono (by omega))⟩
      · have c0' := cell_keep hb1 c0
        have c1' := cell_keep hb1 c1
        have c2' := cell_keep hb1 c2
        have c3' := cell_keep hb1 c3
        have hbk := block_lt_of_cell c0'
        simp only at hbk
        have hbw1 := hbw.trans (hb1.mono (by omega))
        clear hc hf c0 c1 c2 c3
        obtain ⟨hc, hf⟩ := bcellB hbw1
        have hsz2 := hb1.size
        have hsz3 : w.heap.size < w1.heap.size := by omega
        refine wp_region_grew (by kernel_rfl) (by kernel_rfl) ?_
        repeat (first
          | go_big_quiet_step (first
            | (go_at_call 38; exact grew_of (whole_any b _ _ _))
            | (go_at_call 37; exact grew_of (inside_any b.defects[k] ⟨0, 0, b.length, b.width⟩ _)))
          | quiet_step (first
            | (go_at_call 38; exact grew_of (whole_any b _ _ _))
            | (go_at_call 37; exact grew_of (inside_any b.defects[k] ⟨0, 0, b.length, b.width⟩ _))))
        refine wpQuiet_nil ?_
        rintro _ ⟨g, rfl⟩
        cases hq : insideB b.defects[k] ⟨0, 0, b.length, b.width⟩
        · go_wp2
          go_ret
          have hh := rectIn_out (by assumption) hq
          exact ⟨ret_int (by rw [← hh.1]; exact (boardGo_err hlt HF.out hh.2).symm), grewB (hbw0.trans (hb1.mono (by omega))) (by omega) _⟩
        · go_wp2
          go_roundw
          case rel => exact ⟨k + 1, by omega, by go_num, Lib.hid (boardGo_next hlt HF.out (rectIn_in (by assumption) hq)), grewB hbw1 (by omega) _⟩
          case measure => simp [intOf]; omega
    · have hm := Lib.hid (boardGo_end (by omega) HF.out)
      clear HF
      go_wp2_with fail
      go_ret
      exact ⟨ret_int hm.out.symm, hbw0⟩
end Go.Proofs.Ythhchnhidhgccaa
