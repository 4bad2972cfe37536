/- Boards and blanks by themselves, rectangles: what chapter 8 shares with chapter 2. -/
import Derived.Test.YtpaindkfbgoogaaGreatC8a
import Derived.Deep.CutRange
import Derived.Deep.RegionHeld3
import Derived.OwnWalk
set_option linter.unusedVariables false
set_option linter.unusedSimpArgs false
namespace Go.Proofs.YtpaindkfbgoogaaGreat
open Go Go.RowKit Go.Maps Go.WideMaps

theorem bcellB {B : Nat} {W w1 : World} (hb : Below B W w1) : (∀ b o, b < B → w1.cell? ⟨b, o, none⟩ = W.cell? ⟨b, o, none⟩) ∧ (∀ b o, b < B → w1.frozen? ⟨b, o, none⟩ = W.frozen? ⟨b, o, none⟩) :=
  ⟨fun b o h => hb.cell (p := ⟨b, o, none⟩) h, fun b o h => hb.frozen (p := ⟨b, o, none⟩) h⟩
def rectErr (r : Rect) : Int := if r.x2 ≤ r.x1 ∨ r.y2 ≤ r.y1 then 3 else 0
def insideB (r q : Rect) : Bool := decide (q.x1 ≤ r.x1) && decide (r.x2 ≤ q.x2) && decide (q.y1 ≤ r.y1) && decide (r.y2 ≤ q.y2)
def rectIn (l wd : Int) (r : Rect) : Int := if r.x2 ≤ r.x1 ∨ r.y2 ≤ r.y1 then 3 else if r.x1 < 0 ∨ l < r.x2 ∨ r.y1 < 0 ∨ wd < r.y2 then 2 else 0
theorem rectErr_any (r : Rect) (w : World) : Calls Tryz.prog 62 #[.agg #[.int .i64 r.x1, .int .i64 r.y1, .int .i64 r.x2, .int .i64 r.y2]] w fun e w' => e = .returned (.int .i64 (rectErr r)) ∧ Below w.heap.size w w' := by
  go_enter Tryz.func62, Tryz.ntmps62
  go_wp2
  all_goals (go_ret; exact ⟨ret_int (by go_tidy; (try simp only [Bool.not_eq_eq_eq_not, Bool.not_true, Bool.not_false, Bool.not_eq_true', Bool.not_eq_false', decide_eq_false_iff_not, decide_eq_true_eq, beq_iff_eq, beq_eq_false_iff_ne, bne_iff_ne, ne_eq, bne_eq_false_iff_eq, Bool.and_eq_true, Bool.or_eq_true, Bool.and_eq_false_iff, Bool.or_eq_false_iff, not_true_eq_false, not_false_eq_true, false_and, and_false, or_false, false_or, true_and, and_true, true_or, or_true] at *) <;> unfold rectErr <;> split <;> omega), (Below.refl _ _).alloc (Nat.le_refl _) _⟩)
set_option maxHeartbeats 1000000 in
theorem inside_any (r q : Rect) (w : World) : Calls Tryz.prog 63 #[.agg #[.int .i64 r.x1, .int .i64 r.y1, .int .i64 r.x2, .int .i64 r.y2], .agg #[.int .i64 q.x1, .int .i64 q.y1, .int .i64 q.x2, .int .i64 q.y2]] w fun e w' => e = .returned (.bool (insideB r q)) ∧ Below w.heap.size w w' := by
  go_enter Tryz.func63, Tryz.ntmps63
  go_wp2
  all_goals (go_ret; exact ⟨ret_bool (by go_tidy; unfold insideB; rw [Bool.eq_iff_iff]; simp <;> omega), ((Below.refl _ _).alloc (Nat.le_refl _) _).alloc (by simp) _⟩)
theorem whole_any (b : Board) (a : Option Addr) (c : Nat) (w : World) : Calls Tryz.prog 64 #[.agg #[.string b.name, .string b.species, .int .i64 b.length, .int .i64 b.width, .int .i64 b.thick, .int .i64 b.cut, .int .i64 b.moisture, .slice a b.defects.length c]] w fun e w' => e = .returned (.agg #[.int .i64 0, .int .i64 0, .int .i64 b.length, .int .i64 b.width]) ∧ Below w.heap.size w w' := by
  go_enter Tryz.func64, Tryz.ntmps64
  go_wp2
  exact bodyPost_ret (v := .agg #[.int .i64 0, .int .i64 0, .int .i64 b.length, .int .i64 b.width]) (by simp [results, Tryz.results64, go_sem]) rfl ⟨rfl, ((Below.refl _ _).alloc (Nat.le_refl _) _).alloc (by simp) _⟩
set_option maxHeartbeats 1000000 in
theorem checkRect_any (b : Board) (r : Rect) (a : Option Addr) (c : Nat) (w : World) :
    Calls Tryz.prog 137 #[.agg #[.string b.name, .string b.species, .int .i64 b.length, .int .i64 b.width, .int .i64 b.thick, .int .i64 b.cut, .int .i64 b.moisture, .slice a b.defects.length c], .agg #[.int .i64 r.x1, .int .i64 r.y1, .int .i64 r.x2, .int .i64 r.y2]] w fun e w' => e = .returned (.int .i64 (rectIn b.length b.width r)) ∧ Below w.heap.size w w' := by
  go_enter Tryz.func137, Tryz.ntmps137
  go_wp2
  all_goals (go_ret; exact ⟨ret_int (by go_tidy; (try simp only [Bool.not_eq_eq_eq_not, Bool.not_true, Bool.not_false, Bool.not_eq_true', Bool.not_eq_false', decide_eq_false_iff_not, decide_eq_true_eq, beq_iff_eq, beq_eq_false_iff_ne, bne_iff_ne, ne_eq, bne_eq_false_iff_eq, Bool.and_eq_true, Bool.or_eq_true, Bool.and_eq_false_iff, Bool.or_eq_false_iff, not_true_eq_false, not_false_eq_true, false_and, and_false, or_false, false_or, true_and, and_true, true_or, or_true] at *) <;> unfold rectIn <;> (repeat' split) <;> omega), ((Below.refl _ _).alloc (Nat.le_refl _) _).alloc (by simp) _⟩)
def boardGo (l wd : Int) : List Rect → Int
  | [] => 0
  | r :: rs => if rectIn l wd r ≠ 0 then rectIn l wd r else boardGo l wd rs
def boardErr (b : Board) : Int :=
  if nameB b.name = false ∨ nameB b.species = false then 4
  else if withinB b.length 1 600000 = false ∨ withinB b.width 1 100000 = false ∨ withinB b.thick 1 20000 = false ∨ withinB b.cut 0 1 = false ∨ withinB b.moisture 0 400 = false then 2
  else if 60 < b.defects.length then 8 else boardGo b.length b.width b.defects
theorem boardGo_err {b : Board} {k : Nat} {e : Int} (hk : k < b.defects.length) (h : e = boardGo b.length b.width (b.defects.drop k)) (h1 : (rectIn b.length b.width b.defects[k] != 0) = true) : e = rectIn b.length b.width b.defects[k] := by
  rw [h, List.drop_eq_getElem_cons hk, boardGo, if_pos (by simpa using h1)]
theorem boardGo_next {b : Board} {k : Nat} {e : Int} (hk : k < b.defects.length) (h : e = boardGo b.length b.width (b.defects.drop k)) (h1 : (rectIn b.length b.width b.defects[k] != 0) = false) : e = boardGo b.length b.width (b.defects.drop (k + 1)) := by
  rw [h, List.drop_eq_getElem_cons hk, boardGo, if_neg (by simpa using h1)]
theorem boardGo_end {b : Board} {k : Nat} {e : Int} (hk : b.defects.length ≤ k) (h : e = boardGo b.length b.width (b.defects.drop k)) : e = 0 := by
  rw [h, List.drop_eq_nil_of_le hk]; rfl
set_option maxRecDepth 100000 in
set_option maxHeartbeats 2000000 in
theorem checkBoard_any (b : Board) (a : Option Addr) (c : Nat) (w : World) (hv : Rects.V w a b.defects) (hl : b.defects.length ≤ 9223372036854775807) (hw : b.wf) :
    Calls Tryz.prog 117 #[.agg #[.string b.name, .string b.species, .int .i64 b.length, .int .i64 b.width, .int .i64 b.thick, .int .i64 b.cut, .int .i64 b.moisture, .slice a b.defects.length c]] w fun e w' => e = .returned (.int .i64 (boardErr b)) ∧ Below w.heap.size w w' := by
  obtain ⟨hn1, hn2, -⟩ := hw
  cases h1 : nameB b.name
  · go_enter Tryz.func117, Tryz.ntmps117
    go_wp2_with (first
      | (go_at_call 135; refine (isName_any _ _ (by assumption)).mono ?_; rintro e w' ⟨rfl, rfl⟩)
      | (go_at_call 136; refine (within_any _ _ _ _).mono ?_; rintro e w' ⟨rfl, rfl⟩))
    go_ret
    exact ⟨ret_int (by go_tidy; simp [boardErr, *]), (Below.refl _ _).alloc (Nat.le_refl _) _⟩
  cases h2 : nameB b.species
  · go_enter Tryz.func117, Tryz.ntmps117
    go_wp2_with (first
      | (go_at_call 135; refine (isName_any _ _ (by assumption)).mono ?_; rintro e w' ⟨rfl, rfl⟩)
      | (go_at_call 136; refine (within_any _ _ _ _).mono ?_; rintro e w' ⟨rfl, rfl⟩))
    go_ret
    exact ⟨ret_int (by go_tidy; simp [boardErr, *]), (Below.refl _ _).alloc (Nat.le_refl _) _⟩
  cases h3 : withinB b.length 1 600000
  · go_enter Tryz.func117, Tryz.ntmps117
    go_wp2_with (first
      | (go_at_call 135; refine (isName_any _ _ (by assumption)).mono ?_; rintro e w' ⟨rfl, rfl⟩)
      | (go_at_call 136; refine (within_any _ _ _ _).mono ?_; rintro e w' ⟨rfl, rfl⟩))
    go_ret
    exact ⟨ret_int (by go_tidy; simp [boardErr, *]), (Below.refl _ _).alloc (Nat.le_refl _) _⟩
  cases h4 : withinB b.width 1 100000
  · go_enter Tryz.func117, Tryz.ntmps117
    go_wp2_with (first
      | (go_at_call 135; refine (isName_any _ _ (by assumption)).mono ?_; rintro e w' ⟨rfl, rfl⟩)
      | (go_at_call 136; refine (within_any _ _ _ _).mono ?_; rintro e w' ⟨rfl, rfl⟩))
    go_ret
    exact ⟨ret_int (by go_tidy; simp [boardErr, *]), (Below.refl _ _).alloc (Nat.le_refl _) _⟩
  cases h5 : withinB b.thick 1 20000
  · go_enter Tryz.func117, Tryz.ntmps117
    go_wp2_with (first
      | (go_at_call 135; refine (isName_any _ _ (by assumption)).mono ?_; rintro e w' ⟨rfl, rfl⟩)
      | (go_at_call 136; refine (within_any _ _ _ _).mono ?_; rintro e w' ⟨rfl, rfl⟩))
    go_ret
    exact ⟨ret_int (by go_tidy; simp [boardErr, *]), (Below.refl _ _).alloc (Nat.le_refl _) _⟩
  cases h6 : withinB b.cut 0 1
  · go_enter Tryz.func117, Tryz.ntmps117
    go_wp2_with (first
      | (go_at_call 135; refine (isName_any _ _ (by assumption)).mono ?_; rintro e w' ⟨rfl, rfl⟩)
      | (go_at_call 136; refine (within_any _ _ _ _).mono ?_; rintro e w' ⟨rfl, rfl⟩))
    go_ret
    exact ⟨ret_int (by go_tidy; simp [boardErr, *]), (Below.refl _ _).alloc (Nat.le_refl _) _⟩
  cases h7 : withinB b.moisture 0 400
  · go_enter Tryz.func117, Tryz.ntmps117
    go_wp2_with (first
      | (go_at_call 135; refine (isName_any _ _ (by assumption)).mono ?_; rintro e w' ⟨rfl, rfl⟩)
      | (go_at_call 136; refine (within_any _ _ _ _).mono ?_; rintro e w' ⟨rfl, rfl⟩))
    go_ret
    exact ⟨ret_int (by go_tidy; simp [boardErr, *]), (Below.refl _ _).alloc (Nat.le_refl _) _⟩
  by_cases h8 : 60 < b.defects.length
  · go_enter Tryz.func117, Tryz.ntmps117
    go_wp2_with (first
      | (go_at_call 135; refine (isName_any _ _ (by assumption)).mono ?_; rintro e w' ⟨rfl, rfl⟩)
      | (go_at_call 136; refine (within_any _ _ _ _).mono ?_; rintro e w' ⟨rfl, rfl⟩))
    go_ret
    exact ⟨ret_int (by go_tidy; simp [boardErr, *]), (Below.refl _ _).alloc (Nat.le_refl _) _⟩
  have HF := Lib.hid (show boardErr b = boardGo b.length b.width (b.defects.drop 0) by simp [boardErr, h1, h2, h3, h4, h5, h6, h7, h8])
  go_enter Tryz.func117, Tryz.ntmps117
  go_wp2_with (first
    | (go_at_call 135; refine (isName_any _ _ (by assumption)).mono ?_; rintro e w' ⟨rfl, rfl⟩)
    | (go_at_call 136; refine (within_any _ _ _ _).mono ?_; rintro e w' ⟨rfl, rfl⟩))
  clear h1 h2 h3 h4 h5 h6 h7
  go_loopw [46] (fun i wr => ∃ k : Nat, k ≤ b.defects.length ∧ i = .int .i64 k ∧ Hid (boardErr b = boardGo b.length b.width (b.defects.drop k)) ∧ Below (w.heap.size + 1) (w.alloc (.cells #[.string b.name, .string b.species, .int .i64 b.length, .int .i64 b.width, .int .i64 b.thick, .int .i64 b.cut, .int .i64 b.moisture, .slice a b.defects.length c] 73)) wr) (fun i _ => b.defects.length - (intOf i).toNat)
  case atStart => exact ⟨0, Nat.zero_le _, rfl, HF, Below.refl _ _⟩
  case round =>
    clear HF
    obtain ⟨k, hk, rfl, HF, hbw⟩ := hrel
    have hbw0 := ((Below.refl w.heap.size w).alloc (Nat.le_refl _) _).trans (hbw.mono (Nat.le_succ _))
    by_cases hlt : k < b.defects.length
    · obtain ⟨bk, off, rfl, hat⟩ := (hv.keep hbw0).at_ hlt
      obtain ⟨c0, c1, c2, c3, hwf⟩ := hat
      obtain ⟨hc, hf⟩ := bcellB hbw
      have hsz := hbw.size
      simp at hsz
      have hsz1 : w.heap.size < wr.heap.size := by omega
      go_wp2_with (go_at_call 137; refine (checkRect_any b b.defects[k] _ _ _).mono ?_; rintro e w1 ⟨rfl, hb⟩)
      · go_ret
        exact ⟨ret_int (boardGo_err hlt HF.out (by assumption)).symm, (hbw0.alloc (by omega) _).trans (hb.mono (by simp; omega))⟩
      · go_roundw
        case rel => exact ⟨k + 1, by omega, by go_num, Lib.hid (boardGo_next hlt HF.out (by assumption)), (hbw.alloc (by omega) _).trans (hb.mono (by simp; omega))⟩
        case measure => simp [intOf]; omega
    · have hm := Lib.hid (boardGo_end (by omega) HF.out)
      clear HF
      go_wp2_with fail
      go_ret
      exact ⟨ret_int hm.out.symm, hbw0⟩
theorem rectIn_form {l wd : Int} {r : Rect} (h : (rectErr r != 0) = true) : rectIn l wd r = rectErr r ∧ (rectIn l wd r != 0) = true := by
  unfold rectErr at h ⊢
  unfold rectIn
  split at h
  · rename_i hc; rw [if_pos hc, if_pos hc]; exact ⟨rfl, rfl⟩
  · simp at h
theorem rectIn_out {l wd : Int} {r : Rect} (h : (rectErr r != 0) = false) (h' : insideB r ⟨0, 0, l, wd⟩ = false) : rectIn l wd r = 2 ∧ (rectIn l wd r != 0) = true := by
  unfold rectErr at h
  unfold insideB at h'
  unfold rectIn
  split at h
  · simp at h
  · rename_i hc
    rw [if_neg hc]
    simp only [Bool.and_eq_false_iff, decide_eq_false_iff_not] at h'
    rw [if_pos (by omega)]; exact ⟨rfl, rfl⟩
theorem rectIn_in {l wd : Int} {r : Rect} (h : (rectErr r != 0) = false) (h' : insideB r ⟨0, 0, l, wd⟩ = true) : (rectIn l wd r != 0) = false := by
  unfold rectErr at h
  unfold insideB at h'
  unfold rectIn
  split at h
  · simp at h
  · rename_i hc
    rw [if_neg hc]
    simp only [Bool.and_eq_true, decide_eq_true_eq] at h'
    rw [if_neg (by omega)]; rfl
set_option maxRecDepth 100000 in
set_option maxHeartbeats 2000000 in
theorem refBoardErr_any (b : Board) (a : Option Addr) (c : Nat) (w : World) (hv : Rects.V w a b.defects) (hl : b.defects.length ≤ 9223372036854775807) (hw : b.wf) :
    Calls Tryz.prog 32 #[.agg #[.string b.name, .string b.species, .int .i64 b.length, .int .i64 b.width, .int .i64 b.thick, .int .i64 b.cut, .int .i64 b.moisture, .slice a b.defects.length c]] w fun e w' => e = .returned (.int .i64 (boardErr b)) ∧ Below w.heap.size w w' := by
  obtain ⟨hn1, hn2, -⟩ := hw
  cases h1 : nameB b.name
  · go_enter Tryz.func32, Tryz.ntmps32
    go_wp2_with (first
      | (go_at_call 61; refine (baseIsName_any _ _ (by assumption)).mono ?_; rintro e w' ⟨rfl, rfl⟩)
      | (go_at_call 42; refine (baseWithin_any _ _ _ _).mono ?_; rintro e w' ⟨rfl, rfl⟩))
    go_ret
    exact ⟨ret_int (by go_tidy; simp [boardErr, *]), (Below.refl _ _).alloc (Nat.le_refl _) _⟩
  cases h2 : nameB b.species
  · go_enter Tryz.func32, Tryz.ntmps32
    go_wp2_with (first
      | (go_at_call 61; refine (baseIsName_any _ _ (by assumption)).mono ?_; rintro e w' ⟨rfl, rfl⟩)
      | (go_at_call 42; refine (baseWithin_any _ _ _ _).mono ?_; rintro e w' ⟨rfl, rfl⟩))
    go_ret
    exact ⟨ret_int (by go_tidy; simp [boardErr, *]), (Below.refl _ _).alloc (Nat.le_refl _) _⟩
  cases h3 : withinB b.length 1 600000
  · go_enter Tryz.func32, Tryz.ntmps32
    go_wp2_with (first
      | (go_at_call 61; refine (baseIsName_any _ _ (by assumption)).mono ?_; rintro e w' ⟨rfl, rfl⟩)
      | (go_at_call 42; refine (baseWithin_any _ _ _ _).mono ?_; rintro e w' ⟨rfl, rfl⟩))
    go_ret
    exact ⟨ret_int (by go_tidy; simp [boardErr, *]), (Below.refl _ _).alloc (Nat.le_refl _) _⟩
  cases h4 : withinB b.width 1 100000
  · go_enter Tryz.func32, Tryz.ntmps32
    go_wp2_with (first
      | (go_at_call 61; refine (baseIsName_any _ _ (by assumption)).mono ?_; rintro e w' ⟨rfl, rfl⟩)
      | (go_at_call 42; refine (baseWithin_any _ _ _ _).mono ?_; rintro e w' ⟨rfl, rfl⟩))
    go_ret
    exact ⟨ret_int (by go_tidy; simp [boardErr, *]), (Below.refl _ _).alloc (Nat.le_refl _) _⟩
  cases h5 : withinB b.thick 1 20000
  · go_enter Tryz.func32, Tryz.ntmps32
    go_wp2_with (first
      | (go_at_call 61; refine (baseIsName_any _ _ (by assumption)).mono ?_; rintro e w' ⟨rfl, rfl⟩)
      | (go_at_call 42; refine (baseWithin_any _ _ _ _).mono ?_; rintro e w' ⟨rfl, rfl⟩))
    go_ret
    exact ⟨ret_int (by go_tidy; simp [boardErr, *]), (Below.refl _ _).alloc (Nat.le_refl _) _⟩
  cases h6 : withinB b.cut 0 1
  · go_enter Tryz.func32, Tryz.ntmps32
    go_wp2_with (first
      | (go_at_call 61; refine (baseIsName_any _ _ (by assumption)).mono ?_; rintro e w' ⟨rfl, rfl⟩)
      | (go_at_call 42; refine (baseWithin_any _ _ _ _).mono ?_; rintro e w' ⟨rfl, rfl⟩))
    go_ret
    exact ⟨ret_int (by go_tidy; simp [boardErr, *]), (Below.refl _ _).alloc (Nat.le_refl _) _⟩
  cases h7 : withinB b.moisture 0 400
  · go_enter Tryz.func32, Tryz.ntmps32
    go_wp2_with (first
      | (go_at_call 61; refine (baseIsName_any _ _ (by assumption)).mono ?_; rintro e w' ⟨rfl, rfl⟩)
      | (go_at_call 42; refine (baseWithin_any _ _ _ _).mono ?_; rintro e w' ⟨rfl, rfl⟩))
    go_ret
    exact ⟨ret_int (by go_tidy; simp [boardErr, *]), (Below.refl _ _).alloc (Nat.le_refl _) _⟩
  by_cases h8 : 60 < b.defects.length
  · go_enter Tryz.func32, Tryz.ntmps32
    go_wp2_with (first
      | (go_at_call 61; refine (baseIsName_any _ _ (by assumption)).mono ?_; rintro e w' ⟨rfl, rfl⟩)
      | (go_at_call 42; refine (baseWithin_any _ _ _ _).mono ?_; rintro e w' ⟨rfl, rfl⟩))
    go_ret
    exact ⟨ret_int (by go_tidy; simp [boardErr, *]), (Below.refl _ _).alloc (Nat.le_refl _) _⟩
  have HF := Lib.hid (show boardErr b = boardGo b.length b.width (b.defects.drop 0) by simp [boardErr, h1, h2, h3, h4, h5, h6, h7, h8])
  go_enter Tryz.func32, Tryz.ntmps32
  go_wp2_with (first
    | (go_at_call 61; refine (baseIsName_any _ _ (by assumption)).mono ?_; rintro e w' ⟨rfl, rfl⟩)
    | (go_at_call 42; refine (baseWithin_any _ _ _ _).mono ?_; rintro e w' ⟨rfl, rfl⟩))
  clear h1 h2 h3 h4 h5 h6 h7
  go_loopw [3] (fun i wr => ∃ k : Nat, k ≤ b.defects.length ∧ i = .int .i64 k ∧ Hid (boardErr b = boardGo b.length b.width (b.defects.drop k)) ∧ Below (w.heap.size + 1) (w.alloc (.cells #[.string b.name, .string b.species, .int .i64 b.length, .int .i64 b.width, .int .i64 b.thick, .int .i64 b.cut, .int .i64 b.moisture, .slice a b.defects.length c] 73)) wr) (fun i _ => b.defects.length - (intOf i).toNat)
  case atStart => exact ⟨0, Nat.zero_le _, rfl, HF, Below.refl _ _⟩
  case round =>
    clear HF
    obtain ⟨k, hk, rfl, HF, hbw⟩ := hrel
    have hbw0 := ((Below.refl w.heap.size w).alloc (Nat.le_refl _) _).trans (hbw.mono (Nat.le_succ _))
    obtain ⟨hc, hf⟩ := bcellB hbw
    have hsz := hbw.size
    simp at hsz
    have hsz1 : w.heap.size < wr.heap.size := by omega
    by_cases hlt : k < b.defects.length
    · obtain ⟨bk, off, rfl, hat⟩ := (hv.keep hbw0).at_ hlt
      have hat0 := Lib.hid hat
      obtain ⟨c0, c1, c2, c3, hwf⟩ := hat
      have hki : (k : Int) < (b.defects.length : Int) := by omega
      go_wp2_with (go_at_call 62; refine (rectErr_any b.defects[k] _).mono ?_; rintro e w1 ⟨rfl, hb⟩; have hb1 : Below wr.heap.size wr w1 := hb; clear hb)
      · go_ret
        have hh := rectIn_form (l := b.length) (wd := b.width) (r := b.defects[k]) (by assumption)
        exact ⟨ret_int (by rw [← hh.1]; exact (boardGo_err hlt HF.out hh.2).symm), hbw0.trans (hb1.mono (by omega))⟩
      · have c0' := cell_keep hb1 c0
        have c1' := cell_keep hb1 c1
        have c2' := cell_keep hb1 c2
        have c3' := cell_keep hb1 c3
        have hbk := block_lt_of_cell c0'
        simp only at hbk
        have hbw1 := hbw.trans (hb1.mono (by omega))
        clear hc hf c0 c1 c2 c3
        obtain ⟨hc, hf⟩ := bcellB hbw1
        have hsz2 := hb1.size
        have hsz3 : w.heap.size < w1.heap.size := by omega
        refine wp_region_grew (by kernel_rfl) (by kernel_rfl) ?_
        repeat (first
          | go_big_quiet_step (first
            | (go_at_call 64; exact grew_of (whole_any b _ _ _))
            | (go_at_call 63; exact grew_of (inside_any b.defects[k] ⟨0, 0, b.length, b.width⟩ _)))
          | quiet_step (first
            | (go_at_call 64; exact grew_of (whole_any b _ _ _))
            | (go_at_call 63; exact grew_of (inside_any b.defects[k] ⟨0, 0, b.length, b.width⟩ _))))
        refine wpQuiet_nil ?_
        rintro _ ⟨g, rfl⟩
        cases hq : insideB b.defects[k] ⟨0, 0, b.length, b.width⟩
        · go_wp2
          go_ret
          have hh := rectIn_out (by assumption) hq
          exact ⟨ret_int (by rw [← hh.1]; exact (boardGo_err hlt HF.out hh.2).symm), grewB (hbw0.trans (hb1.mono (by omega))) (by omega) _⟩
        · go_wp2
          go_roundw
          case rel => exact ⟨k + 1, by omega, by go_num, Lib.hid (boardGo_next hlt HF.out (rectIn_in (by assumption) hq)), grewB hbw1 (by omega) _⟩
          case measure => simp [intOf]; omega
    · have hm := Lib.hid (boardGo_end (by omega) HF.out)
      clear HF
      go_wp2_with fail
      go_ret
      exact ⟨ret_int hm.out.symm, hbw0⟩
def overlapsB (a b : Rect) : Bool := decide (a.x1 < b.x2) && decide (b.x1 < a.x2) && decide (a.y1 < b.y2) && decide (b.y1 < a.y2)
def soundB (ds : List Rect) (r : Rect) : Bool := !ds.any fun d => overlapsB d r
theorem Rects.V.drew {w : World} {a : Option Addr} {l : List Rect} (h : Rects.V w a l) : Rects.V w.drew a l := h
set_option maxHeartbeats 2000000 in
theorem refOverlaps_any (r s : Rect) (w : World) : Calls Tryz.prog 68 #[.agg #[.int .i64 r.x1, .int .i64 r.y1, .int .i64 r.x2, .int .i64 r.y2], .agg #[.int .i64 s.x1, .int .i64 s.y1, .int .i64 s.x2, .int .i64 s.y2]] w fun e w' => e = .returned (.bool (overlapsB r s)) ∧ Below w.heap.size w w' := by
  unfold overlapsB
  go_enter Tryz.func68, Tryz.ntmps68
  go_wp2
  all_goals (go_ret; exact ⟨ret_bool (by go_tidy; rw [Bool.eq_iff_iff]; simp <;> omega), ((Below.refl _ _).alloc (Nat.le_refl _) _).alloc (by simp) _⟩)
theorem sound_step {ds : List Rect} {r : Rect} {k : Nat} (hk : k < ds.length) (h : soundB ds r = soundB (ds.drop k) r) (h1 : overlapsB ds[k] r = false) : soundB ds r = soundB (ds.drop (k + 1)) r := by
  rw [h]
  unfold soundB
  rw [List.drop_eq_getElem_cons hk, List.any_cons, h1, Bool.false_or]
theorem sound_no {ds : List Rect} {r : Rect} {k : Nat} (hk : k < ds.length) (h1 : overlapsB ds[k] r = true) : soundB ds r = false := by
  unfold soundB
  rw [Bool.not_eq_false']
  exact List.any_eq_true.2 ⟨_, List.getElem_mem hk, h1⟩
set_option maxRecDepth 100000 in
set_option maxHeartbeats 2000000 in
theorem isSound_any (b : Board) (r : Rect) (a : Option Addr) (c : Nat) (w : World) (hv : Rects.V w a b.defects) (hl : b.defects.length ≤ 9223372036854775807) :
    Calls Tryz.prog 102 #[.agg #[.string b.name, .string b.species, .int .i64 b.length, .int .i64 b.width, .int .i64 b.thick, .int .i64 b.cut, .int .i64 b.moisture, .slice a b.defects.length c], .agg #[.int .i64 r.x1, .int .i64 r.y1, .int .i64 r.x2, .int .i64 r.y2]] w fun e w' => e = .returned (.bool (soundB b.defects r)) ∧ Below w.heap.size w w' := by
  go_enter Tryz.func102, Tryz.ntmps102
  go_upto_region 1 with fail
  refine gen_world (fun W => W.cell? ⟨w.heap.size, 7, none⟩ = some (.slice a b.defects.length c) ∧ W.cell? ⟨w.heap.size + 1, 0, none⟩ = some (.int .i64 r.x1) ∧ W.cell? ⟨w.heap.size + 1, 1, none⟩ = some (.int .i64 r.y1) ∧ W.cell? ⟨w.heap.size + 1, 2, none⟩ = some (.int .i64 r.x2) ∧ W.cell? ⟨w.heap.size + 1, 3, none⟩ = some (.int .i64 r.y2) ∧ Below w.heap.size w W) ?_ ?_
  · exact ⟨by simp [go_sem], by simp [go_sem], by simp [go_sem], by simp [go_sem], by simp [go_sem], ((Below.refl _ _).alloc (Nat.le_refl _) _).alloc (by simp) _⟩
  rintro W ⟨e7, r0, r1, r2, r3, hbW⟩
  have hz0 := block_lt_of_cell e7
  have hz1 := block_lt_of_cell r0
  simp only at hz0 hz1
  go_wp2_with fail
  go_loopw [5] (fun i wr => ∃ k : Nat, k ≤ b.defects.length ∧ i = .int .i64 k ∧ Hid (soundB b.defects r = soundB (b.defects.drop k) r) ∧ Below W.heap.size W wr) (fun i _ => b.defects.length - (intOf i).toNat)
  case atStart => exact ⟨0, Nat.zero_le _, rfl, Lib.hid (by simp), Below.refl _ _⟩
  case round =>
    obtain ⟨k, hk, rfl, HF, hbw⟩ := hrel
    have hbw0 := hbW.trans (hbw.mono hbW.size)
    have f7 := cell_keep hbw e7
    have q0 := cell_keep hbw r0
    have q1 := cell_keep hbw r1
    have q2 := cell_keep hbw r2
    have q3 := cell_keep hbw r3
    have hsz := hbw.size
    have hz2 : w.heap.size < wr.heap.size := by omega
    have hz3 : w.heap.size + 1 < wr.heap.size := by omega
    by_cases hlt : k < b.defects.length
    · obtain ⟨bk, off, rfl, hat⟩ := (hv.keep hbw0).at_ hlt
      obtain ⟨c0, c1, c2, c3, -⟩ := hat
      have hbk := block_lt_of_cell c0
      simp only at hbk
      have hki : (k : Int) < (b.defects.length : Int) := by omega
      have HOV := Lib.hid (fun h => sound_step (r := r) hlt HF.out h)
      have HNO := Lib.hid (fun h => sound_no (r := r) hlt h)
      generalize hd0 : b.defects[k] = d at *
      clear hd0 HF
      go_wp2_with fail
      refine wp_region_grew (by kernel_rfl) (by kernel_rfl) ?_
      repeat (first
        | go_big_quiet_step ((go_at_call 68; exact grew_of (refOverlaps_any d r _)))
        | quiet_step ((go_at_call 68; exact grew_of (refOverlaps_any d r _))))
      refine wpQuiet_nil ?_
      rintro _ ⟨g, rfl⟩
      cases hq : overlapsB d r
      · go_wp2_with fail
        go_roundw
        case rel => exact ⟨k + 1, by omega, by go_num, Lib.hid (HOV.out hq), grewB hbw (by omega) _⟩
        case measure => simp [intOf]; omega
      · go_wp2_with fail
        go_ret
        exact ⟨ret_bool (by go_tidy; rw [HNO.out hq]), grewB hbw0 (by omega) _⟩
    · have hm := Lib.hid (show soundB b.defects r = true by rw [HF.out, List.drop_of_length_le (by omega)]; rfl)
      clear HF
      go_wp2_with fail
      go_ret
      exact ⟨ret_bool (by go_tidy; rw [hm.out]), hbw0⟩
def blankErr (x : Blank) : Int :=
  if nameB x.name = false ∨ nameB x.species = false then 4
  else if withinB x.length 1 600000 = false ∨ withinB x.width 1 600000 = false ∨ withinB x.thick 1 600000 = false ∨ withinB x.count 1 200 = false then 2 else 0
set_option maxHeartbeats 2000000 in
theorem blankErr_any (x : Blank) (w : World) (hw : x.wf) :
    Calls Tryz.prog 65 #[.agg #[.string x.name, .string x.species, .int .i64 x.length, .int .i64 x.width, .int .i64 x.thick, .int .i64 x.count]] w fun e w' => e = .returned (.int .i64 (blankErr x)) ∧ Below w.heap.size w w' := by
  obtain ⟨hn1, hn2, -⟩ := hw
  cases h1 : nameB x.name
  · go_enter Tryz.func65, Tryz.ntmps65
    go_wp2_with (first
      | (go_at_call 61; refine (baseIsName_any _ _ (by assumption)).mono ?_; rintro e w' ⟨rfl, rfl⟩)
      | (go_at_call 42; refine (baseWithin_any _ _ _ _).mono ?_; rintro e w' ⟨rfl, rfl⟩))
    go_ret
    exact ⟨ret_int (by go_tidy; simp [blankErr, *]), (Below.refl _ _).alloc (Nat.le_refl _) _⟩
  cases h2 : nameB x.species
  · go_enter Tryz.func65, Tryz.ntmps65
    go_wp2_with (first
      | (go_at_call 61; refine (baseIsName_any _ _ (by assumption)).mono ?_; rintro e w' ⟨rfl, rfl⟩)
      | (go_at_call 42; refine (baseWithin_any _ _ _ _).mono ?_; rintro e w' ⟨rfl, rfl⟩))
    go_ret
    exact ⟨ret_int (by go_tidy; simp [blankErr, *]), (Below.refl _ _).alloc (Nat.le_refl _) _⟩
  cases h3 : withinB x.length 1 600000
  · go_enter Tryz.func65, Tryz.ntmps65
    go_wp2_with (first
      | (go_at_call 61; refine (baseIsName_any _ _ (by assumption)).mono ?_; rintro e w' ⟨rfl, rfl⟩)
      | (go_at_call 42; refine (baseWithin_any _ _ _ _).mono ?_; rintro e w' ⟨rfl, rfl⟩))
    go_ret
    exact ⟨ret_int (by go_tidy; simp [blankErr, *]), (Below.refl _ _).alloc (Nat.le_refl _) _⟩
  cases h4 : withinB x.width 1 600000
  · go_enter Tryz.func65, Tryz.ntmps65
    go_wp2_with (first
      | (go_at_call 61; refine (baseIsName_any _ _ (by assumption)).mono ?_; rintro e w' ⟨rfl, rfl⟩)
      | (go_at_call 42; refine (baseWithin_any _ _ _ _).mono ?_; rintro e w' ⟨rfl, rfl⟩))
    go_ret
    exact ⟨ret_int (by go_tidy; simp [blankErr, *]), (Below.refl _ _).alloc (Nat.le_refl _) _⟩
  cases h5 : withinB x.thick 1 600000
  · go_enter Tryz.func65, Tryz.ntmps65
    go_wp2_with (first
      | (go_at_call 61; refine (baseIsName_any _ _ (by assumption)).mono ?_; rintro e w' ⟨rfl, rfl⟩)
      | (go_at_call 42; refine (baseWithin_any _ _ _ _).mono ?_; rintro e w' ⟨rfl, rfl⟩))
    go_ret
    exact ⟨ret_int (by go_tidy; simp [blankErr, *]), (Below.refl _ _).alloc (Nat.le_refl _) _⟩
  cases h6 : withinB x.count 1 200
  · go_enter Tryz.func65, Tryz.ntmps65
    go_wp2_with (first
      | (go_at_call 61; refine (baseIsName_any _ _ (by assumption)).mono ?_; rintro e w' ⟨rfl, rfl⟩)
      | (go_at_call 42; refine (baseWithin_any _ _ _ _).mono ?_; rintro e w' ⟨rfl, rfl⟩))
    go_ret
    exact ⟨ret_int (by go_tidy; simp [blankErr, *]), (Below.refl _ _).alloc (Nat.le_refl _) _⟩
  · go_enter Tryz.func65, Tryz.ntmps65
    go_wp2_with (first
      | (go_at_call 61; refine (baseIsName_any _ _ (by assumption)).mono ?_; rintro e w' ⟨rfl, rfl⟩)
      | (go_at_call 42; refine (baseWithin_any _ _ _ _).mono ?_; rintro e w' ⟨rfl, rfl⟩))
    go_ret
    exact ⟨ret_int (by go_tidy; simp [blankErr, *]), (Below.refl _ _).alloc (Nat.le_refl _) _⟩
end Go.Proofs.YtpaindkfbgoogaaGreat
