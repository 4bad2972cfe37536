/- Boards and blanks by themselves, rectangles: what chapter 8 shares with chapter 2. -/
import Derived.Test.YtpaindkfbgoogaaGreatC8a
import Derived.Deep.CutRange
import Derived.Deep.RegionHeld3
import Derived.OwnWalk
set_option linter.unusedVariables false
set_option linter.unusedSimpArgs false
namespace Go.Proofs.YtpaindkfbgoogaaGreat
open Go Go.RowKit Go.Maps Go.WideMaps

theorem bcellB {B : Nat} {W w1 : World} (hb : Below B W w1) : (∀ b o, b < B → w1.cell? ⟨b, o, none⟩ = W.cell? ⟨b, o, none⟩) ∧ (∀ b o, b < B → w1.frozen? ⟨b, o, none⟩ = W.frozen? ⟨b, o, none⟩) :=
  ⟨fun b o h => hb.cell (p := ⟨b, o, none⟩) h, fun b o h => hb.frozen (p := ⟨b, o, none⟩) h⟩
def rectErr (r : Rect) : Int := if r.x2 ≤ r.x1 ∨ r.y2 ≤ r.y1 then 3 else 0
def rectIn (l wd : Int) (r : Rect) : Int := if r.x2 ≤ r.x1 ∨ r.y2 ≤ r.y1 then 3 else if r.x1 < 0 ∨ l < r.x2 ∨ r.y1 < 0 ∨ wd < r.y2 then 2 else 0
theorem rectErr_any (r : Rect) (w : World) : Calls Tryz.prog 62 #[.agg #[.int .i64 r.x1, .int .i64 r.y1, .int .i64 r.x2, .int .i64 r.y2]] w fun e w' => e = .returned (.int .i64 (rectErr r)) ∧ Below w.heap.size w w' := by
  go_enter Tryz.func62, Tryz.ntmps62
  go_wp2
  all_goals (go_ret; exact ⟨ret_int (by go_tidy; (try simp only [Bool.not_eq_eq_eq_not, Bool.not_true, Bool.not_false, Bool.not_eq_true', Bool.not_eq_false', decide_eq_false_iff_not, decide_eq_true_eq, beq_iff_eq, beq_eq_false_iff_ne, bne_iff_ne, ne_eq, bne_eq_false_iff_eq, Bool.and_eq_true, Bool.or_eq_true, Bool.and_eq_false_iff, Bool.or_eq_false_iff, not_true_eq_false, not_false_eq_true, false_and, and_false, or_false, false_or, true_and, and_true, true_or, or_true] at *) <;> unfold rectErr <;> split <;> omega), (Below.refl _ _).alloc (Nat.le_refl _) _⟩)
set_option maxHeartbeats 1000000 in
theorem checkRect_any (b : Board) (r : Rect) (a : Option Addr) (c : Nat) (w : World) :
    Calls Tryz.prog 137 #[.agg #[.string b.name, .string b.species, .int .i64 b.length, .int .i64 b.width, .int .i64 b.thick, .int .i64 b.cut, .int .i64 b.moisture, .slice a b.defects.length c], .agg #[.int .i64 r.x1, .int .i64 r.y1, .int .i64 r.x2, .int .i64 r.y2]] w fun e w' => e = .returned (.int .i64 (rectIn b.length b.width r)) ∧ Below w.heap.size w w' := by
  go_enter Tryz.func137, Tryz.ntmps137
  go_wp2
  all_goals (go_ret; exact ⟨ret_int (by go_tidy; (try simp only [Bool.not_eq_eq_eq_not, Bool.not_true, Bool.not_false, Bool.not_eq_true', Bool.not_eq_false', decide_eq_false_iff_not, decide_eq_true_eq, beq_iff_eq, beq_eq_false_iff_ne, bne_iff_ne, ne_eq, bne_eq_false_iff_eq, Bool.and_eq_true, Bool.or_eq_true, Bool.and_eq_false_iff, Bool.or_eq_false_iff, not_true_eq_false, not_false_eq_true, false_and, and_false, or_false, false_or, true_and, and_true, true_or, or_true] at *) <;> unfold rectIn <;> (repeat' split) <;> omega), ((Below.refl _ _).alloc (Nat.le_refl _) _).alloc (by simp) _⟩)
def boardGo (l wd : Int) : List Rect → Int
  | [] => 0
  | r :: rs => if rectIn l wd r ≠ 0 then rectIn l wd r else boardGo l wd rs
def boardErr (b : Board) : Int :=
  if nameB b.name = false ∨ nameB b.species = false then 4
  else if withinB b.length 1 600000 = false ∨ withinB b.width 1 100000 = false ∨ withinB b.thick 1 20000 = false ∨ withinB b.cut 0 1 = false ∨ withinB b.moisture 0 400 = false then 2
  else if 60 < b.defects.length then 8 else boardGo b.length b.width b.defects
theorem boardGo_err {b : Board} {k : Nat} {e : Int} (hk : k < b.defects.length) (h : e = boardGo b.length b.width (b.defects.drop k)) (h1 : (rectIn b.length b.width b.defects[k] != 0) = true) : e = rectIn b.length b.width b.defects[k] := by
  rw [h, List.drop_eq_getElem_cons hk, boardGo, if_pos (by simpa using h1)]
theorem boardGo_next {b : Board} {k : Nat} {e : Int} (hk : k < b.defects.length) (h : e = boardGo b.length b.width (b.defects.drop k)) (h1 : (rectIn b.length b.width b.defects[k] != 0) = false) : e = boardGo b.length b.width (b.defects.drop (k + 1)) := by
  rw [h, List.drop_eq_getElem_cons hk, boardGo, if_neg (by simpa using h1)]
theorem boardGo_end {b : Board} {k : Nat} {e : Int} (hk : b.defects.length ≤ k) (h : e = boardGo b.length b.width (b.defects.drop k)) : e = 0 := by
  rw [h, List.drop_eq_nil_of_le hk]; rfl
set_option maxRecDepth 100000 in
set_option maxHeartbeats 2000000 in
theorem checkBoard_any (b : Board) (a : Option Addr) (c : Nat) (w : World) (hv : Rects.V w a b.defects) (hl : b.defects.length ≤ 9223372036854775807) (hw : b.wf) :
    Calls Tryz.prog 117 #[.agg #[.string b.name, .string b.species, .int .i64 b.length, .int .i64 b.width, .int .i64 b.thick, .int .i64 b.cut, .int .i64 b.moisture, .slice a b.defects.length c]] w fun e w' => e = .returned (.int .i64 (boardErr b)) ∧ Below w.heap.size w w' := by
  obtain ⟨hn1, hn2, -⟩ := hw
  cases h1 : nameB b.name
  · go_enter Tryz.func117, Tryz.ntmps117
    go_wp2_with (first
      | (go_at_call 135; refine (isName_any _ _ (by assumption)).mono ?_; rintro e w' ⟨rfl, rfl⟩)
      | (go_at_call 136; refine (within_any _ _ _ _).mono ?_; rintro e w' ⟨rfl, rfl⟩))
    go_ret
    exact ⟨ret_int (by go_tidy; simp [boardErr, *]), (Below.refl _ _).alloc (Nat.le_refl _) _⟩
  cases h2 : nameB b.species
  · go_enter Tryz.func117, Tryz.ntmps117
    go_wp2_with (first
      | (go_at_call 135; refine (isName_any _ _ (by assumption)).mono ?_; rintro e w' ⟨rfl, rfl⟩)
      | (go_at_call 136; refine (within_any _ _ _ _).mono ?_; rintro e w' ⟨rfl, rfl⟩))
    go_ret
    exact ⟨ret_int (by go_tidy; simp [boardErr, *]), (Below.refl _ _).alloc (Nat.le_refl _) _⟩
  cases h3 : withinB b.length 1 600000
  · go_enter Tryz.func117, Tryz.ntmps117
    go_wp2_with (first
      | (go_at_call 135; refine (isName_any _ _ (by assumption)).mono ?_; rintro e w' ⟨rfl, rfl⟩)
      | (go_at_call 136; refine (within_any _ _ _ _).mono ?_; rintro e w' ⟨rfl, rfl⟩))
    go_ret
    exact ⟨ret_int (by go_tidy; simp [boardErr, *]), (Below.refl _ _).alloc (Nat.le_refl _) _⟩
  cases h4 : withinB b.width 1 100000
  · go_enter Tryz.func117, Tryz.ntmps117
    go_wp2_with (first
      | (go_at_call 135; refine (isName_any _ _ (by assumption)).mono ?_; rintro e w' ⟨rfl, rfl⟩)
      | (go_at_call 136; refine (within_any _ _ _ _).mono ?_; rintro e w' ⟨rfl, rfl⟩))
    go_ret
    exact ⟨ret_int (by go_tidy; simp [boardErr, *]), (Below.refl _ _).alloc (Nat.le_refl _) _⟩
  cases h5 : withinB b.thick 1 20000
  · go_enter Tryz.func117, Tryz.ntmps117
    go_wp2_with (first
      | (go_at_call 135; refine (isName_any _ _ (by assumption)).mono ?_; rintro e w' ⟨rfl, rfl⟩)
      | (go_at_call 136; refine (within_any _ _ _ _).mono ?_; rintro e w' ⟨rfl, rfl⟩))
    go_ret
    exact ⟨ret_int (by go_tidy; simp [boardErr, *]), (Below.refl _ _).alloc (Nat.le_refl _) _⟩
  cases h6 : withinB b.cut 0 1
  · go_enter Tryz.func117, Tryz.ntmps117
    go_wp2_with (first
      | (go_at_call 135; refine (isName_any _ _ (by assumption)).mono ?_; rintro e w' ⟨rfl, rfl⟩)
      | (go_at_call 136; refine (within_any _ _ _ _).mono ?_; rintro e w' ⟨rfl, rfl⟩))
    go_ret
    exact ⟨ret_int (by go_tidy; simp [boardErr, *]), (Below.refl _ _).alloc (Nat.le_refl _) _⟩
  cases h7 : withinB b.moisture 0 400
  · go_enter Tryz.func117, Tryz.ntmps117
    go_wp2_with (first
      | (go_at_call 135; refine (isName_any _ _ (by assumption)).mono ?_; rintro e w' ⟨rfl, rfl⟩)
      | (go_at_call 136; refine (within_any _ _ _ _).mono ?_; rintro e w' ⟨rfl, rfl⟩))
    go_ret
    exact ⟨ret_int (by go_tidy; simp [boardErr, *]), (Below.refl _ _).alloc (Nat.le_refl _) _⟩
  by_cases h8 : 60 < b.defects.length
  · go_enter Tryz.func117, Tryz.ntmps117
    go_wp2_with (first
      | (go_at_call 135; refine (isName_any _ _ (by assumption)).mono ?_; rintro e w' ⟨rfl, rfl⟩)
      | (go_at_call 136; refine (within_any _ _ _ _).mono ?_; rintro e w' ⟨rfl, rfl⟩))
    go_ret
    exact ⟨ret_int (by go_tidy; simp [boardErr, *]), (Below.refl _ _).alloc (Nat.le_refl _) _⟩
  have HF := Lib.hid (show boardErr b = boardGo b.length b.width (b.defects.drop 0) by simp [boardErr, h1, h2, h3, h4, h5, h6, h7, h8])
  go_enter Tryz.func117, Tryz.ntmps117
  go_wp2_with (first
    | (go_at_call 135; refine (isName_any _ _ (by assumption)).mono ?_; rintro e w' ⟨rfl, rfl⟩)
    | (go_at_call 136; refine (within_any _ _ _ _).mono ?_; rintro e w' ⟨rfl, rfl⟩))
  clear h1 h2 h3 h4 h5 h6 h7
  go_loopw [46] (fun i wr => ∃ k : Nat, k ≤ b.defects.length ∧ i = .int .i64 k ∧ Hid (boardErr b = boardGo b.length b.width (b.defects.drop k)) ∧ Below (w.heap.size + 1) (w.alloc (.cells #[.string b.name, .string b.species, .int .i64 b.length, .int .i64 b.width, .int .i64 b.thick, .int .i64 b.cut, .int .i64 b.moisture, .slice a b.defects.length c] 73)) wr) (fun i _ => b.defects.length - (intOf i).toNat)
  case atStart => exact ⟨0, Nat.zero_le _, rfl, HF, Below.refl _ _⟩
  case round =>
    clear HF
    obtain ⟨k, hk, rfl, HF, hbw⟩ := hrel
    have hbw0 := ((Below.refl w.heap.size w).alloc (Nat.le_refl _) _).trans (hbw.mono (Nat.le_succ _))
    by_cases hlt : k < b.defects.length
    · obtain ⟨bk, off, rfl, hat⟩ := (hv.keep hbw0).at_ hlt
      obtain ⟨c0, c1, c2, c3, hwf⟩ := hat
      obtain ⟨hc, hf⟩ := bcellB hbw
      have hsz := hbw.size
      simp at hsz
      have hsz1 : w.heap.size < wr.heap.size := by omega
      go_wp2_with (go_at_call 137; refine (checkRect_any b b.defects[k] _ _ _).mono ?_; rintro e w1 ⟨rfl, hb⟩)
      · go_ret
        exact ⟨ret_int (boardGo_err hlt HF.out (by assumption)).symm, (hbw0.alloc (by omega) _).trans (hb.mono (by simp; omega))⟩
      · go_roundw
        case rel => exact ⟨k + 1, by omega, by go_num, Lib.hid (boardGo_next hlt HF.out (by assumption)), (hbw.alloc (by omega) _).trans (hb.mono (by simp; omega))⟩
        case measure => simp [intOf]; omega
    · have hm := Lib.hid (boardGo_end (by omega) HF.out)
      clear HF
      go_wp2_with fail
      go_ret
      exact ⟨ret_int hm.out.symm, hbw0⟩
def overlapsB (a b : Rect) : Bool := decide (a.x1 < b.x2) && decide (b.x1 < a.x2) && decide (a.y1 < b.y2) && decide (b.y1 < a.y2)
def soundB (ds : List Rect) (r : Rect) : Bool := !ds.any fun d => overlapsB d r
end Go.Proofs.YtpaindkfbgoogaaGreat
