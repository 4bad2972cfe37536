/- TimberWidest returns true for every input: Widest returns the first widest sound rectangle of a length, or the error; no sound rectangle of this length is wider. No condition. -/
import Derived.Test.YthhchnhidhgccaaWidR
import Derived.Test.YthhchnhidhgccaaWidBest
import Derived.Test.YthhchnhidhgccaaFactsWidest
set_option linter.unusedVariables false
set_option linter.unusedSimpArgs false
namespace Go.Proofs.Ythhchnhidhgccaa
open Go Go.ChangeShapes Go.WideShapes Go.ChangeAt Go.RowKit

theorem widestP_is (b : Board) (len : Int) (a : Option Addr) (c : Nat) (w : World) (hv : Rects.V w a b.defects) (hl : b.defects.length ≤ 9223372036854775807) (hw : b.wf) {r : Rect} {e0 : Int} (hr : widR b len = r) (he : widE b len = e0) :
    Calls Try.prog 33 #[.agg #[.string b.name, .string b.species, .int .i64 b.length, .int .i64 b.width, .int .i64 b.thick, .int .i64 b.cut, .int .i64 b.moisture, .slice a b.defects.length c], .int .i64 len] w fun e w' => e = .returned (.tuple #[.agg #[.int .i64 r.x1, .int .i64 r.y1, .int .i64 r.x2, .int .i64 r.y2], .int .i64 e0]) ∧ Below w.heap.size w w' := by
  subst hr he; exact widestP_any b len a c w hv hl hw
theorem refWidest_is (b : Board) (len : Int) (a : Option Addr) (c : Nat) (w : World) {s : Rect × Bool} (hs : refWid b len = s) (hv : Rects.V w a b.defects) (hl : b.defects.length ≤ 60) (hb : DefsIn b) (hb2 : b.length ≤ 600000) (hw2 : b.width ≤ 600000) (hb3 : 1 ≤ len) (hb4 : len ≤ 600000) :
    Calls Try.prog 35 #[.agg #[.string b.name, .string b.species, .int .i64 b.length, .int .i64 b.width, .int .i64 b.thick, .int .i64 b.cut, .int .i64 b.moisture, .slice a b.defects.length c], .int .i64 len] w fun e w' => e = .returned (.tuple #[.agg #[.int .i64 s.1.x1, .int .i64 s.1.y1, .int .i64 s.1.x2, .int .i64 s.1.y2], .bool s.2]) ∧ Below w.heap.size w w' := by
  subst hs; exact refWidest_any b len a c w hv hl hb hb2 hw2 hb3 hb4
theorem timberSound_is (b : Board) (r : Rect) (a : Option Addr) (c : Nat) (w : World) (hv : Rects.V w a b.defects) (hl : b.defects.length ≤ 9223372036854775807) (hw : b.wf) {v : Bool} {e0 : Int} (he : soundE b r = e0) (hs : soundV b r = v) :
    Calls Try.prog 39 #[.agg #[.string b.name, .string b.species, .int .i64 b.length, .int .i64 b.width, .int .i64 b.thick, .int .i64 b.cut, .int .i64 b.moisture, .slice a b.defects.length c], .agg #[.int .i64 r.x1, .int .i64 r.y1, .int .i64 r.x2, .int .i64 r.y2]] w fun e w' => e = .returned (.tuple #[.bool v, .int .i64 e0]) ∧ Below w.heap.size w w' := by
  subst hs he; exact timberSound_any b r a c w hv hl hw
theorem rectErr_is (r : Rect) (w : World) {v : Int} (h : rectErr r = v) : Calls Try.prog 36 #[.agg #[.int .i64 r.x1, .int .i64 r.y1, .int .i64 r.x2, .int .i64 r.y2]] w fun e w' => e = .returned (.int .i64 v) ∧ Below w.heap.size w w' := by
  subst h; exact rectErr_any r w
theorem inside_is (r q : Rect) (w : World) {v : Bool} (h : insideB r q = v) : Calls Try.prog 37 #[.agg #[.int .i64 r.x1, .int .i64 r.y1, .int .i64 r.x2, .int .i64 r.y2], .agg #[.int .i64 q.x1, .int .i64 q.y1, .int .i64 q.x2, .int .i64 q.y2]] w fun e w' => e = .returned (.bool v) ∧ Below w.heap.size w w' := by
  subst h; exact inside_any r q w

set_option maxRecDepth 100000 in
set_option maxHeartbeats 8000000 in
theorem walkTimberWidest (b : Board) (ba : Option Addr) (bc : Nat) (len : Int) (o : Rect) (w : World) (Vb : Rects.V w ba b.defects) (Lb : b.defects.length ≤ 9223372036854775807) (Wb : b.wf) (Wlen : -9223372036854775808 ≤ len ∧ len ≤ 9223372036854775807) (Wo : o.wf) :
    Calls Try.prog 7 #[.agg #[.string b.name, .string b.species, .int .i64 b.length, .int .i64 b.width, .int .i64 b.thick, .int .i64 b.cut, .int .i64 b.moisture, .slice ba b.defects.length bc], .int .i64 len, .agg #[.int .i64 o.x1, .int .i64 o.y1, .int .i64 o.x2, .int .i64 o.y2]] w fun e w' => e = .returned (.bool true) ∧ Below w.heap.size w w' := by
  by_cases h0 : boardErr b = 0
  · have HBE := Lib.hid h0
    have HOK := Lib.hid (boardErr_ok h0)
    cases h1 : withinB len 1 b.length
    · have HW := Lib.hid (show widR b len = ⟨0, 0, 0, 0⟩ ∧ widE b len = 2 from ⟨by simp [widR, widE, h0, h1], by simp [widE, h0, h1]⟩)
      clear h0
      go_enter Try.func7, Try.ntmps7
      go_upto_region 1 with fail
      refine gen_world (fun W => (W.cell? ⟨w.heap.size, 0, none⟩ = some (.string b.name) ∧ W.cell? ⟨w.heap.size, 1, none⟩ = some (.string b.species) ∧ W.cell? ⟨w.heap.size, 2, none⟩ = some (.int .i64 b.length) ∧ W.cell? ⟨w.heap.size, 3, none⟩ = some (.int .i64 b.width) ∧ W.cell? ⟨w.heap.size, 4, none⟩ = some (.int .i64 b.thick) ∧ W.cell? ⟨w.heap.size, 5, none⟩ = some (.int .i64 b.cut) ∧ W.cell? ⟨w.heap.size, 6, none⟩ = some (.int .i64 b.moisture) ∧ W.cell? ⟨w.heap.size, 7, none⟩ = some (.slice ba b.defects.length bc) ∧ W.cell? ⟨w.heap.size + 1, 0, none⟩ = some (.int .i64 o.x1) ∧ W.cell? ⟨w.heap.size + 1, 1, none⟩ = some (.int .i64 o.y1) ∧ W.cell? ⟨w.heap.size + 1, 2, none⟩ = some (.int .i64 o.x2) ∧ W.cell? ⟨w.heap.size + 1, 3, none⟩ = some (.int .i64 o.y2)) ∧ Below w.heap.size w W) ?_ ?_
      · exact ⟨⟨by simp [go_sem], by simp [go_sem], by simp [go_sem], by simp [go_sem], by simp [go_sem], by simp [go_sem], by simp [go_sem], by simp [go_sem], by simp [go_sem], by simp [go_sem], by simp [go_sem], by simp [go_sem]⟩, ((Below.refl _ _).alloc (Nat.le_refl _) _).alloc (by simp) _⟩
      rintro W ⟨⟨e0, e1, e2, e3, e4, e5, e6, e7, o0, o1, o2, o3⟩, hbW⟩
      go_wp2_with (first
        | (go_at_call 18; refine (awake_any _).mono ?_; rintro e w1 ⟨rfl, hb1⟩; have f0 := cell_keep hb1 e0; have f1 := cell_keep hb1 e1; have f2 := cell_keep hb1 e2; have f3 := cell_keep hb1 e3; have f4 := cell_keep hb1 e4; have f5 := cell_keep hb1 e5; have f6 := cell_keep hb1 e6; have f7 := cell_keep hb1 e7; have p0 := cell_keep hb1 o0; have p1 := cell_keep hb1 o1; have p2 := cell_keep hb1 o2; have p3 := cell_keep hb1 o3; have hc1 := hbW.trans (hb1.mono hbW.size); have hz1 := block_lt_of_cell f0; have hz1' := block_lt_of_cell p0; simp only at hz1 hz1')
        | (go_at_call 20; refine (plain_any b _ _ _ Lb Wb).mono ?_; rintro e w2 ⟨rfl, hb2⟩; obtain ⟨hk2, hf2⟩ := bcell hb2; have hc2 := hc1.trans (hb2.mono hc1.size); have hz2 : w.heap.size < w2.heap.size := (by have := hb2.size; omega); have hz2' : w.heap.size + 1 < w2.heap.size := (by have := hb2.size; omega))
        | (go_at_call 33; refine (widestP_is b len _ _ _ (Vb.keep hc2) Lb Wb HW.out.1 HW.out.2).mono ?_; rintro e w3 ⟨rfl, hb3⟩; obtain ⟨hk3, hf3⟩ := bcell hb3; have hc3 := hc2.trans (hb3.mono hc2.size); have hz3 : w.heap.size < w3.heap.size := (by have := hb3.size; omega); have hz3' : w.heap.size + 1 < w3.heap.size := (by have := hb3.size; omega))
        | (go_at_call 34; refine (refBoardErr_any b _ _ _ (Vb.keep (hc3.alloc (by omega) _)) Lb Wb).mono ?_; rw [HBE.out]; rintro e w4 ⟨rfl, hb4⟩; obtain ⟨hk4, hf4⟩ := bcell hb4; have hc4 := (hc3.alloc (by omega) _).trans (hb4.mono (by simp; omega)); have hs4 := hb4.size; have hz4 : w.heap.size < w4.heap.size := (by simp at hs4; omega); have hz4' : w.heap.size + 1 < w4.heap.size := (by simp at hs4; omega); have hz4'' : w3.heap.size < w4.heap.size := (by simp at hs4; omega))
        | (go_at_call 28; refine (baseWithin_any _ _ _ _).mono ?_; rintro e w' ⟨rfl, rfl⟩))
      all_goals (go_ret; exact ⟨ret_bool (by go_tidy; first | rfl | (simp; done)), by (repeat (first | assumption | (refine Below.setCell ?_ (by first | omega | (simp; omega) | (simp; done)) _) | (refine Below.alloc ?_ (by first | omega | (simp; omega) | (simp; done)) _)))⟩)
    · have hlen := withinB_true h1
      have hws := wid_same (boardOk_in HOK.out) hlen.1
      cases h2 : (widS b len).2
      · have HW := Lib.hid (show widR b len = ⟨0, 0, 0, 0⟩ ∧ widE b len = 12 from ⟨by simp [widR, widE, h0, h1, h2], by simp [widE, h0, h1, h2]⟩)
        obtain ⟨R, hR⟩ : ∃ R, R = (widS b len).1 := ⟨_, rfl⟩
        have HRW := Lib.hid (show refWid b len = (R, false) by rw [hws, hR, ← h2])
        clear h0 hws h2 hR
        go_enter Try.func7, Try.ntmps7
        go_upto_region 1 with fail
        refine gen_world (fun W => (W.cell? ⟨w.heap.size, 0, none⟩ = some (.string b.name) ∧ W.cell? ⟨w.heap.size, 1, none⟩ = some (.string b.species) ∧ W.cell? ⟨w.heap.size, 2, none⟩ = some (.int .i64 b.length) ∧ W.cell? ⟨w.heap.size, 3, none⟩ = some (.int .i64 b.width) ∧ W.cell? ⟨w.heap.size, 4, none⟩ = some (.int .i64 b.thick) ∧ W.cell? ⟨w.heap.size, 5, none⟩ = some (.int .i64 b.cut) ∧ W.cell? ⟨w.heap.size, 6, none⟩ = some (.int .i64 b.moisture) ∧ W.cell? ⟨w.heap.size, 7, none⟩ = some (.slice ba b.defects.length bc) ∧ W.cell? ⟨w.heap.size + 1, 0, none⟩ = some (.int .i64 o.x1) ∧ W.cell? ⟨w.heap.size + 1, 1, none⟩ = some (.int .i64 o.y1) ∧ W.cell? ⟨w.heap.size + 1, 2, none⟩ = some (.int .i64 o.x2) ∧ W.cell? ⟨w.heap.size + 1, 3, none⟩ = some (.int .i64 o.y2)) ∧ Below w.heap.size w W) ?_ ?_
        · exact ⟨⟨by simp [go_sem], by simp [go_sem], by simp [go_sem], by simp [go_sem], by simp [go_sem], by simp [go_sem], by simp [go_sem], by simp [go_sem], by simp [go_sem], by simp [go_sem], by simp [go_sem], by simp [go_sem]⟩, ((Below.refl _ _).alloc (Nat.le_refl _) _).alloc (by simp) _⟩
        rintro W ⟨⟨e0, e1, e2, e3, e4, e5, e6, e7, o0, o1, o2, o3⟩, hbW⟩
        go_wp2_with (first
          | (go_at_call 18; refine (awake_any _).mono ?_; rintro e w1 ⟨rfl, hb1⟩; have f0 := cell_keep hb1 e0; have f1 := cell_keep hb1 e1; have f2 := cell_keep hb1 e2; have f3 := cell_keep hb1 e3; have f4 := cell_keep hb1 e4; have f5 := cell_keep hb1 e5; have f6 := cell_keep hb1 e6; have f7 := cell_keep hb1 e7; have p0 := cell_keep hb1 o0; have p1 := cell_keep hb1 o1; have p2 := cell_keep hb1 o2; have p3 := cell_keep hb1 o3; have hc1 := hbW.trans (hb1.mono hbW.size); have hz1 := block_lt_of_cell f0; have hz1' := block_lt_of_cell p0; simp only at hz1 hz1')
          | (go_at_call 20; refine (plain_any b _ _ _ Lb Wb).mono ?_; rintro e w2 ⟨rfl, hb2⟩; obtain ⟨hk2, hf2⟩ := bcell hb2; have hc2 := hc1.trans (hb2.mono hc1.size); have hz2 : w.heap.size < w2.heap.size := (by have := hb2.size; omega); have hz2' : w.heap.size + 1 < w2.heap.size := (by have := hb2.size; omega))
          | (go_at_call 33; refine (widestP_is b len _ _ _ (Vb.keep hc2) Lb Wb HW.out.1 HW.out.2).mono ?_; rintro e w3 ⟨rfl, hb3⟩; obtain ⟨hk3, hf3⟩ := bcell hb3; have hc3 := hc2.trans (hb3.mono hc2.size); have hz3 : w.heap.size < w3.heap.size := (by have := hb3.size; omega); have hz3' : w.heap.size + 1 < w3.heap.size := (by have := hb3.size; omega))
          | (go_at_call 34; refine (refBoardErr_any b _ _ _ (Vb.keep (hc3.alloc (by omega) _)) Lb Wb).mono ?_; rw [HBE.out]; rintro e w4 ⟨rfl, hb4⟩; obtain ⟨hk4, hf4⟩ := bcell hb4; have hc4 := (hc3.alloc (by omega) _).trans (hb4.mono (by simp; omega)); have hs4 := hb4.size; have hz4 : w.heap.size < w4.heap.size := (by simp at hs4; omega); have hz4' : w.heap.size + 1 < w4.heap.size := (by simp at hs4; omega); have hz4'' : w3.heap.size < w4.heap.size := (by simp at hs4; omega))
          | (go_at_call 28; refine (baseWithin_any _ _ _ _).mono ?_; rintro e w' ⟨rfl, rfl⟩)
          | (go_at_call 35; refine (refWidest_is b len _ _ _ HRW.out (Vb.keep hc4) HOK.out.few (boardOk_in HOK.out) (by have := HOK.out.length; omega) (by have := HOK.out.width; omega) (by omega) (by have := HOK.out.length; omega)).mono ?_; rintro e w5 ⟨rfl, hb5⟩; obtain ⟨hk5, hf5⟩ := bcell hb5; have hc5 := hc4.trans (hb5.mono hc4.size); have hs5 := hb5.size; have hz5 : w.heap.size < w5.heap.size := (by omega); have hz5' : w.heap.size + 1 < w5.heap.size := (by omega); have hz5'' : w3.heap.size < w5.heap.size := (by omega)))
        all_goals (go_ret; exact ⟨ret_bool (by go_tidy; first | rfl | (simp; done)), by (repeat (first | assumption | (refine Below.setCell ?_ (by first | omega | (simp; omega) | (simp; done)) _) | (refine Below.alloc ?_ (by first | omega | (simp; omega) | (simp; done)) _)))⟩)
      · obtain ⟨R, hR⟩ : ∃ R, R = (widS b len).1 := ⟨_, rfl⟩
        have HW := Lib.hid (show widR b len = R ∧ widE b len = 0 from ⟨by simp [widR, widE, h0, h1, h2, hR], by simp [widE, h0, h1, h2]⟩)
        have HRW := Lib.hid (show refWid b len = (R, true) by rw [hws, hR, ← h2])
        have HBEST := Lib.hid (fun hh1 hh2 hh3 hh4 hh5 hh6 hs => (wid_best (b := b) (len := len) (o := o) (boardOk_in HOK.out) hh1 hh2 hh3 hh4 hh5 hh6 hs).2)
        rw [← hR] at HBEST
        have hRin := wid_in (boardOk_in HOK.out) h2
        rw [← hR] at hRin
        clear h0 hws h2 hR
        go_enter Try.func7, Try.ntmps7
        go_upto_region 1 with fail
        refine gen_world (fun W => (W.cell? ⟨w.heap.size, 0, none⟩ = some (.string b.name) ∧ W.cell? ⟨w.heap.size, 1, none⟩ = some (.string b.species) ∧ W.cell? ⟨w.heap.size, 2, none⟩ = some (.int .i64 b.length) ∧ W.cell? ⟨w.heap.size, 3, none⟩ = some (.int .i64 b.width) ∧ W.cell? ⟨w.heap.size, 4, none⟩ = some (.int .i64 b.thick) ∧ W.cell? ⟨w.heap.size, 5, none⟩ = some (.int .i64 b.cut) ∧ W.cell? ⟨w.heap.size, 6, none⟩ = some (.int .i64 b.moisture) ∧ W.cell? ⟨w.heap.size, 7, none⟩ = some (.slice ba b.defects.length bc) ∧ W.cell? ⟨w.heap.size + 1, 0, none⟩ = some (.int .i64 o.x1) ∧ W.cell? ⟨w.heap.size + 1, 1, none⟩ = some (.int .i64 o.y1) ∧ W.cell? ⟨w.heap.size + 1, 2, none⟩ = some (.int .i64 o.x2) ∧ W.cell? ⟨w.heap.size + 1, 3, none⟩ = some (.int .i64 o.y2)) ∧ Below w.heap.size w W) ?_ ?_
        · exact ⟨⟨by simp [go_sem], by simp [go_sem], by simp [go_sem], by simp [go_sem], by simp [go_sem], by simp [go_sem], by simp [go_sem], by simp [go_sem], by simp [go_sem], by simp [go_sem], by simp [go_sem], by simp [go_sem]⟩, ((Below.refl _ _).alloc (Nat.le_refl _) _).alloc (by simp) _⟩
        rintro W ⟨⟨e0, e1, e2, e3, e4, e5, e6, e7, o0, o1, o2, o3⟩, hbW⟩
        go_wp2_with (first
          | (go_at_call 18; refine (awake_any _).mono ?_; rintro e w1 ⟨rfl, hb1⟩; have f0 := cell_keep hb1 e0; have f1 := cell_keep hb1 e1; have f2 := cell_keep hb1 e2; have f3 := cell_keep hb1 e3; have f4 := cell_keep hb1 e4; have f5 := cell_keep hb1 e5; have f6 := cell_keep hb1 e6; have f7 := cell_keep hb1 e7; have p0 := cell_keep hb1 o0; have p1 := cell_keep hb1 o1; have p2 := cell_keep hb1 o2; have p3 := cell_keep hb1 o3; have hc1 := hbW.trans (hb1.mono hbW.size); have hz1 := block_lt_of_cell f0; have hz1' := block_lt_of_cell p0; simp only at hz1 hz1')
          | (go_at_call 20; refine (plain_any b _ _ _ Lb Wb).mono ?_; rintro e w2 ⟨rfl, hb2⟩; obtain ⟨hk2, hf2⟩ := bcell hb2; have hc2 := hc1.trans (hb2.mono hc1.size); have hz2 : w.heap.size < w2.heap.size := (by have := hb2.size; omega); have hz2' : w.heap.size + 1 < w2.heap.size := (by have := hb2.size; omega))
          | (go_at_call 33; refine (widestP_is b len _ _ _ (Vb.keep hc2) Lb Wb HW.out.1 HW.out.2).mono ?_; rintro e w3 ⟨rfl, hb3⟩; obtain ⟨hk3, hf3⟩ := bcell hb3; have hc3 := hc2.trans (hb3.mono hc2.size); have hz3 : w.heap.size < w3.heap.size := (by have := hb3.size; omega); have hz3' : w.heap.size + 1 < w3.heap.size := (by have := hb3.size; omega))
          | (go_at_call 34; refine (refBoardErr_any b _ _ _ (Vb.keep (hc3.alloc (by omega) _)) Lb Wb).mono ?_; rw [HBE.out]; rintro e w4 ⟨rfl, hb4⟩; obtain ⟨hk4, hf4⟩ := bcell hb4; have hc4 := (hc3.alloc (by omega) _).trans (hb4.mono (by simp; omega)); have hs4 := hb4.size; have hz4 : w.heap.size < w4.heap.size := (by simp at hs4; omega); have hz4' : w.heap.size + 1 < w4.heap.size := (by simp at hs4; omega); have hz4'' : w3.heap.size < w4.heap.size := (by simp at hs4; omega))
          | (go_at_call 28; refine (baseWithin_any _ _ _ _).mono ?_; rintro e w' ⟨rfl, rfl⟩)
          | (go_at_call 35; refine (refWidest_is b len _ _ _ HRW.out (Vb.keep hc4) HOK.out.few (boardOk_in HOK.out) (by have := HOK.out.length; omega) (by have := HOK.out.width; omega) (by omega) (by have := HOK.out.length; omega)).mono ?_; rintro e w5 ⟨rfl, hb5⟩; obtain ⟨hk5, hf5⟩ := bcell hb5; have hc5 := hc4.trans (hb5.mono hc4.size); have hs5 := hb5.size; have hz5 : w.heap.size < w5.heap.size := (by omega); have hz5' : w.heap.size + 1 < w5.heap.size := (by omega); have hz5'' : w3.heap.size < w5.heap.size := (by omega)))
        · go_ret
          exact ⟨ret_bool (by go_tidy; first | rfl | (simp; done)), by (repeat (first | assumption | (refine Below.setCell ?_ (by first | omega | (simp; omega) | (simp; done)) _) | (refine Below.alloc ?_ (by first | omega | (simp; omega) | (simp; done)) _)))⟩
        refine gen_world (fun W => (W.cell? ⟨w.heap.size, 0, none⟩ = some (.string b.name) ∧ W.cell? ⟨w.heap.size, 1, none⟩ = some (.string b.species) ∧ W.cell? ⟨w.heap.size, 2, none⟩ = some (.int .i64 b.length) ∧ W.cell? ⟨w.heap.size, 3, none⟩ = some (.int .i64 b.width) ∧ W.cell? ⟨w.heap.size, 4, none⟩ = some (.int .i64 b.thick) ∧ W.cell? ⟨w.heap.size, 5, none⟩ = some (.int .i64 b.cut) ∧ W.cell? ⟨w.heap.size, 6, none⟩ = some (.int .i64 b.moisture) ∧ W.cell? ⟨w.heap.size, 7, none⟩ = some (.slice ba b.defects.length bc) ∧ W.cell? ⟨w.heap.size + 1, 0, none⟩ = some (.int .i64 o.x1) ∧ W.cell? ⟨w.heap.size + 1, 1, none⟩ = some (.int .i64 o.y1) ∧ W.cell? ⟨w.heap.size + 1, 2, none⟩ = some (.int .i64 o.x2) ∧ W.cell? ⟨w.heap.size + 1, 3, none⟩ = some (.int .i64 o.y2)) ∧ (W.cell? ⟨w3.heap.size, 1, none⟩ = some (.int .i64 R.y1) ∧ W.cell? ⟨w3.heap.size, 3, none⟩ = some (.int .i64 R.y2)) ∧ Below w.heap.size w W) ?_ ?_
        · exact ⟨⟨by simp [go_sem, *], by simp [go_sem, *], by simp [go_sem, *], by simp [go_sem, *], by simp [go_sem, *], by simp [go_sem, *], by simp [go_sem, *], by simp [go_sem, *], by simp [go_sem, *], by simp [go_sem, *], by simp [go_sem, *], by simp [go_sem, *]⟩, ⟨by simp [go_sem, *], by simp [go_sem, *]⟩, by (repeat (first | assumption | (refine Below.setCell ?_ (by first | omega | (simp; omega) | (simp; done)) _) | (refine Below.alloc ?_ (by first | omega | (simp; omega) | (simp; done)) _)))⟩
        clear e0 e1 e2 e3 e4 e5 e6 e7 o0 o1 o2 o3 f0 f1 f2 f3 f4 f5 f6 f7 p0 p1 p2 p3 hb1 hb2 hb3 hb4 hb5 hc1 hc2 hc3 hc4 hc5 hk2 hf2 hk3 hf3 hk4 hf4 hk5 hf5 hbW hz1 hz1' hz2 hz2' hz3 hz3' hz4 hz4' hz4'' hz5 hz5' hz5'' hs4 hs5
        generalize hG : w3.heap.size = G at *
        clear hG
        rintro W6 ⟨⟨e0, e1, e2, e3, e4, e5, e6, e7, o0, o1, o2, o3⟩, ⟨r1, r3⟩, hbW⟩
        have hv6 := Vb.keep hbW
        have g1 := block_lt_of_cell e0
        have g2 := block_lt_of_cell o0
        have g3 := block_lt_of_cell r1
        simp only at g1 g2 g3
        by_cases k0 : rectErr o = 0
        · have K0 := Lib.hid k0
          cases k1 : insideB o ⟨0, 0, b.length, b.width⟩
          · have K1 := Lib.hid k1
            refine wp_region_grew (by kernel_rfl) (by kernel_rfl) ?_
            repeat (first
              | go_big_quiet_step ((first | (go_at_call 36; exact grew_of (rectErr_is o _ K0.out)) | (go_at_call 38; exact grew_of (whole_any b ba bc _)) | (go_at_call 37; exact grew_of (inside_is o ⟨0, 0, b.length, b.width⟩ _ K1.out))))
              | quiet_step ((first | (go_at_call 36; exact grew_of (rectErr_is o _ K0.out)) | (go_at_call 38; exact grew_of (whole_any b ba bc _)) | (go_at_call 37; exact grew_of (inside_is o ⟨0, 0, b.length, b.width⟩ _ K1.out)))))
            refine wpQuiet_nil ?_
            rintro _ ⟨g, rfl⟩
            go_wp2_with fail
            go_ret
            exact ⟨ret_bool (by go_tidy; first | rfl | (simp; done)), grewB hbW (by omega) g⟩
          · have K1 := Lib.hid k1
            have hin : 0 ≤ o.x1 ∧ o.x1 < o.x2 ∧ o.x2 ≤ b.length ∧ 0 ≤ o.y1 ∧ o.y1 < o.y2 ∧ o.y2 ≤ b.width := by
              unfold rectErr at k0
              unfold insideB at k1
              simp only [Bool.and_eq_true, decide_eq_true_eq] at k1
              split at k0
              · cases k0
              · omega
            have hBL := HOK.out.length
            have hBW := HOK.out.width
            by_cases k2 : o.x2 - o.x1 = len
            · have hb2 : (o.x2 - o.x1 != len) = false := by simp [k2]
              have K2 := Lib.hid k2
              have hRI : rectIn b.length b.width o = 0 := by
                unfold rectIn
                rw [if_neg (by omega), if_neg (by omega)]
              have HSE : soundE b o = 0 := by simp [soundE, HBE.out, hRI]
              cases k3 : psound b.defects o
              · have HS := Lib.hid (show soundE b o = 0 ∧ soundV b o = false from ⟨HSE, by simp [soundV, HSE, k3]⟩)
                clear k0 k1 k2 k3 hRI HSE
                refine wp_region_grew (by kernel_rfl) (by kernel_rfl) ?_
                repeat (first
                  | go_big_quiet_step ((first | (go_at_call 36; exact grew_of (rectErr_is o _ K0.out)) | (go_at_call 38; exact grew_of (whole_any b ba bc _)) | (go_at_call 37; exact grew_of (inside_is o ⟨0, 0, b.length, b.width⟩ _ K1.out))))
                  | quiet_step ((first | (go_at_call 36; exact grew_of (rectErr_is o _ K0.out)) | (go_at_call 38; exact grew_of (whole_any b ba bc _)) | (go_at_call 37; exact grew_of (inside_is o ⟨0, 0, b.length, b.width⟩ _ K1.out)))))
                refine wpQuiet_nil ?_
                rintro _ ⟨g, rfl⟩
                go_wp2_with (go_at_call 39; refine (timberSound_is b o _ _ _ (hv6.keep (grewB (Below.refl _ _) (Nat.le_refl _) _)) Lb Wb HS.out.1 HS.out.2).mono ?_; rintro e w7 ⟨rfl, hb7⟩; have s1 := cell_keep hb7 (show (grew W6 g).cell? ⟨G, 1, none⟩ = some (.int .i64 R.y1) from (cell?_grew _ _ _ _ _ g3).trans r1); have s3 := cell_keep hb7 (show (grew W6 g).cell? ⟨G, 3, none⟩ = some (.int .i64 R.y2) from (cell?_grew _ _ _ _ _ g3).trans r3); have q0 := cell_keep hb7 (show (grew W6 g).cell? ⟨w.heap.size + 1, 1, none⟩ = some (.int .i64 o.y1) from (cell?_grew _ _ _ _ _ g2).trans o1); have q1 := cell_keep hb7 (show (grew W6 g).cell? ⟨w.heap.size + 1, 3, none⟩ = some (.int .i64 o.y2) from (cell?_grew _ _ _ _ _ g2).trans o3))
                go_ret
                exact ⟨ret_bool (by go_tidy; first | rfl | (simp; done)), (grewB hbW (by omega) g).trans (hb7.mono (by simp; omega))⟩
              · have HS := Lib.hid (show soundE b o = 0 ∧ soundV b o = true from ⟨HSE, by simp [soundV, HSE, k3]⟩)
                have hle := HBEST.out hin.1 hin.2.2.1 hin.2.2.2.1 hin.2.2.2.2.1 hin.2.2.2.2.2 K2.out k3
                clear k0 k1 k2 k3 hRI HSE
                refine wp_region_grew (by kernel_rfl) (by kernel_rfl) ?_
                repeat (first
                  | go_big_quiet_step ((first | (go_at_call 36; exact grew_of (rectErr_is o _ K0.out)) | (go_at_call 38; exact grew_of (whole_any b ba bc _)) | (go_at_call 37; exact grew_of (inside_is o ⟨0, 0, b.length, b.width⟩ _ K1.out))))
                  | quiet_step ((first | (go_at_call 36; exact grew_of (rectErr_is o _ K0.out)) | (go_at_call 38; exact grew_of (whole_any b ba bc _)) | (go_at_call 37; exact grew_of (inside_is o ⟨0, 0, b.length, b.width⟩ _ K1.out)))))
                refine wpQuiet_nil ?_
                rintro _ ⟨g, rfl⟩
                go_wp2_with (go_at_call 39; refine (timberSound_is b o _ _ _ (hv6.keep (grewB (Below.refl _ _) (Nat.le_refl _) _)) Lb Wb HS.out.1 HS.out.2).mono ?_; rintro e w7 ⟨rfl, hb7⟩; have s1 := cell_keep hb7 (show (grew W6 g).cell? ⟨G, 1, none⟩ = some (.int .i64 R.y1) from (cell?_grew _ _ _ _ _ g3).trans r1); have s3 := cell_keep hb7 (show (grew W6 g).cell? ⟨G, 3, none⟩ = some (.int .i64 R.y2) from (cell?_grew _ _ _ _ _ g3).trans r3); have q0 := cell_keep hb7 (show (grew W6 g).cell? ⟨w.heap.size + 1, 1, none⟩ = some (.int .i64 o.y1) from (cell?_grew _ _ _ _ _ g2).trans o1); have q1 := cell_keep hb7 (show (grew W6 g).cell? ⟨w.heap.size + 1, 3, none⟩ = some (.int .i64 o.y2) from (cell?_grew _ _ _ _ _ g2).trans o3))
                go_ret
                exact ⟨ret_bool (by go_tidy; first | rfl | (simp; done) | (simp; omega)), (grewB hbW (by omega) g).trans (hb7.mono (by simp; omega))⟩
            · have hb2 : (o.x2 - o.x1 != len) = true := by simpa using k2
              clear k0 k1 k2
              refine wp_region_grew (by kernel_rfl) (by kernel_rfl) ?_
              repeat (first
                | go_big_quiet_step ((first | (go_at_call 36; exact grew_of (rectErr_is o _ K0.out)) | (go_at_call 38; exact grew_of (whole_any b ba bc _)) | (go_at_call 37; exact grew_of (inside_is o ⟨0, 0, b.length, b.width⟩ _ K1.out))))
                | quiet_step ((first | (go_at_call 36; exact grew_of (rectErr_is o _ K0.out)) | (go_at_call 38; exact grew_of (whole_any b ba bc _)) | (go_at_call 37; exact grew_of (inside_is o ⟨0, 0, b.length, b.width⟩ _ K1.out)))))
              refine wpQuiet_nil ?_
              rintro _ ⟨g, rfl⟩
              go_wp2_with fail
              go_ret
              exact ⟨ret_bool (by go_tidy; first | rfl | (simp; done)), grewB hbW (by omega) g⟩
        · have K0 := Lib.hid (show rectErr o = 3 by unfold rectErr at k0 ⊢; split at k0 <;> simp_all)
          have K1 := Lib.hid (show insideB o ⟨0, 0, b.length, b.width⟩ = insideB o ⟨0, 0, b.length, b.width⟩ ∧ True from ⟨rfl, trivial⟩)
          clear k0
          refine wp_region_grew (by kernel_rfl) (by kernel_rfl) ?_
          repeat (first
            | go_big_quiet_step ((go_at_call 36; exact grew_of (rectErr_is o _ K0.out)))
            | quiet_step ((go_at_call 36; exact grew_of (rectErr_is o _ K0.out))))
          refine wpQuiet_nil ?_
          rintro _ ⟨g, rfl⟩
          go_wp2_with fail
          go_ret
          exact ⟨ret_bool (by go_tidy; first | rfl | (simp; done)), grewB hbW (by omega) g⟩
  · obtain ⟨E, hE⟩ : ∃ E, boardErr b = E := ⟨_, rfl⟩
    have HBE := Lib.hid hE
    have HW := Lib.hid (show widR b len = ⟨0, 0, 0, 0⟩ ∧ widE b len = E from ⟨by simp [widR, widE, h0], by unfold widE; rw [if_pos h0, hE]⟩)
    rw [hE] at h0
    have hne : (E == 0) = false := by simp [h0]
    have hne' : (E != 0) = true := by simp [h0]
    clear hE h0
    go_enter Try.func7, Try.ntmps7
    go_upto_region 1 with fail
    refine gen_world (fun W => (W.cell? ⟨w.heap.size, 0, none⟩ = some (.string b.name) ∧ W.cell? ⟨w.heap.size, 1, none⟩ = some (.string b.species) ∧ W.cell? ⟨w.heap.size, 2, none⟩ = some (.int .i64 b.length) ∧ W.cell? ⟨w.heap.size, 3, none⟩ = some (.int .i64 b.width) ∧ W.cell? ⟨w.heap.size, 4, none⟩ = some (.int .i64 b.thick) ∧ W.cell? ⟨w.heap.size, 5, none⟩ = some (.int .i64 b.cut) ∧ W.cell? ⟨w.heap.size, 6, none⟩ = some (.int .i64 b.moisture) ∧ W.cell? ⟨w.heap.size, 7, none⟩ = some (.slice ba b.defects.length bc) ∧ W.cell? ⟨w.heap.size + 1, 0, none⟩ = some (.int .i64 o.x1) ∧ W.cell? ⟨w.heap.size + 1, 1, none⟩ = some (.int .i64 o.y1) ∧ W.cell? ⟨w.heap.size + 1, 2, none⟩ = some (.int .i64 o.x2) ∧ W.cell? ⟨w.heap.size + 1, 3, none⟩ = some (.int .i64 o.y2)) ∧ Below w.heap.size w W) ?_ ?_
    · exact ⟨⟨by simp [go_sem], by simp [go_sem], by simp [go_sem], by simp [go_sem], by simp [go_sem], by simp [go_sem], by simp [go_sem], by simp [go_sem], by simp [go_sem], by simp [go_sem], by simp [go_sem], by simp [go_sem]⟩, ((Below.refl _ _).alloc (Nat.le_refl _) _).alloc (by simp) _⟩
    rintro W ⟨⟨e0, e1, e2, e3, e4, e5, e6, e7, o0, o1, o2, o3⟩, hbW⟩
    go_wp2_with (first
      | (go_at_call 18; refine (awake_any _).mono ?_; rintro e w1 ⟨rfl, hb1⟩; have f0 := cell_keep hb1 e0; have f1 := cell_keep hb1 e1; have f2 := cell_keep hb1 e2; have f3 := cell_keep hb1 e3; have f4 := cell_keep hb1 e4; have f5 := cell_keep hb1 e5; have f6 := cell_keep hb1 e6; have f7 := cell_keep hb1 e7; have p0 := cell_keep hb1 o0; have p1 := cell_keep hb1 o1; have p2 := cell_keep hb1 o2; have p3 := cell_keep hb1 o3; have hc1 := hbW.trans (hb1.mono hbW.size); have hz1 := block_lt_of_cell f0; have hz1' := block_lt_of_cell p0; simp only at hz1 hz1')
      | (go_at_call 20; refine (plain_any b _ _ _ Lb Wb).mono ?_; rintro e w2 ⟨rfl, hb2⟩; obtain ⟨hk2, hf2⟩ := bcell hb2; have hc2 := hc1.trans (hb2.mono hc1.size); have hz2 : w.heap.size < w2.heap.size := (by have := hb2.size; omega); have hz2' : w.heap.size + 1 < w2.heap.size := (by have := hb2.size; omega))
      | (go_at_call 33; refine (widestP_is b len _ _ _ (Vb.keep hc2) Lb Wb HW.out.1 HW.out.2).mono ?_; rintro e w3 ⟨rfl, hb3⟩; obtain ⟨hk3, hf3⟩ := bcell hb3; have hc3 := hc2.trans (hb3.mono hc2.size); have hz3 : w.heap.size < w3.heap.size := (by have := hb3.size; omega); have hz3' : w.heap.size + 1 < w3.heap.size := (by have := hb3.size; omega))
      | (go_at_call 34; refine (refBoardErr_any b _ _ _ (Vb.keep (hc3.alloc (by omega) _)) Lb Wb).mono ?_; rw [HBE.out]; rintro e w4 ⟨rfl, hb4⟩; obtain ⟨hk4, hf4⟩ := bcell hb4; have hc4 := (hc3.alloc (by omega) _).trans (hb4.mono (by simp; omega)); have hs4 := hb4.size; have hz4 : w.heap.size < w4.heap.size := (by simp at hs4; omega); have hz4' : w.heap.size + 1 < w4.heap.size := (by simp at hs4; omega); have hz4'' : w3.heap.size < w4.heap.size := (by simp at hs4; omega)))
    all_goals (go_ret; exact ⟨ret_bool (by go_tidy; first | rfl | (simp; done)), by (repeat (first | assumption | (refine Below.setCell ?_ (by first | omega | (simp; omega) | (simp; done)) _) | (refine Below.alloc ?_ (by first | omega | (simp; omega) | (simp; done)) _)))⟩)
set_option maxRecDepth 100000 in
theorem timberWidest_walks : Walks 7 Try.f7 := by
  intro H enc W base args ds p hval hA hlt
  rw [Try.params7] at hA hval
  obtain ⟨v0, vs0, d0, ds0, p0, q0, hargs, rfl, rfl, ⟨fu0, hf0⟩, r0⟩ := trodAll_cons hA
  obtain ⟨v1, vs1, d1, ds1, p1, q1, rfl, rfl, rfl, ⟨fu1, hf1⟩, r1⟩ := trodAll_cons r0
  obtain ⟨v2, vs2, d2, ds2, p2, q2, rfl, rfl, rfl, ⟨fu2, hf2⟩, r2⟩ := trodAll_cons r1
  obtain ⟨rfl, rfl, rfl⟩ := trodAll_nil r2
  obtain rfl : args = #[v0, v1, v2] := by cases args; simp_all
  obtain ⟨cs0, rfl, -⟩ := okWide_struct Try.underlying25 (hval 0 25 v0 rfl rfl)
  obtain ⟨b, hb0⟩ := Board.open_ hf0
  obtain ⟨a0, c0, hc0, V0, C0, M0, W0⟩ := hb0
  have hd0 : cs0 = #[.string b.name, .string b.species, .int .i64 b.length, .int .i64 b.width, .int .i64 b.thick, .int .i64 b.cut, .int .i64 b.moisture, .slice a0 b.defects.length c0] := by
    cases cs0; simpa [Value.cells] using hc0
  subst hd0
  obtain ⟨len, rfl⟩ := okWide_int Try.underlying3 (hval 1 3 v1 rfl rfl)
  obtain ⟨s1, g1, -, q1⟩ := DataW.trod_int Try.underlying3 hf1
  obtain rfl : s1 = len := by simpa [Value.cells] using g1.symm
  obtain ⟨cs2, rfl, -⟩ := okWide_struct Try.underlying55 (hval 2 55 v2 rfl rfl)
  obtain ⟨o, hb2⟩ := Rect.open_ hf2
  obtain ⟨hc2, W2⟩ := hb2
  have hd2 : cs2 = #[.int .i64 o.x1, .int .i64 o.y1, .int .i64 o.x2, .int .i64 o.y2] := by
    cases cs2; simpa [Value.cells] using hc2
  subst hd2
  exact walkTimberWidest b a0 c0 s1 o W V0 (by unfold maxLen at M0; omega) W0 (int_wf q1) W2

set_option maxRecDepth 100000 in
theorem timberWidest_holds : Rows.TimberWidestSaid :=
  law_holds (s := Rows.timberWidestSpec) (c := Rows.timberWidestRow) 7 Try.f7 rfl
    (fun H ds h => by match ds, h with | [_, _, _], _ => rfl) (by kernel_rfl) (by kernel_rfl)
    rfl rfl rfl rfl rfl rfl rfl ⟨rfl, rfl, rfl, rfl, rfl⟩ rfl rfl rfl rfl rfl rfl rfl rfl rfl rfl (fun _ _ => rfl) (by kernel_rfl) Try.func7
    timberWidest_closed (of_decide_eq_true (by kernel_rfl)) (by unfold Func.isWrapper; first | (rw [if_pos (by decide +kernel)]; kernel_rfl) | (rw [if_neg (by decide +kernel)]; exact ⟨rfl, rfl⟩)) (by kernel_rfl)
    (fun H enc os => ChangeSpec.witness6 (enc := enc) (C := Try.checked) false ⟨#[], #[.agg #[.string ⟨#[]⟩, .string ⟨#[]⟩, .int .i64 0, .int .i64 0, .int .i64 0, .int .i64 0, .int .i64 0, .slice none 0 0], .int .i64 0, .agg #[.int .i64 0, .int .i64 0, .int .i64 0, .int .i64 0]], []⟩ 8 (by kernel_rfl) (by kernel_rfl) (by kernel_rfl) (by kernel_rfl))
    timberWidest_walks
end Go.Proofs.Ythhchnhidhgccaa
