/- TimberDefects returns true for every input: Area, Defective and Sound return what the document specifies, or the errors; what is sound stays so in a smaller rectangle. No condition. -/
import Derived.Test.YthhchnhidhgccaaDef4
import Derived.Test.YthhchnhidhgccaaFactsDefects
set_option linter.unusedVariables false
set_option linter.unusedSimpArgs false
namespace Go.Proofs.Ythhchnhidhgccaa
open Go Go.ChangeShapes Go.WideShapes Go.ChangeAt Go.RowKit

theorem plain_is (b : Board) (a : Option Addr) (c : Nat) (w : World) (hl : b.defects.length ≤ 9223372036854775807) (hw : b.wf) {v : Bool} (h : plainB b = v) :
    Calls Try.prog 20 #[.agg #[.string b.name, .string b.species, .int .i64 b.length, .int .i64 b.width, .int .i64 b.thick, .int .i64 b.cut, .int .i64 b.moisture, .slice a b.defects.length c]] w fun e w' => e = .returned (.bool v) ∧ Below w.heap.size w w' := by
  subst h; exact plain_any b a c w hl hw
theorem defectiveR_is (b : Board) (a : Option Addr) (c : Nat) (w : World) (hv : Rects.V w a b.defects) (hb : BoardOk b) {v : Int} (h : refArea b = v) :
    Calls Try.prog 67 #[.agg #[.string b.name, .string b.species, .int .i64 b.length, .int .i64 b.width, .int .i64 b.thick, .int .i64 b.cut, .int .i64 b.moisture, .slice a b.defects.length c]] w fun e w' => e = .returned (.int .i64 v) ∧ Below w.heap.size w w' := by
  subst h; exact defectiveR_any b a c w hv hb.few (boardOk_defs hb) hb.length.2 hb.width.2
theorem isSoundP_is (b : Board) (r : Rect) (a : Option Addr) (c : Nat) (w : World) {v : Bool} (h : soundB b.defects r = v) (hv : Rects.V w a b.defects) (hl : b.defects.length ≤ 9223372036854775807) :
    Calls Try.prog 68 #[.agg #[.string b.name, .string b.species, .int .i64 b.length, .int .i64 b.width, .int .i64 b.thick, .int .i64 b.cut, .int .i64 b.moisture, .slice a b.defects.length c], .agg #[.int .i64 r.x1, .int .i64 r.y1, .int .i64 r.x2, .int .i64 r.y2]] w fun e w' => e = .returned (.bool v) ∧ Below w.heap.size w w' := by
  subst h; exact isSound_any b r a c w hv hl

set_option maxRecDepth 100000 in
set_option maxHeartbeats 8000000 in
theorem walkTimberDefects (b : Board) (ba : Option Addr) (bc : Nat) (r : Rect) (w : World) (Vb : Rects.V w ba b.defects) (Lb : b.defects.length ≤ 9223372036854775807) (Wb : b.wf) (Wr : r.wf) :
    Calls Try.prog 16 #[.agg #[.string b.name, .string b.species, .int .i64 b.length, .int .i64 b.width, .int .i64 b.thick, .int .i64 b.cut, .int .i64 b.moisture, .slice ba b.defects.length bc], .agg #[.int .i64 r.x1, .int .i64 r.y1, .int .i64 r.x2, .int .i64 r.y2]] w fun e w' => e = .returned (.bool true) ∧ Below w.heap.size w w' := by
  cases hpl : plainB b
  · have HPL := Lib.hid hpl
    clear hpl
    go_enter Try.func16, Try.ntmps16
    go_upto_region 1 with fail
    refine gen_world (fun W => (W.cell? ⟨w.heap.size, 0, none⟩ = some (.string b.name) ∧ W.cell? ⟨w.heap.size, 1, none⟩ = some (.string b.species) ∧ W.cell? ⟨w.heap.size, 2, none⟩ = some (.int .i64 b.length) ∧ W.cell? ⟨w.heap.size, 3, none⟩ = some (.int .i64 b.width) ∧ W.cell? ⟨w.heap.size, 4, none⟩ = some (.int .i64 b.thick) ∧ W.cell? ⟨w.heap.size, 5, none⟩ = some (.int .i64 b.cut) ∧ W.cell? ⟨w.heap.size, 6, none⟩ = some (.int .i64 b.moisture) ∧ W.cell? ⟨w.heap.size, 7, none⟩ = some (.slice ba b.defects.length bc) ∧ W.cell? ⟨w.heap.size + 1, 0, none⟩ = some (.int .i64 r.x1) ∧ W.cell? ⟨w.heap.size + 1, 1, none⟩ = some (.int .i64 r.y1) ∧ W.cell? ⟨w.heap.size + 1, 2, none⟩ = some (.int .i64 r.x2) ∧ W.cell? ⟨w.heap.size + 1, 3, none⟩ = some (.int .i64 r.y2) ∧ W.frozen? ⟨w.heap.size + 1, 0, none⟩ = false) ∧ w.heap.size + 1 < W.heap.size ∧ Below w.heap.size w W) ?_ ?_
    · exact ⟨⟨by simp [go_sem], by simp [go_sem], by simp [go_sem], by simp [go_sem], by simp [go_sem], by simp [go_sem], by simp [go_sem], by simp [go_sem], by simp [go_sem], by simp [go_sem], by simp [go_sem], by simp [go_sem], by simp [go_sem]⟩, by simp, ((Below.refl _ _).alloc (Nat.le_refl _) _).alloc (by simp) _⟩
    rintro W ⟨⟨e0, e1, e2, e3, e4, e5, e6, e7, o0, o1, o2, o3, of0⟩, hyW, hbW⟩
    have hzW : w.heap.size < W.heap.size := by omega
    go_wp2_with (first
      | (go_at_call 18; refine (awake_any _).mono ?_; rintro e w1 ⟨rfl, hb1⟩; obtain ⟨hk1, hf1⟩ := bcell hb1; have hc1 := hbW.trans (hb1.mono hbW.size); have hz1 : w.heap.size < w1.heap.size := (by have := hb1.size; omega); have hy1 : w.heap.size + 1 < w1.heap.size := (by have := hb1.size; omega))
      | (go_at_call 20; refine (plain_is b _ _ _ Lb Wb HPL.out).mono ?_; rintro e w2 ⟨rfl, hb2⟩; obtain ⟨hk2, hf2⟩ := bcell hb2; have hc2 := hc1.trans (hb2.mono hc1.size); have hz2 : w.heap.size < w2.heap.size := (by have := hb2.size; omega); have hy2 : w.heap.size + 1 < w2.heap.size := (by have := hb2.size; omega)))
    go_ret
    exact ⟨ret_bool (by go_tidy; first | rfl | (simp; done)), hc2⟩
  have HPL := Lib.hid hpl
  clear hpl
  by_cases h0 : boardErr b = 0
  · have HBE := Lib.hid h0
    have HOK := Lib.hid (boardErr_ok h0)
    have HAV := Lib.hid (show areaV b = b.length * b.width by simp [areaV, h0])
    have HAB := area_bd (boardErr_ok h0)
    have hwr : IntKind.i64.wrap (b.length * b.width) = b.length * b.width := IntWalk.i64_in _ (by omega)
    obtain ⟨T, hT⟩ : ∃ T, T = refArea b := ⟨_, rfl⟩
    have HDV := Lib.hid (show defV b = T by simp [defV, h0, hT])
    have HDR := Lib.hid hT.symm
    clear hT
    by_cases h1 : rectErr r = 0
    · cases h2 : insideB r ⟨0, 0, b.length, b.width⟩
      · have HS := Lib.hid (show soundE b r = 2 ∧ soundV b r = false from ⟨by simp [soundE, h0, rectIn_no h1 h2], by simp [soundV, soundE, h0, rectIn_no h1 h2]⟩)
        have HRE := Lib.hid h1
        have HIN := Lib.hid h2
        clear h0 h1 h2
        go_enter Try.func16, Try.ntmps16
        go_upto_region 1 with fail
        refine gen_world (fun W => (W.cell? ⟨w.heap.size, 0, none⟩ = some (.string b.name) ∧ W.cell? ⟨w.heap.size, 1, none⟩ = some (.string b.species) ∧ W.cell? ⟨w.heap.size, 2, none⟩ = some (.int .i64 b.length) ∧ W.cell? ⟨w.heap.size, 3, none⟩ = some (.int .i64 b.width) ∧ W.cell? ⟨w.heap.size, 4, none⟩ = some (.int .i64 b.thick) ∧ W.cell? ⟨w.heap.size, 5, none⟩ = some (.int .i64 b.cut) ∧ W.cell? ⟨w.heap.size, 6, none⟩ = some (.int .i64 b.moisture) ∧ W.cell? ⟨w.heap.size, 7, none⟩ = some (.slice ba b.defects.length bc) ∧ W.cell? ⟨w.heap.size + 1, 0, none⟩ = some (.int .i64 r.x1) ∧ W.cell? ⟨w.heap.size + 1, 1, none⟩ = some (.int .i64 r.y1) ∧ W.cell? ⟨w.heap.size + 1, 2, none⟩ = some (.int .i64 r.x2) ∧ W.cell? ⟨w.heap.size + 1, 3, none⟩ = some (.int .i64 r.y2) ∧ W.frozen? ⟨w.heap.size + 1, 0, none⟩ = false) ∧ w.heap.size + 1 < W.heap.size ∧ Below w.heap.size w W) ?_ ?_
        · exact ⟨⟨by simp [go_sem], by simp [go_sem], by simp [go_sem], by simp [go_sem], by simp [go_sem], by simp [go_sem], by simp [go_sem], by simp [go_sem], by simp [go_sem], by simp [go_sem], by simp [go_sem], by simp [go_sem], by simp [go_sem]⟩, by simp, ((Below.refl _ _).alloc (Nat.le_refl _) _).alloc (by simp) _⟩
        rintro W ⟨⟨e0, e1, e2, e3, e4, e5, e6, e7, o0, o1, o2, o3, of0⟩, hyW, hbW⟩
        have hzW : w.heap.size < W.heap.size := by omega
        go_upto_region 14 with (first
          | (go_at_call 18; refine (awake_any _).mono ?_; rintro e w1 ⟨rfl, hb1⟩; obtain ⟨hk1, hf1⟩ := bcell hb1; have hc1 := hbW.trans (hb1.mono hbW.size); have hz1 : w.heap.size < w1.heap.size := (by have := hb1.size; omega); have hy1 : w.heap.size + 1 < w1.heap.size := (by have := hb1.size; omega))
          | (go_at_call 20; refine (plain_is b _ _ _ Lb Wb HPL.out).mono ?_; rintro e w2 ⟨rfl, hb2⟩; obtain ⟨hk2, hf2⟩ := bcell hb2; have hc2 := hc1.trans (hb2.mono hc1.size); have hz2 : w.heap.size < w2.heap.size := (by have := hb2.size; omega); have hy2 : w.heap.size + 1 < w2.heap.size := (by have := hb2.size; omega))
          | (go_at_call 65; refine (areaP_is b _ _ _ (Vb.keep hc2) Lb Wb HAV.out HBE.out).mono ?_; rintro e w3 ⟨rfl, hb3⟩; obtain ⟨hk3, hf3⟩ := bcell hb3; have hc3 := hc2.trans (hb3.mono hc2.size); have hz3 : w.heap.size < w3.heap.size := (by have := hb3.size; omega); have hy3 : w.heap.size + 1 < w3.heap.size := (by have := hb3.size; omega))
          | (go_at_call 66; refine (defectiveP_is b _ _ _ (Vb.keep hc3) Lb Wb HDV.out HBE.out).mono ?_; rintro e w4 ⟨rfl, hb4⟩; obtain ⟨hk4, hf4⟩ := bcell hb4; have hc4 := hc3.trans (hb4.mono hc3.size); have hz4 : w.heap.size < w4.heap.size := (by have := hb4.size; omega); have hy4 : w.heap.size + 1 < w4.heap.size := (by have := hb4.size; omega))
          | (go_at_call 39; refine (soundP_is b r _ _ _ (Vb.keep hc4) Lb Wb HS.out.1 HS.out.2).mono ?_; rintro e w5 ⟨rfl, hb5⟩; obtain ⟨hk5, hf5⟩ := bcell hb5; have hc5 := hc4.trans (hb5.mono hc4.size); have hz5 : w.heap.size < w5.heap.size := (by have := hb5.size; omega); have hy5 : w.heap.size + 1 < w5.heap.size := (by have := hb5.size; omega))
          | (go_at_call 34; refine (refBoardErr_is b _ _ _ (Vb.keep hc5) Lb Wb HBE.out).mono ?_; rintro e w6 ⟨rfl, hb6⟩; obtain ⟨hk6, hf6⟩ := bcell hb6; have hc6 := hc5.trans (hb6.mono hc5.size); have hz6 : w.heap.size < w6.heap.size := (by have := hb6.size; omega); have hy6 : w.heap.size + 1 < w6.heap.size := (by have := hb6.size; omega))
          | (go_at_call 67; refine (defectiveR_is b _ _ _ (Vb.keep hc6) HOK.out HDR.out).mono ?_; rintro e w7 ⟨rfl, hb7⟩; obtain ⟨hk7, hf7⟩ := bcell hb7; have hc7 := hc6.trans (hb7.mono hc6.size); have hz7 : w.heap.size < w7.heap.size := (by have := hb7.size; omega); have hy7 : w.heap.size + 1 < w7.heap.size := (by have := hb7.size; omega))
          | (go_at_call 36; refine (rectErrB_is r _ HRE.out).mono ?_; rintro e w8 ⟨rfl, hb8⟩; obtain ⟨hk8, hf8⟩ := bcell hb8; have hc8 := hc7.trans (hb8.mono hc7.size); have hz8 : w.heap.size < w8.heap.size := (by have := hb8.size; omega); have hy8 : w.heap.size + 1 < w8.heap.size := (by have := hb8.size; omega)))
        refine gen_world (fun W => (W.cell? ⟨w.heap.size, 0, none⟩ = some (.string b.name) ∧ W.cell? ⟨w.heap.size, 1, none⟩ = some (.string b.species) ∧ W.cell? ⟨w.heap.size, 2, none⟩ = some (.int .i64 b.length) ∧ W.cell? ⟨w.heap.size, 3, none⟩ = some (.int .i64 b.width) ∧ W.cell? ⟨w.heap.size, 4, none⟩ = some (.int .i64 b.thick) ∧ W.cell? ⟨w.heap.size, 5, none⟩ = some (.int .i64 b.cut) ∧ W.cell? ⟨w.heap.size, 6, none⟩ = some (.int .i64 b.moisture) ∧ W.cell? ⟨w.heap.size, 7, none⟩ = some (.slice ba b.defects.length bc) ∧ W.cell? ⟨w.heap.size + 1, 0, none⟩ = some (.int .i64 r.x1) ∧ W.cell? ⟨w.heap.size + 1, 1, none⟩ = some (.int .i64 r.y1) ∧ W.cell? ⟨w.heap.size + 1, 2, none⟩ = some (.int .i64 r.x2) ∧ W.cell? ⟨w.heap.size + 1, 3, none⟩ = some (.int .i64 r.y2) ∧ W.frozen? ⟨w.heap.size + 1, 0, none⟩ = false) ∧ w.heap.size + 1 < W.heap.size ∧ Below w.heap.size w W) ?_ ?_
        · exact ⟨⟨by simp [go_sem, *], by simp [go_sem, *], by simp [go_sem, *], by simp [go_sem, *], by simp [go_sem, *], by simp [go_sem, *], by simp [go_sem, *], by simp [go_sem, *], by simp [go_sem, *], by simp [go_sem, *], by simp [go_sem, *], by simp [go_sem, *], by simp [go_sem, *]⟩, hy8, hc8⟩
        clear e0 e1 e2 e3 e4 e5 e6 e7 o0 o1 o2 o3 of0 hyW hzW hbW hb1 hk1 hf1 hc1 hz1 hy1 hb2 hk2 hf2 hc2 hz2 hy2 hb3 hk3 hf3 hc3 hz3 hy3 hb4 hk4 hf4 hc4 hz4 hy4 hb5 hk5 hf5 hc5 hz5 hy5 hb6 hk6 hf6 hc6 hz6 hy6 hb7 hk7 hf7 hc7 hz7 hy7 hb8 hk8 hf8 hc8 hz8 hy8
        rintro W6 ⟨⟨e0, e1, e2, e3, e4, e5, e6, e7, o0, o1, o2, o3, of0⟩, hyW, hbW⟩
        have hzW : w.heap.size < W6.heap.size := by omega
        have hv6 := Vb.keep hbW
        refine wp_region_grew (by kernel_rfl) (by kernel_rfl) ?_
        repeat (first
          | go_big_quiet_step ((first | (go_at_call 38; exact grew_of (whole_any b ba bc _)) | (go_at_call 37; exact grew_of (insideB_is r ⟨0, 0, b.length, b.width⟩ _ HIN.out))))
          | quiet_step ((first | (go_at_call 38; exact grew_of (whole_any b ba bc _)) | (go_at_call 37; exact grew_of (insideB_is r ⟨0, 0, b.length, b.width⟩ _ HIN.out)))))
        refine wpQuiet_nil ?_
        rintro _ ⟨g, rfl⟩
        go_wp2_with fail
        go_ret
        exact ⟨ret_bool (by go_tidy; first | rfl | (simp; done)), grewB hbW (by omega) g⟩
      · obtain ⟨hri, hr1, hr2, hr3, hr4, hr5, hr6⟩ := rectIn_of h1 h2
        have hdp : ∀ d ∈ b.defects, d.x1 < d.x2 ∧ d.y1 < d.y2 := fun d hd => by have := (boardErr_ok h0).inside d hd; omega
        obtain ⟨s, hs⟩ : ∃ s, s = psound b.defects r := ⟨_, rfl⟩
        have HS := Lib.hid (show soundE b r = 0 ∧ soundV b r = s from ⟨by simp [soundE, h0, hri], by simp [soundV, soundE, h0, hri, hs]⟩)
        have HSB := Lib.hid (show soundB b.defects r = s by rw [hs, psound_same hdp hr2 hr5])
        have HS2 := Lib.hid (show r.x1 + 2 ≤ r.x2 → soundE b ⟨r.x1 + 1, r.y1, r.x2, r.y2⟩ = 0 ∧ ∃ s', soundV b ⟨r.x1 + 1, r.y1, r.x2, r.y2⟩ = s' ∧ (s' || !s) = true from fun hx => by
          have e1 : soundE b ⟨r.x1 + 1, r.y1, r.x2, r.y2⟩ = 0 := by
            unfold soundE rectIn
            simp only [h0, ne_eq, not_true_eq_false, if_false]
            have hb2 := (boardErr_ok h0)
            rw [if_neg (by omega), if_neg (by omega)]
          refine ⟨e1, _, rfl, ?_⟩
          unfold soundV
          simp only [e1, ne_eq, not_true_eq_false, if_false]
          cases hsr : s
          · simp
          · rw [psound_less hx (by rw [← hs]; exact hsr)]; rfl)
        have HRE := Lib.hid h1
        have HIN := Lib.hid h2
        have hbl := HOK.out.length
        clear h0 h1 h2 hri hdp hs
        go_enter Try.func16, Try.ntmps16
        go_upto_region 1 with fail
        refine gen_world (fun W => (W.cell? ⟨w.heap.size, 0, none⟩ = some (.string b.name) ∧ W.cell? ⟨w.heap.size, 1, none⟩ = some (.string b.species) ∧ W.cell? ⟨w.heap.size, 2, none⟩ = some (.int .i64 b.length) ∧ W.cell? ⟨w.heap.size, 3, none⟩ = some (.int .i64 b.width) ∧ W.cell? ⟨w.heap.size, 4, none⟩ = some (.int .i64 b.thick) ∧ W.cell? ⟨w.heap.size, 5, none⟩ = some (.int .i64 b.cut) ∧ W.cell? ⟨w.heap.size, 6, none⟩ = some (.int .i64 b.moisture) ∧ W.cell? ⟨w.heap.size, 7, none⟩ = some (.slice ba b.defects.length bc) ∧ W.cell? ⟨w.heap.size + 1, 0, none⟩ = some (.int .i64 r.x1) ∧ W.cell? ⟨w.heap.size + 1, 1, none⟩ = some (.int .i64 r.y1) ∧ W.cell? ⟨w.heap.size + 1, 2, none⟩ = some (.int .i64 r.x2) ∧ W.cell? ⟨w.heap.size + 1, 3, none⟩ = some (.int .i64 r.y2) ∧ W.frozen? ⟨w.heap.size + 1, 0, none⟩ = false) ∧ w.heap.size + 1 < W.heap.size ∧ Below w.heap.size w W) ?_ ?_
        · exact ⟨⟨by simp [go_sem], by simp [go_sem], by simp [go_sem], by simp [go_sem], by simp [go_sem], by simp [go_sem], by simp [go_sem], by simp [go_sem], by simp [go_sem], by simp [go_sem], by simp [go_sem], by simp [go_sem], by simp [go_sem]⟩, by simp, ((Below.refl _ _).alloc (Nat.le_refl _) _).alloc (by simp) _⟩
        rintro W ⟨⟨e0, e1, e2, e3, e4, e5, e6, e7, o0, o1, o2, o3, of0⟩, hyW, hbW⟩
        have hzW : w.heap.size < W.heap.size := by omega
        go_upto_region 14 with (first
          | (go_at_call 18; refine (awake_any _).mono ?_; rintro e w1 ⟨rfl, hb1⟩; obtain ⟨hk1, hf1⟩ := bcell hb1; have hc1 := hbW.trans (hb1.mono hbW.size); have hz1 : w.heap.size < w1.heap.size := (by have := hb1.size; omega); have hy1 : w.heap.size + 1 < w1.heap.size := (by have := hb1.size; omega))
          | (go_at_call 20; refine (plain_is b _ _ _ Lb Wb HPL.out).mono ?_; rintro e w2 ⟨rfl, hb2⟩; obtain ⟨hk2, hf2⟩ := bcell hb2; have hc2 := hc1.trans (hb2.mono hc1.size); have hz2 : w.heap.size < w2.heap.size := (by have := hb2.size; omega); have hy2 : w.heap.size + 1 < w2.heap.size := (by have := hb2.size; omega))
          | (go_at_call 65; refine (areaP_is b _ _ _ (Vb.keep hc2) Lb Wb HAV.out HBE.out).mono ?_; rintro e w3 ⟨rfl, hb3⟩; obtain ⟨hk3, hf3⟩ := bcell hb3; have hc3 := hc2.trans (hb3.mono hc2.size); have hz3 : w.heap.size < w3.heap.size := (by have := hb3.size; omega); have hy3 : w.heap.size + 1 < w3.heap.size := (by have := hb3.size; omega))
          | (go_at_call 66; refine (defectiveP_is b _ _ _ (Vb.keep hc3) Lb Wb HDV.out HBE.out).mono ?_; rintro e w4 ⟨rfl, hb4⟩; obtain ⟨hk4, hf4⟩ := bcell hb4; have hc4 := hc3.trans (hb4.mono hc3.size); have hz4 : w.heap.size < w4.heap.size := (by have := hb4.size; omega); have hy4 : w.heap.size + 1 < w4.heap.size := (by have := hb4.size; omega))
          | (go_at_call 39; refine (soundP_is b r _ _ _ (Vb.keep hc4) Lb Wb HS.out.1 HS.out.2).mono ?_; rintro e w5 ⟨rfl, hb5⟩; obtain ⟨hk5, hf5⟩ := bcell hb5; have hc5 := hc4.trans (hb5.mono hc4.size); have hz5 : w.heap.size < w5.heap.size := (by have := hb5.size; omega); have hy5 : w.heap.size + 1 < w5.heap.size := (by have := hb5.size; omega))
          | (go_at_call 34; refine (refBoardErr_is b _ _ _ (Vb.keep hc5) Lb Wb HBE.out).mono ?_; rintro e w6 ⟨rfl, hb6⟩; obtain ⟨hk6, hf6⟩ := bcell hb6; have hc6 := hc5.trans (hb6.mono hc5.size); have hz6 : w.heap.size < w6.heap.size := (by have := hb6.size; omega); have hy6 : w.heap.size + 1 < w6.heap.size := (by have := hb6.size; omega))
          | (go_at_call 67; refine (defectiveR_is b _ _ _ (Vb.keep hc6) HOK.out HDR.out).mono ?_; rintro e w7 ⟨rfl, hb7⟩; obtain ⟨hk7, hf7⟩ := bcell hb7; have hc7 := hc6.trans (hb7.mono hc6.size); have hz7 : w.heap.size < w7.heap.size := (by have := hb7.size; omega); have hy7 : w.heap.size + 1 < w7.heap.size := (by have := hb7.size; omega))
          | (go_at_call 36; refine (rectErrB_is r _ HRE.out).mono ?_; rintro e w8 ⟨rfl, hb8⟩; obtain ⟨hk8, hf8⟩ := bcell hb8; have hc8 := hc7.trans (hb8.mono hc7.size); have hz8 : w.heap.size < w8.heap.size := (by have := hb8.size; omega); have hy8 : w.heap.size + 1 < w8.heap.size := (by have := hb8.size; omega)))
        refine gen_world (fun W => (W.cell? ⟨w.heap.size, 0, none⟩ = some (.string b.name) ∧ W.cell? ⟨w.heap.size, 1, none⟩ = some (.string b.species) ∧ W.cell? ⟨w.heap.size, 2, none⟩ = some (.int .i64 b.length) ∧ W.cell? ⟨w.heap.size, 3, none⟩ = some (.int .i64 b.width) ∧ W.cell? ⟨w.heap.size, 4, none⟩ = some (.int .i64 b.thick) ∧ W.cell? ⟨w.heap.size, 5, none⟩ = some (.int .i64 b.cut) ∧ W.cell? ⟨w.heap.size, 6, none⟩ = some (.int .i64 b.moisture) ∧ W.cell? ⟨w.heap.size, 7, none⟩ = some (.slice ba b.defects.length bc) ∧ W.cell? ⟨w.heap.size + 1, 0, none⟩ = some (.int .i64 r.x1) ∧ W.cell? ⟨w.heap.size + 1, 1, none⟩ = some (.int .i64 r.y1) ∧ W.cell? ⟨w.heap.size + 1, 2, none⟩ = some (.int .i64 r.x2) ∧ W.cell? ⟨w.heap.size + 1, 3, none⟩ = some (.int .i64 r.y2) ∧ W.frozen? ⟨w.heap.size + 1, 0, none⟩ = false) ∧ w.heap.size + 1 < W.heap.size ∧ Below w.heap.size w W) ?_ ?_
        · exact ⟨⟨by simp [go_sem, *], by simp [go_sem, *], by simp [go_sem, *], by simp [go_sem, *], by simp [go_sem, *], by simp [go_sem, *], by simp [go_sem, *], by simp [go_sem, *], by simp [go_sem, *], by simp [go_sem, *], by simp [go_sem, *], by simp [go_sem, *], by simp [go_sem, *]⟩, hy8, hc8⟩
        clear e0 e1 e2 e3 e4 e5 e6 e7 o0 o1 o2 o3 of0 hyW hzW hbW hb1 hk1 hf1 hc1 hz1 hy1 hb2 hk2 hf2 hc2 hz2 hy2 hb3 hk3 hf3 hc3 hz3 hy3 hb4 hk4 hf4 hc4 hz4 hy4 hb5 hk5 hf5 hc5 hz5 hy5 hb6 hk6 hf6 hc6 hz6 hy6 hb7 hk7 hf7 hc7 hz7 hy7 hb8 hk8 hf8 hc8 hz8 hy8
        rintro W6 ⟨⟨e0, e1, e2, e3, e4, e5, e6, e7, o0, o1, o2, o3, of0⟩, hyW, hbW⟩
        have hzW : w.heap.size < W6.heap.size := by omega
        have hv6 := Vb.keep hbW
        refine wp_region_grew (by kernel_rfl) (by kernel_rfl) ?_
        repeat (first
          | go_big_quiet_step ((first | (go_at_call 38; exact grew_of (whole_any b ba bc _)) | (go_at_call 37; exact grew_of (insideB_is r ⟨0, 0, b.length, b.width⟩ _ HIN.out))))
          | quiet_step ((first | (go_at_call 38; exact grew_of (whole_any b ba bc _)) | (go_at_call 37; exact grew_of (insideB_is r ⟨0, 0, b.length, b.width⟩ _ HIN.out)))))
        refine wpQuiet_nil ?_
        rintro _ ⟨g, rfl⟩
        go_upto_region 16 with fail
        have hbG : Below w.heap.size w (grew W6 g) := grewB hbW (by omega) g
        refine gen_world (fun W => (W.cell? ⟨w.heap.size, 0, none⟩ = some (.string b.name) ∧ W.cell? ⟨w.heap.size, 1, none⟩ = some (.string b.species) ∧ W.cell? ⟨w.heap.size, 2, none⟩ = some (.int .i64 b.length) ∧ W.cell? ⟨w.heap.size, 3, none⟩ = some (.int .i64 b.width) ∧ W.cell? ⟨w.heap.size, 4, none⟩ = some (.int .i64 b.thick) ∧ W.cell? ⟨w.heap.size, 5, none⟩ = some (.int .i64 b.cut) ∧ W.cell? ⟨w.heap.size, 6, none⟩ = some (.int .i64 b.moisture) ∧ W.cell? ⟨w.heap.size, 7, none⟩ = some (.slice ba b.defects.length bc) ∧ W.cell? ⟨w.heap.size + 1, 0, none⟩ = some (.int .i64 r.x1) ∧ W.cell? ⟨w.heap.size + 1, 1, none⟩ = some (.int .i64 r.y1) ∧ W.cell? ⟨w.heap.size + 1, 2, none⟩ = some (.int .i64 r.x2) ∧ W.cell? ⟨w.heap.size + 1, 3, none⟩ = some (.int .i64 r.y2) ∧ W.frozen? ⟨w.heap.size + 1, 0, none⟩ = false) ∧ w.heap.size + 1 < W.heap.size ∧ Below w.heap.size w W) ?_ ?_
        · exact ⟨⟨by simp [go_sem, *], by simp [go_sem, *], by simp [go_sem, *], by simp [go_sem, *], by simp [go_sem, *], by simp [go_sem, *], by simp [go_sem, *], by simp [go_sem, *], by simp [go_sem, *], by simp [go_sem, *], by simp [go_sem, *], by simp [go_sem, *], by simp [go_sem, *]⟩, by simp; omega, hbG⟩
        clear e0 e1 e2 e3 e4 e5 e6 e7 o0 o1 o2 o3 of0 hyW hzW hbW hv6 hbG
        rintro W7 ⟨⟨e0, e1, e2, e3, e4, e5, e6, e7, o0, o1, o2, o3, of0⟩, hyW, hbW⟩
        have hzW : w.heap.size < W7.heap.size := by omega
        have hv7 := Vb.keep hbW
        by_cases hx : r.x2 - r.x1 < 2
        · cases s
          all_goals
            go_wp2_with (go_at_call 68; refine (isSoundP_is b r _ _ _ HSB.out hv7 Lb).mono ?_; rintro e w9 ⟨rfl, hb9⟩; obtain ⟨hk9, hf9⟩ := bcell hb9; have hc9 := hbW.trans (hb9.mono hbW.size); have hz9 : w.heap.size < w9.heap.size := (by have := hb9.size; omega); have hy9 : w.heap.size + 1 < w9.heap.size := (by have := hb9.size; omega))
            go_ret
            exact ⟨ret_bool (by go_tidy; first | rfl | (simp; done)), hc9⟩
        · obtain ⟨q1, s', q2, q3⟩ := HS2.out (by omega)
          have HQ := Lib.hid (And.intro q1 q2)
          clear q1 q2
          cases s
          all_goals cases s'
          all_goals try (exact absurd q3 (by decide))
          all_goals
            go_wp2_with (first
              | (go_at_call 68; refine (isSoundP_is b r _ _ _ HSB.out hv7 Lb).mono ?_; rintro e w9 ⟨rfl, hb9⟩; obtain ⟨hk9, hf9⟩ := bcell hb9; have hc9 := hbW.trans (hb9.mono hbW.size); have hz9 : w.heap.size < w9.heap.size := (by have := hb9.size; omega); have hy9 : w.heap.size + 1 < w9.heap.size := (by have := hb9.size; omega))
              | (go_at_call 39; refine (soundP_is b ⟨r.x1 + 1, r.y1, r.x2, r.y2⟩ _ _ _ (Vb.keep (hc9.setCell (by simp) _)) Lb Wb HQ.out.1 HQ.out.2).mono ?_; rintro e w10 ⟨rfl, hb10⟩; have hc10 := (hc9.setCell (p := ⟨w.heap.size + 1, 0, none⟩) (by simp) _).trans (hb10.mono (by simp; omega))))
            go_ret
            exact ⟨ret_bool (by go_tidy; first | rfl | (simp; done)), hc10⟩
    · have h3 : rectErr r = 3 := by unfold rectErr at h1 ⊢; split <;> simp_all
      have h4 : rectIn b.length b.width r = 3 := by
        unfold rectErr at h3
        unfold rectIn
        split at h3
        · rw [if_pos ‹_›]
        · cases h3
      have HS := Lib.hid (show soundE b r = 3 ∧ soundV b r = false from ⟨by simp [soundE, h0, h4], by simp [soundV, soundE, h0, h4]⟩)
      have HRE := Lib.hid h3
      clear h0 h1 h3 h4
      go_enter Try.func16, Try.ntmps16
      go_upto_region 1 with fail
      refine gen_world (fun W => (W.cell? ⟨w.heap.size, 0, none⟩ = some (.string b.name) ∧ W.cell? ⟨w.heap.size, 1, none⟩ = some (.string b.species) ∧ W.cell? ⟨w.heap.size, 2, none⟩ = some (.int .i64 b.length) ∧ W.cell? ⟨w.heap.size, 3, none⟩ = some (.int .i64 b.width) ∧ W.cell? ⟨w.heap.size, 4, none⟩ = some (.int .i64 b.thick) ∧ W.cell? ⟨w.heap.size, 5, none⟩ = some (.int .i64 b.cut) ∧ W.cell? ⟨w.heap.size, 6, none⟩ = some (.int .i64 b.moisture) ∧ W.cell? ⟨w.heap.size, 7, none⟩ = some (.slice ba b.defects.length bc) ∧ W.cell? ⟨w.heap.size + 1, 0, none⟩ = some (.int .i64 r.x1) ∧ W.cell? ⟨w.heap.size + 1, 1, none⟩ = some (.int .i64 r.y1) ∧ W.cell? ⟨w.heap.size + 1, 2, none⟩ = some (.int .i64 r.x2) ∧ W.cell? ⟨w.heap.size + 1, 3, none⟩ = some (.int .i64 r.y2) ∧ W.frozen? ⟨w.heap.size + 1, 0, none⟩ = false) ∧ w.heap.size + 1 < W.heap.size ∧ Below w.heap.size w W) ?_ ?_
      · exact ⟨⟨by simp [go_sem], by simp [go_sem], by simp [go_sem], by simp [go_sem], by simp [go_sem], by simp [go_sem], by simp [go_sem], by simp [go_sem], by simp [go_sem], by simp [go_sem], by simp [go_sem], by simp [go_sem], by simp [go_sem]⟩, by simp, ((Below.refl _ _).alloc (Nat.le_refl _) _).alloc (by simp) _⟩
      rintro W ⟨⟨e0, e1, e2, e3, e4, e5, e6, e7, o0, o1, o2, o3, of0⟩, hyW, hbW⟩
      have hzW : w.heap.size < W.heap.size := by omega
      go_upto_region 14 with (first
        | (go_at_call 18; refine (awake_any _).mono ?_; rintro e w1 ⟨rfl, hb1⟩; obtain ⟨hk1, hf1⟩ := bcell hb1; have hc1 := hbW.trans (hb1.mono hbW.size); have hz1 : w.heap.size < w1.heap.size := (by have := hb1.size; omega); have hy1 : w.heap.size + 1 < w1.heap.size := (by have := hb1.size; omega))
        | (go_at_call 20; refine (plain_is b _ _ _ Lb Wb HPL.out).mono ?_; rintro e w2 ⟨rfl, hb2⟩; obtain ⟨hk2, hf2⟩ := bcell hb2; have hc2 := hc1.trans (hb2.mono hc1.size); have hz2 : w.heap.size < w2.heap.size := (by have := hb2.size; omega); have hy2 : w.heap.size + 1 < w2.heap.size := (by have := hb2.size; omega))
        | (go_at_call 65; refine (areaP_is b _ _ _ (Vb.keep hc2) Lb Wb HAV.out HBE.out).mono ?_; rintro e w3 ⟨rfl, hb3⟩; obtain ⟨hk3, hf3⟩ := bcell hb3; have hc3 := hc2.trans (hb3.mono hc2.size); have hz3 : w.heap.size < w3.heap.size := (by have := hb3.size; omega); have hy3 : w.heap.size + 1 < w3.heap.size := (by have := hb3.size; omega))
        | (go_at_call 66; refine (defectiveP_is b _ _ _ (Vb.keep hc3) Lb Wb HDV.out HBE.out).mono ?_; rintro e w4 ⟨rfl, hb4⟩; obtain ⟨hk4, hf4⟩ := bcell hb4; have hc4 := hc3.trans (hb4.mono hc3.size); have hz4 : w.heap.size < w4.heap.size := (by have := hb4.size; omega); have hy4 : w.heap.size + 1 < w4.heap.size := (by have := hb4.size; omega))
        | (go_at_call 39; refine (soundP_is b r _ _ _ (Vb.keep hc4) Lb Wb HS.out.1 HS.out.2).mono ?_; rintro e w5 ⟨rfl, hb5⟩; obtain ⟨hk5, hf5⟩ := bcell hb5; have hc5 := hc4.trans (hb5.mono hc4.size); have hz5 : w.heap.size < w5.heap.size := (by have := hb5.size; omega); have hy5 : w.heap.size + 1 < w5.heap.size := (by have := hb5.size; omega))
        | (go_at_call 34; refine (refBoardErr_is b _ _ _ (Vb.keep hc5) Lb Wb HBE.out).mono ?_; rintro e w6 ⟨rfl, hb6⟩; obtain ⟨hk6, hf6⟩ := bcell hb6; have hc6 := hc5.trans (hb6.mono hc5.size); have hz6 : w.heap.size < w6.heap.size := (by have := hb6.size; omega); have hy6 : w.heap.size + 1 < w6.heap.size := (by have := hb6.size; omega))
        | (go_at_call 67; refine (defectiveR_is b _ _ _ (Vb.keep hc6) HOK.out HDR.out).mono ?_; rintro e w7 ⟨rfl, hb7⟩; obtain ⟨hk7, hf7⟩ := bcell hb7; have hc7 := hc6.trans (hb7.mono hc6.size); have hz7 : w.heap.size < w7.heap.size := (by have := hb7.size; omega); have hy7 : w.heap.size + 1 < w7.heap.size := (by have := hb7.size; omega))
        | (go_at_call 36; refine (rectErrB_is r _ HRE.out).mono ?_; rintro e w8 ⟨rfl, hb8⟩; obtain ⟨hk8, hf8⟩ := bcell hb8; have hc8 := hc7.trans (hb8.mono hc7.size); have hz8 : w.heap.size < w8.heap.size := (by have := hb8.size; omega); have hy8 : w.heap.size + 1 < w8.heap.size := (by have := hb8.size; omega)))
      go_quiet (fail)
      go_wp2_with fail
      go_ret
      exact ⟨ret_bool (by go_tidy; first | rfl | (simp; done)), below_drewN hc8 _⟩
  · obtain ⟨e9, he9⟩ : ∃ e9, e9 = boardErr b := ⟨_, rfl⟩
    have HBE := Lib.hid he9.symm
    have h0' : (e9 != 0) = true := by simp [he9, h0]
    have HAV := Lib.hid (show areaV b = 0 by simp [areaV, h0])
    have HDV := Lib.hid (show defV b = 0 by simp [defV, h0])
    have HS := Lib.hid (show soundE b r = e9 ∧ soundV b r = false from ⟨by simp [soundE, h0, he9], by simp [soundV, soundE, h0]⟩)
    clear h0 he9
    go_enter Try.func16, Try.ntmps16
    go_upto_region 1 with fail
    refine gen_world (fun W => (W.cell? ⟨w.heap.size, 0, none⟩ = some (.string b.name) ∧ W.cell? ⟨w.heap.size, 1, none⟩ = some (.string b.species) ∧ W.cell? ⟨w.heap.size, 2, none⟩ = some (.int .i64 b.length) ∧ W.cell? ⟨w.heap.size, 3, none⟩ = some (.int .i64 b.width) ∧ W.cell? ⟨w.heap.size, 4, none⟩ = some (.int .i64 b.thick) ∧ W.cell? ⟨w.heap.size, 5, none⟩ = some (.int .i64 b.cut) ∧ W.cell? ⟨w.heap.size, 6, none⟩ = some (.int .i64 b.moisture) ∧ W.cell? ⟨w.heap.size, 7, none⟩ = some (.slice ba b.defects.length bc) ∧ W.cell? ⟨w.heap.size + 1, 0, none⟩ = some (.int .i64 r.x1) ∧ W.cell? ⟨w.heap.size + 1, 1, none⟩ = some (.int .i64 r.y1) ∧ W.cell? ⟨w.heap.size + 1, 2, none⟩ = some (.int .i64 r.x2) ∧ W.cell? ⟨w.heap.size + 1, 3, none⟩ = some (.int .i64 r.y2) ∧ W.frozen? ⟨w.heap.size + 1, 0, none⟩ = false) ∧ w.heap.size + 1 < W.heap.size ∧ Below w.heap.size w W) ?_ ?_
    · exact ⟨⟨by simp [go_sem], by simp [go_sem], by simp [go_sem], by simp [go_sem], by simp [go_sem], by simp [go_sem], by simp [go_sem], by simp [go_sem], by simp [go_sem], by simp [go_sem], by simp [go_sem], by simp [go_sem], by simp [go_sem]⟩, by simp, ((Below.refl _ _).alloc (Nat.le_refl _) _).alloc (by simp) _⟩
    rintro W ⟨⟨e0, e1, e2, e3, e4, e5, e6, e7, o0, o1, o2, o3, of0⟩, hyW, hbW⟩
    have hzW : w.heap.size < W.heap.size := by omega
    go_wp2_with (first
      | (go_at_call 18; refine (awake_any _).mono ?_; rintro e w1 ⟨rfl, hb1⟩; obtain ⟨hk1, hf1⟩ := bcell hb1; have hc1 := hbW.trans (hb1.mono hbW.size); have hz1 : w.heap.size < w1.heap.size := (by have := hb1.size; omega); have hy1 : w.heap.size + 1 < w1.heap.size := (by have := hb1.size; omega))
      | (go_at_call 20; refine (plain_is b _ _ _ Lb Wb HPL.out).mono ?_; rintro e w2 ⟨rfl, hb2⟩; obtain ⟨hk2, hf2⟩ := bcell hb2; have hc2 := hc1.trans (hb2.mono hc1.size); have hz2 : w.heap.size < w2.heap.size := (by have := hb2.size; omega); have hy2 : w.heap.size + 1 < w2.heap.size := (by have := hb2.size; omega))
      | (go_at_call 65; refine (areaP_is b _ _ _ (Vb.keep hc2) Lb Wb HAV.out HBE.out).mono ?_; rintro e w3 ⟨rfl, hb3⟩; obtain ⟨hk3, hf3⟩ := bcell hb3; have hc3 := hc2.trans (hb3.mono hc2.size); have hz3 : w.heap.size < w3.heap.size := (by have := hb3.size; omega); have hy3 : w.heap.size + 1 < w3.heap.size := (by have := hb3.size; omega))
      | (go_at_call 66; refine (defectiveP_is b _ _ _ (Vb.keep hc3) Lb Wb HDV.out HBE.out).mono ?_; rintro e w4 ⟨rfl, hb4⟩; obtain ⟨hk4, hf4⟩ := bcell hb4; have hc4 := hc3.trans (hb4.mono hc3.size); have hz4 : w.heap.size < w4.heap.size := (by have := hb4.size; omega); have hy4 : w.heap.size + 1 < w4.heap.size := (by have := hb4.size; omega))
      | (go_at_call 39; refine (soundP_is b r _ _ _ (Vb.keep hc4) Lb Wb HS.out.1 HS.out.2).mono ?_; rintro e w5 ⟨rfl, hb5⟩; obtain ⟨hk5, hf5⟩ := bcell hb5; have hc5 := hc4.trans (hb5.mono hc4.size); have hz5 : w.heap.size < w5.heap.size := (by have := hb5.size; omega); have hy5 : w.heap.size + 1 < w5.heap.size := (by have := hb5.size; omega))
      | (go_at_call 34; refine (refBoardErr_is b _ _ _ (Vb.keep hc5) Lb Wb HBE.out).mono ?_; rintro e w6 ⟨rfl, hb6⟩; obtain ⟨hk6, hf6⟩ := bcell hb6; have hc6 := hc5.trans (hb6.mono hc5.size); have hz6 : w.heap.size < w6.heap.size := (by have := hb6.size; omega); have hy6 : w.heap.size + 1 < w6.heap.size := (by have := hb6.size; omega)))
    go_ret
    exact ⟨ret_bool (by go_tidy; first | rfl | (simp; done)), hc6⟩
set_option maxRecDepth 100000 in
theorem timberDefects_walks : Walks 16 Try.f16 := by
  intro H enc W base args ds p hval hA hlt
  rw [Try.params16] at hA hval
  obtain ⟨v0, vs0, d0, ds0, p0, q0, hargs, rfl, rfl, ⟨fu0, hf0⟩, r0⟩ := trodAll_cons hA
  obtain ⟨v1, vs1, d1, ds1, p1, q1, rfl, rfl, rfl, ⟨fu1, hf1⟩, r1⟩ := trodAll_cons r0
  obtain ⟨rfl, rfl, rfl⟩ := trodAll_nil r1
  obtain rfl : args = #[v0, v1] := by cases args; simp_all
  obtain ⟨cs0, rfl, -⟩ := okWide_struct Try.underlying25 (hval 0 25 v0 rfl rfl)
  obtain ⟨b, hb0⟩ := Board.open_ hf0
  obtain ⟨a0, c0, hc0, V0, C0, M0, W0⟩ := hb0
  have hd0 : cs0 = #[.string b.name, .string b.species, .int .i64 b.length, .int .i64 b.width, .int .i64 b.thick, .int .i64 b.cut, .int .i64 b.moisture, .slice a0 b.defects.length c0] := by
    cases cs0; simpa [Value.cells] using hc0
  subst hd0
  obtain ⟨cs1, rfl, -⟩ := okWide_struct Try.underlying55 (hval 1 55 v1 rfl rfl)
  obtain ⟨r, hb1⟩ := Rect.open_ hf1
  obtain ⟨hc1, W1⟩ := hb1
  have hd1 : cs1 = #[.int .i64 r.x1, .int .i64 r.y1, .int .i64 r.x2, .int .i64 r.y2] := by
    cases cs1; simpa [Value.cells] using hc1
  subst hd1
  exact walkTimberDefects b a0 c0 r W V0 (by unfold maxLen at M0; omega) W0 W1

set_option maxRecDepth 100000 in
theorem timberDefects_holds : Rows.TimberDefectsSaid :=
  law_holds (s := Rows.timberDefectsSpec) (c := Rows.timberDefectsRow) 16 Try.f16 rfl
    (fun H ds h => by match ds, h with | [_, _], _ => rfl) (by kernel_rfl) (by kernel_rfl)
    rfl rfl rfl rfl rfl rfl rfl ⟨rfl, rfl, rfl, rfl, rfl⟩ rfl rfl rfl rfl rfl rfl rfl rfl rfl rfl (fun _ _ => rfl) (by kernel_rfl) Try.func16
    timberDefects_closed (of_decide_eq_true (by kernel_rfl)) (by unfold Func.isWrapper; first | (rw [if_pos (by decide +kernel)]; kernel_rfl) | (rw [if_neg (by decide +kernel)]; exact ⟨rfl, rfl⟩)) (by kernel_rfl)
    (fun H enc os => ChangeSpec.witness6 (enc := enc) (C := Try.checked) false ⟨#[], #[.agg #[.string ⟨#[]⟩, .string ⟨#[]⟩, .int .i64 0, .int .i64 0, .int .i64 0, .int .i64 0, .int .i64 0, .slice none 0 0], .agg #[.int .i64 0, .int .i64 0, .int .i64 0, .int .i64 0]], []⟩ 8 (by kernel_rfl) (by kernel_rfl) (by kernel_rfl) (by kernel_rfl))
    timberDefects_walks
end Go.Proofs.Ythhchnhidhgccaa
