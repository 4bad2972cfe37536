
/- What the program's Sizes returns where there is no error. -/
import Derived.Test.YthhchnhidhgccaaSizes
set_option linter.unusedVariables false
set_option linter.unusedSimpArgs false
namespace Go.Proofs.Ythhchnhidhgccaa
open Go Go.RowKit

theorem moved_is (size rate x y : Int) (w : World) {v : Int} (h : moved size rate y x = v) (s1 : 0 ≤ size) (s2 : size ≤ 600000) (h1 : 0 ≤ rate) (h2 : rate ≤ 2000) (h3 : 0 ≤ x) (h4 : x ≤ 400) (h5 : 0 ≤ y) (h6 : y ≤ 400) :
    Calls Try.prog 77 #[.int .i64 size, .int .i64 rate, .int .i64 y, .int .i64 x] w fun e w' => e = .returned (.int .i64 v) ∧ w = w' := by
  subst h; exact timberMoved_any size rate x y w s1 s2 h1 h2 h3 h4 h5 h6
set_option maxRecDepth 100000 in
set_option maxHeartbeats 8000000 in
theorem timberSizes_ok (la : Option Addr) (l : List Species) (lc : Nat) (b : Board) (ba : Option Addr) (bc : Nat) (m : Int) (k : Nat) (s : Species) (w : World) (hs : Speciess.V w la l) (hsl : l.length ≤ 9223372036854775807)
    (hv : Rects.V w ba b.defects) (hl : b.defects.length ≤ 9223372036854775807) (hw : b.wf) (h0 : checkBoardE l b = 0) (h1 : withinB m 0 400 = true) (hk : k < l.length) (hi : idxOf (nameIs b.species) l = k) (hsk : l[k] = s) (hok : SpeciesOk s) (hbo : BoardOk b)
    (N0 N1 N2 : Int) (hN0 : sizeN s b m 0 = N0) (hN1 : sizeN s b m 1 = N1) (hN2 : sizeN s b m 2 = N2) :
    Calls Try.prog 49 #[.slice la l.length lc, .agg #[.string b.name, .string b.species, .int .i64 b.length, .int .i64 b.width, .int .i64 b.thick, .int .i64 b.cut, .int .i64 b.moisture, .slice ba b.defects.length bc], .int .i64 m] w fun e w' => e = .returned (.tuple #[.agg #[.int .i64 (N0 / 1000000), .int .i64 (-((-N0) / 1000000)), .int .i64 (N1 / 1000000), .int .i64 (-((-N1) / 1000000)), .int .i64 (N2 / 1000000), .int .i64 (-((-N2) / 1000000))], .int .i64 0]) ∧ Below w.heap.size w w' := by
  have HC := Lib.hid h0
  have HI := Lib.hid hi
  have HSK := Lib.hid hsk
  have hks : (k : Int) < (l.length : Int) := by omega
  obtain ⟨m1, m2⟩ := withinB_true h1
  have hL := hbo.length
  have hW := hbo.width
  have hT := hbo.thick
  have hM := hbo.moisture
  have HM0 := Lib.hid (show moved b.length (rateOf s b.cut 0) b.moisture m = N0 from hN0)
  have HM1 := Lib.hid (show moved b.width (rateOf s b.cut 1) b.moisture m = N1 from hN1)
  have HM2 := Lib.hid (show moved b.thick (rateOf s b.cut 2) b.moisture m = N2 from hN2)
  have hR0 := rateOf_bd hok b.cut 0
  have hR1 := rateOf_bd hok b.cut 1
  have hR2 := rateOf_bd hok b.cut 2
  have c0 : 0 ≤ N0 ∧ N0 ≤ 936000000000 := by rw [← HM0.out]; exact moved_range (by omega) (by omega) hR0.1 hR0.2 m1 m2 hM.1 hM.2
  have c1 : 0 ≤ N1 ∧ N1 ≤ 936000000000 := by rw [← HM1.out]; exact moved_range (by omega) (by omega) hR1.1 hR1.2 m1 m2 hM.1 hM.2
  have c2 : 0 ≤ N2 ∧ N2 ≤ 936000000000 := by rw [← HM2.out]; exact moved_range (by omega) (by omega) hR2.1 hR2.2 m1 m2 hM.1 hM.2
  have i0 : ∀ w, (Instr.index 88 (.agg #[.int .i64 b.length, .int .i64 b.width, .int .i64 b.thick]) (.int .i64 0)).run Try.prog w = .ok (.int .i64 b.length) w := fun _ => by kernel_rfl
  have i1 : ∀ w, (Instr.index 88 (.agg #[.int .i64 b.length, .int .i64 b.width, .int .i64 b.thick]) (.int .i64 1)).run Try.prog w = .ok (.int .i64 b.width) w := fun _ => by kernel_rfl
  have i2 : ∀ w, (Instr.index 88 (.agg #[.int .i64 b.length, .int .i64 b.width, .int .i64 b.thick]) (.int .i64 2)).run Try.prog w = .ok (.int .i64 b.thick) w := fun _ => by kernel_rfl
  clear h0 hi hsk hN0 hN1 hN2

  go_enter Try.func49, Try.ntmps49
  go_upto_region 2 with fail
  refine gen_world (fun W => (W.cell? ⟨w.heap.size, 0, none⟩ = some (.string b.name) ∧ W.cell? ⟨w.heap.size, 1, none⟩ = some (.string b.species) ∧ W.cell? ⟨w.heap.size, 2, none⟩ = some (.int .i64 b.length) ∧ W.cell? ⟨w.heap.size, 3, none⟩ = some (.int .i64 b.width) ∧ W.cell? ⟨w.heap.size, 4, none⟩ = some (.int .i64 b.thick) ∧ W.cell? ⟨w.heap.size, 5, none⟩ = some (.int .i64 b.cut) ∧ W.cell? ⟨w.heap.size, 6, none⟩ = some (.int .i64 b.moisture) ∧ W.cell? ⟨w.heap.size, 7, none⟩ = some (.slice ba b.defects.length bc)) ∧ Six W (w.heap.size + 1) 0 0 0 0 0 0 ∧ Six W (w.heap.size + 1 + 1) 0 0 0 0 0 0 ∧ Below w.heap.size w W) ?_ ?_
  · refine ⟨⟨by simp [go_sem], by simp [go_sem], by simp [go_sem], by simp [go_sem], by simp [go_sem], by simp [go_sem], by simp [go_sem], by simp [go_sem]⟩, ?_, ?_, (((Below.refl _ _).alloc (Nat.le_refl _) _).alloc (by simp) _).alloc (by simp; omega) _⟩
    · have h := (Six.new (w.alloc (.cells #[.string b.name, .string b.species, .int .i64 b.length, .int .i64 b.width, .int .i64 b.thick, .int .i64 b.cut, .int .i64 b.moisture, .slice ba b.defects.length bc] 25))).alloc (.cells #[.int .i64 0, .int .i64 0, .int .i64 0, .int .i64 0, .int .i64 0, .int .i64 0] 84)
      simpa using h
    · have h := Six.new ((w.alloc (.cells #[.string b.name, .string b.species, .int .i64 b.length, .int .i64 b.width, .int .i64 b.thick, .int .i64 b.cut, .int .i64 b.moisture, .slice ba b.defects.length bc] 25)).alloc (.cells #[.int .i64 0, .int .i64 0, .int .i64 0, .int .i64 0, .int .i64 0, .int .i64 0] 84))
      simpa using h
  rintro W ⟨⟨e0, e1, e2, e3, e4, e5, e6, e7⟩, hR, hO, hbW⟩
  go_upto_region 8 with (first
    | (go_at_call 43; refine (checkBoardP_any _ l _ b _ _ _ (hs.keep hbW) hsl (hv.keep hbW) hl hw).mono ?_; rw [HC.out]; rintro e w1 ⟨rfl, hb⟩; have f0 := cell_keep hb e0; have f1 := cell_keep hb e1; have f2 := cell_keep hb e2; have f3 := cell_keep hb e3; have f4 := cell_keep hb e4; have f5 := cell_keep hb e5; have f6 := cell_keep hb e6; have f7 := cell_keep hb e7; have hb1 := hbW.trans (hb.mono hbW.size); have R6 := Six.keep hb hR; have O6 := Six.keep hb hO; obtain ⟨q0, q1, q2, q3, q4, q5⟩ := O6.cells; obtain ⟨r0, r1, r2, r3, r4, r5⟩ := R6.cells; have p0 := R6.frozen 0; have p1 := R6.frozen 1; have p2 := R6.frozen 2; have p3 := R6.frozen 3; have p4 := R6.frozen 4; have p5 := R6.frozen 5; have hzR := R6.lt; have hzO := O6.lt)
    | (go_at_call 83; refine (within_any _ _ _ _).mono ?_; rintro e w' ⟨rfl, rfl⟩)
    | (go_at_call 74; refine (find_k _ l _ _ _ k (hs.keep hb1) hsl HI.out).mono ?_; rintro e w2 ⟨rfl, hb2⟩; obtain ⟨hk2, hf2⟩ := bcell hb2; have u2 := cell_keep hb2 f2; have u3 := cell_keep hb2 f3; have u4 := cell_keep hb2 f4; have u5 := cell_keep hb2 f5; have u6 := cell_keep hb2 f6; have hb3 := hb1.trans (hb2.mono hb1.size); have hs3 := hs.keep hb3; obtain ⟨bk, off, rfl, hat⟩ := hs3.at_ hk; rw [HSK.out] at hat; obtain ⟨t0, t1, t2, t3, t4, t5, t6, -⟩ := hat; have hbk := block_lt_of_cell t0; simp only at hbk; have R7 := Six.keep hb2 R6; have O7 := Six.keep hb2 O6; have hz7 := R7.lt; have hz8 := O7.lt))
  have hzS : w.heap.size < w2.heap.size := by omega
  refine gen_world (fun W => (w.heap.size + 1 + 1 < w2.heap.size) ∧ (W.cell? ⟨w.heap.size, 2, none⟩ = some (.int .i64 b.length) ∧ W.cell? ⟨w.heap.size, 3, none⟩ = some (.int .i64 b.width) ∧ W.cell? ⟨w.heap.size, 4, none⟩ = some (.int .i64 b.thick) ∧ W.cell? ⟨w.heap.size, 5, none⟩ = some (.int .i64 b.cut) ∧ W.cell? ⟨w.heap.size, 6, none⟩ = some (.int .i64 b.moisture)) ∧ (W.cell? ⟨w2.heap.size, 0, none⟩ = some (.string s.name) ∧ W.cell? ⟨w2.heap.size, 1, none⟩ = some (.int .i64 s.along) ∧ W.cell? ⟨w2.heap.size, 2, none⟩ = some (.int .i64 s.across) ∧ W.cell? ⟨w2.heap.size, 3, none⟩ = some (.int .i64 s.radial) ∧ W.cell? ⟨w2.heap.size, 4, none⟩ = some (.int .i64 s.density) ∧ W.cell? ⟨w2.heap.size, 5, none⟩ = some (.int .i64 s.stiffness) ∧ W.cell? ⟨w2.heap.size, 6, none⟩ = some (.int .i64 s.strength)) ∧ Six W (w.heap.size + 1 + 1) 0 0 0 0 0 0 ∧ Six W (w.heap.size + 1) 0 0 0 0 0 0 ∧ Below w.heap.size w W) ?_ ?_
  · refine ⟨by omega, ⟨by simp [go_sem, *], by simp [go_sem, *], by simp [go_sem, *], by simp [go_sem, *], by simp [go_sem, *]⟩, ⟨by simp [go_sem], by simp [go_sem], by simp [go_sem], by simp [go_sem], by simp [go_sem], by simp [go_sem], by simp [go_sem]⟩, O7.alloc _, R7.alloc _, hb3.alloc (by omega) _⟩
  clear u2 u3 u4 u5 u6 e0 e1 e2 e3 e4 e5 e6 e7 f0 f1 f2 f3 f4 f5 f6 f7 t0 t1 t2 t3 t4 t5 t6 hb hb1 hb2 hb3 hk2 hf2 hbW hR hO R6 O6 R7 O7 q0 q1 q2 q3 q4 q5 r0 r1 r2 r3 r4 r5 p0 p1 p2 p3 p4 p5 hs3 hs hzR hzO hz7 hz8 hbk hzS
  generalize hS : w2.heap.size = S at *
  clear hS

  rintro W0 ⟨hSO, ⟨e2, e3, e4, e5, e6⟩, ⟨s0, s1, s2, s3, s4, s5, s6⟩, hO, hR, hbW⟩
  obtain ⟨q0, q1, q2, q3, q4, q5⟩ := hO.cells
  have x1 := block_lt_of_cell e2
  have x2 := block_lt_of_cell s0
  have x3 := hO.lt
  have x4 := hR.lt
  simp only at x1 x2
  go_upto_region 11 with (first
    | (with_reducible refine rounds_step ?_)
    | (with_reducible refine wp_loop_rounds 4 ?_))
  refine wp_region_grew (by kernel_rfl) (by kernel_rfl) ?_
  repeat (first
    | go_big_quiet_step (first | (go_at_call 89; exact grew_of (timberRate0_any s b.cut 0 _)) | (go_at_call 77; exact grew_of_same (moved_is _ _ _ _ _ HM0.out (by omega) (by omega) hR0.1 hR0.2 m1 m2 hM.1 hM.2)))
    | quiet_step (first | (go_at_call 89; exact grew_of (timberRate0_any s b.cut 0 _)) | (go_at_call 77; exact grew_of_same (moved_is _ _ _ _ _ HM0.out (by omega) (by omega) hR0.1 hR0.2 m1 m2 hM.1 hM.2))))
  refine wpQuiet_nil ?_
  rintro _ ⟨g, rfl⟩
  have y2 := (cell?_grew W0 g _ 2 none x1).trans e2
  have y3 := (cell?_grew W0 g _ 3 none x1).trans e3
  have y4 := (cell?_grew W0 g _ 4 none x1).trans e4
  have y5 := (cell?_grew W0 g _ 5 none x1).trans e5
  have y6 := (cell?_grew W0 g _ 6 none x1).trans e6
  have v0 := (cell?_grew W0 g _ 0 none x2).trans s0
  have v1 := (cell?_grew W0 g _ 1 none x2).trans s1
  have v2 := (cell?_grew W0 g _ 2 none x2).trans s2
  have v3 := (cell?_grew W0 g _ 3 none x2).trans s3
  have v4 := (cell?_grew W0 g _ 4 none x2).trans s4
  have v5 := (cell?_grew W0 g _ 5 none x2).trans s5
  have v6 := (cell?_grew W0 g _ 6 none x2).trans s6
  have O5 := Six.keep (grew_below W0 g) hO
  have R5 := Six.keep (grew_below W0 g) hR
  have hb5 : Below w.heap.size w (grew W0 g) := grewB hbW (by omega) g
  clear e2 e3 e4 e5 e6 s0 s1 s2 s3 s4 s5 s6 hO hR hbW q0 q1 q2 q3 q4 q5 x1 x2 x3 x4
  generalize grew W0 g = V0 at *
  go_upto_region 11 with (first
    | (go_at_call 76; refine (interval_any _ _ _ (by omega) (by omega) (by omega) (by omega)).mono ?_; rintro e w4 ⟨rfl, hb4⟩; have z2 := cell_keep hb4 y2; have z3 := cell_keep hb4 y3; have z4 := cell_keep hb4 y4; have z5 := cell_keep hb4 y5; have z6 := cell_keep hb4 y6; have t0 := cell_keep hb4 v0; have t1 := cell_keep hb4 v1; have t2 := cell_keep hb4 v2; have t3 := cell_keep hb4 v3; have t4 := cell_keep hb4 v4; have t5 := cell_keep hb4 v5; have t6 := cell_keep hb4 v6; have O7 := Six.keep hb4 O5; have R7 := Six.keep hb4 R5; have hb6 := hb5.trans (hb4.mono hb5.size); have hz7 := O7.lt; obtain ⟨q0, q1, q2, q3, q4, q5⟩ := O7.cells; have p0 := O7.frozen 0; have p1 := O7.frozen 1; have p2 := O7.frozen 2; have p3 := O7.frozen 3; have p4 := O7.frozen 4; have p5 := O7.frozen 5; have hzS := block_lt_of_cell t0; simp only at hzS)
    | (with_reducible refine rounds_step ?_))
  have hset := O7.set0 (N0 / 1000000) (-((-N0) / 1000000))
  have hsR := (R7.far (p := ⟨w.heap.size + 1 + 1, 0, none⟩) (by simp) (.int .i64 (N0 / 1000000))).far (p := ⟨w.heap.size + 1 + 1, 1, none⟩) (by simp) (.int .i64 (-((-N0) / 1000000)))
  have hbS := (hb6.setCell (p := ⟨w.heap.size + 1 + 1, 0, none⟩) (by simp; omega) (.int .i64 (N0 / 1000000))).setCell (p := ⟨w.heap.size + 1 + 1, 1, none⟩) (by simp; omega) (.int .i64 (-((-N0) / 1000000)))
  refine gen_world (fun W => (w.heap.size + 1 + 1 < S) ∧ (W.cell? ⟨w.heap.size, 2, none⟩ = some (.int .i64 b.length) ∧ W.cell? ⟨w.heap.size, 3, none⟩ = some (.int .i64 b.width) ∧ W.cell? ⟨w.heap.size, 4, none⟩ = some (.int .i64 b.thick) ∧ W.cell? ⟨w.heap.size, 5, none⟩ = some (.int .i64 b.cut) ∧ W.cell? ⟨w.heap.size, 6, none⟩ = some (.int .i64 b.moisture)) ∧ (W.cell? ⟨S, 0, none⟩ = some (.string s.name) ∧ W.cell? ⟨S, 1, none⟩ = some (.int .i64 s.along) ∧ W.cell? ⟨S, 2, none⟩ = some (.int .i64 s.across) ∧ W.cell? ⟨S, 3, none⟩ = some (.int .i64 s.radial) ∧ W.cell? ⟨S, 4, none⟩ = some (.int .i64 s.density) ∧ W.cell? ⟨S, 5, none⟩ = some (.int .i64 s.stiffness) ∧ W.cell? ⟨S, 6, none⟩ = some (.int .i64 s.strength)) ∧ Six W (w.heap.size + 1 + 1) (N0 / 1000000) (-((-N0) / 1000000)) 0 0 0 0 ∧ Six W (w.heap.size + 1) 0 0 0 0 0 0 ∧ Below w.heap.size w W) ?_ ?_
  · exact ⟨hSO, ⟨by simp [go_sem, *], by simp [go_sem, *], by simp [go_sem, *], by simp [go_sem, *], by simp [go_sem, *]⟩, ⟨by simp [go_sem, *], by simp [go_sem, *], by simp [go_sem, *], by simp [go_sem, *], by simp [go_sem, *], by simp [go_sem, *], by simp [go_sem, *]⟩, hset, hsR, hbS⟩
  clear y2 y3 y4 y5 y6 v0 v1 v2 v3 v4 v5 v6 O5 R5 hb5 hb4 z2 z3 z4 z5 z6 t0 t1 t2 t3 t4 t5 t6 O7 R7 hb6 hz7 q0 q1 q2 q3 q4 q5 p0 p1 p2 p3 p4 p5 hzS hset hsR hbS

  rintro W1 ⟨hSO, ⟨e2, e3, e4, e5, e6⟩, ⟨s0, s1, s2, s3, s4, s5, s6⟩, hO, hR, hbW⟩
  obtain ⟨q0, q1, q2, q3, q4, q5⟩ := hO.cells
  have x1 := block_lt_of_cell e2
  have x2 := block_lt_of_cell s0
  have x3 := hO.lt
  have x4 := hR.lt
  simp only at x1 x2
  go_upto_region 11 with (first
    | (with_reducible refine rounds_step ?_)
    | (with_reducible refine wp_loop_rounds 4 ?_))
  refine wp_region_grew (by kernel_rfl) (by kernel_rfl) ?_
  repeat (first
    | go_big_quiet_step (first | (go_at_call 89; exact grew_of (timberRate0_any s b.cut 1 _)) | (go_at_call 77; exact grew_of_same (moved_is _ _ _ _ _ HM1.out (by omega) (by omega) hR1.1 hR1.2 m1 m2 hM.1 hM.2)))
    | quiet_step (first | (go_at_call 89; exact grew_of (timberRate0_any s b.cut 1 _)) | (go_at_call 77; exact grew_of_same (moved_is _ _ _ _ _ HM1.out (by omega) (by omega) hR1.1 hR1.2 m1 m2 hM.1 hM.2))))
  refine wpQuiet_nil ?_
  rintro _ ⟨g, rfl⟩
  have y2 := (cell?_grew W1 g _ 2 none x1).trans e2
  have y3 := (cell?_grew W1 g _ 3 none x1).trans e3
  have y4 := (cell?_grew W1 g _ 4 none x1).trans e4
  have y5 := (cell?_grew W1 g _ 5 none x1).trans e5
  have y6 := (cell?_grew W1 g _ 6 none x1).trans e6
  have v0 := (cell?_grew W1 g _ 0 none x2).trans s0
  have v1 := (cell?_grew W1 g _ 1 none x2).trans s1
  have v2 := (cell?_grew W1 g _ 2 none x2).trans s2
  have v3 := (cell?_grew W1 g _ 3 none x2).trans s3
  have v4 := (cell?_grew W1 g _ 4 none x2).trans s4
  have v5 := (cell?_grew W1 g _ 5 none x2).trans s5
  have v6 := (cell?_grew W1 g _ 6 none x2).trans s6
  have O5 := Six.keep (grew_below W1 g) hO
  have R5 := Six.keep (grew_below W1 g) hR
  have hb5 : Below w.heap.size w (grew W1 g) := grewB hbW (by omega) g
  clear e2 e3 e4 e5 e6 s0 s1 s2 s3 s4 s5 s6 hO hR hbW q0 q1 q2 q3 q4 q5 x1 x2 x3 x4
  generalize grew W1 g = V1 at *
  go_upto_region 11 with (first
    | (go_at_call 76; refine (interval_any _ _ _ (by omega) (by omega) (by omega) (by omega)).mono ?_; rintro e w4 ⟨rfl, hb4⟩; have z2 := cell_keep hb4 y2; have z3 := cell_keep hb4 y3; have z4 := cell_keep hb4 y4; have z5 := cell_keep hb4 y5; have z6 := cell_keep hb4 y6; have t0 := cell_keep hb4 v0; have t1 := cell_keep hb4 v1; have t2 := cell_keep hb4 v2; have t3 := cell_keep hb4 v3; have t4 := cell_keep hb4 v4; have t5 := cell_keep hb4 v5; have t6 := cell_keep hb4 v6; have O7 := Six.keep hb4 O5; have R7 := Six.keep hb4 R5; have hb6 := hb5.trans (hb4.mono hb5.size); have hz7 := O7.lt; obtain ⟨q0, q1, q2, q3, q4, q5⟩ := O7.cells; have p0 := O7.frozen 0; have p1 := O7.frozen 1; have p2 := O7.frozen 2; have p3 := O7.frozen 3; have p4 := O7.frozen 4; have p5 := O7.frozen 5; have hzS := block_lt_of_cell t0; simp only at hzS)
    | (with_reducible refine rounds_step ?_))
  have hset := O7.set1 (N1 / 1000000) (-((-N1) / 1000000))
  have hsR := (R7.far (p := ⟨w.heap.size + 1 + 1, 2, none⟩) (by simp) (.int .i64 (N1 / 1000000))).far (p := ⟨w.heap.size + 1 + 1, 3, none⟩) (by simp) (.int .i64 (-((-N1) / 1000000)))
  have hbS := (hb6.setCell (p := ⟨w.heap.size + 1 + 1, 2, none⟩) (by simp; omega) (.int .i64 (N1 / 1000000))).setCell (p := ⟨w.heap.size + 1 + 1, 3, none⟩) (by simp; omega) (.int .i64 (-((-N1) / 1000000)))
  refine gen_world (fun W => (w.heap.size + 1 + 1 < S) ∧ (W.cell? ⟨w.heap.size, 2, none⟩ = some (.int .i64 b.length) ∧ W.cell? ⟨w.heap.size, 3, none⟩ = some (.int .i64 b.width) ∧ W.cell? ⟨w.heap.size, 4, none⟩ = some (.int .i64 b.thick) ∧ W.cell? ⟨w.heap.size, 5, none⟩ = some (.int .i64 b.cut) ∧ W.cell? ⟨w.heap.size, 6, none⟩ = some (.int .i64 b.moisture)) ∧ (W.cell? ⟨S, 0, none⟩ = some (.string s.name) ∧ W.cell? ⟨S, 1, none⟩ = some (.int .i64 s.along) ∧ W.cell? ⟨S, 2, none⟩ = some (.int .i64 s.across) ∧ W.cell? ⟨S, 3, none⟩ = some (.int .i64 s.radial) ∧ W.cell? ⟨S, 4, none⟩ = some (.int .i64 s.density) ∧ W.cell? ⟨S, 5, none⟩ = some (.int .i64 s.stiffness) ∧ W.cell? ⟨S, 6, none⟩ = some (.int .i64 s.strength)) ∧ Six W (w.heap.size + 1 + 1) (N0 / 1000000) (-((-N0) / 1000000)) (N1 / 1000000) (-((-N1) / 1000000)) 0 0 ∧ Six W (w.heap.size + 1) 0 0 0 0 0 0 ∧ Below w.heap.size w W) ?_ ?_
  · exact ⟨hSO, ⟨by simp [go_sem, *], by simp [go_sem, *], by simp [go_sem, *], by simp [go_sem, *], by simp [go_sem, *]⟩, ⟨by simp [go_sem, *], by simp [go_sem, *], by simp [go_sem, *], by simp [go_sem, *], by simp [go_sem, *], by simp [go_sem, *], by simp [go_sem, *]⟩, hset, hsR, hbS⟩
  clear y2 y3 y4 y5 y6 v0 v1 v2 v3 v4 v5 v6 O5 R5 hb5 hb4 z2 z3 z4 z5 z6 t0 t1 t2 t3 t4 t5 t6 O7 R7 hb6 hz7 q0 q1 q2 q3 q4 q5 p0 p1 p2 p3 p4 p5 hzS hset hsR hbS

  rintro W2 ⟨hSO, ⟨e2, e3, e4, e5, e6⟩, ⟨s0, s1, s2, s3, s4, s5, s6⟩, hO, hR, hbW⟩
  obtain ⟨q0, q1, q2, q3, q4, q5⟩ := hO.cells
  have x1 := block_lt_of_cell e2
  have x2 := block_lt_of_cell s0
  have x3 := hO.lt
  have x4 := hR.lt
  simp only at x1 x2
  go_upto_region 11 with (first
    | (with_reducible refine rounds_step ?_)
    | (with_reducible refine wp_loop_rounds 4 ?_))
  refine wp_region_grew (by kernel_rfl) (by kernel_rfl) ?_
  repeat (first
    | go_big_quiet_step (first | (go_at_call 89; exact grew_of (timberRate0_any s b.cut 2 _)) | (go_at_call 77; exact grew_of_same (moved_is _ _ _ _ _ HM2.out (by omega) (by omega) hR2.1 hR2.2 m1 m2 hM.1 hM.2)))
    | quiet_step (first | (go_at_call 89; exact grew_of (timberRate0_any s b.cut 2 _)) | (go_at_call 77; exact grew_of_same (moved_is _ _ _ _ _ HM2.out (by omega) (by omega) hR2.1 hR2.2 m1 m2 hM.1 hM.2))))
  refine wpQuiet_nil ?_
  rintro _ ⟨g, rfl⟩
  have y2 := (cell?_grew W2 g _ 2 none x1).trans e2
  have y3 := (cell?_grew W2 g _ 3 none x1).trans e3
  have y4 := (cell?_grew W2 g _ 4 none x1).trans e4
  have y5 := (cell?_grew W2 g _ 5 none x1).trans e5
  have y6 := (cell?_grew W2 g _ 6 none x1).trans e6
  have v0 := (cell?_grew W2 g _ 0 none x2).trans s0
  have v1 := (cell?_grew W2 g _ 1 none x2).trans s1
  have v2 := (cell?_grew W2 g _ 2 none x2).trans s2
  have v3 := (cell?_grew W2 g _ 3 none x2).trans s3
  have v4 := (cell?_grew W2 g _ 4 none x2).trans s4
  have v5 := (cell?_grew W2 g _ 5 none x2).trans s5
  have v6 := (cell?_grew W2 g _ 6 none x2).trans s6
  have O5 := Six.keep (grew_below W2 g) hO
  have R5 := Six.keep (grew_below W2 g) hR
  have hb5 : Below w.heap.size w (grew W2 g) := grewB hbW (by omega) g
  clear e2 e3 e4 e5 e6 s0 s1 s2 s3 s4 s5 s6 hO hR hbW q0 q1 q2 q3 q4 q5 x1 x2 x3 x4
  generalize grew W2 g = V2 at *
  go_upto_region 14 with (first
    | (go_at_call 76; refine (interval_any _ _ _ (by omega) (by omega) (by omega) (by omega)).mono ?_; rintro e w4 ⟨rfl, hb4⟩; have z2 := cell_keep hb4 y2; have z3 := cell_keep hb4 y3; have z4 := cell_keep hb4 y4; have z5 := cell_keep hb4 y5; have z6 := cell_keep hb4 y6; have t0 := cell_keep hb4 v0; have t1 := cell_keep hb4 v1; have t2 := cell_keep hb4 v2; have t3 := cell_keep hb4 v3; have t4 := cell_keep hb4 v4; have t5 := cell_keep hb4 v5; have t6 := cell_keep hb4 v6; have O7 := Six.keep hb4 O5; have R7 := Six.keep hb4 R5; have hb6 := hb5.trans (hb4.mono hb5.size); have hz7 := O7.lt; obtain ⟨q0, q1, q2, q3, q4, q5⟩ := O7.cells; have p0 := O7.frozen 0; have p1 := O7.frozen 1; have p2 := O7.frozen 2; have p3 := O7.frozen 3; have p4 := O7.frozen 4; have p5 := O7.frozen 5; have hzS := block_lt_of_cell t0; simp only at hzS)
    | (with_reducible refine rounds_step ?_))
  have hset := O7.set2 (N2 / 1000000) (-((-N2) / 1000000))
  have hsR := (R7.far (p := ⟨w.heap.size + 1 + 1, 4, none⟩) (by simp) (.int .i64 (N2 / 1000000))).far (p := ⟨w.heap.size + 1 + 1, 5, none⟩) (by simp) (.int .i64 (-((-N2) / 1000000)))
  have hbS := (hb6.setCell (p := ⟨w.heap.size + 1 + 1, 4, none⟩) (by simp; omega) (.int .i64 (N2 / 1000000))).setCell (p := ⟨w.heap.size + 1 + 1, 5, none⟩) (by simp; omega) (.int .i64 (-((-N2) / 1000000)))
  refine gen_world (fun W => (w.heap.size + 1 + 1 < S) ∧ (W.cell? ⟨w.heap.size, 2, none⟩ = some (.int .i64 b.length) ∧ W.cell? ⟨w.heap.size, 3, none⟩ = some (.int .i64 b.width) ∧ W.cell? ⟨w.heap.size, 4, none⟩ = some (.int .i64 b.thick) ∧ W.cell? ⟨w.heap.size, 5, none⟩ = some (.int .i64 b.cut) ∧ W.cell? ⟨w.heap.size, 6, none⟩ = some (.int .i64 b.moisture)) ∧ (W.cell? ⟨S, 0, none⟩ = some (.string s.name) ∧ W.cell? ⟨S, 1, none⟩ = some (.int .i64 s.along) ∧ W.cell? ⟨S, 2, none⟩ = some (.int .i64 s.across) ∧ W.cell? ⟨S, 3, none⟩ = some (.int .i64 s.radial) ∧ W.cell? ⟨S, 4, none⟩ = some (.int .i64 s.density) ∧ W.cell? ⟨S, 5, none⟩ = some (.int .i64 s.stiffness) ∧ W.cell? ⟨S, 6, none⟩ = some (.int .i64 s.strength)) ∧ Six W (w.heap.size + 1 + 1) (N0 / 1000000) (-((-N0) / 1000000)) (N1 / 1000000) (-((-N1) / 1000000)) (N2 / 1000000) (-((-N2) / 1000000)) ∧ Six W (w.heap.size + 1) 0 0 0 0 0 0 ∧ Below w.heap.size w W) ?_ ?_
  · exact ⟨hSO, ⟨by simp [go_sem, *], by simp [go_sem, *], by simp [go_sem, *], by simp [go_sem, *], by simp [go_sem, *]⟩, ⟨by simp [go_sem, *], by simp [go_sem, *], by simp [go_sem, *], by simp [go_sem, *], by simp [go_sem, *], by simp [go_sem, *], by simp [go_sem, *]⟩, hset, hsR, hbS⟩
  clear y2 y3 y4 y5 y6 v0 v1 v2 v3 v4 v5 v6 O5 R5 hb5 hb4 z2 z3 z4 z5 z6 t0 t1 t2 t3 t4 t5 t6 O7 R7 hb6 hz7 q0 q1 q2 q3 q4 q5 p0 p1 p2 p3 p4 p5 hzS hset hsR hbS

  rintro W3 ⟨hSO, ⟨e2, e3, e4, e5, e6⟩, ⟨s0, s1, s2, s3, s4, s5, s6⟩, hO, hR, hbW⟩
  obtain ⟨q0, q1, q2, q3, q4, q5⟩ := hO.cells
  obtain ⟨r0, r1, r2, r3, r4, r5⟩ := hR.cells
  have p0 := hR.frozen 0
  have p1 := hR.frozen 1
  have p2 := hR.frozen 2
  have p3 := hR.frozen 3
  have p4 := hR.frozen 4
  have p5 := hR.frozen 5
  clear e2 e3 e4 e5 e6 s0 s1 s2 s3 s4 s5 s6 hO
  have HR := Lib.hid hR
  clear hR
  go_wp2_with fail
  have hset := HR.out.setAll (N0 / 1000000) (-((-N0) / 1000000)) (N1 / 1000000) (-((-N1) / 1000000)) (N2 / 1000000) (-((-N2) / 1000000))
  obtain ⟨g0, g1, g2, g3, g4, g5⟩ := hset.cells
  clear q0 q1 q2 q3 q4 q5 r0 r1 r2 r3 r4 r5 p0 p1 p2 p3 p4 p5 hset
  refine bodyPost_ret (v := .tuple #[.agg #[.int .i64 (N0 / 1000000), .int .i64 (-((-N0) / 1000000)), .int .i64 (N1 / 1000000), .int .i64 (-((-N1) / 1000000)), .int .i64 (N2 / 1000000), .int .i64 (-((-N2) / 1000000))], .int .i64 0]) (by simp [results, Try.results49, go_sem, g0, g1, g2, g3, g4, g5]) rfl ⟨rfl, by (repeat (first | assumption | (refine Below.setCell ?_ (by first | omega | (simp; omega) | (simp; done)) _) | (refine Below.alloc ?_ (by first | omega | (simp; omega) | (simp; done)) _)))⟩

end Go.Proofs.Ythhchnhidhgccaa
