/- TimberGrades returns true for every input: GradeOf returns the first grade that a board has, or the error that the document specifies. No condition. -/
import Derived.Test.YthhchnhidhgccaaGrade4
import Derived.Test.YthhchnhidhgccaaFactsGrades
set_option linter.unusedVariables false
set_option linter.unusedSimpArgs false
namespace Go.Proofs.Ythhchnhidhgccaa
open Go Go.ChangeShapes Go.WideShapes Go.ChangeAt Go.RowKit

theorem plainG_is (b : Board) (a : Option Addr) (c : Nat) (w : World) (hl : b.defects.length ≤ 9223372036854775807) (hw : b.wf) {v : Bool} (h : plainB b = v) :
    Calls Try.prog 20 #[.agg #[.string b.name, .string b.species, .int .i64 b.length, .int .i64 b.width, .int .i64 b.thick, .int .i64 b.cut, .int .i64 b.moisture, .slice a b.defects.length c]] w fun e w' => e = .returned (.bool v) ∧ Below w.heap.size w w' := by
  subst h; exact plain_any b a c w hl hw
theorem gradeOf_is (b : Board) (a : Option Addr) (c : Nat) (ga : Option Addr) (l : List Grade) (gc : Nat) (w : World) (hv : Rects.V w a b.defects) (hl : b.defects.length ≤ 9223372036854775807) (hwf : b.wf) (hg : Grades.V w ga l) (hgl : l.length ≤ 9223372036854775807) {v e0 : Int} (h1 : gradeOfV b l = v) (h2 : gradeOfE b l = e0) :
    Calls Try.prog 69 #[.agg #[.string b.name, .string b.species, .int .i64 b.length, .int .i64 b.width, .int .i64 b.thick, .int .i64 b.cut, .int .i64 b.moisture, .slice a b.defects.length c], .slice ga l.length gc] w fun e w' => e = .returned (.tuple #[.int .i64 v, .int .i64 e0]) ∧ Below w.heap.size w w' := by
  subst h1 h2; exact gradeOf_any b a c ga l gc w hv hl hwf hg hgl

set_option maxRecDepth 100000 in
set_option maxHeartbeats 8000000 in
theorem walkTimberGrades (b : Board) (ba : Option Addr) (bc : Nat) (la : Option Addr) (l : List Grade) (lc : Nat) (w : World) (Vb : Rects.V w ba b.defects) (Lb : b.defects.length ≤ 9223372036854775807) (Wb : b.wf) (Vl : Grades.V w la l) (Ll : l.length ≤ 9223372036854775807) (Cl : l.length ≤ lc) :
    Calls Try.prog 17 #[.agg #[.string b.name, .string b.species, .int .i64 b.length, .int .i64 b.width, .int .i64 b.thick, .int .i64 b.cut, .int .i64 b.moisture, .slice ba b.defects.length bc], .slice la l.length lc] w fun e w' => e = .returned (.bool true) ∧ Below w.heap.size w w' := by
  cases hpl : plainB b
  · have HPL := Lib.hid hpl
    clear hpl
    go_enter Try.func17, Try.ntmps17
    go_upto_region 1 with fail
    refine gen_world (fun W => (W.cell? ⟨w.heap.size, 0, none⟩ = some (.string b.name) ∧ W.cell? ⟨w.heap.size, 1, none⟩ = some (.string b.species) ∧ W.cell? ⟨w.heap.size, 2, none⟩ = some (.int .i64 b.length) ∧ W.cell? ⟨w.heap.size, 3, none⟩ = some (.int .i64 b.width) ∧ W.cell? ⟨w.heap.size, 4, none⟩ = some (.int .i64 b.thick) ∧ W.cell? ⟨w.heap.size, 5, none⟩ = some (.int .i64 b.cut) ∧ W.cell? ⟨w.heap.size, 6, none⟩ = some (.int .i64 b.moisture) ∧ W.cell? ⟨w.heap.size, 7, none⟩ = some (.slice ba b.defects.length bc)) ∧ w.heap.size < W.heap.size ∧ Below w.heap.size w W) ?_ ?_
    · exact ⟨⟨by simp [go_sem], by simp [go_sem], by simp [go_sem], by simp [go_sem], by simp [go_sem], by simp [go_sem], by simp [go_sem], by simp [go_sem]⟩, by simp, (Below.refl _ _).alloc (Nat.le_refl _) _⟩
    rintro W ⟨⟨e0, e1, e2, e3, e4, e5, e6, e7⟩, hzW, hbW⟩
    go_wp2_with (first
      | (go_at_call 18; refine (awake_any _).mono ?_; rintro e w1 ⟨rfl, hb1⟩; obtain ⟨hk1, hf1⟩ := bcell hb1; have hc1 := hbW.trans (hb1.mono hbW.size); have hz1 : w.heap.size < w1.heap.size := (by have := hb1.size; omega))
      | (go_at_call 20; refine (plainG_is b _ _ _ Lb Wb HPL.out).mono ?_; rintro e w2 ⟨rfl, hb2⟩; obtain ⟨hk2, hf2⟩ := bcell hb2; have hc2 := hc1.trans (hb2.mono hc1.size); have hz2 : w.heap.size < w2.heap.size := (by have := hb2.size; omega)))
    go_ret
    exact ⟨ret_bool (by go_tidy; first | rfl | (simp; done)), hc2⟩
  have HPL := Lib.hid hpl
  clear hpl
  by_cases h30 : 30 < l.length
  · have h30i : (30 : Int) < (l.length : Int) := by omega
    go_enter Try.func17, Try.ntmps17
    go_upto_region 1 with fail
    refine gen_world (fun W => (W.cell? ⟨w.heap.size, 0, none⟩ = some (.string b.name) ∧ W.cell? ⟨w.heap.size, 1, none⟩ = some (.string b.species) ∧ W.cell? ⟨w.heap.size, 2, none⟩ = some (.int .i64 b.length) ∧ W.cell? ⟨w.heap.size, 3, none⟩ = some (.int .i64 b.width) ∧ W.cell? ⟨w.heap.size, 4, none⟩ = some (.int .i64 b.thick) ∧ W.cell? ⟨w.heap.size, 5, none⟩ = some (.int .i64 b.cut) ∧ W.cell? ⟨w.heap.size, 6, none⟩ = some (.int .i64 b.moisture) ∧ W.cell? ⟨w.heap.size, 7, none⟩ = some (.slice ba b.defects.length bc)) ∧ w.heap.size < W.heap.size ∧ Below w.heap.size w W) ?_ ?_
    · exact ⟨⟨by simp [go_sem], by simp [go_sem], by simp [go_sem], by simp [go_sem], by simp [go_sem], by simp [go_sem], by simp [go_sem], by simp [go_sem]⟩, by simp, (Below.refl _ _).alloc (Nat.le_refl _) _⟩
    rintro W ⟨⟨e0, e1, e2, e3, e4, e5, e6, e7⟩, hzW, hbW⟩
    go_wp2_with (first
      | (go_at_call 18; refine (awake_any _).mono ?_; rintro e w1 ⟨rfl, hb1⟩; obtain ⟨hk1, hf1⟩ := bcell hb1; have hc1 := hbW.trans (hb1.mono hbW.size); have hz1 : w.heap.size < w1.heap.size := (by have := hb1.size; omega))
      | (go_at_call 20; refine (plainG_is b _ _ _ Lb Wb HPL.out).mono ?_; rintro e w2 ⟨rfl, hb2⟩; obtain ⟨hk2, hf2⟩ := bcell hb2; have hc2 := hc1.trans (hb2.mono hc1.size); have hz2 : w.heap.size < w2.heap.size := (by have := hb2.size; omega)))
    go_ret
    exact ⟨ret_bool (by go_tidy; first | rfl | (simp; done)), hc2⟩
  have h30i : ¬ (30 : Int) < (l.length : Int) := by omega
  go_enter Try.func17, Try.ntmps17
  go_upto_region 1 with fail
  refine gen_world (fun W => (W.cell? ⟨w.heap.size, 0, none⟩ = some (.string b.name) ∧ W.cell? ⟨w.heap.size, 1, none⟩ = some (.string b.species) ∧ W.cell? ⟨w.heap.size, 2, none⟩ = some (.int .i64 b.length) ∧ W.cell? ⟨w.heap.size, 3, none⟩ = some (.int .i64 b.width) ∧ W.cell? ⟨w.heap.size, 4, none⟩ = some (.int .i64 b.thick) ∧ W.cell? ⟨w.heap.size, 5, none⟩ = some (.int .i64 b.cut) ∧ W.cell? ⟨w.heap.size, 6, none⟩ = some (.int .i64 b.moisture) ∧ W.cell? ⟨w.heap.size, 7, none⟩ = some (.slice ba b.defects.length bc)) ∧ w.heap.size < W.heap.size ∧ Below w.heap.size w W) ?_ ?_
  · exact ⟨⟨by simp [go_sem], by simp [go_sem], by simp [go_sem], by simp [go_sem], by simp [go_sem], by simp [go_sem], by simp [go_sem], by simp [go_sem]⟩, by simp, (Below.refl _ _).alloc (Nat.le_refl _) _⟩
  rintro W ⟨⟨e0, e1, e2, e3, e4, e5, e6, e7⟩, hzW, hbW⟩
  go_wp2_with (first
    | (go_at_call 18; refine (awake_any _).mono ?_; rintro e w1 ⟨rfl, hb1⟩; obtain ⟨hk1, hf1⟩ := bcell hb1; have hc1 := hbW.trans (hb1.mono hbW.size); have hz1 : w.heap.size < w1.heap.size := (by have := hb1.size; omega))
    | (go_at_call 20; refine (plainG_is b _ _ _ Lb Wb HPL.out).mono ?_; rintro e w2 ⟨rfl, hb2⟩; obtain ⟨hk2, hf2⟩ := bcell hb2; have hc2 := hc1.trans (hb2.mono hc1.size); have hz2 : w.heap.size < w2.heap.size := (by have := hb2.size; omega)))
  refine gen_world (fun W => (W.cell? ⟨w.heap.size, 0, none⟩ = some (.string b.name) ∧ W.cell? ⟨w.heap.size, 1, none⟩ = some (.string b.species) ∧ W.cell? ⟨w.heap.size, 2, none⟩ = some (.int .i64 b.length) ∧ W.cell? ⟨w.heap.size, 3, none⟩ = some (.int .i64 b.width) ∧ W.cell? ⟨w.heap.size, 4, none⟩ = some (.int .i64 b.thick) ∧ W.cell? ⟨w.heap.size, 5, none⟩ = some (.int .i64 b.cut) ∧ W.cell? ⟨w.heap.size, 6, none⟩ = some (.int .i64 b.moisture) ∧ W.cell? ⟨w.heap.size, 7, none⟩ = some (.slice ba b.defects.length bc)) ∧ w.heap.size < W.heap.size ∧ Below w.heap.size w W) ?_ ?_
  · exact ⟨⟨by simp [go_sem, *], by simp [go_sem, *], by simp [go_sem, *], by simp [go_sem, *], by simp [go_sem, *], by simp [go_sem, *], by simp [go_sem, *], by simp [go_sem, *]⟩, hz2, hc2⟩
  clear e0 e1 e2 e3 e4 e5 e6 e7 hzW hbW hb1 hk1 hf1 hc1 hz1 hb2 hk2 hf2 hc2 hz2
  rintro W5 ⟨⟨e0, e1, e2, e3, e4, e5, e6, e7⟩, hz5, hc5⟩
  have hvl := Vl.keep hc5
  go_loop [5] (fun i => ∃ k : Nat, k ≤ l.length ∧ i = .int .i64 k) (fun i => l.length - (intOf i).toNat)
  case atStart => exact ⟨0, Nat.zero_le _, rfl⟩
  case round =>
    obtain ⟨k, hk, rfl⟩ := hrel
    by_cases hlt : k < l.length
    · obtain ⟨bk, off, rfl, hat⟩ := hvl.at_ hlt
      obtain ⟨c0, c1, c2, c3, hgw⟩ := hat
      have hnm : l[k].name.size ≤ 9223372036854775807 := hgw.1
      have hki : (k : Int) < (l.length : Int) := by omega
      generalize l[k] = g at *
      by_cases hn : 30 < g.name.size
      · have hni : (30 : Int) < (g.name.size : Int) := by omega
        go_wp2_with fail
        go_ret
        exact ⟨ret_bool (by go_tidy; first | rfl | (simp; done)), hc5⟩
      · have hni : ¬ (30 : Int) < (g.name.size : Int) := by omega
        go_wp2_with fail
        go_round
        case rel => exact ⟨k + 1, by omega, by go_num⟩
        case measure => simp [intOf]; omega
    · have hkn : ¬ (k : Int) < (l.length : Int) := by omega
      by_cases h0 : boardErr b = 0
      · by_cases h1 : gradesE l = 0
        · have HBE := Lib.hid h0
          have HCG := Lib.hid h1
          have HOK := Lib.hid (boardErr_ok h0)
          have hgo : gradesGo l = 0 := by
            unfold gradesE at h1
            split at h1
            · cases h1
            · exact h1
          have HGL := Lib.hid (fun g hg => (gradesGo_ok hgo g hg).2.1)
          obtain ⟨ix, hix⟩ : ∃ ix, ix = idxOf (gradeP b) l := ⟨_, rfl⟩
          have HIX := Lib.hid hix.symm
          by_cases h2 : ix < 0
          · have HE := Lib.hid (show gradeOfE b l = 12 by simp [gradeOfE, h0, h1, ← hix, h2])
            have HV := Lib.hid (show gradeOfV b l = 0 by simp [gradeOfV, HE.out])
            clear h0 h1 hgo hix
            go_wp2_with (first
              | (go_at_call 69; refine (gradeOf_is b _ _ _ l _ _ (Vb.keep hc5) Lb Wb (Vl.keep hc5) Ll HV.out HE.out).mono ?_; rintro e w6 ⟨rfl, hb6⟩; obtain ⟨hk6, hf6⟩ := bcell hb6; have hc6 := hc5.trans (hb6.mono hc5.size); have hz6 : w.heap.size < w6.heap.size := (by have := hb6.size; omega))
              | (go_at_call 34; refine (refBoardErr_is b _ _ _ (Vb.keep hc6) Lb Wb HBE.out).mono ?_; rintro e w7 ⟨rfl, hb7⟩; obtain ⟨hk7, hf7⟩ := bcell hb7; have hc7 := hc6.trans (hb7.mono hc6.size); have hz7 : w.heap.size < w7.heap.size := (by have := hb7.size; omega))
              | (go_at_call 70; refine (checkGrades_any _ l _ _ (Vl.keep hc7) Ll).mono ?_; rw [HCG.out]; rintro e w' ⟨rfl, rfl⟩)
              | (go_at_call 71; refine (gradeR_any b _ _ _ l _ _ (Vb.keep hc7) HOK.out (Vl.keep hc7) Ll HGL.out).mono ?_; rw [HIX.out]; rintro e w8 ⟨rfl, hb8⟩; obtain ⟨hk8, hf8⟩ := bcell hb8; have hc8 := hc7.trans (hb8.mono hc7.size); have hz8 : w.heap.size < w8.heap.size := (by have := hb8.size; omega)))
            go_ret
            exact ⟨ret_bool (by go_tidy; first | rfl | (simp; done)), hc8⟩
          · have HE := Lib.hid (show gradeOfE b l = 0 by simp [gradeOfE, h0, h1, ← hix, h2])
            have HV := Lib.hid (show gradeOfV b l = ix by simp [gradeOfV, HE.out, ← hix])
            clear h0 h1 hgo hix
            go_wp2_with (first
              | (go_at_call 69; refine (gradeOf_is b _ _ _ l _ _ (Vb.keep hc5) Lb Wb (Vl.keep hc5) Ll HV.out HE.out).mono ?_; rintro e w6 ⟨rfl, hb6⟩; obtain ⟨hk6, hf6⟩ := bcell hb6; have hc6 := hc5.trans (hb6.mono hc5.size); have hz6 : w.heap.size < w6.heap.size := (by have := hb6.size; omega))
              | (go_at_call 34; refine (refBoardErr_is b _ _ _ (Vb.keep hc6) Lb Wb HBE.out).mono ?_; rintro e w7 ⟨rfl, hb7⟩; obtain ⟨hk7, hf7⟩ := bcell hb7; have hc7 := hc6.trans (hb7.mono hc6.size); have hz7 : w.heap.size < w7.heap.size := (by have := hb7.size; omega))
              | (go_at_call 70; refine (checkGrades_any _ l _ _ (Vl.keep hc7) Ll).mono ?_; rw [HCG.out]; rintro e w' ⟨rfl, rfl⟩)
              | (go_at_call 71; refine (gradeR_any b _ _ _ l _ _ (Vb.keep hc7) HOK.out (Vl.keep hc7) Ll HGL.out).mono ?_; rw [HIX.out]; rintro e w8 ⟨rfl, hb8⟩; obtain ⟨hk8, hf8⟩ := bcell hb8; have hc8 := hc7.trans (hb8.mono hc7.size); have hz8 : w.heap.size < w8.heap.size := (by have := hb8.size; omega))
              | (go_at_call 71; refine (gradeR_any b _ _ _ l _ _ (Vb.keep hc8) HOK.out (Vl.keep hc8) Ll HGL.out).mono ?_; rw [HIX.out]; rintro e w9 ⟨rfl, hb9⟩; have hc9 := hc8.trans (hb9.mono hc8.size)))
            go_ret
            exact ⟨ret_bool (by go_tidy; first | rfl | (simp; done)), hc9⟩
        · obtain ⟨eg, heg⟩ : ∃ eg, eg = gradesE l := ⟨_, rfl⟩
          have HBE := Lib.hid h0
          have HCG := Lib.hid heg.symm
          have h1' : (eg == 0) = false := by simpa [heg] using h1
          have h1'' : (eg != 0) = true := by simp [heg, h1]
          have HE := Lib.hid (show gradeOfE b l = eg by simp [gradeOfE, h0, h1, heg])
          have HV := Lib.hid (show gradeOfV b l = 0 by simp [gradeOfV, HE.out, heg, h1])
          clear h0 h1 heg
          go_wp2_with (first
            | (go_at_call 69; refine (gradeOf_is b _ _ _ l _ _ (Vb.keep hc5) Lb Wb (Vl.keep hc5) Ll HV.out HE.out).mono ?_; rintro e w6 ⟨rfl, hb6⟩; obtain ⟨hk6, hf6⟩ := bcell hb6; have hc6 := hc5.trans (hb6.mono hc5.size); have hz6 : w.heap.size < w6.heap.size := (by have := hb6.size; omega))
            | (go_at_call 34; refine (refBoardErr_is b _ _ _ (Vb.keep hc6) Lb Wb HBE.out).mono ?_; rintro e w7 ⟨rfl, hb7⟩; obtain ⟨hk7, hf7⟩ := bcell hb7; have hc7 := hc6.trans (hb7.mono hc6.size); have hz7 : w.heap.size < w7.heap.size := (by have := hb7.size; omega))
            | (go_at_call 70; refine (checkGrades_any _ l _ _ (Vl.keep hc7) Ll).mono ?_; rw [HCG.out]; rintro e w' ⟨rfl, rfl⟩))
          go_ret
          exact ⟨ret_bool (by go_tidy; first | rfl | (simp; done)), hc7⟩
      · obtain ⟨eg, heg⟩ : ∃ eg, eg = boardErr b := ⟨_, rfl⟩
        have HBE := Lib.hid heg.symm
        have h1' : (eg == 0) = false := by simpa [heg] using h0
        have h1'' : (eg != 0) = true := by simp [heg, h0]
        have HE := Lib.hid (show gradeOfE b l = eg by simp [gradeOfE, h0, heg])
        have HV := Lib.hid (show gradeOfV b l = 0 by simp [gradeOfV, HE.out, heg, h0])
        clear h0 heg
        go_wp2_with (first
          | (go_at_call 69; refine (gradeOf_is b _ _ _ l _ _ (Vb.keep hc5) Lb Wb (Vl.keep hc5) Ll HV.out HE.out).mono ?_; rintro e w6 ⟨rfl, hb6⟩; obtain ⟨hk6, hf6⟩ := bcell hb6; have hc6 := hc5.trans (hb6.mono hc5.size); have hz6 : w.heap.size < w6.heap.size := (by have := hb6.size; omega))
          | (go_at_call 34; refine (refBoardErr_is b _ _ _ (Vb.keep hc6) Lb Wb HBE.out).mono ?_; rintro e w7 ⟨rfl, hb7⟩; obtain ⟨hk7, hf7⟩ := bcell hb7; have hc7 := hc6.trans (hb7.mono hc6.size); have hz7 : w.heap.size < w7.heap.size := (by have := hb7.size; omega)))
        go_ret
        exact ⟨ret_bool (by go_tidy; first | rfl | (simp; done)), hc7⟩
set_option maxRecDepth 100000 in
theorem timberGrades_walks : Walks 17 Try.f17 := by
  intro H enc W base args ds p hval hA hlt
  rw [Try.params17] at hA hval
  obtain ⟨v0, vs0, d0, ds0, p0, q0, hargs, rfl, rfl, ⟨fu0, hf0⟩, r0⟩ := trodAll_cons hA
  obtain ⟨v1, vs1, d1, ds1, p1, q1, rfl, rfl, rfl, ⟨fu1, hf1⟩, r1⟩ := trodAll_cons r0
  obtain ⟨rfl, rfl, rfl⟩ := trodAll_nil r1
  obtain rfl : args = #[v0, v1] := by cases args; simp_all
  obtain ⟨cs0, rfl, -⟩ := okWide_struct Try.underlying25 (hval 0 25 v0 rfl rfl)
  obtain ⟨b, hb0⟩ := Board.open_ hf0
  obtain ⟨a0, c0, hc0, V0, C0, M0, W0⟩ := hb0
  have hd0 : cs0 = #[.string b.name, .string b.species, .int .i64 b.length, .int .i64 b.width, .int .i64 b.thick, .int .i64 b.cut, .int .i64 b.moisture, .slice a0 b.defects.length c0] := by
    cases cs0; simpa [Value.cells] using hc0
  subst hd0
  obtain ⟨_, _, _, rfl⟩ := okWide_slice Try.underlying117 (hval 1 117 v1 rfl rfl)
  obtain ⟨a1, l, c1, e1, V1, C1, M1⟩ := Grades.open_ hf1
  rw [e1]
  exact walkTimberGrades b a0 c0 a1 l c1 W V0 (by unfold maxLen at M0; omega) W0 V1 (by unfold maxLen at M1; omega) C1

set_option maxRecDepth 100000 in
theorem timberGrades_holds : Rows.TimberGradesSaid :=
  law_holds (s := Rows.timberGradesSpec) (c := Rows.timberGradesRow) 17 Try.f17 rfl
    (fun H ds h => by match ds, h with | [_, _], _ => rfl) (by kernel_rfl) (by kernel_rfl)
    rfl rfl rfl rfl rfl rfl rfl ⟨rfl, rfl, rfl, rfl, rfl⟩ rfl rfl rfl rfl rfl rfl rfl rfl rfl rfl (fun _ _ => rfl) (by kernel_rfl) Try.func17
    timberGrades_closed (of_decide_eq_true (by kernel_rfl)) (by unfold Func.isWrapper; first | (rw [if_pos (by decide +kernel)]; kernel_rfl) | (rw [if_neg (by decide +kernel)]; exact ⟨rfl, rfl⟩)) (by kernel_rfl)
    (fun H enc os => ChangeSpec.witness6 (enc := enc) (C := Try.checked) false ⟨#[], #[.agg #[.string ⟨#[]⟩, .string ⟨#[]⟩, .int .i64 0, .int .i64 0, .int .i64 0, .int .i64 0, .int .i64 0, .slice none 0 0], .slice none 0 0], []⟩ 8 (by kernel_rfl) (by kernel_rfl) (by kernel_rfl) (by kernel_rfl))
    timberGrades_walks
end Go.Proofs.Ythhchnhidhgccaa
