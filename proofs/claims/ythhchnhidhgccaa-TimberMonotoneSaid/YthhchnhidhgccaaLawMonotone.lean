/- TimberMonotone returns true for every input: sizes never fall if the moisture rises, and do not change from the saturation on. No condition. -/
import Derived.Test.YthhchnhidhgccaaAwake2
import Derived.Test.YthhchnhidhgccaaMove2
import Derived.Test.YthhchnhidhgccaaFactsMonotone
set_option linter.unusedVariables false
set_option linter.unusedSimpArgs false
namespace Go.Proofs.Ythhchnhidhgccaa
open Go Go.ChangeShapes Go.WideShapes Go.ChangeAt Go.RowKit

set_option maxRecDepth 100000 in
set_option maxHeartbeats 4000000 in
theorem walkTimberMonotone (x : Movement) (a : Int) (b : Int) (w : World) (Wx : x.wf) (Wa : -9223372036854775808 ≤ a ∧ a ≤ 9223372036854775807) (Wb : -9223372036854775808 ≤ b ∧ b ≤ 9223372036854775807) :
    Calls Try.prog 5 #[.agg #[.int .i64 x.size, .int .i64 x.rate, .int .i64 x.from_], .int .i64 a, .int .i64 b] w fun e w' => e = .returned (.bool true) ∧ Below w.heap.size w w' := by
  by_cases h0 : moveErr x.size x.rate [x.from_, a, b] = 0
  · obtain ⟨⟨s1, s2⟩, ⟨r1, r2⟩, hms⟩ := moveErr_ok h0
    have hm1 := hms x.from_ (by simp)
    have hm2 := hms a (by simp)
    have hm3 := hms b (by simp)
    clear hms
    have HM := Lib.hid h0
    by_cases hab : b < a
    · clear h0
      go_enter Try.func5, Try.ntmps5
      go_upto_region 1 with fail
      refine gen_world (fun W => W.cell? ⟨w.heap.size, 0, none⟩ = some (.int .i64 x.size) ∧ W.cell? ⟨w.heap.size, 1, none⟩ = some (.int .i64 x.rate) ∧ W.cell? ⟨w.heap.size, 2, none⟩ = some (.int .i64 x.from_) ∧ Below w.heap.size w W) ?_ ?_
      · exact ⟨by simp [go_sem], by simp [go_sem], by simp [go_sem], (Below.refl _ _).alloc (Nat.le_refl _) _⟩
      rintro W ⟨x0, x1, x2, hbW⟩
      go_wp2_with (first
        | (go_at_call 18; refine (awake_any _).mono ?_; rintro e w1 ⟨rfl, hb1⟩; have y0 := cell_keep hb1 x0; have y1 := cell_keep hb1 x1; have y2 := cell_keep hb1 x2; have hz1 := block_lt_of_cell y0; simp only at hz1; have hc1 := hbW.trans (hb1.mono hbW.size))
        | (go_at_call 26; refine (refMoveErr_is _ _ _ [x.from_, a, b] _ _ _ HM.out rfl (intsV_new3 _ _ _ _ _ _ (by simp)) (by simp)).mono ?_; rintro e w' ⟨rfl, rfl⟩))
      go_ret
      exact ⟨ret_bool (by go_tidy; first | rfl | (simp; done) | (simp; omega)), by (repeat (first | assumption | (refine Below.setCell ?_ (by first | omega | (simp; omega) | (simp; done)) _) | (refine Below.alloc ?_ (by first | omega | (simp; omega) | (simp; done)) _)))⟩
    · have q1 := moved_range s1 s2 r1 r2 hm2.1 hm2.2 hm1.1 hm1.2
      have q2 := moved_range s1 s2 r1 r2 hm3.1 hm3.2 hm1.1 hm1.2
      have q3 : moved x.size x.rate x.from_ a ≤ moved x.size x.rate x.from_ b := moved_mono s1 r1 (by omega)
      have HE1 : atE x.size x.rate x.from_ a = 0 := moveErr_two h0 (by simp; omega)
      have HE2 : atE x.size x.rate x.from_ b = 0 := moveErr_two h0 (by simp; omega)
      have HA := Lib.hid (show atLo x.size x.rate x.from_ a = moved x.size x.rate x.from_ a / 1000000 ∧ atHi x.size x.rate x.from_ a = -((-moved x.size x.rate x.from_ a) / 1000000) ∧ atE x.size x.rate x.from_ a = 0 from ⟨by simp [atLo, HE1], by simp [atHi, HE1], HE1⟩)
      have HB := Lib.hid (show atLo x.size x.rate x.from_ b = moved x.size x.rate x.from_ b / 1000000 ∧ atHi x.size x.rate x.from_ b = -((-moved x.size x.rate x.from_ b) / 1000000) ∧ atE x.size x.rate x.from_ b = 0 from ⟨by simp [atLo, HE2], by simp [atHi, HE2], HE2⟩)
      have HS := Lib.hid (fun h : 280 ≤ a => moved_sat (size := x.size) (rate := x.rate) (f := x.from_) h (show 280 ≤ b by omega))
      have HR := Lib.hid (fun h : x.from_ ≤ a => moved_rate (rate := x.rate) s1 (show x.from_ ≤ b by omega))
      have HN := Lib.hid (fun h : x.rate + 1 ≤ 2000 => moved_range s1 s2 (show 0 ≤ x.rate + 1 by omega) h hm3.1 hm3.2 hm1.1 hm1.2)
      have HC0 := Lib.hid (fun h : x.rate + 1 ≤ 2000 => show atE x.size (x.rate + 1) x.from_ b = 0 by
        unfold atE moveErr
        rw [if_neg]
        simp only [not_or, Classical.not_not]
        exact ⟨by simp [withinB]; omega, by simp [withinB]; omega, by simp [withinB]; omega⟩)
      clear h0 HE1 HE2
      generalize moved x.size x.rate x.from_ a = M1 at *
      generalize moved x.size x.rate x.from_ b = M2 at *
      have HX : HC0 = HC0 := rfl
      clear HX
      by_cases hsat : 280 ≤ a
      · obtain rfl : M1 = M2 := HS.out hsat
        by_cases hr1 : 2000 ≤ x.rate
        · clear HC0 HN HR
          go_enter Try.func5, Try.ntmps5
          go_upto_region 1 with fail
          refine gen_world (fun W => W.cell? ⟨w.heap.size, 0, none⟩ = some (.int .i64 x.size) ∧ W.cell? ⟨w.heap.size, 1, none⟩ = some (.int .i64 x.rate) ∧ W.cell? ⟨w.heap.size, 2, none⟩ = some (.int .i64 x.from_) ∧ Below w.heap.size w W) ?_ ?_
          · exact ⟨by simp [go_sem], by simp [go_sem], by simp [go_sem], (Below.refl _ _).alloc (Nat.le_refl _) _⟩
          rintro W ⟨x0, x1, x2, hbW⟩
          go_wp2_with (first
            | (go_at_call 18; refine (awake_any _).mono ?_; rintro e w1 ⟨rfl, hb1⟩; have y0 := cell_keep hb1 x0; have y1 := cell_keep hb1 x1; have y2 := cell_keep hb1 x2; have hz1 := block_lt_of_cell y0; simp only at hz1; have hc1 := hbW.trans (hb1.mono hbW.size))
            | (go_at_call 26; refine (refMoveErr_is _ _ _ [x.from_, a, b] _ _ _ HM.out rfl (intsV_new3 _ _ _ _ _ _ (by simp)) (by simp)).mono ?_; rintro e w' ⟨rfl, rfl⟩)
            | (go_at_call 29; (with_reducible refine (timberAt_is x.size x.rate ⟨x.from_, a⟩ _ HA.out.1 HA.out.2.1 HA.out.2.2).mono ?_); rintro e w2 ⟨rfl, hb2⟩; have z0 : w2.cell? ⟨w.heap.size, 0, none⟩ = some (.int .i64 x.size) := (cell_keep hb2 (by simp [go_sem, y0, hz1])); have z1 : w2.cell? ⟨w.heap.size, 1, none⟩ = some (.int .i64 x.rate) := (cell_keep hb2 (by simp [go_sem, y1, hz1])); have z2 : w2.cell? ⟨w.heap.size, 2, none⟩ = some (.int .i64 x.from_) := (cell_keep hb2 (by simp [go_sem, y2, hz1])); have hz2 := block_lt_of_cell z0; simp only at hz2; have hc2 : Below w.heap.size w w2 := ((hc1.alloc (by omega) _).trans (hb2.mono (by simp; omega))))
            | (go_at_call 29; (with_reducible refine (timberAt_is x.size x.rate ⟨x.from_, b⟩ _ HB.out.1 HB.out.2.1 HB.out.2.2).mono ?_); rintro e w3 ⟨rfl, hb3⟩; have i0 : w3.cell? ⟨w2.heap.size, 0, none⟩ = some (.int .i64 (M1 / 1000000)) := (cell_keep hb3 (by simp [go_sem])); have i1 : w3.cell? ⟨w2.heap.size, 1, none⟩ = some (.int .i64 (-((-M1) / 1000000))) := (cell_keep hb3 (by simp [go_sem])); have p0 : w3.cell? ⟨w.heap.size, 0, none⟩ = some (.int .i64 x.size) := (cell_keep hb3 (by simp [go_sem, z0, hz2])); have p1 : w3.cell? ⟨w.heap.size, 1, none⟩ = some (.int .i64 x.rate) := (cell_keep hb3 (by simp [go_sem, z1, hz2])); have p2 : w3.cell? ⟨w.heap.size, 2, none⟩ = some (.int .i64 x.from_) := (cell_keep hb3 (by simp [go_sem, z2, hz2])); have hz3 := block_lt_of_cell p0; have hz4 := block_lt_of_cell i0; simp only at hz3 hz4; have hc3 : Below w.heap.size w w3 := ((hc2.alloc (by omega) _).trans (hb3.mono (by simp; omega)))))
          go_ret
          exact ⟨ret_bool (by go_tidy; first | rfl | (simp; done) | (simp; omega)), by (repeat (first | assumption | (refine Below.setCell ?_ (by first | omega | (simp; omega) | (simp; done)) _) | (refine Below.alloc ?_ (by first | omega | (simp; omega) | (simp; done)) _)))⟩
        by_cases hr2 : a < x.from_
        · clear HC0 HN HR
          go_enter Try.func5, Try.ntmps5
          go_upto_region 1 with fail
          refine gen_world (fun W => W.cell? ⟨w.heap.size, 0, none⟩ = some (.int .i64 x.size) ∧ W.cell? ⟨w.heap.size, 1, none⟩ = some (.int .i64 x.rate) ∧ W.cell? ⟨w.heap.size, 2, none⟩ = some (.int .i64 x.from_) ∧ Below w.heap.size w W) ?_ ?_
          · exact ⟨by simp [go_sem], by simp [go_sem], by simp [go_sem], (Below.refl _ _).alloc (Nat.le_refl _) _⟩
          rintro W ⟨x0, x1, x2, hbW⟩
          go_wp2_with (first
            | (go_at_call 18; refine (awake_any _).mono ?_; rintro e w1 ⟨rfl, hb1⟩; have y0 := cell_keep hb1 x0; have y1 := cell_keep hb1 x1; have y2 := cell_keep hb1 x2; have hz1 := block_lt_of_cell y0; simp only at hz1; have hc1 := hbW.trans (hb1.mono hbW.size))
            | (go_at_call 26; refine (refMoveErr_is _ _ _ [x.from_, a, b] _ _ _ HM.out rfl (intsV_new3 _ _ _ _ _ _ (by simp)) (by simp)).mono ?_; rintro e w' ⟨rfl, rfl⟩)
            | (go_at_call 29; (with_reducible refine (timberAt_is x.size x.rate ⟨x.from_, a⟩ _ HA.out.1 HA.out.2.1 HA.out.2.2).mono ?_); rintro e w2 ⟨rfl, hb2⟩; have z0 : w2.cell? ⟨w.heap.size, 0, none⟩ = some (.int .i64 x.size) := (cell_keep hb2 (by simp [go_sem, y0, hz1])); have z1 : w2.cell? ⟨w.heap.size, 1, none⟩ = some (.int .i64 x.rate) := (cell_keep hb2 (by simp [go_sem, y1, hz1])); have z2 : w2.cell? ⟨w.heap.size, 2, none⟩ = some (.int .i64 x.from_) := (cell_keep hb2 (by simp [go_sem, y2, hz1])); have hz2 := block_lt_of_cell z0; simp only at hz2; have hc2 : Below w.heap.size w w2 := ((hc1.alloc (by omega) _).trans (hb2.mono (by simp; omega))))
            | (go_at_call 29; (with_reducible refine (timberAt_is x.size x.rate ⟨x.from_, b⟩ _ HB.out.1 HB.out.2.1 HB.out.2.2).mono ?_); rintro e w3 ⟨rfl, hb3⟩; have i0 : w3.cell? ⟨w2.heap.size, 0, none⟩ = some (.int .i64 (M1 / 1000000)) := (cell_keep hb3 (by simp [go_sem])); have i1 : w3.cell? ⟨w2.heap.size, 1, none⟩ = some (.int .i64 (-((-M1) / 1000000))) := (cell_keep hb3 (by simp [go_sem])); have p0 : w3.cell? ⟨w.heap.size, 0, none⟩ = some (.int .i64 x.size) := (cell_keep hb3 (by simp [go_sem, z0, hz2])); have p1 : w3.cell? ⟨w.heap.size, 1, none⟩ = some (.int .i64 x.rate) := (cell_keep hb3 (by simp [go_sem, z1, hz2])); have p2 : w3.cell? ⟨w.heap.size, 2, none⟩ = some (.int .i64 x.from_) := (cell_keep hb3 (by simp [go_sem, z2, hz2])); have hz3 := block_lt_of_cell p0; have hz4 := block_lt_of_cell i0; simp only at hz3 hz4; have hc3 : Below w.heap.size w w3 := ((hc2.alloc (by omega) _).trans (hb3.mono (by simp; omega)))))
          go_ret
          exact ⟨ret_bool (by go_tidy; first | rfl | (simp; done) | (simp; omega)), by (repeat (first | assumption | (refine Below.setCell ?_ (by first | omega | (simp; omega) | (simp; done)) _) | (refine Below.alloc ?_ (by first | omega | (simp; omega) | (simp; done)) _)))⟩
        have q4 := HR.out (by omega)
        have q5 := HN.out (by omega)
        have HE3 := HC0.out (by omega)
        have HC := Lib.hid (show atLo x.size (x.rate + 1) x.from_ b = moved x.size (x.rate + 1) x.from_ b / 1000000 ∧ atHi x.size (x.rate + 1) x.from_ b = -((-moved x.size (x.rate + 1) x.from_ b) / 1000000) ∧ atE x.size (x.rate + 1) x.from_ b = 0 from ⟨by simp [atLo, HE3], by simp [atHi, HE3], HE3⟩)
        clear HE3 HC0 HN HR
        generalize moved x.size (x.rate + 1) x.from_ b = M3 at *
        go_enter Try.func5, Try.ntmps5
        go_upto_region 1 with fail
        refine gen_world (fun W => W.cell? ⟨w.heap.size, 0, none⟩ = some (.int .i64 x.size) ∧ W.cell? ⟨w.heap.size, 1, none⟩ = some (.int .i64 x.rate) ∧ W.cell? ⟨w.heap.size, 2, none⟩ = some (.int .i64 x.from_) ∧ Below w.heap.size w W) ?_ ?_
        · exact ⟨by simp [go_sem], by simp [go_sem], by simp [go_sem], (Below.refl _ _).alloc (Nat.le_refl _) _⟩
        rintro W ⟨x0, x1, x2, hbW⟩
        go_wp2_with (first
          | (go_at_call 18; refine (awake_any _).mono ?_; rintro e w1 ⟨rfl, hb1⟩; have y0 := cell_keep hb1 x0; have y1 := cell_keep hb1 x1; have y2 := cell_keep hb1 x2; have hz1 := block_lt_of_cell y0; simp only at hz1; have hc1 := hbW.trans (hb1.mono hbW.size))
          | (go_at_call 26; refine (refMoveErr_is _ _ _ [x.from_, a, b] _ _ _ HM.out rfl (intsV_new3 _ _ _ _ _ _ (by simp)) (by simp)).mono ?_; rintro e w' ⟨rfl, rfl⟩)
          | (go_at_call 29; (with_reducible refine (timberAt_is x.size x.rate ⟨x.from_, a⟩ _ HA.out.1 HA.out.2.1 HA.out.2.2).mono ?_); rintro e w2 ⟨rfl, hb2⟩; have z0 : w2.cell? ⟨w.heap.size, 0, none⟩ = some (.int .i64 x.size) := (cell_keep hb2 (by simp [go_sem, y0, hz1])); have z1 : w2.cell? ⟨w.heap.size, 1, none⟩ = some (.int .i64 x.rate) := (cell_keep hb2 (by simp [go_sem, y1, hz1])); have z2 : w2.cell? ⟨w.heap.size, 2, none⟩ = some (.int .i64 x.from_) := (cell_keep hb2 (by simp [go_sem, y2, hz1])); have hz2 := block_lt_of_cell z0; simp only at hz2; have hc2 : Below w.heap.size w w2 := ((hc1.alloc (by omega) _).trans (hb2.mono (by simp; omega))))
          | (go_at_call 29; (with_reducible refine (timberAt_is x.size x.rate ⟨x.from_, b⟩ _ HB.out.1 HB.out.2.1 HB.out.2.2).mono ?_); rintro e w3 ⟨rfl, hb3⟩; have i0 : w3.cell? ⟨w2.heap.size, 0, none⟩ = some (.int .i64 (M1 / 1000000)) := (cell_keep hb3 (by simp [go_sem])); have i1 : w3.cell? ⟨w2.heap.size, 1, none⟩ = some (.int .i64 (-((-M1) / 1000000))) := (cell_keep hb3 (by simp [go_sem])); have p0 : w3.cell? ⟨w.heap.size, 0, none⟩ = some (.int .i64 x.size) := (cell_keep hb3 (by simp [go_sem, z0, hz2])); have p1 : w3.cell? ⟨w.heap.size, 1, none⟩ = some (.int .i64 x.rate) := (cell_keep hb3 (by simp [go_sem, z1, hz2])); have p2 : w3.cell? ⟨w.heap.size, 2, none⟩ = some (.int .i64 x.from_) := (cell_keep hb3 (by simp [go_sem, z2, hz2])); have hz3 := block_lt_of_cell p0; have hz4 := block_lt_of_cell i0; simp only at hz3 hz4; have hc3 : Below w.heap.size w w3 := ((hc2.alloc (by omega) _).trans (hb3.mono (by simp; omega))))
          | (go_at_call 29; (with_reducible refine (timberAt_is x.size (x.rate + 1) ⟨x.from_, b⟩ _ HC.out.1 HC.out.2.1 HC.out.2.2).mono ?_); rintro e w4 ⟨rfl, hb4⟩; have k0 : w4.cell? ⟨w3.heap.size, 0, none⟩ = some (.int .i64 (M1 / 1000000)) := (cell_keep hb4 (by simp [go_sem])); have k1 : w4.cell? ⟨w3.heap.size, 1, none⟩ = some (.int .i64 (-((-M1) / 1000000))) := (cell_keep hb4 (by simp [go_sem])); have hz5 := block_lt_of_cell k0; simp only at hz5; have hc4 : Below w.heap.size w w4 := ((hc3.alloc (by omega) _).trans (hb4.mono (by simp; omega)))))
        go_ret
        exact ⟨ret_bool (by go_tidy; first | rfl | (simp; done) | (simp; omega)), by (repeat (first | assumption | (refine Below.setCell ?_ (by first | omega | (simp; omega) | (simp; done)) _) | (refine Below.alloc ?_ (by first | omega | (simp; omega) | (simp; done)) _)))⟩
      · by_cases hr1 : 2000 ≤ x.rate
        · clear HC0 HN HR
          go_enter Try.func5, Try.ntmps5
          go_upto_region 1 with fail
          refine gen_world (fun W => W.cell? ⟨w.heap.size, 0, none⟩ = some (.int .i64 x.size) ∧ W.cell? ⟨w.heap.size, 1, none⟩ = some (.int .i64 x.rate) ∧ W.cell? ⟨w.heap.size, 2, none⟩ = some (.int .i64 x.from_) ∧ Below w.heap.size w W) ?_ ?_
          · exact ⟨by simp [go_sem], by simp [go_sem], by simp [go_sem], (Below.refl _ _).alloc (Nat.le_refl _) _⟩
          rintro W ⟨x0, x1, x2, hbW⟩
          go_wp2_with (first
            | (go_at_call 18; refine (awake_any _).mono ?_; rintro e w1 ⟨rfl, hb1⟩; have y0 := cell_keep hb1 x0; have y1 := cell_keep hb1 x1; have y2 := cell_keep hb1 x2; have hz1 := block_lt_of_cell y0; simp only at hz1; have hc1 := hbW.trans (hb1.mono hbW.size))
            | (go_at_call 26; refine (refMoveErr_is _ _ _ [x.from_, a, b] _ _ _ HM.out rfl (intsV_new3 _ _ _ _ _ _ (by simp)) (by simp)).mono ?_; rintro e w' ⟨rfl, rfl⟩)
            | (go_at_call 29; (with_reducible refine (timberAt_is x.size x.rate ⟨x.from_, a⟩ _ HA.out.1 HA.out.2.1 HA.out.2.2).mono ?_); rintro e w2 ⟨rfl, hb2⟩; have z0 : w2.cell? ⟨w.heap.size, 0, none⟩ = some (.int .i64 x.size) := (cell_keep hb2 (by simp [go_sem, y0, hz1])); have z1 : w2.cell? ⟨w.heap.size, 1, none⟩ = some (.int .i64 x.rate) := (cell_keep hb2 (by simp [go_sem, y1, hz1])); have z2 : w2.cell? ⟨w.heap.size, 2, none⟩ = some (.int .i64 x.from_) := (cell_keep hb2 (by simp [go_sem, y2, hz1])); have hz2 := block_lt_of_cell z0; simp only at hz2; have hc2 : Below w.heap.size w w2 := ((hc1.alloc (by omega) _).trans (hb2.mono (by simp; omega))))
            | (go_at_call 29; (with_reducible refine (timberAt_is x.size x.rate ⟨x.from_, b⟩ _ HB.out.1 HB.out.2.1 HB.out.2.2).mono ?_); rintro e w3 ⟨rfl, hb3⟩; have i0 : w3.cell? ⟨w2.heap.size, 0, none⟩ = some (.int .i64 (M1 / 1000000)) := (cell_keep hb3 (by simp [go_sem])); have i1 : w3.cell? ⟨w2.heap.size, 1, none⟩ = some (.int .i64 (-((-M1) / 1000000))) := (cell_keep hb3 (by simp [go_sem])); have p0 : w3.cell? ⟨w.heap.size, 0, none⟩ = some (.int .i64 x.size) := (cell_keep hb3 (by simp [go_sem, z0, hz2])); have p1 : w3.cell? ⟨w.heap.size, 1, none⟩ = some (.int .i64 x.rate) := (cell_keep hb3 (by simp [go_sem, z1, hz2])); have p2 : w3.cell? ⟨w.heap.size, 2, none⟩ = some (.int .i64 x.from_) := (cell_keep hb3 (by simp [go_sem, z2, hz2])); have hz3 := block_lt_of_cell p0; have hz4 := block_lt_of_cell i0; simp only at hz3 hz4; have hc3 : Below w.heap.size w w3 := ((hc2.alloc (by omega) _).trans (hb3.mono (by simp; omega)))))
          go_ret
          exact ⟨ret_bool (by go_tidy; first | rfl | (simp; done) | (simp; omega)), by (repeat (first | assumption | (refine Below.setCell ?_ (by first | omega | (simp; omega) | (simp; done)) _) | (refine Below.alloc ?_ (by first | omega | (simp; omega) | (simp; done)) _)))⟩
        by_cases hr2 : a < x.from_
        · clear HC0 HN HR
          go_enter Try.func5, Try.ntmps5
          go_upto_region 1 with fail
          refine gen_world (fun W => W.cell? ⟨w.heap.size, 0, none⟩ = some (.int .i64 x.size) ∧ W.cell? ⟨w.heap.size, 1, none⟩ = some (.int .i64 x.rate) ∧ W.cell? ⟨w.heap.size, 2, none⟩ = some (.int .i64 x.from_) ∧ Below w.heap.size w W) ?_ ?_
          · exact ⟨by simp [go_sem], by simp [go_sem], by simp [go_sem], (Below.refl _ _).alloc (Nat.le_refl _) _⟩
          rintro W ⟨x0, x1, x2, hbW⟩
          go_wp2_with (first
            | (go_at_call 18; refine (awake_any _).mono ?_; rintro e w1 ⟨rfl, hb1⟩; have y0 := cell_keep hb1 x0; have y1 := cell_keep hb1 x1; have y2 := cell_keep hb1 x2; have hz1 := block_lt_of_cell y0; simp only at hz1; have hc1 := hbW.trans (hb1.mono hbW.size))
            | (go_at_call 26; refine (refMoveErr_is _ _ _ [x.from_, a, b] _ _ _ HM.out rfl (intsV_new3 _ _ _ _ _ _ (by simp)) (by simp)).mono ?_; rintro e w' ⟨rfl, rfl⟩)
            | (go_at_call 29; (with_reducible refine (timberAt_is x.size x.rate ⟨x.from_, a⟩ _ HA.out.1 HA.out.2.1 HA.out.2.2).mono ?_); rintro e w2 ⟨rfl, hb2⟩; have z0 : w2.cell? ⟨w.heap.size, 0, none⟩ = some (.int .i64 x.size) := (cell_keep hb2 (by simp [go_sem, y0, hz1])); have z1 : w2.cell? ⟨w.heap.size, 1, none⟩ = some (.int .i64 x.rate) := (cell_keep hb2 (by simp [go_sem, y1, hz1])); have z2 : w2.cell? ⟨w.heap.size, 2, none⟩ = some (.int .i64 x.from_) := (cell_keep hb2 (by simp [go_sem, y2, hz1])); have hz2 := block_lt_of_cell z0; simp only at hz2; have hc2 : Below w.heap.size w w2 := ((hc1.alloc (by omega) _).trans (hb2.mono (by simp; omega))))
            | (go_at_call 29; (with_reducible refine (timberAt_is x.size x.rate ⟨x.from_, b⟩ _ HB.out.1 HB.out.2.1 HB.out.2.2).mono ?_); rintro e w3 ⟨rfl, hb3⟩; have i0 : w3.cell? ⟨w2.heap.size, 0, none⟩ = some (.int .i64 (M1 / 1000000)) := (cell_keep hb3 (by simp [go_sem])); have i1 : w3.cell? ⟨w2.heap.size, 1, none⟩ = some (.int .i64 (-((-M1) / 1000000))) := (cell_keep hb3 (by simp [go_sem])); have p0 : w3.cell? ⟨w.heap.size, 0, none⟩ = some (.int .i64 x.size) := (cell_keep hb3 (by simp [go_sem, z0, hz2])); have p1 : w3.cell? ⟨w.heap.size, 1, none⟩ = some (.int .i64 x.rate) := (cell_keep hb3 (by simp [go_sem, z1, hz2])); have p2 : w3.cell? ⟨w.heap.size, 2, none⟩ = some (.int .i64 x.from_) := (cell_keep hb3 (by simp [go_sem, z2, hz2])); have hz3 := block_lt_of_cell p0; have hz4 := block_lt_of_cell i0; simp only at hz3 hz4; have hc3 : Below w.heap.size w w3 := ((hc2.alloc (by omega) _).trans (hb3.mono (by simp; omega)))))
          go_ret
          exact ⟨ret_bool (by go_tidy; first | rfl | (simp; done) | (simp; omega)), by (repeat (first | assumption | (refine Below.setCell ?_ (by first | omega | (simp; omega) | (simp; done)) _) | (refine Below.alloc ?_ (by first | omega | (simp; omega) | (simp; done)) _)))⟩
        have q4 := HR.out (by omega)
        have q5 := HN.out (by omega)
        have HE3 := HC0.out (by omega)
        have HC := Lib.hid (show atLo x.size (x.rate + 1) x.from_ b = moved x.size (x.rate + 1) x.from_ b / 1000000 ∧ atHi x.size (x.rate + 1) x.from_ b = -((-moved x.size (x.rate + 1) x.from_ b) / 1000000) ∧ atE x.size (x.rate + 1) x.from_ b = 0 from ⟨by simp [atLo, HE3], by simp [atHi, HE3], HE3⟩)
        clear HE3 HC0 HN HR
        generalize moved x.size (x.rate + 1) x.from_ b = M3 at *
        go_enter Try.func5, Try.ntmps5
        go_upto_region 1 with fail
        refine gen_world (fun W => W.cell? ⟨w.heap.size, 0, none⟩ = some (.int .i64 x.size) ∧ W.cell? ⟨w.heap.size, 1, none⟩ = some (.int .i64 x.rate) ∧ W.cell? ⟨w.heap.size, 2, none⟩ = some (.int .i64 x.from_) ∧ Below w.heap.size w W) ?_ ?_
        · exact ⟨by simp [go_sem], by simp [go_sem], by simp [go_sem], (Below.refl _ _).alloc (Nat.le_refl _) _⟩
        rintro W ⟨x0, x1, x2, hbW⟩
        go_wp2_with (first
          | (go_at_call 18; refine (awake_any _).mono ?_; rintro e w1 ⟨rfl, hb1⟩; have y0 := cell_keep hb1 x0; have y1 := cell_keep hb1 x1; have y2 := cell_keep hb1 x2; have hz1 := block_lt_of_cell y0; simp only at hz1; have hc1 := hbW.trans (hb1.mono hbW.size))
          | (go_at_call 26; refine (refMoveErr_is _ _ _ [x.from_, a, b] _ _ _ HM.out rfl (intsV_new3 _ _ _ _ _ _ (by simp)) (by simp)).mono ?_; rintro e w' ⟨rfl, rfl⟩)
          | (go_at_call 29; (with_reducible refine (timberAt_is x.size x.rate ⟨x.from_, a⟩ _ HA.out.1 HA.out.2.1 HA.out.2.2).mono ?_); rintro e w2 ⟨rfl, hb2⟩; have z0 : w2.cell? ⟨w.heap.size, 0, none⟩ = some (.int .i64 x.size) := (cell_keep hb2 (by simp [go_sem, y0, hz1])); have z1 : w2.cell? ⟨w.heap.size, 1, none⟩ = some (.int .i64 x.rate) := (cell_keep hb2 (by simp [go_sem, y1, hz1])); have z2 : w2.cell? ⟨w.heap.size, 2, none⟩ = some (.int .i64 x.from_) := (cell_keep hb2 (by simp [go_sem, y2, hz1])); have hz2 := block_lt_of_cell z0; simp only at hz2; have hc2 : Below w.heap.size w w2 := ((hc1.alloc (by omega) _).trans (hb2.mono (by simp; omega))))
          | (go_at_call 29; (with_reducible refine (timberAt_is x.size x.rate ⟨x.from_, b⟩ _ HB.out.1 HB.out.2.1 HB.out.2.2).mono ?_); rintro e w3 ⟨rfl, hb3⟩; have i0 : w3.cell? ⟨w2.heap.size, 0, none⟩ = some (.int .i64 (M1 / 1000000)) := (cell_keep hb3 (by simp [go_sem])); have i1 : w3.cell? ⟨w2.heap.size, 1, none⟩ = some (.int .i64 (-((-M1) / 1000000))) := (cell_keep hb3 (by simp [go_sem])); have p0 : w3.cell? ⟨w.heap.size, 0, none⟩ = some (.int .i64 x.size) := (cell_keep hb3 (by simp [go_sem, z0, hz2])); have p1 : w3.cell? ⟨w.heap.size, 1, none⟩ = some (.int .i64 x.rate) := (cell_keep hb3 (by simp [go_sem, z1, hz2])); have p2 : w3.cell? ⟨w.heap.size, 2, none⟩ = some (.int .i64 x.from_) := (cell_keep hb3 (by simp [go_sem, z2, hz2])); have hz3 := block_lt_of_cell p0; have hz4 := block_lt_of_cell i0; simp only at hz3 hz4; have hc3 : Below w.heap.size w w3 := ((hc2.alloc (by omega) _).trans (hb3.mono (by simp; omega))))
          | (go_at_call 29; (with_reducible refine (timberAt_is x.size (x.rate + 1) ⟨x.from_, b⟩ _ HC.out.1 HC.out.2.1 HC.out.2.2).mono ?_); rintro e w4 ⟨rfl, hb4⟩; have k0 : w4.cell? ⟨w3.heap.size, 0, none⟩ = some (.int .i64 (M2 / 1000000)) := (cell_keep hb4 (by simp [go_sem])); have k1 : w4.cell? ⟨w3.heap.size, 1, none⟩ = some (.int .i64 (-((-M2) / 1000000))) := (cell_keep hb4 (by simp [go_sem])); have hz5 := block_lt_of_cell k0; simp only at hz5; have hc4 : Below w.heap.size w w4 := ((hc3.alloc (by omega) _).trans (hb4.mono (by simp; omega)))))
        go_ret
        exact ⟨ret_bool (by go_tidy; first | rfl | (simp; done) | (simp; omega)), by (repeat (first | assumption | (refine Below.setCell ?_ (by first | omega | (simp; omega) | (simp; done)) _) | (refine Below.alloc ?_ (by first | omega | (simp; omega) | (simp; done)) _)))⟩
  · have HM := Lib.hid (show moveErr x.size x.rate [x.from_, a, b] = 2 by rw [moveErr_B] at h0 ⊢; split at h0 <;> simp_all)
    clear h0
    go_enter Try.func5, Try.ntmps5
    go_upto_region 1 with fail
    refine gen_world (fun W => W.cell? ⟨w.heap.size, 0, none⟩ = some (.int .i64 x.size) ∧ W.cell? ⟨w.heap.size, 1, none⟩ = some (.int .i64 x.rate) ∧ W.cell? ⟨w.heap.size, 2, none⟩ = some (.int .i64 x.from_) ∧ Below w.heap.size w W) ?_ ?_
    · exact ⟨by simp [go_sem], by simp [go_sem], by simp [go_sem], (Below.refl _ _).alloc (Nat.le_refl _) _⟩
    rintro W ⟨x0, x1, x2, hbW⟩
    go_wp2_with (first
      | (go_at_call 18; refine (awake_any _).mono ?_; rintro e w1 ⟨rfl, hb1⟩; have y0 := cell_keep hb1 x0; have y1 := cell_keep hb1 x1; have y2 := cell_keep hb1 x2; have hz1 := block_lt_of_cell y0; simp only at hz1; have hc1 := hbW.trans (hb1.mono hbW.size))
      | (go_at_call 26; refine (refMoveErr_is _ _ _ [x.from_, a, b] _ _ _ HM.out rfl (intsV_new3 _ _ _ _ _ _ (by simp)) (by simp)).mono ?_; rintro e w' ⟨rfl, rfl⟩))
    go_ret
    exact ⟨ret_bool (by go_tidy; first | rfl | (simp; done) | (simp; omega)), by (repeat (first | assumption | (refine Below.setCell ?_ (by first | omega | (simp; omega) | (simp; done)) _) | (refine Below.alloc ?_ (by first | omega | (simp; omega) | (simp; done)) _)))⟩
set_option maxRecDepth 100000 in
theorem timberMonotone_walks : Walks 5 Try.f5 := by
  intro H enc W base args ds p hval hA hlt
  rw [Try.params5] at hA hval
  obtain ⟨v0, vs0, d0, ds0, p0, q0, hargs, rfl, rfl, ⟨fu0, hf0⟩, r0⟩ := trodAll_cons hA
  obtain ⟨v1, vs1, d1, ds1, p1, q1, rfl, rfl, rfl, ⟨fu1, hf1⟩, r1⟩ := trodAll_cons r0
  obtain ⟨v2, vs2, d2, ds2, p2, q2, rfl, rfl, rfl, ⟨fu2, hf2⟩, r2⟩ := trodAll_cons r1
  obtain ⟨rfl, rfl, rfl⟩ := trodAll_nil r2
  obtain rfl : args = #[v0, v1, v2] := by cases args; simp_all
  obtain ⟨cs0, rfl, -⟩ := okWide_struct Try.underlying39 (hval 0 39 v0 rfl rfl)
  obtain ⟨x, hb0⟩ := Movement.open_ hf0
  obtain ⟨hc0, W0⟩ := hb0
  have hd0 : cs0 = #[.int .i64 x.size, .int .i64 x.rate, .int .i64 x.from_] := by
    cases cs0; simpa [Value.cells] using hc0
  subst hd0
  obtain ⟨a, rfl⟩ := okWide_int Try.underlying3 (hval 1 3 v1 rfl rfl)
  obtain ⟨s1, g1, -, q1⟩ := DataW.trod_int Try.underlying3 hf1
  obtain rfl : s1 = a := by simpa [Value.cells] using g1.symm
  obtain ⟨b, rfl⟩ := okWide_int Try.underlying3 (hval 2 3 v2 rfl rfl)
  obtain ⟨s2, g2, -, q2⟩ := DataW.trod_int Try.underlying3 hf2
  obtain rfl : s2 = b := by simpa [Value.cells] using g2.symm
  exact walkTimberMonotone x s1 s2 W W0 (int_wf q1) (int_wf q2)

set_option maxRecDepth 100000 in
theorem timberMonotone_holds : Rows.TimberMonotoneSaid :=
  law_holds (s := Rows.timberMonotoneSpec) (c := Rows.timberMonotoneRow) 5 Try.f5 rfl
    (fun H ds h => by match ds, h with | [_, _, _], _ => rfl) (by kernel_rfl) (by kernel_rfl)
    rfl rfl rfl rfl rfl rfl rfl ⟨rfl, rfl, rfl, rfl, rfl⟩ rfl rfl rfl rfl rfl rfl rfl rfl rfl rfl (fun _ _ => rfl) (by kernel_rfl) Try.func5
    timberMonotone_closed (of_decide_eq_true (by kernel_rfl)) (by unfold Func.isWrapper; first | (rw [if_pos (by decide +kernel)]; kernel_rfl) | (rw [if_neg (by decide +kernel)]; exact ⟨rfl, rfl⟩)) (by kernel_rfl)
    (fun H enc os => ChangeSpec.witness6 (enc := enc) (C := Try.checked) false ⟨#[], #[.agg #[.int .i64 0, .int .i64 0, .int .i64 0], .int .i64 0, .int .i64 0], []⟩ 8 (by kernel_rfl) (by kernel_rfl) (by kernel_rfl) (by kernel_rfl))
    timberMonotone_walks
end Go.Proofs.Ythhchnhidhgccaa
