/- TimberRanges returns true for every input: Over returns the interval over a range of moistures, which contains that of each of them, or the error. No condition. -/
import Derived.Test.YthhchnhidhgccaaAwake2
import Derived.Test.YthhchnhidhgccaaMove2
import Derived.Test.YthhchnhidhgccaaFactsRanges
set_option linter.unusedVariables false
set_option linter.unusedSimpArgs false
namespace Go.Proofs.Ythhchnhidhgccaa
open Go Go.ChangeShapes Go.WideShapes Go.ChangeAt Go.RowKit

set_option maxRecDepth 100000 in
set_option maxHeartbeats 4000000 in
theorem walkTimberRanges (x : Movement) (m : Interval) (at_ : Int) (w : World) (Wx : x.wf) (Wm : m.wf) (Wat_ : -9223372036854775808 ≤ at_ ∧ at_ ≤ 9223372036854775807) :
    Calls Try.prog 4 #[.agg #[.int .i64 x.size, .int .i64 x.rate, .int .i64 x.from_], .agg #[.int .i64 m.lo, .int .i64 m.hi], .int .i64 at_] w fun e w' => e = .returned (.bool true) ∧ Below w.heap.size w w' := by
  by_cases h0 : moveErr x.size x.rate [x.from_, m.lo, m.hi] = 0
  · obtain ⟨⟨s1, s2⟩, ⟨r1, r2⟩, hms⟩ := moveErr_ok h0
    have hm1 := hms x.from_ (by simp)
    have hm2 := hms m.lo (by simp)
    have hm3 := hms m.hi (by simp)
    clear hms
    by_cases hlt : m.hi < m.lo
    · have ho1 : overE x.size x.rate x.from_ m.lo m.hi = 9 := by simp [overE, h0, hlt]
      have HO := Lib.hid (show overE x.size x.rate x.from_ m.lo m.hi = 9 ∧ overLo x.size x.rate x.from_ m.lo m.hi = 0 ∧ overHi x.size x.rate x.from_ m.lo m.hi = 0 from ⟨ho1, by simp [overLo, ho1], by simp [overHi, ho1]⟩)
      have HM := Lib.hid h0
      clear ho1 h0
      go_enter Try.func4, Try.ntmps4
      go_upto_region 1 with fail
      refine gen_world (fun W => W.cell? ⟨w.heap.size, 0, none⟩ = some (.int .i64 x.size) ∧ W.cell? ⟨w.heap.size, 1, none⟩ = some (.int .i64 x.rate) ∧ W.cell? ⟨w.heap.size, 2, none⟩ = some (.int .i64 x.from_) ∧ W.cell? ⟨w.heap.size + 1, 0, none⟩ = some (.int .i64 m.lo) ∧ W.cell? ⟨w.heap.size + 1, 1, none⟩ = some (.int .i64 m.hi) ∧ Below w.heap.size w W) ?_ ?_
      · exact ⟨by simp [go_sem], by simp [go_sem], by simp [go_sem], by simp [go_sem], by simp [go_sem], ((Below.refl _ _).alloc (Nat.le_refl _) _).alloc (by simp) _⟩
      rintro W ⟨x0, x1, x2, m0, m1, hbW⟩
      go_wp2_with (first
        | (go_at_call 18; refine (awake_any _).mono ?_; rintro e w1 ⟨rfl, hb1⟩; have y0 := cell_keep hb1 x0; have y1 := cell_keep hb1 x1; have y2 := cell_keep hb1 x2; have n0 := cell_keep hb1 m0; have n1 := cell_keep hb1 m1)
        | (go_at_call 25; refine (over_is _ _ _ m _ HO.out.2.1 HO.out.2.2 HO.out.1).mono ?_; rintro e w2 ⟨rfl, hb2⟩; have z0 := cell_keep hb2 y0; have z1 := cell_keep hb2 y1; have z2 := cell_keep hb2 y2; have p0 := cell_keep hb2 n0; have p1 := cell_keep hb2 n1; have hz2 := block_lt_of_cell z0; have hz3 := block_lt_of_cell p0; simp only at hz2 hz3; have hb3 := (hbW.trans (hb1.mono hbW.size)); have hb4 := hb3.trans (hb2.mono hb3.size))
        | (go_at_call 26; refine (refMoveErr_is _ _ _ [x.from_, m.lo, m.hi] _ _ _ HM.out rfl (intsV_new3 _ _ _ _ _ _ (by simp)) (by simp)).mono ?_; rintro e w3 ⟨rfl, rfl⟩))
      go_ret
      exact ⟨ret_bool (by go_tidy; first | rfl | (simp; done)), by (repeat (first | assumption | (refine Below.setCell ?_ (by first | omega | (simp; omega) | (simp; done)) _) | (refine Below.alloc ?_ (by first | omega | (simp; omega) | (simp; done)) _)))⟩
    · have hle : m.lo ≤ m.hi := by omega
      have ho1 : overE x.size x.rate x.from_ m.lo m.hi = 0 := by simp [overE, h0, hlt]
      have HO := Lib.hid (show overE x.size x.rate x.from_ m.lo m.hi = 0 ∧ overLo x.size x.rate x.from_ m.lo m.hi = moved x.size x.rate x.from_ m.lo / 1000000 ∧ overHi x.size x.rate x.from_ m.lo m.hi = -((-moved x.size x.rate x.from_ m.hi) / 1000000) from ⟨ho1, by simp [overLo, ho1], by simp [overHi, ho1]⟩)
      have HM := Lib.hid h0
      clear ho1 h0
      go_enter Try.func4, Try.ntmps4
      go_upto_region 1 with fail
      refine gen_world (fun W => W.cell? ⟨w.heap.size, 0, none⟩ = some (.int .i64 x.size) ∧ W.cell? ⟨w.heap.size, 1, none⟩ = some (.int .i64 x.rate) ∧ W.cell? ⟨w.heap.size, 2, none⟩ = some (.int .i64 x.from_) ∧ W.cell? ⟨w.heap.size + 1, 0, none⟩ = some (.int .i64 m.lo) ∧ W.cell? ⟨w.heap.size + 1, 1, none⟩ = some (.int .i64 m.hi) ∧ Below w.heap.size w W) ?_ ?_
      · exact ⟨by simp [go_sem], by simp [go_sem], by simp [go_sem], by simp [go_sem], by simp [go_sem], ((Below.refl _ _).alloc (Nat.le_refl _) _).alloc (by simp) _⟩
      rintro W ⟨x0, x1, x2, m0, m1, hbW⟩
      go_upto_region 9 with (first
        | (go_at_call 18; refine (awake_any _).mono ?_; rintro e w1 ⟨rfl, hb1⟩; have y0 := cell_keep hb1 x0; have y1 := cell_keep hb1 x1; have y2 := cell_keep hb1 x2; have n0 := cell_keep hb1 m0; have n1 := cell_keep hb1 m1)
        | (go_at_call 25; refine (over_is _ _ _ m _ HO.out.2.1 HO.out.2.2 HO.out.1).mono ?_; rintro e w2 ⟨rfl, hb2⟩; have z0 := cell_keep hb2 y0; have z1 := cell_keep hb2 y1; have z2 := cell_keep hb2 y2; have p0 := cell_keep hb2 n0; have p1 := cell_keep hb2 n1; have hz2 := block_lt_of_cell z0; have hz3 := block_lt_of_cell p0; simp only at hz2 hz3; have hb3 := (hbW.trans (hb1.mono hbW.size)); have hb4 := hb3.trans (hb2.mono hb3.size))
        | (go_at_call 26; refine (refMoveErr_is _ _ _ [x.from_, m.lo, m.hi] _ _ _ HM.out rfl (intsV_new3 _ _ _ _ _ _ (by simp)) (by simp)).mono ?_; rintro e w3 ⟨rfl, rfl⟩))
      refine gen_world (fun W => W.cell? ⟨w.heap.size, 0, none⟩ = some (.int .i64 x.size) ∧ W.cell? ⟨w.heap.size, 1, none⟩ = some (.int .i64 x.rate) ∧ W.cell? ⟨w.heap.size, 2, none⟩ = some (.int .i64 x.from_) ∧ W.cell? ⟨w.heap.size + 1, 0, none⟩ = some (.int .i64 m.lo) ∧ W.cell? ⟨w.heap.size + 1, 1, none⟩ = some (.int .i64 m.hi) ∧
        W.cell? ⟨w2.heap.size, 0, none⟩ = some (.int .i64 (moved x.size x.rate x.from_ m.lo / 1000000)) ∧ W.cell? ⟨w2.heap.size, 1, none⟩ = some (.int .i64 (-((-moved x.size x.rate x.from_ m.hi) / 1000000))) ∧ Below w.heap.size w W) ?_ ?_
      · exact ⟨by simp [go_sem, *], by simp [go_sem, *], by simp [go_sem, *], by simp [go_sem, *], by simp [go_sem, *], by simp [go_sem], by simp [go_sem], by (repeat (first | assumption | (refine Below.setCell ?_ (by first | omega | (simp; omega) | (simp; done)) _) | (refine Below.alloc ?_ (by first | omega | (simp; omega) | (simp; done)) _)))⟩
      clear x0 x1 x2 m0 m1 y0 y1 y2 n0 n1 z0 z1 z2 p0 p1 hb1 hb2 hb3 hb4 hbW hz2 hz3
      generalize hg : w2.heap.size = G at *
      clear hg
      rintro W2 ⟨x0, x1, x2, m0, m1, i0, i1, hbW⟩
      have hg1 := block_lt_of_cell x0
      have hg2 := block_lt_of_cell m0
      have hg3 := block_lt_of_cell i0
      simp only at hg1 hg2 hg3
      refine wp_region_grew (by kernel_rfl) (by kernel_rfl) ?_
      repeat (first
        | go_big_quiet_step ((go_at_call 27; exact grew_of (refOver_any x.size x.rate x.from_ m _ s1 s2 r1 r2 hm2.1 hle hm3.2 hm1.1 hm1.2)))
        | quiet_step ((go_at_call 27; exact grew_of (refOver_any x.size x.rate x.from_ m _ s1 s2 r1 r2 hm2.1 hle hm3.2 hm1.1 hm1.2))))
      refine wpQuiet_nil ?_
      rintro _ ⟨g, rfl⟩
      have hbG := grewB hbW (by omega) g
      have y0 : (grew W2 g).cell? ⟨w.heap.size, 0, none⟩ = some (.int .i64 x.size) := (cell?_grew _ _ _ _ _ hg1).trans x0
      have y1 : (grew W2 g).cell? ⟨w.heap.size, 1, none⟩ = some (.int .i64 x.rate) := (cell?_grew _ _ _ _ _ hg1).trans x1
      have y2 : (grew W2 g).cell? ⟨w.heap.size, 2, none⟩ = some (.int .i64 x.from_) := (cell?_grew _ _ _ _ _ hg1).trans x2
      have n0 : (grew W2 g).cell? ⟨w.heap.size + 1, 0, none⟩ = some (.int .i64 m.lo) := (cell?_grew _ _ _ _ _ hg2).trans m0
      have n1 : (grew W2 g).cell? ⟨w.heap.size + 1, 1, none⟩ = some (.int .i64 m.hi) := (cell?_grew _ _ _ _ _ hg2).trans m1
      have j0 : (grew W2 g).cell? ⟨G, 0, none⟩ = some (.int .i64 (moved x.size x.rate x.from_ m.lo / 1000000)) := (cell?_grew _ _ _ _ _ hg3).trans i0
      have j1 : (grew W2 g).cell? ⟨G, 1, none⟩ = some (.int .i64 (-((-moved x.size x.rate x.from_ m.hi) / 1000000))) := (cell?_grew _ _ _ _ _ hg3).trans i1
      clear x0 x1 x2 m0 m1 i0 i1 hg1 hg2 hg3 hbW
      generalize grew W2 g = W3 at *
      have q1 := moved_range s1 s2 r1 r2 hm2.1 hm2.2 hm1.1 hm1.2
      have q2 := moved_range s1 s2 r1 r2 hm3.1 hm3.2 hm1.1 hm1.2
      cases hq : withinB at_ m.lo m.hi
      · go_wp2_with (go_at_call 28; refine (baseWithin_any _ _ _ _).mono ?_; rintro e w' ⟨rfl, rfl⟩)
        go_ret
        exact ⟨ret_bool (by go_tidy; first | rfl | (simp; done)), by (repeat (first | assumption | (refine Below.setCell ?_ (by first | omega | (simp; omega) | (simp; done)) _) | (refine Below.alloc ?_ (by first | omega | (simp; omega) | (simp; done)) _)))⟩
      · have hw := withinB_true hq
        have q3 : moved x.size x.rate x.from_ m.lo ≤ moved x.size x.rate x.from_ at_ := moved_mono s1 r1 hw.1
        have q4 : moved x.size x.rate x.from_ at_ ≤ moved x.size x.rate x.from_ m.hi := moved_mono s1 r1 hw.2
        have HE : atE x.size x.rate x.from_ at_ = 0 := moveErr_two HM.out (by simp; omega)
        have HA := Lib.hid (show atLo x.size x.rate x.from_ at_ = moved x.size x.rate x.from_ at_ / 1000000 ∧ atHi x.size x.rate x.from_ at_ = -((-moved x.size x.rate x.from_ at_) / 1000000) ∧ atE x.size x.rate x.from_ at_ = 0 from ⟨by simp [atLo, HE], by simp [atHi, HE], HE⟩)
        clear HE
        have hg1 := block_lt_of_cell y0
        have hg2 := block_lt_of_cell n0
        have hg3 := block_lt_of_cell j0
        simp only at hg1 hg2 hg3
        generalize moved x.size x.rate x.from_ m.lo = M1 at *
        generalize moved x.size x.rate x.from_ m.hi = M2 at *
        generalize moved x.size x.rate x.from_ at_ = M3 at *
        go_wp2_with (first
          | (go_at_call 28; refine (baseWithin_any _ _ _ _).mono ?_; rintro e w' ⟨rfl, rfl⟩)
          | (go_at_call 29; refine (timberAt_is _ _ ⟨x.from_, at_⟩ _ HA.out.1 HA.out.2.1 HA.out.2.2).mono ?_; rintro e w4 ⟨rfl, hb4⟩; have z0 := cell_keep hb4 j0; have z1 := cell_keep hb4 j1; have hz4 := block_lt_of_cell z0; simp only at hz4; have hb5 := hbG.trans (hb4.mono hbG.size); have hz5 := hb5.size))
        go_ret
        exact ⟨ret_bool (by go_tidy; first | rfl | (simp; done) | (simp; omega)), by (repeat (first | assumption | (refine Below.setCell ?_ (by first | omega | (simp; omega) | (simp; done)) _) | (refine Below.alloc ?_ (by first | omega | (simp; omega) | (simp; done)) _)))⟩
  · have hM : moveErr x.size x.rate [x.from_, m.lo, m.hi] = 2 := by rw [moveErr_B] at h0 ⊢; split at h0 <;> simp_all
    have ho1 : overE x.size x.rate x.from_ m.lo m.hi = 2 := by simp [overE, hM]
    have HO := Lib.hid (show overE x.size x.rate x.from_ m.lo m.hi = 2 ∧ overLo x.size x.rate x.from_ m.lo m.hi = 0 ∧ overHi x.size x.rate x.from_ m.lo m.hi = 0 from ⟨ho1, by simp [overLo, ho1], by simp [overHi, ho1]⟩)
    have HM := Lib.hid hM
    clear ho1 h0 hM
    go_enter Try.func4, Try.ntmps4
    go_upto_region 1 with fail
    refine gen_world (fun W => W.cell? ⟨w.heap.size, 0, none⟩ = some (.int .i64 x.size) ∧ W.cell? ⟨w.heap.size, 1, none⟩ = some (.int .i64 x.rate) ∧ W.cell? ⟨w.heap.size, 2, none⟩ = some (.int .i64 x.from_) ∧ W.cell? ⟨w.heap.size + 1, 0, none⟩ = some (.int .i64 m.lo) ∧ W.cell? ⟨w.heap.size + 1, 1, none⟩ = some (.int .i64 m.hi) ∧ Below w.heap.size w W) ?_ ?_
    · exact ⟨by simp [go_sem], by simp [go_sem], by simp [go_sem], by simp [go_sem], by simp [go_sem], ((Below.refl _ _).alloc (Nat.le_refl _) _).alloc (by simp) _⟩
    rintro W ⟨x0, x1, x2, m0, m1, hbW⟩
    go_wp2_with (first
      | (go_at_call 18; refine (awake_any _).mono ?_; rintro e w1 ⟨rfl, hb1⟩; have y0 := cell_keep hb1 x0; have y1 := cell_keep hb1 x1; have y2 := cell_keep hb1 x2; have n0 := cell_keep hb1 m0; have n1 := cell_keep hb1 m1)
      | (go_at_call 25; refine (over_is _ _ _ m _ HO.out.2.1 HO.out.2.2 HO.out.1).mono ?_; rintro e w2 ⟨rfl, hb2⟩; have z0 := cell_keep hb2 y0; have z1 := cell_keep hb2 y1; have z2 := cell_keep hb2 y2; have p0 := cell_keep hb2 n0; have p1 := cell_keep hb2 n1; have hz2 := block_lt_of_cell z0; have hz3 := block_lt_of_cell p0; simp only at hz2 hz3; have hb3 := (hbW.trans (hb1.mono hbW.size)); have hb4 := hb3.trans (hb2.mono hb3.size))
      | (go_at_call 26; refine (refMoveErr_is _ _ _ [x.from_, m.lo, m.hi] _ _ _ HM.out rfl (intsV_new3 _ _ _ _ _ _ (by simp)) (by simp)).mono ?_; rintro e w3 ⟨rfl, rfl⟩))
    go_ret
    exact ⟨ret_bool (by go_tidy; first | rfl | (simp; done)), by (repeat (first | assumption | (refine Below.setCell ?_ (by first | omega | (simp; omega) | (simp; done)) _) | (refine Below.alloc ?_ (by first | omega | (simp; omega) | (simp; done)) _)))⟩
set_option maxRecDepth 100000 in
theorem timberRanges_walks : Walks 4 Try.f4 := by
  intro H enc W base args ds p hval hA hlt
  rw [Try.params4] at hA hval
  obtain ⟨v0, vs0, d0, ds0, p0, q0, hargs, rfl, rfl, ⟨fu0, hf0⟩, r0⟩ := trodAll_cons hA
  obtain ⟨v1, vs1, d1, ds1, p1, q1, rfl, rfl, rfl, ⟨fu1, hf1⟩, r1⟩ := trodAll_cons r0
  obtain ⟨v2, vs2, d2, ds2, p2, q2, rfl, rfl, rfl, ⟨fu2, hf2⟩, r2⟩ := trodAll_cons r1
  obtain ⟨rfl, rfl, rfl⟩ := trodAll_nil r2
  obtain rfl : args = #[v0, v1, v2] := by cases args; simp_all
  obtain ⟨cs0, rfl, -⟩ := okWide_struct Try.underlying39 (hval 0 39 v0 rfl rfl)
  obtain ⟨x, hb0⟩ := Movement.open_ hf0
  obtain ⟨hc0, W0⟩ := hb0
  have hd0 : cs0 = #[.int .i64 x.size, .int .i64 x.rate, .int .i64 x.from_] := by
    cases cs0; simpa [Value.cells] using hc0
  subst hd0
  obtain ⟨cs1, rfl, -⟩ := okWide_struct Try.underlying41 (hval 1 41 v1 rfl rfl)
  obtain ⟨m, hb1⟩ := Interval.open_ hf1
  obtain ⟨hc1, W1⟩ := hb1
  have hd1 : cs1 = #[.int .i64 m.lo, .int .i64 m.hi] := by
    cases cs1; simpa [Value.cells] using hc1
  subst hd1
  obtain ⟨at_, rfl⟩ := okWide_int Try.underlying3 (hval 2 3 v2 rfl rfl)
  obtain ⟨s2, g2, -, q2⟩ := DataW.trod_int Try.underlying3 hf2
  obtain rfl : s2 = at_ := by simpa [Value.cells] using g2.symm
  exact walkTimberRanges x m s2 W W0 W1 (int_wf q2)

set_option maxRecDepth 100000 in
theorem timberRanges_holds : Rows.TimberRangesSaid :=
  law_holds (s := Rows.timberRangesSpec) (c := Rows.timberRangesRow) 4 Try.f4 rfl
    (fun H ds h => by match ds, h with | [_, _, _], _ => rfl) (by kernel_rfl) (by kernel_rfl)
    rfl rfl rfl rfl rfl rfl rfl ⟨rfl, rfl, rfl, rfl, rfl⟩ rfl rfl rfl rfl rfl rfl rfl rfl rfl rfl (fun _ _ => rfl) (by kernel_rfl) Try.func4
    timberRanges_closed (of_decide_eq_true (by kernel_rfl)) (by unfold Func.isWrapper; first | (rw [if_pos (by decide +kernel)]; kernel_rfl) | (rw [if_neg (by decide +kernel)]; exact ⟨rfl, rfl⟩)) (by kernel_rfl)
    (fun H enc os => ChangeSpec.witness6 (enc := enc) (C := Try.checked) false ⟨#[], #[.agg #[.int .i64 0, .int .i64 0, .int .i64 0], .agg #[.int .i64 0, .int .i64 0], .int .i64 0], []⟩ 8 (by kernel_rfl) (by kernel_rfl) (by kernel_rfl) (by kernel_rfl))
    timberRanges_walks
end Go.Proofs.Ythhchnhidhgccaa
