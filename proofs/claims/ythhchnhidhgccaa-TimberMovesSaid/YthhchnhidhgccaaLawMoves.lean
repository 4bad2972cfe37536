/- TimberMoves returns true for every input: Exact and At return the exact size and its interval, or the errors. No condition. -/
import Derived.Test.YthhchnhidhgccaaAwake2
import Derived.Test.YthhchnhidhgccaaFrac2
import Derived.Test.YthhchnhidhgccaaFactsMoves
set_option linter.unusedVariables false
set_option linter.unusedSimpArgs false
namespace Go.Proofs.Ythhchnhidhgccaa
open Go Go.ChangeShapes Go.WideShapes Go.ChangeAt Go.RowKit

set_option maxRecDepth 100000 in
set_option maxHeartbeats 4000000 in
theorem walkTimberMoves (size : Int) (rate : Int) (m : Interval) (w : World) (Wsize : -9223372036854775808 ≤ size ∧ size ≤ 9223372036854775807) (Wrate : -9223372036854775808 ≤ rate ∧ rate ≤ 9223372036854775807) (Wm : m.wf) :
    Calls Try.prog 10 #[.int .i64 size, .int .i64 rate, .agg #[.int .i64 m.lo, .int .i64 m.hi]] w fun e w' => e = .returned (.bool true) ∧ Below w.heap.size w w' := by
  by_cases h0 : moveErr size rate [m.lo, m.hi] = 0
  · obtain ⟨⟨s1, s2⟩, ⟨r1, r2⟩, hms⟩ := moveErr_ok h0
    have hm2 := hms m.lo (by simp)
    have hm3 := hms m.hi (by simp)
    clear hms
    have HE : atE size rate m.lo m.hi = 0 := h0
    obtain ⟨V1, hV1⟩ : ∃ V, V = moved size rate m.lo m.hi / 1000000 := ⟨_, rfl⟩
    obtain ⟨V2, hV2⟩ : ∃ V, V = -((-moved size rate m.lo m.hi) / 1000000) := ⟨_, rfl⟩
    obtain ⟨U1, hU1⟩ : ∃ V, V = lowNum (moved size rate m.lo m.hi).toNat 1000000 := ⟨_, rfl⟩
    obtain ⟨U2, hU2⟩ : ∃ V, V = lowDen (moved size rate m.lo m.hi).toNat 1000000 := ⟨_, rfl⟩
    have HA := Lib.hid (show atLo size rate m.lo m.hi = V1 ∧ atHi size rate m.lo m.hi = V2 ∧ atE size rate m.lo m.hi = 0 from ⟨by simp [atLo, HE, hV1], by simp [atHi, HE, hV2], HE⟩)
    have HX := Lib.hid (show exNum size rate m.lo m.hi = U1 ∧ exDen size rate m.lo m.hi = U2 ∧ atE size rate m.lo m.hi = 0 from ⟨by simp [exNum, HE, hU1], by simp [exDen, HE, hU2], HE⟩)
    have HRA := Lib.hid (fun w => by have := refAt_any size rate m w s1 s2 r1 r2 hm2.1 hm2.2 hm3.1 hm3.2; rw [← hV1, ← hV2] at this; exact this)
    have HRX := Lib.hid (fun w => by have := refExact_any size rate m w s1 s2 r1 r2 hm2.1 hm2.2 hm3.1 hm3.2; rw [← hU1, ← hU2] at this; exact this)
    clear h0 HE hV1 hV2 hU1 hU2
    go_enter Try.func10, Try.ntmps10
    go_upto_region 1 with fail
    refine gen_world (fun W => W.cell? ⟨w.heap.size, 0, none⟩ = some (.int .i64 m.lo) ∧ W.cell? ⟨w.heap.size, 1, none⟩ = some (.int .i64 m.hi) ∧ Below w.heap.size w W) ?_ ?_
    · exact ⟨by simp [go_sem], by simp [go_sem], (Below.refl _ _).alloc (Nat.le_refl _) _⟩
    rintro W ⟨m0, m1, hbW⟩
    go_wp2_with (first
      | (go_at_call 18; refine (awake_any _).mono ?_; rintro e w1 ⟨rfl, hb1⟩; have n0 := cell_keep hb1 m0; have n1 := cell_keep hb1 m1; have hz1 := block_lt_of_cell n0; simp only at hz1; have hc1 := hbW.trans (hb1.mono hbW.size))
      | (go_at_call 46; (with_reducible refine (timberExact_is size rate m _ HX.out.1 HX.out.2.1 HX.out.2.2).mono ?_); rintro e w2 ⟨rfl, hb2⟩; have p0 := cell_keep hb2 n0; have p1 := cell_keep hb2 n1; have hz2 := block_lt_of_cell p0; simp only at hz2; have hc2 := hc1.trans (hb2.mono hc1.size))
      | (go_at_call 29; (with_reducible refine (timberAt_is size rate m _ HA.out.1 HA.out.2.1 HA.out.2.2).mono ?_); rintro e w3 ⟨rfl, hb3⟩; have i0 : w3.cell? ⟨w2.heap.size, 0, none⟩ = some (.int .i64 U1) := (cell_keep hb3 (by simp [go_sem])); have i1 : w3.cell? ⟨w2.heap.size, 1, none⟩ = some (.int .i64 U2) := (cell_keep hb3 (by simp [go_sem])); have r0 : w3.cell? ⟨w.heap.size, 0, none⟩ = some (.int .i64 m.lo) := (cell_keep hb3 (by simp [go_sem, p0, hz2])); have r1 : w3.cell? ⟨w.heap.size, 1, none⟩ = some (.int .i64 m.hi) := (cell_keep hb3 (by simp [go_sem, p1, hz2])); have hz3 := block_lt_of_cell r0; have hz4 := block_lt_of_cell i0; simp only at hz3 hz4; have hc3 : Below w.heap.size w w3 := ((hc2.alloc (by omega) _).trans (hb3.mono (by simp; omega))))
      | (go_at_call 26; refine (refMoveErr_is _ _ _ [m.lo, m.hi] _ _ _ HA.out.2.2 rfl (intsV_new2 _ _ _ _ _ (by simp)) (by simp)).mono ?_; rintro e w' ⟨rfl, rfl⟩)
      )
    refine gen_world (fun W => W.cell? ⟨w.heap.size, 0, none⟩ = some (.int .i64 m.lo) ∧ W.cell? ⟨w.heap.size, 1, none⟩ = some (.int .i64 m.hi) ∧ W.cell? ⟨w2.heap.size, 0, none⟩ = some (.int .i64 U1) ∧ W.cell? ⟨w2.heap.size, 1, none⟩ = some (.int .i64 U2) ∧
      W.cell? ⟨w3.heap.size, 0, none⟩ = some (.int .i64 V1) ∧ W.cell? ⟨w3.heap.size, 1, none⟩ = some (.int .i64 V2) ∧ Below w.heap.size w W) ?_ ?_
    · exact ⟨by simp [go_sem, *], by simp [go_sem, *], by simp [go_sem, *], by simp [go_sem, *], by simp [go_sem], by simp [go_sem], by (repeat (first | assumption | (refine Below.setCell ?_ (by first | omega | (simp; omega) | (simp; done)) _) | (refine Below.alloc ?_ (by first | omega | (simp; omega) | (simp; done)) _)))⟩
    clear m0 m1 n0 n1 p0 p1 i0 i1 r0 r1 hb1 hb2 hb3 hz1 hz2 hz3 hz4 hc1 hc2 hc3 hbW
    generalize hg : w2.heap.size = G at *
    generalize hg' : w3.heap.size = G' at *
    clear hg hg'
    rintro W2 ⟨m0, m1, i0, i1, j0, j1, hbW⟩
    have hg1 := block_lt_of_cell m0
    have hg2 := block_lt_of_cell i0
    have hg3 := block_lt_of_cell j0
    simp only at hg1 hg2 hg3
    refine wp_region_grew (by kernel_rfl) (by kernel_rfl) ?_
    repeat (first
      | go_big_quiet_step (first | (go_at_call 47; exact grew_of (HRX.out _)) | (go_at_call 48; exact grew_of (HRA.out _)))
      | quiet_step (first | (go_at_call 47; exact grew_of (HRX.out _)) | (go_at_call 48; exact grew_of (HRA.out _))))
    refine wpQuiet_nil ?_
    rintro _ ⟨g, rfl⟩
    go_wp2_with fail
    go_ret
    exact ⟨ret_bool (by go_tidy; first | rfl | (simp; done)), grewB hbW (by omega) g⟩
  · have hM : moveErr size rate [m.lo, m.hi] = 2 := by rw [moveErr_B] at h0 ⊢; split at h0 <;> simp_all
    have HE : atE size rate m.lo m.hi = 2 := hM
    have HA := Lib.hid (show atLo size rate m.lo m.hi = 0 ∧ atHi size rate m.lo m.hi = 0 ∧ atE size rate m.lo m.hi = 2 from ⟨by simp [atLo, HE], by simp [atHi, HE], HE⟩)
    have HX := Lib.hid (show exNum size rate m.lo m.hi = 0 ∧ exDen size rate m.lo m.hi = 0 ∧ atE size rate m.lo m.hi = 2 from ⟨by simp [exNum, HE], by simp [exDen, HE], HE⟩)
    clear h0 HE hM
    go_enter Try.func10, Try.ntmps10
    go_upto_region 1 with fail
    refine gen_world (fun W => W.cell? ⟨w.heap.size, 0, none⟩ = some (.int .i64 m.lo) ∧ W.cell? ⟨w.heap.size, 1, none⟩ = some (.int .i64 m.hi) ∧ Below w.heap.size w W) ?_ ?_
    · exact ⟨by simp [go_sem], by simp [go_sem], (Below.refl _ _).alloc (Nat.le_refl _) _⟩
    rintro W ⟨m0, m1, hbW⟩
    go_wp2_with (first
      | (go_at_call 18; refine (awake_any _).mono ?_; rintro e w1 ⟨rfl, hb1⟩; have n0 := cell_keep hb1 m0; have n1 := cell_keep hb1 m1; have hz1 := block_lt_of_cell n0; simp only at hz1; have hc1 := hbW.trans (hb1.mono hbW.size))
      | (go_at_call 46; (with_reducible refine (timberExact_is size rate m _ HX.out.1 HX.out.2.1 HX.out.2.2).mono ?_); rintro e w2 ⟨rfl, hb2⟩; have p0 := cell_keep hb2 n0; have p1 := cell_keep hb2 n1; have hz2 := block_lt_of_cell p0; simp only at hz2; have hc2 := hc1.trans (hb2.mono hc1.size))
      | (go_at_call 29; (with_reducible refine (timberAt_is size rate m _ HA.out.1 HA.out.2.1 HA.out.2.2).mono ?_); rintro e w3 ⟨rfl, hb3⟩; have i0 : w3.cell? ⟨w2.heap.size, 0, none⟩ = some (.int .i64 0) := (cell_keep hb3 (by simp [go_sem])); have i1 : w3.cell? ⟨w2.heap.size, 1, none⟩ = some (.int .i64 0) := (cell_keep hb3 (by simp [go_sem])); have r0 : w3.cell? ⟨w.heap.size, 0, none⟩ = some (.int .i64 m.lo) := (cell_keep hb3 (by simp [go_sem, p0, hz2])); have r1 : w3.cell? ⟨w.heap.size, 1, none⟩ = some (.int .i64 m.hi) := (cell_keep hb3 (by simp [go_sem, p1, hz2])); have hz3 := block_lt_of_cell r0; have hz4 := block_lt_of_cell i0; simp only at hz3 hz4; have hc3 : Below w.heap.size w w3 := ((hc2.alloc (by omega) _).trans (hb3.mono (by simp; omega))))
      | (go_at_call 26; refine (refMoveErr_is _ _ _ [m.lo, m.hi] _ _ _ HA.out.2.2 rfl (intsV_new2 _ _ _ _ _ (by simp)) (by simp)).mono ?_; rintro e w' ⟨rfl, rfl⟩)
      )
    go_ret
    exact ⟨ret_bool (by go_tidy; first | rfl | (simp; done)), by (repeat (first | assumption | (refine Below.setCell ?_ (by first | omega | (simp; omega) | (simp; done)) _) | (refine Below.alloc ?_ (by first | omega | (simp; omega) | (simp; done)) _)))⟩
set_option maxRecDepth 100000 in
theorem timberMoves_walks : Walks 10 Try.f10 := by
  intro H enc W base args ds p hval hA hlt
  rw [Try.params10] at hA hval
  obtain ⟨v0, vs0, d0, ds0, p0, q0, hargs, rfl, rfl, ⟨fu0, hf0⟩, r0⟩ := trodAll_cons hA
  obtain ⟨v1, vs1, d1, ds1, p1, q1, rfl, rfl, rfl, ⟨fu1, hf1⟩, r1⟩ := trodAll_cons r0
  obtain ⟨v2, vs2, d2, ds2, p2, q2, rfl, rfl, rfl, ⟨fu2, hf2⟩, r2⟩ := trodAll_cons r1
  obtain ⟨rfl, rfl, rfl⟩ := trodAll_nil r2
  obtain rfl : args = #[v0, v1, v2] := by cases args; simp_all
  obtain ⟨size, rfl⟩ := okWide_int Try.underlying3 (hval 0 3 v0 rfl rfl)
  obtain ⟨s0, g0, -, q0⟩ := DataW.trod_int Try.underlying3 hf0
  obtain rfl : s0 = size := by simpa [Value.cells] using g0.symm
  obtain ⟨rate, rfl⟩ := okWide_int Try.underlying3 (hval 1 3 v1 rfl rfl)
  obtain ⟨s1, g1, -, q1⟩ := DataW.trod_int Try.underlying3 hf1
  obtain rfl : s1 = rate := by simpa [Value.cells] using g1.symm
  obtain ⟨cs2, rfl, -⟩ := okWide_struct Try.underlying41 (hval 2 41 v2 rfl rfl)
  obtain ⟨m, hb2⟩ := Interval.open_ hf2
  obtain ⟨hc2, W2⟩ := hb2
  have hd2 : cs2 = #[.int .i64 m.lo, .int .i64 m.hi] := by
    cases cs2; simpa [Value.cells] using hc2
  subst hd2
  exact walkTimberMoves s0 s1 m W (int_wf q0) (int_wf q1) W2

set_option maxRecDepth 100000 in
theorem timberMoves_holds : Rows.TimberMovesSaid :=
  law_holds (s := Rows.timberMovesSpec) (c := Rows.timberMovesRow) 10 Try.f10 rfl
    (fun H ds h => by match ds, h with | [_, _, _], _ => rfl) (by kernel_rfl) (by kernel_rfl)
    rfl rfl rfl rfl rfl rfl rfl ⟨rfl, rfl, rfl, rfl, rfl⟩ rfl rfl rfl rfl rfl rfl rfl rfl rfl rfl (fun _ _ => rfl) (by kernel_rfl) Try.func10
    timberMoves_closed (of_decide_eq_true (by kernel_rfl)) (by unfold Func.isWrapper; first | (rw [if_pos (by decide +kernel)]; kernel_rfl) | (rw [if_neg (by decide +kernel)]; exact ⟨rfl, rfl⟩)) (by kernel_rfl)
    (fun H enc os => ChangeSpec.witness6 (enc := enc) (C := Try.checked) false ⟨#[], #[.int .i64 0, .int .i64 0, .agg #[.int .i64 0, .int .i64 0]], []⟩ 8 (by kernel_rfl) (by kernel_rfl) (by kernel_rfl) (by kernel_rfl))
    timberMoves_walks
end Go.Proofs.Ythhchnhidhgccaa
