/- TimberRates returns true for every input: Rate returns the rate of an axis, or the error that the document specifies. No condition. -/
import Derived.Test.YthhchnhidhgccaaAwake2
import Derived.Test.YthhchnhidhgccaaRates
import Derived.Test.YthhchnhidhgccaaFactsRates
set_option linter.unusedVariables false
set_option linter.unusedSimpArgs false
namespace Go.Proofs.Ythhchnhidhgccaa
open Go Go.ChangeShapes Go.WideShapes Go.ChangeAt Go.RowKit

set_option maxRecDepth 100000 in
set_option maxHeartbeats 4000000 in
theorem walkTimberRates (s : Species) (cut : Int) (axis : Int) (w : World) (Ws : s.wf) (Wcut : -9223372036854775808 ≤ cut ∧ cut ≤ 9223372036854775807) (Waxis : -9223372036854775808 ≤ axis ∧ axis ≤ 9223372036854775807) :
    Calls Try.prog 8 #[.agg #[.string s.name, .int .i64 s.along, .int .i64 s.across, .int .i64 s.radial, .int .i64 s.density, .int .i64 s.stiffness, .int .i64 s.strength], .int .i64 cut, .int .i64 axis] w fun e w' => e = .returned (.bool true) ∧ Below w.heap.size w w' := by
  have hs := Ws.1
  clear Ws
  go_enter Try.func8, Try.ntmps8
  go_upto_region 1 with fail
  refine gen_world (fun W => W.cell? ⟨w.heap.size, 0, none⟩ = some (.string s.name) ∧ W.cell? ⟨w.heap.size, 1, none⟩ = some (.int .i64 s.along) ∧ W.cell? ⟨w.heap.size, 2, none⟩ = some (.int .i64 s.across) ∧ W.cell? ⟨w.heap.size, 3, none⟩ = some (.int .i64 s.radial) ∧
    W.cell? ⟨w.heap.size, 4, none⟩ = some (.int .i64 s.density) ∧ W.cell? ⟨w.heap.size, 5, none⟩ = some (.int .i64 s.stiffness) ∧ W.cell? ⟨w.heap.size, 6, none⟩ = some (.int .i64 s.strength) ∧ Below w.heap.size w W) ?_ ?_
  · exact ⟨by simp [go_sem], by simp [go_sem], by simp [go_sem], by simp [go_sem], by simp [go_sem], by simp [go_sem], by simp [go_sem], (Below.refl _ _).alloc (Nat.le_refl _) _⟩
  rintro W ⟨x0, x1, x2, x3, x4, x5, x6, hbW⟩
  go_wp2_with (first
    | (go_at_call 18; refine (awake_any _).mono ?_; rintro e w1 ⟨rfl, hb1⟩; have y0 := cell_keep hb1 x0; have y1 := cell_keep hb1 x1; have y2 := cell_keep hb1 x2; have y3 := cell_keep hb1 x3; have y4 := cell_keep hb1 x4; have y5 := cell_keep hb1 x5; have y6 := cell_keep hb1 x6; have hc1 := hbW.trans (hb1.mono hbW.size))
    | (go_at_call 40; refine (timberRate_any s _ _ _ hs).mono ?_; rintro e w2 ⟨rfl, hb2⟩; have z0 := cell_keep hb2 y0; have z1 := cell_keep hb2 y1; have z2 := cell_keep hb2 y2; have z3 := cell_keep hb2 y3; have z4 := cell_keep hb2 y4; have z5 := cell_keep hb2 y5; have z6 := cell_keep hb2 y6; have hc2 := hc1.trans (hb2.mono hc1.size))
    | (go_at_call 41; refine (refRate_any s _ _ _ hs).mono ?_; rintro e w3 ⟨rfl, hb3⟩; have hc3 := hc2.trans (hb3.mono hc2.size)))
  all_goals (go_ret; exact ⟨ret_bool (by go_tidy; first | rfl | (simp; done)), by (repeat (first | assumption | (refine Below.setCell ?_ (by first | omega | (simp; omega) | (simp; done)) _) | (refine Below.alloc ?_ (by first | omega | (simp; omega) | (simp; done)) _)))⟩)
set_option maxRecDepth 100000 in
theorem timberRates_walks : Walks 8 Try.f8 := by
  intro H enc W base args ds p hval hA hlt
  rw [Try.params8] at hA hval
  obtain ⟨v0, vs0, d0, ds0, p0, q0, hargs, rfl, rfl, ⟨fu0, hf0⟩, r0⟩ := trodAll_cons hA
  obtain ⟨v1, vs1, d1, ds1, p1, q1, rfl, rfl, rfl, ⟨fu1, hf1⟩, r1⟩ := trodAll_cons r0
  obtain ⟨v2, vs2, d2, ds2, p2, q2, rfl, rfl, rfl, ⟨fu2, hf2⟩, r2⟩ := trodAll_cons r1
  obtain ⟨rfl, rfl, rfl⟩ := trodAll_nil r2
  obtain rfl : args = #[v0, v1, v2] := by cases args; simp_all
  obtain ⟨cs0, rfl, -⟩ := okWide_struct Try.underlying35 (hval 0 35 v0 rfl rfl)
  obtain ⟨s, hb0⟩ := Species.open_ hf0
  obtain ⟨hc0, W0⟩ := hb0
  have hd0 : cs0 = #[.string s.name, .int .i64 s.along, .int .i64 s.across, .int .i64 s.radial, .int .i64 s.density, .int .i64 s.stiffness, .int .i64 s.strength] := by
    cases cs0; simpa [Value.cells] using hc0
  subst hd0
  obtain ⟨cut, rfl⟩ := okWide_int Try.underlying3 (hval 1 3 v1 rfl rfl)
  obtain ⟨s1, g1, -, q1⟩ := DataW.trod_int Try.underlying3 hf1
  obtain rfl : s1 = cut := by simpa [Value.cells] using g1.symm
  obtain ⟨axis, rfl⟩ := okWide_int Try.underlying3 (hval 2 3 v2 rfl rfl)
  obtain ⟨s2, g2, -, q2⟩ := DataW.trod_int Try.underlying3 hf2
  obtain rfl : s2 = axis := by simpa [Value.cells] using g2.symm
  exact walkTimberRates s s1 s2 W W0 (int_wf q1) (int_wf q2)

set_option maxRecDepth 100000 in
theorem timberRates_holds : Rows.TimberRatesSaid :=
  law_holds (s := Rows.timberRatesSpec) (c := Rows.timberRatesRow) 8 Try.f8 rfl
    (fun H ds h => by match ds, h with | [_, _, _], _ => rfl) (by kernel_rfl) (by kernel_rfl)
    rfl rfl rfl rfl rfl rfl rfl ⟨rfl, rfl, rfl, rfl, rfl⟩ rfl rfl rfl rfl rfl rfl rfl rfl rfl rfl (fun _ _ => rfl) (by kernel_rfl) Try.func8
    timberRates_closed (of_decide_eq_true (by kernel_rfl)) (by unfold Func.isWrapper; first | (rw [if_pos (by decide +kernel)]; kernel_rfl) | (rw [if_neg (by decide +kernel)]; exact ⟨rfl, rfl⟩)) (by kernel_rfl)
    (fun H enc os => ChangeSpec.witness6 (enc := enc) (C := Try.checked) false ⟨#[], #[.agg #[.string ⟨#[]⟩, .int .i64 0, .int .i64 0, .int .i64 0, .int .i64 0, .int .i64 0, .int .i64 0], .int .i64 0, .int .i64 0], []⟩ 8 (by kernel_rfl) (by kernel_rfl) (by kernel_rfl) (by kernel_rfl))
    timberRates_walks
end Go.Proofs.Ythhchnhidhgccaa
