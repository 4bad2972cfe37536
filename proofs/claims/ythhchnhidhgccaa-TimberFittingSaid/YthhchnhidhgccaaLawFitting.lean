/- TimberFitting returns true for every input: Fitting returns the indices of the boards that a blank fits on, or the error that the document specifies. No condition. -/
import Derived.Test.YthhchnhidhgccaaFit3
import Derived.Test.YthhchnhidhgccaaFactsFitting
set_option linter.unusedVariables false
set_option linter.unusedSimpArgs false
namespace Go.Proofs.Ythhchnhidhgccaa
open Go Go.ChangeShapes Go.WideShapes Go.ChangeAt Go.RowKit

theorem fitting_is {la : Option Addr} {l : List Species} {lc : Nat} {a : Option Addr} {st : List Board} {c : Nat} {x : Blank} {w : World} {E : Int} {F : List Int} (hE : fitE l st x = E) (hF : fitL l st x = F) (hs : Speciess.V w la l) (hsl : l.length ≤ 9223372036854775807) (hv : Boards.V w a st) (hl : st.length ≤ 9223372036854775807) (hwf : x.wf) :
    Calls Try.prog 54 #[.slice la l.length lc, .slice a st.length c, .agg #[.string x.name, .string x.species, .int .i64 x.length, .int .i64 x.width, .int .i64 x.thick, .int .i64 x.count]] w fun e w' => ∃ (a' : Option Addr) (c' : Nat), e = .returned (.tuple #[.slice a' F.length c', .int .i64 E]) ∧ IntsV w' a' F ∧ Below w.heap.size w w' := by
  subst hE hF; exact fitting_any la l lc a st c x w hs hsl hv hl hwf

set_option maxRecDepth 100000 in
set_option maxHeartbeats 4000000 in
theorem walkTimberFitting (la : Option Addr) (l : List Species) (lc : Nat) (sta : Option Addr) (st : List Board) (stc : Nat) (x : Blank) (w : World) (Vl : Speciess.V w la l) (Ll : l.length ≤ 9223372036854775807) (Cl : l.length ≤ lc) (Vst : Boards.V w sta st) (Lst : st.length ≤ 9223372036854775807) (Cst : st.length ≤ stc) (Wx : x.wf) :
    Calls Try.prog 13 #[.slice la l.length lc, .slice sta st.length stc, .agg #[.string x.name, .string x.species, .int .i64 x.length, .int .i64 x.width, .int .i64 x.thick, .int .i64 x.count]] w fun e w' => e = .returned (.bool true) ∧ Below w.heap.size w w' := by
  by_cases hE : fitE l st x = 0
  · have hC : checkStockE l st = 0 := by
      unfold fitE at hE
      split at hE
      · assumption
      · exact hE
    have hB0 : blankErr x = 0 := by rw [fitE, if_pos hC] at hE; exact hE
    have hl0 : fitL l st x = fitK st x st.length := by rw [fitL, if_pos hE]
    obtain ⟨F, hF⟩ : ∃ F, fitK st x st.length = F := ⟨_, rfl⟩
    have HL := Lib.hid (show F.length ≤ 9223372036854775807 by rw [← hF]; have := fitK_len st x st.length; omega)
    have HFE := Lib.hid hE
    have HFL := Lib.hid (hl0.trans hF)
    have HFK := Lib.hid hF
    have HCS := Lib.hid hC
    have HB := Lib.hid hB0
    clear hE hC hB0 hl0 hF
    go_enter Try.func13, Try.ntmps13
    go_upto_region 1 with fail
    refine gen_world (fun W => (W.cell? ⟨w.heap.size, 0, none⟩ = some (.string x.name) ∧ W.cell? ⟨w.heap.size, 1, none⟩ = some (.string x.species) ∧ W.cell? ⟨w.heap.size, 2, none⟩ = some (.int .i64 x.length) ∧ W.cell? ⟨w.heap.size, 3, none⟩ = some (.int .i64 x.width) ∧ W.cell? ⟨w.heap.size, 4, none⟩ = some (.int .i64 x.thick) ∧ W.cell? ⟨w.heap.size, 5, none⟩ = some (.int .i64 x.count)) ∧ Below w.heap.size w W) ?_ ?_
    · exact ⟨⟨by simp [go_sem], by simp [go_sem], by simp [go_sem], by simp [go_sem], by simp [go_sem], by simp [go_sem]⟩, (Below.refl _ _).alloc (Nat.le_refl _) _⟩
    rintro W ⟨⟨d0, d1, d2, d3, d4, d5⟩, hbW⟩
    go_wp2_with (first
        | (go_at_call 18; refine (awake_any _).mono ?_; rintro e w1 ⟨rfl, hb1⟩; have f0 := cell_keep hb1 d0; have f1 := cell_keep hb1 d1; have f2 := cell_keep hb1 d2; have f3 := cell_keep hb1 d3; have f4 := cell_keep hb1 d4; have f5 := cell_keep hb1 d5; have hc1 := hbW.trans (hb1.mono hbW.size))
        | (go_at_call 19; refine (short_any _ l _ _ (Vl.keep hc1) Ll).mono ?_; rintro e w2 ⟨rfl, rfl⟩)
        | (go_at_call 42; refine (few_any _ st _ _ (Vst.keep hc1) Lst).mono ?_; rintro e w3 ⟨rfl, hb3⟩; have g0 := cell_keep hb3 f0; have g1 := cell_keep hb3 f1; have g2 := cell_keep hb3 f2; have g3 := cell_keep hb3 f3; have g4 := cell_keep hb3 f4; have g5 := cell_keep hb3 f5; have hc3 := hc1.trans (hb3.mono hc1.size))
        | (go_at_call 54; refine (fitting_is HFE.out HFL.out (Vl.keep hc3) Ll (Vst.keep hc3) Lst Wx).mono ?_; rintro e w4 ⟨a4, c4, rfl, hi4, hb4⟩; have h0 := cell_keep hb4 g0; have h1 := cell_keep hb4 g1; have h2 := cell_keep hb4 g2; have h3 := cell_keep hb4 g3; have h4 := cell_keep hb4 g4; have h5 := cell_keep hb4 g5; have hc4 := hc3.trans (hb4.mono hc3.size))
        | (go_at_call 45; refine (refCheckStock_any _ l _ _ st _ _ (Vl.keep hc4) Ll Cl (Vst.keep hc4) Lst).mono ?_; rw [HCS.out]; rintro e w5 ⟨rfl, hb5⟩; have u0 := cell_keep hb5 h0; have u1 := cell_keep hb5 h1; have u2 := cell_keep hb5 h2; have u3 := cell_keep hb5 h3; have u4 := cell_keep hb5 h4; have u5 := cell_keep hb5 h5; have hc5 := hc4.trans (hb5.mono hc4.size); have hi5 := hi4.keep hb5)
        | (go_at_call 55; refine (blankErr_any x _ Wx).mono ?_; rw [HB.out]; rintro e w6 ⟨rfl, hb6⟩; have v0 := cell_keep hb6 u0; have v1 := cell_keep hb6 u1; have v2 := cell_keep hb6 u2; have v3 := cell_keep hb6 u3; have v4 := cell_keep hb6 u4; have v5 := cell_keep hb6 u5; have hc6 := hc5.trans (hb6.mono hc5.size); have hi6 := hi5.keep hb6)
        | (go_at_call 57; refine (refFitting_any _ st _ x _ (Vst.keep hc6) (stock_ok HCS.out).1 (stock_ok HCS.out).2 (blankErr_ok HB.out).1.1 (blankErr_ok HB.out).1.2 (blankErr_ok HB.out).2.1.1 (blankErr_ok HB.out).2.1.2).mono ?_; rw [HFK.out]; rintro e w7 ⟨a7, c7, rfl, hi7, hb7⟩; have hc7 := hc6.trans (hb7.mono hc6.size); have hi7' := hi6.keep hb7)
        | (go_at_call 56; refine (ints_same _ _ F _ _ _ hi7' hi7 HL.out).mono ?_; rintro e w8 ⟨rfl, hb8⟩; have hc8 := hc7.trans (hb8.mono hc7.size)))
    all_goals (go_ret; exact ⟨ret_bool (by go_tidy; first | rfl | (simp; done)), by assumption⟩)
  · have HFL := Lib.hid (show fitL l st x = [] by rw [fitL, if_neg hE])
    obtain ⟨E, hEE⟩ : ∃ E, fitE l st x = E := ⟨_, rfl⟩
    have HFE := Lib.hid hEE
    rw [hEE] at hE
    have b0 : (E != 0) = true := by simp [hE]
    have b1 : (E == 0) = false := by simp [hE]
    by_cases hC : checkStockE l st = 0
    · have HCS := Lib.hid hC
      have HB := Lib.hid (show blankErr x = E by rw [← hEE, fitE, if_pos hC])
      clear hE hC hEE
      go_enter Try.func13, Try.ntmps13
      go_upto_region 1 with fail
      refine gen_world (fun W => (W.cell? ⟨w.heap.size, 0, none⟩ = some (.string x.name) ∧ W.cell? ⟨w.heap.size, 1, none⟩ = some (.string x.species) ∧ W.cell? ⟨w.heap.size, 2, none⟩ = some (.int .i64 x.length) ∧ W.cell? ⟨w.heap.size, 3, none⟩ = some (.int .i64 x.width) ∧ W.cell? ⟨w.heap.size, 4, none⟩ = some (.int .i64 x.thick) ∧ W.cell? ⟨w.heap.size, 5, none⟩ = some (.int .i64 x.count)) ∧ Below w.heap.size w W) ?_ ?_
      · exact ⟨⟨by simp [go_sem], by simp [go_sem], by simp [go_sem], by simp [go_sem], by simp [go_sem], by simp [go_sem]⟩, (Below.refl _ _).alloc (Nat.le_refl _) _⟩
      rintro W ⟨⟨d0, d1, d2, d3, d4, d5⟩, hbW⟩
      go_wp2_with (first
        | (go_at_call 18; refine (awake_any _).mono ?_; rintro e w1 ⟨rfl, hb1⟩; have f0 := cell_keep hb1 d0; have f1 := cell_keep hb1 d1; have f2 := cell_keep hb1 d2; have f3 := cell_keep hb1 d3; have f4 := cell_keep hb1 d4; have f5 := cell_keep hb1 d5; have hc1 := hbW.trans (hb1.mono hbW.size))
        | (go_at_call 19; refine (short_any _ l _ _ (Vl.keep hc1) Ll).mono ?_; rintro e w2 ⟨rfl, rfl⟩)
        | (go_at_call 42; refine (few_any _ st _ _ (Vst.keep hc1) Lst).mono ?_; rintro e w3 ⟨rfl, hb3⟩; have g0 := cell_keep hb3 f0; have g1 := cell_keep hb3 f1; have g2 := cell_keep hb3 f2; have g3 := cell_keep hb3 f3; have g4 := cell_keep hb3 f4; have g5 := cell_keep hb3 f5; have hc3 := hc1.trans (hb3.mono hc1.size))
        | (go_at_call 54; refine (fitting_is HFE.out HFL.out (Vl.keep hc3) Ll (Vst.keep hc3) Lst Wx).mono ?_; rintro e w4 ⟨a4, c4, rfl, hi4, hb4⟩; have h0 := cell_keep hb4 g0; have h1 := cell_keep hb4 g1; have h2 := cell_keep hb4 g2; have h3 := cell_keep hb4 g3; have h4 := cell_keep hb4 g4; have h5 := cell_keep hb4 g5; have hc4 := hc3.trans (hb4.mono hc3.size))
        | (go_at_call 45; refine (refCheckStock_any _ l _ _ st _ _ (Vl.keep hc4) Ll Cl (Vst.keep hc4) Lst).mono ?_; rw [HCS.out]; rintro e w5 ⟨rfl, hb5⟩; have u0 := cell_keep hb5 h0; have u1 := cell_keep hb5 h1; have u2 := cell_keep hb5 h2; have u3 := cell_keep hb5 h3; have u4 := cell_keep hb5 h4; have u5 := cell_keep hb5 h5; have hc5 := hc4.trans (hb5.mono hc4.size); have hi5 := hi4.keep hb5)
        | (go_at_call 55; refine (blankErr_any x _ Wx).mono ?_; rw [HB.out]; rintro e w6 ⟨rfl, hb6⟩; have v0 := cell_keep hb6 u0; have v1 := cell_keep hb6 u1; have v2 := cell_keep hb6 u2; have v3 := cell_keep hb6 u3; have v4 := cell_keep hb6 u4; have v5 := cell_keep hb6 u5; have hc6 := hc5.trans (hb6.mono hc5.size); have hi6 := hi5.keep hb6))
      all_goals (go_ret; exact ⟨ret_bool (by go_tidy; first | rfl | (simp; done)), by assumption⟩)
    · have HCS := Lib.hid (show checkStockE l st = E by rw [← hEE, fitE, if_neg hC])
      clear hE hC hEE
      go_enter Try.func13, Try.ntmps13
      go_upto_region 1 with fail
      refine gen_world (fun W => (W.cell? ⟨w.heap.size, 0, none⟩ = some (.string x.name) ∧ W.cell? ⟨w.heap.size, 1, none⟩ = some (.string x.species) ∧ W.cell? ⟨w.heap.size, 2, none⟩ = some (.int .i64 x.length) ∧ W.cell? ⟨w.heap.size, 3, none⟩ = some (.int .i64 x.width) ∧ W.cell? ⟨w.heap.size, 4, none⟩ = some (.int .i64 x.thick) ∧ W.cell? ⟨w.heap.size, 5, none⟩ = some (.int .i64 x.count)) ∧ Below w.heap.size w W) ?_ ?_
      · exact ⟨⟨by simp [go_sem], by simp [go_sem], by simp [go_sem], by simp [go_sem], by simp [go_sem], by simp [go_sem]⟩, (Below.refl _ _).alloc (Nat.le_refl _) _⟩
      rintro W ⟨⟨d0, d1, d2, d3, d4, d5⟩, hbW⟩
      go_wp2_with (first
        | (go_at_call 18; refine (awake_any _).mono ?_; rintro e w1 ⟨rfl, hb1⟩; have f0 := cell_keep hb1 d0; have f1 := cell_keep hb1 d1; have f2 := cell_keep hb1 d2; have f3 := cell_keep hb1 d3; have f4 := cell_keep hb1 d4; have f5 := cell_keep hb1 d5; have hc1 := hbW.trans (hb1.mono hbW.size))
        | (go_at_call 19; refine (short_any _ l _ _ (Vl.keep hc1) Ll).mono ?_; rintro e w2 ⟨rfl, rfl⟩)
        | (go_at_call 42; refine (few_any _ st _ _ (Vst.keep hc1) Lst).mono ?_; rintro e w3 ⟨rfl, hb3⟩; have g0 := cell_keep hb3 f0; have g1 := cell_keep hb3 f1; have g2 := cell_keep hb3 f2; have g3 := cell_keep hb3 f3; have g4 := cell_keep hb3 f4; have g5 := cell_keep hb3 f5; have hc3 := hc1.trans (hb3.mono hc1.size))
        | (go_at_call 54; refine (fitting_is HFE.out HFL.out (Vl.keep hc3) Ll (Vst.keep hc3) Lst Wx).mono ?_; rintro e w4 ⟨a4, c4, rfl, hi4, hb4⟩; have h0 := cell_keep hb4 g0; have h1 := cell_keep hb4 g1; have h2 := cell_keep hb4 g2; have h3 := cell_keep hb4 g3; have h4 := cell_keep hb4 g4; have h5 := cell_keep hb4 g5; have hc4 := hc3.trans (hb4.mono hc3.size))
        | (go_at_call 45; refine (refCheckStock_any _ l _ _ st _ _ (Vl.keep hc4) Ll Cl (Vst.keep hc4) Lst).mono ?_; rw [HCS.out]; rintro e w5 ⟨rfl, hb5⟩; have u0 := cell_keep hb5 h0; have u1 := cell_keep hb5 h1; have u2 := cell_keep hb5 h2; have u3 := cell_keep hb5 h3; have u4 := cell_keep hb5 h4; have u5 := cell_keep hb5 h5; have hc5 := hc4.trans (hb5.mono hc4.size); have hi5 := hi4.keep hb5))
      all_goals (go_ret; exact ⟨ret_bool (by go_tidy; first | rfl | (simp; done)), by assumption⟩)

set_option maxRecDepth 100000 in
theorem timberFitting_walks : Walks 13 Try.f13 := by
  intro H enc W base args ds p hval hA hlt
  rw [Try.params13] at hA hval
  obtain ⟨v0, vs0, d0, ds0, p0, q0, hargs, rfl, rfl, ⟨fu0, hf0⟩, r0⟩ := trodAll_cons hA
  obtain ⟨v1, vs1, d1, ds1, p1, q1, rfl, rfl, rfl, ⟨fu1, hf1⟩, r1⟩ := trodAll_cons r0
  obtain ⟨v2, vs2, d2, ds2, p2, q2, rfl, rfl, rfl, ⟨fu2, hf2⟩, r2⟩ := trodAll_cons r1
  obtain ⟨rfl, rfl, rfl⟩ := trodAll_nil r2
  obtain rfl : args = #[v0, v1, v2] := by cases args; simp_all
  obtain ⟨_, _, _, rfl⟩ := okWide_slice Try.underlying22 (hval 0 22 v0 rfl rfl)
  obtain ⟨a0, l, c0, e0, V0, C0, M0⟩ := Speciess.open_ hf0
  rw [e0]
  obtain ⟨_, _, _, rfl⟩ := okWide_slice Try.underlying71 (hval 1 71 v1 rfl rfl)
  obtain ⟨a1, st, c1, e1, V1, C1, M1⟩ := Boards.open_ hf1
  rw [e1]
  obtain ⟨cs2, rfl, -⟩ := okWide_struct Try.underlying96 (hval 2 96 v2 rfl rfl)
  obtain ⟨x, hb2⟩ := Blank.open_ hf2
  obtain ⟨hc2, W2⟩ := hb2
  have hd2 : cs2 = #[.string x.name, .string x.species, .int .i64 x.length, .int .i64 x.width, .int .i64 x.thick, .int .i64 x.count] := by
    cases cs2; simpa [Value.cells] using hc2
  subst hd2
  exact walkTimberFitting a0 l c0 a1 st c1 x W V0 (by unfold maxLen at M0; omega) C0 V1 (by unfold maxLen at M1; omega) C1 W2

set_option maxRecDepth 100000 in
theorem timberFitting_holds : Rows.TimberFittingSaid :=
  law_holds (s := Rows.timberFittingSpec) (c := Rows.timberFittingRow) 13 Try.f13 rfl
    (fun H ds h => by match ds, h with | [_, _, _], _ => rfl) (by kernel_rfl) (by kernel_rfl)
    rfl rfl rfl rfl rfl rfl rfl ⟨rfl, rfl, rfl, rfl, rfl⟩ rfl rfl rfl rfl rfl rfl rfl rfl rfl rfl (fun _ _ => rfl) (by kernel_rfl) Try.func13
    timberFitting_closed (of_decide_eq_true (by kernel_rfl)) (by unfold Func.isWrapper; first | (rw [if_pos (by decide +kernel)]; kernel_rfl) | (rw [if_neg (by decide +kernel)]; exact ⟨rfl, rfl⟩)) (by kernel_rfl)
    (fun H enc os => ChangeSpec.witness6 (enc := enc) (C := Try.checked) false ⟨#[], #[.slice none 0 0, .slice none 0 0, .agg #[.string ⟨#[]⟩, .string ⟨#[]⟩, .int .i64 0, .int .i64 0, .int .i64 0, .int .i64 0]], []⟩ 8 (by kernel_rfl) (by kernel_rfl) (by kernel_rfl) (by kernel_rfl))
    timberFitting_walks
end Go.Proofs.Ythhchnhidhgccaa
