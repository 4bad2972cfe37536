/- TimberBoards returns true for every input: CheckBoard and CheckStock return what the document specifies. No condition. -/
import Derived.Test.YthhchnhidhgccaaFew
import Derived.Test.YthhchnhidhgccaaFactsBoards
set_option linter.unusedVariables false
set_option linter.unusedSimpArgs false
namespace Go.Proofs.Ythhchnhidhgccaa
open Go Go.ChangeShapes Go.WideShapes Go.ChangeAt Go.RowKit

set_option maxRecDepth 100000 in
set_option maxHeartbeats 4000000 in
theorem walkTimberBoards (la : Option Addr) (l : List Species) (lc : Nat) (b : Board) (ba : Option Addr) (bc : Nat) (sta : Option Addr) (st : List Board) (stc : Nat) (w : World) (Vl : Speciess.V w la l) (Ll : l.length ≤ 9223372036854775807) (Cl : l.length ≤ lc) (Vb : Rects.V w ba b.defects) (Lb : b.defects.length ≤ 9223372036854775807) (Wb : b.wf) (Vst : Boards.V w sta st) (Lst : st.length ≤ 9223372036854775807) (Cst : st.length ≤ stc) :
    Calls Try.prog 9 #[.slice la l.length lc, .agg #[.string b.name, .string b.species, .int .i64 b.length, .int .i64 b.width, .int .i64 b.thick, .int .i64 b.cut, .int .i64 b.moisture, .slice ba b.defects.length bc], .slice sta st.length stc] w fun e w' => e = .returned (.bool true) ∧ Below w.heap.size w w' := by
  go_enter Try.func9, Try.ntmps9
  go_upto_region 1 with fail
  refine gen_world (fun W => (W.cell? ⟨w.heap.size, 0, none⟩ = some (.string b.name) ∧ W.cell? ⟨w.heap.size, 1, none⟩ = some (.string b.species) ∧ W.cell? ⟨w.heap.size, 2, none⟩ = some (.int .i64 b.length) ∧ W.cell? ⟨w.heap.size, 3, none⟩ = some (.int .i64 b.width) ∧ W.cell? ⟨w.heap.size, 4, none⟩ = some (.int .i64 b.thick) ∧ W.cell? ⟨w.heap.size, 5, none⟩ = some (.int .i64 b.cut) ∧ W.cell? ⟨w.heap.size, 6, none⟩ = some (.int .i64 b.moisture) ∧ W.cell? ⟨w.heap.size, 7, none⟩ = some (.slice ba b.defects.length bc)) ∧ Below w.heap.size w W) ?_ ?_
  · exact ⟨⟨by simp [go_sem], by simp [go_sem], by simp [go_sem], by simp [go_sem], by simp [go_sem], by simp [go_sem], by simp [go_sem], by simp [go_sem]⟩, (Below.refl _ _).alloc (Nat.le_refl _) _⟩
  rintro W ⟨⟨e0, e1, e2, e3, e4, e5, e6, e7⟩, hbW⟩
  go_wp2_with (first
    | (go_at_call 18; refine (awake_any _).mono ?_; rintro e w1 ⟨rfl, hb1⟩; have f0 := cell_keep hb1 e0; have f1 := cell_keep hb1 e1; have f2 := cell_keep hb1 e2; have f3 := cell_keep hb1 e3; have f4 := cell_keep hb1 e4; have f5 := cell_keep hb1 e5; have f6 := cell_keep hb1 e6; have f7 := cell_keep hb1 e7; have hc1 := hbW.trans (hb1.mono hbW.size); have hz1 := block_lt_of_cell f0; simp only at hz1)
    | (go_at_call 19; refine (short_any _ l _ _ (Vl.keep hc1) Ll).mono ?_; rintro e w2 ⟨rfl, rfl⟩)
    | (go_at_call 20; refine (plain_any b _ _ _ Lb Wb).mono ?_; rintro e w3 ⟨rfl, hb3⟩; obtain ⟨hk3, hf3⟩ := bcell hb3; have hc3 := hc1.trans (hb3.mono hc1.size); have hz3 : w.heap.size < w3.heap.size := (by have := hb3.size; omega))
    | (go_at_call 42; refine (few_any _ st _ _ (Vst.keep hc3) Lst).mono ?_; rintro e w4 ⟨rfl, hb4⟩; obtain ⟨hk4, hf4⟩ := bcell hb4; have hc4 := hc3.trans (hb4.mono hc3.size); have hz4 : w.heap.size < w4.heap.size := (by have := hb4.size; omega)))
  all_goals first
    | (go_ret; exact ⟨ret_bool (by go_tidy; first | rfl | (simp; done)), hc4⟩)
    | (go_ret; exact ⟨ret_bool (by go_tidy; first | rfl | (simp; done)), hc3⟩)
    | (go_ret; exact ⟨ret_bool (by go_tidy; first | rfl | (simp; done)), hc1⟩)
    | skip
  have hs5 := Vl.keep hc4
  have hv5 := Vb.keep hc4
  have ht5 := Vst.keep hc4
  refine wp_region_grew (by kernel_rfl) (by kernel_rfl) ?_
  repeat (first
    | go_big_quiet_step ((first | (go_at_call 43; exact grew_of (checkBoardP_any _ l _ b _ _ _ (hs5.keep (grewB (Below.refl _ _) (Nat.le_refl _) _)) Ll (hv5.keep (grewB (Below.refl _ _) (Nat.le_refl _) _)) Lb Wb)) | (go_at_call 22; exact grew_of (refCheckBoard_any _ l _ b _ _ _ (hs5.keep (grewB (Below.refl _ _) (Nat.le_refl _) _)) Ll Cl (hv5.keep (grewB (Below.refl _ _) (Nat.le_refl _) _)) Lb Wb)) | (go_at_call 44; exact grew_of (checkStockP_any _ l _ _ st _ _ (hs5.keep (grewB (Below.refl _ _) (Nat.le_refl _) _)) Ll (ht5.keep (grewB (Below.refl _ _) (Nat.le_refl _) _)) Lst)) | (go_at_call 45; exact grew_of (refCheckStock_any _ l _ _ st _ _ (hs5.keep (grewB (Below.refl _ _) (Nat.le_refl _) _)) Ll Cl (ht5.keep (grewB (Below.refl _ _) (Nat.le_refl _) _)) Lst))))
    | quiet_step ((first | (go_at_call 43; exact grew_of (checkBoardP_any _ l _ b _ _ _ (hs5.keep (grewB (Below.refl _ _) (Nat.le_refl _) _)) Ll (hv5.keep (grewB (Below.refl _ _) (Nat.le_refl _) _)) Lb Wb)) | (go_at_call 22; exact grew_of (refCheckBoard_any _ l _ b _ _ _ (hs5.keep (grewB (Below.refl _ _) (Nat.le_refl _) _)) Ll Cl (hv5.keep (grewB (Below.refl _ _) (Nat.le_refl _) _)) Lb Wb)) | (go_at_call 44; exact grew_of (checkStockP_any _ l _ _ st _ _ (hs5.keep (grewB (Below.refl _ _) (Nat.le_refl _) _)) Ll (ht5.keep (grewB (Below.refl _ _) (Nat.le_refl _) _)) Lst)) | (go_at_call 45; exact grew_of (refCheckStock_any _ l _ _ st _ _ (hs5.keep (grewB (Below.refl _ _) (Nat.le_refl _) _)) Ll Cl (ht5.keep (grewB (Below.refl _ _) (Nat.le_refl _) _)) Lst)))))
  refine wpQuiet_nil ?_
  rintro _ ⟨g, rfl⟩
  go_wp2_with fail
  go_ret
  exact ⟨ret_bool (by go_tidy; first | rfl | (simp; done)), grewB hc4 (by omega) g⟩
set_option maxRecDepth 100000 in
theorem timberBoards_walks : Walks 9 Try.f9 := by
  intro H enc W base args ds p hval hA hlt
  rw [Try.params9] at hA hval
  obtain ⟨v0, vs0, d0, ds0, p0, q0, hargs, rfl, rfl, ⟨fu0, hf0⟩, r0⟩ := trodAll_cons hA
  obtain ⟨v1, vs1, d1, ds1, p1, q1, rfl, rfl, rfl, ⟨fu1, hf1⟩, r1⟩ := trodAll_cons r0
  obtain ⟨v2, vs2, d2, ds2, p2, q2, rfl, rfl, rfl, ⟨fu2, hf2⟩, r2⟩ := trodAll_cons r1
  obtain ⟨rfl, rfl, rfl⟩ := trodAll_nil r2
  obtain rfl : args = #[v0, v1, v2] := by cases args; simp_all
  obtain ⟨_, _, _, rfl⟩ := okWide_slice Try.underlying22 (hval 0 22 v0 rfl rfl)
  obtain ⟨a0, l, c0, e0, V0, C0, M0⟩ := Speciess.open_ hf0
  rw [e0]
  obtain ⟨cs1, rfl, -⟩ := okWide_struct Try.underlying25 (hval 1 25 v1 rfl rfl)
  obtain ⟨b, hb1⟩ := Board.open_ hf1
  obtain ⟨a1, c1, hc1, V1, C1, M1, W1⟩ := hb1
  have hd1 : cs1 = #[.string b.name, .string b.species, .int .i64 b.length, .int .i64 b.width, .int .i64 b.thick, .int .i64 b.cut, .int .i64 b.moisture, .slice a1 b.defects.length c1] := by
    cases cs1; simpa [Value.cells] using hc1
  subst hd1
  obtain ⟨_, _, _, rfl⟩ := okWide_slice Try.underlying71 (hval 2 71 v2 rfl rfl)
  obtain ⟨a2, st, c2, e2, V2, C2, M2⟩ := Boards.open_ hf2
  rw [e2]
  exact walkTimberBoards a0 l c0 b a1 c1 a2 st c2 W V0 (by unfold maxLen at M0; omega) C0 V1 (by unfold maxLen at M1; omega) W1 V2 (by unfold maxLen at M2; omega) C2

set_option maxRecDepth 100000 in
theorem timberBoards_holds : Rows.TimberBoardsSaid :=
  law_holds (s := Rows.timberBoardsSpec) (c := Rows.timberBoardsRow) 9 Try.f9 rfl
    (fun H ds h => by match ds, h with | [_, _, _], _ => rfl) (by kernel_rfl) (by kernel_rfl)
    rfl rfl rfl rfl rfl rfl rfl ⟨rfl, rfl, rfl, rfl, rfl⟩ rfl rfl rfl rfl rfl rfl rfl rfl rfl rfl (fun _ _ => rfl) (by kernel_rfl) Try.func9
    timberBoards_closed (of_decide_eq_true (by kernel_rfl)) (by unfold Func.isWrapper; first | (rw [if_pos (by decide +kernel)]; kernel_rfl) | (rw [if_neg (by decide +kernel)]; exact ⟨rfl, rfl⟩)) (by kernel_rfl)
    (fun H enc os => ChangeSpec.witness6 (enc := enc) (C := Try.checked) false ⟨#[], #[.slice none 0 0, .agg #[.string ⟨#[]⟩, .string ⟨#[]⟩, .int .i64 0, .int .i64 0, .int .i64 0, .int .i64 0, .int .i64 0, .slice none 0 0], .slice none 0 0], []⟩ 8 (by kernel_rfl) (by kernel_rfl) (by kernel_rfl) (by kernel_rfl))
    timberBoards_walks
end Go.Proofs.Ythhchnhidhgccaa
