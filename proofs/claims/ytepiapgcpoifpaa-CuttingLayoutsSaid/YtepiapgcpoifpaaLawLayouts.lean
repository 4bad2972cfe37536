/- CuttingLayouts returns true for every input: CheckLayout and Regions return what the document specifies, for all boards, trims and layouts. No condition. -/
import Derived.Test.YtepiapgcpoifpaaA8
import Derived.Test.YtepiapgcpoifpaaRR
import Derived.Test.YtepiapgcpoifpaaFactsLayouts
set_option linter.unusedVariables false
set_option linter.unusedSimpArgs false
namespace Go.Proofs.Ytepiapgcpoifpaa
open Go Go.ChangeShapes Go.WideShapes Go.ChangeAt Go.RowKit

theorem brief_len {n : Nat} (h : briefB n = true) : n ≤ 420 := by
  unfold briefB at h
  simp only [Bool.or_eq_true, Bool.and_eq_true, decide_eq_true_eq] at h
  omega
theorem layM_len {b : Board} {t : Trim} {l : List Cut} (hl : l.length ≤ 420) : (layM b t l).1.length ≤ 420 := by
  have hg : ∀ (k : Int) (x : List Cut) (i : Nat) (R : List Rect), R.length ≤ 420 → (rectGo k x i R).1.length ≤ 420 := by
    intro k x
    induction x with
    | nil => intro i R h; exact h
    | cons c x ih =>
      intro i R h
      unfold rectGo
      split
      · exact ih _ _ h
      · split
        · simp
        · exact ih _ _ (by rw [stepR_len]; exact h)
  unfold layM regM
  split
  · simp
  · split
    · simp
    · split
      · simp
      · split
        · simp
        · split
          · simp
          · exact hg _ _ _ _ (by simp; exact hl)
set_option maxRecDepth 100000 in
set_option maxHeartbeats 4000000 in
theorem walkCuttingLayouts (b : Board) (ba : Option Addr) (bc : Nat) (t : Trim) (l : Layout) (la : Option Addr) (lc : Nat) (w : World) (Vb : Rects.V w ba b.defects) (Lb : b.defects.length ≤ 9223372036854775807) (Wb : b.wf) (Wt : t.wf) (Vl : Cuts.V w la l.cuts) (Ll : l.cuts.length ≤ 9223372036854775807) (Cl : l.cuts.length ≤ lc) (Wl : l.wf) :
    Calls Try.prog 8 #[.agg #[.string b.name, .string b.species, .int .i64 b.length, .int .i64 b.width, .int .i64 b.thick, .int .i64 b.cut, .int .i64 b.moisture, .slice ba b.defects.length bc], .agg #[.int .i64 t.kerf, .int .i64 t.ends, .int .i64 t.sides], .agg #[.int .i64 l.board, .slice la l.cuts.length lc]] w fun e w' => e = .returned (.bool true) ∧ Below w.heap.size w w' := by
  have HV := Lib.hid Vb
  have HCU := Lib.hid Vl
  clear Vb Vl
  go_enter Try.func8, Try.ntmps8
  go_upto_region 1 with fail
  refine gen_world (fun W => LayB W w.heap.size b ba bc t l.board la l.cuts.length lc ∧ Below w.heap.size w W) ⟨⟨⟨by simp [go_sem], by simp [go_sem], by simp [go_sem], by simp [go_sem], by simp [go_sem], by simp [go_sem], by simp [go_sem], by simp [go_sem]⟩, ⟨by simp [go_sem], by simp [go_sem], by simp [go_sem]⟩, by simp [go_sem], by simp [go_sem]⟩, (((Below.refl _ _).alloc (Nat.le_refl _) _).alloc (by simp) _).alloc (by simp; omega) _⟩ ?_
  rintro W ⟨hC, hbW⟩
  have HBW := Lib.hid hbW
  have HC := Lib.hid hC
  clear hC hbW
  go_upto_region 3 with (go_at_call 14; refine (awake_any _).mono ?_; rintro e w1 ⟨rfl, hb⟩; have HB1 := Lib.hid (HBW.out.trans (hb.mono HBW.out.size)); have HC1 := Lib.hid (HC.out.keep hb); clear hb)
  obtain ⟨⟨c0, c1, c2, c3, c4, c5, c6, c7⟩, ⟨t0, t1, t2⟩, lb0, lc0⟩ := HC1.out
  simp only [Nat.zero_add] at c0 c1 c2 c3 c4 c5 c6 c7
  by_cases h1 : (b.name.size : Int) > 30
  · go_wp2_with fail
    go_ret
    exact ⟨rfl, HB1.out⟩
  by_cases h2 : (b.species.size : Int) > 30
  · go_wp2_with fail
    go_ret
    exact ⟨rfl, HB1.out⟩
  by_cases h3 : (b.defects.length : Int) > 70
  · go_wp2_with fail
    go_ret
    exact ⟨rfl, HB1.out⟩
  cases hbr : briefB l.cuts.length
  · have HBR := Lib.hid hbr
    clear hbr
    go_wp2_with (go_at_call 36; refine (brief_is _ _ _ _ _ HBR.out).mono ?_; rintro e w2 ⟨rfl, hb⟩; have HB2 := Lib.hid (HB1.out.trans (hb.mono HB1.out.size)); have HC2 := Lib.hid (HC1.out.keep hb); clear hb)
    go_ret
    exact ⟨rfl, HB2.out⟩
  · have HBR := Lib.hid hbr
    have hln := brief_len hbr
    have hll : l.cuts.length ≤ 100000 := by omega
    have hlm := layM_len (b := b) (t := t) hln
    clear hbr
    go_upto_region 5 with (go_at_call 36; refine (brief_is _ _ _ _ _ HBR.out).mono ?_; rintro e w2 ⟨rfl, hb⟩; have HB2 := Lib.hid (HB1.out.trans (hb.mono HB1.out.size)); have HC2 := Lib.hid (HC1.out.keep hb); clear hb)
    clear c0 c1 c2 c3 c4 c5 c6 c7 t0 t1 t2 lb0 lc0
    obtain ⟨⟨c0, c1, c2, c3, c4, c5, c6, c7⟩, ⟨t0, t1, t2⟩, lb0, lc0⟩ := HC2.out
    simp only [Nat.zero_add] at c0 c1 c2 c3 c4 c5 c6 c7
    have HQ1 := Lib.hid (fun w9 hv hc => regionsQ_any b t l.board l.cuts ba la bc lc w9 hv Lb Wb hc hll)
    have HQ2 := Lib.hid (fun w9 hv hc => refCheckLayout_any b t l.board l.cuts ba la bc lc w9 hv Lb Wb hc hll)
    have HQ3 := Lib.hid (fun w9 hv hc => checkLayoutP_any b t l.board l.cuts ba la bc lc w9 hv Lb Wb hc hll)
    generalize layM b t l.cuts = q at *
    obtain ⟨qr, qe⟩ := q
    have HLM := Lib.hid (show qr.length ≤ 420 from hlm)
    clear hlm
    go_upto_region 6 with (go_at_call 37; refine (HQ1.out _ (HV.out.keep HB2.out) (HCU.out.keep HB2.out)).mono ?_; rintro e w3 ⟨a1, c1', rfl, hr, hb⟩; have HR1 := Lib.hid hr; have HB3 := Lib.hid (HB2.out.trans (hb.mono HB2.out.size)); have HC3 := Lib.hid (HC2.out.keep hb); clear hr hb)
    clear c0 c1 c2 c3 c4 c5 c6 c7 t0 t1 t2 lb0 lc0
    obtain ⟨⟨c0, c1, c2, c3, c4, c5, c6, c7⟩, ⟨t0, t1, t2⟩, lb0, lc0⟩ := HC3.out
    simp only [Nat.zero_add] at c0 c1 c2 c3 c4 c5 c6 c7
    go_upto_region 7 with (go_at_call 38; refine (HQ2.out _ (HV.out.keep HB3.out) (HCU.out.keep HB3.out)).mono ?_; rintro e w4 ⟨a2, c2', rfl, hr, hb⟩; have HR2 := Lib.hid hr; have HB4 := Lib.hid (HB3.out.trans (hb.mono HB3.out.size)); have HR1' := Lib.hid (HR1.out.keep hb); have HC4 := Lib.hid (HC3.out.keep hb); clear hr hb)
    clear c0 c1 c2 c3 c4 c5 c6 c7 t0 t1 t2 lb0 lc0
    obtain ⟨⟨c0, c1, c2, c3, c4, c5, c6, c7⟩, ⟨t0, t1, t2⟩, lb0, lc0⟩ := HC4.out
    simp only [Nat.zero_add] at c0 c1 c2 c3 c4 c5 c6 c7
    go_wp2_with (first
      | (go_at_call 39; refine (HQ3.out _ (HV.out.keep HB4.out) (HCU.out.keep HB4.out)).mono ?_; rintro e w5 ⟨rfl, hb⟩; have HB5 := Lib.hid (HB4.out.trans (hb.mono HB4.out.size)); have HR1'' := Lib.hid (HR1'.out.keep hb); have HR2'' := Lib.hid (HR2.out.keep hb); clear hb)
      | (go_at_call 40; refine (sameRects_is a1 a2 qr qr _ _ _ _ _ rfl rfl (decide_eq_true rfl) HR1''.out HR2''.out (by have := HLM.out; omega) (by have := HLM.out; omega)).mono ?_; rintro e w6 ⟨rfl, hb⟩; have HB6 := Lib.hid (HB5.out.trans (hb.mono HB5.out.size)); clear hb))
    go_ret
    exact ⟨ret_bool (by simp), HB6.out⟩
set_option maxRecDepth 100000 in
theorem cuttingLayouts_walks : Walks 8 Try.f8 := by
  intro H enc W base args ds p hval hA hlt
  rw [Try.params8] at hA hval
  obtain ⟨v0, vs0, d0, ds0, p0, q0, hargs, rfl, rfl, ⟨fu0, hf0⟩, r0⟩ := trodAll_cons hA
  obtain ⟨v1, vs1, d1, ds1, p1, q1, rfl, rfl, rfl, ⟨fu1, hf1⟩, r1⟩ := trodAll_cons r0
  obtain ⟨v2, vs2, d2, ds2, p2, q2, rfl, rfl, rfl, ⟨fu2, hf2⟩, r2⟩ := trodAll_cons r1
  obtain ⟨rfl, rfl, rfl⟩ := trodAll_nil r2
  obtain rfl : args = #[v0, v1, v2] := by cases args; simp_all
  obtain ⟨cs0, rfl, -⟩ := okWide_struct Try.underlying56 (hval 0 56 v0 rfl rfl)
  obtain ⟨b, hb0⟩ := Board.open_ hf0
  obtain ⟨a0, c0, hc0, V0, C0, M0, W0⟩ := hb0
  have hd0 : cs0 = #[.string b.name, .string b.species, .int .i64 b.length, .int .i64 b.width, .int .i64 b.thick, .int .i64 b.cut, .int .i64 b.moisture, .slice a0 b.defects.length c0] := by
    cases cs0; simpa [Value.cells] using hc0
  subst hd0
  obtain ⟨cs1, rfl, -⟩ := okWide_struct Try.underlying25 (hval 1 25 v1 rfl rfl)
  obtain ⟨t1, hc1, W1⟩ := Trim.open_ hf1
  have hd1 : cs1 = #[.int .i64 t1.kerf, .int .i64 t1.ends, .int .i64 t1.sides] := by
    cases cs1; simpa [Value.cells] using hc1
  subst hd1
  obtain ⟨cs2, rfl, -⟩ := okWide_struct Try.underlying76 (hval 2 76 v2 rfl rfl)
  obtain ⟨l2, a2, c2, hc2, V2, C2, M2, W2⟩ := Layout.open_ hf2
  have hd2 : cs2 = #[.int .i64 l2.board, .slice a2 l2.cuts.length c2] := by
    cases cs2; simpa [Value.cells] using hc2
  subst hd2
  exact walkCuttingLayouts b a0 c0 t1 l2 a2 c2 W V0 (by unfold maxLen at M0; omega) W0 W1 V2 (by unfold maxLen at M2; omega) C2 W2

set_option maxRecDepth 100000 in
theorem cuttingLayouts_holds : Rows.CuttingLayoutsSaid :=
  law_holds (s := Rows.cuttingLayoutsSpec) (c := Rows.cuttingLayoutsRow) 8 Try.f8 rfl
    (fun H ds h => by match ds, h with | [_, _, _], _ => rfl) (by kernel_rfl) (by kernel_rfl)
    rfl rfl rfl rfl rfl rfl rfl ⟨rfl, rfl, rfl, rfl, rfl⟩ rfl rfl rfl rfl rfl rfl rfl rfl rfl rfl (fun _ _ => rfl) (by kernel_rfl) Try.func8
    cuttingLayouts_closed (of_decide_eq_true (by kernel_rfl)) (by unfold Func.isWrapper; first | (rw [if_pos (by decide +kernel)]; kernel_rfl) | (rw [if_neg (by decide +kernel)]; exact ⟨rfl, rfl⟩)) (by kernel_rfl)
    (fun H enc os => ChangeSpec.witness6 (enc := enc) (C := Try.checked) false ⟨#[], #[.agg #[.string ⟨#[]⟩, .string ⟨#[]⟩, .int .i64 0, .int .i64 0, .int .i64 0, .int .i64 0, .int .i64 0, .slice none 0 0], .agg #[.int .i64 0, .int .i64 0, .int .i64 0], .agg #[.int .i64 0, .slice none 0 0]], []⟩ 8 (by kernel_rfl) (by kernel_rfl) (by kernel_rfl) (by kernel_rfl))
    cuttingLayouts_walks
end Go.Proofs.Ytepiapgcpoifpaa
