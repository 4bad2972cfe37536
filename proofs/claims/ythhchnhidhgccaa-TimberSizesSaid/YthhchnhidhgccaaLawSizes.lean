/- TimberSizes returns true for every input: Sizes returns the intervals of a board's sizes at a moisture, or the error that the document specifies. No condition. -/
import Derived.Test.YthhchnhidhgccaaSizes2
import Derived.Test.YthhchnhidhgccaaFactsSizes
set_option linter.unusedVariables false
set_option linter.unusedSimpArgs false
namespace Go.Proofs.Ythhchnhidhgccaa
open Go Go.ChangeShapes Go.WideShapes Go.ChangeAt Go.RowKit

theorem six_new (w : World) (a b c d e f : Int) : Six (w.alloc (.cells #[.int .i64 a, .int .i64 b, .int .i64 c, .int .i64 d, .int .i64 e, .int .i64 f] 84)) w.heap.size a b c d e f := heap_alloc_new w _
theorem refFind_kk (a : Option Addr) (l : List Species) (c : Nat) (nm : ByteArray) (w : World) (k : Nat) (hv : Speciess.V w a l) (hl : l.length ≤ 9223372036854775807) (hi : idxOf (nameIs nm) l = k) :
    Calls Try.prog 24 #[.slice a l.length c, .string nm] w fun e w' => e = .returned (.int .i64 k) ∧ w = w' := by
  rw [← hi]; exact refFind_any a l c nm w hv hl
theorem refAt_is (size rate : Int) (m : Interval) (w : World) (N : Int) (h : moved size rate m.lo m.hi = N) (s1 : 0 ≤ size) (s2 : size ≤ 600000) (h1 : 0 ≤ rate) (h2 : rate ≤ 2000) (h3 : 0 ≤ m.lo) (h4 : m.lo ≤ 400) (h5 : 0 ≤ m.hi) (h6 : m.hi ≤ 400) :
    Calls Try.prog 48 #[.int .i64 size, .int .i64 rate, .agg #[.int .i64 m.lo, .int .i64 m.hi]] w fun e w' => e = .returned (.agg #[.int .i64 (N / 1000000), .int .i64 (-((-N) / 1000000))]) ∧ Below w.heap.size w w' := by
  subst h; exact refAt_any size rate m w s1 s2 h1 h2 h3 h4 h5 h6
/-- What Sizes returns, as one word. -/
def SizesAt (la : Option Addr) (l : List Species) (lc : Nat) (b : Board) (ba : Option Addr) (bc : Nat) (m P0 P1 P2 P3 P4 P5 E : Int) : Prop :=
  ∀ w : World, Speciess.V w la l → Rects.V w ba b.defects → Calls Try.prog 49 #[.slice la l.length lc, .agg #[.string b.name, .string b.species, .int .i64 b.length, .int .i64 b.width, .int .i64 b.thick, .int .i64 b.cut, .int .i64 b.moisture, .slice ba b.defects.length bc], .int .i64 m] w fun e w' => e = .returned (.tuple #[.agg #[.int .i64 P0, .int .i64 P1, .int .i64 P2, .int .i64 P3, .int .i64 P4, .int .i64 P5], .int .i64 E]) ∧ Below w.heap.size w w'
theorem sizes_is {la : Option Addr} {l : List Species} {lc : Nat} {b : Board} {ba : Option Addr} {bc : Nat} {m P0 P1 P2 P3 P4 P5 E : Int} (h : SizesAt la l lc b ba bc m P0 P1 P2 P3 P4 P5 E) (w : World) (hs : Speciess.V w la l) (hv : Rects.V w ba b.defects) :
    Calls Try.prog 49 #[.slice la l.length lc, .agg #[.string b.name, .string b.species, .int .i64 b.length, .int .i64 b.width, .int .i64 b.thick, .int .i64 b.cut, .int .i64 b.moisture, .slice ba b.defects.length bc], .int .i64 m] w fun e w' => e = .returned (.tuple #[.agg #[.int .i64 P0, .int .i64 P1, .int .i64 P2, .int .i64 P3, .int .i64 P4, .int .i64 P5], .int .i64 E]) ∧ Below w.heap.size w w' := h w hs hv
theorem refRate_ok (s : Species) (cut axis : Int) (w : World) (hs : s.name.size ≤ 9223372036854775807) (h0 : speciesErr s = 0) (h1 : withinB cut 0 1 = true) (h2 : withinB axis 0 2 = true) :
    Calls Try.prog 41 #[.agg #[.string s.name, .int .i64 s.along, .int .i64 s.across, .int .i64 s.radial, .int .i64 s.density, .int .i64 s.stiffness, .int .i64 s.strength], .int .i64 cut, .int .i64 axis] w fun e w' => e = .returned (.tuple #[.int .i64 (rateOf s cut axis), .int .i64 0]) ∧ Below w.heap.size w w' := by
  have hE : rateE s cut axis = 0 := by simp [rateE, h0, h1, h2]
  have hV : rateV s cut axis = rateOf s cut axis := by simp [rateV, hE]
  rw [← hV, ← hE]; exact refRate_any s cut axis w hs

set_option maxRecDepth 100000 in
set_option maxHeartbeats 8000000 in
theorem walkTimberSizes (la : Option Addr) (l : List Species) (lc : Nat) (b : Board) (ba : Option Addr) (bc : Nat) (m : Int) (w : World) (Vl : Speciess.V w la l) (Ll : l.length ≤ 9223372036854775807) (Cl : l.length ≤ lc) (Vb : Rects.V w ba b.defects) (Lb : b.defects.length ≤ 9223372036854775807) (Wb : b.wf) (Wm : -9223372036854775808 ≤ m ∧ m ≤ 9223372036854775807) :
    Calls Try.prog 11 #[.slice la l.length lc, .agg #[.string b.name, .string b.species, .int .i64 b.length, .int .i64 b.width, .int .i64 b.thick, .int .i64 b.cut, .int .i64 b.moisture, .slice ba b.defects.length bc], .int .i64 m] w fun e w' => e = .returned (.bool true) ∧ Below w.heap.size w w' := by
  by_cases hE : sizesE l b m = 0
  · have hC : checkBoardE l b = 0 := by
      unfold sizesE at hE
      split at hE
      · exact absurd hE (by assumption)
      · rename_i h; exact Classical.not_not.1 h
    have hm : withinB m 0 400 = true := by
      unfold sizesE at hE
      rw [if_neg (by simp [hC])] at hE
      cases hq : withinB m 0 400
      · rw [if_pos hq] at hE; cases hE
      · rfl
    obtain ⟨hcs, hbe, hix⟩ := checkBoardE_ok hC
    obtain ⟨k, hk, hi, -⟩ := idxOf_ok hix
    have hks : (k : Int) < (l.length : Int) := by omega
    have hsp := (checkSpecies_ok hcs).2 l[k] (List.getElem_mem _)
    have hse : speciesErr l[k] = 0 := by
      unfold checkSpecies at hcs
      split at hcs
      · cases hcs
      · exact spGo_ok hcs _ (List.getElem_mem _)
    have hbo := boardErr_ok hbe
    obtain ⟨s, hsk⟩ : ∃ s, l[k] = s := ⟨_, rfl⟩
    rw [hsk] at hsp hse
    obtain ⟨N0, hN0⟩ : ∃ N, sizeN s b m 0 = N := ⟨_, rfl⟩
    obtain ⟨N1, hN1⟩ : ∃ N, sizeN s b m 1 = N := ⟨_, rfl⟩
    obtain ⟨N2, hN2⟩ : ∃ N, sizeN s b m 2 = N := ⟨_, rfl⟩
    have HSZ := Lib.hid (show SizesAt la l lc b ba bc m (N0 / 1000000) (-((-N0) / 1000000)) (N1 / 1000000) (-((-N1) / 1000000)) (N2 / 1000000) (-((-N2) / 1000000)) 0 from fun w hs hv => timberSizes_ok la l lc b ba bc m k s w hs Ll hv Lb Wb hC hm hk hi hsk hsp hbo N0 N1 N2 hN0 hN1 hN2)
    have HM0 := Lib.hid (show moved b.length (rateOf s b.cut 0) b.moisture m = N0 from hN0)
    have HM1 := Lib.hid (show moved b.width (rateOf s b.cut 1) b.moisture m = N1 from hN1)
    have HM2 := Lib.hid (show moved b.thick (rateOf s b.cut 2) b.moisture m = N2 from hN2)
    have HC := Lib.hid hC
    have HI := Lib.hid hi
    have HSK := Lib.hid hsk
    have HSE := Lib.hid hse
    have hmb := withinB_true hm
    have hL := hbo.length
    have hWd := hbo.width
    have hT := hbo.thick
    have hMo := hbo.moisture
    have hcut := hbo.cut
    have HCUT := Lib.hid (show withinB b.cut 0 1 = true by simp [withinB]; omega)
    have hR0 := rateOf_bd hsp b.cut 0
    have hR1 := rateOf_bd hsp b.cut 1
    have hR2 := rateOf_bd hsp b.cut 2
    have hns : s.name.size ≤ 9223372036854775807 := by
      obtain ⟨bk, off, ha, hat⟩ := Vl.at_ hk
      obtain ⟨-, -, -, -, -, -, -, hwf⟩ := hat
      rw [← hsk]; exact hwf.1
    have i0 : ∀ w, (Instr.index 88 (.agg #[.int .i64 b.length, .int .i64 b.width, .int .i64 b.thick]) (.int .i64 0)).run Try.prog w = .ok (.int .i64 b.length) w := fun _ => by kernel_rfl
    have i1 : ∀ w, (Instr.index 88 (.agg #[.int .i64 b.length, .int .i64 b.width, .int .i64 b.thick]) (.int .i64 1)).run Try.prog w = .ok (.int .i64 b.width) w := fun _ => by kernel_rfl
    have i2 : ∀ w, (Instr.index 88 (.agg #[.int .i64 b.length, .int .i64 b.width, .int .i64 b.thick]) (.int .i64 2)).run Try.prog w = .ok (.int .i64 b.thick) w := fun _ => by kernel_rfl
    clear hC hcs hbe hix hi hse hsk hN0 hN1 hN2 hE hcut
    go_enter Try.func11, Try.ntmps11
    go_upto_region 1 with fail
    refine gen_world (fun W => (W.cell? ⟨w.heap.size, 0, none⟩ = some (.string b.name) ∧ W.cell? ⟨w.heap.size, 1, none⟩ = some (.string b.species) ∧ W.cell? ⟨w.heap.size, 2, none⟩ = some (.int .i64 b.length) ∧ W.cell? ⟨w.heap.size, 3, none⟩ = some (.int .i64 b.width) ∧ W.cell? ⟨w.heap.size, 4, none⟩ = some (.int .i64 b.thick) ∧ W.cell? ⟨w.heap.size, 5, none⟩ = some (.int .i64 b.cut) ∧ W.cell? ⟨w.heap.size, 6, none⟩ = some (.int .i64 b.moisture) ∧ W.cell? ⟨w.heap.size, 7, none⟩ = some (.slice ba b.defects.length bc)) ∧ Below w.heap.size w W) ?_ ?_
    · exact ⟨⟨by simp [go_sem], by simp [go_sem], by simp [go_sem], by simp [go_sem], by simp [go_sem], by simp [go_sem], by simp [go_sem], by simp [go_sem]⟩, (Below.refl _ _).alloc (Nat.le_refl _) _⟩
    rintro W ⟨⟨e0, e1, e2, e3, e4, e5, e6, e7⟩, hbW⟩
    go_upto_region 13 with (first
      | (go_at_call 18; refine (awake_any _).mono ?_; rintro e w1 ⟨rfl, hb1⟩; have f0 := cell_keep hb1 e0; have f1 := cell_keep hb1 e1; have f2 := cell_keep hb1 e2; have f3 := cell_keep hb1 e3; have f4 := cell_keep hb1 e4; have f5 := cell_keep hb1 e5; have f6 := cell_keep hb1 e6; have f7 := cell_keep hb1 e7; have hc1 := hbW.trans (hb1.mono hbW.size); have hz1 := block_lt_of_cell f0; simp only at hz1)
      | (go_at_call 19; refine (short_any _ l _ _ (Vl.keep hc1) Ll).mono ?_; rintro e w2 ⟨rfl, rfl⟩)
      | (go_at_call 20; refine (plain_any b _ _ _ Lb Wb).mono ?_; rintro e w3 ⟨rfl, hb3⟩; have g0 := cell_keep hb3 f0; have g1 := cell_keep hb3 f1; have g2 := cell_keep hb3 f2; have g3 := cell_keep hb3 f3; have g4 := cell_keep hb3 f4; have g5 := cell_keep hb3 f5; have g6 := cell_keep hb3 f6; have g7 := cell_keep hb3 f7; have hc3 := hc1.trans (hb3.mono hc1.size); have hz3 := block_lt_of_cell g0; simp only at hz3)
      | (go_at_call 49; refine (sizes_is HSZ.out _ (Vl.keep hc3) (Vb.keep hc3)).mono ?_; rintro e w4 ⟨rfl, hb4⟩; have h0 := cell_keep hb4 g0; have h1 := cell_keep hb4 g1; have h2 := cell_keep hb4 g2; have h3 := cell_keep hb4 g3; have h4 := cell_keep hb4 g4; have h5 := cell_keep hb4 g5; have h6 := cell_keep hb4 g6; have h7 := cell_keep hb4 g7; have hc4 := hc3.trans (hb4.mono hc3.size); have hz4 := block_lt_of_cell h0; simp only at hz4)
      | (go_at_call 22; refine (refCheckBoard_any _ l _ b _ _ _ (Vl.keep (hc4.alloc (by omega) _)) Ll Cl (Vb.keep (hc4.alloc (by omega) _)) Lb Wb).mono ?_; rw [HC.out]; rintro e w5 ⟨rfl, hb5⟩; have u0 : w5.cell? ⟨w.heap.size, 0, none⟩ = some (.string b.name) := (cell_keep hb5 (by simp [go_sem, h0, hz4])); have u1 : w5.cell? ⟨w.heap.size, 1, none⟩ = some (.string b.species) := (cell_keep hb5 (by simp [go_sem, h1, hz4])); have u2 : w5.cell? ⟨w.heap.size, 2, none⟩ = some (.int .i64 b.length) := (cell_keep hb5 (by simp [go_sem, h2, hz4])); have u3 : w5.cell? ⟨w.heap.size, 3, none⟩ = some (.int .i64 b.width) := (cell_keep hb5 (by simp [go_sem, h3, hz4])); have u4 : w5.cell? ⟨w.heap.size, 4, none⟩ = some (.int .i64 b.thick) := (cell_keep hb5 (by simp [go_sem, h4, hz4])); have u5 : w5.cell? ⟨w.heap.size, 5, none⟩ = some (.int .i64 b.cut) := (cell_keep hb5 (by simp [go_sem, h5, hz4])); have u6 : w5.cell? ⟨w.heap.size, 6, none⟩ = some (.int .i64 b.moisture) := (cell_keep hb5 (by simp [go_sem, h6, hz4])); have X5 : Six w5 w4.heap.size (N0 / 1000000) (-((-N0) / 1000000)) (N1 / 1000000) (-((-N1) / 1000000)) (N2 / 1000000) (-((-N2) / 1000000)) := Six.keep hb5 (six_new w4 (N0 / 1000000) (-((-N0) / 1000000)) (N1 / 1000000) (-((-N1) / 1000000)) (N2 / 1000000) (-((-N2) / 1000000))); obtain ⟨x0, x1, x2, x3, x4, x5⟩ := X5.cells; have hzX := X5.lt; have hc5 := (hc4.alloc (by omega) _).trans (hb5.mono (by simp; omega)); have hz5 := block_lt_of_cell u2; simp only at hz5)
      | (go_at_call 50; refine (moisture_any _ _).mono ?_; rintro e w' ⟨rfl, rfl⟩)
      | (go_at_call 24; refine (refFind_kk _ l _ _ _ k (Vl.keep hc5) Ll HI.out).mono ?_; rintro e w6 ⟨rfl, rfl⟩; have hs5 := Vl.keep hc5; obtain ⟨bk, off, ha, hat⟩ := hs5.at_ hk; subst ha; rw [HSK.out] at hat; obtain ⟨t0, t1, t2, t3, t4, t5, t6, -⟩ := hat; have hbk := block_lt_of_cell t0; simp only at hbk))
    all_goals first
      | (go_ret; exact ⟨ret_bool (by go_tidy; first | rfl | (simp; done)), hc3⟩)
      | (go_ret; exact ⟨ret_bool (by go_tidy; first | rfl | (simp; done)), hc1⟩)
      | skip
    refine gen_world (fun W => (W.cell? ⟨w.heap.size, 2, none⟩ = some (.int .i64 b.length) ∧ W.cell? ⟨w.heap.size, 3, none⟩ = some (.int .i64 b.width) ∧ W.cell? ⟨w.heap.size, 4, none⟩ = some (.int .i64 b.thick) ∧ W.cell? ⟨w.heap.size, 5, none⟩ = some (.int .i64 b.cut) ∧ W.cell? ⟨w.heap.size, 6, none⟩ = some (.int .i64 b.moisture)) ∧ (W.cell? ⟨w5.heap.size, 0, none⟩ = some (.string s.name) ∧ W.cell? ⟨w5.heap.size, 1, none⟩ = some (.int .i64 s.along) ∧ W.cell? ⟨w5.heap.size, 2, none⟩ = some (.int .i64 s.across) ∧ W.cell? ⟨w5.heap.size, 3, none⟩ = some (.int .i64 s.radial) ∧ W.cell? ⟨w5.heap.size, 4, none⟩ = some (.int .i64 s.density) ∧ W.cell? ⟨w5.heap.size, 5, none⟩ = some (.int .i64 s.stiffness) ∧ W.cell? ⟨w5.heap.size, 6, none⟩ = some (.int .i64 s.strength)) ∧ (W.cell? ⟨w5.heap.size + 1, 0, none⟩ = some (.int .i64 b.moisture) ∧ W.cell? ⟨w5.heap.size + 1, 1, none⟩ = some (.int .i64 m)) ∧ Six W w4.heap.size (N0 / 1000000) (-((-N0) / 1000000)) (N1 / 1000000) (-((-N1) / 1000000)) (N2 / 1000000) (-((-N2) / 1000000)) ∧ Below w.heap.size w W) ?_ ?_
    · exact ⟨⟨by simp [go_sem, *], by simp [go_sem, *], by simp [go_sem, *], by simp [go_sem, *], by simp [go_sem, *]⟩, ⟨by simp [go_sem], by simp [go_sem], by simp [go_sem], by simp [go_sem], by simp [go_sem], by simp [go_sem], by simp [go_sem]⟩, ⟨by simp [go_sem], by simp [go_sem]⟩, (X5.alloc _).alloc _, (hc5.alloc (by omega) _).alloc (by simp; omega) _⟩
    clear e0 e1 e2 e3 e4 e5 e6 e7 f0 f1 f2 f3 f4 f5 f6 f7 g0 g1 g2 g3 g4 g5 g6 g7 h0 h1 h2 h3 h4 h5 h6 h7 u0 u1 u2 u3 u4 u5 u6 x0 x1 x2 x3 x4 x5 t0 t1 t2 t3 t4 t5 t6 hb1 hb3 hb4 hb5 hc1 hc3 hc4 hc5 hbW hz1 hz3 hz4 hz5 hzX hbk X5 hs5
    generalize hS : w5.heap.size = S at *
    generalize hX : w4.heap.size = X at *
    clear hS hX
    rintro W0 ⟨⟨e2, e3, e4, e5, e6⟩, ⟨s0, s1, s2, s3, s4, s5, s6⟩, ⟨j0, j1⟩, hX, hbW⟩
    have y1 := block_lt_of_cell e2
    have y2 := block_lt_of_cell s0
    have y3 := block_lt_of_cell j0
    have y4 := hX.lt
    simp only at y1 y2 y3
    go_upto_region 17 with (first
      | (go_at_call 41; refine (refRate_ok s b.cut 0 _ hns HSE.out HCUT.out (by decide)).mono ?_; rintro e w6 ⟨rfl, hb6⟩; have ke2 := cell_keep hb6 e2; have ke3 := cell_keep hb6 e3; have ke4 := cell_keep hb6 e4; have ke5 := cell_keep hb6 e5; have ke6 := cell_keep hb6 e6; have ks0 := cell_keep hb6 s0; have ks1 := cell_keep hb6 s1; have ks2 := cell_keep hb6 s2; have ks3 := cell_keep hb6 s3; have ks4 := cell_keep hb6 s4; have ks5 := cell_keep hb6 s5; have ks6 := cell_keep hb6 s6; have kj0 := cell_keep hb6 j0; have kj1 := cell_keep hb6 j1; have X6 := Six.keep hb6 hX; have hc6 := hbW.trans (hb6.mono hbW.size))
      | (with_reducible refine rounds_step ?_)
      | (with_reducible refine wp_loop_rounds 4 ?_))
    have y5 := block_lt_of_cell ke2
    have y6 := block_lt_of_cell ks0
    have y7 := block_lt_of_cell kj0
    have y8 := X6.lt
    simp only at y5 y6 y7
    obtain ⟨x0, x1, x2, x3, x4, x5⟩ := X6.cells
    refine wp_region_grew (by kernel_rfl) (by kernel_rfl) ?_
    repeat (first
      | go_big_quiet_step ((go_at_call 48; exact grew_of (refAt_is _ _ ⟨b.moisture, m⟩ _ _ HM0.out (by omega) (by omega) hR0.1 hR0.2 hMo.1 hMo.2 hmb.1 hmb.2)))
      | quiet_step ((go_at_call 48; exact grew_of (refAt_is _ _ ⟨b.moisture, m⟩ _ _ HM0.out (by omega) (by omega) hR0.1 hR0.2 hMo.1 hMo.2 hmb.1 hmb.2))))
    refine wpQuiet_nil ?_
    rintro _ ⟨g, rfl⟩
    have ne2 := (cell?_grew w6 g _ 2 none y5).trans ke2
    have ne3 := (cell?_grew w6 g _ 3 none y5).trans ke3
    have ne4 := (cell?_grew w6 g _ 4 none y5).trans ke4
    have ne5 := (cell?_grew w6 g _ 5 none y5).trans ke5
    have ne6 := (cell?_grew w6 g _ 6 none y5).trans ke6
    have ns0 := (cell?_grew w6 g _ 0 none y6).trans ks0
    have ns1 := (cell?_grew w6 g _ 1 none y6).trans ks1
    have ns2 := (cell?_grew w6 g _ 2 none y6).trans ks2
    have ns3 := (cell?_grew w6 g _ 3 none y6).trans ks3
    have ns4 := (cell?_grew w6 g _ 4 none y6).trans ks4
    have ns5 := (cell?_grew w6 g _ 5 none y6).trans ks5
    have ns6 := (cell?_grew w6 g _ 6 none y6).trans ks6
    have nj0 := (cell?_grew w6 g _ 0 none y7).trans kj0
    have nj1 := (cell?_grew w6 g _ 1 none y7).trans kj1
    have hXn := Six.keep (grew_below w6 g) X6
    have hbn : Below w.heap.size w (grew w6 g) := grewB hc6 (by omega) g
    clear e2 e3 e4 e5 e6 s0 s1 s2 s3 s4 s5 s6 j0 j1 ke2 ke3 ke4 ke5 ke6 ks0 ks1 ks2 ks3 ks4 ks5 ks6 kj0 kj1 hX hbW X6 hc6 hb6 x0 x1 x2 x3 x4 x5 y1 y2 y3 y4 y5 y6 y7 y8
    generalize grew w6 g = W1 at *
    have e2 := ne2
    have e3 := ne3
    have e4 := ne4
    have e5 := ne5
    have e6 := ne6
    have s0 := ns0
    have s1 := ns1
    have s2 := ns2
    have s3 := ns3
    have s4 := ns4
    have s5 := ns5
    have s6 := ns6
    have j0 := nj0
    have j1 := nj1
    have hX := hXn
    have hbW := hbn
    clear ne2 ne3 ne4 ne5 ne6 ns0 ns1 ns2 ns3 ns4 ns5 ns6 nj0 nj1 hXn hbn
    have y1 := block_lt_of_cell e2
    have y2 := block_lt_of_cell s0
    have y3 := block_lt_of_cell j0
    have y4 := hX.lt
    simp only at y1 y2 y3
    go_upto_region 17 with (first
      | (go_at_call 41; refine (refRate_ok s b.cut 1 _ hns HSE.out HCUT.out (by decide)).mono ?_; rintro e w6 ⟨rfl, hb6⟩; have ke2 := cell_keep hb6 e2; have ke3 := cell_keep hb6 e3; have ke4 := cell_keep hb6 e4; have ke5 := cell_keep hb6 e5; have ke6 := cell_keep hb6 e6; have ks0 := cell_keep hb6 s0; have ks1 := cell_keep hb6 s1; have ks2 := cell_keep hb6 s2; have ks3 := cell_keep hb6 s3; have ks4 := cell_keep hb6 s4; have ks5 := cell_keep hb6 s5; have ks6 := cell_keep hb6 s6; have kj0 := cell_keep hb6 j0; have kj1 := cell_keep hb6 j1; have X6 := Six.keep hb6 hX; have hc6 := hbW.trans (hb6.mono hbW.size))
      | (with_reducible refine rounds_step ?_)
      | (with_reducible refine wp_loop_rounds 4 ?_))
    have y5 := block_lt_of_cell ke2
    have y6 := block_lt_of_cell ks0
    have y7 := block_lt_of_cell kj0
    have y8 := X6.lt
    simp only at y5 y6 y7
    obtain ⟨x0, x1, x2, x3, x4, x5⟩ := X6.cells
    refine wp_region_grew (by kernel_rfl) (by kernel_rfl) ?_
    repeat (first
      | go_big_quiet_step ((go_at_call 48; exact grew_of (refAt_is _ _ ⟨b.moisture, m⟩ _ _ HM1.out (by omega) (by omega) hR1.1 hR1.2 hMo.1 hMo.2 hmb.1 hmb.2)))
      | quiet_step ((go_at_call 48; exact grew_of (refAt_is _ _ ⟨b.moisture, m⟩ _ _ HM1.out (by omega) (by omega) hR1.1 hR1.2 hMo.1 hMo.2 hmb.1 hmb.2))))
    refine wpQuiet_nil ?_
    rintro _ ⟨g, rfl⟩
    have ne2 := (cell?_grew w6 g _ 2 none y5).trans ke2
    have ne3 := (cell?_grew w6 g _ 3 none y5).trans ke3
    have ne4 := (cell?_grew w6 g _ 4 none y5).trans ke4
    have ne5 := (cell?_grew w6 g _ 5 none y5).trans ke5
    have ne6 := (cell?_grew w6 g _ 6 none y5).trans ke6
    have ns0 := (cell?_grew w6 g _ 0 none y6).trans ks0
    have ns1 := (cell?_grew w6 g _ 1 none y6).trans ks1
    have ns2 := (cell?_grew w6 g _ 2 none y6).trans ks2
    have ns3 := (cell?_grew w6 g _ 3 none y6).trans ks3
    have ns4 := (cell?_grew w6 g _ 4 none y6).trans ks4
    have ns5 := (cell?_grew w6 g _ 5 none y6).trans ks5
    have ns6 := (cell?_grew w6 g _ 6 none y6).trans ks6
    have nj0 := (cell?_grew w6 g _ 0 none y7).trans kj0
    have nj1 := (cell?_grew w6 g _ 1 none y7).trans kj1
    have hXn := Six.keep (grew_below w6 g) X6
    have hbn : Below w.heap.size w (grew w6 g) := grewB hc6 (by omega) g
    clear e2 e3 e4 e5 e6 s0 s1 s2 s3 s4 s5 s6 j0 j1 ke2 ke3 ke4 ke5 ke6 ks0 ks1 ks2 ks3 ks4 ks5 ks6 kj0 kj1 hX hbW X6 hc6 hb6 x0 x1 x2 x3 x4 x5 y1 y2 y3 y4 y5 y6 y7 y8
    generalize grew w6 g = W2 at *
    have e2 := ne2
    have e3 := ne3
    have e4 := ne4
    have e5 := ne5
    have e6 := ne6
    have s0 := ns0
    have s1 := ns1
    have s2 := ns2
    have s3 := ns3
    have s4 := ns4
    have s5 := ns5
    have s6 := ns6
    have j0 := nj0
    have j1 := nj1
    have hX := hXn
    have hbW := hbn
    clear ne2 ne3 ne4 ne5 ne6 ns0 ns1 ns2 ns3 ns4 ns5 ns6 nj0 nj1 hXn hbn
    have y1 := block_lt_of_cell e2
    have y2 := block_lt_of_cell s0
    have y3 := block_lt_of_cell j0
    have y4 := hX.lt
    simp only at y1 y2 y3
    go_upto_region 17 with (first
      | (go_at_call 41; refine (refRate_ok s b.cut 2 _ hns HSE.out HCUT.out (by decide)).mono ?_; rintro e w6 ⟨rfl, hb6⟩; have ke2 := cell_keep hb6 e2; have ke3 := cell_keep hb6 e3; have ke4 := cell_keep hb6 e4; have ke5 := cell_keep hb6 e5; have ke6 := cell_keep hb6 e6; have ks0 := cell_keep hb6 s0; have ks1 := cell_keep hb6 s1; have ks2 := cell_keep hb6 s2; have ks3 := cell_keep hb6 s3; have ks4 := cell_keep hb6 s4; have ks5 := cell_keep hb6 s5; have ks6 := cell_keep hb6 s6; have kj0 := cell_keep hb6 j0; have kj1 := cell_keep hb6 j1; have X6 := Six.keep hb6 hX; have hc6 := hbW.trans (hb6.mono hbW.size))
      | (with_reducible refine rounds_step ?_)
      | (with_reducible refine wp_loop_rounds 4 ?_))
    have y5 := block_lt_of_cell ke2
    have y6 := block_lt_of_cell ks0
    have y7 := block_lt_of_cell kj0
    have y8 := X6.lt
    simp only at y5 y6 y7
    obtain ⟨x0, x1, x2, x3, x4, x5⟩ := X6.cells
    refine wp_region_grew (by kernel_rfl) (by kernel_rfl) ?_
    repeat (first
      | go_big_quiet_step ((go_at_call 48; exact grew_of (refAt_is _ _ ⟨b.moisture, m⟩ _ _ HM2.out (by omega) (by omega) hR2.1 hR2.2 hMo.1 hMo.2 hmb.1 hmb.2)))
      | quiet_step ((go_at_call 48; exact grew_of (refAt_is _ _ ⟨b.moisture, m⟩ _ _ HM2.out (by omega) (by omega) hR2.1 hR2.2 hMo.1 hMo.2 hmb.1 hmb.2))))
    refine wpQuiet_nil ?_
    rintro _ ⟨g, rfl⟩
    have ne2 := (cell?_grew w6 g _ 2 none y5).trans ke2
    have ne3 := (cell?_grew w6 g _ 3 none y5).trans ke3
    have ne4 := (cell?_grew w6 g _ 4 none y5).trans ke4
    have ne5 := (cell?_grew w6 g _ 5 none y5).trans ke5
    have ne6 := (cell?_grew w6 g _ 6 none y5).trans ke6
    have ns0 := (cell?_grew w6 g _ 0 none y6).trans ks0
    have ns1 := (cell?_grew w6 g _ 1 none y6).trans ks1
    have ns2 := (cell?_grew w6 g _ 2 none y6).trans ks2
    have ns3 := (cell?_grew w6 g _ 3 none y6).trans ks3
    have ns4 := (cell?_grew w6 g _ 4 none y6).trans ks4
    have ns5 := (cell?_grew w6 g _ 5 none y6).trans ks5
    have ns6 := (cell?_grew w6 g _ 6 none y6).trans ks6
    have nj0 := (cell?_grew w6 g _ 0 none y7).trans kj0
    have nj1 := (cell?_grew w6 g _ 1 none y7).trans kj1
    have hXn := Six.keep (grew_below w6 g) X6
    have hbn : Below w.heap.size w (grew w6 g) := grewB hc6 (by omega) g
    clear e2 e3 e4 e5 e6 s0 s1 s2 s3 s4 s5 s6 j0 j1 ke2 ke3 ke4 ke5 ke6 ks0 ks1 ks2 ks3 ks4 ks5 ks6 kj0 kj1 hX hbW X6 hc6 hb6 x0 x1 x2 x3 x4 x5 y1 y2 y3 y4 y5 y6 y7 y8
    generalize grew w6 g = W3 at *
    have e2 := ne2
    have e3 := ne3
    have e4 := ne4
    have e5 := ne5
    have e6 := ne6
    have s0 := ns0
    have s1 := ns1
    have s2 := ns2
    have s3 := ns3
    have s4 := ns4
    have s5 := ns5
    have s6 := ns6
    have j0 := nj0
    have j1 := nj1
    have hX := hXn
    have hbW := hbn
    clear ne2 ne3 ne4 ne5 ne6 ns0 ns1 ns2 ns3 ns4 ns5 ns6 nj0 nj1 hXn hbn
    go_wp2_with (first
      | (with_reducible refine rounds_step ?_))
    all_goals (go_ret; exact ⟨ret_bool (by go_tidy; first | rfl | (simp; done)), hbW⟩)
  · obtain ⟨P0, hP0⟩ : ∃ P : Int, P = 0 := ⟨_, rfl⟩
    obtain ⟨E, hEE⟩ : ∃ E, sizesE l b m = E := ⟨_, rfl⟩
    have HSZ := Lib.hid (show SizesAt la l lc b ba bc m 0 0 0 0 0 0 E by
      intro w hs hv
      rw [← hEE]
      exact timberSizes_err la l lc b ba bc m w hs Ll hv Lb Wb hE)
    rw [hEE] at hE
    have b0 : (E != 0) = true := by simp [hE]
    clear hP0
    have hq : ∀ w, (Op.equalIn 10000 84 (.agg #[.int .i64 0, .int .i64 0, .int .i64 0, .int .i64 0, .int .i64 0, .int .i64 0]) (.agg #[.int .i64 0, .int .i64 0, .int .i64 0, .int .i64 0, .int .i64 0, .int .i64 0])).run Try.prog w = .ok true w := fun _ => by kernel_rfl
    by_cases hC : checkBoardE l b = 0
    · have hE2 : E = 2 := by
        rw [← hEE] at hE ⊢
        unfold sizesE at hE ⊢
        rw [if_neg (by simp [hC])] at hE ⊢
        split at hE
        · rename_i hm
          rw [if_pos hm]
        · exact absurd rfl hE
      have hm : withinB m 0 400 = false := by
        cases hq : withinB m 0 400
        · rfl
        · exfalso
          apply hE
          rw [← hEE]
          simp [sizesE, hC, hq]
      subst hE2
      have HC := Lib.hid hC
      clear hEE hE hC
      go_enter Try.func11, Try.ntmps11
      go_upto_region 1 with fail
      refine gen_world (fun W => (W.cell? ⟨w.heap.size, 0, none⟩ = some (.string b.name) ∧ W.cell? ⟨w.heap.size, 1, none⟩ = some (.string b.species) ∧ W.cell? ⟨w.heap.size, 2, none⟩ = some (.int .i64 b.length) ∧ W.cell? ⟨w.heap.size, 3, none⟩ = some (.int .i64 b.width) ∧ W.cell? ⟨w.heap.size, 4, none⟩ = some (.int .i64 b.thick) ∧ W.cell? ⟨w.heap.size, 5, none⟩ = some (.int .i64 b.cut) ∧ W.cell? ⟨w.heap.size, 6, none⟩ = some (.int .i64 b.moisture) ∧ W.cell? ⟨w.heap.size, 7, none⟩ = some (.slice ba b.defects.length bc)) ∧ Below w.heap.size w W) ?_ ?_
      · exact ⟨⟨by simp [go_sem], by simp [go_sem], by simp [go_sem], by simp [go_sem], by simp [go_sem], by simp [go_sem], by simp [go_sem], by simp [go_sem]⟩, (Below.refl _ _).alloc (Nat.le_refl _) _⟩
      rintro W ⟨⟨e0, e1, e2, e3, e4, e5, e6, e7⟩, hbW⟩
      go_wp2_with (first
        | (go_at_call 18; refine (awake_any _).mono ?_; rintro e w1 ⟨rfl, hb1⟩; have f0 := cell_keep hb1 e0; have f1 := cell_keep hb1 e1; have f2 := cell_keep hb1 e2; have f3 := cell_keep hb1 e3; have f4 := cell_keep hb1 e4; have f5 := cell_keep hb1 e5; have f6 := cell_keep hb1 e6; have f7 := cell_keep hb1 e7; have hc1 := hbW.trans (hb1.mono hbW.size); have hz1 := block_lt_of_cell f0; simp only at hz1)
        | (go_at_call 19; refine (short_any _ l _ _ (Vl.keep hc1) Ll).mono ?_; rintro e w2 ⟨rfl, rfl⟩)
        | (go_at_call 20; refine (plain_any b _ _ _ Lb Wb).mono ?_; rintro e w3 ⟨rfl, hb3⟩; have g0 := cell_keep hb3 f0; have g1 := cell_keep hb3 f1; have g2 := cell_keep hb3 f2; have g3 := cell_keep hb3 f3; have g4 := cell_keep hb3 f4; have g5 := cell_keep hb3 f5; have g6 := cell_keep hb3 f6; have g7 := cell_keep hb3 f7; have hc3 := hc1.trans (hb3.mono hc1.size); have hz3 := block_lt_of_cell g0; simp only at hz3)
        | (go_at_call 49; refine (sizes_is HSZ.out _ (Vl.keep hc3) (Vb.keep hc3)).mono ?_; rintro e w4 ⟨rfl, hb4⟩; have h0 := cell_keep hb4 g0; have h1 := cell_keep hb4 g1; have h2 := cell_keep hb4 g2; have h3 := cell_keep hb4 g3; have h4 := cell_keep hb4 g4; have h5 := cell_keep hb4 g5; have h6 := cell_keep hb4 g6; have h7 := cell_keep hb4 g7; have hc4 := hc3.trans (hb4.mono hc3.size); have hz4 := block_lt_of_cell h0; simp only at hz4)
        | (go_at_call 22; refine (refCheckBoard_any _ l _ b _ _ _ (Vl.keep (hc4.alloc (by omega) _)) Ll Cl (Vb.keep (hc4.alloc (by omega) _)) Lb Wb).mono ?_; rw [HC.out]; rintro e w5 ⟨rfl, hb5⟩; have u0 : w5.cell? ⟨w.heap.size, 0, none⟩ = some (.string b.name) := (cell_keep hb5 (by simp [go_sem, h0, hz4])); have u1 : w5.cell? ⟨w.heap.size, 1, none⟩ = some (.string b.species) := (cell_keep hb5 (by simp [go_sem, h1, hz4])); have u2 : w5.cell? ⟨w.heap.size, 2, none⟩ = some (.int .i64 b.length) := (cell_keep hb5 (by simp [go_sem, h2, hz4])); have u3 : w5.cell? ⟨w.heap.size, 3, none⟩ = some (.int .i64 b.width) := (cell_keep hb5 (by simp [go_sem, h3, hz4])); have u4 : w5.cell? ⟨w.heap.size, 4, none⟩ = some (.int .i64 b.thick) := (cell_keep hb5 (by simp [go_sem, h4, hz4])); have u5 : w5.cell? ⟨w.heap.size, 5, none⟩ = some (.int .i64 b.cut) := (cell_keep hb5 (by simp [go_sem, h5, hz4])); have u6 : w5.cell? ⟨w.heap.size, 6, none⟩ = some (.int .i64 b.moisture) := (cell_keep hb5 (by simp [go_sem, h6, hz4])); have X5 : Six w5 w4.heap.size 0 0 0 0 0 0 := Six.keep hb5 (six_new w4 0 0 0 0 0 0); obtain ⟨x0, x1, x2, x3, x4, x5⟩ := X5.cells; have hzX := X5.lt; have hc5 := (hc4.alloc (by omega) _).trans (hb5.mono (by simp; omega)); have hz5 := block_lt_of_cell u2; simp only at hz5)
        | (go_at_call 50; refine (moisture_any _ _).mono ?_; rintro e w' ⟨rfl, rfl⟩))
      all_goals first
        | (go_ret; exact ⟨ret_bool (by go_tidy; first | rfl | (simp; done)), hc5⟩)
        | (go_ret; exact ⟨ret_bool (by go_tidy; first | rfl | (simp; done)), hc3⟩)
        | (go_ret; exact ⟨ret_bool (by go_tidy; first | rfl | (simp; done)), hc1⟩)
    · have hCE : checkBoardE l b = E := by
        rw [← hEE]
        unfold sizesE
        rw [if_pos hC]
      have HC := Lib.hid hCE
      have b1 : (E == 0) = false := by simp [hE]
      clear hEE hC hCE hE
      go_enter Try.func11, Try.ntmps11
      go_upto_region 1 with fail
      refine gen_world (fun W => (W.cell? ⟨w.heap.size, 0, none⟩ = some (.string b.name) ∧ W.cell? ⟨w.heap.size, 1, none⟩ = some (.string b.species) ∧ W.cell? ⟨w.heap.size, 2, none⟩ = some (.int .i64 b.length) ∧ W.cell? ⟨w.heap.size, 3, none⟩ = some (.int .i64 b.width) ∧ W.cell? ⟨w.heap.size, 4, none⟩ = some (.int .i64 b.thick) ∧ W.cell? ⟨w.heap.size, 5, none⟩ = some (.int .i64 b.cut) ∧ W.cell? ⟨w.heap.size, 6, none⟩ = some (.int .i64 b.moisture) ∧ W.cell? ⟨w.heap.size, 7, none⟩ = some (.slice ba b.defects.length bc)) ∧ Below w.heap.size w W) ?_ ?_
      · exact ⟨⟨by simp [go_sem], by simp [go_sem], by simp [go_sem], by simp [go_sem], by simp [go_sem], by simp [go_sem], by simp [go_sem], by simp [go_sem]⟩, (Below.refl _ _).alloc (Nat.le_refl _) _⟩
      rintro W ⟨⟨e0, e1, e2, e3, e4, e5, e6, e7⟩, hbW⟩
      go_wp2_with (first
        | (go_at_call 18; refine (awake_any _).mono ?_; rintro e w1 ⟨rfl, hb1⟩; have f0 := cell_keep hb1 e0; have f1 := cell_keep hb1 e1; have f2 := cell_keep hb1 e2; have f3 := cell_keep hb1 e3; have f4 := cell_keep hb1 e4; have f5 := cell_keep hb1 e5; have f6 := cell_keep hb1 e6; have f7 := cell_keep hb1 e7; have hc1 := hbW.trans (hb1.mono hbW.size); have hz1 := block_lt_of_cell f0; simp only at hz1)
        | (go_at_call 19; refine (short_any _ l _ _ (Vl.keep hc1) Ll).mono ?_; rintro e w2 ⟨rfl, rfl⟩)
        | (go_at_call 20; refine (plain_any b _ _ _ Lb Wb).mono ?_; rintro e w3 ⟨rfl, hb3⟩; have g0 := cell_keep hb3 f0; have g1 := cell_keep hb3 f1; have g2 := cell_keep hb3 f2; have g3 := cell_keep hb3 f3; have g4 := cell_keep hb3 f4; have g5 := cell_keep hb3 f5; have g6 := cell_keep hb3 f6; have g7 := cell_keep hb3 f7; have hc3 := hc1.trans (hb3.mono hc1.size); have hz3 := block_lt_of_cell g0; simp only at hz3)
        | (go_at_call 49; refine (sizes_is HSZ.out _ (Vl.keep hc3) (Vb.keep hc3)).mono ?_; rintro e w4 ⟨rfl, hb4⟩; have h0 := cell_keep hb4 g0; have h1 := cell_keep hb4 g1; have h2 := cell_keep hb4 g2; have h3 := cell_keep hb4 g3; have h4 := cell_keep hb4 g4; have h5 := cell_keep hb4 g5; have h6 := cell_keep hb4 g6; have h7 := cell_keep hb4 g7; have hc4 := hc3.trans (hb4.mono hc3.size); have hz4 := block_lt_of_cell h0; simp only at hz4)
        | (go_at_call 22; refine (refCheckBoard_any _ l _ b _ _ _ (Vl.keep (hc4.alloc (by omega) _)) Ll Cl (Vb.keep (hc4.alloc (by omega) _)) Lb Wb).mono ?_; rw [HC.out]; rintro e w5 ⟨rfl, hb5⟩; have u0 : w5.cell? ⟨w.heap.size, 0, none⟩ = some (.string b.name) := (cell_keep hb5 (by simp [go_sem, h0, hz4])); have u1 : w5.cell? ⟨w.heap.size, 1, none⟩ = some (.string b.species) := (cell_keep hb5 (by simp [go_sem, h1, hz4])); have u2 : w5.cell? ⟨w.heap.size, 2, none⟩ = some (.int .i64 b.length) := (cell_keep hb5 (by simp [go_sem, h2, hz4])); have u3 : w5.cell? ⟨w.heap.size, 3, none⟩ = some (.int .i64 b.width) := (cell_keep hb5 (by simp [go_sem, h3, hz4])); have u4 : w5.cell? ⟨w.heap.size, 4, none⟩ = some (.int .i64 b.thick) := (cell_keep hb5 (by simp [go_sem, h4, hz4])); have u5 : w5.cell? ⟨w.heap.size, 5, none⟩ = some (.int .i64 b.cut) := (cell_keep hb5 (by simp [go_sem, h5, hz4])); have u6 : w5.cell? ⟨w.heap.size, 6, none⟩ = some (.int .i64 b.moisture) := (cell_keep hb5 (by simp [go_sem, h6, hz4])); have X5 : Six w5 w4.heap.size 0 0 0 0 0 0 := Six.keep hb5 (six_new w4 0 0 0 0 0 0); obtain ⟨x0, x1, x2, x3, x4, x5⟩ := X5.cells; have hzX := X5.lt; have hc5 := (hc4.alloc (by omega) _).trans (hb5.mono (by simp; omega)); have hz5 := block_lt_of_cell u2; simp only at hz5))
      all_goals first
        | (go_ret; exact ⟨ret_bool (by go_tidy; first | rfl | (simp; done)), hc5⟩)
        | (go_ret; exact ⟨ret_bool (by go_tidy; first | rfl | (simp; done)), hc3⟩)
        | (go_ret; exact ⟨ret_bool (by go_tidy; first | rfl | (simp; done)), hc1⟩)

set_option maxRecDepth 100000 in
theorem timberSizes_walks : Walks 11 Try.f11 := by
  intro H enc W base args ds p hval hA hlt
  rw [Try.params11] at hA hval
  obtain ⟨v0, vs0, d0, ds0, p0, q0, hargs, rfl, rfl, ⟨fu0, hf0⟩, r0⟩ := trodAll_cons hA
  obtain ⟨v1, vs1, d1, ds1, p1, q1, rfl, rfl, rfl, ⟨fu1, hf1⟩, r1⟩ := trodAll_cons r0
  obtain ⟨v2, vs2, d2, ds2, p2, q2, rfl, rfl, rfl, ⟨fu2, hf2⟩, r2⟩ := trodAll_cons r1
  obtain ⟨rfl, rfl, rfl⟩ := trodAll_nil r2
  obtain rfl : args = #[v0, v1, v2] := by cases args; simp_all
  obtain ⟨_, _, _, rfl⟩ := okWide_slice Try.underlying22 (hval 0 22 v0 rfl rfl)
  obtain ⟨a0, l, c0, e0, V0, C0, M0⟩ := Speciess.open_ hf0
  rw [e0]
  obtain ⟨cs1, rfl, -⟩ := okWide_struct Try.underlying25 (hval 1 25 v1 rfl rfl)
  obtain ⟨b, hb1⟩ := Board.open_ hf1
  obtain ⟨a1, c1, hc1, V1, C1, M1, W1⟩ := hb1
  have hd1 : cs1 = #[.string b.name, .string b.species, .int .i64 b.length, .int .i64 b.width, .int .i64 b.thick, .int .i64 b.cut, .int .i64 b.moisture, .slice a1 b.defects.length c1] := by
    cases cs1; simpa [Value.cells] using hc1
  subst hd1
  obtain ⟨m, rfl⟩ := okWide_int Try.underlying3 (hval 2 3 v2 rfl rfl)
  obtain ⟨s2, g2, -, q2⟩ := DataW.trod_int Try.underlying3 hf2
  obtain rfl : s2 = m := by simpa [Value.cells] using g2.symm
  exact walkTimberSizes a0 l c0 b a1 c1 s2 W V0 (by unfold maxLen at M0; omega) C0 V1 (by unfold maxLen at M1; omega) W1 (int_wf q2)

set_option maxRecDepth 100000 in
theorem timberSizes_holds : Rows.TimberSizesSaid :=
  law_holds (s := Rows.timberSizesSpec) (c := Rows.timberSizesRow) 11 Try.f11 rfl
    (fun H ds h => by match ds, h with | [_, _, _], _ => rfl) (by kernel_rfl) (by kernel_rfl)
    rfl rfl rfl rfl rfl rfl rfl ⟨rfl, rfl, rfl, rfl, rfl⟩ rfl rfl rfl rfl rfl rfl rfl rfl rfl rfl (fun _ _ => rfl) (by kernel_rfl) Try.func11
    timberSizes_closed (of_decide_eq_true (by kernel_rfl)) (by unfold Func.isWrapper; first | (rw [if_pos (by decide +kernel)]; kernel_rfl) | (rw [if_neg (by decide +kernel)]; exact ⟨rfl, rfl⟩)) (by kernel_rfl)
    (fun H enc os => ChangeSpec.witness6 (enc := enc) (C := Try.checked) false ⟨#[], #[.slice none 0 0, .agg #[.string ⟨#[]⟩, .string ⟨#[]⟩, .int .i64 0, .int .i64 0, .int .i64 0, .int .i64 0, .int .i64 0, .slice none 0 0], .int .i64 0], []⟩ 8 (by kernel_rfl) (by kernel_rfl) (by kernel_rfl) (by kernel_rfl))
    timberSizes_walks
end Go.Proofs.Ythhchnhidhgccaa
