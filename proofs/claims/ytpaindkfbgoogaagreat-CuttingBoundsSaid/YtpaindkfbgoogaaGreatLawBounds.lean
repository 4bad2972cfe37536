/- CuttingBounds returns true for every input: Weights, Bound, AreaBound and BestBound are those of the document, or the errors are. No condition. -/
import Derived.Test.YtpaindkfbgoogaaGreatBDW
import Derived.Test.YtpaindkfbgoogaaGreatJob7
import Derived.Test.YtpaindkfbgoogaaGreatFactsBounds
import Derived.ChangeKeysEq
import Derived.OpenShut
set_option linter.unusedVariables false
set_option linter.unusedSimpArgs false
namespace Go.Proofs.YtpaindkfbgoogaaGreat
open Go Go.ChangeShapes Go.WideShapes Go.ChangeAt Go.RowKit Go.Sort Go.Lib

section
attribute [local go_sem] Oper.semAt_some
theorem pr_eq (a b c d : Int) (w : World) : (Op.equalIn 10000 28 (.agg #[.int .i64 a, .int .i64 b]) (.agg #[.int .i64 c, .int .i64 d])).run Tryz.prog w = .ok (decide (a = c) && decide (b = d)) w := by
  obtain ⟨i1, hi1, -⟩ := info_parts int_info
  rw [run_equalIn_array w 9999 _ _ Tryz.underlying28 hi1, show Tryz.prog.cellsOf 3 = 1 by kernel_rfl, show List.range 2 = [0, 1] from rfl]
  simp [Op.eqItems, go_sem]
  by_cases h1 : a = c <;> by_cases h2 : b = d <;> simp [h1, h2, go_sem]
theorem Pr_eql (a b c d : Int) (w : World) : (binOp .eql 28 (.agg #[.int .i64 a, .int .i64 b]) (.agg #[.int .i64 c, .int .i64 d])).run Tryz.prog w = .ok (.bool (decide (a = c) && decide (b = d))) w := by
  simp only [go_sem]
  rw [pr_eq]
  rfl
theorem Pr_neq (a b c d : Int) (w : World) : (binOp .neq 28 (.agg #[.int .i64 a, .int .i64 b]) (.agg #[.int .i64 c, .int .i64 d])).run Tryz.prog w = .ok (.bool (!(decide (a = c) && decide (b = d)))) w := by
  simp only [go_sem]
  rw [pr_eq]
  rfl
theorem Pr_self (a b : Int) (w : World) : (binOp .neq 28 (.agg #[.int .i64 a, .int .i64 b]) (.agg #[.int .i64 a, .int .i64 b])).run Tryz.prog w = .ok (.bool false) w := by rw [Pr_neq]; simp
theorem Pr_zero (w : World) : (binOp .eql 28 (.agg #[.int .i64 0, .int .i64 0]) (.agg #[.int .i64 0, .int .i64 0])).run Tryz.prog w = .ok (.bool true) w := by rw [Pr_eql]; simp
theorem Fr_self (a b : Int) (w : World) : (binOp .neq 50 (.agg #[.int .i64 a, .int .i64 b]) (.agg #[.int .i64 a, .int .i64 b])).run Tryz.prog w = .ok (.bool false) w := by
  simp [go_sem]
end
set_option maxRecDepth 100000 in
set_option maxHeartbeats 16000000 in
theorem walkCuttingBounds (j : Job) (ja1 : Option Addr) (jc1 : Nat) (ja2 : Option Addr) (jc2 : Nat) (k0 k1 : Int) (w : World) (VSj : Boards.V w ja1 j.stock) (LSj : j.stock.length ≤ 9223372036854775807) (CSj : j.stock.length ≤ jc1) (VBj : Blanks.V w ja2 j.blanks) (LBj : j.blanks.length ≤ 9223372036854775807) (CBj : j.blanks.length ≤ jc2) (WTj : j.trim.wf) (Wk : (-9223372036854775808 ≤ k0 ∧ k0 ≤ 9223372036854775807) ∧ (-9223372036854775808 ≤ k1 ∧ k1 ≤ 9223372036854775807)) :
    Calls Tryz.prog 3 #[.agg #[.slice ja1 j.stock.length jc1, .slice ja2 j.blanks.length jc2, .int .i64 j.trim.kerf, .int .i64 j.trim.ends, .int .i64 j.trim.sides], .agg #[.int .i64 k0, .int .i64 k1]] w fun e w' => e = .returned (.bool true) ∧ Below w.heap.size w w' := by
  have HVS := Lib.hid VSj
  have HVB := Lib.hid VBj
  clear VSj VBj
  go_enter Tryz.func3, Tryz.ntmps3
  go_upto_region 1 with fail
  refine gen_world (fun W => JB W w.heap.size j ja1 jc1 ja2 jc2 ∧ (W.cell? ⟨w.heap.size + 1, 0, none⟩ = some (.int .i64 k0) ∧ W.cell? ⟨w.heap.size + 1, 1, none⟩ = some (.int .i64 k1)) ∧ Below w.heap.size w W ∧ w.heap.size + 1 < W.heap.size) ⟨⟨by simp [go_sem], by simp [go_sem], by simp [go_sem], by simp [go_sem], by simp [go_sem]⟩, ⟨by simp [go_sem], by simp [go_sem]⟩, by repeat (first | (with_reducible assumption) | exact Below.refl _ _ | (refine Below.setCell ?_ (by first | omega | (simp; omega) | (simp; done)) _) | (refine Below.alloc ?_ (by first | omega | (simp; omega) | (simp; done)) _) | (refine Below.drew ?_)), by simp⟩ ?_
  rintro W ⟨hC, hY, hbW, hzW⟩
  obtain ⟨gj, hgj⟩ : ∃ g, g = w.heap.size := ⟨_, rfl⟩
  obtain ⟨gk, hgk⟩ : ∃ g, g = w.heap.size + 1 := ⟨_, rfl⟩
  rw [← hgk] at hY hzW
  rw [← hgj] at hC
  rw [← hgk, ← hgj]
  have hzG : gj < W.heap.size := by omega
  have HC := Lib.hid hC
  have HY := Lib.hid hY
  have HBW := Lib.hid hbW
  clear hC hbW hY hgj hgk hzW
  go_upto_region 3 with (go_at_call 5; refine (awake_any _).mono ?_; rintro e w1 ⟨rfl, hb1⟩; have HB1 := Lib.hid hb1; clear hb1)
  have HC1 := Lib.hid (HC.out.keep HB1.out hzG)
  have HY1 := Lib.hid (And.intro (cell_keep HB1.out HY.out.1) (cell_keep HB1.out HY.out.2))
  have HBW1 := Lib.hid (HBW.out.trans (HB1.out.mono HBW.out.size))
  have hzw1 : gj < w1.heap.size := Nat.lt_of_lt_of_le hzG HB1.out.size
  clear HC HBW HB1 hzG HY
  obtain ⟨q0, q1, q2, q3, q4⟩ := HC1.out
  obtain ⟨y0, y1⟩ := HY1.out
  cases hsm : smallB j
  · have HSM := Lib.hid hsm
    clear hsm
    go_wp2_with (go_at_call 6; refine (small_is j ja1 jc1 ja2 jc2 _ HSM.out (HVS.out.keep HBW1.out) LSj (HVB.out.keep HBW1.out) LBj).mono ?_; rintro e w2 ⟨rfl, hb⟩; have HB2 := Lib.hid (HBW1.out.trans (hb.mono HBW1.out.size)); clear hb)
    go_ret
    exact ⟨rfl, HB2.out⟩
  have HSM := Lib.hid hsm
  clear hsm
  go_upto_region 5 with (go_at_call 6; refine (small_is j ja1 jc1 ja2 jc2 _ HSM.out (HVS.out.keep HBW1.out) LSj (HVB.out.keep HBW1.out) LBj).mono ?_; rintro e w2 ⟨rfl, hb⟩; have HB2 := Lib.hid (HBW1.out.trans (hb.mono HBW1.out.size)); have HC2 := Lib.hid (HC1.out.keep hb hzw1); have HY2 := Lib.hid (And.intro (cell_keep hb HY1.out.1) (cell_keep hb HY1.out.2)); have hz2 := hb.size; clear hb)
  have hzw2 : gj < w2.heap.size := by omega
  clear q0 q1 q2 q3 q4 y0 y1 HC1 HBW1 HY1 hz2 hzw1
  obtain ⟨q0, q1, q2, q3, q4⟩ := HC2.out
  obtain ⟨y0, y1⟩ := HY2.out
  have HWT := Lib.hid (fun w9 hs hb => weightsP_any j ja1 jc1 ja2 jc2 k0 k1 w9 hs LSj hb LBj)
  have HBD := Lib.hid (fun w9 hs hb => boundP_any j ja1 jc1 ja2 jc2 k0 k1 w9 hs LSj hb LBj)
  have HAB := Lib.hid (fun w9 hs hb => areaBoundP_any j ja1 jc1 ja2 jc2 w9 hs LSj hb LBj)
  have HBB := Lib.hid (fun w9 hs hb => bestP_any j ja1 jc1 ja2 jc2 w9 hs LSj hb LBj)
  have HCJ := Lib.hid (fun w9 hs hb => refCheckJob_any j ja1 jc1 ja2 jc2 w9 hs LSj hb LBj)
  have HVAL := Lib.hid (show bndV j k0 k1 = (if weightsE j k0 k1 = 0 then ((bndM j k0.toNat k1.toNat : Nat) : Int) else 0) ∧ areaBE j = (if jobE j = 0 then areaE j else jobE j) ∧ areaBV j = (if jobE j = 0 then areaV j else 0) ∧ bestE j = (if weightsE j 0 0 = 0 then areaE j else weightsE j 0 0) from ⟨rfl, rfl, rfl, rfl⟩)
  have HWJ := Lib.hid (fun (E : Int) (h : jobE j = E) (hE : ¬ E = 0) => And.intro (weightsE_job (k0 := k0) (k1 := k1) h hE) (weightsE_job (k0 := 0) (k1 := 0) h hE))
  have HWO := Lib.hid (fun (h : jobE j = 0) => And.intro (fun hk => weightsE_rng (k0 := k0) (k1 := k1) h hk) (And.intro (fun hk => weightsE_ok (k0 := k0) (k1 := k1) h hk) (weightsE_ok (k0 := 0) (k1 := 0) h (by decide))))
  obtain ⟨R0, hR0⟩ : ∃ R, R = (if bestE j = 0 then max (areaV j) (bestM j).1 else 0) := ⟨_, rfl⟩
  obtain ⟨R1, hR1⟩ : ∃ R, R = (if bestE j = 0 then (((bestM j).2.1 : Nat) : Int) else 0) := ⟨_, rfl⟩
  obtain ⟨R2, hR2⟩ : ∃ R, R = (if bestE j = 0 then (((bestM j).2.2 : Nat) : Int) else 0) := ⟨_, rfl⟩
  rw [← hR0, ← hR1, ← hR2] at HBB
  have HR := Lib.hid (And.intro hR0 (And.intro hR1 hR2))
  clear hR0 hR1 hR2
  obtain ⟨E, hE⟩ : ∃ E, weightsE j k0 k1 = E := ⟨_, rfl⟩
  obtain ⟨E0, hE0⟩ : ∃ E, weightsE j 0 0 = E := ⟨_, rfl⟩
  obtain ⟨BV, hBV⟩ : ∃ B, bndV j k0 k1 = B := ⟨_, rfl⟩
  obtain ⟨GE, hGE⟩ : ∃ B, areaBE j = B := ⟨_, rfl⟩
  obtain ⟨GV, hGV⟩ : ∃ B, areaBV j = B := ⟨_, rfl⟩
  obtain ⟨HE, hHE⟩ : ∃ B, bestE j = B := ⟨_, rfl⟩
  obtain ⟨EJ, hEJ⟩ : ∃ B, jobE j = B := ⟨_, rfl⟩
  rw [hE] at HWT HBD HVAL HWO HWJ
  rw [hE0] at HVAL HWO HWJ
  rw [hBV] at HBD HVAL
  rw [hGE, hGV] at HAB HVAL
  rw [hHE] at HBB HVAL HR
  rw [hEJ] at HCJ HVAL
  have HEJ := Lib.hid hEJ
  clear hE hE0 hBV hGE hGV hHE hEJ
  go_upto_region 6 with (go_at_call 7; refine (HWT.out _ (HVS.out.keep HB2.out) (HVB.out.keep HB2.out)).mono ?_; rintro e w3 ⟨a5, n5, c5, rfl, hb, h6, h7⟩; have HB3 := Lib.hid (HB2.out.trans (hb.mono HB2.out.size)); have HC3 := Lib.hid (HC2.out.keep hb hzw2); have HY3 := Lib.hid (And.intro (cell_keep hb HY2.out.1) (cell_keep hb HY2.out.2)); have hz3 := hb.size; have HL5 := Lib.hid h6; have HF5 := Lib.hid h7; clear hb h6 h7)
  have hzw3 : gj < w3.heap.size := by omega
  clear q0 q1 q2 q3 q4 y0 y1 HC2 HB2 HY2 hz3 hzw2 HWT
  obtain ⟨q0, q1, q2, q3, q4⟩ := HC3.out
  obtain ⟨y0, y1⟩ := HY3.out
  go_upto_region 7 with (go_at_call 8; refine (HBD.out _ (HVS.out.keep HB3.out) (HVB.out.keep HB3.out)).mono ?_; rintro e w4 ⟨rfl, hb⟩; have HB4 := Lib.hid (HB3.out.trans (hb.mono HB3.out.size)); have HC4 := Lib.hid (HC3.out.keep hb hzw3); have HY4 := Lib.hid (And.intro (cell_keep hb HY3.out.1) (cell_keep hb HY3.out.2)); have hz4 := hb.size; have HK4 := Lib.hid hb; clear hb)
  have hzw4 : gj < w4.heap.size := by omega
  clear q0 q1 q2 q3 q4 y0 y1 HC3 HB3 HY3 hz4 hzw3 HBD
  obtain ⟨q0, q1, q2, q3, q4⟩ := HC4.out
  go_upto_region 8 with (go_at_call 9; refine (HAB.out _ (HVS.out.keep HB4.out) (HVB.out.keep HB4.out)).mono ?_; rintro e w5 ⟨rfl, hb⟩; have HB5 := Lib.hid (HB4.out.trans (hb.mono HB4.out.size)); have HC5 := Lib.hid (HC4.out.keep hb hzw4); have HY5 := Lib.hid (And.intro (cell_keep hb HY4.out.1) (cell_keep hb HY4.out.2)); have hz5 := hb.size; have HK5 := Lib.hid (HK4.out.trans (hb.mono HK4.out.size)); clear hb)
  have hzw5 : gj < w5.heap.size := by omega
  clear q0 q1 q2 q3 q4 HC4 HB4 HY4 hz5 hzw4 HAB HK4
  obtain ⟨q0, q1, q2, q3, q4⟩ := HC5.out
  go_upto_region 9 with (go_at_call 10; refine (HBB.out _ (HVS.out.keep HB5.out) (HVB.out.keep HB5.out)).mono ?_; rintro e w6 ⟨rfl, hb⟩; have HB6 := Lib.hid (HB5.out.trans (hb.mono HB5.out.size)); have HC6 := Lib.hid (HC5.out.keep hb hzw5); have HY6 := Lib.hid (And.intro (cell_keep hb HY5.out.1) (cell_keep hb HY5.out.2)); have hz6 := hb.size; have HK6 := Lib.hid (HK5.out.trans (hb.mono HK5.out.size)); clear hb)
  have hzw6 : gj < w6.heap.size := by omega
  clear q0 q1 q2 q3 q4 HC5 HB5 HY5 hz6 hzw5 HBB HK5
  refine gen_world (fun W7 => (W7.cell? ⟨w6.heap.size, 0, none⟩ = some (.int .i64 R1) ∧ W7.cell? ⟨w6.heap.size, 1, none⟩ = some (.int .i64 R2)) ∧ Below w6.heap.size w6 W7) ⟨⟨by simp [go_sem], by simp [go_sem]⟩, by repeat (first | (with_reducible assumption) | exact Below.refl _ _ | (refine Below.setCell ?_ (by first | omega | (simp; omega) | (simp; done)) _) | (refine Below.alloc ?_ (by first | omega | (simp; omega) | (simp; done)) _) | (refine Below.drew ?_))⟩ ?_
  rintro W7 ⟨hx, hb⟩
  have HB7 := Lib.hid (HB6.out.trans (hb.mono HB6.out.size))
  have HC7 := Lib.hid (HC6.out.keep hb hzw6)
  have HY7 := Lib.hid (And.intro (cell_keep hb HY6.out.1) (cell_keep hb HY6.out.2))
  have HK7 := Lib.hid (HK6.out.trans (hb.mono HK6.out.size))
  have hzw7 : gj < W7.heap.size := Nat.lt_of_lt_of_le hzw6 hb.size
  obtain ⟨g12, hg12⟩ : ∃ g, g = w6.heap.size := ⟨_, rfl⟩
  rw [← hg12] at hx ⊢
  have HX7 := Lib.hid hx
  clear hx hb hg12 HC6 HB6 HY6 HK6 hzw6
  obtain ⟨q0, q1, q2, q3, q4⟩ := HC7.out
  go_upto_region 10 with (go_at_call 11; refine (HCJ.out _ (HVS.out.keep HB7.out) (HVB.out.keep HB7.out)).mono ?_; rintro e w8 ⟨rfl, hb⟩; have HB8 := Lib.hid (HB7.out.trans (hb.mono HB7.out.size)); have HC8 := Lib.hid (HC7.out.keep hb hzw7); have HY8 := Lib.hid (And.intro (cell_keep hb HY7.out.1) (cell_keep hb HY7.out.2)); have hz8 := hb.size; have HK8 := Lib.hid (HK7.out.trans (hb.mono HK7.out.size)); have HX8 := Lib.hid (And.intro (cell_keep hb HX7.out.1) (cell_keep hb HX7.out.2)); clear hb)
  have hzw8 : gj < w8.heap.size := by omega
  clear q0 q1 q2 q3 q4 HC7 HB7 HY7 hz8 hzw7 HCJ HK7 HX7
  by_cases hej : EJ = 0
  · subst hej
    have HJO := Lib.hid (jobOk_of HEJ.out)
    have HDF := Lib.hid (jobE_def HEJ.out)
    have HWO := Lib.hid (HWO.out HEJ.out)
    obtain ⟨v1, v2, v3, v4⟩ := HVAL.out
    rw [if_pos rfl] at v2 v3
    subst v2 v3
    have HV1 := Lib.hid v1
    have HAR := Lib.hid (fun w9 hs hb => areaBoundR_any j ja1 jc1 ja2 jc2 w9 hs hb HJO.out HDF.out)
    have HW00 := Lib.hid (fun w9 hs hb => weightsR_any j ja1 jc1 ja2 jc2 0 0 (by decide) (by decide) w9 hs hb HJO.out)
    simp only [Int.natCast_zero] at HW00
    have HI0 := Lib.hid (fun w9 => isWeight_any k0 w9)
    have HI1 := Lib.hid (fun w9 => isWeight_any k1 w9)
    have HAA := Lib.hid (show (areaE j = if areaAll j (kindsM j.blanks) = true then 0 else 12) ∧ areaV j = if areaAll j (kindsM j.blanks) = true then ((areaSum j (kindsM j.blanks) : Nat) : Int) else 0 from ⟨rfl, rfl⟩)
    have HBR := Lib.hid HB8.out
    have HCR := Lib.hid HC8.out
    have HYR := Lib.hid HY8.out
    have HXR := Lib.hid HX8.out
    have HKR := Lib.hid HK8.out
    have hzr := hzw8
    clear v1 HVAL HWJ HB8 HC8 HY8 HX8 HK8 hzw8
    by_cases hfit : ∀ x ∈ j.blanks, fitsP j x
    · have HFB := Lib.hid (show fitB j = true from fitB_true.2 hfit)
      have hE0 := HWO.out.2.2
      rw [if_pos hfit] at hE0
      rw [hE0, if_pos rfl] at v4
      rw [HFB.out] at HW00
      have HBE := Lib.hid (fun w9 hs hb => bestR_any j ja1 jc1 ja2 jc2 w9 hs hb HJO.out hfit)
      cases haa : areaAll j (kindsM j.blanks) with
      | true =>
        obtain ⟨e1, e2⟩ := HAA.out
        rw [haa, if_pos rfl] at e1 e2
        rw [haa] at HAR
        rw [e1] at v4 ⊢
        subst v4
        obtain ⟨r0, r1, r2⟩ := HR.out
        rw [if_pos rfl] at r0 r1 r2
        rw [Int.max_comm] at r0
        clear e1 e2 haa HAA HR
        generalize areaV j = AV at *
        generalize bestM j = bm at *
        subst r0 r1 r2
        obtain ⟨q0, q1, q2, q3, q4⟩ := HCR.out
        go_upto_region 15 with (go_at_call 12; refine (HAR.out _ (HVS.out.keep HBR.out) (HVB.out.keep HBR.out)).mono ?_; rintro e w9 ⟨rfl, hb⟩; (have HBR := Lib.hid (HBR.out.trans (hb.mono HBR.out.size)); have HCR := Lib.hid (HCR.out.keep hb hzr); have HYR := Lib.hid (And.intro (cell_keep hb HYR.out.1) (cell_keep hb HYR.out.2)); have HXR := Lib.hid (And.intro (cell_keep hb HXR.out.1) (cell_keep hb HXR.out.2)); have HKR := Lib.hid (HKR.out.trans (hb.mono HKR.out.size)); have hzr := Nat.lt_of_lt_of_le hzr hb.size; clear hb))
        clear q0 q1 q2 q3 q4
        obtain ⟨q0, q1, q2, q3, q4⟩ := HCR.out
        go_upto_region 19 with (go_at_call 13; refine (HW00.out _ (HVS.out.keep HBR.out) (HVB.out.keep HBR.out)).mono ?_; rintro e wA ⟨a17, n17, c17, rfl, hb, -⟩; (have HBR := Lib.hid (HBR.out.trans (hb.mono HBR.out.size)); have HCR := Lib.hid (HCR.out.keep hb hzr); have HYR := Lib.hid (And.intro (cell_keep hb HYR.out.1) (cell_keep hb HYR.out.2)); have HXR := Lib.hid (And.intro (cell_keep hb HXR.out.1) (cell_keep hb HXR.out.2)); have HKR := Lib.hid (HKR.out.trans (hb.mono HKR.out.size)); have hzr := Nat.lt_of_lt_of_le hzr hb.size; clear hb))
        clear q0 q1 q2 q3 q4
        obtain ⟨q0, q1, q2, q3, q4⟩ := HCR.out
        go_upto_region 20 with (go_at_call 14; refine (HBE.out _ (HVS.out.keep HBR.out) (HVB.out.keep HBR.out)).mono ?_; rintro e wD ⟨rfl, hb⟩; (have HBR := Lib.hid (HBR.out.trans (hb.mono HBR.out.size)); have HCR := Lib.hid (HCR.out.keep hb hzr); have HYR := Lib.hid (And.intro (cell_keep hb HYR.out.1) (cell_keep hb HYR.out.2)); have HXR := Lib.hid (And.intro (cell_keep hb HXR.out.1) (cell_keep hb HXR.out.2)); have HKR := Lib.hid (HKR.out.trans (hb.mono HKR.out.size)); have hzr := Nat.lt_of_lt_of_le hzr hb.size; clear hb))
        clear q0 q1 q2 q3 q4
        refine gen_world (fun W7 => (W7.cell? ⟨wD.heap.size, 0, none⟩ = some (.int .i64 ((bm.2.1 : Nat) : Int)) ∧ W7.cell? ⟨wD.heap.size, 1, none⟩ = some (.int .i64 ((bm.2.2 : Nat) : Int))) ∧ Below wD.heap.size wD W7) ⟨⟨by simp [go_sem], by simp [go_sem]⟩, by repeat (first | (with_reducible assumption) | exact Below.refl _ _ | (refine Below.setCell ?_ (by first | omega | (simp; omega) | (simp; done)) _) | (refine Below.alloc ?_ (by first | omega | (simp; omega) | (simp; done)) _) | (refine Below.drew ?_))⟩ ?_
        rintro W9 ⟨⟨p0, p1⟩, hb⟩
        (have HBR := Lib.hid (HBR.out.trans (hb.mono HBR.out.size)); have HCR := Lib.hid (HCR.out.keep hb hzr); have HYR := Lib.hid (And.intro (cell_keep hb HYR.out.1) (cell_keep hb HYR.out.2)); have HXR := Lib.hid (And.intro (cell_keep hb HXR.out.1) (cell_keep hb HXR.out.2)); have HKR := Lib.hid (HKR.out.trans (hb.mono HKR.out.size)); have hzr := Nat.lt_of_lt_of_le hzr hb.size; clear hb)
        obtain ⟨g20, hg20⟩ : ∃ g, g = wD.heap.size := ⟨_, rfl⟩
        rw [← hg20] at p0 p1 ⊢
        clear hg20
        obtain ⟨x0, x1⟩ := HXR.out
        have hps := Pr_self ((bm.2.1 : Nat) : Int) ((bm.2.2 : Nat) : Int)
        go_upto_region 22 with fail
        clear p0 p1 x0 x1 hps
        go_upto_region 23 with fail
        obtain ⟨y0, y1⟩ := HYR.out
        cases hb0 : withinB k0 0 20 with
        | false =>
          have hE := HWO.out.1 (fun h => by rw [withinB_in h.1] at hb0; cases hb0)
          obtain ⟨l1, l2, l3⟩ := HL5.out (by rw [hE]; decide)
          have v1 := HV1.out
          rw [hE, if_neg (by decide)] at v1
          subst hE v1 l2
          rw [hb0] at HI0
          go_wp2_with (go_at_call 15; refine (HI0.out _).mono ?_; rintro e wi ⟨rfl, rfl⟩)
          go_ret
          exact ⟨by simp, HBR.out⟩
        | true =>
          rw [hb0] at HI0
          cases hb1 : withinB k1 0 20 with
          | false =>
            have hE := HWO.out.1 (fun h => by rw [withinB_in h.2] at hb1; cases hb1)
            obtain ⟨l1, l2, l3⟩ := HL5.out (by rw [hE]; decide)
            have v1 := HV1.out
            rw [hE, if_neg (by decide)] at v1
            subst hE v1 l2
            rw [hb1] at HI1
            have tok1 : True := trivial
            go_wp2_with (first
              | (go_at_call 15; have _t := tok1; refine (HI0.out _).mono ?_; rintro e wi ⟨rfl, rfl⟩; clear tok1 _t)
              | (go_at_call 15; refine (HI1.out _).mono ?_; rintro e wi2 ⟨rfl, rfl⟩))
            go_ret
            exact ⟨by simp, HBR.out⟩
          | true =>
            rw [hb1] at HI1
            have hrng : (0 ≤ k0 ∧ k0 ≤ 20) ∧ (0 ≤ k1 ∧ k1 ≤ 20) := ⟨withinB_true hb0, withinB_true hb1⟩
            have hE := HWO.out.2.1 hrng
            have tok1 : True := trivial
            rw [if_pos hfit] at hE
            have v1 := HV1.out
            rw [hE, if_pos rfl] at v1
            obtain ⟨hn5, hf5⟩ := HF5.out hE
            obtain ⟨n0, hn0⟩ : ∃ n : Nat, k0 = n := ⟨k0.toNat, by omega⟩
            obtain ⟨n1, hn1⟩ : ∃ n : Nat, k1 = n := ⟨k1.toNat, by omega⟩
            subst hn0 hn1
            simp only [Int.toNat_natCast] at v1 hn5 hf5
            subst hE v1
            have HF9 := Lib.hid (hf5.keep HKR.out)
            have h20 : n0 ≤ 20 := by omega
            have h21 : n1 ≤ 20 := by omega
            have HWR := Lib.hid (fun w9 hs hb => weightsR_any j ja1 jc1 ja2 jc2 n0 n1 h20 h21 w9 hs hb HJO.out)
            rw [HFB.out] at HWR
            have HBN := Lib.hid (fun w9 hs hb => boundR_any j ja1 jc1 ja2 jc2 n0 n1 h20 h21 w9 hs hb HJO.out hfit)
            have hlm : (j.blanks.map (wfr j n0 n1)).length = j.blanks.length := List.length_map ..
            rw [hlm] at hn5
            subst hn5
            have HLM := Lib.hid hlm
            generalize bndM j n0 n1 = BM at *
            clear hb0 hb1 hrng hf5 hlm
            go_upto_region 29 with (first
              | (go_at_call 15; have _t := tok1; refine (HI0.out _).mono ?_; rintro e wi ⟨rfl, rfl⟩; clear tok1 _t)
              | (go_at_call 15; refine (HI1.out _).mono ?_; rintro e wi2 ⟨rfl, rfl⟩))
            obtain ⟨q0, q1, q2, q3, q4⟩ := HCR.out
            go_upto_region 30 with (go_at_call 13; refine (HWR.out _ (HVS.out.keep HBR.out) (HVB.out.keep HBR.out)).mono ?_; rintro e wB ⟨a22, n22, c22, rfl, hb, hfw⟩; have HF9 := Lib.hid (HF9.out.keep hb); have HG9 := Lib.hid hfw; clear hfw; (have HBR := Lib.hid (HBR.out.trans (hb.mono HBR.out.size)); have HCR := Lib.hid (HCR.out.keep hb hzr); have HYR := Lib.hid (And.intro (cell_keep hb HYR.out.1) (cell_keep hb HYR.out.2)); have HXR := Lib.hid (And.intro (cell_keep hb HXR.out.1) (cell_keep hb HXR.out.2)); have HKR := Lib.hid (HKR.out.trans (hb.mono HKR.out.size)); have hzr := Nat.lt_of_lt_of_le hzr hb.size; clear hb))
            clear q0 q1 q2 q3 q4 y0 y1
            obtain ⟨hn22, hf22⟩ := HG9.out (by first | rfl | trivial)
            rw [HLM.out] at hn22
            subst hn22
            have HG9 := Lib.hid hf22
            clear hf22
            obtain ⟨q0, q1, q2, q3, q4⟩ := HCR.out
            obtain ⟨y0, y1⟩ := HYR.out
            go_upto_region 32 with (go_at_call 16; refine (HBN.out _ (HVS.out.keep HBR.out) (HVB.out.keep HBR.out)).mono ?_; rintro e wC ⟨rfl, hb⟩; have HF9 := Lib.hid (HF9.out.keep hb); have HG9 := Lib.hid (HG9.out.keep hb); (have HBR := Lib.hid (HBR.out.trans (hb.mono HBR.out.size)); have HCR := Lib.hid (HCR.out.keep hb hzr); have HYR := Lib.hid (And.intro (cell_keep hb HYR.out.1) (cell_keep hb HYR.out.2)); have HXR := Lib.hid (And.intro (cell_keep hb HXR.out.1) (cell_keep hb HXR.out.2)); have HKR := Lib.hid (HKR.out.trans (hb.mono HKR.out.size)); have hzr := Nat.lt_of_lt_of_le hzr hb.size; clear hb))
            clear q0 q1 q2 q3 q4 y0 y1
            have hlB := HJO.out.lenB
            obtain ⟨WL, hWL⟩ : ∃ WL, WL = wC := ⟨_, rfl⟩
            subst hWL
            go_wp2_with fail
            go_loopw [24] (fun iv wr => ∃ i : Nat, i ≤ j.blanks.length ∧ iv = .int .i64 i ∧ Below WL.heap.size WL wr) (fun iv _ => j.blanks.length - (intOf iv).toNat)
            case atStart => exact ⟨0, Nat.zero_le _, rfl, Below.refl _ _⟩
            case round =>
              obtain ⟨i, hi, rfl, hbr⟩ := hrel
              have HBI := Lib.hid (HBR.out.trans (hbr.mono HBR.out.size))
              have HBJ := Lib.hid hbr
              by_cases hlt : i < j.blanks.length
              · have hki : (i : Int) < (j.blanks.length : Int) := by omega
                have v6 : IntKind.i64.wrap ((i : Int) + 1) = (i : Int) + 1 := IntWalk.i64_in _ (by omega)
                have hil : i < (j.blanks.map (wfr j n0 n1)).length := by rw [HLM.out]; exact hlt
                obtain ⟨ga, oa, rfl, z0, z1⟩ := (HF9.out.keep hbr).at_ hil
                obtain ⟨gb, ob, rfl, t0, t1⟩ := (HG9.out.keep hbr).at_ hil
                generalize (j.blanks.map (wfr j n0 n1))[i] = fx at *
                have hfs := Fr_self fx.num fx.den
                have l1 := block_lt_of_cell z0
                have l2 := block_lt_of_cell t0
                simp only at l1 l2
                clear hbr hil
                go_upto_region 35 with fail
                go_quiet (fail)
                go_wp2_with fail
                go_roundw
                case rel => exact ⟨i + 1, by omega, by go_num, below_drewN HBJ.out _⟩
                case measure => first | (simp [intOf]; done) | (simp [intOf]; omega)
              · obtain rfl : i = j.blanks.length := by omega
                have hki : ¬ ((j.blanks.length : Nat) : Int) < ((j.blanks.length : Nat) : Int) := by omega
                go_wp2_with fail
                go_ret
                exact ⟨rfl, HBI.out⟩
      | false =>
        obtain ⟨e1, e2⟩ := HAA.out
        rw [haa, if_neg (by decide)] at e1 e2
        rw [haa] at HAR
        rw [e1] at v4 ⊢
        rw [e2] at HAR ⊢
        subst v4
        obtain ⟨r0, r1, r2⟩ := HR.out
        rw [if_neg (by decide)] at r0 r1 r2
        subst r0 r1 r2
        clear e1 e2 haa HAA HR
        obtain ⟨q0, q1, q2, q3, q4⟩ := HCR.out
        go_upto_region 15 with (go_at_call 12; refine (HAR.out _ (HVS.out.keep HBR.out) (HVB.out.keep HBR.out)).mono ?_; rintro e w9 ⟨rfl, hb⟩; (have HBR := Lib.hid (HBR.out.trans (hb.mono HBR.out.size)); have HCR := Lib.hid (HCR.out.keep hb hzr); have HYR := Lib.hid (And.intro (cell_keep hb HYR.out.1) (cell_keep hb HYR.out.2)); have HXR := Lib.hid (And.intro (cell_keep hb HXR.out.1) (cell_keep hb HXR.out.2)); have HKR := Lib.hid (HKR.out.trans (hb.mono HKR.out.size)); have hzr := Nat.lt_of_lt_of_le hzr hb.size; clear hb))
        clear q0 q1 q2 q3 q4
        obtain ⟨q0, q1, q2, q3, q4⟩ := HCR.out
        go_upto_region 17 with (go_at_call 13; refine (HW00.out _ (HVS.out.keep HBR.out) (HVB.out.keep HBR.out)).mono ?_; rintro e wA ⟨a17, n17, c17, rfl, hb, -⟩; (have HBR := Lib.hid (HBR.out.trans (hb.mono HBR.out.size)); have HCR := Lib.hid (HCR.out.keep hb hzr); have HYR := Lib.hid (And.intro (cell_keep hb HYR.out.1) (cell_keep hb HYR.out.2)); have HXR := Lib.hid (And.intro (cell_keep hb HXR.out.1) (cell_keep hb HXR.out.2)); have HKR := Lib.hid (HKR.out.trans (hb.mono HKR.out.size)); have hzr := Nat.lt_of_lt_of_le hzr hb.size; clear hb))
        clear q0 q1 q2 q3 q4
        obtain ⟨x0, x1⟩ := HXR.out
        have hps := Pr_self 0 0
        go_upto_region 22 with fail
        clear x0 x1 hps
        go_upto_region 23 with fail
        obtain ⟨y0, y1⟩ := HYR.out
        cases hb0 : withinB k0 0 20 with
        | false =>
          have hE := HWO.out.1 (fun h => by rw [withinB_in h.1] at hb0; cases hb0)
          obtain ⟨l1, l2, l3⟩ := HL5.out (by rw [hE]; decide)
          have v1 := HV1.out
          rw [hE, if_neg (by decide)] at v1
          subst hE v1 l2
          rw [hb0] at HI0
          go_wp2_with (go_at_call 15; refine (HI0.out _).mono ?_; rintro e wi ⟨rfl, rfl⟩)
          go_ret
          exact ⟨by simp, HBR.out⟩
        | true =>
          rw [hb0] at HI0
          cases hb1 : withinB k1 0 20 with
          | false =>
            have hE := HWO.out.1 (fun h => by rw [withinB_in h.2] at hb1; cases hb1)
            obtain ⟨l1, l2, l3⟩ := HL5.out (by rw [hE]; decide)
            have v1 := HV1.out
            rw [hE, if_neg (by decide)] at v1
            subst hE v1 l2
            rw [hb1] at HI1
            have tok1 : True := trivial
            go_wp2_with (first
              | (go_at_call 15; have _t := tok1; refine (HI0.out _).mono ?_; rintro e wi ⟨rfl, rfl⟩; clear tok1 _t)
              | (go_at_call 15; refine (HI1.out _).mono ?_; rintro e wi2 ⟨rfl, rfl⟩))
            go_ret
            exact ⟨by simp, HBR.out⟩
          | true =>
            rw [hb1] at HI1
            have hrng : (0 ≤ k0 ∧ k0 ≤ 20) ∧ (0 ≤ k1 ∧ k1 ≤ 20) := ⟨withinB_true hb0, withinB_true hb1⟩
            have hE := HWO.out.2.1 hrng
            have tok1 : True := trivial
            rw [if_pos hfit] at hE
            have v1 := HV1.out
            rw [hE, if_pos rfl] at v1
            obtain ⟨hn5, hf5⟩ := HF5.out hE
            obtain ⟨n0, hn0⟩ : ∃ n : Nat, k0 = n := ⟨k0.toNat, by omega⟩
            obtain ⟨n1, hn1⟩ : ∃ n : Nat, k1 = n := ⟨k1.toNat, by omega⟩
            subst hn0 hn1
            simp only [Int.toNat_natCast] at v1 hn5 hf5
            subst hE v1
            have HF9 := Lib.hid (hf5.keep HKR.out)
            have h20 : n0 ≤ 20 := by omega
            have h21 : n1 ≤ 20 := by omega
            have HWR := Lib.hid (fun w9 hs hb => weightsR_any j ja1 jc1 ja2 jc2 n0 n1 h20 h21 w9 hs hb HJO.out)
            rw [HFB.out] at HWR
            have HBN := Lib.hid (fun w9 hs hb => boundR_any j ja1 jc1 ja2 jc2 n0 n1 h20 h21 w9 hs hb HJO.out hfit)
            have hlm : (j.blanks.map (wfr j n0 n1)).length = j.blanks.length := List.length_map ..
            rw [hlm] at hn5
            subst hn5
            have HLM := Lib.hid hlm
            generalize bndM j n0 n1 = BM at *
            clear hb0 hb1 hrng hf5 hlm
            go_upto_region 29 with (first
              | (go_at_call 15; have _t := tok1; refine (HI0.out _).mono ?_; rintro e wi ⟨rfl, rfl⟩; clear tok1 _t)
              | (go_at_call 15; refine (HI1.out _).mono ?_; rintro e wi2 ⟨rfl, rfl⟩))
            obtain ⟨q0, q1, q2, q3, q4⟩ := HCR.out
            go_upto_region 30 with (go_at_call 13; refine (HWR.out _ (HVS.out.keep HBR.out) (HVB.out.keep HBR.out)).mono ?_; rintro e wB ⟨a22, n22, c22, rfl, hb, hfw⟩; have HF9 := Lib.hid (HF9.out.keep hb); have HG9 := Lib.hid hfw; clear hfw; (have HBR := Lib.hid (HBR.out.trans (hb.mono HBR.out.size)); have HCR := Lib.hid (HCR.out.keep hb hzr); have HYR := Lib.hid (And.intro (cell_keep hb HYR.out.1) (cell_keep hb HYR.out.2)); have HXR := Lib.hid (And.intro (cell_keep hb HXR.out.1) (cell_keep hb HXR.out.2)); have HKR := Lib.hid (HKR.out.trans (hb.mono HKR.out.size)); have hzr := Nat.lt_of_lt_of_le hzr hb.size; clear hb))
            clear q0 q1 q2 q3 q4 y0 y1
            obtain ⟨hn22, hf22⟩ := HG9.out (by first | rfl | trivial)
            rw [HLM.out] at hn22
            subst hn22
            have HG9 := Lib.hid hf22
            clear hf22
            obtain ⟨q0, q1, q2, q3, q4⟩ := HCR.out
            obtain ⟨y0, y1⟩ := HYR.out
            go_upto_region 32 with (go_at_call 16; refine (HBN.out _ (HVS.out.keep HBR.out) (HVB.out.keep HBR.out)).mono ?_; rintro e wC ⟨rfl, hb⟩; have HF9 := Lib.hid (HF9.out.keep hb); have HG9 := Lib.hid (HG9.out.keep hb); (have HBR := Lib.hid (HBR.out.trans (hb.mono HBR.out.size)); have HCR := Lib.hid (HCR.out.keep hb hzr); have HYR := Lib.hid (And.intro (cell_keep hb HYR.out.1) (cell_keep hb HYR.out.2)); have HXR := Lib.hid (And.intro (cell_keep hb HXR.out.1) (cell_keep hb HXR.out.2)); have HKR := Lib.hid (HKR.out.trans (hb.mono HKR.out.size)); have hzr := Nat.lt_of_lt_of_le hzr hb.size; clear hb))
            clear q0 q1 q2 q3 q4 y0 y1
            have hlB := HJO.out.lenB
            obtain ⟨WL, hWL⟩ : ∃ WL, WL = wC := ⟨_, rfl⟩
            subst hWL
            go_wp2_with fail
            go_loopw [24] (fun iv wr => ∃ i : Nat, i ≤ j.blanks.length ∧ iv = .int .i64 i ∧ Below WL.heap.size WL wr) (fun iv _ => j.blanks.length - (intOf iv).toNat)
            case atStart => exact ⟨0, Nat.zero_le _, rfl, Below.refl _ _⟩
            case round =>
              obtain ⟨i, hi, rfl, hbr⟩ := hrel
              have HBI := Lib.hid (HBR.out.trans (hbr.mono HBR.out.size))
              have HBJ := Lib.hid hbr
              by_cases hlt : i < j.blanks.length
              · have hki : (i : Int) < (j.blanks.length : Int) := by omega
                have v6 : IntKind.i64.wrap ((i : Int) + 1) = (i : Int) + 1 := IntWalk.i64_in _ (by omega)
                have hil : i < (j.blanks.map (wfr j n0 n1)).length := by rw [HLM.out]; exact hlt
                obtain ⟨ga, oa, rfl, z0, z1⟩ := (HF9.out.keep hbr).at_ hil
                obtain ⟨gb, ob, rfl, t0, t1⟩ := (HG9.out.keep hbr).at_ hil
                generalize (j.blanks.map (wfr j n0 n1))[i] = fx at *
                have hfs := Fr_self fx.num fx.den
                have l1 := block_lt_of_cell z0
                have l2 := block_lt_of_cell t0
                simp only at l1 l2
                clear hbr hil
                go_upto_region 35 with fail
                go_quiet (fail)
                go_wp2_with fail
                go_roundw
                case rel => exact ⟨i + 1, by omega, by go_num, below_drewN HBJ.out _⟩
                case measure => first | (simp [intOf]; done) | (simp [intOf]; omega)
              · obtain rfl : i = j.blanks.length := by omega
                have hki : ¬ ((j.blanks.length : Nat) : Int) < ((j.blanks.length : Nat) : Int) := by omega
                go_wp2_with fail
                go_ret
                exact ⟨rfl, HBI.out⟩
    · have HFB := Lib.hid (show fitB j = false from by cases h : fitB j with | false => rfl | true => exact absurd (fitB_true.1 h) hfit)
      have hE0 := HWO.out.2.2
      rw [if_neg hfit] at hE0
      rw [hE0, if_neg (by decide)] at v4
      rw [HFB.out] at HW00
      subst v4
      obtain ⟨r0, r1, r2⟩ := HR.out
      rw [if_neg (by decide)] at r0 r1 r2
      subst r0 r1 r2
      cases haa : areaAll j (kindsM j.blanks) with
      | true =>
        obtain ⟨e1, e2⟩ := HAA.out
        rw [haa, if_pos rfl] at e1 e2
        rw [haa] at HAR
        rw [e1]
        clear e1 e2 haa HAA HR
        generalize areaV j = AV at *
        obtain ⟨q0, q1, q2, q3, q4⟩ := HCR.out
        go_upto_region 15 with (go_at_call 12; refine (HAR.out _ (HVS.out.keep HBR.out) (HVB.out.keep HBR.out)).mono ?_; rintro e w9 ⟨rfl, hb⟩; (have HBR := Lib.hid (HBR.out.trans (hb.mono HBR.out.size)); have HCR := Lib.hid (HCR.out.keep hb hzr); have HYR := Lib.hid (And.intro (cell_keep hb HYR.out.1) (cell_keep hb HYR.out.2)); have HXR := Lib.hid (And.intro (cell_keep hb HXR.out.1) (cell_keep hb HXR.out.2)); have HKR := Lib.hid (HKR.out.trans (hb.mono HKR.out.size)); have hzr := Nat.lt_of_lt_of_le hzr hb.size; clear hb))
        clear q0 q1 q2 q3 q4
        obtain ⟨q0, q1, q2, q3, q4⟩ := HCR.out
        go_upto_region 17 with (go_at_call 13; refine (HW00.out _ (HVS.out.keep HBR.out) (HVB.out.keep HBR.out)).mono ?_; rintro e wA ⟨a17, n17, c17, rfl, hb, -⟩; (have HBR := Lib.hid (HBR.out.trans (hb.mono HBR.out.size)); have HCR := Lib.hid (HCR.out.keep hb hzr); have HYR := Lib.hid (And.intro (cell_keep hb HYR.out.1) (cell_keep hb HYR.out.2)); have HXR := Lib.hid (And.intro (cell_keep hb HXR.out.1) (cell_keep hb HXR.out.2)); have HKR := Lib.hid (HKR.out.trans (hb.mono HKR.out.size)); have hzr := Nat.lt_of_lt_of_le hzr hb.size; clear hb))
        clear q0 q1 q2 q3 q4
        obtain ⟨x0, x1⟩ := HXR.out
        have hps := Pr_self 0 0
        go_upto_region 22 with fail
        clear x0 x1 hps
        go_upto_region 23 with fail
        obtain ⟨y0, y1⟩ := HYR.out
        cases hb0 : withinB k0 0 20 with
        | false =>
          have hE := HWO.out.1 (fun h => by rw [withinB_in h.1] at hb0; cases hb0)
          obtain ⟨l1, l2, l3⟩ := HL5.out (by rw [hE]; decide)
          have v1 := HV1.out
          rw [hE, if_neg (by decide)] at v1
          subst hE v1 l2
          rw [hb0] at HI0
          go_wp2_with (go_at_call 15; refine (HI0.out _).mono ?_; rintro e wi ⟨rfl, rfl⟩)
          go_ret
          exact ⟨by simp, HBR.out⟩
        | true =>
          rw [hb0] at HI0
          cases hb1 : withinB k1 0 20 with
          | false =>
            have hE := HWO.out.1 (fun h => by rw [withinB_in h.2] at hb1; cases hb1)
            obtain ⟨l1, l2, l3⟩ := HL5.out (by rw [hE]; decide)
            have v1 := HV1.out
            rw [hE, if_neg (by decide)] at v1
            subst hE v1 l2
            rw [hb1] at HI1
            have tok1 : True := trivial
            go_wp2_with (first
              | (go_at_call 15; have _t := tok1; refine (HI0.out _).mono ?_; rintro e wi ⟨rfl, rfl⟩; clear tok1 _t)
              | (go_at_call 15; refine (HI1.out _).mono ?_; rintro e wi2 ⟨rfl, rfl⟩))
            go_ret
            exact ⟨by simp, HBR.out⟩
          | true =>
            rw [hb1] at HI1
            have hrng : (0 ≤ k0 ∧ k0 ≤ 20) ∧ (0 ≤ k1 ∧ k1 ≤ 20) := ⟨withinB_true hb0, withinB_true hb1⟩
            have hE := HWO.out.2.1 hrng
            have tok1 : True := trivial
            rw [if_neg hfit] at hE
            obtain ⟨l1, l2, l3⟩ := HL5.out (by rw [hE]; decide)
            have v1 := HV1.out
            rw [hE, if_neg (by decide)] at v1
            subst hE v1 l2
            clear hb0 hb1 hrng
            go_wp2_with (first
              | (go_at_call 15; have _t := tok1; refine (HI0.out _).mono ?_; rintro e wi ⟨rfl, rfl⟩; clear tok1 _t)
              | (go_at_call 15; refine (HI1.out _).mono ?_; rintro e wi2 ⟨rfl, rfl⟩))
            go_ret
            exact ⟨by simp, HBR.out⟩
      | false =>
        obtain ⟨e1, e2⟩ := HAA.out
        rw [haa, if_neg (by decide)] at e1 e2
        rw [haa] at HAR
        rw [e1]
        rw [e2] at HAR ⊢
        clear e1 e2 haa HAA HR
        obtain ⟨q0, q1, q2, q3, q4⟩ := HCR.out
        go_upto_region 15 with (go_at_call 12; refine (HAR.out _ (HVS.out.keep HBR.out) (HVB.out.keep HBR.out)).mono ?_; rintro e w9 ⟨rfl, hb⟩; (have HBR := Lib.hid (HBR.out.trans (hb.mono HBR.out.size)); have HCR := Lib.hid (HCR.out.keep hb hzr); have HYR := Lib.hid (And.intro (cell_keep hb HYR.out.1) (cell_keep hb HYR.out.2)); have HXR := Lib.hid (And.intro (cell_keep hb HXR.out.1) (cell_keep hb HXR.out.2)); have HKR := Lib.hid (HKR.out.trans (hb.mono HKR.out.size)); have hzr := Nat.lt_of_lt_of_le hzr hb.size; clear hb))
        clear q0 q1 q2 q3 q4
        obtain ⟨q0, q1, q2, q3, q4⟩ := HCR.out
        go_upto_region 17 with (go_at_call 13; refine (HW00.out _ (HVS.out.keep HBR.out) (HVB.out.keep HBR.out)).mono ?_; rintro e wA ⟨a17, n17, c17, rfl, hb, -⟩; (have HBR := Lib.hid (HBR.out.trans (hb.mono HBR.out.size)); have HCR := Lib.hid (HCR.out.keep hb hzr); have HYR := Lib.hid (And.intro (cell_keep hb HYR.out.1) (cell_keep hb HYR.out.2)); have HXR := Lib.hid (And.intro (cell_keep hb HXR.out.1) (cell_keep hb HXR.out.2)); have HKR := Lib.hid (HKR.out.trans (hb.mono HKR.out.size)); have hzr := Nat.lt_of_lt_of_le hzr hb.size; clear hb))
        clear q0 q1 q2 q3 q4
        obtain ⟨x0, x1⟩ := HXR.out
        have hps := Pr_self 0 0
        go_upto_region 22 with fail
        clear x0 x1 hps
        go_upto_region 23 with fail
        obtain ⟨y0, y1⟩ := HYR.out
        cases hb0 : withinB k0 0 20 with
        | false =>
          have hE := HWO.out.1 (fun h => by rw [withinB_in h.1] at hb0; cases hb0)
          obtain ⟨l1, l2, l3⟩ := HL5.out (by rw [hE]; decide)
          have v1 := HV1.out
          rw [hE, if_neg (by decide)] at v1
          subst hE v1 l2
          rw [hb0] at HI0
          go_wp2_with (go_at_call 15; refine (HI0.out _).mono ?_; rintro e wi ⟨rfl, rfl⟩)
          go_ret
          exact ⟨by simp, HBR.out⟩
        | true =>
          rw [hb0] at HI0
          cases hb1 : withinB k1 0 20 with
          | false =>
            have hE := HWO.out.1 (fun h => by rw [withinB_in h.2] at hb1; cases hb1)
            obtain ⟨l1, l2, l3⟩ := HL5.out (by rw [hE]; decide)
            have v1 := HV1.out
            rw [hE, if_neg (by decide)] at v1
            subst hE v1 l2
            rw [hb1] at HI1
            have tok1 : True := trivial
            go_wp2_with (first
              | (go_at_call 15; have _t := tok1; refine (HI0.out _).mono ?_; rintro e wi ⟨rfl, rfl⟩; clear tok1 _t)
              | (go_at_call 15; refine (HI1.out _).mono ?_; rintro e wi2 ⟨rfl, rfl⟩))
            go_ret
            exact ⟨by simp, HBR.out⟩
          | true =>
            rw [hb1] at HI1
            have hrng : (0 ≤ k0 ∧ k0 ≤ 20) ∧ (0 ≤ k1 ∧ k1 ≤ 20) := ⟨withinB_true hb0, withinB_true hb1⟩
            have hE := HWO.out.2.1 hrng
            have tok1 : True := trivial
            rw [if_neg hfit] at hE
            obtain ⟨l1, l2, l3⟩ := HL5.out (by rw [hE]; decide)
            have v1 := HV1.out
            rw [hE, if_neg (by decide)] at v1
            subst hE v1 l2
            clear hb0 hb1 hrng
            go_wp2_with (first
              | (go_at_call 15; have _t := tok1; refine (HI0.out _).mono ?_; rintro e wi ⟨rfl, rfl⟩; clear tok1 _t)
              | (go_at_call 15; refine (HI1.out _).mono ?_; rintro e wi2 ⟨rfl, rfl⟩))
            go_ret
            exact ⟨by simp, HBR.out⟩
  · obtain ⟨hw1, hw0⟩ := HWJ.out EJ HEJ.out hej
    obtain ⟨v1, v2, v3, v4⟩ := HVAL.out
    rw [if_neg hej] at v2 v3
    rw [hw1, if_neg hej] at v1
    rw [hw0, if_neg hej] at v4
    obtain ⟨r0, r1, r2⟩ := HR.out
    rw [v4, if_neg hej] at r0 r1 r2
    obtain ⟨l1, l2, l3⟩ := HL5.out (by rw [hw1]; exact hej)
    subst v1 v2 v3 v4 hw1 r0 r1 r2 l2
    obtain ⟨x0, x1⟩ := HX8.out
    have hne := bne_t5 hej
    have hpz := Pr_zero
    go_wp2_with fail
    go_ret
    exact ⟨by simp, HB8.out⟩
set_option maxRecDepth 100000 in
theorem cuttingBounds_walks : Walks 3 Tryz.f3 := by
  intro H enc W base args ds p hval hA hlt
  rw [Tryz.params3] at hA hval
  obtain ⟨v0, vs0, d0, ds0, p0, q0, hargs, rfl, rfl, ⟨fu0, hf0⟩, r0⟩ := trodAll_cons hA
  obtain ⟨v1, vs1, d1, ds1, p1, q1, rfl, rfl, rfl, ⟨fu1, hf1⟩, r1⟩ := trodAll_cons r0
  obtain ⟨rfl, rfl, rfl⟩ := trodAll_nil r1
  obtain rfl : args = #[v0, v1] := by cases args; simp_all
  obtain ⟨cs0, rfl, -⟩ := okWide_struct Tryz.underlying27 (hval 0 27 v0 rfl rfl)
  obtain ⟨j0, a0, c0, b0, d0, hc0, ⟨V0, C0, M0⟩, ⟨U0, D0, N0⟩, W0⟩ := Job.open_ hf0
  have hd0 : cs0 = #[.slice a0 j0.stock.length c0, .slice b0 j0.blanks.length d0, .int .i64 j0.trim.kerf, .int .i64 j0.trim.ends, .int .i64 j0.trim.sides] := by
    cases cs0; simpa [Value.cells] using hc0
  subst hd0
  obtain ⟨cs1, rfl, -⟩ := okWide_pair Tryz.underlying28 (hval 1 28 v1 rfl rfl)
  obtain ⟨p1, q1, hc1, W1⟩ := pair_open hf1
  have hd1 : cs1 = #[.int .i64 p1, .int .i64 q1] := by
    cases cs1; simpa [Value.cells] using hc1
  subst hd1
  exact walkCuttingBounds j0 a0 c0 b0 d0 p1 q1 W V0 (by unfold maxLen at M0; omega) C0 U0 (by unfold maxLen at N0; omega) D0 W0 W1

set_option maxRecDepth 100000 in
theorem cuttingBounds_holds : Rows.CuttingBoundsSaid :=
  law_holds (s := Rows.cuttingBoundsSpec) (c := Rows.cuttingBoundsRow) 3 Tryz.f3 rfl
    (fun H ds h => by match ds, h with | [_, _], _ => rfl) (by kernel_rfl) (by kernel_rfl)
    rfl rfl rfl rfl rfl rfl rfl ⟨rfl, rfl, rfl, rfl, rfl⟩ rfl rfl rfl rfl rfl rfl rfl rfl rfl rfl (fun _ _ => rfl) (by kernel_rfl) Tryz.func3
    cuttingBounds_closed (of_decide_eq_true (by kernel_rfl)) (by unfold Func.isWrapper; first | (rw [if_pos (by decide +kernel)]; kernel_rfl) | (rw [if_neg (by decide +kernel)]; exact ⟨rfl, rfl⟩)) (by kernel_rfl)
    (fun H enc os => ChangeSpec.witness6 (enc := enc) (C := Tryz.checked) false ⟨#[], #[.agg #[.slice none 0 0, .slice none 0 0, .int .i64 0, .int .i64 0, .int .i64 0], .agg #[.int .i64 0, .int .i64 0]], []⟩ 8 (by kernel_rfl) (by kernel_rfl) (by kernel_rfl) (by kernel_rfl))
    cuttingBounds_walks
end Go.Proofs.YtpaindkfbgoogaaGreat
