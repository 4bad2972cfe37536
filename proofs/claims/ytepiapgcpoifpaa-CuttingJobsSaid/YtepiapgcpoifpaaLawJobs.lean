/- CuttingJobs returns true for every input: CheckBlanks, CheckTrim, CheckJob and Usable return what the document specifies, for all jobs. No condition. -/
import Derived.Test.YtepiapgcpoifpaaJob6
import Derived.Test.YtepiapgcpoifpaaJob7
import Derived.Test.YtepiapgcpoifpaaFactsJobs
set_option linter.unusedVariables false
set_option linter.unusedSimpArgs false
namespace Go.Proofs.Ytepiapgcpoifpaa
open Go Go.ChangeShapes Go.WideShapes Go.ChangeAt Go.RowKit

set_option maxRecDepth 100000 in
set_option maxHeartbeats 8000000 in
theorem walkCuttingJobs (j : Job) (ja1 : Option Addr) (jc1 : Nat) (ja2 : Option Addr) (jc2 : Nat) (w : World) (VSj : Boards.V w ja1 j.stock) (LSj : j.stock.length ≤ 9223372036854775807) (CSj : j.stock.length ≤ jc1) (VBj : Blanks.V w ja2 j.blanks) (LBj : j.blanks.length ≤ 9223372036854775807) (CBj : j.blanks.length ≤ jc2) (WTj : j.trim.wf) :
    Calls Try.prog 5 #[.agg #[.slice ja1 j.stock.length jc1, .slice ja2 j.blanks.length jc2, .int .i64 j.trim.kerf, .int .i64 j.trim.ends, .int .i64 j.trim.sides]] w fun e w' => e = .returned (.bool true) ∧ Below w.heap.size w w' := by
  have hre := rect_eql
  go_enter Try.func5, Try.ntmps5
  go_upto_region 1 with fail
  refine gen_world (fun W => JB W w.heap.size j ja1 jc1 ja2 jc2 ∧ Below w.heap.size w W ∧ w.heap.size < W.heap.size) ⟨⟨by simp, by simp, by simp, by simp, by simp⟩, (Below.refl _ _).alloc (Nat.le_refl _) _, by simp⟩ ?_
  rintro W ⟨hC, hbW, hzW⟩
  have HC := Lib.hid hC
  have HBW := Lib.hid hbW
  clear hC hbW
  go_upto_region 3 with (go_at_call 14; refine (awake_any _).mono ?_; rintro e w1 ⟨rfl, hb1⟩; have HB1 := Lib.hid hb1; clear hb1)
  have HC1 := Lib.hid (HC.out.keep HB1.out hzW)
  have HBW1 := Lib.hid (HBW.out.trans (HB1.out.mono (Nat.le_of_lt hzW)))
  have hzw1 : w.heap.size < w1.heap.size := Nat.lt_of_lt_of_le hzW HB1.out.size
  clear HC HBW HB1 hzW
  obtain ⟨k0, k1, k2, k3, k4⟩ := HC1.out
  cases hsm : smallB j
  · have HSM := Lib.hid hsm
    clear hsm
    go_wp2_with (go_at_call 15; refine (small_is j ja1 jc1 ja2 jc2 _ HSM.out (VSj.keep HBW1.out) LSj (VBj.keep HBW1.out) LBj).mono ?_; rintro e w2 ⟨rfl, hb⟩; have HB2 := Lib.hid (HBW1.out.trans (hb.mono HBW1.out.size)); clear hb)
    go_ret
    exact ⟨rfl, HB2.out⟩
  · have HSM := Lib.hid hsm
    clear hsm
    go_upto_region 5 with (go_at_call 15; refine (small_is j ja1 jc1 ja2 jc2 _ HSM.out (VSj.keep HBW1.out) LSj (VBj.keep HBW1.out) LBj).mono ?_; rintro e w2 ⟨rfl, hb⟩; have HB2 := Lib.hid hb; clear hb)
    have HC2 := Lib.hid (HC1.out.keep HB2.out hzw1)
    have HBW2 := Lib.hid (HBW1.out.trans (HB2.out.mono HBW1.out.size))
    have hzw2 : w.heap.size < w2.heap.size := Nat.lt_of_lt_of_le hzw1 HB2.out.size
    clear k0 k1 k2 k3 k4 HC1 HBW1 HB2 hzw1
    obtain ⟨k0, k1, k2, k3, k4⟩ := HC2.out
    have HP1 := Lib.hid (fun g => checkBlanksP_any ja2 j.blanks jc2 (grew w2.drew g) (VBj.keep (grewB HBW2.out.drew HBW2.out.size g)) LBj)
    have HP2 := Lib.hid (fun g => refCheckBlanks_any ja2 j.blanks jc2 (grew w2.drew g) (VBj.keep (grewB HBW2.out.drew HBW2.out.size g)) LBj)
    have HT1 := Lib.hid (fun g => checkTrim_any j.trim (grew w2.drew g))
    have HT2 := Lib.hid (fun g => refCheckTrim_any j.trim (grew w2.drew g))
    have HJ1 := Lib.hid (fun g => checkJobP_any j ja1 jc1 ja2 jc2 (grew w2.drew g) (VSj.keep (grewB HBW2.out.drew HBW2.out.size g)) LSj (VBj.keep (grewB HBW2.out.drew HBW2.out.size g)) LBj)
    have HJ2 := Lib.hid (fun g => refCheckJob_any j ja1 jc1 ja2 jc2 (grew w2.drew g) (VSj.keep (grewB HBW2.out.drew HBW2.out.size g)) LSj (VBj.keep (grewB HBW2.out.drew HBW2.out.size g)) LBj)
    obtain ⟨E2, hE2⟩ : ∃ E, trimE j.trim = E := ⟨_, rfl⟩
    rw [hE2] at HT1 HT2
    have HE2 := Lib.hid hE2
    clear hE2
    generalize checkBlanksE j.blanks = E1 at *
    generalize jobE j = E3 at *
    refine wp_region_grew (by kernel_rfl) (by kernel_rfl) ?_
    repeat (first
      | go_big_quiet_step (first | (go_at_call 24; exact grew_of (HP1.out _)) | (go_at_call 25; exact grew_of (HP2.out _)) | (go_at_call 26; exact grew_of (HT1.out _)) | (go_at_call 27; exact grew_of (HT2.out _)) | (go_at_call 28; exact grew_of (HJ1.out _)) | (go_at_call 17; exact grew_of (HJ2.out _)))
      | quiet_step (first | (go_at_call 24; exact grew_of (HP1.out _)) | (go_at_call 25; exact grew_of (HP2.out _)) | (go_at_call 26; exact grew_of (HT1.out _)) | (go_at_call 27; exact grew_of (HT2.out _)) | (go_at_call 28; exact grew_of (HJ1.out _)) | (go_at_call 17; exact grew_of (HJ2.out _))))
    refine wpQuiet_nil ?_
    rintro _ ⟨g, rfl⟩
    have HBG := Lib.hid (grewB HBW2.out HBW2.out.size g)
    have HB23 := Lib.hid (grewB (Below.refl w2.heap.size w2) (Nat.le_refl _) g)
    have HC3 := Lib.hid (HC2.out.keep HB23.out hzw2)
    have hzw3 : w.heap.size < (grew w2 g).heap.size := Nat.lt_of_lt_of_le hzw2 HB23.out.size
    clear k0 k1 k2 k3 k4 HP1 HP2 HT1 HT2 HJ1 HJ2 HC2 HBW2 HB23 hzw2
    generalize grew w2 g = w3 at *
    obtain ⟨k0, k1, k2, k3, k4⟩ := HC3.out
    by_cases hlen : (j.stock.length : Int) = 0
    · have h1 := beq_t hlen
      go_wp2_with fail
      go_ret
      exact ⟨rfl, HBG.out⟩
    · have h1 := beq_f hlen
      have hlt : 0 < j.stock.length := by omega
      have hli : (0 : Int) < (j.stock.length : Int) := by omega
      obtain ⟨b, off, ad, cd, rfl, ⟨m0, m1, m2, m3, m4, m5, m6, m7⟩, hrv, hdl, hwf⟩ := (VSj.keep HBG.out).at' hlt
      simp only [Nat.zero_mul, Nat.add_zero] at m0 m1 m2 m3 m4 m5 m6 m7
      go_upto_region 9 with fail
      have HRV := Lib.hid hrv
      have HM := Lib.hid (show CellsBd w3 b off j.stock[0] ad cd from ⟨m0, m1, m2, m3, m4, m5, m6, m7⟩)
      clear hrv
      generalize j.stock[0] = x at *
      have hgb := block_lt_of_cell m0
      simp only at hgb
      obtain ⟨E0, hE0⟩ : ∃ E, boardErr x = E := ⟨_, rfl⟩
      have HBE := Lib.hid hE0
      by_cases he0 : E0 = 0
      · by_cases he2 : E2 = 0
        · have hcut : cutE x j.trim = 0 := by unfold cutE; rw [hE0, if_neg (by simp [he0]), HE2.out, he2]
          obtain ⟨hb1, hb2⟩ := cut_bounds hcut
          obtain ⟨r, hr⟩ : ∃ r, usableR x j.trim = r := ⟨_, rfl⟩
          have HRR := Lib.hid hr
          have hUM : usableM x j.trim = (r, 0) := by unfold usableM; rw [if_neg (by simp [hcut]), hr]
          subst he0 he2
          clear hcut hr hE0
          have HU := Lib.hid (fun w9 (hb : Below w3.heap.size w3 w9) => usableP_any x j.trim ad cd w9 (HRV.out.keep hb) hdl hwf hUM)
          clear hUM
          have q1 : w.heap.size ≠ w3.heap.size := by omega
          have q2 : w3.heap.size ≠ w.heap.size := by omega
          have q3 : b ≠ w3.heap.size := by omega
          have q4 : w3.heap.size ≠ b := by omega
          go_region_held3 (fun w' => w'.cell? ⟨w.heap.size, 0, none⟩ = some (.slice (some ⟨b, off, none⟩) j.stock.length jc1) ∧ w'.cell? ⟨w.heap.size, 2, none⟩ = some (.int .i64 j.trim.kerf) ∧ w'.cell? ⟨w.heap.size, 3, none⟩ = some (.int .i64 j.trim.ends) ∧ w'.cell? ⟨w.heap.size, 4, none⟩ = some (.int .i64 j.trim.sides) ∧ w'.cell? ⟨b, off, none⟩ = some (.string x.name) ∧ w'.cell? ⟨b, off + 1, none⟩ = some (.string x.species) ∧ w'.cell? ⟨b, off + 2, none⟩ = some (.int .i64 x.length) ∧ w'.cell? ⟨b, off + 3, none⟩ = some (.int .i64 x.width) ∧ w'.cell? ⟨b, off + 4, none⟩ = some (.int .i64 x.thick) ∧ w'.cell? ⟨b, off + 5, none⟩ = some (.int .i64 x.cut) ∧ w'.cell? ⟨b, off + 6, none⟩ = some (.int .i64 x.moisture) ∧ w'.cell? ⟨b, off + 7, none⟩ = some (.slice ad x.defects.length cd)) (go_keep)
            (first | (go_at_call 29; (with_reducible refine (HU.out _ (Below.refl w3.heap.size w3).drew).mono ?_); rintro e w4 ⟨rfl, hb4⟩; have HBG2 := Lib.hid (show Below w3.heap.size w3 w4 from (Below.refl w3.heap.size w3).drew.trans hb4); have l0 := cell_keep HBG2.out k0; have l2 := cell_keep HBG2.out k2; have l3 := cell_keep HBG2.out k3; have l4 := cell_keep HBG2.out k4; have n0 := cell_keep HBG2.out m0; have n1 := cell_keep HBG2.out m1; have n2 := cell_keep HBG2.out m2; have n3 := cell_keep HBG2.out m3; have n4 := cell_keep HBG2.out m4; have n5 := cell_keep HBG2.out m5; have n6 := cell_keep HBG2.out m6; have n7 := cell_keep HBG2.out m7; clear hb4) | (go_at_call 29; (with_reducible refine (HU.out _ (((Below.refl w3.heap.size w3).alloc (Nat.le_refl _) _).drew)).mono ?_); rintro e w4 ⟨rfl, hb4⟩; have HBG2 := Lib.hid (show Below w3.heap.size w3 w4 from (((Below.refl w3.heap.size w3).alloc (Nat.le_refl _) _).drew).trans (hb4.mono (by simp))); have z0 : w4.cell? ⟨w3.heap.size, 0, none⟩ = some (.int .i64 0) := cell_keep hb4 (by simp [go_sem]); have y0 : w4.frozen? ⟨w3.heap.size, 0, none⟩ = false := frozen_keep hb4 (by simp) (by simp [go_sem]); have z1 : w4.cell? ⟨w3.heap.size, 1, none⟩ = some (.int .i64 0) := cell_keep hb4 (by simp [go_sem]); have y1 : w4.frozen? ⟨w3.heap.size, 1, none⟩ = false := frozen_keep hb4 (by simp) (by simp [go_sem]); have z2 : w4.cell? ⟨w3.heap.size, 2, none⟩ = some (.int .i64 0) := cell_keep hb4 (by simp [go_sem]); have y2 : w4.frozen? ⟨w3.heap.size, 2, none⟩ = false := frozen_keep hb4 (by simp) (by simp [go_sem]); have z3 : w4.cell? ⟨w3.heap.size, 3, none⟩ = some (.int .i64 0) := cell_keep hb4 (by simp [go_sem]); have y3 : w4.frozen? ⟨w3.heap.size, 3, none⟩ = false := frozen_keep hb4 (by simp) (by simp [go_sem]); have l0 := cell_keep HBG2.out k0; have l2 := cell_keep HBG2.out k2; have l3 := cell_keep HBG2.out k3; have l4 := cell_keep HBG2.out k4; have n0 := cell_keep HBG2.out m0; have n1 := cell_keep HBG2.out m1; have n2 := cell_keep HBG2.out m2; have n3 := cell_keep HBG2.out m3; have n4 := cell_keep HBG2.out m4; have n5 := cell_keep HBG2.out m5; have n6 := cell_keep HBG2.out m6; have n7 := cell_keep HBG2.out m7; clear hb4))
          all_goals
            clear k0 k1 k2 k3 k4 m0 m1 m2 m3 m4 m5 m6 m7 l0 l2 l3 l4 n0 n1 n2 n3 n4 n5 n6 n7
            go_upto_region 10 with fail
            first
              | refine gen_world (fun W => (W.cell? ⟨w4.heap.size, 0, none⟩ = some (.int .i64 r.x1) ∧ W.cell? ⟨w4.heap.size, 1, none⟩ = some (.int .i64 r.y1) ∧ W.cell? ⟨w4.heap.size, 2, none⟩ = some (.int .i64 r.x2) ∧ W.cell? ⟨w4.heap.size, 3, none⟩ = some (.int .i64 r.y2)) ∧ Below w3.heap.size w3 W) ⟨⟨by simp [go_sem, *], by simp [go_sem, *], by simp [go_sem, *], by simp [go_sem, *]⟩, by repeat (first | exact HBG2.out | exact HBG2.out.alloc HBG2.out.size _ | (refine Below.drew ?_) | (refine Below.setCell ?_ (by first | exact HBG2.out.size | exact Nat.le_refl _ | (simp; done)) _))⟩ ?_
              | refine gen_world (fun W => (W.cell? ⟨w3.heap.size, 0, none⟩ = some (.int .i64 r.x1) ∧ W.cell? ⟨w3.heap.size, 1, none⟩ = some (.int .i64 r.y1) ∧ W.cell? ⟨w3.heap.size, 2, none⟩ = some (.int .i64 r.x2) ∧ W.cell? ⟨w3.heap.size, 3, none⟩ = some (.int .i64 r.y2)) ∧ Below w3.heap.size w3 W) ⟨⟨by simp [go_sem, *], by simp [go_sem, *], by simp [go_sem, *], by simp [go_sem, *]⟩, by repeat (first | exact HBG2.out | exact HBG2.out.alloc HBG2.out.size _ | (refine Below.drew ?_) | (refine Below.setCell ?_ (by first | exact HBG2.out.size | exact Nat.le_refl _ | (simp; done)) _))⟩ ?_
            rintro W5 ⟨⟨r0, r1, r2, r3⟩, hbW5⟩
            have HR := Lib.hid (And.intro r0 (And.intro r1 (And.intro r2 r3)))
            have HB5 := Lib.hid hbW5
            clear hbW5 r0 r1 r2 r3 HBG2
            have hzw5 : w.heap.size < W5.heap.size := by have := HB5.out.size; omega
            have HC5 := Lib.hid (HC3.out.keep HB5.out hzw3)
            have HM5 := Lib.hid (HM.out.keep HB5.out)
            have HBW5 := Lib.hid (HBG.out.trans (HB5.out.mono HBG.out.size))
            obtain ⟨k0, k1, k2, k3, k4⟩ := HC5.out
            obtain ⟨m0, m1, m2, m3, m4, m5, m6, m7⟩ := HM5.out
            go_upto_region 11 with (go_at_call 30; refine (refBoardErr_any x ad cd _ (HRV.out.keep HB5.out) hdl hwf).mono ?_; rw [HBE.out]; rintro e w6 ⟨rfl, hb⟩; have HB6 := Lib.hid (HBW5.out.trans (hb.mono HBW5.out.size)); have r0 := cell_keep hb HR.out.1; have r1 := cell_keep hb HR.out.2.1; have r2 := cell_keep hb HR.out.2.2.1; have r3 := cell_keep hb HR.out.2.2.2; have HC6 := Lib.hid (HC5.out.keep hb hzw5); have HM6 := Lib.hid (HM5.out.keep hb); have hz6 := hb.size; have HB56 := Lib.hid hb; clear hb)
            clear k0 k1 k2 k3 k4 m0 m1 m2 m3 m4 m5 m6 m7
            obtain ⟨k0, k1, k2, k3, k4⟩ := HC6.out
            go_upto_region 13 with (go_at_call 27; refine (refCheckTrim_any j.trim _).mono ?_; rw [HE2.out]; rintro e w7 ⟨rfl, hb⟩; have HB7 := Lib.hid (HB6.out.trans (hb.mono HB6.out.size)); have s0 := cell_keep hb r0; have s1 := cell_keep hb r1; have s2 := cell_keep hb r2; have s3 := cell_keep hb r3; have HC7 := Lib.hid (HC6.out.keep hb (by omega)); have HM7 := Lib.hid (HM6.out.keep hb); have HB57 := Lib.hid (HB56.out.trans (hb.mono HB56.out.size)); clear hb)
            clear r0 r1 r2 r3 k0 k1 k2 k3 k4
            go_upto_region 15 with fail
            obtain ⟨k0, k1, k2, k3, k4⟩ := HC7.out
            obtain ⟨m0, m1, m2, m3, m4, m5, m6, m7⟩ := HM7.out
            have hg := block_lt_of_cell s0
            have hg2 := block_lt_of_cell k0
            have hg3 := block_lt_of_cell m0
            simp only at hg hg2 hg3
            have HQ := Lib.hid (fun g => refUsable_is x j.trim r ad cd (grew w7.drew g) HRR.out hb1 hb2)
            refine wp_region_grew (by kernel_rfl) (by kernel_rfl) ?_
            repeat (first
              | go_big_quiet_step ((go_at_call 31; exact grew_of (HQ.out _)))
              | quiet_step ((go_at_call 31; exact grew_of (HQ.out _))))
            refine wpQuiet_nil ?_
            rintro _ ⟨g, rfl⟩
            go_wp2_with fail
            go_ret
            exact ⟨ret_bool (by simp), grewB HB7.out HB7.out.size g⟩
        · have hce : cutE x j.trim = E2 := by unfold cutE; rw [hE0, if_neg (by simp [he0]), HE2.out]
          have hUM : usableM x j.trim = (⟨0, 0, 0, 0⟩, E2) := by unfold usableM; rw [hce, if_pos he2]
          clear hce
          have hne : (E2 != 0) = true := by simpa using he2
          obtain ⟨r, hr⟩ : ∃ r : Rect, r = ⟨0, 0, 0, 0⟩ := ⟨_, rfl⟩
          rw [← hr] at hUM
          subst he0
          have HRZ := Lib.hid hr
          clear hE0 hr
          have HU := Lib.hid (fun w9 (hb : Below w3.heap.size w3 w9) => usableP_any x j.trim ad cd w9 (HRV.out.keep hb) hdl hwf hUM)
          clear hUM
          have q1 : w.heap.size ≠ w3.heap.size := by omega
          have q2 : w3.heap.size ≠ w.heap.size := by omega
          have q3 : b ≠ w3.heap.size := by omega
          have q4 : w3.heap.size ≠ b := by omega
          go_region_held3 (fun w' => w'.cell? ⟨w.heap.size, 0, none⟩ = some (.slice (some ⟨b, off, none⟩) j.stock.length jc1) ∧ w'.cell? ⟨w.heap.size, 2, none⟩ = some (.int .i64 j.trim.kerf) ∧ w'.cell? ⟨w.heap.size, 3, none⟩ = some (.int .i64 j.trim.ends) ∧ w'.cell? ⟨w.heap.size, 4, none⟩ = some (.int .i64 j.trim.sides) ∧ w'.cell? ⟨b, off, none⟩ = some (.string x.name) ∧ w'.cell? ⟨b, off + 1, none⟩ = some (.string x.species) ∧ w'.cell? ⟨b, off + 2, none⟩ = some (.int .i64 x.length) ∧ w'.cell? ⟨b, off + 3, none⟩ = some (.int .i64 x.width) ∧ w'.cell? ⟨b, off + 4, none⟩ = some (.int .i64 x.thick) ∧ w'.cell? ⟨b, off + 5, none⟩ = some (.int .i64 x.cut) ∧ w'.cell? ⟨b, off + 6, none⟩ = some (.int .i64 x.moisture) ∧ w'.cell? ⟨b, off + 7, none⟩ = some (.slice ad x.defects.length cd)) (go_keep)
            (first | (go_at_call 29; (with_reducible refine (HU.out _ (Below.refl w3.heap.size w3).drew).mono ?_); rintro e w4 ⟨rfl, hb4⟩; have HBG2 := Lib.hid (show Below w3.heap.size w3 w4 from (Below.refl w3.heap.size w3).drew.trans hb4); have l0 := cell_keep HBG2.out k0; have l2 := cell_keep HBG2.out k2; have l3 := cell_keep HBG2.out k3; have l4 := cell_keep HBG2.out k4; have n0 := cell_keep HBG2.out m0; have n1 := cell_keep HBG2.out m1; have n2 := cell_keep HBG2.out m2; have n3 := cell_keep HBG2.out m3; have n4 := cell_keep HBG2.out m4; have n5 := cell_keep HBG2.out m5; have n6 := cell_keep HBG2.out m6; have n7 := cell_keep HBG2.out m7; clear hb4) | (go_at_call 29; (with_reducible refine (HU.out _ (((Below.refl w3.heap.size w3).alloc (Nat.le_refl _) _).drew)).mono ?_); rintro e w4 ⟨rfl, hb4⟩; have HBG2 := Lib.hid (show Below w3.heap.size w3 w4 from (((Below.refl w3.heap.size w3).alloc (Nat.le_refl _) _).drew).trans (hb4.mono (by simp))); have z0 : w4.cell? ⟨w3.heap.size, 0, none⟩ = some (.int .i64 0) := cell_keep hb4 (by simp [go_sem]); have y0 : w4.frozen? ⟨w3.heap.size, 0, none⟩ = false := frozen_keep hb4 (by simp) (by simp [go_sem]); have z1 : w4.cell? ⟨w3.heap.size, 1, none⟩ = some (.int .i64 0) := cell_keep hb4 (by simp [go_sem]); have y1 : w4.frozen? ⟨w3.heap.size, 1, none⟩ = false := frozen_keep hb4 (by simp) (by simp [go_sem]); have z2 : w4.cell? ⟨w3.heap.size, 2, none⟩ = some (.int .i64 0) := cell_keep hb4 (by simp [go_sem]); have y2 : w4.frozen? ⟨w3.heap.size, 2, none⟩ = false := frozen_keep hb4 (by simp) (by simp [go_sem]); have z3 : w4.cell? ⟨w3.heap.size, 3, none⟩ = some (.int .i64 0) := cell_keep hb4 (by simp [go_sem]); have y3 : w4.frozen? ⟨w3.heap.size, 3, none⟩ = false := frozen_keep hb4 (by simp) (by simp [go_sem]); have l0 := cell_keep HBG2.out k0; have l2 := cell_keep HBG2.out k2; have l3 := cell_keep HBG2.out k3; have l4 := cell_keep HBG2.out k4; have n0 := cell_keep HBG2.out m0; have n1 := cell_keep HBG2.out m1; have n2 := cell_keep HBG2.out m2; have n3 := cell_keep HBG2.out m3; have n4 := cell_keep HBG2.out m4; have n5 := cell_keep HBG2.out m5; have n6 := cell_keep HBG2.out m6; have n7 := cell_keep HBG2.out m7; clear hb4))
          all_goals
            clear k0 k1 k2 k3 k4 m0 m1 m2 m3 m4 m5 m6 m7 l0 l2 l3 l4 n0 n1 n2 n3 n4 n5 n6 n7
            go_upto_region 10 with fail
            first
              | refine gen_world (fun W => (W.cell? ⟨w4.heap.size, 0, none⟩ = some (.int .i64 r.x1) ∧ W.cell? ⟨w4.heap.size, 1, none⟩ = some (.int .i64 r.y1) ∧ W.cell? ⟨w4.heap.size, 2, none⟩ = some (.int .i64 r.x2) ∧ W.cell? ⟨w4.heap.size, 3, none⟩ = some (.int .i64 r.y2)) ∧ Below w3.heap.size w3 W) ⟨⟨by simp [go_sem, *], by simp [go_sem, *], by simp [go_sem, *], by simp [go_sem, *]⟩, by repeat (first | exact HBG2.out | exact HBG2.out.alloc HBG2.out.size _ | (refine Below.drew ?_) | (refine Below.setCell ?_ (by first | exact HBG2.out.size | exact Nat.le_refl _ | (simp; done)) _))⟩ ?_
              | refine gen_world (fun W => (W.cell? ⟨w3.heap.size, 0, none⟩ = some (.int .i64 r.x1) ∧ W.cell? ⟨w3.heap.size, 1, none⟩ = some (.int .i64 r.y1) ∧ W.cell? ⟨w3.heap.size, 2, none⟩ = some (.int .i64 r.x2) ∧ W.cell? ⟨w3.heap.size, 3, none⟩ = some (.int .i64 r.y2)) ∧ Below w3.heap.size w3 W) ⟨⟨by simp [go_sem, *], by simp [go_sem, *], by simp [go_sem, *], by simp [go_sem, *]⟩, by repeat (first | exact HBG2.out | exact HBG2.out.alloc HBG2.out.size _ | (refine Below.drew ?_) | (refine Below.setCell ?_ (by first | exact HBG2.out.size | exact Nat.le_refl _ | (simp; done)) _))⟩ ?_
            rintro W5 ⟨⟨r0, r1, r2, r3⟩, hbW5⟩
            have HR := Lib.hid (And.intro r0 (And.intro r1 (And.intro r2 r3)))
            have HB5 := Lib.hid hbW5
            clear hbW5 r0 r1 r2 r3 HBG2
            have hzw5 : w.heap.size < W5.heap.size := by have := HB5.out.size; omega
            have HC5 := Lib.hid (HC3.out.keep HB5.out hzw3)
            have HM5 := Lib.hid (HM.out.keep HB5.out)
            have HBW5 := Lib.hid (HBG.out.trans (HB5.out.mono HBG.out.size))
            obtain ⟨k0, k1, k2, k3, k4⟩ := HC5.out
            obtain ⟨m0, m1, m2, m3, m4, m5, m6, m7⟩ := HM5.out
            go_upto_region 11 with (go_at_call 30; refine (refBoardErr_any x ad cd _ (HRV.out.keep HB5.out) hdl hwf).mono ?_; rw [HBE.out]; rintro e w6 ⟨rfl, hb⟩; have HB6 := Lib.hid (HBW5.out.trans (hb.mono HBW5.out.size)); have r0 := cell_keep hb HR.out.1; have r1 := cell_keep hb HR.out.2.1; have r2 := cell_keep hb HR.out.2.2.1; have r3 := cell_keep hb HR.out.2.2.2; have HC6 := Lib.hid (HC5.out.keep hb hzw5); have HM6 := Lib.hid (HM5.out.keep hb); have hz6 := hb.size; have HB56 := Lib.hid hb; clear hb)
            clear k0 k1 k2 k3 k4 m0 m1 m2 m3 m4 m5 m6 m7
            obtain ⟨k0, k1, k2, k3, k4⟩ := HC6.out
            go_upto_region 13 with (go_at_call 27; refine (refCheckTrim_any j.trim _).mono ?_; rw [HE2.out]; rintro e w7 ⟨rfl, hb⟩; have HB7 := Lib.hid (HB6.out.trans (hb.mono HB6.out.size)); have s0 := cell_keep hb r0; have s1 := cell_keep hb r1; have s2 := cell_keep hb r2; have s3 := cell_keep hb r3; have HC7 := Lib.hid (HC6.out.keep hb (by omega)); have HM7 := Lib.hid (HM6.out.keep hb); have HB57 := Lib.hid (HB56.out.trans (hb.mono HB56.out.size)); clear hb)
            clear r0 r1 r2 r3 k0 k1 k2 k3 k4
            have hz : ∀ w, (binOp .eql 51 (.agg #[.int .i64 r.x1, .int .i64 r.y1, .int .i64 r.x2, .int .i64 r.y2]) (.agg #[.int .i64 0, .int .i64 0, .int .i64 0, .int .i64 0])).run Try.prog w = .ok (.bool true) w := fun w => by rw [rect_eql0, HRZ.out]; rfl
            go_wp2_with fail
            go_ret
            exact ⟨ret_bool (by simp), HB7.out⟩
      · have hce : cutE x j.trim = E0 := by unfold cutE; rw [hE0, if_pos he0]
        have hUM : usableM x j.trim = (⟨0, 0, 0, 0⟩, E0) := by unfold usableM; rw [hce, if_pos he0]
        clear hce
        have hne : (E0 != 0) = true := by simpa using he0
        have hne2 : (E0 == 0) = false := beq_f he0
        obtain ⟨r, hr⟩ : ∃ r : Rect, r = ⟨0, 0, 0, 0⟩ := ⟨_, rfl⟩
        rw [← hr] at hUM
        have HRZ := Lib.hid hr
        clear hE0 hr
        have HU := Lib.hid (fun w9 (hb : Below w3.heap.size w3 w9) => usableP_any x j.trim ad cd w9 (HRV.out.keep hb) hdl hwf hUM)
        clear hUM
        have q1 : w.heap.size ≠ w3.heap.size := by omega
        have q2 : w3.heap.size ≠ w.heap.size := by omega
        have q3 : b ≠ w3.heap.size := by omega
        have q4 : w3.heap.size ≠ b := by omega
        go_region_held3 (fun w' => w'.cell? ⟨w.heap.size, 0, none⟩ = some (.slice (some ⟨b, off, none⟩) j.stock.length jc1) ∧ w'.cell? ⟨w.heap.size, 2, none⟩ = some (.int .i64 j.trim.kerf) ∧ w'.cell? ⟨w.heap.size, 3, none⟩ = some (.int .i64 j.trim.ends) ∧ w'.cell? ⟨w.heap.size, 4, none⟩ = some (.int .i64 j.trim.sides) ∧ w'.cell? ⟨b, off, none⟩ = some (.string x.name) ∧ w'.cell? ⟨b, off + 1, none⟩ = some (.string x.species) ∧ w'.cell? ⟨b, off + 2, none⟩ = some (.int .i64 x.length) ∧ w'.cell? ⟨b, off + 3, none⟩ = some (.int .i64 x.width) ∧ w'.cell? ⟨b, off + 4, none⟩ = some (.int .i64 x.thick) ∧ w'.cell? ⟨b, off + 5, none⟩ = some (.int .i64 x.cut) ∧ w'.cell? ⟨b, off + 6, none⟩ = some (.int .i64 x.moisture) ∧ w'.cell? ⟨b, off + 7, none⟩ = some (.slice ad x.defects.length cd)) (go_keep)
          (first | (go_at_call 29; (with_reducible refine (HU.out _ (Below.refl w3.heap.size w3).drew).mono ?_); rintro e w4 ⟨rfl, hb4⟩; have HBG2 := Lib.hid (show Below w3.heap.size w3 w4 from (Below.refl w3.heap.size w3).drew.trans hb4); have l0 := cell_keep HBG2.out k0; have l2 := cell_keep HBG2.out k2; have l3 := cell_keep HBG2.out k3; have l4 := cell_keep HBG2.out k4; have n0 := cell_keep HBG2.out m0; have n1 := cell_keep HBG2.out m1; have n2 := cell_keep HBG2.out m2; have n3 := cell_keep HBG2.out m3; have n4 := cell_keep HBG2.out m4; have n5 := cell_keep HBG2.out m5; have n6 := cell_keep HBG2.out m6; have n7 := cell_keep HBG2.out m7; clear hb4) | (go_at_call 29; (with_reducible refine (HU.out _ (((Below.refl w3.heap.size w3).alloc (Nat.le_refl _) _).drew)).mono ?_); rintro e w4 ⟨rfl, hb4⟩; have HBG2 := Lib.hid (show Below w3.heap.size w3 w4 from (((Below.refl w3.heap.size w3).alloc (Nat.le_refl _) _).drew).trans (hb4.mono (by simp))); have z0 : w4.cell? ⟨w3.heap.size, 0, none⟩ = some (.int .i64 0) := cell_keep hb4 (by simp [go_sem]); have y0 : w4.frozen? ⟨w3.heap.size, 0, none⟩ = false := frozen_keep hb4 (by simp) (by simp [go_sem]); have z1 : w4.cell? ⟨w3.heap.size, 1, none⟩ = some (.int .i64 0) := cell_keep hb4 (by simp [go_sem]); have y1 : w4.frozen? ⟨w3.heap.size, 1, none⟩ = false := frozen_keep hb4 (by simp) (by simp [go_sem]); have z2 : w4.cell? ⟨w3.heap.size, 2, none⟩ = some (.int .i64 0) := cell_keep hb4 (by simp [go_sem]); have y2 : w4.frozen? ⟨w3.heap.size, 2, none⟩ = false := frozen_keep hb4 (by simp) (by simp [go_sem]); have z3 : w4.cell? ⟨w3.heap.size, 3, none⟩ = some (.int .i64 0) := cell_keep hb4 (by simp [go_sem]); have y3 : w4.frozen? ⟨w3.heap.size, 3, none⟩ = false := frozen_keep hb4 (by simp) (by simp [go_sem]); have l0 := cell_keep HBG2.out k0; have l2 := cell_keep HBG2.out k2; have l3 := cell_keep HBG2.out k3; have l4 := cell_keep HBG2.out k4; have n0 := cell_keep HBG2.out m0; have n1 := cell_keep HBG2.out m1; have n2 := cell_keep HBG2.out m2; have n3 := cell_keep HBG2.out m3; have n4 := cell_keep HBG2.out m4; have n5 := cell_keep HBG2.out m5; have n6 := cell_keep HBG2.out m6; have n7 := cell_keep HBG2.out m7; clear hb4))
        all_goals
          clear k0 k1 k2 k3 k4 m0 m1 m2 m3 m4 m5 m6 m7 l0 l2 l3 l4 n0 n1 n2 n3 n4 n5 n6 n7
          go_upto_region 10 with fail
          first
            | refine gen_world (fun W => (W.cell? ⟨w4.heap.size, 0, none⟩ = some (.int .i64 r.x1) ∧ W.cell? ⟨w4.heap.size, 1, none⟩ = some (.int .i64 r.y1) ∧ W.cell? ⟨w4.heap.size, 2, none⟩ = some (.int .i64 r.x2) ∧ W.cell? ⟨w4.heap.size, 3, none⟩ = some (.int .i64 r.y2)) ∧ Below w3.heap.size w3 W) ⟨⟨by simp [go_sem, *], by simp [go_sem, *], by simp [go_sem, *], by simp [go_sem, *]⟩, by repeat (first | exact HBG2.out | exact HBG2.out.alloc HBG2.out.size _ | (refine Below.drew ?_) | (refine Below.setCell ?_ (by first | exact HBG2.out.size | exact Nat.le_refl _ | (simp; done)) _))⟩ ?_
            | refine gen_world (fun W => (W.cell? ⟨w3.heap.size, 0, none⟩ = some (.int .i64 r.x1) ∧ W.cell? ⟨w3.heap.size, 1, none⟩ = some (.int .i64 r.y1) ∧ W.cell? ⟨w3.heap.size, 2, none⟩ = some (.int .i64 r.x2) ∧ W.cell? ⟨w3.heap.size, 3, none⟩ = some (.int .i64 r.y2)) ∧ Below w3.heap.size w3 W) ⟨⟨by simp [go_sem, *], by simp [go_sem, *], by simp [go_sem, *], by simp [go_sem, *]⟩, by repeat (first | exact HBG2.out | exact HBG2.out.alloc HBG2.out.size _ | (refine Below.drew ?_) | (refine Below.setCell ?_ (by first | exact HBG2.out.size | exact Nat.le_refl _ | (simp; done)) _))⟩ ?_
          rintro W5 ⟨⟨r0, r1, r2, r3⟩, hbW5⟩
          have HR := Lib.hid (And.intro r0 (And.intro r1 (And.intro r2 r3)))
          have HB5 := Lib.hid hbW5
          clear hbW5 r0 r1 r2 r3 HBG2
          have hzw5 : w.heap.size < W5.heap.size := by have := HB5.out.size; omega
          have HC5 := Lib.hid (HC3.out.keep HB5.out hzw3)
          have HM5 := Lib.hid (HM.out.keep HB5.out)
          have HBW5 := Lib.hid (HBG.out.trans (HB5.out.mono HBG.out.size))
          obtain ⟨k0, k1, k2, k3, k4⟩ := HC5.out
          obtain ⟨m0, m1, m2, m3, m4, m5, m6, m7⟩ := HM5.out
          go_upto_region 11 with (go_at_call 30; refine (refBoardErr_any x ad cd _ (HRV.out.keep HB5.out) hdl hwf).mono ?_; rw [HBE.out]; rintro e w6 ⟨rfl, hb⟩; have HB6 := Lib.hid (HBW5.out.trans (hb.mono HBW5.out.size)); have r0 := cell_keep hb HR.out.1; have r1 := cell_keep hb HR.out.2.1; have r2 := cell_keep hb HR.out.2.2.1; have r3 := cell_keep hb HR.out.2.2.2; have HC6 := Lib.hid (HC5.out.keep hb hzw5); have HM6 := Lib.hid (HM5.out.keep hb); have hz6 := hb.size; have HB56 := Lib.hid hb; clear hb)
          clear k0 k1 k2 k3 k4 m0 m1 m2 m3 m4 m5 m6 m7
          have hz : ∀ w, (binOp .eql 51 (.agg #[.int .i64 r.x1, .int .i64 r.y1, .int .i64 r.x2, .int .i64 r.y2]) (.agg #[.int .i64 0, .int .i64 0, .int .i64 0, .int .i64 0])).run Try.prog w = .ok (.bool true) w := fun w => by rw [rect_eql0, HRZ.out]; rfl
          go_wp2_with fail
          go_ret
          exact ⟨ret_bool (by simp), HB6.out⟩
set_option maxRecDepth 100000 in
theorem cuttingJobs_walks : Walks 5 Try.f5 := by
  intro H enc W base args ds p hval hA hlt
  rw [Try.params5] at hA hval
  obtain ⟨v0, vs0, d0, ds0, p0, q0, hargs, rfl, rfl, ⟨fu0, hf0⟩, r0⟩ := trodAll_cons hA
  obtain ⟨rfl, rfl, rfl⟩ := trodAll_nil r0
  obtain rfl : args = #[v0] := by cases args; simp_all
  obtain ⟨cs0, rfl, -⟩ := okWide_struct Try.underlying27 (hval 0 27 v0 rfl rfl)
  obtain ⟨j0, a0, c0, b0, d0, hc0, ⟨V0, C0, M0⟩, ⟨U0, D0, N0⟩, W0⟩ := Job.open_ hf0
  have hd0 : cs0 = #[.slice a0 j0.stock.length c0, .slice b0 j0.blanks.length d0, .int .i64 j0.trim.kerf, .int .i64 j0.trim.ends, .int .i64 j0.trim.sides] := by
    cases cs0; simpa [Value.cells] using hc0
  subst hd0
  exact walkCuttingJobs j0 a0 c0 b0 d0 W V0 (by unfold maxLen at M0; omega) C0 U0 (by unfold maxLen at N0; omega) D0 W0

set_option maxRecDepth 100000 in
theorem cuttingJobs_holds : Rows.CuttingJobsSaid :=
  law_holds (s := Rows.cuttingJobsSpec) (c := Rows.cuttingJobsRow) 5 Try.f5 rfl
    (fun H ds h => by match ds, h with | [_], _ => rfl) (by kernel_rfl) (by kernel_rfl)
    rfl rfl rfl rfl rfl rfl rfl ⟨rfl, rfl, rfl, rfl, rfl⟩ rfl rfl rfl rfl rfl rfl rfl rfl rfl rfl (fun _ _ => rfl) (by kernel_rfl) Try.func5
    cuttingJobs_closed (of_decide_eq_true (by kernel_rfl)) (by unfold Func.isWrapper; first | (rw [if_pos (by decide +kernel)]; kernel_rfl) | (rw [if_neg (by decide +kernel)]; exact ⟨rfl, rfl⟩)) (by kernel_rfl)
    (fun H enc os => ChangeSpec.witness6 (enc := enc) (C := Try.checked) false ⟨#[], #[.agg #[.slice none 0 0, .slice none 0 0, .int .i64 0, .int .i64 0, .int .i64 0]], []⟩ 8 (by kernel_rfl) (by kernel_rfl) (by kernel_rfl) (by kernel_rfl))
    cuttingJobs_walks
end Go.Proofs.Ytepiapgcpoifpaa
