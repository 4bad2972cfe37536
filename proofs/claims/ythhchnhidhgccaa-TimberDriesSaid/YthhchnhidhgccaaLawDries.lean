/- TimberDries returns true for every input: Dry and DaysTo return what the document specifies; each day goes on from the day before. No condition. -/
import Derived.Test.YthhchnhidhgccaaAwake2
import Derived.Test.YthhchnhidhgccaaDry2
import Derived.Test.YthhchnhidhgccaaFactsDries
set_option linter.unusedVariables false
set_option linter.unusedSimpArgs false
namespace Go.Proofs.Ythhchnhidhgccaa
open Go Go.ChangeShapes Go.WideShapes Go.ChangeAt Go.RowKit

theorem timberDaysTo_is (m t r n : Int) (w : World) {v e0 : Int} (h : dtV m t r n = v) (h' : dtE m t r n = e0) :
    Calls Try.prog 59 #[.int .i64 m, .int .i64 t, .int .i64 r, .int .i64 n] w fun e w' => e = .returned (.tuple #[.int .i64 v, .int .i64 e0]) ∧ w = w' := by
  subst h h'; exact timberDaysTo_any m t r n w
theorem timberDry_is (m t r n : Int) (w : World) {v e0 : Int} (h : dryV m t r n = v) (h' : dryE m t r n = e0) :
    Calls Try.prog 58 #[.int .i64 m, .int .i64 t, .int .i64 r, .int .i64 n] w fun e w' => e = .returned (.tuple #[.int .i64 v, .int .i64 e0]) ∧ w = w' := by
  subst h h'; exact timberDry_any m t r n w
theorem refDry_is (m t r n : Int) (k : Nat) (w : World) (hn : n = k) (m1 : 0 ≤ m) (m2 : m ≤ 400) (t1 : 0 ≤ t) (t2 : t ≤ 400) (r1 : 1 ≤ r) (r2 : r ≤ 100) (n2 : k ≤ 10000) :
    Calls Try.prog 62 #[.int .i64 m, .int .i64 t, .int .i64 r, .int .i64 n] w fun e w' => e = .returned (.int .i64 (dayN t r k m)) ∧ w = w' := by
  subst hn; exact refDry_any m t r k w m1 m2 t1 t2 r1 r2 n2

set_option maxRecDepth 100000 in
set_option maxHeartbeats 4000000 in
theorem walkTimberDries (m : Int) (t : Int) (x : Drying) (w : World) (Wm : -9223372036854775808 ≤ m ∧ m ≤ 9223372036854775807) (Wt : -9223372036854775808 ≤ t ∧ t ≤ 9223372036854775807) (Wx : x.wf) :
    Calls Try.prog 14 #[.int .i64 m, .int .i64 t, .agg #[.int .i64 x.rate, .int .i64 x.days, .int .i64 x.near]] w fun e w' => e = .returned (.bool true) ∧ Below w.heap.size w w' := by
  by_cases h0 : dryErr m t x.rate = 0
  · obtain ⟨⟨m1, m2⟩, ⟨t1, t2⟩, r1, r2⟩ := dryErr_ok h0
    have HD := Lib.hid h0
    cases hn : withinB x.near 0 400
    · have HT0 : dtE m t x.rate x.near = 2 := by simp [dtE, h0, hn]
      have HT := Lib.hid (show dtE m t x.rate x.near = 2 ∧ dtV m t x.rate x.near = 0 from ⟨HT0, by simp [dtV, HT0]⟩)
      clear HT0
      cases hd : withinB x.days 0 10000
      · have HY0 : dryE m t x.rate x.days = 2 := by simp [dryE, h0, hd]
        have HY := Lib.hid (show dryE m t x.rate x.days = 2 ∧ dryV m t x.rate x.days = 0 from ⟨HY0, by simp [dryV, HY0]⟩)
        clear h0 HY0
        go_enter Try.func14, Try.ntmps14
        go_upto_region 1 with fail
        refine gen_world (fun W => W.cell? ⟨w.heap.size, 0, none⟩ = some (.int .i64 x.rate) ∧ W.cell? ⟨w.heap.size, 1, none⟩ = some (.int .i64 x.days) ∧ W.cell? ⟨w.heap.size, 2, none⟩ = some (.int .i64 x.near) ∧ Below w.heap.size w W) ?_ ?_
        · exact ⟨by simp [go_sem], by simp [go_sem], by simp [go_sem], (Below.refl _ _).alloc (Nat.le_refl _) _⟩
        rintro W ⟨x0, x1, x2, hbW⟩
        go_wp2_with (first
          | (go_at_call 18; refine (awake_any _).mono ?_; rintro e w1 ⟨rfl, hb1⟩; have y0 := cell_keep hb1 x0; have y1 := cell_keep hb1 x1; have y2 := cell_keep hb1 x2; have hc1 := hbW.trans (hb1.mono hbW.size))
          | (go_at_call 59; (with_reducible refine (timberDaysTo_is _ _ _ _ _ HT.out.2 HT.out.1).mono ?_); rintro e w' ⟨rfl, rfl⟩)
          | (go_at_call 60; refine (refDryErr_any _ _ _ _).mono ?_; rw [HD.out]; rintro e w' ⟨rfl, rfl⟩)
          | (go_at_call 50; refine (moisture_any _ _).mono ?_; rintro e w' ⟨rfl, rfl⟩)
          | (go_at_call 28; refine (baseWithin_any _ _ _ _).mono ?_; rintro e w' ⟨rfl, rfl⟩)
          | (go_at_call 58; (with_reducible refine (timberDry_is _ _ _ x.days _ HY.out.2 HY.out.1).mono ?_); rintro e w' ⟨rfl, rfl⟩)
          | (go_at_call 61; refine (refDaysTo_any _ _ _ _ _ m1 m2 t1 t2 r1 r2 hnr.1 hnr.2).mono ?_; rintro e w' ⟨rfl, rfl⟩)
          )
        go_ret
        exact ⟨ret_bool (by go_tidy; first | rfl | (simp; done)), by (repeat (first | assumption | (refine Below.setCell ?_ (by first | omega | (simp; omega) | (simp; done)) _) | (refine Below.alloc ?_ (by first | omega | (simp; omega) | (simp; done)) _)))⟩
      · obtain ⟨k, hk0⟩ : ∃ k : Nat, x.days = k := ⟨x.days.toNat, by have := withinB_true hd; omega⟩
        have hk : k ≤ 10000 := by have := withinB_true hd; omega
        obtain ⟨M, hM⟩ : ∃ M, dayN t x.rate k m = M := ⟨_, rfl⟩
        have hMb : min m t ≤ M ∧ M ≤ max m t := by rw [← hM]; exact dayN_bd r1 k m
        have HM := Lib.hid hM
        have HY0 : dryE m t x.rate x.days = 0 := by simp [dryE, h0, hd]
        have HY := Lib.hid (show dryE m t x.rate x.days = 0 ∧ dryV m t x.rate x.days = M from ⟨HY0, by unfold dryV; rw [HY0, if_neg (by simp), hk0, Int.toNat_natCast, hM]⟩)
        have hdM : dryErr M t x.rate = 0 := by unfold dryErr; rw [if_pos ⟨by simp [withinB]; omega, by simp [withinB]; omega, by simp [withinB]; omega⟩]
        have HO0 : dryE M t x.rate 1 = 0 := by simp [dryE, hdM, withinB]
        have HO := Lib.hid (show dryE M t x.rate 1 = 0 ∧ dryV M t x.rate 1 = dayF M t x.rate from ⟨HO0, by simp [dryV, HO0, dayN]⟩)
        have HK := Lib.hid hk0
        clear HY0 HO0 hdM
        by_cases hlt : k = 10000
        · have hx : x.days = 10000 := by omega
          have b0 : (x.days == 10000) = true := by simp [hx]
          have HN := Lib.hid (show dryE m t x.rate x.days = 0 ∧ dryV m t x.rate x.days = M from HY.out)
          have HN' := HN
          clear h0 hM hx hk0 HN HN'
          have hw : withinB M (min m t) (max m t) = true := by simp [withinB]; omega
          go_enter Try.func14, Try.ntmps14
          go_upto_region 1 with fail
          refine gen_world (fun W => W.cell? ⟨w.heap.size, 0, none⟩ = some (.int .i64 x.rate) ∧ W.cell? ⟨w.heap.size, 1, none⟩ = some (.int .i64 x.days) ∧ W.cell? ⟨w.heap.size, 2, none⟩ = some (.int .i64 x.near) ∧ Below w.heap.size w W) ?_ ?_
          · exact ⟨by simp [go_sem], by simp [go_sem], by simp [go_sem], (Below.refl _ _).alloc (Nat.le_refl _) _⟩
          rintro W ⟨x0, x1, x2, hbW⟩
          go_wp2_with (first
            | (go_at_call 18; refine (awake_any _).mono ?_; rintro e w1 ⟨rfl, hb1⟩; have y0 := cell_keep hb1 x0; have y1 := cell_keep hb1 x1; have y2 := cell_keep hb1 x2; have hc1 := hbW.trans (hb1.mono hbW.size))
            | (go_at_call 59; (with_reducible refine (timberDaysTo_is _ _ _ _ _ HT.out.2 HT.out.1).mono ?_); rintro e w' ⟨rfl, rfl⟩)
            | (go_at_call 60; refine (refDryErr_any _ _ _ _).mono ?_; rw [HD.out]; rintro e w' ⟨rfl, rfl⟩)
            | (go_at_call 50; refine (moisture_any _ _).mono ?_; rintro e w' ⟨rfl, rfl⟩)
            | (go_at_call 28; refine (baseWithin_any _ _ _ _).mono ?_; rintro e w' ⟨rfl, rfl⟩)
            | (go_at_call 58; (with_reducible refine (timberDry_is _ _ _ x.days _ HY.out.2 HY.out.1).mono ?_); rintro e w' ⟨rfl, rfl⟩)
            | (go_at_call 61; refine (refDaysTo_any _ _ _ _ _ m1 m2 t1 t2 r1 r2 hnr.1 hnr.2).mono ?_; rintro e w' ⟨rfl, rfl⟩)
            | (go_at_call 62; refine (refDry_is _ _ _ _ k _ HK.out m1 m2 t1 t2 r1 r2 hk).mono ?_; rw [HM.out]; rintro e w' ⟨rfl, rfl⟩)
            )
          go_ret
          exact ⟨ret_bool (by go_tidy; first | rfl | (simp; done)), by (repeat (first | assumption | (refine Below.setCell ?_ (by first | omega | (simp; omega) | (simp; done)) _) | (refine Below.alloc ?_ (by first | omega | (simp; omega) | (simp; done)) _)))⟩
        · have b0 : (x.days == 10000) = false := by simp; omega
          have HN0 : dryE m t x.rate (x.days + 1) = 0 := by
            unfold dryE
            rw [h0, if_neg (by simp), if_neg (by simp [withinB]; omega)]
          have HN := Lib.hid (show dryE m t x.rate (x.days + 1) = 0 ∧ dryV m t x.rate (x.days + 1) = dayF M t x.rate from ⟨HN0, by
            unfold dryV
            rw [HN0, if_neg (by simp), show (x.days + 1).toNat = k + 1 by omega, dayN_last, hM]⟩)
          have hxb : 0 ≤ x.days ∧ x.days ≤ 10000 := by omega
          clear h0 hM hk0 HN0
          have hw : withinB M (min m t) (max m t) = true := by simp [withinB]; omega
          go_enter Try.func14, Try.ntmps14
          go_upto_region 1 with fail
          refine gen_world (fun W => W.cell? ⟨w.heap.size, 0, none⟩ = some (.int .i64 x.rate) ∧ W.cell? ⟨w.heap.size, 1, none⟩ = some (.int .i64 x.days) ∧ W.cell? ⟨w.heap.size, 2, none⟩ = some (.int .i64 x.near) ∧ Below w.heap.size w W) ?_ ?_
          · exact ⟨by simp [go_sem], by simp [go_sem], by simp [go_sem], (Below.refl _ _).alloc (Nat.le_refl _) _⟩
          rintro W ⟨x0, x1, x2, hbW⟩
          go_wp2_with (first
            | (go_at_call 18; refine (awake_any _).mono ?_; rintro e w1 ⟨rfl, hb1⟩; have y0 := cell_keep hb1 x0; have y1 := cell_keep hb1 x1; have y2 := cell_keep hb1 x2; have hc1 := hbW.trans (hb1.mono hbW.size))
            | (go_at_call 59; (with_reducible refine (timberDaysTo_is _ _ _ _ _ HT.out.2 HT.out.1).mono ?_); rintro e w' ⟨rfl, rfl⟩)
            | (go_at_call 60; refine (refDryErr_any _ _ _ _).mono ?_; rw [HD.out]; rintro e w' ⟨rfl, rfl⟩)
            | (go_at_call 50; refine (moisture_any _ _).mono ?_; rintro e w' ⟨rfl, rfl⟩)
            | (go_at_call 28; refine (baseWithin_any _ _ _ _).mono ?_; rintro e w' ⟨rfl, rfl⟩)
            | (go_at_call 58; (with_reducible refine (timberDry_is _ _ _ x.days _ HY.out.2 HY.out.1).mono ?_); rintro e w' ⟨rfl, rfl⟩)
            | (go_at_call 61; refine (refDaysTo_any _ _ _ _ _ m1 m2 t1 t2 r1 r2 hnr.1 hnr.2).mono ?_; rintro e w' ⟨rfl, rfl⟩)
            | (go_at_call 62; refine (refDry_is _ _ _ _ k _ HK.out m1 m2 t1 t2 r1 r2 hk).mono ?_; rw [HM.out]; rintro e w' ⟨rfl, rfl⟩)
            | (go_at_call 58; (with_reducible refine (timberDry_is m t x.rate (x.days + 1) _ HN.out.2 HN.out.1).mono ?_); rintro e w' ⟨rfl, rfl⟩)
            | (go_at_call 58; (with_reducible refine (timberDry_is M t x.rate 1 _ HO.out.2 HO.out.1).mono ?_); rintro e w' ⟨rfl, rfl⟩)
            )
          go_ret
          exact ⟨ret_bool (by go_tidy; first | rfl | (simp; done)), by (repeat (first | assumption | (refine Below.setCell ?_ (by first | omega | (simp; omega) | (simp; done)) _) | (refine Below.alloc ?_ (by first | omega | (simp; omega) | (simp; done)) _)))⟩
    · have HT0 : dtE m t x.rate x.near = 0 := by simp [dtE, h0, hn]
      have HT := Lib.hid (show dtE m t x.rate x.near = 0 ∧ dtV m t x.rate x.near = daysTo m t x.rate x.near from ⟨HT0, by simp [dtV, HT0]⟩)
      have hnr := withinB_true hn
      clear HT0
      cases hd : withinB x.days 0 10000
      · have HY0 : dryE m t x.rate x.days = 2 := by simp [dryE, h0, hd]
        have HY := Lib.hid (show dryE m t x.rate x.days = 2 ∧ dryV m t x.rate x.days = 0 from ⟨HY0, by simp [dryV, HY0]⟩)
        clear h0 HY0
        go_enter Try.func14, Try.ntmps14
        go_upto_region 1 with fail
        refine gen_world (fun W => W.cell? ⟨w.heap.size, 0, none⟩ = some (.int .i64 x.rate) ∧ W.cell? ⟨w.heap.size, 1, none⟩ = some (.int .i64 x.days) ∧ W.cell? ⟨w.heap.size, 2, none⟩ = some (.int .i64 x.near) ∧ Below w.heap.size w W) ?_ ?_
        · exact ⟨by simp [go_sem], by simp [go_sem], by simp [go_sem], (Below.refl _ _).alloc (Nat.le_refl _) _⟩
        rintro W ⟨x0, x1, x2, hbW⟩
        go_wp2_with (first
          | (go_at_call 18; refine (awake_any _).mono ?_; rintro e w1 ⟨rfl, hb1⟩; have y0 := cell_keep hb1 x0; have y1 := cell_keep hb1 x1; have y2 := cell_keep hb1 x2; have hc1 := hbW.trans (hb1.mono hbW.size))
          | (go_at_call 59; (with_reducible refine (timberDaysTo_is _ _ _ _ _ HT.out.2 HT.out.1).mono ?_); rintro e w' ⟨rfl, rfl⟩)
          | (go_at_call 60; refine (refDryErr_any _ _ _ _).mono ?_; rw [HD.out]; rintro e w' ⟨rfl, rfl⟩)
          | (go_at_call 50; refine (moisture_any _ _).mono ?_; rintro e w' ⟨rfl, rfl⟩)
          | (go_at_call 28; refine (baseWithin_any _ _ _ _).mono ?_; rintro e w' ⟨rfl, rfl⟩)
          | (go_at_call 58; (with_reducible refine (timberDry_is _ _ _ x.days _ HY.out.2 HY.out.1).mono ?_); rintro e w' ⟨rfl, rfl⟩)
          | (go_at_call 61; refine (refDaysTo_any _ _ _ _ _ m1 m2 t1 t2 r1 r2 hnr.1 hnr.2).mono ?_; rintro e w' ⟨rfl, rfl⟩)
          )
        go_ret
        exact ⟨ret_bool (by go_tidy; first | rfl | (simp; done)), by (repeat (first | assumption | (refine Below.setCell ?_ (by first | omega | (simp; omega) | (simp; done)) _) | (refine Below.alloc ?_ (by first | omega | (simp; omega) | (simp; done)) _)))⟩
      · obtain ⟨k, hk0⟩ : ∃ k : Nat, x.days = k := ⟨x.days.toNat, by have := withinB_true hd; omega⟩
        have hk : k ≤ 10000 := by have := withinB_true hd; omega
        obtain ⟨M, hM⟩ : ∃ M, dayN t x.rate k m = M := ⟨_, rfl⟩
        have hMb : min m t ≤ M ∧ M ≤ max m t := by rw [← hM]; exact dayN_bd r1 k m
        have HM := Lib.hid hM
        have HY0 : dryE m t x.rate x.days = 0 := by simp [dryE, h0, hd]
        have HY := Lib.hid (show dryE m t x.rate x.days = 0 ∧ dryV m t x.rate x.days = M from ⟨HY0, by unfold dryV; rw [HY0, if_neg (by simp), hk0, Int.toNat_natCast, hM]⟩)
        have hdM : dryErr M t x.rate = 0 := by unfold dryErr; rw [if_pos ⟨by simp [withinB]; omega, by simp [withinB]; omega, by simp [withinB]; omega⟩]
        have HO0 : dryE M t x.rate 1 = 0 := by simp [dryE, hdM, withinB]
        have HO := Lib.hid (show dryE M t x.rate 1 = 0 ∧ dryV M t x.rate 1 = dayF M t x.rate from ⟨HO0, by simp [dryV, HO0, dayN]⟩)
        have HK := Lib.hid hk0
        clear HY0 HO0 hdM
        by_cases hlt : k = 10000
        · have hx : x.days = 10000 := by omega
          have b0 : (x.days == 10000) = true := by simp [hx]
          have HN := Lib.hid (show dryE m t x.rate x.days = 0 ∧ dryV m t x.rate x.days = M from HY.out)
          have HN' := HN
          clear h0 hM hx hk0 HN HN'
          have hw : withinB M (min m t) (max m t) = true := by simp [withinB]; omega
          go_enter Try.func14, Try.ntmps14
          go_upto_region 1 with fail
          refine gen_world (fun W => W.cell? ⟨w.heap.size, 0, none⟩ = some (.int .i64 x.rate) ∧ W.cell? ⟨w.heap.size, 1, none⟩ = some (.int .i64 x.days) ∧ W.cell? ⟨w.heap.size, 2, none⟩ = some (.int .i64 x.near) ∧ Below w.heap.size w W) ?_ ?_
          · exact ⟨by simp [go_sem], by simp [go_sem], by simp [go_sem], (Below.refl _ _).alloc (Nat.le_refl _) _⟩
          rintro W ⟨x0, x1, x2, hbW⟩
          go_wp2_with (first
            | (go_at_call 18; refine (awake_any _).mono ?_; rintro e w1 ⟨rfl, hb1⟩; have y0 := cell_keep hb1 x0; have y1 := cell_keep hb1 x1; have y2 := cell_keep hb1 x2; have hc1 := hbW.trans (hb1.mono hbW.size))
            | (go_at_call 59; (with_reducible refine (timberDaysTo_is _ _ _ _ _ HT.out.2 HT.out.1).mono ?_); rintro e w' ⟨rfl, rfl⟩)
            | (go_at_call 60; refine (refDryErr_any _ _ _ _).mono ?_; rw [HD.out]; rintro e w' ⟨rfl, rfl⟩)
            | (go_at_call 50; refine (moisture_any _ _).mono ?_; rintro e w' ⟨rfl, rfl⟩)
            | (go_at_call 28; refine (baseWithin_any _ _ _ _).mono ?_; rintro e w' ⟨rfl, rfl⟩)
            | (go_at_call 58; (with_reducible refine (timberDry_is _ _ _ x.days _ HY.out.2 HY.out.1).mono ?_); rintro e w' ⟨rfl, rfl⟩)
            | (go_at_call 61; refine (refDaysTo_any _ _ _ _ _ m1 m2 t1 t2 r1 r2 hnr.1 hnr.2).mono ?_; rintro e w' ⟨rfl, rfl⟩)
            | (go_at_call 62; refine (refDry_is _ _ _ _ k _ HK.out m1 m2 t1 t2 r1 r2 hk).mono ?_; rw [HM.out]; rintro e w' ⟨rfl, rfl⟩)
            )
          go_ret
          exact ⟨ret_bool (by go_tidy; first | rfl | (simp; done)), by (repeat (first | assumption | (refine Below.setCell ?_ (by first | omega | (simp; omega) | (simp; done)) _) | (refine Below.alloc ?_ (by first | omega | (simp; omega) | (simp; done)) _)))⟩
        · have b0 : (x.days == 10000) = false := by simp; omega
          have HN0 : dryE m t x.rate (x.days + 1) = 0 := by
            unfold dryE
            rw [h0, if_neg (by simp), if_neg (by simp [withinB]; omega)]
          have HN := Lib.hid (show dryE m t x.rate (x.days + 1) = 0 ∧ dryV m t x.rate (x.days + 1) = dayF M t x.rate from ⟨HN0, by
            unfold dryV
            rw [HN0, if_neg (by simp), show (x.days + 1).toNat = k + 1 by omega, dayN_last, hM]⟩)
          have hxb : 0 ≤ x.days ∧ x.days ≤ 10000 := by omega
          clear h0 hM hk0 HN0
          have hw : withinB M (min m t) (max m t) = true := by simp [withinB]; omega
          go_enter Try.func14, Try.ntmps14
          go_upto_region 1 with fail
          refine gen_world (fun W => W.cell? ⟨w.heap.size, 0, none⟩ = some (.int .i64 x.rate) ∧ W.cell? ⟨w.heap.size, 1, none⟩ = some (.int .i64 x.days) ∧ W.cell? ⟨w.heap.size, 2, none⟩ = some (.int .i64 x.near) ∧ Below w.heap.size w W) ?_ ?_
          · exact ⟨by simp [go_sem], by simp [go_sem], by simp [go_sem], (Below.refl _ _).alloc (Nat.le_refl _) _⟩
          rintro W ⟨x0, x1, x2, hbW⟩
          go_wp2_with (first
            | (go_at_call 18; refine (awake_any _).mono ?_; rintro e w1 ⟨rfl, hb1⟩; have y0 := cell_keep hb1 x0; have y1 := cell_keep hb1 x1; have y2 := cell_keep hb1 x2; have hc1 := hbW.trans (hb1.mono hbW.size))
            | (go_at_call 59; (with_reducible refine (timberDaysTo_is _ _ _ _ _ HT.out.2 HT.out.1).mono ?_); rintro e w' ⟨rfl, rfl⟩)
            | (go_at_call 60; refine (refDryErr_any _ _ _ _).mono ?_; rw [HD.out]; rintro e w' ⟨rfl, rfl⟩)
            | (go_at_call 50; refine (moisture_any _ _).mono ?_; rintro e w' ⟨rfl, rfl⟩)
            | (go_at_call 28; refine (baseWithin_any _ _ _ _).mono ?_; rintro e w' ⟨rfl, rfl⟩)
            | (go_at_call 58; (with_reducible refine (timberDry_is _ _ _ x.days _ HY.out.2 HY.out.1).mono ?_); rintro e w' ⟨rfl, rfl⟩)
            | (go_at_call 61; refine (refDaysTo_any _ _ _ _ _ m1 m2 t1 t2 r1 r2 hnr.1 hnr.2).mono ?_; rintro e w' ⟨rfl, rfl⟩)
            | (go_at_call 62; refine (refDry_is _ _ _ _ k _ HK.out m1 m2 t1 t2 r1 r2 hk).mono ?_; rw [HM.out]; rintro e w' ⟨rfl, rfl⟩)
            | (go_at_call 58; (with_reducible refine (timberDry_is m t x.rate (x.days + 1) _ HN.out.2 HN.out.1).mono ?_); rintro e w' ⟨rfl, rfl⟩)
            | (go_at_call 58; (with_reducible refine (timberDry_is M t x.rate 1 _ HO.out.2 HO.out.1).mono ?_); rintro e w' ⟨rfl, rfl⟩)
            )
          go_ret
          exact ⟨ret_bool (by go_tidy; first | rfl | (simp; done)), by (repeat (first | assumption | (refine Below.setCell ?_ (by first | omega | (simp; omega) | (simp; done)) _) | (refine Below.alloc ?_ (by first | omega | (simp; omega) | (simp; done)) _)))⟩
  · have hD : dryErr m t x.rate = 2 := by unfold dryErr at h0 ⊢; split at h0 <;> simp_all
    have HT0 : dtE m t x.rate x.near = 2 := by simp [dtE, hD]
    have HY0 : dryE m t x.rate x.days = 2 := by simp [dryE, hD]
    have HT := Lib.hid (show dtE m t x.rate x.near = 2 ∧ dtV m t x.rate x.near = 0 from ⟨HT0, by simp [dtV, HT0]⟩)
    have HY := Lib.hid (show dryE m t x.rate x.days = 2 ∧ dryV m t x.rate x.days = 0 from ⟨HY0, by simp [dryV, HY0]⟩)
    have HD := Lib.hid hD
    clear h0 hD HT0 HY0
    go_enter Try.func14, Try.ntmps14
    go_upto_region 1 with fail
    refine gen_world (fun W => W.cell? ⟨w.heap.size, 0, none⟩ = some (.int .i64 x.rate) ∧ W.cell? ⟨w.heap.size, 1, none⟩ = some (.int .i64 x.days) ∧ W.cell? ⟨w.heap.size, 2, none⟩ = some (.int .i64 x.near) ∧ Below w.heap.size w W) ?_ ?_
    · exact ⟨by simp [go_sem], by simp [go_sem], by simp [go_sem], (Below.refl _ _).alloc (Nat.le_refl _) _⟩
    rintro W ⟨x0, x1, x2, hbW⟩
    go_wp2_with (first
      | (go_at_call 18; refine (awake_any _).mono ?_; rintro e w1 ⟨rfl, hb1⟩; have y0 := cell_keep hb1 x0; have y1 := cell_keep hb1 x1; have y2 := cell_keep hb1 x2; have hc1 := hbW.trans (hb1.mono hbW.size))
      | (go_at_call 59; (with_reducible refine (timberDaysTo_is _ _ _ _ _ HT.out.2 HT.out.1).mono ?_); rintro e w' ⟨rfl, rfl⟩)
      | (go_at_call 60; refine (refDryErr_any _ _ _ _).mono ?_; rw [HD.out]; rintro e w' ⟨rfl, rfl⟩)
      | (go_at_call 50; refine (moisture_any _ _).mono ?_; rintro e w' ⟨rfl, rfl⟩)
      | (go_at_call 28; refine (baseWithin_any _ _ _ _).mono ?_; rintro e w' ⟨rfl, rfl⟩)
      | (go_at_call 58; (with_reducible refine (timberDry_is _ _ _ x.days _ HY.out.2 HY.out.1).mono ?_); rintro e w' ⟨rfl, rfl⟩)
      )
    go_ret
    exact ⟨ret_bool (by go_tidy; first | rfl | (simp; done)), by (repeat (first | assumption | (refine Below.setCell ?_ (by first | omega | (simp; omega) | (simp; done)) _) | (refine Below.alloc ?_ (by first | omega | (simp; omega) | (simp; done)) _)))⟩
set_option maxRecDepth 100000 in
theorem timberDries_walks : Walks 14 Try.f14 := by
  intro H enc W base args ds p hval hA hlt
  rw [Try.params14] at hA hval
  obtain ⟨v0, vs0, d0, ds0, p0, q0, hargs, rfl, rfl, ⟨fu0, hf0⟩, r0⟩ := trodAll_cons hA
  obtain ⟨v1, vs1, d1, ds1, p1, q1, rfl, rfl, rfl, ⟨fu1, hf1⟩, r1⟩ := trodAll_cons r0
  obtain ⟨v2, vs2, d2, ds2, p2, q2, rfl, rfl, rfl, ⟨fu2, hf2⟩, r2⟩ := trodAll_cons r1
  obtain ⟨rfl, rfl, rfl⟩ := trodAll_nil r2
  obtain rfl : args = #[v0, v1, v2] := by cases args; simp_all
  obtain ⟨m, rfl⟩ := okWide_int Try.underlying3 (hval 0 3 v0 rfl rfl)
  obtain ⟨s0, g0, -, q0⟩ := DataW.trod_int Try.underlying3 hf0
  obtain rfl : s0 = m := by simpa [Value.cells] using g0.symm
  obtain ⟨t, rfl⟩ := okWide_int Try.underlying3 (hval 1 3 v1 rfl rfl)
  obtain ⟨s1, g1, -, q1⟩ := DataW.trod_int Try.underlying3 hf1
  obtain rfl : s1 = t := by simpa [Value.cells] using g1.symm
  obtain ⟨cs2, rfl, -⟩ := okWide_struct Try.underlying105 (hval 2 105 v2 rfl rfl)
  obtain ⟨x, hb2⟩ := Drying.open_ hf2
  obtain ⟨hc2, W2⟩ := hb2
  have hd2 : cs2 = #[.int .i64 x.rate, .int .i64 x.days, .int .i64 x.near] := by
    cases cs2; simpa [Value.cells] using hc2
  subst hd2
  exact walkTimberDries s0 s1 x W (int_wf q0) (int_wf q1) W2

set_option maxRecDepth 100000 in
theorem timberDries_holds : Rows.TimberDriesSaid :=
  law_holds (s := Rows.timberDriesSpec) (c := Rows.timberDriesRow) 14 Try.f14 rfl
    (fun H ds h => by match ds, h with | [_, _, _], _ => rfl) (by kernel_rfl) (by kernel_rfl)
    rfl rfl rfl rfl rfl rfl rfl ⟨rfl, rfl, rfl, rfl, rfl⟩ rfl rfl rfl rfl rfl rfl rfl rfl rfl rfl (fun _ _ => rfl) (by kernel_rfl) Try.func14
    timberDries_closed (of_decide_eq_true (by kernel_rfl)) (by unfold Func.isWrapper; first | (rw [if_pos (by decide +kernel)]; kernel_rfl) | (rw [if_neg (by decide +kernel)]; exact ⟨rfl, rfl⟩)) (by kernel_rfl)
    (fun H enc os => ChangeSpec.witness6 (enc := enc) (C := Try.checked) false ⟨#[], #[.int .i64 0, .int .i64 0, .agg #[.int .i64 0, .int .i64 0, .int .i64 0]], []⟩ 8 (by kernel_rfl) (by kernel_rfl) (by kernel_rfl) (by kernel_rfl))
    timberDries_walks
end Go.Proofs.Ythhchnhidhgccaa
