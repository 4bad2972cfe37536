/- The document's order of points. -/
import Derived.Test.YtbhgkadklklmbaaGreatQO
import Derived.Test.YtbhgkadklklmbaaGreatQI
set_option linter.unusedVariables false
set_option linter.unusedSimpArgs false
namespace Go.Proofs.YtbhgkadklklmbaaGreat
open Go Go.RowKit Go.Sort Go.Lib

theorem ltPb_if (a b : Co) : ltPb a b = if a.x * b.n ≠ b.x * a.n then decide (a.x * b.n < b.x * a.n) else if a.y * b.n ≠ b.y * a.n then decide (a.y * b.n < b.y * a.n) else if a.z * b.n ≠ b.z * a.n then decide (a.z * b.n < b.z * a.n) else false := by
 unfold ltPb
 rw [Bool.eq_iff_iff, decide_eq_true_eq]
 unfold ltP
 split
 ·rw [decide_eq_true_eq]; omega
 ·split
  ·rw [decide_eq_true_eq]; omega
  ·split
   ·rw [decide_eq_true_eq]; omega
   ·constructor
    ·omega
    ·intro h; cases h
def BfA (W : World) (a b : Vec) (u : Nat → Value) (W' : World) : Prop := ∃ g5 g6, u 5 = .pointer (some ⟨g5, 0, none⟩) ∧ u 6 = .pointer (some ⟨g6, 0, none⟩) ∧ W.heap.size ≤ g5 ∧ W.heap.size ≤ g6 ∧ VcBx W' g5 a ∧ VcBx W' g6 b ∧ Below W.heap.size W W'
set_option maxRecDepth 100000 in
set_option maxHeartbeats 16000000 in
theorem before_any (a b : Co) (ha : a.in_) (hb : b.in_) (w : World) : Calls Tryz.prog 85 #[.agg #[.int .i64 a.x, .int .i64 a.y, .int .i64 a.z, .int .i64 a.n], .agg #[.int .i64 b.x, .int .i64 b.y, .int .i64 b.z, .int .i64 b.n]] w fun e w' => e = .returned (.bool (ltPb a b)) ∧ Below w.heap.size w w' := by
 have hmix : Tryz.prog.follows .mixedOrders = true := by kernel_rfl
 obtain ⟨S, hS⟩ : ∃ S, S = ltPb a b := ⟨_, rfl⟩
 have HS := Lib.hid (hS.trans (ltPb_if a b))
 rw [← hS]
 have HAI := Lib.hid ha
 have HBI := Lib.hid hb
 clear ha hb hS
 go_enter Tryz.func85, Tryz.ntmps85
 go_upto_region 1 with fail
 refine gen_world (fun W => CoBx W w.heap.size a ∧ CoBx W (w.heap.size + 1) b ∧ Below w.heap.size w W) ⟨⟨by simp [go_sem], by simp [go_sem], by simp [go_sem], by simp [go_sem]⟩, ⟨by simp [go_sem], by simp [go_sem], by simp [go_sem], by simp [go_sem]⟩, by repeat (first | (with_reducible assumption) | exact Below.refl _ _ | (refine Below.setCell ?_ (by first | omega | (simp; omega) | (simp; done)) _) | (refine Below.alloc ?_ (by first | omega | (simp; omega) | (simp; done)) _) | (refine Below.drew ?_))⟩ ?_
 rintro W ⟨hA, hB, hb⟩
 have HA := Lib.hid hA
 have HB := Lib.hid hB
 have HB0 := Lib.hid hb
 obtain ⟨a0, a1, a2, a3⟩ := hA
 obtain ⟨b0, b1, b2, b3⟩ := hB
 clear hb
 obtain ⟨gp, hgp⟩ : ∃ g, g = w.heap.size := ⟨_, rfl⟩
 have HGP := Lib.hid hgp
 rw [← hgp] at a0 a1 a2 a3 b0 b1 b2 b3 HA HB ⊢
 clear hgp
 obtain ⟨A, hA⟩ : ∃ A : Vec, A = ⟨a.x, a.y, a.z⟩ := ⟨_, rfl⟩
 obtain ⟨B, hB⟩ : ∃ B : Vec, B = ⟨b.x, b.y, b.z⟩ := ⟨_, rfl⟩
 have HAX := Lib.hid (show A.x = a.x ∧ A.y = a.y ∧ A.z = a.z by rw [hA]; exact ⟨rfl, rfl, rfl⟩)
 have HBX := Lib.hid (show B.x = b.x ∧ B.y = b.y ∧ B.z = b.z by rw [hB]; exact ⟨rfl, rfl, rfl⟩)
 rw [← HAX.out.1] at a0
 rw [← HAX.out.2.1] at a1
 rw [← HAX.out.2.2] at a2
 rw [← HBX.out.1] at b0
 rw [← HBX.out.2.1] at b1
 rw [← HBX.out.2.2] at b2
 clear hA hB
 have kx0 : ∀ y : KW (fun W' => Below W.heap.size W W'), (y.w.cell? ⟨gp, 0, none⟩ = some (.int .i64 A.x) ∧ y.w.cell? ⟨gp, 1, none⟩ = some (.int .i64 A.y) ∧ y.w.cell? ⟨gp, 2, none⟩ = some (.int .i64 A.z)) := fun y => ⟨cell_keep y.ok a0, cell_keep y.ok a1, cell_keep y.ok a2⟩
 have kx1 : ∀ y : KW (fun W' => Below W.heap.size W W'), (y.w.cell? ⟨gp + 1, 0, none⟩ = some (.int .i64 B.x) ∧ y.w.cell? ⟨gp + 1, 1, none⟩ = some (.int .i64 B.y) ∧ y.w.cell? ⟨gp + 1, 2, none⟩ = some (.int .i64 B.z)) := fun y => ⟨cell_keep y.ok b0, cell_keep y.ok b1, cell_keep y.ok b2⟩
 haveI n1 : Nonempty (KW (fun W' => Below W.heap.size W W')) := ⟨⟨W, Below.refl _ _⟩⟩
 refine wp_cut_slots [10, 11, 12, 13, 14, 15, 16, 17, 18, 19, 20, 21, 22, 23, 5, 6] (BfA W A B) ?_ ?_
 ·refine wp_region_gro (fun w' => ∃ y : KW (fun W' => Below W.heap.size W W'), w' = y.w) 17 (.take 0 (.take 1 (.take 2 (.take 3 (.take 4 (.take 5 (.take 6 (.take 7 (.take 8 (.take 9 (.take 10 (.take 11 (.take 12 (.take 13 (.two 14 (.one 15 (.one 16 .done)) 15 (.one 14 (.one 16 .done))))))))))))))))) hmix (by kernel_rfl) kw_grew (KW.mk' (Below.refl _ _).drew) ?_
  have HC0 := Lib.hid (show Below W.heap.size W W.drew from (Below.refl _ _).drew)
  generalize W.drew = ww0 at *
  repeat (refine wpGro_take ?_; simp only [nthOp]; (first | go_big_quiet_step (fail) | quiet_step (fail)); refine wpQuiet_nil ?_)
  clear kx0 kx1 n1 a0 a1 a2 b0 b1 b2
  apply wpGro_two
  ·skip
   intro wa1 ha1
   simp only [nthOp]
   go_wp2_with fail
   have HA1 := Lib.hid (HC0.out.trans (ha1.mono HC0.out.size))
   have HC1 := Lib.hid (HA1.out.alloc HA1.out.size (.cells #[.int .i64 0, .int .i64 0, .int .i64 0] 105))
   have HZ1 := Lib.hid (ZBx.new wa1 105)
   have HG1 := Lib.hid HA1.out.size
   refine One_mk (KW.mk' HC1.out) ?_
   generalize (wa1.alloc (.cells #[.int .i64 0, .int .i64 0, .int .i64 0] 105)) = wb1 at *
   generalize wa1.heap.size = gg1 at *
   apply wpGro_one
   intro wa2 ha2
   simp only [nthOp]
   go_wp2_with fail
   have HA2 := Lib.hid (HC1.out.trans (ha2.mono HC1.out.size))
   have HC2 := Lib.hid (HA2.out.alloc HA2.out.size (.cells #[.int .i64 0, .int .i64 0, .int .i64 0] 105))
   have HZ2 := Lib.hid (ZBx.new wa2 105)
   have HG2 := Lib.hid HA2.out.size
   have lt2 : gg1 < wa2.heap.size := (HZ1.out.keep ha2).lt
   have HK2 := Lib.hid ((HZ1.out.keep ha2).keep ((Below.refl wa2.heap.size wa2).alloc (Nat.le_refl _) (.cells #[.int .i64 0, .int .i64 0, .int .i64 0] 105)))
   refine One_mk (KW.mk' HC2.out) ?_
   generalize (wa2.alloc (.cells #[.int .i64 0, .int .i64 0, .int .i64 0] 105)) = wb2 at *
   generalize wa2.heap.size = gg2 at *
   apply wpGro_one
   intro wd3 hd3
   have HD3 := Lib.hid (HC2.out.trans (hd3.mono HC2.out.size))
   have HY0 := Lib.hid (HK2.out.keep hd3)
   have HY1 := Lib.hid (HZ2.out.keep hd3)
   obtain ⟨⟨y00, x00⟩, ⟨y01, x01⟩, y02, x02⟩ := HY0.out
   have n01 : ¬ gg1 = gg2 := by omega
   have n10 : ¬ gg2 = gg1 := by omega
   simp only [nthOp]
   go_wp2_with fail
   refine One_mk (KW.mk' (((HD3.out.setCell HG1.out _).setCell HG1.out _).setCell HG1.out _)) ?_
   have HV1 := Lib.hid (ZBx.put HY0.out (A))
   have HZ1 := Lib.hid (ZBx.off3 (v := A) HY1.out n10)
   have HB1 := Lib.hid (below_set3 (v := A) HD3.out HG1.out)
   apply wpGro_done
   intro we he
   have HE := Lib.hid (HB1.out.trans (he.mono HB1.out.size))
   have HVE := Lib.hid (HV1.out.keep he)
   have HZE := Lib.hid (HZ1.out.keep he)
   obtain ⟨⟨y10, x10⟩, ⟨y11, x11⟩, y12, x12⟩ := HZE.out
   simp only [List.drop_succ_cons, List.drop_zero]
   go_wp2_with fail
   refine NP_mk ?_
   exact cut_meet (by simp [forget]) ⟨_, _, rfl, rfl, HG1.out, HG2.out, HVE.out.off3 n01, ZBx.put HZE.out (B), below_set3 (v := B) HE.out HG2.out⟩
  ·skip
   intro wa4 ha4
   simp only [nthOp]
   go_wp2_with fail
   have HA4 := Lib.hid (HC0.out.trans (ha4.mono HC0.out.size))
   have HC4 := Lib.hid (HA4.out.alloc HA4.out.size (.cells #[.int .i64 0, .int .i64 0, .int .i64 0] 105))
   have HZ4 := Lib.hid (ZBx.new wa4 105)
   have HG4 := Lib.hid HA4.out.size
   refine One_mk (KW.mk' HC4.out) ?_
   generalize (wa4.alloc (.cells #[.int .i64 0, .int .i64 0, .int .i64 0] 105)) = wb4 at *
   generalize wa4.heap.size = gg4 at *
   apply wpGro_one
   intro wa5 ha5
   simp only [nthOp]
   go_wp2_with fail
   have HA5 := Lib.hid (HC4.out.trans (ha5.mono HC4.out.size))
   have HC5 := Lib.hid (HA5.out.alloc HA5.out.size (.cells #[.int .i64 0, .int .i64 0, .int .i64 0] 105))
   have HZ5 := Lib.hid (ZBx.new wa5 105)
   have HG5 := Lib.hid HA5.out.size
   have lt5 : gg4 < wa5.heap.size := (HZ4.out.keep ha5).lt
   have HK5 := Lib.hid ((HZ4.out.keep ha5).keep ((Below.refl wa5.heap.size wa5).alloc (Nat.le_refl _) (.cells #[.int .i64 0, .int .i64 0, .int .i64 0] 105)))
   refine One_mk (KW.mk' HC5.out) ?_
   generalize (wa5.alloc (.cells #[.int .i64 0, .int .i64 0, .int .i64 0] 105)) = wb5 at *
   generalize wa5.heap.size = gg5 at *
   apply wpGro_one
   intro wd6 hd6
   have HD6 := Lib.hid (HC5.out.trans (hd6.mono HC5.out.size))
   have HY0 := Lib.hid (HZ5.out.keep hd6)
   have HY1 := Lib.hid (HK5.out.keep hd6)
   obtain ⟨⟨y00, x00⟩, ⟨y01, x01⟩, y02, x02⟩ := HY0.out
   have n01 : ¬ gg5 = gg4 := by omega
   have n10 : ¬ gg4 = gg5 := by omega
   simp only [nthOp]
   go_wp2_with fail
   refine One_mk (KW.mk' (((HD6.out.setCell HG5.out _).setCell HG5.out _).setCell HG5.out _)) ?_
   have HV1 := Lib.hid (ZBx.put HY0.out (A))
   have HZ1 := Lib.hid (ZBx.off3 (v := A) HY1.out n10)
   have HB1 := Lib.hid (below_set3 (v := A) HD6.out HG5.out)
   apply wpGro_done
   intro we he
   have HE := Lib.hid (HB1.out.trans (he.mono HB1.out.size))
   have HVE := Lib.hid (HV1.out.keep he)
   have HZE := Lib.hid (HZ1.out.keep he)
   obtain ⟨⟨y10, x10⟩, ⟨y11, x11⟩, y12, x12⟩ := HZE.out
   simp only [List.drop_succ_cons, List.drop_zero]
   go_wp2_with fail
   refine NP_mk ?_
   exact cut_meet (by simp [forget]) ⟨_, _, rfl, rfl, HG5.out, HG4.out, HVE.out.off3 n01, ZBx.put HZE.out (B), below_set3 (v := B) HE.out HG4.out⟩
 clear kx0 kx1 n1 a0 a1 a2 a3 b0 b1 b2 b3
 rintro u W1 ⟨g5, g6, hu5, hu6, h5, h6, v5, v6, hb1⟩
 simp only [forget, List.foldl_cons, List.foldl_nil, hu5, hu6, List.setIfInBounds_toArray, List.set_cons_succ, List.set_cons_zero]
 have HV5 := Lib.hid v5
 have HV6 := Lib.hid v6
 have HA1 := Lib.hid (HA.out.keep hb1)
 have HB1 := Lib.hid (HB.out.keep hb1)
 have HBW1 := Lib.hid (HB0.out.trans (hb1.mono HB0.out.size))
 clear hu5 hu6 hb1 v5 v6 h5 h6
 go_wp2_with fail
 go_loopw [7] (fun iv wr => ∃ (i : Nat) (v : Int), i ≤ 3 ∧ v = (i : Int) ∧ iv = .int .i64 v ∧ Hid ((0 < i → a.x * b.n = b.x * a.n) ∧ (1 < i → a.y * b.n = b.y * a.n) ∧ (2 < i → a.z * b.n = b.z * a.n)) ∧ Below W1.heap.size W1 wr) (fun iv _ => 3 - (intOf iv).toNat)
 case atStart => exact ⟨0, 0, Nat.zero_le _, rfl, rfl, Lib.hid (by omega), Below.refl _ _⟩
 case round =>
  obtain ⟨i, v, hi, hvi, rfl, HI, hb⟩ := hrel
  have HBR := Lib.hid hb
  have HBWR := Lib.hid (HBW1.out.trans (hb.mono HBW1.out.size))
  have h4 : i = 0 ∨ i = 1 ∨ i = 2 ∨ i = 3 := by omega
  have a3 := cell_keep hb HA1.out.d
  have b3 := cell_keep hb HB1.out.d
  have hl0 := block_lt_of_cell a3
  have hl1 := block_lt_of_cell b3
  rcases h4 with rfl | rfl | rfl | rfl
  ·obtain rfl : v = 0 := by simpa using hvi
   clear hvi
   have x0 := cell_keep hb HV5.out.a
   have y0 := cell_keep hb HV6.out.a
   rw [HAX.out.1] at x0
   rw [HBX.out.1] at y0
   have hl2 := block_lt_of_cell x0
   have hl3 := block_lt_of_cell y0
   simp only at hl0 hl1 hl2 hl3
   have m1 := mul_in HAI.out.1.1 HBI.out.2
   have m2 := mul_in HBI.out.1.1 HAI.out.2
   simp only [vec] at m1 m2
   obtain ⟨P, hP⟩ : ∃ P, P = a.x * b.n := ⟨_, rfl⟩
   obtain ⟨R, hR⟩ : ∃ R, R = b.x * a.n := ⟨_, rfl⟩
   rw [← hP] at m1
   rw [← hR] at m2
   have e1 : IntKind.i64.wrap (a.x * b.n) = P := by rw [← hP]; exact IntWalk.i64_in _ (by omega)
   have e2 : IntKind.i64.wrap (b.x * a.n) = R := by rw [← hR]; exact IntWalk.i64_in _ (by omega)
   have HPR := Lib.hid (And.intro hP hR)
   clear hP hR m1 m2 hb
   go_upto_region 5 with fail
   refine wp_region_grew (by kernel_rfl) (by kernel_rfl) ?_
   repeat (first | go_big_quiet_step (fail) | quiet_step (fail))
   refine wpQuiet_nil ?_
   rintro _ ⟨gg, rfl⟩
   have HFB := Lib.hid (show Below W1.heap.size W1 (grew wr gg) from grewB HBR.out HBR.out.size _)
   have HFW := Lib.hid (HBW1.out.trans (HFB.out.mono HBW1.out.size))
   by_cases hPR : P = R
   ·have HN := Lib.hid (show (0 < 1 → a.x * b.n = b.x * a.n) ∧ (1 < 1 → a.y * b.n = b.y * a.n) ∧ (2 < 1 → a.z * b.n = b.z * a.n) by
      have h := HI.out; have h1 := HPR.out.1; have h2 := HPR.out.2
      refine ⟨fun _ => ?_, fun _ => ?_, fun _ => ?_⟩ <;> first | omega | (apply h.1; decide) | (apply h.2.1; decide) | (apply h.2.2; decide))
    go_wp2_with fail
    go_roundw
    case rel => exact ⟨1, 1, by decide, rfl, by first | rfl | go_num, HN, HFB.out⟩
    case measure => first | (simp [intOf]; done) | (simp [intOf]; omega)
   ·have HE := Lib.hid (show S = decide (P < R) by
      have h := HI.out; rw [HS.out, HPR.out.1, HPR.out.2]
      rw [HPR.out.1, HPR.out.2] at hPR
      rw [if_pos hPR])
    go_wp2_with fail
    go_ret
    exact ⟨ret_bool HE.out.symm, HFW.out⟩
  ·obtain rfl : v = 1 := by simpa using hvi
   clear hvi
   have x0 := cell_keep hb HV5.out.b
   have y0 := cell_keep hb HV6.out.b
   rw [HAX.out.2.1] at x0
   rw [HBX.out.2.1] at y0
   have hl2 := block_lt_of_cell x0
   have hl3 := block_lt_of_cell y0
   simp only at hl0 hl1 hl2 hl3
   have m1 := mul_in HAI.out.1.2.1 HBI.out.2
   have m2 := mul_in HBI.out.1.2.1 HAI.out.2
   simp only [vec] at m1 m2
   obtain ⟨P, hP⟩ : ∃ P, P = a.y * b.n := ⟨_, rfl⟩
   obtain ⟨R, hR⟩ : ∃ R, R = b.y * a.n := ⟨_, rfl⟩
   rw [← hP] at m1
   rw [← hR] at m2
   have e1 : IntKind.i64.wrap (a.y * b.n) = P := by rw [← hP]; exact IntWalk.i64_in _ (by omega)
   have e2 : IntKind.i64.wrap (b.y * a.n) = R := by rw [← hR]; exact IntWalk.i64_in _ (by omega)
   have HPR := Lib.hid (And.intro hP hR)
   clear hP hR m1 m2 hb
   go_upto_region 5 with fail
   refine wp_region_grew (by kernel_rfl) (by kernel_rfl) ?_
   repeat (first | go_big_quiet_step (fail) | quiet_step (fail))
   refine wpQuiet_nil ?_
   rintro _ ⟨gg, rfl⟩
   have HFB := Lib.hid (show Below W1.heap.size W1 (grew wr gg) from grewB HBR.out HBR.out.size _)
   have HFW := Lib.hid (HBW1.out.trans (HFB.out.mono HBW1.out.size))
   by_cases hPR : P = R
   ·have HN := Lib.hid (show (0 < 2 → a.x * b.n = b.x * a.n) ∧ (1 < 2 → a.y * b.n = b.y * a.n) ∧ (2 < 2 → a.z * b.n = b.z * a.n) by
      have h := HI.out; have h1 := HPR.out.1; have h2 := HPR.out.2
      refine ⟨fun _ => ?_, fun _ => ?_, fun _ => ?_⟩ <;> first | omega | (apply h.1; decide) | (apply h.2.1; decide) | (apply h.2.2; decide))
    go_wp2_with fail
    go_roundw
    case rel => exact ⟨2, 2, by decide, rfl, by first | rfl | go_num, HN, HFB.out⟩
    case measure => first | (simp [intOf]; done) | (simp [intOf]; omega)
   ·have HE := Lib.hid (show S = decide (P < R) by
      have h := HI.out; rw [HS.out, HPR.out.1, HPR.out.2]
      rw [HPR.out.1, HPR.out.2] at hPR
      rw [if_neg (by have := h.1 (by decide); omega), if_pos hPR])
    go_wp2_with fail
    go_ret
    exact ⟨ret_bool HE.out.symm, HFW.out⟩
  ·obtain rfl : v = 2 := by simpa using hvi
   clear hvi
   have x0 := cell_keep hb HV5.out.c
   have y0 := cell_keep hb HV6.out.c
   rw [HAX.out.2.2] at x0
   rw [HBX.out.2.2] at y0
   have hl2 := block_lt_of_cell x0
   have hl3 := block_lt_of_cell y0
   simp only at hl0 hl1 hl2 hl3
   have m1 := mul_in HAI.out.1.2.2 HBI.out.2
   have m2 := mul_in HBI.out.1.2.2 HAI.out.2
   simp only [vec] at m1 m2
   obtain ⟨P, hP⟩ : ∃ P, P = a.z * b.n := ⟨_, rfl⟩
   obtain ⟨R, hR⟩ : ∃ R, R = b.z * a.n := ⟨_, rfl⟩
   rw [← hP] at m1
   rw [← hR] at m2
   have e1 : IntKind.i64.wrap (a.z * b.n) = P := by rw [← hP]; exact IntWalk.i64_in _ (by omega)
   have e2 : IntKind.i64.wrap (b.z * a.n) = R := by rw [← hR]; exact IntWalk.i64_in _ (by omega)
   have HPR := Lib.hid (And.intro hP hR)
   clear hP hR m1 m2 hb
   go_upto_region 5 with fail
   refine wp_region_grew (by kernel_rfl) (by kernel_rfl) ?_
   repeat (first | go_big_quiet_step (fail) | quiet_step (fail))
   refine wpQuiet_nil ?_
   rintro _ ⟨gg, rfl⟩
   have HFB := Lib.hid (show Below W1.heap.size W1 (grew wr gg) from grewB HBR.out HBR.out.size _)
   have HFW := Lib.hid (HBW1.out.trans (HFB.out.mono HBW1.out.size))
   by_cases hPR : P = R
   ·have HN := Lib.hid (show (0 < 3 → a.x * b.n = b.x * a.n) ∧ (1 < 3 → a.y * b.n = b.y * a.n) ∧ (2 < 3 → a.z * b.n = b.z * a.n) by
      have h := HI.out; have h1 := HPR.out.1; have h2 := HPR.out.2
      refine ⟨fun _ => ?_, fun _ => ?_, fun _ => ?_⟩ <;> first | omega | (apply h.1; decide) | (apply h.2.1; decide) | (apply h.2.2; decide))
    go_wp2_with fail
    go_roundw
    case rel => exact ⟨3, 3, by decide, rfl, by first | rfl | go_num, HN, HFB.out⟩
    case measure => first | (simp [intOf]; done) | (simp [intOf]; omega)
   ·have HE := Lib.hid (show S = decide (P < R) by
      have h := HI.out; rw [HS.out, HPR.out.1, HPR.out.2]
      rw [HPR.out.1, HPR.out.2] at hPR
      rw [if_neg (by have := h.1 (by decide); omega), if_neg (by have := h.2.1 (by decide); omega), if_pos hPR])
    go_wp2_with fail
    go_ret
    exact ⟨ret_bool HE.out.symm, HFW.out⟩
  ·obtain rfl : v = 3 := by simpa using hvi
   clear hvi
   have HE := Lib.hid (show S = false by
    have h := HI.out; rw [HS.out, if_neg (by have := h.1 (by decide); omega), if_neg (by have := h.2.1 (by decide); omega), if_neg (by have := h.2.2 (by decide); omega)])
   clear hb
   go_wp2_with fail
   go_ret
   exact ⟨ret_bool HE.out.symm, HBWR.out⟩
end Go.Proofs.YtbhgkadklklmbaaGreat
/- The copy of a solid. -/
set_option linter.unusedVariables false
set_option linter.unusedSimpArgs false
namespace Go.Proofs.YtbhgkadklklmbaaGreat
open Go Go.RowKit Go.Sort Go.Lib

/-- Planes in memory. -/
structure PR where
 ps : List Pl
 pa : Option Addr
 pc : Nat
def cellsPR (r : PR) : List Value := [.slice r.pa r.ps.length r.pc]
theorem cellsPR_len (r : PR) : (cellsPR r).length = 1 := rfl
theorem cellsPR_one (r : PR) : ∀ v ∈ cellsPR r, v.oneCell' = true := by
 intro v hv
 simp only [cellsPR, List.mem_cons, List.not_mem_nil, or_false] at hv
 subst hv; rfl
structure PRok (w : World) (v : Value) (r : PR) : Prop where
 pls : Pls.V w r.pa r.ps
 len : r.ps.length ≤ r.pc
 cap : r.pc ≤ 9223372036854775807
 pb : ∀ b, blk r.pa = some b → b < w.heap.size ∧ v.ownBlock ≠ some b
theorem PRok.keep {w w' : World} {v : Value} {r : PR} (h : PRok w v r) (hb : Below w.heap.size w w') : PRok w' v r :=
 ⟨h.pls.keep hb, h.len, h.cap, fun b e => ⟨Nat.lt_of_lt_of_le (h.pb b e).1 hb.size, (h.pb b e).2⟩⟩
theorem PRok.grown {w w' : World} {v v' : Value} {r : PR} (h : PRok w v r) (hg : w.grownBy w' v.ownBlock) (hv : v'.ownBlock = v.ownBlock ∨ v'.ownBlock = some w.heap.size) : PRok w' v' r :=
 ⟨h.pls.grown hg fun b e => (h.pb b e).2, h.len, h.cap, fun b e => ⟨Nat.lt_of_lt_of_le (h.pb b e).1 hg.size, fun e' => by
  rcases hv with hv | hv
  ·exact (h.pb b e).2 (hv ▸ e')
  ·rw [hv] at e'; injection e' with e'; have := (h.pb b e).1; omega⟩⟩
/-- A copy under way: its box, its row. -/
structure CpSt (g : Nat) (w : World) (v : Value) (L : List PR) : Prop where
 c : w.cell? ⟨g, 0, none⟩ = some v
 f : w.frozen? ⟨g, 0, none⟩ = false
 o : w.ownsRow (g + 1) 24 1 v L.length (L.flatMap cellsPR)
 p : ∀ q ∈ L, PRok w v q
theorem CpSt.lt {g : Nat} {w : World} {v : Value} {L : List PR} (h : CpSt g w v L) : g < w.heap.size := block_lt_of_cell h.c
theorem CpSt.keep {g : Nat} {w w' : World} {v : Value} {L : List PR} (h : CpSt g w v L) (hb : Below w.heap.size w w') : CpSt g w' v L :=
 ⟨cell_keep hb h.c, frozen_keep hb h.lt h.f, own_keep h.o hb, fun q hq => (h.p q hq).keep hb⟩
theorem CpSt.put {g : Nat} {w w' : World} {v v' : Value} {L : List PR} {q : PR} (h : CpSt g w v L) (hg : w.grownBy w' v.ownBlock) (hv : v'.ownBlock = v.ownBlock ∨ v'.ownBlock = some w.heap.size) (hq : PRok w v q) (hq1 : ∀ b, blk q.pa = some b → b ≠ g) (hL : ∀ r ∈ L, ∀ b, blk r.pa = some b → b ≠ g)
    (ho : w'.ownsRow (g + 1) 24 1 v' (L ++ [q]).length ((L ++ [q]).flatMap cellsPR)) : CpSt g (w'.setCell ⟨g, 0, none⟩ v') v' (L ++ [q]) := by
 have hne : v.ownBlock ≠ some g := fun e => by have := (own_lt h.o e).1; omega
 have hne' : v'.ownBlock ≠ some g := fun e => by have := (own_lt ho e).1; omega
 have hc' : w'.cell? ⟨g, 0, none⟩ = some v := grown_cell hg h.c hne
 have hf' : w'.frozen? ⟨g, 0, none⟩ = false := (grown_frozen hg h.c hne).trans h.f
 have key : ∀ r : PR, PRok w v r → (∀ b, blk r.pa = some b → b ≠ g) → PRok (w'.setCell ⟨g, 0, none⟩ v') v' r := fun r hr h1 => by
  have h2 := hr.grown hg hv
  exact ⟨h2.pls.grown (grownBy_set (a := ⟨g, 0, none⟩)) fun b e e' => by injection e' with e'; exact h1 b e e'.symm, h2.len, h2.cap, fun b e => ⟨by rw [size_set]; exact (h2.pb b e).1, (h2.pb b e).2⟩⟩
 refine ⟨cell_set_same (by rw [hc']; rfl), by rw [frozen_set]; exact hf', ho.kept (grownBy_set (a := ⟨g, 0, none⟩)) (.inr hne'), fun r hr => ?_⟩
 rcases List.mem_append.1 hr with hr | hr
 ·exact key r (h.p r hr) (hL r hr)
 ·simp only [List.mem_singleton] at hr; subst hr; exact key _ hq hq1
theorem prs_cells {w : World} {base n c : Nat} {a : Option Addr} {L : List PR} (ho : w.ownsRow base 24 1 (.slice a n c) n (L.flatMap cellsPR)) {v : Value} (hp : ∀ q ∈ L, PRok w v q) : Cells.V w a (L.map fun r => ⟨r.ps⟩) := fun hne => by
 have hne' : L ≠ [] := fun e => hne (by rw [e]; rfl)
 obtain ⟨g, cap, e, -, -, -, -, -, hc⟩ := own_cells cellsPR_len ho hne' (by decide)
 injection e with e1 e2 e3
 subst e1
 refine ⟨g, 0, rfl, fun k x hk => ?_⟩
 rw [List.getElem?_map] at hk
 obtain ⟨r, hr, rfl⟩ := Option.map_eq_some_iff.1 hk
 obtain ⟨hkl, rfl⟩ := List.getElem?_eq_some_iff.1 hr
 have h1 := (hc k hkl 0 (by decide)).1
 have h2 := hp _ (List.getElem_mem hkl)
 rw [Nat.add_zero] at h1
 rw [Nat.zero_add]
 exact ⟨L[k].pa, L[k].pc, h1, h2.pls, h2.len, h2.cap, trivial⟩
theorem pls_wf {w : World} {a : Option Addr} {l : List Pl} (h : Pls.V w a l) : ∀ p ∈ l, p.wf := fun p hp => by
 obtain ⟨b, off, rfl, hx⟩ := h (List.ne_nil_of_mem hp)
 obtain ⟨k, hk, rfl⟩ := List.mem_iff_getElem.1 hp
 exact (hx k _ (List.getElem?_eq_getElem hk)).2.2.2.2
set_option maxRecDepth 100000 in
set_option maxHeartbeats 8000000 in
theorem copySolid_any (cells : List Cell) (a : Option Addr) (c : Nat) (w : World) (hcl : cells.length ≤ 1000) (hv : Cells.V w a cells) (hpl : ∀ x ∈ cells, x.planes.length ≤ 1000) :
    Calls Tryz.prog 34 #[.agg #[.slice a cells.length c]] w fun e w' => ∃ va vc, e = .returned (.agg #[.slice va cells.length vc]) ∧ Cells.V w' va cells ∧ cells.length ≤ vc ∧ Below w.heap.size w w' := by
 have hmix : Tryz.prog.follows .mixedOrders = true := by kernel_rfl
 obtain ⟨i0, hi0, hz0, hz1, hz2⟩ := info_parts cellInfo
 obtain ⟨i1, hi1, hy0, hy1, hy2⟩ := info_parts infoPl
 have HV := Lib.hid hv
 have HPL := Lib.hid hpl
 clear hv hpl
 go_enter Tryz.func34, Tryz.ntmps34
 go_upto_region 2 with fail
 refine gen_world (fun W => W.cell? ⟨w.heap.size, 0, none⟩ = some (.slice a cells.length c) ∧ (W.cell? ⟨w.heap.size + 1, 0, none⟩ = some (.slice none 0 0) ∧ W.frozen? ⟨w.heap.size + 1, 0, none⟩ = false) ∧ CpSt (w.heap.size + 2) W (.slice none 0 0) [] ∧ Below w.heap.size w W) ⟨by simp [go_sem], ⟨by simp [go_sem], by simp [go_sem]⟩, ⟨by simp [go_sem], by simp [go_sem], ⟨rfl, .inl ⟨rfl, rfl⟩⟩, fun q hq => absurd hq (by simp)⟩, by repeat (first | (with_reducible assumption) | exact Below.refl _ _ | (refine Below.setCell ?_ (by first | omega | (simp; omega) | (simp; done)) _) | (refine Below.alloc ?_ (by first | omega | (simp; omega) | (simp; done)) _) | (refine Below.drew ?_))⟩ ?_
 rintro W ⟨b0, ⟨r0, rf0⟩, hst, hb⟩
 have HST := Lib.hid hst
 have HB0 := Lib.hid hb
 have HR := Lib.hid (And.intro b0 (And.intro r0 rf0))
 clear hst hb b0 r0 rf0
 obtain ⟨gw, hgw⟩ : ∃ g, g = w.heap.size := ⟨_, rfl⟩
 have HGW := Lib.hid hgw
 rw [← hgw] at HST HR ⊢
 clear hgw
 simp only [Nat.add_assoc, Nat.reduceAdd]
 go_wp2_with fail
 go_loopw [4] (fun iv wr => ∃ (k : Nat) (v : Value) (L : List PR), k ≤ cells.length ∧ iv = .int .i64 (k : Int) ∧ CpSt (gw + 2) wr v L ∧ Hid (L.map (fun r => (⟨r.ps⟩ : Cell)) = cells.take k) ∧ Hid (∀ r ∈ L, ∀ b, blk r.pa = some b → gw + 2 < b) ∧ (wr.cell? ⟨gw, 0, none⟩ = some (.slice a cells.length c) ∧ wr.cell? ⟨gw + 1, 0, none⟩ = some (.slice none 0 0) ∧ wr.frozen? ⟨gw + 1, 0, none⟩ = false) ∧ Below w.heap.size w wr) (fun iv _ => cells.length - (intOf iv).toNat)
 case atStart => exact ⟨0, _, [], Nat.zero_le _, rfl, HST.out, Lib.hid rfl, Lib.hid (fun r hr => absurd hr (by simp)), HR.out, HB0.out⟩
 case round =>
  obtain ⟨k, v, L, hk, rfl, hst, HL, HOF, ⟨b0, r0, rf0⟩, hb⟩ := hrel
  have HS := Lib.hid hst
  have HB := Lib.hid hb
  have HRR := Lib.hid (And.intro b0 (And.intro r0 rf0))
  obtain ⟨va, vc, rfl, -, -⟩ := own_slice hst.o
  have hll : L.length = k := by have := congrArg List.length HL.out; rw [List.length_map, List.length_take] at this; omega
  have HLL := Lib.hid hll
  have s0 := hst.c
  have sf0 := hst.f
  have hz := HB.out.size
  by_cases hlt : k < cells.length
  ·have hki : (k : Int) < (cells.length : Int) := by omega
   obtain ⟨bb, off, rfl, hat⟩ := (HV.out.keep hb).at_ hlt
   have HTK := Lib.hid (show cells.take (k + 1) = cells.take k ++ [cells[k]] from List.take_succ_eq_append_getElem hlt)
   have HPK := Lib.hid (HPL.out _ (List.getElem_mem hlt))
   generalize cells[k] = x at *
   obtain ⟨xa, xc, x0, xv, -⟩ := hat
   rw [Nat.mul_one] at x0
   have HXV := Lib.hid xv
   clear hst hb xv hll
   go_upto_region 5 with fail
   have kx0 : ∀ y : KW (fun W' => Below wr.heap.size wr W'), (y.w.cell? ⟨gw + 2, 0, none⟩ = some (.slice va L.length vc) ∧ y.w.cell? ⟨gw, 0, none⟩ = some (.slice (some ⟨bb, off, none⟩) cells.length c) ∧ y.w.cell? ⟨bb, off + k, none⟩ = some (.slice xa x.planes.length xc)) := fun y => ⟨cell_keep y.ok s0, cell_keep y.ok b0, cell_keep y.ok x0⟩
   haveI n1 : Nonempty (KW (fun W' => Below wr.heap.size wr W')) := ⟨⟨wr, Below.refl _ _⟩⟩
   refine wp_region_tree (fun w' => ∃ y : KW (fun W' => Below wr.heap.size wr W'), w' = y.w) 12 (.take 0 (.take 1 (.take 3 (.take 4 (.take 5 (.take 6 (.take 7 (.take 8 (.one 2 (.one 9 (.take 10 (.one 11 .done)))))))))))) hmix (by kernel_rfl) (KW.mk' (Below.refl _ _).drew) ?_
   have HC0 := Lib.hid (show Below wr.heap.size wr wr.drew from (Below.refl _ _).drew)
   generalize wr.drew = ww0 at *
   repeat (refine wpTree_take ?_; simp only [nthOp]; (first | go_big_quiet_step (fail) | quiet_step (fail)); refine wpQuiet_nil ?_)
   refine wpTree_one ?_
   simp only [nthOp]
   go_wp2_with fail
   have HC1 := Lib.hid (HC0.out.alloc HC0.out.size (.cells #[] 26))
   have HO1 := Lib.hid (World.ownsRow_made (e := 26) (base := ww0.heap.size) (size := 4) ww0 #[] 0 (by omega) (by decide) (by simp))
   have HG0 := Lib.hid HC0.out.size
   have HPN := Lib.hid (plsNews (HXV.out.keep HC1.out))
   refine One_mk (KW.mk' HC1.out) ?_
   have HZ1 := Lib.hid (show ww0.heap.size ≤ (ww0.alloc (.cells #[] 26)).heap.size by simp)
   generalize (ww0.alloc (.cells #[] 26)) = ww1 at *
   generalize ww0.heap.size = g0 at *
   refine wpTree_one ?_
   simp only [nthOp]
   go_wp2_with (at_builtin; refine wpList_append_rows cellsPl_len cellsPl_one (by decide) rfl _ _ 22 rfl g0 26 i1 _ 32 Tryz.underlying22 hi1 hy0 hy1 hy2 rfl (by decide) (.slice (some ⟨g0, 0, none⟩) 0 0) 0 [] rfl HO1.out xa x.planes xc rfl HPN.out (by have := HPK.out; omega) HZ1.out ?_; intro v' ww2 ho hg ha; obtain ⟨qa, qc, rfl, hqc, hqm⟩ := own_slice ho; have HO2 := Lib.hid (show ww2.ownsRow g0 26 4 (.slice qa x.planes.length qc) x.planes.length (x.planes.flatMap cellsPl) by simpa using ho); have HC2 := Lib.hid (below_grown HC1.out hg HC1.out.size fun k hk => Nat.le_trans HG0.out (own_lt HO1.out hk).1); have HQC := Lib.hid (And.intro hqc hqm); clear ho hg ha hqc hqm)
   refine One_mk (KW.mk' HC2.out) ?_
   (refine wpTree_take ?_; simp only [nthOp]; (first | go_big_quiet_step (fail) | quiet_step (fail)); refine wpQuiet_nil ?_)
   refine wpTree_one ?_
   simp only [nthOp]
   go_wp2_with fail
   have HC3 := Lib.hid (HC2.out.alloc HC2.out.size (.cells #[.slice qa x.planes.length qc] 24))
   have HO3 := Lib.hid (own_keep HO2.out ((Below.refl ww2.heap.size ww2).alloc (Nat.le_refl _) (.cells #[.slice qa x.planes.length qc] 24)))
   have HNW := Lib.hid (show ∀ j u, (cellsPR ⟨x.planes, qa, qc⟩)[j]? = some u → (ww2.alloc (.cells #[.slice qa x.planes.length qc] 24)).cell? ((⟨ww2.heap.size, 0, none⟩ : Addr).add j) = some u from news_of (cellsPR ⟨x.planes, qa, qc⟩) 24 ww2 _ rfl)
   refine One_mk (KW.mk' HC3.out) ?_
   generalize (ww2.alloc (.cells #[.slice qa x.planes.length qc] 24)) = ww3 at *
   generalize ww2.heap.size = g2 at *
   have HS3 := Lib.hid (HS.out.keep HC3.out)
   have HXW := Lib.hid (pls_wf HXV.out)
   have HQV := Lib.hid (ownPlV HXW.out HO3.out)
   have HQB := Lib.hid (show ∀ b, blk qa = some b → wr.heap.size ≤ b ∧ b < ww3.heap.size from fun b e => ⟨Nat.le_trans HG0.out (own_blk_lt HO3.out b e).1, (own_blk_lt HO3.out b e).2⟩)
   have HPR := Lib.hid (show PRok ww3 (.slice va L.length vc) ⟨x.planes, qa, qc⟩ from ⟨HQV.out, (by have := HQC.out.1; simp only; omega), HQC.out.2, fun b e => ⟨(HQB.out b e).2, fun e' => by have h1 := (own_lt HS.out.o e').2; have h2 := (HQB.out b e).1; omega⟩⟩)
   have HGL := HS.out.lt
   have HNE := Lib.hid (show ∀ b, blk qa = some b → gw + 2 < b from fun b e => by have h2 := (HQB.out b e).1; omega)
   have HN3 := Lib.hid (show gw + 2 + 1 ≤ ww3.heap.size by have := HC3.out.size; omega)
   refine wpTree_done ?_
   simp only [List.drop_succ_cons, List.drop_zero]
   go_wp2_with (at_builtin; refine wpList_append_here _ rfl _ _ 46 rfl (gw + 2 + 1) 24 i0 (.agg #[.slice none 0 0]) 1 24 Tryz.underlying46 hi0 hz0 hz1 hz2 rfl (by decide) (.slice va L.length vc) L.length (L.flatMap cellsPR) rfl HS3.out.o ⟨g2, 0, none⟩ 1 1 (cellsPR ⟨x.planes, qa, qc⟩) rfl rfl HNW.out (cellsPR_one _) (by decide) (by have := HLL.out; simp only [maxLen]; omega) (by have := HLL.out; omega) HN3.out ?_; intro v' w5 ho hg hat; obtain ⟨va', vc', rfl, -, -⟩ := own_slice ho; have HO5 := Lib.hid (show w5.ownsRow (gw + 2 + 1) 24 1 (.slice va' (L.length + 1) vc') (L ++ [(⟨x.planes, qa, qc⟩ : PR)]).length ((L ++ [(⟨x.planes, qa, qc⟩ : PR)]).flatMap cellsPR) by rw [List.flatMap_append, List.length_append]; simpa using ho); have HS5 := Lib.hid (HS3.out.put hg hat HPR.out (fun b e => by have := HNE.out b e; omega) (fun r hr b e => by have := HOF.out r hr b e; omega) HO5.out); have HOK := Lib.hid (show (Value.slice va L.length vc).ownBlock ≠ some (gw + 2) from fun e => by have := (own_lt HS3.out.o e).1; omega); have s5 := grown_cell hg HS3.out.c HOK.out; have sf5 := (grown_frozen hg HS3.out.c HOK.out).trans HS3.out.f; have HB5 := Lib.hid (below_grown (HB.out.trans (HC3.out.mono HB.out.size)) hg (by have := HC3.out.size; have := HB.out.size; omega) fun k hk => by have h1 := (own_lt HS3.out.o hk).1; have h2 := HGW.out; omega); have HR5 := Lib.hid (And.intro (grown_cell hg (cell_keep HC3.out HRR.out.1) (fun e => by have h1 := (own_lt HS3.out.o e).1; simp only at h1; omega)) (And.intro (grown_cell hg (cell_keep HC3.out HRR.out.2.1) (fun e => by have h1 := (own_lt HS3.out.o e).1; simp only at h1; omega)) ((grown_frozen hg (cell_keep HC3.out HRR.out.2.1) (fun e => by have h1 := (own_lt HS3.out.o e).1; simp only at h1; omega)).trans (frozen_keep HC3.out (block_lt_of_cell HRR.out.2.1) HRR.out.2.2)))); clear ho hg hat)
   refine NP_mk ?_
   have HL2 := Lib.hid (show (L ++ [(⟨x.planes, qa, qc⟩ : PR)]).map (fun r => (⟨r.ps⟩ : Cell)) = cells.take (k + 1) by rw [List.map_append, HL.out, HTK.out]; rfl)
   have HOF2 := Lib.hid (show ∀ r ∈ L ++ [(⟨x.planes, qa, qc⟩ : PR)], ∀ b, blk r.pa = some b → gw + 2 < b from fun r hr b e => by
    rcases List.mem_append.1 hr with hr | hr
    ·exact HOF.out r hr b e
    ·simp only [List.mem_singleton] at hr; subst hr; exact HNE.out b e)
   go_wp2_with fail
   go_roundw
   case rel =>
    refine ⟨k + 1, _, _, by omega, by go_num, HS5.out, HL2, HOF2, ⟨?_, ?_, ?_⟩, HB5.out.setCell (by have := HGW.out; simp only; omega) _⟩
    ·rw [cell_set_other (by simp only; omega)]; exact HR5.out.1
    ·rw [cell_set_other (by simp only; omega)]; exact HR5.out.2.1
    ·rw [frozen_set]; exact HR5.out.2.2
   case measure => first | (simp [intOf]; done) | (simp [intOf]; omega)
  ·obtain rfl : k = cells.length := by omega
   have hki : ¬ ((cells.length : Nat) : Int) < ((cells.length : Nat) : Int) := by omega
   have HLE := Lib.hid (show L.map (fun r => (⟨r.ps⟩ : Cell)) = cells by rw [HL.out, List.take_length])
   clear hst hb hll
   go_wp2_with fail
   refine bodyPost_ret (v := .agg #[.slice va L.length vc]) ?_ ?_ ?_
   ·simp [results, Tryz.results34, go_sem, got1 r0]
   ·rfl
   ·have hne : (Value.slice va L.length vc).ownBlock ≠ some (gw + 1) := fun e => by have := (own_lt HS.out.o e).1; omega
    have ho := HS.out.o.kept (grownBy_set (a := ⟨gw + 1, 0, none⟩) (u := .slice va L.length vc)) (.inr hne)
    have hcv := prs_cells ho (v := .slice none 0 0) fun q hq => by
     have h := HS.out.p q hq
     exact ⟨h.pls.grown (grownBy_set (a := ⟨gw + 1, 0, none⟩)) fun b e e' => by injection e' with e'; have := HOF.out q hq b e; simp only at e'; omega, h.len, h.cap, fun b e => ⟨by rw [size_set]; exact (h.pb b e).1, fun e' => by cases e'⟩⟩
    rw [HLE.out] at hcv
    rw [HLL.out] at hcv
    exact ⟨va, vc, by rw [HLL.out], (by rw [HLL.out]; exact hcv), by rw [← HLL.out]; exact (own_len_le HS.out.o).2, HB.out.setCell (by have := HGW.out; simp only; omega) _⟩
end Go.Proofs.YtbhgkadklklmbaaGreat
