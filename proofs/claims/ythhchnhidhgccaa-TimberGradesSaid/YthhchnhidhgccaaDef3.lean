/- What the reference's Defective returns. -/
import Derived.Test.YthhchnhidhgccaaDef2
import Derived.Test.YthhchnhidhgccaaWidR
set_option linter.unusedVariables false
set_option linter.unusedSimpArgs false
namespace Go.Proofs.Ythhchnhidhgccaa
open Go Go.RowKit

theorem cellA_bd {ds : List Rect} {x x' y y' : Int} (h1 : 0 ≤ x) (h2 : x < x') (h3 : x' ≤ 600000) (h4 : 0 ≤ y) (h5 : y < y') (h6 : y' ≤ 100000) :
    (0 ≤ (x' - x) * (y' - y) ∧ (x' - x) * (y' - y) ≤ 60000000000) ∧ 0 ≤ cellA ds x x' y y' ∧ cellA ds x x' y y' ≤ 60000000000 := by
  have p1 : (x' - x) * (y' - y) ≤ 600000 * 100000 := Int.mul_le_mul (by omega) (by omega) (by omega) (by omega)
  have p2 : 0 ≤ (x' - x) * (y' - y) := Int.mul_nonneg (by omega) (by omega)
  refine ⟨⟨p2, by omega⟩, ?_⟩
  unfold cellA
  split <;> omega

set_option maxRecDepth 100000 in
set_option maxHeartbeats 8000000 in
theorem defectiveR_any (b : Board) (a : Option Addr) (c : Nat) (w : World) (hv : Rects.V w a b.defects) (hl : b.defects.length ≤ 60) (hb : DefsIn b) (hb2 : b.length ≤ 600000) (hw2 : b.width ≤ 100000) :
    Calls Try.prog 67 #[.agg #[.string b.name, .string b.species, .int .i64 b.length, .int .i64 b.width, .int .i64 b.thick, .int .i64 b.cut, .int .i64 b.moisture, .slice a b.defects.length c]] w fun e w' => e = .returned (.int .i64 (refArea b)) ∧ Below w.heap.size w w' := by
  have hw1 := hb.wid
  have HXB := Lib.hid (show ∀ x ∈ lineXs b, 0 ≤ x ∧ x ≤ 600000 by
    intro v hv
    have := hb.len
    rcases lineXs_mem.1 hv with rfl | rfl | ⟨d, hd, h⟩
    · omega
    · omega
    · have := hb.ins d hd; omega)
  have HYB := Lib.hid (show ∀ y ∈ lineYs b, 0 ≤ y ∧ y ≤ 100000 by
    intro v hv
    have := hb.wid
    rcases lineYs_mem.1 hv with rfl | rfl | ⟨d, hd, h⟩
    · omega
    · omega
    · have := hb.ins d hd; omega)
  have HXA := Lib.hid (show (lineXs b).Pairwise (· < ·) from uniq_asc _)
  have HYA := Lib.hid (show (lineYs b).Pairwise (· < ·) from uniq_asc _)
  have hLX : (lineXs b).length ≤ 122 := by
    have := lineK_len false b b.defects.length (Nat.le_refl _)
    rw [lineK_all] at this
    simp at this; omega
  have hLY : (lineYs b).length ≤ 122 := by
    have := lineK_len true b b.defects.length (Nat.le_refl _)
    rw [lineK_all] at this
    simp at this; omega
  have HRA := Lib.hid (show refArea b = 0 + chain (stripA b.defects b.width) ((lineXs b).drop 0) by unfold refArea; simp)
  have HCS := Lib.hid (fun x x' => cells_strip hb x x')
  clear hb
  have HLX := Lib.hid (fun w hv => linesR_any b a c false w hv hl)
  have HLY := Lib.hid (fun w hv => linesR_any b a c true w hv hl)
  simp only [Bool.false_eq_true, if_false, if_true] at HLX HLY
  generalize lineXs b = X at *
  generalize lineYs b = Y at *
  go_enter Try.func67, Try.ntmps67
  go_upto_region 1 with fail
  refine gen_world (fun W => (W.cell? ⟨w.heap.size, 0, none⟩ = some (.string b.name) ∧ W.cell? ⟨w.heap.size, 1, none⟩ = some (.string b.species) ∧ W.cell? ⟨w.heap.size, 2, none⟩ = some (.int .i64 b.length) ∧ W.cell? ⟨w.heap.size, 3, none⟩ = some (.int .i64 b.width) ∧ W.cell? ⟨w.heap.size, 4, none⟩ = some (.int .i64 b.thick) ∧ W.cell? ⟨w.heap.size, 5, none⟩ = some (.int .i64 b.cut) ∧ W.cell? ⟨w.heap.size, 6, none⟩ = some (.int .i64 b.moisture) ∧ W.cell? ⟨w.heap.size, 7, none⟩ = some (.slice a b.defects.length c)) ∧ w.heap.size < W.heap.size ∧ Below w.heap.size w W) ?_ ?_
  · exact ⟨⟨by simp [go_sem], by simp [go_sem], by simp [go_sem], by simp [go_sem], by simp [go_sem], by simp [go_sem], by simp [go_sem], by simp [go_sem]⟩, by simp, (Below.refl _ _).alloc (Nat.le_refl _) _⟩
  rintro W ⟨⟨e0, e1, e2, e3, e4, e5, e6, e7⟩, hzW, hbW⟩
  have hvW := hv.keep hbW
  go_region_held3 (fun w' => w'.cell? ⟨w.heap.size, 0, none⟩ = some (.string b.name) ∧ w'.cell? ⟨w.heap.size, 1, none⟩ = some (.string b.species) ∧ w'.cell? ⟨w.heap.size, 2, none⟩ = some (.int .i64 b.length) ∧ w'.cell? ⟨w.heap.size, 3, none⟩ = some (.int .i64 b.width) ∧ w'.cell? ⟨w.heap.size, 4, none⟩ = some (.int .i64 b.thick) ∧ w'.cell? ⟨w.heap.size, 5, none⟩ = some (.int .i64 b.cut) ∧ w'.cell? ⟨w.heap.size, 6, none⟩ = some (.int .i64 b.moisture) ∧ w'.cell? ⟨w.heap.size, 7, none⟩ = some (.slice a b.defects.length c)) (go_keep)
    (first
      | (go_at_call 86; (with_reducible refine (HLX.out _ hvW.drew).mono ?_); rintro e w1 ⟨ax, cx, rfl, hix, hlx, hcx, hb1⟩; have f0 := cell_keep hb1 e0; have f1 := cell_keep hb1 e1; have f2 := cell_keep hb1 e2; have f3 := cell_keep hb1 e3; have f4 := cell_keep hb1 e4; have f5 := cell_keep hb1 e5; have f6 := cell_keep hb1 e6; have f7 := cell_keep hb1 e7; have hv1 := hvW.drew.keep hb1)
      | (go_at_call 86; (with_reducible refine (HLY.out _ hv1).mono ?_); rintro e w2 ⟨ay, cy, rfl, hiy, hly, hcy, hb2⟩; have g0 := cell_keep hb2 f0; have g1 := cell_keep hb2 f1; have g2 := cell_keep hb2 f2; have g3 := cell_keep hb2 f3; have g4 := cell_keep hb2 f4; have g5 := cell_keep hb2 f5; have g6 := cell_keep hb2 f6; have g7 := cell_keep hb2 f7))
  go_upto_region 2 with fail
  refine gen_world (fun W => (W.cell? ⟨w.heap.size, 0, none⟩ = some (.string b.name) ∧ W.cell? ⟨w.heap.size, 1, none⟩ = some (.string b.species) ∧ W.cell? ⟨w.heap.size, 2, none⟩ = some (.int .i64 b.length) ∧ W.cell? ⟨w.heap.size, 3, none⟩ = some (.int .i64 b.width) ∧ W.cell? ⟨w.heap.size, 4, none⟩ = some (.int .i64 b.thick) ∧ W.cell? ⟨w.heap.size, 5, none⟩ = some (.int .i64 b.cut) ∧ W.cell? ⟨w.heap.size, 6, none⟩ = some (.int .i64 b.moisture) ∧ W.cell? ⟨w.heap.size, 7, none⟩ = some (.slice a b.defects.length c)) ∧ IntsV W ax X ∧ IntsV W ay Y ∧ w.heap.size < W.heap.size ∧ Below w.heap.size w W) ?_ ?_
  · have hbA := (hbW.drew.trans (hb1.mono (by simp; omega)))
    have hbB := hbA.trans (hb2.mono hbA.size)
    exact ⟨⟨g0, g1, g2, g3, g4, g5, g6, g7⟩, hix.keep hb2, hiy, by have := hb1.size; have := hb2.size; simp at *; omega, hbB⟩
  clear e0 e1 e2 e3 e4 e5 e6 e7 f0 f1 f2 f3 f4 f5 f6 f7 g0 g1 g2 g3 g4 g5 g6 g7 hix hiy hb1 hb2 hbW hvW hv1 hzW
  rintro W3 ⟨⟨e0, e1, e2, e3, e4, e5, e6, e7⟩, hix, hiy, hz3, hb3W⟩
  have hv3 := hv.keep hb3W
  go_wp2_with fail
  go_loopw [5, 6] (fun s i wr => ∃ (k : Nat) (S : Int), i = .int .i64 k ∧ s = .int .i64 S ∧ k ≤ X.length ∧ (0 ≤ S ∧ S ≤ 60000000000 * (k : Int)) ∧ Hid (refArea b = S + chain (stripA b.defects b.width) (X.drop k)) ∧ Below W3.heap.size W3 wr) (fun _ i _ => X.length - (intOf i).toNat)
  case atStart => exact ⟨0, 0, rfl, rfl, Nat.zero_le _, by simp, HRA, Below.refl _ _⟩
  case round =>
    clear HRA
    obtain ⟨k, S, rfl, rfl, hk, hS, HRA, hbr⟩ := hrel
    have hszr := hbr.size
    by_cases hlt : k + 1 < X.length
    · have hlt0 : k < X.length := by omega
      obtain ⟨bx, ox, hax, hbx, cx0⟩ := hix.at' hlt0
      have cx1 := (by rw [hax] at hix; exact hix.cell hlt : W3.cell? ⟨bx, ox + (k + 1), none⟩ = some (.int .i64 X[k + 1]))
      subst hax
      have hxb0 := HXB.out _ (List.getElem_mem hlt0)
      have hxb1 := HXB.out _ (List.getElem_mem hlt)
      have hxlt : X[k] < X[k + 1] := List.pairwise_iff_getElem.1 HXA.out _ _ _ _ (by omega)
      have HN := Lib.hid (chain_step hlt HRA.out)
      have HT := Lib.hid (show S + stripA b.defects b.width X[k] X[k + 1] = S + chain (cellA b.defects X[k] X[k + 1]) (Y.drop 0) by rw [← HCS.out X[k] X[k + 1], List.drop_zero])
      have hTb := stripA_bd (ds := b.defects) hxb0.1 hxlt hxb1.2 (by omega : 0 ≤ b.width) hw2
      clear HRA
      generalize X[k] = x at *
      generalize X[k + 1] = x' at *
      generalize stripA b.defects b.width x x' = T at *
      have hki : (k : Int) + 1 < (X.length : Int) := by omega
      have hki0 : (k : Int) < (X.length : Int) := by omega
      have hkn : ((k : Int) + 1).toNat = k + 1 := by omega
      have hkw : IntKind.i64.wrap ((k : Int) + 1) = (k : Int) + 1 := IntWalk.i64_in _ (by omega)
      have hk0 : (0 : Int) ≤ (k : Int) + 1 := by omega
      have hk00 : (0 : Int) ≤ (k : Int) := by omega
      go_wp2_with fail
      go_loopw [5, 7] (fun s j wr => ∃ (m : Nat) (S' : Int), j = .int .i64 m ∧ s = .int .i64 S' ∧ m ≤ Y.length ∧ (0 ≤ S' ∧ S' ≤ S + 60000000000 * (m : Int)) ∧ Hid (S + T = S' + chain (cellA b.defects x x') (Y.drop m)) ∧ Below W3.heap.size W3 wr) (fun _ j _ => Y.length - (intOf j).toNat)
      case atStart => exact ⟨0, S, rfl, rfl, Nat.zero_le _, by omega, HT, hbr⟩
      case round =>
        clear HT hbr hszr
        obtain ⟨m, S', rfl, rfl, hm, hS', HT, hbr⟩ := hrel
        have hszr := hbr.size
        by_cases hmt : m + 1 < Y.length
        · have hmt0 : m < Y.length := by omega
          obtain ⟨by_, oy, hay, hby, cy0⟩ := (hiy.keep hbr).at' hmt0
          have cy1 := (by rw [hay] at hiy; exact (hiy.keep hbr).cell hmt : wr.cell? ⟨by_, oy + (m + 1), none⟩ = some (.int .i64 Y[m + 1]))
          subst hay
          have cx0 := cell_keep hbr cx0
          have cx1 := cell_keep hbr cx1
          have hbx : bx < wr.heap.size := by omega
          have g0 := cell_keep hbr e0
          have g1 := cell_keep hbr e1
          have g2 := cell_keep hbr e2
          have g3 := cell_keep hbr e3
          have g4 := cell_keep hbr e4
          have g5 := cell_keep hbr e5
          have g6 := cell_keep hbr e6
          have g7 := cell_keep hbr e7
          have hzr : w.heap.size < wr.heap.size := by omega
          have hvr := hv3.keep hbr
          have hyb0 := HYB.out _ (List.getElem_mem hmt0)
          have hyb1 := HYB.out _ (List.getElem_mem hmt)
          have hylt : Y[m] < Y[m + 1] := List.pairwise_iff_getElem.1 HYA.out _ _ _ _ (by omega)
          have HN2 := Lib.hid (chain_step hmt HT.out)
          obtain ⟨⟨hc1, hc2⟩, hc3, hc4⟩ := cellA_bd (ds := b.defects) hxb0.1 hxlt hxb1.2 hyb0.1 hylt hyb1.2
          clear HT
          have hmi : (m : Int) + 1 < (Y.length : Int) := by omega
          have hmi0 : (m : Int) < (Y.length : Int) := by omega
          have hmn : ((m : Int) + 1).toNat = m + 1 := by omega
          have hmw : IntKind.i64.wrap ((m : Int) + 1) = (m : Int) + 1 := IntWalk.i64_in _ (by omega)
          have hm0 : (0 : Int) ≤ (m : Int) + 1 := by omega
          have hm00 : (0 : Int) ≤ (m : Int) := by omega
          cases hsd : soundB b.defects ⟨x, Y[m], x', Y[m + 1]⟩
          · have HC := Lib.hid (show cellA b.defects x x' Y[m] Y[m + 1] = (x' - x) * (Y[m + 1] - Y[m]) by unfold cellA; rw [hsd]; rfl)
            have HSD := Lib.hid hsd
            rw [HC.out] at HN2
            clear hsd HC hc3 hc4
            generalize Y[m] = y at *
            generalize Y[m + 1] = y' at *
            go_wp2_with fail
            refine wp_region_grew (by kernel_rfl) (by kernel_rfl) ?_
            repeat (first
              | go_big_quiet_step ((go_at_call 68; exact grew_of (isSound_is b ⟨x, y, x', y'⟩ a c _ HSD.out (hvr.keep (grewB (Below.refl _ _) (Nat.le_refl _) _)) (by omega))))
              | quiet_step ((go_at_call 68; exact grew_of (isSound_is b ⟨x, y, x', y'⟩ a c _ HSD.out (hvr.keep (grewB (Below.refl _ _) (Nat.le_refl _) _)) (by omega)))))
            refine wpQuiet_nil ?_
            rintro _ ⟨gg, rfl⟩
            have hbr6 : Below W3.heap.size W3 (grew wr gg) := grewB hbr (by omega) _
            have d0 := cell_keep (grew_below wr gg) cx0
            have d1 := cell_keep (grew_below wr gg) cx1
            have d2 := cell_keep (grew_below wr gg) cy0
            have d3 := cell_keep (grew_below wr gg) cy1
            clear cx0 cx1 cy0 cy1 g0 g1 g2 g3 g4 g5 g6 g7 hvr hzr hbr HSD
            generalize grew wr gg = w6 at *
            have hbx6 : bx < w6.heap.size := by simpa using block_lt_of_cell d0
            have hby6 : by_ < w6.heap.size := by simpa using block_lt_of_cell d2
            have v1 : IntKind.i64.wrap (x' - x) = x' - x := IntWalk.i64_in _ (by omega)
            have v2 : IntKind.i64.wrap (y' - y) = y' - y := IntWalk.i64_in _ (by omega)
            have v3 : IntKind.i64.wrap ((x' - x) * (y' - y)) = (x' - x) * (y' - y) := IntWalk.i64_in _ (by omega)
            have v4 : IntKind.i64.wrap (S' + (x' - x) * (y' - y)) = S' + (x' - x) * (y' - y) := IntWalk.i64_in _ (by omega)
            go_wp2_with fail
            go_quiet (fail)
            rename_i nq
            have hbr7 := below_drewN hbr6 nq
            clear d0 d1 d2 d3 v1 v2 v3 v4 hbr6
            go_wp2_with fail
            go_roundw
            case rel => exact ⟨m + 1, S' + (x' - x) * (y' - y), by go_num, rfl, by omega, by omega, HN2, hbr7⟩
            case measure => simp [intOf]; omega
          · have HC := Lib.hid (show cellA b.defects x x' Y[m] Y[m + 1] = 0 by unfold cellA; rw [if_pos hsd])
            have HSD := Lib.hid hsd
            rw [HC.out, Int.add_zero] at HN2
            clear hsd HC hc3 hc4 hc1 hc2
            generalize Y[m] = y at *
            generalize Y[m + 1] = y' at *
            go_wp2_with fail
            refine wp_region_grew (by kernel_rfl) (by kernel_rfl) ?_
            repeat (first
              | go_big_quiet_step ((go_at_call 68; exact grew_of (isSound_is b ⟨x, y, x', y'⟩ a c _ HSD.out (hvr.keep (grewB (Below.refl _ _) (Nat.le_refl _) _)) (by omega))))
              | quiet_step ((go_at_call 68; exact grew_of (isSound_is b ⟨x, y, x', y'⟩ a c _ HSD.out (hvr.keep (grewB (Below.refl _ _) (Nat.le_refl _) _)) (by omega)))))
            refine wpQuiet_nil ?_
            rintro _ ⟨gg, rfl⟩
            go_wp2_with fail
            go_roundw
            case rel => exact ⟨m + 1, S', by go_num, rfl, by omega, by omega, HN2, grewB hbr (by omega) _⟩
            case measure => simp [intOf]; omega
        · have HE := Lib.hid (chain_end (by omega) HT.out)
          have hmi : ¬ (m : Int) + 1 < (Y.length : Int) := by omega
          clear HT
          go_wp2_with fail
          go_roundw
          case rel => exact ⟨k + 1, S', by go_num, rfl, by omega, by rw [← HE.out]; omega, by rw [← HE.out]; exact HN, hbr⟩
          case measure => simp [intOf]; omega
    · have HE := Lib.hid (chain_end (by omega) HRA.out)
      have hkn : ¬ (k : Int) + 1 < (X.length : Int) := by omega
      clear HRA
      go_wp2_with fail
      go_ret
      exact ⟨ret_int (by rw [HE.out]), hb3W.trans (hbr.mono (by omega))⟩
end Go.Proofs.Ythhchnhidhgccaa
