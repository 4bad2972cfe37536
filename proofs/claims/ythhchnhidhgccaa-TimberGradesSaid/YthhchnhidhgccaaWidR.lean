/- What the reference's Widest returns. -/
import Derived.Test.YthhchnhidhgccaaSound
set_option linter.unusedVariables false
set_option linter.unusedSimpArgs false
namespace Go.Proofs.Ythhchnhidhgccaa
open Go Go.RowKit

theorem IntsV.at' {w : World} {a : Option Addr} {l : List Int} (h : IntsV w a l) {k : Nat} (hk : k < l.length) : ∃ b off, a = some ⟨b, off, none⟩ ∧ b < w.heap.size ∧ w.cell? ⟨b, off + k, none⟩ = some (.int .i64 l[k]) := by
  obtain ⟨b, off, ha, hc⟩ := h.at_ hk
  exact ⟨b, off, ha, by simpa using block_lt_of_cell hc, hc⟩
theorem IntsV.cell {w : World} {b o : Nat} {l : List Int} (h : IntsV w (some ⟨b, o, none⟩) l) {k : Nat} (hk : k < l.length) : w.cell? ⟨b, o + k, none⟩ = some (.int .i64 l[k]) := by
  obtain ⟨b', off, ha, hc⟩ := h.at_ hk
  injection ha with ha
  injection ha with hb ho
  subst hb ho
  exact hc
theorem isSound_is (b : Board) (r : Rect) (a : Option Addr) (c : Nat) (w : World) {v : Bool} (h : soundB b.defects r = v) (hv : Rects.V w a b.defects) (hl : b.defects.length ≤ 9223372036854775807) :
    Calls Try.prog 68 #[.agg #[.string b.name, .string b.species, .int .i64 b.length, .int .i64 b.width, .int .i64 b.thick, .int .i64 b.cut, .int .i64 b.moisture, .slice a b.defects.length c], .agg #[.int .i64 r.x1, .int .i64 r.y1, .int .i64 r.x2, .int .i64 r.y2]] w fun e w' => e = .returned (.bool v) ∧ Below w.heap.size w w' := by
  subst h; exact isSound_any b r a c w hv hl
theorem refX_skip {ds : List Rect} {l len : Int} {ys xs : List Int} {s r : Rect × Bool} {i : Nat} (hi : i < xs.length) (h : r = (xs.drop i).foldl (refX ds l len ys) s) (hx : l < xs[i] + len) : r = (xs.drop (i + 1)).foldl (refX ds l len ys) s := by
  rw [fold_step hi h]
  congr 1
  unfold refX
  rw [if_pos hx]
theorem refX_take {ds : List Rect} {l len : Int} {ys xs : List Int} {s r : Rect × Bool} {i : Nat} (hi : i < xs.length) (h : r = (xs.drop i).foldl (refX ds l len ys) s) (hx : ¬ l < xs[i] + len) : r = (xs.drop (i + 1)).foldl (refX ds l len ys) (refMid ds len xs[i] ys s) := by
  rw [fold_step hi h]
  congr 1
  unfold refX
  rw [if_neg hx]
theorem refMid_step {ds : List Rect} {len x : Int} {ys : List Int} {s r : Rect × Bool} {k : Nat} (hk : k < ys.length) (h : r = refMid ds len x (ys.drop k) s) : r = refMid ds len x (ys.drop (k + 1)) ((ys.drop (k + 1)).foldl (refJ ds len x ys[k]) s) := by
  rw [h, List.drop_eq_getElem_cons hk, refMid]
theorem refMid_end {ds : List Rect} {len x : Int} {ys : List Int} {s r : Rect × Bool} {k : Nat} (hk : ys.length ≤ k) (h : r = refMid ds len x (ys.drop k) s) : r = s := by
  rw [h, List.drop_of_length_le hk]; rfl

set_option maxRecDepth 100000 in
set_option maxHeartbeats 4000000 in
theorem refWidest_any (b : Board) (len : Int) (a : Option Addr) (c : Nat) (w : World) (hv : Rects.V w a b.defects) (hl : b.defects.length ≤ 60) (hb : DefsIn b) (hb2 : b.length ≤ 600000) (hw2 : b.width ≤ 600000) (hb3 : 1 ≤ len) (hb4 : len ≤ 600000) :
    Calls Try.prog 35 #[.agg #[.string b.name, .string b.species, .int .i64 b.length, .int .i64 b.width, .int .i64 b.thick, .int .i64 b.cut, .int .i64 b.moisture, .slice a b.defects.length c], .int .i64 len] w fun e w' => e = .returned (.tuple #[.agg #[.int .i64 (refWid b len).1.x1, .int .i64 (refWid b len).1.y1, .int .i64 (refWid b len).1.x2, .int .i64 (refWid b len).1.y2], .bool (refWid b len).2]) ∧ Below w.heap.size w w' := by
  have HXB := Lib.hid (show ∀ x ∈ lineXs b, 0 ≤ x ∧ x ≤ 600000 by
    intro v hv
    have := hb.len
    rcases lineXs_mem.1 hv with rfl | rfl | ⟨d, hd, h⟩
    · omega
    · omega
    · have := hb.ins d hd; omega)
  have HYB := Lib.hid (show ∀ y ∈ lineYs b, 0 ≤ y ∧ y ≤ 600000 by
    intro v hv
    have := hb.wid
    rcases lineYs_mem.1 hv with rfl | rfl | ⟨d, hd, h⟩
    · omega
    · omega
    · have := hb.ins d hd; omega)
  have hLX : (lineXs b).length ≤ 1000 := by
    have := lineK_len false b b.defects.length (Nat.le_refl _)
    rw [lineK_all] at this
    simp at this; omega
  have hLY : (lineYs b).length ≤ 1000 := by
    have := lineK_len true b b.defects.length (Nat.le_refl _)
    rw [lineK_all] at this
    simp at this; omega
  have HR := Lib.hid (show refWid b len = ((lineXs b).drop 0).foldl (refX b.defects b.length len (lineYs b)) (⟨0, 0, 0, 0⟩, false) from rfl)
  have hbl : 1 ≤ b.length := hb.len
  clear hb
  have HLX := Lib.hid (fun w hv => linesR_any b a c false w hv hl)
  have HLY := Lib.hid (fun w hv => linesR_any b a c true w hv hl)
  simp only [Bool.false_eq_true, if_false, if_true] at HLX HLY
  generalize lineXs b = X at *
  generalize lineYs b = Y at *
  go_enter Try.func35, Try.ntmps35
  go_upto_region 1 with fail
  refine gen_world (fun W => (W.cell? ⟨w.heap.size, 0, none⟩ = some (.string b.name) ∧ W.cell? ⟨w.heap.size, 1, none⟩ = some (.string b.species) ∧ W.cell? ⟨w.heap.size, 2, none⟩ = some (.int .i64 b.length) ∧ W.cell? ⟨w.heap.size, 3, none⟩ = some (.int .i64 b.width) ∧ W.cell? ⟨w.heap.size, 4, none⟩ = some (.int .i64 b.thick) ∧ W.cell? ⟨w.heap.size, 5, none⟩ = some (.int .i64 b.cut) ∧ W.cell? ⟨w.heap.size, 6, none⟩ = some (.int .i64 b.moisture) ∧ W.cell? ⟨w.heap.size, 7, none⟩ = some (.slice a b.defects.length c)) ∧
    RectBlk W (w.heap.size + 1) ⟨0, 0, 0, 0⟩ ∧ Below w.heap.size w W) ?_ ?_
  · refine ⟨⟨by simp [go_sem], by simp [go_sem], by simp [go_sem], by simp [go_sem], by simp [go_sem], by simp [go_sem], by simp [go_sem], by simp [go_sem]⟩, ?_, ((Below.refl _ _).alloc (Nat.le_refl _) _).alloc (by simp) _⟩
    have h := RectBlk.new (w.alloc (.cells #[.string b.name, .string b.species, .int .i64 b.length, .int .i64 b.width, .int .i64 b.thick, .int .i64 b.cut, .int .i64 b.moisture, .slice a b.defects.length c] 25)) ⟨0, 0, 0, 0⟩
    simpa using h
  rintro W ⟨⟨e0, e1, e2, e3, e4, e5, e6, e7⟩, hres, hbW⟩
  have hzW := hres.lt
  have hvW := hv.keep hbW
  go_region_held3 (fun w' => w'.cell? ⟨w.heap.size, 0, none⟩ = some (.string b.name) ∧ w'.cell? ⟨w.heap.size, 1, none⟩ = some (.string b.species) ∧ w'.cell? ⟨w.heap.size, 2, none⟩ = some (.int .i64 b.length) ∧ w'.cell? ⟨w.heap.size, 3, none⟩ = some (.int .i64 b.width) ∧ w'.cell? ⟨w.heap.size, 4, none⟩ = some (.int .i64 b.thick) ∧ w'.cell? ⟨w.heap.size, 5, none⟩ = some (.int .i64 b.cut) ∧ w'.cell? ⟨w.heap.size, 6, none⟩ = some (.int .i64 b.moisture) ∧ w'.cell? ⟨w.heap.size, 7, none⟩ = some (.slice a b.defects.length c)) (go_keep)
    (first
      | (go_at_call 86; (with_reducible refine (HLX.out _ hvW.drew).mono ?_); rintro e w1 ⟨ax, cx, rfl, hix, hlx, hcx, hb1⟩; have f0 := cell_keep hb1 e0; have f1 := cell_keep hb1 e1; have f2 := cell_keep hb1 e2; have f3 := cell_keep hb1 e3; have f4 := cell_keep hb1 e4; have f5 := cell_keep hb1 e5; have f6 := cell_keep hb1 e6; have f7 := cell_keep hb1 e7; have hv1 := hvW.drew.keep hb1)
      | (go_at_call 86; (with_reducible refine (HLY.out _ hv1).mono ?_); rintro e w2 ⟨ay, cy, rfl, hiy, hly, hcy, hb2⟩; have g0 := cell_keep hb2 f0; have g1 := cell_keep hb2 f1; have g2 := cell_keep hb2 f2; have g3 := cell_keep hb2 f3; have g4 := cell_keep hb2 f4; have g5 := cell_keep hb2 f5; have g6 := cell_keep hb2 f6; have g7 := cell_keep hb2 f7))
  go_upto_region 2 with fail
  refine gen_world (fun W => (W.cell? ⟨w.heap.size, 0, none⟩ = some (.string b.name) ∧ W.cell? ⟨w.heap.size, 1, none⟩ = some (.string b.species) ∧ W.cell? ⟨w.heap.size, 2, none⟩ = some (.int .i64 b.length) ∧ W.cell? ⟨w.heap.size, 3, none⟩ = some (.int .i64 b.width) ∧ W.cell? ⟨w.heap.size, 4, none⟩ = some (.int .i64 b.thick) ∧ W.cell? ⟨w.heap.size, 5, none⟩ = some (.int .i64 b.cut) ∧ W.cell? ⟨w.heap.size, 6, none⟩ = some (.int .i64 b.moisture) ∧ W.cell? ⟨w.heap.size, 7, none⟩ = some (.slice a b.defects.length c)) ∧ RectBlk W (w.heap.size + 1) ⟨0, 0, 0, 0⟩ ∧ IntsV W ax X ∧ IntsV W ay Y ∧ w.heap.size + 1 < W.heap.size ∧ Below w.heap.size w W) ?_ ?_
  · have hbA := (hbW.drew.trans (hb1.mono (by simp; omega)))
    have hbB := hbA.trans (hb2.mono hbA.size)
    have hrA := (RectBlk.keep hb2 (RectBlk.keep hb1 (show RectBlk W.drew (w.heap.size + 1) ⟨0, 0, 0, 0⟩ from hres)))
    exact ⟨⟨g0, g1, g2, g3, g4, g5, g6, g7⟩, hrA, hix.keep hb2, hiy, hrA.lt, hbB⟩
  clear e0 e1 e2 e3 e4 e5 e6 e7 f0 f1 f2 f3 f4 f5 f6 f7 g0 g1 g2 g3 g4 g5 g6 g7 hix hiy hb1 hb2 hres hbW hvW hv1 hzW
  rintro W3 ⟨⟨e0, e1, e2, e3, e4, e5, e6, e7⟩, hres, hix, hiy, hz3, hb3W⟩
  go_wp2_with fail
  obtain ⟨H, hH⟩ : ∃ H, H = W3.heap.size := ⟨_, rfl⟩
  have hBst0 : RectBlk (W3.alloc (.cells #[.int .i64 0, .int .i64 0, .int .i64 0, .int .i64 0] 55)) H ⟨0, 0, 0, 0⟩ := by rw [hH]; exact RectBlk.new W3 ⟨0, 0, 0, 0⟩
  have hB0 : Below H W3 (W3.alloc (.cells #[.int .i64 0, .int .i64 0, .int .i64 0, .int .i64 0] 55)) := by rw [hH]; exact (Below.refl _ _).alloc (Nat.le_refl _) _
  have hHz : w.heap.size + 1 < H := by omega
  simp only [← hH]
  have HH := Lib.hid hH
  have hH1 : H ≤ W3.heap.size := by omega
  have hH2 : W3.heap.size ≤ H := by omega
  clear hH
  go_loopw [9, 10] (fun f i wr => ∃ (k : Nat) (s : Rect × Bool), k ≤ X.length ∧ i = .int .i64 k ∧ f = .bool s.2 ∧ Hid (refWid b len = (X.drop k).foldl (refX b.defects b.length len Y) s) ∧ RectBlk wr H s.1 ∧ Below H W3 wr ∧ (0 ≤ s.1.y1 ∧ s.1.y1 ≤ 600000 ∧ 0 ≤ s.1.y2 ∧ s.1.y2 ≤ 600000)) (fun _ i _ => X.length - (intOf i).toNat)
  case atStart => exact ⟨0, _, Nat.zero_le _, rfl, rfl, HR, hBst0, hB0, by simp⟩
  case round =>
    clear hBst0 hB0 HR
    obtain ⟨k, s, hk, rfl, rfl, HR, hBst, hbr, hsb⟩ := hrel
    have hbr' : Below W3.heap.size W3 wr := by rw [← HH.out]; exact hbr
    have hszr := hbr.size
    have hlH := hBst.lt
    by_cases hlt : k < X.length
    · obtain ⟨bx, ox, hax, hbx, cx0⟩ := (hix.keep hbr').at' hlt
      have f2 := cell_keep hbr' e2
      have hz4 : w.heap.size < wr.heap.size := by omega
      have hxb := HXB.out _ (List.getElem_mem hlt)
      have hki : (k : Int) < (X.length : Int) := by omega
      by_cases hbr2 : b.length < X[k] + len
      · have HN := Lib.hid (refX_skip hlt HR.out hbr2)
        generalize hx0 : X[k] = x at *
        clear hx0 HR
        subst hax
        go_wp2_with fail
        go_quiet (fail)
        go_wp2_with fail
        go_roundw
        case rel => exact ⟨k + 1, s, by omega, by go_num, rfl, HN, hBst, below_drewN hbr _, hsb⟩
        case measure => simp [intOf]; omega
      · have HN := Lib.hid (refX_take hlt HR.out hbr2)
        generalize hx0 : X[k] = x at *
        have HX0 := Lib.hid hx0
        clear hx0 HR
        subst hax
        go_wp2_with fail
        go_quiet (fail)
        rename_i nq
        go_wp2_with fail
        have hbrq := below_drewN hbr nq
        have hBq : RectBlk (wr.drewN nq) H s.1 := hBst
        clear hbr hBst hbr' cx0 f2 hlH
        obtain ⟨wo, rfl⟩ : ∃ wo : World, wo = wr := ⟨_, rfl⟩
        go_loopw [9, 11] (fun f i wr => ∃ (j : Nat) (t : Rect × Bool), j ≤ Y.length ∧ i = .int .i64 j ∧ f = .bool t.2 ∧ Hid (refMid b.defects len x Y s = refMid b.defects len x (Y.drop j) t) ∧ RectBlk wr H t.1 ∧ Below H W3 wr ∧ (0 ≤ t.1.y1 ∧ t.1.y1 ≤ 600000 ∧ 0 ≤ t.1.y2 ∧ t.1.y2 ≤ 600000)) (fun _ i _ => Y.length - (intOf i).toNat)
        case atStart => exact ⟨0, s, Nat.zero_le _, rfl, rfl, Lib.hid rfl, hBq, hbrq, hsb⟩
        case round =>
          clear hBq hbrq hsb
          obtain ⟨j, t, hj, rfl, rfl, HM, hBst, hbr, htb⟩ := hrel
          have hszr2 := hbr.size
          by_cases hlt2 : j < Y.length
          · have HM' := Lib.hid (refMid_step hlt2 HM.out)
            have hyb := HYB.out _ (List.getElem_mem hlt2)
            obtain ⟨by_, oy, hay, -⟩ := hiy.at' hlt2
            subst hay
            have hji : (j : Int) < (Y.length : Int) := by omega
            generalize hy0 : Y[j] = y at *
            have HY0 := Lib.hid hy0
            clear hy0 HM
            go_wp2_with fail
            obtain ⟨wp, rfl⟩ : ∃ wp : World, wp = wr := ⟨_, rfl⟩
            go_loopw [9, 12] (fun f i wr => ∃ (m : Nat) (q : Rect × Bool), m ≤ Y.length ∧ j + 1 ≤ m ∧ i = .int .i64 m ∧ f = .bool q.2 ∧ Hid ((Y.drop (j + 1)).foldl (refJ b.defects len x y) t = (Y.drop m).foldl (refJ b.defects len x y) q) ∧ RectBlk wr H q.1 ∧ Below H W3 wr ∧ (0 ≤ q.1.y1 ∧ q.1.y1 ≤ 600000 ∧ 0 ≤ q.1.y2 ∧ q.1.y2 ≤ 600000)) (fun _ i _ => Y.length - (intOf i).toNat)
            case atStart => exact ⟨j + 1, t, by omega, Nat.le_refl _, by go_num, rfl, Lib.hid rfl, hBst, hbr, htb⟩
            case round =>
              clear hBst hbr htb
              obtain ⟨m, ⟨qr, qf⟩, hm, hjm, rfl, rfl, HQ, hBst, hbr, hqb⟩ := hrel
              simp only at hBst hqb
              have hszr3 := hbr.size
              have hlH := hBst.lt
              by_cases hlt3 : m < Y.length
              · have hbr' : Below W3.heap.size W3 wr := by rw [← HH.out]; exact hbr
                have hzb := HYB.out _ (List.getElem_mem hlt3)
                have hmi : (m : Int) < (Y.length : Int) := by omega
                have xc := (hix.keep hbr').cell hlt
                have yc := (hiy.keep hbr').cell hlt2
                have zc := (hiy.keep hbr').cell hlt3
                rw [HX0.out] at xc
                rw [HY0.out] at yc
                have HQ' := Lib.hid (fold_step hlt3 HQ.out)
                generalize hz0 : Y[m] = z at *
                have HZ0 := Lib.hid hz0
                clear hz0 HQ
                have hxbk := block_lt_of_cell xc
                have hybk := block_lt_of_cell yc
                simp only at hxbk hybk
                go_wp2_with fail
                have hwr : IntKind.i64.wrap (x + len) = x + len := IntWalk.i64_in _ (by omega)
                go_region_held3 (fun w' => w'.cell? ⟨bx, ox + k, none⟩ = some (.int .i64 x) ∧ w'.cell? ⟨by_, oy + j, none⟩ = some (.int .i64 y) ∧ w'.cell? ⟨by_, oy + m, none⟩ = some (.int .i64 z)) (go_keep) (fail)
                clear hwr
                go_upto_region 14 with fail
                have f0 := cell_keep hbr' e0
                have f1 := cell_keep hbr' e1
                have f2 := cell_keep hbr' e2
                have f3 := cell_keep hbr' e3
                have f4 := cell_keep hbr' e4
                have f5 := cell_keep hbr' e5
                have f6 := cell_keep hbr' e6
                have f7 := cell_keep hbr' e7
                have hz9 : w.heap.size < wr.heap.size := by omega
                have hz10 : H < wr.heap.size := hlH
                obtain ⟨t0, t1, t2, t3⟩ := hBst.cells
                refine gen_world (fun W => (W.cell? ⟨w.heap.size, 0, none⟩ = some (.string b.name) ∧ W.cell? ⟨w.heap.size, 1, none⟩ = some (.string b.species) ∧ W.cell? ⟨w.heap.size, 2, none⟩ = some (.int .i64 b.length) ∧ W.cell? ⟨w.heap.size, 3, none⟩ = some (.int .i64 b.width) ∧ W.cell? ⟨w.heap.size, 4, none⟩ = some (.int .i64 b.thick) ∧ W.cell? ⟨w.heap.size, 5, none⟩ = some (.int .i64 b.cut) ∧ W.cell? ⟨w.heap.size, 6, none⟩ = some (.int .i64 b.moisture) ∧ W.cell? ⟨w.heap.size, 7, none⟩ = some (.slice a b.defects.length c)) ∧ (W.cell? ⟨by_, oy + j, none⟩ = some (.int .i64 y) ∧ W.cell? ⟨by_, oy + m, none⟩ = some (.int .i64 z)) ∧
                  RectBlk W wr.heap.size ⟨x, y, x + len, z⟩ ∧ RectBlk W H qr ∧ Below H W3 W) ?_ ?_
                · exact ⟨⟨by simp [go_sem, *], by simp [go_sem, *], by simp [go_sem, *], by simp [go_sem, *], by simp [go_sem, *], by simp [go_sem, *], by simp [go_sem, *], by simp [go_sem, *]⟩, ⟨by simp [go_sem, *], by simp [go_sem, *]⟩, RectBlk.new wr ⟨x, y, x + len, z⟩, hBst.alloc _, (hbr.alloc (by omega) _).drew⟩
                clear f0 f1 f2 f3 f4 f5 f6 f7 t0 t1 t2 t3 xc yc zc hBst hbr hbr'
                generalize hR : wr.heap.size = R at *
                clear hR
                rintro W5 ⟨⟨f0, f1, f2, f3, f4, f5, f6, f7⟩, ⟨yc, zc⟩, hRr, hBst, hbr⟩
                have hbr' : Below W3.heap.size W3 W5 := by rw [← HH.out]; exact hbr
                obtain ⟨r0, r1, r2, r3⟩ := hRr.cells
                obtain ⟨t0, t1, t2, t3⟩ := hBst.cells
                have hv5 := hv.keep (hb3W.trans (hbr'.mono hb3W.size))
                have z1 := hRr.lt
                have z2 := hBst.lt
                have z3 := block_lt_of_cell f0
                have z4 := block_lt_of_cell yc
                simp only at z3 z4
                have HJ := Lib.hid (show refJ b.defects len x y (qr, qf) z = if soundB b.defects ⟨x, y, x + len, z⟩ = true ∧ (qf = false ∨ qr.y2 - qr.y1 < z - y) then (⟨x, y, x + len, z⟩, true) else (qr, qf) from rfl)
                have hHR : H < R := hz10
                cases hsd : soundB b.defects ⟨x, y, x + len, z⟩
                · have HSD := Lib.hid hsd
                  rw [hsd] at HJ
                  clear hsd
                  refine wp_region_grew (by kernel_rfl) (by kernel_rfl) ?_
                  repeat (first
                    | go_big_quiet_step ((go_at_call 68; exact grew_of (isSound_is b ⟨x, y, x + len, z⟩ a c _ HSD.out (hv5.keep (grewB (Below.refl _ _) (Nat.le_refl _) _)) (by omega))))
                    | quiet_step ((go_at_call 68; exact grew_of (isSound_is b ⟨x, y, x + len, z⟩ a c _ HSD.out (hv5.keep (grewB (Below.refl _ _) (Nat.le_refl _) _)) (by omega)))))
                  refine wpQuiet_nil ?_
                  rintro _ ⟨g, rfl⟩
                  go_wp2_with fail
                  go_roundw
                  case rel => exact ⟨m + 1, (qr, qf), by omega, by omega, by go_num, rfl, Lib.hid (by rw [HQ'.out, HJ.out]; simp), RectBlk.keep (grew_below _ _) hBst, grewB hbr (by omega) _, hqb⟩
                  case measure => simp [intOf]; omega
                · have HSD := Lib.hid hsd
                  rw [hsd] at HJ
                  clear hsd
                  cases qf
                  · refine wp_region_grew (by kernel_rfl) (by kernel_rfl) ?_
                    repeat (first
                      | go_big_quiet_step ((go_at_call 68; exact grew_of (isSound_is b ⟨x, y, x + len, z⟩ a c _ HSD.out (hv5.keep (grewB (Below.refl _ _) (Nat.le_refl _) _)) (by omega))))
                      | quiet_step ((go_at_call 68; exact grew_of (isSound_is b ⟨x, y, x + len, z⟩ a c _ HSD.out (hv5.keep (grewB (Below.refl _ _) (Nat.le_refl _) _)) (by omega)))))
                    refine wpQuiet_nil ?_
                    rintro _ ⟨g, rfl⟩
                    have hBg : RectBlk (grew W5 g) H qr := RectBlk.keep (grew_below _ _) hBst
                    have hRg : RectBlk (grew W5 g) R ⟨x, y, x + len, z⟩ := RectBlk.keep (grew_below _ _) hRr
                    have hlg : Below H W3 (grew W5 g) := grewB hbr (by omega) _
                    clear r0 r1 r2 r3 t0 t1 t2 t3 f0 f1 f2 f3 f4 f5 f6 f7 yc zc
                    generalize grew W5 g = W6 at *
                    have hset := hBg.setAll ⟨x, y, x + len, z⟩
                    have hlow : Below H W3 ((((W6.setCell ⟨H, 0, none⟩ (.int .i64 x)).setCell ⟨H, 1, none⟩ (.int .i64 y)).setCell ⟨H, 2, none⟩ (.int .i64 (x + len))).setCell ⟨H, 3, none⟩ (.int .i64 z)) := (((hlg.setCell (by simp) _).setCell (by simp) _).setCell (by simp) _).setCell (by simp) _
                    obtain ⟨r0, r1, r2, r3⟩ := hRg.cells
                    obtain ⟨t0, t1, t2, t3⟩ := hBg.cells
                    have p0 := hBg.frozen 0
                    have p1 := hBg.frozen 1
                    have p2 := hBg.frozen 2
                    have p3 := hBg.frozen 3
                    go_wp2_with fail
                    go_roundw
                    case rel => exact ⟨m + 1, (⟨x, y, x + len, z⟩, true), by omega, by omega, by go_num, rfl, Lib.hid (by rw [HQ'.out, HJ.out]; simp), hset, hlow, by simp only; omega⟩
                    case measure => simp [intOf]; omega
                  · by_cases hcmp : qr.y2 - qr.y1 < z - y
                    · refine wp_region_grew (by kernel_rfl) (by kernel_rfl) ?_
                      repeat (first
                        | go_big_quiet_step ((go_at_call 68; exact grew_of (isSound_is b ⟨x, y, x + len, z⟩ a c _ HSD.out (hv5.keep (grewB (Below.refl _ _) (Nat.le_refl _) _)) (by omega))))
                        | quiet_step ((go_at_call 68; exact grew_of (isSound_is b ⟨x, y, x + len, z⟩ a c _ HSD.out (hv5.keep (grewB (Below.refl _ _) (Nat.le_refl _) _)) (by omega)))))
                      refine wpQuiet_nil ?_
                      rintro _ ⟨g, rfl⟩
                      have hBg : RectBlk (grew W5 g) H qr := RectBlk.keep (grew_below _ _) hBst
                      have hRg : RectBlk (grew W5 g) R ⟨x, y, x + len, z⟩ := RectBlk.keep (grew_below _ _) hRr
                      have hlg : Below H W3 (grew W5 g) := grewB hbr (by omega) _
                      clear r0 r1 r2 r3 t0 t1 t2 t3 f0 f1 f2 f3 f4 f5 f6 f7 yc zc
                      generalize grew W5 g = W6 at *
                      have hset := hBg.setAll ⟨x, y, x + len, z⟩
                      have hlow : Below H W3 ((((W6.setCell ⟨H, 0, none⟩ (.int .i64 x)).setCell ⟨H, 1, none⟩ (.int .i64 y)).setCell ⟨H, 2, none⟩ (.int .i64 (x + len))).setCell ⟨H, 3, none⟩ (.int .i64 z)) := (((hlg.setCell (by simp) _).setCell (by simp) _).setCell (by simp) _).setCell (by simp) _
                      obtain ⟨r0, r1, r2, r3⟩ := hRg.cells
                      obtain ⟨t0, t1, t2, t3⟩ := hBg.cells
                      have p0 := hBg.frozen 0
                      have p1 := hBg.frozen 1
                      have p2 := hBg.frozen 2
                      have p3 := hBg.frozen 3
                      go_wp2_with fail
                      go_roundw
                      case rel => exact ⟨m + 1, (⟨x, y, x + len, z⟩, true), by omega, by omega, by go_num, rfl, Lib.hid (by rw [HQ'.out, HJ.out, if_pos ⟨rfl, .inr hcmp⟩]), hset, hlow, by simp only; omega⟩
                      case measure => simp [intOf]; omega
                    · refine wp_region_grew (by kernel_rfl) (by kernel_rfl) ?_
                      repeat (first
                        | go_big_quiet_step ((go_at_call 68; exact grew_of (isSound_is b ⟨x, y, x + len, z⟩ a c _ HSD.out (hv5.keep (grewB (Below.refl _ _) (Nat.le_refl _) _)) (by omega))))
                        | quiet_step ((go_at_call 68; exact grew_of (isSound_is b ⟨x, y, x + len, z⟩ a c _ HSD.out (hv5.keep (grewB (Below.refl _ _) (Nat.le_refl _) _)) (by omega)))))
                      refine wpQuiet_nil ?_
                      rintro _ ⟨g, rfl⟩
                      go_wp2_with fail
                      go_roundw
                      case rel => exact ⟨m + 1, (qr, true), by omega, by omega, by go_num, rfl, Lib.hid (by rw [HQ'.out, HJ.out, if_neg (by rintro ⟨-, h | h⟩; cases h; exact hcmp h)]), RectBlk.keep (grew_below _ _) hBst, grewB hbr (by omega) _, hqb⟩
                      case measure => simp [intOf]; omega
              · have HE := Lib.hid (fold_end (by omega) HQ.out)
                clear HQ
                go_wp2_with fail
                go_roundw
                case rel => exact ⟨j + 1, (qr, qf), by omega, by go_num, rfl, Lib.hid (by rw [← HE.out]; exact HM'.out), hBst, hbr, hqb⟩
                case measure => simp [intOf]; omega
          · have HE := Lib.hid (refMid_end (by omega) HM.out)
            clear HM
            go_wp2_with fail
            go_roundw
            case rel => exact ⟨k + 1, t, by omega, by go_num, rfl, Lib.hid (by rw [← HE.out]; exact HN.out), hBst, hbr, htb⟩
            case measure => simp [intOf]; omega
    · have hs := Lib.hid (fold_end (by omega) HR.out)
      obtain ⟨b0, b1, b2, b3⟩ := hBst.cells
      have hr4 : RectBlk wr (w.heap.size + 1) ⟨0, 0, 0, 0⟩ := RectBlk.keep hbr' hres
      obtain ⟨q0, q1, q2, q3⟩ := hr4.cells
      have p0 := hr4.frozen 0
      have p1 := hr4.frozen 1
      have p2 := hr4.frozen 2
      have p3 := hr4.frozen 3
      have hset := hr4.setAll s.1
      obtain ⟨g0, g1, g2, g3⟩ := hset.cells
      have hbel := (((((hb3W.trans (hbr.mono (by omega)))).setCell (p := ⟨w.heap.size + 1, 0, none⟩) (by simp) (.int .i64 s.1.x1)).setCell (p := ⟨w.heap.size + 1, 1, none⟩) (by simp) (.int .i64 s.1.y1)).setCell (p := ⟨w.heap.size + 1, 2, none⟩) (by simp) (.int .i64 s.1.x2)).setCell (p := ⟨w.heap.size + 1, 3, none⟩) (by simp) (.int .i64 s.1.y2)
      have HG0 := Lib.hid g0
      have HG1 := Lib.hid g1
      have HG2 := Lib.hid g2
      have HG3 := Lib.hid g3
      clear g0 g1 g2 g3 hset
      go_wp2_with fail
      have g0 := HG0.out
      have g1 := HG1.out
      have g2 := HG2.out
      have g3 := HG3.out
      exact bodyPost_ret (v := .tuple #[.agg #[.int .i64 s.1.x1, .int .i64 s.1.y1, .int .i64 s.1.x2, .int .i64 s.1.y2], .bool s.2]) (by simp [results, Try.results35, go_sem, g0, g1, g2, g3]) rfl ⟨by rw [hs.out], hbel⟩
end Go.Proofs.Ythhchnhidhgccaa
