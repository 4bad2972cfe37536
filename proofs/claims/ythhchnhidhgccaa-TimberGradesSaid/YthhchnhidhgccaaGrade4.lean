/- Grades: the program's GradeOf. -/
import Derived.Test.YthhchnhidhgccaaGrade3
set_option linter.unusedVariables false
set_option linter.unusedSimpArgs false
namespace Go.Proofs.Ythhchnhidhgccaa
open Go Go.RowKit

theorem new_none (w : World) (v u : Value) (t1 t2 : TypeId) {j : Nat} {B : Nat} (hB : B = w.heap.size + 1) : ((w.alloc (.cells #[v] t1)).alloc (.cells #[u] t2)).cell? ⟨B, j + 1, none⟩ = none := by
  subst hB
  have h := heap_alloc_new (w.alloc (.cells #[v] t1)) (.cells #[u] t2)
  have e : (w.alloc (.cells #[v] t1)).heap.size = w.heap.size + 1 := by simp
  rw [e] at h
  unfold World.cell?
  rw [h]
  simp
def gradeOfE (b : Board) (l : List Grade) : Int := if boardErr b ≠ 0 then boardErr b else if gradesE l ≠ 0 then gradesE l else if idxOf (gradeP b) l < 0 then 12 else 0
def gradeOfV (b : Board) (l : List Grade) : Int := if gradeOfE b l ≠ 0 then 0 else idxOf (gradeP b) l
theorem gradeOf_err {b : Board} {l : List Grade} {x : Int} (h : boardErr b = 0) (h1 : gradesE l = x) (hx : x ≠ 0) : gradeOfV b l = 0 ∧ gradeOfE b l = x := by
  have : gradeOfE b l = x := by simp [gradeOfE, h, h1, hx]
  exact ⟨by simp [gradeOfV, this, hx], this⟩

set_option maxRecDepth 100000 in
set_option maxHeartbeats 8000000 in
theorem gradeOf_any (b : Board) (a : Option Addr) (c : Nat) (ga : Option Addr) (l : List Grade) (gc : Nat) (w : World) (hv : Rects.V w a b.defects) (hl : b.defects.length ≤ 9223372036854775807) (hwf : b.wf) (hg : Grades.V w ga l) (hgl : l.length ≤ 9223372036854775807) :
    Calls Try.prog 69 #[.agg #[.string b.name, .string b.species, .int .i64 b.length, .int .i64 b.width, .int .i64 b.thick, .int .i64 b.cut, .int .i64 b.moisture, .slice a b.defects.length c], .slice ga l.length gc] w fun e w' => e = .returned (.tuple #[.int .i64 (gradeOfV b l), .int .i64 (gradeOfE b l)]) ∧ Below w.heap.size w w' := by
  rcases Classical.em (¬ boardErr b = 0) with h0 | h0
  · obtain ⟨e9, he9⟩ : ∃ e9, e9 = boardErr b := ⟨_, rfl⟩
    have HBE := Lib.hid he9.symm
    have h0' : (e9 != 0) = true := by simp [he9, h0]
    have HE := Lib.hid (show gradeOfV b l = 0 ∧ gradeOfE b l = e9 from ⟨by simp [gradeOfV, gradeOfE, h0], by simp [gradeOfE, h0, he9]⟩)
    clear he9 h0
    go_enter Try.func69, Try.ntmps69
    go_upto_region 1 with fail
    refine gen_world (fun W => (W.cell? ⟨w.heap.size, 0, none⟩ = some (.string b.name) ∧ W.cell? ⟨w.heap.size, 1, none⟩ = some (.string b.species) ∧ W.cell? ⟨w.heap.size, 2, none⟩ = some (.int .i64 b.length) ∧ W.cell? ⟨w.heap.size, 3, none⟩ = some (.int .i64 b.width) ∧ W.cell? ⟨w.heap.size, 4, none⟩ = some (.int .i64 b.thick) ∧ W.cell? ⟨w.heap.size, 5, none⟩ = some (.int .i64 b.cut) ∧ W.cell? ⟨w.heap.size, 6, none⟩ = some (.int .i64 b.moisture) ∧ W.cell? ⟨w.heap.size, 7, none⟩ = some (.slice a b.defects.length c)) ∧ w.heap.size < W.heap.size ∧ Below w.heap.size w W) ?_ ?_
    · exact ⟨⟨by simp [go_sem], by simp [go_sem], by simp [go_sem], by simp [go_sem], by simp [go_sem], by simp [go_sem], by simp [go_sem], by simp [go_sem]⟩, by simp, (Below.refl _ _).alloc (Nat.le_refl _) _⟩
    rintro W ⟨⟨e0, e1, e2, e3, e4, e5, e6, e7⟩, hzW, hbW⟩
    go_wp2_with (go_at_call 82; refine (checkBoard_any b _ _ _ (hv.keep hbW) hl hwf).mono ?_; rw [HBE.out]; rintro e w1 ⟨rfl, hb1⟩; have f0 := cell_keep hb1 e0; have f1 := cell_keep hb1 e1; have f2 := cell_keep hb1 e2; have f3 := cell_keep hb1 e3; have f4 := cell_keep hb1 e4; have f5 := cell_keep hb1 e5; have f6 := cell_keep hb1 e6; have f7 := cell_keep hb1 e7; have hc1 : Below w.heap.size w w1 := hbW.trans (hb1.mono hbW.size); have hz1 : w.heap.size < w1.heap.size := (by have := hb1.size; omega))
    go_ret2
    exact ⟨by rw [HE.out.1, HE.out.2]; rfl, hc1⟩
  have h0 := Classical.not_not.1 h0
  have HBE := Lib.hid h0
  have HOK := Lib.hid (boardErr_ok h0)
  by_cases h20 : 20 < l.length
  · have h20i : (20 : Int) < (l.length : Int) := by omega
    have HE := Lib.hid (gradeOf_err (l := l) h0 (show gradesE l = 8 by simp [gradesE, h20]) (by decide))
    clear h0
    go_enter Try.func69, Try.ntmps69
    go_upto_region 1 with fail
    refine gen_world (fun W => (W.cell? ⟨w.heap.size, 0, none⟩ = some (.string b.name) ∧ W.cell? ⟨w.heap.size, 1, none⟩ = some (.string b.species) ∧ W.cell? ⟨w.heap.size, 2, none⟩ = some (.int .i64 b.length) ∧ W.cell? ⟨w.heap.size, 3, none⟩ = some (.int .i64 b.width) ∧ W.cell? ⟨w.heap.size, 4, none⟩ = some (.int .i64 b.thick) ∧ W.cell? ⟨w.heap.size, 5, none⟩ = some (.int .i64 b.cut) ∧ W.cell? ⟨w.heap.size, 6, none⟩ = some (.int .i64 b.moisture) ∧ W.cell? ⟨w.heap.size, 7, none⟩ = some (.slice a b.defects.length c)) ∧ w.heap.size < W.heap.size ∧ Below w.heap.size w W) ?_ ?_
    · exact ⟨⟨by simp [go_sem], by simp [go_sem], by simp [go_sem], by simp [go_sem], by simp [go_sem], by simp [go_sem], by simp [go_sem], by simp [go_sem]⟩, by simp, (Below.refl _ _).alloc (Nat.le_refl _) _⟩
    rintro W ⟨⟨e0, e1, e2, e3, e4, e5, e6, e7⟩, hzW, hbW⟩
    go_wp2_with (go_at_call 82; refine (checkBoard_any b _ _ _ (hv.keep hbW) hl hwf).mono ?_; rw [HBE.out]; rintro e w1 ⟨rfl, hb1⟩; have f0 := cell_keep hb1 e0; have f1 := cell_keep hb1 e1; have f2 := cell_keep hb1 e2; have f3 := cell_keep hb1 e3; have f4 := cell_keep hb1 e4; have f5 := cell_keep hb1 e5; have f6 := cell_keep hb1 e6; have f7 := cell_keep hb1 e7; have hc1 : Below w.heap.size w w1 := hbW.trans (hb1.mono hbW.size); have hz1 : w.heap.size < w1.heap.size := (by have := hb1.size; omega))
    go_ret2
    exact ⟨by rw [HE.out.1, HE.out.2]; rfl, hc1⟩
  have h20i : ¬ (20 : Int) < (l.length : Int) := by omega
  have HGE := Lib.hid (show gradesE l = gradesGo l by simp [gradesE, h20])
  have HERR := Lib.hid (fun x (h : gradesGo l = x) hx => gradeOf_err (l := l) h0 (show gradesE l = x by rw [HGE.out, h]) hx)
  have HOKG := Lib.hid (fun (h : gradesGo l = 0) => show gradeOfE b l = (if idxOf (gradeP b) l < 0 then 12 else 0) by simp [gradeOfE, h0, HGE.out, h])
  have HGO := Lib.hid (show gradesGo l = gradesGo (l.drop 0) from rfl)
  clear h0
  go_enter Try.func69, Try.ntmps69
  go_upto_region 1 with fail
  refine gen_world (fun W => (W.cell? ⟨w.heap.size, 0, none⟩ = some (.string b.name) ∧ W.cell? ⟨w.heap.size, 1, none⟩ = some (.string b.species) ∧ W.cell? ⟨w.heap.size, 2, none⟩ = some (.int .i64 b.length) ∧ W.cell? ⟨w.heap.size, 3, none⟩ = some (.int .i64 b.width) ∧ W.cell? ⟨w.heap.size, 4, none⟩ = some (.int .i64 b.thick) ∧ W.cell? ⟨w.heap.size, 5, none⟩ = some (.int .i64 b.cut) ∧ W.cell? ⟨w.heap.size, 6, none⟩ = some (.int .i64 b.moisture) ∧ W.cell? ⟨w.heap.size, 7, none⟩ = some (.slice a b.defects.length c)) ∧ w.heap.size < W.heap.size ∧ Below w.heap.size w W) ?_ ?_
  · exact ⟨⟨by simp [go_sem], by simp [go_sem], by simp [go_sem], by simp [go_sem], by simp [go_sem], by simp [go_sem], by simp [go_sem], by simp [go_sem]⟩, by simp, (Below.refl _ _).alloc (Nat.le_refl _) _⟩
  rintro W ⟨⟨e0, e1, e2, e3, e4, e5, e6, e7⟩, hzW, hbW⟩
  go_wp2_with (go_at_call 82; refine (checkBoard_any b _ _ _ (hv.keep hbW) hl hwf).mono ?_; rw [HBE.out]; rintro e w1 ⟨rfl, hb1⟩; have f0 := cell_keep hb1 e0; have f1 := cell_keep hb1 e1; have f2 := cell_keep hb1 e2; have f3 := cell_keep hb1 e3; have f4 := cell_keep hb1 e4; have f5 := cell_keep hb1 e5; have f6 := cell_keep hb1 e6; have f7 := cell_keep hb1 e7; have hc1 : Below w.heap.size w w1 := hbW.trans (hb1.mono hbW.size); have hz1 : w.heap.size < w1.heap.size := (by have := hb1.size; omega))
  have hg1 := hg.keep hc1
  have hv1 := hv.keep hc1
  clear e0 e1 e2 e3 e4 e5 e6 e7 hb1 hbW hzW
  go_loopw [24] (fun i wr => ∃ k : Nat, k ≤ l.length ∧ i = .int .i64 k ∧ Hid (gradesGo l = gradesGo (l.drop k)) ∧ Below w1.heap.size w1 wr) (fun i _ => l.length - (intOf i).toNat)
  case atStart => exact ⟨0, Nat.zero_le _, rfl, HGO, Below.refl _ _⟩
  case round =>
    clear HGO
    obtain ⟨k, hk, rfl, HK, hbr⟩ := hrel
    have hszr := hbr.size
    by_cases hlt : k < l.length
    · obtain ⟨bk, off, rfl, hat⟩ := (hg1.keep hbr).at_ hlt
      obtain ⟨c0, c1, c2, c3, hgw⟩ := hat
      have hnm : l[k].name.size ≤ 9223372036854775807 := hgw.1
      have HX := Lib.hid (fun x (h1 : gradeE l[k] = x) hx => HERR.out x (gradesGo_err hlt HK.out h1 hx) hx)
      have HN := Lib.hid (fun (h1 : gradeE l[k] = 0) => gradesGo_next hlt HK.out h1)
      have hki : (k : Int) < (l.length : Int) := by omega
      generalize l[k] = g at *
      clear HK
      cases q1 : nameB g.name
      · have HX2 := Lib.hid (HX.out 4 (by simp [gradeE, q1]) (by decide))
        go_wp2_with (first | (go_at_call 98; refine (isName_any _ _ hnm).mono ?_; rw [q1]; rintro e w' ⟨rfl, rfl⟩) | (go_at_call 83; refine (within_any _ _ _ _).mono ?_; rintro e w' ⟨rfl, rfl⟩))
        go_ret2
        exact ⟨by rw [HX2.out.1, HX2.out.2]; rfl, (hc1.trans (hbr.mono (by omega))).alloc (by omega) _⟩
      · cases q2 : withinB g.most 0 60
        · have HX2 := Lib.hid (HX.out 2 (by simp [gradeE, q1, q2]) (by decide))
          go_wp2_with (first | (go_at_call 98; refine (isName_any _ _ hnm).mono ?_; rw [q1]; rintro e w' ⟨rfl, rfl⟩) | (go_at_call 83; refine (within_any _ _ _ _).mono ?_; rintro e w' ⟨rfl, rfl⟩))
          go_ret2
          exact ⟨by rw [HX2.out.1, HX2.out.2]; rfl, (hc1.trans (hbr.mono (by omega))).alloc (by omega) _⟩
        · cases q3 : withinB g.share 0 1000
          · have HX2 := Lib.hid (HX.out 2 (by simp [gradeE, q1, q2, q3]) (by decide))
            go_wp2_with (first | (go_at_call 98; refine (isName_any _ _ hnm).mono ?_; rw [q1]; rintro e w' ⟨rfl, rfl⟩) | (go_at_call 83; refine (within_any _ _ _ _).mono ?_; rintro e w' ⟨rfl, rfl⟩))
            go_ret2
            exact ⟨by rw [HX2.out.1, HX2.out.2]; rfl, (hc1.trans (hbr.mono (by omega))).alloc (by omega) _⟩
          · cases q4 : withinB g.clear 0 600000
            · have HX2 := Lib.hid (HX.out 2 (by simp [gradeE, q1, q2, q3, q4]) (by decide))
              go_wp2_with (first | (go_at_call 98; refine (isName_any _ _ hnm).mono ?_; rw [q1]; rintro e w' ⟨rfl, rfl⟩) | (go_at_call 83; refine (within_any _ _ _ _).mono ?_; rintro e w' ⟨rfl, rfl⟩))
              go_ret2
              exact ⟨by rw [HX2.out.1, HX2.out.2]; rfl, (hc1.trans (hbr.mono (by omega))).alloc (by omega) _⟩
            · have HN2 := Lib.hid (HN.out (by simp [gradeE, q1, q2, q3, q4]))
              go_wp2_with (first | (go_at_call 98; refine (isName_any _ _ hnm).mono ?_; rw [q1]; rintro e w' ⟨rfl, rfl⟩) | (go_at_call 83; refine (within_any _ _ _ _).mono ?_; rintro e w' ⟨rfl, rfl⟩))
              go_roundw
              case rel => exact ⟨k + 1, by omega, by go_num, HN2, hbr.alloc (by omega) _⟩
              case measure => simp [intOf]; omega
    · have HZ := Lib.hid (gradesGo_end (by omega) HK.out)
      have hkn : ¬ (k : Int) < (l.length : Int) := by omega
      have HEE := Lib.hid (HOKG.out HZ.out)
      have HGL := Lib.hid (fun g hg => (gradesGo_ok HZ.out g hg).2.1)
      have g0 := cell_keep hbr f0
      have g1 := cell_keep hbr f1
      have g2 := cell_keep hbr f2
      have g3 := cell_keep hbr f3
      have g4 := cell_keep hbr f4
      have g5 := cell_keep hbr f5
      have g6 := cell_keep hbr f6
      have g7 := cell_keep hbr f7
      have hg2 := hg1.keep hbr
      have hv2 := hv1.keep hbr
      have hc2 : Below w.heap.size w wr := hc1.trans (hbr.mono (by omega))
      have hz2 : w.heap.size < wr.heap.size := by omega
      clear f0 f1 f2 f3 f4 f5 f6 f7 hg1 hv1 hbr hszr HK hc1 hz1 HERR
      go_upto_region 14 with fail
      refine gen_world (fun W => (W.cell? ⟨w.heap.size, 0, none⟩ = some (.string b.name) ∧ W.cell? ⟨w.heap.size, 1, none⟩ = some (.string b.species) ∧ W.cell? ⟨w.heap.size, 2, none⟩ = some (.int .i64 b.length) ∧ W.cell? ⟨w.heap.size, 3, none⟩ = some (.int .i64 b.width) ∧ W.cell? ⟨w.heap.size, 4, none⟩ = some (.int .i64 b.thick) ∧ W.cell? ⟨w.heap.size, 5, none⟩ = some (.int .i64 b.cut) ∧ W.cell? ⟨w.heap.size, 6, none⟩ = some (.int .i64 b.moisture) ∧ W.cell? ⟨w.heap.size, 7, none⟩ = some (.slice a b.defects.length c)) ∧ Grades.V W ga l ∧ Rects.V W a b.defects ∧ w.heap.size < W.heap.size ∧ Below w.heap.size w W) ?_ ?_
      · exact ⟨⟨g0, g1, g2, g3, g4, g5, g6, g7⟩, hg2, hv2, hz2, hc2⟩
      clear g0 g1 g2 g3 g4 g5 g6 g7 hg2 hv2 hz2 hc2
      rintro W ⟨⟨e0, e1, e2, e3, e4, e5, e6, e7⟩, hg2, hv2, hzW, hbW⟩
      have hbd := boardOk_defs HOK.out
      have hTb := refArea_bd HOK.out HOK.out.few
      have HAS := Lib.hid (area_same hbd)
      have HDF := Lib.hid (fun w hv => defective_any b a c w hv HOK.out.few hbd HOK.out.length.2 HOK.out.width.2)
      rw [HAS.out] at HDF
      have HCL := Lib.hid (fun w hv => clear_any b a c w hv HOK.out.few hbd HOK.out.length.2)
      have HCB := Lib.hid (fun z (hz : z ∈ refClear b) => clear_bd hbd hz)
      have hbl := HOK.out.length
      have hbwd := HOK.out.width
      have HP := Lib.hid (show gradeP b = gradeHit b.defects.length (refArea b) b.length b.width (lonG (refClear b)) from rfl)
      clear hbd HAS
      generalize refClear b = L at *
      generalize refArea b = T at *
      go_upto_region 15 with (go_at_call 104; refine (HDF.out _ hv2).mono ?_; rintro e w3 ⟨rfl, hb3⟩; have f0 := cell_keep hb3 e0; have f1 := cell_keep hb3 e1; have f2 := cell_keep hb3 e2; have f3 := cell_keep hb3 e3; have f4 := cell_keep hb3 e4; have f5 := cell_keep hb3 e5; have f6 := cell_keep hb3 e6; have f7 := cell_keep hb3 e7; have hc3 : Below w.heap.size w w3 := hbW.trans (hb3.mono hbW.size); have hg3 := hg2.keep hb3; have hv3 := hv2.keep hb3; have hz3 : w.heap.size < w3.heap.size := (by have := hb3.size; omega); clear e0 e1 e2 e3 e4 e5 e6 e7 hg2 hv2 hbW hzW hb3)
      refine gen_world (fun W => (W.cell? ⟨w.heap.size, 0, none⟩ = some (.string b.name) ∧ W.cell? ⟨w.heap.size, 1, none⟩ = some (.string b.species) ∧ W.cell? ⟨w.heap.size, 2, none⟩ = some (.int .i64 b.length) ∧ W.cell? ⟨w.heap.size, 3, none⟩ = some (.int .i64 b.width) ∧ W.cell? ⟨w.heap.size, 4, none⟩ = some (.int .i64 b.thick) ∧ W.cell? ⟨w.heap.size, 5, none⟩ = some (.int .i64 b.cut) ∧ W.cell? ⟨w.heap.size, 6, none⟩ = some (.int .i64 b.moisture) ∧ W.cell? ⟨w.heap.size, 7, none⟩ = some (.slice a b.defects.length c)) ∧ (W.cell? ⟨w3.heap.size, 0, none⟩ = some (.int .i64 T) ∧ W.cell? ⟨w3.heap.size + 1, 0, none⟩ = some (.int .i64 0) ∧ W.frozen? ⟨w3.heap.size + 1, 0, none⟩ = false ∧ Hid (∀ j : Nat, W.cell? ⟨w3.heap.size + 1, j + 1, none⟩ = none)) ∧ w3.heap.size + 1 < W.heap.size ∧ Below w3.heap.size w3 W) ?_ ?_
      · exact ⟨⟨by simp [go_sem, *], by simp [go_sem, *], by simp [go_sem, *], by simp [go_sem, *], by simp [go_sem, *], by simp [go_sem, *], by simp [go_sem, *], by simp [go_sem, *]⟩, ⟨by simp [go_sem], by simp [go_sem], by simp [go_sem], Lib.hid (fun j => new_none _ _ _ _ _ rfl)⟩, by simp, ((Below.refl _ _).alloc (Nat.le_refl _) _).alloc (by simp) _⟩
      clear f0 f1 f2 f3 f4 f5 f6 f7
      generalize hB2 : w3.heap.size = B at *
      have hzB : w.heap.size < B := by omega
      rintro W4 ⟨⟨e0, e1, e2, e3, e4, e5, e6, e7⟩, ⟨t0, t1, tf, HN⟩, hz4, hb4⟩
      have hb4' : Below w3.heap.size w3 W4 := by rw [hB2]; exact hb4
      have hc4 : Below w.heap.size w W4 := hc3.trans (hb4.mono (by omega))
      have hg4 := hg3.keep hb4'
      have hv4 := hv3.keep hb4'
      clear hb4 hb4' hg3 hv3 hc3 hz3 hB2
      go_wp2_with (go_at_call 103; refine (HCL.out _ hv4).mono ?_; rintro e w5 ⟨aL, cL, rfl, hVL, hlL, hcL, hb5⟩; have f2 := cell_keep hb5 e2; have f3 := cell_keep hb5 e3; have f7 := cell_keep hb5 e7; have r0 := cell_keep hb5 t0; have r1 := cell_keep hb5 t1; have rf := frozen_keep hb5 hz4 tf)
      have HN5 := Lib.hid (fun j : Nat => (hb5.cell (p := ⟨B + 1, j + 1, none⟩) hz4).trans (HN.out j))
      have hc5 : Below w.heap.size w w5 := hc4.trans (hb5.mono hc4.size)
      have hg5 := hg4.keep hb5
      have hz5 : B + 1 < w5.heap.size := by have := hb5.size; omega
      clear e0 e1 e2 e3 e4 e5 e6 e7 t0 t1 tf HN hb5 hc4 hg4 hv4 hz4
      go_loopw [54] (fun i wr => ∃ k : Nat, k ≤ L.length ∧ i = .int .i64 k ∧ wr.cell? ⟨B + 1, 0, none⟩ = some (.int .i64 (lonG (L.take k))) ∧ wr.frozen? ⟨B + 1, 0, none⟩ = false ∧ (0 ≤ lonG (L.take k) ∧ lonG (L.take k) ≤ 600000) ∧ Hid (∀ p : Addr, p.block ≠ B + 1 → p.block < w5.heap.size → wr.cell? p = w5.cell? p) ∧ w5.heap.size ≤ wr.heap.size ∧ Below w.heap.size w wr) (fun i _ => L.length - (intOf i).toNat)
      case atStart => exact ⟨0, Nat.zero_le _, rfl, r1, rf, by simp [lonG], Lib.hid (fun _ _ _ => rfl), Nat.le_refl _, hc5⟩
      case round =>
        clear r1 rf
        obtain ⟨k, hk, rfl, q1, qf, hlb, HKP, hsz, hcr⟩ := hrel
        by_cases hlt : k < L.length
        · obtain ⟨bL, oL, rfl, k0, k1⟩ := hVL.at_ hlt
          have hne : bL ≠ B + 1 := by
            rintro rfl
            have := HN5.out (oL + k * 2)
            rw [k1] at this
            cases this
          have hbL : bL < w5.heap.size := by simpa using block_lt_of_cell k0
          have k0 := (HKP.out ⟨bL, oL + k * 2, none⟩ hne hbL).trans k0
          have k1 := (HKP.out ⟨bL, oL + k * 2 + 1, none⟩ hne hbL).trans k1
          have hzb := HCB.out _ (List.getElem_mem hlt)
          have HS := Lib.hid (lonG_step hlt)
          have hki : (k : Int) < (L.length : Int) := by omega
          generalize L[k] = z at *
          obtain ⟨lo, hi⟩ := z
          simp only at hzb k0 k1
          generalize lonG (L.take k) = S at *
          have v1 : IntKind.i64.wrap (hi - lo) = hi - lo := IntWalk.i64_in _ (by omega)
          have hzr : B + 1 < wr.heap.size := by omega
          go_wp2_with fail
          go_roundw
          case rel =>
            refine ⟨k + 1, by omega, by go_num, ?_, ?_, by rw [HS.out]; first | omega | (simp only; omega), Lib.hid (fun p hp hpl => ?_), by simp [World.setCell]; omega, (hcr.setCell (p := ⟨B + 1, 0, none⟩) (by simp; omega) _).alloc (by have := hcr.size; simp [World.setCell]; omega) _⟩
            · rw [HS.out, World.cell?_alloc_lt _ _ _ (by simp [World.setCell]; omega)]; exact World.cell?_setCell_same _ _ _ q1
            · simp [go_sem, qf, hzr]
            · rw [World.cell?_alloc_lt _ _ _ (by simp [World.setCell]; omega), World.cell?_setCell_other _ _ _ _ (fun e => hp (by rw [← e]))]
              exact HKP.out p hp hpl
          case measure => simp [intOf]; omega
        · obtain rfl : k = L.length := by omega
          have hkn : ¬ (L.length : Int) < (L.length : Int) := by omega
          rw [List.take_length] at q1 hlb
          have k2 := (HKP.out ⟨w.heap.size, 2, none⟩ (by simp; omega) (by simp; omega)).trans f2
          have k3 := (HKP.out ⟨w.heap.size, 3, none⟩ (by simp; omega) (by simp; omega)).trans f3
          have k7 := (HKP.out ⟨w.heap.size, 7, none⟩ (by simp; omega) (by simp; omega)).trans f7
          have kT := (HKP.out ⟨B, 0, none⟩ (by simp) (by simp; omega)).trans r0
          have hgr : Grades.V wr ga l := hg.keep hcr
          have hzw : w.heap.size < wr.heap.size := by omega
          clear HKP HN5 f2 f3 f7 r0 hVL
          by_cases hneg : idxOf (gradeP b) l < 0
          · have HV := Lib.hid (show gradeOfV b l = 0 ∧ gradeOfE b l = 12 from by
              have e1 : gradeOfE b l = 12 := by rw [HEE.out, if_pos hneg]
              exact ⟨by simp [gradeOfV, e1], e1⟩)
            rw [HP.out] at hneg
            go_wp2_with (go_at_call 106; refine (indexGrade_any ga l gc b a c w.heap.size B (B + 1) T (lonG L) _ hgr hgl hTb HGL.out hbl hbwd k2 k3 k7 kT q1 hzw (by omega) (by omega)).mono ?_; rintro e w9 ⟨rfl, hb9⟩)
            go_ret2
            exact ⟨by rw [HV.out.1, HV.out.2]; rfl, hcr.trans (hb9.mono hcr.size)⟩
          · have HV := Lib.hid (show gradeOfV b l = idxOf (gradeP b) l ∧ gradeOfE b l = 0 from by
              have e1 : gradeOfE b l = 0 := by rw [HEE.out, if_neg hneg]
              exact ⟨by simp [gradeOfV, e1], e1⟩)
            rw [HP.out] at hneg HV
            go_wp2_with (go_at_call 106; refine (indexGrade_any ga l gc b a c w.heap.size B (B + 1) T (lonG L) _ hgr hgl hTb HGL.out hbl hbwd k2 k3 k7 kT q1 hzw (by omega) (by omega)).mono ?_; rintro e w9 ⟨rfl, hb9⟩)
            go_ret2
            exact ⟨by rw [HV.out.1, HV.out.2]; rfl, hcr.trans (hb9.mono hcr.size)⟩
end Go.Proofs.Ythhchnhidhgccaa
