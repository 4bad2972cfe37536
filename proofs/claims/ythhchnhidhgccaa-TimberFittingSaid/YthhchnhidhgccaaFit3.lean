/- Fitting: what the program's Fitting returns. -/
import Derived.Test.YthhchnhidhgccaaFit2
set_option linter.unusedVariables false
set_option linter.unusedSimpArgs false
namespace Go.Proofs.Ythhchnhidhgccaa
open Go Go.RowKit

theorem widest_is (b : Board) (len : Int) (a : Option Addr) (c : Nat) (w : World) {s : Rect × Bool} (hs : widS b len = s) (hv : Rects.V w a b.defects) (hl : b.defects.length ≤ 60) (hb : BoardOk b) (hb3 : 1 ≤ len) (hb4 : len ≤ 600000) :
    Calls Try.prog 84 #[.agg #[.string b.name, .string b.species, .int .i64 b.length, .int .i64 b.width, .int .i64 b.thick, .int .i64 b.cut, .int .i64 b.moisture, .slice a b.defects.length c], .int .i64 len] w fun e w' => e = .returned (.tuple #[.agg #[.int .i64 s.1.x1, .int .i64 s.1.y1, .int .i64 s.1.x2, .int .i64 s.1.y2], .bool s.2]) ∧ Below w.heap.size w w' := by
  subst hs
  have h1 := hb.length
  have h2 := hb.width
  exact widest_any b len a c w hv hl (fun d hd => by have := hb.inside d hd; omega) (by omega) (by omega) (by omega) (by omega) hb3 hb4
theorem ret_sl {a : Option Addr} {c n m : Nat} {x y : Int} (h : n = m) (h' : x = y) : Ending.returned (.tuple #[.slice a n c, .int .i64 x]) = .returned (.tuple #[.slice a m c, .int .i64 y]) := by rw [h, h']
def fitE (l : List Species) (st : List Board) (x : Blank) : Int := if checkStockE l st = 0 then blankErr x else checkStockE l st
def fitL (l : List Species) (st : List Board) (x : Blank) : List Int := if fitE l st x = 0 then fitK st x st.length else []

set_option maxRecDepth 100000 in
set_option maxHeartbeats 8000000 in
theorem fitting_any (la : Option Addr) (l : List Species) (lc : Nat) (a : Option Addr) (st : List Board) (c : Nat) (x : Blank) (w : World) (hs : Speciess.V w la l) (hsl : l.length ≤ 9223372036854775807) (hv : Boards.V w a st) (hl : st.length ≤ 9223372036854775807) (hwf : x.wf) :
    Calls Try.prog 54 #[.slice la l.length lc, .slice a st.length c, .agg #[.string x.name, .string x.species, .int .i64 x.length, .int .i64 x.width, .int .i64 x.thick, .int .i64 x.count]] w fun e w' => ∃ (a' : Option Addr) (c' : Nat), e = .returned (.tuple #[.slice a' (fitL l st x).length c', .int .i64 (fitE l st x)]) ∧ IntsV w' a' (fitL l st x) ∧ Below w.heap.size w w' := by
  obtain ⟨i0, hi0, hz0, hz1, hz2⟩ := info_parts int_info
  obtain ⟨hn1, hn2, -⟩ := hwf
  by_cases hE : fitE l st x = 0
  · have hC : checkStockE l st = 0 := by
      unfold fitE at hE
      split at hE
      · assumption
      · exact hE
    have hB : blankErr x = 0 := by rw [fitE, if_pos hC] at hE; exact hE
    obtain ⟨⟨hx1, hx2⟩, ⟨hx3, hx4⟩, hx5, hx6⟩ := blankErr_ok hB
    have hnames : nameB x.name = true ∧ nameB x.species = true ∧ withinB x.length 1 600000 = true ∧ withinB x.width 1 600000 = true ∧ withinB x.thick 1 600000 = true ∧ withinB x.count 1 200 = true := by
      unfold blankErr at hB
      split at hB
      · cases hB
      · split at hB
        · cases hB
        · rename_i h1 h2
          simp only [not_or, Bool.not_eq_false] at h1 h2
          exact ⟨h1.1, h1.2, h2.1, h2.2.1, h2.2.2.1, h2.2.2.2⟩
    obtain ⟨q1, q2, q3, q4, q5, q6⟩ := hnames
    have HFE := Lib.hid hE
    have HFL := Lib.hid (show fitL l st x = fitK st x st.length by rw [fitL, if_pos hE])
    have HCS := Lib.hid hC
    have HOKS := Lib.hid (stock_ok hC).2
    have hl100 := (stock_ok hC).1
    clear hE hC hB
    go_enter Try.func54, Try.ntmps54
    go_upto_region 1 with fail
    refine gen_world (fun W => (W.cell? ⟨w.heap.size, 0, none⟩ = some (.string x.name) ∧ W.cell? ⟨w.heap.size, 1, none⟩ = some (.string x.species) ∧ W.cell? ⟨w.heap.size, 2, none⟩ = some (.int .i64 x.length) ∧ W.cell? ⟨w.heap.size, 3, none⟩ = some (.int .i64 x.width) ∧ W.cell? ⟨w.heap.size, 4, none⟩ = some (.int .i64 x.thick) ∧ W.cell? ⟨w.heap.size, 5, none⟩ = some (.int .i64 x.count)) ∧ w.heap.size < W.heap.size ∧ Below w.heap.size w W) ?_ ?_
    · exact ⟨⟨by simp [go_sem], by simp [go_sem], by simp [go_sem], by simp [go_sem], by simp [go_sem], by simp [go_sem]⟩, by simp, (Below.refl _ _).alloc (Nat.le_refl _) _⟩
    rintro W ⟨⟨d0, d1, d2, d3, d4, d5⟩, hzW, hbW⟩
    go_wp2_with (first | (go_at_call 44; refine (checkStockP_any _ l _ _ st _ _ (hs.keep (hbW)) hsl (hv.keep (hbW)) hl).mono ?_; rw [HCS.out]; rintro e w1 ⟨rfl, hb1⟩; have e0 := cell_keep hb1 d0; have e1 := cell_keep hb1 d1; have e2 := cell_keep hb1 d2; have e3 := cell_keep hb1 d3; have e4 := cell_keep hb1 d4; have e5 := cell_keep hb1 d5; have hc1 := hbW.trans (hb1.mono hbW.size); have hzW1 : w.heap.size < w1.heap.size := (by have := hb1.size; omega)) | (go_at_call 98; refine (isName_any _ _ (by assumption)).mono ?_; rintro e w' ⟨rfl, rfl⟩) | (go_at_call 83; refine (within_any _ _ _ _).mono ?_; rintro e w' ⟨rfl, rfl⟩))
    go_loopw [9, 50] (fun v i wr => ∃ k : Nat, k ≤ st.length ∧ i = .int .i64 k ∧ wr.ownsRow w1.heap.size 3 1 v (fitK st x k).length ((fitK st x k).map (Value.int .i64)) ∧ Below w1.heap.size w1 wr) (fun _ i _ => st.length - (intOf i).toNat)
    case atStart => exact ⟨0, Nat.zero_le _, rfl, ownedNone _ _, Below.refl _ _⟩
    case round =>
      obtain ⟨k, hk, rfl, hown, hbr⟩ := hrel
      have hsz := hbr.size
      have hbr0 := hc1.trans (hbr.mono hc1.size)
      have f1 := cell_keep hbr e1
      have f2 := cell_keep hbr e2
      have f3 := cell_keep hbr e3
      have f4 := cell_keep hbr e4
      by_cases hlt : k < st.length
      · obtain ⟨b, off, ad, cd, ha, ⟨c0, c1, c2, c3, c4, c5, c6, c7⟩, hr, hrl, hwf⟩ := (hv.keep hbr0).at' hlt
        subst ha
        have hki : (k : Int) < (st.length : Int) := by omega
        have hbo := boardErr_ok (HOKS.out _ (List.getElem_mem hlt))
        have HFY := Lib.hid (fun h => fitK_yes (x := x) hlt h)
        have HFN := Lib.hid (fun h => fitK_no (x := x) hlt h)
        have hbk := block_lt_of_cell c0
        simp only at hbk
        generalize hbd : st[k] = bd at *
        clear hbd
        have HF1 := Lib.hid (show fitOne x bd = ((bd.species.toList == x.species.toList) && decide (x.thick ≤ bd.thick) && decide (x.length ≤ bd.length) && (widS bd x.length).2 && decide (x.width ≤ (widS bd x.length).1.y2 - (widS bd x.length).1.y1)) from rfl)
        have hzk : w.heap.size < wr.heap.size := by omega
        cases hsp : (bd.species.toList == x.species.toList)
        · have hsp' : (bd.species.toList != x.species.toList) = true := by simp [bne, hsp]
          have HN := Lib.hid (HFN.out (by rw [HF1.out, hsp]; rfl))
          go_wp2_with fail
          go_roundw
          case rel => exact ⟨k + 1, by omega, by go_num, by rw [HN.out]; exact hown.alloc _, hbr.alloc (by omega) _⟩
          case measure => simp [intOf]; omega
        · have hsp' : (bd.species.toList != x.species.toList) = false := by simp [bne, hsp]
          by_cases ht : bd.thick < x.thick
          · have HN := Lib.hid (HFN.out (by rw [HF1.out, decide_eq_false (by omega : ¬ x.thick ≤ bd.thick)]; simp))
            go_wp2_with fail
            go_roundw
            case rel => exact ⟨k + 1, by omega, by go_num, by rw [HN.out]; exact hown.alloc _, hbr.alloc (by omega) _⟩
            case measure => simp [intOf]; omega
          by_cases hle : bd.length < x.length
          · have HN := Lib.hid (HFN.out (by rw [HF1.out, decide_eq_false (by omega : ¬ x.length ≤ bd.length)]; simp))
            go_wp2_with fail
            go_roundw
            case rel => exact ⟨k + 1, by omega, by go_num, by rw [HN.out]; exact hown.alloc _, hbr.alloc (by omega) _⟩
            case measure => simp [intOf]; omega
          have hL := hbo.length
          have hWd := hbo.width
          have HW := Lib.hid (rfl : widS bd x.length = widS bd x.length)
          have HBO := Lib.hid hbo
          have hin := fun h => wid_in (b := bd) (len := x.length) (boardOk_in hbo) h
          cases h2 : (widS bd x.length).2
          · have HN := Lib.hid (HFN.out (by rw [HF1.out, h2]; simp))
            obtain ⟨R, hR⟩ : ∃ R, R = (widS bd x.length).1 := ⟨_, rfl⟩
            have HRW := Lib.hid (show widS bd x.length = (R, false) by rw [hR, ← h2])
            clear h2 hR hin
            go_wp2_with (go_at_call 84; refine (widest_is bd x.length _ _ _ HRW.out (hr.keep ((Below.refl _ _).alloc (Nat.le_refl _) _)) HBO.out.few (HBO.out) (by omega) (by omega)).mono ?_; rintro e w2 ⟨rfl, hb2⟩; obtain ⟨hk2, hf2⟩ := bcell hb2; have hs2 := hb2.size; have hown2 := own_below (hown.alloc _) hb2; have hbr2 := (hbr.alloc (by omega) _).trans (hb2.mono (by simp; omega)); have hy2 : w.heap.size < w2.heap.size := (by simp at hs2; omega); have hy2' : wr.heap.size < w2.heap.size := (by simp at hs2; omega))
            go_roundw
            case rel => exact ⟨k + 1, by omega, by go_num, by rw [HN.out]; exact hown2.alloc _, (hbr2.alloc (by omega) _)⟩
            case measure => simp [intOf]; omega
          · obtain ⟨R, hR⟩ : ∃ R, R = (widS bd x.length).1 := ⟨_, rfl⟩
            have HRW := Lib.hid (show widS bd x.length = (R, true) by rw [hR, ← h2])
            have hRin := hin h2
            rw [← hR] at hRin HF1
            by_cases hwd : x.width ≤ R.y2 - R.y1
            · have HY := Lib.hid (HFY.out (by rw [HF1.out, h2, hsp]; simp; omega))
              clear h2 hR hin
              have hfl := fitK_len st x k
              obtain ⟨F, hF⟩ : ∃ F, F = fitK st x k := ⟨_, rfl⟩
              rw [← hF] at hown HY hfl
              obtain ⟨mm, hmm⟩ : ∃ mm, mm = F.length := ⟨_, rfl⟩
              rw [← hmm] at hown hfl
              have HMM := Lib.hid hmm
              clear hF hmm
              go_wp2_with (first
                | (go_at_call 84; refine (widest_is bd x.length _ _ _ HRW.out (hr.keep ((Below.refl _ _).alloc (Nat.le_refl _) _)) HBO.out.few (HBO.out) (by omega) (by omega)).mono ?_; rintro e w2 ⟨rfl, hb2⟩; obtain ⟨hk2, hf2⟩ := bcell hb2; have hs2 := hb2.size; have hown2 := own_below (hown.alloc _) hb2; have hbr2 := (hbr.alloc (by omega) _).trans (hb2.mono (by simp; omega)); have hy2 : w.heap.size < w2.heap.size := (by simp at hs2; omega); have hy2' : wr.heap.size < w2.heap.size := (by simp at hs2; omega))
                | (at_builtin; refine wpList_append_own _ rfl _ _ 97 rfl w1.heap.size 3 i0 (.int .i64 0) 1 8 Try.underlying97 hi0 hz0 hz1 hz2 rfl (by decide) _ mm _ rfl ((hown2.alloc _).alloc _) ⟨w2.heap.size + 1, 0, none⟩ 1 1 [.int .i64 (k : Int)] rfl rfl (news_one (by simp [go_sem])) (by simp [Value.oneCell']) (by simp only [maxLen]; omega) (by omega) (by simp; omega) ?_; intro v' w3 hown3 hgr3 hnil3))
              go_roundw
              case rel => exact ⟨k + 1, by omega, by go_num, by rw [HY.out, List.length_append, List.map_append, ← HMM.out]; exact hown3, ((hbr2.alloc (by omega) _).alloc (by simp; omega) _).grown hgr3 (by simp; omega) (fun j hj => own_base hown2 hj)⟩
              case measure => simp [intOf]; omega
            · have HN := Lib.hid (HFN.out (by rw [HF1.out, decide_eq_false hwd]; simp))
              clear h2 hR hin
              go_wp2_with (go_at_call 84; refine (widest_is bd x.length _ _ _ HRW.out (hr.keep ((Below.refl _ _).alloc (Nat.le_refl _) _)) HBO.out.few (HBO.out) (by omega) (by omega)).mono ?_; rintro e w2 ⟨rfl, hb2⟩; obtain ⟨hk2, hf2⟩ := bcell hb2; have hs2 := hb2.size; have hown2 := own_below (hown.alloc _) hb2; have hbr2 := (hbr.alloc (by omega) _).trans (hb2.mono (by simp; omega)); have hy2 : w.heap.size < w2.heap.size := (by simp at hs2; omega); have hy2' : wr.heap.size < w2.heap.size := (by simp at hs2; omega))
              go_roundw
              case rel => exact ⟨k + 1, by omega, by go_num, by rw [HN.out]; exact hown2.alloc _, (hbr2.alloc (by omega) _)⟩
              case measure => simp [intOf]; omega
      · obtain rfl : k = st.length := by omega
        obtain ⟨a', c', rfl, hi⟩ := own_ints' hown
        go_wp2_with fail
        go_ret2
        exact ⟨a', c', ret_sl (by go_tidy; rw [HFL.out]) (by go_tidy; rw [HFE.out]), by rw [HFL.out]; exact hi, hbr0⟩
  · have HFL := Lib.hid (show fitL l st x = [] by rw [fitL, if_neg hE])
    by_cases hC : checkStockE l st = 0
    · have HFE := Lib.hid (show fitE l st x = blankErr x by rw [fitE, if_pos hC])
      have HCS := Lib.hid hC
      have HNB := Lib.hid (show blankErr x ≠ 0 by rw [← HFE.out]; exact hE)
      clear hE hC
      go_enter Try.func54, Try.ntmps54
      go_upto_region 1 with fail
      refine gen_world (fun W => (W.cell? ⟨w.heap.size, 0, none⟩ = some (.string x.name) ∧ W.cell? ⟨w.heap.size, 1, none⟩ = some (.string x.species) ∧ W.cell? ⟨w.heap.size, 2, none⟩ = some (.int .i64 x.length) ∧ W.cell? ⟨w.heap.size, 3, none⟩ = some (.int .i64 x.width) ∧ W.cell? ⟨w.heap.size, 4, none⟩ = some (.int .i64 x.thick) ∧ W.cell? ⟨w.heap.size, 5, none⟩ = some (.int .i64 x.count)) ∧ w.heap.size < W.heap.size ∧ Below w.heap.size w W) ?_ ?_
      · exact ⟨⟨by simp [go_sem], by simp [go_sem], by simp [go_sem], by simp [go_sem], by simp [go_sem], by simp [go_sem]⟩, by simp, (Below.refl _ _).alloc (Nat.le_refl _) _⟩
      rintro W ⟨⟨d0, d1, d2, d3, d4, d5⟩, hzW, hbW⟩
      cases h1 : nameB x.name
      · go_wp2_with (first | (go_at_call 44; refine (checkStockP_any _ l _ _ st _ _ (hs.keep (hbW)) hsl (hv.keep (hbW)) hl).mono ?_; rw [HCS.out]; rintro e w1 ⟨rfl, hb1⟩; have e0 := cell_keep hb1 d0; have e1 := cell_keep hb1 d1; have e2 := cell_keep hb1 d2; have e3 := cell_keep hb1 d3; have e4 := cell_keep hb1 d4; have e5 := cell_keep hb1 d5; have hc1 := hbW.trans (hb1.mono hbW.size); have hzW1 : w.heap.size < w1.heap.size := (by have := hb1.size; omega)) | (go_at_call 98; refine (isName_any _ _ (by assumption)).mono ?_; rintro e w' ⟨rfl, rfl⟩) | (go_at_call 83; refine (within_any _ _ _ _).mono ?_; rintro e w' ⟨rfl, rfl⟩))
        go_ret2
        exact ⟨none, 0, ret_sl (by go_tidy; rw [HFL.out]; rfl) (by go_tidy; rw [HFE.out]; simp [blankErr, *]), by rw [HFL.out]; exact fun hn => absurd rfl hn, hc1⟩
      cases h2 : nameB x.species
      · go_wp2_with (first | (go_at_call 44; refine (checkStockP_any _ l _ _ st _ _ (hs.keep (hbW)) hsl (hv.keep (hbW)) hl).mono ?_; rw [HCS.out]; rintro e w1 ⟨rfl, hb1⟩; have e0 := cell_keep hb1 d0; have e1 := cell_keep hb1 d1; have e2 := cell_keep hb1 d2; have e3 := cell_keep hb1 d3; have e4 := cell_keep hb1 d4; have e5 := cell_keep hb1 d5; have hc1 := hbW.trans (hb1.mono hbW.size); have hzW1 : w.heap.size < w1.heap.size := (by have := hb1.size; omega)) | (go_at_call 98; refine (isName_any _ _ (by assumption)).mono ?_; rintro e w' ⟨rfl, rfl⟩) | (go_at_call 83; refine (within_any _ _ _ _).mono ?_; rintro e w' ⟨rfl, rfl⟩))
        go_ret2
        exact ⟨none, 0, ret_sl (by go_tidy; rw [HFL.out]; rfl) (by go_tidy; rw [HFE.out]; simp [blankErr, *]), by rw [HFL.out]; exact fun hn => absurd rfl hn, hc1⟩
      cases h3 : withinB x.length 1 600000
      · go_wp2_with (first | (go_at_call 44; refine (checkStockP_any _ l _ _ st _ _ (hs.keep (hbW)) hsl (hv.keep (hbW)) hl).mono ?_; rw [HCS.out]; rintro e w1 ⟨rfl, hb1⟩; have e0 := cell_keep hb1 d0; have e1 := cell_keep hb1 d1; have e2 := cell_keep hb1 d2; have e3 := cell_keep hb1 d3; have e4 := cell_keep hb1 d4; have e5 := cell_keep hb1 d5; have hc1 := hbW.trans (hb1.mono hbW.size); have hzW1 : w.heap.size < w1.heap.size := (by have := hb1.size; omega)) | (go_at_call 98; refine (isName_any _ _ (by assumption)).mono ?_; rintro e w' ⟨rfl, rfl⟩) | (go_at_call 83; refine (within_any _ _ _ _).mono ?_; rintro e w' ⟨rfl, rfl⟩))
        go_ret2
        exact ⟨none, 0, ret_sl (by go_tidy; rw [HFL.out]; rfl) (by go_tidy; rw [HFE.out]; simp [blankErr, *]), by rw [HFL.out]; exact fun hn => absurd rfl hn, hc1⟩
      cases h4 : withinB x.width 1 600000
      · go_wp2_with (first | (go_at_call 44; refine (checkStockP_any _ l _ _ st _ _ (hs.keep (hbW)) hsl (hv.keep (hbW)) hl).mono ?_; rw [HCS.out]; rintro e w1 ⟨rfl, hb1⟩; have e0 := cell_keep hb1 d0; have e1 := cell_keep hb1 d1; have e2 := cell_keep hb1 d2; have e3 := cell_keep hb1 d3; have e4 := cell_keep hb1 d4; have e5 := cell_keep hb1 d5; have hc1 := hbW.trans (hb1.mono hbW.size); have hzW1 : w.heap.size < w1.heap.size := (by have := hb1.size; omega)) | (go_at_call 98; refine (isName_any _ _ (by assumption)).mono ?_; rintro e w' ⟨rfl, rfl⟩) | (go_at_call 83; refine (within_any _ _ _ _).mono ?_; rintro e w' ⟨rfl, rfl⟩))
        go_ret2
        exact ⟨none, 0, ret_sl (by go_tidy; rw [HFL.out]; rfl) (by go_tidy; rw [HFE.out]; simp [blankErr, *]), by rw [HFL.out]; exact fun hn => absurd rfl hn, hc1⟩
      cases h5 : withinB x.thick 1 600000
      · go_wp2_with (first | (go_at_call 44; refine (checkStockP_any _ l _ _ st _ _ (hs.keep (hbW)) hsl (hv.keep (hbW)) hl).mono ?_; rw [HCS.out]; rintro e w1 ⟨rfl, hb1⟩; have e0 := cell_keep hb1 d0; have e1 := cell_keep hb1 d1; have e2 := cell_keep hb1 d2; have e3 := cell_keep hb1 d3; have e4 := cell_keep hb1 d4; have e5 := cell_keep hb1 d5; have hc1 := hbW.trans (hb1.mono hbW.size); have hzW1 : w.heap.size < w1.heap.size := (by have := hb1.size; omega)) | (go_at_call 98; refine (isName_any _ _ (by assumption)).mono ?_; rintro e w' ⟨rfl, rfl⟩) | (go_at_call 83; refine (within_any _ _ _ _).mono ?_; rintro e w' ⟨rfl, rfl⟩))
        go_ret2
        exact ⟨none, 0, ret_sl (by go_tidy; rw [HFL.out]; rfl) (by go_tidy; rw [HFE.out]; simp [blankErr, *]), by rw [HFL.out]; exact fun hn => absurd rfl hn, hc1⟩
      cases h6 : withinB x.count 1 200
      · go_wp2_with (first | (go_at_call 44; refine (checkStockP_any _ l _ _ st _ _ (hs.keep (hbW)) hsl (hv.keep (hbW)) hl).mono ?_; rw [HCS.out]; rintro e w1 ⟨rfl, hb1⟩; have e0 := cell_keep hb1 d0; have e1 := cell_keep hb1 d1; have e2 := cell_keep hb1 d2; have e3 := cell_keep hb1 d3; have e4 := cell_keep hb1 d4; have e5 := cell_keep hb1 d5; have hc1 := hbW.trans (hb1.mono hbW.size); have hzW1 : w.heap.size < w1.heap.size := (by have := hb1.size; omega)) | (go_at_call 98; refine (isName_any _ _ (by assumption)).mono ?_; rintro e w' ⟨rfl, rfl⟩) | (go_at_call 83; refine (within_any _ _ _ _).mono ?_; rintro e w' ⟨rfl, rfl⟩))
        go_ret2
        exact ⟨none, 0, ret_sl (by go_tidy; rw [HFL.out]; rfl) (by go_tidy; rw [HFE.out]; simp [blankErr, *]), by rw [HFL.out]; exact fun hn => absurd rfl hn, hc1⟩
      · exact absurd (by simp [blankErr, *]) HNB.out
    · obtain ⟨E, hEE⟩ : ∃ E, E = checkStockE l st := ⟨_, rfl⟩
      have HFE := Lib.hid (show fitE l st x = E by rw [fitE, if_neg hC, hEE])
      have HCS := Lib.hid hEE.symm
      have hEb : (E != 0) = true := by rw [hEE]; simpa using hC
      clear hE hC hEE
      go_enter Try.func54, Try.ntmps54
      go_upto_region 1 with fail
      refine gen_world (fun W => (W.cell? ⟨w.heap.size, 0, none⟩ = some (.string x.name) ∧ W.cell? ⟨w.heap.size, 1, none⟩ = some (.string x.species) ∧ W.cell? ⟨w.heap.size, 2, none⟩ = some (.int .i64 x.length) ∧ W.cell? ⟨w.heap.size, 3, none⟩ = some (.int .i64 x.width) ∧ W.cell? ⟨w.heap.size, 4, none⟩ = some (.int .i64 x.thick) ∧ W.cell? ⟨w.heap.size, 5, none⟩ = some (.int .i64 x.count)) ∧ w.heap.size < W.heap.size ∧ Below w.heap.size w W) ?_ ?_
      · exact ⟨⟨by simp [go_sem], by simp [go_sem], by simp [go_sem], by simp [go_sem], by simp [go_sem], by simp [go_sem]⟩, by simp, (Below.refl _ _).alloc (Nat.le_refl _) _⟩
      rintro W ⟨⟨d0, d1, d2, d3, d4, d5⟩, hzW, hbW⟩
      go_wp2_with (first | (go_at_call 44; refine (checkStockP_any _ l _ _ st _ _ (hs.keep (hbW)) hsl (hv.keep (hbW)) hl).mono ?_; rw [HCS.out]; rintro e w1 ⟨rfl, hb1⟩; have e0 := cell_keep hb1 d0; have e1 := cell_keep hb1 d1; have e2 := cell_keep hb1 d2; have e3 := cell_keep hb1 d3; have e4 := cell_keep hb1 d4; have e5 := cell_keep hb1 d5; have hc1 := hbW.trans (hb1.mono hbW.size); have hzW1 : w.heap.size < w1.heap.size := (by have := hb1.size; omega)) | (go_at_call 98; refine (isName_any _ _ (by assumption)).mono ?_; rintro e w' ⟨rfl, rfl⟩) | (go_at_call 83; refine (within_any _ _ _ _).mono ?_; rintro e w' ⟨rfl, rfl⟩))
      go_ret2
      exact ⟨none, 0, ret_sl (by go_tidy; rw [HFL.out]; rfl) (by go_tidy; rw [HFE.out]), by rw [HFL.out]; exact fun hn => absurd rfl hn, hc1⟩
end Go.Proofs.Ythhchnhidhgccaa
