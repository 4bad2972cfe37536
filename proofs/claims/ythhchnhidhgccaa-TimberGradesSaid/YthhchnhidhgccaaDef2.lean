/- What the program's defective returns. -/
import Derived.Test.YthhchnhidhgccaaDef1
set_option linter.unusedVariables false
set_option linter.unusedSimpArgs false
namespace Go.Proofs.Ythhchnhidhgccaa
open Go Go.RowKit

def defK (b : Board) (k : Nat) : List Int := (b.defects.take k).flatMap fun d => [d.x1, d.x2]
theorem defK_step {b : Board} {k : Nat} (hk : k < b.defects.length) : defK b (k + 1) = defK b k ++ [b.defects[k].x1, b.defects[k].x2] := by
  unfold defK
  rw [List.take_succ_eq_append_getElem hk, List.flatMap_append]; simp
theorem defK_len (b : Board) (k : Nat) (hk : k ≤ b.defects.length) : (defK b k).length = 2 * k := by
  induction k with
  | zero => simp [defK]
  | succ k ih => rw [defK_step hk, List.length_append, ih (by omega)]; simp; omega

set_option maxRecDepth 100000 in
set_option maxHeartbeats 8000000 in
theorem defective_any (b : Board) (a : Option Addr) (c : Nat) (w : World) (hv : Rects.V w a b.defects) (hl : b.defects.length ≤ 60) (hb : DefsIn b) (hb2 : b.length ≤ 600000) (hw2 : b.width ≤ 100000) :
    Calls Try.prog 104 #[.agg #[.string b.name, .string b.species, .int .i64 b.length, .int .i64 b.width, .int .i64 b.thick, .int .i64 b.cut, .int .i64 b.moisture, .slice a b.defects.length c]] w fun e w' => e = .returned (.int .i64 (progArea b)) ∧ Below w.heap.size w w' := by
  obtain ⟨i0, hi0, hz0, hz1, hz2⟩ := info_parts int_info
  obtain ⟨j0, hj0, hy0, hy1, hy2⟩ := info_parts iv_info
  have hw1 := hb.wid
  have HIN := Lib.hid hb.ins
  have HDX := Lib.hid (show uniq (defK b b.defects.length) = defXs b by unfold defK defXs; rw [List.take_length])
  have HXB := Lib.hid (show ∀ z ∈ defXs b, 0 ≤ z ∧ z ≤ 600000 from fun z hz => by
    obtain ⟨d, hd, h⟩ := defXs_mem.1 hz
    have := hb.ins d hd; omega)
  have HXA := Lib.hid (show (defXs b).Pairwise (· < ·) from uniq_asc _)
  have HXL := Lib.hid (show (defXs b).length ≤ 120 from by
    unfold defXs
    refine Nat.le_trans (uniq_length _) ?_
    have := defK_len b b.defects.length (Nat.le_refl _)
    unfold defK at this
    rw [List.take_length] at this
    omega)
  have HPA := Lib.hid (show progArea b = 0 + chain (stripA b.defects b.width) ((defXs b).drop 0) by unfold progArea; simp)
  clear hb
  go_enter Try.func104, Try.ntmps104
  go_upto_region 1 with fail
  refine gen_world (fun W => W.cell? ⟨w.heap.size, 3, none⟩ = some (.int .i64 b.width) ∧ W.cell? ⟨w.heap.size, 7, none⟩ = some (.slice a b.defects.length c) ∧ Below w.heap.size w W ∧ w.heap.size < W.heap.size) ?_ ?_
  · exact ⟨by simp [go_sem], by simp [go_sem], (Below.refl _ _).alloc (Nat.le_refl _) _, by simp⟩
  rintro W ⟨e3, e7, hbW, hzW⟩
  have hvW := hv.keep hbW
  go_wp2_with fail
  go_loopw [3, 19] (fun v i wr => ∃ k : Nat, k ≤ b.defects.length ∧ i = .int .i64 k ∧ wr.ownsRow W.heap.size 3 1 v (2 * k) ((defK b k).map (Value.int .i64)) ∧ Below W.heap.size W wr) (fun _ i _ => b.defects.length - (intOf i).toNat)
  case atStart => exact ⟨0, Nat.zero_le _, rfl, ⟨rfl, .inl ⟨rfl, rfl⟩⟩, Below.refl _ _⟩
  case round =>
    obtain ⟨k, hk, rfl, hown, hbr⟩ := hrel
    have hszr := hbr.size
    by_cases hlt : k < b.defects.length
    · obtain ⟨bk, off, rfl, hat⟩ := (hvW.keep hbr).at_ hlt
      obtain ⟨c0, c1, c2, c3, -⟩ := hat
      have HS := Lib.hid (defK_step hlt)
      generalize hd0 : b.defects[k] = d at *
      clear hd0
      go_wp2_with (at_builtin; refine wpList_append_own _ rfl _ _ 97 rfl W.heap.size 3 i0 (.int .i64 0) 1 8 Try.underlying97 hi0 hz0 hz1 hz2 rfl (by decide) _ _ _ rfl ((hown.alloc _).alloc _) ⟨wr.heap.size + 1, 0, none⟩ 2 2 [.int .i64 d.x1, .int .i64 d.x2] rfl rfl (news_of _ _ _ _ (by simp)) (by simp [Value.oneCell']) (by simp only [maxLen]; omega) (by omega) (by simp; omega) ?_; intro v' w5 ho5 hgr5 hnil5; have hgr6 : ((wr.alloc (.cells #[.int .i64 d.x1, .int .i64 d.y1, .int .i64 d.x2, .int .i64 d.y2] 55)).alloc (.cells #[.int .i64 d.x1, .int .i64 d.x2] 3)).grownBy w5 u3.ownBlock := hgr5; clear hgr5; have HGR := Lib.hid hgr6; clear hgr6; have HO5 := Lib.hid ho5; clear ho5 hnil5)
      go_roundw
      case rel => exact ⟨k + 1, by omega, by go_num, by rw [HS.out, List.map_append]; exact HO5.out, ((hbr.alloc (by omega) _).alloc (by simp; omega) _).grown HGR.out (by simp; omega) (fun j hj => own_base hown hj)⟩
      case measure => simp [intOf]; omega
    · obtain rfl : k = b.defects.length := by omega
      have hzl : (defK b b.defects.length).length < 1000000 := by rw [defK_len b _ (Nat.le_refl _)]; omega
      have HLN := Lib.hid (linesV_any W.heap.size u3 (2 * b.defects.length) (defK b b.defects.length) wr hown hzl hszr)
      rw [HDX.out] at HLN
      obtain ⟨X, hX⟩ : ∃ X, X = defXs b := ⟨_, rfl⟩
      rw [← hX] at HLN HXB HXA HXL HPA
      have hXL := HXL.out
      clear hX HXL hown hzl
      go_wp2_with (go_at_call 112; refine HLN.out.mono ?_; rintro e w1 ⟨ax, cx, rfl, hix, hb1⟩)
      have hbW1 : Below W.heap.size W w1 := hbr.trans hb1
      have f3 := cell_keep hbW1 e3
      have f7 := cell_keep hbW1 e7
      have hv1 := hvW.keep hbW1
      have hc1 : Below w.heap.size w w1 := hbW.trans (hbW1.mono (by omega))
      have hz1 : w.heap.size < w1.heap.size := by have := hbW1.size; omega
      clear e3 e7 hvW hbW hzW hbr hszr hb1 hbW1 HLN hlt hk
      go_loopw [6, 7] (fun s i wr => ∃ (k : Nat) (S : Int), i = .int .i64 ((k : Int) + 1) ∧ s = .int .i64 S ∧ k ≤ X.length ∧ (0 ≤ S ∧ S ≤ 60000000000 * (k : Int)) ∧ Hid (progArea b = S + chain (stripA b.defects b.width) (X.drop k)) ∧ Below w1.heap.size w1 wr) (fun _ i _ => X.length + 1 - (intOf i).toNat)
      case atStart => exact ⟨0, 0, rfl, rfl, Nat.zero_le _, by simp, HPA, Below.refl _ _⟩
      case round =>
        clear HPA
        obtain ⟨k, S, rfl, rfl, hk, hS, HPA, hbr⟩ := hrel
        have hszr := hbr.size
        by_cases hlt : k + 1 < X.length
        · have hlt0 : k < X.length := by omega
          obtain ⟨bx, ox, hax, hbx, cx0⟩ := (hix.keep hbr).at' hlt0
          have cx1 := (by rw [hax] at hix; exact (hix.keep hbr).cell hlt : wr.cell? ⟨bx, ox + (k + 1), none⟩ = some (.int .i64 X[k + 1]))
          subst hax
          have hxb0 := HXB.out _ (List.getElem_mem hlt0)
          have hxb1 := HXB.out _ (List.getElem_mem hlt)
          have hxlt : X[k] < X[k + 1] := List.pairwise_iff_getElem.1 HXA.out _ _ _ _ (by omega)
          have HN := Lib.hid (chain_step hlt HPA.out)
          clear HPA
          generalize X[k] = x at *
          generalize X[k + 1] = x' at *
          have g3 := cell_keep hbr f3
          have g7 := cell_keep hbr f7
          have hvr := hv1.keep hbr
          have hzr : w.heap.size < wr.heap.size := by omega
          have hki : (k : Int) + 1 < (X.length : Int) := by omega
          have hki0 : (k : Int) < (X.length : Int) := by omega
          have hkn : ((k : Int) + 1).toNat = k + 1 := by omega
          have hkw : IntKind.i64.wrap ((k : Int) + 1) = (k : Int) + 1 := IntWalk.i64_in _ (by omega)
          have hkm : IntKind.i64.wrap ((k : Int) + 1 - 1) = (k : Int) := by rw [Int.add_sub_cancel]; exact IntWalk.i64_in _ (by omega)
          have hkm' : IntKind.i64.wrap (k : Int) = (k : Int) := IntWalk.i64_in _ (by omega)
          have hk0 : (0 : Int) ≤ (k : Int) + 1 := by omega
          have hk00 : (0 : Int) ≤ (k : Int) := by omega
          go_wp2_with fail
          refine wp_region_mix (fun w' => ∃ g, w' = grew wr g) 13 [(0, true), (1, true), (2, true), (3, true), (4, true), (5, true), (6, true), (7, true), (8, true), (9, true), (10, true), (11, true), (12, false)] (by kernel_rfl) (by kernel_rfl) (grew_drew0 _) ?_
          have hbr8 := hbr.drew
          have hb66 : Below wr.heap.size wr wr.drew := (Below.refl _ _).drew
          generalize wr.drew = w8 at *
          have hz8 := hbr8.size
          simp only [orderOps, nthOp, List.drop_succ_cons, List.drop_zero]
          repeat (refine wpMix_take ?_; (first | go_big_quiet_step (fail) | quiet_step (fail)); refine wpQuiet_nil ?_)
          refine wpMix_gen ?_
          go_wp2_with fail
          refine One_mk (below_grew (hb66.alloc hb66.size _)) (wpMix_end ?_)
          go_wp2_with fail
          refine NP_mk ?_
          go_upto_region 13 with fail
          refine gen_world (fun W2 => (W2.cell? ⟨w8.heap.size, 0, none⟩ = some (.int .i64 x) ∧ W2.cell? ⟨w8.heap.size, 1, none⟩ = some (.int .i64 0) ∧ W2.cell? ⟨w8.heap.size, 2, none⟩ = some (.int .i64 x') ∧ W2.cell? ⟨w8.heap.size, 3, none⟩ = some (.int .i64 b.width)) ∧ w1.heap.size ≤ w8.heap.size ∧ Below wr.heap.size wr W2) ?_ ?_
          · exact ⟨⟨by simp [go_sem], by simp [go_sem], by simp [go_sem], by simp [go_sem]⟩, hz8, hb66.alloc hb66.size _⟩
          generalize w8.heap.size = B at *
          rintro W2 ⟨⟨s0, s1, s2, s3⟩, hBz, hb2W⟩
          have hbr2 : Below w1.heap.size w1 W2 := hbr.trans (hb2W.mono (by omega))
          have cx0 := cell_keep hb2W cx0
          have cx1 := cell_keep hb2W cx1
          have g7 := cell_keep hb2W g7
          have hbx2 : bx < W2.heap.size := by simpa using block_lt_of_cell cx0
          have hv2 := hvr.keep hb2W
          have hz2 := hbr2.size
          have hzr : w.heap.size < W2.heap.size := by omega
          clear hvr hbr8 hb66 hz8 hb2W hbx
          go_wp2_with fail
          go_loopw [9, 54] (fun v i wr => ∃ m : Nat, m ≤ b.defects.length ∧ i = .int .i64 m ∧ wr.ownsRow W2.heap.size 41 2 v (spansK b.defects x x' b.width m).length ((spansK b.defects x x' b.width m).flatMap cellsI) ∧ Below W2.heap.size W2 wr) (fun _ i _ => b.defects.length - (intOf i).toNat)
          case atStart => exact ⟨0, Nat.zero_le _, rfl, ⟨by simp [spansK], .inl ⟨rfl, by simp [spansK]⟩⟩, Below.refl _ _⟩
          case round =>
            obtain ⟨m, hm, rfl, hown, hbq⟩ := hrel
            have hsq := hbq.size
            have hzq : w.heap.size < wr.heap.size := by omega
            by_cases hmt : m < b.defects.length
            · obtain ⟨bd, od, rfl, hat⟩ := (hv2.keep hbq).at_ hmt
              obtain ⟨c0, c1, c2, c3, -⟩ := hat
              have t0 := cell_keep hbq s0
              have t1 := cell_keep hbq s1
              have t2 := cell_keep hbq s2
              have t3 := cell_keep hbq s3
              have hBq : B < wr.heap.size := by have := block_lt_of_cell t0; simpa using this
              cases hov : overlapB b.defects[m] ⟨x, 0, x', b.width⟩
              · have HSP := Lib.hid (spansK_no hmt hov)
                have HOV := Lib.hid hov
                clear hov
                generalize b.defects[m] = d at *
                go_wp2_with (go_at_call 113; refine (overlap_any d ⟨x, 0, x', b.width⟩ _).mono ?_; rw [HOV.out]; rintro e w5 ⟨rfl, hb5⟩; have q1 := cell_keep hb5 (show (wr.alloc (.cells #[.int .i64 d.x1, .int .i64 d.y1, .int .i64 d.x2, .int .i64 d.y2] 55)).cell? ⟨wr.heap.size, 1, none⟩ = some (.int .i64 d.y1) by simp [go_sem]); have q3 := cell_keep hb5 (show (wr.alloc (.cells #[.int .i64 d.x1, .int .i64 d.y1, .int .i64 d.x2, .int .i64 d.y2] 55)).cell? ⟨wr.heap.size, 3, none⟩ = some (.int .i64 d.y2) by simp [go_sem]))
                go_roundw
                case rel => exact ⟨m + 1, by omega, by go_num, by rw [HSP.out]; exact own_keep (hown.alloc _) hb5, (hbq.alloc (by omega) _).trans (hb5.mono (by simp; omega))⟩
                case measure => simp [intOf]; omega
              · have HSP := Lib.hid (spansK_yes hmt hov)
                have HOV := Lib.hid hov
                have hsl := spansK_len b.defects x x' b.width m
                clear hov
                generalize b.defects[m] = d at *
                obtain ⟨F, hF⟩ : ∃ F, F = spansK b.defects x x' b.width m := ⟨_, rfl⟩
                rw [← hF] at hown HSP hsl
                obtain ⟨mm, hmm⟩ : ∃ mm, mm = F.length := ⟨_, rfl⟩
                rw [← hmm] at hown hsl
                have HMM := Lib.hid hmm
                clear hF hmm
                go_wp2_with (first
                  | (go_at_call 113; refine (overlap_any d ⟨x, 0, x', b.width⟩ _).mono ?_; rw [HOV.out]; rintro e w5 ⟨rfl, hb5⟩; have q1 := cell_keep hb5 (show (wr.alloc (.cells #[.int .i64 d.x1, .int .i64 d.y1, .int .i64 d.x2, .int .i64 d.y2] 55)).cell? ⟨wr.heap.size, 1, none⟩ = some (.int .i64 d.y1) by simp [go_sem]); have q3 := cell_keep hb5 (show (wr.alloc (.cells #[.int .i64 d.x1, .int .i64 d.y1, .int .i64 d.x2, .int .i64 d.y2] 55)).cell? ⟨wr.heap.size, 3, none⟩ = some (.int .i64 d.y2) by simp [go_sem]))
                  | (at_builtin; refine wpList_append_own _ rfl _ _ 110 rfl W2.heap.size 41 j0 (.agg #[.int .i64 0, .int .i64 0]) 2 16 Try.underlying110 hj0 hy0 hy1 hy2 rfl (by decide) _ mm _ rfl ((own_keep (hown.alloc _) hb5).alloc _) ⟨w5.heap.size, 0, none⟩ 1 1 (cellsI (d.y1, d.y2)) rfl rfl (news_of _ _ _ _ (by simp)) (cellsI_one _) (by simp only [maxLen]; omega) (by omega) (by have := hb5.size; simp at this ⊢; omega) ?_; intro v' w6 ho6 hgr6 hnil6; have hgr7 : (w5.alloc (.cells #[.int .i64 d.y1, .int .i64 d.y2] 41)).grownBy w6 (Value.ownBlock _) := hgr6; have HGR := Lib.hid hgr7; clear hgr6 hgr7; have HO6 := Lib.hid ho6; clear ho6 hnil6))
                go_roundw
                case rel => exact ⟨m + 1, by omega, by go_num, by rw [HSP.out, List.length_append, ← HMM.out, List.flatMap_append]; simpa using HO6.out, ((hbq.alloc (by omega) _).trans (hb5.mono (by simp; omega)) |>.alloc (by have := hb5.size; simp at this; omega) _).grown HGR.out (by have := hb5.size; simp at this ⊢; omega) (fun j hj => own_base hown hj)⟩
                case measure => simp [intOf]; omega
            · obtain rfl : m = b.defects.length := by omega
              rw [spansK_all hxlt (fun d hd => by have := HIN.out d hd; omega)] at hown
              have HOB := Lib.hid (show ∀ z ∈ overl b.defects x x', 0 ≤ z.1 ∧ z.1 < z.2 ∧ z.2 ≤ b.width from fun z hz => by
                obtain ⟨d, hd, _, rfl⟩ := mem_overl.1 hz
                have := HIN.out d hd
                simp only; omega)
              have hol : (overl b.defects x x').length ≤ 60 := by
                unfold overl; rw [List.length_map]
                exact Nat.le_trans (List.length_filter_le _ _) hl
              have HST := Lib.hid (fun (r : List Iv) (hp : r.Perm (overl b.defects x x')) hs => show (r.foldl (spanStep (x' - x)) (S, 0)).1 = S + stripA b.defects b.width x x' by
                rw [spans_sum (wd := b.width) hs (fun v hv => HOB.out v (hp.mem_iff.1 hv)) (by omega)]
                unfold stripA
                rw [cover_congr (fun v => hp.mem_iff)])
              have hsb := stripA_bd (ds := b.defects) hxb0.1 hxlt hxb1.2 (by omega : 0 ≤ b.width) hw2
              generalize overl b.defects x x' = O at *
              generalize stripA b.defects b.width x x' = T at *
              obtain ⟨ao, co, rfl, hoc, hocm⟩ := own_slice hown
              have HOW := Lib.hid hown
              have cx0 := cell_keep hbq cx0
              have cx1 := cell_keep hbq cx1
              clear hown s0 s1 s2 s3 hv2 hmt hm
              go_wp2_with (go_at_call 122; refine (sortIv_any W2.heap.size _ O.length O _ HOW.out (fun d hd => by have := HOB.out d hd; omega) (by omega) hsq).mono ?_; rintro e w5 ⟨rfl, r, hp, hs, ho5, hb5⟩; have HP := Lib.hid hp; have HSO := Lib.hid hs; clear hp hs)
              have hVr : Ivs.V w5 ao r := own_rowV (enc := cellsI) cellsI_len (by decide) (fun b' o x hx h => ivAt_of h) ho5
              have hrl : r.length ≤ O.length := Nat.le_of_eq HP.out.length_eq
              have hrl' : O.length ≤ r.length := Nat.le_of_eq HP.out.length_eq.symm
              have HRB := Lib.hid (show ∀ z ∈ r, 0 ≤ z.1 ∧ z.1 < z.2 ∧ z.2 ≤ b.width from fun z hz => HOB.out z (HP.out.mem_iff.1 hz))
              have HF := Lib.hid (show ((r.drop 0).foldl (spanStep (x' - x)) (S, 0)).1 = S + T from HST.out r HP.out HSO.out)
              have d0 := (hb5.cell (p := ⟨bx, ox + k, none⟩) hbx2).trans cx0
              have d1 := (hb5.cell (p := ⟨bx, ox + (k + 1), none⟩) hbx2).trans cx1
              have hbr5 : Below w1.heap.size w1 w5 := (hbr2.trans (hbq.mono hz2)).trans (hb5.mono hz2)
              have hz5 := hbr5.size
              have hbx5 : bx < w5.heap.size := by simpa using block_lt_of_cell d0
              have hTB : (x' - x) * b.width ≤ 60000000000 := by
                have : (x' - x) * b.width ≤ 600000 * 100000 := Int.mul_le_mul (by omega) (by omega) (by omega) (by omega)
                omega
              clear ho5 HST HOB HOW hb5 hbq hsq hzq cx0 cx1
              go_loopw [6, 12, 74] (fun s e i wr => ∃ (m : Nat) (S' E : Int), m ≤ r.length ∧ i = .int .i64 m ∧ s = .int .i64 S' ∧ e = .int .i64 E ∧ (0 ≤ E ∧ E ≤ b.width) ∧ (0 ≤ S' ∧ S' ≤ S + (x' - x) * E) ∧ Hid (((r.drop m).foldl (spanStep (x' - x)) (S', E)).1 = S + T) ∧ Below w5.heap.size w5 wr) (fun _ _ i _ => r.length - (intOf i).toNat)
              case atStart => exact ⟨0, S, 0, Nat.zero_le _, rfl, rfl, rfl, ⟨Int.le_refl _, by omega⟩, ⟨hS.1, by simp⟩, HF, Below.refl _ _⟩
              case round =>
                clear HF
                obtain ⟨m, S', E, hm, rfl, rfl, rfl, hE, hS', HF, hbu⟩ := hrel
                have hsu := hbu.size
                by_cases hmt : m < r.length
                · obtain ⟨bq, oq, rfl, q0, q1⟩ := (hVr.keep hbu).at_ hmt
                  have hmi : (m : Int) < (O.length : Int) := by omega
                  have hzb := HRB.out _ (List.getElem_mem hmt)
                  have HF2 := Lib.hid (show ((r.drop (m + 1)).foldl (spanStep (x' - x)) (spanStep (x' - x) (S', E) r[m])).1 = S + T by rw [← HF.out, List.drop_eq_getElem_cons hmt]; rfl)
                  have h0 := cell_keep hbu d0
                  have h1 := cell_keep hbu d1
                  have hbxu : bx < wr.heap.size := by omega
                  clear HF
                  generalize r[m] = z at *
                  obtain ⟨lo, hi⟩ := z
                  simp only at hzb q0 q1
                  by_cases hc : max lo E < hi
                  · have HF := Lib.hid (show ((r.drop (m + 1)).foldl (spanStep (x' - x)) (S' + (x' - x) * (hi - max lo E), hi)).1 = S + T by
                      rw [← HF2.out]; unfold spanStep; rw [if_pos hc])
                    have p1 : (x' - x) * (hi - max lo E) ≤ (x' - x) * (hi - E) := Int.mul_le_mul_of_nonneg_left (by omega) (by omega)
                    have p2 : 0 ≤ (x' - x) * (hi - max lo E) := Int.mul_nonneg (by omega) (by omega)
                    have p3 : (x' - x) * hi ≤ (x' - x) * b.width := Int.mul_le_mul_of_nonneg_left (by omega) (by omega)
                    have p4 : (x' - x) * (hi - E) = (x' - x) * hi - (x' - x) * E := Int.mul_sub _ _ _
                    have v1 : IntKind.i64.wrap (x' - x) = x' - x := IntWalk.i64_in _ (by omega)
                    have v2 : IntKind.i64.wrap (hi - max lo E) = hi - max lo E := IntWalk.i64_in _ (by omega)
                    have v3 : IntKind.i64.wrap ((x' - x) * (hi - max lo E)) = (x' - x) * (hi - max lo E) := IntWalk.i64_in _ (by omega)
                    have v4 : IntKind.i64.wrap (S' + (x' - x) * (hi - max lo E)) = S' + (x' - x) * (hi - max lo E) := IntWalk.i64_in _ (by omega)
                    clear HF2
                    go_wp2_with fail
                    refine gen_world (fun W9 => (W9.cell? ⟨wr.heap.size, 0, none⟩ = some (.int .i64 lo) ∧ W9.cell? ⟨wr.heap.size, 1, none⟩ = some (.int .i64 hi)) ∧ (W9.cell? ⟨bx, ox + k, none⟩ = some (.int .i64 x) ∧ W9.cell? ⟨bx, ox + (k + 1), none⟩ = some (.int .i64 x')) ∧ Below w5.heap.size w5 W9) ?_ ?_
                    · exact ⟨⟨by simp [go_sem], by simp [go_sem]⟩, ⟨by simp [go_sem, *], by simp [go_sem, *]⟩, hbu.alloc (by omega) _⟩
                    rintro W9 ⟨⟨r0, r1⟩, ⟨r2, r3⟩, hbu9⟩
                    clear hbu h0 h1 q0 q1
                    have hz9 : wr.heap.size < W9.heap.size := by simpa using block_lt_of_cell r0
                    have hbx9 : bx < W9.heap.size := by omega
                    go_quiet (fail)
                    rename_i nq
                    have r4 : (W9.drewN nq).cell? ⟨wr.heap.size, 1, none⟩ = some (.int .i64 hi) := r1
                    have hbu10 := below_drewN hbu9 nq
                    clear r0 r1 r2 r3 hbu9 v1 v2 v3 v4
                    generalize W9.drewN nq = W10 at *
                    go_wp2_with fail
                    go_roundw
                    case rel => exact ⟨m + 1, S' + (x' - x) * (hi - max lo E), hi, by omega, by go_num, rfl, rfl, by omega, by omega, HF, hbu10⟩
                    case measure => simp [intOf]; omega
                  · have HF := Lib.hid (show ((r.drop (m + 1)).foldl (spanStep (x' - x)) (S', E)).1 = S + T by
                      rw [← HF2.out]; unfold spanStep; rw [if_neg hc])
                    clear HF2
                    go_wp2_with fail
                    go_roundw
                    case rel => exact ⟨m + 1, S', E, by omega, by go_num, rfl, rfl, hE, hS', HF, hbu.alloc (by omega) _⟩
                    case measure => simp [intOf]; omega
                · have HE := Lib.hid (show S' = S + T by rw [← HF.out, List.drop_of_length_le (by omega)]; rfl)
                  have hmi : ¬ (m : Int) < (O.length : Int) := by omega
                  have hbu1 : Below w1.heap.size w1 wr := hbr5.trans (hbu.mono hz5)
                  go_wp2_with fail
                  go_roundw
                  case rel => exact ⟨k + 1, S', by go_num, rfl, by omega, by rw [HE.out]; omega, by rw [HE.out]; exact HN, hbu1⟩
                  case measure => simp [intOf]; omega
        · have HE := Lib.hid (chain_end (by omega) HPA.out)
          have hkn : ¬ (k : Int) + 1 < (X.length : Int) := by omega
          clear HPA
          go_wp2_with fail
          go_ret
          exact ⟨ret_int (by rw [HE.out]), hc1.trans (hbr.mono (by omega))⟩
end Go.Proofs.Ythhchnhidhgccaa
