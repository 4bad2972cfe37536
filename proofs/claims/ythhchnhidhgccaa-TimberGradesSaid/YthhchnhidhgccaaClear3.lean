/- The reference's clear lengths. -/
import Derived.Test.YthhchnhidhgccaaClear2
import Derived.Test.YthhchnhidhgccaaWidR
import Derived.Test.YthhchnhidhgccaaMix
set_option linter.unusedVariables false
set_option linter.unusedSimpArgs false
namespace Go.Proofs.Ythhchnhidhgccaa
open Go Go.RowKit

section
variable {α : Type} {enc : α → List Value} {k : Nat}
theorem flat_set (hk : ∀ x, (enc x).length = k) : ∀ {l : List α} {i c : Nat} {x' : α} {u : Value} (hi : i < l.length), c < k → enc x' = (enc l[i]).set c u → (l.set i x').flatMap enc = (l.flatMap enc).set (i * k + c) u
  | [], _, _, _, _, hi, _, _ => absurd hi (by simp)
  | a :: l, 0, c, x', u, _, hc, hx => by
    simp only [List.set_cons_zero, List.flatMap_cons, Nat.zero_mul, Nat.zero_add]
    rw [List.set_append_left _ _ (by rw [hk]; exact hc), hx]; rfl
  | a :: l, i + 1, c, x', u, hi, hc, hx => by
    have hi' : i < l.length := by simpa using hi
    simp only [List.set_cons_succ, List.flatMap_cons]
    rw [List.set_append_right _ _ (by rw [hk, Nat.add_mul]; omega), hk, show (i + 1) * k + c - k = i * k + c by rw [Nat.add_mul]; omega, flat_set hk hi' hc (by simpa using hx)]
theorem own_setCell {w : World} {base e n g cap : Nat} {l : List α} {i c : Nat} {x' : α} {u : Value} (hk : ∀ x, (enc x).length = k) (h : w.ownsRow base e k (.slice (some ⟨g, 0, none⟩) n cap) n (l.flatMap enc)) (hk0 : 0 < k) (hi : i < l.length) (hc : c < k) (hx : enc x' = (enc l[i]).set c u) :
    (w.setCell ⟨g, i * k + c, none⟩ u).ownsRow base e k (.slice (some ⟨g, 0, none⟩) n cap) n ((l.set i x').flatMap enc) := by
  have hn := own_len hk hk0 h
  refine ⟨by rw [flat_len hk, List.length_set, hn], ?_⟩
  rcases h.2 with ⟨e0, _⟩ | ⟨g', cap', cur, e0, hb, hg, hnc, hm, hs, ht⟩
  · cases e0
  · injection e0 with e1 _ e3
    injection e1 with e1
    injection e1 with e1
    subst e1; subst e3
    refine .inr ⟨g, cap, cur.setIfInBounds (i * k + c) u, rfl, hb, ?_, hnc, hm, by simpa using hs, ?_⟩
    · simp [World.setCell, Array.getElem?_modify, hg]
    · rw [flat_set hk hi hc hx, ← ht, Array.toList_setIfInBounds, List.take_set]
end
theorem own_keep {w w' : World} {base e size n : Nat} {v : Value} {xs : List Value} (h : w.ownsRow base e size v n xs) (hb : Below w.heap.size w w') : w'.ownsRow base e size v n xs := by
  refine ⟨h.1, ?_⟩
  rcases h.2 with h0 | ⟨g, cap, cur, rfl, hbg, hblk, r⟩
  · exact .inl h0
  · exact .inr ⟨g, cap, cur, rfl, hbg, (hb.block g (Array.getElem?_eq_some_iff.1 hblk).1).trans hblk, r⟩
theorem below_setOwn {B : Nat} {w0 w : World} {p : Addr} {u : Value} (h : Below B w0 w) (hp : B ≤ p.block) : Below B w0 (w.setCell p u) := h.setCell hp u

theorem clearGo_step {ds : List Rect} {wd : Int} {X : List Int} {k : Nat} {out r : List Iv} (hk : k + 1 < X.length) (h : r = clearGo ds wd (X.drop k) out) : r = clearGo ds wd (X.drop (k + 1)) (clearStep ds wd out X[k] X[k + 1]) := by
  rw [h, List.drop_eq_getElem_cons (by omega : k < X.length), List.drop_eq_getElem_cons hk, clearGo]
theorem clearGo_end {ds : List Rect} {wd : Int} {X : List Int} {k : Nat} {out r : List Iv} (hk : X.length ≤ k + 1) (h : r = clearGo ds wd (X.drop k) out) : r = out := by
  rw [h]
  by_cases hk' : k < X.length
  · rw [List.drop_eq_getElem_cons hk', List.drop_of_length_le hk]; rfl
  · rw [List.drop_of_length_le (by omega)]; rfl
theorem joinIv_last {out : List Iv} {x x' : Int} {m : Nat} (hm : m + 1 = out.length) (h : (out[m]'(by omega)).2 = x) : joinIv out x x' = out.set m ((out[m]'(by omega)).1, x') := by
  unfold joinIv
  rw [List.getLast?_eq_getElem?, show out.length - 1 = m by omega, List.getElem?_eq_getElem (by omega)]
  simp only [h, if_true]
  have e1 : out.dropLast ++ [out[m]] = out := by
    have := List.dropLast_concat_getLast (l := out) (by rintro rfl; simp at hm)
    rw [List.getLast_eq_getElem] at this
    simpa [show out.length - 1 = m by omega] using this
  generalize hz : (out[m].1, x') = z
  conv => rhs; rw [← e1]
  rw [List.set_append_right _ _ (by simp; omega), List.length_dropLast, show m - (out.length - 1) = 0 by omega]
  rfl
theorem joinIv_more {out : List Iv} {x x' : Int} {m : Nat} (hm : m + 1 = out.length) (h : (out[m]'(by omega)).2 ≠ x) : joinIv out x x' = out ++ [(x, x')] := by
  unfold joinIv
  rw [List.getLast?_eq_getElem?, show out.length - 1 = m by omega, List.getElem?_eq_getElem (by omega)]
  simp only [h, if_false]

set_option maxRecDepth 100000 in
set_option maxHeartbeats 4000000 in
theorem clearR_any (b : Board) (a : Option Addr) (c : Nat) (w : World) (hv : Rects.V w a b.defects) (hl : b.defects.length ≤ 60) :
    Calls Try.prog 64 #[.agg #[.string b.name, .string b.species, .int .i64 b.length, .int .i64 b.width, .int .i64 b.thick, .int .i64 b.cut, .int .i64 b.moisture, .slice a b.defects.length c]] w fun e w' => ∃ (a' : Option Addr) (c' : Nat), e = .returned (.slice a' (refClear b).length c') ∧ Ivs.V w' a' (refClear b) ∧ (refClear b).length ≤ c' ∧ c' ≤ 9223372036854775807 ∧ Below w.heap.size w w' := by
  obtain ⟨j0, hj0, hy0, hy1, hy2⟩ := info_parts iv_info
  have hLX : (lineXs b).length ≤ 1000 := by
    have := lineK_len false b b.defects.length (Nat.le_refl _)
    rw [lineK_all] at this
    simp at this; omega
  have HLX := Lib.hid (fun w hv => linesR_any b a c false w hv hl)
  simp only [Bool.false_eq_true, if_false, if_true] at HLX
  have HX := Lib.hid (show refClear b = clearGo b.defects b.width ((lineXs b).drop 0) [] from rfl)
  generalize lineXs b = X at *
  go_enter Try.func64, Try.ntmps64
  go_upto_region 1 with fail
  refine gen_world (fun W => (W.cell? ⟨w.heap.size, 0, none⟩ = some (.string b.name) ∧ W.cell? ⟨w.heap.size, 1, none⟩ = some (.string b.species) ∧ W.cell? ⟨w.heap.size, 2, none⟩ = some (.int .i64 b.length) ∧ W.cell? ⟨w.heap.size, 3, none⟩ = some (.int .i64 b.width) ∧ W.cell? ⟨w.heap.size, 4, none⟩ = some (.int .i64 b.thick) ∧ W.cell? ⟨w.heap.size, 5, none⟩ = some (.int .i64 b.cut) ∧ W.cell? ⟨w.heap.size, 6, none⟩ = some (.int .i64 b.moisture) ∧ W.cell? ⟨w.heap.size, 7, none⟩ = some (.slice a b.defects.length c)) ∧ w.heap.size < W.heap.size ∧ Below w.heap.size w W) ?_ ?_
  · exact ⟨⟨by simp [go_sem], by simp [go_sem], by simp [go_sem], by simp [go_sem], by simp [go_sem], by simp [go_sem], by simp [go_sem], by simp [go_sem]⟩, by simp, (Below.refl _ _).alloc (Nat.le_refl _) _⟩
  rintro W ⟨⟨e0, e1, e2, e3, e4, e5, e6, e7⟩, hzW, hbW⟩
  have hvW := hv.keep hbW
  go_wp2_with (go_at_call 86; refine (HLX.out _ hvW).mono ?_; rintro e w1 ⟨ax, cx, rfl, hix, hlx, hcx, hb1⟩; have f0 := cell_keep hb1 e0; have f1 := cell_keep hb1 e1; have f2 := cell_keep hb1 e2; have f3 := cell_keep hb1 e3; have f4 := cell_keep hb1 e4; have f5 := cell_keep hb1 e5; have f6 := cell_keep hb1 e6; have f7 := cell_keep hb1 e7; have hv1 := hvW.keep hb1; clear e0 e1 e2 e3 e4 e5 e6 e7)
  have hz1 : w.heap.size < w1.heap.size := by have := hb1.size; omega
  have hbw1 : Below w.heap.size w w1 := hbW.trans (hb1.mono (by omega))
  go_loopw [4, 5] (fun v i wr => ∃ (k : Nat) (out : List Iv), k ≤ X.length ∧ i = .int .i64 k ∧ out.length ≤ k ∧ Hid (refClear b = clearGo b.defects b.width (X.drop k) out) ∧ wr.ownsRow w1.heap.size 41 2 v out.length (out.flatMap cellsI) ∧ Below w1.heap.size w1 wr) (fun _ i _ => X.length - (intOf i).toNat)
  case atStart => exact ⟨0, [], Nat.zero_le _, rfl, Nat.le_refl _, HX, ⟨rfl, .inl ⟨rfl, rfl⟩⟩, Below.refl _ _⟩
  case round =>
    clear HX hvW hb1
    obtain ⟨k, out, hk, rfl, hol, HX, hown, hbr⟩ := hrel
    have hszr := hbr.size
    have hzr : w.heap.size < wr.heap.size := by omega
    by_cases hlt : k + 1 < X.length
    · have hlt0 : k < X.length := by omega
      obtain ⟨bx, ox, hax, hbx, cx0⟩ := (hix.keep hbr).at' hlt0
      have cx1 := (by rw [hax] at hix; exact (hix.keep hbr).cell hlt : wr.cell? ⟨bx, ox + (k + 1), none⟩ = some (.int .i64 X[k + 1]))
      subst hax
      have g0 := cell_keep hbr f0
      have g1 := cell_keep hbr f1
      have g2 := cell_keep hbr f2
      have g3 := cell_keep hbr f3
      have g4 := cell_keep hbr f4
      have g5 := cell_keep hbr f5
      have g6 := cell_keep hbr f6
      have g7 := cell_keep hbr f7
      have hvr := hv1.keep hbr
      have HN := Lib.hid (clearGo_step hlt HX.out)
      have hki : (k : Int) + 1 < (X.length : Int) := by omega
      have hki0 : (k : Int) < (X.length : Int) := by omega
      have hkn : ((k : Int) + 1).toNat = k + 1 := by omega
      have hkw : IntKind.i64.wrap ((k : Int) + 1) = (k : Int) + 1 := IntWalk.i64_in _ (by omega)
      have hk0 : (0 : Int) ≤ (k : Int) + 1 := by omega
      cases hsd : soundB b.defects ⟨X[k], 0, X[k + 1], b.width⟩
      · have HC := Lib.hid (show clearStep b.defects b.width out X[k] X[k + 1] = out by unfold clearStep; rw [hsd]; rfl)
        have HSD := Lib.hid hsd
        clear hsd
        generalize X[k] = x at *
        generalize X[k + 1] = x' at *
        go_wp2_with fail
        refine wp_region_grew (by kernel_rfl) (by kernel_rfl) ?_
        repeat (first
          | go_big_quiet_step ((go_at_call 68; exact grew_of (isSound_is b ⟨x, 0, x', b.width⟩ a c _ HSD.out (hvr.keep (grewB (Below.refl _ _) (Nat.le_refl _) _)) (by omega))))
          | quiet_step ((go_at_call 68; exact grew_of (isSound_is b ⟨x, 0, x', b.width⟩ a c _ HSD.out (hvr.keep (grewB (Below.refl _ _) (Nat.le_refl _) _)) (by omega)))))
        refine wpQuiet_nil ?_
        rintro _ ⟨gg, rfl⟩
        go_wp2_with fail
        go_roundw
        case rel => exact ⟨k + 1, out, by omega, by go_num, by omega, by rw [HC.out] at HN; exact HN, own_keep hown (grew_below _ _), grewB hbr (by omega) _⟩
        case measure => simp [intOf]; omega
      · have HC := Lib.hid (show clearStep b.defects b.width out X[k] X[k + 1] = joinIv out X[k] X[k + 1] by unfold clearStep; rw [if_pos hsd])
        have HSD := Lib.hid hsd
        clear hsd
        obtain ⟨x, hx0⟩ : ∃ x, x = X[k] := ⟨_, rfl⟩
        obtain ⟨x', hx1⟩ : ∃ x, x = X[k + 1] := ⟨_, rfl⟩
        rw [← hx0, ← hx1] at HC HN HSD
        rw [← hx0] at cx0
        rw [← hx1] at cx1
        clear hx0 hx1
        go_wp2_with fail
        refine wp_region_grew (by kernel_rfl) (by kernel_rfl) ?_
        repeat (first
          | go_big_quiet_step ((go_at_call 68; exact grew_of (isSound_is b ⟨x, 0, x', b.width⟩ a c _ HSD.out (hvr.keep (grewB (Below.refl _ _) (Nat.le_refl _) _)) (by omega))))
          | quiet_step ((go_at_call 68; exact grew_of (isSound_is b ⟨x, 0, x', b.width⟩ a c _ HSD.out (hvr.keep (grewB (Below.refl _ _) (Nat.le_refl _) _)) (by omega)))))
        refine wpQuiet_nil ?_
        rintro _ ⟨gg, rfl⟩
        have hown6 := own_keep hown (grew_below wr gg)
        have hbr6 : Below w1.heap.size w1 (grew wr gg) := grewB hbr (by omega) _
        have d0 := cell_keep (grew_below wr gg) cx0
        have d1 := cell_keep (grew_below wr gg) cx1
        clear cx0 cx1 g0 g1 g2 g3 g4 g5 g6 g7 hvr HSD
        generalize grew wr gg = w6 at *
        have hz6 := hbr6.size
        have hbx6 : bx < w6.heap.size := by simpa using block_lt_of_cell d0
        obtain ⟨ao, co, rfl, hoc, hocm⟩ := own_slice hown6
        by_cases hne : out = []
        · subst hne
          have HJ := Lib.hid (show joinIv [] x x' = [(x, x')] from rfl)
          simp only [List.length_nil] at hown6 hoc ⊢
          go_wp2_with fail
          go_quiet (fail)
          rename_i nq
          have t0 : (w6.drewN nq).cell? ⟨bx, ox + k, none⟩ = some (.int .i64 x) := d0
          have t1 : (w6.drewN nq).cell? ⟨bx, ox + (k + 1), none⟩ = some (.int .i64 x') := d1
          have tz : bx < (w6.drewN nq).heap.size := hbx6
          have hown7 := own_keep hown6 (below_drewN (Below.refl w6.heap.size w6) nq)
          have hbr7 := below_drewN hbr6 nq
          clear d0 d1 hbx6 hown6 hbr6 hz6
          generalize w6.drewN nq = w66 at *
          have hz7 := hbr7.size
          go_wp2_with fail
          refine wp_region_mix (fun w' => ∃ g, w' = grew w66 g) 12 [(0, true), (1, true), (2, true), (3, true), (4, true), (5, true), (6, true), (7, true), (8, true), (9, true), (10, true), (11, false)] (by kernel_rfl) (by kernel_rfl) (grew_drew0 _) ?_
          have hown8 : (w66.drew).ownsRow w1.heap.size 41 2 _ _ _ := hown7
          have hbr8 := hbr7.drew
          have hb66 : Below w66.heap.size w66 w66.drew := (Below.refl _ _).drew
          generalize w66.drew = w8 at *
          have hz8 := hbr8.size
          simp only [orderOps, nthOp, List.drop_succ_cons, List.drop_zero]
          repeat (refine wpMix_take ?_; (first | go_big_quiet_step (fail) | quiet_step (fail)); refine wpQuiet_nil ?_)
          refine wpMix_gen ?_
          go_wp2_with fail
          refine One_mk (below_grew (hb66.alloc hb66.size _)) (wpMix_end ?_)
          go_wp2_with (at_builtin; refine wpList_append_own _ rfl _ _ 110 rfl w1.heap.size 41 j0 (.agg #[.int .i64 0, .int .i64 0]) 2 16 Try.underlying110 hj0 hy0 hy1 hy2 rfl (by decide) _ _ _ rfl (hown8.alloc _) ⟨w8.heap.size, 0, none⟩ 1 1 (cellsI (x, x')) rfl rfl (news_of _ _ _ _ (by simp)) (cellsI_one _) (by simp only [maxLen]; omega) (by omega) (by simp; omega) ?_; intro v' w7 ho7 hgr7 hnil7; have hgr7' : (w8.alloc (.cells #[.int .i64 x, .int .i64 x'] 41)).grownBy w7 (Value.ownBlock _) := hgr7; have HGR := Lib.hid hgr7'; clear hgr7 hgr7' hnil7; have HO7 := Lib.hid ho7; clear ho7)
          refine NP_mk ?_
          go_wp2_with fail
          go_roundw
          case rel => exact ⟨k + 1, [(x, x')], by omega, by go_num, by simp, by rw [HC.out, HJ.out] at HN; exact HN, HO7.out, (hbr8.alloc (by omega) _).grown HGR.out (by simp; omega) (fun j hj => own_base hown8 hj)⟩
          case measure => simp [intOf]; omega
        · obtain ⟨m, hm⟩ : ∃ m, m + 1 = out.length := ⟨out.length - 1, by have := List.length_pos_iff.2 hne; omega⟩
          have hml : m < out.length := by omega
          obtain ⟨g9, cap9, hv9, hbg9, hg9, -, -, -, hcl9⟩ := own_cells cellsI_len hown6 hne (by decide)
          injection hv9 with hv9 _ hcap9
          subst hv9 hcap9
          have k9 := (hcl9 m hml 1 (by decide))
          have z1 : (cellsI out[m])[1]? = some (.int .i64 out[m].2) := rfl
          rw [z1] at k9
          obtain ⟨k9, kf9⟩ := k9
          have HJ1 := Lib.hid (fun h => joinIv_last (x := x) (x' := x') hm h)
          have HJ2 := Lib.hid (fun h => joinIv_more (x := x) (x' := x') hm h)
          clear hcl9 z1
          obtain ⟨zl, hzl⟩ : ∃ zl, zl = out[m] := ⟨_, rfl⟩
          rw [← hzl] at k9 HJ1 HJ2
          have HZL := Lib.hid hzl
          have HM := Lib.hid hm
          rw [← hm] at hown6 hoc
          simp only [← hm]
          clear hzl hm hown hne
          have hkm : IntKind.i64.wrap ((m : Int) + 1 - 1) = (m : Int) := by rw [Int.add_sub_cancel]; exact IntWalk.i64_in _ (by omega)
          have hkm' : IntKind.i64.wrap (m : Int) = (m : Int) := IntWalk.i64_in _ (by omega)
          have hm0 : (0 : Int) ≤ (m : Int) := by omega
          have hm1 : (m : Int) < (m : Int) + 1 := by omega
          have hm2 : (0 : Int) < (m : Int) + 1 := by omega
          go_wp2_with fail
          by_cases hzx : zl.2 = x
          · have hz1 : (zl.2 == x) = true := by simpa using hzx
            go_quiet (fail)
            rename_i nq
            have k10 : (w6.drewN nq).cell? ⟨g9, m * 2 + 1, none⟩ = some (.int .i64 zl.2) := k9
            have kf10 : (w6.drewN nq).frozen? ⟨g9, m * 2 + 1, none⟩ = false := kf9
            clear k9 kf9
            have t0 : (w6.drewN nq).cell? ⟨bx, ox + k, none⟩ = some (.int .i64 x) := d0
            have t1 : (w6.drewN nq).cell? ⟨bx, ox + (k + 1), none⟩ = some (.int .i64 x') := d1
            have tz : bx < (w6.drewN nq).heap.size := hbx6
            have hown7 := own_keep hown6 (below_drewN (Below.refl w6.heap.size w6) nq)
            have hbr7 := below_drewN hbr6 nq
            clear d0 d1 hbx6 hown6 hbr6 hz6
            generalize w6.drewN nq = w66 at *
            have hz7 := hbr7.size
            go_wp2_with fail
            go_roundw
            case rel =>
              refine ⟨k + 1, out.set m (zl.1, x'), by omega, by go_num, by rw [List.length_set, ← HM.out]; omega, ?_, ?_, hbr7.setCell (by simpa using hbg9) _⟩
              · rw [HC.out, HJ1.out hzx] at HN; exact HN
              · rw [List.length_set, ← HM.out]
                exact own_setCell cellsI_len hown7 (by decide) hml (by decide) (by rw [← HZL.out]; rfl)
            case measure => simp [intOf]; omega
          · have hz1 : (zl.2 == x) = false := by simpa using hzx
            go_quiet (fail)
            rename_i nq
            have t0 : (w6.drewN nq).cell? ⟨bx, ox + k, none⟩ = some (.int .i64 x) := d0
            have t1 : (w6.drewN nq).cell? ⟨bx, ox + (k + 1), none⟩ = some (.int .i64 x') := d1
            have tz : bx < (w6.drewN nq).heap.size := hbx6
            have hown7 := own_keep hown6 (below_drewN (Below.refl w6.heap.size w6) nq)
            have hbr7 := below_drewN hbr6 nq
            clear d0 d1 hbx6 hown6 hbr6 hz6
            generalize w6.drewN nq = w66 at *
            have hz7 := hbr7.size
            go_wp2_with fail
            refine wp_region_mix (fun w' => ∃ g, w' = grew w66 g) 12 [(0, true), (1, true), (2, true), (3, true), (4, true), (5, true), (6, true), (7, true), (8, true), (9, true), (10, true), (11, false)] (by kernel_rfl) (by kernel_rfl) (grew_drew0 _) ?_
            have hown8 : (w66.drew).ownsRow w1.heap.size 41 2 _ _ _ := hown7
            have hbr8 := hbr7.drew
            have hb66 : Below w66.heap.size w66 w66.drew := (Below.refl _ _).drew
            generalize w66.drew = w8 at *
            have hz8 := hbr8.size
            simp only [orderOps, nthOp, List.drop_succ_cons, List.drop_zero]
            repeat (refine wpMix_take ?_; (first | go_big_quiet_step (fail) | quiet_step (fail)); refine wpQuiet_nil ?_)
            refine wpMix_gen ?_
            go_wp2_with fail
            refine One_mk (below_grew (hb66.alloc hb66.size _)) (wpMix_end ?_)
            go_wp2_with (at_builtin; refine wpList_append_own _ rfl _ _ 110 rfl w1.heap.size 41 j0 (.agg #[.int .i64 0, .int .i64 0]) 2 16 Try.underlying110 hj0 hy0 hy1 hy2 rfl (by decide) _ _ _ rfl (hown8.alloc _) ⟨w8.heap.size, 0, none⟩ 1 1 (cellsI (x, x')) rfl rfl (news_of _ _ _ _ (by simp)) (cellsI_one _) (by simp only [maxLen]; omega) (by omega) (by simp; omega) ?_; intro v' w7 ho7 hgr7 hnil7; have hgr7' : (w8.alloc (.cells #[.int .i64 x, .int .i64 x'] 41)).grownBy w7 (Value.ownBlock _) := hgr7; have HGR := Lib.hid hgr7'; clear hgr7 hgr7' hnil7; have HO7 := Lib.hid ho7; clear ho7)
            refine NP_mk ?_
            go_wp2_with fail
            go_roundw
            case rel =>
              refine ⟨k + 1, out ++ [(x, x')], by omega, by go_num, by rw [List.length_append, ← HM.out]; simp; omega, ?_, ?_, (hbr8.alloc (by omega) _).grown HGR.out (by simp; omega) (fun j hj => own_base hown8 hj)⟩
              · rw [HC.out, HJ2.out hzx] at HN; exact HN
              · rw [List.length_append, ← HM.out, List.flatMap_append]; simpa using HO7.out
            case measure => simp [intOf]; omega
    · have HE := Lib.hid (clearGo_end (by omega) HX.out)
      have hkn : ¬ (k : Int) + 1 < (X.length : Int) := by omega
      clear HX
      have hbw : Below w.heap.size w wr := hbw1.trans (hbr.mono (by omega))
      obtain ⟨ao, co, rfl, hoc, hocm⟩ := own_slice hown
      have HV := Lib.hid (show Ivs.V wr ao out from own_rowV (enc := cellsI) cellsI_len (by decide) (fun b' o x hx h => ivAt_of h) hown)
      clear hown
      go_wp2_with fail
      go_ret
      exact ⟨ao, co, by rw [HE.out]; rfl, by rw [HE.out]; exact HV.out, by rw [HE.out]; exact hoc, hocm, hbw⟩
end Go.Proofs.Ythhchnhidhgccaa
