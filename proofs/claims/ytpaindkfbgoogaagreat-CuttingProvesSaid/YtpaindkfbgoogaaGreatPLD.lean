/- The pieces of a layout: the iterator. -/
import Derived.RangeFuncNested
import Derived.RangeFuncBound
import Derived.RangeFuncCalls
import Derived.RangeFuncLeaves
import Derived.Shelf.Abstract
import Derived.Shelf.RegionOpen
import Derived.WalkKit
import Derived.OwnWalkIn
import Derived.TacticsInMore
import Derived.LoopNIn
import Derived.LoopIn
import Derived.Test.YtpaindkfbgoogaaGreatPLX
import Derived.Test.YtpaindkfbgoogaaGreatPLC
set_option linter.unusedVariables false
set_option linter.unusedSimpArgs false
namespace Go.Proofs.YtpaindkfbgoogaaGreat
open Go Go.RowKit Go.Shelf
attribute [local go_sem] Oper.semAt_some

theorem quiet_pick_no {P : Program} {C : World → Prop} {a : Act} {o : Oper} {K : Act → Prop} (c x y : Operand) (h : o.op = .pick c x y) {v : Value} (hc : a.eval c = .bool false) (hv : a.eval y = v) (hk : K (a.put o.dst v)) : o.quiet P a C K :=
  ⟨_, fun w _ => by
    have hr : (execOp a.eval o).run P w = .ok (.value v) w := by rw [← hv]; unfold execOp; rw [h]; simp only [hc, asBool]; rfl
    unfold Oper.quietAt; rw [hr]; exact ⟨rfl, rfl⟩, hk⟩
def encPiece (j : Job) (x : { p : Placed // PieceOk j p }) : Array Value := #[.agg #[.int .i64 x.1.board, .int .i64 x.1.blank, .int .i64 x.1.at_.x1, .int .i64 x.1.at_.y1, .int .i64 x.1.at_.x2, .int .i64 x.1.at_.y2]]

set_option maxRecDepth 100000 in
set_option maxHeartbeats 4000000 in
theorem pieces_gives (j : Job) (g n : Nat) (hn : 1 ≤ n) (lb : Int) (cuts : List Cut) (rs : List Rect) (gl ol cl gr or_ cr : Nat) (w : World) (hlen : rs.length = cuts.length) (h4 : cuts.length ≤ 400)
    (hc : ∀ k (h : k < cuts.length), Cut.at w gl (ol + k * 5) cuts[k]) (hr : ∀ k (h : k < rs.length), Rect.at w gr (or_ + k * 4) rs[k]) (hgl : gl ≠ g ∧ ownAt g w ≠ some gl) (hgr : gr ≠ g ∧ ownAt g w ≠ some gr) (hv : Valid g w)
    (hok : ∀ k, k ≤ cuts.length → ∀ p ∈ piecesTo ⟨lb, cuts⟩ rs k, PieceOk j p) :
    GivesB Fence.wide n Tryz.prog 86 #[.agg #[.int .i64 lb, .slice (some ⟨gl, ol, none⟩) cuts.length cl, .slice (some ⟨gr, or_, none⟩) cuts.length cr]] (encPiece j) (KeepsB g) (fun xs => xs.map (·.1) = piecesTo ⟨lb, cuts⟩ rs cuts.length) (fun pre => ∃ k, k ≤ cuts.length ∧ pre.map (·.1) = piecesTo ⟨lb, cuts⟩ rs k) cuts.length w := fun l J Jx W hW hJ hJx hY h0 => by
  have HLEN := Lib.hid hlen
  have HCU := Lib.hid hc
  have HRE := Lib.hid hr
  have HOK := Lib.hid hok
  have HJ := Lib.hid hJ
  have HY := Lib.hid hY
  have HW := Lib.hid hW
  have h0' : J [] (W.alloc (.cells #[.int .i64 lb, .slice (some ⟨gl, ol, none⟩) cuts.length cl, .slice (some ⟨gr, or_, none⟩) cuts.length cr] 129)) := hJ [] W _ none h0 (grownBy_below ((Below.refl _ _).alloc (Nat.le_refl _) _) none) (fun r e => by cases e)
  have H0 := Lib.hid h0'
  clear hlen hc hr hok hJ hY hW hJx h0 h0'
  refine callsIn_of_wp Tryz.func86 rfl trivial ?_ rfl
  simp only [Tryz.ntmps86, List.size_toArray, List.length_cons, List.length_nil, Nat.reduceAdd, Nat.reduceSub, Array.replicate_succ, Array.replicate_zero, List.push_toArray, List.append_toArray, List.nil_append, List.cons_append]
  gi_wp2
  obtain ⟨W2, hW2⟩ : ∃ W2, W.alloc (.cells #[.int .i64 lb, .slice (some ⟨gl, ol, none⟩) cuts.length cl, .slice (some ⟨gr, or_, none⟩) cuts.length cr] 129) = W2 := ⟨_, rfl⟩
  obtain ⟨gB, hgB⟩ : ∃ g, g = W.heap.size := ⟨_, rfl⟩
  rw [hW2] at H0
  rw [hW2, ← hgB]
  have HX := Lib.hid (show W2.cell? ⟨gB, 0, none⟩ = some (.int .i64 lb) ∧ W2.cell? ⟨gB, 1, none⟩ = some (.slice (some ⟨gl, ol, none⟩) cuts.length cl) ∧ W2.cell? ⟨gB, 2, none⟩ = some (.slice (some ⟨gr, or_, none⟩) cuts.length cr) by rw [← hW2, hgB]; exact ⟨by simp [go_sem], by simp [go_sem], by simp [go_sem]⟩)
  have HBW := Lib.hid (show Below w.heap.size w W2 by rw [← hW2]; exact HW.out.alloc HW.out.size _)
  have HK2 := Lib.hid ((KeepsB.of_below (g := g) HBW.out) hv)
  have hown2 : ownAt g W2 = ownAt g w := ownAt_below hv.1 HBW.out
  have HGB := Lib.hid (show gB ≠ g ∧ ownAt g W2 ≠ some gB from ⟨by have := HW.out.size; have := hv.1; omega, fun e => by rw [hown2] at e; have := hv.2 _ e; have := HW.out.size; omega⟩)
  have HGL := Lib.hid (show gl ≠ g ∧ ownAt g W2 ≠ some gl by rw [hown2]; exact hgl)
  have HGR := Lib.hid (show gr ≠ g ∧ ownAt g W2 ≠ some gr by rw [hown2]; exact hgr)
  clear hown2 hgl hgr hv
  clear hW2 hgB
  gi_loopw [10] (fun iv wr => ∃ (k : Nat) (pre : List { p : Placed // PieceOk j p }), k ≤ cuts.length ∧ iv = .int .i64 k ∧ Hid (pre.map (·.1) = piecesTo ⟨lb, cuts⟩ rs k) ∧ Hid (J pre wr) ∧ Hid (KeepsR g W2 wr)) (fun iv _ => cuts.length - (intOf iv).toNat)
  case atStart => exact ⟨0, [], Nat.zero_le _, rfl, Lib.hid rfl, H0, Lib.hid (KeepsB.refl HK2.out.valid)⟩
  case round =>
    obtain ⟨k, pre, hk, rfl, HPR, HJW, HKC⟩ := hrel
    obtain ⟨x0, x1, x2⟩ := HX.out
    have x0 := HKC.out.cell x0 HGB.out.1 HGB.out.2
    have x1 := HKC.out.cell x1 HGB.out.1 HGB.out.2
    have x2 := HKC.out.cell x2 HGB.out.1 HGB.out.2
    by_cases hlt : k < cuts.length
    · have hki : (k : Int) < (cuts.length : Int) := by omega
      have v1 : IntKind.i64.wrap ((k : Int) + 1) = (k : Int) + 1 := IntWalk.i64_in _ (by omega)
      have hkr : k < rs.length := by rw [HLEN.out]; exact hlt
      obtain ⟨c0, c1, c2, c3, c4, -⟩ := (HCU.out k hlt).keep HBW.out
      obtain ⟨r0, r1, r2, r3, -⟩ := (HRE.out k hkr).keep HBW.out
      have c0 := HKC.out.cell c0 HGL.out.1 HGL.out.2
      have c1 := HKC.out.cell c1 HGL.out.1 HGL.out.2
      have c2 := HKC.out.cell c2 HGL.out.1 HGL.out.2
      have c3 := HKC.out.cell c3 HGL.out.1 HGL.out.2
      have c4 := HKC.out.cell c4 HGL.out.1 HGL.out.2
      have r0 := HKC.out.cell r0 HGR.out.1 HGR.out.2
      have r1 := HKC.out.cell r1 HGR.out.1 HGR.out.2
      have r2 := HKC.out.cell r2 HGR.out.1 HGR.out.2
      have r3 := HKC.out.cell r3 HGR.out.1 HGR.out.2
      have HLF := Lib.hid (fun w => leaf_any cuts[k] w)
      have HYE := Lib.hid (fun h hb => piecesTo_yes (l := ⟨lb, cuts⟩) hlt hkr h hb)
      have HNO := Lib.hid (fun h => piecesTo_no (l := ⟨lb, cuts⟩) (R := rs) hlt h)
      simp only at HYE HNO
      generalize cuts[k] = c at *
      generalize rs[k] = r at *
      gi_wp2
      obtain ⟨W3, hW3⟩ : ∃ W3, wr.alloc (.cells #[.bool c.across, .int .i64 c.at_, .int .i64 c.low, .int .i64 c.high, .int .i64 c.blank] 98) = W3 := ⟨_, rfl⟩
      obtain ⟨gC, hgC⟩ : ∃ g, g = wr.heap.size := ⟨_, rfl⟩
      rw [hW3, ← hgC]
      obtain ⟨d0, d1, d2, d3, d4⟩ : W3.cell? ⟨gC, 0, none⟩ = some (.bool c.across) ∧ W3.cell? ⟨gC, 1, none⟩ = some (.int .i64 c.at_) ∧ W3.cell? ⟨gC, 2, none⟩ = some (.int .i64 c.low) ∧ W3.cell? ⟨gC, 3, none⟩ = some (.int .i64 c.high) ∧ W3.cell? ⟨gC, 4, none⟩ = some (.int .i64 c.blank) := by rw [← hW3, hgC]; exact ⟨by simp [go_sem], by simp [go_sem], by simp [go_sem], by simp [go_sem], by simp [go_sem]⟩
      have hb3 : Below wr.heap.size wr W3 := by rw [← hW3]; exact (Below.refl _ _).alloc (Nat.le_refl _) _
      have x0 := cell_keep hb3 x0
      have x1 := cell_keep hb3 x1
      have x2 := cell_keep hb3 x2
      have r0 := cell_keep hb3 r0
      have r1 := cell_keep hb3 r1
      have r2 := cell_keep hb3 r2
      have r3 := cell_keep hb3 r3
      have HB3 := Lib.hid hb3
      clear hW3 hgC hb3 c0 c1 c2 c3 c4
      have hmix : Tryz.prog.follows .mixedOrders = true := by kernel_rfl
      have hwr : wr.grownBy W3 none := grownBy_below HB3.out none
      have hJ3 : J pre W3 := HJ.out pre wr W3 none HJW.out hwr (fun r e => by cases e)
      have HJ3 := Lib.hid hJ3
      clear hJ3 hwr
      have kx0 : ∀ y : KW (fun W => Below W3.heap.size W3 W), (y.w.cell? ⟨gB, 0, none⟩ = some (.int .i64 lb) ∧ y.w.cell? ⟨gB, 1, none⟩ = some (.slice (some ⟨gl, ol, none⟩) cuts.length cl)) ∧ y.w.cell? ⟨gB, 2, none⟩ = some (.slice (some ⟨gr, or_, none⟩) cuts.length cr) := fun y => ⟨⟨cell_keep y.ok x0, cell_keep y.ok x1⟩, cell_keep y.ok x2⟩
      have kx1 : ∀ y : KW (fun W => Below W3.heap.size W3 W), (y.w.cell? ⟨gC, 0, none⟩ = some (.bool c.across) ∧ y.w.cell? ⟨gC, 1, none⟩ = some (.int .i64 c.at_)) ∧ (y.w.cell? ⟨gC, 2, none⟩ = some (.int .i64 c.low) ∧ y.w.cell? ⟨gC, 3, none⟩ = some (.int .i64 c.high)) ∧ y.w.cell? ⟨gC, 4, none⟩ = some (.int .i64 c.blank) := fun y => ⟨⟨cell_keep y.ok d0, cell_keep y.ok d1⟩, ⟨cell_keep y.ok d2, cell_keep y.ok d3⟩, cell_keep y.ok d4⟩
      have kx2 : ∀ y : KW (fun W => Below W3.heap.size W3 W), (y.w.cell? ⟨gr, or_ + k * 4, none⟩ = some (.int .i64 r.x1) ∧ y.w.cell? ⟨gr, or_ + k * 4 + 1, none⟩ = some (.int .i64 r.y1)) ∧ y.w.cell? ⟨gr, or_ + k * 4 + 2, none⟩ = some (.int .i64 r.x2) ∧ y.w.cell? ⟨gr, or_ + k * 4 + 3, none⟩ = some (.int .i64 r.y2) := fun y => ⟨⟨cell_keep y.ok r0, cell_keep y.ok r1⟩, cell_keep y.ok r2, cell_keep y.ok r3⟩
      clear x0 x1 x2 d0 d1 d2 d3 d4 r0 r1 r2 r3
      have HKC3 := Lib.hid (HKC.out.trans (KeepsB.of_below HB3.out))
      haveI n1 : Nonempty (KW (fun W => Below W3.heap.size W3 W)) := ⟨⟨W3, Below.refl _ _⟩⟩
      by_cases hc0 : c.low = 0
      · have HL2 := Lib.hid (fun w => HLF.out w)
        rw [decide_eq_true hc0] at HL2
        by_cases hb0 : 0 ≤ c.blank
        · have hbg : c.blank ≥ 0 := hb0
          have HP2 := Lib.hid (HYE.out hc0 hb0)
          clear hc0
          refine wpIn_region_tree (fun w' => ∃ y : KW (fun W => Below W3.heap.size W3 W), w' = y.w) 20 [(0, true), (1, false), (2, true), (3, true), (4, true), (5, true), (6, true), (7, true), (8, true), (9, true), (10, true), (11, true), (12, true), (13, true), (14, true), (15, true), (16, true), (17, true), (18, true), (19, true)] hmix (by kernel_rfl) (KW.mk' (Below.refl _ _).drew) ?_
          have HB4 : Hid (Below W3.heap.size W3 W3.drew) := Lib.hid (Below.refl _ _).drew
          generalize W3.drew = W4 at *
          refine TreeT.out ?_
          (refine TreeT_take ?_; simp only [nthOp]; go_big_quiet_step (fail); refine wpQuiet_nil ?_)
          refine TreeT.mk (wpTreeT_one ?_)
          simp only [nthOp]
          go_wp2_with (go_at_call 83; refine (HL2.out _).mono ?_; rintro e W5 ⟨rfl, hb5⟩; have HB5 := Lib.hid (HB4.out.trans (hb5.mono HB4.out.size)); clear hb5)
          refine One_mk (KW.mk' HB5.out) ?_
          refine TreeT.out ?_
          repeat (refine TreeT_take ?_; simp only [nthOp]; go_big_quiet_step (fail); refine wpQuiet_nil ?_)
          (try (simp only [show decide (0 ≤ c.blank) = false from decide_eq_false (by omega)]; repeat (refine TreeT_take ?_; simp only [nthOp]; go_big_quiet_step (fail); refine wpQuiet_nil ?_)))
          refine TreeT_done ?_
          simp only [List.drop_succ_cons, List.drop_zero]
          have HJ5 := Lib.hid (HJ.out pre W3 W5 none HJ3.out (grownBy_below HB5.out none) (fun r e => by cases e))
          have HKC5 := Lib.hid (HKC3.out.trans (KeepsB.of_below HB5.out))
          have hmem : PieceOk j ⟨lb, c.blank, r⟩ := HOK.out (k + 1) (by omega) _ (by rw [HP2.out]; exact List.mem_append_right _ (List.mem_singleton.2 rfl))
          obtain ⟨fn, tmps, assign, body, hy, hR⟩ := HY.out pre ⟨⟨lb, c.blank, r⟩, hmem⟩ W5 HJ5.out (by
            have h1 := HPR.out
            have h2 := congrArg List.length h1
            rw [List.length_map] at h2
            have h3 := piecesTo_len ⟨lb, cuts⟩ rs k
            omega)
          simp only [encPiece] at hy
          have HR := Lib.hid hR
          clear hR
          gi_wp2
          refine HR.out.mono ?_
          have HX2 := Lib.hid (show (pre ++ [(⟨⟨lb, c.blank, r⟩, hmem⟩ : { p : Placed // PieceOk j p })]).map (·.1) = piecesTo ⟨lb, cuts⟩ rs (k + 1) by rw [HP2.out, List.map_append, HPR.out]; rfl)
          clear hy
          rintro e W6 (⟨rfl, hJ6, hk6⟩ | ⟨rfl, hJ6⟩)
          · have HJ6 := Lib.hid hJ6
            have HK6 := Lib.hid (HKC5.out.trans hk6)
            clear hJ6 hk6 kx0 kx1 kx2 n1
            gi_wp2
            go_roundw
            case rel => exact ⟨k + 1, _, by omega, by go_num, HX2, HJ6, HK6⟩
            case measure => first | (simp [intOf]; done) | (simp [intOf]; omega)
          · have HJ6 := Lib.hid hJ6
            clear hJ6 kx0 kx1 kx2 n1
            gi_wp2
            refine bodyPost_ret (results_none rfl _ _ _) rfl ?_
            exact ⟨⟨_, rfl⟩, .inr ⟨_, ⟨k + 1, by omega, HX2.out⟩, HJ6.out⟩⟩
        · have hbg : ¬ c.blank ≥ 0 := hb0
          have HP2 := Lib.hid (HNO.out (fun h => hb0 h.2))
          clear hc0
          refine wpIn_region_tree (fun w' => ∃ y : KW (fun W => Below W3.heap.size W3 W), w' = y.w) 20 [(0, true), (1, false), (2, true), (3, true), (4, true), (5, true), (6, true), (7, true), (8, true), (9, true), (10, true), (11, true), (12, true), (13, true), (14, true), (15, true), (16, true), (17, true), (18, true), (19, true)] hmix (by kernel_rfl) (KW.mk' (Below.refl _ _).drew) ?_
          have HB4 : Hid (Below W3.heap.size W3 W3.drew) := Lib.hid (Below.refl _ _).drew
          generalize W3.drew = W4 at *
          refine TreeT.out ?_
          (refine TreeT_take ?_; simp only [nthOp]; go_big_quiet_step (fail); refine wpQuiet_nil ?_)
          refine TreeT.mk (wpTreeT_one ?_)
          simp only [nthOp]
          go_wp2_with (go_at_call 83; refine (HL2.out _).mono ?_; rintro e W5 ⟨rfl, hb5⟩; have HB5 := Lib.hid (HB4.out.trans (hb5.mono HB4.out.size)); clear hb5)
          refine One_mk (KW.mk' HB5.out) ?_
          refine TreeT.out ?_
          repeat (refine TreeT_take ?_; simp only [nthOp]; go_big_quiet_step (fail); refine wpQuiet_nil ?_)
          (try (simp only [show decide (0 ≤ c.blank) = false from decide_eq_false (by omega)]; repeat (refine TreeT_take ?_; simp only [nthOp]; go_big_quiet_step (fail); refine wpQuiet_nil ?_)))
          refine TreeT_done ?_
          simp only [List.drop_succ_cons, List.drop_zero]
          have HJ5 := Lib.hid (HJ.out pre W3 W5 none HJ3.out (grownBy_below HB5.out none) (fun r e => by cases e))
          have HKC5 := Lib.hid (HKC3.out.trans (KeepsB.of_below HB5.out))
          clear kx0 kx1 kx2 n1
          gi_wp2
          refine ⟨fun f hf => (by cases hf), ?_⟩
          gi_wp2
          go_roundw
          case rel => exact ⟨k + 1, pre, by omega, by go_num, Lib.hid (by rw [HP2.out]; exact HPR.out), HJ5, HKC5⟩
          case measure => first | (simp [intOf]; done) | (simp [intOf]; omega)
      · have HL2 := Lib.hid (fun w => HLF.out w)
        rw [decide_eq_false hc0] at HL2
        have HP2 := Lib.hid (HNO.out (fun h => hc0 h.1))
        clear hc0
        refine wpIn_region_tree (fun w' => ∃ y : KW (fun W => Below W3.heap.size W3 W), w' = y.w) 20 [(0, true), (1, false), (2, true), (3, true), (4, true), (5, true), (6, true), (7, true), (8, true), (9, true), (10, true), (11, true), (12, true), (13, true), (14, true), (15, true), (16, true), (17, true), (18, true), (19, true)] hmix (by kernel_rfl) (KW.mk' (Below.refl _ _).drew) ?_
        have HB4 : Hid (Below W3.heap.size W3 W3.drew) := Lib.hid (Below.refl _ _).drew
        generalize W3.drew = W4 at *
        refine TreeT.out ?_
        (refine TreeT_take ?_; simp only [nthOp]; go_big_quiet_step (fail); refine wpQuiet_nil ?_)
        refine TreeT.mk (wpTreeT_one ?_)
        simp only [nthOp]
        go_wp2_with (go_at_call 83; refine (HL2.out _).mono ?_; rintro e W5 ⟨rfl, hb5⟩; have HB5 := Lib.hid (HB4.out.trans (hb5.mono HB4.out.size)); clear hb5)
        refine One_mk (KW.mk' HB5.out) ?_
        refine TreeT.out ?_
        (refine TreeT_take ?_; simp only [nthOp]; go_big_quiet_step (fail); refine wpQuiet_nil ?_)
        (refine TreeT_take ?_; simp only [nthOp]; go_big_quiet_step (fail); refine wpQuiet_nil ?_)
        (refine TreeT_take ?_; simp only [nthOp]; go_big_quiet_step (fail); refine wpQuiet_nil ?_)
        (refine TreeT_take ?_; simp only [nthOp]; go_big_quiet_step (fail); refine wpQuiet_nil ?_)
        (try (refine TreeT_take ?_; simp only [nthOp]; go_big_quiet_want; refine quiet_pick_no (v := .bool false) _ _ _ rfl rfl rfl ?_; go_big_quiet_on; refine wpQuiet_nil ?_; simp only [Act.put, List.setIfInBounds_toArray, List.set_cons_succ, List.set_cons_zero]; repeat (refine TreeT_take ?_; simp only [nthOp]; go_big_quiet_step (fail); refine wpQuiet_nil ?_)))
        (try (simp only [show decide (0 ≤ c.blank) = false from decide_eq_false (by omega)]; repeat (refine TreeT_take ?_; simp only [nthOp]; go_big_quiet_step (fail); refine wpQuiet_nil ?_)))
        refine TreeT_done ?_
        simp only [List.drop_succ_cons, List.drop_zero]
        have HJ5 := Lib.hid (HJ.out pre W3 W5 none HJ3.out (grownBy_below HB5.out none) (fun r e => by cases e))
        have HKC5 := Lib.hid (HKC3.out.trans (KeepsB.of_below HB5.out))
        clear kx0 kx1 kx2 n1
        gi_wp2
        refine ⟨fun f hf => (by cases hf), ?_⟩
        gi_wp2
        go_roundw
        case rel => exact ⟨k + 1, pre, by omega, by go_num, Lib.hid (by rw [HP2.out]; exact HPR.out), HJ5, HKC5⟩
        case measure => first | (simp [intOf]; done) | (simp [intOf]; omega)
    · obtain rfl : k = cuts.length := by omega
      have hki : ¬ ((cuts.length : Nat) : Int) < ((cuts.length : Nat) : Int) := by omega
      gi_wp2
      go_end0
      exact ⟨⟨_, rfl⟩, .inl ⟨pre, HPR.out, HJW.out⟩⟩
end Go.Proofs.YtpaindkfbgoogaaGreat
/- The program's check of a plan: what it lays, and small parts. -/
set_option linter.unusedVariables false
set_option linter.unusedSimpArgs false
namespace Go.Proofs.YtpaindkfbgoogaaGreat
open Go Go.RowKit Go.Maps

/-! A set of numbers, kept as a map of the call's own. -/
def SeenI (w : World) (bm n : Nat) (xs : List Int) : Prop :=
  ∃ D : DataW Unit, w.ownsMap Tryz.prog 3 (plainElem Tryz.prog 4) bm n D ∧ IsMap D ∧
    ∀ i : Int, (Lit.int .i64 i).wf = true → D.atKey (.int .i64 i) (.lit (.bool false)) = .lit (.bool (decide (i ∈ xs)))
theorem int_keyedI : Keyed Tryz.prog 3 := int_keyed Tryz.underlying3
theorem SeenI.made (w : World) : SeenI (w.alloc (.map #[] 0)) w.heap.size 0 [] :=
  ⟨.map [], World.ownsMap_made _ _ _ _, isMap_empty, fun s _ => rfl⟩
theorem SeenI.below {w w' : World} {bm n : Nat} {xs : List Int} (h : SeenI w bm n xs) (hb : Below w.heap.size w w') : SeenI w' bm n xs := by
  obtain ⟨D, ho, hm, hk⟩ := h
  exact ⟨D, ho.kept (row := none) ⟨hb.os, hb.tape, hb.output, hb.size, fun k hk _ => hb.block k hk⟩ (by simp), hm, hk⟩
theorem SeenI.grown {w w' : World} {bm n : Nat} {xs : List Int} {row : Option Nat} (h : SeenI w bm n xs) (hg : w.grownBy w' row) (hne : some bm ≠ row) : SeenI w' bm n xs := by
  obtain ⟨D, ho, hm, hk⟩ := h
  exact ⟨D, ho.kept hg hne, hm, hk⟩
theorem SeenI.run {w : World} {bm n : Nat} {xs : List Int} (h : SeenI w bm n xs) (i : Int) (hs : (Lit.int .i64 i).wf = true) {q : Bool} (hq : decide (i ∈ xs) = q) :
    (Instr.lookup 125 (.map (some bm)) (.int .i64 i) false).run Tryz.prog w = .ok (.bool q) w := by
  subst hq
  obtain ⟨D, ho, hm, hk⟩ := h
  obtain ⟨v, ps, hr, hv⟩ := ho.lookup int_keyedI Tryz.underlying125 (zero_bool w) (plainElem_bool Tryz.underlying4 false) (keyOf_int_mk Tryz.underlying3 hs)
  rw [hk i hs] at hv
  rw [hr, plainElem_bool_inv Tryz.underlying4 hv]
theorem wpList_seenI {w : World} {ops : Array Oper} {rest : List Oper} {o : Oper} {a : Act} {Q : Exit → Act → World → Prop}
    (hg : o.guard = none) (m x v : Operand) (hop : o.op = Op.mapUpdate 125 m x v) (bm n : Nat) (xs : List Int) (i : Int) (hs : (Lit.int .i64 i).wf = true) (hn : n < 9223372036854775807)
    (hm : a.eval m = .map (some bm)) (hx : a.eval x = .int .i64 i) (hv : a.eval v = .bool true) (h : SeenI w bm n xs)
    (hK : ∀ w', SeenI w' bm (n + 1) (xs ++ [i]) → w.grownBy w' (some bm) → wpList Tryz.prog ops Q rest (a.put o.dst undef) w') :
    wpList Tryz.prog ops Q (o :: rest) a w := by
  obtain ⟨D, ho, him, hk⟩ := h
  refine wpList_mapUpdate_own w hg m x v _ hop _ _ int_keyedI Tryz.underlying125 _ bm n D hm ho hn _ _ (.int .i64 i) hx hv (keyOf_int_mk Tryz.underlying3 hs) (.lit (.bool true)) []
    (plainElem_bool Tryz.underlying4 true) ?_
  intro w' ho' hgr
  refine hK w' ⟨_, ho', him.put _ _, fun t ht => ?_⟩ hgr
  by_cases hti : t = i
  · subst hti
    rw [atKey_put_same him (by simp [WideAt.IsKeyLit])]
    simp
  · rw [atKey_put_other (by simpa using hti), hk t ht]
    simp [hti]
theorem wf_board {n : Nat} (h : n ≤ 1000) : (Lit.int .i64 (n : Int)).wf = true := by
  have h1 : IntKind.i64.min = -9223372036854775808 := by decide
  have h2 : IntKind.i64.max = 9223372036854775807 := by decide
  simp only [Lit.wf, Bool.and_eq_true, decide_eq_true_eq, h1, h2]
  omega

/-! A layout that is laid. -/
structure LaidC where
  lay : Layout
  rects : List Rect
  al : Option Addr
  cl : Nat
  ar : Option Addr
  cr : Nat
def cellsLd (x : LaidC) : List Value := [.int .i64 x.lay.board, .slice x.al x.lay.cuts.length x.cl, .slice x.ar x.rects.length x.cr]
theorem cellsLd_len (x : LaidC) : (cellsLd x).length = 3 := rfl
theorem cellsLd_one (x : LaidC) : ∀ u ∈ cellsLd x, u.oneCell' = true := by
  intro u hu
  simp only [cellsLd, List.mem_cons, List.not_mem_nil, or_false] at hu
  rcases hu with rfl | rfl | rfl <;> rfl
def LaidC.at (w : World) (b o : Nat) (x : LaidC) : Prop := w.cell? ⟨b, o, none⟩ = some (.int .i64 x.lay.board) ∧ w.cell? ⟨b, o + 1, none⟩ = some (.slice x.al x.lay.cuts.length x.cl) ∧ w.cell? ⟨b, o + 2, none⟩ = some (.slice x.ar x.rects.length x.cr)
def Laids.V (w : World) (a : Option Addr) (l : List LaidC) : Prop := RowV 3 LaidC.at w a l
theorem Laids.V.keep {w w' : World} {a : Option Addr} {l : List LaidC} (h : Laids.V w a l) (hb : Below w.heap.size w w') : Laids.V w' a l := RowV.keep (fun _ _ _ h => ⟨cell_keep hb h.1, cell_keep hb h.2.1, cell_keep hb h.2.2⟩) h
theorem own_laids {w : World} {base e n c : Nat} {a : Option Addr} {l : List LaidC} (h : w.ownsRow base e 3 (.slice a n c) n (l.flatMap cellsLd)) : Laids.V w a l :=
  own_rowV cellsLd_len (by decide) (fun b o x _ hc => ⟨hc 0 _ rfl, hc 1 _ rfl, hc 2 _ rfl⟩) h
theorem laid_info : (Tryz.prog.info? 129).map (fun i => (i.zero, i.size, i.bytes)) = some (some (.agg #[.int .i64 0, .slice none 0 0, .slice none 0 0]), 3, 56) := by kernel_rfl
theorem Rects.V.far {w w' : World} {a : Option Addr} {l : List Rect} {row : Option Nat} (h : Rects.V w a l) (hg : w.grownBy w' row) (hne : ∀ x, a = some x → row ≠ some x.block) : Rects.V w' a l := fun hl => by
  obtain ⟨b, off, ha, hx⟩ := h hl
  refine ⟨b, off, ha, fun k x hk => ?_⟩
  obtain ⟨c0, c1, c2, c3, hw⟩ := hx k x hk
  have hn : ∀ o, some (⟨b, o, none⟩ : Addr).block ≠ row := fun o e => hne _ ha e.symm
  exact ⟨hg.cell c0 (hn _), hg.cell c1 (hn _), hg.cell c2 (hn _), hg.cell c3 (hn _), hw⟩
/-- Its rectangles, and its cuts, which lay there before. -/
structure LaidOk (j : Job) (w wr : World) (v : Value) (bm : Nat) (x : LaidC) : Prop where
  ok : (layOf j x.lay).2 = 0
  rs : x.rects = (layOf j x.lay).1
  bd : 0 ≤ x.lay.board ∧ x.lay.board < j.stock.length
  cv : Cuts.V w x.al x.lay.cuts
  cc : x.lay.cuts.length ≤ x.cl ∧ x.cl ≤ maxLen
  rv : Rects.V wr x.ar x.rects
  ap : ∀ a, x.ar = some a → a.block < wr.heap.size ∧ v.ownBlock ≠ some a.block ∧ bm < a.block
theorem LaidOk.below {j : Job} {w wr wx : World} {v : Value} {bm : Nat} {x : LaidC} (h : LaidOk j w wr v bm x) (hb : Below wr.heap.size wr wx) : LaidOk j w wx v bm x :=
  ⟨h.ok, h.rs, h.bd, h.cv, h.cc, h.rv.keep hb, fun a ha => ⟨Nat.lt_of_lt_of_le (h.ap a ha).1 hb.size, (h.ap a ha).2⟩⟩
theorem LaidOk.row {j : Job} {w wr wx : World} {v v' : Value} {bm : Nat} {x : LaidC} (h : LaidOk j w wr v bm x) (hg : wr.grownBy wx v.ownBlock) (hv : v'.ownBlock = v.ownBlock ∨ v'.ownBlock = some wr.heap.size) : LaidOk j w wx v' bm x :=
  ⟨h.ok, h.rs, h.bd, h.cv, h.cc, h.rv.far hg fun a ha => (h.ap a ha).2.1, fun a ha => ⟨Nat.lt_of_lt_of_le (h.ap a ha).1 hg.size, by
    rcases hv with e | e
    · rw [e]; exact (h.ap a ha).2.1
    · rw [e]; intro e'; have := (h.ap a ha).1; injection e' with e'; omega, (h.ap a ha).2.2⟩⟩
theorem LaidOk.mapped {j : Job} {w wr wx : World} {v : Value} {bm : Nat} {x : LaidC} (h : LaidOk j w wr v bm x) (hg : wr.grownBy wx (some bm)) : LaidOk j w wx v bm x :=
  ⟨h.ok, h.rs, h.bd, h.cv, h.cc, h.rv.far hg fun a ha e => by injection e with e; have := (h.ap a ha).2.2; omega, fun a ha => ⟨Nat.lt_of_lt_of_le (h.ap a ha).1 hg.size, (h.ap a ha).2⟩⟩

/-! The way out. -/
structure OutB (W : World) (g4 g5 g6 : Nat) : Prop where
  x4 : W.cell? ⟨g4, 0, none⟩ = some (.slice none 0 0)
  x6 : W.cell? ⟨g6, 0, none⟩ = some (.int .i64 0)
  c0 : W.cell? ⟨g5, 0, none⟩ = some (.int .i64 0)
  c1 : W.cell? ⟨g5, 1, none⟩ = some (.int .i64 0)
  c2 : W.cell? ⟨g5, 2, none⟩ = some (.int .i64 0)
  c3 : W.cell? ⟨g5, 3, none⟩ = some (.int .i64 0)
  c4 : W.cell? ⟨g5, 4, none⟩ = some (.int .i64 0)
  c5 : W.cell? ⟨g5, 5, none⟩ = some (.int .i64 0)
  y4 : W.frozen? ⟨g4, 0, none⟩ = false
  y6 : W.frozen? ⟨g6, 0, none⟩ = false
  f0 : W.frozen? ⟨g5, 0, none⟩ = false
  f1 : W.frozen? ⟨g5, 1, none⟩ = false
  f2 : W.frozen? ⟨g5, 2, none⟩ = false
  f3 : W.frozen? ⟨g5, 3, none⟩ = false
  f4 : W.frozen? ⟨g5, 4, none⟩ = false
  f5 : W.frozen? ⟨g5, 5, none⟩ = false
theorem OutB.keep {W W' : World} {g4 g5 g6 : Nat} (h : OutB W g4 g5 g6) (hb : Below W.heap.size W W') : OutB W' g4 g5 g6 :=
  have h4 := block_lt_of_cell h.x4
  have h5 := block_lt_of_cell h.c0
  have h6 := block_lt_of_cell h.x6
  ⟨cell_keep hb h.x4, cell_keep hb h.x6, cell_keep hb h.c0, cell_keep hb h.c1, cell_keep hb h.c2, cell_keep hb h.c3, cell_keep hb h.c4, cell_keep hb h.c5, frozen_keep hb h4 h.y4, frozen_keep hb h6 h.y6, frozen_keep hb h5 h.f0, frozen_keep hb h5 h.f1, frozen_keep hb h5 h.f2, frozen_keep hb h5 h.f3, frozen_keep hb h5 h.f4, frozen_keep hb h5 h.f5⟩
structure OutAt (W : World) (g4 g5 g6 : Nat) (v u0 u1 u2 u3 u4 u5 e : Value) : Prop where
  x4 : W.cell? ⟨g4, 0, none⟩ = some v
  x6 : W.cell? ⟨g6, 0, none⟩ = some e
  c0 : W.cell? ⟨g5, 0, none⟩ = some u0
  c1 : W.cell? ⟨g5, 1, none⟩ = some u1
  c2 : W.cell? ⟨g5, 2, none⟩ = some u2
  c3 : W.cell? ⟨g5, 3, none⟩ = some u3
  c4 : W.cell? ⟨g5, 4, none⟩ = some u4
  c5 : W.cell? ⟨g5, 5, none⟩ = some u5
theorem OutAt.keepC {gc : Nat} {W W' : World} {g4 g5 g6 : Nat} {v u0 u1 u2 u3 u4 u5 e : Value} (h : OutAt W g4 g5 g6 v u0 u1 u2 u3 u4 u5 e) (hb : KeepsCells gc W W') (h4 : g4 ≠ gc) (h5 : g5 ≠ gc) (h6 : g6 ≠ gc) : OutAt W' g4 g5 g6 v u0 u1 u2 u3 u4 u5 e :=
  ⟨hb.cell h.x4 h4, hb.cell h.x6 h6, hb.cell h.c0 h5, hb.cell h.c1 h5, hb.cell h.c2 h5, hb.cell h.c3 h5, hb.cell h.c4 h5, hb.cell h.c5 h5⟩
theorem set_some {W : World} {p q : Addr} {u v : Value} (h : W.cell? q = some v) : (W.setCell p u).cell? q = some (if p = q then u else v) := by
  by_cases e : p = q
  · subst e; rw [if_pos rfl]; exact World.cell?_setCell_same _ _ _ h
  · rw [if_neg e, World.cell?_setCell_other (h := e)]; exact h
theorem outAt_set {W : World} {g4 g5 g6 : Nat} (h : OutB W g4 g5 g6) (h1 : g4 ≠ g5) (h2 : g4 ≠ g6) (h3 : g5 ≠ g6) (v u0 u1 u2 u3 u4 u5 e : Value) :
    OutAt ((((((((W.setCell ⟨g4, 0, none⟩ v).setCell ⟨g5, 0, none⟩ u0).setCell ⟨g5, 1, none⟩ u1).setCell ⟨g5, 2, none⟩ u2).setCell ⟨g5, 3, none⟩ u3).setCell ⟨g5, 4, none⟩ u4).setCell ⟨g5, 5, none⟩ u5).setCell ⟨g6, 0, none⟩ e) g4 g5 g6 v u0 u1 u2 u3 u4 u5 e := by
  obtain ⟨a1, a2, b0, b1, b2, b3, b4, b5, -⟩ := h
  have k : ∀ {q : Addr} {x : Value}, W.cell? q = some x → ((((((((W.setCell ⟨g4, 0, none⟩ v).setCell ⟨g5, 0, none⟩ u0).setCell ⟨g5, 1, none⟩ u1).setCell ⟨g5, 2, none⟩ u2).setCell ⟨g5, 3, none⟩ u3).setCell ⟨g5, 4, none⟩ u4).setCell ⟨g5, 5, none⟩ u5).setCell ⟨g6, 0, none⟩ e).cell? q = _ := fun hq => set_some (set_some (set_some (set_some (set_some (set_some (set_some (set_some hq)))))))
  refine ⟨(k a1).trans ?_, (k a2).trans ?_, (k b0).trans ?_, (k b1).trans ?_, (k b2).trans ?_, (k b3).trans ?_, (k b4).trans ?_, (k b5).trans ?_⟩ <;> simp [h1, h2, h3, h1.symm, h2.symm, h3.symm]
theorem below_out {n : Nat} {w W : World} {g4 g5 g6 : Nat} {v u0 u1 u2 u3 u4 u5 e : Value} (h : Below n w W) (h4 : n ≤ g4) (h5 : n ≤ g5) (h6 : n ≤ g6) : Below n w ((((((((W.setCell ⟨g4, 0, none⟩ v).setCell ⟨g5, 0, none⟩ u0).setCell ⟨g5, 1, none⟩ u1).setCell ⟨g5, 2, none⟩ u2).setCell ⟨g5, 3, none⟩ u3).setCell ⟨g5, 4, none⟩ u4).setCell ⟨g5, 5, none⟩ u5).setCell ⟨g6, 0, none⟩ e) :=
  (((((((h.setCell h4 _).setCell h5 _).setCell h5 _).setCell h5 _).setCell h5 _).setCell h5 _).setCell h5 _).setCell h6 _
theorem mark_setCell {W : World} {D : Nat} {a : Addr} {v : Value} {ds : Option (List Deferred)} (h : W.heap[D]? = some (.deferred ds)) : (W.setCell a v).heap[D]? = some (.deferred ds) := by
  show (W.heap.modify a.block _)[D]? = _
  rw [Array.getElem?_modify]
  split
  · rw [h]; rfl
  · exact h
theorem Marks.set {B : Nat} {ds : List Deferred} {W : World} (h : Marks B ds W) (a : Addr) (v : Value) : Marks B ds (W.setCell a v) := h.keep fun _ _ hl _ => mark_setCell hl
theorem Marks.below {B : Nat} {ds : List Deferred} {W W' : World} (h : Marks B ds W) (hb : Below W.heap.size W W') : Marks B ds W' := h.keep fun D _ hl _ => (hb.block D (Array.getElem?_eq_some_iff.1 hl).1).trans hl
theorem Marks.out {B : Nat} {ds : List Deferred} {W : World} {g4 g5 g6 : Nat} {v u0 u1 u2 u3 u4 u5 e : Value} (h : Marks B ds W) : Marks B ds ((((((((W.setCell ⟨g4, 0, none⟩ v).setCell ⟨g5, 0, none⟩ u0).setCell ⟨g5, 1, none⟩ u1).setCell ⟨g5, 2, none⟩ u2).setCell ⟨g5, 3, none⟩ u3).setCell ⟨g5, 4, none⟩ u4).setCell ⟨g5, 5, none⟩ u5).setCell ⟨g6, 0, none⟩ e) :=
  (((((((h.set _ _).set _ _).set _ _).set _ _).set _ _).set _ _).set _ _).set _ _

def plV (p : Placed) : Value := .agg #[.int .i64 p.board, .int .i64 p.blank, .int .i64 p.at_.x1, .int .i64 p.at_.y1, .int .i64 p.at_.x2, .int .i64 p.at_.y2]
def SixC (W : World) (g : Nat) (u0 u1 u2 u3 u4 u5 : Int) : Prop := (W.cell? ⟨g, 0, none⟩ = some (.int .i64 u0) ∧ W.cell? ⟨g, 1, none⟩ = some (.int .i64 u1)) ∧ (W.cell? ⟨g, 2, none⟩ = some (.int .i64 u2) ∧ W.cell? ⟨g, 3, none⟩ = some (.int .i64 u3)) ∧ W.cell? ⟨g, 4, none⟩ = some (.int .i64 u4) ∧ W.cell? ⟨g, 5, none⟩ = some (.int .i64 u5)
def SixW (g0 g1 : Nat) (u0 u1 u2 u3 u4 u5 : Int) (w W : World) : Prop := SixC W g0 u0 u1 u2 u3 u4 u5 ∧ Below w.heap.size w W
def OutZ (W : World) (g : Nat) : Prop := (W.cell? ⟨g, 0, none⟩ = some (.int .i64 0) ∧ W.cell? ⟨g, 1, none⟩ = some (.int .i64 0) ∧ W.cell? ⟨g, 2, none⟩ = some (.int .i64 0) ∧ W.cell? ⟨g, 3, none⟩ = some (.int .i64 0) ∧ W.cell? ⟨g, 4, none⟩ = some (.int .i64 0) ∧ W.cell? ⟨g, 5, none⟩ = some (.int .i64 0)) ∧ W.frozen? ⟨g, 0, none⟩ = false ∧ W.frozen? ⟨g, 1, none⟩ = false ∧ W.frozen? ⟨g, 2, none⟩ = false ∧ W.frozen? ⟨g, 3, none⟩ = false ∧ W.frozen? ⟨g, 4, none⟩ = false ∧ W.frozen? ⟨g, 5, none⟩ = false
set_option maxRecDepth 100000 in
set_option maxHeartbeats 1000000 in
theorem fail_any (u0 u1 u2 u3 u4 u5 : Int) (E : Int) (w : World) : Calls Tryz.prog 84 #[.agg #[.int .i64 u0, .int .i64 u1, .int .i64 u2, .int .i64 u3, .int .i64 u4, .int .i64 u5], .int .i64 E] w fun e w' => e = .returned (.tuple #[.slice none 0 0, .agg #[.int .i64 u0, .int .i64 u1, .int .i64 u2, .int .i64 u3, .int .i64 u4, .int .i64 u5], .int .i64 E]) ∧ Below w.heap.size w w' := by
  go_enter Tryz.func84, Tryz.ntmps84
  go_upto_region 1 with fail
  refine gen_world (fun W => SixC W w.heap.size u0 u1 u2 u3 u4 u5 ∧ OutZ W (w.heap.size + 1) ∧ Below w.heap.size w W ∧ w.heap.size + 1 < W.heap.size) ⟨⟨⟨by simp [go_sem], by simp [go_sem]⟩, ⟨by simp [go_sem], by simp [go_sem]⟩, by simp [go_sem], by simp [go_sem]⟩, ⟨⟨by simp [go_sem], by simp [go_sem], by simp [go_sem], by simp [go_sem], by simp [go_sem], by simp [go_sem]⟩, by simp [go_sem], by simp [go_sem], by simp [go_sem], by simp [go_sem], by simp [go_sem], by simp [go_sem]⟩, ((Below.refl _ _).alloc (Nat.le_refl _) _).alloc (by simp) _, by simp⟩ ?_
  rintro W ⟨h6, hz, hb, hs⟩
  obtain ⟨g0, hg0⟩ : ∃ g, g = w.heap.size := ⟨_, rfl⟩
  obtain ⟨g1, hg1⟩ : ∃ g, g = w.heap.size + 1 := ⟨_, rfl⟩
  rw [← hg1] at hz
  rw [← hg0] at h6
  rw [← hg1, ← hg0]
  have hne : g0 ≠ g1 := by omega
  have HNE := Lib.hid hne
  have HG1 := Lib.hid (show w.heap.size ≤ g1 by omega)
  have HB := Lib.hid hb
  have hcl : SixW g0 g1 u0 u1 u2 u3 u4 u5 w W := ⟨h6, hb⟩
  clear hg0 hg1 hs hb hne
  have kx : ∀ y : KW (SixW g0 g1 u0 u1 u2 u3 u4 u5 w), SixC y.w g0 u0 u1 u2 u3 u4 u5 := fun y => y.ok.1
  simp only [SixC] at kx
  haveI n1 : Nonempty (KW (SixW g0 g1 u0 u1 u2 u3 u4 u5 w)) := ⟨⟨W, hcl⟩⟩
  refine wp_region_tree (fun w' => ∃ y : KW (SixW g0 g1 u0 u1 u2 u3 u4 u5 w), w' = y.w) 4 (.take 0 (.take 1 (.take 2 (.one 3 .done)))) (by kernel_rfl) (by kernel_rfl) (KW.mk' ⟨h6, hcl.2.drew⟩) ?_
  have hz1 : OutZ W.drew g1 := hz
  have hb1 : Below w.heap.size w W.drew := HB.out.drew
  have h61 : SixC W.drew g0 u0 u1 u2 u3 u4 u5 := h6
  generalize W.drew = w5 at *
  have HZ := Lib.hid hz1
  have HB5 := Lib.hid hb1
  have H6 := Lib.hid h61
  clear hz hz1 h6 h61 hb1 hcl HB
  repeat (refine wpTree_take ?_; simp only [nthOp]; (first | go_big_quiet_step (fail) | quiet_step (fail)); refine wpQuiet_nil ?_)
  refine wpTree_one ?_
  simp only [nthOp]
  obtain ⟨⟨z0, z1, z2, z3, z4, z5⟩, f0, f1, f2, f3, f4, f5⟩ := HZ.out
  go_wp2_with fail
  refine One_mk (KW.mk' ⟨?_, ?_⟩) (wpTree_done ?_)
  · have hh := HNE.out
    obtain ⟨⟨q0, q1⟩, ⟨q2, q3⟩, q4, q5⟩ := H6.out
    unfold SixC
    simp [go_sem, hh, hh.symm, q0, q1, q2, q3, q4, q5]
  · exact below_six HB5.out HG1.out
  · simp only [List.drop_succ_cons, List.drop_zero]
    go_wp2_with fail
    refine NP_mk ?_
    go_wp2_with fail
    refine bodyPost_ret (v := .tuple #[.slice none 0 0, .agg #[.int .i64 u0, .int .i64 u1, .int .i64 u2, .int .i64 u3, .int .i64 u4, .int .i64 u5], .int .i64 E]) (by simp [results, Tryz.results84, go_sem, *]) rfl ?_
    exact ⟨rfl, below_six HB5.out HG1.out⟩

/-- What checked lays. -/
structure LaidR (j : Job) (w' : World) (x : LaidC) : Prop where
  ok : (layOf j x.lay).2 = 0
  rs : x.rects = (layOf j x.lay).1
  bd : 0 ≤ x.lay.board ∧ x.lay.board < j.stock.length
  cv : Cuts.V w' x.al x.lay.cuts
  cc : x.lay.cuts.length ≤ x.cl ∧ x.cl ≤ maxLen
  rv : Rects.V w' x.ar x.rects
def CheckedPost (w : World) (j : Job) (plan : List Layout) (q : Placed × Int) (e : Ending) (w' : World) : Prop :=
  ∃ (av : Option Addr) (n cv : Nat), e = .returned (.tuple #[.slice av n cv, plV q.1, .int .i64 q.2]) ∧ Below w.heap.size w w' ∧ (q.2 ≠ 0 → av = none ∧ n = 0 ∧ cv = 0) ∧
    (q.2 = 0 → n = plan.length ∧ ∃ xs : List LaidC, xs.map LaidC.lay = plan ∧ Laids.V w' av xs ∧ ∀ x ∈ xs, LaidR j w' x)
theorem CheckedPost.bad {w w' : World} {j : Job} {plan : List Layout} {q : Placed × Int} {u0 u1 u2 u3 u4 u5 E : Int} (hq : q = (⟨u0, u1, ⟨u2, u3, u4, u5⟩⟩, E)) (hE : E ≠ 0) (hb : Below w.heap.size w w') :
    CheckedPost w j plan q (.returned (.tuple #[.slice none 0 0, .agg #[.int .i64 u0, .int .i64 u1, .int .i64 u2, .int .i64 u3, .int .i64 u4, .int .i64 u5], .int .i64 E])) w' := by
  subst hq
  exact ⟨none, 0, 0, rfl, hb, fun _ => ⟨rfl, rfl, rfl⟩, fun h => absurd h hE⟩
end Go.Proofs.YtpaindkfbgoogaaGreat
/- Pieces of a plan, one by one; what the loop over the pieces keeps. -/
set_option linter.unusedVariables false
set_option linter.unusedSimpArgs false
namespace Go.Proofs.YtpaindkfbgoogaaGreat
open Go Go.RowKit

theorem pieceGo_ok {j : Job} : ∀ {A B : List Placed} {cs cs' : List Int} {z : Placed}, pieceGo j A cs = ((z, 0), cs') → pieceGo j (A ++ B) cs = pieceGo j B cs'
  | [], B, cs, cs', z, h => by
    rw [pieceGo] at h
    injection h with h1 h2
    rw [List.nil_append, h2]
  | p :: A, B, cs, cs', z, h => by
    rw [List.cons_append, pieceGo]
    rw [pieceGo] at h
    split at h
    · rename_i h1
      injection h with h2
      injection h2 with h2 h3
      exact absurd h3 h1
    · rename_i h1
      rw [if_neg h1]
      exact pieceGo_ok h
theorem pieceGo_bad {j : Job} : ∀ {A B : List Placed} {cs : List Int}, (pieceGo j A cs).1.2 ≠ 0 → pieceGo j (A ++ B) cs = pieceGo j A cs
  | [], B, cs, h => absurd rfl h
  | p :: A, B, cs, h => by
    rw [List.cons_append, pieceGo, pieceGo]
    rw [pieceGo] at h
    split
    · rfl
    · rename_i h1
      rw [if_neg h1] at h
      exact pieceGo_bad h
theorem pieceGo_rng {j : Job} : ∀ {A : List Placed} {cs cs' : List Int} {z : Placed} {n : Int}, pieceGo j A cs = ((z, 0), cs') → (∀ x ∈ cs, 0 ≤ x ∧ x ≤ n) → z = zeroPl ∧ cs'.length = cs.length ∧ ∀ x ∈ cs', 0 ≤ x ∧ x ≤ n + A.length
  | [], cs, cs', z, n, h, hr => by
    rw [pieceGo] at h
    injection h with h1 h2
    injection h1 with h1
    subst h2
    exact ⟨h1.symm, rfl, fun x hx => by have := hr x hx; simp; omega⟩
  | p :: A, cs, cs', z, n, h, hr => by
    rw [pieceGo] at h
    split at h
    · rename_i h1
      injection h with h2
      injection h2 with h2 h3
      exact absurd h3 h1
    · rename_i h1
      obtain ⟨g1, g2, g3⟩ := pieceGo_rng (n := n + 1) h (fun x hx => by
        rcases List.mem_or_eq_of_mem_set hx with hx | rfl
        · have := hr x hx; omega
        · rw [List.getD_eq_getElem?_getD]
          by_cases hl : p.blank.toNat < cs.length
          · rw [List.getElem?_eq_getElem hl]
            have := hr _ (List.getElem_mem hl)
            simp only [Option.getD_some]; omega
          · by_cases h0 : cs = []
            · subst h0; simp at hx
            · obtain ⟨y, hy⟩ := List.exists_mem_of_ne_nil _ h0
              have := hr y hy
              rw [List.getElem?_eq_none (by omega)]
              simp only [Option.getD_none]; omega)
      refine ⟨g1, by rw [g2, List.length_set], fun x hx => ?_⟩
      have := g3 x hx
      simp only [List.length_cons]
      omega
def zerosOf (j : Job) : List Int := List.replicate j.blanks.length 0
theorem zeros_rng (j : Job) : ∀ x ∈ zerosOf j, 0 ≤ x ∧ x ≤ (0 : Int) := fun x hx => by rw [(List.mem_replicate.1 hx).2]; omega
theorem pieceGo_step {j : Job} {A : List Placed} {p : Placed} {cs : List Int} (h : pieceGo j A (zerosOf j) = ((zeroPl, 0), cs)) (he : pieceE j p = 0) :
    pieceGo j (A ++ [p]) (zerosOf j) = ((zeroPl, 0), cs.set p.blank.toNat (cs.getD p.blank.toNat 0 + 1)) := by
  rw [pieceGo_ok h, pieceGo, if_neg (fun h => h he)]; rfl
theorem pieceGo_err {j : Job} {A : List Placed} {p : Placed} {cs : List Int} (h : pieceGo j A (zerosOf j) = ((zeroPl, 0), cs)) (he : pieceE j p ≠ 0) :
    pieceGo j (A ++ [p]) (zerosOf j) = ((p, pieceE j p), cs) := by
  rw [pieceGo_ok h, pieceGo, if_pos he]
theorem placesTo_pre {j : Job} {plan : List Layout} : ∀ {m k : Nat}, m ≤ k → ∃ r, placesTo j plan k = placesTo j plan m ++ r
  | m, k, h => by
    induction k with
    | zero => obtain rfl : m = 0 := by omega
              exact ⟨[], by simp⟩
    | succ k ih =>
      by_cases e : m = k + 1
      · subst e; exact ⟨[], by simp⟩
      · obtain ⟨r, hr⟩ := ih (by omega)
        exact ⟨r ++ piecesTo (plan.getD k default) (layOf j (plan.getD k default)).1 (plan.getD k default).cuts.length, by rw [placesTo, hr, List.append_assoc]⟩
theorem piecesTo_pre {l : Layout} {R : List Rect} : ∀ {m k : Nat}, m ≤ k → ∃ r, piecesTo l R k = piecesTo l R m ++ r
  | m, k, h => by
    induction k with
    | zero => obtain rfl : m = 0 := by omega
              exact ⟨[], by simp⟩
    | succ k ih =>
      by_cases e : m = k + 1
      · subst e; exact ⟨[], by simp⟩
      · obtain ⟨r, hr⟩ := ih (by omega)
        exact ⟨_, by rw [piecesTo, hr, List.append_assoc]⟩
/-- A piece that is wrong. -/
theorem plan_bad {j : Job} {plan : List Layout} {m k : Nat} {p : Placed} {E : Int} {cs : List Int} {pre : List Placed} (hX : layGo j plan [] = 0) (hm : m < plan.length)
    (hp : pre = piecesTo plan[m] (layOf j plan[m]).1 k) (hk : k ≤ plan[m].cuts.length)
    (h : pieceGo j (placesTo j plan m ++ pre) (zerosOf j) = ((p, E), cs)) (hE : E ≠ 0) : planOf j plan = (p, E) := by
  obtain ⟨r, hr⟩ := placesTo_pre (j := j) (plan := plan) (show m + 1 ≤ plan.length from hm)
  obtain ⟨r2, hr2⟩ := piecesTo_pre (l := plan[m]) (R := (layOf j plan[m]).1) hk
  refine planOf_piece (cs := cs) hX ?_ hE
  have e : placesM j plan = (placesTo j plan m ++ pre) ++ (r2 ++ r) := by
    unfold placesM
    rw [hr, placesTo_step hm, hr2, ← hp]; simp
  have := pieceGo_bad (j := j) (A := placesTo j plan m ++ pre) (B := r2 ++ r) (cs := zerosOf j) (by rw [h]; exact hE)
  rw [e]
  exact this.trans h

theorem lay_some {j : Job} {l : Layout} {rs : List Rect} (h : layOf j l = (rs, 0)) : rs ≠ [] := by
  unfold layOf regM at h
  split at h
  · injection h with h1 h2; simp at h2
  · rename_i h0
    split at h
    · injection h with h1 h2; simp at h2
    · split at h
      · rename_i h2; injection h with h3 h4; exact absurd h4 h2
      · split at h
        · injection h with h1 h2; simp at h2
        · intro e
          have h5 := congrArg (fun q : List Rect × Int => q.1.length) h
          simp only [e, List.length_nil] at h5
          have h6 : ∀ (l' : List Cut) (i : Nat) (R : List Rect), (rectGo j.trim.kerf l' i R).2 = 0 → (rectGo j.trim.kerf l' i R).1.length = R.length := by
            intro l'
            induction l' with
            | nil => intro i R _; rfl
            | cons c l' ih =>
              intro i R hr
              unfold rectGo at hr ⊢
              split
              · rename_i g; rw [if_pos g] at hr; exact ih _ _ hr
              · rename_i g
                rw [if_neg g] at hr
                split
                · rename_i g2; rw [if_pos g2] at hr; simp at hr
                · rename_i g2; rw [if_neg g2] at hr; rw [ih _ _ hr, stepR_len]
          rw [h6 _ _ _ (by rw [h])] at h5
          simp at h5
          exact h0 (by simp [h5])

/-! Worlds. -/
theorem KeepsB.setOwn {g gc i : Nat} {A : World} {v : Value} (ho : ownAt g A = some gc) (hne : gc ≠ g) : KeepsB g A (A.setCell ⟨gc, i, none⟩ v) := fun hv => by
  have hs : ∀ k, k ≠ gc → (A.setCell ⟨gc, i, none⟩ v).heap[k]? = A.heap[k]? := fun k hk => by
    show (A.heap.modify gc _)[k]? = _
    rw [Array.getElem?_modify, if_neg (fun e => hk e.symm)]
  have hown : ownAt g (A.setCell ⟨gc, i, none⟩ v) = ownAt g A := by
    unfold ownAt
    rw [World.cell?_of_block (a := ⟨g, 0, none⟩) (hs g (fun e => hne e.symm))]
  refine ⟨⟨by rw [World.size_setCell]; exact hv.1, fun k e => by rw [hown] at e; rw [World.size_setCell]; exact hv.2 k e⟩, by rw [World.size_setCell]; exact Nat.le_refl _, fun k o h1 _ _ h4 => ?_, fun k e => .inl (by rwa [hown] at e)⟩
  rw [hs k (fun e => h4 (by rw [ho, e]))]; exact h1
theorem ownAt_box {g gc n c : Nat} {A : World} (h : A.cell? ⟨g, 0, none⟩ = some (.slice (some ⟨gc, 0, none⟩) n c)) : ownAt g A = some gc := by unfold ownAt; rw [h]; rfl
theorem cell_isCells {A : World} {a : Addr} {v : Value} (hc : A.cell? a = some v) : ∃ o, A.heap[a.block]? = some o ∧ o.isCells = true := by
  unfold World.cell? at hc
  cases hb : A.heap[a.block]? with
  | none => rw [hb] at hc; cases hc
  | some o => rw [hb] at hc; refine ⟨o, rfl, ?_⟩; cases o <;> simp_all [Obj.isCells]
theorem not_row {A : World} {a : Addr} {v : Value} {row : Option Nat} (hc : A.cell? a = some v) (hr : ∀ r, row = some r → ∃ o : Obj, A.heap[r]? = some o ∧ o.isCells = false) : some a.block ≠ row := fun e => by
  obtain ⟨o, h1, h2⟩ := cell_isCells hc
  obtain ⟨o', h3, h4⟩ := hr _ e.symm
  rw [h1] at h3; cases h3; rw [h2] at h4; cases h4

/-- The way out of checked. -/
theorem checked_end {n B : Nat} {j : Job} {plan : List Layout} {q : Placed × Int} {w W : World} {tmps : Array Value} {ds : List Deferred} {g4 g5 g6 : Nat} {v u0 u1 u2 u3 u4 u5 e : Value}
    (run : ∀ W', OutAt W' g4 g5 g6 v u0 u1 u2 u3 u4 u5 e → (results Tryz.f47 tmps).run Tryz.prog W' = .ok (.tuple #[v, .agg #[u0, u1, u2, u3, u4, u5], e]) W') (hm : Marks B ds W) (ho : OutAt W g4 g5 g6 v u0 u1 u2 u3 u4 u5 e)
    (post : ∀ W', KeepsCells W.heap.size W W' → Below B W W' → CheckedPost w j plan q (.returned (.tuple #[v, .agg #[u0, u1, u2, u3, u4, u5], e])) W') : LeavesInM Fence.wide n Tryz.prog Tryz.f47 tmps (CheckedPost w j plan q) ds .returning W :=
  leave_marks ds W hm fun W' hk hb => by
    have h4 := block_lt_of_cell ho.x4
    have h5 := block_lt_of_cell ho.c0
    have h6 := block_lt_of_cell ho.x6
    simp only at h4 h5 h6
    exact ⟨_, run W' (ho.keepC hk (by omega) (by omega) (by omega)), post W' hk hb⟩
/-- Cells from a block on lie as they lay. -/
def KeepsAbove (n : Nat) (A B : World) : Prop := ∀ b o v, n ≤ b → A.cell? ⟨b, o, none⟩ = some v → B.cell? ⟨b, o, none⟩ = some v
theorem KeepsAbove.trans {n : Nat} {A B C : World} (h : KeepsAbove n A B) (h' : KeepsAbove n B C) : KeepsAbove n A C := fun b o v hn hc => h' b o v hn (h b o v hn hc)
theorem keepsAbove_set {n g i : Nat} {A B : World} {u : Value} (h : KeepsAbove n A B) (hg : g < n) : KeepsAbove n A (B.setCell ⟨g, i, none⟩ u) := fun b o v hn hc => by
  rw [World.cell?_setCell_other (h := fun e => by injection e with e; omega)]; exact h b o v hn hc
theorem keepsAbove_cells {n : Nat} {A B : World} (h : KeepsCells A.heap.size A B) : KeepsAbove n A B := fun b o v _ hc => h.cell hc (by have := block_lt_of_cell hc; simp only at this; omega)
theorem keepsAbove_out {n : Nat} {W : World} {g4 g5 g6 : Nat} {v u0 u1 u2 u3 u4 u5 e : Value} (h4 : g4 < n) (h5 : g5 < n) (h6 : g6 < n) : KeepsAbove n W ((((((((W.setCell ⟨g4, 0, none⟩ v).setCell ⟨g5, 0, none⟩ u0).setCell ⟨g5, 1, none⟩ u1).setCell ⟨g5, 2, none⟩ u2).setCell ⟨g5, 3, none⟩ u3).setCell ⟨g5, 4, none⟩ u4).setCell ⟨g5, 5, none⟩ u5).setCell ⟨g6, 0, none⟩ e) :=
  keepsAbove_set (keepsAbove_set (keepsAbove_set (keepsAbove_set (keepsAbove_set (keepsAbove_set (keepsAbove_set (keepsAbove_set (fun _ _ _ _ h => h) h4) h5) h5) h5) h5) h5) h5) h6
theorem Rects.V.above {n : Nat} {w w' : World} {a : Option Addr} {l : List Rect} (h : Rects.V w a l) (hk : KeepsAbove n w w') (hn : ∀ x, a = some x → n ≤ x.block) : Rects.V w' a l := fun hl => by
  obtain ⟨b, off, ha, hx⟩ := h hl
  refine ⟨b, off, ha, fun k x hkx => ?_⟩
  obtain ⟨c0, c1, c2, c3, hw⟩ := hx k x hkx
  have hb := hn _ ha
  exact ⟨hk _ _ _ hb c0, hk _ _ _ hb c1, hk _ _ _ hb c2, hk _ _ _ hb c3, hw⟩
theorem Laids.V.above {n : Nat} {w w' : World} {a : Option Addr} {l : List LaidC} (h : Laids.V w a l) (hk : KeepsAbove n w w') (hn : ∀ x, a = some x → n ≤ x.block) : Laids.V w' a l := fun hl => by
  obtain ⟨b, off, ha, hx⟩ := h hl
  refine ⟨b, off, ha, fun k x hkx => ?_⟩
  obtain ⟨c0, c1, c2⟩ := hx k x hkx
  have hb := hn _ ha
  exact ⟨hk _ _ _ hb c0, hk _ _ _ hb c1, hk _ _ _ hb c2⟩
theorem laid_row {w : World} {base e n c m : Nat} {a : Option Addr} {xs : List Value} (h : w.ownsRow base e 3 (.slice a n c) m xs) : ∀ x, a = some x → base ≤ x.block := fun x hx => by
  subst hx
  exact own_base h rfl
/-- The pieces of A are counted. -/
structure Counting (j : Job) (Wb : World) (gq gc B : Nat) (ds : List Deferred) (A : List Placed) (W : World) : Prop where
  cs : ∃ cs, pieceGo j A (zerosOf j) = ((zeroPl, 0), cs) ∧ W.ownsRow gc 3 1 (.slice (some ⟨gc, 0, none⟩) j.blanks.length j.blanks.length) j.blanks.length (cs.map (Value.int .i64))
  box : W.cell? ⟨gq, 0, none⟩ = some (.slice (some ⟨gc, 0, none⟩) j.blanks.length j.blanks.length)
  below : Below Wb.heap.size Wb W
  marks : Marks B ds W
theorem Marks.grown {B base : Nat} {ds : List Deferred} {W W' : World} {row : Option Nat} (h : Marks B ds W) (hg : W.grownBy W' row) (hr : ∀ r, row = some r → base ≤ r) (hd : ∀ d ∈ ds, ∃ D, d.target = .collected D ∧ D < base) : Marks B ds W' :=
  h.keep fun D _ hl ⟨d, hm, ht⟩ => by
    refine (hg.block D (Array.getElem?_eq_some_iff.1 hl).1 fun e => ?_).trans hl
    obtain ⟨D', h1, h2⟩ := hd d hm
    rw [ht] at h1
    injection h1 with h1
    have := hr D e.symm
    omega
theorem own_isCells {w : World} {base e k n m g c : Nat} {o : Nat} {xs : List Value} (h : w.ownsRow base e k (.slice (some ⟨g, o, none⟩) m c) n xs) : ∃ o : Obj, w.heap[g]? = some o ∧ o.isCells = true := by
  rcases h.2 with ⟨e0, _⟩ | ⟨g', cap, cur, e0, hb, hgg, _⟩
  · cases e0
  · injection e0 with e1 _ _
    injection e1 with e1
    injection e1 with e1 _ _
    subst e1
    exact ⟨_, hgg, rfl⟩
theorem Counting.own {j : Job} {Wb : World} {gq gc B base : Nat} {ds : List Deferred} {A : List Placed} {W W' : World} {row : Option Nat} (h : Counting j Wb gq gc B ds A W) (hb : Wb.heap.size ≤ base) (hd : ∀ d ∈ ds, ∃ D, d.target = .collected D ∧ D < base)
    (hg : W.grownBy W' row) (hr : ∀ r, row = some r → base ≤ r ∧ ∃ o : Obj, W.heap[r]? = some o ∧ o.isCells = false) : Counting j Wb gq gc B ds A W' := by
  obtain ⟨⟨cs, h1, h2⟩, h3, h4, h5⟩ := h
  refine ⟨⟨cs, h1, h2.kept hg (.inr fun e => ?_)⟩, hg.cell h3 (not_row h3 fun r e => (hr r e).2), h4.grown hg h4.size (fun r e => by have := (hr r e).1; omega), h5.grown hg (fun r e => (hr r e).1) hd⟩
  obtain ⟨o, g1, g2⟩ := own_isCells h2
  obtain ⟨o', g3, g4⟩ := (hr gc e.symm).2
  rw [g1] at g3; cases g3; rw [g2] at g4; cases g4
theorem Counting.keep {j : Job} {Wb : World} {gq gc B : Nat} {ds : List Deferred} {A : List Placed} {W W' : World} (h : Counting j Wb gq gc B ds A W) (hb : Below W.heap.size W W') : Counting j Wb gq gc B ds A W' := by
  obtain ⟨⟨cs, h1, h2⟩, h3, h4, h5⟩ := h
  exact ⟨⟨cs, h1, own_keep h2 hb⟩, cell_keep hb h3, h4.trans (hb.mono h4.size), h5.below hb⟩
/-- A piece that is wrong was found: the results are laid. -/
structure Failing (j : Job) (w : World) (g4 g5 g6 B : Nat) (ds : List Deferred) (A : List Placed) (W : World) : Prop where
  ex : ∃ (p : Placed) (E : Int) (cs : List Int), E ≠ 0 ∧ pieceGo j A (zerosOf j) = ((p, E), cs) ∧ OutAt W g4 g5 g6 (.slice none 0 0) (.int .i64 p.board) (.int .i64 p.blank) (.int .i64 p.at_.x1) (.int .i64 p.at_.y1) (.int .i64 p.at_.x2) (.int .i64 p.at_.y2) (.int .i64 E)
  below : Below w.heap.size w W
  marks : Marks B ds W
theorem OutAt.grown {W W' : World} {g4 g5 g6 : Nat} {v u0 u1 u2 u3 u4 u5 e : Value} {row : Option Nat} (h : OutAt W g4 g5 g6 v u0 u1 u2 u3 u4 u5 e) (hg : W.grownBy W' row) (hr : ∀ r, row = some r → ∃ o : Obj, W.heap[r]? = some o ∧ o.isCells = false) : OutAt W' g4 g5 g6 v u0 u1 u2 u3 u4 u5 e :=
  ⟨hg.cell h.x4 (not_row h.x4 hr), hg.cell h.x6 (not_row h.x6 hr), hg.cell h.c0 (not_row h.c0 hr), hg.cell h.c1 (not_row h.c1 hr), hg.cell h.c2 (not_row h.c2 hr), hg.cell h.c3 (not_row h.c3 hr), hg.cell h.c4 (not_row h.c4 hr), hg.cell h.c5 (not_row h.c5 hr)⟩
theorem Failing.own {j : Job} {w : World} {g4 g5 g6 B base : Nat} {ds : List Deferred} {A : List Placed} {W W' : World} {row : Option Nat} (h : Failing j w g4 g5 g6 B ds A W) (hb : w.heap.size ≤ base) (hd : ∀ d ∈ ds, ∃ D, d.target = .collected D ∧ D < base)
    (hg : W.grownBy W' row) (hr : ∀ r, row = some r → base ≤ r ∧ ∃ o : Obj, W.heap[r]? = some o ∧ o.isCells = false) : Failing j w g4 g5 g6 B ds A W' := by
  obtain ⟨⟨p, E, cs, h1, h2, h3⟩, h4, h5⟩ := h
  exact ⟨⟨p, E, cs, h1, h2, h3.grown hg (fun r e => (hr r e).2)⟩, h4.grown hg h4.size (fun r e => by have := (hr r e).1; omega), h5.grown hg (fun r e => (hr r e).1) hd⟩
/-- The piece of a round, in its box. -/
def PlBox (gq : Nat) (p : Placed) (g : Nat) (W : World) : Prop := Placed.at W g 0 p ∧ gq < g
theorem plBox_new {gq : Nat} {W : World} {T : TypeId} (p : Placed) (h : gq < W.heap.size) : PlBox gq p W.heap.size (W.alloc (.cells #[.int .i64 p.board, .int .i64 p.blank, .int .i64 p.at_.x1, .int .i64 p.at_.y1, .int .i64 p.at_.x2, .int .i64 p.at_.y2] T)) :=
  ⟨⟨⟨by simp [go_sem], by simp [go_sem]⟩, ⟨by simp [go_sem], by simp [go_sem]⟩, by simp [go_sem], by simp [go_sem]⟩, h⟩
theorem PlBox.own {gq base : Nat} {p : Placed} {g : Nat} : OwnFrom base (fun (_ : Unit) W => PlBox gq p g W) := fun _ W W' row h hg hr => by
  obtain ⟨⟨⟨p0, p1⟩, ⟨p2, p3⟩, p4, p5⟩, hq⟩ := h
  have hr' := fun r e => (hr r e).2
  exact ⟨⟨⟨hg.cell p0 (not_row p0 hr'), hg.cell p1 (not_row p1 hr')⟩, ⟨hg.cell p2 (not_row p2 hr'), hg.cell p3 (not_row p3 hr')⟩, hg.cell p4 (not_row p4 hr'), hg.cell p5 (not_row p5 hr')⟩, hq⟩
/-- A loop whose rounds lay marks. -/
theorem wp_loop_at {P : Program} {c : Code} {Q : Exit → Act → World → Prop} {T0 : Array Value} {d0 : List Deferred} {w : World} (S : List Nat) (R : (Nat → Value) → List Deferred → World → Prop) (mu : Array Value → Nat) (hT : T0 = forget S (fun i => T0.getD i undef) T0)
    (h0 : R (fun i => T0.getD i undef) d0 w) (round : ∀ (u : Nat → Value) (ds : List Deferred) (w' : World) (K : Act → World → Prop), R u ds w' → (∀ a' w'', (∃ u' ds', a' = ⟨forget S u' T0, ds'⟩ ∧ R u' ds' w'' ∧ mu a'.tmps < mu (forget S u T0)) → K a' w'') → c.wp P (Exit.then K Q) ⟨forget S u T0, ds⟩ w') : (Code.loop c).wp P Q ⟨T0, d0⟩ w :=
  wp_loop_slots S R mu _ hT h0 fun u ds w' h => round u ds w' _ h fun _ _ h => h
theorem cut_arr {S : List Nat} {t T0 : Array Value} {ds : List Deferred} (h : t = forget S (fun i => t.getD i undef) T0) : (⟨t, ds⟩ : Act) = ⟨forget S (fun i => t.getD i undef) T0, ds⟩ := congrArg (fun x => (⟨x, ds⟩ : Act)) h
theorem keepsFrom_below {B : Nat} {W W' : World} (h : Below W.heap.size W W') : KeepsFrom B W W' := ⟨h.size, fun k o _ hk _ => (h.block k (Array.getElem?_eq_some_iff.1 hk).1).trans hk⟩
theorem keepsFrom_set {B : Nat} {W W' : World} (h : KeepsFrom B W W') (a : Addr) (v : Value) : KeepsFrom B W (W'.setCell a v) := h.trans ((KeepsOthers.setCell _ _ _).from _)
theorem keepsFrom_out {B : Nat} {W0 W : World} {g4 g5 g6 : Nat} {v u0 u1 u2 u3 u4 u5 e : Value} (h : KeepsFrom B W0 W) : KeepsFrom B W0 ((((((((W.setCell ⟨g4, 0, none⟩ v).setCell ⟨g5, 0, none⟩ u0).setCell ⟨g5, 1, none⟩ u1).setCell ⟨g5, 2, none⟩ u2).setCell ⟨g5, 3, none⟩ u3).setCell ⟨g5, 4, none⟩ u4).setCell ⟨g5, 5, none⟩ u5).setCell ⟨g6, 0, none⟩ e) :=
  keepsFrom_set (keepsFrom_set (keepsFrom_set (keepsFrom_set (keepsFrom_set (keepsFrom_set (keepsFrom_set (keepsFrom_set h _ _) _ _) _ _) _ _) _ _) _ _) _ _) _ _
/-- A range over a bound method whose variable lies in a box (slot sB). -/
theorem wpIn_rangeBox {F : Fence} {n : Nat} {P : Program} {w : World} {α : Type} {g : Operand} {ps : Array Tmp} {assign body : Code} {Q : Exit → Act → World → Prop} {a : Act}
    (hro : F.round = none) (h1 : 1 ≤ n) {gf : Nat} {first : Array Value} (hg : a.eval g = .func (.func gf) first #[]) (hFg : F.fn gf) (eg : ∀ args w, (callFunc gf args).run P w = .ok (.enter gf args) w)
    {encs : α → Array Value} {Kp : World → World → Prop} {S Sp : List α → Prop} {N : Nat} {w0 : World} (hseq : GivesB F (n - 1) P gf first encs Kp S Sp N w0)
    (hKt : ∀ {A B C : World}, Kp A B → Kp B C → Kp A C) (hKb : ∀ (W : World) (l : Nat) (o o' : Obj), w.heap.size ≤ l → W.heap[l]? = some o → o.isCells = false → o'.isCells = false → o.isWalk = false → Kp W (W.putObj l o')) (hb0 : Below w0.heap.size w0 w) (hps : ∀ x, (encs x).size = ps.size)
    (I Ix : List α → World → Prop) (hI : OwnFrom w.heap.size I) (hIx : OwnFrom w.heap.size Ix) (h0 : I [] w) (sB : Nat) (At : α → Nat → World → Prop) (hAt : ∀ x g, OwnFrom w.heap.size (fun (_ : Unit) W => At x g W))
    (hassign : ∀ (l : Nat) (pre : List α) (x : α) (W : World) (K : Act → World → Prop), I pre W → (∀ b W', KeepsFrom w.heap.size W W' → Kp W W' → I pre W' → At x b W' → K { tmps := ((ps.zip (encs x)).foldl (fun t (p, v) => t.setIfInBounds p v) a.tmps).setIfInBounds sB (.pointer (some ⟨b, 0, none⟩)), defers := [] } W') →
      assign.wpIn (F.inRound l) (n - 1 - 1) P (Exit.then K (fun _ _ _ => False)) { tmps := (ps.zip (encs x)).foldl (fun t (p, v) => t.setIfInBounds p v) a.tmps, defers := [] } W)
    (hbody : ∀ (l : Nat) (pre : List α) (x : α) (b : Nat) (W : World), I pre W → At x b W → pre.length < N → body.wpIn (F.inRound l) (n - 1 - 1) P (roundB w.heap.size Kp I Ix (pre ++ [x]) W) { tmps := ((ps.zip (encs x)).foldl (fun t (p, v) => t.setIfInBounds p v) a.tmps).setIfInBounds sB (.pointer (some ⟨b, 0, none⟩)), defers := [] } W)
    (hdone : ∀ (D : Nat) (xs : List α) (W : World), w.heap.size ≤ D → S xs → I xs W → W.heap[D]? = some (.deferred (some [])) → Q .normal { a with defers := { target := .collected D, args := #[] } :: a.defers } W)
    (hstop : ∀ (D : Nat) (pre : List α) (W : World), w.heap.size ≤ D → Sp pre → Ix pre W → W.heap[D]? = some (.deferred (some [])) → Code.ret.wpIn F n P Q { a with defers := { target := .collected D, args := #[] } :: a.defers } W) :
    (Code.rangeFunc g ps assign body).wpIn F n P Q a w :=
  wpIn_rangeBound hro h1 hg hFg eg hseq (fun h k => hKt h k) hKb hb0 hps I Ix hI hIx h0
    (fun x a' W => ∃ b, a' = { tmps := ((ps.zip (encs x)).foldl (fun t (p, v) => t.setIfInBounds p v) a.tmps).setIfInBounds sB (.pointer (some ⟨b, 0, none⟩)), defers := [] } ∧ At x b W)
    (fun x a' s W W' row h hg hr => by obtain ⟨b, h1, h2⟩ := h; exact ⟨b, h1, hAt x b () W W' row h2 hg hr⟩)
    (fun l pre x W K hi hK => hassign l pre x W K hi fun b W' h1 h2 h3 h4 => hK _ _ h1 h2 h3 ⟨b, rfl, h4⟩)
    (fun l pre x a' W hi ⟨b, e, h⟩ hlt => by subst e; exact hbody l pre x b W hi h hlt) hdone hstop
end Go.Proofs.YtpaindkfbgoogaaGreat
