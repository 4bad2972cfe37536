/- The pieces of a layout: the iterator. -/
import Derived.RangeFuncNested
import Derived.RangeFuncBound
import Derived.RangeFuncCalls
import Derived.RangeFuncLeaves
import Derived.Shelf.Abstract
import Derived.Shelf.RegionOpen
import Derived.WalkKit
import Derived.OwnWalkIn
import Derived.TacticsInMore
import Derived.LoopNIn
import Derived.LoopIn
import Derived.Test.YtoelfalmmaddlaaGreatPL3
import Derived.Test.YtoelfalmmaddlaaGreatPLC
set_option linter.unusedVariables false
set_option linter.unusedSimpArgs false
namespace Go.Proofs.YtoelfalmmaddlaaGreat
open Go Go.RowKit Go.Shelf
attribute [local go_sem] Oper.semAt_some

theorem quiet_pick_no {P : Program} {C : World → Prop} {a : Act} {o : Oper} {K : Act → Prop} (c x y : Operand) (h : o.op = .pick c x y) {v : Value} (hc : a.eval c = .bool false) (hv : a.eval y = v) (hk : K (a.put o.dst v)) : o.quiet P a C K :=
 ⟨_, fun w _ => by
  have hr : (execOp a.eval o).run P w = .ok (.value v) w := by rw [← hv]; unfold execOp; rw [h]; simp only [hc, asBool]; rfl
  unfold Oper.quietAt; rw [hr]; exact ⟨rfl, rfl⟩, hk⟩
def encPiece (j : Job) (x : { p : Placed // PieceOk j p }) : Array Value := #[.agg #[.int .i64 x.1.board, .int .i64 x.1.blank, .int .i64 x.1.at_.x1, .int .i64 x.1.at_.y1, .int .i64 x.1.at_.x2, .int .i64 x.1.at_.y2]]

set_option maxRecDepth 100000 in
set_option maxHeartbeats 4000000 in
theorem pieces_gives (j : Job) (g n : Nat) (hn : 1 ≤ n) (lb : Int) (cuts : List Cut) (rs : List Rect) (gl ol cl gr or_ cr : Nat) (w : World) (hlen : rs.length = cuts.length) (h4 : cuts.length ≤ 400)
    (hc : ∀ k (h : k < cuts.length), Cut.at w gl (ol + k * 5) cuts[k]) (hr : ∀ k (h : k < rs.length), Rect.at w gr (or_ + k * 4) rs[k]) (hgl : gl ≠ g ∧ ownAt g w ≠ some gl) (hgr : gr ≠ g ∧ ownAt g w ≠ some gr) (hv : Valid g w)
    (hok : ∀ k, k ≤ cuts.length → ∀ p ∈ piecesTo ⟨lb, cuts⟩ rs k, PieceOk j p) :
    GivesB Fence.wide n Tryz.prog 29 #[.agg #[.int .i64 lb, .slice (some ⟨gl, ol, none⟩) cuts.length cl, .slice (some ⟨gr, or_, none⟩) cuts.length cr]] (encPiece j) (KeepsB g) (fun xs => xs.map (·.1) = piecesTo ⟨lb, cuts⟩ rs cuts.length) (fun pre => ∃ k, k ≤ cuts.length ∧ pre.map (·.1) = piecesTo ⟨lb, cuts⟩ rs k) cuts.length w := fun l J Jx W hW hJ hJx hY h0 => by
 have HLEN := Lib.hid hlen
 have HCU := Lib.hid hc
 have HRE := Lib.hid hr
 have HOK := Lib.hid hok
 have HJ := Lib.hid hJ
 have HY := Lib.hid hY
 have HW := Lib.hid hW
 have h0' : J [] (W.alloc (.cells #[.int .i64 lb, .slice (some ⟨gl, ol, none⟩) cuts.length cl, .slice (some ⟨gr, or_, none⟩) cuts.length cr] 81)) := hJ [] W _ none h0 (grownBy_below ((Below.refl _ _).alloc (Nat.le_refl _) _) none) (fun r e => by cases e)
 have H0 := Lib.hid h0'
 clear hlen hc hr hok hJ hY hW hJx h0 h0'
 refine callsIn_of_wp Tryz.func29 rfl trivial ?_ rfl
 simp only [Tryz.ntmps29, List.size_toArray, List.length_cons, List.length_nil, Nat.reduceAdd, Nat.reduceSub, Array.replicate_succ, Array.replicate_zero, List.push_toArray, List.append_toArray, List.nil_append, List.cons_append]
 gi_wp2
 obtain ⟨W2, hW2⟩ : ∃ W2, W.alloc (.cells #[.int .i64 lb, .slice (some ⟨gl, ol, none⟩) cuts.length cl, .slice (some ⟨gr, or_, none⟩) cuts.length cr] 81) = W2 := ⟨_, rfl⟩
 obtain ⟨gB, hgB⟩ : ∃ g, g = W.heap.size := ⟨_, rfl⟩
 rw [hW2] at H0
 rw [hW2, ← hgB]
 have HX := Lib.hid (show W2.cell? ⟨gB, 0, none⟩ = some (.int .i64 lb) ∧ W2.cell? ⟨gB, 1, none⟩ = some (.slice (some ⟨gl, ol, none⟩) cuts.length cl) ∧ W2.cell? ⟨gB, 2, none⟩ = some (.slice (some ⟨gr, or_, none⟩) cuts.length cr) by rw [← hW2, hgB]; exact ⟨by simp [go_sem], by simp [go_sem], by simp [go_sem]⟩)
 have HBW := Lib.hid (show Below w.heap.size w W2 by rw [← hW2]; exact HW.out.alloc HW.out.size _)
 have HK2 := Lib.hid ((KeepsB.of_below (g := g) HBW.out) hv)
 have hown2 : ownAt g W2 = ownAt g w := ownAt_below hv.1 HBW.out
 have HGB := Lib.hid (show gB ≠ g ∧ ownAt g W2 ≠ some gB from ⟨by have := HW.out.size; have := hv.1; omega, fun e => by rw [hown2] at e; have := hv.2 _ e; have := HW.out.size; omega⟩)
 have HGL := Lib.hid (show gl ≠ g ∧ ownAt g W2 ≠ some gl by rw [hown2]; exact hgl)
 have HGR := Lib.hid (show gr ≠ g ∧ ownAt g W2 ≠ some gr by rw [hown2]; exact hgr)
 clear hown2 hgl hgr hv
 clear hW2 hgB
 gi_loopw [10] (fun iv wr => ∃ (k : Nat) (pre : List { p : Placed // PieceOk j p }), k ≤ cuts.length ∧ iv = .int .i64 k ∧ Hid (pre.map (·.1) = piecesTo ⟨lb, cuts⟩ rs k) ∧ Hid (J pre wr) ∧ Hid (KeepsR g W2 wr)) (fun iv _ => cuts.length - (intOf iv).toNat)
 case atStart => exact ⟨0, [], Nat.zero_le _, rfl, Lib.hid rfl, H0, Lib.hid (KeepsB.refl HK2.out.valid)⟩
 case round =>
  obtain ⟨k, pre, hk, rfl, HPR, HJW, HKC⟩ := hrel
  obtain ⟨x0, x1, x2⟩ := HX.out
  have x0 := HKC.out.cell x0 HGB.out.1 HGB.out.2
  have x1 := HKC.out.cell x1 HGB.out.1 HGB.out.2
  have x2 := HKC.out.cell x2 HGB.out.1 HGB.out.2
  by_cases hlt : k < cuts.length
  ·have hki : (k : Int) < (cuts.length : Int) := by omega
   have v1 : IntKind.i64.wrap ((k : Int) + 1) = (k : Int) + 1 := IntWalk.i64_in _ (by omega)
   have hkr : k < rs.length := by rw [HLEN.out]; exact hlt
   obtain ⟨c0, c1, c2, c3, c4, -⟩ := (HCU.out k hlt).keep HBW.out
   obtain ⟨r0, r1, r2, r3, -⟩ := (HRE.out k hkr).keep HBW.out
   have c0 := HKC.out.cell c0 HGL.out.1 HGL.out.2
   have c1 := HKC.out.cell c1 HGL.out.1 HGL.out.2
   have c2 := HKC.out.cell c2 HGL.out.1 HGL.out.2
   have c3 := HKC.out.cell c3 HGL.out.1 HGL.out.2
   have c4 := HKC.out.cell c4 HGL.out.1 HGL.out.2
   have r0 := HKC.out.cell r0 HGR.out.1 HGR.out.2
   have r1 := HKC.out.cell r1 HGR.out.1 HGR.out.2
   have r2 := HKC.out.cell r2 HGR.out.1 HGR.out.2
   have r3 := HKC.out.cell r3 HGR.out.1 HGR.out.2
   have HLF := Lib.hid (fun w => leaf_any cuts[k] w)
   have HYE := Lib.hid (fun h hb => piecesTo_yes (l := ⟨lb, cuts⟩) hlt hkr h hb)
   have HNO := Lib.hid (fun h => piecesTo_no (l := ⟨lb, cuts⟩) (R := rs) hlt h)
   simp only at HYE HNO
   generalize cuts[k] = c at *
   generalize rs[k] = r at *
   gi_wp2
   obtain ⟨W3, hW3⟩ : ∃ W3, wr.alloc (.cells #[.bool c.across, .int .i64 c.at_, .int .i64 c.low, .int .i64 c.high, .int .i64 c.blank] 111) = W3 := ⟨_, rfl⟩
   obtain ⟨gC, hgC⟩ : ∃ g, g = wr.heap.size := ⟨_, rfl⟩
   rw [hW3, ← hgC]
   obtain ⟨d0, d1, d2, d3, d4⟩ : W3.cell? ⟨gC, 0, none⟩ = some (.bool c.across) ∧ W3.cell? ⟨gC, 1, none⟩ = some (.int .i64 c.at_) ∧ W3.cell? ⟨gC, 2, none⟩ = some (.int .i64 c.low) ∧ W3.cell? ⟨gC, 3, none⟩ = some (.int .i64 c.high) ∧ W3.cell? ⟨gC, 4, none⟩ = some (.int .i64 c.blank) := by rw [← hW3, hgC]; exact ⟨by simp [go_sem], by simp [go_sem], by simp [go_sem], by simp [go_sem], by simp [go_sem]⟩
   have hb3 : Below wr.heap.size wr W3 := by rw [← hW3]; exact (Below.refl _ _).alloc (Nat.le_refl _) _
   have x0 := cell_keep hb3 x0
   have x1 := cell_keep hb3 x1
   have x2 := cell_keep hb3 x2
   have r0 := cell_keep hb3 r0
   have r1 := cell_keep hb3 r1
   have r2 := cell_keep hb3 r2
   have r3 := cell_keep hb3 r3
   have HB3 := Lib.hid hb3
   clear hW3 hgC hb3 c0 c1 c2 c3 c4
   have hmix : Tryz.prog.follows .mixedOrders = true := by kernel_rfl
   have hwr : wr.grownBy W3 none := grownBy_below HB3.out none
   have hJ3 : J pre W3 := HJ.out pre wr W3 none HJW.out hwr (fun r e => by cases e)
   have HJ3 := Lib.hid hJ3
   clear hJ3 hwr
   have kx0 : ∀ y : KW (fun W => Below W3.heap.size W3 W), (y.w.cell? ⟨gB, 0, none⟩ = some (.int .i64 lb) ∧ y.w.cell? ⟨gB, 1, none⟩ = some (.slice (some ⟨gl, ol, none⟩) cuts.length cl)) ∧ y.w.cell? ⟨gB, 2, none⟩ = some (.slice (some ⟨gr, or_, none⟩) cuts.length cr) := fun y => ⟨⟨cell_keep y.ok x0, cell_keep y.ok x1⟩, cell_keep y.ok x2⟩
   have kx1 : ∀ y : KW (fun W => Below W3.heap.size W3 W), (y.w.cell? ⟨gC, 0, none⟩ = some (.bool c.across) ∧ y.w.cell? ⟨gC, 1, none⟩ = some (.int .i64 c.at_)) ∧ (y.w.cell? ⟨gC, 2, none⟩ = some (.int .i64 c.low) ∧ y.w.cell? ⟨gC, 3, none⟩ = some (.int .i64 c.high)) ∧ y.w.cell? ⟨gC, 4, none⟩ = some (.int .i64 c.blank) := fun y => ⟨⟨cell_keep y.ok d0, cell_keep y.ok d1⟩, ⟨cell_keep y.ok d2, cell_keep y.ok d3⟩, cell_keep y.ok d4⟩
   have kx2 : ∀ y : KW (fun W => Below W3.heap.size W3 W), (y.w.cell? ⟨gr, or_ + k * 4, none⟩ = some (.int .i64 r.x1) ∧ y.w.cell? ⟨gr, or_ + k * 4 + 1, none⟩ = some (.int .i64 r.y1)) ∧ y.w.cell? ⟨gr, or_ + k * 4 + 2, none⟩ = some (.int .i64 r.x2) ∧ y.w.cell? ⟨gr, or_ + k * 4 + 3, none⟩ = some (.int .i64 r.y2) := fun y => ⟨⟨cell_keep y.ok r0, cell_keep y.ok r1⟩, cell_keep y.ok r2, cell_keep y.ok r3⟩
   clear x0 x1 x2 d0 d1 d2 d3 d4 r0 r1 r2 r3
   have HKC3 := Lib.hid (HKC.out.trans (KeepsB.of_below HB3.out))
   haveI n1 : Nonempty (KW (fun W => Below W3.heap.size W3 W)) := ⟨⟨W3, Below.refl _ _⟩⟩
   by_cases hc0 : c.low = 0
   ·have HL2 := Lib.hid (fun w => HLF.out w)
    rw [decide_eq_true hc0] at HL2
    by_cases hb0 : 0 ≤ c.blank
    ·have hbg : c.blank ≥ 0 := hb0
     have HP2 := Lib.hid (HYE.out hc0 hb0)
     clear hc0
     refine wpIn_region_tree (fun w' => ∃ y : KW (fun W => Below W3.heap.size W3 W), w' = y.w) 20 [(0, true), (1, false), (2, true), (3, true), (4, true), (5, true), (6, true), (7, true), (8, true), (9, true), (10, true), (11, true), (12, true), (13, true), (14, true), (15, true), (16, true), (17, true), (18, true), (19, true)] hmix (by kernel_rfl) (KW.mk' (Below.refl _ _).drew) ?_
     have HB4 : Hid (Below W3.heap.size W3 W3.drew) := Lib.hid (Below.refl _ _).drew
     generalize W3.drew = W4 at *
     refine TreeT.out ?_
     (refine TreeT_take ?_; simp only [nthOp]; go_big_quiet_step (fail); refine wpQuiet_nil ?_)
     refine TreeT.mk (wpTreeT_one ?_)
     simp only [nthOp]
     go_wp2_with (go_at_call 53; refine (HL2.out _).mono ?_; rintro e W5 ⟨rfl, hb5⟩; have HB5 := Lib.hid (HB4.out.trans (hb5.mono HB4.out.size)); clear hb5)
     refine One_mk (KW.mk' HB5.out) ?_
     refine TreeT.out ?_
     repeat (refine TreeT_take ?_; simp only [nthOp]; go_big_quiet_step (fail); refine wpQuiet_nil ?_)
     (try (simp only [show decide (0 ≤ c.blank) = false from decide_eq_false (by omega)]; repeat (refine TreeT_take ?_; simp only [nthOp]; go_big_quiet_step (fail); refine wpQuiet_nil ?_)))
     refine TreeT_done ?_
     simp only [List.drop_succ_cons, List.drop_zero]
     have HJ5 := Lib.hid (HJ.out pre W3 W5 none HJ3.out (grownBy_below HB5.out none) (fun r e => by cases e))
     have HKC5 := Lib.hid (HKC3.out.trans (KeepsB.of_below HB5.out))
     have hmem : PieceOk j ⟨lb, c.blank, r⟩ := HOK.out (k + 1) (by omega) _ (by rw [HP2.out]; exact List.mem_append_right _ (List.mem_singleton.2 rfl))
     obtain ⟨fn, tmps, assign, body, hy, hR⟩ := HY.out pre ⟨⟨lb, c.blank, r⟩, hmem⟩ W5 HJ5.out (by
      have h1 := HPR.out
      have h2 := congrArg List.length h1
      rw [List.length_map] at h2
      have h3 := piecesTo_len ⟨lb, cuts⟩ rs k
      omega)
     simp only [encPiece] at hy
     have HR := Lib.hid hR
     clear hR
     gi_wp2
     refine HR.out.mono ?_
     have HX2 := Lib.hid (show (pre ++ [(⟨⟨lb, c.blank, r⟩, hmem⟩ : { p : Placed // PieceOk j p })]).map (·.1) = piecesTo ⟨lb, cuts⟩ rs (k + 1) by rw [HP2.out, List.map_append, HPR.out]; rfl)
     clear hy
     rintro e W6 (⟨rfl, hJ6, hk6⟩ | ⟨rfl, hJ6⟩)
     ·have HJ6 := Lib.hid hJ6
      have HK6 := Lib.hid (HKC5.out.trans hk6)
      clear hJ6 hk6 kx0 kx1 kx2 n1
      gi_wp2
      go_roundw
      case rel => exact ⟨k + 1, _, by omega, by go_num, HX2, HJ6, HK6⟩
      case measure => first | (simp [intOf]; done) | (simp [intOf]; omega)
     ·have HJ6 := Lib.hid hJ6
      clear hJ6 kx0 kx1 kx2 n1
      gi_wp2
      refine bodyPost_ret (results_none rfl _ _ _) rfl ?_
      exact ⟨⟨_, rfl⟩, .inr ⟨_, ⟨k + 1, by omega, HX2.out⟩, HJ6.out⟩⟩
    ·have hbg : ¬ c.blank ≥ 0 := hb0
     have HP2 := Lib.hid (HNO.out (fun h => hb0 h.2))
     clear hc0
     refine wpIn_region_tree (fun w' => ∃ y : KW (fun W => Below W3.heap.size W3 W), w' = y.w) 20 [(0, true), (1, false), (2, true), (3, true), (4, true), (5, true), (6, true), (7, true), (8, true), (9, true), (10, true), (11, true), (12, true), (13, true), (14, true), (15, true), (16, true), (17, true), (18, true), (19, true)] hmix (by kernel_rfl) (KW.mk' (Below.refl _ _).drew) ?_
     have HB4 : Hid (Below W3.heap.size W3 W3.drew) := Lib.hid (Below.refl _ _).drew
     generalize W3.drew = W4 at *
     refine TreeT.out ?_
     (refine TreeT_take ?_; simp only [nthOp]; go_big_quiet_step (fail); refine wpQuiet_nil ?_)
     refine TreeT.mk (wpTreeT_one ?_)
     simp only [nthOp]
     go_wp2_with (go_at_call 53; refine (HL2.out _).mono ?_; rintro e W5 ⟨rfl, hb5⟩; have HB5 := Lib.hid (HB4.out.trans (hb5.mono HB4.out.size)); clear hb5)
     refine One_mk (KW.mk' HB5.out) ?_
     refine TreeT.out ?_
     repeat (refine TreeT_take ?_; simp only [nthOp]; go_big_quiet_step (fail); refine wpQuiet_nil ?_)
     (try (simp only [show decide (0 ≤ c.blank) = false from decide_eq_false (by omega)]; repeat (refine TreeT_take ?_; simp only [nthOp]; go_big_quiet_step (fail); refine wpQuiet_nil ?_)))
     refine TreeT_done ?_
     simp only [List.drop_succ_cons, List.drop_zero]
     have HJ5 := Lib.hid (HJ.out pre W3 W5 none HJ3.out (grownBy_below HB5.out none) (fun r e => by cases e))
     have HKC5 := Lib.hid (HKC3.out.trans (KeepsB.of_below HB5.out))
     clear kx0 kx1 kx2 n1
     gi_wp2
     refine ⟨fun f hf => (by cases hf), ?_⟩
     gi_wp2
     go_roundw
     case rel => exact ⟨k + 1, pre, by omega, by go_num, Lib.hid (by rw [HP2.out]; exact HPR.out), HJ5, HKC5⟩
     case measure => first | (simp [intOf]; done) | (simp [intOf]; omega)
   ·have HL2 := Lib.hid (fun w => HLF.out w)
    rw [decide_eq_false hc0] at HL2
    have HP2 := Lib.hid (HNO.out (fun h => hc0 h.1))
    clear hc0
    refine wpIn_region_tree (fun w' => ∃ y : KW (fun W => Below W3.heap.size W3 W), w' = y.w) 20 [(0, true), (1, false), (2, true), (3, true), (4, true), (5, true), (6, true), (7, true), (8, true), (9, true), (10, true), (11, true), (12, true), (13, true), (14, true), (15, true), (16, true), (17, true), (18, true), (19, true)] hmix (by kernel_rfl) (KW.mk' (Below.refl _ _).drew) ?_
    have HB4 : Hid (Below W3.heap.size W3 W3.drew) := Lib.hid (Below.refl _ _).drew
    generalize W3.drew = W4 at *
    refine TreeT.out ?_
    (refine TreeT_take ?_; simp only [nthOp]; go_big_quiet_step (fail); refine wpQuiet_nil ?_)
    refine TreeT.mk (wpTreeT_one ?_)
    simp only [nthOp]
    go_wp2_with (go_at_call 53; refine (HL2.out _).mono ?_; rintro e W5 ⟨rfl, hb5⟩; have HB5 := Lib.hid (HB4.out.trans (hb5.mono HB4.out.size)); clear hb5)
    refine One_mk (KW.mk' HB5.out) ?_
    refine TreeT.out ?_
    (refine TreeT_take ?_; simp only [nthOp]; go_big_quiet_step (fail); refine wpQuiet_nil ?_)
    (refine TreeT_take ?_; simp only [nthOp]; go_big_quiet_step (fail); refine wpQuiet_nil ?_)
    (refine TreeT_take ?_; simp only [nthOp]; go_big_quiet_step (fail); refine wpQuiet_nil ?_)
    (refine TreeT_take ?_; simp only [nthOp]; go_big_quiet_step (fail); refine wpQuiet_nil ?_)
    (try (refine TreeT_take ?_; simp only [nthOp]; go_big_quiet_want; refine quiet_pick_no (v := .bool false) _ _ _ rfl rfl rfl ?_; go_big_quiet_on; refine wpQuiet_nil ?_; simp only [Act.put, List.setIfInBounds_toArray, List.set_cons_succ, List.set_cons_zero]; repeat (refine TreeT_take ?_; simp only [nthOp]; go_big_quiet_step (fail); refine wpQuiet_nil ?_)))
    (try (simp only [show decide (0 ≤ c.blank) = false from decide_eq_false (by omega)]; repeat (refine TreeT_take ?_; simp only [nthOp]; go_big_quiet_step (fail); refine wpQuiet_nil ?_)))
    refine TreeT_done ?_
    simp only [List.drop_succ_cons, List.drop_zero]
    have HJ5 := Lib.hid (HJ.out pre W3 W5 none HJ3.out (grownBy_below HB5.out none) (fun r e => by cases e))
    have HKC5 := Lib.hid (HKC3.out.trans (KeepsB.of_below HB5.out))
    clear kx0 kx1 kx2 n1
    gi_wp2
    refine ⟨fun f hf => (by cases hf), ?_⟩
    gi_wp2
    go_roundw
    case rel => exact ⟨k + 1, pre, by omega, by go_num, Lib.hid (by rw [HP2.out]; exact HPR.out), HJ5, HKC5⟩
    case measure => first | (simp [intOf]; done) | (simp [intOf]; omega)
  ·obtain rfl : k = cuts.length := by omega
   have hki : ¬ ((cuts.length : Nat) : Int) < ((cuts.length : Nat) : Int) := by omega
   gi_wp2
   go_end0
   exact ⟨⟨_, rfl⟩, .inl ⟨pre, HPR.out, HJW.out⟩⟩
end Go.Proofs.YtoelfalmmaddlaaGreat
