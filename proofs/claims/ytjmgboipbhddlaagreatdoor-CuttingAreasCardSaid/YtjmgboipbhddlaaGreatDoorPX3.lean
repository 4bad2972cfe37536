import Derived.RangeFuncNested
import Derived.RangeFuncBound
import Derived.RangeFuncCalls
import Derived.RangeFuncLeaves
import Derived.Shelf.Abstract
import Derived.Shelf.RegionOpen
import Derived.WalkKit
import Derived.OwnWalkIn
import Derived.TacticsInMore
import Derived.LoopNIn
import Derived.LoopIn
import Derived.Test.YtjmgboipbhddlaaGreatDoorPL3
import Derived.Test.YtjmgboipbhddlaaGreatDoorPX2
set_option linter.unusedVariables false
set_option linter.unusedSimpArgs false
namespace Go.Proofs.YtjmgboipbhddlaaGreatDoor
open Go Go.RowKit Go.Shelf
attribute [local go_sem] Oper.semAt_some

theorem quiet_pick_no {P : Program} {C : World → Prop} {a : Act} {o : Oper} {K : Act → Prop} (c x y : Operand) (h : o.op = .pick c x y) {v : Value} (hc : a.eval c = .bool false) (hv : a.eval y = v) (hk : K (a.put o.dst v)) : o.quiet P a C K :=
 ⟨_, fun w _ => by
  have hr : (execOp a.eval o).run P w = .ok (.value v) w := by rw [← hv]; unfold execOp; rw [h]; simp only [hc, asBool]; rfl
  unfold Oper.quietAt; rw [hr]; exact ⟨rfl, rfl⟩, hk⟩
def encPiece (j : Job) (x : { p : Placed // PieceOk j p }) : Array Value := #[.agg #[.int .i64 x.1.board, .int .i64 x.1.blank, .int .i64 x.1.at_.x1, .int .i64 x.1.at_.y1, .int .i64 x.1.at_.x2, .int .i64 x.1.at_.y2]]

set_option maxRecDepth 100000 in
set_option maxHeartbeats 4000000 in
theorem pieces_gives (j : Job) (g n : Nat) (hn : 1 ≤ n) (lb : Int) (cuts : List Cut) (rs : List Rect) (gl ol cl gr or_ cr : Nat) (w : World) (hlen : rs.length = cuts.length) (h4 : cuts.length ≤ 400)
    (hc : ∀ k (h : k < cuts.length), Cut.at w gl (ol + k * 5) cuts[k]) (hr : ∀ k (h : k < rs.length), Rect.at w gr (or_ + k * 4) rs[k]) (hgl : gl ≠ g ∧ ownAt g w ≠ some gl) (hgr : gr ≠ g ∧ ownAt g w ≠ some gr) (hv : Valid g w)
    (hok : ∀ k, k ≤ cuts.length → ∀ p ∈ piecesTo ⟨lb, cuts⟩ rs k, PieceOk j p) :
    GivesB Fence.wide n Tryz.prog 56 #[.agg #[.int .i64 lb, .slice (some ⟨gl, ol, none⟩) cuts.length cl, .slice (some ⟨gr, or_, none⟩) cuts.length cr]] (encPiece j) (KeepsB g) (fun xs => xs.map (·.1) = piecesTo ⟨lb, cuts⟩ rs cuts.length) (fun pre => ∃ k, k ≤ cuts.length ∧ pre.map (·.1) = piecesTo ⟨lb, cuts⟩ rs k) cuts.length w := fun l J Jx W hW hJ hJx hY h0 => by
 have HLEN := Lib.hid hlen
 have HCU := Lib.hid hc
 have HRE := Lib.hid hr
 have HOK := Lib.hid hok
 have HJ := Lib.hid hJ
 have HY := Lib.hid hY
 have HW := Lib.hid hW
 have h0' : J [] (W.alloc (.cells #[.int .i64 lb, .slice (some ⟨gl, ol, none⟩) cuts.length cl, .slice (some ⟨gr, or_, none⟩) cuts.length cr] 83)) := hJ [] W _ none h0 (grownBy_below ((Below.refl _ _).alloc (Nat.le_refl _) _) none) (fun r e => by cases e)
 have H0 := Lib.hid h0'
 clear hlen hc hr hok hJ hY hW hJx h0 h0'
 refine callsIn_of_wp Tryz.func56 rfl trivial ?_ rfl
 simp only [Tryz.ntmps56, List.size_toArray, List.length_cons, List.length_nil, Nat.reduceAdd, Nat.reduceSub, Array.replicate_succ, Array.replicate_zero, List.push_toArray, List.append_toArray, List.nil_append, List.cons_append]
 gi_wp2
 obtain ⟨W2, hW2⟩ : ∃ W2, W.alloc (.cells #[.int .i64 lb, .slice (some ⟨gl, ol, none⟩) cuts.length cl, .slice (some ⟨gr, or_, none⟩) cuts.length cr] 83) = W2 := ⟨_, rfl⟩
 obtain ⟨gB, hgB⟩ : ∃ g, g = W.heap.size := ⟨_, rfl⟩
 rw [hW2] at H0
 rw [hW2, ← hgB]
 have HX := Lib.hid (show W2.cell? ⟨gB, 0, none⟩ = some (.int .i64 lb) ∧ W2.cell? ⟨gB, 1, none⟩ = some (.slice (some ⟨gl, ol, none⟩) cuts.length cl) ∧ W2.cell? ⟨gB, 2, none⟩ = some (.slice (some ⟨gr, or_, none⟩) cuts.length cr) by rw [← hW2, hgB]; exact ⟨by simp [go_sem], by simp [go_sem], by simp [go_sem]⟩)
 have HBW := Lib.hid (show Below w.heap.size w W2 by rw [← hW2]; exact HW.out.alloc HW.out.size _)
 have HK2 := Lib.hid ((KeepsB.of_below (g := g) HBW.out) hv)
 have hown2 : ownAt g W2 = ownAt g w := ownAt_below hv.1 HBW.out
 have HGB := Lib.hid (show gB ≠ g ∧ ownAt g W2 ≠ some gB from ⟨by have := HW.out.size; have := hv.1; omega, fun e => by rw [hown2] at e; have := hv.2 _ e; have := HW.out.size; omega⟩)
 have HGL := Lib.hid (show gl ≠ g ∧ ownAt g W2 ≠ some gl by rw [hown2]; exact hgl)
 have HGR := Lib.hid (show gr ≠ g ∧ ownAt g W2 ≠ some gr by rw [hown2]; exact hgr)
 clear hown2 hgl hgr hv
 clear hW2 hgB
 gi_loopw [10] (fun iv wr => ∃ (k : Nat) (pre : List { p : Placed // PieceOk j p }), k ≤ cuts.length ∧ iv = .int .i64 k ∧ Hid (pre.map (·.1) = piecesTo ⟨lb, cuts⟩ rs k) ∧ Hid (J pre wr) ∧ Hid (KeepsR g W2 wr)) (fun iv _ => cuts.length - (intOf iv).toNat)
 case atStart => exact ⟨0, [], Nat.zero_le _, rfl, Lib.hid rfl, H0, Lib.hid (KeepsB.refl HK2.out.valid)⟩
 case round =>
  obtain ⟨k, pre, hk, rfl, HPR, HJW, HKC⟩ := hrel
  obtain ⟨x0, x1, x2⟩ := HX.out
  have x0 := HKC.out.cell x0 HGB.out.1 HGB.out.2
  have x1 := HKC.out.cell x1 HGB.out.1 HGB.out.2
  have x2 := HKC.out.cell x2 HGB.out.1 HGB.out.2
  by_cases hlt : k < cuts.length
  ·have hki : (k : Int) < (cuts.length : Int) := by omega
   have v1 : IntKind.i64.wrap ((k : Int) + 1) = (k : Int) + 1 := IntWalk.i64_in _ (by omega)
   have hkr : k < rs.length := by rw [HLEN.out]; exact hlt
   obtain ⟨c0, c1, c2, c3, c4, -⟩ := (HCU.out k hlt).keep HBW.out
   obtain ⟨r0, r1, r2, r3, -⟩ := (HRE.out k hkr).keep HBW.out
   have c0 := HKC.out.cell c0 HGL.out.1 HGL.out.2
   have c1 := HKC.out.cell c1 HGL.out.1 HGL.out.2
   have c2 := HKC.out.cell c2 HGL.out.1 HGL.out.2
   have c3 := HKC.out.cell c3 HGL.out.1 HGL.out.2
   have c4 := HKC.out.cell c4 HGL.out.1 HGL.out.2
   have r0 := HKC.out.cell r0 HGR.out.1 HGR.out.2
   have r1 := HKC.out.cell r1 HGR.out.1 HGR.out.2
   have r2 := HKC.out.cell r2 HGR.out.1 HGR.out.2
   have r3 := HKC.out.cell r3 HGR.out.1 HGR.out.2
   have HLF := Lib.hid (fun w => leaf_any cuts[k] w)
   have HYE := Lib.hid (fun h hb => piecesTo_yes (l := ⟨lb, cuts⟩) hlt hkr h hb)
   have HNO := Lib.hid (fun h => piecesTo_no (l := ⟨lb, cuts⟩) (R := rs) hlt h)
   simp only at HYE HNO
   generalize cuts[k] = c at *
   generalize rs[k] = r at *
   gi_wp2
   obtain ⟨W3, hW3⟩ : ∃ W3, wr.alloc (.cells #[.bool c.across, .int .i64 c.at_, .int .i64 c.low, .int .i64 c.high, .int .i64 c.blank] 86) = W3 := ⟨_, rfl⟩
   obtain ⟨gC, hgC⟩ : ∃ g, g = wr.heap.size := ⟨_, rfl⟩
   rw [hW3, ← hgC]
   obtain ⟨d0, d1, d2, d3, d4⟩ : W3.cell? ⟨gC, 0, none⟩ = some (.bool c.across) ∧ W3.cell? ⟨gC, 1, none⟩ = some (.int .i64 c.at_) ∧ W3.cell? ⟨gC, 2, none⟩ = some (.int .i64 c.low) ∧ W3.cell? ⟨gC, 3, none⟩ = some (.int .i64 c.high) ∧ W3.cell? ⟨gC, 4, none⟩ = some (.int .i64 c.blank) := by rw [← hW3, hgC]; exact ⟨by simp [go_sem], by simp [go_sem], by simp [go_sem], by simp [go_sem], by simp [go_sem]⟩
   have hb3 : Below wr.heap.size wr W3 := by rw [← hW3]; exact (Below.refl _ _).alloc (Nat.le_refl _) _
   have x0 := cell_keep hb3 x0
   have x1 := cell_keep hb3 x1
   have x2 := cell_keep hb3 x2
   have r0 := cell_keep hb3 r0
   have r1 := cell_keep hb3 r1
   have r2 := cell_keep hb3 r2
   have r3 := cell_keep hb3 r3
   have HB3 := Lib.hid hb3
   clear hW3 hgC hb3 c0 c1 c2 c3 c4
   have hmix : Tryz.prog.follows .mixedOrders = true := by kernel_rfl
   have hwr : wr.grownBy W3 none := grownBy_below HB3.out none
   have hJ3 : J pre W3 := HJ.out pre wr W3 none HJW.out hwr (fun r e => by cases e)
   have HJ3 := Lib.hid hJ3
   clear hJ3 hwr
   have kx0 : ∀ y : KW (fun W => Below W3.heap.size W3 W), (y.w.cell? ⟨gB, 0, none⟩ = some (.int .i64 lb) ∧ y.w.cell? ⟨gB, 1, none⟩ = some (.slice (some ⟨gl, ol, none⟩) cuts.length cl)) ∧ y.w.cell? ⟨gB, 2, none⟩ = some (.slice (some ⟨gr, or_, none⟩) cuts.length cr) := fun y => ⟨⟨cell_keep y.ok x0, cell_keep y.ok x1⟩, cell_keep y.ok x2⟩
   have kx1 : ∀ y : KW (fun W => Below W3.heap.size W3 W), (y.w.cell? ⟨gC, 0, none⟩ = some (.bool c.across) ∧ y.w.cell? ⟨gC, 1, none⟩ = some (.int .i64 c.at_)) ∧ (y.w.cell? ⟨gC, 2, none⟩ = some (.int .i64 c.low) ∧ y.w.cell? ⟨gC, 3, none⟩ = some (.int .i64 c.high)) ∧ y.w.cell? ⟨gC, 4, none⟩ = some (.int .i64 c.blank) := fun y => ⟨⟨cell_keep y.ok d0, cell_keep y.ok d1⟩, ⟨cell_keep y.ok d2, cell_keep y.ok d3⟩, cell_keep y.ok d4⟩
   have kx2 : ∀ y : KW (fun W => Below W3.heap.size W3 W), (y.w.cell? ⟨gr, or_ + k * 4, none⟩ = some (.int .i64 r.x1) ∧ y.w.cell? ⟨gr, or_ + k * 4 + 1, none⟩ = some (.int .i64 r.y1)) ∧ y.w.cell? ⟨gr, or_ + k * 4 + 2, none⟩ = some (.int .i64 r.x2) ∧ y.w.cell? ⟨gr, or_ + k * 4 + 3, none⟩ = some (.int .i64 r.y2) := fun y => ⟨⟨cell_keep y.ok r0, cell_keep y.ok r1⟩, cell_keep y.ok r2, cell_keep y.ok r3⟩
   clear x0 x1 x2 d0 d1 d2 d3 d4 r0 r1 r2 r3
   have HKC3 := Lib.hid (HKC.out.trans (KeepsB.of_below HB3.out))
   haveI n1 : Nonempty (KW (fun W => Below W3.heap.size W3 W)) := ⟨⟨W3, Below.refl _ _⟩⟩
   by_cases hc0 : c.low = 0
   ·have HL2 := Lib.hid (fun w => HLF.out w)
    rw [decide_eq_true hc0] at HL2
    by_cases hb0 : 0 ≤ c.blank
    ·have hbg : c.blank ≥ 0 := hb0
     have HP2 := Lib.hid (HYE.out hc0 hb0)
     clear hc0
     refine wpIn_region_tree (fun w' => ∃ y : KW (fun W => Below W3.heap.size W3 W), w' = y.w) 20 [(0, true), (1, false), (2, true), (3, true), (4, true), (5, true), (6, true), (7, true), (8, true), (9, true), (10, true), (11, true), (12, true), (13, true), (14, true), (15, true), (16, true), (17, true), (18, true), (19, true)] hmix (by kernel_rfl) (KW.mk' (Below.refl _ _).drew) ?_
     have HB4 : Hid (Below W3.heap.size W3 W3.drew) := Lib.hid (Below.refl _ _).drew
     generalize W3.drew = W4 at *
     refine TreeT.out ?_
     (refine TreeT_take ?_; simp only [nthOp]; go_big_quiet_step (fail); refine wpQuiet_nil ?_)
     refine TreeT.mk (wpTreeT_one ?_)
     simp only [nthOp]
     go_wp2_with (go_at_call 28; refine (HL2.out _).mono ?_; rintro e W5 ⟨rfl, hb5⟩; have HB5 := Lib.hid (HB4.out.trans (hb5.mono HB4.out.size)); clear hb5)
     refine One_mk (KW.mk' HB5.out) ?_
     refine TreeT.out ?_
     repeat (refine TreeT_take ?_; simp only [nthOp]; go_big_quiet_step (fail); refine wpQuiet_nil ?_)
     (try (simp only [show decide (0 ≤ c.blank) = false from decide_eq_false (by omega)]; repeat (refine TreeT_take ?_; simp only [nthOp]; go_big_quiet_step (fail); refine wpQuiet_nil ?_)))
     refine TreeT_done ?_
     simp only [List.drop_succ_cons, List.drop_zero]
     have HJ5 := Lib.hid (HJ.out pre W3 W5 none HJ3.out (grownBy_below HB5.out none) (fun r e => by cases e))
     have HKC5 := Lib.hid (HKC3.out.trans (KeepsB.of_below HB5.out))
     have hmem : PieceOk j ⟨lb, c.blank, r⟩ := HOK.out (k + 1) (by omega) _ (by rw [HP2.out]; exact List.mem_append_right _ (List.mem_singleton.2 rfl))
     obtain ⟨fn, tmps, assign, body, hy, hR⟩ := HY.out pre ⟨⟨lb, c.blank, r⟩, hmem⟩ W5 HJ5.out (by
      have h1 := HPR.out
      have h2 := congrArg List.length h1
      rw [List.length_map] at h2
      have h3 := piecesTo_len ⟨lb, cuts⟩ rs k
      omega)
     simp only [encPiece] at hy
     have HR := Lib.hid hR
     clear hR
     gi_wp2
     refine HR.out.mono ?_
     have HX2 := Lib.hid (show (pre ++ [(⟨⟨lb, c.blank, r⟩, hmem⟩ : { p : Placed // PieceOk j p })]).map (·.1) = piecesTo ⟨lb, cuts⟩ rs (k + 1) by rw [HP2.out, List.map_append, HPR.out]; rfl)
     clear hy
     rintro e W6 (⟨rfl, hJ6, hk6⟩ | ⟨rfl, hJ6⟩)
     ·have HJ6 := Lib.hid hJ6
      have HK6 := Lib.hid (HKC5.out.trans hk6)
      clear hJ6 hk6 kx0 kx1 kx2 n1
      gi_wp2
      go_roundw
      case rel => exact ⟨k + 1, _, by omega, by go_num, HX2, HJ6, HK6⟩
      case measure => first | (simp [intOf]; done) | (simp [intOf]; omega)
     ·have HJ6 := Lib.hid hJ6
      clear hJ6 kx0 kx1 kx2 n1
      gi_wp2
      refine bodyPost_ret (results_none rfl _ _ _) rfl ?_
      exact ⟨⟨_, rfl⟩, .inr ⟨_, ⟨k + 1, by omega, HX2.out⟩, HJ6.out⟩⟩
    ·have hbg : ¬ c.blank ≥ 0 := hb0
     have HP2 := Lib.hid (HNO.out (fun h => hb0 h.2))
     clear hc0
     refine wpIn_region_tree (fun w' => ∃ y : KW (fun W => Below W3.heap.size W3 W), w' = y.w) 20 [(0, true), (1, false), (2, true), (3, true), (4, true), (5, true), (6, true), (7, true), (8, true), (9, true), (10, true), (11, true), (12, true), (13, true), (14, true), (15, true), (16, true), (17, true), (18, true), (19, true)] hmix (by kernel_rfl) (KW.mk' (Below.refl _ _).drew) ?_
     have HB4 : Hid (Below W3.heap.size W3 W3.drew) := Lib.hid (Below.refl _ _).drew
     generalize W3.drew = W4 at *
     refine TreeT.out ?_
     (refine TreeT_take ?_; simp only [nthOp]; go_big_quiet_step (fail); refine wpQuiet_nil ?_)
     refine TreeT.mk (wpTreeT_one ?_)
     simp only [nthOp]
     go_wp2_with (go_at_call 28; refine (HL2.out _).mono ?_; rintro e W5 ⟨rfl, hb5⟩; have HB5 := Lib.hid (HB4.out.trans (hb5.mono HB4.out.size)); clear hb5)
     refine One_mk (KW.mk' HB5.out) ?_
     refine TreeT.out ?_
     repeat (refine TreeT_take ?_; simp only [nthOp]; go_big_quiet_step (fail); refine wpQuiet_nil ?_)
     (try (simp only [show decide (0 ≤ c.blank) = false from decide_eq_false (by omega)]; repeat (refine TreeT_take ?_; simp only [nthOp]; go_big_quiet_step (fail); refine wpQuiet_nil ?_)))
     refine TreeT_done ?_
     simp only [List.drop_succ_cons, List.drop_zero]
     have HJ5 := Lib.hid (HJ.out pre W3 W5 none HJ3.out (grownBy_below HB5.out none) (fun r e => by cases e))
     have HKC5 := Lib.hid (HKC3.out.trans (KeepsB.of_below HB5.out))
     clear kx0 kx1 kx2 n1
     gi_wp2
     refine ⟨fun f hf => (by cases hf), ?_⟩
     gi_wp2
     go_roundw
     case rel => exact ⟨k + 1, pre, by omega, by go_num, Lib.hid (by rw [HP2.out]; exact HPR.out), HJ5, HKC5⟩
     case measure => first | (simp [intOf]; done) | (simp [intOf]; omega)
   ·have HL2 := Lib.hid (fun w => HLF.out w)
    rw [decide_eq_false hc0] at HL2
    have HP2 := Lib.hid (HNO.out (fun h => hc0 h.1))
    clear hc0
    refine wpIn_region_tree (fun w' => ∃ y : KW (fun W => Below W3.heap.size W3 W), w' = y.w) 20 [(0, true), (1, false), (2, true), (3, true), (4, true), (5, true), (6, true), (7, true), (8, true), (9, true), (10, true), (11, true), (12, true), (13, true), (14, true), (15, true), (16, true), (17, true), (18, true), (19, true)] hmix (by kernel_rfl) (KW.mk' (Below.refl _ _).drew) ?_
    have HB4 : Hid (Below W3.heap.size W3 W3.drew) := Lib.hid (Below.refl _ _).drew
    generalize W3.drew = W4 at *
    refine TreeT.out ?_
    (refine TreeT_take ?_; simp only [nthOp]; go_big_quiet_step (fail); refine wpQuiet_nil ?_)
    refine TreeT.mk (wpTreeT_one ?_)
    simp only [nthOp]
    go_wp2_with (go_at_call 28; refine (HL2.out _).mono ?_; rintro e W5 ⟨rfl, hb5⟩; have HB5 := Lib.hid (HB4.out.trans (hb5.mono HB4.out.size)); clear hb5)
    refine One_mk (KW.mk' HB5.out) ?_
    refine TreeT.out ?_
    (refine TreeT_take ?_; simp only [nthOp]; go_big_quiet_step (fail); refine wpQuiet_nil ?_)
    (refine TreeT_take ?_; simp only [nthOp]; go_big_quiet_step (fail); refine wpQuiet_nil ?_)
    (refine TreeT_take ?_; simp only [nthOp]; go_big_quiet_step (fail); refine wpQuiet_nil ?_)
    (refine TreeT_take ?_; simp only [nthOp]; go_big_quiet_step (fail); refine wpQuiet_nil ?_)
    (try (refine TreeT_take ?_; simp only [nthOp]; go_big_quiet_want; refine quiet_pick_no (v := .bool false) _ _ _ rfl rfl rfl ?_; go_big_quiet_on; refine wpQuiet_nil ?_; simp only [Act.put, List.setIfInBounds_toArray, List.set_cons_succ, List.set_cons_zero]; repeat (refine TreeT_take ?_; simp only [nthOp]; go_big_quiet_step (fail); refine wpQuiet_nil ?_)))
    (try (simp only [show decide (0 ≤ c.blank) = false from decide_eq_false (by omega)]; repeat (refine TreeT_take ?_; simp only [nthOp]; go_big_quiet_step (fail); refine wpQuiet_nil ?_)))
    refine TreeT_done ?_
    simp only [List.drop_succ_cons, List.drop_zero]
    have HJ5 := Lib.hid (HJ.out pre W3 W5 none HJ3.out (grownBy_below HB5.out none) (fun r e => by cases e))
    have HKC5 := Lib.hid (HKC3.out.trans (KeepsB.of_below HB5.out))
    clear kx0 kx1 kx2 n1
    gi_wp2
    refine ⟨fun f hf => (by cases hf), ?_⟩
    gi_wp2
    go_roundw
    case rel => exact ⟨k + 1, pre, by omega, by go_num, Lib.hid (by rw [HP2.out]; exact HPR.out), HJ5, HKC5⟩
    case measure => first | (simp [intOf]; done) | (simp [intOf]; omega)
  ·obtain rfl : k = cuts.length := by omega
   have hki : ¬ ((cuts.length : Nat) : Int) < ((cuts.length : Nat) : Int) := by omega
   gi_wp2
   go_end0
   exact ⟨⟨_, rfl⟩, .inl ⟨pre, HPR.out, HJW.out⟩⟩
end Go.Proofs.YtjmgboipbhddlaaGreatDoor
set_option linter.unusedVariables false
set_option linter.unusedSimpArgs false
namespace Go.Proofs.YtjmgboipbhddlaaGreatDoor
open Go Go.RowKit Go.Maps

def SeenI (w : World) (bm n : Nat) (xs : List Int) : Prop :=
 ∃ D : DataW Unit, w.ownsMap Tryz.prog 3 (plainElem Tryz.prog 4) bm n D ∧ IsMap D ∧
  ∀ i : Int, (Lit.int .i64 i).wf = true → D.atKey (.int .i64 i) (.lit (.bool false)) = .lit (.bool (decide (i ∈ xs)))
theorem int_keyedI : Keyed Tryz.prog 3 := int_keyed Tryz.underlying3
theorem SeenI.made (w : World) : SeenI (w.alloc (.map #[] 0)) w.heap.size 0 [] :=
 ⟨.map [], World.ownsMap_made _ _ _ _, isMap_empty, fun s _ => rfl⟩
theorem SeenI.below {w w' : World} {bm n : Nat} {xs : List Int} (h : SeenI w bm n xs) (hb : Below w.heap.size w w') : SeenI w' bm n xs := by
 obtain ⟨D, ho, hm, hk⟩ := h
 exact ⟨D, ho.kept (row := none) ⟨hb.os, hb.tape, hb.output, hb.size, fun k hk _ => hb.block k hk⟩ (by simp), hm, hk⟩
theorem SeenI.grown {w w' : World} {bm n : Nat} {xs : List Int} {row : Option Nat} (h : SeenI w bm n xs) (hg : w.grownBy w' row) (hne : some bm ≠ row) : SeenI w' bm n xs := by
 obtain ⟨D, ho, hm, hk⟩ := h
 exact ⟨D, ho.kept hg hne, hm, hk⟩
theorem SeenI.run {w : World} {bm n : Nat} {xs : List Int} (h : SeenI w bm n xs) (i : Int) (hs : (Lit.int .i64 i).wf = true) {q : Bool} (hq : decide (i ∈ xs) = q) :
    (Instr.lookup 114 (.map (some bm)) (.int .i64 i) false).run Tryz.prog w = .ok (.bool q) w := by
 subst hq
 obtain ⟨D, ho, hm, hk⟩ := h
 obtain ⟨v, ps, hr, hv⟩ := ho.lookup int_keyedI Tryz.underlying114 (zero_bool w) (plainElem_bool Tryz.underlying4 false) (keyOf_int_mk Tryz.underlying3 hs)
 rw [hk i hs] at hv
 rw [hr, plainElem_bool_inv Tryz.underlying4 hv]
theorem wpList_seenI {w : World} {ops : Array Oper} {rest : List Oper} {o : Oper} {a : Act} {Q : Exit → Act → World → Prop}
    (hg : o.guard = none) (m x v : Operand) (hop : o.op = Op.mapUpdate 114 m x v) (bm n : Nat) (xs : List Int) (i : Int) (hs : (Lit.int .i64 i).wf = true) (hn : n < 9223372036854775807)
    (hm : a.eval m = .map (some bm)) (hx : a.eval x = .int .i64 i) (hv : a.eval v = .bool true) (h : SeenI w bm n xs)
    (hK : ∀ w', SeenI w' bm (n + 1) (xs ++ [i]) → w.grownBy w' (some bm) → wpList Tryz.prog ops Q rest (a.put o.dst undef) w') :
    wpList Tryz.prog ops Q (o :: rest) a w := by
 obtain ⟨D, ho, him, hk⟩ := h
 refine wpList_mapUpdate_own w hg m x v _ hop _ _ int_keyedI Tryz.underlying114 _ bm n D hm ho hn _ _ (.int .i64 i) hx hv (keyOf_int_mk Tryz.underlying3 hs) (.lit (.bool true)) []
  (plainElem_bool Tryz.underlying4 true) ?_
 intro w' ho' hgr
 refine hK w' ⟨_, ho', him.put _ _, fun t ht => ?_⟩ hgr
 by_cases hti : t = i
 ·subst hti
  rw [atKey_put_same him (by simp [WideAt.IsKeyLit])]
  simp
 ·rw [atKey_put_other (by simpa using hti), hk t ht]
  simp [hti]
theorem wf_board {n : Nat} (h : n ≤ 1000) : (Lit.int .i64 (n : Int)).wf = true := by
 have h1 : IntKind.i64.min = -9223372036854775808 := by decide
 have h2 : IntKind.i64.max = 9223372036854775807 := by decide
 simp only [Lit.wf, Bool.and_eq_true, decide_eq_true_eq, h1, h2]
 omega

structure LaidC where
 lay : Layout
 rects : List Rect
 al : Option Addr
 cl : Nat
 ar : Option Addr
 cr : Nat
def cellsLd (x : LaidC) : List Value := [.int .i64 x.lay.board, .slice x.al x.lay.cuts.length x.cl, .slice x.ar x.rects.length x.cr]
theorem cellsLd_len (x : LaidC) : (cellsLd x).length = 3 := rfl
theorem cellsLd_one (x : LaidC) : ∀ u ∈ cellsLd x, u.oneCell' = true := by
 intro u hu
 simp only [cellsLd, List.mem_cons, List.not_mem_nil, or_false] at hu
 rcases hu with rfl | rfl | rfl <;> rfl
def LaidC.at (w : World) (b o : Nat) (x : LaidC) : Prop := w.cell? ⟨b, o, none⟩ = some (.int .i64 x.lay.board) ∧ w.cell? ⟨b, o + 1, none⟩ = some (.slice x.al x.lay.cuts.length x.cl) ∧ w.cell? ⟨b, o + 2, none⟩ = some (.slice x.ar x.rects.length x.cr)
def Laids.V (w : World) (a : Option Addr) (l : List LaidC) : Prop := RowV 3 LaidC.at w a l
theorem Laids.V.keep {w w' : World} {a : Option Addr} {l : List LaidC} (h : Laids.V w a l) (hb : Below w.heap.size w w') : Laids.V w' a l := RowV.keep (fun _ _ _ h => ⟨cell_keep hb h.1, cell_keep hb h.2.1, cell_keep hb h.2.2⟩) h
theorem own_laids {w : World} {base e n c : Nat} {a : Option Addr} {l : List LaidC} (h : w.ownsRow base e 3 (.slice a n c) n (l.flatMap cellsLd)) : Laids.V w a l :=
 own_rowV cellsLd_len (by decide) (fun b o x _ hc => ⟨hc 0 _ rfl, hc 1 _ rfl, hc 2 _ rfl⟩) h
theorem laid_info : (Tryz.prog.info? 83).map (fun i => (i.zero, i.size, i.bytes)) = some (some (.agg #[.int .i64 0, .slice none 0 0, .slice none 0 0]), 3, 56) := by kernel_rfl
theorem Rects.V.far {w w' : World} {a : Option Addr} {l : List Rect} {row : Option Nat} (h : Rects.V w a l) (hg : w.grownBy w' row) (hne : ∀ x, a = some x → row ≠ some x.block) : Rects.V w' a l := fun hl => by
 obtain ⟨b, off, ha, hx⟩ := h hl
 refine ⟨b, off, ha, fun k x hk => ?_⟩
 obtain ⟨c0, c1, c2, c3, hw⟩ := hx k x hk
 have hn : ∀ o, some (⟨b, o, none⟩ : Addr).block ≠ row := fun o e => hne _ ha e.symm
 exact ⟨hg.cell c0 (hn _), hg.cell c1 (hn _), hg.cell c2 (hn _), hg.cell c3 (hn _), hw⟩
structure LaidOk (j : Job) (w wr : World) (v : Value) (bm : Nat) (x : LaidC) : Prop where
 ok : (layOf j x.lay).2 = 0
 rs : x.rects = (layOf j x.lay).1
 bd : 0 ≤ x.lay.board ∧ x.lay.board < j.stock.length
 cv : Cuts.V w x.al x.lay.cuts
 cc : x.lay.cuts.length ≤ x.cl ∧ x.cl ≤ maxLen
 rv : Rects.V wr x.ar x.rects
 ap : ∀ a, x.ar = some a → a.block < wr.heap.size ∧ v.ownBlock ≠ some a.block ∧ bm < a.block
theorem LaidOk.below {j : Job} {w wr wx : World} {v : Value} {bm : Nat} {x : LaidC} (h : LaidOk j w wr v bm x) (hb : Below wr.heap.size wr wx) : LaidOk j w wx v bm x :=
 ⟨h.ok, h.rs, h.bd, h.cv, h.cc, h.rv.keep hb, fun a ha => ⟨Nat.lt_of_lt_of_le (h.ap a ha).1 hb.size, (h.ap a ha).2⟩⟩
theorem LaidOk.row {j : Job} {w wr wx : World} {v v' : Value} {bm : Nat} {x : LaidC} (h : LaidOk j w wr v bm x) (hg : wr.grownBy wx v.ownBlock) (hv : v'.ownBlock = v.ownBlock ∨ v'.ownBlock = some wr.heap.size) : LaidOk j w wx v' bm x :=
 ⟨h.ok, h.rs, h.bd, h.cv, h.cc, h.rv.far hg fun a ha => (h.ap a ha).2.1, fun a ha => ⟨Nat.lt_of_lt_of_le (h.ap a ha).1 hg.size, by
  rcases hv with e | e
  ·rw [e]; exact (h.ap a ha).2.1
  ·rw [e]; intro e'; have := (h.ap a ha).1; injection e' with e'; omega, (h.ap a ha).2.2⟩⟩
theorem LaidOk.mapped {j : Job} {w wr wx : World} {v : Value} {bm : Nat} {x : LaidC} (h : LaidOk j w wr v bm x) (hg : wr.grownBy wx (some bm)) : LaidOk j w wx v bm x :=
 ⟨h.ok, h.rs, h.bd, h.cv, h.cc, h.rv.far hg fun a ha e => by injection e with e; have := (h.ap a ha).2.2; omega, fun a ha => ⟨Nat.lt_of_lt_of_le (h.ap a ha).1 hg.size, (h.ap a ha).2⟩⟩

structure OutB (W : World) (g4 g5 g6 : Nat) : Prop where
 x4 : W.cell? ⟨g4, 0, none⟩ = some (.slice none 0 0)
 x6 : W.cell? ⟨g6, 0, none⟩ = some (.int .i64 0)
 c0 : W.cell? ⟨g5, 0, none⟩ = some (.int .i64 0)
 c1 : W.cell? ⟨g5, 1, none⟩ = some (.int .i64 0)
 c2 : W.cell? ⟨g5, 2, none⟩ = some (.int .i64 0)
 c3 : W.cell? ⟨g5, 3, none⟩ = some (.int .i64 0)
 c4 : W.cell? ⟨g5, 4, none⟩ = some (.int .i64 0)
 c5 : W.cell? ⟨g5, 5, none⟩ = some (.int .i64 0)
 y4 : W.frozen? ⟨g4, 0, none⟩ = false
 y6 : W.frozen? ⟨g6, 0, none⟩ = false
 f0 : W.frozen? ⟨g5, 0, none⟩ = false
 f1 : W.frozen? ⟨g5, 1, none⟩ = false
 f2 : W.frozen? ⟨g5, 2, none⟩ = false
 f3 : W.frozen? ⟨g5, 3, none⟩ = false
 f4 : W.frozen? ⟨g5, 4, none⟩ = false
 f5 : W.frozen? ⟨g5, 5, none⟩ = false
theorem OutB.keep {W W' : World} {g4 g5 g6 : Nat} (h : OutB W g4 g5 g6) (hb : Below W.heap.size W W') : OutB W' g4 g5 g6 :=
 have h4 := block_lt_of_cell h.x4
 have h5 := block_lt_of_cell h.c0
 have h6 := block_lt_of_cell h.x6
 ⟨cell_keep hb h.x4, cell_keep hb h.x6, cell_keep hb h.c0, cell_keep hb h.c1, cell_keep hb h.c2, cell_keep hb h.c3, cell_keep hb h.c4, cell_keep hb h.c5, frozen_keep hb h4 h.y4, frozen_keep hb h6 h.y6, frozen_keep hb h5 h.f0, frozen_keep hb h5 h.f1, frozen_keep hb h5 h.f2, frozen_keep hb h5 h.f3, frozen_keep hb h5 h.f4, frozen_keep hb h5 h.f5⟩
structure OutAt (W : World) (g4 g5 g6 : Nat) (v u0 u1 u2 u3 u4 u5 e : Value) : Prop where
 x4 : W.cell? ⟨g4, 0, none⟩ = some v
 x6 : W.cell? ⟨g6, 0, none⟩ = some e
 c0 : W.cell? ⟨g5, 0, none⟩ = some u0
 c1 : W.cell? ⟨g5, 1, none⟩ = some u1
 c2 : W.cell? ⟨g5, 2, none⟩ = some u2
 c3 : W.cell? ⟨g5, 3, none⟩ = some u3
 c4 : W.cell? ⟨g5, 4, none⟩ = some u4
 c5 : W.cell? ⟨g5, 5, none⟩ = some u5
theorem OutAt.keepC {gc : Nat} {W W' : World} {g4 g5 g6 : Nat} {v u0 u1 u2 u3 u4 u5 e : Value} (h : OutAt W g4 g5 g6 v u0 u1 u2 u3 u4 u5 e) (hb : KeepsCells gc W W') (h4 : g4 ≠ gc) (h5 : g5 ≠ gc) (h6 : g6 ≠ gc) : OutAt W' g4 g5 g6 v u0 u1 u2 u3 u4 u5 e :=
 ⟨hb.cell h.x4 h4, hb.cell h.x6 h6, hb.cell h.c0 h5, hb.cell h.c1 h5, hb.cell h.c2 h5, hb.cell h.c3 h5, hb.cell h.c4 h5, hb.cell h.c5 h5⟩
theorem set_some {W : World} {p q : Addr} {u v : Value} (h : W.cell? q = some v) : (W.setCell p u).cell? q = some (if p = q then u else v) := by
 by_cases e : p = q
 ·subst e; rw [if_pos rfl]; exact World.cell?_setCell_same _ _ _ h
 ·rw [if_neg e, World.cell?_setCell_other (h := e)]; exact h
theorem outAt_set {W : World} {g4 g5 g6 : Nat} (h : OutB W g4 g5 g6) (h1 : g4 ≠ g5) (h2 : g4 ≠ g6) (h3 : g5 ≠ g6) (v u0 u1 u2 u3 u4 u5 e : Value) :
    OutAt ((((((((W.setCell ⟨g4, 0, none⟩ v).setCell ⟨g5, 0, none⟩ u0).setCell ⟨g5, 1, none⟩ u1).setCell ⟨g5, 2, none⟩ u2).setCell ⟨g5, 3, none⟩ u3).setCell ⟨g5, 4, none⟩ u4).setCell ⟨g5, 5, none⟩ u5).setCell ⟨g6, 0, none⟩ e) g4 g5 g6 v u0 u1 u2 u3 u4 u5 e := by
 obtain ⟨a1, a2, b0, b1, b2, b3, b4, b5, -⟩ := h
 have k : ∀ {q : Addr} {x : Value}, W.cell? q = some x → ((((((((W.setCell ⟨g4, 0, none⟩ v).setCell ⟨g5, 0, none⟩ u0).setCell ⟨g5, 1, none⟩ u1).setCell ⟨g5, 2, none⟩ u2).setCell ⟨g5, 3, none⟩ u3).setCell ⟨g5, 4, none⟩ u4).setCell ⟨g5, 5, none⟩ u5).setCell ⟨g6, 0, none⟩ e).cell? q = _ := fun hq => set_some (set_some (set_some (set_some (set_some (set_some (set_some (set_some hq)))))))
 refine ⟨(k a1).trans ?_, (k a2).trans ?_, (k b0).trans ?_, (k b1).trans ?_, (k b2).trans ?_, (k b3).trans ?_, (k b4).trans ?_, (k b5).trans ?_⟩ <;> simp [h1, h2, h3, h1.symm, h2.symm, h3.symm]
theorem below_out {n : Nat} {w W : World} {g4 g5 g6 : Nat} {v u0 u1 u2 u3 u4 u5 e : Value} (h : Below n w W) (h4 : n ≤ g4) (h5 : n ≤ g5) (h6 : n ≤ g6) : Below n w ((((((((W.setCell ⟨g4, 0, none⟩ v).setCell ⟨g5, 0, none⟩ u0).setCell ⟨g5, 1, none⟩ u1).setCell ⟨g5, 2, none⟩ u2).setCell ⟨g5, 3, none⟩ u3).setCell ⟨g5, 4, none⟩ u4).setCell ⟨g5, 5, none⟩ u5).setCell ⟨g6, 0, none⟩ e) :=
 (((((((h.setCell h4 _).setCell h5 _).setCell h5 _).setCell h5 _).setCell h5 _).setCell h5 _).setCell h5 _).setCell h6 _
theorem mark_setCell {W : World} {D : Nat} {a : Addr} {v : Value} {ds : Option (List Deferred)} (h : W.heap[D]? = some (.deferred ds)) : (W.setCell a v).heap[D]? = some (.deferred ds) := by
 show (W.heap.modify a.block _)[D]? = _
 rw [Array.getElem?_modify]
 split
 ·rw [h]; rfl
 ·exact h
theorem Marks.set {B : Nat} {ds : List Deferred} {W : World} (h : Marks B ds W) (a : Addr) (v : Value) : Marks B ds (W.setCell a v) := h.keep fun _ _ hl _ => mark_setCell hl
theorem Marks.below {B : Nat} {ds : List Deferred} {W W' : World} (h : Marks B ds W) (hb : Below W.heap.size W W') : Marks B ds W' := h.keep fun D _ hl _ => (hb.block D (Array.getElem?_eq_some_iff.1 hl).1).trans hl
theorem Marks.out {B : Nat} {ds : List Deferred} {W : World} {g4 g5 g6 : Nat} {v u0 u1 u2 u3 u4 u5 e : Value} (h : Marks B ds W) : Marks B ds ((((((((W.setCell ⟨g4, 0, none⟩ v).setCell ⟨g5, 0, none⟩ u0).setCell ⟨g5, 1, none⟩ u1).setCell ⟨g5, 2, none⟩ u2).setCell ⟨g5, 3, none⟩ u3).setCell ⟨g5, 4, none⟩ u4).setCell ⟨g5, 5, none⟩ u5).setCell ⟨g6, 0, none⟩ e) :=
 (((((((h.set _ _).set _ _).set _ _).set _ _).set _ _).set _ _).set _ _).set _ _

def plV (p : Placed) : Value := .agg #[.int .i64 p.board, .int .i64 p.blank, .int .i64 p.at_.x1, .int .i64 p.at_.y1, .int .i64 p.at_.x2, .int .i64 p.at_.y2]
def SixC (W : World) (g : Nat) (u0 u1 u2 u3 u4 u5 : Int) : Prop := (W.cell? ⟨g, 0, none⟩ = some (.int .i64 u0) ∧ W.cell? ⟨g, 1, none⟩ = some (.int .i64 u1)) ∧ (W.cell? ⟨g, 2, none⟩ = some (.int .i64 u2) ∧ W.cell? ⟨g, 3, none⟩ = some (.int .i64 u3)) ∧ W.cell? ⟨g, 4, none⟩ = some (.int .i64 u4) ∧ W.cell? ⟨g, 5, none⟩ = some (.int .i64 u5)
def SixW (g0 g1 : Nat) (u0 u1 u2 u3 u4 u5 : Int) (w W : World) : Prop := SixC W g0 u0 u1 u2 u3 u4 u5 ∧ Below w.heap.size w W
def OutZ (W : World) (g : Nat) : Prop := (W.cell? ⟨g, 0, none⟩ = some (.int .i64 0) ∧ W.cell? ⟨g, 1, none⟩ = some (.int .i64 0) ∧ W.cell? ⟨g, 2, none⟩ = some (.int .i64 0) ∧ W.cell? ⟨g, 3, none⟩ = some (.int .i64 0) ∧ W.cell? ⟨g, 4, none⟩ = some (.int .i64 0) ∧ W.cell? ⟨g, 5, none⟩ = some (.int .i64 0)) ∧ W.frozen? ⟨g, 0, none⟩ = false ∧ W.frozen? ⟨g, 1, none⟩ = false ∧ W.frozen? ⟨g, 2, none⟩ = false ∧ W.frozen? ⟨g, 3, none⟩ = false ∧ W.frozen? ⟨g, 4, none⟩ = false ∧ W.frozen? ⟨g, 5, none⟩ = false
set_option maxRecDepth 100000 in
set_option maxHeartbeats 1000000 in
theorem fail_any (u0 u1 u2 u3 u4 u5 : Int) (E : Int) (w : World) : Calls Tryz.prog 54 #[.agg #[.int .i64 u0, .int .i64 u1, .int .i64 u2, .int .i64 u3, .int .i64 u4, .int .i64 u5], .int .i64 E] w fun e w' => e = .returned (.tuple #[.slice none 0 0, .agg #[.int .i64 u0, .int .i64 u1, .int .i64 u2, .int .i64 u3, .int .i64 u4, .int .i64 u5], .int .i64 E]) ∧ Below w.heap.size w w' := by
 go_enter Tryz.func54, Tryz.ntmps54
 go_upto_region 1 with fail
 refine gen_world (fun W => SixC W w.heap.size u0 u1 u2 u3 u4 u5 ∧ OutZ W (w.heap.size + 1) ∧ Below w.heap.size w W ∧ w.heap.size + 1 < W.heap.size) ⟨⟨⟨by simp [go_sem], by simp [go_sem]⟩, ⟨by simp [go_sem], by simp [go_sem]⟩, by simp [go_sem], by simp [go_sem]⟩, ⟨⟨by simp [go_sem], by simp [go_sem], by simp [go_sem], by simp [go_sem], by simp [go_sem], by simp [go_sem]⟩, by simp [go_sem], by simp [go_sem], by simp [go_sem], by simp [go_sem], by simp [go_sem], by simp [go_sem]⟩, ((Below.refl _ _).alloc (Nat.le_refl _) _).alloc (by simp) _, by simp⟩ ?_
 rintro W ⟨h6, hz, hb, hs⟩
 obtain ⟨g0, hg0⟩ : ∃ g, g = w.heap.size := ⟨_, rfl⟩
 obtain ⟨g1, hg1⟩ : ∃ g, g = w.heap.size + 1 := ⟨_, rfl⟩
 rw [← hg1] at hz
 rw [← hg0] at h6
 rw [← hg1, ← hg0]
 have hne : g0 ≠ g1 := by omega
 have HNE := Lib.hid hne
 have HG1 := Lib.hid (show w.heap.size ≤ g1 by omega)
 have HB := Lib.hid hb
 have hcl : SixW g0 g1 u0 u1 u2 u3 u4 u5 w W := ⟨h6, hb⟩
 clear hg0 hg1 hs hb hne
 have kx : ∀ y : KW (SixW g0 g1 u0 u1 u2 u3 u4 u5 w), SixC y.w g0 u0 u1 u2 u3 u4 u5 := fun y => y.ok.1
 simp only [SixC] at kx
 haveI n1 : Nonempty (KW (SixW g0 g1 u0 u1 u2 u3 u4 u5 w)) := ⟨⟨W, hcl⟩⟩
 refine wp_region_tree (fun w' => ∃ y : KW (SixW g0 g1 u0 u1 u2 u3 u4 u5 w), w' = y.w) 4 (.take 0 (.take 1 (.take 2 (.one 3 .done)))) (by kernel_rfl) (by kernel_rfl) (KW.mk' ⟨h6, hcl.2.drew⟩) ?_
 have hz1 : OutZ W.drew g1 := hz
 have hb1 : Below w.heap.size w W.drew := HB.out.drew
 have h61 : SixC W.drew g0 u0 u1 u2 u3 u4 u5 := h6
 generalize W.drew = w5 at *
 have HZ := Lib.hid hz1
 have HB5 := Lib.hid hb1
 have H6 := Lib.hid h61
 clear hz hz1 h6 h61 hb1 hcl HB
 repeat (refine wpTree_take ?_; simp only [nthOp]; (first | go_big_quiet_step (fail) | quiet_step (fail)); refine wpQuiet_nil ?_)
 refine wpTree_one ?_
 simp only [nthOp]
 obtain ⟨⟨z0, z1, z2, z3, z4, z5⟩, f0, f1, f2, f3, f4, f5⟩ := HZ.out
 go_wp2_with fail
 refine One_mk (KW.mk' ⟨?_, ?_⟩) (wpTree_done ?_)
 ·have hh := HNE.out
  obtain ⟨⟨q0, q1⟩, ⟨q2, q3⟩, q4, q5⟩ := H6.out
  unfold SixC
  simp [go_sem, hh, hh.symm, q0, q1, q2, q3, q4, q5]
 ·exact below_six HB5.out HG1.out
 ·simp only [List.drop_succ_cons, List.drop_zero]
  go_wp2_with fail
  refine NP_mk ?_
  go_wp2_with fail
  refine bodyPost_ret (v := .tuple #[.slice none 0 0, .agg #[.int .i64 u0, .int .i64 u1, .int .i64 u2, .int .i64 u3, .int .i64 u4, .int .i64 u5], .int .i64 E]) (by simp [results, Tryz.results54, go_sem, *]) rfl ?_
  exact ⟨rfl, below_six HB5.out HG1.out⟩

structure LaidR (j : Job) (w' : World) (x : LaidC) : Prop where
 ok : (layOf j x.lay).2 = 0
 rs : x.rects = (layOf j x.lay).1
 bd : 0 ≤ x.lay.board ∧ x.lay.board < j.stock.length
 cv : Cuts.V w' x.al x.lay.cuts
 cc : x.lay.cuts.length ≤ x.cl ∧ x.cl ≤ maxLen
 rv : Rects.V w' x.ar x.rects
def CheckedPost (w : World) (j : Job) (plan : List Layout) (q : Placed × Int) (e : Ending) (w' : World) : Prop :=
 ∃ (av : Option Addr) (n cv : Nat), e = .returned (.tuple #[.slice av n cv, plV q.1, .int .i64 q.2]) ∧ Below w.heap.size w w' ∧ (q.2 ≠ 0 → av = none ∧ n = 0 ∧ cv = 0) ∧
  (q.2 = 0 → n = plan.length ∧ ∃ xs : List LaidC, xs.map LaidC.lay = plan ∧ Laids.V w' av xs ∧ ∀ x ∈ xs, LaidR j w' x)
theorem CheckedPost.bad {w w' : World} {j : Job} {plan : List Layout} {q : Placed × Int} {u0 u1 u2 u3 u4 u5 E : Int} (hq : q = (⟨u0, u1, ⟨u2, u3, u4, u5⟩⟩, E)) (hE : E ≠ 0) (hb : Below w.heap.size w w') :
    CheckedPost w j plan q (.returned (.tuple #[.slice none 0 0, .agg #[.int .i64 u0, .int .i64 u1, .int .i64 u2, .int .i64 u3, .int .i64 u4, .int .i64 u5], .int .i64 E])) w' := by
 subst hq
 exact ⟨none, 0, 0, rfl, hb, fun _ => ⟨rfl, rfl, rfl⟩, fun h => absurd h hE⟩
end Go.Proofs.YtjmgboipbhddlaaGreatDoor
