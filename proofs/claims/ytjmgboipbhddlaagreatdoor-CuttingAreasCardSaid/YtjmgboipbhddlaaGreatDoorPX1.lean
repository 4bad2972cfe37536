import Derived.Test.YtjmgboipbhddlaaGreatDoorCH1
import Derived.Test.YtjmgboipbhddlaaGreatDoorRR
set_option linter.unusedVariables false
set_option linter.unusedSimpArgs false
namespace Go.Proofs.YtjmgboipbhddlaaGreatDoor
open Go Go.RowKit

structure Placed where
 board : Int
 blank : Int
 at_ : Rect
deriving DecidableEq
def kindOk (b : Board) (x : Blank) : Bool := (b.species.toList == x.species.toList) && decide (x.thick ≤ b.thick)
def pieceOn (b : Board) (x : Blank) (r : Rect) : Int :=
 if kindOk b x = false then 17
 else if ¬ (r.x2 - r.x1 = x.length ∧ r.y2 - r.y1 = x.width) then 10
 else if soundB b.defects r = false then 21 else 0
def pieceE (j : Job) (p : Placed) : Int :=
 if (j.blanks.length : Int) ≤ p.blank then 6 else pieceOn (j.stock.getD p.board.toNat default) (bl j.blanks p.blank.toNat) p.at_
def near (r : Rect) : Prop := (-1000000 ≤ r.x1 ∧ r.x1 ≤ 1000000) ∧ (-1000000 ≤ r.y1 ∧ r.y1 ≤ 1000000) ∧ (-1000000 ≤ r.x2 ∧ r.x2 ≤ 1000000) ∧ (-1000000 ≤ r.y2 ∧ r.y2 ≤ 1000000)
def PieceCut (W0 : World) (sb sw : Nat) (b : Board) (ad : Option Addr) (cd : Nat) (x : Blank) (u : Nat → Value) (W : World) : Prop := ∃ g5 g6 : Nat, u sb = .pointer (some ⟨g5, 0, none⟩) ∧ u sw = .pointer (some ⟨g6, 0, none⟩) ∧ CellsBd W g5 0 b ad cd ∧ CellsB W g6 0 x ∧ Below W0.heap.size W0 W
theorem PieceCut.mk {W0 W : World} {sb sw g5 g6 : Nat} {b : Board} {ad : Option Addr} {cd : Nat} {x : Blank} {u : Nat → Value} (h1 : u sb = .pointer (some ⟨g5, 0, none⟩)) (h2 : u sw = .pointer (some ⟨g6, 0, none⟩)) (h3 : CellsBd W g5 0 b ad cd) (h4 : CellsB W g6 0 x) (h5 : Below W0.heap.size W0 W) : PieceCut W0 sb sw b ad cd x u W := ⟨g5, g6, h1, h2, h3, h4, h5⟩
theorem blank_row {w : World} {a : Option Addr} {l : List Blank} (h : Blanks.V w a l) {k : Nat} (hk : k < l.length) : ∃ g off, a = some ⟨g, off, none⟩ ∧ CellsB w g (off + k * 6) l[k] := by
 obtain ⟨g, off, ha, c0, c1, c2, c3, c4, c5, -⟩ := h.at_ hk
 exact ⟨g, off, ha, c0, c1, c2, c3, c4, c5⟩
theorem CellsB.keep2 {W W' : World} {g o : Nat} {x : Blank} (h : CellsB W g o x) (hb : Below W.heap.size W W') : CellsB W' g o x := ⟨cell_keep hb h.c0, cell_keep hb h.c1, cell_keep hb h.c2, cell_keep hb h.c3, cell_keep hb h.c4, cell_keep hb h.c5⟩

set_option maxRecDepth 100000 in
set_option maxHeartbeats 8000000 in
theorem checkPiece_any (j : Job) (p : Placed) (a1 : Option Addr) (c1 : Nat) (a2 : Option Addr) (c2 : Nat) (w : World) (hs : Boards.V w a1 j.stock) (hb : Blanks.V w a2 j.blanks) (hJ : JobOk j.stock j.blanks j.trim) (hbd : 0 ≤ p.board ∧ p.board < j.stock.length) (hbl : 0 ≤ p.blank) (hr : near p.at_) :
    Calls Tryz.prog 57 #[.agg #[.slice a1 j.stock.length c1, .slice a2 j.blanks.length c2, .int .i64 j.trim.kerf, .int .i64 j.trim.ends, .int .i64 j.trim.sides], .agg #[.int .i64 p.board, .int .i64 p.blank, .int .i64 p.at_.x1, .int .i64 p.at_.y1, .int .i64 p.at_.x2, .int .i64 p.at_.y2]] w fun e w' => e = .returned (.int .i64 (pieceE j p)) ∧ Below w.heap.size w w' := by
 obtain ⟨E, hE⟩ : ∃ E, pieceE j p = E := ⟨_, rfl⟩
 rw [hE]
 obtain ⟨pb, pl, r⟩ := p
 obtain ⟨nb, hnb⟩ : ∃ n : Nat, pb = n := ⟨pb.toNat, by simp only at hbd; omega⟩
 obtain ⟨nl, hnl⟩ : ∃ n : Nat, pl = n := ⟨pl.toNat, by simp only at hbl; omega⟩
 subst hnb hnl
 simp only at hbd hr ⊢
 clear hbl
 have hbd2 : nb < j.stock.length := by omega
 obtain ⟨AD, CD, hSC⟩ := stock_ch hs
 have HSC := Lib.hid hSC
 have HBV := Lib.hid hb
 clear hs hb hSC hbd
 by_cases hge : j.blanks.length ≤ nl
 ·have hge2 : ¬ (nl : Int) < (j.blanks.length : Int) := by omega
  have hge3 : (nl : Int) ≥ (j.blanks.length : Int) := by omega
  have HE := Lib.hid (show E = 6 by rw [← hE]; unfold pieceE; rw [if_pos (by simp only; omega)])
  clear hE
  go_enter Tryz.func57, Tryz.ntmps57
  go_wp2_with fail
  go_ret
  exact ⟨by rw [HE.out]; rfl, by repeat (first | (with_reducible assumption) | exact Below.refl _ _ | (refine Below.setCell ?_ (by first | omega | (simp; omega) | (simp; done)) _) | (refine Below.alloc ?_ (by first | omega | (simp; omega) | (simp; done)) _) | (refine Below.drew ?_))⟩
 have hlt : nl < j.blanks.length := by omega
 have hli : (nl : Int) < (j.blanks.length : Int) := by omega
 have hbi : (nb : Int) < (j.stock.length : Int) := by omega
 have HE0 := Lib.hid (show E = pieceOn j.stock[nb] j.blanks[nl] r by
  rw [← hE]; unfold pieceE bl
  rw [if_neg (by simp only; omega)]
  simp only [Int.toNat_natCast]
  rw [List.getD_eq_getElem?_getD, List.getElem?_eq_getElem hbd2, List.getD_eq_getElem?_getD, List.getElem?_eq_getElem hlt]
  rfl)
 obtain ⟨⟨gs, off, has, hcb⟩, hrv, -⟩ := HSC.out.ch nb _ (List.getElem?_eq_getElem hbd2)
 obtain ⟨gl, off', hal, hcl⟩ := blank_row HBV.out hlt
 have hwant := hJ.want _ (List.getElem_mem hlt)
 have hdef := hJ.defs _ (List.getElem_mem hbd2)
 subst has
 subst hal
 have HJD := Lib.hid hdef
 have HRV := Lib.hid hrv
 generalize AD nb = ad at *
 generalize CD nb = cd at *
 clear hE hrv hdef hJ HBV HSC hge
 generalize j.stock[nb] = b at *
 generalize j.blanks[nl] = x at *
 go_enter Tryz.func57, Tryz.ntmps57
 go_upto_region 1 with fail
 refine gen_world (fun W => JB W w.heap.size j (some ⟨gs, off, none⟩) c1 (some ⟨gl, off', none⟩) c2 ∧ (W.cell? ⟨w.heap.size + 1, 0, none⟩ = some (.int .i64 nb) ∧ W.cell? ⟨w.heap.size + 1, 1, none⟩ = some (.int .i64 nl) ∧ W.cell? ⟨w.heap.size + 1, 2, none⟩ = some (.int .i64 r.x1) ∧ W.cell? ⟨w.heap.size + 1, 3, none⟩ = some (.int .i64 r.y1) ∧ W.cell? ⟨w.heap.size + 1, 4, none⟩ = some (.int .i64 r.x2) ∧ W.cell? ⟨w.heap.size + 1, 5, none⟩ = some (.int .i64 r.y2)) ∧ Below w.heap.size w W) ⟨⟨by simp [go_sem], by simp [go_sem], by simp [go_sem], by simp [go_sem], by simp [go_sem]⟩, ⟨by simp [go_sem], by simp [go_sem], by simp [go_sem], by simp [go_sem], by simp [go_sem], by simp [go_sem]⟩, by repeat (first | (with_reducible assumption) | exact Below.refl _ _ | (refine Below.setCell ?_ (by first | omega | (simp; omega) | (simp; done)) _) | (refine Below.alloc ?_ (by first | omega | (simp; omega) | (simp; done)) _) | (refine Below.drew ?_))⟩ ?_
 rintro W ⟨⟨k0, k1, -, -, -⟩, ⟨p0, p1, p2, p3, p4, p5⟩, hbW⟩
 obtain ⟨gj, hgj⟩ : ∃ g, g = w.heap.size := ⟨_, rfl⟩
 obtain ⟨gp, hgp⟩ : ∃ g, g = w.heap.size + 1 := ⟨_, rfl⟩
 rw [← hgp] at p0 p1 p2 p3 p4 p5 ⊢
 rw [← hgj] at k0 k1 ⊢
 have HBW := Lib.hid hbW
 have s := hcb.keep hbW
 have t := hcl.keep2 hbW
 obtain ⟨s0, s1, s2, s3, s4, s5, s6, s7⟩ := s
 obtain ⟨t0, t1, t2, t3, t4, t5⟩ := t
 have HRW := Lib.hid (HRV.out.keep hbW)
 clear hcb hcl HRV hgj hgp hbW
 go_upto_region 3 with fail
 refine wp_cut_slots [5, 6, 13, 14, 15, 16, 17, 18, 19, 20, 21, 22, 23, 24] (PieceCut W 5 6 b ad cd x) ?_ ?_
 ·have kx0 : ∀ y : KW (fun W' => Below W.heap.size W W'), (y.w.cell? ⟨gj, 0, none⟩ = some (.slice (some ⟨gs, off, none⟩) j.stock.length c1) ∧ y.w.cell? ⟨gj, 1, none⟩ = some (.slice (some ⟨gl, off', none⟩) j.blanks.length c2)) ∧ y.w.cell? ⟨gp, 0, none⟩ = some (.int .i64 nb) ∧ y.w.cell? ⟨gp, 1, none⟩ = some (.int .i64 nl) := fun y => ⟨⟨cell_keep y.ok k0, cell_keep y.ok k1⟩, cell_keep y.ok p0, cell_keep y.ok p1⟩
  have kx2 : ∀ y : KW (fun W' => Below W.heap.size W W'), (y.w.cell? ⟨gs, off + nb * 8, none⟩ = some (.string b.name) ∧ y.w.cell? ⟨gs, off + nb * 8 + 1, none⟩ = some (.string b.species)) ∧ y.w.cell? ⟨gs, off + nb * 8 + 2, none⟩ = some (.int .i64 b.length) ∧ y.w.cell? ⟨gs, off + nb * 8 + 3, none⟩ = some (.int .i64 b.width) := fun y => ⟨⟨cell_keep y.ok s0, cell_keep y.ok s1⟩, cell_keep y.ok s2, cell_keep y.ok s3⟩
  have kx3 : ∀ y : KW (fun W' => Below W.heap.size W W'), (y.w.cell? ⟨gs, off + nb * 8 + 4, none⟩ = some (.int .i64 b.thick) ∧ y.w.cell? ⟨gs, off + nb * 8 + 5, none⟩ = some (.int .i64 b.cut)) ∧ y.w.cell? ⟨gs, off + nb * 8 + 6, none⟩ = some (.int .i64 b.moisture) ∧ y.w.cell? ⟨gs, off + nb * 8 + 7, none⟩ = some (.slice ad b.defects.length cd) := fun y => ⟨⟨cell_keep y.ok s4, cell_keep y.ok s5⟩, cell_keep y.ok s6, cell_keep y.ok s7⟩
  have kx4 : ∀ y : KW (fun W' => Below W.heap.size W W'), (y.w.cell? ⟨gl, off' + nl * 6, none⟩ = some (.string x.name) ∧ y.w.cell? ⟨gl, off' + nl * 6 + 1, none⟩ = some (.string x.species)) ∧ y.w.cell? ⟨gl, off' + nl * 6 + 2, none⟩ = some (.int .i64 x.length) ∧ y.w.cell? ⟨gl, off' + nl * 6 + 3, none⟩ = some (.int .i64 x.width) := fun y => ⟨⟨cell_keep y.ok t0, cell_keep y.ok t1⟩, cell_keep y.ok t2, cell_keep y.ok t3⟩
  have kx5 : ∀ y : KW (fun W' => Below W.heap.size W W'), y.w.cell? ⟨gl, off' + nl * 6 + 4, none⟩ = some (.int .i64 x.thick) ∧ y.w.cell? ⟨gl, off' + nl * 6 + 5, none⟩ = some (.int .i64 x.count) := fun y => ⟨cell_keep y.ok t4, cell_keep y.ok t5⟩
  clear s0 s1 s2 s3 s4 s5 s6 s7 t0 t1 t2 t3 t4 t5 k0 k1 p0 p1 p2 p3 p4 p5
  haveI n1 : Nonempty (KW (fun W' => Below W.heap.size W W')) := ⟨⟨W, Below.refl _ _⟩⟩
  refine wp_region_tree (fun w' => ∃ y : KW (fun W' => Below W.heap.size W W'), w' = y.w) 15 (.take 0 (.take 1 (.take 2 (.take 3 (.take 4 (.take 5 (.take 6 (.take 7 (.take 8 (.take 9 (.take 10 (.take 11 (.two 12 (.one 13 (.one 14 .done)) 13 (.one 12 (.one 14 .done))))))))))))))) (by kernel_rfl) (by kernel_rfl) (KW.mk' (Below.refl _ _).drew) ?_
  have hB0 : Below W.heap.size W W.drew := (Below.refl _ _).drew
  have hz0 : W.heap.size ≤ W.drew.heap.size := Nat.le_refl _
  generalize W.drew = w0 at *
  repeat (refine wpTree_take ?_; simp only [nthOp]; (first | go_big_quiet_step (fail) | quiet_step (fail)); refine wpQuiet_nil ?_)
  refine wpTree_two ?_ ?_
  ·simp only [nthOp]
   go_wp2_with fail
   refine One_mk (KW.mk' (by repeat (first | (with_reducible assumption) | exact Below.refl _ _ | (refine Below.setCell ?_ (by first | omega | (simp; omega) | (simp; done)) _) | (refine Below.alloc ?_ (by first | omega | (simp; omega) | (simp; done)) _) | (refine Below.drew ?_)))) (wpTree_one ?_)
   simp only [nthOp]
   go_wp2_with fail
   refine One_mk (KW.mk' (by repeat (first | (with_reducible assumption) | exact Below.refl _ _ | (refine Below.setCell ?_ (by first | omega | (simp; omega) | (simp; done)) _) | (refine Below.alloc ?_ (by first | omega | (simp; omega) | (simp; done)) _) | (refine Below.drew ?_)))) (wpTree_one ?_)
   simp only [nthOp]
   go_wp2_with fail
   refine One_mk (KW.mk' (by repeat (first | (with_reducible assumption) | exact Below.refl _ _ | (refine Below.setCell ?_ (by first | omega | (simp; omega) | (simp; done)) _) | (refine Below.alloc ?_ (by first | omega | (simp; omega) | (simp; done)) _) | (refine Below.drew ?_)))) (wpTree_done ?_)
   simp only [List.drop_succ_cons, List.drop_zero]
   go_wp2_with fail
   refine NP_mk ?_
   exact cut_meet (by simp [forget]) (PieceCut.mk (g5 := w0.heap.size) (g6 := w0.heap.size + 1) rfl rfl ⟨by simp [go_sem], by simp [go_sem], by simp [go_sem], by simp [go_sem], by simp [go_sem], by simp [go_sem], by simp [go_sem], by simp [go_sem]⟩ ⟨by simp [go_sem], by simp [go_sem], by simp [go_sem], by simp [go_sem], by simp [go_sem], by simp [go_sem]⟩ (by repeat (first | (with_reducible assumption) | exact Below.refl _ _ | (refine Below.setCell ?_ (by first | omega | (simp; omega) | (simp; done)) _) | (refine Below.alloc ?_ (by first | omega | (simp; omega) | (simp; done)) _) | (refine Below.drew ?_))))
  ·simp only [nthOp]
   go_wp2_with fail
   refine One_mk (KW.mk' (by repeat (first | (with_reducible assumption) | exact Below.refl _ _ | (refine Below.setCell ?_ (by first | omega | (simp; omega) | (simp; done)) _) | (refine Below.alloc ?_ (by first | omega | (simp; omega) | (simp; done)) _) | (refine Below.drew ?_)))) (wpTree_one ?_)
   simp only [nthOp]
   go_wp2_with fail
   refine One_mk (KW.mk' (by repeat (first | (with_reducible assumption) | exact Below.refl _ _ | (refine Below.setCell ?_ (by first | omega | (simp; omega) | (simp; done)) _) | (refine Below.alloc ?_ (by first | omega | (simp; omega) | (simp; done)) _) | (refine Below.drew ?_)))) (wpTree_one ?_)
   simp only [nthOp]
   go_wp2_with fail
   refine One_mk (KW.mk' (by repeat (first | (with_reducible assumption) | exact Below.refl _ _ | (refine Below.setCell ?_ (by first | omega | (simp; omega) | (simp; done)) _) | (refine Below.alloc ?_ (by first | omega | (simp; omega) | (simp; done)) _) | (refine Below.drew ?_)))) (wpTree_done ?_)
   simp only [List.drop_succ_cons, List.drop_zero]
   go_wp2_with fail
   refine NP_mk ?_
   exact cut_meet (by simp [forget]) (PieceCut.mk (g5 := w0.heap.size + 1) (g6 := w0.heap.size) rfl rfl ⟨by simp [go_sem], by simp [go_sem], by simp [go_sem], by simp [go_sem], by simp [go_sem], by simp [go_sem], by simp [go_sem], by simp [go_sem]⟩ ⟨by simp [go_sem], by simp [go_sem], by simp [go_sem], by simp [go_sem], by simp [go_sem], by simp [go_sem]⟩ (by repeat (first | (with_reducible assumption) | exact Below.refl _ _ | (refine Below.setCell ?_ (by first | omega | (simp; omega) | (simp; done)) _) | (refine Below.alloc ?_ (by first | omega | (simp; omega) | (simp; done)) _) | (refine Below.drew ?_))))

 rintro u W2 ⟨g5, g6, hu5, hu6, ⟨d0, d1, d2, d3, d4, d5, d6, d7⟩, ⟨e0, e1, e2, e3, e4, e5⟩, hb2⟩
 simp only [forget, List.foldl_cons, List.foldl_nil, hu5, hu6]
 simp only [Nat.zero_add] at d0 d1 d2 d3 d4 d5 d6 d7 e0 e1 e2 e3 e4 e5
 have p0 := cell_keep hb2 p0
 have p1 := cell_keep hb2 p1
 have p2 := cell_keep hb2 p2
 have p3 := cell_keep hb2 p3
 have p4 := cell_keep hb2 p4
 have p5 := cell_keep hb2 p5
 have HB2 := Lib.hid (HBW.out.trans (hb2.mono HBW.out.size))
 have HR2 := Lib.hid (HRW.out.keep hb2)
 clear hb2 HRW hu5 hu6 s0 s1 s2 s3 s4 s5 s6 s7 t0 t1 t2 t3 t4 t5 k0 k1
 obtain ⟨r1, r2, r3, r4⟩ := hr
 have v1 : IntKind.i64.wrap (r.x2 - r.x1) = r.x2 - r.x1 := IntWalk.i64_in _ (by omega)
 have v2 : IntKind.i64.wrap (r.y2 - r.y1) = r.y2 - r.y1 := IntWalk.i64_in _ (by omega)
 by_cases hk1 : (b.species.toList == x.species.toList) = true
 ·
  by_cases hk2 : b.thick < x.thick
  ·have HE := Lib.hid (show E = 17 by rw [HE0.out]; unfold pieceOn kindOk; rw [if_pos (by rw [hk1, Bool.true_and, decide_eq_false_iff_not]; omega)])
   skip
   go_wp2_with fail
   go_ret
   exact ⟨by rw [HE.out]; rfl, HB2.out⟩
  ·have hk3 : x.thick ≤ b.thick := by omega
   have HK := Lib.hid (show kindOk b x = true by unfold kindOk; rw [hk1, Bool.true_and, decide_eq_true_eq]; exact hk3)
   by_cases hx : r.x2 - r.x1 = x.length
   ·by_cases hy : r.y2 - r.y1 = x.width
    ·have HQ := Lib.hid (show E = if soundB b.defects r = false then 21 else 0 by rw [HE0.out]; unfold pieceOn; rw [if_neg (by rw [HK.out]; decide), if_neg (by simp only [Classical.not_not]; exact ⟨hx, hy⟩)])
     have HSB := Lib.hid (csound_any b r ad cd W2 HR2.out (by have := HJD.out.len; omega))
     rw [soundC_eq (fun d hd => by have := HJD.out.ok d hd; omega) (by have := hwant.1; omega) (by have := hwant.1; omega)] at HSB
     cases hq : soundB b.defects r
     ·have HE := Lib.hid (show E = 21 by rw [HQ.out, if_pos hq])
      rw [hq] at HSB
      go_wp2_with (go_at_call 100; refine HSB.out.mono ?_; rintro e w3 ⟨rfl, hb3⟩; have HB3 := Lib.hid (HB2.out.trans (hb3.mono HB2.out.size)); clear hb3)
      go_ret
      exact ⟨by rw [HE.out]; rfl, HB3.out⟩
     ·have HE := Lib.hid (show E = 0 by rw [HQ.out, if_neg (by rw [hq]; decide)])
      rw [hq] at HSB
      go_wp2_with (go_at_call 100; refine HSB.out.mono ?_; rintro e w3 ⟨rfl, hb3⟩; have HB3 := Lib.hid (HB2.out.trans (hb3.mono HB2.out.size)); clear hb3)
      go_ret
      exact ⟨by rw [HE.out]; rfl, HB3.out⟩
    ·have HE := Lib.hid (show E = 10 by rw [HE0.out]; unfold pieceOn; rw [if_neg (by rw [HK.out]; decide), if_pos (fun h => hy h.2)])
     go_wp2_with fail
     go_ret
     exact ⟨by rw [HE.out]; rfl, HB2.out⟩
   ·have HE := Lib.hid (show E = 10 by rw [HE0.out]; unfold pieceOn; rw [if_neg (by rw [HK.out]; decide), if_pos (fun h => hx h.1)])
    go_wp2_with fail
    go_ret
    exact ⟨by rw [HE.out]; rfl, HB2.out⟩
 ·have HE := Lib.hid (show E = 17 by rw [HE0.out]; unfold pieceOn kindOk; rw [if_pos (by rw [Bool.eq_false_iff.2 hk1, Bool.false_and])])

  go_wp2_with fail
  go_ret
  exact ⟨by rw [HE.out]; rfl, HB2.out⟩
set_option maxRecDepth 100000 in
set_option maxHeartbeats 8000000 in
theorem pieceErr_any (j : Job) (p : Placed) (a1 : Option Addr) (c1 : Nat) (a2 : Option Addr) (c2 : Nat) (w : World) (hs : Boards.V w a1 j.stock) (hb : Blanks.V w a2 j.blanks) (hJ : JobOk j.stock j.blanks j.trim) (hbd : 0 ≤ p.board ∧ p.board < j.stock.length) (hbl : 0 ≤ p.blank) (hr : near p.at_) :
    Calls Tryz.prog 35 #[.agg #[.slice a1 j.stock.length c1, .slice a2 j.blanks.length c2, .int .i64 j.trim.kerf, .int .i64 j.trim.ends, .int .i64 j.trim.sides], .agg #[.int .i64 p.board, .int .i64 p.blank, .int .i64 p.at_.x1, .int .i64 p.at_.y1, .int .i64 p.at_.x2, .int .i64 p.at_.y2]] w fun e w' => e = .returned (.int .i64 (pieceE j p)) ∧ Below w.heap.size w w' := by
 obtain ⟨E, hE⟩ : ∃ E, pieceE j p = E := ⟨_, rfl⟩
 rw [hE]
 obtain ⟨pb, pl, r⟩ := p
 obtain ⟨nb, hnb⟩ : ∃ n : Nat, pb = n := ⟨pb.toNat, by simp only at hbd; omega⟩
 obtain ⟨nl, hnl⟩ : ∃ n : Nat, pl = n := ⟨pl.toNat, by simp only at hbl; omega⟩
 subst hnb hnl
 simp only at hbd hr ⊢
 clear hbl
 have hbd2 : nb < j.stock.length := by omega
 obtain ⟨AD, CD, hSC⟩ := stock_ch hs
 have HSC := Lib.hid hSC
 have HBV := Lib.hid hb
 clear hs hb hSC hbd
 by_cases hge : j.blanks.length ≤ nl
 ·have hge2 : ¬ (nl : Int) < (j.blanks.length : Int) := by omega
  have hge3 : (nl : Int) ≥ (j.blanks.length : Int) := by omega
  have HE := Lib.hid (show E = 6 by rw [← hE]; unfold pieceE; rw [if_pos (by simp only; omega)])
  clear hE
  go_enter Tryz.func35, Tryz.ntmps35
  go_wp2_with fail
  go_ret
  exact ⟨by rw [HE.out]; rfl, by repeat (first | (with_reducible assumption) | exact Below.refl _ _ | (refine Below.setCell ?_ (by first | omega | (simp; omega) | (simp; done)) _) | (refine Below.alloc ?_ (by first | omega | (simp; omega) | (simp; done)) _) | (refine Below.drew ?_))⟩
 have hlt : nl < j.blanks.length := by omega
 have hli : (nl : Int) < (j.blanks.length : Int) := by omega
 have hbi : (nb : Int) < (j.stock.length : Int) := by omega
 have HE0 := Lib.hid (show E = pieceOn j.stock[nb] j.blanks[nl] r by
  rw [← hE]; unfold pieceE bl
  rw [if_neg (by simp only; omega)]
  simp only [Int.toNat_natCast]
  rw [List.getD_eq_getElem?_getD, List.getElem?_eq_getElem hbd2, List.getD_eq_getElem?_getD, List.getElem?_eq_getElem hlt]
  rfl)
 obtain ⟨⟨gs, off, has, hcb⟩, hrv, -⟩ := HSC.out.ch nb _ (List.getElem?_eq_getElem hbd2)
 obtain ⟨gl, off', hal, hcl⟩ := blank_row HBV.out hlt
 have hwant := hJ.want _ (List.getElem_mem hlt)
 have hdef := hJ.defs _ (List.getElem_mem hbd2)
 subst has
 subst hal
 have HJD := Lib.hid hdef
 have HRV := Lib.hid hrv
 generalize AD nb = ad at *
 generalize CD nb = cd at *
 clear hE hrv hdef hJ HBV HSC hge
 generalize j.stock[nb] = b at *
 generalize j.blanks[nl] = x at *
 go_enter Tryz.func35, Tryz.ntmps35
 go_upto_region 1 with fail
 refine gen_world (fun W => JB W w.heap.size j (some ⟨gs, off, none⟩) c1 (some ⟨gl, off', none⟩) c2 ∧ (W.cell? ⟨w.heap.size + 1, 0, none⟩ = some (.int .i64 nb) ∧ W.cell? ⟨w.heap.size + 1, 1, none⟩ = some (.int .i64 nl) ∧ W.cell? ⟨w.heap.size + 1, 2, none⟩ = some (.int .i64 r.x1) ∧ W.cell? ⟨w.heap.size + 1, 3, none⟩ = some (.int .i64 r.y1) ∧ W.cell? ⟨w.heap.size + 1, 4, none⟩ = some (.int .i64 r.x2) ∧ W.cell? ⟨w.heap.size + 1, 5, none⟩ = some (.int .i64 r.y2)) ∧ Below w.heap.size w W) ⟨⟨by simp [go_sem], by simp [go_sem], by simp [go_sem], by simp [go_sem], by simp [go_sem]⟩, ⟨by simp [go_sem], by simp [go_sem], by simp [go_sem], by simp [go_sem], by simp [go_sem], by simp [go_sem]⟩, by repeat (first | (with_reducible assumption) | exact Below.refl _ _ | (refine Below.setCell ?_ (by first | omega | (simp; omega) | (simp; done)) _) | (refine Below.alloc ?_ (by first | omega | (simp; omega) | (simp; done)) _) | (refine Below.drew ?_))⟩ ?_
 rintro W ⟨⟨k0, k1, -, -, -⟩, ⟨p0, p1, p2, p3, p4, p5⟩, hbW⟩
 obtain ⟨gj, hgj⟩ : ∃ g, g = w.heap.size := ⟨_, rfl⟩
 obtain ⟨gp, hgp⟩ : ∃ g, g = w.heap.size + 1 := ⟨_, rfl⟩
 rw [← hgp] at p0 p1 p2 p3 p4 p5 ⊢
 rw [← hgj] at k0 k1 ⊢
 have HBW := Lib.hid hbW
 have s := hcb.keep hbW
 have t := hcl.keep2 hbW
 obtain ⟨s0, s1, s2, s3, s4, s5, s6, s7⟩ := s
 obtain ⟨t0, t1, t2, t3, t4, t5⟩ := t
 have HRW := Lib.hid (HRV.out.keep hbW)
 clear hcb hcl HRV hgj hgp hbW
 go_upto_region 3 with fail
 refine wp_cut_slots [5, 6, 13, 14, 15, 16, 17, 18, 19, 20, 21, 22, 23, 24] (PieceCut W 6 5 b ad cd x) ?_ ?_
 ·have kx0 : ∀ y : KW (fun W' => Below W.heap.size W W'), (y.w.cell? ⟨gj, 0, none⟩ = some (.slice (some ⟨gs, off, none⟩) j.stock.length c1) ∧ y.w.cell? ⟨gj, 1, none⟩ = some (.slice (some ⟨gl, off', none⟩) j.blanks.length c2)) ∧ y.w.cell? ⟨gp, 0, none⟩ = some (.int .i64 nb) ∧ y.w.cell? ⟨gp, 1, none⟩ = some (.int .i64 nl) := fun y => ⟨⟨cell_keep y.ok k0, cell_keep y.ok k1⟩, cell_keep y.ok p0, cell_keep y.ok p1⟩
  have kx2 : ∀ y : KW (fun W' => Below W.heap.size W W'), (y.w.cell? ⟨gs, off + nb * 8, none⟩ = some (.string b.name) ∧ y.w.cell? ⟨gs, off + nb * 8 + 1, none⟩ = some (.string b.species)) ∧ y.w.cell? ⟨gs, off + nb * 8 + 2, none⟩ = some (.int .i64 b.length) ∧ y.w.cell? ⟨gs, off + nb * 8 + 3, none⟩ = some (.int .i64 b.width) := fun y => ⟨⟨cell_keep y.ok s0, cell_keep y.ok s1⟩, cell_keep y.ok s2, cell_keep y.ok s3⟩
  have kx3 : ∀ y : KW (fun W' => Below W.heap.size W W'), (y.w.cell? ⟨gs, off + nb * 8 + 4, none⟩ = some (.int .i64 b.thick) ∧ y.w.cell? ⟨gs, off + nb * 8 + 5, none⟩ = some (.int .i64 b.cut)) ∧ y.w.cell? ⟨gs, off + nb * 8 + 6, none⟩ = some (.int .i64 b.moisture) ∧ y.w.cell? ⟨gs, off + nb * 8 + 7, none⟩ = some (.slice ad b.defects.length cd) := fun y => ⟨⟨cell_keep y.ok s4, cell_keep y.ok s5⟩, cell_keep y.ok s6, cell_keep y.ok s7⟩
  have kx4 : ∀ y : KW (fun W' => Below W.heap.size W W'), (y.w.cell? ⟨gl, off' + nl * 6, none⟩ = some (.string x.name) ∧ y.w.cell? ⟨gl, off' + nl * 6 + 1, none⟩ = some (.string x.species)) ∧ y.w.cell? ⟨gl, off' + nl * 6 + 2, none⟩ = some (.int .i64 x.length) ∧ y.w.cell? ⟨gl, off' + nl * 6 + 3, none⟩ = some (.int .i64 x.width) := fun y => ⟨⟨cell_keep y.ok t0, cell_keep y.ok t1⟩, cell_keep y.ok t2, cell_keep y.ok t3⟩
  have kx5 : ∀ y : KW (fun W' => Below W.heap.size W W'), y.w.cell? ⟨gl, off' + nl * 6 + 4, none⟩ = some (.int .i64 x.thick) ∧ y.w.cell? ⟨gl, off' + nl * 6 + 5, none⟩ = some (.int .i64 x.count) := fun y => ⟨cell_keep y.ok t4, cell_keep y.ok t5⟩
  clear s0 s1 s2 s3 s4 s5 s6 s7 t0 t1 t2 t3 t4 t5 k0 k1 p0 p1 p2 p3 p4 p5
  haveI n1 : Nonempty (KW (fun W' => Below W.heap.size W W')) := ⟨⟨W, Below.refl _ _⟩⟩
  refine wp_region_tree (fun w' => ∃ y : KW (fun W' => Below W.heap.size W W'), w' = y.w) 15 (.take 0 (.take 1 (.take 2 (.take 3 (.take 4 (.take 5 (.take 6 (.take 7 (.take 8 (.take 9 (.take 10 (.take 11 (.two 12 (.one 13 (.one 14 .done)) 13 (.one 12 (.one 14 .done))))))))))))))) (by kernel_rfl) (by kernel_rfl) (KW.mk' (Below.refl _ _).drew) ?_
  have hB0 : Below W.heap.size W W.drew := (Below.refl _ _).drew
  have hz0 : W.heap.size ≤ W.drew.heap.size := Nat.le_refl _
  generalize W.drew = w0 at *
  repeat (refine wpTree_take ?_; simp only [nthOp]; (first | go_big_quiet_step (fail) | quiet_step (fail)); refine wpQuiet_nil ?_)
  refine wpTree_two ?_ ?_
  ·simp only [nthOp]
   go_wp2_with fail
   refine One_mk (KW.mk' (by repeat (first | (with_reducible assumption) | exact Below.refl _ _ | (refine Below.setCell ?_ (by first | omega | (simp; omega) | (simp; done)) _) | (refine Below.alloc ?_ (by first | omega | (simp; omega) | (simp; done)) _) | (refine Below.drew ?_)))) (wpTree_one ?_)
   simp only [nthOp]
   go_wp2_with fail
   refine One_mk (KW.mk' (by repeat (first | (with_reducible assumption) | exact Below.refl _ _ | (refine Below.setCell ?_ (by first | omega | (simp; omega) | (simp; done)) _) | (refine Below.alloc ?_ (by first | omega | (simp; omega) | (simp; done)) _) | (refine Below.drew ?_)))) (wpTree_one ?_)
   simp only [nthOp]
   go_wp2_with fail
   refine One_mk (KW.mk' (by repeat (first | (with_reducible assumption) | exact Below.refl _ _ | (refine Below.setCell ?_ (by first | omega | (simp; omega) | (simp; done)) _) | (refine Below.alloc ?_ (by first | omega | (simp; omega) | (simp; done)) _) | (refine Below.drew ?_)))) (wpTree_done ?_)
   simp only [List.drop_succ_cons, List.drop_zero]
   go_wp2_with fail
   refine NP_mk ?_
   exact cut_meet (by simp [forget]) (PieceCut.mk (g5 := w0.heap.size + 1) (g6 := w0.heap.size) rfl rfl ⟨by simp [go_sem], by simp [go_sem], by simp [go_sem], by simp [go_sem], by simp [go_sem], by simp [go_sem], by simp [go_sem], by simp [go_sem]⟩ ⟨by simp [go_sem], by simp [go_sem], by simp [go_sem], by simp [go_sem], by simp [go_sem], by simp [go_sem]⟩ (by repeat (first | (with_reducible assumption) | exact Below.refl _ _ | (refine Below.setCell ?_ (by first | omega | (simp; omega) | (simp; done)) _) | (refine Below.alloc ?_ (by first | omega | (simp; omega) | (simp; done)) _) | (refine Below.drew ?_))))
  ·simp only [nthOp]
   go_wp2_with fail
   refine One_mk (KW.mk' (by repeat (first | (with_reducible assumption) | exact Below.refl _ _ | (refine Below.setCell ?_ (by first | omega | (simp; omega) | (simp; done)) _) | (refine Below.alloc ?_ (by first | omega | (simp; omega) | (simp; done)) _) | (refine Below.drew ?_)))) (wpTree_one ?_)
   simp only [nthOp]
   go_wp2_with fail
   refine One_mk (KW.mk' (by repeat (first | (with_reducible assumption) | exact Below.refl _ _ | (refine Below.setCell ?_ (by first | omega | (simp; omega) | (simp; done)) _) | (refine Below.alloc ?_ (by first | omega | (simp; omega) | (simp; done)) _) | (refine Below.drew ?_)))) (wpTree_one ?_)
   simp only [nthOp]
   go_wp2_with fail
   refine One_mk (KW.mk' (by repeat (first | (with_reducible assumption) | exact Below.refl _ _ | (refine Below.setCell ?_ (by first | omega | (simp; omega) | (simp; done)) _) | (refine Below.alloc ?_ (by first | omega | (simp; omega) | (simp; done)) _) | (refine Below.drew ?_)))) (wpTree_done ?_)
   simp only [List.drop_succ_cons, List.drop_zero]
   go_wp2_with fail
   refine NP_mk ?_
   exact cut_meet (by simp [forget]) (PieceCut.mk (g5 := w0.heap.size) (g6 := w0.heap.size + 1) rfl rfl ⟨by simp [go_sem], by simp [go_sem], by simp [go_sem], by simp [go_sem], by simp [go_sem], by simp [go_sem], by simp [go_sem], by simp [go_sem]⟩ ⟨by simp [go_sem], by simp [go_sem], by simp [go_sem], by simp [go_sem], by simp [go_sem], by simp [go_sem]⟩ (by repeat (first | (with_reducible assumption) | exact Below.refl _ _ | (refine Below.setCell ?_ (by first | omega | (simp; omega) | (simp; done)) _) | (refine Below.alloc ?_ (by first | omega | (simp; omega) | (simp; done)) _) | (refine Below.drew ?_))))

 rintro u W2 ⟨g5, g6, hu5, hu6, ⟨d0, d1, d2, d3, d4, d5, d6, d7⟩, ⟨e0, e1, e2, e3, e4, e5⟩, hb2⟩
 simp only [forget, List.foldl_cons, List.foldl_nil, hu5, hu6]
 simp only [Nat.zero_add] at d0 d1 d2 d3 d4 d5 d6 d7 e0 e1 e2 e3 e4 e5
 have p0 := cell_keep hb2 p0
 have p1 := cell_keep hb2 p1
 have p2 := cell_keep hb2 p2
 have p3 := cell_keep hb2 p3
 have p4 := cell_keep hb2 p4
 have p5 := cell_keep hb2 p5
 have HB2 := Lib.hid (HBW.out.trans (hb2.mono HBW.out.size))
 have HR2 := Lib.hid (HRW.out.keep hb2)
 clear hb2 HRW hu5 hu6 s0 s1 s2 s3 s4 s5 s6 s7 t0 t1 t2 t3 t4 t5 k0 k1
 obtain ⟨r1, r2, r3, r4⟩ := hr
 have v1 : IntKind.i64.wrap (r.x2 - r.x1) = r.x2 - r.x1 := IntWalk.i64_in _ (by omega)
 have v2 : IntKind.i64.wrap (r.y2 - r.y1) = r.y2 - r.y1 := IntWalk.i64_in _ (by omega)
 by_cases hk1 : (b.species.toList == x.species.toList) = true
 ·have hk1' : (x.species.toList == b.species.toList) = true := by rw [BEq.comm]; exact hk1
  by_cases hk2 : b.thick < x.thick
  ·have HE := Lib.hid (show E = 17 by rw [HE0.out]; unfold pieceOn kindOk; rw [if_pos (by rw [hk1, Bool.true_and, decide_eq_false_iff_not]; omega)])
   have hk4 : x.thick > b.thick := hk2
   go_wp2_with fail
   go_ret
   exact ⟨by rw [HE.out]; rfl, HB2.out⟩
  ·have hk3 : x.thick ≤ b.thick := by omega
   have HK := Lib.hid (show kindOk b x = true by unfold kindOk; rw [hk1, Bool.true_and, decide_eq_true_eq]; exact hk3)
   by_cases hx : r.x2 - r.x1 = x.length
   ·by_cases hy : r.y2 - r.y1 = x.width
    ·have HQ := Lib.hid (show E = if soundB b.defects r = false then 21 else 0 by rw [HE0.out]; unfold pieceOn; rw [if_neg (by rw [HK.out]; decide), if_neg (by simp only [Classical.not_not]; exact ⟨hx, hy⟩)])
     have HSB := Lib.hid (isSound_any b r ad cd W2 HR2.out (by have := HJD.out.len; omega))
     cases hq : soundB b.defects r
     ·have HE := Lib.hid (show E = 21 by rw [HQ.out, if_pos hq])
      rw [hq] at HSB
      go_wp2_with (go_at_call 64; refine HSB.out.mono ?_; rintro e w3 ⟨rfl, hb3⟩; have HB3 := Lib.hid (HB2.out.trans (hb3.mono HB2.out.size)); clear hb3)
      go_ret
      exact ⟨by rw [HE.out]; rfl, HB3.out⟩
     ·have HE := Lib.hid (show E = 0 by rw [HQ.out, if_neg (by rw [hq]; decide)])
      rw [hq] at HSB
      go_wp2_with (go_at_call 64; refine HSB.out.mono ?_; rintro e w3 ⟨rfl, hb3⟩; have HB3 := Lib.hid (HB2.out.trans (hb3.mono HB2.out.size)); clear hb3)
      go_ret
      exact ⟨by rw [HE.out]; rfl, HB3.out⟩
    ·have HE := Lib.hid (show E = 10 by rw [HE0.out]; unfold pieceOn; rw [if_neg (by rw [HK.out]; decide), if_pos (fun h => hy h.2)])
     go_wp2_with fail
     go_ret
     exact ⟨by rw [HE.out]; rfl, HB2.out⟩
   ·have HE := Lib.hid (show E = 10 by rw [HE0.out]; unfold pieceOn; rw [if_neg (by rw [HK.out]; decide), if_pos (fun h => hx h.1)])
    go_wp2_with fail
    go_ret
    exact ⟨by rw [HE.out]; rfl, HB2.out⟩
 ·have HE := Lib.hid (show E = 17 by rw [HE0.out]; unfold pieceOn kindOk; rw [if_pos (by rw [Bool.eq_false_iff.2 hk1, Bool.false_and])])
  have hk1' : ¬ (x.species.toList == b.species.toList) = true := by rw [BEq.comm]; exact hk1
  go_wp2_with fail
  go_ret
  exact ⟨by rw [HE.out]; rfl, HB2.out⟩
end Go.Proofs.YtjmgboipbhddlaaGreatDoor
set_option linter.unusedVariables false
set_option linter.unusedSimpArgs false
namespace Go.Proofs.YtjmgboipbhddlaaGreatDoor
open Go Go.RowKit

instance layoutI : Inhabited Layout := ⟨⟨0, []⟩⟩
theorem rectGo_ok (kerf : Int) (hk : 0 ≤ kerf) : ∀ (l : List Cut) (i : Nat) (R : List Rect), (rectGo kerf l i R).2 = 0 → (∀ r ∈ R, okR r) → (rectGo kerf l i R).1.length = R.length ∧ ∀ r ∈ (rectGo kerf l i R).1, okR r
 | [], i, R => fun _ h => ⟨rfl, h⟩
 | c :: l, i, R => fun he h => by
  unfold rectGo at he ⊢
  split
  ·rename_i h0
   rw [if_pos h0] at he
   exact rectGo_ok kerf hk l _ R he h
  ·rename_i h0
   rw [if_neg h0] at he
   split
   ·rename_i h1
    rw [if_pos h1] at he
    simp at he
   ·rename_i h1
    rw [if_neg h1] at he
    have hw := withinB_true (by simpa using h1)
    have hq : okR (R.getD i ⟨0, 0, 0, 0⟩) := by
     rw [List.getD_eq_getElem?_getD]
     by_cases hi : i < R.length
     ·rw [List.getElem?_eq_getElem hi]; exact h _ (List.getElem_mem hi)
     ·rw [List.getElem?_eq_none (by omega)]; exact .inl rfl
    obtain ⟨g1, g2⟩ := rectGo_ok kerf hk l _ _ he (okR_step h hq hw hk)
    exact ⟨by rw [g1, stepR_len], g2⟩
theorem regM_ok {u : Rect} {kerf : Int} {l : List Cut} (hu : okR u) (hk : 0 ≤ kerf) (h : (regM u kerf l).2 = 0) : (regM u kerf l).1.length = l.length ∧ l.length ≤ 400 ∧ ∀ r ∈ (regM u kerf l).1, okR r := by
 unfold regM at h ⊢
 split
 ·rename_i h0; rw [if_pos h0] at h; simp at h
 ·rename_i h0; rw [if_neg h0] at h
  split
  ·rename_i h1; rw [if_pos h1] at h; simp at h
  ·rename_i h1; rw [if_neg h1] at h
   split
   ·rename_i h2; rw [if_pos h2] at h; exact absurd h h2
   ·rename_i h2; rw [if_neg h2] at h
    split
    ·rename_i h3; rw [if_pos h3] at h; simp at h
    ·rename_i h3; rw [if_neg h3] at h
     have hR : ∀ r ∈ (List.replicate l.length (⟨0, 0, 0, 0⟩ : Rect)).set 0 u, okR r := fun r hr => by
      rcases List.mem_or_eq_of_mem_set hr with hr | rfl
      ·rw [(List.mem_replicate.1 hr).2]; exact .inl rfl
      ·exact hu
     obtain ⟨g1, g2⟩ := rectGo_ok kerf hk l 0 _ h hR
     exact ⟨by rw [g1]; simp, by omega, g2⟩
theorem okR_near {r : Rect} (h : okR r) : near r := by
 unfold near
 rcases h with rfl | h
 ·simp
 ·unfold proper at h; omega
theorem job_cut {j : Job} (h : jobE j = 0) {b : Board} (hb : b ∈ j.stock) : cutE b j.trim = 0 := by
 obtain ⟨h1, h2, h3, h4, -⟩ := jobE_parts h
 unfold cutE
 rw [if_neg (by rw [h2 b hb]; simp)]
 exact h4

structure InFrame (w6 wr : World) (v0 v : Value) : Prop where
 g : w6.grownBy wr v0.ownBlock
 o : v.ownBlock = v0.ownBlock ∨ ∃ q, v.ownBlock = some q ∧ w6.heap.size ≤ q
theorem InFrame.start (w6 : World) (v0 : Value) : InFrame w6 w6 v0 v0 := ⟨⟨rfl, rfl, rfl, Nat.le_refl _, fun _ _ _ => rfl⟩, .inl rfl⟩
theorem InFrame.step {w6 wr wx w' : World} {v0 v v' : Value} (h : InFrame w6 wr v0 v) (hb : Below wr.heap.size wr wx) (hg : wx.grownBy w' v.ownBlock) (hv : v'.ownBlock = v.ownBlock ∨ v'.ownBlock = some wx.heap.size) : InFrame w6 w' v0 v' := by
 have hs1 := h.g.size
 have hs2 := hb.size
 refine ⟨⟨hg.os.trans (hb.os.trans h.g.os), hg.tape.trans (hb.tape.trans h.g.tape), hg.output.trans (hb.output.trans h.g.output), by have := hg.size; omega, fun k hk hne => ?_⟩, ?_⟩
 ·have e1 := hg.block k (by omega) (fun e => by
    rcases h.o with ho | ⟨q, ho, hq⟩
    ·rw [ho] at e; exact hne e
    ·rw [ho] at e; injection e with e; omega)
  exact e1.trans ((hb.block k (by omega)).trans (h.g.block k hk hne))
 ·rcases hv with hv | hv
  ·rw [hv]; exact h.o
  ·exact .inr ⟨_, hv, by omega⟩
theorem InFrame.cell {w6 wr : World} {v0 v : Value} {b o : Nat} (h : InFrame w6 wr v0 v) (hb : b < w6.heap.size) (hne : v0.ownBlock ≠ some b) : wr.cell? ⟨b, o, none⟩ = w6.cell? ⟨b, o, none⟩ :=
 World.cell?_of_block (a := ⟨b, o, none⟩) (h.g.block b hb (fun e => hne e.symm))
def layOf (j : Job) (l : Layout) : List Rect × Int := regM (usableR (j.stock.getD l.board.toNat default) j.trim) j.trim.kerf l.cuts
def isPieceC (c : Cut) : Bool := decide (c.low = 0) && decide (0 ≤ c.blank)
def piecesTo (l : Layout) (R : List Rect) : Nat → List Placed
 | 0 => []
 | k + 1 => piecesTo l R k ++ (if isPieceC (l.cuts.getD k default) = true then [⟨l.board, (l.cuts.getD k default).blank, R.getD k default⟩] else [])
def placesTo (j : Job) (plan : List Layout) : Nat → List Placed
 | 0 => []
 | k + 1 => placesTo j plan k ++ piecesTo (plan.getD k default) (layOf j (plan.getD k default)).1 (plan.getD k default).cuts.length
def placesM (j : Job) (plan : List Layout) : List Placed := placesTo j plan plan.length
theorem piecesTo_yes {l : Layout} {R : List Rect} {k : Nat} (hk : k < l.cuts.length) (hR : k < R.length) (h : l.cuts[k].low = 0) (hb : 0 ≤ l.cuts[k].blank) : piecesTo l R (k + 1) = piecesTo l R k ++ [⟨l.board, l.cuts[k].blank, R[k]⟩] := by
 have e1 : l.cuts.getD k default = l.cuts[k] := by rw [List.getD_eq_getElem?_getD, List.getElem?_eq_getElem hk]; rfl
 have e2 : R.getD k default = R[k] := by rw [List.getD_eq_getElem?_getD, List.getElem?_eq_getElem hR]; rfl
 rw [piecesTo, e1, e2, if_pos (by unfold isPieceC; rw [decide_eq_true h, decide_eq_true hb]; rfl)]
theorem piecesTo_no {l : Layout} {R : List Rect} {k : Nat} (hk : k < l.cuts.length) (h : ¬ (l.cuts[k].low = 0 ∧ 0 ≤ l.cuts[k].blank)) : piecesTo l R (k + 1) = piecesTo l R k := by
 have e1 : l.cuts.getD k default = l.cuts[k] := by rw [List.getD_eq_getElem?_getD, List.getElem?_eq_getElem hk]; rfl
 rw [piecesTo, e1, if_neg (by unfold isPieceC; rw [Bool.and_eq_true, decide_eq_true_eq, decide_eq_true_eq]; exact h), List.append_nil]
theorem piecesTo_len (l : Layout) (R : List Rect) : ∀ k, (piecesTo l R k).length ≤ k
 | 0 => Nat.le_refl _
 | k + 1 => by
  have := piecesTo_len l R k
  rw [piecesTo, List.length_append]
  split <;> simp <;> omega
theorem placesTo_step {j : Job} {plan : List Layout} {k : Nat} (hk : k < plan.length) : placesTo j plan (k + 1) = placesTo j plan k ++ piecesTo plan[k] (layOf j plan[k]).1 plan[k].cuts.length := by
 have e1 : plan.getD k default = plan[k] := by rw [List.getD_eq_getElem?_getD, List.getElem?_eq_getElem hk]; rfl
 rw [placesTo, e1]
def PlanOk (j : Job) (plan : List Layout) : Prop := ∀ l ∈ plan, (0 ≤ l.board ∧ l.board < j.stock.length) ∧ (layOf j l).2 = 0
theorem lay_okR {j : Job} (h : jobE j = 0) {l : Layout} (hb : 0 ≤ l.board ∧ l.board < j.stock.length) (hl : (layOf j l).2 = 0) : (layOf j l).1.length = l.cuts.length ∧ l.cuts.length ≤ 400 ∧ ∀ r ∈ (layOf j l).1, okR r := by
 have hlt : l.board.toNat < j.stock.length := by omega
 have hm : j.stock.getD l.board.toNat default ∈ j.stock := by rw [List.getD_eq_getElem?_getD, List.getElem?_eq_getElem hlt]; exact List.getElem_mem hlt
 obtain ⟨g1, g2⟩ := cut_bounds (job_cut h hm)
 have g3 := (jobOk_of h).trim
 exact regM_ok (okR_whole (by simp only; omega)) g3.1.1 hl
theorem placesTo_len {j : Job} (hE : jobE j = 0) {plan : List Layout} (h : PlanOk j plan) : ∀ k, k ≤ plan.length → (placesTo j plan k).length ≤ k * 400
 | 0, _ => Nat.le_refl _
 | k + 1, hk => by
  have h1 := placesTo_len hE h k (by omega)
  have h2 := piecesTo_len plan[k] (layOf j plan[k]).1 plan[k].cuts.length
  have h3 := (lay_okR hE (h _ (List.getElem_mem hk)).1 (h _ (List.getElem_mem hk)).2).2.1
  rw [placesTo_step hk, List.length_append]
  omega

def cellsPl (p : Placed) : List Value := [.int .i64 p.board, .int .i64 p.blank, .int .i64 p.at_.x1, .int .i64 p.at_.y1, .int .i64 p.at_.x2, .int .i64 p.at_.y2]
theorem cellsPl_len (p : Placed) : (cellsPl p).length = 6 := rfl
theorem cellsPl_one (p : Placed) : ∀ u ∈ cellsPl p, u.oneCell' = true := by
 intro u hu
 simp only [cellsPl, List.mem_cons, List.not_mem_nil, or_false] at hu
 rcases hu with rfl | rfl | rfl | rfl | rfl | rfl <;> rfl
def Placed.at (w : World) (b o : Nat) (p : Placed) : Prop := (w.cell? ⟨b, o, none⟩ = some (.int .i64 p.board) ∧ w.cell? ⟨b, o + 1, none⟩ = some (.int .i64 p.blank)) ∧ (w.cell? ⟨b, o + 2, none⟩ = some (.int .i64 p.at_.x1) ∧ w.cell? ⟨b, o + 3, none⟩ = some (.int .i64 p.at_.y1)) ∧ w.cell? ⟨b, o + 4, none⟩ = some (.int .i64 p.at_.x2) ∧ w.cell? ⟨b, o + 5, none⟩ = some (.int .i64 p.at_.y2)
def Placeds.V (w : World) (a : Option Addr) (l : List Placed) : Prop := RowV 6 Placed.at w a l
theorem Placeds.V.keep {w w' : World} {a : Option Addr} {l : List Placed} (h : Placeds.V w a l) (hb : Below w.heap.size w w') : Placeds.V w' a l := RowV.keep (fun _ _ _ h => ⟨⟨cell_keep hb h.1.1, cell_keep hb h.1.2⟩, ⟨cell_keep hb h.2.1.1, cell_keep hb h.2.1.2⟩, cell_keep hb h.2.2.1, cell_keep hb h.2.2.2⟩) h
theorem own_placeds {w : World} {base e n c : Nat} {a : Option Addr} {l : List Placed} (h : w.ownsRow base e 6 (.slice a n c) n (l.flatMap cellsPl)) : Placeds.V w a l :=
 own_rowV cellsPl_len (by decide) (fun b o x _ hx => ⟨⟨hx 0 _ rfl, hx 1 _ rfl⟩, ⟨hx 2 _ rfl, hx 3 _ rfl⟩, hx 4 _ rfl, hx 5 _ rfl⟩) h
theorem placed_info : (Tryz.prog.info? 43).map (fun i => (i.zero, i.size, i.bytes)) = some (some (.agg #[.int .i64 0, .int .i64 0, .int .i64 0, .int .i64 0, .int .i64 0, .int .i64 0]), 6, 48) := by kernel_rfl
theorem own_blocks1 {w : World} {base e k n : Nat} {v : Value} {xs : List Value} (h : w.ownsRow base e k v n xs) : ∀ g, v.ownBlock = some g → base ≤ g ∧ g < w.heap.size := h.lt
def PlacesPost (w : World) (l : List Placed) (e : Ending) (w' : World) : Prop := ∃ a c, e = .returned (.slice a l.length c) ∧ Placeds.V w' a l ∧ Below w.heap.size w w'

set_option maxRecDepth 100000 in
set_option maxHeartbeats 16000000 in
theorem refPlaces_any (j : Job) (plan : List Layout) (a1 : Option Addr) (c1 : Nat) (a2 : Option Addr) (c2 : Nat) (ap : Option Addr) (cp : Nat) (w : World) (hs : Boards.V w a1 j.stock) (hp : Layouts.V w ap plan) (hE : jobE j = 0) (hok : PlanOk j plan) (hpl : plan.length ≤ 1000) :
    Calls Tryz.prog 34 #[.agg #[.slice a1 j.stock.length c1, .slice a2 j.blanks.length c2, .int .i64 j.trim.kerf, .int .i64 j.trim.ends, .int .i64 j.trim.sides], .slice ap plan.length cp] w (PlacesPost w (placesM j plan)) := by
 obtain ⟨i0, hi0, hz0, hz1, hz2⟩ := info_parts placed_info
 obtain ⟨AD, CD, hSC⟩ := stock_ch hs
 have HSC := Lib.hid hSC
 have HPV := Lib.hid hp
 have HJE := Lib.hid hE
 have HOK := Lib.hid hok
 have HLL := Lib.hid (fun k hk => placesTo_len hE hok k hk)
 clear hSC hs hp hE hok
 go_enter Tryz.func34, Tryz.ntmps34
 go_upto_region 1 with fail
 refine gen_world (fun W => JB W w.heap.size j a1 c1 a2 c2 ∧ Below w.heap.size w W ∧ w.heap.size < W.heap.size) ⟨⟨by simp, by simp, by simp, by simp, by simp⟩, (Below.refl _ _).alloc (Nat.le_refl _) _, by simp⟩ ?_
 rintro W ⟨hC, hbW, hzW⟩
 have HC := Lib.hid hC
 have HBW := Lib.hid hbW
 obtain ⟨gj, hgj⟩ : ∃ g, g = w.heap.size := ⟨_, rfl⟩
 rw [← hgj] at HC hzW ⊢
 have HGJ := Lib.hid hgj
 clear hC hbW hgj
 go_wp2_with fail
 go_loopw [5, 6] (fun v iv wr => ∃ k n : Nat, k ≤ plan.length ∧ iv = .int .i64 k ∧ Hid (n = (placesTo j plan k).length) ∧ wr.ownsRow W.heap.size 43 6 v n ((placesTo j plan k).flatMap cellsPl) ∧ Below W.heap.size W wr) (fun _ iv _ => plan.length - (intOf iv).toNat)
 case atStart => exact ⟨0, 0, Nat.zero_le _, rfl, Lib.hid rfl, World.ownsRow_nil _ _ _ _, Below.refl _ _⟩
 case round =>
  obtain ⟨k, n, hk, rfl, HN, hown, hbr⟩ := hrel
  obtain ⟨wo, rfl⟩ : ∃ wo : World, wo = wr := ⟨_, rfl⟩
  obtain ⟨av, cv, rfl, -, -⟩ := own_slice hown
  have HBO := Lib.hid hbr
  have HOWN := Lib.hid hown
  have HOB := Lib.hid (own_blocks1 hown)
  have hzr := Nat.lt_of_lt_of_le hzW hbr.size
  have HBB := Lib.hid (HBW.out.trans (hbr.mono HBW.out.size))
  have HCO := Lib.hid (HC.out.keep hbr hzW)
  clear hown hbr
  by_cases hlt : k < plan.length
  ·have hki : (k : Int) < (plan.length : Int) := by omega
   have v1 : IntKind.i64.wrap ((k : Int) + 1) = (k : Int) + 1 := IntWalk.i64_in _ (by omega)
   obtain ⟨L, hL⟩ : ∃ L, L = plan[k] := ⟨_, rfl⟩
   obtain ⟨⟨hb0, hb1⟩, hl0⟩ := HOK.out _ (List.getElem_mem hlt)
   have HST := Lib.hid (placesTo_step (j := j) hlt)
   have HLK := Lib.hid (HLL.out (k + 1) hlt)
   obtain ⟨gp, offp, hap, al, cl, m0, m1, hcv, hcl, -, hwf⟩ := HPV.out.at_ hlt
   rw [← hL] at hb0 hb1 hl0 HST m0 m1 hcv hcl hwf
   obtain ⟨g1, g2, -⟩ := lay_okR HJE.out ⟨hb0, hb1⟩ hl0
   subst hap
   clear hL
   obtain ⟨lb, cuts⟩ := L
   simp only at hb0 hb1 hl0 m0 m1 hcv hcl g1 g2
   have m0 := cell_keep HBB.out m0
   have m1 := cell_keep HBB.out m1
   have HCW := Lib.hid hcv
   have hcv := hcv.keep HBB.out
   obtain ⟨nb, hnb⟩ : ∃ nb : Nat, lb = nb := ⟨lb.toNat, by omega⟩
   subst hnb
   have hnbs : nb < j.stock.length := by omega
   obtain ⟨⟨gs, off, has, hcb⟩, hrv, -⟩ := HSC.out.ch nb _ (List.getElem?_eq_getElem hnbs)
   subst has
   obtain ⟨⟨rs, re⟩, hrs⟩ : ∃ q, layOf j ⟨nb, cuts⟩ = q := ⟨_, rfl⟩
   have HLY := Lib.hid (show regM (usableR j.stock[nb] j.trim) j.trim.kerf cuts = (rs, re) by
    rw [← hrs]; unfold layOf; simp only [Int.toNat_natCast]; rw [List.getD_eq_getElem?_getD, List.getElem?_eq_getElem hnbs]; rfl)
   have HCE := Lib.hid (job_cut HJE.out (List.getElem_mem hnbs))
   rw [hrs] at HST g1 hl0
   simp only at g1 hl0 HST
   clear hrs hwf hb0 hb1
   have hrvo := hrv.keep HBB.out
   obtain ⟨s0, s1, s2, s3, s4, s5, s6, s7⟩ := hcb.keep HBB.out
   generalize AD nb = ad at *
   generalize CD nb = cd at *
   generalize j.stock[nb] = b at *
   have hbi : (nb : Int) < (j.stock.length : Int) := by omega
   clear hcb hrv
   go_upto_region 6 with fail
   obtain ⟨k0, -, k2, k3, k4⟩ := HCO.out
   refine gen_world (fun W1 => (W1.cell? ⟨wo.heap.size, 0, none⟩ = some (.int .i64 nb) ∧ W1.cell? ⟨wo.heap.size, 1, none⟩ = some (.slice al cuts.length cl)) ∧ Below wo.heap.size wo W1) ⟨⟨by simp [go_sem], by simp [go_sem]⟩, by repeat (first | (with_reducible assumption) | exact Below.refl _ _ | (refine Below.setCell ?_ (by first | omega | (simp; omega) | (simp; done)) _) | (refine Below.alloc ?_ (by first | omega | (simp; omega) | (simp; done)) _) | (refine Below.drew ?_))⟩ ?_
   rintro W1 ⟨⟨x0, x1⟩, hb1⟩
   obtain ⟨g7, hg7⟩ : ∃ g, g = wo.heap.size := ⟨_, rfl⟩
   rw [← hg7] at x0 x1 ⊢
   have HG7 := Lib.hid hg7
   clear hg7
   have HB1 := Lib.hid hb1
   have HX0 := Lib.hid x0
   have HX1 := Lib.hid x1
   have HCV := Lib.hid (hcv.keep hb1)
   have HZ5 := Lib.hid hb1.size
   clear m0 m1 hcv
   have kx0 : ∀ y : KW (fun W' => Below W1.heap.size W1 W'), (y.w.cell? ⟨gj, 0, none⟩ = some (.slice (some ⟨gs, off, none⟩) j.stock.length c1) ∧ y.w.cell? ⟨gj, 2, none⟩ = some (.int .i64 j.trim.kerf)) ∧ y.w.cell? ⟨gj, 3, none⟩ = some (.int .i64 j.trim.ends) ∧ y.w.cell? ⟨gj, 4, none⟩ = some (.int .i64 j.trim.sides) := fun y => ⟨⟨cell_keep y.ok (cell_keep hb1 k0), cell_keep y.ok (cell_keep hb1 k2)⟩, cell_keep y.ok (cell_keep hb1 k3), cell_keep y.ok (cell_keep hb1 k4)⟩
   have kx1 : ∀ y : KW (fun W' => Below W1.heap.size W1 W'), y.w.cell? ⟨g7, 0, none⟩ = some (.int .i64 nb) ∧ y.w.cell? ⟨g7, 1, none⟩ = some (.slice al cuts.length cl) := fun y => ⟨cell_keep y.ok x0, cell_keep y.ok x1⟩
   have kx2 : ∀ y : KW (fun W' => Below W1.heap.size W1 W'), (y.w.cell? ⟨gs, off + nb * 8, none⟩ = some (.string b.name) ∧ y.w.cell? ⟨gs, off + nb * 8 + 1, none⟩ = some (.string b.species)) ∧ y.w.cell? ⟨gs, off + nb * 8 + 2, none⟩ = some (.int .i64 b.length) ∧ y.w.cell? ⟨gs, off + nb * 8 + 3, none⟩ = some (.int .i64 b.width) := fun y => ⟨⟨cell_keep y.ok (cell_keep hb1 s0), cell_keep y.ok (cell_keep hb1 s1)⟩, cell_keep y.ok (cell_keep hb1 s2), cell_keep y.ok (cell_keep hb1 s3)⟩
   have kx3 : ∀ y : KW (fun W' => Below W1.heap.size W1 W'), (y.w.cell? ⟨gs, off + nb * 8 + 4, none⟩ = some (.int .i64 b.thick) ∧ y.w.cell? ⟨gs, off + nb * 8 + 5, none⟩ = some (.int .i64 b.cut)) ∧ y.w.cell? ⟨gs, off + nb * 8 + 6, none⟩ = some (.int .i64 b.moisture) ∧ y.w.cell? ⟨gs, off + nb * 8 + 7, none⟩ = some (.slice ad b.defects.length cd) := fun y => ⟨⟨cell_keep y.ok (cell_keep hb1 s4), cell_keep y.ok (cell_keep hb1 s5)⟩, cell_keep y.ok (cell_keep hb1 s6), cell_keep y.ok (cell_keep hb1 s7)⟩
   clear s0 s1 s2 s3 s4 s5 s6 s7 k0 k2 k3 k4 x0 x1 hb1
   haveI n1 : Nonempty (KW (fun W' => Below W1.heap.size W1 W')) := ⟨⟨W1, Below.refl _ _⟩⟩
   refine wp_region_tree (fun w' => ∃ y : KW (fun W' => Below W1.heap.size W1 W'), w' = y.w) 15 (.take 0 (.take 1 (.take 2 (.take 3 (.take 4 (.take 5 (.take 6 (.take 7 (.take 8 (.take 9 (.one 10 (.take 11 (.take 12 (.take 13 (.take 14 .done))))))))))))))) (by kernel_rfl) (by kernel_rfl) (KW.mk' (Below.refl _ _).drew) ?_
   have HB0 : Hid (Below W1.heap.size W1 W1.drew) := Lib.hid (Below.refl _ _).drew
   generalize W1.drew = w5 at *
   repeat (refine wpTree_take ?_; simp only [nthOp]; (first | go_big_quiet_step (fail) | quiet_step (fail)); refine wpQuiet_nil ?_)
   refine wpTree_one ?_
   simp only [nthOp]
   go_wp2_with (go_at_call 33; refine (refRegions_any b j.trim cuts ad al cd cl w5 HCE.out (HCV.out.keep HB0.out) (by omega)).mono ?_; rw [HLY.out]; rintro e w6 ⟨ar, cr, rfl, hv, hb6, hnw⟩; have HNR := Lib.hid hnw; clear hnw; have HRS := Lib.hid hv; have HB6 := Lib.hid (HB0.out.trans (hb6.mono HB0.out.size)); clear hv hb6)
   refine One_mk (KW.mk' HB6.out) ?_
   repeat (refine wpTree_take ?_; simp only [nthOp]; (first | go_big_quiet_step (fail) | quiet_step (fail)); refine wpQuiet_nil ?_)
   refine wpTree_done ?_
   simp only [List.drop_succ_cons, List.drop_zero]
   go_wp2_with fail
   refine NP_mk ?_
   have HX0' := Lib.hid (cell_keep HB6.out HX0.out)
   have HX1' := Lib.hid (cell_keep HB6.out HX1.out)
   have HCV' := Lib.hid (HCV.out.keep HB6.out)
   have HBW6 := Lib.hid (HBO.out.trans ((HB1.out.trans (HB6.out.mono HB1.out.size)).mono HBO.out.size))
   have HOW6 := Lib.hid (own_keep HOWN.out (HB1.out.trans (HB6.out.mono HB1.out.size)))
   have hzW6 := HBW6.out.size
   have HZ6 := Lib.hid HB0.out.size
   clear kx0 kx1 kx2 kx3 n1 HCV HX0 HX1 HB0
   go_wp2_with fail
   go_loopw [5, 10] (fun v iv wr => ∃ k' n' : Nat, k' ≤ cuts.length ∧ iv = .int .i64 k' ∧ Hid (n' = (placesTo j plan k ++ piecesTo ⟨nb, cuts⟩ rs k').length) ∧ wr.ownsRow W.heap.size 43 6 v n' ((placesTo j plan k ++ piecesTo ⟨nb, cuts⟩ rs k').flatMap cellsPl) ∧ Below W.heap.size W wr ∧ Hid (InFrame w6 wr (.slice av n cv) v)) (fun _ iv _ => cuts.length - (intOf iv).toNat)
   case atStart => exact ⟨0, n, Nat.zero_le _, rfl, Lib.hid (by rw [piecesTo, List.append_nil]; exact HN.out), by rw [piecesTo, List.append_nil]; exact HOW6.out, HBW6.out, Lib.hid (InFrame.start _ _)⟩
   case round =>
    obtain ⟨k', n', hk', rfl, HN', hown', hbr', HIF⟩ := hrel
    have HBR' := Lib.hid hbr'
    have HOWN' := Lib.hid hown'
    obtain ⟨av', cv', rfl, -, -⟩ := own_slice hown'
    have hg7 : g7 < w6.heap.size := block_lt_of_cell HX0'.out
    have hne7 : (Value.slice av n cv).ownBlock ≠ some g7 := fun e => by have h1 := HOB.out _ e; have h2 := HG7.out; omega
    have x0 : wr.cell? ⟨g7, 0, none⟩ = some (.int .i64 nb) := by rw [HIF.out.cell hg7 hne7]; exact HX0'.out
    have x1 : wr.cell? ⟨g7, 1, none⟩ = some (.slice al cuts.length cl) := by rw [HIF.out.cell hg7 hne7]; exact HX1'.out
    have hbw' : Below w.heap.size w wr := HBW.out.trans (hbr'.mono HBW.out.size)
    clear hown' hbr' hg7 hne7
    by_cases hlt' : k' < cuts.length
    ·have hki' : (k' : Int) < (cuts.length : Int) := by omega
     have v2 : IntKind.i64.wrap ((k' : Int) + 1) = (k' : Int) + 1 := IntWalk.i64_in _ (by omega)
     have hkr : k' < rs.length := by rw [g1]; exact hlt'
     have hkri : (k' : Int) < (rs.length : Int) := by omega
     have HG1 := Lib.hid g1
     obtain ⟨gc, offc, hac, m0, m1, m2, m3, m4, -⟩ := (HCW.out.keep hbw').at_ hlt'
     obtain ⟨gr, offr, har, q0, q1, q2, q3, -⟩ := HRS.out.at_ hkr
     subst hac
     subst har
     have hgr := block_lt_of_cell q0
     have hner : (Value.slice av n cv).ownBlock ≠ some gr := fun e => by have h1 := HOB.out _ e; have h2 := HNR.out _ rfl; have h3 := HZ5.out; have h4 := HZ6.out; simp only at h2; omega
     have hrc : ∀ o, wr.cell? ⟨gr, o, none⟩ = w6.cell? ⟨gr, o, none⟩ := fun o => HIF.out.cell hgr hner
     rw [← hrc] at q0 q1 q2 q3
     have HY := Lib.hid (fun h hb => piecesTo_yes (l := ⟨nb, cuts⟩) hlt' hkr h hb)
     have HNO := Lib.hid (fun h => piecesTo_no (l := ⟨nb, cuts⟩) (R := rs) hlt' h)
     simp only at HY HNO
     generalize cuts[k'] = c at *
     generalize rs[k'] = r at *
     clear hgr hner hrc g1
     by_cases hc0 : c.low = 0
     ·by_cases hcb : 0 ≤ c.blank
      ·have hcb' : c.blank ≥ 0 := hcb
       have HYE := Lib.hid (HY.out hc0 hcb)
       clear HY HNO
       have hn' : n' ≤ 500000 := by
        have h1 := HN'.out
        rw [List.length_append] at h1
        have h2 := HLL.out k (Nat.le_of_lt hlt)
        have h3 := piecesTo_len ⟨nb, cuts⟩ rs k'
        omega
       go_upto_region 11 with fail
       have kx0 : ∀ y : KW (fun W' => Below wr.heap.size wr W'), (y.w.cell? ⟨g7, 0, none⟩ = some (.int .i64 nb) ∧ y.w.cell? ⟨g7, 1, none⟩ = some (.slice (some ⟨gc, offc, none⟩) cuts.length cl)) ∧ y.w.cell? ⟨gc, offc + k' * 5 + 4, none⟩ = some (.int .i64 c.blank) := fun y => ⟨⟨cell_keep y.ok x0, cell_keep y.ok x1⟩, cell_keep y.ok m4⟩
       have kx1 : ∀ y : KW (fun W' => Below wr.heap.size wr W'), (y.w.cell? ⟨gr, offr + k' * 4, none⟩ = some (.int .i64 r.x1) ∧ y.w.cell? ⟨gr, offr + k' * 4 + 1, none⟩ = some (.int .i64 r.y1)) ∧ y.w.cell? ⟨gr, offr + k' * 4 + 2, none⟩ = some (.int .i64 r.x2) ∧ y.w.cell? ⟨gr, offr + k' * 4 + 3, none⟩ = some (.int .i64 r.y2) := fun y => ⟨⟨cell_keep y.ok q0, cell_keep y.ok q1⟩, cell_keep y.ok q2, cell_keep y.ok q3⟩
       clear m0 m1 m2 m3 m4 q0 q1 q2 q3 x0 x1
       haveI n1 : Nonempty (KW (fun W' => Below wr.heap.size wr W')) := ⟨⟨wr, Below.refl _ _⟩⟩
       refine wp_region_tree (fun w' => ∃ y : KW (fun W' => Below wr.heap.size wr W'), w' = y.w) 15 (.take 0 (.take 1 (.take 2 (.take 3 (.take 4 (.take 5 (.take 6 (.take 7 (.take 8 (.take 9 (.take 10 (.take 11 (.take 12 (.take 13 (.one 14 .done))))))))))))))) (by kernel_rfl) (by kernel_rfl) (KW.mk' (Below.refl _ _).drew) ?_
       have HB0 : Hid (Below wr.heap.size wr wr.drew) := Lib.hid (Below.refl _ _).drew
       have hz0 : wr.heap.size ≤ wr.drew.heap.size := Nat.le_refl _
       generalize wr.drew = w7 at *
       repeat (refine wpTree_take ?_; simp only [nthOp]; (first | go_big_quiet_step (fail) | quiet_step (fail)); refine wpQuiet_nil ?_)
       refine wpTree_one ?_
       simp only [nthOp]
       go_wp2_with fail
       obtain ⟨gn, hgn⟩ : ∃ g, g = w7.heap.size := ⟨_, rfl⟩
       rw [← hgn]
       refine gen_any (G := fun W' => One _ _ _ _ W') (fun W' => Below wr.heap.size wr W' ∧ (∀ j u, (cellsPl ⟨nb, c.blank, r⟩)[j]? = some u → W'.cell? ((⟨gn, 0, none⟩ : Addr).add j) = some u)) ⟨HB0.out.alloc hz0 _, news_of (cellsPl ⟨nb, c.blank, r⟩) _ _ _ hgn⟩ ?_
       rintro W8 ⟨hb8, hnw⟩
       have HB8 := Lib.hid hb8
       have HNW := Lib.hid hnw
       have HBX := Lib.hid (HBR'.out.trans (hb8.mono HBR'.out.size))
       have hz8 := HBX.out.size
       clear hb8 hnw hgn HB0 hz0
       refine One_mk (KW.mk' HB8.out) (wpTree_done ?_)
       simp only [List.drop_succ_cons, List.drop_zero]
       go_wp2_with (at_builtin; refine wpList_append_here _ rfl _ _ 94 rfl W.heap.size 43 i0 (.agg #[.int .i64 0, .int .i64 0, .int .i64 0, .int .i64 0, .int .i64 0, .int .i64 0]) 6 48 Tryz.underlying94 hi0 hz0 hz1 hz2 rfl (by decide) _ n' _ rfl (own_keep HOWN'.out HB8.out) ⟨gn, 0, none⟩ 1 1 (cellsPl ⟨nb, c.blank, r⟩) rfl rfl HNW.out (cellsPl_one _) (by decide) (by simp only [maxLen]; omega) (by omega) hz8 ?_; intro v9 w9 ho9 hg9 hv9; have HO9 := Lib.hid ho9; have HF9 := Lib.hid (HIF.out.step HB8.out hg9 hv9); have HB9 := Lib.hid (HBX.out.grown hg9 hz8 (fun q hq => own_base HOWN'.out hq)); clear ho9 hg9 hv9)
       refine NP_mk ?_
       go_wp2_with fail
       go_roundw
       case rel => exact ⟨k' + 1, n' + 1, by omega, by go_num, Lib.hid (by rw [HYE.out, ← List.append_assoc, List.length_append, ← HN'.out]; rfl), by have h := HO9.out; rw [HYE.out, ← List.append_assoc, List.flatMap_append, List.flatMap_singleton]; exact h, HB9.out, HF9⟩
       case measure => first | (simp [intOf]; done) | (simp [intOf]; omega)
      ·have hcb' : ¬ c.blank ≥ 0 := hcb
       have HNE := Lib.hid (HNO.out (fun h => hcb h.2))
       clear HY HNO
       go_wp2_with fail
       go_roundw
       case rel => exact ⟨k' + 1, n', by omega, by go_num, Lib.hid (by rw [HNE.out]; exact HN'.out), by rw [HNE.out]; exact HOWN'.out, HBR'.out, HIF⟩
       case measure => first | (simp [intOf]; done) | (simp [intOf]; omega)
     ·have HNE := Lib.hid (HNO.out (fun h => hc0 h.1))
      clear HY HNO
      go_wp2_with fail
      go_roundw
      case rel => exact ⟨k' + 1, n', by omega, by go_num, Lib.hid (by rw [HNE.out]; exact HN'.out), by rw [HNE.out]; exact HOWN'.out, HBR'.out, HIF⟩
      case measure => first | (simp [intOf]; done) | (simp [intOf]; omega)
    ·obtain rfl : k' = cuts.length := by omega
     have hki' : ¬ ((cuts.length : Nat) : Int) < ((cuts.length : Nat) : Int) := by omega
     go_wp2_with fail
     go_roundw
     case rel => exact ⟨k + 1, n', by omega, by go_num, Lib.hid (by rw [HST.out]; exact HN'.out), by rw [HST.out]; exact HOWN'.out, HBR'.out⟩
     case measure => first | (simp [intOf]; done) | (simp [intOf]; omega)
  ·obtain rfl : k = plan.length := by omega
   have hki : ¬ ((plan.length : Nat) : Int) < ((plan.length : Nat) : Int) := by omega
   go_wp2_with fail
   go_ret
   exact ⟨av, cv, by rw [HN.out]; rfl, own_placeds HOWN.out, HBB.out⟩
end Go.Proofs.YtjmgboipbhddlaaGreatDoor
