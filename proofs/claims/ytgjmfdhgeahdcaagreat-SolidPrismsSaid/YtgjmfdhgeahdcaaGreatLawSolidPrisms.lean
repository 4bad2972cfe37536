/- SolidPrisms returns true for every input: the solid of a prism, or the error, is that of the document. No condition. -/
import Derived.Test.YtgjmfdhgeahdcaaGreatPM1
import Derived.Test.YtgjmfdhgeahdcaaGreatQM
import Derived.Test.YtgjmfdhgeahdcaaGreatQH
import Derived.Test.YtgjmfdhgeahdcaaGreatQY
import Derived.Test.YtgjmfdhgeahdcaaGreatFactsSolidPrisms
import Derived.OpenShut
set_option linter.unusedVariables false
set_option linter.unusedSimpArgs false
namespace Go.Proofs.YtgjmfdhgeahdcaaGreat
open Go Go.ChangeShapes Go.WideShapes Go.ChangeAt Go.RowKit Go.Sort Go.Lib

theorem okWide_pair {P : Program} {w : World} {r : Reach} {base : Nat} {t e : TypeId} {n : Nat} {v : Value} (ht : P.underlying t = some (.array n e)) (h : Value.okWide P w r base t v) : ∃ cs, v = .agg cs ∧ cs.size = P.cellsOf t := by
 simp only [Value.okWide, ht] at h
 obtain ⟨cs, h1, h2, _⟩ := h
 exact ⟨cs, h1, h2⟩
theorem pair_open {H : Type} {enc : TypeId × Value → H} {w : World} {spare : Nat → Bool} {held : Bool} {fuel : Nat} {cs : List Value} {y : DataW H × List MemPlace} (h : DataW.trod enc Tryz.prog w 0 spare held fuel 23 cs = some y) :
    ∃ p q : Int, cs = [.int .i64 p, .int .i64 q] ∧ ((-9223372036854775808 ≤ p ∧ p ≤ 9223372036854775807) ∧ (-9223372036854775808 ≤ q ∧ q ≤ 9223372036854775807)) := by
 obtain ⟨xs, m, -, -, hl, hx, hi⟩ := DataW.trod_array Tryz.underlying23 h
 have hl2 : cs.length = 2 := hl.trans (by kernel_rfl)
 have h1 : Tryz.prog.cellsOf 3 = 1 := by kernel_rfl
 rw [h1] at hi
 match cs, hl2, xs, hx with
 | [v0, v1], _, [y0, y1], _ =>
  have t0 := hi 0 (by decide)
  have t1 := hi 1 (by decide)
  simp at t0 t1
  obtain ⟨n0, g0, -, q0⟩ := DataW.trod_int Tryz.underlying3 t0
  obtain ⟨n1, g1, -, q1⟩ := DataW.trod_int Tryz.underlying3 t1
  simp only [List.cons.injEq, and_true] at g0 g1
  exact ⟨n0, n1, by rw [g0, g1], int_wf q0, int_wf q1⟩
def cellsPt (x : Pt) : List Value := [.int .i64 x.x, .int .i64 x.y]
theorem cellsPt_len (x : Pt) : (cellsPt x).length = 2 := rfl
theorem cellsPt_one (x : Pt) : ∀ v ∈ cellsPt x, v.oneCell' = true := by
 intro v hv
 simp only [cellsPt, List.mem_cons, List.not_mem_nil, or_false] at hv
 rcases hv with rfl | rfl <;> rfl
theorem Pt_cells {w : World} {b o : Nat} {x : Pt} (h : Pt.at w b o x) : ∀ c u, (cellsPt x)[c]? = some u → w.cell? ⟨b, o + c, none⟩ = some u := by
 obtain ⟨h0, h1, -⟩ := h
 intro c u hc
 match c, hc with
 | 0, hc => simp [cellsPt] at hc; subst hc; simpa using h0
 | 1, hc => simp [cellsPt] at hc; subst hc; exact h1
 | c + 2, hc => simp [cellsPt] at hc
theorem ptsNews {w : World} {a : Option Addr} {l : List Pt} (h : Pts.V w a l) : l ≠ [] → ∃ ad, a = some ad ∧ ∀ j u, (l.flatMap cellsPt)[j]? = some u → w.cell? (ad.add j) = some u := fun hne => by
 obtain ⟨b, off, rfl, _⟩ := h hne
 exact ⟨_, rfl, row_news cellsPt_len (by decide) (fun _ _ _ h => Pt_cells h) h⟩
theorem pts_wf {w : World} {a : Option Addr} {l : List Pt} (h : Pts.V w a l) : ∀ c ∈ l, c.wf := fun c hc => by
 obtain ⟨b, off, rfl, hx⟩ := h (List.ne_nil_of_mem hc)
 obtain ⟨k, hk, rfl⟩ := List.mem_iff_getElem.1 hc
 exact (hx k _ (List.getElem?_eq_getElem hk)).2.2
theorem ownPtV {w : World} {base n c : Nat} {a : Option Addr} {l : List Pt} (hw : ∀ x ∈ l, x.wf) (h : w.ownsRow base 52 2 (.slice a n c) n (l.flatMap cellsPt)) : Pts.V w a l :=
 own_rowV cellsPt_len (by decide) (fun b o x hx h => ⟨h 0 _ rfl, h 1 _ rfl, hw x hx⟩) h
theorem infoPt : (Tryz.prog.info? 52).map (fun i => (i.zero, i.size, i.bytes)) = some (some (.agg #[.int .i64 0, .int .i64 0]), 2, 16) := by kernel_rfl
theorem prV_len (axis : Int) (l : List Pt) (e0 e1 : Int) : (prV axis l e0 e1).length ≤ 1000 ∧ ∀ x ∈ prV axis l e0 e1, x.planes.length ≤ 100000 := by
 unfold prV
 split
 ·rename_i h
  refine ⟨by simp, fun x hx => ?_⟩
  rw [List.mem_singleton] at hx
  subst hx
  unfold prE at h
  split at h
  ·cases h
  ·split at h
   ·cases h
   ·rename_i hl
    have h1 : (prP axis.toNat l e0 e1).length ≤ 16 := by unfold prP capsP sidesP; simp; omega
    exact Nat.le_trans (Nat.le_trans (nor_len _ _) h1) (by decide)
 ·exact ⟨by simp, fun x hx => by cases hx⟩
theorem sameSelf (M : List Cell) (a b : Option Addr) (an bn : Nat) (w : World) (hl : M.length ≤ 1000) (hp : ∀ x ∈ M, x.planes.length ≤ 100000) (hv : Cells.V w a M) (hu : Cells.V w b M) :
    Calls Tryz.prog 7 #[.agg #[.slice a M.length an], .agg #[.slice b M.length bn]] w fun e w' => e = .returned (.bool true) ∧ Below w.heap.size w w' :=
 (sameSolid_any M M a b an bn w hl hl hv hu hp hp).mono fun e w' h => ⟨by rw [h.1]; simp, h.2⟩
/-- The program's prism in its box. -/
def SpCut (W0 : World) (V : List Cell) (E : Int) (u : Nat → Value) (W : World) : Prop := ∃ (gx : Nat) (ua : Option Addr) (un : Nat), u 7 = .pointer (some ⟨gx, 0, none⟩) ∧ u 8 = .int .i64 E ∧ W.cell? ⟨gx, 0, none⟩ = some (.slice ua V.length un) ∧ Cells.V W ua V ∧ Below W0.heap.size W0 W
set_option maxRecDepth 100000 in
set_option maxHeartbeats 16000000 in
theorem walkSolidPrisms (axis : Int) (la : Option Addr) (l : List Pt) (lc : Nat) (ends0 ends1 : Int) (w : World) (Waxis : -9223372036854775808 ≤ axis ∧ axis ≤ 9223372036854775807) (Vl : Pts.V w la l) (Ll : l.length ≤ 9223372036854775807) (Cl : l.length ≤ lc) (Wends : (-9223372036854775808 ≤ ends0 ∧ ends0 ≤ 9223372036854775807) ∧ (-9223372036854775808 ≤ ends1 ∧ ends1 ≤ 9223372036854775807)) :
    Calls Tryz.prog 3 #[.int .i64 axis, .slice la l.length lc, .agg #[.int .i64 ends0, .int .i64 ends1]] w fun e w' => e = .returned (.bool true) ∧ Below w.heap.size w w' := by
 have hmix : Tryz.prog.follows .mixedOrders = true := by kernel_rfl
 obtain ⟨i0, hi0, hz0, hz1, hzb⟩ := info_parts infoPt
 have HAW := Lib.hid awake_any
 have HVL := Lib.hid Vl
 clear Vl
 go_enter Tryz.func3, Tryz.ntmps3
 go_upto_region 1 with fail
 refine gen_world (fun W => (W.cell? ⟨w.heap.size, 0, none⟩ = some (.int .i64 ends0) ∧ W.cell? ⟨w.heap.size, 1, none⟩ = some (.int .i64 ends1)) ∧ Below w.heap.size w W) ⟨⟨by simp [go_sem], by simp [go_sem]⟩, by repeat (first | (with_reducible assumption) | exact Below.refl _ _ | (refine Below.setCell ?_ (by first | omega | (simp; omega) | (simp; done)) _) | (refine Below.alloc ?_ (by first | omega | (simp; omega) | (simp; done)) _) | (refine Below.drew ?_))⟩ ?_
 rintro W ⟨⟨s0, s1⟩, hb⟩
 have HB0 := Lib.hid hb
 clear hb
 obtain ⟨gw, hgw⟩ : ∃ g, g = w.heap.size := ⟨_, rfl⟩
 rw [← hgw] at s0 s1 ⊢
 clear hgw
 go_upto_region 3 with (go_at_call 4; refine (HAW.out _).mono ?_; rintro e w1 ⟨rfl, hb⟩; have s0 := cell_keep hb s0; have s1 := cell_keep hb s1; have HB1 := Lib.hid (HB0.out.trans (hb.mono HB0.out.size)); clear hb)
 by_cases hln : 20 < l.length
 ·have h1 : (20 : Int) < (l.length : Int) := by omega
  go_wp2_with fail
  go_ret
  exact ⟨rfl, HB1.out⟩
 have hn1 : ¬ (20 : Int) < (l.length : Int) := by omega
 have HP1 := Lib.hid (fun xa xn W h => prism_any axis l xa xn ends0 ends1 W h (by omega))
 have HP2 := Lib.hid (fun W h => prismR_any axis l la lc ends0 ends1 W h (by omega))
 obtain ⟨hpl, hpp⟩ := prV_len axis l ends0 ends1
 have HSS := Lib.hid (fun W ua un va vn h1 h2 => sameSelf (prV axis l ends0 ends1) ua va un vn W hpl hpp h1 h2)
 clear hpl hpp
 generalize prV axis l ends0 ends1 = V at *
 generalize prE axis l ends0 ends1 = E at *
 go_upto_region 5 with fail
 obtain ⟨W5, hW5⟩ : ∃ W5, W5 = w1 := ⟨_, rfl⟩
 subst hW5
 have HB5 := Lib.hid HB1.out
 have HS5 := Lib.hid (And.intro s0 s1)
 have kx0 : ∀ u : KW (fun W' => Below W5.heap.size W5 W'), u.w.cell? ⟨gw, 0, none⟩ = some (.int .i64 ends0) ∧ u.w.cell? ⟨gw, 1, none⟩ = some (.int .i64 ends1) := fun u => ⟨cell_keep u.ok HS5.out.1, cell_keep u.ok HS5.out.2⟩
 haveI nn1 : Nonempty (KW (fun W' => Below W5.heap.size W5 W')) := ⟨⟨W5, Below.refl _ _⟩⟩
 refine wp_cut_slots [13, 14, 15, 16, 17, 18, 19, 20, 21, 22, 23, 24, 7, 8] (SpCut W5 V E) ?_ ?_
 ·refine wp_region_tree (fun w' => ∃ u : KW (fun W' => Below W5.heap.size W5 W'), w' = u.w) 11 (.take 0 (.take 2 (.take 4 (.two 1 (.two 3 (.two 5 (.take 6 (.take 7 (.take 8 (.one 9 (.one 10 .done))))) 9 (.one 5 (.take 6 (.take 7 (.take 8 (.one 10 .done)))))) 9 (.one 3 (.one 5 (.take 6 (.take 7 (.take 8 (.one 10 .done))))))) 9 (.one 1 (.one 3 (.one 5 (.take 6 (.take 7 (.take 8 (.one 10 .done))))))))))) hmix (by kernel_rfl) (KW.mk' (Below.refl _ _).drew) ?_
  have HC := Lib.hid (show Below W5.heap.size W5 W5.drew from (Below.refl _ _).drew)
  generalize W5.drew = wq at *
  (refine wpTree_take ?_; simp only [nthOp]; (first | go_big_quiet_step (fail) | quiet_step (fail)); refine wpQuiet_nil ?_)
  (refine wpTree_take ?_; simp only [nthOp]; (first | go_big_quiet_step (fail) | quiet_step (fail)); refine wpQuiet_nil ?_)
  (refine wpTree_take ?_; simp only [nthOp]; (first | go_big_quiet_step (fail) | quiet_step (fail)); refine wpQuiet_nil ?_)
  refine wpTree_two ?_ ?_
  ·skip
   simp only [nthOp]
   go_wp2_with fail
   have hal := (Below.refl wq.heap.size wq).alloc (Nat.le_refl _) (.cells #[] 52)
   have HMR := Lib.hid (World.ownsRow_made (e := 52) (base := W5.heap.size) (size := 2) wq #[] 0 HC.out.size (by decide) (by simp))
   have HGL := Lib.hid (show wq.heap.size < (wq.alloc (.cells #[] 52)).heap.size by simp)
   have HC := Lib.hid (HC.out.alloc HC.out.size (.cells #[] 52))
   refine One_mk (KW.mk' HC.out) ?_
   clear hal
   generalize (wq.alloc (.cells #[] 52)) = wt1 at *
   obtain ⟨gr, hgr⟩ : ∃ g, g = wq.heap.size := ⟨_, rfl⟩
   rw [← hgr] at HMR HGL ⊢
   clear hgr
   refine wpTree_two ?_ ?_
   ·skip
    simp only [nthOp]
    have HCN := Lib.hid (ptsNews (HVL.out.keep (HB5.out.trans (HC.out.mono HB5.out.size))))
    go_wp2_with (at_builtin; refine wpList_append_rows cellsPt_len cellsPt_one (by decide) rfl _ _ 22 rfl W5.heap.size 52 i0 _ 16 Tryz.underlying22 hi0 hz0 hz1 hzb rfl (by decide) (.slice (some ⟨gr, 0, none⟩) 0 0) 0 [] rfl HMR.out la l lc rfl HCN.out (by omega) HC.out.size ?_; intro v' wt2 ho hg ha; obtain ⟨xa, xn, rfl, -, -⟩ := own_slice ho; have HOX := Lib.hid (show wt2.ownsRow W5.heap.size 52 2 (.slice xa l.length xn) l.length (l.flatMap cellsPt) by simpa using ho); have HPX := Lib.hid (ownPtV (pts_wf HVL.out) HOX.out); have HC := Lib.hid (below_grown HC.out hg HC.out.size fun k hk => (own_lt HMR.out hk).1); clear ho hg ha)
    refine One_mk (KW.mk' HC.out) ?_
    refine wpTree_two ?_ ?_
    ·skip
     simp only [nthOp]
     go_wp2_with (go_at_call 5; refine (HP1.out xa xn wt2 HPX.out).mono ?_; rintro e wt3 ⟨ua, un, rfl, hcv, hcs, hb⟩; have HUV := Lib.hid hcv; have HC := Lib.hid (HC.out.trans (hb.mono HC.out.size)); clear hb hcv hcs)
     refine One_mk (KW.mk' HC.out) ?_
     (refine wpTree_take ?_; simp only [nthOp]; (first | go_big_quiet_step (fail) | quiet_step (fail)); refine wpQuiet_nil ?_)
     (refine wpTree_take ?_; simp only [nthOp]; (first | go_big_quiet_step (fail) | quiet_step (fail)); refine wpQuiet_nil ?_)
     (refine wpTree_take ?_; simp only [nthOp]; (first | go_big_quiet_step (fail) | quiet_step (fail)); refine wpQuiet_nil ?_)
     refine wpTree_one ?_
     simp only [nthOp]
     go_wp2_with fail
     have hal := (Below.refl wt3.heap.size wt3).alloc (Nat.le_refl _) (.cells #[.slice none 0 0] 27)
     have HX := Lib.hid (show (wt3.alloc (.cells #[.slice none 0 0] 27)).cell? ⟨wt3.heap.size, 0, none⟩ = some (.slice none 0 0) ∧ (wt3.alloc (.cells #[.slice none 0 0] 27)).frozen? ⟨wt3.heap.size, 0, none⟩ = false from ⟨by simp [go_sem], by simp [go_sem]⟩)
     have HGX := Lib.hid (show W5.heap.size ≤ wt3.heap.size from HC.out.size)
     have HUS := Lib.hid (fun u => show Cells.V (((wt3.alloc (.cells #[.slice none 0 0] 27))).setCell ⟨wt3.heap.size, 0, none⟩ u) ua V from HUV.out.keep (hal.setCell (Nat.le_refl _) u))
     have HC := Lib.hid (HC.out.alloc HC.out.size (.cells #[.slice none 0 0] 27))
     refine One_mk (KW.mk' HC.out) ?_
     clear hal
     generalize (wt3.alloc (.cells #[.slice none 0 0] 27)) = wt4 at *
     obtain ⟨gx, hgx⟩ : ∃ g, g = wt3.heap.size := ⟨_, rfl⟩
     rw [← hgx] at HX HGX HUS ⊢
     clear hgx
     refine wpTree_one ?_
     simp only [nthOp]
     obtain ⟨x0, xf⟩ := HX.out
     go_wp2_with fail
     have HCW := Lib.hid (show (wt4.setCell ⟨gx, 0, none⟩ (.slice ua V.length un)).cell? ⟨gx, 0, none⟩ = some (.slice ua V.length un) from cell_set_same (by rw [x0]; rfl))
     have HUV := Lib.hid (HUS.out (.slice ua V.length un))
     have HC := Lib.hid (HC.out.setCell (p := ⟨gx, 0, none⟩) HGX.out (.slice ua V.length un))
     refine One_mk (KW.mk' HC.out) ?_
     clear x0 xf HX HUS
     generalize (wt4.setCell ⟨gx, 0, none⟩ (.slice ua V.length un)) = wt5 at *
     refine wpTree_done ?_
     simp only [List.drop_succ_cons, List.drop_zero]
     go_wp2_with fail
     refine NP_mk ?_
     exact cut_meet (by simp [forget]) ⟨gx, ua, un, rfl, rfl, HCW.out, HUV.out, HC.out⟩
    ·skip
     simp only [nthOp]
     go_wp2_with fail
     have hal := (Below.refl wt2.heap.size wt2).alloc (Nat.le_refl _) (.cells #[.slice none 0 0] 27)
     have HX := Lib.hid (show (wt2.alloc (.cells #[.slice none 0 0] 27)).cell? ⟨wt2.heap.size, 0, none⟩ = some (.slice none 0 0) ∧ (wt2.alloc (.cells #[.slice none 0 0] 27)).frozen? ⟨wt2.heap.size, 0, none⟩ = false from ⟨by simp [go_sem], by simp [go_sem]⟩)
     have HGX := Lib.hid (show W5.heap.size ≤ wt2.heap.size from HC.out.size)
     have HPX := Lib.hid (HPX.out.keep hal)
     have HC := Lib.hid (HC.out.alloc HC.out.size (.cells #[.slice none 0 0] 27))
     refine One_mk (KW.mk' HC.out) ?_
     clear hal
     generalize (wt2.alloc (.cells #[.slice none 0 0] 27)) = wt6 at *
     obtain ⟨gx, hgx⟩ : ∃ g, g = wt2.heap.size := ⟨_, rfl⟩
     rw [← hgx] at HX HGX ⊢
     clear hgx
     refine wpTree_one ?_
     simp only [nthOp]
     go_wp2_with (go_at_call 5; refine (HP1.out xa xn wt6 HPX.out).mono ?_; rintro e wt7 ⟨ua, un, rfl, hcv, hcs, hb⟩; have HUV := Lib.hid hcv; have HUS := Lib.hid (fun u => hcs gx (block_lt_of_cell HX.out.1) u); have HX := Lib.hid (And.intro (cell_keep hb HX.out.1) (frozen_keep hb (block_lt_of_cell HX.out.1) HX.out.2)); have HC := Lib.hid (HC.out.trans (hb.mono HC.out.size)); clear hb hcv hcs)
     refine One_mk (KW.mk' HC.out) ?_
     (refine wpTree_take ?_; simp only [nthOp]; (first | go_big_quiet_step (fail) | quiet_step (fail)); refine wpQuiet_nil ?_)
     (refine wpTree_take ?_; simp only [nthOp]; (first | go_big_quiet_step (fail) | quiet_step (fail)); refine wpQuiet_nil ?_)
     (refine wpTree_take ?_; simp only [nthOp]; (first | go_big_quiet_step (fail) | quiet_step (fail)); refine wpQuiet_nil ?_)
     refine wpTree_one ?_
     simp only [nthOp]
     obtain ⟨x0, xf⟩ := HX.out
     go_wp2_with fail
     have HCW := Lib.hid (show (wt7.setCell ⟨gx, 0, none⟩ (.slice ua V.length un)).cell? ⟨gx, 0, none⟩ = some (.slice ua V.length un) from cell_set_same (by rw [x0]; rfl))
     have HUV := Lib.hid (HUS.out (.slice ua V.length un))
     have HC := Lib.hid (HC.out.setCell (p := ⟨gx, 0, none⟩) HGX.out (.slice ua V.length un))
     refine One_mk (KW.mk' HC.out) ?_
     clear x0 xf HX HUS
     generalize (wt7.setCell ⟨gx, 0, none⟩ (.slice ua V.length un)) = wt8 at *
     refine wpTree_done ?_
     simp only [List.drop_succ_cons, List.drop_zero]
     go_wp2_with fail
     refine NP_mk ?_
     exact cut_meet (by simp [forget]) ⟨gx, ua, un, rfl, rfl, HCW.out, HUV.out, HC.out⟩
   ·skip
    simp only [nthOp]
    go_wp2_with fail
    have hal := (Below.refl wt1.heap.size wt1).alloc (Nat.le_refl _) (.cells #[.slice none 0 0] 27)
    have HX := Lib.hid (show (wt1.alloc (.cells #[.slice none 0 0] 27)).cell? ⟨wt1.heap.size, 0, none⟩ = some (.slice none 0 0) ∧ (wt1.alloc (.cells #[.slice none 0 0] 27)).frozen? ⟨wt1.heap.size, 0, none⟩ = false from ⟨by simp [go_sem], by simp [go_sem]⟩)
    have HGX := Lib.hid (show W5.heap.size ≤ wt1.heap.size from HC.out.size)
    have HNE := Lib.hid (show wt1.heap.size ≠ gr from Nat.ne_of_gt HGL.out)
    have HMR := Lib.hid (own_keep HMR.out hal)
    have HC := Lib.hid (HC.out.alloc HC.out.size (.cells #[.slice none 0 0] 27))
    refine One_mk (KW.mk' HC.out) ?_
    clear hal
    generalize (wt1.alloc (.cells #[.slice none 0 0] 27)) = wt9 at *
    obtain ⟨gx, hgx⟩ : ∃ g, g = wt1.heap.size := ⟨_, rfl⟩
    rw [← hgx] at HX HGX HNE ⊢
    clear hgx
    refine wpTree_one ?_
    simp only [nthOp]
    have HCN := Lib.hid (ptsNews (HVL.out.keep (HB5.out.trans (HC.out.mono HB5.out.size))))
    go_wp2_with (at_builtin; refine wpList_append_rows cellsPt_len cellsPt_one (by decide) rfl _ _ 22 rfl W5.heap.size 52 i0 _ 16 Tryz.underlying22 hi0 hz0 hz1 hzb rfl (by decide) (.slice (some ⟨gr, 0, none⟩) 0 0) 0 [] rfl HMR.out la l lc rfl HCN.out (by omega) HC.out.size ?_; intro v' wt10 ho hg ha; obtain ⟨xa, xn, rfl, -, -⟩ := own_slice ho; have HOX := Lib.hid (show wt10.ownsRow W5.heap.size 52 2 (.slice xa l.length xn) l.length (l.flatMap cellsPt) by simpa using ho); have HPX := Lib.hid (ownPtV (pts_wf HVL.out) HOX.out); have HX := Lib.hid (And.intro (grown_cell hg HX.out.1 (fun e => by injection e with e; exact HNE.out e.symm)) ((grown_frozen hg HX.out.1 (fun e => by injection e with e; exact HNE.out e.symm)).trans HX.out.2)); have HC := Lib.hid (below_grown HC.out hg HC.out.size fun k hk => (own_lt HMR.out hk).1); clear ho hg ha)
    refine One_mk (KW.mk' HC.out) ?_
    refine wpTree_one ?_
    simp only [nthOp]
    go_wp2_with (go_at_call 5; refine (HP1.out xa xn wt10 HPX.out).mono ?_; rintro e wt11 ⟨ua, un, rfl, hcv, hcs, hb⟩; have HUV := Lib.hid hcv; have HUS := Lib.hid (fun u => hcs gx (block_lt_of_cell HX.out.1) u); have HX := Lib.hid (And.intro (cell_keep hb HX.out.1) (frozen_keep hb (block_lt_of_cell HX.out.1) HX.out.2)); have HC := Lib.hid (HC.out.trans (hb.mono HC.out.size)); clear hb hcv hcs)
    refine One_mk (KW.mk' HC.out) ?_
    (refine wpTree_take ?_; simp only [nthOp]; (first | go_big_quiet_step (fail) | quiet_step (fail)); refine wpQuiet_nil ?_)
    (refine wpTree_take ?_; simp only [nthOp]; (first | go_big_quiet_step (fail) | quiet_step (fail)); refine wpQuiet_nil ?_)
    (refine wpTree_take ?_; simp only [nthOp]; (first | go_big_quiet_step (fail) | quiet_step (fail)); refine wpQuiet_nil ?_)
    refine wpTree_one ?_
    simp only [nthOp]
    obtain ⟨x0, xf⟩ := HX.out
    go_wp2_with fail
    have HCW := Lib.hid (show (wt11.setCell ⟨gx, 0, none⟩ (.slice ua V.length un)).cell? ⟨gx, 0, none⟩ = some (.slice ua V.length un) from cell_set_same (by rw [x0]; rfl))
    have HUV := Lib.hid (HUS.out (.slice ua V.length un))
    have HC := Lib.hid (HC.out.setCell (p := ⟨gx, 0, none⟩) HGX.out (.slice ua V.length un))
    refine One_mk (KW.mk' HC.out) ?_
    clear x0 xf HX HUS
    generalize (wt11.setCell ⟨gx, 0, none⟩ (.slice ua V.length un)) = wt12 at *
    refine wpTree_done ?_
    simp only [List.drop_succ_cons, List.drop_zero]
    go_wp2_with fail
    refine NP_mk ?_
    exact cut_meet (by simp [forget]) ⟨gx, ua, un, rfl, rfl, HCW.out, HUV.out, HC.out⟩
  ·skip
   simp only [nthOp]
   go_wp2_with fail
   have hal := (Below.refl wq.heap.size wq).alloc (Nat.le_refl _) (.cells #[.slice none 0 0] 27)
   have HX := Lib.hid (show (wq.alloc (.cells #[.slice none 0 0] 27)).cell? ⟨wq.heap.size, 0, none⟩ = some (.slice none 0 0) ∧ (wq.alloc (.cells #[.slice none 0 0] 27)).frozen? ⟨wq.heap.size, 0, none⟩ = false from ⟨by simp [go_sem], by simp [go_sem]⟩)
   have HGX := Lib.hid (show W5.heap.size ≤ wq.heap.size from HC.out.size)
   have HC := Lib.hid (HC.out.alloc HC.out.size (.cells #[.slice none 0 0] 27))
   refine One_mk (KW.mk' HC.out) ?_
   clear hal
   generalize (wq.alloc (.cells #[.slice none 0 0] 27)) = wt13 at *
   obtain ⟨gx, hgx⟩ : ∃ g, g = wq.heap.size := ⟨_, rfl⟩
   rw [← hgx] at HX HGX ⊢
   clear hgx
   refine wpTree_one ?_
   simp only [nthOp]
   go_wp2_with fail
   have hal := (Below.refl wt13.heap.size wt13).alloc (Nat.le_refl _) (.cells #[] 52)
   have HMR := Lib.hid (World.ownsRow_made (e := 52) (base := W5.heap.size) (size := 2) wt13 #[] 0 HC.out.size (by decide) (by simp))
   have HGL := Lib.hid (show wt13.heap.size < (wt13.alloc (.cells #[] 52)).heap.size by simp)
   have HNE := Lib.hid (show gx ≠ wt13.heap.size from Nat.ne_of_lt (block_lt_of_cell HX.out.1))
   have HX := Lib.hid (And.intro (cell_keep hal HX.out.1) (frozen_keep hal (block_lt_of_cell HX.out.1) HX.out.2))
   have HC := Lib.hid (HC.out.alloc HC.out.size (.cells #[] 52))
   refine One_mk (KW.mk' HC.out) ?_
   clear hal
   generalize (wt13.alloc (.cells #[] 52)) = wt14 at *
   obtain ⟨gr, hgr⟩ : ∃ g, g = wt13.heap.size := ⟨_, rfl⟩
   rw [← hgr] at HMR HGL HNE ⊢
   clear hgr
   refine wpTree_one ?_
   simp only [nthOp]
   have HCN := Lib.hid (ptsNews (HVL.out.keep (HB5.out.trans (HC.out.mono HB5.out.size))))
   go_wp2_with (at_builtin; refine wpList_append_rows cellsPt_len cellsPt_one (by decide) rfl _ _ 22 rfl W5.heap.size 52 i0 _ 16 Tryz.underlying22 hi0 hz0 hz1 hzb rfl (by decide) (.slice (some ⟨gr, 0, none⟩) 0 0) 0 [] rfl HMR.out la l lc rfl HCN.out (by omega) HC.out.size ?_; intro v' wt15 ho hg ha; obtain ⟨xa, xn, rfl, -, -⟩ := own_slice ho; have HOX := Lib.hid (show wt15.ownsRow W5.heap.size 52 2 (.slice xa l.length xn) l.length (l.flatMap cellsPt) by simpa using ho); have HPX := Lib.hid (ownPtV (pts_wf HVL.out) HOX.out); have HX := Lib.hid (And.intro (grown_cell hg HX.out.1 (fun e => by injection e with e; exact HNE.out e.symm)) ((grown_frozen hg HX.out.1 (fun e => by injection e with e; exact HNE.out e.symm)).trans HX.out.2)); have HC := Lib.hid (below_grown HC.out hg HC.out.size fun k hk => (own_lt HMR.out hk).1); clear ho hg ha)
   refine One_mk (KW.mk' HC.out) ?_
   refine wpTree_one ?_
   simp only [nthOp]
   go_wp2_with (go_at_call 5; refine (HP1.out xa xn wt15 HPX.out).mono ?_; rintro e wt16 ⟨ua, un, rfl, hcv, hcs, hb⟩; have HUV := Lib.hid hcv; have HUS := Lib.hid (fun u => hcs gx (block_lt_of_cell HX.out.1) u); have HX := Lib.hid (And.intro (cell_keep hb HX.out.1) (frozen_keep hb (block_lt_of_cell HX.out.1) HX.out.2)); have HC := Lib.hid (HC.out.trans (hb.mono HC.out.size)); clear hb hcv hcs)
   refine One_mk (KW.mk' HC.out) ?_
   (refine wpTree_take ?_; simp only [nthOp]; (first | go_big_quiet_step (fail) | quiet_step (fail)); refine wpQuiet_nil ?_)
   (refine wpTree_take ?_; simp only [nthOp]; (first | go_big_quiet_step (fail) | quiet_step (fail)); refine wpQuiet_nil ?_)
   (refine wpTree_take ?_; simp only [nthOp]; (first | go_big_quiet_step (fail) | quiet_step (fail)); refine wpQuiet_nil ?_)
   refine wpTree_one ?_
   simp only [nthOp]
   obtain ⟨x0, xf⟩ := HX.out
   go_wp2_with fail
   have HCW := Lib.hid (show (wt16.setCell ⟨gx, 0, none⟩ (.slice ua V.length un)).cell? ⟨gx, 0, none⟩ = some (.slice ua V.length un) from cell_set_same (by rw [x0]; rfl))
   have HUV := Lib.hid (HUS.out (.slice ua V.length un))
   have HC := Lib.hid (HC.out.setCell (p := ⟨gx, 0, none⟩) HGX.out (.slice ua V.length un))
   refine One_mk (KW.mk' HC.out) ?_
   clear x0 xf HX HUS
   generalize (wt16.setCell ⟨gx, 0, none⟩ (.slice ua V.length un)) = wt17 at *
   refine wpTree_done ?_
   simp only [List.drop_succ_cons, List.drop_zero]
   go_wp2_with fail
   refine NP_mk ?_
   exact cut_meet (by simp [forget]) ⟨gx, ua, un, rfl, rfl, HCW.out, HUV.out, HC.out⟩
 clear kx0 nn1
 rintro u W6 ⟨gx, ua, un, hu7, hu8, hx, huv, hb⟩
 simp only [forget, List.foldl_cons, List.foldl_nil, hu7, hu8, List.setIfInBounds_toArray, List.set_cons_succ, List.set_cons_zero]
 clear hu7 hu8
 have HUV := Lib.hid huv
 have HBK := Lib.hid (HB1.out.trans (hb.mono HB1.out.size))
 have s0 := cell_keep hb HS5.out.1
 have s1 := cell_keep hb HS5.out.2
 have HV6 := Lib.hid (HVL.out.keep HBK.out)
 clear huv hb
 go_upto_region 7 with (go_at_call 6; refine (HP2.out _ HV6.out).mono ?_; rintro e w7 ⟨va, vn, rfl, hcv, hb⟩; have hx := cell_keep hb hx; have HUV := Lib.hid (HUV.out.keep hb); have HVV := Lib.hid hcv; have HB7 := Lib.hid (HBK.out.trans (hb.mono HBK.out.size)); clear hb hcv)
 refine gen_world (fun W => W.cell? ⟨w7.heap.size, 0, none⟩ = some (.slice va V.length vn) ∧ Below w7.heap.size w7 W) ⟨by simp [go_sem], by repeat (first | (with_reducible assumption) | exact Below.refl _ _ | (refine Below.setCell ?_ (by first | omega | (simp; omega) | (simp; done)) _) | (refine Below.alloc ?_ (by first | omega | (simp; omega) | (simp; done)) _) | (refine Below.drew ?_))⟩ ?_
 rintro W7 ⟨v0, hb⟩
 have hx := cell_keep hb hx
 have HUV := Lib.hid (HUV.out.keep hb)
 have HVV := Lib.hid (HVV.out.keep hb)
 have HB7 := Lib.hid (HB7.out.trans (hb.mono HB7.out.size))
 clear hb s0 s1
 generalize w7.heap.size = g7 at *
 have HQ := Lib.hid (HSS.out W7 ua un va vn HUV.out HVV.out)
 have eb : (E == E) = true := by simp
 go_wp2_with (go_at_call 7; refine HQ.out.mono ?_; rintro e w8 ⟨rfl, hb⟩; have HB8 := Lib.hid (HB7.out.trans (hb.mono HB7.out.size)); clear hb)
 go_ret
 exact ⟨rfl, HB8.out⟩
set_option maxRecDepth 100000 in
theorem solidPrisms_walks : Walks 3 Tryz.f3 := by
 intro H enc W base args ds p hval hA hlt
 rw [Tryz.params3] at hA hval
 obtain ⟨v0, vs0, d0, ds0, p0, q0, hargs, rfl, rfl, ⟨fu0, hf0⟩, r0⟩ := trodAll_cons hA
 obtain ⟨v1, vs1, d1, ds1, p1, q1, rfl, rfl, rfl, ⟨fu1, hf1⟩, r1⟩ := trodAll_cons r0
 obtain ⟨v2, vs2, d2, ds2, p2, q2, rfl, rfl, rfl, ⟨fu2, hf2⟩, r2⟩ := trodAll_cons r1
 obtain ⟨rfl, rfl, rfl⟩ := trodAll_nil r2
 obtain rfl : args = #[v0, v1, v2] := by cases args; simp_all
 obtain ⟨axis, rfl⟩ := okWide_int Tryz.underlying3 (hval 0 3 v0 rfl rfl)
 obtain ⟨s0, g0, -, q0⟩ := DataW.trod_int Tryz.underlying3 hf0
 obtain rfl : s0 = axis := by simpa [Value.cells] using g0.symm
 obtain ⟨_, _, _, rfl⟩ := okWide_slice Tryz.underlying22 (hval 1 22 v1 rfl rfl)
 obtain ⟨a1, l, c1, e1, V1, C1, M1⟩ := Pts.open_ hf1
 rw [e1]
 obtain ⟨cs2, rfl, -⟩ := okWide_pair Tryz.underlying23 (hval 2 23 v2 rfl rfl)
 obtain ⟨p2, q2, hc2, W2⟩ := pair_open hf2
 have hd2 : cs2 = #[.int .i64 p2, .int .i64 q2] := by
  cases cs2; simpa [Value.cells] using hc2
 subst hd2
 exact walkSolidPrisms s0 a1 l c1 p2 q2 W (int_wf q0) V1 (by unfold maxLen at M1; omega) C1 W2

set_option maxRecDepth 100000 in
theorem solidPrisms_holds : Rows.SolidPrismsSaid :=
 law_holds (s := Rows.solidPrismsSpec) (c := Rows.solidPrismsRow) 3 Tryz.f3 rfl
  (fun H ds h => by match ds, h with | [_, _, _], _ => rfl) (by kernel_rfl) (by kernel_rfl)
  rfl rfl rfl rfl rfl rfl rfl ⟨rfl, rfl, rfl, rfl, rfl⟩ rfl rfl rfl rfl rfl rfl rfl rfl rfl rfl (fun _ _ => rfl) (by kernel_rfl) Tryz.func3
  solidPrisms_closed (of_decide_eq_true (by kernel_rfl)) (by unfold Func.isWrapper; first | (rw [if_pos (by decide +kernel)]; kernel_rfl) | (rw [if_neg (by decide +kernel)]; exact ⟨rfl, rfl⟩)) (by kernel_rfl)
  (fun H enc os => ChangeSpec.witness6 (enc := enc) (C := Tryz.checked) false ⟨#[], #[.int .i64 0, .slice none 0 0, .agg #[.int .i64 0, .int .i64 0]], []⟩ 8 (by kernel_rfl) (by kernel_rfl) (by kernel_rfl) (by kernel_rfl))
  solidPrisms_walks
end Go.Proofs.YtgjmfdhgeahdcaaGreat
