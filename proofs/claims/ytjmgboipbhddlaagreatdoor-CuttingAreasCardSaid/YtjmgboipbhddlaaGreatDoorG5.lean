import Derived.Test.YtjmgboipbhddlaaGreatDoorG4
import Derived.Test.YtjmgboipbhddlaaGreatDoorQD
set_option linter.unusedVariables false
set_option linter.unusedSimpArgs false
namespace Go.Proofs.YtjmgboipbhddlaaGreatDoor
open Go Go.RowKit

theorem box_new (W : World) (T : TypeId) (r : Rect) : BoxR (W.alloc (.cells #[.int .i64 r.x1, .int .i64 r.y1, .int .i64 r.x2, .int .i64 r.y2] T)) W.heap.size r :=
 ⟨by simp [go_sem], by simp [go_sem], by simp [go_sem], by simp [go_sem], by simp [go_sem], by simp [go_sem], by simp [go_sem], by simp [go_sem]⟩
theorem keep6 {W W' : World} {a b c d : Addr} {p q r s : Value} (hb : Below W.heap.size W W') (h : (W.cell? a = some p ∧ W.cell? b = some q) ∧ W.cell? c = some r ∧ W.cell? d = some s) : (W'.cell? a = some p ∧ W'.cell? b = some q) ∧ W'.cell? c = some r ∧ W'.cell? d = some s :=
 ⟨⟨cell_keep hb h.1.1, cell_keep hb h.1.2⟩, cell_keep hb h.2.1, cell_keep hb h.2.2⟩
theorem box_st {W : World} {g : Nat} {r : Rect} (h : BoxR W g r) : ∀ a v, newSt g (cellsR r) a v → W.cell? a = some v := by
 rintro a v ⟨j, rfl, hj⟩
 match j, hj with
 | 0, hj => simp [cellsR] at hj; subst hj; exact h.c0
 | 1, hj => simp [cellsR] at hj; subst hj; exact h.c1
 | 2, hj => simp [cellsR] at hj; subst hj; exact h.c2
 | 3, hj => simp [cellsR] at hj; subst hj; exact h.c3
 | j + 4, hj => simp [cellsR] at hj
structure Cells4 (W : World) (g : Nat) (r : Rect) : Prop where
 c0 : W.cell? ⟨g, 0, none⟩ = some (.int .i64 r.x1)
 c1 : W.cell? ⟨g, 1, none⟩ = some (.int .i64 r.y1)
 c2 : W.cell? ⟨g, 2, none⟩ = some (.int .i64 r.x2)
 c3 : W.cell? ⟨g, 3, none⟩ = some (.int .i64 r.y2)
theorem desk_box {W : World} {base g : Nat} {r : Rect} {L : List Slot} {St : Addr → Value → Prop} (h : Desk W base L St) (hs : ∀ a v, newSt g (cellsR r) a v → St a v) : Cells4 W g r :=
 ⟨h.cell (hs _ _ (newSt_at rfl)), h.cell (hs _ _ (newSt_at rfl)), h.cell (hs _ _ (newSt_at rfl)), h.cell (hs _ _ (newSt_at rfl))⟩

def CutR (n m : Nat) (w : World) (low high : Rect) (u : Nat → Value) (W2 : World) : Prop := ∃ gx gy : Nat, u n = .pointer (some ⟨gx, 0, none⟩) ∧ u m = .pointer (some ⟨gy, 0, none⟩) ∧ BoxR W2 gx low ∧ BoxR W2 gy high ∧ w.heap.size ≤ gx ∧ w.heap.size ≤ gy ∧ Below w.heap.size w W2
theorem CutR.mk {n m : Nat} {w w0 : World} {low high : Rect} {u : Nat → Value} {W2 : World} {gx gy : Nat} (hw : w0 = w.drew) (h1 : u n = .pointer (some ⟨gx, 0, none⟩)) (h2 : u m = .pointer (some ⟨gy, 0, none⟩)) (h3 : BoxR W2 gx low) (h4 : BoxR W2 gy high) (h5 : w0.heap.size ≤ gx) (h6 : w0.heap.size ≤ gy) (h7 : Below w0.heap.size w0 W2) : CutR n m w low high u W2 := by
 subst hw
 exact ⟨gx, gy, h1, h2, h3, h4, h5, h6, (Below.refl w.heap.size w).drew.trans h7⟩

def CutS (n m : Nat) (len : Nat) (base : Nat) (w : World) (L : List Slot) (St : Addr → Value → Prop) (u : Nat → Value) (W2 : World) : Prop := u n = .int .i64 len ∧ u m = .int .i64 ((len : Int) + 1) ∧ Desk W2 base L St ∧ Below base w W2
theorem CutS.mk {n m len base : Nat} {w : World} {L : List Slot} {St : Addr → Value → Prop} {u : Nat → Value} {W2 : World} (h1 : u n = .int .i64 len) (h2 : u m = .int .i64 ((len : Int) + 1)) (h3 : Desk W2 base L St) (h4 : Below base w W2) : CutS n m len base w L St u W2 := ⟨h1, h2, h3, h4⟩

set_option maxRecDepth 100000 in
set_option maxHeartbeats 16000000 in
theorem bcut_any (x base : Nat) (L : List Slot) (i : Nat) (s : BS) (St : Addr → Value → Prop) (region : Nat) (across : Bool) (a kerf : Int) (w : World) (hD : Desk w base L St) (hA : AtB L i ⟨x, 11, none⟩ ⟨x, 12, none⟩ s) (hst : St ⟨x, 8, none⟩ (.int .i64 kerf))
    (hl : s.cuts.length ≤ 90000) (hl2 : s.rects.length = s.cuts.length) (hreg : region < s.cuts.length) (hq : okR (s.r region)) (ha : 0 ≤ a ∧ a ≤ 600000) (hkf : 0 ≤ kerf ∧ kerf ≤ 10000) :
    Calls Tryz.prog 107 #[.pointer (some ⟨x, 0, none⟩), .int .i64 region, .bool across, .int .i64 a] w fun e w' => e = .returned (.tuple #[.int .i64 s.cuts.length, .int .i64 ((s.cuts.length : Int) + 1)]) ∧ Desk w' base (setB L i ⟨x, 11, none⟩ ⟨x, 12, none⟩ (s.cut kerf region across a)) St ∧ Below base w w' := by
 have hsz := hD.size hA
 have hr2 : region < s.rects.length := by omega
 have hregi : (region : Int) < (s.rects.length : Int) := by omega
 have hregi2 : (region : Int) < (s.cuts.length : Int) := by omega
 obtain ⟨g, cap, k1, k2, k3, k4, k5, k6, k7⟩ := hD.rowR hA (by rintro h; rw [h] at hr2; simp at hr2)
 obtain ⟨q, hqq⟩ : ∃ q, q = s.r region := ⟨_, rfl⟩
 have hqe : s.rects[region] = q := by rw [hqq]; unfold BS.r; rw [List.getD_eq_getElem?_getD, List.getElem?_eq_getElem hr2]; rfl
 have e0 := (k7 region hr2 0 (by decide)).1
 have e1 := (k7 region hr2 1 (by decide)).1
 have e2 := (k7 region hr2 2 (by decide)).1
 have e3 := (k7 region hr2 3 (by decide)).1
 rw [hqe] at e0 e1 e2 e3
 simp only [cellsR, List.getElem?_cons_zero, List.getElem?_cons_succ, Nat.add_zero] at e0 e1 e2 e3
 have HQ : 0 ≤ q.x1 ∧ q.x1 ≤ 600000 ∧ 0 ≤ q.y1 ∧ q.y1 ≤ 600000 := by
  rw [← hqq] at hq
  rcases hq with rfl | hq
  ·decide
  ·unfold proper at hq; omega
 obtain ⟨low, hlow⟩ : ∃ low, lowR q across a = low := ⟨_, rfl⟩
 obtain ⟨high, hhigh⟩ : ∃ high, highR q across a kerf = high := ⟨_, rfl⟩
 have HLOW := Lib.hid hlow
 have HHIGH := Lib.hid hhigh
 have HCUT := Lib.hid (show s.cut kerf region across a = ⟨(s.cuts ++ [wasteC, wasteC]).set region ⟨across, a, s.cuts.length, s.cuts.length + 1, 0⟩, s.rects ++ [low, high]⟩ by unfold BS.cut; rw [← hqq, hlow, hhigh])
 have kx3 : ∀ y : KW (fun W => W.cell? ⟨x, 12, none⟩ = some (.slice (some ⟨g, 0, none⟩) s.rects.length cap)), y.w.cell? ⟨x, 12, none⟩ = some (.slice (some ⟨g, 0, none⟩) s.rects.length cap) := fun y => y.ok
 have kx6 : ∀ y : KW (fun W => (W.cell? ⟨g, region * 4, none⟩ = some (.int .i64 q.x1) ∧ W.cell? ⟨g, region * 4 + 1, none⟩ = some (.int .i64 q.y1)) ∧ W.cell? ⟨g, region * 4 + 2, none⟩ = some (.int .i64 q.x2) ∧ W.cell? ⟨g, region * 4 + 3, none⟩ = some (.int .i64 q.y2)), (y.w.cell? ⟨g, region * 4, none⟩ = some (.int .i64 q.x1) ∧ y.w.cell? ⟨g, region * 4 + 1, none⟩ = some (.int .i64 q.y1)) ∧ y.w.cell? ⟨g, region * 4 + 2, none⟩ = some (.int .i64 q.x2) ∧ y.w.cell? ⟨g, region * 4 + 3, none⟩ = some (.int .i64 q.y2) := fun y => y.ok
 have kx13 : ∀ y : KW (fun W => W.cell? ⟨x, 8, none⟩ = some (.int .i64 kerf)), y.w.cell? ⟨x, 8, none⟩ = some (.int .i64 kerf) := fun y => y.ok
 clear hlow hhigh hqq hq hqe k7 k2
 go_enter Tryz.func107, Tryz.ntmps107
 go_wp2_with fail
 have HDD := Lib.hid hD
 refine wp_cut_slots [10, 11, 12, 13, 14, 15, 16, 17, 18, 19, 20, 21, 22, 23, 24, 25, 26, 27, 28, 29, 30, 31] (CutR 10 11 w low high) ?_ ?_
 ·haveI n1 : Nonempty (KW (fun W => W.cell? ⟨x, 12, none⟩ = some (.slice (some ⟨g, 0, none⟩) s.rects.length cap))) := ⟨⟨w, k1⟩⟩
  haveI n2 : Nonempty (KW (fun W => (W.cell? ⟨g, region * 4, none⟩ = some (.int .i64 q.x1) ∧ W.cell? ⟨g, region * 4 + 1, none⟩ = some (.int .i64 q.y1)) ∧ W.cell? ⟨g, region * 4 + 2, none⟩ = some (.int .i64 q.x2) ∧ W.cell? ⟨g, region * 4 + 3, none⟩ = some (.int .i64 q.y2))) := ⟨⟨w, ⟨e0, e1⟩, e2, e3⟩⟩
  haveI n3 : Nonempty (KW (fun W => W.cell? ⟨x, 8, none⟩ = some (.int .i64 kerf))) := ⟨⟨w, hD.cell hst⟩⟩
  refine wp_region_odr [(3, fun w' => ∃ y : KW (fun W => W.cell? ⟨x, 12, none⟩ = some (.slice (some ⟨g, 0, none⟩) s.rects.length cap)), w' = y.w), (6, fun w' => ∃ y : KW (fun W => (W.cell? ⟨g, region * 4, none⟩ = some (.int .i64 q.x1) ∧ W.cell? ⟨g, region * 4 + 1, none⟩ = some (.int .i64 q.y1)) ∧ W.cell? ⟨g, region * 4 + 2, none⟩ = some (.int .i64 q.x2) ∧ W.cell? ⟨g, region * 4 + 3, none⟩ = some (.int .i64 q.y2)), w' = y.w), (13, fun w' => ∃ y : KW (fun W => W.cell? ⟨x, 8, none⟩ = some (.int .i64 kerf)), w' = y.w)] [3, 6, 13] 23
   (.take 0 (.take 1 (.take 2 (.take 3 (.take 4 (.take 5 (.take 6 (.take 7 (.take 8 (.take 9 (.take 10 (.take 11 (.take 12 (.take 13 (.three 14 [3] (.take 15 (.take 16 (.take 17 (.take 18 (.two 19 [3, 6, 13] (.one 20 [3, 6, 13] (.one 21 [] (.one 22 [] .done))) 20 [3, 6, 13] (.one 19 [3, 6, 13] (.one 21 [] (.one 22 [] .done)))))))) 19 [3, 6, 13] (.two 14 [3] (.take 15 (.take 16 (.take 17 (.take 18 (.one 20 [3, 6, 13] (.one 21 [] (.one 22 [] .done))))))) 20 [3, 6, 13] (.one 14 [3] (.take 15 (.take 16 (.take 17 (.take 18 (.one 21 [] (.one 22 [] .done)))))))) 20 [3, 6, 13] (.two 14 [3] (.take 15 (.take 16 (.take 17 (.take 18 (.one 19 [3, 6, 13] (.one 21 [] (.one 22 [] .done))))))) 19 [3, 6, 13] (.one 14 [3] (.take 15 (.take 16 (.take 17 (.take 18 (.one 21 [] (.one 22 [] .done))))))))))))))))))))))) rfl (by kernel_rfl) (by kernel_rfl) ?_
  have HB0 : Hid (Below w.heap.size w w.drew) := Lib.hid (Below.refl _ _).drew
  have HC := Lib.hid k1
  have H6 := Lib.hid (show (w.cell? ⟨g, region * 4, none⟩ = some (.int .i64 q.x1) ∧ w.cell? ⟨g, region * 4 + 1, none⟩ = some (.int .i64 q.y1)) ∧ w.cell? ⟨g, region * 4 + 2, none⟩ = some (.int .i64 q.x2) ∧ w.cell? ⟨g, region * 4 + 3, none⟩ = some (.int .i64 q.y2) from ⟨⟨e0, e1⟩, e2, e3⟩)
  have HK := Lib.hid (hD.cell hst)
  clear hD k1 e0 e1 e2 e3 HDD
  have hc := cell_keep HB0.out HC.out
  have h6 := keep6 HB0.out H6.out
  have hk := cell_keep HB0.out HK.out
  have HB0 : Hid (Below w.drew.heap.size w.drew w.drew) := Lib.hid (Below.refl _ _)
  have HC := Lib.hid hc
  have H6 := Lib.hid h6
  have HK := Lib.hid hk
  generalize hw0 : w.drew = w0 at *
  have HW0 := Lib.hid hw0.symm
  clear hw0
  repeat (refine wpOdr_take (by first | exact trivial | exact KW.mk' hc | exact KW.mk' h6 | exact KW.mk' hk) ?_; simp only [nthOp]; (first | go_big_quiet_step (fail) | quiet_step (fail)); refine wpQuiet_nil ?_)
  refine wpOdr_three ?_ ?_ ?_
  ·simp only [nthOp]
   go_wp2_with (go_at_call 29; refine (parted_is q low high across a kerf _ HLOW.out HHIGH.out (by omega) (by omega) (by omega)).mono ?_; rintro e w1 ⟨⟨nn, rfl⟩, hbn⟩; have HBN := Lib.hid hbn; clear hbn)
   have HB1 := Lib.hid (HB0.out.trans (HBN.out.mono HB0.out.size))
   clear HBN
   clear hc h6 hk
   have hc := cell_keep HB1.out HC.out
   have h6 := keep6 HB1.out H6.out
   have hk := cell_keep HB1.out HK.out
   refine One_odr (by repeat (first | exact Obl.nil | (refine Obl.out rfl ?_) | (refine Obl.in (KW.mk' hc) ?_) | (refine Obl.in (KW.mk' h6) ?_) | (refine Obl.in (KW.mk' hk) ?_))) ?_
   repeat (refine wpOdr_take (by first | exact trivial | exact KW.mk' hc | exact KW.mk' h6 | exact KW.mk' hk) ?_; simp only [nthOp]; (first | go_big_quiet_step (fail) | quiet_step (fail)); refine wpQuiet_nil ?_)
   refine wpOdr_two ?_ ?_
   ·simp only [nthOp]
    go_wp2_with fail
    obtain ⟨gx, hgx⟩ : ∃ g, g = w1.heap.size := ⟨_, rfl⟩
    rw [← hgx]
    have HZgx := Lib.hid (show w0.heap.size ≤ gx by rw [hgx]; exact HB1.out.size)
    refine gen_any (G := fun W' => One _ _ _ _ W') (fun W' => Below w0.heap.size w0 W' ∧ BoxR W' gx ⟨0, 0, 0, 0⟩) ?_ ?_
    ·exact ⟨HB1.out.alloc HB1.out.size _, by rw [hgx]; exact box_new _ _ ⟨0, 0, 0, 0⟩⟩
    rintro w2 ⟨hb, hn⟩
    have HB2 := Lib.hid hb
    have Hgx2 := Lib.hid hn
    clear hgx hb hn
    clear hc h6 hk
    have hc := cell_keep HB2.out HC.out
    have h6 := keep6 HB2.out H6.out
    have hk := cell_keep HB2.out HK.out
    refine One_odr (by repeat (first | exact Obl.nil | (refine Obl.out rfl ?_) | (refine Obl.in (KW.mk' hc) ?_) | (refine Obl.in (KW.mk' h6) ?_) | (refine Obl.in (KW.mk' hk) ?_))) ?_
    refine wpOdr_one ?_
    simp only [nthOp]
    go_wp2_with fail
    obtain ⟨gy, hgy⟩ : ∃ g, g = w2.heap.size := ⟨_, rfl⟩
    rw [← hgy]
    have HZgy := Lib.hid (show w0.heap.size ≤ gy by rw [hgy]; exact HB2.out.size)
    have HDgxgy := Lib.hid (show gx < gy by rw [hgy]; exact Hgx2.out.lt)
    refine gen_any (G := fun W' => One _ _ _ _ W') (fun W' => Below w0.heap.size w0 W' ∧ BoxR W' gy ⟨0, 0, 0, 0⟩ ∧ BoxR W' gx ⟨0, 0, 0, 0⟩) ?_ ?_
    ·exact ⟨HB2.out.alloc HB2.out.size _, by rw [hgy]; exact box_new _ _ ⟨0, 0, 0, 0⟩, Hgx2.out.keep ((Below.refl _ _).alloc (Nat.le_refl _) _)⟩
    rintro w3 ⟨hb, hn, hgx⟩
    have HB3 := Lib.hid hb
    have Hgy3 := Lib.hid hn
    have Hgx3 := Lib.hid hgx
    clear hgy hb hn hgx
    clear hc h6 hk
    have hc := cell_keep HB3.out HC.out
    have h6 := keep6 HB3.out H6.out
    have hk := cell_keep HB3.out HK.out
    refine One_odr (by repeat (first | exact Obl.nil | (refine Obl.out rfl ?_) | (refine Obl.in (KW.mk' hc) ?_) | (refine Obl.in (KW.mk' h6) ?_) | (refine Obl.in (KW.mk' hk) ?_))) ?_
    have hdd := HDgxgy.out
    clear hc h6 hk
    obtain ⟨d0, d1, d2, d3, f0, f1, f2, f3⟩ := Hgx3.out
    obtain ⟨e0, e1, e2, e3, g0, g1, g2, g3⟩ := Hgy3.out
    refine wpOdr_one ?_
    simp only [nthOp]
    go_wp2_with fail
    refine One_odr (by repeat (first | exact Obl.nil | (refine Obl.out rfl ?_) | (refine Obl.in (KW.mk' hc) ?_) | (refine Obl.in (KW.mk' h6) ?_) | (refine Obl.in (KW.mk' hk) ?_))) ?_
    refine wpOdr_one ?_
    simp only [nthOp]
    go_wp2_with fail
    refine One_odr (by repeat (first | exact Obl.nil | (refine Obl.out rfl ?_) | (refine Obl.in (KW.mk' hc) ?_) | (refine Obl.in (KW.mk' h6) ?_) | (refine Obl.in (KW.mk' hk) ?_))) (wpOdr_done ?_)
    simp only [List.drop_succ_cons, List.drop_zero]
    go_wp2_with fail
    refine NP_mk ?_
    refine cut_meet (by simp [forget]) (CutR.mk HW0.out rfl rfl ?_ ?_ HZgx.out HZgy.out ?_)
    ·exact ⟨by simp [go_sem, *], by simp [go_sem, *], by simp [go_sem, *], by simp [go_sem, *], by simp [go_sem, *], by simp [go_sem, *], by simp [go_sem, *], by simp [go_sem, *]⟩
    ·exact ⟨by simp [go_sem, *], by simp [go_sem, *], by simp [go_sem, *], by simp [go_sem, *], by simp [go_sem, *], by simp [go_sem, *], by simp [go_sem, *], by simp [go_sem, *]⟩
    ·have hzx := HZgx.out
     have hzy := HZgy.out
     (repeat (first | (with_reducible exact HB3.out) | (with_reducible refine Below.setCell ?_ (by first | (simp; done) | (simp; omega)) _)))
   ·simp only [nthOp]
    go_wp2_with fail
    obtain ⟨gy, hgy⟩ : ∃ g, g = w1.heap.size := ⟨_, rfl⟩
    rw [← hgy]
    have HZgy := Lib.hid (show w0.heap.size ≤ gy by rw [hgy]; exact HB1.out.size)
    refine gen_any (G := fun W' => One _ _ _ _ W') (fun W' => Below w0.heap.size w0 W' ∧ BoxR W' gy ⟨0, 0, 0, 0⟩) ?_ ?_
    ·exact ⟨HB1.out.alloc HB1.out.size _, by rw [hgy]; exact box_new _ _ ⟨0, 0, 0, 0⟩⟩
    rintro w2 ⟨hb, hn⟩
    have HB2 := Lib.hid hb
    have Hgy2 := Lib.hid hn
    clear hgy hb hn
    clear hc h6 hk
    have hc := cell_keep HB2.out HC.out
    have h6 := keep6 HB2.out H6.out
    have hk := cell_keep HB2.out HK.out
    refine One_odr (by repeat (first | exact Obl.nil | (refine Obl.out rfl ?_) | (refine Obl.in (KW.mk' hc) ?_) | (refine Obl.in (KW.mk' h6) ?_) | (refine Obl.in (KW.mk' hk) ?_))) ?_
    refine wpOdr_one ?_
    simp only [nthOp]
    go_wp2_with fail
    obtain ⟨gx, hgx⟩ : ∃ g, g = w2.heap.size := ⟨_, rfl⟩
    rw [← hgx]
    have HZgx := Lib.hid (show w0.heap.size ≤ gx by rw [hgx]; exact HB2.out.size)
    have HDgygx := Lib.hid (show gy < gx by rw [hgx]; exact Hgy2.out.lt)
    refine gen_any (G := fun W' => One _ _ _ _ W') (fun W' => Below w0.heap.size w0 W' ∧ BoxR W' gx ⟨0, 0, 0, 0⟩ ∧ BoxR W' gy ⟨0, 0, 0, 0⟩) ?_ ?_
    ·exact ⟨HB2.out.alloc HB2.out.size _, by rw [hgx]; exact box_new _ _ ⟨0, 0, 0, 0⟩, Hgy2.out.keep ((Below.refl _ _).alloc (Nat.le_refl _) _)⟩
    rintro w3 ⟨hb, hn, hgy⟩
    have HB3 := Lib.hid hb
    have Hgx3 := Lib.hid hn
    have Hgy3 := Lib.hid hgy
    clear hgx hb hn hgy
    clear hc h6 hk
    have hc := cell_keep HB3.out HC.out
    have h6 := keep6 HB3.out H6.out
    have hk := cell_keep HB3.out HK.out
    refine One_odr (by repeat (first | exact Obl.nil | (refine Obl.out rfl ?_) | (refine Obl.in (KW.mk' hc) ?_) | (refine Obl.in (KW.mk' h6) ?_) | (refine Obl.in (KW.mk' hk) ?_))) ?_
    have hdd := HDgygx.out
    clear hc h6 hk
    obtain ⟨d0, d1, d2, d3, f0, f1, f2, f3⟩ := Hgx3.out
    obtain ⟨e0, e1, e2, e3, g0, g1, g2, g3⟩ := Hgy3.out
    refine wpOdr_one ?_
    simp only [nthOp]
    go_wp2_with fail
    refine One_odr (by repeat (first | exact Obl.nil | (refine Obl.out rfl ?_) | (refine Obl.in (KW.mk' hc) ?_) | (refine Obl.in (KW.mk' h6) ?_) | (refine Obl.in (KW.mk' hk) ?_))) ?_
    refine wpOdr_one ?_
    simp only [nthOp]
    go_wp2_with fail
    refine One_odr (by repeat (first | exact Obl.nil | (refine Obl.out rfl ?_) | (refine Obl.in (KW.mk' hc) ?_) | (refine Obl.in (KW.mk' h6) ?_) | (refine Obl.in (KW.mk' hk) ?_))) (wpOdr_done ?_)
    simp only [List.drop_succ_cons, List.drop_zero]
    go_wp2_with fail
    refine NP_mk ?_
    refine cut_meet (by simp [forget]) (CutR.mk HW0.out rfl rfl ?_ ?_ HZgx.out HZgy.out ?_)
    ·exact ⟨by simp [go_sem, *], by simp [go_sem, *], by simp [go_sem, *], by simp [go_sem, *], by simp [go_sem, *], by simp [go_sem, *], by simp [go_sem, *], by simp [go_sem, *]⟩
    ·exact ⟨by simp [go_sem, *], by simp [go_sem, *], by simp [go_sem, *], by simp [go_sem, *], by simp [go_sem, *], by simp [go_sem, *], by simp [go_sem, *], by simp [go_sem, *]⟩
    ·have hzx := HZgx.out
     have hzy := HZgy.out
     (repeat (first | (with_reducible exact HB3.out) | (with_reducible refine Below.setCell ?_ (by first | (simp; done) | (simp; omega)) _)))
  ·simp only [nthOp]
   go_wp2_with fail
   obtain ⟨gx, hgx⟩ : ∃ g, g = w0.heap.size := ⟨_, rfl⟩
   rw [← hgx]
   have HZgx := Lib.hid (show w0.heap.size ≤ gx by rw [hgx]; exact HB0.out.size)
   refine gen_any (G := fun W' => One _ _ _ _ W') (fun W' => Below w0.heap.size w0 W' ∧ BoxR W' gx ⟨0, 0, 0, 0⟩) ?_ ?_
   ·exact ⟨HB0.out.alloc HB0.out.size _, by rw [hgx]; exact box_new _ _ ⟨0, 0, 0, 0⟩⟩
   rintro w1 ⟨hb, hn⟩
   have HB1 := Lib.hid hb
   have Hgx1 := Lib.hid hn
   clear hgx hb hn
   clear hc h6 hk
   have hc := cell_keep HB1.out HC.out
   have h6 := keep6 HB1.out H6.out
   have hk := cell_keep HB1.out HK.out
   refine One_odr (by repeat (first | exact Obl.nil | (refine Obl.out rfl ?_) | (refine Obl.in (KW.mk' hc) ?_) | (refine Obl.in (KW.mk' h6) ?_) | (refine Obl.in (KW.mk' hk) ?_))) ?_
   refine wpOdr_two ?_ ?_
   ·simp only [nthOp]
    go_wp2_with (go_at_call 29; refine (parted_is q low high across a kerf _ HLOW.out HHIGH.out (by omega) (by omega) (by omega)).mono ?_; rintro e w2 ⟨⟨nn, rfl⟩, hbn⟩; have HBN := Lib.hid hbn; clear hbn)
    have HB2 := Lib.hid (HB1.out.trans (HBN.out.mono HB1.out.size))
    have Hgx2 := Lib.hid (Hgx1.out.keep HBN.out)
    clear HBN
    clear hc h6 hk
    have hc := cell_keep HB2.out HC.out
    have h6 := keep6 HB2.out H6.out
    have hk := cell_keep HB2.out HK.out
    refine One_odr (by repeat (first | exact Obl.nil | (refine Obl.out rfl ?_) | (refine Obl.in (KW.mk' hc) ?_) | (refine Obl.in (KW.mk' h6) ?_) | (refine Obl.in (KW.mk' hk) ?_))) ?_
    repeat (refine wpOdr_take (by first | exact trivial | exact KW.mk' hc | exact KW.mk' h6 | exact KW.mk' hk) ?_; simp only [nthOp]; (first | go_big_quiet_step (fail) | quiet_step (fail)); refine wpQuiet_nil ?_)
    refine wpOdr_one ?_
    simp only [nthOp]
    go_wp2_with fail
    obtain ⟨gy, hgy⟩ : ∃ g, g = w2.heap.size := ⟨_, rfl⟩
    rw [← hgy]
    have HZgy := Lib.hid (show w0.heap.size ≤ gy by rw [hgy]; exact HB2.out.size)
    have HDgxgy := Lib.hid (show gx < gy by rw [hgy]; exact Hgx2.out.lt)
    refine gen_any (G := fun W' => One _ _ _ _ W') (fun W' => Below w0.heap.size w0 W' ∧ BoxR W' gy ⟨0, 0, 0, 0⟩ ∧ BoxR W' gx ⟨0, 0, 0, 0⟩) ?_ ?_
    ·exact ⟨HB2.out.alloc HB2.out.size _, by rw [hgy]; exact box_new _ _ ⟨0, 0, 0, 0⟩, Hgx2.out.keep ((Below.refl _ _).alloc (Nat.le_refl _) _)⟩
    rintro w3 ⟨hb, hn, hgx⟩
    have HB3 := Lib.hid hb
    have Hgy3 := Lib.hid hn
    have Hgx3 := Lib.hid hgx
    clear hgy hb hn hgx
    clear hc h6 hk
    have hc := cell_keep HB3.out HC.out
    have h6 := keep6 HB3.out H6.out
    have hk := cell_keep HB3.out HK.out
    refine One_odr (by repeat (first | exact Obl.nil | (refine Obl.out rfl ?_) | (refine Obl.in (KW.mk' hc) ?_) | (refine Obl.in (KW.mk' h6) ?_) | (refine Obl.in (KW.mk' hk) ?_))) ?_
    have hdd := HDgxgy.out
    clear hc h6 hk
    obtain ⟨d0, d1, d2, d3, f0, f1, f2, f3⟩ := Hgx3.out
    obtain ⟨e0, e1, e2, e3, g0, g1, g2, g3⟩ := Hgy3.out
    refine wpOdr_one ?_
    simp only [nthOp]
    go_wp2_with fail
    refine One_odr (by repeat (first | exact Obl.nil | (refine Obl.out rfl ?_) | (refine Obl.in (KW.mk' hc) ?_) | (refine Obl.in (KW.mk' h6) ?_) | (refine Obl.in (KW.mk' hk) ?_))) ?_
    refine wpOdr_one ?_
    simp only [nthOp]
    go_wp2_with fail
    refine One_odr (by repeat (first | exact Obl.nil | (refine Obl.out rfl ?_) | (refine Obl.in (KW.mk' hc) ?_) | (refine Obl.in (KW.mk' h6) ?_) | (refine Obl.in (KW.mk' hk) ?_))) (wpOdr_done ?_)
    simp only [List.drop_succ_cons, List.drop_zero]
    go_wp2_with fail
    refine NP_mk ?_
    refine cut_meet (by simp [forget]) (CutR.mk HW0.out rfl rfl ?_ ?_ HZgx.out HZgy.out ?_)
    ·exact ⟨by simp [go_sem, *], by simp [go_sem, *], by simp [go_sem, *], by simp [go_sem, *], by simp [go_sem, *], by simp [go_sem, *], by simp [go_sem, *], by simp [go_sem, *]⟩
    ·exact ⟨by simp [go_sem, *], by simp [go_sem, *], by simp [go_sem, *], by simp [go_sem, *], by simp [go_sem, *], by simp [go_sem, *], by simp [go_sem, *], by simp [go_sem, *]⟩
    ·have hzx := HZgx.out
     have hzy := HZgy.out
     (repeat (first | (with_reducible exact HB3.out) | (with_reducible refine Below.setCell ?_ (by first | (simp; done) | (simp; omega)) _)))
   ·simp only [nthOp]
    go_wp2_with fail
    obtain ⟨gy, hgy⟩ : ∃ g, g = w1.heap.size := ⟨_, rfl⟩
    rw [← hgy]
    have HZgy := Lib.hid (show w0.heap.size ≤ gy by rw [hgy]; exact HB1.out.size)
    have HDgxgy := Lib.hid (show gx < gy by rw [hgy]; exact Hgx1.out.lt)
    refine gen_any (G := fun W' => One _ _ _ _ W') (fun W' => Below w0.heap.size w0 W' ∧ BoxR W' gy ⟨0, 0, 0, 0⟩ ∧ BoxR W' gx ⟨0, 0, 0, 0⟩) ?_ ?_
    ·exact ⟨HB1.out.alloc HB1.out.size _, by rw [hgy]; exact box_new _ _ ⟨0, 0, 0, 0⟩, Hgx1.out.keep ((Below.refl _ _).alloc (Nat.le_refl _) _)⟩
    rintro w2 ⟨hb, hn, hgx⟩
    have HB2 := Lib.hid hb
    have Hgy2 := Lib.hid hn
    have Hgx2 := Lib.hid hgx
    clear hgy hb hn hgx
    clear hc h6 hk
    have hc := cell_keep HB2.out HC.out
    have h6 := keep6 HB2.out H6.out
    have hk := cell_keep HB2.out HK.out
    refine One_odr (by repeat (first | exact Obl.nil | (refine Obl.out rfl ?_) | (refine Obl.in (KW.mk' hc) ?_) | (refine Obl.in (KW.mk' h6) ?_) | (refine Obl.in (KW.mk' hk) ?_))) ?_
    refine wpOdr_one ?_
    simp only [nthOp]
    go_wp2_with (go_at_call 29; refine (parted_is q low high across a kerf _ HLOW.out HHIGH.out (by omega) (by omega) (by omega)).mono ?_; rintro e w3 ⟨⟨nn, rfl⟩, hbn⟩; have HBN := Lib.hid hbn; clear hbn)
    have HB3 := Lib.hid (HB2.out.trans (HBN.out.mono HB2.out.size))
    have Hgx3 := Lib.hid (Hgx2.out.keep HBN.out)
    have Hgy3 := Lib.hid (Hgy2.out.keep HBN.out)
    clear HBN
    clear hc h6 hk
    have hc := cell_keep HB3.out HC.out
    have h6 := keep6 HB3.out H6.out
    have hk := cell_keep HB3.out HK.out
    refine One_odr (by repeat (first | exact Obl.nil | (refine Obl.out rfl ?_) | (refine Obl.in (KW.mk' hc) ?_) | (refine Obl.in (KW.mk' h6) ?_) | (refine Obl.in (KW.mk' hk) ?_))) ?_
    repeat (refine wpOdr_take (by first | exact trivial | exact KW.mk' hc | exact KW.mk' h6 | exact KW.mk' hk) ?_; simp only [nthOp]; (first | go_big_quiet_step (fail) | quiet_step (fail)); refine wpQuiet_nil ?_)
    have hdd := HDgxgy.out
    clear hc h6 hk
    obtain ⟨d0, d1, d2, d3, f0, f1, f2, f3⟩ := Hgx3.out
    obtain ⟨e0, e1, e2, e3, g0, g1, g2, g3⟩ := Hgy3.out
    refine wpOdr_one ?_
    simp only [nthOp]
    go_wp2_with fail
    refine One_odr (by repeat (first | exact Obl.nil | (refine Obl.out rfl ?_) | (refine Obl.in (KW.mk' hc) ?_) | (refine Obl.in (KW.mk' h6) ?_) | (refine Obl.in (KW.mk' hk) ?_))) ?_
    refine wpOdr_one ?_
    simp only [nthOp]
    go_wp2_with fail
    refine One_odr (by repeat (first | exact Obl.nil | (refine Obl.out rfl ?_) | (refine Obl.in (KW.mk' hc) ?_) | (refine Obl.in (KW.mk' h6) ?_) | (refine Obl.in (KW.mk' hk) ?_))) (wpOdr_done ?_)
    simp only [List.drop_succ_cons, List.drop_zero]
    go_wp2_with fail
    refine NP_mk ?_
    refine cut_meet (by simp [forget]) (CutR.mk HW0.out rfl rfl ?_ ?_ HZgx.out HZgy.out ?_)
    ·exact ⟨by simp [go_sem, *], by simp [go_sem, *], by simp [go_sem, *], by simp [go_sem, *], by simp [go_sem, *], by simp [go_sem, *], by simp [go_sem, *], by simp [go_sem, *]⟩
    ·exact ⟨by simp [go_sem, *], by simp [go_sem, *], by simp [go_sem, *], by simp [go_sem, *], by simp [go_sem, *], by simp [go_sem, *], by simp [go_sem, *], by simp [go_sem, *]⟩
    ·have hzx := HZgx.out
     have hzy := HZgy.out
     (repeat (first | (with_reducible exact HB3.out) | (with_reducible refine Below.setCell ?_ (by first | (simp; done) | (simp; omega)) _)))
  ·simp only [nthOp]
   go_wp2_with fail
   obtain ⟨gy, hgy⟩ : ∃ g, g = w0.heap.size := ⟨_, rfl⟩
   rw [← hgy]
   have HZgy := Lib.hid (show w0.heap.size ≤ gy by rw [hgy]; exact HB0.out.size)
   refine gen_any (G := fun W' => One _ _ _ _ W') (fun W' => Below w0.heap.size w0 W' ∧ BoxR W' gy ⟨0, 0, 0, 0⟩) ?_ ?_
   ·exact ⟨HB0.out.alloc HB0.out.size _, by rw [hgy]; exact box_new _ _ ⟨0, 0, 0, 0⟩⟩
   rintro w1 ⟨hb, hn⟩
   have HB1 := Lib.hid hb
   have Hgy1 := Lib.hid hn
   clear hgy hb hn
   clear hc h6 hk
   have hc := cell_keep HB1.out HC.out
   have h6 := keep6 HB1.out H6.out
   have hk := cell_keep HB1.out HK.out
   refine One_odr (by repeat (first | exact Obl.nil | (refine Obl.out rfl ?_) | (refine Obl.in (KW.mk' hc) ?_) | (refine Obl.in (KW.mk' h6) ?_) | (refine Obl.in (KW.mk' hk) ?_))) ?_
   refine wpOdr_two ?_ ?_
   ·simp only [nthOp]
    go_wp2_with (go_at_call 29; refine (parted_is q low high across a kerf _ HLOW.out HHIGH.out (by omega) (by omega) (by omega)).mono ?_; rintro e w2 ⟨⟨nn, rfl⟩, hbn⟩; have HBN := Lib.hid hbn; clear hbn)
    have HB2 := Lib.hid (HB1.out.trans (HBN.out.mono HB1.out.size))
    have Hgy2 := Lib.hid (Hgy1.out.keep HBN.out)
    clear HBN
    clear hc h6 hk
    have hc := cell_keep HB2.out HC.out
    have h6 := keep6 HB2.out H6.out
    have hk := cell_keep HB2.out HK.out
    refine One_odr (by repeat (first | exact Obl.nil | (refine Obl.out rfl ?_) | (refine Obl.in (KW.mk' hc) ?_) | (refine Obl.in (KW.mk' h6) ?_) | (refine Obl.in (KW.mk' hk) ?_))) ?_
    repeat (refine wpOdr_take (by first | exact trivial | exact KW.mk' hc | exact KW.mk' h6 | exact KW.mk' hk) ?_; simp only [nthOp]; (first | go_big_quiet_step (fail) | quiet_step (fail)); refine wpQuiet_nil ?_)
    refine wpOdr_one ?_
    simp only [nthOp]
    go_wp2_with fail
    obtain ⟨gx, hgx⟩ : ∃ g, g = w2.heap.size := ⟨_, rfl⟩
    rw [← hgx]
    have HZgx := Lib.hid (show w0.heap.size ≤ gx by rw [hgx]; exact HB2.out.size)
    have HDgygx := Lib.hid (show gy < gx by rw [hgx]; exact Hgy2.out.lt)
    refine gen_any (G := fun W' => One _ _ _ _ W') (fun W' => Below w0.heap.size w0 W' ∧ BoxR W' gx ⟨0, 0, 0, 0⟩ ∧ BoxR W' gy ⟨0, 0, 0, 0⟩) ?_ ?_
    ·exact ⟨HB2.out.alloc HB2.out.size _, by rw [hgx]; exact box_new _ _ ⟨0, 0, 0, 0⟩, Hgy2.out.keep ((Below.refl _ _).alloc (Nat.le_refl _) _)⟩
    rintro w3 ⟨hb, hn, hgy⟩
    have HB3 := Lib.hid hb
    have Hgx3 := Lib.hid hn
    have Hgy3 := Lib.hid hgy
    clear hgx hb hn hgy
    clear hc h6 hk
    have hc := cell_keep HB3.out HC.out
    have h6 := keep6 HB3.out H6.out
    have hk := cell_keep HB3.out HK.out
    refine One_odr (by repeat (first | exact Obl.nil | (refine Obl.out rfl ?_) | (refine Obl.in (KW.mk' hc) ?_) | (refine Obl.in (KW.mk' h6) ?_) | (refine Obl.in (KW.mk' hk) ?_))) ?_
    have hdd := HDgygx.out
    clear hc h6 hk
    obtain ⟨d0, d1, d2, d3, f0, f1, f2, f3⟩ := Hgx3.out
    obtain ⟨e0, e1, e2, e3, g0, g1, g2, g3⟩ := Hgy3.out
    refine wpOdr_one ?_
    simp only [nthOp]
    go_wp2_with fail
    refine One_odr (by repeat (first | exact Obl.nil | (refine Obl.out rfl ?_) | (refine Obl.in (KW.mk' hc) ?_) | (refine Obl.in (KW.mk' h6) ?_) | (refine Obl.in (KW.mk' hk) ?_))) ?_
    refine wpOdr_one ?_
    simp only [nthOp]
    go_wp2_with fail
    refine One_odr (by repeat (first | exact Obl.nil | (refine Obl.out rfl ?_) | (refine Obl.in (KW.mk' hc) ?_) | (refine Obl.in (KW.mk' h6) ?_) | (refine Obl.in (KW.mk' hk) ?_))) (wpOdr_done ?_)
    simp only [List.drop_succ_cons, List.drop_zero]
    go_wp2_with fail
    refine NP_mk ?_
    refine cut_meet (by simp [forget]) (CutR.mk HW0.out rfl rfl ?_ ?_ HZgx.out HZgy.out ?_)
    ·exact ⟨by simp [go_sem, *], by simp [go_sem, *], by simp [go_sem, *], by simp [go_sem, *], by simp [go_sem, *], by simp [go_sem, *], by simp [go_sem, *], by simp [go_sem, *]⟩
    ·exact ⟨by simp [go_sem, *], by simp [go_sem, *], by simp [go_sem, *], by simp [go_sem, *], by simp [go_sem, *], by simp [go_sem, *], by simp [go_sem, *], by simp [go_sem, *]⟩
    ·have hzx := HZgx.out
     have hzy := HZgy.out
     (repeat (first | (with_reducible exact HB3.out) | (with_reducible refine Below.setCell ?_ (by first | (simp; done) | (simp; omega)) _)))
   ·simp only [nthOp]
    go_wp2_with fail
    obtain ⟨gx, hgx⟩ : ∃ g, g = w1.heap.size := ⟨_, rfl⟩
    rw [← hgx]
    have HZgx := Lib.hid (show w0.heap.size ≤ gx by rw [hgx]; exact HB1.out.size)
    have HDgygx := Lib.hid (show gy < gx by rw [hgx]; exact Hgy1.out.lt)
    refine gen_any (G := fun W' => One _ _ _ _ W') (fun W' => Below w0.heap.size w0 W' ∧ BoxR W' gx ⟨0, 0, 0, 0⟩ ∧ BoxR W' gy ⟨0, 0, 0, 0⟩) ?_ ?_
    ·exact ⟨HB1.out.alloc HB1.out.size _, by rw [hgx]; exact box_new _ _ ⟨0, 0, 0, 0⟩, Hgy1.out.keep ((Below.refl _ _).alloc (Nat.le_refl _) _)⟩
    rintro w2 ⟨hb, hn, hgy⟩
    have HB2 := Lib.hid hb
    have Hgx2 := Lib.hid hn
    have Hgy2 := Lib.hid hgy
    clear hgx hb hn hgy
    clear hc h6 hk
    have hc := cell_keep HB2.out HC.out
    have h6 := keep6 HB2.out H6.out
    have hk := cell_keep HB2.out HK.out
    refine One_odr (by repeat (first | exact Obl.nil | (refine Obl.out rfl ?_) | (refine Obl.in (KW.mk' hc) ?_) | (refine Obl.in (KW.mk' h6) ?_) | (refine Obl.in (KW.mk' hk) ?_))) ?_
    refine wpOdr_one ?_
    simp only [nthOp]
    go_wp2_with (go_at_call 29; refine (parted_is q low high across a kerf _ HLOW.out HHIGH.out (by omega) (by omega) (by omega)).mono ?_; rintro e w3 ⟨⟨nn, rfl⟩, hbn⟩; have HBN := Lib.hid hbn; clear hbn)
    have HB3 := Lib.hid (HB2.out.trans (HBN.out.mono HB2.out.size))
    have Hgy3 := Lib.hid (Hgy2.out.keep HBN.out)
    have Hgx3 := Lib.hid (Hgx2.out.keep HBN.out)
    clear HBN
    clear hc h6 hk
    have hc := cell_keep HB3.out HC.out
    have h6 := keep6 HB3.out H6.out
    have hk := cell_keep HB3.out HK.out
    refine One_odr (by repeat (first | exact Obl.nil | (refine Obl.out rfl ?_) | (refine Obl.in (KW.mk' hc) ?_) | (refine Obl.in (KW.mk' h6) ?_) | (refine Obl.in (KW.mk' hk) ?_))) ?_
    repeat (refine wpOdr_take (by first | exact trivial | exact KW.mk' hc | exact KW.mk' h6 | exact KW.mk' hk) ?_; simp only [nthOp]; (first | go_big_quiet_step (fail) | quiet_step (fail)); refine wpQuiet_nil ?_)
    have hdd := HDgygx.out
    clear hc h6 hk
    obtain ⟨d0, d1, d2, d3, f0, f1, f2, f3⟩ := Hgx3.out
    obtain ⟨e0, e1, e2, e3, g0, g1, g2, g3⟩ := Hgy3.out
    refine wpOdr_one ?_
    simp only [nthOp]
    go_wp2_with fail
    refine One_odr (by repeat (first | exact Obl.nil | (refine Obl.out rfl ?_) | (refine Obl.in (KW.mk' hc) ?_) | (refine Obl.in (KW.mk' h6) ?_) | (refine Obl.in (KW.mk' hk) ?_))) ?_
    refine wpOdr_one ?_
    simp only [nthOp]
    go_wp2_with fail
    refine One_odr (by repeat (first | exact Obl.nil | (refine Obl.out rfl ?_) | (refine Obl.in (KW.mk' hc) ?_) | (refine Obl.in (KW.mk' h6) ?_) | (refine Obl.in (KW.mk' hk) ?_))) (wpOdr_done ?_)
    simp only [List.drop_succ_cons, List.drop_zero]
    go_wp2_with fail
    refine NP_mk ?_
    refine cut_meet (by simp [forget]) (CutR.mk HW0.out rfl rfl ?_ ?_ HZgx.out HZgy.out ?_)
    ·exact ⟨by simp [go_sem, *], by simp [go_sem, *], by simp [go_sem, *], by simp [go_sem, *], by simp [go_sem, *], by simp [go_sem, *], by simp [go_sem, *], by simp [go_sem, *]⟩
    ·exact ⟨by simp [go_sem, *], by simp [go_sem, *], by simp [go_sem, *], by simp [go_sem, *], by simp [go_sem, *], by simp [go_sem, *], by simp [go_sem, *], by simp [go_sem, *]⟩
    ·have hzx := HZgx.out
     have hzy := HZgy.out
     (repeat (first | (with_reducible exact HB3.out) | (with_reducible refine Below.setCell ?_ (by first | (simp; done) | (simp; omega)) _)))
 ·rintro u W2 ⟨gx, gy, ux, uy, hbx, hby, hgx, hgy, hb2⟩
  have hD2 := HDD.out.more (St' := fun a v => newSt gx (cellsR low) a v ∨ newSt gy (cellsR high) a v) hb2 (fun a v h => by
   rcases h with h | h
   ·exact ⟨by obtain ⟨j, rfl, _⟩ := h; rfl, by obtain ⟨j, rfl, _⟩ := h; exact hgx, box_st hbx a v h⟩
   ·exact ⟨by obtain ⟨j, rfl, _⟩ := h; rfl, by obtain ⟨j, rfl, _⟩ := h; exact hgy, box_st hby a v h⟩)
  have hbb : Below base w W2 := hb2.mono hsz.1
  clear HDD hD hbx hby hb2 k1 e0 e1 e2 e3
  simp only [forget, List.foldl_cons, List.foldl_nil]
  simp only [ux, uy]
  go_wp2_with fail
  refine wp_cut_slots [8, 9, 32, 33, 34, 35, 36, 37] (CutS 8 9 s.cuts.length base w (setB L i ⟨x, 11, none⟩ ⟨x, 12, none⟩ ⟨s.cuts ++ [wasteC, wasteC], s.rects ++ [low, high]⟩) St) ?_ ?_
  ·have kx : ∀ y : KW (fun W => (W.cell? ⟨gx, 0, none⟩ = some (.int .i64 low.x1) ∧ W.cell? ⟨gx, 1, none⟩ = some (.int .i64 low.y1)) ∧ W.cell? ⟨gx, 2, none⟩ = some (.int .i64 low.x2) ∧ W.cell? ⟨gx, 3, none⟩ = some (.int .i64 low.y2)), (y.w.cell? ⟨gx, 0, none⟩ = some (.int .i64 low.x1) ∧ y.w.cell? ⟨gx, 1, none⟩ = some (.int .i64 low.y1)) ∧ y.w.cell? ⟨gx, 2, none⟩ = some (.int .i64 low.x2) ∧ y.w.cell? ⟨gx, 3, none⟩ = some (.int .i64 low.y2) := fun y => y.ok
   have ky : ∀ y : KW (fun W => (W.cell? ⟨gy, 0, none⟩ = some (.int .i64 high.x1) ∧ W.cell? ⟨gy, 1, none⟩ = some (.int .i64 high.y1)) ∧ W.cell? ⟨gy, 2, none⟩ = some (.int .i64 high.x2) ∧ W.cell? ⟨gy, 3, none⟩ = some (.int .i64 high.y2)), (y.w.cell? ⟨gy, 0, none⟩ = some (.int .i64 high.x1) ∧ y.w.cell? ⟨gy, 1, none⟩ = some (.int .i64 high.y1)) ∧ y.w.cell? ⟨gy, 2, none⟩ = some (.int .i64 high.x2) ∧ y.w.cell? ⟨gy, 3, none⟩ = some (.int .i64 high.y2) := fun y => y.ok
   have hX4 := desk_box (r := low) (g := gx) hD2 (fun a v h => .inr (.inl h))
   have hY4 := desk_box (r := high) (g := gy) hD2 (fun a v h => .inr (.inr h))
   have hX : (W2.drew.cell? ⟨gx, 0, none⟩ = some (.int .i64 low.x1) ∧ W2.drew.cell? ⟨gx, 1, none⟩ = some (.int .i64 low.y1)) ∧ W2.drew.cell? ⟨gx, 2, none⟩ = some (.int .i64 low.x2) ∧ W2.drew.cell? ⟨gx, 3, none⟩ = some (.int .i64 low.y2) := ⟨⟨hX4.c0, hX4.c1⟩, hX4.c2, hX4.c3⟩
   have hY : (W2.drew.cell? ⟨gy, 0, none⟩ = some (.int .i64 high.x1) ∧ W2.drew.cell? ⟨gy, 1, none⟩ = some (.int .i64 high.y1)) ∧ W2.drew.cell? ⟨gy, 2, none⟩ = some (.int .i64 high.x2) ∧ W2.drew.cell? ⟨gy, 3, none⟩ = some (.int .i64 high.y2) := ⟨⟨hY4.c0, hY4.c1⟩, hY4.c2, hY4.c3⟩
   haveI m1 : Nonempty (KW (fun W => (W.cell? ⟨gx, 0, none⟩ = some (.int .i64 low.x1) ∧ W.cell? ⟨gx, 1, none⟩ = some (.int .i64 low.y1)) ∧ W.cell? ⟨gx, 2, none⟩ = some (.int .i64 low.x2) ∧ W.cell? ⟨gx, 3, none⟩ = some (.int .i64 low.y2))) := ⟨⟨_, hX⟩⟩
   haveI m2 : Nonempty (KW (fun W => (W.cell? ⟨gy, 0, none⟩ = some (.int .i64 high.x1) ∧ W.cell? ⟨gy, 1, none⟩ = some (.int .i64 high.y1)) ∧ W.cell? ⟨gy, 2, none⟩ = some (.int .i64 high.x2) ∧ W.cell? ⟨gy, 3, none⟩ = some (.int .i64 high.y2))) := ⟨⟨_, hY⟩⟩
   clear hX4 hY4
   refine wp_region_odr [(1, fun w' => ∃ y : KW (fun W => (W.cell? ⟨gx, 0, none⟩ = some (.int .i64 low.x1) ∧ W.cell? ⟨gx, 1, none⟩ = some (.int .i64 low.y1)) ∧ W.cell? ⟨gx, 2, none⟩ = some (.int .i64 low.x2) ∧ W.cell? ⟨gx, 3, none⟩ = some (.int .i64 low.y2)), w' = y.w), (4, fun w' => ∃ y : KW (fun W => (W.cell? ⟨gy, 0, none⟩ = some (.int .i64 high.x1) ∧ W.cell? ⟨gy, 1, none⟩ = some (.int .i64 high.y1)) ∧ W.cell? ⟨gy, 2, none⟩ = some (.int .i64 high.x2) ∧ W.cell? ⟨gy, 3, none⟩ = some (.int .i64 high.y2)), w' = y.w)] [1, 4] 5 (.take 0 (.take 1 (.take 3 (.take 4 (.one 2 [4] .done))))) rfl (by kernel_rfl) (by kernel_rfl) ?_
   have HD3 := Lib.hid (hD2.keep (w' := W2.drew) (Below.refl _ _).drew)
   have HB3 := Lib.hid hbb.drew
   clear hD2 hbb
   generalize W2.drew = w3 at *
   repeat (refine wpOdr_take (by first | exact trivial | exact KW.mk' hX | exact KW.mk' hY) ?_; simp only [nthOp]; (first | go_big_quiet_step (fail) | quiet_step (fail)); refine wpQuiet_nil ?_)
   refine wpOdr_one ?_
   simp only [nthOp]
   go_wp2_with (go_at_call 74; refine (add_any x base L i s _ low _ HD3.out hA (by omega) hl2).mono ?_; rintro e w4 ⟨rfl, hD4, hb4⟩; have HD4 := Lib.hid hD4; have HB4 := Lib.hid (HB3.out.trans hb4); clear hD4 hb4)
   clear hX hY
   have hY4 := desk_box (r := high) (g := gy) HD4.out (fun a v h => .inr (.inr h))
   have hY : (w4.cell? ⟨gy, 0, none⟩ = some (.int .i64 high.x1) ∧ w4.cell? ⟨gy, 1, none⟩ = some (.int .i64 high.y1)) ∧ w4.cell? ⟨gy, 2, none⟩ = some (.int .i64 high.x2) ∧ w4.cell? ⟨gy, 3, none⟩ = some (.int .i64 high.y2) := ⟨⟨hY4.c0, hY4.c1⟩, hY4.c2, hY4.c3⟩
   clear hY4
   refine One_odr (Obl.out rfl (Obl.in (KW.mk' hY) Obl.nil)) (wpOdr_done ?_)
   simp only [List.drop_succ_cons, List.drop_zero]
   go_wp2_with (go_at_call 74; refine (add_any x base _ i ⟨s.cuts ++ [wasteC], s.rects ++ [low]⟩ _ high _ HD4.out (hA.set _) (by simp; omega) (by simp [hl2])).mono ?_; rintro e w5 ⟨rfl, hD5, hb5⟩; have HD5 := Lib.hid hD5; have HB5 := Lib.hid (HB4.out.trans hb5); clear hD5 hb5)
   refine NP_mk ?_
   refine cut_meet (by simp [forget]) (CutS.mk rfl (by simp) ?_ HB5.out)
   have hd := HD5.out.weak (St' := St) (fun a v h => .inl h)
   rw [setB_setB] at hd
   simpa using hd
  ·rintro u W5 ⟨u8, u9, hD5, hb5⟩
   have HD5 := Lib.hid hD5
   have hAS := hA.set ⟨s.cuts ++ [wasteC, wasteC], s.rects ++ [low, high]⟩
   obtain ⟨g, cap, k1, k2, k3, k4, k5, k6, k7⟩ := hD5.rowC hAS (by simp)
   have hr5 : region < (s.cuts ++ [wasteC, wasteC]).length := by simp; omega
   have e0 := k7 region hr5 0 (by decide)
   have e1 := k7 region hr5 1 (by decide)
   have e2 := k7 region hr5 2 (by decide)
   have e3 := k7 region hr5 3 (by decide)
   have e4 := k7 region hr5 4 (by decide)
   generalize (s.cuts ++ [wasteC, wasteC])[region] = cc at e0 e1 e2 e3 e4
   simp only [cellsC, List.getElem?_cons_zero, List.getElem?_cons_succ, Nat.add_zero] at e0 e1 e2 e3 e4
   obtain ⟨e0, f0⟩ := e0
   obtain ⟨e1, f1⟩ := e1
   obtain ⟨e2, f2⟩ := e2
   obtain ⟨e3, f3⟩ := e3
   obtain ⟨e4, f4⟩ := e4
   have HS := Lib.hid (Desk.setCut HD5.out hAS hr5 k1 ⟨across, a, s.cuts.length, s.cuts.length + 1, 0⟩)
   have HB := Lib.hid hb5
   have HG := Lib.hid k3
   have hlen : (s.cuts ++ [wasteC, wasteC]).length = s.cuts.length + 2 := by simp
   rw [hlen] at k1
   have hri : (region : Int) < ((s.cuts.length : Int) + 2) := by omega
   clear k7 hD5 hD2 HD5 k2 k3 k4 k5 k6 hb5 hlen hr5
   simp only [forget, List.foldl_cons, List.foldl_nil]
   simp only [u8, u9]
   go_wp2_with fail
   go_ret2
   refine ⟨rfl, ?_, ?_⟩
   ·have hs := HS.out
    rw [setB_setB] at hs
    rw [HCUT.out]
    exact hs
   ·have hg := HG.out
    exact ((((HB.out.setCell (by simpa using hg) _).setCell (by simpa using hg) _).setCell (by simpa using hg) _).setCell (by simpa using hg) _).setCell (by simpa using hg) _
end Go.Proofs.YtjmgboipbhddlaaGreatDoor
