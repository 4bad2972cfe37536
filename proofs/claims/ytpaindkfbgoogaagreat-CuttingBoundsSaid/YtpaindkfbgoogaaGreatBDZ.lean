/- The sound area of a board, of the document. -/
import Derived.Test.YtpaindkfbgoogaaGreatBDY
set_option linter.unusedVariables false
set_option linter.unusedSimpArgs false
namespace Go.Proofs.YtpaindkfbgoogaaGreat
open Go Go.RowKit Go.Sort Go.Lib

theorem partsR_yes {ds : List Rect} {r : Rect} {k : Nat} (hk : k < ds.length) (h : overlapsB ds[k] r = true) : partsR (ds.take (k + 1)) r = partsR (ds.take k) r ++ [shiftR r ds[k]] := by
  unfold partsR
  rw [List.take_succ_eq_append_getElem hk, List.filter_append, List.map_append]
  congr 1
  rw [List.filter_cons, if_pos h]
  rfl
theorem partsR_no {ds : List Rect} {r : Rect} {k : Nat} (hk : k < ds.length) (h : overlapsB ds[k] r = false) : partsR (ds.take (k + 1)) r = partsR (ds.take k) r := by
  unfold partsR
  rw [List.take_succ_eq_append_getElem hk, List.filter_append, List.filter_cons, if_neg (by simp [h]), List.filter_nil, List.append_nil]
theorem partsR_len {ds : List Rect} {r : Rect} : (partsR ds r).length ≤ ds.length := by
  unfold partsR
  rw [List.length_map]
  exact List.length_filter_le _ _
theorem usable_form (b : Board) (t : Trim) : usableR b t = zeroR ∨ ((usableR b t).x1 < (usableR b t).x2 ∧ (usableR b t).y1 < (usableR b t).y2) := whole_real _
theorem covA_zero (ds : List Rect) : covA ds zeroR = 0 ∧ areaR zeroR = 0 := by
  constructor
  · unfold covA zeroR; exact sumR_self _ _
  · unfold areaR zeroR; simp
def partB (L Wd : Int) (ds : List Rect) : Board := ⟨⟨#[]⟩, ⟨#[]⟩, L, Wd, 0, 0, 0, ds⟩
/-- The part of a board, under way. -/
structure PartSt (N : Nat) (w0 w : World) (g6 : Nat) (L Wd : Int) (v : Value) (ps : List Rect) : Prop where
  c0 : w.cell? ⟨g6, 0, none⟩ = some (.string ⟨#[]⟩)
  c1 : w.cell? ⟨g6, 1, none⟩ = some (.string ⟨#[]⟩)
  c2 : w.cell? ⟨g6, 2, none⟩ = some (.int .i64 L)
  c3 : w.cell? ⟨g6, 3, none⟩ = some (.int .i64 Wd)
  c4 : w.cell? ⟨g6, 4, none⟩ = some (.int .i64 0)
  c5 : w.cell? ⟨g6, 5, none⟩ = some (.int .i64 0)
  c6 : w.cell? ⟨g6, 6, none⟩ = some (.int .i64 0)
  c7 : w.cell? ⟨g6, 7, none⟩ = some v
  f7 : w.frozen? ⟨g6, 7, none⟩ = false
  o : w.ownsRow N 57 4 v ps.length (ps.flatMap cellsR)
  ne : v.ownBlock ≠ some g6
  b : Below N w0 w
  n : N ≤ w.heap.size
  gl : N ≤ g6
theorem PartSt.lt {N : Nat} {w0 w : World} {g6 : Nat} {L Wd : Int} {v : Value} {ps : List Rect} (h : PartSt N w0 w g6 L Wd v ps) : g6 < w.heap.size := by have := block_lt_of_cell h.c0; simpa using this
theorem PartSt.keep {N : Nat} {w0 w w' : World} {g6 : Nat} {L Wd : Int} {v : Value} {ps : List Rect} (h : PartSt N w0 w g6 L Wd v ps) (hb : Below w.heap.size w w') : PartSt N w0 w' g6 L Wd v ps :=
  ⟨cell_keep hb h.c0, cell_keep hb h.c1, cell_keep hb h.c2, cell_keep hb h.c3, cell_keep hb h.c4, cell_keep hb h.c5, cell_keep hb h.c6, cell_keep hb h.c7, frozen_keep hb h.lt h.f7, own_keep h.o hb, h.ne, h.b.trans (hb.mono h.n), Nat.le_trans h.n hb.size, h.gl⟩
theorem grown_frozen8 {W W' : World} {row : Option Nat} (h : W.grownBy W' row) {a : Addr} {u : Value} (hc : W.cell? a = some u) (hr : row ≠ some a.block) : W'.frozen? a = W.frozen? a := by
  have := h.block a.block (block_lt_of_cell hc) (fun e => hr e.symm)
  unfold World.frozen?
  rw [this]
theorem PartSt.put {N : Nat} {w0 w w' : World} {g6 : Nat} {L Wd : Int} {v v' : Value} {ps ps' : List Rect} (h : PartSt N w0 w g6 L Wd v ps) (ho : w'.ownsRow N 57 4 v' ps'.length (ps'.flatMap cellsR)) (hg : w.grownBy w' v.ownBlock) (hv : v'.ownBlock = v.ownBlock ∨ v'.ownBlock = some w.heap.size) :
    PartSt N w0 (w'.setCell ⟨g6, 7, none⟩ v') g6 L Wd v' ps' := by
  have k : ∀ {i : Nat} {u : Value}, i ≠ 7 → w.cell? ⟨g6, i, none⟩ = some u → (w'.setCell ⟨g6, 7, none⟩ v').cell? ⟨g6, i, none⟩ = some u := fun {i u} hi hc =>
    (set_cell (covcell hg hc h.ne)).trans (by simp [hi.symm])
  have hne : v'.ownBlock ≠ some g6 := fun e => by
    rcases hv with hv | hv
    · rw [hv] at e; exact h.ne e
    · rw [hv] at e; injection e with e; have := h.lt; omega
  refine ⟨k (by decide) h.c0, k (by decide) h.c1, k (by decide) h.c2, k (by decide) h.c3, k (by decide) h.c4, k (by decide) h.c5, k (by decide) h.c6, (set_cell (covcell hg h.c7 h.ne)).trans (by simp), ?_, ?_, hne, ?_, ?_, h.gl⟩
  · rw [frozen_set]; exact (grown_frozen8 hg h.c7 h.ne).trans h.f7
  · exact ho.kept (row := some g6) (grownBy_set (a := ⟨g6, 7, none⟩)) (.inr hne)
  · exact (covgrown h.b hg h.n fun k hk => own_base h.o hk).setCell h.gl _
  · have := hg.size; simp; have := h.n; omega
set_option maxRecDepth 100000 in
set_option maxHeartbeats 16000000 in
theorem soundArea_any (b : Board) (t : Trim) (a : Option Addr) (c : Nat) (w : World) (hv : Rects.V w a b.defects) (hl : b.defects.length ≤ 60) (hds : ∀ d ∈ b.defects, (0 ≤ d.x1 ∧ d.x1 < d.x2 ∧ d.x2 ≤ 600000) ∧ (0 ≤ d.y1 ∧ d.y1 < d.y2 ∧ d.y2 ≤ 600000))
    (hb : 0 ≤ b.length ∧ b.length ≤ 600000 ∧ 0 ≤ b.width ∧ b.width ≤ 600000) (ht : 0 ≤ t.ends ∧ t.ends ≤ 10000 ∧ 0 ≤ t.sides ∧ t.sides ≤ 10000) (hr : (0 ≤ (usableR b t).x1 ∧ (usableR b t).x1 ≤ (usableR b t).x2 ∧ (usableR b t).x2 ≤ 600000) ∧ (0 ≤ (usableR b t).y1 ∧ (usableR b t).y1 ≤ (usableR b t).y2 ∧ (usableR b t).y2 ≤ 100000)) :
    Calls Tryz.prog 37 #[.agg #[.string b.name, .string b.species, .int .i64 b.length, .int .i64 b.width, .int .i64 b.thick, .int .i64 b.cut, .int .i64 b.moisture, .slice a b.defects.length c], .agg #[.int .i64 t.kerf, .int .i64 t.ends, .int .i64 t.sides]] w fun e w' => e = .returned (.int .i64 (soundAr b t)) ∧ Below w.heap.size w w' := by
  have hmix : Tryz.prog.follows .mixedOrders = true := by kernel_rfl
  obtain ⟨i0, hi0, hz0, hz1, hz2⟩ := info_parts rect_info
  have HV := Lib.hid hv
  have HDS := Lib.hid hds
  have HUF := Lib.hid (usable_form b t)
  obtain ⟨r, hrr⟩ : ∃ r, usableR b t = r := ⟨_, rfl⟩
  have HUS := Lib.hid (fun w9 => refUsable_is b t r a c w9 hrr hb ht)
  have HSD := Lib.hid (show soundAr b t = areaR r - covA b.defects r by unfold soundAr; rw [hrr])
  rw [hrr] at hr HUF
  obtain ⟨SA, hSA⟩ : ∃ S, soundAr b t = S := ⟨_, rfl⟩
  rw [hSA] at HSD ⊢
  have HRG := Lib.hid hr
  clear hv hds hrr hSA hr hb ht
  go_enter Tryz.func37, Tryz.ntmps37
  go_upto_region 1 with fail
  refine gen_world (fun W => CellsBd W w.heap.size 0 b a c ∧ (W.cell? ⟨w.heap.size + 1, 0, none⟩ = some (.int .i64 t.kerf) ∧ W.cell? ⟨w.heap.size + 1, 1, none⟩ = some (.int .i64 t.ends) ∧ W.cell? ⟨w.heap.size + 1, 2, none⟩ = some (.int .i64 t.sides)) ∧ Below w.heap.size w W) ⟨⟨by simp [go_sem], by simp [go_sem], by simp [go_sem], by simp [go_sem], by simp [go_sem], by simp [go_sem], by simp [go_sem], by simp [go_sem]⟩, ⟨by simp [go_sem], by simp [go_sem], by simp [go_sem]⟩, by repeat (first | (with_reducible assumption) | exact Below.refl _ _ | (refine Below.setCell ?_ (by first | omega | (simp; omega) | (simp; done)) _) | (refine Below.alloc ?_ (by first | omega | (simp; omega) | (simp; done)) _) | (refine Below.drew ?_))⟩ ?_
  rintro W ⟨⟨d0, d1, d2, d3, d4, d5, d6, d7⟩, ⟨t0, t1, t2⟩, hbW⟩
  simp only [Nat.zero_add] at d0 d1 d2 d3 d4 d5 d6 d7
  obtain ⟨gb, hgb⟩ : ∃ g, g = w.heap.size := ⟨_, rfl⟩
  obtain ⟨gt, hgt⟩ : ∃ g, g = w.heap.size + 1 := ⟨_, rfl⟩
  have HBW := Lib.hid hbW
  rw [← hgt] at t0 t1 t2 ⊢
  rw [← hgb] at d0 d1 d2 d3 d4 d5 d6 d7 ⊢
  have HD7 := Lib.hid d7
  clear hbW hgb hgt
  go_upto_region 2 with (go_at_call 67; refine (HUS.out _).mono ?_; rintro e w1 ⟨rfl, hb1⟩; have HB1 := Lib.hid (HBW.out.trans (hb1.mono HBW.out.size)); have HD71 := Lib.hid (cell_keep hb1 HD7.out); clear hb1)
  refine gen_world (fun W2 => RectC W2 w1.heap.size r ∧ Below w1.heap.size w1 W2) ⟨⟨by simp [go_sem], by simp [go_sem], by simp [go_sem], by simp [go_sem]⟩, by repeat (first | (with_reducible assumption) | exact Below.refl _ _ | (refine Below.setCell ?_ (by first | omega | (simp; omega) | (simp; done)) _) | (refine Below.alloc ?_ (by first | omega | (simp; omega) | (simp; done)) _) | (refine Below.drew ?_))⟩ ?_
  rintro W2 ⟨hrc, hb2⟩
  have HRC := Lib.hid hrc
  have HB2 := Lib.hid (HB1.out.trans (hb2.mono HB1.out.size))
  have HD72 := Lib.hid (cell_keep hb2 HD71.out)
  obtain ⟨g5, hg5⟩ : ∃ g, g = w1.heap.size := ⟨_, rfl⟩
  rw [← hg5] at HRC hrc ⊢
  clear hb2 hg5 d0 d1 d2 d3 d4 d5 d6 d7 t0 t1 t2 HD7 HD71 HB1
  obtain ⟨r0, r1, r2, r3⟩ := hrc
  by_cases hre : r.x2 ≤ r.x1 ∨ r.y2 ≤ r.y1
  · have HRE := Lib.hid (show rectErr r = 3 by unfold rectErr; rw [if_pos hre])
    have HZ := Lib.hid (show SA = 0 by
      rcases HUF.out with h | h
      · rw [HSD.out, h, (covA_zero b.defects).1, (covA_zero b.defects).2]; rfl
      · omega)
    go_wp2_with (go_at_call 62; refine (rectErr_any r _).mono ?_; rw [HRE.out]; rintro e w3 ⟨rfl, hb3⟩; have HB3 := Lib.hid (HB2.out.trans (hb3.mono HB2.out.size)); clear hb3)
    go_ret
    exact ⟨by rw [HZ.out]; rfl, HB3.out⟩
  have HRE := Lib.hid (show rectErr r = 0 by unfold rectErr; rw [if_neg hre])
  have hrng := HRG.out
  have v1 : IntKind.i64.wrap (r.x2 - r.x1) = r.x2 - r.x1 := IntWalk.i64_in _ (by omega)
  have v2 : IntKind.i64.wrap (r.y2 - r.y1) = r.y2 - r.y1 := IntWalk.i64_in _ (by omega)
  go_upto_region 5 with (go_at_call 62; refine (rectErr_any r _).mono ?_; rw [HRE.out]; rintro e w3 ⟨rfl, hb3⟩; have HB3 := Lib.hid (HB2.out.trans (hb3.mono HB2.out.size)); have r0 := cell_keep hb3 r0; have r1 := cell_keep hb3 r1; have r2 := cell_keep hb3 r2; have r3 := cell_keep hb3 r3; have HRC3 := Lib.hid (HRC.out.keep hb3); have HD73 := Lib.hid (cell_keep hb3 HD72.out); clear hb3)
  refine gen_world (fun W4 => PartSt w3.heap.size w3 W4 w3.heap.size (r.x2 - r.x1) (r.y2 - r.y1) (.slice none 0 0) []) ⟨by simp [go_sem], by simp [go_sem], by simp [go_sem], by simp [go_sem], by simp [go_sem], by simp [go_sem], by simp [go_sem], by simp [go_sem], by simp [go_sem], World.ownsRow_nil _ _ _ _, (fun e => by cases e), by repeat (first | (with_reducible assumption) | exact Below.refl _ _ | (refine Below.setCell ?_ (by first | omega | (simp; omega) | (simp; done)) _) | (refine Below.alloc ?_ (by first | omega | (simp; omega) | (simp; done)) _) | (refine Below.drew ?_)), by simp, Nat.le_refl _⟩ ?_
  rintro W4 hps
  have HPS := Lib.hid hps
  have HGZ := Lib.hid (show g5 < w3.heap.size from by have := block_lt_of_cell r0; simpa using this)
  obtain ⟨g6, hg6⟩ : ∃ g, g = w3.heap.size := ⟨_, rfl⟩
  rw [← hg6] at HGZ ⊢
  have HPS := Lib.hid (show PartSt g6 w3 W4 g6 (r.x2 - r.x1) (r.y2 - r.y1) (.slice none 0 0) [] from by rw [← hg6] at hps; exact hps)
  have HG6 := Lib.hid (show g6 = w3.heap.size from hg6)
  have HB34 := Lib.hid (show Below w3.heap.size w3 w3 from Below.refl _ _)
  have HRC6 := Lib.hid HRC3.out
  have HV3 := Lib.hid (HV.out.keep HB3.out)
  have hgb : gb < g6 := by rw [hg6]; have := block_lt_of_cell HD73.out; simpa using this
  clear hps hg6 r0 r1 r2 r3 HRC HD72 HB2
  have HOLD := Lib.hid (fun (w' : World) (h : Below g6 w3 w') => show RectC w' g5 r ∧ w'.cell? ⟨gb, 7, none⟩ = some (.slice a b.defects.length c) ∧ Rects.V w' a b.defects from by
    rw [HG6.out] at h
    exact ⟨HRC3.out.keep h, cell_keep h HD73.out, HV3.out.keep h⟩)
  go_wp2_with fail
  go_loopw [7] (fun iv wr => ∃ (k : Nat) (v : Value), k ≤ b.defects.length ∧ iv = .int .i64 k ∧ Hid (PartSt g6 w3 wr g6 (r.x2 - r.x1) (r.y2 - r.y1) v (partsR (b.defects.take k) r))) (fun iv _ => b.defects.length - (intOf iv).toNat)
  case atStart => exact ⟨0, _, Nat.zero_le _, rfl, HPS⟩
  case round =>
    obtain ⟨k, v, hk, rfl, HP⟩ := hrel
    obtain ⟨wo, rfl⟩ : ∃ wo : World, wo = wr := ⟨_, rfl⟩
    obtain ⟨av, cv, rfl, -, -⟩ := own_slice HP.out.o
    obtain ⟨⟨r0, r1, r2, r3⟩, d7, hvo⟩ := HOLD.out _ HP.out.b
    by_cases hlt : k < b.defects.length
    · have hki : (k : Int) < (b.defects.length : Int) := by omega
      obtain ⟨lb, lo, rfl, s0, s1, s2, s3⟩ := hvo.at_ hlt
      have HYS := Lib.hid (fun h => partsR_yes (r := r) hlt h)
      have HNO := Lib.hid (fun h => partsR_no (r := r) hlt h)
      have hds := HDS.out _ (List.getElem_mem hlt)
      have hpl : (partsR (b.defects.take k) r).length ≤ 60 := Nat.le_trans partsR_len (by have := List.length_take_le' k b.defects; omega)
      obtain ⟨P, hP⟩ : ∃ P, P = partsR (b.defects.take k) r := ⟨_, rfl⟩
      rw [← hP] at HP HYS HNO hpl
      clear hP
      generalize b.defects[k] = d at *
      go_upto_region 9 with fail
      refine gen_world (fun W1 => RectC W1 wo.heap.size d ∧ Below wo.heap.size wo W1) ⟨⟨by simp [go_sem], by simp [go_sem], by simp [go_sem], by simp [go_sem]⟩, by repeat (first | (with_reducible assumption) | exact Below.refl _ _ | (refine Below.setCell ?_ (by first | omega | (simp; omega) | (simp; done)) _) | (refine Below.alloc ?_ (by first | omega | (simp; omega) | (simp; done)) _) | (refine Below.drew ?_))⟩ ?_
      rintro W1 ⟨⟨x0, x1, x2, x3⟩, hb1⟩
      have HP1 := Lib.hid (HP.out.keep hb1)
      obtain ⟨⟨r0, r1, r2, r3⟩, -, -⟩ := HOLD.out _ HP1.out.b
      obtain ⟨g8, hg8⟩ : ∃ g, g = wo.heap.size := ⟨_, rfl⟩
      rw [← hg8] at x0 x1 x2 x3 ⊢
      clear s0 s1 s2 s3 hb1 hg8 d7 hvo
      have HOV := Lib.hid (fun w9 => refOverlaps_any d r w9)
      cases hov : overlapsB d r
      · have HS2 := Lib.hid (HNO.out hov)
        rw [hov] at HOV
        go_wp2_with (go_at_call 68; refine (HOV.out _).mono ?_; rintro e w5 ⟨rfl, hb5⟩; have HP5 := Lib.hid (HP1.out.keep hb5); clear hb5)
        go_roundw
        case rel => exact ⟨k + 1, _, by omega, by go_num, by rw [HS2.out]; exact HP5⟩
        case measure => first | (simp [intOf]; done) | (simp [intOf]; omega)
      · have HS2 := Lib.hid (HYS.out hov)
        rw [hov] at HOV
        have hrng := HRG.out
        have m1 : IntKind.i64.wrap (max d.x1 r.x1 - r.x1) = max d.x1 r.x1 - r.x1 := IntWalk.i64_in _ (by omega)
        have m2 : IntKind.i64.wrap (max d.y1 r.y1 - r.y1) = max d.y1 r.y1 - r.y1 := IntWalk.i64_in _ (by omega)
        have m3 : IntKind.i64.wrap (min d.x2 r.x2 - r.x1) = min d.x2 r.x2 - r.x1 := IntWalk.i64_in _ (by omega)
        have m4 : IntKind.i64.wrap (min d.y2 r.y2 - r.y1) = min d.y2 r.y2 - r.y1 := IntWalk.i64_in _ (by omega)
        have HQ := Lib.hid (show cellsR (shiftR r d) = [.int .i64 (max d.x1 r.x1 - r.x1), .int .i64 (max d.y1 r.y1 - r.y1), .int .i64 (min d.x2 r.x2 - r.x1), .int .i64 (min d.y2 r.y2 - r.y1)] from rfl)
        have HQ3 := Lib.hid (show (P ++ [shiftR r d]).length = P.length + 1 ∧ (P ++ [shiftR r d]).flatMap cellsR = P.flatMap cellsR ++ cellsR (shiftR r d) from ⟨by simp, by simp⟩)
        go_upto_region 10 with (go_at_call 68; refine (HOV.out _).mono ?_; rintro e w5 ⟨rfl, hb5⟩; have HP5 := Lib.hid (HP1.out.keep hb5); have x0 := cell_keep hb5 x0; have x1 := cell_keep hb5 x1; have x2 := cell_keep hb5 x2; have x3 := cell_keep hb5 x3; clear hb5)
        obtain ⟨⟨r0, r1, r2, r3⟩, -, -⟩ := HOLD.out _ HP5.out.b
        have c7 := HP5.out.c7
        have f7 := HP5.out.f7
        have hn5 := HP5.out.n
        have HAL := Lib.hid (fun cs T => (Below.refl w5.heap.size w5).alloc (Nat.le_refl _) (.cells cs T))
        have HO5 := Lib.hid HP5.out.o
        go_wp2_with (at_builtin; refine wpList_append_here _ rfl _ _ 71 rfl g6 57 i0 (.agg #[.int .i64 0, .int .i64 0, .int .i64 0, .int .i64 0]) 4 32 Tryz.underlying71 hi0 hz0 hz1 hz2 rfl (by decide) (.slice av P.length cv) P.length (P.flatMap cellsR) rfl (own_keep HO5.out (HAL.out _ _)) ⟨w5.heap.size, 0, none⟩ 1 1 (cellsR (shiftR r d)) rfl rfl (news_of (cellsR (shiftR r d)) _ _ _ rfl) (cellsR_one (shiftR r d)) (by decide) (by simp only [maxLen]; omega) (by omega) (by simp; omega) ?_; intro v8 w8 ho8 hg8 hv8; obtain ⟨av8, cv8, rfl, -, -⟩ := own_slice ho8; have HP8 := Lib.hid ((HP5.out.keep (HAL.out _ _)).put (ps' := P ++ [shiftR r d]) (by rw [HQ3.out.1, HQ3.out.2]; exact ho8) hg8 hv8); have c78 := covcell hg8 (cell_keep (HAL.out _ _) c7) HP5.out.ne; have f78 := (grown_frozen8 hg8 (cell_keep (HAL.out _ _) c7) HP5.out.ne).trans (frozen_keep (HAL.out _ _) HP5.out.lt f7); clear ho8 hg8 hv8)
        go_roundw
        case rel => exact ⟨k + 1, _, by omega, by go_num, by rw [HS2.out]; exact HP8⟩
        case measure => first | (simp [intOf]; done) | (simp [intOf]; omega)
    · obtain rfl : k = b.defects.length := by omega
      have hki : ¬ ((b.defects.length : Nat) : Int) < ((b.defects.length : Nat) : Int) := by omega
      have hpl : (partsR (b.defects.take b.defects.length) r).length ≤ 60 := Nat.le_trans partsR_len (by have := List.length_take_le' b.defects.length b.defects; omega)
      rw [List.take_length] at HP hpl
      have hrng := HRG.out
      obtain ⟨hcin, hcov⟩ := covR_is (ds := b.defects) (r := r) (b := partB (r.x2 - r.x1) (r.y2 - r.y1) (partsR b.defects r)) ⟨by omega, by omega⟩ (fun d hd => by have := HDS.out d hd; omega) rfl rfl rfl
      have hpw := partsR_in (ds := b.defects) (r := r) ⟨by omega, by omega⟩ (fun d hd => by have := HDS.out d hd; omega)
      have HPV := Lib.hid (show Rects.V wo av (partsR b.defects r) from own_rowV cellsR_len (by decide) (fun b o x hx h => ⟨h 0 _ rfl, h 1 _ rfl, h 2 _ rfl, h 3 _ rfl, by have := hpw x hx; unfold Rect.wf; omega⟩) HP.out.o)
      have HDF := Lib.hid (fun w9 h => defectiveR_any (partB (r.x2 - r.x1) (r.y2 - r.y1) (partsR b.defects r)) av cv w9 h hpl hcin (by show r.x2 - r.x1 ≤ 600000; omega) (by show r.y2 - r.y1 ≤ 100000; omega))
      have HDF := Lib.hid (fun w9 h => by have h2 := HDF.out w9 h; rw [hcov] at h2; exact h2)
      obtain ⟨AR, hAR⟩ : ∃ A, areaR r = A := ⟨_, rfl⟩
      have HAR := Lib.hid (fun w9 => areaRf_any r AR w9 (by omega) hAR)
      have hcb2 := covA_bd (ds := b.defects) (r := r) (by omega) (by omega)
      have hab := areaR_bd (r := r) (by omega)
      rw [hAR] at hcb2 hab HSD
      obtain ⟨CVA, hCVA⟩ : ∃ C, C = covA b.defects r := ⟨_, rfl⟩
      rw [← hCVA] at HDF hcb2 HSD
      have w1 : IntKind.i64.wrap (AR - CVA) = AR - CVA := IntWalk.i64_in _ (by omega)
      clear hcin hcov hpw hAR hCVA hvo
      obtain ⟨k0, k1, k2, k3, k4, k5, k6, k7, -, -, -, -, -, -⟩ := HP.out
      have HBK := Lib.hid (show Below w.heap.size w wo from by
        have h1 := HB3.out
        have h2 := HP.out.b
        rw [HG6.out] at h2
        exact h1.trans (h2.mono h1.size))
      go_upto_region 11 with fail
      have kx0 : ∀ u : KW (fun W' => Below wo.heap.size wo W'), (u.w.cell? ⟨g5, 0, none⟩ = some (.int .i64 r.x1) ∧ u.w.cell? ⟨g5, 1, none⟩ = some (.int .i64 r.y1) ∧ u.w.cell? ⟨g5, 2, none⟩ = some (.int .i64 r.x2) ∧ u.w.cell? ⟨g5, 3, none⟩ = some (.int .i64 r.y2)) ∧ u.w.cell? ⟨g6, 0, none⟩ = some (.string ⟨#[]⟩) ∧ u.w.cell? ⟨g6, 1, none⟩ = some (.string ⟨#[]⟩) ∧ u.w.cell? ⟨g6, 2, none⟩ = some (.int .i64 (r.x2 - r.x1)) ∧ u.w.cell? ⟨g6, 3, none⟩ = some (.int .i64 (r.y2 - r.y1)) ∧ u.w.cell? ⟨g6, 4, none⟩ = some (.int .i64 0) ∧ u.w.cell? ⟨g6, 5, none⟩ = some (.int .i64 0) ∧ u.w.cell? ⟨g6, 6, none⟩ = some (.int .i64 0) ∧ u.w.cell? ⟨g6, 7, none⟩ = some (.slice av (partsR b.defects r).length cv) := fun u => ⟨⟨cell_keep u.ok r0, cell_keep u.ok r1, cell_keep u.ok r2, cell_keep u.ok r3⟩, cell_keep u.ok k0, cell_keep u.ok k1, cell_keep u.ok k2, cell_keep u.ok k3, cell_keep u.ok k4, cell_keep u.ok k5, cell_keep u.ok k6, cell_keep u.ok k7⟩
      haveI nn1 : Nonempty (KW (fun W' => Below wo.heap.size wo W')) := ⟨⟨wo, Below.refl _ _⟩⟩
      generalize partsR b.defects r = P at *
      refine wp_region_tree (fun w' => ∃ u : KW (fun W' => Below wo.heap.size wo W'), w' = u.w) 3 (.take 0 (.take 2 (.one 1 .done))) hmix (by kernel_rfl) (KW.mk' (Below.refl _ _).drew) ?_
      have HCz := Lib.hid (show Below wo.heap.size wo wo.drew from (Below.refl _ _).drew)
      generalize wo.drew = wz at *
      repeat (refine wpTree_take ?_; simp only [nthOp]; (first | go_big_quiet_step (fail) | quiet_step (fail)); refine wpQuiet_nil ?_)
      refine wpTree_one ?_
      simp only [nthOp]
      go_wp2_with (go_at_call 69; refine (HAR.out _).mono ?_; rintro e wa ⟨rfl, hb⟩; have HCa := Lib.hid (HCz.out.trans (hb.mono HCz.out.size)); clear hb)
      refine One_mk (KW.mk' HCa.out) ?_
      refine wpTree_done ?_
      simp only [List.drop_succ_cons, List.drop_zero]
      go_wp2_with (go_at_call 70; refine (HDF.out _ (HPV.out.keep HCa.out)).mono ?_; rintro e wb ⟨rfl, hb⟩; have HCb := Lib.hid (HCa.out.trans (hb.mono HCa.out.size)); clear hb)
      refine NP_mk ?_
      go_wp2_with fail
      go_ret
      exact ⟨by rw [HSD.out]; rfl, HBK.out.trans (HCb.out.mono HBK.out.size)⟩
end Go.Proofs.YtpaindkfbgoogaaGreat
/- The area bound, of the document. -/
set_option linter.unusedVariables false
set_option linter.unusedSimpArgs false
namespace Go.Proofs.YtpaindkfbgoogaaGreat
open Go Go.RowKit Go.Sort Go.Lib

def JobDef (j : Job) : Prop := ∀ b ∈ j.stock, b.defects.length ≤ 60 ∧ ∀ d ∈ b.defects, (0 ≤ d.x1 ∧ d.x1 < d.x2 ∧ d.x2 ≤ 600000) ∧ (0 ≤ d.y1 ∧ d.y1 < d.y2 ∧ d.y2 ≤ 600000)
theorem jobE_def {j : Job} (h : jobE j = 0) : JobDef j := fun b hb => by
  obtain ⟨h1, h2, h3, h4, -⟩ := jobE_parts h
  obtain ⟨-, h5, h6, h7⟩ := boardErr_ok (h2 b hb)
  exact ⟨h6, fun d hd => by have := h7 d hd; omega⟩
set_option maxRecDepth 100000 in
set_option maxHeartbeats 16000000 in
theorem areaBoundR_any (j : Job) (a1 : Option Addr) (c1 : Nat) (a2 : Option Addr) (c2 : Nat) (w : World) (hs : Boards.V w a1 j.stock) (hb : Blanks.V w a2 j.blanks) (hJ : JobOk j.stock j.blanks j.trim) (hds : JobDef j) :
    Calls Tryz.prog 12 #[.agg #[.slice a1 j.stock.length c1, .slice a2 j.blanks.length c2, .int .i64 j.trim.kerf, .int .i64 j.trim.ends, .int .i64 j.trim.sides]] w fun e w' => e = .returned (.tuple #[.int .i64 (areaV j), .bool (areaAll j (kindsM j.blanks))]) ∧ Below w.heap.size w w' := by
  have hmix : Tryz.prog.follows .mixedOrders = true := by kernel_rfl
  obtain ⟨i0, hi0, hz0, hz1, hz2⟩ := info_parts int_info
  obtain ⟨AD, CD, hSC⟩ := stock_ch hs
  have HSC := Lib.hid hSC
  have HJ := Lib.hid hJ
  have HDS := Lib.hid hds
  have HVB := Lib.hid hb
  have hN := hJ.lenS
  have hNB := hJ.lenB
  have HKD := Lib.hid (fun w9 h => kindsR_any a2 j.blanks c2 w9 h (by omega))
  have HVE := Lib.hid (show (areaV j = if areaAll j (kindsM j.blanks) = true then ((areaSum j (kindsM j.blanks) : Nat) : Int) else 0) from rfl)
  have HKL := Lib.hid (kindsTo_len j.blanks j.blanks.length)
  have hkl : (kindsM j.blanks).length ≤ 30 := by have := HKL.out; unfold kindsM; omega
  generalize areaV j = AV at *
  generalize kindsM j.blanks = K at *
  obtain ⟨AE, hAE⟩ : ∃ A, areaAll j K = A := ⟨_, rfl⟩
  rw [hAE] at HVE ⊢
  have HAE := Lib.hid hAE
  clear hs hSC hJ hds hb HKL hAE
  go_enter Tryz.func12, Tryz.ntmps12
  go_upto_region 1 with fail
  refine gen_world (fun W => JB W w.heap.size j a1 c1 a2 c2 ∧ Below w.heap.size w W ∧ w.heap.size < W.heap.size) ⟨⟨by simp [go_sem], by simp [go_sem], by simp [go_sem], by simp [go_sem], by simp [go_sem]⟩, by repeat (first | (with_reducible assumption) | exact Below.refl _ _ | (refine Below.setCell ?_ (by first | omega | (simp; omega) | (simp; done)) _) | (refine Below.alloc ?_ (by first | omega | (simp; omega) | (simp; done)) _) | (refine Below.drew ?_)), by simp⟩ ?_
  rintro W ⟨hC, hbW, hz⟩
  obtain ⟨gj, hgj⟩ : ∃ g, g = w.heap.size := ⟨_, rfl⟩
  have hzj : gj < W.heap.size := by omega
  rw [← hgj] at hC ⊢
  have HC := Lib.hid hC
  have HBW := Lib.hid (show Below w.heap.size w W by first | exact hbW | (rw [hgj] at hbW; exact hbW))
  obtain ⟨q0, q1, q2, q3, q4⟩ := hC
  clear hbW hz hgj
  go_upto_region 3 with (go_at_call 36; refine (HKD.out _ (HVB.out.keep HBW.out)).mono ?_; rintro e w2 ⟨av, cv, rfl, hkv, hb⟩; have HKV := Lib.hid hkv; have HB2 := Lib.hid (HBW.out.trans (hb.mono HBW.out.size)); have HC2 := Lib.hid (HC.out.keep hb hzj); have hz2' := hb.size; clear hb hkv)
  clear q0 q1 q2 q3 q4 HC HBW HKD
  have hzg : gj < w2.heap.size := by omega
  clear hz2' hzj
  go_wp2_with fail
  go_loopw [4, 6] (fun sv iv wr => ∃ m : Nat, m ≤ K.length ∧ iv = .int .i64 m ∧ sv = .int .i64 ((areaSum j (K.take m) : Nat) : Int) ∧ Hid (areaAll j (K.take m) = true) ∧ Below w2.heap.size w2 wr) (fun _ iv _ => K.length - (intOf iv).toNat)
  case atStart => exact ⟨0, Nat.zero_le _, rfl, rfl, Lib.hid rfl, Below.refl _ _⟩
  case round =>
    obtain ⟨m, hm, rfl, rfl, HAL, hbr⟩ := hrel
    obtain ⟨wo, rfl⟩ : ∃ wo : World, wo = wr := ⟨_, rfl⟩
    have HBO := Lib.hid hbr
    have HBB := Lib.hid (HB2.out.trans (hbr.mono HB2.out.size))
    have HCO := Lib.hid (HC2.out.keep hbr hzg)
    have hzo : gj < wo.heap.size := Nat.lt_of_lt_of_le hzg hbr.size
    by_cases hlt : m < K.length
    · have hki : (m : Int) < (K.length : Int) := by omega
      obtain ⟨kb, ko, rfl, kc⟩ := (txV_keep HKV.out hbr).at_ hlt
      have HSA := Lib.hid (show areaSum j (K.take (m + 1)) = areaSum j (K.take m) + (areaSp j K[m]).getD 0 ∧ areaAll j (K.take (m + 1)) = (areaAll j (K.take m) && (areaSp j K[m]).isSome) from by rw [List.take_succ_eq_append_getElem hlt, areaSum_app, areaAll_app]; exact ⟨rfl, rfl⟩)
      have HNO := Lib.hid (fun h : areaSp j K[m] = none => areaAll_no (List.getElem_mem hlt) h)
      have hsb := areaSum_bd HJ.out (K.take m)
      have htl := List.length_take_le' m K
      generalize K[m] = sp at *
      have HKC := Lib.hid kc
      have HND := Lib.hid (needTo_bd HJ.out sp)
      have HSZ := Lib.hid (sizesTo_bd HJ.out sp)
      have HSP := Lib.hid (show areaSp j sp = enoughM (fallM (sizesL j sp)) (needL j sp) 0 from rfl)
      have hspb := areaSp_bd HJ.out sp
      obtain ⟨S0, hS0⟩ : ∃ S, S = areaSum j (K.take m) := ⟨_, rfl⟩
      rw [← hS0] at HSA hsb ⊢
      clear hS0 hbr kc
      have HSL := Lib.hid (show sizesTo j sp j.stock.length = sizesL j sp from rfl)
      go_upto_region 8 with fail
      go_wp2_with fail
      go_loopw [7, 8] (fun zv iv wr => ∃ k : Nat, k ≤ j.stock.length ∧ iv = .int .i64 k ∧ Hid (wr.ownsRow wo.heap.size 3 1 zv (sizesTo j sp k).length ((sizesTo j sp k).map (Value.int .i64))) ∧ Below wo.heap.size wo wr) (fun _ iv _ => j.stock.length - (intOf iv).toNat)
      case atStart => exact ⟨0, Nat.zero_le _, rfl, Lib.hid (World.ownsRow_nil _ _ _ _), Below.refl _ _⟩
      case round =>
        obtain ⟨k, hk2, rfl, HO, hbn⟩ := hrel
        obtain ⟨wn, rfl⟩ : ∃ wn : World, wn = wr := ⟨_, rfl⟩
        obtain ⟨az, cz, rfl, -, -⟩ := own_slice HO.out
        have HBN := Lib.hid hbn
        have HBN2 := Lib.hid (HBB.out.trans (hbn.mono HBB.out.size))
        have HCN := Lib.hid (HCO.out.keep hbn hzo)
        have hzn : gj < wn.heap.size := Nat.lt_of_lt_of_le hzo hbn.size
        have kc := cell_keep hbn HKC.out
        obtain ⟨q0, q1, q2, q3, q4⟩ := HCN.out
        clear hbn
        by_cases hlt3 : k < j.stock.length
        · have hki3 : (k : Int) < (j.stock.length : Int) := by omega
          obtain ⟨⟨gs, off, has, hcb⟩, hrv, -⟩ := HSC.out.ch k _ (List.getElem?_eq_getElem hlt3)
          subst has
          obtain ⟨s0, s1, s2, s3, s4, s5, s6, s7⟩ := hcb.keep HBN2.out
          have HRV := Lib.hid (hrv.keep HBN2.out)
          have HYS := Lib.hid (fun h => sizesTo_yes (sp := sp) hlt3 h)
          have HNN := Lib.hid (fun h => sizesTo_no (sp := sp) hlt3 h)
          have hszl := (HSZ.out k).2
          have hmb := List.getElem_mem hlt3
          have hui := usable_in HJ.out hmb
          have hbd := HJ.out.size _ hmb
          have htr := HJ.out.trim
          obtain ⟨hd60, hdf⟩ := HDS.out _ hmb
          clear hmb
          generalize AD k = ad at *
          generalize CD k = cd at *
          generalize j.stock[k] = b at *
          obtain ⟨Z, hZ⟩ : ∃ Z, Z = sizesTo j sp k := ⟨_, rfl⟩
          rw [← hZ] at HO HYS HNN hszl ⊢
          clear hZ
          have HSO := Lib.hid (fun w9 h => soundArea_any b j.trim ad cd w9 h hd60 hdf (by omega) (by omega) hui)
          clear hcb hrv hui hbd htr hdf hd60
          cases hsp : (b.species.toList == sp.toList)
          · have HS2 := Lib.hid (HNN.out hsp)
            have HS0 := Lib.hid (And.intro s1 (And.intro q0 kc))
            go_upto_region 10 with fail
            go_quiet (fail)
            rename_i nq
            go_wp2_with fail
            go_roundw
            case rel => exact ⟨k + 1, by omega, by go_num, by rw [HS2.out]; exact Lib.hid (own_keep HO.out (below_drewN (Below.refl _ _) nq)), below_drewN HBN.out nq⟩
            case measure => first | (simp [intOf]; done) | (simp [intOf]; omega)
          · have HS2 := Lib.hid (HYS.out hsp)
            go_upto_region 10 with fail
            go_quiet (fail)
            rename_i nq
            go_upto_region 11 with fail
            have hbd := below_drewN (Below.refl wn.heap.size wn) nq
            have HB5 := Lib.hid (HBN.out.trans (hbd.mono HBN.out.size))
            have HO5 := Lib.hid (own_keep HO.out hbd)
            have HRV5 := Lib.hid (HRV.out.keep hbd)
            have s0 := cell_keep hbd s0
            have s1 := cell_keep hbd s1
            have s2 := cell_keep hbd s2
            have s3 := cell_keep hbd s3
            have s4 := cell_keep hbd s4
            have s5 := cell_keep hbd s5
            have s6 := cell_keep hbd s6
            have s7 := cell_keep hbd s7
            have q0 := cell_keep hbd q0
            have q2 := cell_keep hbd q2
            have q3 := cell_keep hbd q3
            have q4 := cell_keep hbd q4
            generalize wn.drewN nq = W5 at *
            have kx0 : ∀ u : KW (fun W' => Below W5.heap.size W5 W'), (u.w.cell? ⟨gs, off + k * 8, none⟩ = some (.string b.name) ∧ u.w.cell? ⟨gs, off + k * 8 + 1, none⟩ = some (.string b.species) ∧ u.w.cell? ⟨gs, off + k * 8 + 2, none⟩ = some (.int .i64 b.length) ∧ u.w.cell? ⟨gs, off + k * 8 + 3, none⟩ = some (.int .i64 b.width) ∧ u.w.cell? ⟨gs, off + k * 8 + 4, none⟩ = some (.int .i64 b.thick) ∧ u.w.cell? ⟨gs, off + k * 8 + 5, none⟩ = some (.int .i64 b.cut) ∧ u.w.cell? ⟨gs, off + k * 8 + 6, none⟩ = some (.int .i64 b.moisture) ∧ u.w.cell? ⟨gs, off + k * 8 + 7, none⟩ = some (.slice ad b.defects.length cd)) ∧ u.w.cell? ⟨gj, 0, none⟩ = some (.slice (some ⟨gs, off, none⟩) j.stock.length c1) ∧ u.w.cell? ⟨gj, 2, none⟩ = some (.int .i64 j.trim.kerf) ∧ u.w.cell? ⟨gj, 3, none⟩ = some (.int .i64 j.trim.ends) ∧ u.w.cell? ⟨gj, 4, none⟩ = some (.int .i64 j.trim.sides) := fun u => ⟨⟨cell_keep u.ok s0, cell_keep u.ok s1, cell_keep u.ok s2, cell_keep u.ok s3, cell_keep u.ok s4, cell_keep u.ok s5, cell_keep u.ok s6, cell_keep u.ok s7⟩, cell_keep u.ok q0, cell_keep u.ok q2, cell_keep u.ok q3, cell_keep u.ok q4⟩
            haveI nn1 : Nonempty (KW (fun W' => Below W5.heap.size W5 W')) := ⟨⟨W5, Below.refl _ _⟩⟩
            refine wp_region_tree (fun w' => ∃ u : KW (fun W' => Below W5.heap.size W5 W'), w' = u.w) 10 (.take 0 (.take 1 (.take 2 (.take 3 (.take 4 (.take 5 (.take 6 (.take 7 (.one 8 (.one 9 .done)))))))))) hmix (by kernel_rfl) (KW.mk' (Below.refl _ _).drew) ?_
            have HCz := Lib.hid (show Below W5.heap.size W5 W5.drew from (Below.refl _ _).drew)
            generalize W5.drew = wz at *
            repeat (refine wpTree_take ?_; simp only [nthOp]; (first | go_big_quiet_step (fail) | quiet_step (fail)); refine wpQuiet_nil ?_)
            refine wpTree_one ?_
            simp only [nthOp]
            go_wp2_with (go_at_call 37; refine (HSO.out _ (HRV5.out.keep HCz.out)).mono ?_; rintro e wa ⟨rfl, hb⟩; have HCa := Lib.hid (HCz.out.trans (hb.mono HCz.out.size)); clear hb)
            refine One_mk (KW.mk' HCa.out) ?_
            refine wpTree_one ?_
            simp only [nthOp]
            go_wp2_with fail
            refine One_mk (KW.mk' (HCa.out.alloc HCa.out.size _)) ?_
            refine wpTree_done ?_
            simp only [List.drop_succ_cons, List.drop_zero]
            have HBb := Lib.hid (HB5.out.trans (HCa.out.mono HB5.out.size))
            have HOb := Lib.hid (own_keep HO5.out HCa.out)
            have hsz := HBb.out.size
            clear kx0 nn1 s0 s1 s2 s3 s4 s5 s6 s7 q0 q1 q2 q3 q4 hbd
            obtain ⟨zl, hzl⟩ : ∃ z, z = Z.length := ⟨_, rfl⟩
            rw [← hzl] at HOb hszl ⊢
            have HZL := Lib.hid hzl
            clear hzl
            generalize soundAr b j.trim = SAV at *
            go_wp2_with (at_builtin; refine wpList_append_here _ rfl _ _ 68 rfl wo.heap.size 3 i0 (.int .i64 0) 1 8 Tryz.underlying68 hi0 hz0 hz1 hz2 rfl (by decide) (.slice az zl cz) zl (Z.map (Value.int .i64)) rfl (own_keep HOb.out ((Below.refl _ _).alloc (Nat.le_refl _) _)) ⟨wa.heap.size, 0, none⟩ 1 1 [.int .i64 SAV] rfl rfl (news_of [.int .i64 SAV] _ _ _ rfl) (by intro u hu; rw [List.mem_singleton.1 hu]; rfl) (by decide) (by simp only [maxLen]; omega) (by omega) (by simp; omega) ?_; intro v9 w9 ho9 hg9 hv9; have HO9 := Lib.hid ho9; have HG9 := Lib.hid hg9; clear ho9 hg9 hv9)
            refine NP_mk ?_
            go_wp2_with fail
            go_roundw
            case rel =>
              refine ⟨k + 1, by omega, by go_num, Lib.hid ?_, ?_⟩
              · rw [HS2.out, List.length_append, List.map_append, ← HZL.out]; exact HO9.out
              · exact (HBb.out.alloc HBb.out.size _).grown HG9.out (by simp; omega) (fun q hq => own_base HOb.out hq)
            case measure => first | (simp [intOf]; done) | (simp [intOf]; omega)
        · obtain rfl : k = j.stock.length := by omega
          have hki3 : ¬ ((j.stock.length : Nat) : Int) < ((j.stock.length : Nat) : Int) := by omega
          have HZB := Lib.hid (HSZ.out j.stock.length)
          rw [HSL.out] at HO HZB ⊢
          have HFA := Lib.hid (fallM_of (sizesL j sp))
          obtain ⟨Z, hZ⟩ : ∃ Z, Z = sizesL j sp := ⟨_, rfl⟩
          rw [← hZ] at HO HZB HFA HSP ⊢
          clear hZ HSL
          have HVBn := Lib.hid (HVB.out.keep HBN2.out)
          have HKN := Lib.hid kc
          go_upto_region 14 with fail
          clear q0 q1 q2 q3 q4 kc
          go_wp2_with fail
          go_loopw [9, 10] (fun dv iv wr => ∃ k : Nat, k ≤ j.blanks.length ∧ iv = .int .i64 k ∧ dv = .int .i64 (needTo j sp k) ∧ Below wn.heap.size wn wr) (fun _ iv _ => j.blanks.length - (intOf iv).toNat)
          case atStart => exact ⟨0, Nat.zero_le _, rfl, rfl, Below.refl _ _⟩
          case round =>
            obtain ⟨k, hk, rfl, rfl, hbi⟩ := hrel
            have HBI := Lib.hid hbi
            obtain ⟨wi, rfl⟩ : ∃ wi : World, wi = wr := ⟨_, rfl⟩
            obtain ⟨-, q1, -, -, -⟩ := HCN.out.keep hbi hzn
            by_cases hlt2 : k < j.blanks.length
            · have hki2 : (k : Int) < (j.blanks.length : Int) := by omega
              obtain ⟨bb, bo, rfl, bx⟩ := (HVBn.out.keep hbi).at_ hlt2
              obtain ⟨s0, s1, s2, s3, s4, s5, -⟩ := bx
              have HYS := Lib.hid (fun h => needTo_yes (sp := sp) hlt2 h)
              have HNN := Lib.hid (fun h => needTo_no (sp := sp) hlt2 h)
              have hnd := HND.out k hk
              obtain ⟨ha1, ha2⟩ := blankA_bd HJ.out (List.getElem_mem hlt2)
              have HBA := Lib.hid (show blankA j.blanks[k] = j.blanks[k].length * j.blanks[k].width * j.blanks[k].count from rfl)
              generalize j.blanks[k] = x at *
              have kc := cell_keep hbi HKN.out
              go_upto_region 17 with fail
              refine gen_world (fun W1 => (W1.cell? ⟨wi.heap.size, 1, none⟩ = some (.string x.species) ∧ W1.cell? ⟨wi.heap.size, 2, none⟩ = some (.int .i64 x.length) ∧ W1.cell? ⟨wi.heap.size, 3, none⟩ = some (.int .i64 x.width) ∧ W1.cell? ⟨wi.heap.size, 5, none⟩ = some (.int .i64 x.count)) ∧ Below wi.heap.size wi W1) ⟨⟨by simp [go_sem], by simp [go_sem], by simp [go_sem], by simp [go_sem]⟩, by repeat (first | (with_reducible assumption) | exact Below.refl _ _ | (refine Below.setCell ?_ (by first | omega | (simp; omega) | (simp; done)) _) | (refine Below.alloc ?_ (by first | omega | (simp; omega) | (simp; done)) _) | (refine Below.drew ?_))⟩ ?_
              rintro W1 ⟨⟨t1, t2, t3, t5⟩, hb1⟩
              have HBX := Lib.hid (HBI.out.trans (hb1.mono HBI.out.size))
              have kc := cell_keep hb1 kc
              obtain ⟨g9, hg9⟩ : ∃ g, g = wi.heap.size := ⟨_, rfl⟩
              rw [← hg9] at t1 t2 t3 t5 ⊢
              have hk1 := block_lt_of_cell kc
              have hk2' := block_lt_of_cell t1
              simp only at hk1 hk2'
              clear s0 s1 s2 s3 s4 s5 hb1 hg9 hbi q1
              cases hsp : (x.species.toList == sp.toList)
              · have HS2 := Lib.hid (HNN.out hsp)
                go_quiet (fail)
                rename_i nq
                go_wp2_with fail
                go_roundw
                case rel => exact ⟨k + 1, by omega, by go_num, by rw [HS2.out], below_drewN HBX.out nq⟩
                case measure => first | (simp [intOf]; done) | (simp [intOf]; omega)
              · have HS2 := Lib.hid (HYS.out hsp)
                obtain ⟨P1, hP1⟩ : ∃ P, P = x.length * x.width := ⟨_, rfl⟩
                have HBA2 := Lib.hid (show blankA x = P1 * x.count by rw [HBA.out, hP1])
                rw [← hP1] at ha1
                obtain ⟨P2, hP2⟩ : ∃ P, P = blankA x := ⟨_, rfl⟩
                rw [← hP2] at ha2 HS2 HBA2
                have w1 : IntKind.i64.wrap (x.length * x.width) = P1 := by rw [← hP1]; exact IntWalk.i64_in _ (by omega)
                have w2' : IntKind.i64.wrap (P1 * x.count) = P2 := by rw [← HBA2.out]; exact IntWalk.i64_in _ (by omega)
                clear hP1 hP2 HBA
                generalize needTo j sp k = N0 at *
                have w3 : IntKind.i64.wrap (N0 + P2) = N0 + P2 := IntWalk.i64_in _ (by omega)
                go_quiet (fail)
                rename_i nq
                have u1 : (W1.drewN nq).cell? ⟨g9, 1, none⟩ = some (.string x.species) := t1
                have u2 : (W1.drewN nq).cell? ⟨g9, 2, none⟩ = some (.int .i64 x.length) := t2
                have u3 : (W1.drewN nq).cell? ⟨g9, 3, none⟩ = some (.int .i64 x.width) := t3
                have u5 : (W1.drewN nq).cell? ⟨g9, 5, none⟩ = some (.int .i64 x.count) := t5
                have HBQ := Lib.hid (below_drewN HBX.out nq)
                generalize W1.drewN nq = W2 at *
                go_wp2_with fail
                go_roundw
                case rel => exact ⟨k + 1, by omega, by go_num, by rw [HS2.out], HBQ.out⟩
                case measure => first | (simp [intOf]; done) | (simp [intOf]; omega)
            · obtain rfl : k = j.blanks.length := by omega
              have hki2 : ¬ ((j.blanks.length : Nat) : Int) < ((j.blanks.length : Nat) : Int) := by omega
              have hnd := HND.out j.blanks.length (Nat.le_refl _)
              have HNL := Lib.hid (show needTo j sp j.blanks.length = needL j sp from rfl)
              rw [HNL.out] at hnd ⊢
              have HOI := Lib.hid (own_keep HO.out hbi)
              have HBI2 := Lib.hid (HBN.out.trans (hbi.mono HBN.out.size))
              have HZV := Lib.hid (show IntsV wi az Z from by
                obtain ⟨a', c', e, h⟩ := own_ints' HOI.out
                injection e with e1 e2 e3
                rw [e1]; exact h)
              have HEN := Lib.hid (fun w9 h => enough_any az Z cz (needL j sp) w9 h (by have := HZB.out.2; omega) (by omega) HZB.out.1)
              generalize needL j sp = ND at *
              have HWW := Lib.hid (HBB.out.trans (HBI2.out.mono HBB.out.size))
              have HVN := Lib.hid (fun n => show enoughM (fallM Z) ND 0 = some n → enoughV (fallM Z) ND = .tuple #[.int .i64 (n : Int), .bool true] from fun h => by unfold enoughV; rw [h])
              have HVO := Lib.hid (show enoughM (fallM Z) ND 0 = none → enoughV (fallM Z) ND = .tuple #[.int .i64 0, .bool false] from fun h => by unfold enoughV; rw [h])
              have HEN := Lib.hid (fun w9 h => show Calls Tryz.prog 38 #[.slice az Z.length cz, .int .i64 ND] w9 fun e w' => e = .returned (enoughV (fallM Z) ND) ∧ Below w9.heap.size w9 w' from (HEN.out w9 h).mono fun e w' ⟨r, h1, h2, h3⟩ => ⟨by rw [h1, fall_one h2 HFA.out], h3⟩)
              clear hbi HBI
              cases hsp : areaSp j sp with
              | none =>
                have HV1 := Lib.hid (HVO.out (by rw [← HSP.out]; exact hsp))
                have HN := Lib.hid (show AE = false by rw [← HAE.out]; exact HNO.out hsp)
                have HV0 := Lib.hid (show AV = 0 by rw [HVE.out, HN.out]; rfl)
                rw [HV1.out] at HEN
                go_wp2_with (go_at_call 38; refine (HEN.out _ HZV.out).mono ?_; rintro e w7 ⟨rfl, hb7⟩; have HB7 := Lib.hid (HWW.out.trans (hb7.mono HWW.out.size)); clear hb7)
                go_ret2
                exact ⟨by rw [HV0.out, HN.out]; rfl, HB7.out⟩
              | some n =>
                have HV1 := Lib.hid (HVN.out n (by rw [← HSP.out]; exact hsp))
                have HS3 := Lib.hid (show areaSum j (K.take (m + 1)) = S0 + n ∧ areaAll j (K.take (m + 1)) = true by rw [HSA.out.1, HSA.out.2, HAL.out, hsp]; exact ⟨rfl, rfl⟩)
                rw [hsp] at hspb
                have hn100 : n ≤ 100 := hspb
                have HBX2 := Lib.hid (HBO.out.trans (HBI2.out.mono HBO.out.size))
                have v9 : IntKind.i64.wrap ((S0 : Int) + (n : Int)) = ((S0 + n : Nat) : Int) := by rw [← Int.natCast_add]; exact IntWalk.i64_in _ (by omega)
                clear hspb
                rw [HV1.out] at HEN
                go_wp2_with (go_at_call 38; refine (HEN.out _ HZV.out).mono ?_; rintro e w7 ⟨rfl, hb7⟩; have HB7 := Lib.hid (HBX2.out.trans (hb7.mono HBX2.out.size)); clear hb7)
                go_roundw
                case rel => exact ⟨m + 1, by omega, by go_num, by rw [HS3.out.1]; push_cast; rfl, Lib.hid HS3.out.2, HB7.out⟩
                case measure => first | (simp [intOf]; done) | (simp [intOf]; omega)
    · obtain rfl : m = K.length := by omega
      have hki : ¬ ((K.length : Nat) : Int) < ((K.length : Nat) : Int) := by omega
      have HVT := Lib.hid (show AE = true ∧ AV = ((areaSum j K : Nat) : Int) by
        have h := HAL.out
        rw [List.take_length, HAE.out] at h
        rw [HVE.out, h]
        exact ⟨rfl, rfl⟩)
      go_wp2_with fail
      go_ret2
      exact ⟨by rw [HVT.out.1, HVT.out.2]; rfl, HBB.out⟩
end Go.Proofs.YtpaindkfbgoogaaGreat
