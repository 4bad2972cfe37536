import Derived.Test.YtjmgboipbhddlaaGreatDoorAA8
import Derived.Test.YtjmgboipbhddlaaGreatDoorFG9
set_option linter.unusedVariables false
set_option linter.unusedSimpArgs false
namespace Go.Proofs.YtjmgboipbhddlaaGreatDoor
open Go Go.RowKit Go.Sort Go.Lib
def CutX (e0 : Exit) (S : List Nat) (a : Act) (R : (Nat → Value) → World → Prop) (e : Exit) (a' : Act) (w' : World) : Prop := e = e0 ∧ ∃ u, a' = ⟨forget S u a.tmps, a.defers⟩ ∧ R u w'
theorem wp_cut_exit {P : Program} {c : Code} {Q : Exit → Act → World → Prop} {a : Act} {w : World} (e0 : Exit) (S : List Nat) (R : (Nat → Value) → World → Prop) (h : c.wp P (CutX e0 S a R) a w)
    (k : ∀ u w', R u w' → Q e0 ⟨forget S u a.tmps, a.defers⟩ w') : c.wp P Q a w :=
 Code.wp_mono (fun e a' w' ⟨he, u, ha, hR⟩ => by subst he; subst ha; exact k u w' hR) h
theorem cutx_meet {e0 : Exit} {S : List Nat} {a a' : Act} {R : (Nat → Value) → World → Prop} {w' : World} (hd : a' = ⟨forget S (fun i => a'.tmps.getD i undef) a.tmps, a.defers⟩) (hR : R (fun i => a'.tmps.getD i undef) w') : CutX e0 S a R e0 a' w' :=
 ⟨rfl, _, hd, hR⟩

theorem LyB.far {W W' : World} {g : Nat} {b : Int} {al : Option Addr} {n cl : Nat} {row : Option Nat} (h : LyB W g b al n cl) (hg : W.grownBy W' row) (hr : row ≠ some g) : LyB W' g b al n cl := ⟨hg.cell h.c0 (fun e => hr e.symm), hg.cell h.c1 (fun e => hr e.symm)⟩
theorem CellsBd.far {W W' : World} {g o : Nat} {x : Board} {ad : Option Addr} {cd : Nat} {row : Option Nat} (h : CellsBd W g o x ad cd) (hg : W.grownBy W' row) (hr : row ≠ some g) : CellsBd W' g o x ad cd := ⟨hg.cell h.c0 (fun e => hr e.symm), hg.cell h.c1 (fun e => hr e.symm), hg.cell h.c2 (fun e => hr e.symm), hg.cell h.c3 (fun e => hr e.symm), hg.cell h.c4 (fun e => hr e.symm), hg.cell h.c5 (fun e => hr e.symm), hg.cell h.c6 (fun e => hr e.symm), hg.cell h.c7 (fun e => hr e.symm)⟩
set_option maxRecDepth 100000 in
set_option maxHeartbeats 16000000 in
theorem offcutsR_any (j : Job) (plan : List Layout) (a1 : Option Addr) (c1 : Nat) (a2 : Option Addr) (c2 : Nat) (ap : Option Addr) (cp : Nat) (n0 n1 : Int) (w : World) (hs : Boards.V w a1 j.stock) (hp : Layouts.V w ap plan) (hE : jobE j = 0) (hok : PlanOk j plan) (hpl : plan.length ≤ 1000) :
    Calls Tryz.prog 11 #[.agg #[.slice a1 j.stock.length c1, .slice a2 j.blanks.length c2, .int .i64 j.trim.kerf, .int .i64 j.trim.ends, .int .i64 j.trim.sides], .slice ap plan.length cp, .agg #[.int .i64 n0, .int .i64 n1]] w (OffsPost w (offL2 j plan n0 n1) (offE2 j plan n0 n1)) := by
 have hmix : Tryz.prog.follows .mixedOrders = true := by kernel_rfl
 obtain ⟨b0, hb0, hbz0, hbz1, hbz2⟩ := info_parts board_info
 obtain ⟨i0, hi0, hz0, hz1, hz2⟩ := info_parts rect_info
 obtain ⟨AD, CD, hSC⟩ := stock_ch hs
 have HSC := Lib.hid hSC
 have HPV := Lib.hid hp
 have HJE := Lib.hid hE
 have HOK := Lib.hid hok
 obtain ⟨LL, hLL⟩ : ∃ L, L = offL2 j plan n0 n1 := ⟨_, rfl⟩
 obtain ⟨EE, hEE⟩ : ∃ E, E = offE2 j plan n0 n1 := ⟨_, rfl⟩
 rw [← hLL, ← hEE]
 have HA := Lib.hid hLL
 have HA2 := Lib.hid hEE
 clear hSC hs hp hE hok hLL hEE
 go_enter Tryz.func11, Tryz.ntmps11
 go_upto_region 1 with fail
 refine gen_world (fun W => JB W w.heap.size j a1 c1 a2 c2 ∧ (W.cell? ⟨w.heap.size + 1, 0, none⟩ = some (.int .i64 n0) ∧ W.cell? ⟨w.heap.size + 1, 1, none⟩ = some (.int .i64 n1)) ∧ Below w.heap.size w W ∧ w.heap.size + 1 < W.heap.size) ⟨⟨by simp [go_sem], by simp [go_sem], by simp [go_sem], by simp [go_sem], by simp [go_sem]⟩, ⟨by simp [go_sem], by simp [go_sem]⟩, by repeat (first | (with_reducible assumption) | exact Below.refl _ _ | (refine Below.setCell ?_ (by first | omega | (simp; omega) | (simp; done)) _) | (refine Below.alloc ?_ (by first | omega | (simp; omega) | (simp; done)) _) | (refine Below.drew ?_)), by simp⟩ ?_
 rintro W2 ⟨hC, hY, hb, hz⟩
 obtain ⟨gj, hgj⟩ : ∃ g, g = w.heap.size := ⟨_, rfl⟩
 obtain ⟨gk, hgk⟩ : ∃ g, g = w.heap.size + 1 := ⟨_, rfl⟩
 rw [← hgk] at hY hz
 rw [← hgj] at hC
 rw [← hgk, ← hgj]
 have HB2 := Lib.hid hb
 have HC2 := Lib.hid hC
 have HY2 := Lib.hid hY
 have HGW := Lib.hid (show gj < W2.heap.size from by omega)
 obtain ⟨y0, y1⟩ := hY
 clear hb hgj hgk hz hC
 by_cases hn0 : 1 ≤ n0 ∧ n0 ≤ 600000
 case neg =>
  have HW0 := Lib.hid (withinB_out hn0)
  have hz : offE2 j plan n0 n1 = 2 := by unfold offE2; rw [if_pos (fun h => hn0 h.1)]
  have HZ := Lib.hid (And.intro (show LL = [] by rw [HA.out]; unfold offL2; rw [if_neg (by rw [hz]; decide)]) (show EE = 2 by rw [HA2.out, hz]))
  clear hz
  go_wp2_with (go_at_call 16; refine (baseWithin_any _ _ _ _).mono ?_; rintro e w' ⟨rfl, rfl⟩; rw [HW0.out])
  go_ret2
  exact OffsPost.nil HZ.out.1 HZ.out.2 HB2.out
 have HW0 := Lib.hid (withinB_in hn0)
 by_cases hn1 : 1 ≤ n1 ∧ n1 ≤ 600000
 case neg =>
  have HW1 := Lib.hid (withinB_out hn1)
  have hz : offE2 j plan n0 n1 = 2 := by unfold offE2; rw [if_pos (fun h => hn1 h.2)]
  have HZ := Lib.hid (And.intro (show LL = [] by rw [HA.out]; unfold offL2; rw [if_neg (by rw [hz]; decide)]) (show EE = 2 by rw [HA2.out, hz]))
  clear hz
  go_wp2_with (go_at_call 16; refine (baseWithin_any _ _ _ _).mono ?_; rintro e w' ⟨rfl, rfl⟩; first | rw [HW0.out] | rw [HW1.out])
  go_ret2
  exact OffsPost.nil HZ.out.1 HZ.out.2 HB2.out
 have HW1 := Lib.hid (withinB_in hn1)
 go_upto_region 3 with (go_at_call 16; refine (baseWithin_any _ _ _ _).mono ?_; rintro e w' ⟨rfl, rfl⟩; first | rw [HW0.out] | rw [HW1.out])
 obtain ⟨N, hN⟩ : ∃ N, N = W2.heap.size := ⟨_, rfl⟩
 have HST0 := Lib.hid (show OcSt N W2 W2 (.slice none 0 0) [] [] from by rw [hN]; exact OcSt.start W2)
 have HHOLD := Lib.hid (fun (w' : World) (h : Below N W2 w') => show JB w' gj j a1 c1 a2 c2 ∧ ((w'.cell? ⟨gk, 0, none⟩ = some (.int .i64 n0) ∧ w'.cell? ⟨gk, 1, none⟩ = some (.int .i64 n1)) ∧ Below w.heap.size w w') from by
  rw [hN] at h
  exact ⟨HC2.out.keep h HGW.out, ⟨cell_keep h HY2.out.1, cell_keep h HY2.out.2⟩, HB2.out.trans (h.mono HB2.out.size)⟩)
 clear hN y0 y1
 go_wp2_with fail
 go_loopw [9, 8] (fun iv vv wr => ∃ (k : Nat) (vo : Value) (os : List OffC), k ≤ plan.length ∧ iv = .int .i64 k ∧ vo = vv ∧ Hid (OcSt N W2 wr vo (offPlan j plan n0 n1 k) os)) (fun iv _ _ => plan.length - (intOf iv).toNat)
 case atStart => exact ⟨0, _, [], Nat.zero_le _, rfl, rfl, HST0⟩
 case round =>
  obtain ⟨k, vo, os, hk, rfl, rfl, HP⟩ := hrel
  obtain ⟨wo, rfl⟩ : ∃ wo : World, wo = wr := ⟨_, rfl⟩
  by_cases hlt : k < plan.length
  ·have hki : (k : Int) < (plan.length : Int) := by omega
   have v1 : IntKind.i64.wrap ((k : Int) + 1) = (k : Int) + 1 := IntWalk.i64_in _ (by omega)
   obtain ⟨⟨q0, q1, q2, q3, q4⟩, -, hbw⟩ := HHOLD.out wo HP.out.b
   have HST := Lib.hid (offPlan_step (j := j) (n0 := n0) (n1 := n1) hlt)
   have hlen := offPlan_len HJE.out (n0 := n0) (n1 := n1) HOK.out k hk
   obtain ⟨⟨hb0', hb1'⟩, hl0⟩ := HOK.out _ (List.getElem_mem hlt)
   obtain ⟨gp, offp, hap, al, cl, m0, m1, hcv, hcl, -, hwf⟩ := HPV.out.at_ hlt
   subst hap
   obtain ⟨L, hL⟩ : ∃ L, L = plan[k] := ⟨_, rfl⟩
   rw [← hL] at hb0' hb1' hl0 HST m0 m1 hcv hcl hwf
   clear hL hwf
   obtain ⟨lb, cs⟩ := L
   simp only at hb0' hb1' hl0 m0 m1 hcv hcl HST
   obtain ⟨hlr, hl4, hall⟩ := lay_okR (l := ⟨lb, cs⟩) HJE.out ⟨hb0', hb1'⟩ hl0
   obtain ⟨nb, hnb⟩ : ∃ nb : Nat, lb = nb := ⟨lb.toNat, by omega⟩
   subst hnb
   have hnbs : nb < j.stock.length := by omega
   obtain ⟨R, hRq⟩ : ∃ R, (layOf j ⟨(nb : Int), cs⟩).1 = R := ⟨_, rfl⟩
   rw [hRq] at hlr hall HST
   simp only at hlr hl4
   have hdf := (jobOk_of HJE.out).defs _ (List.getElem_mem hnbs)
   obtain ⟨⟨gs, off, has, hcb⟩, hrvb, hdc, hdm, hbwf⟩ := HSC.out.ch nb _ (List.getElem?_eq_getElem hnbs)
   subst has
   have HCE := Lib.hid (job_cut HJE.out (List.getElem_mem hnbs))
   have HLY := Lib.hid (show regM (usableR j.stock[nb] j.trim) j.trim.kerf cs = (R, 0) by
    rw [← hRq, ← hl0]; unfold layOf; simp only [Int.toNat_natCast]; rw [List.getD_eq_getElem?_getD, List.getElem?_eq_getElem hnbs]; rfl)
   have HBL := Lib.hid (show bdOfL j ⟨(nb : Int), cs⟩ = j.stock[nb] by unfold bdOfL; simp only [Int.toNat_natCast]; rw [List.getD_eq_getElem?_getD, List.getElem?_eq_getElem hnbs]; rfl)
   rw [HBL.out] at HST
   have HRBw := Lib.hid hrvb
   have HDF := Lib.hid hdf
   have HBWF := Lib.hid hbwf
   obtain ⟨s0, s1, s2, s3, s4, s5, s6, s7⟩ := hcb.keep hbw
   generalize AD nb = ad at *
   generalize CD nb = cd at *
   generalize j.stock[nb] = b at *
   have hbi : (nb : Int) < (j.stock.length : Int) := by omega
   have HRL := Lib.hid hlr
   have HAL := Lib.hid hall
   have HCVw := Lib.hid (show Cuts.V w al cs from hcv)
   obtain ⟨A0, hA0⟩ : ∃ A, offPlan j plan n0 n1 k = A := ⟨_, rfl⟩
   rw [hA0] at HP HST hlen
   have m0 := cell_keep hbw m0
   have m1 := cell_keep hbw m1
   clear hcb hrvb hl0 hb0' hb1' hcv hall hlr hA0 hdf hbwf hRq
   go_upto_region 8 with fail
   refine gen_world (fun W5 => LyB W5 wo.heap.size (nb : Int) al cs.length cl ∧ Below wo.heap.size wo W5 ∧ wo.heap.size < W5.heap.size) ⟨⟨by simp [go_sem], by simp [go_sem]⟩, by repeat (first | (with_reducible assumption) | exact Below.refl _ _ | (refine Below.setCell ?_ (by first | omega | (simp; omega) | (simp; done)) _) | (refine Below.alloc ?_ (by first | omega | (simp; omega) | (simp; done)) _) | (refine Below.drew ?_)), by simp⟩ ?_
   rintro W6 ⟨hld, hb6, hz6⟩
   obtain ⟨g10, hg10⟩ : ∃ g, g = wo.heap.size := ⟨_, rfl⟩
   rw [← hg10] at hld hz6 ⊢
   have HLDa := Lib.hid hld
   have HG10 := Lib.hid hg10
   clear hg10
   obtain ⟨e0, e1⟩ := hld
   have q0 := cell_keep hb6 q0
   have q2 := cell_keep hb6 q2
   have q3 := cell_keep hb6 q3
   have q4 := cell_keep hb6 q4
   have s0 := cell_keep hb6 s0
   have s1 := cell_keep hb6 s1
   have s2 := cell_keep hb6 s2
   have s3 := cell_keep hb6 s3
   have s4 := cell_keep hb6 s4
   have s5 := cell_keep hb6 s5
   have s6 := cell_keep hb6 s6
   have s7 := cell_keep hb6 s7
   go_upto_region 9 with fail
   refine gen_world (fun W5 => CellsBd W5 W6.heap.size 0 b ad cd ∧ Below W6.heap.size W6 W5) ⟨⟨by simp [go_sem], by simp [go_sem], by simp [go_sem], by simp [go_sem], by simp [go_sem], by simp [go_sem], by simp [go_sem], by simp [go_sem]⟩, by repeat (first | (with_reducible assumption) | exact Below.refl _ _ | (refine Below.setCell ?_ (by first | omega | (simp; omega) | (simp; done)) _) | (refine Below.alloc ?_ (by first | omega | (simp; omega) | (simp; done)) _) | (refine Below.drew ?_))⟩ ?_
   rintro W5 ⟨hcb, hb56⟩
   have hb5 := hb6.trans (hb56.mono hb6.size)
   have hld := HLDa.out.keep hb56
   have hz5 : g10 < W5.heap.size := Nat.lt_of_lt_of_le hz6 hb56.size
   obtain ⟨g11, hg11⟩ : ∃ g, g = W6.heap.size := ⟨_, rfl⟩
   rw [← hg11] at hcb ⊢
   have HG11 := Lib.hid (show wo.heap.size ≤ g11 ∧ g10 < g11 from ⟨by rw [hg11]; exact hb6.size, by rw [hg11]; exact hz6⟩)
   have q2 := cell_keep hb56 q2
   have q3 := cell_keep hb56 q3
   have q4 := cell_keep hb56 q4
   clear e0 e1 hg11 hb6 hb56 hz6 HLDa q0 q1 s0 s1 s2 s3 s4 s5 s6 s7 m0 m1
   have HLD := Lib.hid hld
   have HP5 := Lib.hid (HP.out.keep hb5)
   have HCB := Lib.hid hcb
   have HNE5 := Lib.hid (show vo.ownBlock ≠ some g10 ∧ vo.ownBlock ≠ some g11 from ⟨fun e => by have h1 := own_blocks1 HP.out.o g10 e; have h2 := HG10.out; omega, fun e => by have h1 := own_blocks1 HP.out.o g11 e; have h2 := HG11.out; omega⟩)
   obtain ⟨e0, e1⟩ := hld
   obtain ⟨d0, d1, d2, d3, d4, d5, d6, d7⟩ := hcb
   simp only [Nat.zero_add] at d0 d1 d2 d3 d4 d5 d6 d7
   have HCU := Lib.hid ((HCVw.out.keep hbw).keep hb5)
   have hl5 : cs.length ≤ 100000 := by omega
   have HRGN := Lib.hid (fun w9 h => refRegions_any b j.trim cs ad al cd cl w9 HCE.out h hl5)
   rw [HLY.out] at HRGN
   go_upto_region 10 with (go_at_call 33; refine (HRGN.out _ HCU.out).mono ?_; rintro e W7 ⟨ar, cr, rfl, hv, hb7, hnw⟩; have HNW := Lib.hid hnw; have HRV := Lib.hid hv; have HB7 := Lib.hid hb7; clear hnw hv hb7)
   have HNE := Lib.hid (show ∀ x, ar = some x → vo.ownBlock ≠ some x.block from fun x hx e => by have h1 := HNW.out x hx; have h2 := own_blocks1 HP5.out.o x.block e; omega)
   have HQ7 := Lib.hid (HP5.out.keep HB7.out)
   have HL7 := Lib.hid (And.intro (And.intro (HLD.out.keep HB7.out) (HCB.out.keep HB7.out)) (And.intro HNE5.out HNE.out))
   clear q2 q3 q4 hb5 hbw e0 e1 d0 d1 d2 d3 d4 d5 d6 d7 HCU HRGN
   go_wp2_with fail
   go_loopw [14, 8] (fun iv vv wr => ∃ (m : Nat) (vi : Value) (os : List OffC), m ≤ cs.length ∧ iv = .int .i64 m ∧ vi = vv ∧ Hid (OcSt N W2 wr vi (offTo b ⟨(nb : Int), cs⟩ R n0 n1 A0 m) os) ∧ Hid ((LyB wr g10 (nb : Int) al cs.length cl ∧ CellsBd wr g11 0 b ad cd) ∧ ((vi.ownBlock ≠ some g10 ∧ vi.ownBlock ≠ some g11) ∧ ∀ x, ar = some x → vi.ownBlock ≠ some x.block)) ∧ Hid (Rects.V wr ar R)) (fun iv _ _ => cs.length - (intOf iv).toNat)
   case atStart => exact ⟨0, vo, os, Nat.zero_le _, rfl, rfl, HQ7, HL7, HRV⟩
   case round =>
    obtain ⟨m, vi, os2, hm, rfl, rfl, HQ, HL, HRW⟩ := hrel
    obtain ⟨wi, rfl⟩ : ∃ wi : World, wi = wr := ⟨_, rfl⟩
    obtain ⟨e0, e1⟩ := HL.out.1.1
    by_cases hmlt : m < cs.length
    ·have hmi : (m : Int) < (cs.length : Int) := by omega
     have v2 : IntKind.i64.wrap ((m : Int) + 1) = (m : Int) + 1 := IntWalk.i64_in _ (by omega)
     obtain ⟨-, ⟨p0, p1⟩, hbz⟩ := HHOLD.out wi HQ.out.b
     obtain ⟨gc, oc, hac, x0, x1, x2, x3, x4, -⟩ := (HCVw.out.keep hbz).at_ hmlt
     subst hac
     have hmR : m < R.length := by rw [HRL.out]; exact hmlt
     have hmRi : (m : Int) < (R.length : Int) := by omega
     obtain ⟨rb, ro, har, r0, r1, r2, r3, -⟩ := HRW.out.at_ hmR
     subst har
     have HCF := Lib.hid (show cutF cs m = cs[m] from cutF_get hmlt)
     have HRF := Lib.hid (show rectF R m = R[m] from by unfold rectF; rw [List.getD_eq_getElem?_getD, List.getElem?_eq_getElem hmR]; rfl)
     have HYES := Lib.hid (fun h => offTo_yes (b := b) (l := ⟨(nb : Int), cs⟩) (R := R) (n0 := n0) (n1 := n1) (acc := A0) (k := m) h)
     have HNO := Lib.hid (fun h => offTo_no (b := b) (l := ⟨(nb : Int), cs⟩) (R := R) (n0 := n0) (n1 := n1) (acc := A0) (k := m) h)
     unfold isOff at HYES HNO
     simp only at HYES HNO
     have hlen2 := offTo_len (b := b) (l := ⟨(nb : Int), cs⟩) (R := R) (n0 := n0) (n1 := n1) (acc := A0) m
     have HOKR := Lib.hid (HAL.out _ (List.getElem_mem hmR))
     obtain ⟨AQ, hAQ⟩ : ∃ A, offTo b ⟨(nb : Int), cs⟩ R n0 n1 A0 m = A := ⟨_, rfl⟩
     rw [hAQ] at HQ HYES HNO hlen2
     rw [HCF.out, HRF.out] at HYES HNO
     generalize R[m] = rm at *
     generalize cs[m] = c at *
     have hlen3 : AQ.length ≤ 800000 := by omega
     have hrb : (-600000 ≤ rm.x2 - rm.x1 ∧ rm.x2 - rm.x1 ≤ 600000) ∧ (-600000 ≤ rm.y2 - rm.y1 ∧ rm.y2 - rm.y1 ≤ 600000) := by
      rcases HOKR.out with h | h
      ·rw [h]; simp
      ·unfold proper at h; omega
     have w1 : IntKind.i64.wrap (rm.x2 - rm.x1) = rm.x2 - rm.x1 := IntWalk.i64_in _ (by omega)
     have w2 : IntKind.i64.wrap (rm.y2 - rm.y1) = rm.y2 - rm.y1 := IntWalk.i64_in _ (by omega)
     clear hAQ hbz hrb
     by_cases hlo : c.low = 0
     case neg =>
      have HSP := Lib.hid (HNO.out (fun h => hlo h.1.1))
      have hlq : (c.low != 0) = true := by simpa using hlo
      clear hlo
      clear e0 hlen hlen2 hmR hcl
      go_upto_region 13 with fail
      go_quiet (fail)
      go_wp2_with fail
      go_roundw
      case rel => exact ⟨m + 1, vi, os2, by omega, by go_num, rfl, by rw [HSP.out]; exact Lib.hid (HQ.out.keep (below_drewN (Below.refl _ _) _)), Lib.hid ⟨⟨HL.out.1.1.keep (below_drewN (Below.refl _ _) _), HL.out.1.2.keep (below_drewN (Below.refl _ _) _)⟩, HL.out.2⟩, Lib.hid (HRW.out.keep (below_drewN (Below.refl _ _) _))⟩
      case measure => first | (simp [intOf]; done) | (simp [intOf]; omega)
     have hlq : (c.low != 0) = false := by simpa using hlo
     have hlo9 := Lib.hid hlo
     clear hlo
     by_cases hbk : 0 ≤ c.blank
     case pos =>
      have HSP := Lib.hid (HNO.out (fun h => by have := hlo9.out; omega))
      clear e0 hlen hlen2 hmR hcl
      go_upto_region 13 with fail
      go_quiet (fail)
      go_wp2_with fail
      go_roundw
      case rel => exact ⟨m + 1, vi, os2, by omega, by go_num, rfl, by rw [HSP.out]; exact Lib.hid (HQ.out.keep (below_drewN (Below.refl _ _) _)), Lib.hid ⟨⟨HL.out.1.1.keep (below_drewN (Below.refl _ _) _), HL.out.1.2.keep (below_drewN (Below.refl _ _) _)⟩, HL.out.2⟩, Lib.hid (HRW.out.keep (below_drewN (Below.refl _ _) _))⟩
      case measure => first | (simp [intOf]; done) | (simp [intOf]; omega)
     by_cases hw0 : rm.x2 - rm.x1 < n0
     case pos =>
      have HSP := Lib.hid (HNO.out (fun h => by have := hlo9.out; omega))
      clear e0 hlen hlen2 hmR hcl
      go_upto_region 13 with fail
      go_quiet (fail)
      go_wp2_with fail
      go_roundw
      case rel => exact ⟨m + 1, vi, os2, by omega, by go_num, rfl, by rw [HSP.out]; exact Lib.hid (HQ.out.keep (below_drewN (Below.refl _ _) _)), Lib.hid ⟨⟨HL.out.1.1.keep (below_drewN (Below.refl _ _) _), HL.out.1.2.keep (below_drewN (Below.refl _ _) _)⟩, HL.out.2⟩, Lib.hid (HRW.out.keep (below_drewN (Below.refl _ _) _))⟩
      case measure => first | (simp [intOf]; done) | (simp [intOf]; omega)
     by_cases hw1 : rm.y2 - rm.y1 < n1
     case pos =>
      have HSP := Lib.hid (HNO.out (fun h => by have := hlo9.out; omega))
      clear e0 hlen hlen2 hmR hcl
      go_upto_region 13 with fail
      go_quiet (fail)
      go_wp2_with fail
      go_roundw
      case rel => exact ⟨m + 1, vi, os2, by omega, by go_num, rfl, by rw [HSP.out]; exact Lib.hid (HQ.out.keep (below_drewN (Below.refl _ _) _)), Lib.hid ⟨⟨HL.out.1.1.keep (below_drewN (Below.refl _ _) _), HL.out.1.2.keep (below_drewN (Below.refl _ _) _)⟩, HL.out.2⟩, Lib.hid (HRW.out.keep (below_drewN (Below.refl _ _) _))⟩
      case measure => first | (simp [intOf]; done) | (simp [intOf]; omega)
     have HSP := Lib.hid (HYES.out ⟨⟨hlo9.out, by omega⟩, by omega, by omega⟩)
     have hreal : rm.x1 < rm.x2 ∧ rm.y1 < rm.y2 := by omega
     have HREAL := Lib.hid hreal
     have hro : (0 ≤ rm.x1 ∧ rm.x1 < rm.x2 ∧ rm.x2 ≤ 600000) ∧ (0 ≤ rm.y1 ∧ rm.y1 < rm.y2 ∧ rm.y2 ≤ 600000) := by
      rcases HOKR.out with h | h
      ·rw [h] at hreal; simp at hreal
      ·unfold proper at h; omega
     have HRO := Lib.hid hro
     clear hreal hro e0 hlen hlen2 hcl
     go_upto_region 13 with fail
     go_quiet (fail)
     go_upto_region 14 with fail
     refine gen_world (fun W' => Below wi.heap.size wi W') (below_drewN (Below.refl _ _) _) ?_
     intro W8 hb8
     have HQ8 := Lib.hid (HQ.out.keep hb8)
     have HL8 := Lib.hid (And.intro (And.intro (HL.out.1.1.keep hb8) (HL.out.1.2.keep hb8)) HL.out.2)
     have HR8 := Lib.hid (HRW.out.keep hb8)
     clear hb8 x0 x1 x2 x3 x4 r0 r1 r2 r3 p0 p1 e1 hlq hbk hw0 hw1
     obtain ⟨d0, d1, d2, d3, d4, d5, d6, d7⟩ := HL8.out.1.2
     simp only [Nat.zero_add] at d0 d1 d2 d3 d4 d5 d6 d7
     go_upto_region 15 with fail
     refine gen_world (fun W9 => BdO W9 W8.heap.size b (.slice ad b.defects.length cd) ∧ Below W8.heap.size W8 W9) ⟨⟨by simp [go_sem], by simp [go_sem], by simp [go_sem], by simp [go_sem], by simp [go_sem], by simp [go_sem], by simp [go_sem], by simp [go_sem], by intro i; simp [go_sem]⟩, by repeat (first | (with_reducible assumption) | exact Below.refl _ _ | (refine Below.setCell ?_ (by first | omega | (simp; omega) | (simp; done)) _) | (refine Below.alloc ?_ (by first | omega | (simp; omega) | (simp; done)) _) | (refine Below.drew ?_))⟩ ?_
     rintro W9 ⟨hbo, hb9⟩
     obtain ⟨g15, hg15⟩ : ∃ g, g = W8.heap.size := ⟨_, rfl⟩
     rw [← hg15] at hbo ⊢
     have HBO9 := Lib.hid hbo
     have HB9 := Lib.hid (show Below g15 W8 W9 from by rw [hg15]; exact hb9)
     have HG15 := Lib.hid hg15
     obtain ⟨av2, cv2, hvi, -, -⟩ := own_slice HQ8.out.o
     subst hvi
     obtain ⟨z0, z1, z2, z3, z4, z5, z6, z7, zf⟩ := hbo
     clear d0 d1 d2 d3 d4 d5 d6 d7 hb9 hg15
     have HDE := Lib.hid (show Calls Tryz.prog 36 #[.int .i64 ((AQ.length : Int) + 1)] W9 fun e w' => e = .returned (.string (baOf (itoa ((AQ.length + 1 : Nat) : Int)))) ∧ Below W9.heap.size W9 w' from decR_any (AQ.length + 1) W9 (by omega))
     have w3 : IntKind.i64.wrap ((AQ.length : Int) + 1) = (AQ.length : Int) + 1 := IntWalk.i64_in _ (by omega)
     obtain ⟨S, hS⟩ : ∃ S, S = baOf (itoa ((AQ.length + 1 : Nat) : Int)) := ⟨_, rfl⟩
     rw [← hS] at HDE
     have hnm : (⟨#[111]⟩ : ByteArray) ++ S = nmO (AQ.length + 1) := by rw [hS]; rfl
     have hnz := nmO_size (AQ.length + 1)
     have hsz : ¬ 9223372036854775807 < (⟨#[111]⟩ : ByteArray).size + S.size := by
      rw [← hnm, ByteArray.size_append] at hnz
      omega
     have HNM := Lib.hid hnm
     have HNZ := Lib.hid (show (nmO (AQ.length + 1)).size ≤ 9223372036854775807 by omega)
     clear hS hnm hnz
     go_upto_region 16 with (go_at_call 36; refine HDE.out.mono ?_; rintro e WD ⟨rfl, hb⟩; have HBOd := Lib.hid (HBO9.out.keep hb); have HBd := Lib.hid hb; have z0 := cell_keep hb z0; have zf0 := frozen_keep hb (block_lt_of_cell HBO9.out.c0) (HBO9.out.f 0); clear hb)
     refine gen_world (fun W' => BdO W' g15 { b with name := nmO (AQ.length + 1) } (.slice ad b.defects.length cd) ∧ Below g15 W8 W') ⟨by rw [HNM.out]; exact HBOd.out.setName (nmO (AQ.length + 1)), (HB9.out.trans (HBd.out.mono (Nat.le_of_lt HBO9.out.lt))).setCell (Nat.le_refl _) _⟩ ?_
     rintro WE ⟨hbe, hb8e⟩
     have HBE := Lib.hid hbe
     have HB8E := Lib.hid hb8e
     have HOLD := Lib.hid (fun (w' : World) (h : Below g15 W8 w') => show CellsBd w' g11 0 b ad cd ∧ (Rects.V w' (some ⟨rb, ro, none⟩) R ∧ (Rects.V w' ad b.defects ∧ g11 < g15 ∧ rb < g15)) from by
      rw [HG15.out] at h
      have hr8 := HR8.out.keep h
      obtain ⟨rb9, ro9, hra, k0, -⟩ := HR8.out.at_ hmR
      injection hra with hra
      injection hra with h1 h2 _
      subst h1 h2
      exact ⟨HL8.out.1.2.keep h, hr8, (HRBw.out.keep ((HHOLD.out W8 HQ8.out.b).2.2)).keep h, by rw [HG15.out]; have := block_lt_of_cell HL8.out.1.2.c0; simpa using this, by rw [HG15.out]; have := block_lt_of_cell k0; simpa using this⟩)
     clear z0 z1 z2 z3 z4 z5 z6 z7 zf zf0 hbe hb8e
     have HRM := Lib.hid (show R[m] = rm from by rw [← HRF.out]; unfold rectF; rw [List.getD_eq_getElem?_getD, List.getElem?_eq_getElem hmR]; rfl)
     have HRX := Lib.hid (fun (w' : World) (h : Below g15 W8 w') => show (w'.cell? ⟨rb, ro + m * 4, none⟩ = some (.int .i64 rm.x1) ∧ w'.cell? ⟨rb, ro + m * 4 + 1, none⟩ = some (.int .i64 rm.y1)) ∧ (w'.cell? ⟨rb, ro + m * 4 + 2, none⟩ = some (.int .i64 rm.x2) ∧ w'.cell? ⟨rb, ro + m * 4 + 3, none⟩ = some (.int .i64 rm.y2)) from by
      obtain ⟨rb9, ro9, hra, k0, k1, k2, k3, -⟩ := (HOLD.out w' h).2.1.at_ hmR
      injection hra with hra
      injection hra with h1 h2 _
      subst h1 h2
      rw [HRM.out] at k0 k1 k2 k3
      exact ⟨⟨k0, k1⟩, k2, k3⟩)
     obtain ⟨NM, hNM⟩ : ∃ N, N = nmO (AQ.length + 1) := ⟨_, rfl⟩
     rw [← hNM] at HBE HNZ
     have HNMe := Lib.hid hNM
     clear hNM HNM
     have kx0 : ∀ u : KW (fun W' => Below g15 W8 W'), (u.w.cell? ⟨rb, ro + m * 4, none⟩ = some (.int .i64 rm.x1) ∧ u.w.cell? ⟨rb, ro + m * 4 + 1, none⟩ = some (.int .i64 rm.y1)) ∧ (u.w.cell? ⟨rb, ro + m * 4 + 2, none⟩ = some (.int .i64 rm.x2) ∧ u.w.cell? ⟨rb, ro + m * 4 + 3, none⟩ = some (.int .i64 rm.y2)) := fun u => HRX.out u.w u.ok
     haveI nn1 : Nonempty (KW (fun W' => Below g15 W8 W')) := ⟨⟨WE, HB8E.out⟩⟩
     refine wp_region_mix (fun w' => ∃ u : KW (fun W' => Below g15 W8 W'), w' = u.w) 24 [(0, true), (1, true), (2, true), (3, true), (4, true), (5, true), (6, true), (7, true), (8, true), (9, true), (10, true), (11, true), (12, true), (13, true), (14, true), (15, true), (16, true), (17, true), (18, true), (19, true), (20, true), (21, true), (22, true), (23, false)] hmix (by as_aux_lemma => kernel_rfl) (KW.mk' HB8E.out.drew) ?_
     have HBu := Lib.hid (HBE.out.keep (Below.refl _ _).drew)
     have HBBu := Lib.hid HB8E.out.drew
     generalize WE.drew = WF at *
     simp only [orderOps, nthOp, List.drop_succ_cons, List.drop_zero]
     repeat (refine wpMix_take ?_; (first | go_big_quiet_step (fail) | quiet_step (fail)); refine wpQuiet_nil ?_)
     obtain ⟨z0, z1, z2, z3, z4, z5, z6, z7, zf⟩ := HBu.out
     refine wpMix_gen ?_
     go_wp2_with fail
     refine One_mk (KW.mk' (HBBu.out.setCell (Nat.le_refl _) _)) (wpMix_end ?_)
     clear kx0 nn1
     go_wp2_with fail
     refine NP_mk ?_
     go_upto_region 17 with fail
     refine gen_world (fun W' => OffSt g15 W8 W' g15 ⟨NM, b.species, rm.x2 - rm.x1, rm.y2 - rm.y1, b.thick, b.cut, b.moisture, b.defects⟩ (.slice none 0 0) []) ⟨((HBu.out.setLen (rm.x2 - rm.x1)).setWid (rm.y2 - rm.y1)).setDef (.slice none 0 0), World.ownsRow_nil _ _ _ _, (fun e => by cases e), by
      have h := HBBu.out
      repeat (first | (with_reducible exact h) | (refine Below.setCell ?_ (by first | exact Nat.le_refl _ | (simp; done) | omega) _) | (refine Below.drew ?_)), Nat.le_refl _⟩ ?_
     rintro W3 h3
     have H3 := Lib.hid h3
     clear h3 z0 z1 z2 z3 z4 z5 z6 z7 zf
     have d7 := (HOLD.out _ H3.out.b).1.c7
     simp only [Nat.zero_add] at d7
     have hdl : b.defects.length ≤ 60 := HDF.out.2
     go_wp2_with fail
     refine wp_cut_exit (Exit.exit 4) [16, 17, 140, 141, 142, 143, 144, 145, 146, 147, 148, 149, 150, 151, 152, 153, 154, 155, 156, 157, 158, 159, 160, 161, 162, 163, 164, 165, 166, 167, 168, 169, 170, 171, 172, 173, 174, 175, 176, 177, 178, 179, 180, 181, 182, 183, 184, 185, 186, 187, 188, 189, 190, 191, 192, 193, 194, 195, 196, 197, 198, 199, 200, 201, 202, 203, 204, 205, 206, 207, 208, 209, 210, 211, 212, 213, 214, 215, 216, 217, 218, 219] (fun u W' => ∃ v, Hid (OffSt g15 W8 W' g15 ⟨NM, b.species, rm.x2 - rm.x1, rm.y2 - rm.y1, b.thick, b.cut, b.moisture, b.defects⟩ v (offD b.defects rm))) ?_ ?_
     ·as_aux_lemma =>
        go_loopw [16] (fun iv wr => ∃ (kd : Nat) (v : Value), kd ≤ b.defects.length ∧ iv = .int .i64 kd ∧ Hid (OffSt g15 W8 wr g15 ⟨NM, b.species, rm.x2 - rm.x1, rm.y2 - rm.y1, b.thick, b.cut, b.moisture, b.defects⟩ v (offD (b.defects.take kd) rm))) (fun iv _ => b.defects.length - (intOf iv).toNat)
        case atStart => exact ⟨0, _, Nat.zero_le _, rfl, H3⟩
        case round =>
         obtain ⟨kd, v, hkd, rfl, HPD⟩ := hrel
         obtain ⟨wd, rfl⟩ : ∃ wo : World, wo = wr := ⟨_, rfl⟩
         obtain ⟨av, cv, rfl, -, -⟩ := own_slice HPD.out.o
         have d7 := (HOLD.out _ HPD.out.b).1.c7
         simp only [Nat.zero_add] at d7
         by_cases hltd : kd < b.defects.length
         ·have hkid : (kd : Int) < (b.defects.length : Int) := by omega
          have w4 : IntKind.i64.wrap ((kd : Int) + 1) = (kd : Int) + 1 := IntWalk.i64_in _ (by omega)
          obtain ⟨lb, lo, hla, s0, s1, s2, s3, -⟩ := (HOLD.out _ HPD.out.b).2.2.1.at_ hltd
          subst hla
          have HYS := Lib.hid (fun h => offD_yes (r := rm) hltd h)
          have HND := Lib.hid (fun h => offD_no (r := rm) hltd h)
          have hds : (0 ≤ b.defects[kd].x1 ∧ b.defects[kd].x1 < b.defects[kd].x2 ∧ b.defects[kd].x2 ≤ 600000) ∧ (0 ≤ b.defects[kd].y1 ∧ b.defects[kd].y1 < b.defects[kd].y2 ∧ b.defects[kd].y2 ≤ 600000) := by
           have := HDF.out.1 _ (List.getElem_mem hltd)
           omega
          have hpl2 : (offD (b.defects.take kd) rm).length ≤ 60 := Nat.le_trans offD_len (by have := List.length_take_le' kd b.defects; omega)
          obtain ⟨P, hP⟩ : ∃ P, P = offD (b.defects.take kd) rm := ⟨_, rfl⟩
          rw [← hP] at HPD HYS HND hpl2
          clear hP
          generalize b.defects[kd] = d at *
          go_upto_region 21 with fail
          refine gen_world (fun W1 => BoxR W1 wd.heap.size d ∧ Below wd.heap.size wd W1) ⟨⟨by simp [go_sem], by simp [go_sem], by simp [go_sem], by simp [go_sem], by simp [go_sem], by simp [go_sem], by simp [go_sem], by simp [go_sem]⟩, by repeat (first | (with_reducible assumption) | exact Below.refl _ _ | (refine Below.setCell ?_ (by first | omega | (simp; omega) | (simp; done)) _) | (refine Below.alloc ?_ (by first | omega | (simp; omega) | (simp; done)) _) | (refine Below.drew ?_))⟩ ?_
          rintro W1 ⟨hbx, hb1⟩
          obtain ⟨g17, hg17⟩ : ∃ g, g = wd.heap.size := ⟨_, rfl⟩
          rw [← hg17] at hbx ⊢
          have HBX := Lib.hid hbx
          have HP1 := Lib.hid (HPD.out.keep hb1)
          obtain ⟨⟨r0, r1⟩, r2, r3⟩ := HRX.out _ HP1.out.b
          obtain ⟨x0, x1, x2, x3, -, -, -, -⟩ := hbx
          have h17 := HBX.out.lt
          have hrb1 := block_lt_of_cell r0
          simp only at hrb1
          clear s0 s1 s2 s3 hb1 hg17 d7
          refine wp_region_grew hmix (by as_aux_lemma => kernel_rfl) ?_
          repeat (first
           | go_big_quiet_step ((go_at_call 37; exact grew_of (refOverlaps_any d rm _)))
           | quiet_step ((go_at_call 37; exact grew_of (refOverlaps_any d rm _))))
          refine wpQuiet_nil ?_
          rintro _ ⟨gg, rfl⟩
          have hb9 : Below W1.heap.size W1 (grew W1 gg) := grewB (Below.refl _ _) (Nat.le_refl _) _
          generalize grew W1 gg = W9b at *
          have HP6 := Lib.hid (HP1.out.keep hb9)
          have HBX6 := Lib.hid (HBX.out.keep hb9)
          clear hb9 r0 r1 r2 r3 x0 x1 x2 x3 h17 hrb1
          cases hov : overlapsB d rm
          ·have HS2 := Lib.hid (HND.out hov)
           clear hov
           go_wp2_with fail
           go_roundw
           case rel => exact ⟨kd + 1, _, by omega, by go_num, by rw [HS2.out]; exact HP6⟩
           case measure => first | (simp [intOf]; done) | (simp [intOf]; omega)
          ·have HS2 := Lib.hid (HYS.out hov)
           have hov2 := overlaps_iff.1 hov
           have hro := HRO.out
           clear hov
           go_upto_region 22 with fail
           obtain ⟨M1, hM1⟩ : ∃ M, max d.x1 rm.x1 = M := ⟨_, rfl⟩
           obtain ⟨M2, hM2⟩ : ∃ M, max d.y1 rm.y1 = M := ⟨_, rfl⟩
           obtain ⟨M3, hM3⟩ : ∃ M, min d.x2 rm.x2 = M := ⟨_, rfl⟩
           obtain ⟨M4, hM4⟩ : ∃ M, min d.y2 rm.y2 = M := ⟨_, rfl⟩
           have HSH := Lib.hid (show cellsR (shf rm d) = [.int .i64 (M1 - rm.x1), .int .i64 (M2 - rm.y1), .int .i64 (M3 - rm.x1), .int .i64 (M4 - rm.y1)] by rw [← hM1, ← hM2, ← hM3, ← hM4]; rfl)
           have m1 : IntKind.i64.wrap (M1 - rm.x1) = M1 - rm.x1 := IntWalk.i64_in _ (by omega)
           have m2 : IntKind.i64.wrap (M2 - rm.y1) = M2 - rm.y1 := IntWalk.i64_in _ (by omega)
           have m3 : IntKind.i64.wrap (M3 - rm.x1) = M3 - rm.x1 := IntWalk.i64_in _ (by omega)
           have m4 : IntKind.i64.wrap (M4 - rm.y1) = M4 - rm.y1 := IntWalk.i64_in _ (by omega)
           have HQ3 := Lib.hid (show (P ++ [shf rm d]).length = P.length + 1 ∧ (P ++ [shf rm d]).flatMap cellsR = P.flatMap cellsR ++ cellsR (shf rm d) from ⟨by simp, by simp⟩)
           have HO1 := Lib.hid (show ∀ u ∈ cellsR (shf rm d), u.oneCell' = true from cellsR_one (shf rm d))
           rw [HSH.out] at HQ3 HO1
           clear hov2 hro
           obtain ⟨⟨r0, r1⟩, r2, r3⟩ := HRX.out _ HP6.out.b
           obtain ⟨x0, x1, x2, x3, -, -, -, -⟩ := HBX6.out
           have c7 := HP6.out.bd.c7
           have kx0 : ∀ u : KW (fun W' => Below W9b.heap.size W9b W'), (u.w.cell? ⟨rb, ro + m * 4, none⟩ = some (.int .i64 rm.x1) ∧ u.w.cell? ⟨rb, ro + m * 4 + 1, none⟩ = some (.int .i64 rm.y1)) ∧ (u.w.cell? ⟨rb, ro + m * 4 + 2, none⟩ = some (.int .i64 rm.x2) ∧ u.w.cell? ⟨rb, ro + m * 4 + 3, none⟩ = some (.int .i64 rm.y2)) := fun u => ⟨⟨cell_keep u.ok r0, cell_keep u.ok r1⟩, cell_keep u.ok r2, cell_keep u.ok r3⟩
           have kx1 : ∀ u : KW (fun W' => Below W9b.heap.size W9b W'), (u.w.cell? ⟨g17, 0, none⟩ = some (.int .i64 d.x1) ∧ u.w.cell? ⟨g17, 1, none⟩ = some (.int .i64 d.y1)) ∧ (u.w.cell? ⟨g17, 2, none⟩ = some (.int .i64 d.x2) ∧ u.w.cell? ⟨g17, 3, none⟩ = some (.int .i64 d.y2)) := fun u => ⟨⟨cell_keep u.ok x0, cell_keep u.ok x1⟩, cell_keep u.ok x2, cell_keep u.ok x3⟩
           have kx2 : ∀ u : KW (fun W' => Below W9b.heap.size W9b W'), u.w.cell? ⟨g15, 7, none⟩ = some (.slice av P.length cv) := fun u => cell_keep u.ok c7
           haveI nn1 : Nonempty (KW (fun W' => Below W9b.heap.size W9b W')) := ⟨⟨W9b, Below.refl _ _⟩⟩
           clear r0 r1 r2 r3 x0 x1 x2 x3 c7
           refine wp_region_mix (fun w' => ∃ u : KW (fun W' => Below W9b.heap.size W9b W'), w' = u.w) 60 [(0, true), (1, true), (2, true), (3, true), (4, true), (5, true), (6, true), (7, true), (8, true), (9, true), (10, true), (11, true), (12, true), (13, true), (14, true), (15, true), (16, true), (17, true), (18, true), (19, true), (20, true), (21, true), (22, true), (23, true), (24, true), (25, true), (26, true), (27, true), (28, true), (29, true), (30, true), (31, true), (32, true), (33, true), (34, true), (35, true), (36, true), (37, true), (38, true), (39, true), (40, true), (41, true), (42, true), (43, true), (44, true), (45, true), (46, true), (47, true), (48, true), (49, true), (50, true), (51, true), (52, true), (53, true), (54, true), (55, true), (56, true), (57, true), (58, true), (59, false)] hmix (by as_aux_lemma => kernel_rfl) (KW.mk' (Below.refl _ _).drew) ?_
           have HP7 := Lib.hid (HP6.out.keep (Below.refl _ _).drew)
           have HBG := Lib.hid (show Below W9b.heap.size W9b W9b.drew from (Below.refl _ _).drew)
           generalize W9b.drew = WG at *
           simp only [orderOps, nthOp, List.drop_succ_cons, List.drop_zero]
           repeat (refine wpMix_take ?_; (first | go_big_quiet_step (fail) | quiet_step (fail)); refine wpQuiet_nil ?_)
           refine wpMix_gen ?_
           go_wp2_with fail
           refine One_mk (KW.mk' (HBG.out.alloc HBG.out.size _)) (wpMix_end ?_)
           clear kx0 kx1 kx2 nn1 HP6 HBX6
           have c7 := HP7.out.bd.c7
           have f7 := HP7.out.bd.f 7
           have hn6 := HP7.out.n
           have HAL := Lib.hid (fun cs T => (Below.refl WG.heap.size WG).alloc (Nat.le_refl _) (.cells cs T))
           have HO6 := Lib.hid HP7.out.o
           go_wp2_with (at_builtin; go_loud (refine wpList_append_here _ rfl _ _ 50 rfl g15 41 i0 (.agg #[.int .i64 0, .int .i64 0, .int .i64 0, .int .i64 0]) 4 32 Tryz.underlying50 hi0 hz0 hz1 hz2 rfl (by decide) (.slice av P.length cv) P.length (P.flatMap cellsR) rfl (own_keep HO6.out (HAL.out _ _)) ⟨WG.heap.size, 0, none⟩ 1 1 [.int .i64 (M1 - rm.x1), .int .i64 (M2 - rm.y1), .int .i64 (M3 - rm.x1), .int .i64 (M4 - rm.y1)] rfl rfl (news_of [.int .i64 (M1 - rm.x1), .int .i64 (M2 - rm.y1), .int .i64 (M3 - rm.x1), .int .i64 (M4 - rm.y1)] _ _ _ rfl) HO1.out (by decide) (by simp only [maxLen]; omega) (by omega) (by simp; omega) ?_; intro v8 w8 ho8 hg8 hv8; obtain ⟨av8, cv8, rfl, -, -⟩ := own_slice ho8; have HP8 := Lib.hid ((HP7.out.keep (HAL.out _ _)).put (ps' := P ++ [shf rm d]) (by rw [HQ3.out.1, HQ3.out.2]; exact ho8) hg8 hv8); have c78 := ((HP7.out.keep (HAL.out _ _)).bd.far hg8 (HP7.out.ne)).c7; have f78 := ((HP7.out.keep (HAL.out _ _)).bd.far hg8 (HP7.out.ne)).f 7; clear ho8 hg8 hv8))
           refine NP_mk ?_
           go_wp2_with fail
           go_roundw
           case rel => exact ⟨kd + 1, _, by omega, by go_num, by rw [HS2.out]; exact HP8⟩
           case measure => first | (simp [intOf]; done) | (simp [intOf]; omega)
         ·obtain rfl : kd = b.defects.length := by omega
          have hkid : ¬ ((b.defects.length : Nat) : Int) < ((b.defects.length : Nat) : Int) := by omega
          rw [List.take_length] at HPD
          go_wp2_with fail
          exact cutx_meet (by dsimp only; rw [fg9]; rfl) ⟨_, HPD⟩
     rintro u wd ⟨v, HPD⟩
     dsimp only
     rw [fg9]
     obtain ⟨av, cv, rfl, -, -⟩ := own_slice HPD.out.o
     have HVV := Lib.hid (own_rowV (R := Rect.at) cellsR_len (by decide) (fun b' o x hx h => ⟨h 0 _ rfl, h 1 _ rfl, h 2 _ rfl, h 3 _ rfl, offD_wf HOKR.out HDF.out x hx⟩) HPD.out.o)
     obtain ⟨a2x, c2x, hac, hc1, hc2⟩ := own_slice HPD.out.o
     injection hac with hac1 hac2 hac3
     subst hac1 hac3
     have HCC := Lib.hid (And.intro hc1 hc2)
     have HLB := Lib.hid (fun (x : Addr) (hx : av = some x) => own_base HPD.out.o (show (Value.slice av (offD b.defects rm).length cv).ownBlock = some x.block by rw [hx]; rfl))
     have HLT := Lib.hid (fun (x : Addr) (hx : av = some x) => ((own_blocks1 HPD.out.o) x.block (by rw [hx]; rfl)).2)
     have HB8d := Lib.hid (show Below W8.heap.size W8 wd from by have h := HPD.out.b; rw [HG15.out] at h; exact h)
     have HQD := Lib.hid (HQ8.out.keep HB8d.out)
     have HLD2 := Lib.hid (And.intro (And.intro (HL8.out.1.1.keep HB8d.out) (HL8.out.1.2.keep HB8d.out)) HL8.out.2)
     have HRD := Lib.hid (HR8.out.keep HB8d.out)
     have HZL := Lib.hid (show g10 < wd.heap.size ∧ (g11 < wd.heap.size ∧ rb < wd.heap.size) from by
      have h1 := block_lt_of_cell HLD2.out.1.1.c0
      have h2 := (HOLD.out _ HPD.out.b).2.2.2
      have h3 := HPD.out.bd.lt
      simp only at h1
      omega)
     have HOO := Lib.hid (show OffOk wd (.slice av2 AQ.length cv2) ⟨offB b rm NM, av, cv⟩ from ⟨HVV.out, HCC.out, fun x hx => ⟨HLT.out x hx, fun e => by have h1 := own_blocks1 HQ8.out.o x.block e; have h2 := HLB.out x hx; have h3 := HG15.out; omega⟩, offB_wf HBWF.out HOKR.out HNZ.out⟩)
     obtain ⟨z0, z1, z2, z3, z4, z5, z6, z7, -⟩ := HPD.out.bd
     clear hac2 hc1 hc2
     have HAL2 := Lib.hid (fun cs T => (Below.refl wd.heap.size wd).alloc (Nat.le_refl _) (.cells cs T))
     have hn2 := HQD.out.n
     have HQ3 := Lib.hid (show cellsOC ⟨offB b rm NM, av, cv⟩ = [.string NM, .string b.species, .int .i64 (rm.x2 - rm.x1), .int .i64 (rm.y2 - rm.y1), .int .i64 b.thick, .int .i64 b.cut, .int .i64 b.moisture, .slice av (offD b.defects rm).length cv] from rfl)
     have HO1 := Lib.hid (cellsOC_one ⟨offB b rm NM, av, cv⟩)
     rw [HQ3.out] at HO1
     simp only at z0 z1 z2 z3 z4 z5 z6
     generalize (offD b.defects rm).length = dl at *
     go_wp2_with (at_builtin; go_loud (refine wpList_append_here _ rfl _ _ 22 rfl N 52 b0 zeroBd 8 96 Tryz.underlying22 hb0 hbz0 hbz1 hbz2 rfl (by decide) (.slice av2 AQ.length cv2) AQ.length (os2.flatMap cellsOC) rfl (own_keep HQD.out.o (HAL2.out _ _)) ⟨wd.heap.size, 0, none⟩ 1 1 [.string NM, .string b.species, .int .i64 (rm.x2 - rm.x1), .int .i64 (rm.y2 - rm.y1), .int .i64 b.thick, .int .i64 b.cut, .int .i64 b.moisture, .slice av dl cv] rfl rfl (news_of [.string NM, .string b.species, .int .i64 (rm.x2 - rm.x1), .int .i64 (rm.y2 - rm.y1), .int .i64 b.thick, .int .i64 b.cut, .int .i64 b.moisture, .slice av dl cv] _ _ _ rfl) HO1.out (by decide) (by simp only [maxLen]; omega) (by omega) (by simp; omega) ?_; intro v8 w8 ho8 hg8 hv8; have HNB := Lib.hid (show ∀ q, q < wd.heap.size → (Value.slice av2 AQ.length cv2).ownBlock ≠ some q → v8.ownBlock ≠ some q from fun q hq hne e => hv8.elim (fun h => hne (h.symm.trans e)) (fun h => by rw [h] at e; injection e with e; simp at e; omega)); have HQF := Lib.hid ((HQD.out.keep (HAL2.out _ _)).push (HOO.out.keep (HAL2.out _ _)) (by rw [HQ3.out]; exact ho8) hg8 hv8); have HLF2 := Lib.hid (And.intro ((HLD2.out.1.1.keep (HAL2.out _ _)).far hg8 HLD2.out.2.1.1) ((HLD2.out.1.2.keep (HAL2.out _ _)).far hg8 HLD2.out.2.1.2)); have HRF2 := Lib.hid ((HRD.out.keep (HAL2.out _ _)).far hg8 HLD2.out.2.2); clear ho8 hg8 hv8))
     go_roundw
     case rel => exact ⟨m + 1, v8, os2 ++ [⟨offB b rm NM, av, cv⟩], by omega, by go_num, rfl, by rw [HSP.out, ← HNMe.out]; exact HQF, Lib.hid ⟨HLF2.out, ⟨HNB.out _ HZL.out.1 HLD2.out.2.1.1, HNB.out _ HZL.out.2.1 HLD2.out.2.1.2⟩, fun x hx => HNB.out _ (by injection hx with hx; rw [← hx]; exact HZL.out.2.2) (HLD2.out.2.2 x hx)⟩, HRF2⟩
     case measure => first | (simp [intOf]; done) | (simp [intOf]; omega)
    ·obtain rfl : m = cs.length := by omega
     have hmi : ¬ ((cs.length : Nat) : Int) < ((cs.length : Nat) : Int) := by omega
     go_wp2_with fail
     go_roundw
     case rel => exact ⟨k + 1, vi, os2, by omega, by go_num, rfl, by rw [HST.out]; exact HQ⟩
     case measure => first | (simp [intOf]; done) | (simp [intOf]; omega)
  ·obtain rfl : k = plan.length := by omega
   have hki : ¬ ((plan.length : Nat) : Int) < ((plan.length : Nat) : Int) := by omega
   have HBE := Lib.hid (HHOLD.out wo HP.out.b).2.2
   have HOA := Lib.hid (show offAll j plan n0 n1 = offPlan j plan n0 n1 plan.length from rfl)
   have hlen := offPlan_len HJE.out (n0 := n0) (n1 := n1) HOK.out plan.length hk
   have hst := (jobOk_of HJE.out).lenS
   obtain ⟨A, hA⟩ : ∃ A, offPlan j plan n0 n1 plan.length = A := ⟨_, rfl⟩
   rw [hA] at HP HOA hlen
   clear hA
   obtain ⟨av2, cv2, rfl, hc1, hc2⟩ := own_slice HP.out.o
   have HBV2 := Lib.hid HP.out.boards
   have HCC := Lib.hid (And.intro hc1 hc2)
   by_cases hbig : 100 < A.length
   ·have hbi : (A.length : Int) > 100 := by omega
    have hz : offE2 j plan n0 n1 = 8 := by unfold offE2; rw [if_neg (fun h => h ⟨hn0, hn1⟩), if_pos (by rw [HOA.out]; exact hbig)]
    have HZ := Lib.hid (And.intro (show LL = [] by rw [HA.out]; unfold offL2; rw [if_neg (by rw [hz]; decide)]) (show EE = 8 by rw [HA2.out, hz]))
    clear hz
    go_wp2_with fail
    go_ret2
    exact OffsPost.nil HZ.out.1 HZ.out.2 HBE.out
   ·have hbi : ¬ (A.length : Int) > 100 := by omega
    have hz : offE2 j plan n0 n1 = 0 := by unfold offE2; rw [if_neg (fun h => h ⟨hn0, hn1⟩), if_neg (by rw [HOA.out]; exact hbig)]
    have HZ := Lib.hid (And.intro (show LL = A by rw [HA.out]; unfold offL2; rw [if_pos hz, HOA.out]) (show EE = 0 by rw [HA2.out, hz]))
    clear hz
    go_wp2_with fail
    go_ret2
    exact ⟨av2, cv2, by rw [HZ.out.1, HZ.out.2]; rfl, by rw [HZ.out.1]; exact HBV2.out, by rw [HZ.out.1]; exact HCC.out, HBE.out⟩
end Go.Proofs.YtjmgboipbhddlaaGreatDoor
