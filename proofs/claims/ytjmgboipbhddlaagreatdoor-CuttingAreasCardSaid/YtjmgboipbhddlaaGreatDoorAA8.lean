import Derived.Test.YtjmgboipbhddlaaGreatDoorAY
set_option linter.unusedVariables false
set_option linter.unusedSimpArgs false
namespace Go.Proofs.YtjmgboipbhddlaaGreatDoor
open Go Go.RowKit Go.Sort Go.Lib

def OffsPost (w : World) (l : List Board) (E : Int) (e : Ending) (w' : World) : Prop :=
 ∃ (a : Option Addr) (c : Nat), e = .returned (.tuple #[.slice a l.length c, .int .i64 E]) ∧ Boards.V w' a l ∧ (l.length ≤ c ∧ c ≤ 9223372036854775807) ∧ Below w.heap.size w w'
theorem OffsPost.nil {w w' : World} {l : List Board} {E E2 : Int} (hl : l = []) (hE : E = E2) (hb : Below w.heap.size w w') : OffsPost w l E (.returned (.tuple #[.slice none 0 0, .int .i64 E2])) w' := by
 subst hl hE
 exact ⟨none, 0, rfl, fun h => absurd rfl h, ⟨Nat.le_refl _, by decide⟩, hb⟩
def offLP (j : Job) (plan : List Layout) (n0 n1 : Int) : List Board := if (planE2 j plan).2 = 0 then offL2 j plan n0 n1 else []
def offEP (j : Job) (plan : List Layout) (n0 n1 : Int) : Int := if (planE2 j plan).2 = 0 then offE2 j plan n0 n1 else (planE2 j plan).2
theorem offTo_yes {b : Board} {l : Layout} {R : List Rect} {n0 n1 : Int} {acc : List Board} {k : Nat} (h : isOff l R n0 n1 k) : offTo b l R n0 n1 acc (k + 1) = offTo b l R n0 n1 acc k ++ [offB b (rectF R k) (nmO ((offTo b l R n0 n1 acc k).length + 1))] := by rw [offTo, if_pos h]
theorem offTo_no {b : Board} {l : Layout} {R : List Rect} {n0 n1 : Int} {acc : List Board} {k : Nat} (h : ¬ isOff l R n0 n1 k) : offTo b l R n0 n1 acc (k + 1) = offTo b l R n0 n1 acc k := by rw [offTo, if_neg h]
theorem LdB.far {W W' : World} {g : Nat} {x : LaidC} {row : Option Nat} (h : LdB W g x) (hg : W.grownBy W' row) (hr : row ≠ some g) : LdB W' g x := ⟨hg.cell h.c0 (fun e => hr e.symm), hg.cell h.c1 (fun e => hr e.symm), hg.cell h.c2 (fun e => hr e.symm)⟩
def OfCut (W0 : World) (b : Board) (r : Rect) (u : Nat → Value) (W : World) : Prop :=
 ∃ (g : Nat) (a : Option Addr) (c : Nat), u 17 = .pointer (some ⟨g, 0, none⟩) ∧ BdO W g (offB b r b.name) (.slice a (offD b.defects r).length c) ∧ Rects.V W a (offD b.defects r) ∧ ((offD b.defects r).length ≤ c ∧ c ≤ 9223372036854775807) ∧ (∀ x : Addr, a = some x → W0.heap.size ≤ x.block ∧ x.block < W.heap.size ∧ x.block ≠ g) ∧ W0.heap.size ≤ g ∧ Below W0.heap.size W0 W
theorem offB_wf {b : Board} {r : Rect} {nm : ByteArray} (hb : b.wf) (hr : okR r) (hn : nm.size ≤ 9223372036854775807) : (offB b r nm).wf := by
 have hr : (-600000 ≤ r.x2 - r.x1 ∧ r.x2 - r.x1 ≤ 600000) ∧ (-600000 ≤ r.y2 - r.y1 ∧ r.y2 - r.y1 ≤ 600000) := by
  rcases hr with rfl | h
  ·simp
  ·unfold proper at h; omega
 unfold Board.wf at *
 unfold offB
 simp only
 omega
set_option maxRecDepth 100000 in
set_option maxHeartbeats 16000000 in
theorem offcuts_any (j : Job) (plan : List Layout) (a1 : Option Addr) (c1 : Nat) (a2 : Option Addr) (c2 : Nat) (ap : Option Addr) (cp : Nat) (n0 n1 : Int) (w : World) (hs : Boards.V w a1 j.stock) (hsl : j.stock.length ≤ 9223372036854775807) (hb : Blanks.V w a2 j.blanks) (hbl : j.blanks.length ≤ 9223372036854775807) (hp : Layouts.V w ap plan) (hpl : plan.length ≤ 1000) (hcuts : ∀ l ∈ plan, l.cuts.length ≤ 100000)
    (hT : Lib.TabIs Tryz.prog w "internal/strconv.uint64pow10" .u64 Lib.pow10Tab) :
    Calls Tryz.prog 9 #[.agg #[.slice a1 j.stock.length c1, .slice a2 j.blanks.length c2, .int .i64 j.trim.kerf, .int .i64 j.trim.ends, .int .i64 j.trim.sides], .slice ap plan.length cp, .agg #[.int .i64 n0, .int .i64 n1]] w (OffsPost w (offLP j plan n0 n1) (offEP j plan n0 n1)) := by
 have hmix : Tryz.prog.follows .mixedOrders = true := by kernel_rfl
 obtain ⟨b0, hb0, hbz0, hbz1, hbz2⟩ := info_parts board_info
 have HCK := Lib.hid (fun w' hs hb hp => checked_any j plan a1 c1 a2 c2 ap cp w' hs hsl hb hbl hp hpl hcuts)
 obtain ⟨AD, CD, hSC⟩ := stock_ch hs
 have HSC := Lib.hid hSC
 have HPV := Lib.hid hp
 have HSV := Lib.hid hs
 have HBV := Lib.hid hb
 have HTB := Lib.hid hT
 have HPO := Lib.hid (show (planE2 j plan).2 = 0 → jobE j = 0 ∧ PlanOk j plan from fun h => ⟨(plan_parts h).1, layGo_ok (plan_parts h).2.1⟩)
 obtain ⟨LL, hLL⟩ : ∃ L, L = offLP j plan n0 n1 := ⟨_, rfl⟩
 obtain ⟨EE, hEE⟩ : ∃ E, E = offEP j plan n0 n1 := ⟨_, rfl⟩
 rw [← hLL, ← hEE]
 obtain ⟨q, hq⟩ : ∃ q, planE2 j plan = q := ⟨_, rfl⟩
 unfold offLP at hLL
 unfold offEP at hEE
 rw [hq] at HCK HPO hLL hEE
 obtain ⟨⟨pb, pl, ⟨x1, y1, x2, y2⟩⟩, E⟩ := q
 simp only at HPO hLL hEE
 have HLL := Lib.hid hLL
 have HEE := Lib.hid hEE
 clear hq hp hs hb hcuts hSC hT hLL hEE
 go_enter Tryz.func9, Tryz.ntmps9
 go_upto_region 1 with fail
 refine gen_world (fun W => JB W w.heap.size j a1 c1 a2 c2 ∧ (W.cell? ⟨w.heap.size + 1, 0, none⟩ = some (.int .i64 n0) ∧ W.cell? ⟨w.heap.size + 1, 1, none⟩ = some (.int .i64 n1)) ∧ Below w.heap.size w W ∧ w.heap.size + 1 < W.heap.size) ⟨⟨by simp [go_sem], by simp [go_sem], by simp [go_sem], by simp [go_sem], by simp [go_sem]⟩, ⟨by simp [go_sem], by simp [go_sem]⟩, by repeat (first | (with_reducible assumption) | exact Below.refl _ _ | (refine Below.setCell ?_ (by first | omega | (simp; omega) | (simp; done)) _) | (refine Below.alloc ?_ (by first | omega | (simp; omega) | (simp; done)) _) | (refine Below.drew ?_)), by simp⟩ ?_
 rintro W ⟨hC, hY, hb, hz⟩
 obtain ⟨gj, hgj⟩ : ∃ g, g = w.heap.size := ⟨_, rfl⟩
 obtain ⟨gk, hgk⟩ : ∃ g, g = w.heap.size + 1 := ⟨_, rfl⟩
 rw [← hgk] at hY hz
 rw [← hgj] at hC
 rw [← hgk, ← hgj]
 have HB := Lib.hid hb
 have HC := Lib.hid hC
 have HY := Lib.hid hY
 have HG := Lib.hid (show gj < W.heap.size from by omega)
 obtain ⟨k0, k1, k2, k3, k4⟩ := hC
 clear hb hgj hgk hz hY
 go_upto_region 2 with (go_at_call 26; refine (HCK.out _ (HSV.out.keep HB.out) (HBV.out.keep HB.out) (HPV.out.keep HB.out)).mono ?_; rintro e w1 hcp; obtain ⟨av, n, cv, rfl, hb1, hxs⟩ := checkedPost_areas hcp; have HXS := Lib.hid hxs; clear hcp hxs; have HB1 := Lib.hid hb1; clear hb1)
 refine gen_world (fun W2 => Below w1.heap.size w1 W2) (by repeat (first | (with_reducible assumption) | exact Below.refl _ _ | (refine Below.setCell ?_ (by first | omega | (simp; omega) | (simp; done)) _) | (refine Below.alloc ?_ (by first | omega | (simp; omega) | (simp; done)) _) | (refine Below.drew ?_))) ?_
 intro W2 hb2
 have hbz := HB1.out.trans (hb2.mono HB1.out.size)
 have HB2 := Lib.hid (HB.out.trans (hbz.mono HB.out.size))
 have HB12 := Lib.hid hb2
 have HGW := Lib.hid (show gj < W2.heap.size from Nat.lt_of_lt_of_le HG.out hbz.size)
 have HC2 := Lib.hid (HC.out.keep hbz HG.out)
 have HY2 := Lib.hid (And.intro (cell_keep hbz HY.out.1) (cell_keep hbz HY.out.2))
 clear hb2 hbz HC HY k0 k1 k2 k3 k4
 by_cases hE : E = 0
 case neg =>
  have hnE := bne_t5 hE
  have hA := HLL.out
  have hB := HEE.out
  rw [if_neg hE] at hA hB
  have HA := Lib.hid hA
  have HA2 := Lib.hid hB
  clear hA hB
  go_wp2_with fail
  go_ret2
  exact OffsPost.nil HA.out HA2.out HB2.out
 subst hE
 obtain ⟨hje, hok⟩ := HPO.out rfl
 have hA := HLL.out
 have hB := HEE.out
 rw [if_pos rfl] at hA hB
 have HA := Lib.hid hA
 have HA2 := Lib.hid hB
 obtain ⟨rfl, xs, hxs, hlv, hlr⟩ := HXS.out rfl
 have HLV := Lib.hid (hlv.keep HB12.out)
 have HLR := Lib.hid hlr
 have hxl : xs.length = plan.length := by rw [← hxs, List.length_map]
 have HXM := Lib.hid hxs
 have HJE := Lib.hid hje
 have HOK := Lib.hid hok
 clear hje hok hxs hlv hlr HXS HPO HLL HEE hA hB
 obtain ⟨y0, y1⟩ := HY2.out
 by_cases hn0 : 1 ≤ n0 ∧ n0 ≤ 600000
 case neg =>
  have HW0 := Lib.hid (withinB_out hn0)
  have hz : offE2 j plan n0 n1 = 2 := by unfold offE2; rw [if_pos (fun h => hn0 h.1)]
  have HZ := Lib.hid (And.intro (show LL = [] by rw [HA.out]; unfold offL2; rw [if_neg (by rw [hz]; decide)]) (show EE = 2 by rw [HA2.out, hz]))
  clear hz
  go_wp2_with (go_at_call 30; refine (cwithin_is _ _ _ _ HW0.out).mono ?_; rintro e w' ⟨rfl, rfl⟩)
  go_ret2
  exact OffsPost.nil HZ.out.1 HZ.out.2 HB2.out
 have HW0 := Lib.hid (withinB_in hn0)
 by_cases hn1 : 1 ≤ n1 ∧ n1 ≤ 600000
 case neg =>
  have HW1 := Lib.hid (withinB_out hn1)
  have hz : offE2 j plan n0 n1 = 2 := by unfold offE2; rw [if_pos (fun h => hn1 h.2)]
  have HZ := Lib.hid (And.intro (show LL = [] by rw [HA.out]; unfold offL2; rw [if_neg (by rw [hz]; decide)]) (show EE = 2 by rw [HA2.out, hz]))
  clear hz
  have tok1 : True := trivial
  go_wp2_with (first
   | (go_at_call 30; have _t := tok1; refine (cwithin_is _ _ _ _ HW0.out).mono ?_; rintro e w' ⟨rfl, rfl⟩; clear tok1 _t)
   | (go_at_call 30; refine (cwithin_is _ _ _ _ HW1.out).mono ?_; rintro e w' ⟨rfl, rfl⟩))
  go_ret2
  exact OffsPost.nil HZ.out.1 HZ.out.2 HB2.out
 have HW1 := Lib.hid (withinB_in hn1)
 have tok1 : True := trivial
 go_upto_region 7 with (first
  | (go_at_call 30; have _t := tok1; refine (cwithin_is _ _ _ _ HW0.out).mono ?_; rintro e w' ⟨rfl, rfl⟩; clear tok1 _t)
  | (go_at_call 30; refine (cwithin_is _ _ _ _ HW1.out).mono ?_; rintro e w' ⟨rfl, rfl⟩))
 obtain ⟨N, hN⟩ : ∃ N, N = W2.heap.size := ⟨_, rfl⟩
 have HST0 := Lib.hid (show OcSt N W2 W2 (.slice none 0 0) [] [] from by rw [hN]; exact OcSt.start W2)
 have HHOLD := Lib.hid (fun (w' : World) (h : Below N W2 w') => show JB w' gj j a1 c1 a2 c2 ∧ ((w'.cell? ⟨gk, 0, none⟩ = some (.int .i64 n0) ∧ w'.cell? ⟨gk, 1, none⟩ = some (.int .i64 n1)) ∧ (Laids.V w' av xs ∧ (Below w.heap.size w w' ∧ Below w1.heap.size w1 w'))) from by
  rw [hN] at h
  exact ⟨HC2.out.keep h HGW.out, ⟨cell_keep h HY2.out.1, cell_keep h HY2.out.2⟩, HLV.out.keep h, HB2.out.trans (h.mono HB2.out.size), HB12.out.trans (h.mono HB12.out.size)⟩)
 have HOP := Lib.hid (show offPlan j plan n0 n1 0 = [] from rfl)
 clear hN y0 y1
 go_wp2_with fail
 go_loopw [40, 11] (fun iv vv wr => ∃ (k : Nat) (vo : Value) (os : List OffC), k ≤ plan.length ∧ iv = .int .i64 k ∧ vo = vv ∧ Hid (OcSt N W2 wr vo (offPlan j plan n0 n1 k) os)) (fun iv _ _ => plan.length - (intOf iv).toNat)
 case atStart => exact ⟨0, _, [], Nat.zero_le _, rfl, rfl, HST0⟩
 case round =>
  obtain ⟨k, vo, os, hk, rfl, rfl, HP⟩ := hrel
  obtain ⟨wo, rfl⟩ : ∃ wo : World, wo = wr := ⟨_, rfl⟩
  by_cases hlt : k < plan.length
  ·have hki : (k : Int) < (plan.length : Int) := by omega
   have v1 : IntKind.i64.wrap ((k : Int) + 1) = (k : Int) + 1 := IntWalk.i64_in _ (by omega)
   have hkx : k < xs.length := by omega
   obtain ⟨-, -, hLk, hbw, hbl⟩ := HHOLD.out wo HP.out.b
   obtain ⟨gl, ol, hla, l0, l1, l2⟩ := hLk.at_ hkx
   subst hla
   have hR := HLR.out _ (List.getElem_mem hkx)
   have hpk : plan[k] = xs[k].lay := by
    have h1 := HXM.out
    subst h1
    simp
   have HST := Lib.hid (offPlan_step (j := j) (n0 := n0) (n1 := n1) hlt)
   have hlen := offPlan_len HJE.out (n0 := n0) (n1 := n1) HOK.out k hk
   rw [hpk] at HST
   obtain ⟨hok, hrs, ⟨hb0, hb1⟩, hcv, ⟨hcl, hcm⟩, hrv⟩ := hR
   obtain ⟨hlr, hl4, hall⟩ := lay_okR HJE.out ⟨hb0, hb1⟩ hok
   rw [← hrs] at hlr hall HST
   generalize xs[k] = x at *
   obtain ⟨⟨lb, cs⟩, R, al, cl, ar, cr⟩ := x
   simp only at l0 l1 l2 hok hrs hb0 hb1 hcv hcl hcm hrv hlr hl4 hall HST
   obtain ⟨nb, hnb⟩ : ∃ nb : Nat, lb = nb := ⟨lb.toNat, by omega⟩
   subst hnb
   have hnbs : nb < j.stock.length := by omega
   have hdf := (jobOk_of HJE.out).defs _ (List.getElem_mem hnbs)
   obtain ⟨⟨gs, off, has, hcb⟩, hrvb, hdc, hdm, hbwf⟩ := HSC.out.ch nb _ (List.getElem?_eq_getElem hnbs)
   subst has
   have HBL := Lib.hid (show bdOfL j ⟨(nb : Int), cs⟩ = j.stock[nb] by unfold bdOfL; simp only [Int.toNat_natCast]; rw [List.getD_eq_getElem?_getD, List.getElem?_eq_getElem hnbs]; rfl)
   rw [HBL.out] at HST
   have HCBw := Lib.hid hcb
   have HRBw := Lib.hid hrvb
   have HDF := Lib.hid hdf
   have HBWF := Lib.hid hbwf
   generalize AD nb = ad at *
   generalize CD nb = cd at *
   generalize j.stock[nb] = b at *
   have hbi : (nb : Int) < (j.stock.length : Int) := by omega
   have HRL := Lib.hid hlr
   have HAL := Lib.hid hall
   have HCVw := Lib.hid (show Cuts.V w1 al cs from hcv)
   have HRVw := Lib.hid (show Rects.V w1 ar R from hrv)
   obtain ⟨A0, hA0⟩ : ∃ A, offPlan j plan n0 n1 k = A := ⟨_, rfl⟩
   rw [hA0] at HP HST hlen
   clear hcb hrvb hok hrs hb0 hb1 hLk hbl hcv hrv hall hlr hA0 hdf hbwf hbw
   go_upto_region 10 with fail
   refine gen_world (fun W5 => LdB W5 wo.heap.size ⟨⟨(nb : Int), cs⟩, R, al, cl, ar, cr⟩ ∧ Below wo.heap.size wo W5 ∧ wo.heap.size < W5.heap.size) ⟨⟨by simp [go_sem], by simp [go_sem], by simp [go_sem]⟩, by repeat (first | (with_reducible assumption) | exact Below.refl _ _ | (refine Below.setCell ?_ (by first | omega | (simp; omega) | (simp; done)) _) | (refine Below.alloc ?_ (by first | omega | (simp; omega) | (simp; done)) _) | (refine Below.drew ?_)), by simp⟩ ?_
   rintro W6 ⟨hld, hb6, hz6⟩
   obtain ⟨g13, hg13⟩ : ∃ g, g = wo.heap.size := ⟨_, rfl⟩
   rw [← hg13] at hld hz6 ⊢
   have HQ6 := Lib.hid (HP.out.keep hb6)
   have HL6 := Lib.hid (And.intro hld (show vo.ownBlock ≠ some g13 from fun e => by have h1 := own_blocks1 HP.out.o g13 e; omega))
   obtain ⟨e0, e1, e2⟩ := hld
   clear l0 l1 l2 hb6 hz6 hg13
   go_wp2_with fail
   go_loopw [48, 11] (fun iv vv wr => ∃ (m : Nat) (vi : Value) (os : List OffC), m ≤ cs.length ∧ iv = .int .i64 m ∧ vi = vv ∧ Hid (OcSt N W2 wr vi (offTo b ⟨(nb : Int), cs⟩ R n0 n1 A0 m) os) ∧ Hid (LdB wr g13 ⟨⟨(nb : Int), cs⟩, R, al, cl, ar, cr⟩ ∧ vi.ownBlock ≠ some g13)) (fun iv _ _ => cs.length - (intOf iv).toNat)
   case atStart => exact ⟨0, vo, os, Nat.zero_le _, rfl, rfl, HQ6, HL6⟩
   case round =>
    obtain ⟨m, vi, os2, hm, rfl, rfl, HQ, HL⟩ := hrel
    obtain ⟨wi, rfl⟩ : ∃ wi : World, wi = wr := ⟨_, rfl⟩
    by_cases hmlt : m < cs.length
    ·have hmi : (m : Int) < (cs.length : Int) := by omega
     have v2 : IntKind.i64.wrap ((m : Int) + 1) = (m : Int) + 1 := IntWalk.i64_in _ (by omega)
     have hbz := (HHOLD.out wi HQ.out.b).2.2.2.2
     obtain ⟨gc, oc, hac, x0, x1, x2, x3, x4, -⟩ := (HCVw.out.keep hbz).at_ hmlt
     subst hac
     have hmR : m < R.length := by rw [HRL.out]; exact hmlt
     have hmRi : (m : Int) < (R.length : Int) := by omega
     obtain ⟨rb, ro, har, r0, r1, r2, r3, -⟩ := (HRVw.out.keep hbz).at_ hmR
     subst har
     have HCF := Lib.hid (show cutF cs m = cs[m] from cutF_get hmlt)
     have HRF := Lib.hid (show rectF R m = R[m] from by unfold rectF; rw [List.getD_eq_getElem?_getD, List.getElem?_eq_getElem hmR]; rfl)
     have HYES := Lib.hid (fun h => offTo_yes (b := b) (l := ⟨(nb : Int), cs⟩) (R := R) (n0 := n0) (n1 := n1) (acc := A0) (k := m) h)
     have HNO := Lib.hid (fun h => offTo_no (b := b) (l := ⟨(nb : Int), cs⟩) (R := R) (n0 := n0) (n1 := n1) (acc := A0) (k := m) h)
     unfold isOff at HYES HNO
     simp only at HYES HNO
     have hlen2 := offTo_len (b := b) (l := ⟨(nb : Int), cs⟩) (R := R) (n0 := n0) (n1 := n1) (acc := A0) m
     have HOKR := Lib.hid (HAL.out _ (List.getElem_mem hmR))
     obtain ⟨AQ, hAQ⟩ : ∃ A, offTo b ⟨(nb : Int), cs⟩ R n0 n1 A0 m = A := ⟨_, rfl⟩
     rw [hAQ] at HQ HYES HNO hlen2
     rw [HCF.out, HRF.out] at HYES HNO
     generalize R[m] = rm at *
     generalize cs[m] = c at *
     have hlen3 : AQ.length ≤ 800000 := by omega
     have hrb : (-600000 ≤ rm.x2 - rm.x1 ∧ rm.x2 - rm.x1 ≤ 600000) ∧ (-600000 ≤ rm.y2 - rm.y1 ∧ rm.y2 - rm.y1 ≤ 600000) := by
      rcases HOKR.out with h | h
      ·rw [h]; simp
      ·unfold proper at h; omega
     have w1 : IntKind.i64.wrap (rm.x2 - rm.x1) = rm.x2 - rm.x1 := IntWalk.i64_in _ (by omega)
     have w2 : IntKind.i64.wrap (rm.y2 - rm.y1) = rm.y2 - rm.y1 := IntWalk.i64_in _ (by omega)
     obtain ⟨e0, e1, e2⟩ := HL.out.1
     clear hAQ hbz hrb
     go_upto_region 13 with fail
     refine gen_world (fun W7 => CellsX W7 wi.heap.size c ∧ Below wi.heap.size wi W7) ⟨⟨by simp [go_sem], by simp [go_sem], by simp [go_sem], by simp [go_sem], by simp [go_sem]⟩, by repeat (first | (with_reducible assumption) | exact Below.refl _ _ | (refine Below.setCell ?_ (by first | omega | (simp; omega) | (simp; done)) _) | (refine Below.alloc ?_ (by first | omega | (simp; omega) | (simp; done)) _) | (refine Below.drew ?_))⟩ ?_
     rintro W7 ⟨⟨y0, y1, y2, y3, y4⟩, hb7⟩
     obtain ⟨g15, hg15⟩ : ∃ g, g = wi.heap.size := ⟨_, rfl⟩
     rw [← hg15] at y0 y1 y2 y3 y4 ⊢
     have HQ7 := Lib.hid (HQ.out.keep hb7)
     have HL7 := Lib.hid (And.intro (HL.out.1.keep hb7) HL.out.2)
     have r0 := cell_keep hb7 r0
     have r1 := cell_keep hb7 r1
     have r2 := cell_keep hb7 r2
     have r3 := cell_keep hb7 r3
     have e2 := cell_keep hb7 e2
     clear hb7 hg15 x0 x1 x2 x3 x4 e0 e1
     go_upto_region 14 with fail
     refine gen_world (fun W8 => BoxR W8 W7.heap.size rm ∧ Below W7.heap.size W7 W8) ⟨⟨by simp [go_sem], by simp [go_sem], by simp [go_sem], by simp [go_sem], by simp [go_sem], by simp [go_sem], by simp [go_sem], by simp [go_sem]⟩, by repeat (first | (with_reducible assumption) | exact Below.refl _ _ | (refine Below.setCell ?_ (by first | omega | (simp; omega) | (simp; done)) _) | (refine Below.alloc ?_ (by first | omega | (simp; omega) | (simp; done)) _) | (refine Below.drew ?_))⟩ ?_
     rintro W8 ⟨hbr, hb8⟩
     obtain ⟨g16, hg16⟩ : ∃ g, g = W7.heap.size := ⟨_, rfl⟩
     rw [← hg16] at hbr ⊢
     have HBR8 := Lib.hid hbr
     have HQ8 := Lib.hid (HQ7.out.keep hb8)
     have HL8 := Lib.hid (And.intro (HL7.out.1.keep hb8) HL7.out.2)
     have y0 := cell_keep hb8 y0
     have y1 := cell_keep hb8 y1
     have y2 := cell_keep hb8 y2
     have y3 := cell_keep hb8 y3
     have y4 := cell_keep hb8 y4
     obtain ⟨s0, s1, s2, s3, -, -, -, -⟩ := hbr
     obtain ⟨p0, p1⟩ := (HHOLD.out W8 HQ8.out.b).2.1
     clear hb8 hg16 r0 r1 r2 r3 e2
     have HLF := Lib.hid (fun w9 => leaf_any c w9)
     by_cases hlo : c.low = 0
     case neg =>
      rw [decide_eq_false hlo] at HLF
      have HSP := Lib.hid (HNO.out (fun h => hlo h.1.1))
      go_wp2_with (go_at_call 28; refine (HLF.out _).mono ?_; rintro e W9 ⟨rfl, hb⟩; have HQE := Lib.hid (HQ8.out.keep hb); have HLE := Lib.hid (And.intro (HL8.out.1.keep hb) HL8.out.2); clear hb)
      go_roundw
      case rel => exact ⟨m + 1, vi, os2, by omega, by go_num, rfl, by rw [HSP.out]; exact HQE, HLE⟩
      case measure => first | (simp [intOf]; done) | (simp [intOf]; omega)
     rw [decide_eq_true hlo] at HLF
     by_cases hbk : c.blank < 0
     case neg =>
      have HSP := Lib.hid (HNO.out (fun h => hbk h.1.2))
      clear hlo
      go_wp2_with (go_at_call 28; refine (HLF.out _).mono ?_; rintro e W9 ⟨rfl, hb⟩; have HQE := Lib.hid (HQ8.out.keep hb); have HLE := Lib.hid (And.intro (HL8.out.1.keep hb) HL8.out.2); have y4 := cell_keep hb y4; clear hb)
      go_roundw
      case rel => exact ⟨m + 1, vi, os2, by omega, by go_num, rfl, by rw [HSP.out]; exact HQE, HLE⟩
      case measure => first | (simp [intOf]; done) | (simp [intOf]; omega)
     by_cases hw0 : rm.x2 - rm.x1 ≥ n0
     case neg =>
      have HSP := Lib.hid (HNO.out (fun h => hw0 h.2.1))
      clear hlo
      go_wp2_with (go_at_call 28; refine (HLF.out _).mono ?_; rintro e W9 ⟨rfl, hb⟩; have HQE := Lib.hid (HQ8.out.keep hb); have HLE := Lib.hid (And.intro (HL8.out.1.keep hb) HL8.out.2); have y4 := cell_keep hb y4; have s0 := cell_keep hb s0; have s2 := cell_keep hb s2; have p0 := cell_keep hb p0; clear hb)
      go_roundw
      case rel => exact ⟨m + 1, vi, os2, by omega, by go_num, rfl, by rw [HSP.out]; exact HQE, HLE⟩
      case measure => first | (simp [intOf]; done) | (simp [intOf]; omega)
     by_cases hw1 : rm.y2 - rm.y1 ≥ n1
     case neg =>
      have HSP := Lib.hid (HNO.out (fun h => hw1 h.2.2))
      clear hlo
      go_wp2_with (go_at_call 28; refine (HLF.out _).mono ?_; rintro e W9 ⟨rfl, hb⟩; have HQE := Lib.hid (HQ8.out.keep hb); have HLE := Lib.hid (And.intro (HL8.out.1.keep hb) HL8.out.2); have y4 := cell_keep hb y4; have s0 := cell_keep hb s0; have s1 := cell_keep hb s1; have s2 := cell_keep hb s2; have s3 := cell_keep hb s3; have p0 := cell_keep hb p0; have p1 := cell_keep hb p1; clear hb)
      go_roundw
      case rel => exact ⟨m + 1, vi, os2, by omega, by go_num, rfl, by rw [HSP.out]; exact HQE, HLE⟩
      case measure => first | (simp [intOf]; done) | (simp [intOf]; omega)
     have HSP := Lib.hid (HYES.out ⟨⟨hlo, hbk⟩, hw0, hw1⟩)
     have hreal : rm.x1 < rm.x2 ∧ rm.y1 < rm.y2 := by omega
     have HOF := Lib.hid (fun w9 h => offcut_any b rm ad cd w9 h HDF.out HOKR.out hreal)
     clear hlo hreal
     go_upto_region 15 with (go_at_call 28; refine (HLF.out _).mono ?_; rintro e W9 ⟨rfl, hb⟩; have HQ9 := Lib.hid (HQ8.out.keep hb); have HL9 := Lib.hid (And.intro (HL8.out.1.keep hb) HL8.out.2); have HBR9 := Lib.hid (HBR8.out.keep hb); have y4 := cell_keep hb y4; have s0 := cell_keep hb s0; have s1 := cell_keep hb s1; have s2 := cell_keep hb s2; have s3 := cell_keep hb s3; have p0 := cell_keep hb p0; have p1 := cell_keep hb p1; clear hb)
     obtain ⟨av2, cv2, hvi, -, -⟩ := own_slice HQ9.out.o
     subst hvi
     obtain ⟨⟨q0, -, -, -, -⟩, -, -, hbw9, -⟩ := HHOLD.out W9 HQ9.out.b
     have HRVb := Lib.hid (HRBw.out.keep hbw9)
     obtain ⟨d0, d1, d2, d3, d4, d5, d6, d7⟩ := HCBw.out.keep hbw9
     obtain ⟨e0, e1, e2⟩ := HL9.out.1
     have HBW9 := Lib.hid hbw9
     have kx0 : ∀ u : KW (fun W' => Below W9.heap.size W9 W'), (u.w.cell? ⟨gj, 0, none⟩ = some (.slice (some ⟨gs, off, none⟩) j.stock.length c1) ∧ u.w.cell? ⟨g13, 0, none⟩ = some (.int .i64 nb)) ∧ u.w.cell? ⟨g16, 0, none⟩ = some (.int .i64 rm.x1) ∧ u.w.cell? ⟨g16, 1, none⟩ = some (.int .i64 rm.y1) ∧ u.w.cell? ⟨g16, 2, none⟩ = some (.int .i64 rm.x2) ∧ u.w.cell? ⟨g16, 3, none⟩ = some (.int .i64 rm.y2) := fun u => ⟨⟨cell_keep u.ok q0, cell_keep u.ok e0⟩, cell_keep u.ok s0, cell_keep u.ok s1, cell_keep u.ok s2, cell_keep u.ok s3⟩
     have kx1 : ∀ u : KW (fun W' => Below W9.heap.size W9 W'), (u.w.cell? ⟨gs, off + nb * 8, none⟩ = some (.string b.name) ∧ u.w.cell? ⟨gs, off + nb * 8 + 1, none⟩ = some (.string b.species)) ∧ u.w.cell? ⟨gs, off + nb * 8 + 2, none⟩ = some (.int .i64 b.length) ∧ u.w.cell? ⟨gs, off + nb * 8 + 3, none⟩ = some (.int .i64 b.width) := fun u => ⟨⟨cell_keep u.ok d0, cell_keep u.ok d1⟩, cell_keep u.ok d2, cell_keep u.ok d3⟩
     have kx2 : ∀ u : KW (fun W' => Below W9.heap.size W9 W'), (u.w.cell? ⟨gs, off + nb * 8 + 4, none⟩ = some (.int .i64 b.thick) ∧ u.w.cell? ⟨gs, off + nb * 8 + 5, none⟩ = some (.int .i64 b.cut)) ∧ u.w.cell? ⟨gs, off + nb * 8 + 6, none⟩ = some (.int .i64 b.moisture) ∧ u.w.cell? ⟨gs, off + nb * 8 + 7, none⟩ = some (.slice ad b.defects.length cd) := fun u => ⟨⟨cell_keep u.ok d4, cell_keep u.ok d5⟩, cell_keep u.ok d6, cell_keep u.ok d7⟩
     haveI nn2 : Nonempty (KW (fun W' => Below W9.heap.size W9 W')) := ⟨⟨W9, Below.refl _ _⟩⟩
     clear y4 s0 s1 s2 s3 p0 p1 q0 e0 e1 e2 d0 d1 d2 d3 d4 d5 d6 d7 hbw9
     refine wp_cut_slots [85, 86, 87, 88, 89, 90, 91, 92, 93, 17] (OfCut W9 b rm) ?_ ?_
     ·refine wp_region_tree (fun w' => ∃ u : KW (fun W' => Below W9.heap.size W9 W'), w' = u.w) 10 (.take 0 (.take 1 (.take 2 (.take 3 (.take 4 (.take 5 (.take 6 (.take 7 (.two 8 (.one 9 .done) 9 (.one 8 .done)))))))))) hmix (by kernel_rfl) (KW.mk' (Below.refl _ _).drew) ?_
      have HC := Lib.hid (show Below W9.heap.size W9 W9.drew from (Below.refl _ _).drew)
      generalize W9.drew = wz at *
      (refine wpTree_take ?_; simp only [nthOp]; (first | go_big_quiet_step (fail) | quiet_step (fail)); refine wpQuiet_nil ?_)
      (refine wpTree_take ?_; simp only [nthOp]; (first | go_big_quiet_step (fail) | quiet_step (fail)); refine wpQuiet_nil ?_)
      (refine wpTree_take ?_; simp only [nthOp]; (first | go_big_quiet_step (fail) | quiet_step (fail)); refine wpQuiet_nil ?_)
      (refine wpTree_take ?_; simp only [nthOp]; (first | go_big_quiet_step (fail) | quiet_step (fail)); refine wpQuiet_nil ?_)
      (refine wpTree_take ?_; simp only [nthOp]; (first | go_big_quiet_step (fail) | quiet_step (fail)); refine wpQuiet_nil ?_)
      (refine wpTree_take ?_; simp only [nthOp]; (first | go_big_quiet_step (fail) | quiet_step (fail)); refine wpQuiet_nil ?_)
      (refine wpTree_take ?_; simp only [nthOp]; (first | go_big_quiet_step (fail) | quiet_step (fail)); refine wpQuiet_nil ?_)
      (refine wpTree_take ?_; simp only [nthOp]; (first | go_big_quiet_step (fail) | quiet_step (fail)); refine wpQuiet_nil ?_)
      refine wpTree_two ?_ ?_
      ·skip
       simp only [nthOp]
       go_wp2_with (go_at_call 31; refine (HOF.out _ (HRVb.out.keep HC.out)).mono ?_; rintro e wt1 ⟨da, dc, rfl, hrv, hcc, hlt, hb⟩; have HDV := Lib.hid hrv; have HDC := Lib.hid hcc; have HDL := Lib.hid (show ∀ x : Addr, da = some x → W9.heap.size ≤ x.block ∧ x.block < wt1.heap.size from fun x hx => ⟨Nat.le_trans HC.out.size (hlt x hx).1, (hlt x hx).2⟩); have HC := Lib.hid (HC.out.trans (hb.mono HC.out.size)); clear hrv hcc hlt hb)
       refine One_mk (KW.mk' HC.out) ?_
       refine wpTree_one ?_
       simp only [nthOp]
       go_wp2_with fail
       have HZ := Lib.hid (show BdO (wt1.alloc (.cells #[.string ⟨#[]⟩, .string ⟨#[]⟩, .int .i64 0, .int .i64 0, .int .i64 0, .int .i64 0, .int .i64 0, .slice none 0 0] 52)) wt1.heap.size ⟨⟨#[]⟩, ⟨#[]⟩, 0, 0, 0, 0, 0, []⟩ (.slice none 0 0) from ⟨by simp [go_sem], by simp [go_sem], by simp [go_sem], by simp [go_sem], by simp [go_sem], by simp [go_sem], by simp [go_sem], by simp [go_sem], by intro i; simp [go_sem]⟩)
       have HGZ := Lib.hid HC.out.size
       have hal := (Below.refl wt1.heap.size wt1).alloc (Nat.le_refl _) (.cells #[.string ⟨#[]⟩, .string ⟨#[]⟩, .int .i64 0, .int .i64 0, .int .i64 0, .int .i64 0, .int .i64 0, .slice none 0 0] 52)
       have HDV := Lib.hid (HDV.out.keep hal)
       have HGN := Lib.hid (show ∀ x : Addr, da = some x → x.block ≠ wt1.heap.size from fun x hx e => by have h1 := (HDL.out x hx).2; omega)
       clear hal
       have HC := Lib.hid (HC.out.alloc HC.out.size (.cells #[.string ⟨#[]⟩, .string ⟨#[]⟩, .int .i64 0, .int .i64 0, .int .i64 0, .int .i64 0, .int .i64 0, .slice none 0 0] 52))
       refine One_mk (KW.mk' HC.out) ?_
       generalize (wt1.alloc (.cells #[.string ⟨#[]⟩, .string ⟨#[]⟩, .int .i64 0, .int .i64 0, .int .i64 0, .int .i64 0, .int .i64 0, .slice none 0 0] 52)) = wt2 at *
       generalize wt1.heap.size = gz at *
       refine wpTree_done ?_
       simp only [List.drop_succ_cons, List.drop_zero]
       obtain ⟨z0, z1, z2, z3, z4, z5, z6, z7, zf⟩ := HZ.out
       go_wp2_with fail
       refine NP_mk ?_
       refine cut_meet (by simp [forget]) ⟨gz, da, dc, rfl, ?_, ?_, HDC.out, ?_, HGZ.out, ?_⟩
       ·exact ⟨by simp [go_sem, offB, *], by simp [go_sem, offB, *], by simp [go_sem, offB, *], by simp [go_sem, offB, *], by simp [go_sem, offB, *], by simp [go_sem, offB, *], by simp [go_sem, offB, *], by simp [go_sem, offB, *], fun i => by simp [frozen_set, zf]⟩
       ·have hvv := HDV.out
        have hg : ∀ x : Addr, da = some x → some gz ≠ some x.block := fun x hx e => by injection e with e; exact HGN.out x hx e.symm
        repeat (first | (with_reducible exact hvv) | (with_reducible refine Rects.V.far ?_ grownBy_set hg))
       ·intro x hx
        have h1 := HDL.out x hx
        have h2 := HGN.out x hx
        have h3 := HZ.out.lt
        refine ⟨h1.1, by simp; omega, h2⟩
       ·have h1 := HC.out
        have h2 := HGZ.out
        repeat (first | (with_reducible exact h1) | (with_reducible refine Below.setCell ?_ (by first | exact h2 | omega) _))
      ·skip
       simp only [nthOp]
       go_wp2_with fail
       have HZ := Lib.hid (show BdO (wz.alloc (.cells #[.string ⟨#[]⟩, .string ⟨#[]⟩, .int .i64 0, .int .i64 0, .int .i64 0, .int .i64 0, .int .i64 0, .slice none 0 0] 52)) wz.heap.size ⟨⟨#[]⟩, ⟨#[]⟩, 0, 0, 0, 0, 0, []⟩ (.slice none 0 0) from ⟨by simp [go_sem], by simp [go_sem], by simp [go_sem], by simp [go_sem], by simp [go_sem], by simp [go_sem], by simp [go_sem], by simp [go_sem], by intro i; simp [go_sem]⟩)
       have HGZ := Lib.hid HC.out.size
       have HC := Lib.hid (HC.out.alloc HC.out.size (.cells #[.string ⟨#[]⟩, .string ⟨#[]⟩, .int .i64 0, .int .i64 0, .int .i64 0, .int .i64 0, .int .i64 0, .slice none 0 0] 52))
       refine One_mk (KW.mk' HC.out) ?_
       generalize (wz.alloc (.cells #[.string ⟨#[]⟩, .string ⟨#[]⟩, .int .i64 0, .int .i64 0, .int .i64 0, .int .i64 0, .int .i64 0, .slice none 0 0] 52)) = wt3 at *
       generalize wz.heap.size = gz at *
       refine wpTree_one ?_
       simp only [nthOp]
       have HZL := Lib.hid (show gz < wt3.heap.size from HZ.out.lt)
       go_wp2_with (go_at_call 31; refine (HOF.out _ (HRVb.out.keep HC.out)).mono ?_; rintro e wt4 ⟨da, dc, rfl, hrv, hcc, hlt, hb⟩; have HZ := Lib.hid (HZ.out.keep hb); have HGN := Lib.hid (show ∀ x : Addr, da = some x → x.block ≠ gz from fun x hx e => by have h1 := (hlt x hx).1; have h2 := HZL.out; omega); have HDV := Lib.hid hrv; have HDC := Lib.hid hcc; have HDL := Lib.hid (show ∀ x : Addr, da = some x → W9.heap.size ≤ x.block ∧ x.block < wt4.heap.size from fun x hx => ⟨Nat.le_trans HC.out.size (hlt x hx).1, (hlt x hx).2⟩); have HC := Lib.hid (HC.out.trans (hb.mono HC.out.size)); clear hrv hcc hlt hb)
       refine One_mk (KW.mk' HC.out) ?_
       refine wpTree_done ?_
       simp only [List.drop_succ_cons, List.drop_zero]
       obtain ⟨z0, z1, z2, z3, z4, z5, z6, z7, zf⟩ := HZ.out
       go_wp2_with fail
       refine NP_mk ?_
       refine cut_meet (by simp [forget]) ⟨gz, da, dc, rfl, ?_, ?_, HDC.out, ?_, HGZ.out, ?_⟩
       ·exact ⟨by simp [go_sem, offB, *], by simp [go_sem, offB, *], by simp [go_sem, offB, *], by simp [go_sem, offB, *], by simp [go_sem, offB, *], by simp [go_sem, offB, *], by simp [go_sem, offB, *], by simp [go_sem, offB, *], fun i => by simp [frozen_set, zf]⟩
       ·have hvv := HDV.out
        have hg : ∀ x : Addr, da = some x → some gz ≠ some x.block := fun x hx e => by injection e with e; exact HGN.out x hx e.symm
        repeat (first | (with_reducible exact hvv) | (with_reducible refine Rects.V.far ?_ grownBy_set hg))
       ·intro x hx
        have h1 := HDL.out x hx
        have h2 := HGN.out x hx
        have h3 := HZ.out.lt
        refine ⟨h1.1, by simp; omega, h2⟩
       ·have h1 := HC.out
        have h2 := HGZ.out
        repeat (first | (with_reducible exact h1) | (with_reducible refine Below.setCell ?_ (by first | exact h2 | omega) _))
     clear kx0 kx1 kx2 nn2
     rintro u WA ⟨gz, da, dc, hu17, hbd, hdv, hdc, hdl, hgz, hb⟩
     simp only [forget, List.foldl_cons, List.foldl_nil, hu17, List.setIfInBounds_toArray, List.set_cons_succ, List.set_cons_zero]
     have HBD := Lib.hid hbd
     have HDV := Lib.hid hdv
     have HDC := Lib.hid hdc
     have HDL := Lib.hid hdl
     have HGZ := Lib.hid hgz
     have HBA := Lib.hid hb
     clear hu17 hbd hdv hdc hdl hgz hb
     have HT9 := Lib.hid (tab_keep (tab_keep HTB.out HBW9.out) HBA.out)
     have HDE := Lib.hid (show Calls Tryz.prog 32 #[.int .i64 ((AQ.length : Int) + 1)] WA fun e w' => e = .returned (.string (baOf (itoa ((AQ.length + 1 : Nat) : Int)))) ∧ Below WA.heap.size WA w' from decP_any (AQ.length + 1) WA (by omega) HT9.out)
     have w3 : IntKind.i64.wrap ((AQ.length : Int) + 1) = (AQ.length : Int) + 1 := IntWalk.i64_in _ (by omega)
     obtain ⟨S, hS⟩ : ∃ S, S = baOf (itoa ((AQ.length + 1 : Nat) : Int)) := ⟨_, rfl⟩
     rw [← hS] at HDE
     have hnm : (⟨#[111]⟩ : ByteArray) ++ S = nmO (AQ.length + 1) := by rw [hS]; rfl
     have hnz := nmO_size (AQ.length + 1)
     have hsz : ¬ 9223372036854775807 < (⟨#[111]⟩ : ByteArray).size + S.size := by
      rw [← hnm, ByteArray.size_append] at hnz
      omega
     have HNM := Lib.hid hnm
     have HNZ := Lib.hid (show (nmO (AQ.length + 1)).size ≤ 9223372036854775807 by omega)
     clear hS hnm hnz
     obtain ⟨z0, z1, z2, z3, z4, z5, z6, z7, zf⟩ := HBD.out
     go_upto_region 17 with (go_at_call 32; refine HDE.out.mono ?_; rintro e WD ⟨rfl, hb⟩; have HBDd := Lib.hid (HBD.out.keep hb); have HDVd := Lib.hid (HDV.out.keep hb); have HBd := Lib.hid hb; have z0 := cell_keep hb z0; have zf0 := frozen_keep hb (block_lt_of_cell HBD.out.c0) (HBD.out.f 0); clear hb)
     refine gen_world (fun W' => BdO W' gz (offB b rm (nmO (AQ.length + 1))) (.slice da (offD b.defects rm).length dc) ∧ Rects.V W' da (offD b.defects rm) ∧ Below W9.heap.size W9 W' ∧ WD.heap.size ≤ W'.heap.size) ⟨by rw [HNM.out]; exact HBDd.out.setName (nmO (AQ.length + 1)), HDVd.out.far grownBy_set (fun x hx e => by injection e with e; exact (HDL.out x hx).2.2 e.symm), (HBA.out.trans (HBd.out.mono HBA.out.size)).setCell HGZ.out _, by simp⟩ ?_
     rintro WE ⟨hbe, hve, hb9e, hzde⟩
     have HBE := Lib.hid hbe
     have HVE := Lib.hid hve
     have HQE0 := Lib.hid (HQ9.out.keep hb9e)
     have HLE0 := Lib.hid (And.intro (HL9.out.1.keep hb9e) HL9.out.2)
     have HZE := Lib.hid (show WA.heap.size ≤ WE.heap.size ∧ W9.heap.size ≤ WE.heap.size from ⟨Nat.le_trans HBd.out.size hzde, hb9e.size⟩)
     have HG13 := Lib.hid (show g13 < WE.heap.size from by have := block_lt_of_cell HLE0.out.1.c0; simpa using this)
     have HOO := Lib.hid (show OffOk WE (.slice av2 AQ.length cv2) ⟨offB b rm (nmO (AQ.length + 1)), da, dc⟩ from ⟨hve, HDC.out, fun x hx => ⟨Nat.lt_of_lt_of_le (HDL.out x hx).2.1 HZE.out.1, fun e => by have h1 := own_blocks1 HQ9.out.o x.block e; have h2 := (HDL.out x hx).1; omega⟩, offB_wf HBWF.out HOKR.out HNZ.out⟩)
     obtain ⟨z0, z1, z2, z3, z4, z5, z6, z7, -⟩ := hbe
     clear hve hb9e hzde zf zf0
     have HAL2 := Lib.hid (fun cs T => (Below.refl WE.heap.size WE).alloc (Nat.le_refl _) (.cells cs T))
     have hn2 := HQE0.out.n
     have HQ3 := Lib.hid (show cellsOC ⟨offB b rm (nmO (AQ.length + 1)), da, dc⟩ = [.string (nmO (AQ.length + 1)), .string b.species, .int .i64 (rm.x2 - rm.x1), .int .i64 (rm.y2 - rm.y1), .int .i64 b.thick, .int .i64 b.cut, .int .i64 b.moisture, .slice da (offD b.defects rm).length dc] from rfl)
     have HO1 := Lib.hid (cellsOC_one ⟨offB b rm (nmO (AQ.length + 1)), da, dc⟩)
     rw [HQ3.out] at HO1
     simp only [offB] at z0 z1 z2 z3 z4 z5 z6
     generalize nmO (AQ.length + 1) = NM at *
     generalize (offD b.defects rm).length = dl at *
     go_wp2_with (at_builtin; go_loud (refine wpList_append_here _ rfl _ _ 22 rfl N 52 b0 zeroBd 8 96 Tryz.underlying22 hb0 hbz0 hbz1 hbz2 rfl (by decide) (.slice av2 AQ.length cv2) AQ.length (os2.flatMap cellsOC) rfl (own_keep HQE0.out.o (HAL2.out _ _)) ⟨WE.heap.size, 0, none⟩ 1 1 [.string NM, .string b.species, .int .i64 (rm.x2 - rm.x1), .int .i64 (rm.y2 - rm.y1), .int .i64 b.thick, .int .i64 b.cut, .int .i64 b.moisture, .slice da dl dc] rfl rfl (news_of [.string NM, .string b.species, .int .i64 (rm.x2 - rm.x1), .int .i64 (rm.y2 - rm.y1), .int .i64 b.thick, .int .i64 b.cut, .int .i64 b.moisture, .slice da dl dc] _ _ _ rfl) HO1.out (by decide) (by simp only [maxLen]; omega) (by omega) (by simp; omega) ?_; intro v8 w8 ho8 hg8 hv8; have HNB := Lib.hid (show v8.ownBlock ≠ some g13 from fun e => hv8.elim (fun h => HLE0.out.2 (h.symm.trans e)) (fun h => by rw [h] at e; injection e with e; have h9 := HG13.out; simp at e; omega)); have HQF := Lib.hid ((HQE0.out.keep (HAL2.out _ _)).push (HOO.out.keep (HAL2.out _ _)) (by rw [HQ3.out]; exact ho8) hg8 hv8); have HLF2 := Lib.hid ((HLE0.out.1.keep (HAL2.out _ _)).far hg8 HLE0.out.2); clear ho8 hg8 hv8))
     go_roundw
     case rel => exact ⟨m + 1, v8, os2 ++ [⟨offB b rm NM, da, dc⟩], by omega, by go_num, rfl, by rw [HSP.out]; exact HQF, Lib.hid ⟨HLF2.out, HNB.out⟩⟩
     case measure => first | (simp [intOf]; done) | (simp [intOf]; omega)
    ·obtain rfl : m = cs.length := by omega
     have hmi : ¬ ((cs.length : Nat) : Int) < ((cs.length : Nat) : Int) := by omega
     go_wp2_with fail
     go_roundw
     case rel => exact ⟨k + 1, vi, os2, by omega, by go_num, rfl, by rw [HST.out]; exact HQ⟩
     case measure => first | (simp [intOf]; done) | (simp [intOf]; omega)
  ·obtain rfl : k = plan.length := by omega
   have hki : ¬ ((plan.length : Nat) : Int) < ((plan.length : Nat) : Int) := by omega
   have HBE := Lib.hid (HHOLD.out wo HP.out.b).2.2.2.1
   have HOA := Lib.hid (show offAll j plan n0 n1 = offPlan j plan n0 n1 plan.length from rfl)
   have hlen := offPlan_len HJE.out (n0 := n0) (n1 := n1) HOK.out plan.length hk
   have hst := (jobOk_of HJE.out).lenS
   obtain ⟨A, hA⟩ : ∃ A, offPlan j plan n0 n1 plan.length = A := ⟨_, rfl⟩
   rw [hA] at HP HOA hlen
   clear hA
   obtain ⟨av2, cv2, rfl, hc1, hc2⟩ := own_slice HP.out.o
   have HBV2 := Lib.hid HP.out.boards
   have HCC := Lib.hid (And.intro hc1 hc2)
   by_cases hbig : 100 < A.length
   ·have hbi : (A.length : Int) > 100 := by omega
    have hz : offE2 j plan n0 n1 = 8 := by unfold offE2; rw [if_neg (fun h => h ⟨hn0, hn1⟩), if_pos (by rw [HOA.out]; exact hbig)]
    have HZ := Lib.hid (And.intro (show LL = [] by rw [HA.out]; unfold offL2; rw [if_neg (by rw [hz]; decide)]) (show EE = 8 by rw [HA2.out, hz]))
    clear hz
    go_wp2_with fail
    go_ret2
    exact OffsPost.nil HZ.out.1 HZ.out.2 HBE.out
   ·have hbi : ¬ (A.length : Int) > 100 := by omega
    have hz : offE2 j plan n0 n1 = 0 := by unfold offE2; rw [if_neg (fun h => h ⟨hn0, hn1⟩), if_neg (by rw [HOA.out]; exact hbig)]
    have HZ := Lib.hid (And.intro (show LL = A by rw [HA.out]; unfold offL2; rw [if_pos hz, HOA.out]) (show EE = 0 by rw [HA2.out, hz]))
    clear hz
    go_wp2_with fail
    go_ret2
    exact ⟨av2, cv2, by rw [HZ.out.1, HZ.out.2]; rfl, by rw [HZ.out.1]; exact HBV2.out, by rw [HZ.out.1]; exact HCC.out, HBE.out⟩
end Go.Proofs.YtjmgboipbhddlaaGreatDoor
