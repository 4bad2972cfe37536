import Derived.Test.YtjmgboipbhddlaaGreatDoorAX
import Derived.Laws.EntriesVeiled
import Derived.RangeFuncLeaves
import Derived.Shelf.Abstract
import Derived.WalkKit
import Derived.OwnWalkIn
import Derived.TacticsInMore
import Derived.LoopNIn
import Derived.LoopIn
import Derived.Test.YtjmgboipbhddlaaGreatDoorPL7
import Derived.Test.YtjmgboipbhddlaaGreatDoorQG
set_option linter.unusedVariables false
set_option linter.unusedSimpArgs false
namespace Go.Proofs.YtjmgboipbhddlaaGreatDoor
open Go Go.RowKit Go.Sort Go.Lib

theorem set_cellA {W : World} {p q : Addr} {u v : Value} (h : W.cell? q = some v) : (W.setCell p u).cell? q = some (if p = q then u else v) := by
 by_cases e : p = q
 ·subst e; rw [if_pos rfl]; exact World.cell?_setCell_same _ _ _ h
 ·rw [if_neg e, World.cell?_setCell_other (h := e)]; exact h
structure ArsO (W : World) (g : Nat) (a : Ars) : Prop where
 c0 : W.cell? ⟨g, 0, none⟩ = some (.int .i64 a.pieces)
 c1 : W.cell? ⟨g, 1, none⟩ = some (.int .i64 a.waste)
 c2 : W.cell? ⟨g, 2, none⟩ = some (.int .i64 a.kerf)
 c3 : W.cell? ⟨g, 3, none⟩ = some (.int .i64 a.trim)
 f0 : W.frozen? ⟨g, 0, none⟩ = false
 f1 : W.frozen? ⟨g, 1, none⟩ = false
 f2 : W.frozen? ⟨g, 2, none⟩ = false
 f3 : W.frozen? ⟨g, 3, none⟩ = false
theorem ArsO.lt {W : World} {g : Nat} {a : Ars} (h : ArsO W g a) : g < W.heap.size := by simpa using block_lt_of_cell h.c0
theorem ArsO.keep {W W' : World} {g : Nat} {a : Ars} (h : ArsO W g a) (hb : Below W.heap.size W W') : ArsO W' g a := ⟨cell_keep hb h.c0, cell_keep hb h.c1, cell_keep hb h.c2, cell_keep hb h.c3, frozen_keep hb h.lt h.f0, frozen_keep hb h.lt h.f1, frozen_keep hb h.lt h.f2, frozen_keep hb h.lt h.f3⟩
def Ars.put (a : Ars) (i : Nat) (n : Int) : Ars := ⟨if i = 0 then n else a.pieces, if i = 1 then n else a.waste, if i = 2 then n else a.kerf, if i = 3 then n else a.trim⟩
theorem ArsO.set {W : World} {g : Nat} {a : Ars} (h : ArsO W g a) (i : Nat) (n : Int) : ArsO (W.setCell ⟨g, i, none⟩ (.int .i64 n)) g (a.put i n) := by
 have k0 := set_cellA (p := ⟨g, i, none⟩) (u := .int .i64 n) h.c0
 have k1 := set_cellA (p := ⟨g, i, none⟩) (u := .int .i64 n) h.c1
 have k2 := set_cellA (p := ⟨g, i, none⟩) (u := .int .i64 n) h.c2
 have k3 := set_cellA (p := ⟨g, i, none⟩) (u := .int .i64 n) h.c3
 simp only [Addr.mk.injEq, true_and, and_true] at k0 k1 k2 k3
 refine ⟨k0.trans ?_, k1.trans ?_, k2.trans ?_, k3.trans ?_, by rw [frozen_set]; exact h.f0, by rw [frozen_set]; exact h.f1, by rw [frozen_set]; exact h.f2, by rw [frozen_set]; exact h.f3⟩ <;> (unfold Ars.put; simp only; split <;> rfl)
structure LdB (W : World) (g : Nat) (x : LaidC) : Prop where
 c0 : W.cell? ⟨g, 0, none⟩ = some (.int .i64 x.lay.board)
 c1 : W.cell? ⟨g, 1, none⟩ = some (.slice x.al x.lay.cuts.length x.cl)
 c2 : W.cell? ⟨g, 2, none⟩ = some (.slice x.ar x.rects.length x.cr)
theorem LdB.keep {W W' : World} {g : Nat} {x : LaidC} (h : LdB W g x) (hb : Below W.heap.size W W') : LdB W' g x := ⟨cell_keep hb h.c0, cell_keep hb h.c1, cell_keep hb h.c2⟩
theorem LdB.off {W : World} {g : Nat} {x : LaidC} (h : LdB W g x) {p : Addr} (hp : p.block ≠ g) {u : Value} : LdB (W.setCell p u) g x := by
 have hn : ∀ o, p ≠ (⟨g, o, none⟩ : Addr) := fun o e => hp (by rw [e])
 exact ⟨by rw [World.cell?_setCell_other (h := hn _)]; exact h.c0, by rw [World.cell?_setCell_other (h := hn _)]; exact h.c1, by rw [World.cell?_setCell_other (h := hn _)]; exact h.c2⟩
structure ArSt (w4 W : World) (g : Nat) (a : Ars) : Prop where
 o : ArsO W g a
 b : Below g w4 W
theorem ArSt.keep {w4 W W' : World} {g : Nat} {a : Ars} (h : ArSt w4 W g a) (hb : Below W.heap.size W W') : ArSt w4 W' g a := ⟨h.o.keep hb, h.b.trans (hb.mono (Nat.le_of_lt h.o.lt))⟩
theorem ArSt.set {w4 W : World} {g : Nat} {a : Ars} (h : ArSt w4 W g a) (i : Nat) (n : Int) : ArSt w4 (W.setCell ⟨g, i, none⟩ (.int .i64 n)) g (a.put i n) := ⟨h.o.set i n, h.b.setCell (Nat.le_refl _) _⟩
def arsV (a : Ars) : Value := .agg #[.int .i64 a.pieces, .int .i64 a.waste, .int .i64 a.kerf, .int .i64 a.trim]
def areasF (j : Job) (plan : List Layout) : Ars := if (planE2 j plan).2 = 0 then areasM j plan else ⟨0, 0, 0, 0⟩
theorem part_bds {r : Rect} {ac : Bool} {a : Int} (h : okR r) (h1 : 1 ≤ a) (h2 : a ≤ sizeR r ac - 1) : (0 ≤ r.x1 ∧ r.x1 ≤ 600000 ∧ 0 ≤ r.y1 ∧ r.y1 ≤ 600000) ∧ (0 ≤ a ∧ a ≤ 600000) := by
 rcases h with rfl | h
 ·exfalso; unfold sizeR at h2; split at h2 <;> simp at h2 <;> omega
 ·unfold proper at h; unfold sizeR at h2; split at h2 <;> omega
def KCut (W0 : World) (n : Int) (u : Nat → Value) (W : World) : Prop := u 17 = .int .i64 n ∧ Below W0.heap.size W0 W
theorem checkedPost_areas {w w' : World} {j : Job} {plan : List Layout} {pb pl x1 y1 x2 y2 E : Int} {e : Ending} (h : CheckedPost w j plan (⟨pb, pl, ⟨x1, y1, x2, y2⟩⟩, E) e w') :
    ∃ (av : Option Addr) (n cv : Nat), e = .returned (.tuple #[.slice av n cv, .agg #[.int .i64 pb, .int .i64 pl, .int .i64 x1, .int .i64 y1, .int .i64 x2, .int .i64 y2], .int .i64 E]) ∧ Below w.heap.size w w' ∧
     (E = 0 → n = plan.length ∧ ∃ xs : List LaidC, xs.map LaidC.lay = plan ∧ Laids.V w' av xs ∧ ∀ x ∈ xs, LaidR j w' x) := by
 obtain ⟨av, n, cv, h1, h2, -, h3⟩ := h
 exact ⟨av, n, cv, h1, h2, h3⟩
set_option maxRecDepth 100000 in
set_option maxHeartbeats 16000000 in
theorem areasOf_any (j : Job) (plan : List Layout) (a1 : Option Addr) (c1 : Nat) (a2 : Option Addr) (c2 : Nat) (ap : Option Addr) (cp : Nat) (w : World) (hs : Boards.V w a1 j.stock) (hsl : j.stock.length ≤ 9223372036854775807) (hb : Blanks.V w a2 j.blanks) (hbl : j.blanks.length ≤ 9223372036854775807) (hp : Layouts.V w ap plan) (hpl : plan.length ≤ 1000) (hcuts : ∀ l ∈ plan, l.cuts.length ≤ 100000) :
    Calls Tryz.prog 8 #[.agg #[.slice a1 j.stock.length c1, .slice a2 j.blanks.length c2, .int .i64 j.trim.kerf, .int .i64 j.trim.ends, .int .i64 j.trim.sides], .slice ap plan.length cp] w fun e w' => e = .returned (.tuple #[arsV (areasF j plan), .int .i64 (planE2 j plan).2]) ∧ Below w.heap.size w w' := by
 have hmix : Tryz.prog.follows .mixedOrders = true := by kernel_rfl
 have HCK := Lib.hid (fun w' hs hb hp => checked_any j plan a1 c1 a2 c2 ap cp w' hs hsl hb hbl hp hpl hcuts)
 obtain ⟨AD, CD, hSC⟩ := stock_ch hs
 have HSC := Lib.hid hSC
 have HPV := Lib.hid hp
 have HSV := Lib.hid hs
 have HBV := Lib.hid hb
 have HAF := Lib.hid (show (planE2 j plan).2 = 0 → areasF j plan = areasM j plan from fun h => by unfold areasF; rw [if_pos h])
 have HAZ := Lib.hid (show ¬ (planE2 j plan).2 = 0 → areasF j plan = ⟨0, 0, 0, 0⟩ from fun h => by unfold areasF; rw [if_neg h])
 have HPO := Lib.hid (show (planE2 j plan).2 = 0 → jobE j = 0 ∧ PlanOk j plan from fun h => ⟨(plan_parts h).1, layGo_ok (plan_parts h).2.1⟩)
 obtain ⟨q, hq⟩ : ∃ q, planE2 j plan = q := ⟨_, rfl⟩
 rw [hq] at HCK HAF HAZ HPO ⊢
 obtain ⟨⟨pb, pl, ⟨x1, y1, x2, y2⟩⟩, E⟩ := q
 simp only at HAF HAZ HPO ⊢
 clear hq hp hs hb hcuts hSC
 go_enter Tryz.func8, Tryz.ntmps8
 go_upto_region 1 with fail
 refine gen_world (fun W => JB W w.heap.size j a1 c1 a2 c2 ∧ ArsO W (w.heap.size + 1) ⟨0, 0, 0, 0⟩ ∧ Below w.heap.size w W ∧ w.heap.size + 1 < W.heap.size) ⟨⟨by simp [go_sem], by simp [go_sem], by simp [go_sem], by simp [go_sem], by simp [go_sem]⟩, ⟨by simp [go_sem], by simp [go_sem], by simp [go_sem], by simp [go_sem], by simp [go_sem], by simp [go_sem], by simp [go_sem], by simp [go_sem]⟩, by repeat (first | (with_reducible assumption) | exact Below.refl _ _ | (refine Below.setCell ?_ (by first | omega | (simp; omega) | (simp; done)) _) | (refine Below.alloc ?_ (by first | omega | (simp; omega) | (simp; done)) _) | (refine Below.drew ?_)), by simp⟩ ?_
 rintro W ⟨hC, hZ, hb, hz⟩
 obtain ⟨gj, hgj⟩ : ∃ g, g = w.heap.size := ⟨_, rfl⟩
 obtain ⟨g4, hg4⟩ : ∃ g, g = w.heap.size + 1 := ⟨_, rfl⟩
 rw [← hg4] at hZ hz
 rw [← hgj] at hC
 rw [← hg4, ← hgj]
 have HB := Lib.hid hb
 have HZ := Lib.hid hZ
 have HC := Lib.hid hC
 have HG := Lib.hid (show w.heap.size ≤ g4 ∧ gj < W.heap.size from ⟨by omega, by omega⟩)
 obtain ⟨k0, k1, k2, k3, k4⟩ := hC
 clear hb hZ hgj hg4 hz
 go_upto_region 2 with (go_at_call 26; refine (HCK.out _ (HSV.out.keep HB.out) (HBV.out.keep HB.out) (HPV.out.keep HB.out)).mono ?_; rintro e w1 hcp; obtain ⟨av, n, cv, rfl, hb1, hxs⟩ := checkedPost_areas hcp; have HXS := Lib.hid hxs; clear hcp hxs; have HB1 := Lib.hid hb1; clear hb1)
 refine gen_world (fun W2 => Below w1.heap.size w1 W2) (by repeat (first | (with_reducible assumption) | exact Below.refl _ _ | (refine Below.setCell ?_ (by first | omega | (simp; omega) | (simp; done)) _) | (refine Below.alloc ?_ (by first | omega | (simp; omega) | (simp; done)) _) | (refine Below.drew ?_))) ?_
 intro W2 hb2
 have hbz := HB1.out.trans (hb2.mono HB1.out.size)
 have HB2 := Lib.hid (HB.out.trans (hbz.mono HB.out.size))
 have HB12 := Lib.hid hb2
 have HGW := Lib.hid (show gj < W2.heap.size from Nat.lt_of_lt_of_le HG.out.2 hbz.size)
 have HC2 := Lib.hid (HC.out.keep hbz HG.out.2)
 have HZ2 := Lib.hid (HZ.out.keep hbz)
 clear hb2 hbz HC HZ k0 k1 k2 k3 k4
 by_cases hE : E = 0
 case neg =>
  have HA := Lib.hid (HAZ.out hE)
  have hnE := bne_t5 hE
  obtain ⟨z0, z1, z2, z3, f0, f1, f2, f3⟩ := HZ2.out
  go_wp2_with fail
  refine bodyPost_ret (v := .tuple #[arsV ⟨0, 0, 0, 0⟩, .int .i64 E]) (by simp [results, Tryz.results8, go_sem, arsV, *]) rfl ?_
  exact ⟨by rw [HA.out], by
   have h1 := HB2.out
   have h2 := HG.out.1
   repeat (first | exact h1 | (refine Below.setCell ?_ (by first | exact h2 | omega) _))⟩
 subst hE
 have HA := Lib.hid (HAF.out rfl)
 obtain ⟨hje, hok⟩ := HPO.out rfl
 obtain ⟨rfl, xs, hxs, hlv, hlr⟩ := HXS.out rfl
 have HLV := Lib.hid (hlv.keep HB12.out)
 have HLR := Lib.hid hlr
 have hxl : xs.length = plan.length := by rw [← hxs, List.length_map]
 have HXM := Lib.hid hxs
 have HJE := Lib.hid hje
 have HOK := Lib.hid hok
 have hst := (jobOk_of hje).lenS
 have HJO := Lib.hid (jobOk_of hje)
 clear hje hok hxs hlv hlr HXS HAF HAZ HPO
 go_upto_region 5 with fail
 refine gen_world (fun W4 => ArSt W2 W4 W2.heap.size ⟨0, 0, 0, 0⟩) ⟨⟨by simp [go_sem], by simp [go_sem], by simp [go_sem], by simp [go_sem], by simp [go_sem], by simp [go_sem], by simp [go_sem], by simp [go_sem]⟩, by repeat (first | (with_reducible assumption) | exact Below.refl _ _ | (refine Below.setCell ?_ (by first | omega | (simp; omega) | (simp; done)) _) | (refine Below.alloc ?_ (by first | omega | (simp; omega) | (simp; done)) _) | (refine Below.drew ?_))⟩ ?_
 rintro W4 h4
 have H4 := Lib.hid h4
 obtain ⟨g9, hg9⟩ : ∃ g, g = W2.heap.size := ⟨_, rfl⟩
 rw [← hg9]
 have H4 := Lib.hid (show ArSt W2 W4 g9 ⟨0, 0, 0, 0⟩ from by rw [hg9]; exact H4.out)
 have HHOLD := Lib.hid (fun (w' : World) (h : Below g9 W2 w') => show JB w' gj j a1 c1 a2 c2 ∧ (ArsO w' g4 ⟨0, 0, 0, 0⟩ ∧ (Laids.V w' av xs ∧ (Below w.heap.size w w' ∧ Below w1.heap.size w1 w'))) from by
  rw [hg9] at h
  exact ⟨HC2.out.keep h HGW.out, HZ2.out.keep h, HLV.out.keep h, HB2.out.trans (h.mono HB2.out.size), HB12.out.trans (h.mono HB12.out.size)⟩)
 have HG9 := Lib.hid (show gj < g9 from by rw [hg9]; exact HGW.out)
 clear hg9 h4
 go_wp2_with fail
 go_loopw [31] (fun iv wr => ∃ k : Nat, k ≤ plan.length ∧ iv = .int .i64 k ∧ Hid (ArSt W2 wr g9 (arPlan j plan k))) (fun iv _ => plan.length - (intOf iv).toNat)
 case atStart => exact ⟨0, Nat.zero_le _, rfl, H4⟩
 case round =>
  obtain ⟨k, hk, rfl, HP⟩ := hrel
  obtain ⟨wo, rfl⟩ : ∃ wo : World, wo = wr := ⟨_, rfl⟩
  by_cases hlt : k < plan.length
  ·have hki : (k : Int) < (plan.length : Int) := by omega
   have v1 : IntKind.i64.wrap ((k : Int) + 1) = (k : Int) + 1 := IntWalk.i64_in _ (by omega)
   have hkx : k < xs.length := by omega
   obtain ⟨⟨q0, q1, q2, q3, q4⟩, -, hLk, hbw, hbl⟩ := HHOLD.out wo HP.out.b
   obtain ⟨gl, ol, rfl, l0, l1, l2⟩ := hLk.at_ hkx
   have hR := HLR.out _ (List.getElem_mem hkx)
   have hpk : plan[k] = xs[k].lay := by
    have h1 := HXM.out
    subst h1
    simp
   have HST := Lib.hid (arPlan_step (j := j) hlt)
   have hbd := arPlan_bd HJE.out HOK.out k hk
   have HPB := Lib.hid (show (arPlan j plan k).bd 1000000000000000000 from hbd.mono (by omega))
   have HEQ := Lib.hid hpk
   rw [hpk] at HST
   obtain ⟨hok, hrs, ⟨hb0, hb1⟩, hcv, ⟨hcl, hcm⟩, hrv⟩ := hR
   have hcvo := hcv.keep hbl
   have hrvo := hrv.keep hbl
   obtain ⟨hlr, hl4, hall⟩ := lay_okR HJE.out ⟨hb0, hb1⟩ hok
   rw [← hrs] at hlr hall HST
   have hne := lay_some (l := xs[k].lay) (rs := xs[k].rects) (by rw [hrs, ← hok])
   generalize xs[k] = x at *
   obtain ⟨⟨lb, cs⟩, R, al, cl, ar, cr⟩ := x
   simp only at l0 l1 l2 hok hrs hb0 hb1 hcvo hcl hcm hrvo hlr hl4 hall HST HEQ hne
   obtain ⟨nb, hnb⟩ : ∃ nb : Nat, lb = nb := ⟨lb.toNat, by omega⟩
   subst hnb
   have hnbs : nb < j.stock.length := by omega
   have HBA := Lib.hid (bdA_bd (jobOk_of HJE.out) (l := ⟨(nb : Int), cs⟩) ⟨hb0, hb1⟩)
   obtain ⟨⟨gs, off, has, hcb⟩, hrvb, -⟩ := HSC.out.ch nb _ (List.getElem?_eq_getElem hnbs)
   subst has
   have HBQ := Lib.hid (show bdA j ⟨(nb : Int), cs⟩ = j.stock[nb].length * j.stock[nb].width by unfold bdA; simp only [Int.toNat_natCast]; rw [List.getD_eq_getElem?_getD, List.getElem?_eq_getElem hnbs]; rfl)
   obtain ⟨s0, s1, s2, s3, s4, s5, s6, s7⟩ := hcb.keep hbw
   generalize AD nb = ad at *
   generalize CD nb = cd at *
   generalize j.stock[nb] = b at *
   have hbi : (nb : Int) < (j.stock.length : Int) := by omega
   have HCV := Lib.hid hcvo
   have HRQ := Lib.hid hrs
   have HCVw := Lib.hid (show Cuts.V w1 al cs from hcv)
   have HRVw := Lib.hid (show Rects.V w1 ar R from hrv)
   have HRV := Lib.hid hrvo
   have HRL := Lib.hid hlr
   have HAL := Lib.hid hall
   clear hcb hrvb hok hrs hb0 hb1 hLk hbl hcv hrv hcvo hrvo hall hlr
   go_upto_region 8 with fail
   refine gen_world (fun W5 => LdB W5 wo.heap.size ⟨⟨(nb : Int), cs⟩, R, al, cl, ar, cr⟩ ∧ Below wo.heap.size wo W5 ∧ wo.heap.size < W5.heap.size) ⟨⟨by simp [go_sem], by simp [go_sem], by simp [go_sem]⟩, by repeat (first | (with_reducible assumption) | exact Below.refl _ _ | (refine Below.setCell ?_ (by first | omega | (simp; omega) | (simp; done)) _) | (refine Below.alloc ?_ (by first | omega | (simp; omega) | (simp; done)) _) | (refine Below.drew ?_)), by simp⟩ ?_
   rintro W6 ⟨hld, hb6, hz6⟩
   obtain ⟨g11, hg11⟩ : ∃ g, g = wo.heap.size := ⟨_, rfl⟩
   rw [← hg11] at hld hz6 ⊢
   have HLDa := Lib.hid hld
   have HG11 := Lib.hid hg11
   clear hg11
   obtain ⟨e0, e1, e2⟩ := hld
   have q0 := cell_keep hb6 q0
   have s0 := cell_keep hb6 s0
   have s1 := cell_keep hb6 s1
   have s2 := cell_keep hb6 s2
   have s3 := cell_keep hb6 s3
   have s4 := cell_keep hb6 s4
   have s5 := cell_keep hb6 s5
   have s6 := cell_keep hb6 s6
   have s7 := cell_keep hb6 s7
   go_upto_region 9 with fail
   refine gen_world (fun W5 => CellsBd W5 W6.heap.size 0 b ad cd ∧ Below W6.heap.size W6 W5) ⟨⟨by simp [go_sem], by simp [go_sem], by simp [go_sem], by simp [go_sem], by simp [go_sem], by simp [go_sem], by simp [go_sem], by simp [go_sem]⟩, by repeat (first | (with_reducible assumption) | exact Below.refl _ _ | (refine Below.setCell ?_ (by first | omega | (simp; omega) | (simp; done)) _) | (refine Below.alloc ?_ (by first | omega | (simp; omega) | (simp; done)) _) | (refine Below.drew ?_))⟩ ?_
   rintro W5 ⟨hcb, hb56⟩
   have hb5 := hb6.trans (hb56.mono hb6.size)
   have hld := HLDa.out.keep hb56
   have hz5 : g11 < W5.heap.size := Nat.lt_of_lt_of_le hz6 hb56.size
   obtain ⟨g12, hg12⟩ : ∃ g, g = W6.heap.size := ⟨_, rfl⟩
   rw [← hg12] at hcb ⊢
   clear e0 e1 e2 hg12 hb6 hb56 hz6 HLDa
   have HLD := Lib.hid hld
   have HP5 := Lib.hid (HP.out.keep hb5)
   have HN9 := Lib.hid (show g9 ≠ g11 ∧ g11 < W5.heap.size from ⟨by have h1 := HP.out.o.lt; have h2 := HG11.out; omega, hz5⟩)
   have hw5 := hbw.trans (hb5.mono hbw.size)
   have HCV5 := Lib.hid (HCV.out.keep hb5)
   have HRV5 := Lib.hid (HRV.out.keep hb5)
   have hRn : 0 < R.length := List.length_pos_iff.2 hne
   obtain ⟨rb, ro, har, r0, r1, r2, r3, -⟩ := HRV5.out.at_ hRn
   subst har
   obtain ⟨e0, e1, e2⟩ := hld
   obtain ⟨-, -, d2, d3, -, -, -, -⟩ := hcb
   simp only [Nat.zero_add, Nat.zero_mul, Nat.add_zero] at d2 d3 r0 r1 r2 r3
   have HR0 := Lib.hid (show R[0] = rectF R 0 from by unfold rectF; rw [List.getD_eq_getElem?_getD, List.getElem?_eq_getElem hRn]; rfl)
   obtain ⟨A0, hA0⟩ : ∃ A, areaK R[0] = A := ⟨_, rfl⟩
   have hokr := HAL.out _ (List.getElem_mem hRn)
   have HAK := Lib.hid (fun w9 => areaK_is R[0] A0 w9 hokr hA0)
   have hkb := areaK_bd hokr
   rw [hA0] at hkb
   have HA0 := Lib.hid (show areaK (rectF R 0) = A0 by rw [← HR0.out]; exact hA0)
   obtain ⟨LW, hLW⟩ : ∃ q, b.length * b.width = q := ⟨_, rfl⟩
   have hlw := HBA.out
   rw [HBQ.out, hLW] at hlw
   have HLW := Lib.hid (show bdA j ⟨(nb : Int), cs⟩ = LW by rw [HBQ.out, hLW])
   obtain ⟨⟨hp1, hp2⟩, ⟨hp3, hp4⟩, ⟨hp5, hp6⟩, hp7, hp8⟩ := HPB.out
   obtain ⟨a, ha⟩ : ∃ a, arPlan j plan k = a := ⟨_, rfl⟩
   rw [ha] at HP5 HST hp7 hp8
   have w1 : IntKind.i64.wrap (b.length * b.width) = LW := by rw [hLW]; exact IntWalk.i64_in _ (by omega)
   have w2 : IntKind.i64.wrap (LW - A0) = LW - A0 := IntWalk.i64_in _ (by omega)
   have w3 : IntKind.i64.wrap (a.trim + (LW - A0)) = a.trim + (LW - A0) := IntWalk.i64_in _ (by omega)
   have HBG := Lib.hid (show a.put 3 (a.trim + (LW - A0)) = arBegin j ⟨(nb : Int), cs⟩ R a by unfold arBegin Ars.put; rw [HLW.out, HA0.out]; simp)
   have hab := (arPlan_bd HJE.out HOK.out k hk)
   rw [ha] at hab
   have HAB := Lib.hid (show (arBegin j ⟨(nb : Int), cs⟩ R a).bd (1000000000000000 * k + 1000000000000) from by
    have hpo := HOK.out _ (List.getElem_mem hlt)
    rw [HEQ.out] at hpo
    exact arBegin_bd (jobOk_of HJE.out) hpo.1 HAL.out hab)
   have HNR := Lib.hid (fun m (hm : m < cs.length) (hlo : ¬ (cutF cs m).low = 0) => show NodeR cs j.trim.kerf (rectF R) m from by
    have hpo := HOK.out _ (List.getElem_mem hlt)
    rw [HEQ.out] at hpo
    rw [HRQ.out]
    exact (reg_struct (show (regM (usableR (j.stock.getD (nb : Int).toNat default) j.trim) j.trim.kerf cs).2 = 0 from hpo.2)).2 m hm hlo)
   generalize R[0] = rr0 at *
   clear hp1 hp2 hp3 hp4 hp5 hp6 hp7 hp8 ha hab hLW hlw hkb hA0 hokr l0 l1 l2 s0 s1 s2 s3 s4 s5 s6 s7 q0 q1 q2 q3 q4 hb5 hbw
   obtain ⟨m0, m1, m2, m3, mf0, mf1, mf2, mf3⟩ := HP5.out.o
   have kx0 : ∀ u : KW (fun W' => Below W5.heap.size W5 W'), (u.w.cell? ⟨g9, 3, none⟩ = some (.int .i64 a.trim) ∧ u.w.cell? ⟨g12, 2, none⟩ = some (.int .i64 b.length) ∧ u.w.cell? ⟨g12, 3, none⟩ = some (.int .i64 b.width) ∧ u.w.cell? ⟨g11, 2, none⟩ = some (.slice (some ⟨rb, ro, none⟩) R.length cr)) ∧ u.w.cell? ⟨rb, ro, none⟩ = some (.int .i64 rr0.x1) ∧ u.w.cell? ⟨rb, ro + 1, none⟩ = some (.int .i64 rr0.y1) ∧ u.w.cell? ⟨rb, ro + 2, none⟩ = some (.int .i64 rr0.x2) ∧ u.w.cell? ⟨rb, ro + 3, none⟩ = some (.int .i64 rr0.y2) := fun u => ⟨⟨cell_keep u.ok m3, cell_keep u.ok d2, cell_keep u.ok d3, cell_keep u.ok e2⟩, cell_keep u.ok r0, cell_keep u.ok r1, cell_keep u.ok r2, cell_keep u.ok r3⟩
   have hR0 : (0 : Int) < (R.length : Int) := by omega
   haveI nn1 : Nonempty (KW (fun W' => Below W5.heap.size W5 W')) := ⟨⟨W5, Below.refl _ _⟩⟩
   refine wp_region_tree (fun w' => ∃ u : KW (fun W' => Below W5.heap.size W5 W'), w' = u.w) 13 (.take 0 (.take 1 (.take 2 (.take 3 (.take 4 (.take 5 (.take 6 (.take 7 (.take 8 (.take 9 (.take 10 (.one 11 (.take 12 .done))))))))))))) hmix (by kernel_rfl) (KW.mk' (Below.refl _ _).drew) ?_
   have HCz := Lib.hid (show Below W5.heap.size W5 W5.drew from (Below.refl _ _).drew)
   clear m0 m1 m2 m3 mf0 mf1 mf2 mf3 e0 e1 e2 d2 d3 r0 r1 r2 r3
   generalize W5.drew = wz at *
   repeat (refine wpTree_take ?_; simp only [nthOp]; (first | go_big_quiet_step (fail) | quiet_step (fail)); refine wpQuiet_nil ?_)
   refine wpTree_one ?_
   simp only [nthOp]
   go_wp2_with (go_at_call 27; refine (HAK.out _).mono ?_; rintro e wa ⟨rfl, hb⟩; have HCa := Lib.hid (HCz.out.trans (hb.mono HCz.out.size)); clear hb)
   refine One_mk (KW.mk' HCa.out) ?_
   repeat (refine wpTree_take ?_; simp only [nthOp]; (first | go_big_quiet_step (fail) | quiet_step (fail)); refine wpQuiet_nil ?_)
   refine wpTree_done ?_
   simp only [List.drop_succ_cons, List.drop_zero]
   have HP6 := Lib.hid (HP5.out.keep HCa.out)
   have HLD6 := Lib.hid (HLD.out.keep HCa.out)
   have HCV6 := Lib.hid (HCV5.out.keep HCa.out)
   have HRV6 := Lib.hid (HRV5.out.keep HCa.out)
   have HZ6 := Lib.hid HCa.out.size
   clear kx0 nn1 HCz HCa
   obtain ⟨m0, m1, m2, m3, mf0, mf1, mf2, mf3⟩ := HP6.out.o
   go_wp2_with fail
   refine NP_mk ?_
   go_upto_region 10 with fail
   refine gen_world (fun W7 => ArSt W2 W7 g9 (arBegin j ⟨(nb : Int), cs⟩ R a) ∧ LdB W7 g11 ⟨⟨(nb : Int), cs⟩, R, al, cl, some ⟨rb, ro, none⟩, cr⟩) ⟨by rw [← HBG.out]; exact HP6.out.set 3 _, HLD6.out.off (p := ⟨g9, 3, none⟩) HN9.out.1⟩ ?_
   rintro W7 ⟨h7, l7⟩
   have HP7 := Lib.hid h7
   have HLD7 := Lib.hid l7
   obtain ⟨A1, hA1⟩ : ∃ A, arBegin j ⟨(nb : Int), cs⟩ R a = A := ⟨_, rfl⟩
   rw [hA1] at HP7 HAB HST
   obtain ⟨e0, e1, e2⟩ := l7
   have hkp := HJO.out.trim.1
   clear m0 m1 m2 m3 mf0 mf1 mf2 mf3 hA1 h7 HBG HP6 HLD6 HCV6 HRV6 HZ6 w1 w2 w3 HAK HR0 HA0
   go_wp2_with fail
   go_loopw [61] (fun iv wr => ∃ m : Nat, m ≤ cs.length ∧ iv = .int .i64 m ∧ Hid (ArSt W2 wr g9 (arTo ⟨(nb : Int), cs⟩ R A1 m)) ∧ Hid (LdB wr g11 ⟨⟨(nb : Int), cs⟩, R, al, cl, some ⟨rb, ro, none⟩, cr⟩)) (fun iv _ => cs.length - (intOf iv).toNat)
   case atStart => exact ⟨0, Nat.zero_le _, rfl, HP7, HLD7⟩
   case round =>
    obtain ⟨m, hm, rfl, HQ, HL⟩ := hrel
    obtain ⟨wi, rfl⟩ : ∃ wi : World, wi = wr := ⟨_, rfl⟩
    by_cases hmlt : m < cs.length
    ·have hmi : (m : Int) < (cs.length : Int) := by omega
     have v2 : IntKind.i64.wrap ((m : Int) + 1) = (m : Int) + 1 := IntWalk.i64_in _ (by omega)
     have hbz := (HHOLD.out wi HQ.out.b).2.2.2.2
     obtain ⟨gc, oc, hac, x0, x1, x2, x3, x4, -⟩ := (HCVw.out.keep hbz).at_ hmlt
     subst hac
     have hmR : m < R.length := by rw [HRL.out]; exact hmlt
     have hmRi : (m : Int) < (R.length : Int) := by omega
     obtain ⟨rb2, ro2, har2, r0, r1, r2, r3, -⟩ := (HRVw.out.keep hbz).at_ hmR
     injection har2 with har2
     injection har2 with hb1 hb2 _
     subst hb1 hb2
     have HCF := Lib.hid (show cutF cs m = cs[m] from cutF_get hmlt)
     have HRF := Lib.hid (show rectF R m = R[m] from by unfold rectF; rw [List.getD_eq_getElem?_getD, List.getElem?_eq_getElem hmR]; rfl)
     have HSP := Lib.hid (show arTo ⟨(nb : Int), cs⟩ R A1 (m + 1) = arStep ⟨(nb : Int), cs⟩ R m (arTo ⟨(nb : Int), cs⟩ R A1 m) from rfl)
     have hqb := (arTo_bd (l := ⟨(nb : Int), cs⟩) HAL.out HAB.out m).mono (show 1000000000000000 * (k : Int) + 1000000000000 + 1000000000000 * m ≤ 3000000000000000000 by omega)
     have hokr := HAL.out _ (List.getElem_mem hmR)
     have HND := Lib.hid (HNR.out m hmlt)
     obtain ⟨aq, haq⟩ : ∃ q, arTo ⟨(nb : Int), cs⟩ R A1 m = q := ⟨_, rfl⟩
     rw [haq] at HQ HSP hqb
     rw [HCF.out] at HND
     obtain ⟨AM, hAM⟩ : ∃ A, areaK R[m] = A := ⟨_, rfl⟩
     have hamb := areaK_bd hokr
     rw [hAM] at hamb
     have HAM := Lib.hid (show areaK (rectF R m) = AM by rw [HRF.out]; exact hAM)
     have HAK := Lib.hid (fun w9 => areaK_is R[m] AM w9 hokr hAM)
     have HOKR := Lib.hid hokr
     generalize R[m] = rm at *
     generalize cs[m] = c at *
     obtain ⟨⟨hp1, hp2⟩, ⟨hp3, hp4⟩, ⟨hp5, hp6⟩, hp7, hp8⟩ := hqb
     obtain ⟨e0, e1, e2⟩ := HL.out
     clear haq hAM hokr hbz
     go_upto_region 14 with fail
     refine gen_world (fun W8 => CellsX W8 wi.heap.size c ∧ Below wi.heap.size wi W8) ⟨⟨by simp [go_sem], by simp [go_sem], by simp [go_sem], by simp [go_sem], by simp [go_sem]⟩, by repeat (first | (with_reducible assumption) | exact Below.refl _ _ | (refine Below.setCell ?_ (by first | omega | (simp; omega) | (simp; done)) _) | (refine Below.alloc ?_ (by first | omega | (simp; omega) | (simp; done)) _) | (refine Below.drew ?_))⟩ ?_
     rintro W8 ⟨⟨y0, y1, y2, y3, y4⟩, hb8⟩
     obtain ⟨g14, hg14⟩ : ∃ g, g = wi.heap.size := ⟨_, rfl⟩
     rw [← hg14] at y0 y1 y2 y3 y4 ⊢
     have HQ8 := Lib.hid (HQ.out.keep hb8)
     have HL8 := Lib.hid (HL.out.keep hb8)
     have r0 := cell_keep hb8 r0
     have r1 := cell_keep hb8 r1
     have r2 := cell_keep hb8 r2
     have r3 := cell_keep hb8 r3
     clear hb8 hg14 x0 x1 x2 x3 x4 e0 e1 e2
     have HLF := Lib.hid (fun w9 => leaf_any c w9)
     by_cases hlo : c.low = 0
     ·rw [decide_eq_true hlo] at HLF
      have k1 : IntKind.i64.wrap (aq.waste + AM) = aq.waste + AM := IntWalk.i64_in _ (by omega)
      have k0 : IntKind.i64.wrap (aq.pieces + AM) = aq.pieces + AM := IntWalk.i64_in _ (by omega)
      by_cases hbk : c.blank < 0
      ·have HW := Lib.hid (show arTo ⟨(nb : Int), cs⟩ R A1 (m + 1) = aq.put 1 (aq.waste + AM) from by
         rw [HSP.out]; unfold arStep Ars.put
         simp only [HCF.out]
         rw [if_neg (fun h => h hlo), if_neg (by omega), HAM.out]
         simp)
       clear hlo
       go_upto_region 18 with (go_at_call 28; refine (HLF.out _).mono ?_; rintro e W9 ⟨rfl, hb⟩; have HQ9 := Lib.hid (HQ8.out.keep hb); have HL9 := Lib.hid (HL8.out.keep hb); have r0 := cell_keep hb r0; have r1 := cell_keep hb r1; have r2 := cell_keep hb r2; have r3 := cell_keep hb r3; have y4 := cell_keep hb y4; clear hb)
       obtain ⟨m0, m1, m2, m3, -, -, -, -⟩ := HQ9.out.o
       obtain ⟨e0, e1, e2⟩ := HL9.out
       have kx0 : ∀ u : KW (fun W' => Below W9.heap.size W9 W'), (u.w.cell? ⟨g9, 1, none⟩ = some (.int .i64 aq.waste) ∧ u.w.cell? ⟨g11, 2, none⟩ = some (.slice (some ⟨rb, ro, none⟩) R.length cr)) ∧ u.w.cell? ⟨rb, ro + m * 4, none⟩ = some (.int .i64 rm.x1) ∧ u.w.cell? ⟨rb, ro + m * 4 + 1, none⟩ = some (.int .i64 rm.y1) ∧ u.w.cell? ⟨rb, ro + m * 4 + 2, none⟩ = some (.int .i64 rm.x2) ∧ u.w.cell? ⟨rb, ro + m * 4 + 3, none⟩ = some (.int .i64 rm.y2) := fun u => ⟨⟨cell_keep u.ok m1, cell_keep u.ok e2⟩, cell_keep u.ok r0, cell_keep u.ok r1, cell_keep u.ok r2, cell_keep u.ok r3⟩
       haveI nn2 : Nonempty (KW (fun W' => Below W9.heap.size W9 W')) := ⟨⟨W9, Below.refl _ _⟩⟩
       clear y0 y1 y2 y3 y4 e0 e1 e2 r0 r1 r2 r3 m0 m1 m2 m3
       refine wp_region_tree (fun w' => ∃ u : KW (fun W' => Below W9.heap.size W9 W'), w' = u.w) 8 (.take 0 (.take 1 (.take 2 (.take 3 (.take 4 (.take 5 (.take 6 (.one 7 .done)))))))) hmix (by kernel_rfl) (KW.mk' (Below.refl _ _).drew) ?_
       have HCz := Lib.hid (show Below W9.heap.size W9 W9.drew from (Below.refl _ _).drew)
       generalize W9.drew = wz at *
       repeat (refine wpTree_take ?_; simp only [nthOp]; (first | go_big_quiet_step (fail) | quiet_step (fail)); refine wpQuiet_nil ?_)
       refine wpTree_one ?_
       simp only [nthOp]
       go_wp2_with (go_at_call 27; refine (HAK.out _).mono ?_; rintro e wa ⟨rfl, hb⟩; have HCa := Lib.hid (HCz.out.trans (hb.mono HCz.out.size)); clear hb)
       refine One_mk (KW.mk' HCa.out) ?_
       refine wpTree_done ?_
       simp only [List.drop_succ_cons, List.drop_zero]
       have HQA := Lib.hid (HQ9.out.keep HCa.out)
       have HLA := Lib.hid (HL9.out.keep HCa.out)
       clear kx0 nn2 HCz HCa
       obtain ⟨m0, m1, m2, m3, mf0, mf1, mf2, mf3⟩ := HQA.out.o
       go_wp2_with fail
       refine NP_mk ?_
       go_wp2_with fail
       go_roundw
       case rel => exact ⟨m + 1, by omega, by go_num, by rw [HW.out]; exact Lib.hid (HQA.out.set 1 _), Lib.hid (HLA.out.off (p := ⟨g9, 1, none⟩) HN9.out.1)⟩
       case measure => first | (simp [intOf]; done) | (simp [intOf]; omega)
      ·have hbk2 : ¬ c.blank < 0 := hbk
       have HW := Lib.hid (show arTo ⟨(nb : Int), cs⟩ R A1 (m + 1) = aq.put 0 (aq.pieces + AM) from by
        rw [HSP.out]; unfold arStep Ars.put
        simp only [HCF.out]
        rw [if_neg (fun h => h hlo), if_pos (by omega), HAM.out]
        simp)
       clear hlo
       go_upto_region 13 with (go_at_call 28; refine (HLF.out _).mono ?_; rintro e W9 ⟨rfl, hb⟩; have HQ9 := Lib.hid (HQ8.out.keep hb); have HL9 := Lib.hid (HL8.out.keep hb); have r0 := cell_keep hb r0; have r1 := cell_keep hb r1; have r2 := cell_keep hb r2; have r3 := cell_keep hb r3; have y4 := cell_keep hb y4; clear hb)
       obtain ⟨m0, m1, m2, m3, -, -, -, -⟩ := HQ9.out.o
       obtain ⟨e0, e1, e2⟩ := HL9.out
       have kx0 : ∀ u : KW (fun W' => Below W9.heap.size W9 W'), (u.w.cell? ⟨g9, 0, none⟩ = some (.int .i64 aq.pieces) ∧ u.w.cell? ⟨g11, 2, none⟩ = some (.slice (some ⟨rb, ro, none⟩) R.length cr)) ∧ u.w.cell? ⟨rb, ro + m * 4, none⟩ = some (.int .i64 rm.x1) ∧ u.w.cell? ⟨rb, ro + m * 4 + 1, none⟩ = some (.int .i64 rm.y1) ∧ u.w.cell? ⟨rb, ro + m * 4 + 2, none⟩ = some (.int .i64 rm.x2) ∧ u.w.cell? ⟨rb, ro + m * 4 + 3, none⟩ = some (.int .i64 rm.y2) := fun u => ⟨⟨cell_keep u.ok m0, cell_keep u.ok e2⟩, cell_keep u.ok r0, cell_keep u.ok r1, cell_keep u.ok r2, cell_keep u.ok r3⟩
       haveI nn2 : Nonempty (KW (fun W' => Below W9.heap.size W9 W')) := ⟨⟨W9, Below.refl _ _⟩⟩
       clear y0 y1 y2 y3 y4 e0 e1 e2 r0 r1 r2 r3 m0 m1 m2 m3
       refine wp_region_tree (fun w' => ∃ u : KW (fun W' => Below W9.heap.size W9 W'), w' = u.w) 8 (.take 0 (.take 1 (.take 2 (.take 3 (.take 4 (.take 5 (.take 6 (.one 7 .done)))))))) hmix (by kernel_rfl) (KW.mk' (Below.refl _ _).drew) ?_
       have HCz := Lib.hid (show Below W9.heap.size W9 W9.drew from (Below.refl _ _).drew)
       generalize W9.drew = wz at *
       repeat (refine wpTree_take ?_; simp only [nthOp]; (first | go_big_quiet_step (fail) | quiet_step (fail)); refine wpQuiet_nil ?_)
       refine wpTree_one ?_
       simp only [nthOp]
       go_wp2_with (go_at_call 27; refine (HAK.out _).mono ?_; rintro e wa ⟨rfl, hb⟩; have HCa := Lib.hid (HCz.out.trans (hb.mono HCz.out.size)); clear hb)
       refine One_mk (KW.mk' HCa.out) ?_
       refine wpTree_done ?_
       simp only [List.drop_succ_cons, List.drop_zero]
       have HQA := Lib.hid (HQ9.out.keep HCa.out)
       have HLA := Lib.hid (HL9.out.keep HCa.out)
       clear kx0 nn2 HCz HCa
       obtain ⟨m0, m1, m2, m3, mf0, mf1, mf2, mf3⟩ := HQA.out.o
       go_wp2_with fail
       refine NP_mk ?_
       go_wp2_with fail
       go_roundw
       case rel => exact ⟨m + 1, by omega, by go_num, by rw [HW.out]; exact Lib.hid (HQA.out.set 0 _), Lib.hid (HLA.out.off (p := ⟨g9, 0, none⟩) HN9.out.1)⟩
       case measure => first | (simp [intOf]; done) | (simp [intOf]; omega)
     ·rw [decide_eq_false hlo] at HLF
      have HN := HND.out hlo
      obtain ⟨lo, hlo2⟩ : ∃ q, rectF R (lowN cs m) = q := ⟨_, rfl⟩
      obtain ⟨hi, hhi2⟩ : ∃ q, rectF R (highN cs m) = q := ⟨_, rfl⟩
      have hnl := HN.low
      have hnh := HN.high
      have ha1 := HN.at1
      have ha2 := HN.at2
      rw [HCF.out] at hnl hnh ha1 ha2
      rw [HRF.out] at hnl hnh ha2
      rw [hlo2] at hnl
      rw [hhi2] at hnh
      have hokl : okR lo := by rw [← hlo2]; exact okR_rectF HAL.out _
      have hokh : okR hi := by rw [← hhi2]; exact okR_rectF HAL.out _
      have hbb := part_bds HOKR.out ha1 ha2
      have HPT := Lib.hid (fun w9 => parted_full rm lo hi c.across c.at_ j.trim.kerf w9 hnl.symm hnh.symm hbb.1 hbb.2 hkp HOKR.out hokl hokh)
      obtain ⟨n, hn⟩ : ∃ n, areaK rm - areaK lo - areaK hi = n := ⟨_, rfl⟩
      have hnb : -1000000000000 ≤ n ∧ n ≤ 1000000000000 := by
       have := areaK_bd HOKR.out
       have := areaK_bd hokl
       have := areaK_bd hokh
       omega
      rw [hn] at HPT
      have HW := Lib.hid (show arTo ⟨(nb : Int), cs⟩ R A1 (m + 1) = aq.put 2 (aq.kerf + n) from by
       rw [HSP.out]; unfold arStep Ars.put cutA
       simp only [HCF.out]
       rw [if_pos hlo, HRF.out, hlo2, hhi2, hn]
       simp)
      have k2 : IntKind.i64.wrap (aq.kerf + n) = aq.kerf + n := IntWalk.i64_in _ (by omega)
      clear hn hlo2 hhi2 hnl hnh ha1 ha2 hokl hokh hbb HN
      go_upto_region 15 with (go_at_call 28; refine (HLF.out _).mono ?_; rintro e W9 ⟨rfl, hb⟩; have HQ9 := Lib.hid (HQ8.out.keep hb); have HL9 := Lib.hid (HL8.out.keep hb); have r0 := cell_keep hb r0; have r1 := cell_keep hb r1; have r2 := cell_keep hb r2; have r3 := cell_keep hb r3; have y0 := cell_keep hb y0; have y1 := cell_keep hb y1; have HJ9 := Lib.hid (HHOLD.out _ HQ9.out.b).1; clear hb)
      obtain ⟨-, -, q2, -, -⟩ := HJ9.out
      obtain ⟨e0, e1, e2⟩ := HL9.out
      have kx0 : ∀ u : KW (fun W' => Below W9.heap.size W9 W'), (u.w.cell? ⟨g14, 0, none⟩ = some (.bool c.across) ∧ u.w.cell? ⟨g14, 1, none⟩ = some (.int .i64 c.at_) ∧ u.w.cell? ⟨gj, 2, none⟩ = some (.int .i64 j.trim.kerf) ∧ u.w.cell? ⟨g11, 2, none⟩ = some (.slice (some ⟨rb, ro, none⟩) R.length cr)) ∧ u.w.cell? ⟨rb, ro + m * 4, none⟩ = some (.int .i64 rm.x1) ∧ u.w.cell? ⟨rb, ro + m * 4 + 1, none⟩ = some (.int .i64 rm.y1) ∧ u.w.cell? ⟨rb, ro + m * 4 + 2, none⟩ = some (.int .i64 rm.x2) ∧ u.w.cell? ⟨rb, ro + m * 4 + 3, none⟩ = some (.int .i64 rm.y2) := fun u => ⟨⟨cell_keep u.ok y0, cell_keep u.ok y1, cell_keep u.ok q2, cell_keep u.ok e2⟩, cell_keep u.ok r0, cell_keep u.ok r1, cell_keep u.ok r2, cell_keep u.ok r3⟩
      haveI nn2 : Nonempty (KW (fun W' => Below W9.heap.size W9 W')) := ⟨⟨W9, Below.refl _ _⟩⟩
      clear y0 y1 y2 y3 y4 q2 e0 e1 e2 r0 r1 r2 r3
      refine wp_cut_slots [81, 82, 83, 84, 85, 86, 87, 88, 89, 90, 91, 92, 93, 80, 94, 95, 96, 15, 16, 17] (KCut W9 n) ?_ ?_
      ·refine wp_region_tree (fun w' => ∃ u : KW (fun W' => Below W9.heap.size W9 W'), w' = u.w) 21 (.take 0 (.take 1 (.take 2 (.take 3 (.take 4 (.take 5 (.take 6 (.take 7 (.take 8 (.take 9 (.take 10 (.take 11 (.three 12 (.take 13 (.take 14 (.take 15 (.take 16 (.two 17 (.one 18 (.one 19 (.one 20 .done))) 18 (.one 17 (.one 19 (.one 20 .done)))))))) 17 (.two 12 (.take 13 (.take 14 (.take 15 (.take 16 (.one 18 (.one 19 (.one 20 .done))))))) 18 (.one 12 (.take 13 (.take 14 (.take 15 (.take 16 (.one 19 (.one 20 .done)))))))) 18 (.two 12 (.take 13 (.take 14 (.take 15 (.take 16 (.one 17 (.one 19 (.one 20 .done))))))) 17 (.one 12 (.take 13 (.take 14 (.take 15 (.take 16 (.one 19 (.one 20 .done))))))))))))))))))))) hmix (by kernel_rfl) (KW.mk' (Below.refl _ _).drew) ?_
       have HC := Lib.hid (show Below W9.heap.size W9 W9.drew from (Below.refl _ _).drew)
       generalize W9.drew = wz at *
       (refine wpTree_take ?_; simp only [nthOp]; (first | go_big_quiet_step (fail) | quiet_step (fail)); refine wpQuiet_nil ?_)
       (refine wpTree_take ?_; simp only [nthOp]; (first | go_big_quiet_step (fail) | quiet_step (fail)); refine wpQuiet_nil ?_)
       (refine wpTree_take ?_; simp only [nthOp]; (first | go_big_quiet_step (fail) | quiet_step (fail)); refine wpQuiet_nil ?_)
       (refine wpTree_take ?_; simp only [nthOp]; (first | go_big_quiet_step (fail) | quiet_step (fail)); refine wpQuiet_nil ?_)
       (refine wpTree_take ?_; simp only [nthOp]; (first | go_big_quiet_step (fail) | quiet_step (fail)); refine wpQuiet_nil ?_)
       (refine wpTree_take ?_; simp only [nthOp]; (first | go_big_quiet_step (fail) | quiet_step (fail)); refine wpQuiet_nil ?_)
       (refine wpTree_take ?_; simp only [nthOp]; (first | go_big_quiet_step (fail) | quiet_step (fail)); refine wpQuiet_nil ?_)
       (refine wpTree_take ?_; simp only [nthOp]; (first | go_big_quiet_step (fail) | quiet_step (fail)); refine wpQuiet_nil ?_)
       (refine wpTree_take ?_; simp only [nthOp]; (first | go_big_quiet_step (fail) | quiet_step (fail)); refine wpQuiet_nil ?_)
       (refine wpTree_take ?_; simp only [nthOp]; (first | go_big_quiet_step (fail) | quiet_step (fail)); refine wpQuiet_nil ?_)
       (refine wpTree_take ?_; simp only [nthOp]; (first | go_big_quiet_step (fail) | quiet_step (fail)); refine wpQuiet_nil ?_)
       (refine wpTree_take ?_; simp only [nthOp]; (first | go_big_quiet_step (fail) | quiet_step (fail)); refine wpQuiet_nil ?_)
       refine wpTree_three ?_ ?_ ?_
       ·skip
        simp only [nthOp]
        go_wp2_with (go_at_call 29; refine (HPT.out _).mono ?_; rintro e wt1 ⟨rfl, hb⟩; have HC := Lib.hid (HC.out.trans (hb.mono HC.out.size)); clear hb)
        refine One_mk (KW.mk' HC.out) ?_
        (refine wpTree_take ?_; simp only [nthOp]; (first | go_big_quiet_step (fail) | quiet_step (fail)); refine wpQuiet_nil ?_)
        (refine wpTree_take ?_; simp only [nthOp]; (first | go_big_quiet_step (fail) | quiet_step (fail)); refine wpQuiet_nil ?_)
        (refine wpTree_take ?_; simp only [nthOp]; (first | go_big_quiet_step (fail) | quiet_step (fail)); refine wpQuiet_nil ?_)
        (refine wpTree_take ?_; simp only [nthOp]; (first | go_big_quiet_step (fail) | quiet_step (fail)); refine wpQuiet_nil ?_)
        refine wpTree_two ?_ ?_
        ·skip
         simp only [nthOp]
         go_wp2_with fail
         have HA := Lib.hid (show BoxR (wt1.alloc (.cells #[.int .i64 0, .int .i64 0, .int .i64 0, .int .i64 0] 41)) wt1.heap.size ⟨0, 0, 0, 0⟩ from ⟨by simp [go_sem], by simp [go_sem], by simp [go_sem], by simp [go_sem], by simp [go_sem], by simp [go_sem], by simp [go_sem], by simp [go_sem]⟩)
         have HGA := Lib.hid HC.out.size
         have HC := Lib.hid (HC.out.alloc HC.out.size (.cells #[.int .i64 0, .int .i64 0, .int .i64 0, .int .i64 0] 41))
         refine One_mk (KW.mk' HC.out) ?_
         generalize (wt1.alloc (.cells #[.int .i64 0, .int .i64 0, .int .i64 0, .int .i64 0] 41)) = wt2 at *
         generalize wt1.heap.size = ga at *
         refine wpTree_one ?_
         simp only [nthOp]
         go_wp2_with fail
         have HB := Lib.hid (show BoxR (wt2.alloc (.cells #[.int .i64 0, .int .i64 0, .int .i64 0, .int .i64 0] 41)) wt2.heap.size ⟨0, 0, 0, 0⟩ from ⟨by simp [go_sem], by simp [go_sem], by simp [go_sem], by simp [go_sem], by simp [go_sem], by simp [go_sem], by simp [go_sem], by simp [go_sem]⟩)
         have HNE := Lib.hid (show ga ≠ wt2.heap.size from by have := HA.out.lt; omega)
         have HA := Lib.hid (HA.out.keep ((Below.refl wt2.heap.size wt2).alloc (Nat.le_refl _) (.cells #[.int .i64 0, .int .i64 0, .int .i64 0, .int .i64 0] 41)))
         have HGB := Lib.hid HC.out.size
         have HC := Lib.hid (HC.out.alloc HC.out.size (.cells #[.int .i64 0, .int .i64 0, .int .i64 0, .int .i64 0] 41))
         refine One_mk (KW.mk' HC.out) ?_
         generalize (wt2.alloc (.cells #[.int .i64 0, .int .i64 0, .int .i64 0, .int .i64 0] 41)) = wt3 at *
         generalize wt2.heap.size = gb at *
         refine wpTree_one ?_
         simp only [nthOp]
         obtain ⟨z0, z1, z2, z3, f0, f1, f2, f3⟩ := HA.out
         go_wp2_with fail
         have HB := Lib.hid (HB.out.set (a := ⟨ga, 0, none⟩) (u := (.int .i64 lo.x1)) (by first | exact HNE.out | exact fun e => HNE.out e.symm) rfl)
         have HC := Lib.hid (HC.out.setCell (p := ⟨ga, 0, none⟩) HGA.out (.int .i64 lo.x1))
         have HB := Lib.hid (HB.out.set (a := ⟨ga, 1, none⟩) (u := (.int .i64 lo.y1)) (by first | exact HNE.out | exact fun e => HNE.out e.symm) rfl)
         have HC := Lib.hid (HC.out.setCell (p := ⟨ga, 1, none⟩) HGA.out (.int .i64 lo.y1))
         have HB := Lib.hid (HB.out.set (a := ⟨ga, 2, none⟩) (u := (.int .i64 lo.x2)) (by first | exact HNE.out | exact fun e => HNE.out e.symm) rfl)
         have HC := Lib.hid (HC.out.setCell (p := ⟨ga, 2, none⟩) HGA.out (.int .i64 lo.x2))
         have HB := Lib.hid (HB.out.set (a := ⟨ga, 3, none⟩) (u := (.int .i64 lo.y2)) (by first | exact HNE.out | exact fun e => HNE.out e.symm) rfl)
         have HC := Lib.hid (HC.out.setCell (p := ⟨ga, 3, none⟩) HGA.out (.int .i64 lo.y2))
         clear z0 z1 z2 z3 f0 f1 f2 f3
         refine One_mk (KW.mk' HC.out) ?_
         generalize ((((wt3.setCell ⟨ga, 0, none⟩ (.int .i64 lo.x1)).setCell ⟨ga, 1, none⟩ (.int .i64 lo.y1)).setCell ⟨ga, 2, none⟩ (.int .i64 lo.x2)).setCell ⟨ga, 3, none⟩ (.int .i64 lo.y2)) = wt4 at *
         refine wpTree_one ?_
         simp only [nthOp]
         obtain ⟨z0, z1, z2, z3, f0, f1, f2, f3⟩ := HB.out
         go_wp2_with fail
         have HA := Lib.hid (HA.out.set (a := ⟨gb, 0, none⟩) (u := (.int .i64 hi.x1)) (by first | exact HNE.out | exact fun e => HNE.out e.symm) rfl)
         have HC := Lib.hid (HC.out.setCell (p := ⟨gb, 0, none⟩) HGB.out (.int .i64 hi.x1))
         have HA := Lib.hid (HA.out.set (a := ⟨gb, 1, none⟩) (u := (.int .i64 hi.y1)) (by first | exact HNE.out | exact fun e => HNE.out e.symm) rfl)
         have HC := Lib.hid (HC.out.setCell (p := ⟨gb, 1, none⟩) HGB.out (.int .i64 hi.y1))
         have HA := Lib.hid (HA.out.set (a := ⟨gb, 2, none⟩) (u := (.int .i64 hi.x2)) (by first | exact HNE.out | exact fun e => HNE.out e.symm) rfl)
         have HC := Lib.hid (HC.out.setCell (p := ⟨gb, 2, none⟩) HGB.out (.int .i64 hi.x2))
         have HA := Lib.hid (HA.out.set (a := ⟨gb, 3, none⟩) (u := (.int .i64 hi.y2)) (by first | exact HNE.out | exact fun e => HNE.out e.symm) rfl)
         have HC := Lib.hid (HC.out.setCell (p := ⟨gb, 3, none⟩) HGB.out (.int .i64 hi.y2))
         clear z0 z1 z2 z3 f0 f1 f2 f3
         refine One_mk (KW.mk' HC.out) ?_
         generalize ((((wt4.setCell ⟨gb, 0, none⟩ (.int .i64 hi.x1)).setCell ⟨gb, 1, none⟩ (.int .i64 hi.y1)).setCell ⟨gb, 2, none⟩ (.int .i64 hi.x2)).setCell ⟨gb, 3, none⟩ (.int .i64 hi.y2)) = wt5 at *
         refine wpTree_done ?_
         simp only [List.drop_succ_cons, List.drop_zero]
         go_wp2_with fail
         refine NP_mk ?_
         exact cut_meet (by simp [forget]) ⟨rfl, HC.out⟩
        ·skip
         simp only [nthOp]
         go_wp2_with fail
         have HB := Lib.hid (show BoxR (wt1.alloc (.cells #[.int .i64 0, .int .i64 0, .int .i64 0, .int .i64 0] 41)) wt1.heap.size ⟨0, 0, 0, 0⟩ from ⟨by simp [go_sem], by simp [go_sem], by simp [go_sem], by simp [go_sem], by simp [go_sem], by simp [go_sem], by simp [go_sem], by simp [go_sem]⟩)
         have HGB := Lib.hid HC.out.size
         have HC := Lib.hid (HC.out.alloc HC.out.size (.cells #[.int .i64 0, .int .i64 0, .int .i64 0, .int .i64 0] 41))
         refine One_mk (KW.mk' HC.out) ?_
         generalize (wt1.alloc (.cells #[.int .i64 0, .int .i64 0, .int .i64 0, .int .i64 0] 41)) = wt6 at *
         generalize wt1.heap.size = gb at *
         refine wpTree_one ?_
         simp only [nthOp]
         go_wp2_with fail
         have HA := Lib.hid (show BoxR (wt6.alloc (.cells #[.int .i64 0, .int .i64 0, .int .i64 0, .int .i64 0] 41)) wt6.heap.size ⟨0, 0, 0, 0⟩ from ⟨by simp [go_sem], by simp [go_sem], by simp [go_sem], by simp [go_sem], by simp [go_sem], by simp [go_sem], by simp [go_sem], by simp [go_sem]⟩)
         have HNE := Lib.hid (show gb ≠ wt6.heap.size from by have := HB.out.lt; omega)
         have HB := Lib.hid (HB.out.keep ((Below.refl wt6.heap.size wt6).alloc (Nat.le_refl _) (.cells #[.int .i64 0, .int .i64 0, .int .i64 0, .int .i64 0] 41)))
         have HGA := Lib.hid HC.out.size
         have HC := Lib.hid (HC.out.alloc HC.out.size (.cells #[.int .i64 0, .int .i64 0, .int .i64 0, .int .i64 0] 41))
         refine One_mk (KW.mk' HC.out) ?_
         generalize (wt6.alloc (.cells #[.int .i64 0, .int .i64 0, .int .i64 0, .int .i64 0] 41)) = wt7 at *
         generalize wt6.heap.size = ga at *
         refine wpTree_one ?_
         simp only [nthOp]
         obtain ⟨z0, z1, z2, z3, f0, f1, f2, f3⟩ := HA.out
         go_wp2_with fail
         have HB := Lib.hid (HB.out.set (a := ⟨ga, 0, none⟩) (u := (.int .i64 lo.x1)) (by first | exact HNE.out | exact fun e => HNE.out e.symm) rfl)
         have HC := Lib.hid (HC.out.setCell (p := ⟨ga, 0, none⟩) HGA.out (.int .i64 lo.x1))
         have HB := Lib.hid (HB.out.set (a := ⟨ga, 1, none⟩) (u := (.int .i64 lo.y1)) (by first | exact HNE.out | exact fun e => HNE.out e.symm) rfl)
         have HC := Lib.hid (HC.out.setCell (p := ⟨ga, 1, none⟩) HGA.out (.int .i64 lo.y1))
         have HB := Lib.hid (HB.out.set (a := ⟨ga, 2, none⟩) (u := (.int .i64 lo.x2)) (by first | exact HNE.out | exact fun e => HNE.out e.symm) rfl)
         have HC := Lib.hid (HC.out.setCell (p := ⟨ga, 2, none⟩) HGA.out (.int .i64 lo.x2))
         have HB := Lib.hid (HB.out.set (a := ⟨ga, 3, none⟩) (u := (.int .i64 lo.y2)) (by first | exact HNE.out | exact fun e => HNE.out e.symm) rfl)
         have HC := Lib.hid (HC.out.setCell (p := ⟨ga, 3, none⟩) HGA.out (.int .i64 lo.y2))
         clear z0 z1 z2 z3 f0 f1 f2 f3
         refine One_mk (KW.mk' HC.out) ?_
         generalize ((((wt7.setCell ⟨ga, 0, none⟩ (.int .i64 lo.x1)).setCell ⟨ga, 1, none⟩ (.int .i64 lo.y1)).setCell ⟨ga, 2, none⟩ (.int .i64 lo.x2)).setCell ⟨ga, 3, none⟩ (.int .i64 lo.y2)) = wt8 at *
         refine wpTree_one ?_
         simp only [nthOp]
         obtain ⟨z0, z1, z2, z3, f0, f1, f2, f3⟩ := HB.out
         go_wp2_with fail
         have HA := Lib.hid (HA.out.set (a := ⟨gb, 0, none⟩) (u := (.int .i64 hi.x1)) (by first | exact HNE.out | exact fun e => HNE.out e.symm) rfl)
         have HC := Lib.hid (HC.out.setCell (p := ⟨gb, 0, none⟩) HGB.out (.int .i64 hi.x1))
         have HA := Lib.hid (HA.out.set (a := ⟨gb, 1, none⟩) (u := (.int .i64 hi.y1)) (by first | exact HNE.out | exact fun e => HNE.out e.symm) rfl)
         have HC := Lib.hid (HC.out.setCell (p := ⟨gb, 1, none⟩) HGB.out (.int .i64 hi.y1))
         have HA := Lib.hid (HA.out.set (a := ⟨gb, 2, none⟩) (u := (.int .i64 hi.x2)) (by first | exact HNE.out | exact fun e => HNE.out e.symm) rfl)
         have HC := Lib.hid (HC.out.setCell (p := ⟨gb, 2, none⟩) HGB.out (.int .i64 hi.x2))
         have HA := Lib.hid (HA.out.set (a := ⟨gb, 3, none⟩) (u := (.int .i64 hi.y2)) (by first | exact HNE.out | exact fun e => HNE.out e.symm) rfl)
         have HC := Lib.hid (HC.out.setCell (p := ⟨gb, 3, none⟩) HGB.out (.int .i64 hi.y2))
         clear z0 z1 z2 z3 f0 f1 f2 f3
         refine One_mk (KW.mk' HC.out) ?_
         generalize ((((wt8.setCell ⟨gb, 0, none⟩ (.int .i64 hi.x1)).setCell ⟨gb, 1, none⟩ (.int .i64 hi.y1)).setCell ⟨gb, 2, none⟩ (.int .i64 hi.x2)).setCell ⟨gb, 3, none⟩ (.int .i64 hi.y2)) = wt9 at *
         refine wpTree_done ?_
         simp only [List.drop_succ_cons, List.drop_zero]
         go_wp2_with fail
         refine NP_mk ?_
         exact cut_meet (by simp [forget]) ⟨rfl, HC.out⟩
       ·skip
        simp only [nthOp]
        go_wp2_with fail
        have HA := Lib.hid (show BoxR (wz.alloc (.cells #[.int .i64 0, .int .i64 0, .int .i64 0, .int .i64 0] 41)) wz.heap.size ⟨0, 0, 0, 0⟩ from ⟨by simp [go_sem], by simp [go_sem], by simp [go_sem], by simp [go_sem], by simp [go_sem], by simp [go_sem], by simp [go_sem], by simp [go_sem]⟩)
        have HGA := Lib.hid HC.out.size
        have HC := Lib.hid (HC.out.alloc HC.out.size (.cells #[.int .i64 0, .int .i64 0, .int .i64 0, .int .i64 0] 41))
        refine One_mk (KW.mk' HC.out) ?_
        generalize (wz.alloc (.cells #[.int .i64 0, .int .i64 0, .int .i64 0, .int .i64 0] 41)) = wt10 at *
        generalize wz.heap.size = ga at *
        refine wpTree_two ?_ ?_
        ·skip
         simp only [nthOp]
         go_wp2_with (go_at_call 29; refine (HPT.out _).mono ?_; rintro e wt11 ⟨rfl, hb⟩; have HA := Lib.hid (HA.out.keep hb); have HC := Lib.hid (HC.out.trans (hb.mono HC.out.size)); clear hb)
         refine One_mk (KW.mk' HC.out) ?_
         (refine wpTree_take ?_; simp only [nthOp]; (first | go_big_quiet_step (fail) | quiet_step (fail)); refine wpQuiet_nil ?_)
         (refine wpTree_take ?_; simp only [nthOp]; (first | go_big_quiet_step (fail) | quiet_step (fail)); refine wpQuiet_nil ?_)
         (refine wpTree_take ?_; simp only [nthOp]; (first | go_big_quiet_step (fail) | quiet_step (fail)); refine wpQuiet_nil ?_)
         (refine wpTree_take ?_; simp only [nthOp]; (first | go_big_quiet_step (fail) | quiet_step (fail)); refine wpQuiet_nil ?_)
         refine wpTree_one ?_
         simp only [nthOp]
         go_wp2_with fail
         have HB := Lib.hid (show BoxR (wt11.alloc (.cells #[.int .i64 0, .int .i64 0, .int .i64 0, .int .i64 0] 41)) wt11.heap.size ⟨0, 0, 0, 0⟩ from ⟨by simp [go_sem], by simp [go_sem], by simp [go_sem], by simp [go_sem], by simp [go_sem], by simp [go_sem], by simp [go_sem], by simp [go_sem]⟩)
         have HNE := Lib.hid (show ga ≠ wt11.heap.size from by have := HA.out.lt; omega)
         have HA := Lib.hid (HA.out.keep ((Below.refl wt11.heap.size wt11).alloc (Nat.le_refl _) (.cells #[.int .i64 0, .int .i64 0, .int .i64 0, .int .i64 0] 41)))
         have HGB := Lib.hid HC.out.size
         have HC := Lib.hid (HC.out.alloc HC.out.size (.cells #[.int .i64 0, .int .i64 0, .int .i64 0, .int .i64 0] 41))
         refine One_mk (KW.mk' HC.out) ?_
         generalize (wt11.alloc (.cells #[.int .i64 0, .int .i64 0, .int .i64 0, .int .i64 0] 41)) = wt12 at *
         generalize wt11.heap.size = gb at *
         refine wpTree_one ?_
         simp only [nthOp]
         obtain ⟨z0, z1, z2, z3, f0, f1, f2, f3⟩ := HA.out
         go_wp2_with fail
         have HB := Lib.hid (HB.out.set (a := ⟨ga, 0, none⟩) (u := (.int .i64 lo.x1)) (by first | exact HNE.out | exact fun e => HNE.out e.symm) rfl)
         have HC := Lib.hid (HC.out.setCell (p := ⟨ga, 0, none⟩) HGA.out (.int .i64 lo.x1))
         have HB := Lib.hid (HB.out.set (a := ⟨ga, 1, none⟩) (u := (.int .i64 lo.y1)) (by first | exact HNE.out | exact fun e => HNE.out e.symm) rfl)
         have HC := Lib.hid (HC.out.setCell (p := ⟨ga, 1, none⟩) HGA.out (.int .i64 lo.y1))
         have HB := Lib.hid (HB.out.set (a := ⟨ga, 2, none⟩) (u := (.int .i64 lo.x2)) (by first | exact HNE.out | exact fun e => HNE.out e.symm) rfl)
         have HC := Lib.hid (HC.out.setCell (p := ⟨ga, 2, none⟩) HGA.out (.int .i64 lo.x2))
         have HB := Lib.hid (HB.out.set (a := ⟨ga, 3, none⟩) (u := (.int .i64 lo.y2)) (by first | exact HNE.out | exact fun e => HNE.out e.symm) rfl)
         have HC := Lib.hid (HC.out.setCell (p := ⟨ga, 3, none⟩) HGA.out (.int .i64 lo.y2))
         clear z0 z1 z2 z3 f0 f1 f2 f3
         refine One_mk (KW.mk' HC.out) ?_
         generalize ((((wt12.setCell ⟨ga, 0, none⟩ (.int .i64 lo.x1)).setCell ⟨ga, 1, none⟩ (.int .i64 lo.y1)).setCell ⟨ga, 2, none⟩ (.int .i64 lo.x2)).setCell ⟨ga, 3, none⟩ (.int .i64 lo.y2)) = wt13 at *
         refine wpTree_one ?_
         simp only [nthOp]
         obtain ⟨z0, z1, z2, z3, f0, f1, f2, f3⟩ := HB.out
         go_wp2_with fail
         have HA := Lib.hid (HA.out.set (a := ⟨gb, 0, none⟩) (u := (.int .i64 hi.x1)) (by first | exact HNE.out | exact fun e => HNE.out e.symm) rfl)
         have HC := Lib.hid (HC.out.setCell (p := ⟨gb, 0, none⟩) HGB.out (.int .i64 hi.x1))
         have HA := Lib.hid (HA.out.set (a := ⟨gb, 1, none⟩) (u := (.int .i64 hi.y1)) (by first | exact HNE.out | exact fun e => HNE.out e.symm) rfl)
         have HC := Lib.hid (HC.out.setCell (p := ⟨gb, 1, none⟩) HGB.out (.int .i64 hi.y1))
         have HA := Lib.hid (HA.out.set (a := ⟨gb, 2, none⟩) (u := (.int .i64 hi.x2)) (by first | exact HNE.out | exact fun e => HNE.out e.symm) rfl)
         have HC := Lib.hid (HC.out.setCell (p := ⟨gb, 2, none⟩) HGB.out (.int .i64 hi.x2))
         have HA := Lib.hid (HA.out.set (a := ⟨gb, 3, none⟩) (u := (.int .i64 hi.y2)) (by first | exact HNE.out | exact fun e => HNE.out e.symm) rfl)
         have HC := Lib.hid (HC.out.setCell (p := ⟨gb, 3, none⟩) HGB.out (.int .i64 hi.y2))
         clear z0 z1 z2 z3 f0 f1 f2 f3
         refine One_mk (KW.mk' HC.out) ?_
         generalize ((((wt13.setCell ⟨gb, 0, none⟩ (.int .i64 hi.x1)).setCell ⟨gb, 1, none⟩ (.int .i64 hi.y1)).setCell ⟨gb, 2, none⟩ (.int .i64 hi.x2)).setCell ⟨gb, 3, none⟩ (.int .i64 hi.y2)) = wt14 at *
         refine wpTree_done ?_
         simp only [List.drop_succ_cons, List.drop_zero]
         go_wp2_with fail
         refine NP_mk ?_
         exact cut_meet (by simp [forget]) ⟨rfl, HC.out⟩
        ·skip
         simp only [nthOp]
         go_wp2_with fail
         have HB := Lib.hid (show BoxR (wt10.alloc (.cells #[.int .i64 0, .int .i64 0, .int .i64 0, .int .i64 0] 41)) wt10.heap.size ⟨0, 0, 0, 0⟩ from ⟨by simp [go_sem], by simp [go_sem], by simp [go_sem], by simp [go_sem], by simp [go_sem], by simp [go_sem], by simp [go_sem], by simp [go_sem]⟩)
         have HNE := Lib.hid (show ga ≠ wt10.heap.size from by have := HA.out.lt; omega)
         have HA := Lib.hid (HA.out.keep ((Below.refl wt10.heap.size wt10).alloc (Nat.le_refl _) (.cells #[.int .i64 0, .int .i64 0, .int .i64 0, .int .i64 0] 41)))
         have HGB := Lib.hid HC.out.size
         have HC := Lib.hid (HC.out.alloc HC.out.size (.cells #[.int .i64 0, .int .i64 0, .int .i64 0, .int .i64 0] 41))
         refine One_mk (KW.mk' HC.out) ?_
         generalize (wt10.alloc (.cells #[.int .i64 0, .int .i64 0, .int .i64 0, .int .i64 0] 41)) = wt15 at *
         generalize wt10.heap.size = gb at *
         refine wpTree_one ?_
         simp only [nthOp]
         go_wp2_with (go_at_call 29; refine (HPT.out _).mono ?_; rintro e wt16 ⟨rfl, hb⟩; have HA := Lib.hid (HA.out.keep hb); have HB := Lib.hid (HB.out.keep hb); have HC := Lib.hid (HC.out.trans (hb.mono HC.out.size)); clear hb)
         refine One_mk (KW.mk' HC.out) ?_
         (refine wpTree_take ?_; simp only [nthOp]; (first | go_big_quiet_step (fail) | quiet_step (fail)); refine wpQuiet_nil ?_)
         (refine wpTree_take ?_; simp only [nthOp]; (first | go_big_quiet_step (fail) | quiet_step (fail)); refine wpQuiet_nil ?_)
         (refine wpTree_take ?_; simp only [nthOp]; (first | go_big_quiet_step (fail) | quiet_step (fail)); refine wpQuiet_nil ?_)
         (refine wpTree_take ?_; simp only [nthOp]; (first | go_big_quiet_step (fail) | quiet_step (fail)); refine wpQuiet_nil ?_)
         refine wpTree_one ?_
         simp only [nthOp]
         obtain ⟨z0, z1, z2, z3, f0, f1, f2, f3⟩ := HA.out
         go_wp2_with fail
         have HB := Lib.hid (HB.out.set (a := ⟨ga, 0, none⟩) (u := (.int .i64 lo.x1)) (by first | exact HNE.out | exact fun e => HNE.out e.symm) rfl)
         have HC := Lib.hid (HC.out.setCell (p := ⟨ga, 0, none⟩) HGA.out (.int .i64 lo.x1))
         have HB := Lib.hid (HB.out.set (a := ⟨ga, 1, none⟩) (u := (.int .i64 lo.y1)) (by first | exact HNE.out | exact fun e => HNE.out e.symm) rfl)
         have HC := Lib.hid (HC.out.setCell (p := ⟨ga, 1, none⟩) HGA.out (.int .i64 lo.y1))
         have HB := Lib.hid (HB.out.set (a := ⟨ga, 2, none⟩) (u := (.int .i64 lo.x2)) (by first | exact HNE.out | exact fun e => HNE.out e.symm) rfl)
         have HC := Lib.hid (HC.out.setCell (p := ⟨ga, 2, none⟩) HGA.out (.int .i64 lo.x2))
         have HB := Lib.hid (HB.out.set (a := ⟨ga, 3, none⟩) (u := (.int .i64 lo.y2)) (by first | exact HNE.out | exact fun e => HNE.out e.symm) rfl)
         have HC := Lib.hid (HC.out.setCell (p := ⟨ga, 3, none⟩) HGA.out (.int .i64 lo.y2))
         clear z0 z1 z2 z3 f0 f1 f2 f3
         refine One_mk (KW.mk' HC.out) ?_
         generalize ((((wt16.setCell ⟨ga, 0, none⟩ (.int .i64 lo.x1)).setCell ⟨ga, 1, none⟩ (.int .i64 lo.y1)).setCell ⟨ga, 2, none⟩ (.int .i64 lo.x2)).setCell ⟨ga, 3, none⟩ (.int .i64 lo.y2)) = wt17 at *
         refine wpTree_one ?_
         simp only [nthOp]
         obtain ⟨z0, z1, z2, z3, f0, f1, f2, f3⟩ := HB.out
         go_wp2_with fail
         have HA := Lib.hid (HA.out.set (a := ⟨gb, 0, none⟩) (u := (.int .i64 hi.x1)) (by first | exact HNE.out | exact fun e => HNE.out e.symm) rfl)
         have HC := Lib.hid (HC.out.setCell (p := ⟨gb, 0, none⟩) HGB.out (.int .i64 hi.x1))
         have HA := Lib.hid (HA.out.set (a := ⟨gb, 1, none⟩) (u := (.int .i64 hi.y1)) (by first | exact HNE.out | exact fun e => HNE.out e.symm) rfl)
         have HC := Lib.hid (HC.out.setCell (p := ⟨gb, 1, none⟩) HGB.out (.int .i64 hi.y1))
         have HA := Lib.hid (HA.out.set (a := ⟨gb, 2, none⟩) (u := (.int .i64 hi.x2)) (by first | exact HNE.out | exact fun e => HNE.out e.symm) rfl)
         have HC := Lib.hid (HC.out.setCell (p := ⟨gb, 2, none⟩) HGB.out (.int .i64 hi.x2))
         have HA := Lib.hid (HA.out.set (a := ⟨gb, 3, none⟩) (u := (.int .i64 hi.y2)) (by first | exact HNE.out | exact fun e => HNE.out e.symm) rfl)
         have HC := Lib.hid (HC.out.setCell (p := ⟨gb, 3, none⟩) HGB.out (.int .i64 hi.y2))
         clear z0 z1 z2 z3 f0 f1 f2 f3
         refine One_mk (KW.mk' HC.out) ?_
         generalize ((((wt17.setCell ⟨gb, 0, none⟩ (.int .i64 hi.x1)).setCell ⟨gb, 1, none⟩ (.int .i64 hi.y1)).setCell ⟨gb, 2, none⟩ (.int .i64 hi.x2)).setCell ⟨gb, 3, none⟩ (.int .i64 hi.y2)) = wt18 at *
         refine wpTree_done ?_
         simp only [List.drop_succ_cons, List.drop_zero]
         go_wp2_with fail
         refine NP_mk ?_
         exact cut_meet (by simp [forget]) ⟨rfl, HC.out⟩
       ·skip
        simp only [nthOp]
        go_wp2_with fail
        have HB := Lib.hid (show BoxR (wz.alloc (.cells #[.int .i64 0, .int .i64 0, .int .i64 0, .int .i64 0] 41)) wz.heap.size ⟨0, 0, 0, 0⟩ from ⟨by simp [go_sem], by simp [go_sem], by simp [go_sem], by simp [go_sem], by simp [go_sem], by simp [go_sem], by simp [go_sem], by simp [go_sem]⟩)
        have HGB := Lib.hid HC.out.size
        have HC := Lib.hid (HC.out.alloc HC.out.size (.cells #[.int .i64 0, .int .i64 0, .int .i64 0, .int .i64 0] 41))
        refine One_mk (KW.mk' HC.out) ?_
        generalize (wz.alloc (.cells #[.int .i64 0, .int .i64 0, .int .i64 0, .int .i64 0] 41)) = wt19 at *
        generalize wz.heap.size = gb at *
        refine wpTree_two ?_ ?_
        ·skip
         simp only [nthOp]
         go_wp2_with (go_at_call 29; refine (HPT.out _).mono ?_; rintro e wt20 ⟨rfl, hb⟩; have HB := Lib.hid (HB.out.keep hb); have HC := Lib.hid (HC.out.trans (hb.mono HC.out.size)); clear hb)
         refine One_mk (KW.mk' HC.out) ?_
         (refine wpTree_take ?_; simp only [nthOp]; (first | go_big_quiet_step (fail) | quiet_step (fail)); refine wpQuiet_nil ?_)
         (refine wpTree_take ?_; simp only [nthOp]; (first | go_big_quiet_step (fail) | quiet_step (fail)); refine wpQuiet_nil ?_)
         (refine wpTree_take ?_; simp only [nthOp]; (first | go_big_quiet_step (fail) | quiet_step (fail)); refine wpQuiet_nil ?_)
         (refine wpTree_take ?_; simp only [nthOp]; (first | go_big_quiet_step (fail) | quiet_step (fail)); refine wpQuiet_nil ?_)
         refine wpTree_one ?_
         simp only [nthOp]
         go_wp2_with fail
         have HA := Lib.hid (show BoxR (wt20.alloc (.cells #[.int .i64 0, .int .i64 0, .int .i64 0, .int .i64 0] 41)) wt20.heap.size ⟨0, 0, 0, 0⟩ from ⟨by simp [go_sem], by simp [go_sem], by simp [go_sem], by simp [go_sem], by simp [go_sem], by simp [go_sem], by simp [go_sem], by simp [go_sem]⟩)
         have HNE := Lib.hid (show gb ≠ wt20.heap.size from by have := HB.out.lt; omega)
         have HB := Lib.hid (HB.out.keep ((Below.refl wt20.heap.size wt20).alloc (Nat.le_refl _) (.cells #[.int .i64 0, .int .i64 0, .int .i64 0, .int .i64 0] 41)))
         have HGA := Lib.hid HC.out.size
         have HC := Lib.hid (HC.out.alloc HC.out.size (.cells #[.int .i64 0, .int .i64 0, .int .i64 0, .int .i64 0] 41))
         refine One_mk (KW.mk' HC.out) ?_
         generalize (wt20.alloc (.cells #[.int .i64 0, .int .i64 0, .int .i64 0, .int .i64 0] 41)) = wt21 at *
         generalize wt20.heap.size = ga at *
         refine wpTree_one ?_
         simp only [nthOp]
         obtain ⟨z0, z1, z2, z3, f0, f1, f2, f3⟩ := HA.out
         go_wp2_with fail
         have HB := Lib.hid (HB.out.set (a := ⟨ga, 0, none⟩) (u := (.int .i64 lo.x1)) (by first | exact HNE.out | exact fun e => HNE.out e.symm) rfl)
         have HC := Lib.hid (HC.out.setCell (p := ⟨ga, 0, none⟩) HGA.out (.int .i64 lo.x1))
         have HB := Lib.hid (HB.out.set (a := ⟨ga, 1, none⟩) (u := (.int .i64 lo.y1)) (by first | exact HNE.out | exact fun e => HNE.out e.symm) rfl)
         have HC := Lib.hid (HC.out.setCell (p := ⟨ga, 1, none⟩) HGA.out (.int .i64 lo.y1))
         have HB := Lib.hid (HB.out.set (a := ⟨ga, 2, none⟩) (u := (.int .i64 lo.x2)) (by first | exact HNE.out | exact fun e => HNE.out e.symm) rfl)
         have HC := Lib.hid (HC.out.setCell (p := ⟨ga, 2, none⟩) HGA.out (.int .i64 lo.x2))
         have HB := Lib.hid (HB.out.set (a := ⟨ga, 3, none⟩) (u := (.int .i64 lo.y2)) (by first | exact HNE.out | exact fun e => HNE.out e.symm) rfl)
         have HC := Lib.hid (HC.out.setCell (p := ⟨ga, 3, none⟩) HGA.out (.int .i64 lo.y2))
         clear z0 z1 z2 z3 f0 f1 f2 f3
         refine One_mk (KW.mk' HC.out) ?_
         generalize ((((wt21.setCell ⟨ga, 0, none⟩ (.int .i64 lo.x1)).setCell ⟨ga, 1, none⟩ (.int .i64 lo.y1)).setCell ⟨ga, 2, none⟩ (.int .i64 lo.x2)).setCell ⟨ga, 3, none⟩ (.int .i64 lo.y2)) = wt22 at *
         refine wpTree_one ?_
         simp only [nthOp]
         obtain ⟨z0, z1, z2, z3, f0, f1, f2, f3⟩ := HB.out
         go_wp2_with fail
         have HA := Lib.hid (HA.out.set (a := ⟨gb, 0, none⟩) (u := (.int .i64 hi.x1)) (by first | exact HNE.out | exact fun e => HNE.out e.symm) rfl)
         have HC := Lib.hid (HC.out.setCell (p := ⟨gb, 0, none⟩) HGB.out (.int .i64 hi.x1))
         have HA := Lib.hid (HA.out.set (a := ⟨gb, 1, none⟩) (u := (.int .i64 hi.y1)) (by first | exact HNE.out | exact fun e => HNE.out e.symm) rfl)
         have HC := Lib.hid (HC.out.setCell (p := ⟨gb, 1, none⟩) HGB.out (.int .i64 hi.y1))
         have HA := Lib.hid (HA.out.set (a := ⟨gb, 2, none⟩) (u := (.int .i64 hi.x2)) (by first | exact HNE.out | exact fun e => HNE.out e.symm) rfl)
         have HC := Lib.hid (HC.out.setCell (p := ⟨gb, 2, none⟩) HGB.out (.int .i64 hi.x2))
         have HA := Lib.hid (HA.out.set (a := ⟨gb, 3, none⟩) (u := (.int .i64 hi.y2)) (by first | exact HNE.out | exact fun e => HNE.out e.symm) rfl)
         have HC := Lib.hid (HC.out.setCell (p := ⟨gb, 3, none⟩) HGB.out (.int .i64 hi.y2))
         clear z0 z1 z2 z3 f0 f1 f2 f3
         refine One_mk (KW.mk' HC.out) ?_
         generalize ((((wt22.setCell ⟨gb, 0, none⟩ (.int .i64 hi.x1)).setCell ⟨gb, 1, none⟩ (.int .i64 hi.y1)).setCell ⟨gb, 2, none⟩ (.int .i64 hi.x2)).setCell ⟨gb, 3, none⟩ (.int .i64 hi.y2)) = wt23 at *
         refine wpTree_done ?_
         simp only [List.drop_succ_cons, List.drop_zero]
         go_wp2_with fail
         refine NP_mk ?_
         exact cut_meet (by simp [forget]) ⟨rfl, HC.out⟩
        ·skip
         simp only [nthOp]
         go_wp2_with fail
         have HA := Lib.hid (show BoxR (wt19.alloc (.cells #[.int .i64 0, .int .i64 0, .int .i64 0, .int .i64 0] 41)) wt19.heap.size ⟨0, 0, 0, 0⟩ from ⟨by simp [go_sem], by simp [go_sem], by simp [go_sem], by simp [go_sem], by simp [go_sem], by simp [go_sem], by simp [go_sem], by simp [go_sem]⟩)
         have HNE := Lib.hid (show gb ≠ wt19.heap.size from by have := HB.out.lt; omega)
         have HB := Lib.hid (HB.out.keep ((Below.refl wt19.heap.size wt19).alloc (Nat.le_refl _) (.cells #[.int .i64 0, .int .i64 0, .int .i64 0, .int .i64 0] 41)))
         have HGA := Lib.hid HC.out.size
         have HC := Lib.hid (HC.out.alloc HC.out.size (.cells #[.int .i64 0, .int .i64 0, .int .i64 0, .int .i64 0] 41))
         refine One_mk (KW.mk' HC.out) ?_
         generalize (wt19.alloc (.cells #[.int .i64 0, .int .i64 0, .int .i64 0, .int .i64 0] 41)) = wt24 at *
         generalize wt19.heap.size = ga at *
         refine wpTree_one ?_
         simp only [nthOp]
         go_wp2_with (go_at_call 29; refine (HPT.out _).mono ?_; rintro e wt25 ⟨rfl, hb⟩; have HA := Lib.hid (HA.out.keep hb); have HB := Lib.hid (HB.out.keep hb); have HC := Lib.hid (HC.out.trans (hb.mono HC.out.size)); clear hb)
         refine One_mk (KW.mk' HC.out) ?_
         (refine wpTree_take ?_; simp only [nthOp]; (first | go_big_quiet_step (fail) | quiet_step (fail)); refine wpQuiet_nil ?_)
         (refine wpTree_take ?_; simp only [nthOp]; (first | go_big_quiet_step (fail) | quiet_step (fail)); refine wpQuiet_nil ?_)
         (refine wpTree_take ?_; simp only [nthOp]; (first | go_big_quiet_step (fail) | quiet_step (fail)); refine wpQuiet_nil ?_)
         (refine wpTree_take ?_; simp only [nthOp]; (first | go_big_quiet_step (fail) | quiet_step (fail)); refine wpQuiet_nil ?_)
         refine wpTree_one ?_
         simp only [nthOp]
         obtain ⟨z0, z1, z2, z3, f0, f1, f2, f3⟩ := HA.out
         go_wp2_with fail
         have HB := Lib.hid (HB.out.set (a := ⟨ga, 0, none⟩) (u := (.int .i64 lo.x1)) (by first | exact HNE.out | exact fun e => HNE.out e.symm) rfl)
         have HC := Lib.hid (HC.out.setCell (p := ⟨ga, 0, none⟩) HGA.out (.int .i64 lo.x1))
         have HB := Lib.hid (HB.out.set (a := ⟨ga, 1, none⟩) (u := (.int .i64 lo.y1)) (by first | exact HNE.out | exact fun e => HNE.out e.symm) rfl)
         have HC := Lib.hid (HC.out.setCell (p := ⟨ga, 1, none⟩) HGA.out (.int .i64 lo.y1))
         have HB := Lib.hid (HB.out.set (a := ⟨ga, 2, none⟩) (u := (.int .i64 lo.x2)) (by first | exact HNE.out | exact fun e => HNE.out e.symm) rfl)
         have HC := Lib.hid (HC.out.setCell (p := ⟨ga, 2, none⟩) HGA.out (.int .i64 lo.x2))
         have HB := Lib.hid (HB.out.set (a := ⟨ga, 3, none⟩) (u := (.int .i64 lo.y2)) (by first | exact HNE.out | exact fun e => HNE.out e.symm) rfl)
         have HC := Lib.hid (HC.out.setCell (p := ⟨ga, 3, none⟩) HGA.out (.int .i64 lo.y2))
         clear z0 z1 z2 z3 f0 f1 f2 f3
         refine One_mk (KW.mk' HC.out) ?_
         generalize ((((wt25.setCell ⟨ga, 0, none⟩ (.int .i64 lo.x1)).setCell ⟨ga, 1, none⟩ (.int .i64 lo.y1)).setCell ⟨ga, 2, none⟩ (.int .i64 lo.x2)).setCell ⟨ga, 3, none⟩ (.int .i64 lo.y2)) = wt26 at *
         refine wpTree_one ?_
         simp only [nthOp]
         obtain ⟨z0, z1, z2, z3, f0, f1, f2, f3⟩ := HB.out
         go_wp2_with fail
         have HA := Lib.hid (HA.out.set (a := ⟨gb, 0, none⟩) (u := (.int .i64 hi.x1)) (by first | exact HNE.out | exact fun e => HNE.out e.symm) rfl)
         have HC := Lib.hid (HC.out.setCell (p := ⟨gb, 0, none⟩) HGB.out (.int .i64 hi.x1))
         have HA := Lib.hid (HA.out.set (a := ⟨gb, 1, none⟩) (u := (.int .i64 hi.y1)) (by first | exact HNE.out | exact fun e => HNE.out e.symm) rfl)
         have HC := Lib.hid (HC.out.setCell (p := ⟨gb, 1, none⟩) HGB.out (.int .i64 hi.y1))
         have HA := Lib.hid (HA.out.set (a := ⟨gb, 2, none⟩) (u := (.int .i64 hi.x2)) (by first | exact HNE.out | exact fun e => HNE.out e.symm) rfl)
         have HC := Lib.hid (HC.out.setCell (p := ⟨gb, 2, none⟩) HGB.out (.int .i64 hi.x2))
         have HA := Lib.hid (HA.out.set (a := ⟨gb, 3, none⟩) (u := (.int .i64 hi.y2)) (by first | exact HNE.out | exact fun e => HNE.out e.symm) rfl)
         have HC := Lib.hid (HC.out.setCell (p := ⟨gb, 3, none⟩) HGB.out (.int .i64 hi.y2))
         clear z0 z1 z2 z3 f0 f1 f2 f3
         refine One_mk (KW.mk' HC.out) ?_
         generalize ((((wt26.setCell ⟨gb, 0, none⟩ (.int .i64 hi.x1)).setCell ⟨gb, 1, none⟩ (.int .i64 hi.y1)).setCell ⟨gb, 2, none⟩ (.int .i64 hi.x2)).setCell ⟨gb, 3, none⟩ (.int .i64 hi.y2)) = wt27 at *
         refine wpTree_done ?_
         simp only [List.drop_succ_cons, List.drop_zero]
         go_wp2_with fail
         refine NP_mk ?_
         exact cut_meet (by simp [forget]) ⟨rfl, HC.out⟩
      clear kx0 nn2
      rintro u WA ⟨hu17, hb⟩
      simp only [forget, List.foldl_cons, List.foldl_nil, hu17, List.setIfInBounds_toArray, List.set_cons_succ, List.set_cons_zero]
      have HQA := Lib.hid (HQ9.out.keep hb)
      have HLA := Lib.hid (HL9.out.keep hb)
      clear hb hu17
      obtain ⟨m0, m1, m2, m3, mf0, mf1, mf2, mf3⟩ := HQA.out.o
      go_wp2_with fail
      go_roundw
      case rel => exact ⟨m + 1, by omega, by go_num, by rw [HW.out]; exact Lib.hid (HQA.out.set 2 _), Lib.hid (HLA.out.off (p := ⟨g9, 2, none⟩) HN9.out.1)⟩
      case measure => first | (simp [intOf]; done) | (simp [intOf]; omega)
    ·obtain rfl : m = cs.length := by omega
     have hmi : ¬ ((cs.length : Nat) : Int) < ((cs.length : Nat) : Int) := by omega
     go_wp2_with fail
     go_roundw
     case rel => exact ⟨k + 1, by omega, by go_num, by rw [HST.out]; exact HQ⟩
     case measure => first | (simp [intOf]; done) | (simp [intOf]; omega)
  ·obtain rfl : k = plan.length := by omega
   have hki : ¬ ((plan.length : Nat) : Int) < ((plan.length : Nat) : Int) := by omega
   have HAM := Lib.hid (show areasF j plan = arPlan j plan plan.length from HA.out)
   obtain ⟨z0, z1, z2, z3, f0, f1, f2, f3⟩ := (HHOLD.out wo HP.out.b).2.1
   have HBE := Lib.hid (HHOLD.out wo HP.out.b).2.2.2.1
   obtain ⟨a, ha⟩ : ∃ a, arPlan j plan plan.length = a := ⟨_, rfl⟩
   rw [ha] at HP HAM
   obtain ⟨m0, m1, m2, m3, -, -, -, -⟩ := HP.out.o
   clear ha
   go_wp2_with fail
   refine bodyPost_ret (v := .tuple #[arsV a, .int .i64 0]) (by simp [results, Tryz.results8, go_sem, arsV, *]) rfl ?_
   exact ⟨by rw [HAM.out], by
    have h1 := HBE.out
    have h2 := HG.out.1
    repeat (first | exact h1 | (refine Below.setCell ?_ (by first | exact h2 | omega) _))⟩
end Go.Proofs.YtjmgboipbhddlaaGreatDoor
