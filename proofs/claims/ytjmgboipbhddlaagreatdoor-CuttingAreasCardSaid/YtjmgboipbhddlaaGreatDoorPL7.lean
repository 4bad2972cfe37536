import Derived.Laws.EntriesVeiled
import Derived.RangeFuncLeaves
import Derived.Shelf.Abstract
import Derived.WalkKit
import Derived.OwnWalkIn
import Derived.TacticsInMore
import Derived.LoopNIn
import Derived.LoopIn
import Derived.Test.YtjmgboipbhddlaaGreatDoorPL8
set_option linter.unusedVariables false
set_option linter.unusedSimpArgs false
namespace Go.Proofs.YtjmgboipbhddlaaGreatDoor
open Go Go.RowKit Go.Maps Go.Shelf
attribute [local go_sem] Oper.semAt_some

set_option maxRecDepth 100000 in
set_option maxHeartbeats 16000000 in
theorem checked_any (j : Job) (plan : List Layout) (a1 : Option Addr) (c1 : Nat) (a2 : Option Addr) (c2 : Nat) (ap : Option Addr) (cp : Nat) (w : World) (hs : Boards.V w a1 j.stock) (hsl : j.stock.length ≤ 9223372036854775807) (hb : Blanks.V w a2 j.blanks) (hbl : j.blanks.length ≤ 9223372036854775807) (hp : Layouts.V w ap plan) (hpl : plan.length ≤ 1000) (hcuts : ∀ l ∈ plan, l.cuts.length ≤ 100000) :
    Calls Tryz.prog 26 #[.agg #[.slice a1 j.stock.length c1, .slice a2 j.blanks.length c2, .int .i64 j.trim.kerf, .int .i64 j.trim.ends, .int .i64 j.trim.sides], .slice ap plan.length cp] w (CheckedPost w j plan (planE2 j plan)) := by
 obtain ⟨q, hq⟩ : ∃ q, planE2 j plan = q := ⟨_, rfl⟩
 rw [hq]
 have HQ0 := Lib.hid hq
 have HPV := Lib.hid hp
 have HPL := Lib.hid hcuts
 have HSV := Lib.hid hs
 have HBV := Lib.hid hb
 obtain ⟨EJ, hEJ⟩ : ∃ E, jobE j = E := ⟨_, rfl⟩
 have HEJ := Lib.hid hEJ
 have hmm := @run_makeMap Tryz.prog
 clear hq hp hs hb hEJ hcuts
 refine callsIn_wide.1 (callsIn_of_wp_marks (F := Fence.wide) (n := 3) Tryz.func26 rfl trivial ?_ rfl)
 refine wpIn_wide.2 ?_
 simp only [Tryz.ntmps26, List.size_toArray, List.length_cons, List.length_nil, Nat.reduceAdd, Nat.reduceSub, Array.replicate_succ, Array.replicate_zero, List.push_toArray, List.append_toArray, List.nil_append, List.cons_append]
 go_upto_region 2 with fail
 refine gen_world (fun W => JB W w.heap.size j a1 c1 a2 c2 ∧ OutB W (w.heap.size + 1) (w.heap.size + 2) (w.heap.size + 3) ∧ W.cell? ⟨w.heap.size + 4, 0, none⟩ = some (.func (.func 54) #[] #[]) ∧ Below w.heap.size w W) ⟨⟨by simp [go_sem], by simp [go_sem], by simp [go_sem], by simp [go_sem], by simp [go_sem]⟩, ⟨by simp [go_sem], by simp [go_sem], by simp [go_sem], by simp [go_sem], by simp [go_sem], by simp [go_sem], by simp [go_sem], by simp [go_sem], by simp [go_sem], by simp [go_sem], by simp [go_sem], by simp [go_sem], by simp [go_sem], by simp [go_sem], by simp [go_sem], by simp [go_sem]⟩, by simp [go_sem], by repeat (first | (with_reducible assumption) | exact Below.refl _ _ | (refine Below.setCell ?_ (by first | omega | (simp; omega) | (simp; done)) _) | (refine Below.alloc ?_ (by first | omega | (simp; omega) | (simp; done)) _) | (refine Below.drew ?_))⟩ ?_
 rintro W ⟨hC, hO, hF, hbW⟩
 try simp only [Nat.add_assoc, Nat.reduceAdd]
 obtain ⟨gj, hgj⟩ : ∃ g, g = w.heap.size := ⟨_, rfl⟩
 obtain ⟨g4, hg4⟩ : ∃ g, g = w.heap.size + 1 := ⟨_, rfl⟩
 obtain ⟨g5, hg5⟩ : ∃ g, g = w.heap.size + 2 := ⟨_, rfl⟩
 obtain ⟨g6, hg6⟩ : ∃ g, g = w.heap.size + 3 := ⟨_, rfl⟩
 obtain ⟨g7, hg7⟩ : ∃ g, g = w.heap.size + 4 := ⟨_, rfl⟩
 rw [← hg4, ← hg5, ← hg6] at hO
 rw [← hg7] at hF
 rw [← hgj] at hC
 rw [← hg4, ← hg5, ← hg6, ← hg7, ← hgj]
 have hzW : gj < W.heap.size := by have := block_lt_of_cell hC.s; simpa using this
 have HG := Lib.hid (show (w.heap.size ≤ g4 ∧ w.heap.size ≤ g5 ∧ w.heap.size ≤ g6) ∧ g4 ≠ g5 ∧ g4 ≠ g6 ∧ g5 ≠ g6 by omega)
 have HC0 := Lib.hid hC
 have HO0 := Lib.hid hO
 have HF0 := Lib.hid hF
 have HBW := Lib.hid hbW
 obtain ⟨k0, k1, k2, k3, k4⟩ := hC
 clear hbW hO hF hgj hg4 hg5 hg6 hg7
 go_upto_region 3 with (go_at_call 44; refine (checkJobP_any j a1 c1 a2 c2 _ (HSV.out.keep HBW.out) hsl (HBV.out.keep HBW.out) hbl).mono ?_; rw [HEJ.out]; rintro e w1 ⟨rfl, hb1⟩; have HB1 := Lib.hid hb1; clear hb1)
 have HBV1 := Lib.hid (HBW.out.trans (HB1.out.mono HBW.out.size))
 have HC := Lib.hid (HC0.out.keep HB1.out hzW)
 have HO := Lib.hid (HO0.out.keep HB1.out)
 have HF := Lib.hid (cell_keep HB1.out HF0.out)
 have hzW1 := Nat.lt_of_lt_of_le hzW HB1.out.size
 clear k0 k1 k2 k3 k4 HC0 HO0 HF0 HB1 HBW hzW
 by_cases hej : EJ = 0
 ·subst hej
  have HQ := Lib.hid (show q = planOf j plan by rw [← HQ0.out]; unfold planE2; rw [if_neg (by rw [HEJ.out]; simp)])
  clear HQ0
  have HJO := Lib.hid (jobOk_of HEJ.out)
  obtain ⟨AD, CD, hSC⟩ := stock_ch HSV.out
  have HSC := Lib.hid hSC
  have hN := HJO.out.lenS
  have v0 : IntKind.i64.wrap ((j.stock.length : Int) - 1) = (j.stock.length : Int) - 1 := IntWalk.i64_in _ (by omega)
  obtain ⟨X, hX⟩ : ∃ X, X = layGo j plan [] := ⟨_, rfl⟩
  have HX := Lib.hid hX
  have HNX := Lib.hid (fun h => HQ.out.trans (planOf_lay hX h))
  obtain ⟨l0, hl0, hy0, hy1, hy2⟩ := info_parts laid_info
  clear hX hSC
  go_upto_region 7 with fail
  obtain ⟨bm, hbm⟩ : ∃ g, g = w1.heap.size := ⟨_, rfl⟩
  rw [← hbm]
  have hsee : SeenI (w1.alloc (.map #[] 0)) bm 0 [] := by rw [hbm]; exact SeenI.made w1
  have HSE := Lib.hid hsee
  have HBM := Lib.hid hbm
  have HB0 := Lib.hid (show Below w1.heap.size w1 (w1.alloc (.map #[] 0)) from (Below.refl _ _).alloc (Nat.le_refl _) _)
  have HZ0 := Lib.hid (show bm < (w1.alloc (.map #[] 0)).heap.size by rw [hbm]; simp)
  generalize w1.alloc (.map #[] 0) = w2 at *
  clear hsee hbm hmm
  go_wp2_with fail
  go_loopw [9, 38] (fun v iv wr => ∃ (k : Nat) (xs : List LaidC), k ≤ plan.length ∧ iv = .int .i64 k ∧ Hid (X = layGo j (plan.drop k) (boardsTo plan k)) ∧ Hid (SeenI wr bm k (boardsTo plan k)) ∧ Hid (wr.ownsRow (bm + 1) 83 3 v k (xs.flatMap cellsLd)) ∧ Hid (xs.map LaidC.lay = plan.take k) ∧ Hid (∀ x ∈ xs, LaidOk j w wr v bm x) ∧ Below w1.heap.size w1 wr ∧ bm < wr.heap.size) (fun _ iv _ => plan.length - (intOf iv).toNat)
  case atStart => exact ⟨0, [], Nat.zero_le _, rfl, HX, HSE, Lib.hid (World.ownsRow_nil _ _ _ _), Lib.hid rfl, Lib.hid (fun x hx => absurd hx (by simp)), HB0.out, HZ0.out⟩
  case round =>
   obtain ⟨k, xs, hk, rfl, HXK, HSN, HOW, HXM, HXO, hbr, hbz⟩ := hrel
   obtain ⟨av, cv, rfl, -, -⟩ := own_slice HOW.out
   obtain ⟨wo, rfl⟩ : ∃ wo : World, wo = wr := ⟨_, rfl⟩
   have HBO := Lib.hid hbr
   have HCO := Lib.hid (HC.out.keep hbr hzW1)
   have HOO := Lib.hid (HO.out.keep hbr)
   have HFO := Lib.hid (cell_keep hbr HF.out)
   have hzr := Nat.lt_of_lt_of_le hzW1 hbr.size
   have HBB := Lib.hid (HBV1.out.trans (hbr.mono HBV1.out.size))
   have HBZ0 := Lib.hid hbz
   clear hbr hbz
   by_cases hlt : k < plan.length
   ·have hki : (k : Int) < (plan.length : Int) := by omega
    have v1 : IntKind.i64.wrap ((k : Int) + 1) = (k : Int) + 1 := IntWalk.i64_in _ (by omega)
    have HL6 := Lib.hid (lay_far hlt HXK.out)
    have HL5 := Lib.hid (lay_used hlt HXK.out)
    have HLE := Lib.hid (lay_err hlt HXK.out)
    have HLS := Lib.hid (lay_step hlt HXK.out)
    have HTK := Lib.hid (show plan.take (k + 1) = plan.take k ++ [plan[k]] from List.take_succ_eq_append_getElem hlt)
    have HBT := Lib.hid (show boardsTo plan (k + 1) = boardsTo plan k ++ [plan[k].board] by unfold boardsTo; rw [List.take_succ_eq_append_getElem hlt, List.map_append]; rfl)
    obtain ⟨gp, offp, hap, al, cl, m0, m1, hcv, hcl, hcm, hwf⟩ := HPV.out.at_ hlt
    obtain ⟨L, hL⟩ : ∃ L, L = plan[k] := ⟨_, rfl⟩
    have HLK := Lib.hid hL
    rw [← hL] at HL6 HL5 HLE HLS HTK HBT m0 m1 hcv hcl hwf
    subst hap
    clear hL
    obtain ⟨lb, cuts⟩ := L
    unfold Layout.wf at hwf
    simp only at HL6 HL5 HLE HLS HTK HBT m0 m1 hcv hcl hwf
    have m0 := cell_keep HBB.out m0
    have m1 := cell_keep HBB.out m1
    have HCW := Lib.hid hcv
    have HCL := Lib.hid (show cuts.length ≤ 100000 from HPL.out ⟨lb, cuts⟩ (by rw [HLK.out]; exact List.getElem_mem hlt))
    obtain ⟨k0, -, k2, k3, k4⟩ := HCO.out
    clear hcv
    go_upto_region 10 with fail
    refine gen_world (fun W1 => (W1.cell? ⟨wo.heap.size, 0, none⟩ = some (.int .i64 lb) ∧ W1.cell? ⟨wo.heap.size, 1, none⟩ = some (.slice al cuts.length cl)) ∧ Below wo.heap.size wo W1) ⟨⟨by simp [go_sem], by simp [go_sem]⟩, by repeat (first | (with_reducible assumption) | exact Below.refl _ _ | (refine Below.setCell ?_ (by first | omega | (simp; omega) | (simp; done)) _) | (refine Below.alloc ?_ (by first | omega | (simp; omega) | (simp; done)) _) | (refine Below.drew ?_))⟩ ?_
    rintro W1 ⟨⟨x0, x1⟩, hb1⟩
    obtain ⟨g8, hg8⟩ : ∃ g, g = wo.heap.size := ⟨_, rfl⟩
    rw [← hg8] at x0 x1 ⊢
    have k0 := cell_keep hb1 k0
    have HB1 := Lib.hid hb1
    have HO1 := Lib.hid (HOO.out.keep hb1)
    have HF1 := Lib.hid (cell_keep hb1 HFO.out)
    have HC1 := Lib.hid (HCO.out.keep hb1 hzr)
    have HBB1 := Lib.hid (HBB.out.trans (hb1.mono HBB.out.size))
    have HS1 := Lib.hid (HSN.out.below hb1)
    have hz1 := Nat.lt_of_lt_of_le hzr hb1.size
    have HG8 := Lib.hid (show bm < g8 ∧ g8 < W1.heap.size from ⟨by rw [hg8]; exact HBZ0.out, by have := block_lt_of_cell x0; simpa using this⟩)
    clear hg8 hb1 m0 m1 k2 k3 k4
    by_cases hin : 0 ≤ lb ∧ lb ≤ (j.stock.length : Int) - 1
    ·have HW := Lib.hid (withinB_in hin)
     obtain ⟨nb, hnb⟩ : ∃ nb : Nat, lb = nb := ⟨lb.toNat, by omega⟩
     subst hnb
     have hnbs : nb < j.stock.length := by omega
     have hnwf := wf_board (n := nb) (by omega)
     go_upto_region 12 with (go_at_call 30; refine (cwithin_is _ _ _ _ HW.out).mono ?_; rintro e w' ⟨rfl, rfl⟩)
     by_cases hus : (nb : Int) ∈ boardsTo plan k
     ·have hlk := SeenI.run HS1.out nb hnwf (decide_eq_true hus)
      have HQE := Lib.hid (HNX.out (by rw [HL5.out hin hus]; decide))
      rw [HL5.out hin hus] at HQE
      have HOZ := HO1
      have HBZ := HBB1
      have HF1 := HF1.out
      obtain ⟨-, n45, n46, n56⟩ := HG.out
      have n54 := n45.symm
      have n64 := n46.symm
      have n65 := n56.symm
      obtain ⟨r4, r6, z0, z1, z2, z3, z4, z5, y4, y6, f0, f1, f2, f3, f4, f5⟩ := HOZ.out
      go_wp2_with (go_at_call 54; refine (fail_any _ _ _ _ _ _ _ _).mono ?_; rintro e w9 ⟨rfl, hb9⟩; have HO9 := Lib.hid (HOZ.out.keep hb9); have HB9 := Lib.hid (HBZ.out.trans (hb9.mono HBZ.out.size)); have r4 := cell_keep hb9 r4; have r6 := cell_keep hb9 r6; have z0 := cell_keep hb9 z0; have z1 := cell_keep hb9 z1; have z2 := cell_keep hb9 z2; have z3 := cell_keep hb9 z3; have z4 := cell_keep hb9 z4; have z5 := cell_keep hb9 z5; have y4 := frozen_keep hb9 (block_lt_of_cell HOZ.out.x4) y4; have y6 := frozen_keep hb9 (block_lt_of_cell HOZ.out.x6) y6; have f0 := frozen_keep hb9 (block_lt_of_cell HOZ.out.c0) f0; have f1 := frozen_keep hb9 (block_lt_of_cell HOZ.out.c0) f1; have f2 := frozen_keep hb9 (block_lt_of_cell HOZ.out.c0) f2; have f3 := frozen_keep hb9 (block_lt_of_cell HOZ.out.c0) f3; have f4 := frozen_keep hb9 (block_lt_of_cell HOZ.out.c0) f4; have f5 := frozen_keep hb9 (block_lt_of_cell HOZ.out.c0) f5; clear hb9)
      refine checked_end (fun W' h => ?_) (Marks.out trivial) (outAt_set HO9.out n45 n46 n56 _ _ _ _ _ _ _ _) (fun W' hk hb => CheckedPost.bad HQE.out (by first | decide | assumption) ((below_out HB9.out HG.out.1.1 HG.out.1.2.1 HG.out.1.2.2).trans hb))
      obtain ⟨a4, a6, b0, b1, b2, b3, b4, b5⟩ := h
      clear r4 r6 z0 z1 z2 z3 z4 z5 y4 y6 f0 f1 f2 f3 f4 f5
      simp [results, Tryz.results26, go_sem, *]
     ·have hlk := SeenI.run HS1.out nb hnwf (decide_eq_false hus)
      go_upto_region 15 with (at_mapUpdate; refine wpList_seenI rfl _ _ _ rfl bm k _ (nb : Int) hnwf (by omega) rfl (by simp [go_sem]) rfl HS1.out ?_; intro W2 hS2 hg2; have HS2 := Lib.hid hS2; have HG2 := Lib.hid hg2; clear hS2 hg2)
      have HB2 := Lib.hid (show Below w1.heap.size w1 W2 from (HBO.out.trans (HB1.out.mono HBO.out.size)).grown HG2.out (Nat.le_trans HBO.out.size HB1.out.size) (fun q hq => by injection hq with hq; have := HBM.out; omega))
      have HBV2 := Lib.hid (HBV1.out.trans (HB2.out.mono HBV1.out.size))
      have HO2 := Lib.hid (HO.out.keep HB2.out)
      have HF2 := Lib.hid (cell_keep HB2.out HF.out)
      have HC2 := Lib.hid (HC.out.keep HB2.out hzW1)
      have y0 := HG2.out.cell x0 (show some (⟨g8, 0, none⟩ : Addr).block ≠ some bm from fun e => by injection e with e; have := HG8.out.1; simp only at e; omega)
      have y1 := HG2.out.cell x1 (show some (⟨g8, 1, none⟩ : Addr).block ≠ some bm from fun e => by injection e with e; have := HG8.out.1; simp only at e; omega)
      have HOW2 := Lib.hid ((own_keep HOW.out HB1.out).kept HG2.out (by
       cases hv : (Value.slice av k cv).ownBlock with
       | none => exact .inl rfl
       | some g => exact .inr fun e => by have := own_base HOW.out hv; injection e with e; omega))
      have HXO2 := Lib.hid (fun x hx => ((HXO.out x hx).below HB1.out).mapped HG2.out)
      have HZ2 := Lib.hid (Nat.lt_of_lt_of_le hz1 HG2.out.size)
      have HBM2 := Lib.hid (Nat.lt_of_lt_of_le (Nat.lt_trans HG8.out.1 HG8.out.2) HG2.out.size)
      obtain ⟨⟨gs, off, has, hcb⟩, hrv, hdl, hdm, hbwf⟩ := HSC.out.ch nb _ (List.getElem?_eq_getElem hnbs)
      subst has
      obtain ⟨⟨rs, re⟩, hrs⟩ : ∃ q, layOf j ⟨nb, cuts⟩ = q := ⟨_, rfl⟩
      have HRS0 := Lib.hid hrs
      have HLY := Lib.hid (show layM j.stock[nb] j.trim cuts = (rs, re) by
       rw [← hrs]; unfold layM; rw [if_neg (by rw [job_cut HEJ.out (List.getElem_mem hnbs)]; simp)]; unfold layOf; simp only [Int.toNat_natCast]; rw [List.getD_eq_getElem?_getD, List.getElem?_eq_getElem hnbs]; rfl)
      have HLE2 := Lib.hid (HLE.out hin hus)
      have HLS2 := Lib.hid (HLS.out hin hus)
      rw [hrs] at HLE2 HLS2
      simp only at HLE2 HLS2
      have HRV := Lib.hid (hrv.keep HBV2.out)
      have HCV2 := Lib.hid (HCW.out.keep HBV2.out)
      have HDL := Lib.hid (show j.stock[nb].defects.length ≤ 9223372036854775807 by unfold maxLen at hdm; omega)
      have HWF := Lib.hid hbwf
      obtain ⟨s0, s1, s2, s3, s4, s5, s6, s7⟩ := hcb.keep HBV2.out
      clear hrs k0 hcb hrv hdl hdm hbwf x0 x1 hlk HLE HLS HL5 HL6
      obtain ⟨k0, -, k2, k3, k4⟩ := HC2.out
      generalize AD nb = ad at *
      generalize CD nb = cd at *
      generalize j.stock[nb] = b at *
      have kx0 : ∀ y : KW (fun W' => Below W2.heap.size W2 W'), (y.w.cell? ⟨gj, 0, none⟩ = some (.slice (some ⟨gs, off, none⟩) j.stock.length c1) ∧ y.w.cell? ⟨gj, 2, none⟩ = some (.int .i64 j.trim.kerf)) ∧ y.w.cell? ⟨gj, 3, none⟩ = some (.int .i64 j.trim.ends) ∧ y.w.cell? ⟨gj, 4, none⟩ = some (.int .i64 j.trim.sides) := fun y => ⟨⟨cell_keep y.ok k0, cell_keep y.ok k2⟩, cell_keep y.ok k3, cell_keep y.ok k4⟩
      have kx1 : ∀ y : KW (fun W' => Below W2.heap.size W2 W'), y.w.cell? ⟨g8, 0, none⟩ = some (.int .i64 nb) ∧ y.w.cell? ⟨g8, 1, none⟩ = some (.slice al cuts.length cl) := fun y => ⟨cell_keep y.ok y0, cell_keep y.ok y1⟩
      have kx2 : ∀ y : KW (fun W' => Below W2.heap.size W2 W'), (y.w.cell? ⟨gs, off + nb * 8, none⟩ = some (.string b.name) ∧ y.w.cell? ⟨gs, off + nb * 8 + 1, none⟩ = some (.string b.species)) ∧ y.w.cell? ⟨gs, off + nb * 8 + 2, none⟩ = some (.int .i64 b.length) ∧ y.w.cell? ⟨gs, off + nb * 8 + 3, none⟩ = some (.int .i64 b.width) := fun y => ⟨⟨cell_keep y.ok s0, cell_keep y.ok s1⟩, cell_keep y.ok s2, cell_keep y.ok s3⟩
      have kx3 : ∀ y : KW (fun W' => Below W2.heap.size W2 W'), (y.w.cell? ⟨gs, off + nb * 8 + 4, none⟩ = some (.int .i64 b.thick) ∧ y.w.cell? ⟨gs, off + nb * 8 + 5, none⟩ = some (.int .i64 b.cut)) ∧ y.w.cell? ⟨gs, off + nb * 8 + 6, none⟩ = some (.int .i64 b.moisture) ∧ y.w.cell? ⟨gs, off + nb * 8 + 7, none⟩ = some (.slice ad b.defects.length cd) := fun y => ⟨⟨cell_keep y.ok s4, cell_keep y.ok s5⟩, cell_keep y.ok s6, cell_keep y.ok s7⟩
      have HY0 := Lib.hid y0
      have HY1 := Lib.hid y1
      clear s0 s1 s2 s3 s4 s5 s6 s7 k0 k2 k3 k4 y0 y1
      haveI n1 : Nonempty (KW (fun W' => Below W2.heap.size W2 W')) := ⟨⟨W2, Below.refl _ _⟩⟩
      refine wp_region_tree (fun w' => ∃ y : KW (fun W' => Below W2.heap.size W2 W'), w' = y.w) 14 (.take 0 (.take 1 (.take 2 (.take 3 (.take 4 (.take 5 (.take 6 (.take 7 (.take 8 (.one 9 (.take 10 (.take 11 (.take 12 (.take 13 .done)))))))))))))) (by kernel_rfl) (by kernel_rfl) (KW.mk' (Below.refl _ _).drew) ?_
      have HBD : Hid (Below W2.heap.size W2 W2.drew) := Lib.hid (Below.refl _ _).drew
      generalize W2.drew = w5 at *
      repeat (refine wpTree_take ?_; simp only [nthOp]; (first | go_big_quiet_step (fail) | quiet_step (fail)); refine wpQuiet_nil ?_)
      refine wpTree_one ?_
      simp only [nthOp]
      go_wp2_with (go_at_call 55; refine (regionsP_any b j.trim nb cuts ad al cd cl w5 (HRV.out.keep HBD.out) HDL.out HWF.out (HCV2.out.keep HBD.out) HCL.out).mono ?_; rw [HLY.out]; rintro e w6 ⟨ar, cr, rfl, hv, hb6, hnw⟩; have HNR := Lib.hid hnw; have HRS := Lib.hid hv; have HB6 := Lib.hid (HBD.out.trans (hb6.mono HBD.out.size)); clear hv hb6 hnw)
      refine One_mk (KW.mk' HB6.out) ?_
      repeat (refine wpTree_take ?_; simp only [nthOp]; (first | go_big_quiet_step (fail) | quiet_step (fail)); refine wpQuiet_nil ?_)
      refine wpTree_done ?_
      simp only [List.drop_succ_cons, List.drop_zero]
      go_wp2_with fail
      refine NP_mk ?_
      have HY0 := Lib.hid (cell_keep HB6.out HY0.out)
      have HY1 := Lib.hid (cell_keep HB6.out HY1.out)
      have HB6W := Lib.hid (HB2.out.trans (HB6.out.mono HB2.out.size))
      have HO6 := Lib.hid (HO2.out.keep HB6.out)
      have HF6 := Lib.hid (cell_keep HB6.out HF2.out)
      have HBV6 := Lib.hid (HBV2.out.trans (HB6.out.mono HBV2.out.size))
      clear kx0 kx1 kx2 kx3 n1
      by_cases hre : re = 0
      ·subst hre
       have x0 := HY0.out
       have x1 := HY1.out
       have HOW6 := Lib.hid (own_keep HOW2.out HB6.out)
       have hz6 : bm + 1 ≤ w6.heap.size := by have h1 := HB6.out.size; have h2 := HBM2.out; omega
       go_wp2_with (at_builtin; refine wpList_append_here _ rfl _ _ 79 rfl (bm + 1) 83 l0 (.agg #[.int .i64 0, .slice none 0 0, .slice none 0 0]) 3 56 Tryz.underlying79 hl0 hy0 hy1 hy2 rfl (by decide) _ k _ rfl (own_keep HOW6.out ((Below.refl _ _).alloc (Nat.le_refl _) _)) ⟨w6.heap.size, 0, none⟩ 1 1 (cellsLd ⟨⟨nb, cuts⟩, rs, al, cl, ar, cr⟩) rfl rfl (news_of (cellsLd ⟨⟨nb, cuts⟩, rs, al, cl, ar, cr⟩) _ _ _ rfl) (cellsLd_one _) (by decide) (by simp only [maxLen]; omega) (by omega) (by simp; omega) ?_; intro v9 w9 ho9 hg9 hv9; have HO9 := Lib.hid ho9; have HG9 := Lib.hid hg9; have HV9 := Lib.hid hv9; clear ho9 hg9 hv9)
       go_wp2_with fail
       go_roundw
       case rel =>
        have hba : Below W2.heap.size W2 (w6.alloc (.cells #[.int .i64 (nb : Int), .slice al cuts.length cl, .slice ar rs.length cr] 83)) := HB6.out.alloc HB6.out.size _
        have hrow : ∀ q, (Value.slice av k cv).ownBlock = some q → bm + 1 ≤ q ∧ q < wo.heap.size := fun q hq => HOW.out.lt q hq
        have hsz1 := HB1.out.size
        have hsz2 := HG2.out.size
        have hsz3 := HBD.out.size
        have hsz4 := HB6.out.size
        have hsz5 := HG9.out.size
        have hbm0 := HBM.out
        have hg8 := HG8.out
        have hz6' : (w6.alloc (.cells #[.int .i64 (nb : Int), .slice al cuts.length cl, .slice ar rs.length cr] 83)).heap.size = w6.heap.size + 1 := by simp
        refine ⟨k + 1, xs ++ [⟨⟨nb, cuts⟩, rs, al, cl, ar, cr⟩], by omega, by go_num, Lib.hid (HLS2.out rfl), Lib.hid ?_, Lib.hid ?_, Lib.hid ?_, Lib.hid ?_, ?_, ?_⟩
        ·rw [HBT.out]
         exact (HS2.out.below hba).grown HG9.out (fun e => by have := (hrow _ e.symm).1; omega)
        ·rw [List.flatMap_append, List.flatMap_singleton]; exact HO9.out
        ·rw [List.map_append, HXM.out, HTK.out]; rfl
        ·intro x hx
         rcases List.mem_append.1 hx with hx | hx
         ·exact ((HXO2.out x hx).below hba).row HG9.out HV9.out
         ·obtain rfl := List.mem_singleton.1 hx
          have hat : ∀ a, ar = some a → a.block < w6.heap.size := fun a ha => by
           have h0 := lay_some HRS0.out
           obtain ⟨gr, offr, har, q0, -⟩ := HRS.out.at_ (k := 0) (List.length_pos_iff.2 h0)
           rw [har] at ha
           injection ha with ha
           subst ha
           exact block_lt_of_cell q0
          refine ⟨by rw [HRS0.out], by rw [HRS0.out], ⟨by simp only; omega, by simp only; omega⟩, HCW.out, ⟨hcl, hcm⟩, (HRS.out.keep ((Below.refl _ _).alloc (Nat.le_refl _) _)).far HG9.out (fun x hx e => by have h1 := HNR.out x hx; have h2 := (hrow _ e).2; omega), fun a ha => ⟨?_, ?_, ?_⟩⟩
          ·have := hat a ha; omega
          ·intro e
           rcases HV9.out with h | h
           ·rw [h] at e; have h1 := HNR.out a ha; have h2 := (hrow _ e).2; omega
           ·rw [h] at e; injection e with e; have := hat a ha; omega
          ·have h1 := HNR.out a ha; omega
        ·exact (HB6W.out.alloc (Nat.le_trans HB6W.out.size (Nat.le_refl _)) _).grown HG9.out (by have := HB6W.out.size; omega) (fun q hq => by have := (hrow q hq).1; omega)
        ·omega
       case measure => first | (simp [intOf]; done) | (simp [intOf]; omega)
      ·have hne := bne_t5 hre
       have HQE := Lib.hid (HNX.out (by rw [HLE2.out hre]; exact hre))
       rw [HLE2.out hre] at HQE
       have HOZ := HO6
       have HBZ := HBV6
       have HF1 := HF6.out
       obtain ⟨-, n45, n46, n56⟩ := HG.out
       have n54 := n45.symm
       have n64 := n46.symm
       have n65 := n56.symm
       obtain ⟨r4, r6, z0, z1, z2, z3, z4, z5, y4, y6, f0, f1, f2, f3, f4, f5⟩ := HOZ.out
       go_wp2_with (go_at_call 54; refine (fail_any _ _ _ _ _ _ _ _).mono ?_; rintro e w9 ⟨rfl, hb9⟩; have HO9 := Lib.hid (HOZ.out.keep hb9); have HB9 := Lib.hid (HBZ.out.trans (hb9.mono HBZ.out.size)); have r4 := cell_keep hb9 r4; have r6 := cell_keep hb9 r6; have z0 := cell_keep hb9 z0; have z1 := cell_keep hb9 z1; have z2 := cell_keep hb9 z2; have z3 := cell_keep hb9 z3; have z4 := cell_keep hb9 z4; have z5 := cell_keep hb9 z5; have y4 := frozen_keep hb9 (block_lt_of_cell HOZ.out.x4) y4; have y6 := frozen_keep hb9 (block_lt_of_cell HOZ.out.x6) y6; have f0 := frozen_keep hb9 (block_lt_of_cell HOZ.out.c0) f0; have f1 := frozen_keep hb9 (block_lt_of_cell HOZ.out.c0) f1; have f2 := frozen_keep hb9 (block_lt_of_cell HOZ.out.c0) f2; have f3 := frozen_keep hb9 (block_lt_of_cell HOZ.out.c0) f3; have f4 := frozen_keep hb9 (block_lt_of_cell HOZ.out.c0) f4; have f5 := frozen_keep hb9 (block_lt_of_cell HOZ.out.c0) f5; clear hb9)
       refine checked_end (fun W' h => ?_) (Marks.out trivial) (outAt_set HO9.out n45 n46 n56 _ _ _ _ _ _ _ _) (fun W' hk hb => CheckedPost.bad HQE.out (by first | decide | assumption) ((below_out HB9.out HG.out.1.1 HG.out.1.2.1 HG.out.1.2.2).trans hb))
       obtain ⟨a4, a6, b0, b1, b2, b3, b4, b5⟩ := h
       clear r4 r6 z0 z1 z2 z3 z4 z5 y4 y6 f0 f1 f2 f3 f4 f5
       simp [results, Tryz.results26, go_sem, *]
    ·have HW := Lib.hid (withinB_out hin)
     have HQE := Lib.hid (HNX.out (by rw [HL6.out hin]; decide))
     rw [HL6.out hin] at HQE
     have HOZ := HO1
     have HBZ := HBB1
     have HF1 := HF1.out
     go_upto_region 11 with (go_at_call 30; refine (cwithin_is _ _ _ _ HW.out).mono ?_; rintro e w' ⟨rfl, rfl⟩)
     obtain ⟨-, n45, n46, n56⟩ := HG.out
     have n54 := n45.symm
     have n64 := n46.symm
     have n65 := n56.symm
     obtain ⟨r4, r6, z0, z1, z2, z3, z4, z5, y4, y6, f0, f1, f2, f3, f4, f5⟩ := HOZ.out
     go_wp2_with (go_at_call 54; refine (fail_any _ _ _ _ _ _ _ _).mono ?_; rintro e w9 ⟨rfl, hb9⟩; have HO9 := Lib.hid (HOZ.out.keep hb9); have HB9 := Lib.hid (HBZ.out.trans (hb9.mono HBZ.out.size)); have r4 := cell_keep hb9 r4; have r6 := cell_keep hb9 r6; have z0 := cell_keep hb9 z0; have z1 := cell_keep hb9 z1; have z2 := cell_keep hb9 z2; have z3 := cell_keep hb9 z3; have z4 := cell_keep hb9 z4; have z5 := cell_keep hb9 z5; have y4 := frozen_keep hb9 (block_lt_of_cell HOZ.out.x4) y4; have y6 := frozen_keep hb9 (block_lt_of_cell HOZ.out.x6) y6; have f0 := frozen_keep hb9 (block_lt_of_cell HOZ.out.c0) f0; have f1 := frozen_keep hb9 (block_lt_of_cell HOZ.out.c0) f1; have f2 := frozen_keep hb9 (block_lt_of_cell HOZ.out.c0) f2; have f3 := frozen_keep hb9 (block_lt_of_cell HOZ.out.c0) f3; have f4 := frozen_keep hb9 (block_lt_of_cell HOZ.out.c0) f4; have f5 := frozen_keep hb9 (block_lt_of_cell HOZ.out.c0) f5; clear hb9)
     refine checked_end (fun W' h => ?_) (Marks.out trivial) (outAt_set HO9.out n45 n46 n56 _ _ _ _ _ _ _ _) (fun W' hk hb => CheckedPost.bad HQE.out (by first | decide | assumption) ((below_out HB9.out HG.out.1.1 HG.out.1.2.1 HG.out.1.2.2).trans hb))
     obtain ⟨a4, a6, b0, b1, b2, b3, b4, b5⟩ := h
     clear r4 r6 z0 z1 z2 z3 z4 z5 y4 y6 f0 f1 f2 f3 f4 f5
     simp [results, Tryz.results26, go_sem, *]
   ·obtain rfl : k = plan.length := by omega
    have hki : ¬ ((plan.length : Nat) : Int) < ((plan.length : Nat) : Int) := by omega
    have HX0 := Lib.hid (show layGo j plan [] = 0 by rw [← HX.out]; exact lay_end (Nat.le_refl _) HXK.out)
    have HPK := Lib.hid (layGo_ok HX0.out)
    have HXM0 := Lib.hid (show xs.map LaidC.lay = plan by rw [HXM.out]; exact List.take_length)
    have HPOK := Lib.hid (fun k hk p hp => placesTo_ok HEJ.out HPK.out k hk p hp)
    have HPLN := Lib.hid (fun k hk => placesTo_len HEJ.out HPK.out k hk)
    have HLV := Lib.hid (own_laids HOW.out)
    have HOZ0 := HOO
    have hnB := HJO.out.lenB
    obtain ⟨k0, k1, k2, k3, k4⟩ := HCO.out
    obtain ⟨n0, hn0, hx0, hx1, hx2⟩ := info_parts int_info
    have hmk : ∀ W : World, (Instr.makeSlice 73 (.int .i64 (j.blanks.length : Int)) (.int .i64 (j.blanks.length : Int))).run Tryz.prog W = .ok (.slice (some ⟨W.heap.size, 0, none⟩) j.blanks.length j.blanks.length) (W.alloc (.cells (madeCells #[.int .i64 0] j.blanks.length) 3)) := fun W => by
     have := run_make (P := Tryz.prog) W 73 3 n0 (.int .i64 0) Tryz.underlying73 hn0 hx0 .i64 .i64 (j.blanks.length : Int) (j.blanks.length : Int) (by omega) (Int.le_refl _) (by rw [hx2]; omega) (by omega)
     rw [this]
     simp [hx1, Value.cells]
    clear HXK HSN HNX HXM HX
    go_upto_region 21 with fail
    obtain ⟨gc, hgc⟩ : ∃ g, g = wo.heap.size := ⟨_, rfl⟩
    obtain ⟨gq, hgq⟩ : ∃ g, g = wo.heap.size + 1 := ⟨_, rfl⟩
    rw [← hgq, ← hgc]
    refine gen_world (fun W4 => Counting j wo gq gc w.heap.size [] (placesTo j plan 0) W4) ⟨⟨zerosOf j, rfl, ?_⟩, ?_, ?_, trivial⟩ ?_
    ·have h := made_own (w := wo) (base := gc) (n := j.blanks.length) (T := 3) (z := .int .i64 0) (by rw [hgc]; exact Nat.le_refl _) (by unfold maxLen; omega)
     unfold zerosOf
     rw [List.map_replicate]
     rw [← hgc] at h
     exact own_keep h ((Below.refl _ _).alloc (Nat.le_refl _) _)
    ·rw [hgq]; simp [go_sem]
    ·exact ((Below.refl _ _).alloc (Nat.le_refl _) _).alloc (by simp) _
    rintro W4 hct
    have HCT0 := Lib.hid hct
    have HGC := Lib.hid (show gc = wo.heap.size ∧ gq = wo.heap.size + 1 from ⟨hgc, hgq⟩)
    clear hct hgc hgq hmk k0 k1 k2 k3 k4 hn0 hx0 hx1 hx2
    go_wp2_with fail
    refine wp_loop_at [17, 106, 107, 108, 109, 110, 111, 132] (fun u ds wr => ∃ m : Nat, m ≤ plan.length ∧ u 106 = .int .i64 m ∧ Hid (Counting j wo gq gc w.heap.size ds (placesTo j plan m) wr)) (fun T => plan.length - (intOf (T.getD 106 undef)).toNat) (by simp [forget]) ⟨0, Nat.zero_le _, rfl, HCT0⟩ ?_
    rintro u ds wr K ⟨m, hm, hu, HCT⟩ hK
    have HK := Lib.hid hK
    clear hK HCT0
    simp only [forget, List.foldl_cons, List.foldl_nil, List.setIfInBounds_toArray, List.set_cons_succ, List.set_cons_zero, hu]
    have HCTB := Lib.hid HCT.out.below
    by_cases hlt : m < plan.length
    ·have hmi : (m : Int) < (plan.length : Int) := by omega
     have v2 : IntKind.i64.wrap ((m : Int) + 1) = (m : Int) + 1 := IntWalk.i64_in _ (by omega)
     have hmx : m < xs.length := by have := congrArg List.length HXM0.out; rw [List.length_map] at this; omega
     have hlay : xs[m].lay = plan[m] := by
      have h := List.getElem_of_eq HXM0.out (i := m) (by rw [List.length_map]; exact hmx)
      rwa [List.getElem_map] at h
     obtain ⟨ga, offa, haa, q0, q1, q2⟩ := (HLV.out.keep HCTB.out).at_ hmx
     have HXO1 := Lib.hid (HXO.out xs[m] (List.getElem_mem hmx))
     subst haa
     have HST := Lib.hid (placesTo_step (j := j) hlt)
     obtain ⟨x, hx⟩ : ∃ x, xs[m] = x := ⟨_, rfl⟩
     rw [hx] at q0 q1 q2 HXO1 hlay
     have HLAY := Lib.hid hlay
     clear hx hlay
     obtain ⟨⟨lb, cuts⟩, rs, al, cl, ar, cr⟩ := x
     obtain ⟨g1, g2, -⟩ := lay_okR HEJ.out HXO1.out.bd HXO1.out.ok
     have hrs : rs.length = cuts.length := by have := HXO1.out.rs; simp only at this; rw [this]; exact g1
     have hne0 : rs ≠ [] := lay_some (j := j) (l := ⟨lb, cuts⟩) (rs := rs) (Prod.ext (by simp only; exact HXO1.out.rs.symm) HXO1.out.ok)
     simp only at q0 q1 q2 g2
     rw [hrs] at q2
     have hcv : Cuts.V w al cuts := HXO1.out.cv
     have hrv : Rects.V wo ar rs := HXO1.out.rv
     have hcne : cuts ≠ [] := fun e => hne0 (List.eq_nil_of_length_eq_zero (by rw [hrs, e]; rfl))
     obtain ⟨gl, ol, hal, hcx⟩ := hcv hcne
     obtain ⟨gr, or_, har, hrx⟩ := hrv hne0
     subst hal
     subst har
     have hgl0 : gl < w.heap.size := by
      obtain ⟨c0, -⟩ := hcx 0 _ (List.getElem?_eq_getElem (List.length_pos_iff.2 hcne))
      have := block_lt_of_cell c0
      simpa using this
     have hgr0 : gr < wo.heap.size := (HXO1.out.ap _ rfl).1
     have hSZ := HBB.out.size
     have HST2 := Lib.hid (show placesTo j plan (m + 1) = placesTo j plan m ++ piecesTo ⟨lb, cuts⟩ rs cuts.length by
      rw [HST.out, ← HLAY.out]
      have := HXO1.out.rs
      simp only at this
      rw [← this])
     have HSUB := Lib.hid (show ∀ k, k ≤ cuts.length → ∀ p ∈ piecesTo ⟨lb, cuts⟩ rs k, PieceOk j p from fun k hk p hp => HPOK.out (m + 1) hlt p (by
      obtain ⟨r2, hr2⟩ := piecesTo_pre (l := ⟨lb, cuts⟩) (R := rs) hk
      rw [HST2.out]
      rw [hr2]
      exact List.mem_append_right _ (List.mem_append_left _ hp)))
     have HRSE := Lib.hid (show rs = (layOf j ⟨lb, cuts⟩).1 from HXO1.out.rs)
     have HCX := Lib.hid hcx
     have HRX := Lib.hid hrx
     have HLN := Lib.hid (HPLN.out m hm)
     have HGL := Lib.hid (And.intro hgl0 hgr0)
     have HSZ := Lib.hid hSZ
     have HNE := Lib.hid (And.intro hcne hrs)
     clear hcv hrv hcx hrx hgl0 hgr0 hSZ hcne hne0 g1 HST HXO1
     go_wp2_with fail
     refine gen_world (fun W5 => Counting j wo gq gc w.heap.size ds (placesTo j plan m) W5) (HCT.out.keep ((Below.refl _ _).alloc (Nat.le_refl _) _)) ?_
     rintro W5 hct5
     have HC5 := Lib.hid hct5
     clear hct5 q0 q1 q2
     have hgq5 : gq < W5.heap.size := by have := block_lt_of_cell HC5.out.box; simpa using this
     have hwo5 : wo.heap.size ≤ W5.heap.size := HC5.out.below.size
     have hw5 : w.heap.size ≤ W5.heap.size := Nat.le_trans HSZ.out hwo5
     have HBW5 := Lib.hid (HBB.out.trans (HC5.out.below.mono HBB.out.size))
     have hgcq : gc ≠ gq := by have := HGC.out; omega
     have hown5 := ownAt_box HC5.out.box
     have hd5 := HC5.out.marks.lt
     refine (wpIn_wide (n := 3)).1 (wpIn_rangeBox rfl (by decide) (gf := 56) rfl trivial (enters_of Tryz.func56 (by kernel_rfl) rfl)
      (pieces_gives j gq 2 (by decide) lb cuts rs gl ol cl gr or_ cr W5 HNE.out.2 g2 (fun k h => (HCX.out k _ (List.getElem?_eq_getElem h)).keep HBW5.out) (fun k h => (HRX.out k _ (List.getElem?_eq_getElem h)).keep HC5.out.below)
       ⟨by have := HGL.out; have := HGC.out; have := HSZ.out; omega, fun e => by rw [hown5] at e; injection e with e; have := HGL.out; have := HGC.out; have := HSZ.out; omega⟩
       ⟨by have := HGL.out; have := HGC.out; omega, fun e => by rw [hown5] at e; injection e with e; have := HGL.out; have := HGC.out; omega⟩
       ⟨hgq5, fun k e => by rw [hown5] at e; injection e with e; have := HGC.out; omega⟩ HSUB.out)
      (fun h k => h.trans k) (fun W l o o' _ h1 h2 h3 _ => KeepsB.putObj h1 h2 h3) (Below.refl _ _) (fun _ => rfl)
      (fun pre W => Counting j wo gq gc w.heap.size ds (placesTo j plan m ++ pre.map (·.1)) W) (fun pre W => Failing j w g4 g5 g6 w.heap.size ds (placesTo j plan m ++ pre.map (·.1)) W)
      (fun pre A B row h hg hr => h.own hwo5 hd5 hg hr) (fun pre A B row h hg hr => h.own hw5 hd5 hg hr) (by rw [List.map_nil, List.append_nil]; exact HC5.out) 18 (fun x g W => PlBox gq x.1 g W) (fun x g => PlBox.own) ?assign ?body ?done ?stop)
     case assign =>
      rintro l pre x W K2 hi hK2
      have HI := Lib.hid hi
      have HK2 := Lib.hid hK2
      clear hi hK2
      unfold encPiece
      gi_wp2
      have hk3 := HK2.out W.heap.size _ ((KeepsOthers.alloc _ _).from _) (KeepsB.of_below ((Below.refl _ _).alloc (Nat.le_refl _) _)) (HI.out.keep ((Below.refl _ _).alloc (Nat.le_refl _) _)) (plBox_new (T := 43) x.1 (by have := block_lt_of_cell HI.out.box; simpa using this))
      simpa [encPiece] using hk3
     case body =>
      rintro l pre ⟨p, hp⟩ gP W hi ⟨⟨⟨p0, p1⟩, ⟨p2, p3⟩, p4, p5⟩, hgP⟩ hpre
      obtain ⟨cs, hgo, hcw⟩ := hi.cs
      have HI := Lib.hid hi
      have HGO := Lib.hid hgo
      have HCW := Lib.hid hcw
      have HBX := Lib.hid hi.box
      have HBW := Lib.hid (HBB.out.trans (hi.below.mono HBB.out.size))
      have HGP := Lib.hid hgP
      obtain ⟨k0, k1, k2, k3, k4⟩ := HCO.out.keep hi.below hzr
      have hF := cell_keep hi.below HFO.out
      have HOW := Lib.hid (HOO.out.keep hi.below)
      obtain ⟨hpb, hpl, hpr⟩ := hp
      have HPI := Lib.hid (fun w9 hs hb => checkPiece_any j p a1 c1 a2 c2 w9 hs hb HJO.out hpb hpl hpr)
      obtain ⟨E, hE⟩ : ∃ E, pieceE j p = E := ⟨_, rfl⟩
      rw [hE] at HPI
      have HEE := Lib.hid hE
      have HLP := Lib.hid hpre
      clear hi hgo hcw hgP hE hpre
      unfold encPiece
      by_cases hE0 : E = 0
      ·subst hE0
       have hbl := pieceE_blank HEE.out
       obtain ⟨pb, pl, r⟩ := p
       simp only at p0 p1 p2 p3 p4 p5 hpl hpb hbl
       obtain ⟨bl, hbl2⟩ : ∃ bl : Nat, pl = bl := ⟨pl.toNat, by omega⟩
       subst hbl2
       obtain ⟨-, hcl, hcr⟩ := pieceGo_rng (n := 0) HGO.out (zeros_rng j)
       have hbn : bl < cs.length := by rw [hcl]; unfold zerosOf; rw [List.length_replicate]; omega
       have hci := hcr _ (List.getElem_mem hbn)
       have HCI := Lib.hid (show cs.getD bl 0 = cs[bl] by rw [List.getD_eq_getElem?_getD, List.getElem?_eq_getElem hbn]; rfl)
       have HOC := Lib.hid (own_int_cell HCW.out hbn)
       have HBN := Lib.hid hbn
       have hlen : ((placesTo j plan m ++ pre.map (·.1)).length : Int) ≤ 900000 := by
        have h1 := HLN.out
        rw [List.length_append, List.length_map]
        have h2 := HLP.out
        omega
       generalize cs[bl] = ci at *
       have v3 : IntKind.i64.wrap (ci + 1) = ci + 1 := IntWalk.i64_in _ (by omega)
       clear hcl hcr
       gi_wp2_with (refine ⟨trivial, ?_⟩; gi_at_call 57; refine (CallsIn.inRound l (callsIn_wide.2 (HPI.out _ (HSV.out.keep HBW.out) (HBV.out.keep HBW.out)))).mono ?_; rintro e w6 ⟨rfl, hb6⟩; have HB6 := Lib.hid hb6; have p1 := cell_keep hb6 p1; have hbx := cell_keep hb6 HBX.out; have q0 := cell_keep hb6 HOC.out.1; have f0 := frozen_keep hb6 (block_lt_of_cell HOC.out.1) HOC.out.2; clear hb6)
       have hset : Below wo.heap.size wo (w6.setCell ⟨gc, bl, none⟩ (.int .i64 (ci + 1))) := (HI.out.below.trans (HB6.out.mono HI.out.below.size)).setCell (by have := HGC.out; simp only; omega) _
       have hownW := ownAt_box hbx
       refine ⟨keepsFrom_set (keepsFrom_below HB6.out) _ _, (KeepsB.of_below HB6.out).trans (KeepsB.setOwn hownW hgcq), ⟨⟨_, ?_, own_set1 (x := ci + 1) (own_keep HCW.out HB6.out) HBN.out⟩, ?_, hset, (HI.out.marks.below HB6.out).set _ _⟩⟩
       ·have h := pieceGo_step (p := ⟨pb, bl, r⟩) HGO.out HEE.out
        simp only [Int.toNat_natCast] at h
        rw [HCI.out] at h
        rw [List.map_append, ← List.append_assoc]
        exact h
       ·rw [World.cell?_setCell_other (h := fun e => by injection e with e; exact hgcq e)]; exact hbx
      ·have hne := bne_t5 hE0
       obtain ⟨-, n45, n46, n56⟩ := HG.out
       have n54 := n45.symm
       have n64 := n46.symm
       have n65 := n56.symm
       obtain ⟨pb, pl, r⟩ := p
       simp only at p0 p1 p2 p3 p4 p5
       obtain ⟨r4, r6, z0, z1, z2, z3, z4, z5, y4, y6, f0, f1, f2, f3, f4, f5⟩ := HOW.out
       gi_wp2_with (refine ⟨trivial, ?_⟩; gi_at_call 57; refine (CallsIn.inRound l (callsIn_wide.2 (HPI.out _ (HSV.out.keep HBW.out) (HBV.out.keep HBW.out)))).mono ?_; rintro e w6 ⟨rfl, hb6⟩; have HB6 := Lib.hid hb6; have p0 := cell_keep hb6 p0; have p1 := cell_keep hb6 p1; have p2 := cell_keep hb6 p2; have p3 := cell_keep hb6 p3; have p4 := cell_keep hb6 p4; have p5 := cell_keep hb6 p5; have hF := cell_keep hb6 hF; clear hb6)
       gi_wp2_with (refine ⟨trivial, ?_⟩; gi_at_call 54; refine (CallsIn.inRound l (callsIn_wide.2 (fail_any _ _ _ _ _ _ _ _))).mono ?_; rintro e w9 ⟨rfl, hb9⟩; have HB9 := Lib.hid (HB6.out.trans (hb9.mono HB6.out.size)); have HO9 := Lib.hid (HOW.out.keep HB9.out); have r4 := cell_keep HB9.out r4; have r6 := cell_keep HB9.out r6; have z0 := cell_keep HB9.out z0; have z1 := cell_keep HB9.out z1; have z2 := cell_keep HB9.out z2; have z3 := cell_keep HB9.out z3; have z4 := cell_keep HB9.out z4; have z5 := cell_keep HB9.out z5; have y4 := frozen_keep HB9.out (block_lt_of_cell HOW.out.x4) y4; have y6 := frozen_keep HB9.out (block_lt_of_cell HOW.out.x6) y6; have f0 := frozen_keep HB9.out (block_lt_of_cell HOW.out.c0) f0; have f1 := frozen_keep HB9.out (block_lt_of_cell HOW.out.c0) f1; have f2 := frozen_keep HB9.out (block_lt_of_cell HOW.out.c0) f2; have f3 := frozen_keep HB9.out (block_lt_of_cell HOW.out.c0) f3; have f4 := frozen_keep HB9.out (block_lt_of_cell HOW.out.c0) f4; have f5 := frozen_keep HB9.out (block_lt_of_cell HOW.out.c0) f5; clear hb9)
       refine ⟨keepsFrom_out (keepsFrom_below HB9.out), ⟨⟨⟨pb, pl, r⟩, E, cs, hE0, ?_, outAt_set HO9.out n45 n46 n56 _ _ _ _ _ _ _ _⟩, below_out (HBW.out.trans (HB9.out.mono HBW.out.size)) HG.out.1.1 HG.out.1.2.1 HG.out.1.2.2, (HI.out.marks.below HB9.out).out⟩⟩
       have h := pieceGo_err (p := ⟨pb, pl, r⟩) HGO.out (by rw [HEE.out]; exact hE0)
       rw [HEE.out] at h
       rw [List.map_append, ← List.append_assoc]
       exact h
     case done =>
      rintro D zs W hD hS hI hl
      have HI := Lib.hid hI
      have HD := Lib.hid (And.intro hD hl)
      have HS := Lib.hid hS
      clear hI hD hl hS
      go_wp2_with fail
      refine HK.out _ _ ⟨fun i => _, _, cut_arr (by simp [forget]), ⟨m + 1, by omega, by go_num, Lib.hid ?_⟩, ?_⟩
      ·have e : placesTo j plan m ++ zs.map (·.1) = placesTo j plan (m + 1) := by rw [HST2.out, HS.out]
       have h := HI.out
       rw [e] at h
       exact ⟨h.cs, h.box, h.below, Marks.cons h.marks HC5.out.marks (Nat.le_trans hw5 HD.out.1) HD.out.1 HD.out.2⟩
      ·first | (simp [intOf, forget, hu]; done) | (simp [intOf, forget, hu]; omega)
     case stop =>
      rintro D pre W hD ⟨k, hk, hpre⟩ hF hl
      obtain ⟨⟨p, E, cs, hE, hgo, hout⟩, hbF, hmF⟩ := hF
      refine wpIn_wide.2 ?_
      go_wp2_with fail
      refine checked_end (fun W' h => ?_) (Marks.cons hmF HC5.out.marks (Nat.le_trans hw5 hD) hD hl) hout (fun W' hk9 hb9 => CheckedPost.bad (HQ.out.trans ?_) hE (hbF.trans hb9))
      ·obtain ⟨a4, a6, b0, b1, b2, b3, b4, b5⟩ := h
       simp [results, Tryz.results26, go_sem, *]
      ·refine plan_bad (p := p) (k := k) (cs := cs) (pre := pre.map (·.1)) HX0.out hlt ?_ ?_ hgo hE
       ·rw [hpre, ← HLAY.out, ← HRSE.out]
       ·rw [← HLAY.out]; exact hk
    ·obtain rfl : m = plan.length := by omega
     have hmi : ¬ ((plan.length : Nat) : Int) < ((plan.length : Nat) : Int) := by omega
     obtain ⟨cs, hgo, hcw⟩ := HCT.out.cs
     have HQE0 := Lib.hid (show q = (zeroPl, countE j cs) from HQ.out.trans (planOf_count HX0.out hgo))
     have HCS := Lib.hid (show cs.length = j.blanks.length by obtain ⟨-, h, -⟩ := pieceGo_rng (n := 0) hgo (zeros_rng j); rw [h]; unfold zerosOf; rw [List.length_replicate])
     have HCW := Lib.hid hcw
     have HBX := Lib.hid HCT.out.box
     have HMq := Lib.hid HCT.out.marks
     have HOq := Lib.hid (HOO.out.keep HCTB.out)
     have HFq := Lib.hid (cell_keep HCTB.out HFO.out)
     have HCq := Lib.hid (HCO.out.keep HCTB.out hzr)
     have HBq := Lib.hid (HBB.out.trans (HCTB.out.mono HBB.out.size))
     have hzq := Nat.lt_of_lt_of_le hzr HCTB.out.size
     have HLq := Lib.hid (HLV.out.keep HCTB.out)
     have k1 := HCq.out.b
     obtain ⟨wq, rfl⟩ : ∃ wq : World, wq = wr := ⟨_, rfl⟩
     clear hgo hcw HK HCT
     go_wp2_with fail
     go_loopw [136] (fun iv wr => ∃ i : Nat, i ≤ j.blanks.length ∧ iv = .int .i64 i ∧ Hid (∀ t (h : t < cs.length) (h' : t < j.blanks.length), t < i → ¬ cs[t] < j.blanks[t].count) ∧ Below wq.heap.size wq wr) (fun iv _ => j.blanks.length - (intOf iv).toNat)
     case atStart => exact ⟨0, Nat.zero_le _, rfl, Lib.hid (fun t _ _ h => by omega), Below.refl _ _⟩
     case round =>
      obtain ⟨i, hi, rfl, HLO, hbr⟩ := hrel
      have HB5 := Lib.hid hbr
      have HBE5 := Lib.hid (HBq.out.trans (hbr.mono HBq.out.size))
      have k1 := (HCq.out.keep hbr hzq).b
      have HO5 := Lib.hid (own_keep HCW.out hbr)
      have hbx := cell_keep hbr HBX.out
      clear hbr
      by_cases hlt2 : i < j.blanks.length
      ·have hii : (i : Int) < (j.blanks.length : Int) := by omega
       have v3 : IntKind.i64.wrap ((i : Int) + 1) = (i : Int) + 1 := IntWalk.i64_in _ (by omega)
       have hic : i < cs.length := by rw [HCS.out]; exact hlt2
       have q0 := (own_int_cell HO5.out hic).1
       obtain ⟨gl, offl, hal, c0, c1, c2, c3, c4, c5⟩ := blank_row (HBV.out.keep HBE5.out) hlt2
       subst hal
       by_cases hlo : cs[i] < j.blanks[i].count
       ·have HQE := Lib.hid (show q = (zeroPl, 16) by rw [HQE0.out, count_low (lowB_yes hic hlt2 hlo)])
        generalize cs[i] = ci at *
        generalize j.blanks[i] = b at *
        go_upto_region 34 with fail
        refine gen_world (fun W5 => W5.cell? ⟨wr.heap.size, 5, none⟩ = some (.int .i64 b.count) ∧ Below wr.heap.size wr W5) ⟨by simp [go_sem], by repeat (first | (with_reducible assumption) | exact Below.refl _ _ | (refine Below.setCell ?_ (by first | omega | (simp; omega) | (simp; done)) _) | (refine Below.alloc ?_ (by first | omega | (simp; omega) | (simp; done)) _) | (refine Below.drew ?_))⟩ ?_
        rintro W5 ⟨x5, hb5⟩
        have q0 := cell_keep hb5 q0
        have hbx := cell_keep hb5 hbx
        have HBA := Lib.hid (HB5.out.trans (hb5.mono HB5.out.size))
        clear hb5 k1 c0 c1 c2 c3 c4 c5
        go_quiet (fail)
        rename_i nq
        have HB6 := Lib.hid (below_drewN HBA.out nq)
        generalize W5.drewN nq = W6 at *
        clear q0 hbx x5
        have HOZ := Lib.hid (HOq.out.keep HB6.out)
        have HBZ := Lib.hid (HBq.out.trans (HB6.out.mono HBq.out.size))
        have HMZ := Lib.hid (HMq.out.below HB6.out)
        have HF1 := cell_keep HB6.out HFq.out
        obtain ⟨-, n45, n46, n56⟩ := HG.out
        have n54 := n45.symm
        have n64 := n46.symm
        have n65 := n56.symm
        obtain ⟨r4, r6, z0, z1, z2, z3, z4, z5, y4, y6, f0, f1, f2, f3, f4, f5⟩ := HOZ.out
        go_wp2_with (go_at_call 54; refine (fail_any _ _ _ _ _ _ _ _).mono ?_; rintro e w9 ⟨rfl, hb9⟩; have HO9 := Lib.hid (HOZ.out.keep hb9); have HM9 := Lib.hid (HMZ.out.below hb9); have HB9 := Lib.hid (HBZ.out.trans (hb9.mono HBZ.out.size)); have r4 := cell_keep hb9 r4; have r6 := cell_keep hb9 r6; have z0 := cell_keep hb9 z0; have z1 := cell_keep hb9 z1; have z2 := cell_keep hb9 z2; have z3 := cell_keep hb9 z3; have z4 := cell_keep hb9 z4; have z5 := cell_keep hb9 z5; have y4 := frozen_keep hb9 (block_lt_of_cell HOZ.out.x4) y4; have y6 := frozen_keep hb9 (block_lt_of_cell HOZ.out.x6) y6; have f0 := frozen_keep hb9 (block_lt_of_cell HOZ.out.c0) f0; have f1 := frozen_keep hb9 (block_lt_of_cell HOZ.out.c0) f1; have f2 := frozen_keep hb9 (block_lt_of_cell HOZ.out.c0) f2; have f3 := frozen_keep hb9 (block_lt_of_cell HOZ.out.c0) f3; have f4 := frozen_keep hb9 (block_lt_of_cell HOZ.out.c0) f4; have f5 := frozen_keep hb9 (block_lt_of_cell HOZ.out.c0) f5; clear hb9)
        refine checked_end (fun W' h => ?_) (Marks.out HM9.out) (outAt_set HO9.out n45 n46 n56 _ _ _ _ _ _ _ _) (fun W' hk hb => CheckedPost.bad HQE.out (by first | decide | assumption) ((below_out HB9.out HG.out.1.1 HG.out.1.2.1 HG.out.1.2.2).trans hb))
        obtain ⟨a4, a6, b0, b1, b2, b3, b4, b5⟩ := h
        clear r4 r6 z0 z1 z2 z3 z4 z5 y4 y6 f0 f1 f2 f3 f4 f5
        simp [results, Tryz.results26, go_sem, *]
       ·have HLO2 := Lib.hid (show ∀ t (h : t < cs.length) (h' : t < j.blanks.length), t < i + 1 → ¬ cs[t] < j.blanks[t].count from fun t h h' ht => by
          by_cases e : t = i
          ·subst e; exact hlo
          ·exact HLO.out t h h' (by omega))
        generalize cs[i] = ci at *
        generalize j.blanks[i] = b at *
        go_upto_region 34 with fail
        refine gen_world (fun W5 => W5.cell? ⟨wr.heap.size, 5, none⟩ = some (.int .i64 b.count) ∧ Below wr.heap.size wr W5) ⟨by simp [go_sem], by repeat (first | (with_reducible assumption) | exact Below.refl _ _ | (refine Below.setCell ?_ (by first | omega | (simp; omega) | (simp; done)) _) | (refine Below.alloc ?_ (by first | omega | (simp; omega) | (simp; done)) _) | (refine Below.drew ?_))⟩ ?_
        rintro W5 ⟨x5, hb5⟩
        have q0 := cell_keep hb5 q0
        have hbx := cell_keep hb5 hbx
        have HBA := Lib.hid (HB5.out.trans (hb5.mono HB5.out.size))
        clear hb5 k1 c0 c1 c2 c3 c4 c5
        go_quiet (fail)
        rename_i nq
        have HB6 := Lib.hid (below_drewN HBA.out nq)
        generalize W5.drewN nq = W6 at *
        clear q0 hbx x5
        go_wp2_with fail
        go_roundw
        case rel => exact ⟨i + 1, by omega, by go_num, HLO2, HB6.out⟩
        case measure => first | (simp [intOf]; done) | (simp [intOf]; omega)
      ·obtain rfl : i = j.blanks.length := by omega
       have hii : ¬ ((j.blanks.length : Nat) : Int) < ((j.blanks.length : Nat) : Int) := by omega
       have HLW := Lib.hid (lowB_no (fun t h h' => HLO.out t h h' h'))
       have HOq2 := Lib.hid (HOq.out.keep HB5.out)
       have HFq2 := Lib.hid (cell_keep HB5.out HFq.out)
       have HCq2 := Lib.hid (HCq.out.keep HB5.out hzq)
       have HMq2 := Lib.hid (HMq.out.below HB5.out)
       have HLq2 := Lib.hid (HLq.out.keep HB5.out)
       have HCTB2 := Lib.hid (HCTB.out.trans (HB5.out.mono HCTB.out.size))
       have hzq2 := Nat.lt_of_lt_of_le hzq HB5.out.size
       clear HOq HFq HCq HMq HLq HCTB hzq HBq HCW HBX HLO
       have HOq := HOq2
       have HFq := HFq2
       have HCq := HCq2
       have HMq := HMq2
       have HLq := HLq2
       have HCTB := HCTB2
       have hzq := hzq2
       have HBq := HBE5
       have HCW := HO5
       have HBX := Lib.hid hbx
       clear HOq2 HFq2 HCq2 HMq2 HLq2 HCTB2 hzq2 HBE5 HO5 hbx HB5
       obtain ⟨wq, rfl⟩ : ∃ wq : World, wq = wr := ⟨_, rfl⟩
       go_wp2_with fail
       go_loopw [158] (fun iv wr => ∃ i : Nat, i ≤ j.blanks.length ∧ iv = .int .i64 i ∧ Hid (∀ t (h : t < cs.length) (h' : t < j.blanks.length), t < i → ¬ cs[t] > j.blanks[t].count) ∧ Below wq.heap.size wq wr) (fun iv _ => j.blanks.length - (intOf iv).toNat)
       case atStart => exact ⟨0, Nat.zero_le _, rfl, Lib.hid (fun t _ _ h => by omega), Below.refl _ _⟩
       case round =>
        obtain ⟨i, hi, rfl, HLO, hbr⟩ := hrel
        have HB5 := Lib.hid hbr
        have HBE5 := Lib.hid (HBq.out.trans (hbr.mono HBq.out.size))
        have k1 := (HCq.out.keep hbr hzq).b
        have HO5 := Lib.hid (own_keep HCW.out hbr)
        have hbx := cell_keep hbr HBX.out
        clear hbr
        by_cases hlt2 : i < j.blanks.length
        ·have hii : (i : Int) < (j.blanks.length : Int) := by omega
         have v3 : IntKind.i64.wrap ((i : Int) + 1) = (i : Int) + 1 := IntWalk.i64_in _ (by omega)
         have hic : i < cs.length := by rw [HCS.out]; exact hlt2
         have q0 := (own_int_cell HO5.out hic).1
         obtain ⟨gl, offl, hal, c0, c1, c2, c3, c4, c5⟩ := blank_row (HBV.out.keep HBE5.out) hlt2
         subst hal
         by_cases hlo : cs[i] > j.blanks[i].count
         ·have HQE := Lib.hid (show q = (zeroPl, 15) by rw [HQE0.out, count_high HLW.out (highB_yes hic hlt2 hlo)])
          generalize cs[i] = ci at *
          generalize j.blanks[i] = b at *
          go_upto_region 40 with fail
          refine gen_world (fun W5 => W5.cell? ⟨wr.heap.size, 5, none⟩ = some (.int .i64 b.count) ∧ Below wr.heap.size wr W5) ⟨by simp [go_sem], by repeat (first | (with_reducible assumption) | exact Below.refl _ _ | (refine Below.setCell ?_ (by first | omega | (simp; omega) | (simp; done)) _) | (refine Below.alloc ?_ (by first | omega | (simp; omega) | (simp; done)) _) | (refine Below.drew ?_))⟩ ?_
          rintro W5 ⟨x5, hb5⟩
          have q0 := cell_keep hb5 q0
          have hbx := cell_keep hb5 hbx
          have HBA := Lib.hid (HB5.out.trans (hb5.mono HB5.out.size))
          clear hb5 k1 c0 c1 c2 c3 c4 c5
          go_quiet (fail)
          rename_i nq
          have HB6 := Lib.hid (below_drewN HBA.out nq)
          generalize W5.drewN nq = W6 at *
          clear q0 hbx x5
          have HOZ := Lib.hid (HOq.out.keep HB6.out)
          have HBZ := Lib.hid (HBq.out.trans (HB6.out.mono HBq.out.size))
          have HMZ := Lib.hid (HMq.out.below HB6.out)
          have HF1 := cell_keep HB6.out HFq.out
          obtain ⟨-, n45, n46, n56⟩ := HG.out
          have n54 := n45.symm
          have n64 := n46.symm
          have n65 := n56.symm
          obtain ⟨r4, r6, z0, z1, z2, z3, z4, z5, y4, y6, f0, f1, f2, f3, f4, f5⟩ := HOZ.out
          go_wp2_with (go_at_call 54; refine (fail_any _ _ _ _ _ _ _ _).mono ?_; rintro e w9 ⟨rfl, hb9⟩; have HO9 := Lib.hid (HOZ.out.keep hb9); have HM9 := Lib.hid (HMZ.out.below hb9); have HB9 := Lib.hid (HBZ.out.trans (hb9.mono HBZ.out.size)); have r4 := cell_keep hb9 r4; have r6 := cell_keep hb9 r6; have z0 := cell_keep hb9 z0; have z1 := cell_keep hb9 z1; have z2 := cell_keep hb9 z2; have z3 := cell_keep hb9 z3; have z4 := cell_keep hb9 z4; have z5 := cell_keep hb9 z5; have y4 := frozen_keep hb9 (block_lt_of_cell HOZ.out.x4) y4; have y6 := frozen_keep hb9 (block_lt_of_cell HOZ.out.x6) y6; have f0 := frozen_keep hb9 (block_lt_of_cell HOZ.out.c0) f0; have f1 := frozen_keep hb9 (block_lt_of_cell HOZ.out.c0) f1; have f2 := frozen_keep hb9 (block_lt_of_cell HOZ.out.c0) f2; have f3 := frozen_keep hb9 (block_lt_of_cell HOZ.out.c0) f3; have f4 := frozen_keep hb9 (block_lt_of_cell HOZ.out.c0) f4; have f5 := frozen_keep hb9 (block_lt_of_cell HOZ.out.c0) f5; clear hb9)
          refine checked_end (fun W' h => ?_) (Marks.out HM9.out) (outAt_set HO9.out n45 n46 n56 _ _ _ _ _ _ _ _) (fun W' hk hb => CheckedPost.bad HQE.out (by first | decide | assumption) ((below_out HB9.out HG.out.1.1 HG.out.1.2.1 HG.out.1.2.2).trans hb))
          obtain ⟨a4, a6, b0, b1, b2, b3, b4, b5⟩ := h
          clear r4 r6 z0 z1 z2 z3 z4 z5 y4 y6 f0 f1 f2 f3 f4 f5
          simp [results, Tryz.results26, go_sem, *]
         ·have HLO2 := Lib.hid (show ∀ t (h : t < cs.length) (h' : t < j.blanks.length), t < i + 1 → ¬ cs[t] > j.blanks[t].count from fun t h h' ht => by
            by_cases e : t = i
            ·subst e; exact hlo
            ·exact HLO.out t h h' (by omega))
          generalize cs[i] = ci at *
          generalize j.blanks[i] = b at *
          go_upto_region 40 with fail
          refine gen_world (fun W5 => W5.cell? ⟨wr.heap.size, 5, none⟩ = some (.int .i64 b.count) ∧ Below wr.heap.size wr W5) ⟨by simp [go_sem], by repeat (first | (with_reducible assumption) | exact Below.refl _ _ | (refine Below.setCell ?_ (by first | omega | (simp; omega) | (simp; done)) _) | (refine Below.alloc ?_ (by first | omega | (simp; omega) | (simp; done)) _) | (refine Below.drew ?_))⟩ ?_
          rintro W5 ⟨x5, hb5⟩
          have q0 := cell_keep hb5 q0
          have hbx := cell_keep hb5 hbx
          have HBA := Lib.hid (HB5.out.trans (hb5.mono HB5.out.size))
          clear hb5 k1 c0 c1 c2 c3 c4 c5
          go_quiet (fail)
          rename_i nq
          have HB6 := Lib.hid (below_drewN HBA.out nq)
          generalize W5.drewN nq = W6 at *
          clear q0 hbx x5
          go_wp2_with fail
          go_roundw
          case rel => exact ⟨i + 1, by omega, by go_num, HLO2, HB6.out⟩
          case measure => first | (simp [intOf]; done) | (simp [intOf]; omega)
        ·obtain rfl : i = j.blanks.length := by omega
         have hii : ¬ ((j.blanks.length : Nat) : Int) < ((j.blanks.length : Nat) : Int) := by omega

         have HHI := Lib.hid (highB_no (fun t h h' => HLO.out t h h' h'))
         have HQE := Lib.hid (show q = (zeroPl, 0) by rw [HQE0.out, count_ok HLW.out HHI.out])
         have HO6 := Lib.hid (HOq.out.keep HB5.out)
         have HM6 := Lib.hid (HMq.out.below HB5.out)
         have HL6 := Lib.hid (HLq.out.keep HB5.out)
         have HCT6 := Lib.hid (HCTB.out.trans (HB5.out.mono HCTB.out.size))
         obtain ⟨r4, r6, z0, z1, z2, z3, z4, z5, y4, y6, f0, f1, f2, f3, f4, f5⟩ := HO6.out
         obtain ⟨-, n45, n46, n56⟩ := HG.out
         have n54 := n45.symm
         have n64 := n46.symm
         have n65 := n56.symm
         clear k1 hbx
         go_wp2_with fail
         refine checked_end (fun W' h => ?_) (Marks.out HM6.out) (outAt_set HO6.out n45 n46 n56 _ _ _ _ _ _ _ _) (fun W' hk hb => ?_)
         ·obtain ⟨a4, a6, b0, b1, b2, b3, b4, b5⟩ := h
          clear r4 r6 z0 z1 z2 z3 z4 z5 y4 y6 f0 f1 f2 f3 f4 f5
          simp [results, Tryz.results26, go_sem, *]
         ·have h4 := block_lt_of_cell HO.out.x4
          have h5 := block_lt_of_cell HO.out.c0
          have h6 := block_lt_of_cell HO.out.x6
          have hbm0 := HBM.out
          simp only at h4 h5 h6
          have hab : KeepsAbove (bm + 1) wr W' := (keepsAbove_out (by omega) (by omega) (by omega)).trans (keepsAbove_cells hk)
          have hww : Below w.heap.size w W' := (below_out HBE5.out HG.out.1.1 HG.out.1.2.1 HG.out.1.2.2).trans hb
          have hq0 := HQE.out
          subst hq0
          refine ⟨av, plan.length, cv, rfl, hww, fun h => absurd rfl h, fun _ => ⟨rfl, xs, HXM0.out, HL6.out.above hab (laid_row HOW.out), fun x hx => ?_⟩⟩
          have hx1 := HXO.out x hx
          exact ⟨hx1.ok, hx1.rs, hx1.bd, hx1.cv.keep hww, hx1.cc, (hx1.rv.keep HCT6.out).above hab (fun a ha => (hx1.ap a ha).2.2)⟩
 ·have hne := bne_t5 hej
  have HQE := Lib.hid (show q = (zeroPl, EJ) by rw [← HQ0.out]; unfold planE2; rw [if_pos (by rw [HEJ.out]; exact hej), HEJ.out])
  have HOZ := HO
  have HBZ := HBV1
  have HF1 := HF.out
  obtain ⟨-, n45, n46, n56⟩ := HG.out
  have n54 := n45.symm
  have n64 := n46.symm
  have n65 := n56.symm
  obtain ⟨r4, r6, z0, z1, z2, z3, z4, z5, y4, y6, f0, f1, f2, f3, f4, f5⟩ := HOZ.out
  go_wp2_with (go_at_call 54; refine (fail_any _ _ _ _ _ _ _ _).mono ?_; rintro e w9 ⟨rfl, hb9⟩; have HO9 := Lib.hid (HOZ.out.keep hb9); have HB9 := Lib.hid (HBZ.out.trans (hb9.mono HBZ.out.size)); have r4 := cell_keep hb9 r4; have r6 := cell_keep hb9 r6; have z0 := cell_keep hb9 z0; have z1 := cell_keep hb9 z1; have z2 := cell_keep hb9 z2; have z3 := cell_keep hb9 z3; have z4 := cell_keep hb9 z4; have z5 := cell_keep hb9 z5; have y4 := frozen_keep hb9 (block_lt_of_cell HOZ.out.x4) y4; have y6 := frozen_keep hb9 (block_lt_of_cell HOZ.out.x6) y6; have f0 := frozen_keep hb9 (block_lt_of_cell HOZ.out.c0) f0; have f1 := frozen_keep hb9 (block_lt_of_cell HOZ.out.c0) f1; have f2 := frozen_keep hb9 (block_lt_of_cell HOZ.out.c0) f2; have f3 := frozen_keep hb9 (block_lt_of_cell HOZ.out.c0) f3; have f4 := frozen_keep hb9 (block_lt_of_cell HOZ.out.c0) f4; have f5 := frozen_keep hb9 (block_lt_of_cell HOZ.out.c0) f5; clear hb9)
  refine checked_end (fun W' h => ?_) (Marks.out trivial) (outAt_set HO9.out n45 n46 n56 _ _ _ _ _ _ _ _) (fun W' hk hb => CheckedPost.bad HQE.out (by first | decide | assumption) ((below_out HB9.out HG.out.1.1 HG.out.1.2.1 HG.out.1.2.2).trans hb))
  obtain ⟨a4, a6, b0, b1, b2, b3, b4, b5⟩ := h
  clear r4 r6 z0 z1 z2 z3 z4 z5 y4 y6 f0 f1 f2 f3 f4 f5
  simp [results, Tryz.results26, go_sem, *]
end Go.Proofs.YtjmgboipbhddlaaGreatDoor
