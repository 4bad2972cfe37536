import Derived.Test.YtjmgboipbhddlaaGreatDoorPLB
import Derived.Test.YtjmgboipbhddlaaGreatDoorAA9
import Derived.Test.YtjmgboipbhddlaaGreatDoorAAB
import Derived.Test.YtjmgboipbhddlaaGreatDoorFrameC
import Derived.Test.YtjmgboipbhddlaaGreatDoorTie
import Derived.Test.YtjmgboipbhddlaaGreatDoorCards
import Derived.Test.YtjmgboipbhddlaaGreatDoorFactsAreas
set_option linter.unusedVariables false
set_option linter.unusedSimpArgs false
namespace Go.Proofs.YtjmgboipbhddlaaGreatDoor
open Go Go.ChangeShapes Go.WideShapes Go.ChangeAt Go.RowKit

theorem planPost2_out {w w' : World} {pb pl x1 y1 x2 y2 E : Int} {e : Ending} (h : PlanPost2 w (⟨pb, pl, ⟨x1, y1, x2, y2⟩⟩, E) e w') : e = .returned (.tuple #[.agg #[.int .i64 pb, .int .i64 pl, .int .i64 x1, .int .i64 y1, .int .i64 x2, .int .i64 y2], .int .i64 E]) ∧ Below w.heap.size w w' := h
theorem ars_eql (w : World) : (binOp .eql 34 (.agg #[.int .i64 0, .int .i64 0, .int .i64 0, .int .i64 0]) (.agg #[.int .i64 0, .int .i64 0, .int .i64 0, .int .i64 0])).run Tryz.prog w = .ok (.bool true) w := by simp [go_sem]
theorem ars_neq (a b c d : Int) (w : World) : (binOp .neq 34 (.agg #[.int .i64 a, .int .i64 b, .int .i64 c, .int .i64 d]) (.agg #[.int .i64 a, .int .i64 b, .int .i64 c, .int .i64 d])).run Tryz.prog w = .ok (.bool false) w := by simp [go_sem]
theorem offTo_defs {b : Board} {l : Layout} {R : List Rect} {n0 n1 : Int} {acc : List Board} (hb : b.defects.length ≤ 60) (ha : ∀ x ∈ acc, x.defects.length ≤ 60) : ∀ k, ∀ x ∈ offTo b l R n0 n1 acc k, x.defects.length ≤ 60
 | 0 => ha
 | k + 1 => fun x hx => by
  rw [offTo] at hx
  split at hx
  ·rcases List.mem_append.1 hx with h | h
   ·exact offTo_defs hb ha k x h
   ·rw [List.mem_singleton] at h
    subst h
    exact Nat.le_trans offD_len hb
  ·exact offTo_defs hb ha k x hx
theorem offPlan_defs {j : Job} (hE : jobE j = 0) {plan : List Layout} {n0 n1 : Int} (hok : PlanOk j plan) : ∀ k, k ≤ plan.length → ∀ x ∈ offPlan j plan n0 n1 k, x.defects.length ≤ 60
 | 0, _ => by simp [offPlan]
 | k + 1, h => by
  have hk : k < plan.length := h
  rw [offPlan_step hk]
  have hl := hok _ (List.getElem_mem hk)
  have hlt : plan[k].board.toNat < j.stock.length := by omega
  refine offTo_defs ?_ (offPlan_defs hE hok k (by omega)) _
  have hm : bdOfL j plan[k] ∈ j.stock := by unfold bdOfL; rw [List.getD_eq_getElem?_getD, List.getElem?_eq_getElem hlt]; exact List.getElem_mem hlt
  exact ((jobOk_of hE).defs _ hm).2
theorem offL2_small {j : Job} (hE : jobE j = 0) {plan : List Layout} {n0 n1 : Int} (hok : PlanOk j plan) : (offL2 j plan n0 n1).length ≤ 100 ∧ ∀ x ∈ offL2 j plan n0 n1, x.defects.length ≤ 1000000 := by
 unfold offL2
 split
 ·rename_i h
  refine ⟨?_, fun x hx => by have := offPlan_defs hE hok plan.length (Nat.le_refl _) x hx; omega⟩
  unfold offE2 at h
  split at h
  ·cases h
  ·split at h
   ·cases h
   ·omega
 ·simp
theorem sumA_bd {j : Job} (hE : jobE j = 0) {plan : List Layout} (hok : PlanOk j plan) : ∀ k, k ≤ plan.length → 0 ≤ sumTo k (fun i => bdA j (plan.getD i default)) ∧ sumTo k (fun i => bdA j (plan.getD i default)) ≤ 60000000000 * k
 | 0, _ => by simp [sumTo]
 | k + 1, h => by
  have ih := sumA_bd hE hok k (by omega)
  have hk : k < plan.length := h
  have hl := hok _ (List.getElem_mem hk)
  have h2 := bdA_bd (jobOk_of hE) (l := plan[k]) hl.1
  have hg : plan.getD k default = plan[k] := by rw [List.getD_eq_getElem?_getD, List.getElem?_eq_getElem hk]; rfl
  rw [sumTo, hg]
  omega
set_option maxRecDepth 100000 in
set_option maxHeartbeats 16000000 in
theorem walkCuttingAreas (j : Job) (ja1 : Option Addr) (jc1 : Nat) (ja2 : Option Addr) (jc2 : Nat) (plana : Option Addr) (plan : List Layout) (planc : Nat) (least0 least1 : Int) (w : World) (VSj : Boards.V w ja1 j.stock) (LSj : j.stock.length ≤ 9223372036854775807) (CSj : j.stock.length ≤ jc1) (VBj : Blanks.V w ja2 j.blanks) (LBj : j.blanks.length ≤ 9223372036854775807) (CBj : j.blanks.length ≤ jc2) (WTj : j.trim.wf) (Vplan : Layouts.V w plana plan) (Lplan : plan.length ≤ 9223372036854775807) (Cplan : plan.length ≤ planc) (Wleast : (-9223372036854775808 ≤ least0 ∧ least0 ≤ 9223372036854775807) ∧ (-9223372036854775808 ≤ least1 ∧ least1 ≤ 9223372036854775807)) (hT : TabP w) :
    Calls Tryz.prog 3 #[.agg #[.slice ja1 j.stock.length jc1, .slice ja2 j.blanks.length jc2, .int .i64 j.trim.kerf, .int .i64 j.trim.ends, .int .i64 j.trim.sides], .slice plana plan.length planc, .agg #[.int .i64 least0, .int .i64 least1]] w fun e w' => e = .returned (.bool true) ∧ Below w.heap.size w w' := by
 have hmix : Tryz.prog.follows .mixedOrders = true := by kernel_rfl
 have HVS := Lib.hid VSj
 have HVB := Lib.hid VBj
 have HPV := Lib.hid Vplan
 have HTB := Lib.hid hT
 obtain ⟨AD, CD, hSC⟩ := stock_ch VSj
 have HSC := Lib.hid hSC
 clear VSj VBj Vplan hT hSC
 go_enter Tryz.func3, Tryz.ntmps3
 go_upto_region 1 with fail
 refine gen_world (fun W => JB W w.heap.size j ja1 jc1 ja2 jc2 ∧ (W.cell? ⟨w.heap.size + 1, 0, none⟩ = some (.int .i64 least0) ∧ W.cell? ⟨w.heap.size + 1, 1, none⟩ = some (.int .i64 least1)) ∧ Below w.heap.size w W ∧ w.heap.size + 1 < W.heap.size) ⟨⟨by simp [go_sem], by simp [go_sem], by simp [go_sem], by simp [go_sem], by simp [go_sem]⟩, ⟨by simp [go_sem], by simp [go_sem]⟩, by repeat (first | (with_reducible assumption) | exact Below.refl _ _ | (refine Below.setCell ?_ (by first | omega | (simp; omega) | (simp; done)) _) | (refine Below.alloc ?_ (by first | omega | (simp; omega) | (simp; done)) _) | (refine Below.drew ?_)), by simp⟩ ?_
 rintro W ⟨hC, hY, hbW, hzW⟩
 obtain ⟨gj, hgj⟩ : ∃ g, g = w.heap.size := ⟨_, rfl⟩
 obtain ⟨gk, hgk⟩ : ∃ g, g = w.heap.size + 1 := ⟨_, rfl⟩
 rw [← hgk] at hY hzW
 rw [← hgj] at hC
 rw [← hgk, ← hgj]
 have hzG : gj < W.heap.size := by omega
 have HC := Lib.hid hC
 have HY := Lib.hid hY
 have HBW := Lib.hid hbW
 clear hC hbW hY hgj hgk hzW
 go_upto_region 3 with (go_at_call 5; refine (awake_any _).mono ?_; rintro e w1 ⟨rfl, hb1⟩; have HB1 := Lib.hid hb1; clear hb1)
 have HC1 := Lib.hid (HC.out.keep HB1.out hzG)
 have HY1 := Lib.hid (And.intro (cell_keep HB1.out HY.out.1) (cell_keep HB1.out HY.out.2))
 have HBW1 := Lib.hid (HBW.out.trans (HB1.out.mono HBW.out.size))
 have hzw1 : gj < w1.heap.size := Nat.lt_of_lt_of_le hzG HB1.out.size
 clear HC HBW HB1 hzG HY
 obtain ⟨q0, q1, q2, q3, q4⟩ := HC1.out
 obtain ⟨y0, y1⟩ := HY1.out
 cases hsm : smallB j
 ·have HSM := Lib.hid hsm
  clear hsm
  go_wp2_with (go_at_call 6; refine (small_is j ja1 jc1 ja2 jc2 _ HSM.out (HVS.out.keep HBW1.out) LSj (HVB.out.keep HBW1.out) LBj).mono ?_; rintro e w2 ⟨rfl, hb⟩; have HB2 := Lib.hid (HBW1.out.trans (hb.mono HBW1.out.size)); clear hb)
  go_ret
  exact ⟨rfl, HB2.out⟩
 have HSM := Lib.hid hsm
 clear hsm
 cases hbr : briefsB plan
 ·have HBR := Lib.hid hbr
  clear hbr
  go_wp2_with (first
   | (go_at_call 6; refine (small_is j ja1 jc1 ja2 jc2 _ HSM.out (HVS.out.keep HBW1.out) LSj (HVB.out.keep HBW1.out) LBj).mono ?_; rintro e w2 ⟨rfl, hb⟩; have HB2 := Lib.hid (HBW1.out.trans (hb.mono HBW1.out.size)); clear hb)
   | (go_at_call 7; refine (briefs_is plan plana planc _ HBR.out (HPV.out.keep HB2.out) Lplan).mono ?_; rintro e w3 ⟨rfl, hb⟩; have HB3 := Lib.hid (HB2.out.trans (hb.mono HB2.out.size)); clear hb))
  go_ret
  exact ⟨rfl, HB3.out⟩
 have HBR := Lib.hid hbr
 obtain ⟨hpl, hcu⟩ := briefs_len hbr
 have hpl2 : plan.length ≤ 1000 := by omega
 have HCU2 := Lib.hid (show ∀ l ∈ plan, l.cuts.length ≤ 100000 from fun l hl => by have := hcu l hl; omega)
 clear hbr hcu hpl y0 y1
 go_upto_region 5 with (first
  | (go_at_call 6; refine (small_is j ja1 jc1 ja2 jc2 _ HSM.out (HVS.out.keep HBW1.out) LSj (HVB.out.keep HBW1.out) LBj).mono ?_; rintro e w2 ⟨rfl, hb⟩; have HB2 := Lib.hid (HBW1.out.trans (hb.mono HBW1.out.size)); have HC2 := Lib.hid (HC1.out.keep hb hzw1); have HY2 := Lib.hid (And.intro (cell_keep hb HY1.out.1) (cell_keep hb HY1.out.2)); have hz2 := hb.size; have y0 := HY2.out.1; have y1 := HY2.out.2; clear hb)
  | (go_at_call 7; refine (briefs_is plan plana planc _ HBR.out (HPV.out.keep HB2.out) Lplan).mono ?_; rintro e w3 ⟨rfl, hb⟩; have HB3 := Lib.hid (HB2.out.trans (hb.mono HB2.out.size)); have HC3 := Lib.hid (HC2.out.keep hb (by omega)); have HY3 := Lib.hid (And.intro (cell_keep hb HY2.out.1) (cell_keep hb HY2.out.2)); have hz3 := hb.size; have y0 := HY3.out.1; have y1 := HY3.out.2; clear hb))
 have hzw3 : gj < w3.heap.size := by omega
 clear q0 q1 q2 q3 q4 HC1 HBW1 HB2 HC2 hz2 hz3 hzw1 HY1 HY2 y0 y1
 obtain ⟨q0, q1, q2, q3, q4⟩ := HC3.out
 obtain ⟨y0, y1⟩ := HY3.out
 have HAR := Lib.hid (fun w9 hs hb hp => areasOf_any j plan ja1 jc1 ja2 jc2 plana planc w9 hs LSj hb LBj hp hpl2 HCU2.out)
 have HOF := Lib.hid (fun w9 hs hb hp hT => offcuts_any j plan ja1 jc1 ja2 jc2 plana planc least0 least1 w9 hs LSj hb LBj hp hpl2 HCU2.out hT)
 have HCP := Lib.hid (fun w9 hs hb hp => refCheckPlan_any j plan ja1 jc1 ja2 jc2 plana planc w9 hs LSj hb LBj hp hpl2 HCU2.out)
 have HBAD := Lib.hid (show ¬ (planE2 j plan).2 = 0 → areasF j plan = ⟨0, 0, 0, 0⟩ ∧ (offLP j plan least0 least1 = [] ∧ offEP j plan least0 least1 = (planE2 j plan).2) from fun h => ⟨by unfold areasF; rw [if_neg h], by unfold offLP; rw [if_neg h], by unfold offEP; rw [if_neg h]⟩)
 have HGOOD := Lib.hid (show (planE2 j plan).2 = 0 → (areasF j plan = areasM j plan ∧ (offLP j plan least0 least1 = offL2 j plan least0 least1 ∧ offEP j plan least0 least1 = offE2 j plan least0 least1)) ∧ (jobE j = 0 ∧ PlanOk j plan) from fun h => ⟨⟨by unfold areasF; rw [if_pos h], by unfold offLP; rw [if_pos h], by unfold offEP; rw [if_pos h]⟩, (plan_parts h).1, layGo_ok (plan_parts h).2.1⟩)
 obtain ⟨p2, hp2⟩ : ∃ p2, planE2 j plan = p2 := ⟨_, rfl⟩
 rw [hp2] at HAR HCP HBAD HGOOD
 obtain ⟨⟨pb, pl, ⟨x1, y1', x2, y2⟩⟩, E⟩ := p2
 obtain ⟨A, hA⟩ : ∃ A, areasF j plan = A := ⟨_, rfl⟩
 obtain ⟨L, hL⟩ : ∃ L, offLP j plan least0 least1 = L := ⟨_, rfl⟩
 obtain ⟨F, hF⟩ : ∃ F, offEP j plan least0 least1 = F := ⟨_, rfl⟩
 rw [hA] at HAR HBAD HGOOD
 rw [hL, hF] at HOF HBAD HGOOD
 unfold arsV at HAR
 simp only at HBAD HGOOD HAR
 clear hp2 hA hL hF
 go_upto_region 6 with (go_at_call 8; refine (HAR.out _ (HVS.out.keep HB3.out) (HVB.out.keep HB3.out) (HPV.out.keep HB3.out)).mono ?_; rintro e w4 ⟨rfl, hb⟩; have HB34 := Lib.hid hb; clear hb)
 refine gen_world (fun W5 => ArsO W5 w4.heap.size A ∧ Below w4.heap.size w4 W5) ⟨⟨by simp [go_sem], by simp [go_sem], by simp [go_sem], by simp [go_sem], by simp [go_sem], by simp [go_sem], by simp [go_sem], by simp [go_sem]⟩, by repeat (first | (with_reducible assumption) | exact Below.refl _ _ | (refine Below.setCell ?_ (by first | omega | (simp; omega) | (simp; done)) _) | (refine Below.alloc ?_ (by first | omega | (simp; omega) | (simp; done)) _) | (refine Below.drew ?_))⟩ ?_
 rintro W5 ⟨ha5, hb5⟩
 have hb35 := HB34.out.trans (hb5.mono HB34.out.size)
 have HB5 := Lib.hid (HB3.out.trans (hb35.mono HB3.out.size))
 have HC5 := Lib.hid (HC3.out.keep hb35 hzw3)
 have HY5 := Lib.hid (And.intro (cell_keep hb35 HY3.out.1) (cell_keep hb35 HY3.out.2))
 obtain ⟨g7, hg7⟩ : ∃ g, g = w4.heap.size := ⟨_, rfl⟩
 rw [← hg7] at ha5 ⊢
 have HA5 := Lib.hid ha5
 have hzw5 : gj < W5.heap.size := Nat.lt_of_lt_of_le hzw3 hb35.size
 clear q0 q1 q2 q3 q4 y0 y1 HC3 HY3 HB34 hb5 hb35 ha5 hg7 hzw3 HAR
 obtain ⟨q0, q1, q2, q3, q4⟩ := HC5.out
 obtain ⟨y0, y1⟩ := HY5.out
 go_upto_region 7 with (go_at_call 9; refine (HOF.out _ (HVS.out.keep HB5.out) (HVB.out.keep HB5.out) (HPV.out.keep HB5.out) (tab_keep HTB.out HB5.out)).mono ?_; rintro e w6 ⟨a6, c6, rfl, hv, -, hb⟩; have HV6 := Lib.hid hv; have HB56 := Lib.hid hb; clear hb hv)
 have HB6 := Lib.hid (HB5.out.trans (HB56.out.mono HB5.out.size))
 have HC6 := Lib.hid (HC5.out.keep HB56.out hzw5)
 have HY6 := Lib.hid (And.intro (cell_keep HB56.out HY5.out.1) (cell_keep HB56.out HY5.out.2))
 have HA6 := Lib.hid (HA5.out.keep HB56.out)
 have hzw6 : gj < w6.heap.size := Nat.lt_of_lt_of_le hzw5 HB56.out.size
 clear q0 q1 q2 q3 q4 y0 y1 HC5 HY5 HA5 HB56 hzw5 HOF
 obtain ⟨q0, q1, q2, q3, q4⟩ := HC6.out
 go_upto_region 8 with (go_at_call 10; refine (HCP.out _ (HVS.out.keep HB6.out) (HVB.out.keep HB6.out) (HPV.out.keep HB6.out)).mono ?_; rintro e w7 h; obtain ⟨rfl, hb⟩ := planPost2_out h; have HB67 := Lib.hid hb; clear hb h)
 refine gen_world (fun W7 => Below w7.heap.size w7 W7) (by repeat (first | (with_reducible assumption) | exact Below.refl _ _ | (refine Below.setCell ?_ (by first | omega | (simp; omega) | (simp; done)) _) | (refine Below.alloc ?_ (by first | omega | (simp; omega) | (simp; done)) _) | (refine Below.drew ?_))) ?_
 intro W7 hb7
 have hb67 := HB67.out.trans (hb7.mono HB67.out.size)
 have HB7 := Lib.hid (HB6.out.trans (hb67.mono HB6.out.size))
 have HC7 := Lib.hid (HC6.out.keep hb67 hzw6)
 have HY7 := Lib.hid (And.intro (cell_keep hb67 HY6.out.1) (cell_keep hb67 HY6.out.2))
 have HA7 := Lib.hid (HA6.out.keep hb67)
 have HV7 := Lib.hid (HV6.out.keep hb67)
 have hzw7 : gj < W7.heap.size := Nat.lt_of_lt_of_le hzw6 hb67.size
 clear q0 q1 q2 q3 q4 HC6 HY6 HA6 HV6 HB67 hb7 hb67 hzw6 HCP HB6
 by_cases hE0 : ¬ E = 0
 ·obtain ⟨rfl, rfl, rfl⟩ := HBAD.out hE0
  have hnE := bne_t5 hE0
  obtain ⟨z0, z1, z2, z3, -, -, -, -⟩ := HA7.out
  have hae := ars_eql
  go_wp2_with fail
  go_ret
  exact ⟨ret_bool (by simp), HB7.out⟩
 obtain rfl : E = 0 := Decidable.not_not.1 hE0
 obtain ⟨⟨rfl, rfl, rfl⟩, hje, hok⟩ := HGOOD.out rfl
 have HRO := Lib.hid (fun w9 hs hp => offcutsR_any j plan ja1 jc1 ja2 jc2 plana planc least0 least1 w9 hs hp hje hok hpl2)
 have HRA := Lib.hid (fun w9 hs hp => areasR_any j plan ja1 jc1 ja2 jc2 plana planc w9 hs hp hje hok hpl2)
 have HSL := Lib.hid (offL2_small hje hok (n0 := least0) (n1 := least1))
 have HTOT := Lib.hid (areas_total hok)
 have HABD := Lib.hid (arPlan_bd hje hok plan.length (Nat.le_refl _))
 have HABD := Lib.hid (show (areasM j plan).bd (1000000000000000 * plan.length) from HABD.out)
 have HJE := Lib.hid hje
 have HOK := Lib.hid hok
 clear HBAD HGOOD hE0 hje hok
 generalize areasM j plan = A at *
 generalize offL2 j plan least0 least1 = L at *
 generalize offE2 j plan least0 least1 = F at *
 unfold arsV at HRA
 obtain ⟨q0, q1, q2, q3, q4⟩ := HC7.out
 obtain ⟨y0, y1⟩ := HY7.out
 go_upto_region 11 with (go_at_call 11; refine (HRO.out _ (HVS.out.keep HB7.out) (HPV.out.keep HB7.out)).mono ?_; rintro e w8 ⟨a8, c8, rfl, hv, -, hb⟩; have HV8 := Lib.hid hv; have HB78 := Lib.hid hb; clear hb hv)
 have HB8 := Lib.hid (HB7.out.trans (HB78.out.mono HB7.out.size))
 have HC8 := Lib.hid (HC7.out.keep HB78.out hzw7)
 have HA8 := Lib.hid (HA7.out.keep HB78.out)
 have HV78 := Lib.hid (HV7.out.keep HB78.out)
 have hzw8 : gj < w8.heap.size := Nat.lt_of_lt_of_le hzw7 HB78.out.size
 clear q0 q1 q2 q3 q4 y0 y1 HC7 HY7 HA7 HB7 HB78 hzw7 HRO HV7
 obtain ⟨q0, q1, q2, q3, q4⟩ := HC8.out
 obtain ⟨z0, z1, z2, z3, -, -, -, -⟩ := HA8.out
 have hi : ∀ s : Int, (s != s) = false := fun s => by simp
 have han := ars_neq A.pieces A.waste A.kerf A.trim
 have hg7 := HA8.out.lt
 have HCA := Lib.hid (fun w9 (h : Below w8.heap.size w8 w9) => HRA.out w9 ((HVS.out.keep HB8.out).keep h) ((HPV.out.keep HB8.out).keep h))
 have HCS := Lib.hid (fun w9 (h : Below w8.heap.size w8 w9) => sameBoards_same L a6 a8 c6 c8 w9 (HV78.out.keep h) (HV8.out.keep h) (by have := HSL.out.1; omega) HSL.out.2)
 refine wp_region_grew hmix (by kernel_rfl) ?_
 repeat (first
  | go_big_quiet_step ((first
      | (go_at_call 12; exact grew_of (HCA.out _ (grew_below _ _)))
      | (go_at_call 13; exact grew_of (HCS.out _ (grew_below _ _)))))
  | quiet_step ((first
      | (go_at_call 12; exact grew_of (HCA.out _ (grew_below _ _)))
      | (go_at_call 13; exact grew_of (HCS.out _ (grew_below _ _))))))
 refine wpQuiet_nil ?_
 rintro _ ⟨gg, rfl⟩
 have hb9 : Below w8.heap.size w8 (grew w8 gg) := grew_below _ _
 generalize grew w8 gg = W9 at *
 have HB9 := Lib.hid (HB8.out.trans (hb9.mono HB8.out.size))
 have HC9 := Lib.hid (HC8.out.keep hb9 hzw8)
 have HA9 := Lib.hid (HA8.out.keep hb9)
 have hzw9 : gj < W9.heap.size := Nat.lt_of_lt_of_le hzw8 hb9.size
 clear q0 q1 q2 q3 q4 z0 z1 z2 z3 hg7 HC8 HA8 HB8 hb9 hzw8 HV78 HV8 HCA HCS han
 have hfin : A.pieces + A.waste + A.kerf + A.trim = sumTo plan.length fun i => bdA j (plan.getD i default) := HTOT.out
 have HFIN := Lib.hid hfin
 have hpl6 : plan.length ≤ 110 := (briefs_len HBR.out).1
 have habd := HABD.out
 have HABD2 := Lib.hid (show A.bd 1000000000000000000 from habd.mono (by omega))
 have HG := Lib.hid (fun m (hm : m < plan.length) => show plan.getD m default = plan[m] from by rw [List.getD_eq_getElem?_getD, List.getElem?_eq_getElem hm]; rfl)
 have HSB := Lib.hid (fun k hk => sumA_bd HJE.out HOK.out k hk)
 have hst := (jobOk_of HJE.out).lenS
 have HJ := Lib.hid (jobOk_of HJE.out)
 clear hfin habd HABD HTOT HSL
 go_wp2_with fail
 go_loopw [15, 16] (fun av iv wr => ∃ k : Nat, k ≤ plan.length ∧ iv = .int .i64 k ∧ av = .int .i64 (sumTo k fun i => bdA j (plan.getD i default)) ∧ Below W9.heap.size W9 wr) (fun _ iv _ => plan.length - (intOf iv).toNat)
 case atStart => exact ⟨0, Nat.zero_le _, rfl, rfl, Below.refl _ _⟩
 case round =>
  obtain ⟨k, hk, rfl, rfl, hbr⟩ := hrel
  obtain ⟨wo, rfl⟩ : ∃ wo : World, wo = wr := ⟨_, rfl⟩
  have HBR9 := Lib.hid hbr
  have hbw := HB9.out.trans (hbr.mono HB9.out.size)
  have hs := HSB.out k hk
  by_cases hlt : k < plan.length
  ·have hki : (k : Int) < (plan.length : Int) := by omega
   have v1 : IntKind.i64.wrap ((k : Int) + 1) = (k : Int) + 1 := IntWalk.i64_in _ (by omega)
   obtain ⟨q0, -, -, -, -⟩ := HC9.out.keep hbr hzw9
   have hsum : sumTo (k + 1) (fun i => bdA j (plan.getD i default)) = sumTo k (fun i => bdA j (plan.getD i default)) + bdA j plan[k] := by rw [sumTo, HG.out k hlt]
   have hs2 := HSB.out (k + 1) hlt
   rw [hsum] at hs2
   have HSUM := Lib.hid hsum
   obtain ⟨⟨hb0, hb1⟩, -⟩ := HOK.out _ (List.getElem_mem hlt)
   obtain ⟨gp, offp, hap, al, cl, m0, m1, hcv, hcl, -, hwf⟩ := (HPV.out.keep hbw).at_ hlt
   subst hap
   generalize plan[k] = L2 at *
   obtain ⟨lb, cs⟩ := L2
   simp only at hb0 hb1 m0 m1 hcv hcl
   obtain ⟨nb, hnb⟩ : ∃ nb : Nat, lb = nb := ⟨lb.toNat, by omega⟩
   subst hnb
   have hnbs : nb < j.stock.length := by omega
   have hbi : (nb : Int) < (j.stock.length : Int) := by omega
   obtain ⟨⟨gs, off, has, hcb⟩, hrvb, -⟩ := HSC.out.ch nb _ (List.getElem?_eq_getElem hnbs)
   subst has
   have hbq : bdA j ⟨(nb : Int), cs⟩ = j.stock[nb].length * j.stock[nb].width := by unfold bdA; simp only [Int.toNat_natCast]; rw [List.getD_eq_getElem?_getD, List.getElem?_eq_getElem hnbs]; rfl
   have hbd := bdA_bd HJ.out (l := ⟨(nb : Int), cs⟩) ⟨hb0, hb1⟩
   obtain ⟨s0, s1, s2, s3, s4, s5, s6, s7⟩ := hcb.keep hbw
   generalize AD nb = ad at *
   generalize CD nb = cd at *
   generalize j.stock[nb] = b at *
   obtain ⟨S1, hS1⟩ : ∃ S, sumTo k (fun i => bdA j (plan.getD i default)) = S := ⟨_, rfl⟩
   rw [hS1] at HSUM hs hs2 ⊢
   rw [hbq] at HSUM hs2 hbd
   obtain ⟨LW, hLW⟩ : ∃ q, b.length * b.width = q := ⟨_, rfl⟩
   rw [hLW] at HSUM hs2 hbd
   have w1 : IntKind.i64.wrap (b.length * b.width) = LW := by rw [hLW]; exact IntWalk.i64_in _ (by omega)
   have w2 : IntKind.i64.wrap (S1 + LW) = S1 + LW := IntWalk.i64_in _ (by omega)
   clear hcb hrvb hcv hcl hS1 hbq hsum m1 hbr hbw hs hs2 hLW hbd
   go_upto_region 17 with fail
   have kx0 : ∀ u : KW (fun W' => Below wo.heap.size wo W'), (u.w.cell? ⟨gs, off + nb * 8, none⟩ = some (.string b.name) ∧ u.w.cell? ⟨gs, off + nb * 8 + 1, none⟩ = some (.string b.species)) ∧ (u.w.cell? ⟨gs, off + nb * 8 + 2, none⟩ = some (.int .i64 b.length) ∧ u.w.cell? ⟨gs, off + nb * 8 + 3, none⟩ = some (.int .i64 b.width)) ∧ (u.w.cell? ⟨gs, off + nb * 8 + 4, none⟩ = some (.int .i64 b.thick) ∧ u.w.cell? ⟨gs, off + nb * 8 + 5, none⟩ = some (.int .i64 b.cut)) ∧ u.w.cell? ⟨gs, off + nb * 8 + 6, none⟩ = some (.int .i64 b.moisture) ∧ u.w.cell? ⟨gs, off + nb * 8 + 7, none⟩ = some (.slice ad b.defects.length cd) := fun u => ⟨⟨cell_keep u.ok s0, cell_keep u.ok s1⟩, ⟨cell_keep u.ok s2, cell_keep u.ok s3⟩, ⟨cell_keep u.ok s4, cell_keep u.ok s5⟩, cell_keep u.ok s6, cell_keep u.ok s7⟩
   have kx1 : ∀ u : KW (fun W' => Below wo.heap.size wo W'), u.w.cell? ⟨gj, 0, none⟩ = some (.slice (some ⟨gs, off, none⟩) j.stock.length jc1) ∧ u.w.cell? ⟨gp, offp + k * 2, none⟩ = some (.int .i64 (nb : Int)) := fun u => ⟨cell_keep u.ok q0, cell_keep u.ok m0⟩
   haveI nn1 : Nonempty (KW (fun W' => Below wo.heap.size wo W')) := ⟨⟨wo, Below.refl _ _⟩⟩
   clear s0 s1 s2 s3 s4 s5 s6 s7 q0 m0
   refine wp_region_tree (fun w' => ∃ u : KW (fun W' => Below wo.heap.size wo W'), w' = u.w) 10 (.take 0 (.take 1 (.take 2 (.take 3 (.take 4 (.take 5 (.take 6 (.take 7 (.take 8 (.one 9 .done)))))))))) hmix (by kernel_rfl) (KW.mk' (Below.refl _ _).drew) ?_
   have HCz := Lib.hid (show Below wo.heap.size wo wo.drew from (Below.refl _ _).drew)
   generalize wo.drew = wz at *
   repeat (refine wpTree_take ?_; simp only [nthOp]; (first | go_big_quiet_step (fail) | quiet_step (fail)); refine wpQuiet_nil ?_)
   refine wpTree_one ?_
   simp only [nthOp]
   go_wp2_with fail
   refine One_mk (KW.mk' (HCz.out.alloc HCz.out.size _)) ?_
   refine wpTree_done ?_
   simp only [List.drop_succ_cons, List.drop_zero]
   clear kx0 kx1 nn1
   go_wp2_with fail
   refine NP_mk ?_
   have hcz := HCz.out
   have hzz := hcz.size
   go_upto_region 18 with fail
   refine gen_world (fun W5 => CellsBd W5 wz.heap.size 0 b ad cd ∧ Below wo.heap.size wo W5) ⟨⟨by simp [go_sem], by simp [go_sem], by simp [go_sem], by simp [go_sem], by simp [go_sem], by simp [go_sem], by simp [go_sem], by simp [go_sem]⟩, by repeat (first | (with_reducible assumption) | exact Below.refl _ _ | (refine Below.setCell ?_ (by first | omega | (simp; omega) | (simp; done)) _) | (refine Below.alloc ?_ (by first | omega | (simp; omega) | (simp; done)) _) | (refine Below.drew ?_))⟩ ?_
   rintro W5 ⟨hcb, hb5⟩
   have HB5 := Lib.hid hb5
   obtain ⟨-, -, d2, d3, -, -, -, -⟩ := hcb
   simp only [Nat.zero_add] at d2 d3
   clear hcz hzz hb5
   go_wp2_with fail
   go_roundw
   case rel => exact ⟨k + 1, by omega, by go_num, by rw [HSUM.out], HBR9.out.trans (HB5.out.mono HBR9.out.size)⟩
   case measure => first | (simp [intOf]; done) | (simp [intOf]; omega)
  ·obtain rfl : k = plan.length := by omega
   have hki : ¬ ((plan.length : Nat) : Int) < ((plan.length : Nat) : Int) := by omega
   obtain ⟨z0, z1, z2, z3, -, -, -, -⟩ := HA9.out.keep hbr
   have HBF := Lib.hid hbw
   have habd := HABD2.out
   obtain ⟨⟨a1, a2⟩, ⟨a3, a4⟩, ⟨a5, a6⟩, a7, a8⟩ := habd
   have w1 : IntKind.i64.wrap (A.pieces + A.waste) = A.pieces + A.waste := IntWalk.i64_in _ (by omega)
   have w2 : IntKind.i64.wrap (A.pieces + A.waste + A.kerf) = A.pieces + A.waste + A.kerf := IntWalk.i64_in _ (by omega)
   have w3 : IntKind.i64.wrap (A.pieces + A.waste + A.kerf + A.trim) = A.pieces + A.waste + A.kerf + A.trim := IntWalk.i64_in _ (by omega)
   rw [← HFIN.out]
   clear hbr hbw hs a1 a2 a3 a4 a5 a6 a7 a8
   go_wp2_with fail
   go_ret
   exact ⟨ret_bool (by simp), HBF.out⟩
set_option maxRecDepth 100000 in
theorem cuttingAreas_walks : WalksC 3 Tryz.f3 := by
 intro H enc W base args ds p hval hA hlt hT
 rw [Tryz.params3] at hA hval
 obtain ⟨v0, vs0, d0, ds0, p0, q0, hargs, rfl, rfl, ⟨fu0, hf0⟩, r0⟩ := trodAll_cons hA
 obtain ⟨v1, vs1, d1, ds1, p1, q1, rfl, rfl, rfl, ⟨fu1, hf1⟩, r1⟩ := trodAll_cons r0
 obtain ⟨v2, vs2, d2, ds2, p2, q2, rfl, rfl, rfl, ⟨fu2, hf2⟩, r2⟩ := trodAll_cons r1
 obtain ⟨rfl, rfl, rfl⟩ := trodAll_nil r2
 obtain rfl : args = #[v0, v1, v2] := by cases args; simp_all
 obtain ⟨cs0, rfl, -⟩ := okWide_struct Tryz.underlying27 (hval 0 27 v0 rfl rfl)
 obtain ⟨j0, a0, c0, b0, d0, hc0, ⟨V0, C0, M0⟩, ⟨U0, D0, N0⟩, W0⟩ := Job.open_ hf0
 have hd0 : cs0 = #[.slice a0 j0.stock.length c0, .slice b0 j0.blanks.length d0, .int .i64 j0.trim.kerf, .int .i64 j0.trim.ends, .int .i64 j0.trim.sides] := by
  cases cs0; simpa [Value.cells] using hc0
 subst hd0
 obtain ⟨_, _, _, rfl⟩ := okWide_slice Tryz.underlying28 (hval 1 28 v1 rfl rfl)
 obtain ⟨a1, plan, c1, e1, V1, C1, M1⟩ := Layouts.open_ hf1
 rw [e1]
 obtain ⟨cs2, rfl, -⟩ := okWide_pair Tryz.underlying29 (hval 2 29 v2 rfl rfl)
 obtain ⟨p2, q2, hc2, W2⟩ := pair_open hf2
 have hd2 : cs2 = #[.int .i64 p2, .int .i64 q2] := by
  cases cs2; simpa [Value.cells] using hc2
 subst hd2
 exact walkCuttingAreas j0 a0 c0 b0 d0 a1 plan c1 p2 q2 W V0 (by unfold maxLen at M0; omega) C0 U0 (by unfold maxLen at N0; omega) D0 W0 V1 (by unfold maxLen at M1; omega) C1 W2 hT

set_option maxRecDepth 100000 in
theorem cuttingAreas_row : Rows.CuttingAreasSaid :=
 card_row (s := Rows.cuttingAreasSpec) (c := Rows.cuttingAreasRow) 3 Tryz.f3 rfl
  (fun H ds h => by match ds, h with | [_, _, _], _ => rfl) (by kernel_rfl) (by kernel_rfl)
  rfl rfl rfl rfl rfl rfl rfl ⟨rfl, rfl, rfl, rfl, rfl⟩ rfl rfl rfl rfl rfl rfl rfl rfl rfl rfl (fun _ _ => rfl) (by kernel_rfl) Tryz.func3
  cuttingAreas_closed (of_decide_eq_true (by kernel_rfl)) (by unfold Func.isWrapper; first | (rw [if_pos (by decide +kernel)]; kernel_rfl) | (rw [if_neg (by decide +kernel)]; exact ⟨rfl, rfl⟩)) (by kernel_rfl)
  (fun H enc os => ChangeSpec.witness_shaped (enc := enc) (C := Tryz.checked) (os := os) (X := fun w _ => laidMetH Tryz.prog lawLaid w) false (World.doorLaid Tryz.prog 400 os) #[.agg #[.slice none 0 0, .slice none 0 0, .int .i64 0, .int .i64 0, .int .i64 0], .slice none 0 0, .agg #[.int .i64 0, .int .i64 0]] 8 rfl (World.shaped_of_RefB (by kernel_rfl) (by kernel_rfl)) (by kernel_rfl) (by kernel_rfl) (by kernel_rfl) (door_met os _))
  cuttingAreas_walks
set_option maxRecDepth 100000 in
theorem cuttingAreas_holds : Rows.CuttingAreasCardSaid :=
 Claim7.holds_tied_plain_at .later [] [.data, .data, .data] true (true, "56f06f80f8c017e55461ee010f44ea57d6a0052d04aeab8f48784ca0642ef455") false
  cuttingAreas_row (fun _ h => by cases h) (by kernel_rfl) (fun _ h => by cases h) cuttingAreas_row_tie rfl ⟨rfl, rfl⟩ (by kernel_rfl) rfl
  (fun f fn hf hfn => by
   obtain rfl : f = 3 := Option.some.inj ((show Tryz.prog.funcNamed "spokeshave/spokeshavelaw08.CuttingAreas" = some 3 by kernel_rfl).symm.trans hf) |>.symm
   obtain rfl : fn = Tryz.f3 := (Option.some.inj (Tryz.func3.symm.trans hfn)).symm
   refine ⟨by kernel_rfl, fun j t ht => ?_⟩
   have hall : (Tryz.f3.params.toList.all fun t => Tryz.prog.wantsStandIn t == false) = true := by kernel_rfl
   have hm : t ∈ Tryz.f3.params.toList := by
    have h1 := Array.getElem?_eq_some_iff.1 ht
    obtain ⟨h2, rfl⟩ := h1
    exact Array.mem_toList_iff.2 (Array.getElem_mem h2)
   have h3 := List.all_eq_true.1 hall t hm
   exact beq_iff_eq.1 h3)
  (by kernel_rfl)
end Go.Proofs.YtjmgboipbhddlaaGreatDoor
