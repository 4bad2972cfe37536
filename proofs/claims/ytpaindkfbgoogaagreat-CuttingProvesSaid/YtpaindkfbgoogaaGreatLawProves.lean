/- CuttingProves returns true for every input: no accepted plan has fewer layouts with pieces than the bounds; the greedy plan is accepted. No condition. -/
import Derived.Test.YtpaindkfbgoogaaGreatPLB
import Derived.Test.YtpaindkfbgoogaaGreatPVX
import Derived.Test.YtpaindkfbgoogaaGreatBDY
import Derived.Test.YtpaindkfbgoogaaGreatFactsProves
set_option linter.unusedVariables false
set_option linter.unusedSimpArgs false
namespace Go.Proofs.YtpaindkfbgoogaaGreat
open Go Go.ChangeShapes Go.WideShapes Go.ChangeAt Go.RowKit

theorem planPost2_out {w w' : World} {pb pl x1 y1 x2 y2 E : Int} {e : Ending} (h : PlanPost2 w (⟨pb, pl, ⟨x1, y1, x2, y2⟩⟩, E) e w') : e = .returned (.tuple #[.agg #[.int .i64 pb, .int .i64 pl, .int .i64 x1, .int .i64 y1, .int .i64 x2, .int .i64 y2], .int .i64 E]) ∧ Below w.heap.size w w' := h
theorem planE_err {j : Job} {E : Int} (h : jobE j = E) (hE : ¬ E = 0) : planE j = ([], E) := by subst h; unfold planE; rw [if_pos hE]
theorem planE_ok {j : Job} (h : jobE j = 0) : planE j = greedyM j.stock j.blanks j.trim := by unfold planE; rw [if_neg (by simp [h])]
theorem small_few {j : Job} (hs : smallB j = true) (h : jobE j = 0) : j.blanks.length < 20 := by
  have hp := (jobOk_of h).lenB
  have hl := smallB_lens hs
  unfold smallL at hl
  omega
/-- The plan that is looked at: a short one of whose layouts none is too long. -/
def PCut (W0 : World) (u : Nat → Value) (W : World) : Prop := ∃ (plan : List Layout) (a : Option Addr) (c : Nat), u 1 = .slice a plan.length c ∧ Layouts.V W a plan ∧ plan.length ≤ 1000 ∧ (∀ l ∈ plan, l.cuts.length ≤ 100000) ∧ Below W0.heap.size W0 W
theorem greedy_small {j : Job} (hE : jobE j = 0) {r : List (Nat × List Cut)} (hg : greedyM j.stock j.blanks j.trim = (r, 0)) : (planL r).length ≤ 1000 ∧ ∀ l ∈ planL r, l.cuts.length ≤ 100000 := by
  obtain ⟨h1, h2⟩ := greedy_accepted hE hg
  have h3 := (jobOk_of hE).lenS
  obtain ⟨-, hlay, -⟩ := plan_parts (j := j) (plan := planL r) (by rw [h1])
  refine ⟨by unfold planL; rw [List.length_map]; omega, fun l hl => ?_⟩
  have h4 := layGo_ok hlay l hl
  have := (lay_okR hE h4.1 h4.2).2.1
  omega
theorem proves_vals {j : Job} {plan : List Layout} {k0 k1 : Int} (h : (planE2 j plan).2 = 0) (h0 : 0 ≤ k0 ∧ k0 ≤ 20) (h1 : 0 ≤ k1 ∧ k1 ≤ 20) :
    (areaBE j = 0 ∧ areaBV j ≤ withN plan) ∧ (weightsE j k0 k1 = 0 ∧ bndV j k0 k1 ≤ withN plan) ∧ bestE j = 0 ∧ max (areaV j) (bestM j).1 ≤ withN plan := by
  obtain ⟨hE, hfit, ha, hv, hb, hm⟩ := plan_proves h
  have hw : ∀ a b : Int, (0 ≤ a ∧ a ≤ 20) → (0 ≤ b ∧ b ≤ 20) → weightsE j a b = 0 := fun a b ha hb => by rw [weightsE_ok hE ⟨ha, hb⟩, if_pos hfit]
  refine ⟨⟨by unfold areaBE; rw [if_pos hE, ha], by unfold areaBV; rw [if_pos hE]; exact hv⟩, ⟨hw k0 k1 h0 h1, ?_⟩, ?_, by omega⟩
  · unfold bndV
    rw [if_pos (hw k0 k1 h0 h1)]
    have := hb k0.toNat k1.toNat (by omega) (by omega)
    omega
  · unfold bestE
    rw [if_pos (hw 0 0 (by omega) (by omega)), ha]
set_option maxRecDepth 100000 in
set_option maxHeartbeats 16000000 in
theorem walkCuttingProves (j : Job) (ja1 : Option Addr) (jc1 : Nat) (ja2 : Option Addr) (jc2 : Nat) (plana : Option Addr) (plan : List Layout) (planc : Nat) (k0 k1 : Int) (w : World) (VSj : Boards.V w ja1 j.stock) (LSj : j.stock.length ≤ 9223372036854775807) (CSj : j.stock.length ≤ jc1) (VBj : Blanks.V w ja2 j.blanks) (LBj : j.blanks.length ≤ 9223372036854775807) (CBj : j.blanks.length ≤ jc2) (WTj : j.trim.wf) (Vplan : Layouts.V w plana plan) (Lplan : plan.length ≤ 9223372036854775807) (Cplan : plan.length ≤ planc) (Wk : (-9223372036854775808 ≤ k0 ∧ k0 ≤ 9223372036854775807) ∧ (-9223372036854775808 ≤ k1 ∧ k1 ≤ 9223372036854775807)) :
    Calls Tryz.prog 4 #[.agg #[.slice ja1 j.stock.length jc1, .slice ja2 j.blanks.length jc2, .int .i64 j.trim.kerf, .int .i64 j.trim.ends, .int .i64 j.trim.sides], .slice plana plan.length planc, .agg #[.int .i64 k0, .int .i64 k1]] w fun e w' => e = .returned (.bool true) ∧ Below w.heap.size w w' := by
  have HVS := Lib.hid VSj
  have HVB := Lib.hid VBj
  have HPV := Lib.hid Vplan
  clear VSj VBj Vplan
  go_enter Tryz.func4, Tryz.ntmps4
  go_upto_region 1 with fail
  refine gen_world (fun W => JB W w.heap.size j ja1 jc1 ja2 jc2 ∧ (W.cell? ⟨w.heap.size + 1, 0, none⟩ = some (.int .i64 k0) ∧ W.cell? ⟨w.heap.size + 1, 1, none⟩ = some (.int .i64 k1)) ∧ Below w.heap.size w W ∧ w.heap.size + 1 < W.heap.size) ⟨⟨by simp [go_sem], by simp [go_sem], by simp [go_sem], by simp [go_sem], by simp [go_sem]⟩, ⟨by simp [go_sem], by simp [go_sem]⟩, by repeat (first | (with_reducible assumption) | exact Below.refl _ _ | (refine Below.setCell ?_ (by first | omega | (simp; omega) | (simp; done)) _) | (refine Below.alloc ?_ (by first | omega | (simp; omega) | (simp; done)) _) | (refine Below.drew ?_)), by simp⟩ ?_
  rintro W ⟨hC, hY, hbW, hzW⟩
  obtain ⟨gj, hgj⟩ : ∃ g, g = w.heap.size := ⟨_, rfl⟩
  obtain ⟨gk, hgk⟩ : ∃ g, g = w.heap.size + 1 := ⟨_, rfl⟩
  rw [← hgk] at hY hzW
  rw [← hgj] at hC
  rw [← hgk, ← hgj]
  have hzG : gj < W.heap.size := by omega
  have HC := Lib.hid hC
  have HY := Lib.hid hY
  have HBW := Lib.hid hbW
  clear hC hbW hY hgj hgk hzW
  go_upto_region 3 with (go_at_call 5; refine (awake_any _).mono ?_; rintro e w1 ⟨rfl, hb1⟩; have HB1 := Lib.hid hb1; clear hb1)
  have HC1 := Lib.hid (HC.out.keep HB1.out hzG)
  have HY1 := Lib.hid (And.intro (cell_keep HB1.out HY.out.1) (cell_keep HB1.out HY.out.2))
  have HBW1 := Lib.hid (HBW.out.trans (HB1.out.mono HBW.out.size))
  have hzw1 : gj < w1.heap.size := Nat.lt_of_lt_of_le hzG HB1.out.size
  clear HC HBW HB1 hzG HY
  obtain ⟨q0, q1, q2, q3, q4⟩ := HC1.out
  obtain ⟨y0, y1⟩ := HY1.out
  cases hsm : smallB j
  · have HSM := Lib.hid hsm
    clear hsm
    go_wp2_with (go_at_call 6; refine (small_is j ja1 jc1 ja2 jc2 _ HSM.out (HVS.out.keep HBW1.out) LSj (HVB.out.keep HBW1.out) LBj).mono ?_; rintro e w2 ⟨rfl, hb⟩; have HB2 := Lib.hid (HBW1.out.trans (hb.mono HBW1.out.size)); clear hb)
    go_ret
    exact ⟨rfl, HB2.out⟩
  have HSM := Lib.hid hsm
  clear hsm
  cases hbr : briefsB plan
  · have HBR := Lib.hid hbr
    clear hbr
    go_wp2_with (first
      | (go_at_call 6; refine (small_is j ja1 jc1 ja2 jc2 _ HSM.out (HVS.out.keep HBW1.out) LSj (HVB.out.keep HBW1.out) LBj).mono ?_; rintro e w2 ⟨rfl, hb⟩; have HB2 := Lib.hid (HBW1.out.trans (hb.mono HBW1.out.size)); clear hb)
      | (go_at_call 17; refine (briefs_is plan plana planc _ HBR.out (HPV.out.keep HB2.out) Lplan).mono ?_; rintro e w3 ⟨rfl, hb⟩; have HB3 := Lib.hid (HB2.out.trans (hb.mono HB2.out.size)); clear hb))
    go_ret
    exact ⟨rfl, HB3.out⟩
  have HBR := Lib.hid hbr
  obtain ⟨hpl, hcu⟩ := briefs_len hbr
  have hpl2 : plan.length ≤ 1000 := by omega
  have HCU2 := Lib.hid (show ∀ l ∈ plan, l.cuts.length ≤ 100000 from fun l hl => by have := hcu l hl; omega)
  clear hbr hcu hpl
  have HI0 := Lib.hid (fun w9 => isWeight_any k0 w9)
  have HI1 := Lib.hid (fun w9 => isWeight_any k1 w9)
  cases hw0 : withinB k0 0 20
  · rw [hw0] at HI0
    clear y0 y1
    go_wp2_with (first
      | (go_at_call 6; refine (small_is j ja1 jc1 ja2 jc2 _ HSM.out (HVS.out.keep HBW1.out) LSj (HVB.out.keep HBW1.out) LBj).mono ?_; rintro e w2 ⟨rfl, hb⟩; have HB2 := Lib.hid (HBW1.out.trans (hb.mono HBW1.out.size)); have HC2 := Lib.hid (HC1.out.keep hb hzw1); have HY2 := Lib.hid (And.intro (cell_keep hb HY1.out.1) (cell_keep hb HY1.out.2)); have hz2 := hb.size; have y0 := HY2.out.1; have y1 := HY2.out.2; clear hb)
      | (go_at_call 17; refine (briefs_is plan plana planc _ HBR.out (HPV.out.keep HB2.out) Lplan).mono ?_; rintro e w3 ⟨rfl, hb⟩; have HB3 := Lib.hid (HB2.out.trans (hb.mono HB2.out.size)); have HC3 := Lib.hid (HC2.out.keep hb (by omega)); have HY3 := Lib.hid (And.intro (cell_keep hb HY2.out.1) (cell_keep hb HY2.out.2)); have hz3 := hb.size; have y0 := HY3.out.1; have y1 := HY3.out.2; clear hb)
      | (go_at_call 15; refine (HI0.out _).mono ?_; rintro e w' ⟨rfl, rfl⟩))
    go_ret
    exact ⟨rfl, HB3.out⟩
  rw [hw0] at HI0
  cases hw1 : withinB k1 0 20
  · rw [hw1] at HI1
    have tok1 : True := trivial
    clear y0 y1
    go_wp2_with (first
      | (go_at_call 6; refine (small_is j ja1 jc1 ja2 jc2 _ HSM.out (HVS.out.keep HBW1.out) LSj (HVB.out.keep HBW1.out) LBj).mono ?_; rintro e w2 ⟨rfl, hb⟩; have HB2 := Lib.hid (HBW1.out.trans (hb.mono HBW1.out.size)); have HC2 := Lib.hid (HC1.out.keep hb hzw1); have HY2 := Lib.hid (And.intro (cell_keep hb HY1.out.1) (cell_keep hb HY1.out.2)); have hz2 := hb.size; have y0 := HY2.out.1; have y1 := HY2.out.2; clear hb)
      | (go_at_call 17; refine (briefs_is plan plana planc _ HBR.out (HPV.out.keep HB2.out) Lplan).mono ?_; rintro e w3 ⟨rfl, hb⟩; have HB3 := Lib.hid (HB2.out.trans (hb.mono HB2.out.size)); have HC3 := Lib.hid (HC2.out.keep hb (by omega)); have HY3 := Lib.hid (And.intro (cell_keep hb HY2.out.1) (cell_keep hb HY2.out.2)); have hz3 := hb.size; have y0 := HY3.out.1; have y1 := HY3.out.2; clear hb)
      | (go_at_call 15; have _t := tok1; refine (HI0.out _).mono ?_; rintro e w' ⟨rfl, rfl⟩; clear tok1 _t)
      | (go_at_call 15; refine (HI1.out _).mono ?_; rintro e w' ⟨rfl, rfl⟩))
    go_ret
    exact ⟨rfl, HB3.out⟩
  rw [hw1] at HI1
  have tok1 : True := trivial
  have HKS := Lib.hid (And.intro (withinB_true hw0) (withinB_true hw1))
  clear y0 y1 hw0 hw1
  go_upto_region 5 with (first
    | (go_at_call 6; refine (small_is j ja1 jc1 ja2 jc2 _ HSM.out (HVS.out.keep HBW1.out) LSj (HVB.out.keep HBW1.out) LBj).mono ?_; rintro e w2 ⟨rfl, hb⟩; have HB2 := Lib.hid (HBW1.out.trans (hb.mono HBW1.out.size)); have HC2 := Lib.hid (HC1.out.keep hb hzw1); have HY2 := Lib.hid (And.intro (cell_keep hb HY1.out.1) (cell_keep hb HY1.out.2)); have hz2 := hb.size; have y0 := HY2.out.1; have y1 := HY2.out.2; clear hb)
    | (go_at_call 17; refine (briefs_is plan plana planc _ HBR.out (HPV.out.keep HB2.out) Lplan).mono ?_; rintro e w3 ⟨rfl, hb⟩; have HB3 := Lib.hid (HB2.out.trans (hb.mono HB2.out.size)); have HC3 := Lib.hid (HC2.out.keep hb (by omega)); have HY3 := Lib.hid (And.intro (cell_keep hb HY2.out.1) (cell_keep hb HY2.out.2)); have hz3 := hb.size; have y0 := HY3.out.1; have y1 := HY3.out.2; clear hb)
    | (go_at_call 15; have _t := tok1; refine (HI0.out _).mono ?_; rintro e w' ⟨rfl, rfl⟩; clear tok1 _t)
    | (go_at_call 15; refine (HI1.out _).mono ?_; rintro e w' ⟨rfl, rfl⟩))
  have hzw3 : gj < w3.heap.size := by omega
  clear q0 q1 q2 q3 q4 HC1 HBW1 HB2 HC2 hz2 hz3 hzw1 HY1 HY2 HI0 HI1
  obtain ⟨q0, q1, q2, q3, q4⟩ := HC3.out
  obtain ⟨q, hq⟩ : ∃ q, planE j = q := ⟨_, rfl⟩
  have HFEW := Lib.hid (fun h => small_few (j := j) HSM.out h)
  have HX := Lib.hid (fun w9 hs hb => greedyX_any j ja1 jc1 ja2 jc2 w9 hs LSj hb LBj HFEW.out)
  rw [hq] at HX
  have HQ := Lib.hid hq
  clear hq
  go_upto_if 48 with (go_at_call 18; refine (HX.out _ (HVS.out.keep HB3.out) (HVB.out.keep HB3.out)).mono ?_; rintro e w4 ⟨a3, c3, rfl, hv, hc3, hm3, hb⟩; have HV4 := Lib.hid hv; have HB4 := Lib.hid (HB3.out.trans (hb.mono HB3.out.size)); have HC4 := Lib.hid (HC3.out.keep hb hzw3); have HY4 := Lib.hid (And.intro (cell_keep hb HY3.out.1) (cell_keep hb HY3.out.2)); have hz4 := hb.size; clear hv hb hc3 hm3)
  have hzw4 : gj < w4.heap.size := by omega
  clear q0 q1 q2 q3 q4 HC3 HB3 hz4 hzw3 HY3 HX
  obtain ⟨q0, q1, q2, q3, q4⟩ := HC4.out
  refine wp_cut_slots [1, 47, 48, 49, 50, 51, 52, 53, 54, 9, 10, 55, 56, 57] (PCut w4) ?_ ?_
  · obtain ⟨ql, qe⟩ := q
    by_cases hqe : qe = 0
    · subst hqe
      have hE : jobE j = 0 := by
        by_cases h : jobE j = 0
        · exact h
        · have h2 := planE_err (j := j) rfl h
          rw [HQ.out] at h2
          injection h2 with h3 h4
          exact absurd h4.symm h
      have hgq := (planE_ok hE).symm.trans HQ.out
      have HGL := Lib.hid (greedy_small hE hgq).1
      have HGC := Lib.hid (greedy_small hE hgq).2
      have hln : ql.length = (planL ql).length := by simp [planL]
      have HCP := Lib.hid (fun w9 hs hb hp => checkPlan_any j (planL ql) ja1 jc1 ja2 jc2 a3 c3 w9 hs LSj hb LBj hp HGL.out HGC.out)
      rw [(greedy_accepted hE hgq).1] at HCP
      rw [hln]
      clear hE hgq hln
      go_wp2_with (go_at_call 19; refine (HCP.out _ (HVS.out.keep HB4.out) (HVB.out.keep HB4.out) HV4.out).mono ?_; rintro e w5 h; obtain ⟨rfl, hb⟩ := planPost2_out h; have HB5 := Lib.hid hb; clear hb h)
      have h5 := HB5.out
      have z5 := h5.size
      exact cut_meet (by simp [forget]) ⟨planL ql, a3, c3, by simp [planL], (HV4.out.keep HB5.out).keep (by repeat (first | (with_reducible assumption) | exact Below.refl _ _ | (refine Below.setCell ?_ (by first | omega | (simp; omega) | (simp; done)) _) | (refine Below.alloc ?_ (by first | omega | (simp; omega) | (simp; done)) _) | (refine Below.drew ?_))), HGL.out, HGC.out, by repeat (first | (with_reducible assumption) | exact Below.refl _ _ | (refine Below.setCell ?_ (by first | omega | (simp; omega) | (simp; done)) _) | (refine Below.alloc ?_ (by first | omega | (simp; omega) | (simp; done)) _) | (refine Below.drew ?_))⟩
    · have hnq := hqe
      have hb5 := bne_t5 hqe
      have hb6 : (qe == 0) = false := by simpa using hqe
      go_wp2_with fail
      exact cut_meet (by simp [forget]) ⟨plan, plana, planc, rfl, HPV.out.keep HB4.out, hpl2, HCU2.out, Below.refl _ _⟩
  rintro u W5 ⟨plan2, ap2, cp2, hu1, hv2, hpl3, hcu3, hb5⟩
  simp only [forget, List.foldl_cons, List.foldl_nil, hu1, List.setIfInBounds_toArray, List.set_cons_succ, List.set_cons_zero]
  have HPV2 := Lib.hid hv2
  have HCU3 := Lib.hid hcu3
  have HB5 := Lib.hid (HB4.out.trans (hb5.mono HB4.out.size))
  have HC5 := Lib.hid (HC4.out.keep hb5 hzw4)
  have HY5 := Lib.hid (And.intro (cell_keep hb5 HY4.out.1) (cell_keep hb5 HY4.out.2))
  have hzw5 : gj < W5.heap.size := Nat.lt_of_lt_of_le hzw4 hb5.size
  clear hu1 hv2 HPV HCU2 HV4 HBR hpl2 hcu3 hb5 q0 q1 q2 q3 q4 HC4 HB4 HY4 hzw4
  have HCP := Lib.hid (fun w9 hs hb hp => checkPlan_any j plan2 ja1 jc1 ja2 jc2 ap2 cp2 w9 hs LSj hb LBj hp hpl3 HCU3.out)
  have HPP := Lib.hid (fun h : (planE2 j plan2).2 = 0 => proves_vals (k0 := k0) (k1 := k1) h HKS.out.1 HKS.out.2)
  obtain ⟨p2, hp2⟩ : ∃ p2, planE2 j plan2 = p2 := ⟨_, rfl⟩
  rw [hp2] at HCP HPP
  obtain ⟨⟨pb, pl, ⟨x1, y1, x2, y2⟩⟩, E⟩ := p2
  clear hp2
  obtain ⟨q0, q1, q2, q3, q4⟩ := HC5.out
  go_upto_region 12 with (go_at_call 19; refine (HCP.out _ (HVS.out.keep HB5.out) (HVB.out.keep HB5.out) HPV2.out).mono ?_; rintro e w6 h; obtain ⟨rfl, hb⟩ := planPost2_out h; have HB6 := Lib.hid (HB5.out.trans (hb.mono HB5.out.size)); have HC6 := Lib.hid (HC5.out.keep hb hzw5); have HY6 := Lib.hid (And.intro (cell_keep hb HY5.out.1) (cell_keep hb HY5.out.2)); have HPV6 := Lib.hid (HPV2.out.keep hb); have hz6 := hb.size; clear hb h)
  refine gen_world (fun W7 => Below w6.heap.size w6 W7) (by repeat (first | (with_reducible assumption) | exact Below.refl _ _ | (refine Below.setCell ?_ (by first | omega | (simp; omega) | (simp; done)) _) | (refine Below.alloc ?_ (by first | omega | (simp; omega) | (simp; done)) _) | (refine Below.drew ?_))) ?_
  intro W7 hb7
  have HB7 := Lib.hid (HB6.out.trans (hb7.mono HB6.out.size))
  have HC7 := Lib.hid (HC6.out.keep hb7 (by omega))
  have HY7 := Lib.hid (And.intro (cell_keep hb7 HY6.out.1) (cell_keep hb7 HY6.out.2))
  have HPV7 := Lib.hid (HPV6.out.keep hb7)
  have hzw7 : gj < W7.heap.size := Nat.lt_of_lt_of_le (by omega) hb7.size
  clear q0 q1 q2 q3 q4 HC5 HC6 HB5 HB6 HY5 HY6 HPV2 HPV6 hz6 hzw5 hb7
  by_cases hE0 : E = 0
  · subst hE0
    obtain ⟨⟨a1, a2⟩, ⟨b1, b2⟩, m1, m2⟩ := HPP.out rfl
    have HAB := Lib.hid (fun w9 hs hb => areaBoundP_any j ja1 jc1 ja2 jc2 w9 hs LSj hb LBj)
    have HBD := Lib.hid (fun w9 hs hb => boundP_any j ja1 jc1 ja2 jc2 k0 k1 w9 hs LSj hb LBj)
    have HBB := Lib.hid (fun w9 hs hb => bestP_any j ja1 jc1 ja2 jc2 w9 hs LSj hb LBj)
    have HWI := Lib.hid (fun w9 hp => with_any plan2 ap2 cp2 w9 hp hpl3 HCU3.out)
    rw [a1] at HAB
    rw [b1] at HBD
    rw [m1] at HBB
    simp only [if_true] at HBB
    generalize areaBV j = va at *
    generalize bndV j k0 k1 = vb at *
    generalize max (areaV j) (bestM j).1 = vm at *
    generalize (((bestM j).2.1 : Nat) : Int) = r0 at *
    generalize (((bestM j).2.2 : Nat) : Int) = r1 at *
    generalize ((withN plan2 : Nat) : Int) = vw at *
    have g1 : vw ≥ va := a2
    have g2 : vw ≥ vb := b2
    have g3 : vw ≥ vm := m2
    clear a1 b1 m1 a2 b2 m2 HPP HCP
    obtain ⟨q0, q1, q2, q3, q4⟩ := HC7.out
    obtain ⟨y0, y1⟩ := HY7.out
    go_upto_region 15 with (go_at_call 9; refine (HAB.out _ (HVS.out.keep HB7.out) (HVB.out.keep HB7.out)).mono ?_; rintro e w8 ⟨rfl, hb⟩; have HB8 := Lib.hid (HB7.out.trans (hb.mono HB7.out.size)); have HC8 := Lib.hid (HC7.out.keep hb hzw7); have HY8 := Lib.hid (And.intro (cell_keep hb HY7.out.1) (cell_keep hb HY7.out.2)); have HPV8 := Lib.hid (HPV7.out.keep hb); have hzw8 := Nat.lt_of_lt_of_le hzw7 hb.size; clear hb)
    clear q0 q1 q2 q3 q4 y0 y1 HC7 HY7 HB7 hzw7 HPV7 HAB
    obtain ⟨q0, q1, q2, q3, q4⟩ := HC8.out
    obtain ⟨y0, y1⟩ := HY8.out
    go_upto_region 16 with (go_at_call 8; refine (HBD.out _ (HVS.out.keep HB8.out) (HVB.out.keep HB8.out)).mono ?_; rintro e w9 ⟨rfl, hb⟩; have HB9 := Lib.hid (HB8.out.trans (hb.mono HB8.out.size)); have HC9 := Lib.hid (HC8.out.keep hb hzw8); have HPV9 := Lib.hid (HPV8.out.keep hb); clear hb)
    clear q0 q1 q2 q3 q4 y0 y1 HC8 HY8 HB8 hzw8 HPV8 HBD
    obtain ⟨q0, q1, q2, q3, q4⟩ := HC9.out
    go_upto_region 17 with (go_at_call 10; refine (HBB.out _ (HVS.out.keep HB9.out) (HVB.out.keep HB9.out)).mono ?_; rintro e wa ⟨rfl, hb⟩; have HBa := Lib.hid (HB9.out.trans (hb.mono HB9.out.size)); have HPVa := Lib.hid (HPV9.out.keep hb); clear hb)
    refine gen_world (fun Wb => Below wa.heap.size wa Wb) (by repeat (first | (with_reducible assumption) | exact Below.refl _ _ | (refine Below.setCell ?_ (by first | omega | (simp; omega) | (simp; done)) _) | (refine Below.alloc ?_ (by first | omega | (simp; omega) | (simp; done)) _) | (refine Below.drew ?_))) ?_
    intro Wb hb8
    have HBb := Lib.hid (HBa.out.trans (hb8.mono HBa.out.size))
    have HPVb := Lib.hid (HPVa.out.keep hb8)
    clear q0 q1 q2 q3 q4 HC9 HB9 HPV9 HBB HBa HPVa hb8
    have tok1 : True := trivial
    have tok2 : True := trivial
    go_wp2_with (first
      | (go_at_call 20; have _t := tok1; refine (HWI.out _ HPVb.out).mono ?_; rintro e wc ⟨rfl, hb⟩; have HBc := Lib.hid (HBb.out.trans (hb.mono HBb.out.size)); have HPVc := Lib.hid (HPVb.out.keep hb); clear hb tok1 _t)
      | (go_at_call 20; have _t := tok2; refine (HWI.out _ HPVc.out).mono ?_; rintro e wd ⟨rfl, hb⟩; have HBd := Lib.hid (HBc.out.trans (hb.mono HBc.out.size)); have HPVd := Lib.hid (HPVc.out.keep hb); clear hb tok2 _t)
      | (go_at_call 20; refine (HWI.out _ HPVd.out).mono ?_; rintro e we ⟨rfl, hb⟩; have HBe := Lib.hid (HBd.out.trans (hb.mono HBd.out.size)); clear hb))
    go_ret
    exact ⟨ret_bool (by simp [g1, g2, g3]), HBe.out⟩
  · have hnE := bne_t5 hE0
    go_wp2_with fail
    go_ret
    exact ⟨ret_bool (by simp), HB7.out⟩
set_option maxRecDepth 100000 in
theorem cuttingProves_walks : Walks 4 Tryz.f4 := by
  intro H enc W base args ds p hval hA hlt
  rw [Tryz.params4] at hA hval
  obtain ⟨v0, vs0, d0, ds0, p0, q0, hargs, rfl, rfl, ⟨fu0, hf0⟩, r0⟩ := trodAll_cons hA
  obtain ⟨v1, vs1, d1, ds1, p1, q1, rfl, rfl, rfl, ⟨fu1, hf1⟩, r1⟩ := trodAll_cons r0
  obtain ⟨v2, vs2, d2, ds2, p2, q2, rfl, rfl, rfl, ⟨fu2, hf2⟩, r2⟩ := trodAll_cons r1
  obtain ⟨rfl, rfl, rfl⟩ := trodAll_nil r2
  obtain rfl : args = #[v0, v1, v2] := by cases args; simp_all
  obtain ⟨cs0, rfl, -⟩ := okWide_struct Tryz.underlying27 (hval 0 27 v0 rfl rfl)
  obtain ⟨j0, a0, c0, b0, d0, hc0, ⟨V0, C0, M0⟩, ⟨U0, D0, N0⟩, W0⟩ := Job.open_ hf0
  have hd0 : cs0 = #[.slice a0 j0.stock.length c0, .slice b0 j0.blanks.length d0, .int .i64 j0.trim.kerf, .int .i64 j0.trim.ends, .int .i64 j0.trim.sides] := by
    cases cs0; simpa [Value.cells] using hc0
  subst hd0
  obtain ⟨_, _, _, rfl⟩ := okWide_slice Tryz.underlying52 (hval 1 52 v1 rfl rfl)
  obtain ⟨a1, plan, c1, e1, V1, C1, M1⟩ := Layouts.open_ hf1
  rw [e1]
  obtain ⟨cs2, rfl, -⟩ := okWide_pair Tryz.underlying28 (hval 2 28 v2 rfl rfl)
  obtain ⟨p2, q2, hc2, W2⟩ := pair_open hf2
  have hd2 : cs2 = #[.int .i64 p2, .int .i64 q2] := by
    cases cs2; simpa [Value.cells] using hc2
  subst hd2
  exact walkCuttingProves j0 a0 c0 b0 d0 a1 plan c1 p2 q2 W V0 (by unfold maxLen at M0; omega) C0 U0 (by unfold maxLen at N0; omega) D0 W0 V1 (by unfold maxLen at M1; omega) C1 W2

set_option maxRecDepth 100000 in
theorem cuttingProves_holds : Rows.CuttingProvesSaid :=
  law_holds (s := Rows.cuttingProvesSpec) (c := Rows.cuttingProvesRow) 4 Tryz.f4 rfl
    (fun H ds h => by match ds, h with | [_, _, _], _ => rfl) (by kernel_rfl) (by kernel_rfl)
    rfl rfl rfl rfl rfl rfl rfl ⟨rfl, rfl, rfl, rfl, rfl⟩ rfl rfl rfl rfl rfl rfl rfl rfl rfl rfl (fun _ _ => rfl) (by kernel_rfl) Tryz.func4
    cuttingProves_closed (of_decide_eq_true (by kernel_rfl)) (by unfold Func.isWrapper; first | (rw [if_pos (by decide +kernel)]; kernel_rfl) | (rw [if_neg (by decide +kernel)]; exact ⟨rfl, rfl⟩)) (by kernel_rfl)
    (fun H enc os => ChangeSpec.witness6 (enc := enc) (C := Tryz.checked) false ⟨#[], #[.agg #[.slice none 0 0, .slice none 0 0, .int .i64 0, .int .i64 0, .int .i64 0], .slice none 0 0, .agg #[.int .i64 0, .int .i64 0]], []⟩ 8 (by kernel_rfl) (by kernel_rfl) (by kernel_rfl) (by kernel_rfl))
    cuttingProves_walks
end Go.Proofs.YtpaindkfbgoogaaGreat
