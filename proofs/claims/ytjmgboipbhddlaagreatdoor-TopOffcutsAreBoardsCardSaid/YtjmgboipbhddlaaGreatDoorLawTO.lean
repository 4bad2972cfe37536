/- TopOffcutsAreBoards returns true for every input: the offcuts of the greedy plan are a stock that chapter 2 accepts, they are no larger than the waste, and have no more defects than their boards. No condition. -/
import Derived.Test.YtjmgboipbhddlaaGreatDoorOB2
import Derived.Test.YtjmgboipbhddlaaGreatDoorTO1
import Derived.Test.YtjmgboipbhddlaaGreatDoorAA8
import Derived.Test.YtjmgboipbhddlaaGreatDoorFrameC
import Derived.Test.YtjmgboipbhddlaaGreatDoorTie
import Derived.Test.YtjmgboipbhddlaaGreatDoorCards
import Derived.Test.YtjmgboipbhddlaaGreatDoorFactsTopOffcutsAreBoards
set_option linter.unusedVariables false
set_option linter.unusedSimpArgs false
namespace Go.Proofs.YtjmgboipbhddlaaGreatDoor
open Go Go.ChangeShapes Go.WideShapes Go.ChangeAt Go.RowKit

theorem covA_le {ds : List Rect} {r : Rect} (h : r.x1 ≤ r.x2 ∧ r.y1 ≤ r.y2) : covA ds r ≤ (r.x2 - r.x1) * (r.y2 - r.y1) := by
  unfold covA
  rw [← sumR_const (g := fun _ => r.y2 - r.y1) h.1 fun _ _ _ => rfl]
  refine sumR_mono fun x _ _ => ?_
  refine Int.le_trans (sumR_mono (g' := fun _ => 1) fun y _ _ => by show indB _ ≤ 1; cases covC ds x y <;> decide) (Int.le_of_eq ?_)
  rw [sumR_const h.2 fun _ _ _ => rfl, Int.mul_one]
theorem refArea_bd {b : Board} (h : boardErr b = 0) : (0 ≤ refArea b ∧ refArea b ≤ 60000000000) ∧ (0 ≤ arB b ∧ arB b ≤ 60000000000) := by
  have hb := boardErr_ok h
  have hd : DefsIn b := ⟨hb.2.1.1.1, hb.2.1.2.1.1, hb.2.2.2⟩
  rw [refArea_cov hd]
  have h1 := covA_le (ds := b.defects) (r := ⟨0, 0, b.length, b.width⟩) ⟨by simp only; omega, by simp only; omega⟩
  simp only [Int.sub_zero] at h1
  have h2 : b.length * b.width ≤ 600000 * 100000 := Int.mul_le_mul (by omega) (by omega) (by omega) (by omega)
  have h3 : 0 ≤ b.length * b.width := Int.mul_nonneg (by omega) (by omega)
  exact ⟨⟨covA_nn _ _, by omega⟩, h3, by unfold arB; omega⟩
theorem sumL_bd {g : Board → Int} : ∀ {l : List Board}, (∀ b ∈ l, 0 ≤ g b ∧ g b ≤ 60000000000) → 0 ≤ sumL g l ∧ sumL g l ≤ 60000000000 * l.length
  | [], _ => by simp [sumL]
  | b :: l, h => by
    have h1 := h b (by simp)
    have h2 := sumL_bd (g := g) (l := l) fun x hx => h x (List.mem_cons_of_mem _ hx)
    have e : sumL g (b :: l) = g b + sumL g l := by unfold sumL; simp
    rw [e, List.length_cons]
    omega
theorem sumL_step {g : Board → Int} {l : List Board} {k : Nat} (hk : k < l.length) : sumL g (l.take (k + 1)) = sumL g (l.take k) + g l[k] := by rw [List.take_succ_eq_append_getElem hk, sumL_snoc]
theorem sumL_take_bd {g : Board → Int} {l : List Board} (h : ∀ b ∈ l, 0 ≤ g b ∧ g b ≤ 60000000000) {k : Nat} (hk : k ≤ l.length) : 0 ≤ sumL g (l.take k) ∧ sumL g (l.take k) ≤ 60000000000 * k := by
  have := sumL_bd (g := g) (l := l.take k) fun b hb => h b (List.mem_of_mem_take hb)
  rw [List.length_take, Nat.min_eq_left hk] at this
  exact this
/-- What the offcuts of an accepted plan are. -/
structure OffFacts (j : Job) (n0 n1 : Int) (o : List Board) (waste : Int) : Prop where
  stock : checkStockE (woodsTo j.stock j.stock.length) o = 0
  each : ∀ i (hi : i < o.length), boardErr o[i] = 0 ∧ (n0 ≤ o[i].length ∧ n1 ≤ o[i].width)
  ar : sumL arB o ≤ waste
  cov : sumL refArea o ≤ sumL refArea j.stock
  len : o.length ≤ 100
theorem off_facts {j : Job} {plan : List Layout} {n0 n1 : Int} (hp : (planE2 j plan).2 = 0) (h40 : j.stock.length ≤ 40) (hn0 : 1 ≤ n0 ∧ n0 ≤ 600000) (hn1 : 1 ≤ n1 ∧ n1 ≤ 600000) (h : offE2 j plan n0 n1 = 0) : OffFacts j n0 n1 (offL2 j plan n0 n1) (areasM j plan).waste := by
  obtain ⟨hE, hlay, -⟩ := plan_parts hp
  have hok := layGo_ok hlay
  have hl : (offAll j plan n0 n1).length ≤ 100 := by
    unfold offE2 at h
    rw [if_neg (fun e => e ⟨hn0, hn1⟩)] at h
    split at h
    · cases h
    · omega
  have e : offL2 j plan n0 n1 = offAll j plan n0 n1 := by unfold offL2; rw [if_pos h]
  have hi := offPlan_is hE (n0 := n0) (n1 := n1) ⟨hn0.1, hn1.1⟩ hok plan.length (Nat.le_refl _)
  rw [e]
  exact ⟨off_stock hE h40 hi hl, fun i hi' => ⟨(hi i hi').ok (by omega), (hi i hi').l0, (hi i hi').l1⟩, offPlan_waste hE hok plan.length (Nat.le_refl _), plan_cov hE hlay ⟨hn0.1, hn1.1⟩, hl⟩
theorem off_code {j : Job} {plan : List Layout} {n0 n1 : Int} (hn0 : 1 ≤ n0 ∧ n0 ≤ 600000) (hn1 : 1 ≤ n1 ∧ n1 ≤ 600000) : offE2 j plan n0 n1 = 0 ∨ offE2 j plan n0 n1 = 8 := by
  unfold offE2
  rw [if_neg (fun e => e ⟨hn0, hn1⟩)]
  split
  · exact .inr rfl
  · exact .inl rfl
set_option maxRecDepth 100000 in
set_option maxHeartbeats 16000000 in
theorem walkTopOffcutsAreBoards (j : Job) (ja1 : Option Addr) (jc1 : Nat) (ja2 : Option Addr) (jc2 : Nat) (least0 least1 : Int) (w : World) (VSj : Boards.V w ja1 j.stock) (LSj : j.stock.length ≤ 9223372036854775807) (CSj : j.stock.length ≤ jc1) (VBj : Blanks.V w ja2 j.blanks) (LBj : j.blanks.length ≤ 9223372036854775807) (CBj : j.blanks.length ≤ jc2) (WTj : j.trim.wf) (Wleast : (-9223372036854775808 ≤ least0 ∧ least0 ≤ 9223372036854775807) ∧ (-9223372036854775808 ≤ least1 ∧ least1 ≤ 9223372036854775807)) (hT : TabP w) :
    Calls Tryz.prog 4 #[.agg #[.slice ja1 j.stock.length jc1, .slice ja2 j.blanks.length jc2, .int .i64 j.trim.kerf, .int .i64 j.trim.ends, .int .i64 j.trim.sides], .agg #[.int .i64 least0, .int .i64 least1]] w fun e w' => e = .returned (.bool true) ∧ Below w.heap.size w w' := by
  have HVS := Lib.hid VSj
  have HVB := Lib.hid VBj
  have HTB := Lib.hid hT
  obtain ⟨AD, CD, hSC⟩ := stock_ch VSj
  have HSC := Lib.hid hSC
  clear VSj VBj hT hSC
  go_enter Tryz.func4, Tryz.ntmps4
  go_upto_region 1 with fail
  refine gen_world (fun W => JB W w.heap.size j ja1 jc1 ja2 jc2 ∧ (W.cell? ⟨w.heap.size + 1, 0, none⟩ = some (.int .i64 least0) ∧ W.cell? ⟨w.heap.size + 1, 1, none⟩ = some (.int .i64 least1)) ∧ Below w.heap.size w W ∧ w.heap.size + 1 < W.heap.size) ⟨⟨by simp [go_sem], by simp [go_sem], by simp [go_sem], by simp [go_sem], by simp [go_sem]⟩, ⟨by simp [go_sem], by simp [go_sem]⟩, by repeat (first | (with_reducible assumption) | exact Below.refl _ _ | (refine Below.setCell ?_ (by first | omega | (simp; omega) | (simp; done)) _) | (refine Below.alloc ?_ (by first | omega | (simp; omega) | (simp; done)) _) | (refine Below.drew ?_)), by simp⟩ ?_
  rintro W ⟨hC, hY, hbW, hzW⟩
  obtain ⟨gj, hgj⟩ : ∃ g, g = w.heap.size := ⟨_, rfl⟩
  obtain ⟨gk, hgk⟩ : ∃ g, g = w.heap.size + 1 := ⟨_, rfl⟩
  rw [← hgk] at hY hzW
  rw [← hgj] at hC
  rw [← hgk, ← hgj]
  have hzG : gj < W.heap.size := by omega
  have HC := Lib.hid hC
  have HY := Lib.hid hY
  have HBW := Lib.hid hbW
  clear hC hbW hY hgj hgk hzW
  go_upto_region 3 with (go_at_call 14; refine (sawn_any _).mono ?_; rintro e w1 ⟨rfl, hb1⟩; have HB1 := Lib.hid hb1; clear hb1)
  have HC1 := Lib.hid (HC.out.keep HB1.out hzG)
  have HY1 := Lib.hid (And.intro (cell_keep HB1.out HY.out.1) (cell_keep HB1.out HY.out.2))
  have HBW1 := Lib.hid (HBW.out.trans (HB1.out.mono HBW.out.size))
  have hzw1 : gj < w1.heap.size := Nat.lt_of_lt_of_le hzG HB1.out.size
  clear HC HBW HB1 hzG HY
  obtain ⟨k0, k1, k2, k3, k4⟩ := HC1.out
  obtain ⟨y0, y1⟩ := HY1.out
  cases hsm : smallB j
  · have HSM := Lib.hid hsm
    clear hsm
    go_wp2_with (go_at_call 6; refine (small_is j ja1 jc1 ja2 jc2 _ HSM.out (HVS.out.keep HBW1.out) LSj (HVB.out.keep HBW1.out) LBj).mono ?_; rintro e w2 ⟨rfl, hb⟩; have HB2 := Lib.hid (HBW1.out.trans (hb.mono HBW1.out.size)); clear hb)
    go_ret
    exact ⟨rfl, HB2.out⟩
  have HSM := Lib.hid hsm
  clear hsm
  obtain ⟨EJ, hEJ⟩ : ∃ E, jobE j = E := ⟨_, rfl⟩
  have HE := Lib.hid hEJ
  clear hEJ
  by_cases hE0 : ¬ EJ = 0
  · have hne := bne_t5 hE0
    clear hE0 y0 y1
    go_wp2_with (first
      | (go_at_call 6; refine (small_is j ja1 jc1 ja2 jc2 _ HSM.out (HVS.out.keep HBW1.out) LSj (HVB.out.keep HBW1.out) LBj).mono ?_; rintro e w2 ⟨rfl, hb⟩; have HB2 := Lib.hid (HBW1.out.trans (hb.mono HBW1.out.size)); have HC2 := Lib.hid (HC1.out.keep hb hzw1); have HY2 := Lib.hid (And.intro (cell_keep hb HY1.out.1) (cell_keep hb HY1.out.2)); have hz2 := hb.size; have y0 := HY2.out.1; have y1 := HY2.out.2; have k0 := HC2.out.s; have k1 := HC2.out.b; have k2 := HC2.out.k; have k3 := HC2.out.e; have k4 := HC2.out.d; clear hb)
      | (go_at_call 15; refine (refCheckJob_any j ja1 jc1 ja2 jc2 _ (HVS.out.keep HB2.out) LSj (HVB.out.keep HB2.out) LBj).mono ?_; rw [HE.out]; rintro e w3 ⟨rfl, hb⟩; have HB3 := Lib.hid (HB2.out.trans (hb.mono HB2.out.size)); have HC3 := Lib.hid (HC2.out.keep hb (by omega)); have HY3 := Lib.hid (And.intro (cell_keep hb HY2.out.1) (cell_keep hb HY2.out.2)); have hz3 := hb.size; have y0 := HY3.out.1; have y1 := HY3.out.2; clear hb))
    go_ret
    exact ⟨rfl, HB3.out⟩
  obtain rfl : EJ = 0 := Decidable.not_not.1 hE0
  clear hE0
  by_cases hk0 : ¬ (1 ≤ least0 ∧ least0 ≤ 600000)
  · have HW1 := Lib.hid (withinB_out hk0)
    clear y0 y1
    go_wp2_with (first
      | (go_at_call 6; refine (small_is j ja1 jc1 ja2 jc2 _ HSM.out (HVS.out.keep HBW1.out) LSj (HVB.out.keep HBW1.out) LBj).mono ?_; rintro e w2 ⟨rfl, hb⟩; have HB2 := Lib.hid (HBW1.out.trans (hb.mono HBW1.out.size)); have HC2 := Lib.hid (HC1.out.keep hb hzw1); have HY2 := Lib.hid (And.intro (cell_keep hb HY1.out.1) (cell_keep hb HY1.out.2)); have hz2 := hb.size; have y0 := HY2.out.1; have y1 := HY2.out.2; have k0 := HC2.out.s; have k1 := HC2.out.b; have k2 := HC2.out.k; have k3 := HC2.out.e; have k4 := HC2.out.d; clear hb)
      | (go_at_call 15; refine (refCheckJob_any j ja1 jc1 ja2 jc2 _ (HVS.out.keep HB2.out) LSj (HVB.out.keep HB2.out) LBj).mono ?_; rw [HE.out]; rintro e w3 ⟨rfl, hb⟩; have HB3 := Lib.hid (HB2.out.trans (hb.mono HB2.out.size)); have HC3 := Lib.hid (HC2.out.keep hb (by omega)); have HY3 := Lib.hid (And.intro (cell_keep hb HY2.out.1) (cell_keep hb HY2.out.2)); have hz3 := hb.size; have y0 := HY3.out.1; have y1 := HY3.out.2; clear hb)
      | (go_at_call 16; refine (baseWithin_any _ _ _ _).mono ?_; rintro e w' ⟨rfl, rfl⟩; rw [HW1.out]))
    go_ret
    exact ⟨rfl, HB3.out⟩
  have hk0 := Decidable.not_not.1 hk0
  have HW1 := Lib.hid (withinB_in hk0)
  by_cases hk1 : ¬ (1 ≤ least1 ∧ least1 ≤ 600000)
  · have HW2 := Lib.hid (withinB_out hk1)
    clear y0 y1
    go_wp2_with (first
      | (go_at_call 6; refine (small_is j ja1 jc1 ja2 jc2 _ HSM.out (HVS.out.keep HBW1.out) LSj (HVB.out.keep HBW1.out) LBj).mono ?_; rintro e w2 ⟨rfl, hb⟩; have HB2 := Lib.hid (HBW1.out.trans (hb.mono HBW1.out.size)); have HC2 := Lib.hid (HC1.out.keep hb hzw1); have HY2 := Lib.hid (And.intro (cell_keep hb HY1.out.1) (cell_keep hb HY1.out.2)); have hz2 := hb.size; have y0 := HY2.out.1; have y1 := HY2.out.2; have k0 := HC2.out.s; have k1 := HC2.out.b; have k2 := HC2.out.k; have k3 := HC2.out.e; have k4 := HC2.out.d; clear hb)
      | (go_at_call 15; refine (refCheckJob_any j ja1 jc1 ja2 jc2 _ (HVS.out.keep HB2.out) LSj (HVB.out.keep HB2.out) LBj).mono ?_; rw [HE.out]; rintro e w3 ⟨rfl, hb⟩; have HB3 := Lib.hid (HB2.out.trans (hb.mono HB2.out.size)); have HC3 := Lib.hid (HC2.out.keep hb (by omega)); have HY3 := Lib.hid (And.intro (cell_keep hb HY2.out.1) (cell_keep hb HY2.out.2)); have hz3 := hb.size; have y0 := HY3.out.1; have y1 := HY3.out.2; clear hb)
      | (go_at_call 16; refine (baseWithin_any _ _ _ _).mono ?_; rintro e w' ⟨rfl, rfl⟩; (first | rw [HW1.out] | rw [HW2.out])))
    go_ret
    exact ⟨rfl, HB3.out⟩
  have hk1 := Decidable.not_not.1 hk1
  have HW2 := Lib.hid (withinB_in hk1)
  have HKS := Lib.hid (And.intro hk0 hk1)
  clear y0 y1 hk0 hk1
  go_upto_region 5 with (first
    | (go_at_call 6; refine (small_is j ja1 jc1 ja2 jc2 _ HSM.out (HVS.out.keep HBW1.out) LSj (HVB.out.keep HBW1.out) LBj).mono ?_; rintro e w2 ⟨rfl, hb⟩; have HB2 := Lib.hid (HBW1.out.trans (hb.mono HBW1.out.size)); have HC2 := Lib.hid (HC1.out.keep hb hzw1); have HY2 := Lib.hid (And.intro (cell_keep hb HY1.out.1) (cell_keep hb HY1.out.2)); have hz2 := hb.size; have y0 := HY2.out.1; have y1 := HY2.out.2; have k0 := HC2.out.s; have k1 := HC2.out.b; have k2 := HC2.out.k; have k3 := HC2.out.e; have k4 := HC2.out.d; clear hb)
    | (go_at_call 15; refine (refCheckJob_any j ja1 jc1 ja2 jc2 _ (HVS.out.keep HB2.out) LSj (HVB.out.keep HB2.out) LBj).mono ?_; rw [HE.out]; rintro e w3 ⟨rfl, hb⟩; have HB3 := Lib.hid (HB2.out.trans (hb.mono HB2.out.size)); have HC3 := Lib.hid (HC2.out.keep hb (by omega)); have HY3 := Lib.hid (And.intro (cell_keep hb HY2.out.1) (cell_keep hb HY2.out.2)); have hz3 := hb.size; have y0 := HY3.out.1; have y1 := HY3.out.2; clear hb)
    | (go_at_call 16; refine (baseWithin_any _ _ _ _).mono ?_; rintro e w' ⟨rfl, rfl⟩; (first | rw [HW1.out] | rw [HW2.out])))
  have hzw3 : gj < w3.heap.size := by omega
  clear k0 k1 k2 k3 k4 HC1 HBW1 HB2 HC2 hz2 hz3 hzw1 HY1 HY2 HW1 HW2 y0 y1
  obtain ⟨k0, k1, k2, k3, k4⟩ := HC3.out
  obtain ⟨q, hq⟩ : ∃ q, planE j = q := ⟨_, rfl⟩
  have HX := Lib.hid (fun w9 hs hb => greedyX_any j ja1 jc1 ja2 jc2 w9 hs LSj hb LBj (small_few HSM.out))
  rw [hq] at HX
  have HQ := Lib.hid ((planE_ok HE.out).symm.trans hq)
  have HCD := Lib.hid (show q.2 = 0 ∨ q.2 = 12 by rw [← HQ.out]; exact greedy_code HSM.out HE.out)
  clear hq
  obtain ⟨ql, qe⟩ := q
  go_upto_region 6 with (go_at_call 17; refine (HX.out _ (HVS.out.keep HB3.out) (HVB.out.keep HB3.out)).mono ?_; rintro e w4 ⟨a3, c3, rfl, hv, hc3, hm3, hb⟩; have HV4 := Lib.hid hv; have HB4 := Lib.hid (HB3.out.trans (hb.mono HB3.out.size)); have HC4 := Lib.hid (HC3.out.keep hb hzw3); have HY4 := Lib.hid (And.intro (cell_keep hb HY3.out.1) (cell_keep hb HY3.out.2)); have hz4 := hb.size; clear hv hb hc3 hm3)
  have hzw4 : gj < w4.heap.size := by omega
  clear k0 k1 k2 k3 k4 HC3 HB3 hz4 hzw3 HX HY3
  by_cases hqe : ¬ qe = 0
  · have h12 : qe = 12 := by rcases HCD.out with h | h; exact absurd h hqe; exact h
    subst h12
    clear hqe
    go_wp2_with fail
    go_ret
    exact ⟨rfl, HB4.out⟩
  obtain rfl : qe = 0 := Decidable.not_not.1 hqe
  clear hqe HCD
  obtain ⟨hpl, hcu, hpz⟩ := greedy_plan HE.out HQ.out
  have hlen4 : ql.length = (planL ql).length := by simp [planL]
  have HLEN := Lib.hid hlen4
  have HPV := Lib.hid (show Layouts.V w4 a3 (planL ql) from HV4.out)
  have HAR := Lib.hid (fun w9 hs hb hp => areasOf_any j (planL ql) ja1 jc1 ja2 jc2 a3 c3 w9 hs LSj hb LBj hp hpl hcu)
  have HOF := Lib.hid (fun w9 hs hb hp hT => offcuts_any j (planL ql) ja1 jc1 ja2 jc2 a3 c3 least0 least1 w9 hs LSj hb LBj hp hpl hcu hT)
  have e1 : areasF j (planL ql) = areasM j (planL ql) := by unfold areasF; rw [if_pos hpz]
  have e2 : offLP j (planL ql) least0 least1 = offL2 j (planL ql) least0 least1 := by unfold offLP; rw [if_pos hpz]
  have e3 : offEP j (planL ql) least0 least1 = offE2 j (planL ql) least0 least1 := by unfold offEP; rw [if_pos hpz]
  have hs4 := (small_bd HSM.out HE.out).1
  have HFA := Lib.hid (fun h => off_facts (n0 := least0) (n1 := least1) hpz (by omega) HKS.out.1 HKS.out.2 h)
  have HCD := Lib.hid (off_code (j := j) (plan := planL ql) HKS.out.1 HKS.out.2)
  rw [e1] at HAR
  rw [e2, e3] at HOF
  rw [hpz] at HAR
  unfold arsV at HAR
  generalize planL ql = plan at *
  generalize areasM j plan = A at *
  generalize offL2 j plan least0 least1 = L at *
  generalize offE2 j plan least0 least1 = F at *
  clear hcu hpz hlen4 HV4 e1 e2 e3
  obtain ⟨k0, k1, k2, k3, k4⟩ := HC4.out
  obtain ⟨y0, y1⟩ := HY4.out
  go_upto_region 9 with (go_at_call 9; (try simp only [HLEN.out]); refine (HOF.out _ (HVS.out.keep HB4.out) (HVB.out.keep HB4.out) HPV.out (tab_keep HTB.out HB4.out)).mono ?_; rintro e w6 ⟨a6, c6, rfl, hv, hc6, hb⟩; have HV6 := Lib.hid hv; have HB46 := Lib.hid hb; clear hb hv hc6)
  have HB6 := Lib.hid (HB4.out.trans (HB46.out.mono HB4.out.size))
  have HC6 := Lib.hid (HC4.out.keep HB46.out hzw4)
  have HY6 := Lib.hid (And.intro (cell_keep HB46.out HY4.out.1) (cell_keep HB46.out HY4.out.2))
  have HPV6 := Lib.hid (HPV.out.keep HB46.out)
  have hzw6 : gj < w6.heap.size := Nat.lt_of_lt_of_le hzw4 HB46.out.size
  clear k0 k1 k2 k3 k4 y0 y1 HC4 HY4 HB46 hzw4 HOF HPV HB4
  obtain ⟨k0, k1, k2, k3, k4⟩ := HC6.out
  go_upto_region 10 with (go_at_call 8; (try simp only [HLEN.out]); refine (HAR.out _ (HVS.out.keep HB6.out) (HVB.out.keep HB6.out) HPV6.out).mono ?_; rintro e w7 ⟨rfl, hb⟩; have HB67 := Lib.hid hb; clear hb)
  refine gen_world (fun W5 => ArsO W5 w7.heap.size A ∧ Below w7.heap.size w7 W5) ⟨⟨by simp [go_sem], by simp [go_sem], by simp [go_sem], by simp [go_sem], by simp [go_sem], by simp [go_sem], by simp [go_sem], by simp [go_sem]⟩, by repeat (first | (with_reducible assumption) | exact Below.refl _ _ | (refine Below.setCell ?_ (by first | omega | (simp; omega) | (simp; done)) _) | (refine Below.alloc ?_ (by first | omega | (simp; omega) | (simp; done)) _) | (refine Below.drew ?_))⟩ ?_
  rintro W7 ⟨ha7, hb7⟩
  have hb67 := HB67.out.trans (hb7.mono HB67.out.size)
  have HB7 := Lib.hid (HB6.out.trans (hb67.mono HB6.out.size))
  have HC7 := Lib.hid (HC6.out.keep hb67 hzw6)
  have HY7 := Lib.hid (And.intro (cell_keep hb67 HY6.out.1) (cell_keep hb67 HY6.out.2))
  have HV7 := Lib.hid (HV6.out.keep hb67)
  obtain ⟨g7, hg7⟩ : ∃ g, g = w7.heap.size := ⟨_, rfl⟩
  rw [← hg7] at ha7 ⊢
  have HA7 := Lib.hid ha7
  have hzw7 : gj < W7.heap.size := Nat.lt_of_lt_of_le hzw6 hb67.size
  clear k0 k1 k2 k3 k4 HC6 HY6 HV6 HPV6 HB67 hb7 hb67 ha7 hg7 hzw6 HAR HB6
  rcases HCD.out with hF | hF
  case inr =>
    subst hF
    clear HCD HFA
    go_wp2_with fail
    go_ret
    exact ⟨ret_bool (by simp), HB7.out⟩
  subst hF
  have HOX := Lib.hid (HFA.out rfl)
  have HWL := Lib.hid (show (woodsTo j.stock j.stock.length).length ≤ 9223372036854775807 by have := woods_len j.stock j.stock.length; omega)
  have HLS := Lib.hid (show j.stock.length ≤ 100 by omega)
  have hlL := HOX.out.len
  have HSK := Lib.hid HOX.out.stock
  have HWA := Lib.hid (fun w9 hs => woods_any j ja1 jc1 ja2 jc2 w9 hs HLS.out)
  generalize woodsTo j.stock j.stock.length = WD at *
  have HCS := Lib.hid (fun aw cw w9 hw hv => checkStockP_any aw WD cw a6 L c6 w9 hw HWL.out hv (by omega))
  rw [HSK.out] at HCS
  have HAB := Lib.hid (fun b (hb : b ∈ L) => show boardErr b = 0 from by obtain ⟨i, hi, rfl⟩ := List.getElem_of_mem hb; exact (HOX.out.each i hi).1)
  have HSB := Lib.hid (fun b (hb : b ∈ j.stock) => (jobE_parts HE.out).boards b hb)
  have HST := Lib.hid HOX.out.each
  have HAR := Lib.hid HOX.out.ar
  have HCV := Lib.hid HOX.out.cov
  clear HCD HFA HOX
  obtain ⟨k0, k1, k2, k3, k4⟩ := HC7.out
  go_wp2_with (first
    | (go_at_call 19; refine (HWA.out _ (HVS.out.keep HB7.out)).mono ?_; rintro e w8 ⟨aw, cw, rfl, hv, hb⟩; have HW8 := Lib.hid hv; have HB78 := Lib.hid hb; clear hv hb)
    | (go_at_call 18; refine (HCS.out aw cw _ HW8.out (HV7.out.keep HB78.out)).mono ?_; rintro e w9 ⟨rfl, hb⟩; have HB79 := Lib.hid (HB78.out.trans (hb.mono HB78.out.size)); clear hb))
  have HB9 := Lib.hid (HB7.out.trans (HB79.out.mono HB7.out.size))
  have HC9 := Lib.hid (HC7.out.keep HB79.out hzw7)
  have HY9 := Lib.hid (And.intro (cell_keep HB79.out HY7.out.1) (cell_keep HB79.out HY7.out.2))
  have HA9 := Lib.hid (HA7.out.keep HB79.out)
  have HV9 := Lib.hid (HV7.out.keep HB79.out)
  have hzw9 : gj < w9.heap.size := Nat.lt_of_lt_of_le hzw7 HB79.out.size
  clear k0 k1 k2 k3 k4 HC7 HY7 HA7 HV7 HB7 HW8 HB78 HB79 hzw7 HWA HCS
  have HBD := Lib.hid (fun b hb => refArea_bd (HAB.out b hb))
  have HBS := Lib.hid (fun b hb => refArea_bd (HSB.out b hb))
  go_loopw [10, 11, 13] (fun av bv iv wr => ∃ k : Nat, k ≤ L.length ∧ iv = .int .i64 k ∧ av = .int .i64 (sumL arB (L.take k)) ∧ bv = .int .i64 (sumL refArea (L.take k)) ∧ Below w9.heap.size w9 wr) (fun _ _ iv _ => L.length - (intOf iv).toNat)
  case atStart => exact ⟨0, Nat.zero_le _, rfl, rfl, rfl, Below.refl _ _⟩
  case round =>
    obtain ⟨k, hk, rfl, rfl, rfl, hbr⟩ := hrel
    obtain ⟨wo, rfl⟩ : ∃ wo : World, wo = wr := ⟨_, rfl⟩
    have HBR := Lib.hid hbr
    have HBO := Lib.hid (HB9.out.trans (hbr.mono HB9.out.size))
    have HCO := Lib.hid (HC9.out.keep hbr hzw9)
    have HYO := Lib.hid (And.intro (cell_keep hbr HY9.out.1) (cell_keep hbr HY9.out.2))
    have HAO := Lib.hid (HA9.out.keep hbr)
    have HVO := Lib.hid (HV9.out.keep hbr)
    have hzo : gj < wo.heap.size := Nat.lt_of_lt_of_le hzw9 hbr.size
    clear hbr
    have ha := sumL_take_bd (g := arB) (fun b hb => (HBD.out b hb).2) hk
    have hc := sumL_take_bd (g := refArea) (fun b hb => (HBD.out b hb).1) hk
    by_cases hlt : k < L.length
    · have hki : (k : Int) < (L.length : Int) := by omega
      have v1 : IntKind.i64.wrap ((k : Int) + 1) = (k : Int) + 1 := IntWalk.i64_in _ (by omega)
      obtain ⟨la, oa, hla, ad, cd, x0, x1, x2, x3, x4, x5, x6, x7, hr, hrc, hrm, hwf⟩ := HVO.out.at_ hlt
      subst hla
      have hmem := List.getElem_mem hlt
      obtain ⟨h0, hl0, hl1⟩ := HST.out k hlt
      have HS1 := Lib.hid (sumL_step (g := arB) hlt)
      have HS2 := Lib.hid (sumL_step (g := refArea) hlt)
      obtain ⟨hb1, hb2⟩ := HBD.out _ hmem
      have hrl : L[k].defects.length ≤ 9223372036854775807 := by unfold maxLen at hrm; omega
      have HA1 := Lib.hid (fun w' (h : Below wo.heap.size wo w') => areaP_is L[k] ad cd w' (hr.keep h) hrl hwf (v := arB L[k]) (e0 := 0) (by unfold areaV; rw [if_pos h0]; rfl) h0)
      have HD1 := Lib.hid (fun w' (h : Below wo.heap.size wo w') => defectiveP_is L[k] ad cd w' (hr.keep h) hrl hwf (v := refArea L[k]) (e0 := 0) (by unfold defV; rw [if_pos h0]) h0)
      have HX := Lib.hid (show CellsBd wo la (oa + k * 8) L[k] ad cd from ⟨x0, x1, x2, x3, x4, x5, x6, x7⟩)
      generalize L[k] = b at *
      obtain ⟨S1, hS1⟩ : ∃ S, sumL arB (L.take k) = S := ⟨_, rfl⟩
      obtain ⟨S2, hS2⟩ : ∃ S, sumL refArea (L.take k) = S := ⟨_, rfl⟩
      rw [hS1] at HS1 ha ⊢
      rw [hS2] at HS2 hc ⊢
      obtain ⟨M1, hM1⟩ : ∃ M, arB b = M := ⟨_, rfl⟩
      obtain ⟨M2, hM2⟩ : ∃ M, refArea b = M := ⟨_, rfl⟩
      rw [hM1] at HS1 hb2 HA1
      rw [hM2] at HS2 hb1 HD1
      have v2 : IntKind.i64.wrap (S1 + M1) = S1 + M1 := IntWalk.i64_in _ (by omega)
      have v3 : IntKind.i64.wrap (S2 + M2) = S2 + M2 := IntWalk.i64_in _ (by omega)
      clear hS1 hS2 hM1 hM2 h0 hr hrc hrm hwf hmem hrl ha hc hb1 hb2
      go_upto_region 19 with (go_at_call 20; refine (HA1.out _ (Below.refl _ _)).mono ?_; rintro e wa ⟨rfl, hb⟩; have HBa := Lib.hid hb; clear hb)
      clear x0 x1 x2 x3 x4 x5 x6 x7 HA1
      obtain ⟨x0, x1, x2, x3, x4, x5, x6, x7⟩ := HX.out.keep HBa.out
      go_upto_region 20 with (go_at_call 21; refine (HD1.out _ HBa.out).mono ?_; rintro e wb ⟨rfl, hb⟩; have HBb := Lib.hid (HBa.out.trans (hb.mono HBa.out.size)); clear hb)
      clear x0 x1 x2 x3 x4 x5 x6 x7 HD1
      obtain ⟨-, -, x2, x3, -, -, -, -⟩ := HX.out.keep HBb.out
      have y0 := cell_keep HBb.out HYO.out.1
      have y1 := cell_keep HBb.out HYO.out.2
      have dl0 : decide (b.length < least0) = false := decide_eq_false (by omega)
      have dl1 : decide (b.width < least1) = false := decide_eq_false (by omega)
      go_quiet (fail)
      go_wp2_with fail
      go_roundw
      case rel => exact ⟨k + 1, by omega, by go_num, by rw [HS1.out], by rw [HS2.out], HBR.out.trans ((below_drewN HBb.out _).mono HBR.out.size)⟩
      case measure => first | (simp [intOf]; done) | (simp [intOf]; omega)
    · obtain rfl : k = L.length := by omega
      have hki : ¬ ((L.length : Nat) : Int) < ((L.length : Nat) : Int) := by omega
      rw [List.take_length]
      have ha := sumL_bd (g := arB) (l := L) fun b hb => (HBD.out b hb).2
      have hc := sumL_bd (g := refArea) (l := L) fun b hb => (HBD.out b hb).1
      clear ha hc
      have har := HAR.out
      have hcv := HCV.out
      obtain ⟨S1, hS1⟩ : ∃ S, sumL arB L = S := ⟨_, rfl⟩
      obtain ⟨S2, hS2⟩ : ∃ S, sumL refArea L = S := ⟨_, rfl⟩
      rw [hS1] at har ⊢
      rw [hS2] at hcv ⊢
      have HCV2 := Lib.hid hcv
      have HAR2 := Lib.hid har
      obtain ⟨k0, k1, k2, k3, k4⟩ := HCO.out
      clear hS1 hS2 har hcv HAR HCV
      go_wp2_with fail
      clear k0 k1 k2 k3 k4
      go_loopw [12, 18] (fun cv iv wr => ∃ i : Nat, i ≤ j.stock.length ∧ iv = .int .i64 i ∧ cv = .int .i64 (sumL refArea (j.stock.take i)) ∧ Below wo.heap.size wo wr) (fun _ iv _ => j.stock.length - (intOf iv).toNat)
      case atStart => exact ⟨0, Nat.zero_le _, rfl, rfl, Below.refl _ _⟩
      case round =>
        obtain ⟨i, hi, rfl, rfl, hbi⟩ := hrel
        obtain ⟨wi, rfl⟩ : ∃ wi : World, wi = wr := ⟨_, rfl⟩
        have HBI := Lib.hid hbi
        have HCI := Lib.hid (HCO.out.keep hbi hzo)
        have hbW := HBO.out.trans (hbi.mono HBO.out.size)
        have hc := sumL_take_bd (g := refArea) (fun b hb => (HBS.out b hb).1) hi
        obtain ⟨k0, k1, k2, k3, k4⟩ := HCI.out
        by_cases hlt : i < j.stock.length
        · have hki : (i : Int) < (j.stock.length : Int) := by omega
          have v1 : IntKind.i64.wrap ((i : Int) + 1) = (i : Int) + 1 := IntWalk.i64_in _ (by omega)
          obtain ⟨la, oa, hla, ad, cd, x0, x1, x2, x3, x4, x5, x6, x7, hr, hrc, hrm, hwf⟩ := (HVS.out.keep hbW).at_ hlt
          subst hla
          have hmem := List.getElem_mem hlt
          have h0 := HSB.out _ hmem
          have HS2 := Lib.hid (sumL_step (g := refArea) hlt)
          obtain ⟨hb1, hb2⟩ := HBS.out _ hmem
          have hrl : j.stock[i].defects.length ≤ 9223372036854775807 := by unfold maxLen at hrm; omega
          have HD1 := Lib.hid (fun w' (h : Below wi.heap.size wi w') => defectiveP_is j.stock[i] ad cd w' (hr.keep h) hrl hwf (v := refArea j.stock[i]) (e0 := 0) (by unfold defV; rw [if_pos h0]) h0)
          generalize j.stock[i] = b at *
          obtain ⟨S3, hS3⟩ : ∃ S, sumL refArea (j.stock.take i) = S := ⟨_, rfl⟩
          rw [hS3] at HS2 hc ⊢
          obtain ⟨M2, hM2⟩ : ∃ M, refArea b = M := ⟨_, rfl⟩
          rw [hM2] at HS2 hb1 HD1
          have v3 : IntKind.i64.wrap (S3 + M2) = S3 + M2 := IntWalk.i64_in _ (by omega)
          clear hS3 hM2 h0 hr hrc hrm hwf hmem hrl hc hb1 hb2 hbi hbW
          go_wp2_with (go_at_call 21; refine (HD1.out _ (Below.refl _ _)).mono ?_; rintro e wa ⟨rfl, hb⟩; have HBa := Lib.hid hb; clear hb)
          go_roundw
          case rel => exact ⟨i + 1, by omega, by go_num, by rw [HS2.out], HBI.out.trans (HBa.out.mono HBI.out.size)⟩
          case measure => first | (simp [intOf]; done) | (simp [intOf]; omega)
        · obtain rfl : i = j.stock.length := by omega
          have hki : ¬ ((j.stock.length : Nat) : Int) < ((j.stock.length : Nat) : Int) := by omega
          have HBF := Lib.hid hbW
          obtain ⟨z0, z1, z2, z3, -, -, -, -⟩ := HAO.out.keep hbi
          rw [List.take_length]
          have g1 : S1 ≤ A.waste := HAR2.out
          have g2 : S2 ≤ sumL refArea j.stock := HCV2.out
          clear hbi hbW hc
          go_wp2_with fail
          go_ret
          exact ⟨ret_bool (by simp [g1, g2]), HBF.out⟩
set_option maxRecDepth 100000 in
theorem topOffcutsAreBoards_walks : WalksC 4 Tryz.f4 := by
  intro H enc W base args ds p hval hA hlt hT
  rw [Tryz.params4] at hA hval
  obtain ⟨v0, vs0, d0, ds0, p0, q0, hargs, rfl, rfl, ⟨fu0, hf0⟩, r0⟩ := trodAll_cons hA
  obtain ⟨v1, vs1, d1, ds1, p1, q1, rfl, rfl, rfl, ⟨fu1, hf1⟩, r1⟩ := trodAll_cons r0
  obtain ⟨rfl, rfl, rfl⟩ := trodAll_nil r1
  obtain rfl : args = #[v0, v1] := by cases args; simp_all
  obtain ⟨cs0, rfl, -⟩ := okWide_struct Tryz.underlying27 (hval 0 27 v0 rfl rfl)
  obtain ⟨j0, a0, c0, b0, d0, hc0, ⟨V0, C0, M0⟩, ⟨U0, D0, N0⟩, W0⟩ := Job.open_ hf0
  have hd0 : cs0 = #[.slice a0 j0.stock.length c0, .slice b0 j0.blanks.length d0, .int .i64 j0.trim.kerf, .int .i64 j0.trim.ends, .int .i64 j0.trim.sides] := by
    cases cs0; simpa [Value.cells] using hc0
  subst hd0
  obtain ⟨cs1, rfl, -⟩ := okWide_pair Tryz.underlying29 (hval 1 29 v1 rfl rfl)
  obtain ⟨p1, q1, hc1, W1⟩ := pair_open hf1
  have hd1 : cs1 = #[.int .i64 p1, .int .i64 q1] := by
    cases cs1; simpa [Value.cells] using hc1
  subst hd1
  exact walkTopOffcutsAreBoards j0 a0 c0 b0 d0 p1 q1 W V0 (by unfold maxLen at M0; omega) C0 U0 (by unfold maxLen at N0; omega) D0 W0 W1 hT

set_option maxRecDepth 100000 in
theorem topOffcutsAreBoards_row : Rows.TopOffcutsAreBoardsSaid :=
  card_row (s := Rows.topOffcutsAreBoardsSpec) (c := Rows.topOffcutsAreBoardsRow) 4 Tryz.f4 rfl
    (fun H ds h => by match ds, h with | [_, _], _ => rfl) (by kernel_rfl) (by kernel_rfl)
    rfl rfl rfl rfl rfl rfl rfl ⟨rfl, rfl, rfl, rfl, rfl⟩ rfl rfl rfl rfl rfl rfl rfl rfl rfl rfl (fun _ _ => rfl) (by kernel_rfl) Tryz.func4
    topOffcutsAreBoards_closed (of_decide_eq_true (by kernel_rfl)) (by unfold Func.isWrapper; first | (rw [if_pos (by decide +kernel)]; kernel_rfl) | (rw [if_neg (by decide +kernel)]; exact ⟨rfl, rfl⟩)) (by kernel_rfl)
    (fun H enc os => ChangeSpec.witness_shaped (enc := enc) (C := Tryz.checked) (os := os) (X := fun w _ => laidMetH Tryz.prog lawLaid w) false (World.doorLaid Tryz.prog 400 os) #[.agg #[.slice none 0 0, .slice none 0 0, .int .i64 0, .int .i64 0, .int .i64 0], .agg #[.int .i64 0, .int .i64 0]] 8 rfl (World.shaped_of_RefB (by kernel_rfl) (by kernel_rfl)) (by kernel_rfl) (by kernel_rfl) (by kernel_rfl) (door_met os _))
    topOffcutsAreBoards_walks
set_option maxRecDepth 100000 in
theorem topOffcutsAreBoards_holds : Rows.TopOffcutsAreBoardsCardSaid :=
  Claim7.holds_tied_plain_at .later [] [.data, .data, .data] true (true, "56f06f80f8c017e55461ee010f44ea57d6a0052d04aeab8f48784ca0642ef455") false
    topOffcutsAreBoards_row (fun _ h => by cases h) (by kernel_rfl) (fun _ h => by cases h) topOffcutsAreBoards_row_tie rfl ⟨rfl, rfl⟩ (by kernel_rfl) rfl
    (fun f fn hf hfn => by
      obtain rfl : f = 4 := Option.some.inj ((show Tryz.prog.funcNamed "spokeshave/spokeshavetop.TopOffcutsAreBoards" = some 4 by kernel_rfl).symm.trans hf) |>.symm
      obtain rfl : fn = Tryz.f4 := (Option.some.inj (Tryz.func4.symm.trans hfn)).symm
      refine ⟨by kernel_rfl, fun j t ht => ?_⟩
      have hall : (Tryz.f4.params.toList.all fun t => Tryz.prog.wantsStandIn t == false) = true := by kernel_rfl
      have hm : t ∈ Tryz.f4.params.toList := by
        have h1 := Array.getElem?_eq_some_iff.1 ht
        obtain ⟨h2, rfl⟩ := h1
        exact Array.mem_toList_iff.2 (Array.getElem_mem h2)
      have h3 := List.all_eq_true.1 hall t hm
      exact beq_iff_eq.1 h3)
    (by kernel_rfl)
end Go.Proofs.YtjmgboipbhddlaaGreatDoor
