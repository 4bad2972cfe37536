/- Brief plans; equal places. CuttingPlans returns true for every input: CheckPlan and Places return what the document specifies, for all jobs and plans. No condition. -/
import Derived.Test.YtdmoiepafkbefaaGreatA8
import Derived.Test.YtdmoiepafkbefaaGreatRR
import Derived.Test.YtdmoiepafkbefaaGreatJob7
import Derived.Test.YtdmoiepafkbefaaGreatPL9
import Derived.Test.YtdmoiepafkbefaaGreatFactsPlans
set_option linter.unusedVariables false
set_option linter.unusedSimpArgs false
namespace Go.Proofs.YtdmoiepafkbefaaGreat
open Go Go.RowKit

def briefsL (n : Nat) : Prop := ¬ (6 < n ∧ n ≤ 100) ∧ ¬ 110 < n
instance (n : Nat) : Decidable (briefsL n) := by unfold briefsL; infer_instance
def briefsB (plan : List Layout) : Bool := decide (briefsL plan.length) && plan.all fun l => briefB l.cuts.length
theorem briefs_len {plan : List Layout} (h : briefsB plan = true) : plan.length ≤ 110 ∧ ∀ l ∈ plan, l.cuts.length ≤ 420 := by
  unfold briefsB at h
  rw [Bool.and_eq_true, decide_eq_true_eq, List.all_eq_true] at h
  refine ⟨by have := h.1.2; omega, fun l hl => ?_⟩
  have := h.2 l hl
  unfold briefB at this
  simp only [Bool.or_eq_true, Bool.and_eq_true, decide_eq_true_eq] at this
  omega
theorem briefs_no {plan : List Layout} {k : Nat} (hk : k < plan.length) (h : briefB plan[k].cuts.length = false) : briefsB plan = false := by
  unfold briefsB
  rw [Bool.and_eq_false_iff]
  right
  rw [List.all_eq_false]
  exact ⟨plan[k], List.getElem_mem hk, by simp [h]⟩
theorem briefs_yes {plan : List Layout} (h0 : briefsL plan.length) (h : ∀ i (hi : i < plan.length), i < plan.length → briefB plan[i].cuts.length = true) : briefsB plan = true := by
  unfold briefsB
  rw [Bool.and_eq_true, decide_eq_true_eq, List.all_eq_true]
  refine ⟨h0, fun l hl => ?_⟩
  obtain ⟨i, hi, rfl⟩ := List.getElem_of_mem hl
  exact h i hi hi
theorem briefs_big {plan : List Layout} (h : ¬ briefsL plan.length) : briefsB plan = false := by unfold briefsB; rw [decide_eq_false h]; rfl
set_option maxHeartbeats 2000000 in
theorem briefs_is (plan : List Layout) (ap : Option Addr) (cp : Nat) (w : World) {q : Bool} (hq : briefsB plan = q) (hp : Layouts.V w ap plan) (hl : plan.length ≤ 9223372036854775807) :
    Calls Tryz.prog 10 #[.slice ap plan.length cp] w fun e w' => e = .returned (.bool q) ∧ Below w.heap.size w w' := by
  have HQ := Lib.hid (show q = briefsB plan from hq.symm)
  have HPV := Lib.hid hp
  clear hq hp
  have hp : ((plan.length : Int) > 6 ∧ (plan.length : Int) ≤ 100 ∧ ¬ briefsL plan.length) ∨ ((plan.length : Int) > 6 ∧ ¬ (plan.length : Int) ≤ 100 ∧ (plan.length : Int) > 110 ∧ ¬ briefsL plan.length) ∨ ((plan.length : Int) > 6 ∧ ¬ (plan.length : Int) ≤ 100 ∧ ¬ (plan.length : Int) > 110 ∧ briefsL plan.length) ∨ (¬ (plan.length : Int) > 6 ∧ ¬ (plan.length : Int) > 110 ∧ briefsL plan.length) := by
    unfold briefsL
    omega
  have hloop : briefsL plan.length → True := fun _ => trivial
  rcases hp with ⟨h1, h2, h3⟩ | ⟨h1, h2, h3, h4⟩ | ⟨h1, h2, h3, h4⟩ | ⟨h1, h2, h4⟩
  case inl =>
    have HR := Lib.hid (briefs_big h3)
    go_enter Tryz.func10, Tryz.ntmps10
    go_wp2_with fail
    go_ret
    exact ⟨ret_bool (by rw [HQ.out, HR.out]), Below.refl _ _⟩
  case inr.inl =>
    have HR := Lib.hid (briefs_big h4)
    go_enter Tryz.func10, Tryz.ntmps10
    go_wp2_with fail
    go_ret
    exact ⟨ret_bool (by rw [HQ.out, HR.out]), Below.refl _ _⟩
  all_goals
    have HL := Lib.hid h4
    have HYY := Lib.hid (fun h => briefs_yes h4 h)
    clear h4
    go_enter Tryz.func10, Tryz.ntmps10
    go_wp2_with fail
    go_loopw [3] (fun iv wr => ∃ k : Nat, k ≤ plan.length ∧ iv = .int .i64 k ∧ Hid (∀ i (hi : i < plan.length), i < k → briefB plan[i].cuts.length = true) ∧ Below w.heap.size w wr) (fun iv _ => plan.length - (intOf iv).toNat)
    case atStart => exact ⟨0, Nat.zero_le _, rfl, Lib.hid (fun _ _ h => by omega), Below.refl _ _⟩
    case round =>
      obtain ⟨k, hk, rfl, HK, hbr⟩ := hrel
      have HB := Lib.hid hbr
      by_cases hlt : k < plan.length
      · have hki : (k : Int) < (plan.length : Int) := by omega
        have v1 : IntKind.i64.wrap ((k : Int) + 1) = (k : Int) + 1 := IntWalk.i64_in _ (by omega)
        obtain ⟨b, off, ha, ad, cd, m0, m1, -⟩ := (HPV.out.keep hbr).at_ hlt
        subst ha
        have HN := Lib.hid (fun h => briefs_no hlt h)
        have HS := Lib.hid (show briefB plan[k].cuts.length = true → ∀ i (hi : i < plan.length), i < k + 1 → briefB plan[i].cuts.length = true from fun h i hi hik => by
          by_cases e : i = k
          · subst e; exact h
          · exact HK.out i hi (by omega))
        clear hbr
        generalize plan[k].cuts.length = nc at *
        generalize plan[k].board = bd at *
        cases hbn : briefB nc
        · have HBN := Lib.hid hbn
          clear hbn HK
          go_wp2_with (go_at_call 43; refine (brief_is _ _ _ _ _ HBN.out).mono ?_; rintro e w2 ⟨rfl, hb⟩; have HB2 := Lib.hid (HB.out.trans (hb.mono HB.out.size)); clear hb)
          go_ret
          exact ⟨ret_bool (by rw [HQ.out, HN.out HBN.out]), HB2.out⟩
        · have HBN := Lib.hid hbn
          clear hbn HK
          go_wp2_with (go_at_call 43; refine (brief_is _ _ _ _ _ HBN.out).mono ?_; rintro e w2 ⟨rfl, hb⟩; have HB2 := Lib.hid (HB.out.trans (hb.mono HB.out.size)); clear hb)
          go_roundw
          case rel => exact ⟨k + 1, by omega, by go_num, Lib.hid (HS.out HBN.out), HB2.out⟩
          case measure => first | (simp [intOf]; done) | (simp [intOf]; omega)
      · obtain rfl : k = plan.length := by omega
        have hki : ¬ ((plan.length : Nat) : Int) < ((plan.length : Nat) : Int) := by omega
        go_wp2_with fail
        go_ret
        exact ⟨ret_bool (by rw [HQ.out, HYY.out (fun i hi _ => HK.out i hi hi)]), HB.out⟩

theorem placed_neq_same (p : Placed) (w : World) : (binOp .neq 35 (.agg #[.int .i64 p.board, .int .i64 p.blank, .int .i64 p.at_.x1, .int .i64 p.at_.y1, .int .i64 p.at_.x2, .int .i64 p.at_.y2]) (.agg #[.int .i64 p.board, .int .i64 p.blank, .int .i64 p.at_.x1, .int .i64 p.at_.y1, .int .i64 p.at_.x2, .int .i64 p.at_.y2])).run Tryz.prog w = .ok (.bool false) w := by
  simp [go_sem]
set_option maxRecDepth 100000 in
set_option maxHeartbeats 4000000 in
theorem samePlaces_same (a1 a2 : Option Addr) (l : List Placed) (n c1 c2 : Nat) (w : World) (hn : l.length = n) (hv1 : Placeds.V w a1 l) (hv2 : Placeds.V w a2 l) (hl : l.length ≤ 1000000) :
    Calls Tryz.prog 14 #[.slice a1 n c1, .slice a2 n c2] w fun e w' => e = .returned (.bool true) ∧ Below w.heap.size w w' := by
  subst hn
  have h0 : ((l.length : Int) != (l.length : Int)) = false := by simp
  go_enter Tryz.func14, Tryz.ntmps14
  go_wp2_with fail
  clear h0
  go_loopw [5] (fun iv wr => ∃ k : Nat, k ≤ l.length ∧ iv = .int .i64 k ∧ Below w.heap.size w wr) (fun iv _ => l.length - (intOf iv).toNat)
  case atStart => exact ⟨0, Nat.zero_le _, rfl, Below.refl _ _⟩
  case round =>
    obtain ⟨k, hk, rfl, hbr⟩ := hrel
    by_cases hlt : k < l.length
    · have hki : (k : Int) < (l.length : Int) := by omega
      have v1 : IntKind.i64.wrap ((k : Int) + 1) = (k : Int) + 1 := IntWalk.i64_in _ (by omega)
      obtain ⟨b, off, ha, ⟨x0, x1⟩, ⟨x2, x3⟩, x4, x5⟩ := (hv1.keep hbr).at_ hlt
      obtain ⟨b', off', ha', ⟨y0, y1⟩, ⟨y2, y3⟩, y4, y5⟩ := (hv2.keep hbr).at_ hlt
      subst ha ha'
      have hne := fun w => placed_neq_same l[k] w
      have hg1 := block_lt_of_cell x0
      have hg2 := block_lt_of_cell y0
      simp only at hg1 hg2
      generalize l[k] = p at *
      go_wp2_with fail
      go_quiet (fail)
      rename_i nq
      go_wp2_with fail
      go_roundw
      case rel => exact ⟨k + 1, by omega, by go_num, below_drewN hbr nq⟩
      case measure => first | (simp [intOf]; done) | (simp [intOf]; omega)
    · obtain rfl : k = l.length := by omega
      have hki : ¬ ((l.length : Nat) : Int) < ((l.length : Nat) : Int) := by omega
      go_wp2_with fail
      go_ret
      exact ⟨rfl, hbr⟩
end Go.Proofs.YtdmoiepafkbefaaGreat

set_option linter.unusedVariables false
set_option linter.unusedSimpArgs false
namespace Go.Proofs.YtdmoiepafkbefaaGreat
open Go Go.ChangeShapes Go.WideShapes Go.ChangeAt Go.RowKit

theorem planPost2_out {w w' : World} {pb pl x1 y1 x2 y2 E : Int} {e : Ending} (h : PlanPost2 w (⟨pb, pl, ⟨x1, y1, x2, y2⟩⟩, E) e w') : e = .returned (.tuple #[.agg #[.int .i64 pb, .int .i64 pl, .int .i64 x1, .int .i64 y1, .int .i64 x2, .int .i64 y2], .int .i64 E]) ∧ Below w.heap.size w w' := h
set_option maxRecDepth 100000 in
set_option maxHeartbeats 4000000 in
theorem walkCuttingPlans (j : Job) (ja1 : Option Addr) (jc1 : Nat) (ja2 : Option Addr) (jc2 : Nat) (plana : Option Addr) (plan : List Layout) (planc : Nat) (w : World) (VSj : Boards.V w ja1 j.stock) (LSj : j.stock.length ≤ 9223372036854775807) (CSj : j.stock.length ≤ jc1) (VBj : Blanks.V w ja2 j.blanks) (LBj : j.blanks.length ≤ 9223372036854775807) (CBj : j.blanks.length ≤ jc2) (WTj : j.trim.wf) (Vplan : Layouts.V w plana plan) (Lplan : plan.length ≤ 9223372036854775807) (Cplan : plan.length ≤ planc) :
    Calls Tryz.prog 3 #[.agg #[.slice ja1 j.stock.length jc1, .slice ja2 j.blanks.length jc2, .int .i64 j.trim.kerf, .int .i64 j.trim.ends, .int .i64 j.trim.sides], .slice plana plan.length planc] w fun e w' => e = .returned (.bool true) ∧ Below w.heap.size w w' := by
  have HVS := Lib.hid VSj
  have HVB := Lib.hid VBj
  have HPV := Lib.hid Vplan
  clear VSj VBj Vplan
  go_enter Tryz.func3, Tryz.ntmps3
  go_upto_region 1 with fail
  refine gen_world (fun W => JB W w.heap.size j ja1 jc1 ja2 jc2 ∧ Below w.heap.size w W ∧ w.heap.size < W.heap.size) ⟨⟨by simp, by simp, by simp, by simp, by simp⟩, (Below.refl _ _).alloc (Nat.le_refl _) _, by simp⟩ ?_
  rintro W ⟨hC, hbW, hzW⟩
  have HC := Lib.hid hC
  have HBW := Lib.hid hbW
  clear hC hbW
  go_upto_region 3 with (go_at_call 8; refine (awake_any _).mono ?_; rintro e w1 ⟨rfl, hb1⟩; have HB1 := Lib.hid hb1; clear hb1)
  have HC1 := Lib.hid (HC.out.keep HB1.out hzW)
  have HBW1 := Lib.hid (HBW.out.trans (HB1.out.mono (Nat.le_of_lt hzW)))
  have hzw1 : w.heap.size < w1.heap.size := Nat.lt_of_lt_of_le hzW HB1.out.size
  clear HC HBW HB1 hzW
  obtain ⟨k0, k1, k2, k3, k4⟩ := HC1.out
  cases hsm : smallB j
  · have HSM := Lib.hid hsm
    clear hsm
    go_wp2_with (go_at_call 9; refine (small_is j ja1 jc1 ja2 jc2 _ HSM.out (HVS.out.keep HBW1.out) LSj (HVB.out.keep HBW1.out) LBj).mono ?_; rintro e w2 ⟨rfl, hb⟩; have HB2 := Lib.hid (HBW1.out.trans (hb.mono HBW1.out.size)); clear hb)
    go_ret
    exact ⟨rfl, HB2.out⟩
  · have HSM := Lib.hid hsm
    clear hsm
    cases hbr : briefsB plan
    · have HBR := Lib.hid hbr
      clear hbr
      go_wp2_with (first
        | (go_at_call 9; refine (small_is j ja1 jc1 ja2 jc2 _ HSM.out (HVS.out.keep HBW1.out) LSj (HVB.out.keep HBW1.out) LBj).mono ?_; rintro e w2 ⟨rfl, hb⟩; have HB2 := Lib.hid (HBW1.out.trans (hb.mono HBW1.out.size)); clear hb)
        | (go_at_call 10; refine (briefs_is plan plana planc _ HBR.out (HPV.out.keep HB2.out) Lplan).mono ?_; rintro e w3 ⟨rfl, hb⟩; have HB3 := Lib.hid (HB2.out.trans (hb.mono HB2.out.size)); clear hb))
      go_ret
      exact ⟨rfl, HB3.out⟩
    · have HBR := Lib.hid hbr
      obtain ⟨hpl, hcu⟩ := briefs_len hbr
      have hpl2 : plan.length ≤ 1000 := by omega
      have hcu2 : ∀ l ∈ plan, l.cuts.length ≤ 100000 := fun l hl => by have := hcu l hl; omega
      have HQ1 := Lib.hid (fun w9 hs hb hp => checkPlan_any j plan ja1 jc1 ja2 jc2 plana planc w9 hs LSj hb LBj hp hpl2 hcu2)
      have HQ2 := Lib.hid (fun w9 hs hb hp => placesP_any j plan ja1 jc1 ja2 jc2 plana planc w9 hs LSj hb LBj hp hpl2 hcu2)
      have HQ3 := Lib.hid (fun w9 hs hb hp => refCheckPlan_any j plan ja1 jc1 ja2 jc2 plana planc w9 hs LSj hb LBj hp hpl2 hcu2)
      have HPP := Lib.hid (fun h : (planE2 j plan).2 = 0 => plan_parts h)
      obtain ⟨q, hq⟩ : ∃ q, planE2 j plan = q := ⟨_, rfl⟩
      rw [hq] at HQ1 HQ2 HQ3 HPP
      obtain ⟨⟨pb, pl, ⟨x1, y1, x2, y2⟩⟩, E⟩ := q
      clear hbr hcu hcu2 hq
      go_upto_region 5 with (first
        | (go_at_call 9; refine (small_is j ja1 jc1 ja2 jc2 _ HSM.out (HVS.out.keep HBW1.out) LSj (HVB.out.keep HBW1.out) LBj).mono ?_; rintro e w2 ⟨rfl, hb⟩; have HB2 := Lib.hid (HBW1.out.trans (hb.mono HBW1.out.size)); have HC2 := Lib.hid (HC1.out.keep hb hzw1); have hz2 := hb.size; clear hb)
        | (go_at_call 10; refine (briefs_is plan plana planc _ HBR.out (HPV.out.keep HB2.out) Lplan).mono ?_; rintro e w3 ⟨rfl, hb⟩; have HB3 := Lib.hid (HB2.out.trans (hb.mono HB2.out.size)); have HC3 := Lib.hid (HC2.out.keep hb (by omega)); have hz3 := hb.size; clear hb))
      have hzw3 : w.heap.size < w3.heap.size := by omega
      clear k0 k1 k2 k3 k4 HC1 HBW1 HB2 HC2 hz2 hz3 hzw1
      obtain ⟨k0, k1, k2, k3, k4⟩ := HC3.out
      go_upto_region 6 with (go_at_call 11; refine (HQ1.out _ (HVS.out.keep HB3.out) (HVB.out.keep HB3.out) (HPV.out.keep HB3.out)).mono ?_; rintro e w4 h; obtain ⟨rfl, hb⟩ := planPost2_out h; have HB4 := Lib.hid (HB3.out.trans (hb.mono HB3.out.size)); have HC4 := Lib.hid (HC3.out.keep hb hzw3); have hz4 := hb.size; clear hb h)
      refine gen_world (fun W5 => SixC W5 w4.heap.size pb pl x1 y1 x2 y2 ∧ Below w4.heap.size w4 W5 ∧ w4.heap.size < W5.heap.size) ⟨⟨⟨by simp [go_sem], by simp [go_sem]⟩, ⟨by simp [go_sem], by simp [go_sem]⟩, by simp [go_sem], by simp [go_sem]⟩, by repeat (first | (with_reducible assumption) | exact Below.refl _ _ | (refine Below.setCell ?_ (by first | omega | (simp; omega) | (simp; done)) _) | (refine Below.alloc ?_ (by first | omega | (simp; omega) | (simp; done)) _) | (refine Below.drew ?_)), by simp⟩ ?_
      rintro W5 ⟨hx5, hb5, hz5⟩
      obtain ⟨g5, hg5⟩ : ∃ g, g = w4.heap.size := ⟨_, rfl⟩
      rw [← hg5] at hx5 ⊢
      have hgz5 : g5 < W5.heap.size := by omega
      have HX5 := Lib.hid hx5
      have HB5 := Lib.hid (HB4.out.trans (hb5.mono HB4.out.size))
      have HC5 := Lib.hid (HC4.out.keep hb5 (by omega))
      have hzw5 : w.heap.size < W5.heap.size := by omega
      clear k0 k1 k2 k3 k4 HC3 HC4 HB3 HB4 hx5 hb5 hz5 hz4 hzw3 hg5
      obtain ⟨k0, k1, k2, k3, k4⟩ := HC5.out
      go_upto_region 7 with (go_at_call 12; refine (HQ2.out _ (HVS.out.keep HB5.out) (HVB.out.keep HB5.out) (HPV.out.keep HB5.out)).mono ?_; rintro e w6 ⟨a6, n6, c6, rfl, hb, h6, h7⟩; have HB6 := Lib.hid (HB5.out.trans (hb.mono HB5.out.size)); have HC6 := Lib.hid (HC5.out.keep hb hzw5); have HX6 := Lib.hid (show SixC w6 g5 pb pl x1 y1 x2 y2 from ⟨⟨cell_keep hb HX5.out.1.1, cell_keep hb HX5.out.1.2⟩, ⟨cell_keep hb HX5.out.2.1.1, cell_keep hb HX5.out.2.1.2⟩, cell_keep hb HX5.out.2.2.1, cell_keep hb HX5.out.2.2.2⟩); have hz6 := hb.size; have HE6 := Lib.hid h6; have HE7 := Lib.hid h7; clear hb h6 h7)
      have hzw6 : w.heap.size < w6.heap.size := by omega
      have hgz6 : g5 < w6.heap.size := by omega
      clear k0 k1 k2 k3 k4 HC5 HB5 HX5 hz6 hzw5 hgz5
      obtain ⟨k0, k1, k2, k3, k4⟩ := HC6.out
      go_upto_region 8 with (go_at_call 13; refine (HQ3.out _ (HVS.out.keep HB6.out) (HVB.out.keep HB6.out) (HPV.out.keep HB6.out)).mono ?_; rintro e w7 h; obtain ⟨rfl, hb⟩ := planPost2_out h; have HB7 := Lib.hid (HB6.out.trans (hb.mono HB6.out.size)); have HB67 := Lib.hid hb; clear hb h)
      refine gen_world (fun W8 => SixC W8 w7.heap.size pb pl x1 y1 x2 y2 ∧ Below w7.heap.size w7 W8) ⟨⟨⟨by simp [go_sem], by simp [go_sem]⟩, ⟨by simp [go_sem], by simp [go_sem]⟩, by simp [go_sem], by simp [go_sem]⟩, by repeat (first | (with_reducible assumption) | exact Below.refl _ _ | (refine Below.setCell ?_ (by first | omega | (simp; omega) | (simp; done)) _) | (refine Below.alloc ?_ (by first | omega | (simp; omega) | (simp; done)) _) | (refine Below.drew ?_))⟩ ?_
      rintro W8 ⟨⟨⟨y0, y1'⟩, ⟨y2', y3⟩, y4, y5⟩, hb8⟩
      have hb68 := HB67.out.trans (hb8.mono HB67.out.size)
      have HC8 := Lib.hid (HC6.out.keep hb68 hzw6)
      have HB8 := Lib.hid (HB7.out.trans (hb8.mono HB7.out.size))
      have HB68 := Lib.hid hb68
      obtain ⟨⟨z0, z1⟩, ⟨z2, z3⟩, z4, z5⟩ := HX6.out
      have z0 := cell_keep hb68 z0
      have z1 := cell_keep hb68 z1
      have z2 := cell_keep hb68 z2
      have z3 := cell_keep hb68 z3
      have z4 := cell_keep hb68 z4
      have z5 := cell_keep hb68 z5
      have hne := fun w => placed_neq_same ⟨pb, pl, ⟨x1, y1, x2, y2⟩⟩ w
      simp only at hne
      have hne2 : ∀ x : Int, (x != x) = false := fun x => by simp
      clear k0 k1 k2 k3 k4 hb8 hb68 HB67 HC6 HB6 HB7 HX6 hzw6 hgz6
      obtain ⟨k0, k1, k2, k3, k4⟩ := HC8.out
      by_cases hE0 : E = 0
      · subst hE0
        obtain ⟨hn6, hv6⟩ := HE7.out rfl
        subst hn6
        obtain ⟨hej, hlay, -⟩ := HPP.out rfl
        have HPR := Lib.hid (fun w9 hs hp => refPlaces_any j plan ja1 jc1 ja2 jc2 plana planc w9 hs hp hej (layGo_ok hlay) hpl2)
        have HLP := Lib.hid (placesTo_len hej (layGo_ok hlay) plan.length (Nat.le_refl _))
        have HV6 := Lib.hid (hv6.keep HB68.out)
        clear hej hlay hv6 HPP
        go_upto_region 10 with fail
        clear hne z0 z1 z2 z3 z4 z5 y0 y1' y2' y3 y4 y5
        go_wp2_with (first
          | (go_at_call 15; refine (HPR.out _ (HVS.out.keep HB8.out) (HPV.out.keep HB8.out)).mono ?_; rintro e w9 ⟨a9, c9, rfl, hv, hb⟩; have HV9 := Lib.hid hv; have HB9 := Lib.hid (HB8.out.trans (hb.mono HB8.out.size)); have HV6' := Lib.hid (HV6.out.keep hb); clear hv hb)
          | (go_at_call 14; refine (samePlaces_same a6 a9 (placesM j plan) _ _ _ _ rfl HV6'.out HV9.out (by have h := HLP.out; unfold placesM; omega)).mono ?_; rintro e w10 ⟨rfl, hb⟩; have HB10 := Lib.hid (HB9.out.trans (hb.mono HB9.out.size)); clear hb))
        go_ret
        exact ⟨ret_bool (by simp), HB10.out⟩
      · have hnE := bne_t5 hE0
        obtain ⟨rfl, rfl, rfl⟩ := HE6.out hE0
        clear HPP HE7
        go_upto_region 10 with fail
        clear hne z0 z1 z2 z3 z4 z5 y0 y1' y2' y3 y4 y5
        go_wp2_with fail
        go_ret
        exact ⟨ret_bool (by simp), HB8.out⟩
set_option maxRecDepth 100000 in
theorem cuttingPlans_walks : Walks 3 Tryz.f3 := by
  intro H enc W base args ds p hval hA hlt
  rw [Tryz.params3] at hA hval
  obtain ⟨v0, vs0, d0, ds0, p0, q0, hargs, rfl, rfl, ⟨fu0, hf0⟩, r0⟩ := trodAll_cons hA
  obtain ⟨v1, vs1, d1, ds1, p1, q1, rfl, rfl, rfl, ⟨fu1, hf1⟩, r1⟩ := trodAll_cons r0
  obtain ⟨rfl, rfl, rfl⟩ := trodAll_nil r1
  obtain rfl : args = #[v0, v1] := by cases args; simp_all
  obtain ⟨cs0, rfl, -⟩ := okWide_struct Tryz.underlying27 (hval 0 27 v0 rfl rfl)
  obtain ⟨j0, a0, c0, b0, d0, hc0, ⟨V0, C0, M0⟩, ⟨U0, D0, N0⟩, W0⟩ := Job.open_ hf0
  have hd0 : cs0 = #[.slice a0 j0.stock.length c0, .slice b0 j0.blanks.length d0, .int .i64 j0.trim.kerf, .int .i64 j0.trim.ends, .int .i64 j0.trim.sides] := by
    cases cs0; simpa [Value.cells] using hc0
  subst hd0
  obtain ⟨_, _, _, rfl⟩ := okWide_slice Tryz.underlying28 (hval 1 28 v1 rfl rfl)
  obtain ⟨a1, plan, c1, e1, V1, C1, M1⟩ := Layouts.open_ hf1
  rw [e1]
  exact walkCuttingPlans j0 a0 c0 b0 d0 a1 plan c1 W V0 (by unfold maxLen at M0; omega) C0 U0 (by unfold maxLen at N0; omega) D0 W0 V1 (by unfold maxLen at M1; omega) C1

set_option maxRecDepth 100000 in
theorem cuttingPlans_holds : Rows.CuttingPlansSaid :=
  law_holds (s := Rows.cuttingPlansSpec) (c := Rows.cuttingPlansRow) 3 Tryz.f3 rfl
    (fun H ds h => by match ds, h with | [_, _], _ => rfl) (by kernel_rfl) (by kernel_rfl)
    rfl rfl rfl rfl rfl rfl rfl ⟨rfl, rfl, rfl, rfl, rfl⟩ rfl rfl rfl rfl rfl rfl rfl rfl rfl rfl (fun _ _ => rfl) (by kernel_rfl) Tryz.func3
    cuttingPlans_closed (of_decide_eq_true (by kernel_rfl)) (by unfold Func.isWrapper; first | (rw [if_pos (by decide +kernel)]; kernel_rfl) | (rw [if_neg (by decide +kernel)]; exact ⟨rfl, rfl⟩)) (by kernel_rfl)
    (fun H enc os => ChangeSpec.witness6 (enc := enc) (C := Tryz.checked) false ⟨#[], #[.agg #[.slice none 0 0, .slice none 0 0, .int .i64 0, .int .i64 0, .int .i64 0], .slice none 0 0], []⟩ 8 (by kernel_rfl) (by kernel_rfl) (by kernel_rfl) (by kernel_rfl))
    cuttingPlans_walks
end Go.Proofs.YtdmoiepafkbefaaGreat
