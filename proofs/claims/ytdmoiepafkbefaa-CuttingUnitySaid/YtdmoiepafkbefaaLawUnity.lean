/- CuttingUnity returns true for every input: the weights of what lies on one board add up to at most 1. No condition. -/
import Derived.Test.YtdmoiepafkbefaaPLA
import Derived.Test.YtdmoiepafkbefaaQU
import Derived.Test.YtdmoiepafkbefaaQU
import Derived.Test.YtdmoiepafkbefaaFactsUnity
set_option linter.unusedVariables false
set_option linter.unusedSimpArgs false
namespace Go.Proofs.Ytdmoiepafkbefaa
open Go Go.ChangeShapes Go.WideShapes Go.ChangeAt Go.RowKit

theorem planE_err {j : Job} {E : Int} (h : jobE j = E) (hE : ¬ E = 0) : planE j = ([], E) := by subst h; unfold planE; rw [if_pos hE]
theorem planE_ok {j : Job} (h : jobE j = 0) : planE j = greedyM j.stock j.blanks j.trim := by unfold planE; rw [if_neg (by simp [h])]
theorem small_few {j : Job} (hs : smallB j = true) (h : jobE j = 0) : j.blanks.length < 20 := by
  have hp := (jobOk_of h).lenB
  have hl := smallB_lens hs
  unfold smallL at hl
  omega
/-- The plan that is looked at: a short one of whose layouts none is too long. -/
def UCut (W0 : World) (u : Nat → Value) (W : World) : Prop := ∃ (plan : List Layout) (a : Option Addr) (c : Nat), u 1 = .slice a plan.length c ∧ Layouts.V W a plan ∧ plan.length ≤ 1000 ∧ (∀ l ∈ plan, l.cuts.length ≤ 100000) ∧ W = W0
theorem greedy_small {j : Job} (hE : jobE j = 0) {r : List (Nat × List Cut)} (hg : greedyM j.stock j.blanks j.trim = (r, 0)) : (planL r).length ≤ 1000 ∧ ∀ l ∈ planL r, l.cuts.length ≤ 100000 := by
  obtain ⟨h1, h2⟩ := greedy_accepted hE hg
  have h3 := (jobOk_of hE).lenS
  obtain ⟨-, hlay, -⟩ := plan_parts (j := j) (plan := planL r) (by rw [h1])
  refine ⟨by unfold planL; rw [List.length_map]; omega, fun l hl => ?_⟩
  have h4 := layGo_ok hlay l hl
  have := (lay_okR hE h4.1 h4.2).2.1
  omega
theorem weightsE_fits {j : Job} {k0 k1 : Int} (h : weightsE j k0 k1 = 0) : jobE j = 0 ∧ ∀ x ∈ j.blanks, fitsP j x := by
  unfold weightsE at h
  split at h
  · rename_i h1; exact absurd h h1
  · rename_i h1
    split at h
    · cases h
    · split at h
      · rename_i h3; exact ⟨Decidable.not_not.1 h1, h3⟩
      · cases h
theorem piece_w2 {j : Job} {k0 k1 i : Nat} {p : Placed} (hJ : JobOk j.stock j.blanks j.trim) (hp : PieceIn j p) (hb : p.board = (i : Int)) (hi : i < j.stock.length) (hl : p.blank.toNat < j.blanks.length) (hf : fitsP j j.blanks[p.blank.toNat]) :
    ((lowP (wfN j k0 k1 j.blanks[p.blank.toNat]) (wfD j k0 k1 j.blanks[p.blank.toNat]) : Nat) : Int) * DD j k0 k1 j.stock[i] = ((lowQ (wfN j k0 k1 j.blanks[p.blank.toNat]) (wfD j k0 k1 j.blanks[p.blank.toNat]) : Nat) : Int) * fB j k0 k1 i j.stock[i] p ∧ 1 ≤ wfD j k0 k1 j.blanks[p.blank.toNat] := by
  obtain ⟨pb, pl, r⟩ := p
  simp only at hb
  subst hb
  have h := piece_w (k0 := k0) (k1 := k1) hJ hp (by simpa using hi) hl hf
  simpa only [Int.toNat_natCast] using h
structure FrO (W : World) (g : Nat) (n d : Nat) : Prop where
  c0 : W.cell? ⟨g, 0, none⟩ = some (.int .i64 n)
  c1 : W.cell? ⟨g, 1, none⟩ = some (.int .i64 d)
  f0 : W.frozen? ⟨g, 0, none⟩ = false
  f1 : W.frozen? ⟨g, 1, none⟩ = false
theorem FrO.lt {W : World} {g n d : Nat} (h : FrO W g n d) : g < W.heap.size := by have := block_lt_of_cell h.c0; simpa using this
theorem FrO.keep {W W' : World} {g n d : Nat} (h : FrO W g n d) (hb : Below W.heap.size W W') : FrO W' g n d := ⟨cell_keep hb h.c0, cell_keep hb h.c1, frozen_keep hb h.lt h.f0, frozen_keep hb h.lt h.f1⟩
theorem FrO.set {W : World} {g n d : Nat} (h : FrO W g n d) {n' d' : Nat} : FrO ((W.setCell ⟨g, 0, none⟩ (.int .i64 n')).setCell ⟨g, 1, none⟩ (.int .i64 d')) g n' d' := by
  have hs : ∀ {W : World} {p q : Addr} {u v : Value}, W.cell? q = some v → (W.setCell p u).cell? q = some (if p = q then u else v) := fun {W p q u v} h => by
    by_cases e : p = q
    · subst e; rw [if_pos rfl]; exact World.cell?_setCell_same _ _ _ h
    · rw [if_neg e, World.cell?_setCell_other (h := e)]; exact h
  refine ⟨(hs (hs h.c0)).trans (by simp), (hs (hs h.c1)).trans (by simp), by rw [frozen_set, frozen_set]; exact h.f0, by rw [frozen_set, frozen_set]; exact h.f1⟩
theorem quo_nat (n : Nat) : (1000000000 : Int) / (n : Int) = ((1000000000 / n : Nat) : Int) := (Int.natCast_ediv _ _).symm
theorem quo_le {d x : Nat} (hx : 1 ≤ x) (h : ¬ (d : Int) > ((1000000000 / x : Nat) : Int)) : d * x ≤ 1000000000 := by
  have : d ≤ 1000000000 / x := by omega
  exact (Nat.le_div_iff_mul_le hx).1 this
set_option maxRecDepth 100000 in
set_option maxHeartbeats 16000000 in
theorem walkCuttingUnity (j : Job) (ja1 : Option Addr) (jc1 : Nat) (ja2 : Option Addr) (jc2 : Nat) (plana : Option Addr) (plan : List Layout) (planc : Nat) (k0 k1 : Int) (w : World) (VSj : Boards.V w ja1 j.stock) (LSj : j.stock.length ≤ 9223372036854775807) (CSj : j.stock.length ≤ jc1) (VBj : Blanks.V w ja2 j.blanks) (LBj : j.blanks.length ≤ 9223372036854775807) (CBj : j.blanks.length ≤ jc2) (WTj : j.trim.wf) (Vplan : Layouts.V w plana plan) (Lplan : plan.length ≤ 9223372036854775807) (Cplan : plan.length ≤ planc) (Wk : (-9223372036854775808 ≤ k0 ∧ k0 ≤ 9223372036854775807) ∧ (-9223372036854775808 ≤ k1 ∧ k1 ≤ 9223372036854775807)) :
    Calls Try.prog 5 #[.agg #[.slice ja1 j.stock.length jc1, .slice ja2 j.blanks.length jc2, .int .i64 j.trim.kerf, .int .i64 j.trim.ends, .int .i64 j.trim.sides], .slice plana plan.length planc, .agg #[.int .i64 k0, .int .i64 k1]] w fun e w' => e = .returned (.bool true) ∧ Below w.heap.size w w' := by
  have HVS := Lib.hid VSj
  have HVB := Lib.hid VBj
  have HPV := Lib.hid Vplan
  clear VSj VBj Vplan
  go_enter Try.func5, Try.ntmps5
  go_upto_region 1 with fail
  refine gen_world (fun W => JB W w.heap.size j ja1 jc1 ja2 jc2 ∧ (W.cell? ⟨w.heap.size + 1, 0, none⟩ = some (.int .i64 k0) ∧ W.cell? ⟨w.heap.size + 1, 1, none⟩ = some (.int .i64 k1)) ∧ Below w.heap.size w W ∧ w.heap.size + 1 < W.heap.size) ⟨⟨by simp [go_sem], by simp [go_sem], by simp [go_sem], by simp [go_sem], by simp [go_sem]⟩, ⟨by simp [go_sem], by simp [go_sem]⟩, by repeat (first | (with_reducible assumption) | exact Below.refl _ _ | (refine Below.setCell ?_ (by first | omega | (simp; omega) | (simp; done)) _) | (refine Below.alloc ?_ (by first | omega | (simp; omega) | (simp; done)) _) | (refine Below.drew ?_)), by simp⟩ ?_
  rintro W ⟨hC, hY, hbW, hzW⟩
  obtain ⟨gj, hgj⟩ : ∃ g, g = w.heap.size := ⟨_, rfl⟩
  obtain ⟨gk, hgk⟩ : ∃ g, g = w.heap.size + 1 := ⟨_, rfl⟩
  rw [← hgk] at hY hzW
  rw [← hgj] at hC
  rw [← hgk, ← hgj]
  have hzG : gj < W.heap.size := by omega
  have HC := Lib.hid hC
  have HY := Lib.hid hY
  have HBW := Lib.hid hbW
  clear hC hbW hY hgj hgk hzW
  go_upto_region 3 with (go_at_call 6; refine (awake_any _).mono ?_; rintro e w1 ⟨rfl, hb1⟩; have HB1 := Lib.hid hb1; clear hb1)
  have HC1 := Lib.hid (HC.out.keep HB1.out hzG)
  have HY1 := Lib.hid (And.intro (cell_keep HB1.out HY.out.1) (cell_keep HB1.out HY.out.2))
  have HBW1 := Lib.hid (HBW.out.trans (HB1.out.mono HBW.out.size))
  have hzw1 : gj < w1.heap.size := Nat.lt_of_lt_of_le hzG HB1.out.size
  clear HC HBW HB1 hzG HY
  obtain ⟨q0, q1, q2, q3, q4⟩ := HC1.out
  obtain ⟨y0, y1⟩ := HY1.out
  cases hsm : smallB j
  · have HSM := Lib.hid hsm
    clear hsm
    go_wp2_with (go_at_call 15; refine (small_is j ja1 jc1 ja2 jc2 _ HSM.out (HVS.out.keep HBW1.out) LSj (HVB.out.keep HBW1.out) LBj).mono ?_; rintro e w2 ⟨rfl, hb⟩; have HB2 := Lib.hid (HBW1.out.trans (hb.mono HBW1.out.size)); clear hb)
    go_ret
    exact ⟨rfl, HB2.out⟩
  have HSM := Lib.hid hsm
  clear hsm
  cases hbr : briefsB plan
  · have HBR := Lib.hid hbr
    clear hbr
    go_wp2_with (first
      | (go_at_call 15; refine (small_is j ja1 jc1 ja2 jc2 _ HSM.out (HVS.out.keep HBW1.out) LSj (HVB.out.keep HBW1.out) LBj).mono ?_; rintro e w2 ⟨rfl, hb⟩; have HB2 := Lib.hid (HBW1.out.trans (hb.mono HBW1.out.size)); clear hb)
      | (go_at_call 16; refine (briefs_is plan plana planc _ HBR.out (HPV.out.keep HB2.out) Lplan).mono ?_; rintro e w3 ⟨rfl, hb⟩; have HB3 := Lib.hid (HB2.out.trans (hb.mono HB2.out.size)); clear hb))
    go_ret
    exact ⟨rfl, HB3.out⟩
  have HBR := Lib.hid hbr
  obtain ⟨hpl, hcu⟩ := briefs_len hbr
  have hpl2 : plan.length ≤ 1000 := by omega
  have HCU2 := Lib.hid (show ∀ l ∈ plan, l.cuts.length ≤ 100000 from fun l hl => by have := hcu l hl; omega)
  clear hbr hcu hpl
  by_cases hk0 : ¬ (0 ≤ k0 ∧ k0 ≤ 3)
  · have HW1 := Lib.hid (withinB_out hk0)
    clear y0 y1
    go_wp2_with (first
      | (go_at_call 15; refine (small_is j ja1 jc1 ja2 jc2 _ HSM.out (HVS.out.keep HBW1.out) LSj (HVB.out.keep HBW1.out) LBj).mono ?_; rintro e w2 ⟨rfl, hb⟩; have HB2 := Lib.hid (HBW1.out.trans (hb.mono HBW1.out.size)); have HC2 := Lib.hid (HC1.out.keep hb hzw1); have HY2 := Lib.hid (And.intro (cell_keep hb HY1.out.1) (cell_keep hb HY1.out.2)); have hz2 := hb.size; have y0 := HY2.out.1; have y1 := HY2.out.2; clear hb)
      | (go_at_call 16; refine (briefs_is plan plana planc _ HBR.out (HPV.out.keep HB2.out) Lplan).mono ?_; rintro e w3 ⟨rfl, hb⟩; have HB3 := Lib.hid (HB2.out.trans (hb.mono HB2.out.size)); have HC3 := Lib.hid (HC2.out.keep hb (by omega)); have HY3 := Lib.hid (And.intro (cell_keep hb HY2.out.1) (cell_keep hb HY2.out.2)); have hz3 := hb.size; have y0 := HY3.out.1; have y1 := HY3.out.2; clear hb)
      | (go_at_call 20; refine (baseWithin_any _ _ _ _).mono ?_; rintro e w' ⟨rfl, rfl⟩; rw [HW1.out]))
    go_ret
    exact ⟨rfl, HB3.out⟩
  have hk0 := Decidable.not_not.1 hk0
  have HW1 := Lib.hid (withinB_in hk0)
  by_cases hk1 : ¬ (0 ≤ k1 ∧ k1 ≤ 3)
  · have HW2 := Lib.hid (withinB_out hk1)
    clear y0 y1
    go_wp2_with (first
      | (go_at_call 15; refine (small_is j ja1 jc1 ja2 jc2 _ HSM.out (HVS.out.keep HBW1.out) LSj (HVB.out.keep HBW1.out) LBj).mono ?_; rintro e w2 ⟨rfl, hb⟩; have HB2 := Lib.hid (HBW1.out.trans (hb.mono HBW1.out.size)); have HC2 := Lib.hid (HC1.out.keep hb hzw1); have HY2 := Lib.hid (And.intro (cell_keep hb HY1.out.1) (cell_keep hb HY1.out.2)); have hz2 := hb.size; have y0 := HY2.out.1; have y1 := HY2.out.2; clear hb)
      | (go_at_call 16; refine (briefs_is plan plana planc _ HBR.out (HPV.out.keep HB2.out) Lplan).mono ?_; rintro e w3 ⟨rfl, hb⟩; have HB3 := Lib.hid (HB2.out.trans (hb.mono HB2.out.size)); have HC3 := Lib.hid (HC2.out.keep hb (by omega)); have HY3 := Lib.hid (And.intro (cell_keep hb HY2.out.1) (cell_keep hb HY2.out.2)); have hz3 := hb.size; have y0 := HY3.out.1; have y1 := HY3.out.2; clear hb)
      | (go_at_call 20; refine (baseWithin_any _ _ _ _).mono ?_; rintro e w' ⟨rfl, rfl⟩; (first | rw [HW1.out] | rw [HW2.out])))
    go_ret
    exact ⟨rfl, HB3.out⟩
  have hk1 := Decidable.not_not.1 hk1
  have HW2 := Lib.hid (withinB_in hk1)
  have HKS := Lib.hid (And.intro hk0 hk1)
  clear y0 y1 hk0 hk1
  go_upto_region 5 with (first
    | (go_at_call 15; refine (small_is j ja1 jc1 ja2 jc2 _ HSM.out (HVS.out.keep HBW1.out) LSj (HVB.out.keep HBW1.out) LBj).mono ?_; rintro e w2 ⟨rfl, hb⟩; have HB2 := Lib.hid (HBW1.out.trans (hb.mono HBW1.out.size)); have HC2 := Lib.hid (HC1.out.keep hb hzw1); have HY2 := Lib.hid (And.intro (cell_keep hb HY1.out.1) (cell_keep hb HY1.out.2)); have hz2 := hb.size; have y0 := HY2.out.1; have y1 := HY2.out.2; clear hb)
    | (go_at_call 16; refine (briefs_is plan plana planc _ HBR.out (HPV.out.keep HB2.out) Lplan).mono ?_; rintro e w3 ⟨rfl, hb⟩; have HB3 := Lib.hid (HB2.out.trans (hb.mono HB2.out.size)); have HC3 := Lib.hid (HC2.out.keep hb (by omega)); have HY3 := Lib.hid (And.intro (cell_keep hb HY2.out.1) (cell_keep hb HY2.out.2)); have hz3 := hb.size; have y0 := HY3.out.1; have y1 := HY3.out.2; clear hb)
    | (go_at_call 20; refine (baseWithin_any _ _ _ _).mono ?_; rintro e w' ⟨rfl, rfl⟩; (first | rw [HW1.out] | rw [HW2.out])))
  have hzw3 : gj < w3.heap.size := by omega
  clear q0 q1 q2 q3 q4 HC1 HBW1 HB2 HC2 hz2 hz3 hzw1 HY1 HY2 HW1 HW2
  obtain ⟨q0, q1, q2, q3, q4⟩ := HC3.out
  obtain ⟨q, hq⟩ : ∃ q, planE j = q := ⟨_, rfl⟩
  have HFEW := Lib.hid (fun h => small_few (j := j) HSM.out h)
  have HX := Lib.hid (fun w9 hs hb => greedyX_any j ja1 jc1 ja2 jc2 w9 hs LSj hb LBj HFEW.out)
  rw [hq] at HX
  have HQ := Lib.hid hq
  clear hq
  go_upto_if 45 with (go_at_call 26; refine (HX.out _ (HVS.out.keep HB3.out) (HVB.out.keep HB3.out)).mono ?_; rintro e w4 ⟨a3, c3, rfl, hv, hc3, hm3, hb⟩; have HV4 := Lib.hid hv; have HB4 := Lib.hid (HB3.out.trans (hb.mono HB3.out.size)); have HC4 := Lib.hid (HC3.out.keep hb hzw3); have HY4 := Lib.hid (And.intro (cell_keep hb HY3.out.1) (cell_keep hb HY3.out.2)); have hz4 := hb.size; clear hv hb hc3 hm3)
  have hzw4 : gj < w4.heap.size := by omega
  clear q0 q1 q2 q3 q4 HC3 HB3 hz4 hzw3 HY3 HX
  refine wp_cut_slots [1, 45, 46] (UCut w4) ?_ ?_
  · obtain ⟨ql, qe⟩ := q
    by_cases hqe : qe = 0
    · subst hqe
      have hE : jobE j = 0 := by
        by_cases h : jobE j = 0
        · exact h
        · have h2 := planE_err (j := j) rfl h
          rw [HQ.out] at h2
          injection h2 with h3 h4
          exact absurd h4.symm h
      have hgq := (planE_ok hE).symm.trans HQ.out
      have HGL := Lib.hid (greedy_small hE hgq).1
      have HGC := Lib.hid (greedy_small hE hgq).2
      go_wp2_with fail
      exact cut_meet (by simp [forget]) ⟨planL ql, a3, c3, by simp [planL], HV4.out, HGL.out, HGC.out, rfl⟩
    · have hnq := hqe
      have hb5 := bne_t5 hqe
      have hb6 : (qe == 0) = false := by simpa using hqe
      go_wp2_with fail
      exact cut_meet (by simp [forget]) ⟨plan, plana, planc, rfl, HPV.out.keep HB4.out, hpl2, HCU2.out, rfl⟩
  rintro u W4' ⟨plan2, ap2, cp2, hu1, hv2, hpl3, hcu3, rfl⟩
  simp only [forget, List.foldl_cons, List.foldl_nil, hu1, List.setIfInBounds_toArray, List.set_cons_succ, List.set_cons_zero]
  have HPV2 := Lib.hid hv2
  clear hu1 hv2 HPV HCU2 HV4 HBR hpl2
  have HQ2 := Lib.hid (fun w9 hs hb hp => placesP_any j plan2 ja1 jc1 ja2 jc2 ap2 cp2 w9 hs LSj hb LBj hp hpl3 hcu3)
  have HPP := Lib.hid (fun h : (planE2 j plan2).2 = 0 => And.intro h (And.intro (plan_parts h) (plan_sound h)))
  obtain ⟨E, hE⟩ : ∃ E, (planE2 j plan2).2 = E := ⟨_, rfl⟩
  have HQE := Lib.hid hE
  rw [hE] at HQ2
  clear hE hcu3
  obtain ⟨q0, q1, q2, q3, q4⟩ := HC4.out
  go_upto_region 9 with (go_at_call 18; refine (HQ2.out _ (HVS.out.keep HB4.out) (HVB.out.keep HB4.out) HPV2.out).mono ?_; rintro e w6 ⟨a6, n6, c6, rfl, hb, h6, h7⟩; have HB6 := Lib.hid (HB4.out.trans (hb.mono HB4.out.size)); have HC6 := Lib.hid (HC4.out.keep hb hzw4); have HY6 := Lib.hid (And.intro (cell_keep hb HY4.out.1) (cell_keep hb HY4.out.2)); have hz6 := hb.size; have HE7 := Lib.hid h7; clear hb h6 h7)
  have hzw6 : gj < w6.heap.size := by omega
  clear q0 q1 q2 q3 q4 HC4 HB4 hz6 hzw4 HY4 HQ2
  obtain ⟨n0, hn0⟩ : ∃ n : Nat, k0 = n := ⟨k0.toNat, by have := HKS.out; omega⟩
  obtain ⟨n1, hn1⟩ : ∃ n : Nat, k1 = n := ⟨k1.toNat, by have := HKS.out; omega⟩
  subst hn0 hn1
  have HWT := Lib.hid (fun w9 hs hb => weightsP_any j ja1 jc1 ja2 jc2 (n0 : Int) (n1 : Int) w9 hs LSj hb LBj)
  simp only [Int.toNat_natCast] at HWT
  have HFT := Lib.hid (fun h => weightsE_fits (j := j) (k0 := (n0 : Int)) (k1 := (n1 : Int)) h)
  obtain ⟨F, hF⟩ : ∃ F, weightsE j (n0 : Int) (n1 : Int) = F := ⟨_, rfl⟩
  rw [hF] at HWT HFT
  clear hF
  obtain ⟨q0, q1, q2, q3, q4⟩ := HC6.out
  obtain ⟨y0, y1⟩ := HY6.out
  go_upto_region 10 with (go_at_call 27; refine (HWT.out _ (HVS.out.keep HB6.out) (HVB.out.keep HB6.out)).mono ?_; rintro e w7 ⟨a7, n7, c7, rfl, hb, h6, h7⟩; have HB7 := Lib.hid (HB6.out.trans (hb.mono HB6.out.size)); have HB67 := Lib.hid hb; have HC7 := Lib.hid (HC6.out.keep hb hzw6); have hz7 := hb.size; have HE8 := Lib.hid h7; clear hb h6 h7)
  have hzw7 : gj < w7.heap.size := by omega
  clear q0 q1 q2 q3 q4 HC6 HB6 hz7 hzw6 HY6 HWT y0 y1
  by_cases hE0 : ¬ E = 0
  · have hne := bne_t5 hE0
    go_wp2_with fail
    go_ret
    exact ⟨rfl, HB7.out⟩
  obtain rfl : E = 0 := Decidable.not_not.1 hE0
  clear hE0
  by_cases hF0 : ¬ F = 0
  · have hne := bne_t5 hF0
    go_wp2_with fail
    go_ret
    exact ⟨rfl, HB7.out⟩
  obtain rfl : F = 0 := Decidable.not_not.1 hF0
  clear hF0
  obtain ⟨hn6, hv6⟩ := HE7.out (by first | trivial | rfl)
  obtain ⟨hn7, hv7⟩ := HE8.out (by first | trivial | rfl)
  subst hn6 hn7
  obtain ⟨hpz, ⟨hej, hlay, -⟩, hln, hin, hpw⟩ := HPP.out HQE.out
  obtain ⟨-, hfit⟩ := HFT.out rfl
  have HJO := Lib.hid (jobOk_of hej)
  have HS := Lib.hid (show ∀ p ∈ placesM j plan2, PieceIn j p from hin)
  have HFI := Lib.hid hfit
  have HLE := Lib.hid (fun i hi m => plan_le (k0 := n0) (k1 := n1) (i := i) hpz hi m)
  have HLP := Lib.hid (show (placesM j plan2).length ≤ 400000 by have h := placesTo_len hej (layGo_ok hlay) plan2.length (Nat.le_refl _); unfold placesM; omega)
  have HV7 := Lib.hid (hv6.keep HB67.out)
  have HF7 := Lib.hid hv7
  clear hej hlay hln hin hpw hfit hv6 hv7 hpz HPP HFT HE7 HE8 HB67 HQE
  generalize placesM j plan2 = L at *
  have hLS := HJO.out.lenS
  have hLB := HJO.out.lenB
  have hLP := HLP.out
  have u2 : IntKind.i64.wrap ((j.blanks.length : Int) - 1) = (j.blanks.length : Int) - 1 := IntWalk.i64_in _ (by omega)
  have hlm : (j.blanks.map (wfr j n0 n1)).length = j.blanks.length := List.length_map ..
  rw [hlm]
  have HLM := Lib.hid hlm
  have hks := HKS.out
  clear hlm HKS
  go_wp2_with fail
  go_loopw [13] (fun iv wr => ∃ i : Nat, i ≤ j.stock.length ∧ iv = .int .i64 i ∧ Below w7.heap.size w7 wr) (fun iv _ => j.stock.length - (intOf iv).toNat)
  case atStart => exact ⟨0, Nat.zero_le _, rfl, Below.refl _ _⟩
  case round =>
    obtain ⟨i, hi, rfl, hbr⟩ := hrel
    obtain ⟨wo, rfl⟩ : ∃ wo : World, wo = wr := ⟨_, rfl⟩
    have HBO := Lib.hid hbr
    have HBB := Lib.hid (HB7.out.trans (hbr.mono HB7.out.size))
    have HCO := Lib.hid (HC7.out.keep hbr hzw7)
    have hzo : gj < wo.heap.size := by have := hbr.size; omega
    clear hbr
    obtain ⟨q0, -, -, -, -⟩ := HCO.out
    by_cases hlt : i < j.stock.length
    · have hki : (i : Int) < (j.stock.length : Int) := by omega
      have v1 : IntKind.i64.wrap ((i : Int) + 1) = (i : Int) + 1 := IntWalk.i64_in _ (by omega)
      have HLE2 := Lib.hid (fun m => HLE.out i hlt m)
      have HPW := Lib.hid (fun m (hm : m < L.length) (hb : L[m].board = i) => show ∃ (nl : Nat) (hl : nl < j.blanks.length), L[m].blank = nl ∧ ((lowP (wfN j n0 n1 j.blanks[nl]) (wfD j n0 n1 j.blanks[nl]) : Nat) : Int) * DD j n0 n1 j.stock[i] = ((lowQ (wfN j n0 n1 j.blanks[nl]) (wfD j n0 n1 j.blanks[nl]) : Nat) : Int) * fB j n0 n1 i j.stock[i] L[m] ∧ 1 ≤ wfD j n0 n1 j.blanks[nl] from by
        have hp := HS.out _ (List.getElem_mem hm)
        have hbl := hp.blank
        have hl : L[m].blank.toNat < j.blanks.length := by omega
        have h := piece_w2 (k0 := n0) (k1 := n1) HJO.out hp hb hlt hl (HFI.out _ (List.getElem_mem hl))
        exact ⟨L[m].blank.toNat, hl, by omega, h.1, h.2⟩)
      generalize j.stock[i] = b at *
      go_upto_region 16 with fail
      refine gen_world (fun W1 => FrO W1 wo.heap.size 0 1 ∧ Below wo.heap.size wo W1) ⟨⟨by simp [go_sem], by simp [go_sem], by simp [go_sem], by simp [go_sem]⟩, by repeat (first | (with_reducible assumption) | exact Below.refl _ _ | (refine Below.setCell ?_ (by first | omega | (simp; omega) | (simp; done)) _) | (refine Below.alloc ?_ (by first | omega | (simp; omega) | (simp; done)) _) | (refine Below.drew ?_))⟩ ?_
      rintro W1 ⟨hfr, hb1⟩
      obtain ⟨g14, hg14⟩ : ∃ g, g = wo.heap.size := ⟨_, rfl⟩
      rw [← hg14] at hfr ⊢
      have HG := Lib.hid (show wo.heap.size ≤ g14 by omega)
      have HB1 := Lib.hid hb1
      have HFR := Lib.hid hfr
      clear hb1 hg14 hfr q0
      go_wp2_with fail
      go_loopw [15] (fun iv wr => ∃ m n d : Nat, m ≤ L.length ∧ iv = .int .i64 m ∧ FrO wr g14 n d ∧ Hid (SumI j n0 n1 i b L m n d) ∧ Below wo.heap.size wo wr) (fun iv _ => L.length - (intOf iv).toNat)
      case atStart => exact ⟨0, 0, 1, Nat.zero_le _, rfl, HFR.out, Lib.hid SumI.start, HB1.out⟩
      case round =>
        obtain ⟨m, n, d, hm, rfl, hfo, HSI, hbi⟩ := hrel
        obtain ⟨wi, rfl⟩ : ∃ wi : World, wi = wr := ⟨_, rfl⟩
        have HBI := Lib.hid hbi
        have HFO := Lib.hid hfo
        have hbo := HBO.out.trans (hbi.mono HBO.out.size)
        have hFo := HF7.out.keep hbo
        have hVo := HV7.out.keep hbo
        have HB7i := Lib.hid hbo
        clear hbi hbo
        by_cases hlt2 : m < L.length
        · have hmi : (m : Int) < (L.length : Int) := by omega
          have v6 : IntKind.i64.wrap ((m : Int) + 1) = (m : Int) + 1 := IntWalk.i64_in _ (by omega)
          obtain ⟨gP, offP, haP, ⟨x0, x1⟩, ⟨x2, x3⟩, x4, x5⟩ := hVo.at_ hlt2
          subst haP
          by_cases hbd : L[m].board = (i : Int)
          · obtain ⟨nl, hnl, hbl, hw, hd1⟩ := HPW.out m hlt2 hbd
            have hst := HSI.out.step (xn := lowP (wfN j n0 n1 j.blanks[nl]) (wfD j n0 n1 j.blanks[nl])) (xd := lowQ (wfN j n0 n1 j.blanks[nl]) (wfD j n0 n1 j.blanks[nl])) hlt2 (lowB_pos hd1)
            have HST := Lib.hid (fun hd => hst hd hw)
            have hsn := HSI.out.small (HLE2.out m)
            have hxx : lowP (wfN j n0 n1 j.blanks[nl]) (wfD j n0 n1 j.blanks[nl]) ≤ lowQ (wfN j n0 n1 j.blanks[nl]) (wfD j n0 n1 j.blanks[nl]) := by
              have h1 := HLE2.out (m + 1)
              rw [List.take_succ_eq_append_getElem hlt2, sumQ_app] at h1
              simp only [sumQ, Int.add_zero] at h1
              have h2 := sumQ_nn (f := fB j n0 n1 i b) fB_nn (L.take m)
              have hp := DD_pos (j := j) (k0 := n0) (k1 := n1) (b := b)
              have h3 : ((lowP (wfN j n0 n1 j.blanks[nl]) (wfD j n0 n1 j.blanks[nl]) : Nat) : Int) * DD j n0 n1 b ≤ ((lowQ (wfN j n0 n1 j.blanks[nl]) (wfD j n0 n1 j.blanks[nl]) : Nat) : Int) * DD j n0 n1 b := by rw [hw]; exact Int.mul_le_mul_of_nonneg_left (by omega) (by omega)
              have := Int.le_of_mul_le_mul_right h3 hp
              omega
            have hnlL : nl < (j.blanks.map (wfr j n0 n1)).length := by rw [HLM.out]; exact hnl
            obtain ⟨gF, offF, haF, z0, z1⟩ := hFo.at_ hnlL
            subst haF
            rw [List.getElem_map] at z0 z1
            have ez0 : (wfr j n0 n1 j.blanks[nl]).num = ((lowP (wfN j n0 n1 j.blanks[nl]) (wfD j n0 n1 j.blanks[nl]) : Nat) : Int) := rfl
            have ez1 : (wfr j n0 n1 j.blanks[nl]).den = ((lowQ (wfN j n0 n1 j.blanks[nl]) (wfD j n0 n1 j.blanks[nl]) : Nat) : Int) := rfl
            rw [ez0] at z0
            rw [ez1] at z1
            have hxd := lowB_pos (n := wfN j n0 n1 j.blanks[nl]) hd1
            rw [hbd] at x0
            rw [hbl] at x1
            have HW2 := Lib.hid (withinB_in (n := (nl : Int)) (lo := 0) (hi := (j.blanks.length : Int) - 1) (by omega))
            have hnli : (nl : Int) < (j.blanks.length : Int) := by omega
            have hpos := HSI.out.pos
            have hled := HSI.out.le
            clear hst hw hd1 ez0 ez1 hbd hbl hnlL
            generalize lowP (wfN j n0 n1 j.blanks[nl]) (wfD j n0 n1 j.blanks[nl]) = xn at *
            generalize lowQ (wfN j n0 n1 j.blanks[nl]) (wfD j n0 n1 j.blanks[nl]) = xd at *
            generalize L[m] = p at *
            have hii : ((i : Int) != (i : Int)) = false := by simp
            go_upto_region 20 with (go_at_call 20; refine (baseWithin_any _ _ _ _).mono ?_; rintro e w' ⟨rfl, rfl⟩; rw [HW2.out])
            go_upto_region 21 with fail
            refine gen_world (fun W2 => (W2.cell? ⟨wi.heap.size, 0, none⟩ = some (.int .i64 xn) ∧ W2.cell? ⟨wi.heap.size, 1, none⟩ = some (.int .i64 xd)) ∧ Below wi.heap.size wi W2) ⟨⟨by simp [go_sem], by simp [go_sem]⟩, by repeat (first | (with_reducible assumption) | exact Below.refl _ _ | (refine Below.setCell ?_ (by first | omega | (simp; omega) | (simp; done)) _) | (refine Below.alloc ?_ (by first | omega | (simp; omega) | (simp; done)) _) | (refine Below.drew ?_))⟩ ?_
            rintro W2 ⟨⟨a0, a1⟩, hb2⟩
            obtain ⟨g16, hg16⟩ : ∃ g, g = wi.heap.size := ⟨_, rfl⟩
            rw [← hg16] at a0 a1 ⊢
            have HB2 := Lib.hid hb2
            have hfo2 := HFO.out.keep hb2
            have HBIx := Lib.hid (HBI.out.trans (hb2.mono HBI.out.size))
            obtain ⟨c0, c1, f0, f1⟩ := hfo2
            have HFO2 := Lib.hid (FrO.mk c0 c1 f0 f1)
            clear hb2 x0 x1 x2 x3 x4 x5 z0 z1 hg16 hii
            have hx1 : ¬ (xd : Int) < 1 := by omega
            have hx0 : ¬ (xd : Int) = 0 := by omega
            have hqu := quo_nat xd
            by_cases hgt : (d : Int) > ((1000000000 / xd : Nat) : Int)
            · generalize 1000000000 / xd = Q at *
              go_quiet (fail)
              rename_i nq
              go_wp2_with fail
              go_ret
              exact ⟨rfl, HBB.out.trans ((below_drewN HBIx.out nq).mono HBB.out.size)⟩
            · have HDX := Lib.hid (quo_le hxd hgt)
              generalize 1000000000 / xd = Q at *
              go_quiet (fail)
              rename_i nq
              have HB3 := Lib.hid (below_drewN HBIx.out nq)
              have c0 : (W2.drewN nq).cell? ⟨g14, 0, none⟩ = some (.int .i64 n) := c0
              have c1 : (W2.drewN nq).cell? ⟨g14, 1, none⟩ = some (.int .i64 d) := c1
              have a0 : (W2.drewN nq).cell? ⟨g16, 0, none⟩ = some (.int .i64 xn) := a0
              have a1 : (W2.drewN nq).cell? ⟨g16, 1, none⟩ = some (.int .i64 xd) := a1
              have HFO3 := Lib.hid (show FrO (W2.drewN nq) g14 n d from ⟨HFO2.out.c0, HFO2.out.c1, HFO2.out.f0, HFO2.out.f1⟩)
              clear f0 f1
              generalize W2.drewN nq = W3 at *
              have HS2 := Lib.hid (HST.out HDX.out)
              obtain ⟨N1, hN1⟩ : ∃ N, n * xd = N := ⟨_, rfl⟩
              obtain ⟨N2, hN2⟩ : ∃ N, xn * d = N := ⟨_, rfl⟩
              obtain ⟨D1, hD1⟩ : ∃ N, d * xd = N := ⟨_, rfl⟩
              have hD1b : D1 ≤ 1000000000 := by rw [← hD1]; exact HDX.out
              have hD1p : 1 ≤ D1 := by rw [← hD1]; exact Nat.mul_pos hpos hxd
              have hN1b : N1 ≤ 1000000000 := by rw [← hN1]; exact Nat.le_trans (Nat.mul_le_mul_right _ hsn) HDX.out
              have hN2b : N2 ≤ 1000000000 := by rw [← hN2]; exact Nat.le_trans (Nat.mul_le_mul_right _ hxx) (by rw [Nat.mul_comm]; exact HDX.out)
              have e1 : IntKind.i64.wrap ((n : Int) * (xd : Int)) = (N1 : Int) := by rw [show (n : Int) * (xd : Int) = ((N1 : Nat) : Int) by rw [← hN1]; push_cast; rfl]; exact IntWalk.i64_in _ (by omega)
              have e2 : IntKind.i64.wrap ((xn : Int) * (d : Int)) = (N2 : Int) := by rw [show (xn : Int) * (d : Int) = ((N2 : Nat) : Int) by rw [← hN2]; push_cast; rfl]; exact IntWalk.i64_in _ (by omega)
              have e3 : IntKind.i64.wrap ((d : Int) * (xd : Int)) = (D1 : Int) := by rw [show (d : Int) * (xd : Int) = ((D1 : Nat) : Int) by rw [← hD1]; push_cast; rfl]; exact IntWalk.i64_in _ (by omega)
              have e4 : IntKind.i64.wrap ((N1 : Int) + (N2 : Int)) = ((N1 + N2 : Nat) : Int) := by rw [← Int.natCast_add]; exact IntWalk.i64_in _ (by omega)
              rw [hN1, hN2, hD1] at HS2
              have HLO := Lib.hid (fun w9 => lowest_any (N1 + N2) D1 w9 (by omega) hD1p (by omega))
              have HLO := Lib.hid (show ∀ w9, Calls Try.prog 28 #[.int .i64 ((N1 + N2 : Nat) : Int), .int .i64 (D1 : Int)] w9 fun e w' => e = .returned (.agg #[.int .i64 ((lowP (N1 + N2) D1 : Nat) : Int), .int .i64 ((lowQ (N1 + N2) D1 : Nat) : Int)]) ∧ Below w9.heap.size w9 w' from fun w9 => HLO.out w9)
              generalize lowP (N1 + N2) D1 = rn at *
              generalize lowQ (N1 + N2) D1 = rd at *
              clear hN1 hN2 hD1 HST HDX hgt hqu hx1 hx0
              generalize hNN : N1 + N2 = NN at *
              have HG14 := HG.out
              go_wp2_with (go_at_call 28; refine (HLO.out _).mono ?_; rintro e wl ⟨rfl, hbl⟩; have HBl := Lib.hid (HB3.out.trans (hbl.mono HB3.out.size)); have HFl := Lib.hid (HFO3.out.keep hbl); have c0 := HFl.out.c0; have c1 := HFl.out.c1; have f0 := HFl.out.f0; have f1 := HFl.out.f1; clear hbl)
              go_roundw
              case rel => exact ⟨m + 1, rn, rd, by omega, by go_num, HFl.out.set, HS2, (HBl.out.setCell HG14 _).setCell HG14 _⟩
              case measure => first | (simp [intOf]; done) | (simp [intOf]; omega)
          · have hne : (L[m].board != (i : Int)) = true := by simpa using hbd
            have HS2 := Lib.hid (HSI.out.skip hlt2 hbd)
            clear hbd
            generalize L[m] = p at *
            go_wp2_with fail
            go_roundw
            case rel => exact ⟨m + 1, n, d, by omega, by go_num, HFO.out, HS2, HBI.out⟩
            case measure => first | (simp [intOf]; done) | (simp [intOf]; omega)
        · obtain rfl : m = L.length := by omega
          have hmi : ¬ ((L.length : Nat) : Int) < ((L.length : Nat) : Int) := by omega
          have hsn := HSI.out.small (HLE2.out _)
          have hng : ¬ (n : Int) > (d : Int) := by omega
          obtain ⟨c0, c1, f0, f1⟩ := hfo
          go_wp2_with fail
          go_roundw
          case rel => exact ⟨i + 1, by omega, by go_num, HB7i.out⟩
          case measure => first | (simp [intOf]; done) | (simp [intOf]; omega)
    · obtain rfl : i = j.stock.length := by omega
      have hki : ¬ ((j.stock.length : Nat) : Int) < ((j.stock.length : Nat) : Int) := by omega
      go_wp2_with fail
      go_ret
      exact ⟨rfl, HBB.out⟩
set_option maxRecDepth 100000 in
theorem cuttingUnity_walks : Walks 5 Try.f5 := by
  intro H enc W base args ds p hval hA hlt
  rw [Try.params5] at hA hval
  obtain ⟨v0, vs0, d0, ds0, p0, q0, hargs, rfl, rfl, ⟨fu0, hf0⟩, r0⟩ := trodAll_cons hA
  obtain ⟨v1, vs1, d1, ds1, p1, q1, rfl, rfl, rfl, ⟨fu1, hf1⟩, r1⟩ := trodAll_cons r0
  obtain ⟨v2, vs2, d2, ds2, p2, q2, rfl, rfl, rfl, ⟨fu2, hf2⟩, r2⟩ := trodAll_cons r1
  obtain ⟨rfl, rfl, rfl⟩ := trodAll_nil r2
  obtain rfl : args = #[v0, v1, v2] := by cases args; simp_all
  obtain ⟨cs0, rfl, -⟩ := okWide_struct Try.underlying47 (hval 0 47 v0 rfl rfl)
  obtain ⟨j0, a0, c0, b0, d0, hc0, ⟨V0, C0, M0⟩, ⟨U0, D0, N0⟩, W0⟩ := Job.open_ hf0
  have hd0 : cs0 = #[.slice a0 j0.stock.length c0, .slice b0 j0.blanks.length d0, .int .i64 j0.trim.kerf, .int .i64 j0.trim.ends, .int .i64 j0.trim.sides] := by
    cases cs0; simpa [Value.cells] using hc0
  subst hd0
  obtain ⟨_, _, _, rfl⟩ := okWide_slice Try.underlying48 (hval 1 48 v1 rfl rfl)
  obtain ⟨a1, plan, c1, e1, V1, C1, M1⟩ := Layouts.open_ hf1
  rw [e1]
  obtain ⟨cs2, rfl, -⟩ := okWide_pair Try.underlying72 (hval 2 72 v2 rfl rfl)
  obtain ⟨p2, q2, hc2, W2⟩ := pair_open hf2
  have hd2 : cs2 = #[.int .i64 p2, .int .i64 q2] := by
    cases cs2; simpa [Value.cells] using hc2
  subst hd2
  exact walkCuttingUnity j0 a0 c0 b0 d0 a1 plan c1 p2 q2 W V0 (by unfold maxLen at M0; omega) C0 U0 (by unfold maxLen at N0; omega) D0 W0 V1 (by unfold maxLen at M1; omega) C1 W2

set_option maxRecDepth 100000 in
theorem cuttingUnity_holds : Rows.CuttingUnitySaid :=
  law_holds (s := Rows.cuttingUnitySpec) (c := Rows.cuttingUnityRow) 5 Try.f5 rfl
    (fun H ds h => by match ds, h with | [_, _, _], _ => rfl) (by kernel_rfl) (by kernel_rfl)
    rfl rfl rfl rfl rfl rfl rfl ⟨rfl, rfl, rfl, rfl, rfl⟩ rfl rfl rfl rfl rfl rfl rfl rfl rfl rfl (fun _ _ => rfl) (by kernel_rfl) Try.func5
    cuttingUnity_closed (of_decide_eq_true (by kernel_rfl)) (by unfold Func.isWrapper; first | (rw [if_pos (by decide +kernel)]; kernel_rfl) | (rw [if_neg (by decide +kernel)]; exact ⟨rfl, rfl⟩)) (by kernel_rfl)
    (fun H enc os => ChangeSpec.witness6 (enc := enc) (C := Try.checked) false ⟨#[], #[.agg #[.slice none 0 0, .slice none 0 0, .int .i64 0, .int .i64 0, .int .i64 0], .slice none 0 0, .agg #[.int .i64 0, .int .i64 0]], []⟩ 8 (by kernel_rfl) (by kernel_rfl) (by kernel_rfl) (by kernel_rfl))
    cuttingUnity_walks
end Go.Proofs.Ytdmoiepafkbefaa
