/- CuttingWeights returns true for every input: Weight returns the weight of a fraction, or the error that the document specifies; the weights of a fraction and of the rest of 1 add up to at most 1. No condition. -/
import Derived.Test.YtepiapgcpoifpaaA8
import Derived.Test.YtepiapgcpoifpaaFactsWeights
set_option linter.unusedVariables false
set_option linter.unusedSimpArgs false
namespace Go.Proofs.Ytepiapgcpoifpaa
open Go Go.ChangeShapes Go.WideShapes Go.ChangeAt Go.RowKit

theorem isWeight_any (k : Int) (w : World) {q : Bool} (hq : withinB k 0 20 = q) : Calls Try.prog 21 #[.int .i64 k] w fun e w' => e = .returned (.bool q) ∧ w = w' := by
  go_enter Try.func21, Try.ntmps21
  go_wp2_with (go_at_call 22; refine (baseWithin_is _ _ _ _ hq).mono ?_; rintro e w' ⟨rfl, rfl⟩)
  go_ret
  exact ⟨rfl, rfl⟩
theorem w_bds {k num den : Nat} (hk : k ≤ 20) (h1 : 1 ≤ den) (h2 : den ≤ 1000000) (h3 : num ≤ den) : (0 ≤ wNum k num den ∧ wNum k num den ≤ 1000000) ∧ (0 ≤ wDen k num den ∧ wDen k num den ≤ 1000000) := by
  obtain ⟨q1, q2, q3⟩ := wt_bds hk h1 h2 h3
  have a := Nat.div_le_self (wtN k num den) (Nat.gcd (wtN k num den) (wtD k num den))
  have b := Nat.div_le_self (wtD k num den) (Nat.gcd (wtN k num den) (wtD k num den))
  unfold wNum wDen lowNum lowDen
  generalize wtN k num den / Nat.gcd (wtN k num den) (wtD k num den) = p at *
  generalize wtD k num den / Nat.gcd (wtN k num den) (wtD k num den) = q at *
  omega
theorem mul_bd {a b : Int} (ha : 0 ≤ a ∧ a ≤ 1000000) (hb : 0 ≤ b ∧ b ≤ 1000000) : 0 ≤ a * b ∧ a * b ≤ 1000000000000 :=
  ⟨Int.mul_nonneg ha.1 hb.1, by have : a * b ≤ 1000000 * 1000000 := Int.mul_le_mul ha.2 hb.2 hb.1 (by omega); omega⟩
set_option maxRecDepth 100000 in
set_option maxHeartbeats 4000000 in
theorem walkCuttingWeights (k : Int) (num : Int) (den : Int) (w : World) (Wk : -9223372036854775808 ≤ k ∧ k ≤ 9223372036854775807) (Wnum : -9223372036854775808 ≤ num ∧ num ≤ 9223372036854775807) (Wden : -9223372036854775808 ≤ den ∧ den ≤ 9223372036854775807) :
    Calls Try.prog 4 #[.int .i64 k, .int .i64 num, .int .i64 den] w fun e w' => e = .returned (.bool true) ∧ Below w.heap.size w w' := by
  have hfe := frac_eql
  by_cases hbad : ¬ (withinB k 0 20 = true ∧ withinB den 1 1000000 = true ∧ withinB num 0 den = true)
  · cases hb1 : withinB k 0 20
    · go_enter Try.func4, Try.ntmps4
      go_wp2_with (first
        | (go_at_call 14; refine (awake_any _).mono ?_; rintro e w1 ⟨rfl, hb1⟩; have HB1 := Lib.hid hb1; clear hb1)
        | (go_at_call 20; refine (weightP_bad _ _ _ _ hbad).mono ?_; rintro e w2 ⟨rfl, hb⟩; have HB2 := Lib.hid (HB1.out.trans (hb.mono HB1.out.size)); clear hb)
        | (go_at_call 21; refine (isWeight_any _ _ hb1).mono ?_; rintro e w' ⟨rfl, rfl⟩)
        | (go_at_call 22; refine (baseWithin_is _ _ _ _ (by first | exact hb1 | exact hb2 | exact hb3)).mono ?_; rintro e w' ⟨rfl, rfl⟩))
      go_ret
      exact ⟨rfl, HB2.out.alloc HB2.out.size _⟩
    · cases hb2 : withinB den 1 1000000
      · go_enter Try.func4, Try.ntmps4
        go_wp2_with (first
          | (go_at_call 14; refine (awake_any _).mono ?_; rintro e w1 ⟨rfl, hb1⟩; have HB1 := Lib.hid hb1; clear hb1)
          | (go_at_call 20; refine (weightP_bad _ _ _ _ hbad).mono ?_; rintro e w2 ⟨rfl, hb⟩; have HB2 := Lib.hid (HB1.out.trans (hb.mono HB1.out.size)); clear hb)
          | (go_at_call 21; refine (isWeight_any _ _ hb1).mono ?_; rintro e w' ⟨rfl, rfl⟩)
          | (go_at_call 22; refine (baseWithin_is _ _ _ _ (by first | exact hb1 | exact hb2 | exact hb3)).mono ?_; rintro e w' ⟨rfl, rfl⟩))
        go_ret
        exact ⟨rfl, HB2.out.alloc HB2.out.size _⟩
      · have hb3 : withinB num 0 den = false := by
          rw [Bool.eq_false_iff]; exact fun h3 => hbad ⟨hb1, hb2, h3⟩
        go_enter Try.func4, Try.ntmps4
        go_wp2_with (first
          | (go_at_call 14; refine (awake_any _).mono ?_; rintro e w1 ⟨rfl, hb1⟩; have HB1 := Lib.hid hb1; clear hb1)
          | (go_at_call 20; refine (weightP_bad _ _ _ _ hbad).mono ?_; rintro e w2 ⟨rfl, hb⟩; have HB2 := Lib.hid (HB1.out.trans (hb.mono HB1.out.size)); clear hb)
          | (go_at_call 21; refine (isWeight_any _ _ hb1).mono ?_; rintro e w' ⟨rfl, rfl⟩)
          | (go_at_call 22; refine (baseWithin_is _ _ _ _ (by first | exact hb1 | exact hb2 | exact hb3)).mono ?_; rintro e w' ⟨rfl, rfl⟩))
        go_ret
        exact ⟨rfl, HB2.out.alloc HB2.out.size _⟩
  · simp only [Decidable.not_not] at hbad
    obtain ⟨hb1, hb2, hb3⟩ := hbad
    have q1 := withinB_true hb1
    have q2 := withinB_true hb2
    have q3 := withinB_true hb3
    obtain ⟨K, rfl⟩ : ∃ K : Nat, k = K := ⟨k.toNat, by omega⟩
    obtain ⟨M, rfl⟩ : ∃ M : Nat, num = M := ⟨num.toNat, by omega⟩
    obtain ⟨D, rfl⟩ : ∃ D : Nat, den = D := ⟨den.toNat, by omega⟩
    have g1 : K ≤ 20 := by omega
    have g2 : 1 ≤ D := by omega
    have g3 : D ≤ 1000000 := by omega
    have g4 : M ≤ D := by omega
    have g5 : D - M ≤ D := by omega
    have v1 : IntKind.i64.wrap ((D : Int) - (M : Int)) = ((D - M : Nat) : Int) := by rw [Int.ofNat_sub g4]; exact IntWalk.i64_in _ (by omega)
    have hx := w_cross g1 g2 g3 g4
    obtain ⟨b1, b2⟩ := w_bds g1 g2 g3 g4
    obtain ⟨b3, b4⟩ := w_bds g1 g2 g3 g5
    have HP1 := Lib.hid (fun w => weightP_ok K M D w g1 g2 g3 g4)
    have HP2 := Lib.hid (fun w => weightP_ok K (D - M) D w g1 g2 g3 g5)
    have HR1 := Lib.hid (fun w => refWeight_any K M D w g1 g2 g3 g4)
    have HR2 := Lib.hid (fun w => refWeight_any K (D - M) D w g1 g2 g3 g5)
    generalize wNum K M D = A at *
    generalize wDen K M D = B at *
    generalize wNum K (D - M) D = C at *
    generalize wDen K (D - M) D = E at *
    have m1 := mul_bd b1 b4
    have m2 := mul_bd b3 b2
    have m3 := mul_bd b2 b4
    have u1 : IntKind.i64.wrap (A * E) = A * E := IntWalk.i64_in _ (by omega)
    have u2 : IntKind.i64.wrap (C * B) = C * B := IntWalk.i64_in _ (by omega)
    have u3 : IntKind.i64.wrap (B * E) = B * E := IntWalk.i64_in _ (by omega)
    have u4 : IntKind.i64.wrap (A * E + C * B) = A * E + C * B := IntWalk.i64_in _ (by omega)
    clear b1 b2 b3 b4 m1 m2 m3 q1 q2 q3 g5
    obtain ⟨N, hN⟩ : ∃ N, N = D - M := ⟨_, rfl⟩
    rw [← hN] at v1 HP2 HR2
    clear hN
    go_enter Try.func4, Try.ntmps4
    go_wp2_with (first
      | (go_at_call 14; refine (awake_any _).mono ?_; rintro e w1 ⟨rfl, hb1⟩; have HB1 := Lib.hid hb1; clear hb1)
      | (go_at_call 20; refine (HP1.out _).mono ?_; rintro e w2 ⟨rfl, hb⟩; have HB2 := Lib.hid (HB1.out.trans (hb.mono HB1.out.size)); clear hb HP1)
      | (go_at_call 21; refine (isWeight_any _ _ hb1).mono ?_; rintro e w' ⟨rfl, rfl⟩)
      | (go_at_call 22; refine (baseWithin_is _ _ _ _ (by first | exact hb1 | exact hb2 | exact hb3)).mono ?_; rintro e w' ⟨rfl, rfl⟩))
    refine gen_world (fun W => (W.cell? ⟨w2.heap.size, 0, none⟩ = some (.int .i64 A) ∧ W.cell? ⟨w2.heap.size, 1, none⟩ = some (.int .i64 B)) ∧ Below w.heap.size w W) ⟨⟨by simp [go_sem], by simp [go_sem]⟩, HB2.out.alloc HB2.out.size _⟩ ?_
    rintro W ⟨⟨k0, k1⟩, hbW⟩
    generalize w2.heap.size = G at *
    have hg := block_lt_of_cell k0
    simp only at hg
    have HBW := Lib.hid hbW
    clear hbW
    refine wp_region_grew (by kernel_rfl) (by kernel_rfl) ?_
    repeat (first
      | go_big_quiet_step ((go_at_call 23; exact grew_of (HR1.out _)))
      | quiet_step ((go_at_call 23; exact grew_of (HR1.out _))))
    refine wpQuiet_nil ?_
    rintro _ ⟨g, rfl⟩
    have k0' := (cell?_grew W g G 0 none hg).trans k0
    have k1' := (cell?_grew W g G 1 none hg).trans k1
    have HBG := Lib.hid (grewB HBW.out HBW.out.size g)
    clear k0 k1 hg
    generalize grew W g = W2 at *
    go_wp2_with (go_at_call 20; refine (HP2.out _).mono ?_; rintro e w3 ⟨rfl, hb⟩; have HB3 := Lib.hid (HBG.out.trans (hb.mono HBG.out.size)); have k0 := cell_keep hb k0'; have k1 := cell_keep hb k1'; clear hb k0' k1')
    have hg := block_lt_of_cell k0
    simp only at hg
    refine gen_world (fun W => (W.cell? ⟨w3.heap.size, 0, none⟩ = some (.int .i64 C) ∧ W.cell? ⟨w3.heap.size, 1, none⟩ = some (.int .i64 E)) ∧ (W.cell? ⟨G, 0, none⟩ = some (.int .i64 A) ∧ W.cell? ⟨G, 1, none⟩ = some (.int .i64 B)) ∧ Below w.heap.size w W) ⟨⟨by simp [go_sem], by simp [go_sem]⟩, ⟨by simp [go_sem, *], by simp [go_sem, *]⟩, HB3.out.alloc HB3.out.size _⟩ ?_
    rintro W5 ⟨⟨l0, l1⟩, ⟨k2, k3⟩, hbW⟩
    clear k0 k1 hg
    generalize w3.heap.size = G2 at *
    have hg := block_lt_of_cell l0
    have hg2 := block_lt_of_cell k2
    simp only at hg hg2
    have HBX := Lib.hid hbW
    clear hbW
    have hle : decide (A * E + C * B ≤ B * E) = true := decide_eq_true hx
    refine wp_region_grew (by kernel_rfl) (by kernel_rfl) ?_
    repeat (first
      | go_big_quiet_step ((go_at_call 23; exact grew_of (HR2.out _)))
      | quiet_step ((go_at_call 23; exact grew_of (HR2.out _))))
    refine wpQuiet_nil ?_
    rintro _ ⟨g, rfl⟩
    go_wp2_with fail
    go_ret
    exact ⟨ret_bool (by go_tidy; simp [*]), grewB HBX.out HBX.out.size g⟩
set_option maxRecDepth 100000 in
theorem cuttingWeights_walks : Walks 4 Try.f4 := by
  intro H enc W base args ds p hval hA hlt
  rw [Try.params4] at hA hval
  obtain ⟨v0, vs0, d0, ds0, p0, q0, hargs, rfl, rfl, ⟨fu0, hf0⟩, r0⟩ := trodAll_cons hA
  obtain ⟨v1, vs1, d1, ds1, p1, q1, rfl, rfl, rfl, ⟨fu1, hf1⟩, r1⟩ := trodAll_cons r0
  obtain ⟨v2, vs2, d2, ds2, p2, q2, rfl, rfl, rfl, ⟨fu2, hf2⟩, r2⟩ := trodAll_cons r1
  obtain ⟨rfl, rfl, rfl⟩ := trodAll_nil r2
  obtain rfl : args = #[v0, v1, v2] := by cases args; simp_all
  obtain ⟨k, rfl⟩ := okWide_int Try.underlying3 (hval 0 3 v0 rfl rfl)
  obtain ⟨s0, g0, -, q0⟩ := DataW.trod_int Try.underlying3 hf0
  obtain rfl : s0 = k := by simpa [Value.cells] using g0.symm
  obtain ⟨num, rfl⟩ := okWide_int Try.underlying3 (hval 1 3 v1 rfl rfl)
  obtain ⟨s1, g1, -, q1⟩ := DataW.trod_int Try.underlying3 hf1
  obtain rfl : s1 = num := by simpa [Value.cells] using g1.symm
  obtain ⟨den, rfl⟩ := okWide_int Try.underlying3 (hval 2 3 v2 rfl rfl)
  obtain ⟨s2, g2, -, q2⟩ := DataW.trod_int Try.underlying3 hf2
  obtain rfl : s2 = den := by simpa [Value.cells] using g2.symm
  exact walkCuttingWeights s0 s1 s2 W (int_wf q0) (int_wf q1) (int_wf q2)

set_option maxRecDepth 100000 in
theorem cuttingWeights_holds : Rows.CuttingWeightsSaid :=
  law_holds (s := Rows.cuttingWeightsSpec) (c := Rows.cuttingWeightsRow) 4 Try.f4 rfl
    (fun H ds h => by match ds, h with | [_, _, _], _ => rfl) (by kernel_rfl) (by kernel_rfl)
    rfl rfl rfl rfl rfl rfl rfl ⟨rfl, rfl, rfl, rfl, rfl⟩ rfl rfl rfl rfl rfl rfl rfl rfl rfl rfl (fun _ _ => rfl) (by kernel_rfl) Try.func4
    cuttingWeights_closed (of_decide_eq_true (by kernel_rfl)) (by unfold Func.isWrapper; first | (rw [if_pos (by decide +kernel)]; kernel_rfl) | (rw [if_neg (by decide +kernel)]; exact ⟨rfl, rfl⟩)) (by kernel_rfl)
    (fun H enc os => ChangeSpec.witness6 (enc := enc) (C := Try.checked) false ⟨#[], #[.int .i64 0, .int .i64 0, .int .i64 0], []⟩ 8 (by kernel_rfl) (by kernel_rfl) (by kernel_rfl) (by kernel_rfl))
    cuttingWeights_walks
end Go.Proofs.Ytepiapgcpoifpaa
