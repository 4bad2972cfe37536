/- CuttingMatches returns true for every input: CheckMatch accepts just the matches, and names the first error of other ones. No condition. -/
import Derived.Test.YtepiapgcpoifpaaA8
import Derived.Test.YtepiapgcpoifpaaV3
import Derived.Test.YtepiapgcpoifpaaFactsMatches
set_option linter.unusedVariables false
set_option linter.unusedSimpArgs false
namespace Go.Proofs.Ytepiapgcpoifpaa
open Go Go.ChangeShapes Go.WideShapes Go.ChangeAt Go.RowKit

theorem list2 {cs : List Value} (h : cs.length = 2) : ∃ v0 v1, cs = [v0, v1] := by
  match cs, h with
  | [v0, v1], _ => exact ⟨_, _, rfl⟩
theorem veneer_open {H : Type} {enc : TypeId × Value → H} {w : World} {spare : Nat → Bool} {held : Bool} {fuel : Nat} {cs : List Value} {y : DataW H × List MemPlace} (h : DataW.trod enc Try.prog w 0 spare held fuel 70 cs = some y) :
    ∃ (a1 : Option Addr) (l1 : List Int) (c1 : Nat) (a2 : Option Addr) (l2 : List Bool) (c2 : Nat), cs = [.slice a1 l1.length c1, .slice a2 l2.length c2] ∧ (Intss.V w a1 l1 ∧ l1.length ≤ c1 ∧ c1 ≤ maxLen) ∧ (Bools.V w a2 l2 ∧ l2.length ≤ c2 ∧ c2 ≤ maxLen) := by
  obtain ⟨hl, m, hf⟩ := trod_fields Try.underlying70 (by kernel_rfl) (by kernel_rfl) h
  match cs, hl with
  | [v0, v1], _ =>
    obtain ⟨u0, y0, e0, t0⟩ := hf 0 _ rfl
    simp only [List.getElem?_cons_succ, List.getElem?_cons_zero, Option.some.injEq] at e0
    subst e0
    obtain ⟨a0, l0, c0, g0, q0, s0, z0⟩ := Intss.open_ t0
    subst g0
    obtain ⟨u1, y1, e1, t1⟩ := hf 1 _ rfl
    simp only [List.getElem?_cons_succ, List.getElem?_cons_zero, Option.some.injEq] at e1
    subst e1
    obtain ⟨a1, l1, c1, g1, q1, s1, z1⟩ := Bools.open_ t1
    subst g1
    exact ⟨a0, l0, c0, a1, l1, c1, rfl, ⟨q0, s0, z0⟩, ⟨q1, s1, z1⟩⟩
set_option maxRecDepth 100000 in
set_option maxHeartbeats 4000000 in
theorem walkCuttingMatches (fa : Option Addr) (f : List Int) (fc : Nat) (va1 : Option Addr) (v1 : List Int) (vc1 : Nat) (va2 : Option Addr) (v2 : List Bool) (vc2 : Nat) (w : World) (Vf : Intss.V w fa f) (Lf : f.length ≤ 9223372036854775807) (Cf : f.length ≤ fc) (Vv1 : Intss.V w va1 v1) (Lv1 : v1.length ≤ 9223372036854775807) (Cv1 : v1.length ≤ vc1) (Vv2 : Bools.V w va2 v2) (Lv2 : v2.length ≤ 9223372036854775807) (Cv2 : v2.length ≤ vc2) :
    Calls Try.prog 7 #[.slice fa f.length fc, .agg #[.slice va1 v1.length vc1, .slice va2 v2.length vc2]] w fun e w' => e = .returned (.bool true) ∧ Below w.heap.size w w' := by
  go_enter Try.func7, Try.ntmps7
  go_upto_region 1 with fail
  refine gen_world (fun W => (W.cell? ⟨w.heap.size, 0, none⟩ = some (.slice va1 v1.length vc1) ∧ W.cell? ⟨w.heap.size, 1, none⟩ = some (.slice va2 v2.length vc2)) ∧ Below w.heap.size w W ∧ w.heap.size < W.heap.size) ⟨⟨by simp, by simp⟩, (Below.refl _ _).alloc (Nat.le_refl _) _, by simp⟩ ?_
  rintro W ⟨⟨k0, k1⟩, hbW, hzW⟩
  go_upto_region 3 with (go_at_call 14; refine (awake_any _).mono ?_; rintro e w1 ⟨rfl, hb1⟩; have HB := Lib.hid (hbW.trans (hb1.mono hbW.size)); have k0' := cell_keep hb1 k0; have k1' := cell_keep hb1 k1; have hz1 : w.heap.size < w1.heap.size := Nat.lt_of_lt_of_le hzW hb1.size; clear hb1)
  clear k0 k1 hbW hzW
  by_cases hgo : (f.length ≤ 40 ∨ 400 < f.length) ∧ f.length ≤ 420 ∧ v1.length ≤ 50 ∧ v2.length ≤ 50
  · have h3 : ¬ (f.length : Int) > 420 := by omega
    have h4 : ¬ (v1.length : Int) > 50 := by omega
    have h5 : ¬ (v2.length : Int) > 50 := by omega
    have hl1 : f.length ≤ 1000000 := by omega
    have hl2 : v1.length ≤ 1000000 := by omega
    have hl3 : v2.length ≤ 1000000 := by omega
    have HP := Lib.hid (fun g => checkMatch_any fa f fc va1 v1 vc1 va2 v2 vc2 (grew w1.drew g) (Vf.keep (grewB HB.out.drew HB.out.size g)) (Vv1.keep (grewB HB.out.drew HB.out.size g)) (Vv2.keep (grewB HB.out.drew HB.out.size g)) hl1 hl2 hl3)
    have HR := Lib.hid (fun g => refCheckMatch_any fa f fc va1 v1 vc1 va2 v2 vc2 (grew w1.drew g) (Vf.keep (grewB HB.out.drew HB.out.size g)) (Vv1.keep (grewB HB.out.drew HB.out.size g)) (Vv2.keep (grewB HB.out.drew HB.out.size g)) hl1 hl2 hl3)
    generalize matchE f v1 v2 = E at *
    have hcase : (¬ (f.length : Int) > 40) ∨ ((f.length : Int) > 40 ∧ ¬ (f.length : Int) ≤ 400) := by omega
    clear hgo
    rcases hcase with h1 | ⟨h1, h2⟩
    all_goals
      go_wp2_with fail
      refine wp_region_grew (by kernel_rfl) (by kernel_rfl) ?_
      repeat (first
        | go_big_quiet_step (first | (go_at_call 34; exact grew_of (HP.out _)) | (go_at_call 35; exact grew_of (HR.out _)))
        | quiet_step (first | (go_at_call 34; exact grew_of (HP.out _)) | (go_at_call 35; exact grew_of (HR.out _))))
      refine wpQuiet_nil ?_
      rintro _ ⟨g, rfl⟩
      go_wp2_with fail
      go_ret
      exact ⟨ret_bool (by simp), grewB HB.out HB.out.size g⟩
  · by_cases h1 : (f.length : Int) > 40
    · by_cases h2 : (f.length : Int) ≤ 400
      · go_wp2_with fail
        go_ret
        exact ⟨rfl, HB.out⟩
      · by_cases h3 : (f.length : Int) > 420
        · go_wp2_with fail
          go_ret
          exact ⟨rfl, HB.out⟩
        · by_cases h4 : (v1.length : Int) > 50
          · go_wp2_with fail
            go_ret
            exact ⟨rfl, HB.out⟩
          · have h5 : (v2.length : Int) > 50 := by omega
            go_wp2_with fail
            go_ret
            exact ⟨rfl, HB.out⟩
    · have h3 : ¬ (f.length : Int) > 420 := by omega
      by_cases h4 : (v1.length : Int) > 50
      · go_wp2_with fail
        go_ret
        exact ⟨rfl, HB.out⟩
      · have h5 : (v2.length : Int) > 50 := by omega
        go_wp2_with fail
        go_ret
        exact ⟨rfl, HB.out⟩
set_option maxRecDepth 100000 in
theorem cuttingMatches_walks : Walks 7 Try.f7 := by
  intro H enc W base args ds p hval hA hlt
  rw [Try.params7] at hA hval
  obtain ⟨v0, vs0, d0, ds0, p0, q0, hargs, rfl, rfl, ⟨fu0, hf0⟩, r0⟩ := trodAll_cons hA
  obtain ⟨v1, vs1, d1, ds1, p1, q1, rfl, rfl, rfl, ⟨fu1, hf1⟩, r1⟩ := trodAll_cons r0
  obtain ⟨rfl, rfl, rfl⟩ := trodAll_nil r1
  obtain rfl : args = #[v0, v1] := by cases args; simp_all
  obtain ⟨_, _, _, rfl⟩ := okWide_slice Try.underlying59 (hval 0 59 v0 rfl rfl)
  obtain ⟨a0, f, c0, e0, V0, C0, M0⟩ := Intss.open_ hf0
  rw [e0]
  obtain ⟨cs1, rfl, -⟩ := okWide_struct Try.underlying70 (hval 1 70 v1 rfl rfl)
  obtain ⟨a1, l1, c1, b1, m1, d1, hc1, ⟨V1, C1, M1⟩, ⟨U1, D1, N1⟩⟩ := veneer_open hf1
  have hd1 : cs1 = #[.slice a1 l1.length c1, .slice b1 m1.length d1] := by
    cases cs1; simpa [Value.cells] using hc1
  subst hd1
  exact walkCuttingMatches a0 f c0 a1 l1 c1 b1 m1 d1 W V0 (by unfold maxLen at M0; omega) C0 V1 (by unfold maxLen at M1; omega) C1 U1 (by unfold maxLen at N1; omega) D1

set_option maxRecDepth 100000 in
theorem cuttingMatches_holds : Rows.CuttingMatchesSaid :=
  law_holds (s := Rows.cuttingMatchesSpec) (c := Rows.cuttingMatchesRow) 7 Try.f7 rfl
    (fun H ds h => by match ds, h with | [_, _], _ => rfl) (by kernel_rfl) (by kernel_rfl)
    rfl rfl rfl rfl rfl rfl rfl ⟨rfl, rfl, rfl, rfl, rfl⟩ rfl rfl rfl rfl rfl rfl rfl rfl rfl rfl (fun _ _ => rfl) (by kernel_rfl) Try.func7
    cuttingMatches_closed (of_decide_eq_true (by kernel_rfl)) (by unfold Func.isWrapper; first | (rw [if_pos (by decide +kernel)]; kernel_rfl) | (rw [if_neg (by decide +kernel)]; exact ⟨rfl, rfl⟩)) (by kernel_rfl)
    (fun H enc os => ChangeSpec.witness6 (enc := enc) (C := Try.checked) false ⟨#[], #[.slice none 0 0, .agg #[.slice none 0 0, .slice none 0 0]], []⟩ 8 (by kernel_rfl) (by kernel_rfl) (by kernel_rfl) (by kernel_rfl))
    cuttingMatches_walks
end Go.Proofs.Ytepiapgcpoifpaa
