/- CuttingBarChecks returns true for every input: CheckCrosscut accepts just the right assignments, and names the first error of other ones. No condition. -/
import Derived.Test.YtepiapgcpoifpaaA8
import Derived.Test.YtepiapgcpoifpaaBB
import Derived.Test.YtepiapgcpoifpaaFactsBarChecks
set_option linter.unusedVariables false
set_option linter.unusedSimpArgs false
namespace Go.Proofs.Ytepiapgcpoifpaa
open Go Go.ChangeShapes Go.WideShapes Go.ChangeAt Go.RowKit

theorem cross_open {H : Type} {enc : TypeId × Value → H} {w : World} {spare : Nat → Bool} {held : Bool} {fuel : Nat} {cs : List Value} {y : DataW H × List MemPlace} (h : DataW.trod enc Try.prog w 0 spare held fuel 61 cs = some y) :
    ∃ (a1 : Option Addr) (l1 : List Int) (c1 : Nat) (a2 : Option Addr) (l2 : List Int) (c2 : Nat) (k : Int), cs = [.slice a1 l1.length c1, .slice a2 l2.length c2, .int .i64 k] ∧ (Intss.V w a1 l1 ∧ l1.length ≤ c1 ∧ c1 ≤ maxLen) ∧ (Intss.V w a2 l2 ∧ l2.length ≤ c2 ∧ c2 ≤ maxLen) ∧ (-9223372036854775808 ≤ k ∧ k ≤ 9223372036854775807) := by
  obtain ⟨hl, m, hf⟩ := trod_fields Try.underlying61 (by kernel_rfl) (by kernel_rfl) h
  match cs, hl with
  | [v0, v1, v2], _ =>
    obtain ⟨u0, y0, e0, t0⟩ := hf 0 _ rfl
    simp only [List.getElem?_cons_succ, List.getElem?_cons_zero, Option.some.injEq] at e0
    subst e0
    obtain ⟨a0, l0, c0, g0, q0, s0, z0⟩ := Intss.open_ t0
    subst g0
    obtain ⟨u1, y1, e1, t1⟩ := hf 1 _ rfl
    simp only [List.getElem?_cons_succ, List.getElem?_cons_zero, Option.some.injEq] at e1
    subst e1
    obtain ⟨a1, l1, c1, g1, q1, s1, z1⟩ := Intss.open_ t1
    subst g1
    obtain ⟨u2, y2, e2, t2⟩ := hf 2 _ rfl
    simp only [List.getElem?_cons_succ, List.getElem?_cons_zero, Option.some.injEq] at e2
    subst e2
    obtain ⟨n, g, -, q⟩ := DataW.trod_int Try.underlying3 t2
    have g2 : v2 = .int .i64 n := by simpa using g
    subst g2
    exact ⟨a0, l0, c0, a1, l1, c1, n, rfl, ⟨q0, s0, z0⟩, ⟨q1, s1, z1⟩, int_wf q⟩
def CutRel (W : World) (w : World) (l : List (List Int)) (iv : Value) (wr : World) : Prop := ∃ k : Nat, k ≤ l.length ∧ iv = .int .i64 k ∧ Hid (∀ j (hj : j < l.length), j < k → decide (l[j].length ≤ 20) = true) ∧ Below W.heap.size W wr
set_option maxRecDepth 100000 in
set_option maxHeartbeats 8000000 in
theorem walkCuttingBarChecks (ca1 : Option Addr) (c1 : List Int) (cc1 : Nat) (ca2 : Option Addr) (c2 : List Int) (cc2 : Nat) (ck : Int) (la : Option Addr) (l : List (List Int)) (lc : Nat) (w : World) (Vc1 : Intss.V w ca1 c1) (Lc1 : c1.length ≤ 9223372036854775807) (Cc1 : c1.length ≤ cc1) (Vc2 : Intss.V w ca2 c2) (Lc2 : c2.length ≤ 9223372036854775807) (Cc2 : c2.length ≤ cc2) (Wc : -9223372036854775808 ≤ ck ∧ ck ≤ 9223372036854775807) (Vl : Listss.V w la l) (Ll : l.length ≤ 9223372036854775807) (Cl : l.length ≤ lc) :
    Calls Try.prog 6 #[.agg #[.slice ca1 c1.length cc1, .slice ca2 c2.length cc2, .int .i64 ck], .slice la l.length lc] w fun e w' => e = .returned (.bool true) ∧ Below w.heap.size w w' := by
  go_enter Try.func6, Try.ntmps6
  go_upto_region 1 with fail
  refine gen_world (fun W => CB W w.heap.size ca1 c1.length cc1 ca2 c2.length cc2 ck ∧ Below w.heap.size w W ∧ w.heap.size < W.heap.size) ⟨⟨by simp, by simp, by simp⟩, (Below.refl _ _).alloc (Nat.le_refl _) _, by simp⟩ ?_
  rintro W ⟨hC, hbW, hzW⟩
  have HC := Lib.hid hC
  have HBW := Lib.hid hbW
  clear hC hbW
  go_upto_region 3 with (go_at_call 14; refine (awake_any _).mono ?_; rintro e w1 ⟨rfl, hb1⟩; have HB1 := Lib.hid hb1; clear hb1)
  have HB := Lib.hid (HBW.out.trans (HB1.out.mono (Nat.le_of_lt hzW)))
  have HC1 := Lib.hid (HC.out.keep HB1.out)
  have hzw1 : w.heap.size < w1.heap.size := Nat.lt_of_lt_of_le hzW HB1.out.size
  clear HC HBW HB1 hzW
  obtain ⟨k0, k1, k2⟩ := HC1.out
  by_cases h1 : (c1.length : Int) > 20
  · go_wp2_with fail
    go_ret
    exact ⟨rfl, HB.out⟩
  · by_cases h2 : (c2.length : Int) > 20
    · go_wp2_with fail
      go_ret
      exact ⟨rfl, HB.out⟩
    · by_cases h3 : (l.length : Int) > 20
      · go_wp2_with fail
        go_ret
        exact ⟨rfl, HB.out⟩
      · go_wp2_with fail
        clear k0 k1 k2
        go_loopw [5] (fun iv wr => ∃ k : Nat, k ≤ l.length ∧ iv = .int .i64 k ∧ Hid (∀ j (hj : j < l.length), j < k → decide (l[j].length ≤ 20) = true) ∧ Below w1.heap.size w1 wr) (fun iv _ => l.length - (intOf iv).toNat)
        case atStart => exact ⟨0, Nat.zero_le _, rfl, Lib.hid (fun j _ h => by omega), Below.refl _ _⟩
        case round =>
          obtain ⟨k, hk, rfl, HK, hbr⟩ := hrel
          have HBX := Lib.hid (HB.out.trans (hbr.mono (Nat.le_of_lt hzw1)))
          by_cases hlt : k < l.length
          · obtain ⟨b, off, ad, cd, rfl, c0, hx⟩ := (Vl.keep HBX.out).at' hlt
            have HS := Lib.hid (fun h => all_step (p := fun x : List Int => decide (x.length ≤ 20)) hlt HK.out h)
            have hki : (k : Int) < (l.length : Int) := by omega
            clear HK hx
            generalize l[k] = x at *
            by_cases hx20 : (x.length : Int) > 20
            · go_wp2_with fail
              go_ret
              exact ⟨rfl, HBX.out⟩
            · have HR := Lib.hid (HS.out (by simp only [decide_eq_true_eq]; omega))
              clear HS
              go_wp2_with fail
              go_roundw
              case rel => exact ⟨k + 1, by omega, by go_num, HR, hbr⟩
              case measure => simp [intOf]; omega
          · have hki : ¬ (k : Int) < (l.length : Int) := by omega
            have hl4 : ∀ x ∈ l, x.length ≤ 20 := by
              intro x hx
              obtain ⟨j, hj, rfl⟩ := List.mem_iff_getElem.1 hx
              simpa using HK.out j hj (by omega)
            have HL4 := Lib.hid hl4
            have HP := Lib.hid (checkBarsP_any ca1 ca2 la c1 c2 l cc1 cc2 lc ck wr (Vc1.keep HBX.out) (Vc2.keep HBX.out) (Vl.keep HBX.out) (by omega) (by omega) (by omega) hl4)
            have HR := Lib.hid (fun w9 (hb : Below w.heap.size w w9) => refCheckBars_any ca1 ca2 la c1 c2 l cc1 cc2 lc ck w9 (Vc1.keep hb) (Vc2.keep hb) (Vl.keep hb) (by omega) (by omega) (by omega) hl4 Wc)
            generalize assignM c1 c2 ck l = q at *
            have HC2 := Lib.hid (HC1.out.keep hbr)
            have hzr : w.heap.size < wr.heap.size := Nat.lt_of_lt_of_le hzw1 hbr.size
            clear HK hl4 hbr
            obtain ⟨k0, k1, k2⟩ := HC2.out
            go_upto_region 11 with (go_at_call 32; refine HP.out.mono ?_; rintro e w2 ⟨rfl, hb⟩; have HB2 := Lib.hid (HBX.out.trans (hb.mono HBX.out.size)); have k0' := cell_keep hb k0; have k1' := cell_keep hb k1; have k2' := cell_keep hb k2; clear hb)
            clear k0 k1 k2
            go_wp2_with (go_at_call 33; refine (HR.out _ HB2.out).mono ?_; rintro e w3 ⟨rfl, hb⟩; have HB3 := Lib.hid (HB2.out.trans (hb.mono HB2.out.size)); clear hb)
            go_ret
            exact ⟨ret_bool (by simp), HB3.out⟩
set_option maxRecDepth 100000 in
theorem cuttingBarChecks_walks : Walks 6 Try.f6 := by
  intro H enc W base args ds p hval hA hlt
  rw [Try.params6] at hA hval
  obtain ⟨v0, vs0, d0, ds0, p0, q0, hargs, rfl, rfl, ⟨fu0, hf0⟩, r0⟩ := trodAll_cons hA
  obtain ⟨v1, vs1, d1, ds1, p1, q1, rfl, rfl, rfl, ⟨fu1, hf1⟩, r1⟩ := trodAll_cons r0
  obtain ⟨rfl, rfl, rfl⟩ := trodAll_nil r1
  obtain rfl : args = #[v0, v1] := by cases args; simp_all
  obtain ⟨cs0, rfl, -⟩ := okWide_struct Try.underlying61 (hval 0 61 v0 rfl rfl)
  obtain ⟨a0, l0, c0, b0, m0, d0, k0, hc0, ⟨V0, C0, M0⟩, ⟨U0, D0, N0⟩, W0⟩ := cross_open hf0
  have hd0 : cs0 = #[.slice a0 l0.length c0, .slice b0 m0.length d0, .int .i64 k0] := by
    cases cs0; simpa [Value.cells] using hc0
  subst hd0
  obtain ⟨_, _, _, rfl⟩ := okWide_slice Try.underlying62 (hval 1 62 v1 rfl rfl)
  obtain ⟨a1, l, c1, e1, V1, C1, M1⟩ := Listss.open_ hf1
  rw [e1]
  exact walkCuttingBarChecks a0 l0 c0 b0 m0 d0 k0 a1 l c1 W V0 (by unfold maxLen at M0; omega) C0 U0 (by unfold maxLen at N0; omega) D0 W0 V1 (by unfold maxLen at M1; omega) C1

set_option maxRecDepth 100000 in
theorem cuttingBarChecks_holds : Rows.CuttingBarChecksSaid :=
  law_holds (s := Rows.cuttingBarChecksSpec) (c := Rows.cuttingBarChecksRow) 6 Try.f6 rfl
    (fun H ds h => by match ds, h with | [_, _], _ => rfl) (by kernel_rfl) (by kernel_rfl)
    rfl rfl rfl rfl rfl rfl rfl ⟨rfl, rfl, rfl, rfl, rfl⟩ rfl rfl rfl rfl rfl rfl rfl rfl rfl rfl (fun _ _ => rfl) (by kernel_rfl) Try.func6
    cuttingBarChecks_closed (of_decide_eq_true (by kernel_rfl)) (by unfold Func.isWrapper; first | (rw [if_pos (by decide +kernel)]; kernel_rfl) | (rw [if_neg (by decide +kernel)]; exact ⟨rfl, rfl⟩)) (by kernel_rfl)
    (fun H enc os => ChangeSpec.witness6 (enc := enc) (C := Try.checked) false ⟨#[], #[.agg #[.slice none 0 0, .slice none 0 0, .int .i64 0], .slice none 0 0], []⟩ 8 (by kernel_rfl) (by kernel_rfl) (by kernel_rfl) (by kernel_rfl))
    cuttingBarChecks_walks
end Go.Proofs.Ytepiapgcpoifpaa
