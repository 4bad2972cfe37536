/- TimberSpecies returns true for every input: CheckSpecies and Find return what the document specifies. No condition. -/
import Derived.Test.YthhchnhidhgccaaAwake2
import Derived.Test.YthhchnhidhgccaaFactsSpecies
set_option linter.unusedVariables false
set_option linter.unusedSimpArgs false
namespace Go.Proofs.Ythhchnhidhgccaa
open Go Go.ChangeShapes Go.WideShapes Go.ChangeAt Go.RowKit

set_option maxHeartbeats 4000000 in
theorem walkTimberSpecies (la : Option Addr) (l : List Species) (lc : Nat) (nm : ByteArray) (w : World) (Vl : Speciess.V w la l) (Ll : l.length ≤ 9223372036854775807) (Cl : l.length ≤ lc) (Wnm : nm.size ≤ 9223372036854775807) :
    Calls Try.prog 6 #[.slice la l.length lc, .string nm] w fun e w' => e = .returned (.bool true) ∧ Below w.heap.size w w' := by
  by_cases h0 : checkSpecies l = 0
  · by_cases h1 : idxOf (nameIs nm) l < 0
    · have HE := Lib.hid (show findE l nm = 6 ∧ findV l nm = 0 from ⟨by simp [findE, h0, h1], by simp [findV, findE, h0, h1]⟩)
      have h0' : (checkSpecies l == 0) = true := by simp [h0]
      have h0'' : (checkSpecies l != 0) = false := by simp [h0]
      have H0 := Lib.hid h0
      clear h0
      go_enter Try.func6, Try.ntmps6
      go_wp2_with
        (first
          | (go_at_call 18; refine (awake_any _).mono ?_; rintro e w1 ⟨rfl, hb1⟩; have hz1 := hb1.size)
          | (go_at_call 19; refine (short_any _ l _ _ (Vl.keep hb1) Ll).mono ?_; rintro e w2 ⟨rfl, rfl⟩)
          | (go_at_call 30; refine (timberFind_any _ l _ _ _ (Vl.keep hb1) Ll).mono ?_; rintro e w3 ⟨rfl, hb3'⟩; have hb3 := hb1.trans (hb3'.mono hb1.size); have hz3 := hb3.size)
          | (go_at_call 31; refine (refCheckSpecies_any _ l _ _ (Vl.keep hb3) Ll Cl).mono ?_; rintro e w4 ⟨rfl, hb4'⟩; have hb4 := hb3.trans (hb4'.mono hb3.size); have hz4 := hb4.size)
          | (go_at_call 32; refine (checkSpecies_any _ l _ _ (Vl.keep hb4) Ll).mono ?_; rintro e w5 ⟨rfl, hb5'⟩; have hb5 := hb4.trans (hb5'.mono hb4.size); have hz5 := hb5.size)
          | (go_at_call 24; refine (refFind_any _ l _ _ _ (Vl.keep hb5) Ll).mono ?_; rintro e w6 ⟨rfl, rfl⟩))
      all_goals (go_ret; refine ⟨ret_bool ?_, by (repeat (first | assumption | (refine Below.setCell ?_ (by first | omega | (simp; omega) | (simp; done)) _) | (refine Below.alloc ?_ (by first | omega | (simp; omega) | (simp; done)) _)))⟩; go_tidy; first | rfl | (simp [HE.out, H0.out]; done) | exact absurd HE.out.1 (by assumption) | exact absurd HE.out.2 (by assumption))
    · have HE := Lib.hid (show findE l nm = 0 ∧ findV l nm = idxOf (nameIs nm) l from ⟨by simp [findE, h0, h1], by simp [findV, findE, h0, h1]⟩)
      have h0' : (checkSpecies l == 0) = true := by simp [h0]
      have h0'' : (checkSpecies l != 0) = false := by simp [h0]
      have H0 := Lib.hid h0
      clear h0
      go_enter Try.func6, Try.ntmps6
      go_wp2_with
        (first
          | (go_at_call 18; refine (awake_any _).mono ?_; rintro e w1 ⟨rfl, hb1⟩; have hz1 := hb1.size)
          | (go_at_call 19; refine (short_any _ l _ _ (Vl.keep hb1) Ll).mono ?_; rintro e w2 ⟨rfl, rfl⟩)
          | (go_at_call 30; refine (timberFind_any _ l _ _ _ (Vl.keep hb1) Ll).mono ?_; rintro e w3 ⟨rfl, hb3'⟩; have hb3 := hb1.trans (hb3'.mono hb1.size); have hz3 := hb3.size)
          | (go_at_call 31; refine (refCheckSpecies_any _ l _ _ (Vl.keep hb3) Ll Cl).mono ?_; rintro e w4 ⟨rfl, hb4'⟩; have hb4 := hb3.trans (hb4'.mono hb3.size); have hz4 := hb4.size)
          | (go_at_call 32; refine (checkSpecies_any _ l _ _ (Vl.keep hb4) Ll).mono ?_; rintro e w5 ⟨rfl, hb5'⟩; have hb5 := hb4.trans (hb5'.mono hb4.size); have hz5 := hb5.size)
          | (go_at_call 24; refine (refFind_any _ l _ _ _ (Vl.keep hb5) Ll).mono ?_; rintro e w6 ⟨rfl, rfl⟩))
      all_goals (go_ret; refine ⟨ret_bool ?_, by (repeat (first | assumption | (refine Below.setCell ?_ (by first | omega | (simp; omega) | (simp; done)) _) | (refine Below.alloc ?_ (by first | omega | (simp; omega) | (simp; done)) _)))⟩; go_tidy; first | rfl | (simp [HE.out, H0.out]; done) | exact absurd HE.out.1 (by assumption) | exact absurd HE.out.2 (by assumption))
  · have HE := Lib.hid (show findE l nm = checkSpecies l ∧ findV l nm = 0 from ⟨by simp [findE, h0], by simp [findV, findE, h0]⟩)
    have h0' : (checkSpecies l == 0) = false := by simp [h0]
    have h0'' : (checkSpecies l != 0) = true := by simp [h0]
    have H0 := Lib.hid h0
    clear h0
    go_enter Try.func6, Try.ntmps6
    go_wp2_with
      (first
        | (go_at_call 18; refine (awake_any _).mono ?_; rintro e w1 ⟨rfl, hb1⟩; have hz1 := hb1.size)
        | (go_at_call 19; refine (short_any _ l _ _ (Vl.keep hb1) Ll).mono ?_; rintro e w2 ⟨rfl, rfl⟩)
        | (go_at_call 30; refine (timberFind_any _ l _ _ _ (Vl.keep hb1) Ll).mono ?_; rintro e w3 ⟨rfl, hb3'⟩; have hb3 := hb1.trans (hb3'.mono hb1.size); have hz3 := hb3.size)
        | (go_at_call 31; refine (refCheckSpecies_any _ l _ _ (Vl.keep hb3) Ll Cl).mono ?_; rintro e w4 ⟨rfl, hb4'⟩; have hb4 := hb3.trans (hb4'.mono hb3.size); have hz4 := hb4.size)
        | (go_at_call 32; refine (checkSpecies_any _ l _ _ (Vl.keep hb4) Ll).mono ?_; rintro e w5 ⟨rfl, hb5'⟩; have hb5 := hb4.trans (hb5'.mono hb4.size); have hz5 := hb5.size)
        | (go_at_call 24; refine (refFind_any _ l _ _ _ (Vl.keep hb5) Ll).mono ?_; rintro e w6 ⟨rfl, rfl⟩))
    all_goals (go_ret; refine ⟨ret_bool ?_, by (repeat (first | assumption | (refine Below.setCell ?_ (by first | omega | (simp; omega) | (simp; done)) _) | (refine Below.alloc ?_ (by first | omega | (simp; omega) | (simp; done)) _)))⟩; go_tidy; first | rfl | (simp [HE.out, H0.out]; done) | exact absurd HE.out.1 (by assumption) | exact absurd HE.out.2 (by assumption))
set_option maxRecDepth 100000 in
theorem timberSpecies_walks : Walks 6 Try.f6 := by
  intro H enc W base args ds p hval hA hlt
  rw [Try.params6] at hA hval
  obtain ⟨v0, vs0, d0, ds0, p0, q0, hargs, rfl, rfl, ⟨fu0, hf0⟩, r0⟩ := trodAll_cons hA
  obtain ⟨v1, vs1, d1, ds1, p1, q1, rfl, rfl, rfl, ⟨fu1, hf1⟩, r1⟩ := trodAll_cons r0
  obtain ⟨rfl, rfl, rfl⟩ := trodAll_nil r1
  obtain rfl : args = #[v0, v1] := by cases args; simp_all
  obtain ⟨_, _, _, rfl⟩ := okWide_slice Try.underlying22 (hval 0 22 v0 rfl rfl)
  obtain ⟨a0, l, c0, e0, V0, C0, M0⟩ := Speciess.open_ hf0
  rw [e0]
  obtain ⟨nm, rfl⟩ := okWide_string Try.underlying9 (hval 1 9 v1 rfl rfl)
  obtain ⟨s1, g1, -, q1⟩ := DataW.trod_string Try.underlying9 hf1
  obtain rfl : s1 = nm := by simpa [Value.cells] using g1.symm
  exact walkTimberSpecies a0 l c0 s1 W V0 (by unfold maxLen at M0; omega) C0 q1

set_option maxRecDepth 100000 in
theorem timberSpecies_holds : Rows.TimberSpeciesSaid :=
  law_holds (s := Rows.timberSpeciesSpec) (c := Rows.timberSpeciesRow) 6 Try.f6 rfl
    (fun H ds h => by match ds, h with | [_, _], _ => rfl) (by kernel_rfl) (by kernel_rfl)
    rfl rfl rfl rfl rfl rfl rfl ⟨rfl, rfl, rfl, rfl, rfl⟩ rfl rfl rfl rfl rfl rfl rfl rfl rfl rfl (fun _ _ => rfl) (by kernel_rfl) Try.func6
    timberSpecies_closed (of_decide_eq_true (by kernel_rfl)) (by unfold Func.isWrapper; first | (rw [if_pos (by decide +kernel)]; kernel_rfl) | (rw [if_neg (by decide +kernel)]; exact ⟨rfl, rfl⟩)) (by kernel_rfl)
    (fun H enc os => ChangeSpec.witness6 (enc := enc) (C := Try.checked) false ⟨#[], #[.slice none 0 0, .string ⟨#[]⟩], []⟩ 8 (by kernel_rfl) (by kernel_rfl) (by kernel_rfl) (by kernel_rfl))
    timberSpecies_walks
end Go.Proofs.Ythhchnhidhgccaa
