/- TimberMasses returns true for every input: Mass returns the mass of a board, or the error of CheckBoard. No condition. -/
import Derived.Test.YthhchnhidhgccaaAwake2
import Derived.Test.YthhchnhidhgccaaFactsMasses
set_option linter.unusedVariables false
set_option linter.unusedSimpArgs false
namespace Go.Proofs.Ythhchnhidhgccaa
open Go Go.ChangeShapes Go.WideShapes Go.ChangeAt Go.RowKit

theorem refFind_k (a : Option Addr) (l : List Species) (c : Nat) (nm : ByteArray) (w : World) (k : Nat) (hv : Speciess.V w a l) (hl : l.length ≤ 9223372036854775807) (hi : idxOf (nameIs nm) l = k) :
    Calls Try.prog 24 #[.slice a l.length c, .string nm] w fun e w' => e = .returned (.int .i64 k) ∧ w = w' := by
  rw [← hi]; exact refFind_any a l c nm w hv hl

set_option maxHeartbeats 2000000 in
theorem walkMasses (sa : Option Addr) (l : List Species) (sc : Nat) (b : Board) (a : Option Addr) (c : Nat) (w : World) (hs : Speciess.V w sa l) (hsl : l.length ≤ 9223372036854775807) (hsc : l.length ≤ sc)
    (hv : Rects.V w a b.defects) (hl : b.defects.length ≤ 9223372036854775807) (hw : b.wf) :
    Calls Try.prog 3 #[.slice sa l.length sc, .agg #[.string b.name, .string b.species, .int .i64 b.length, .int .i64 b.width, .int .i64 b.thick, .int .i64 b.cut, .int .i64 b.moisture, .slice a b.defects.length c]] w fun e w' => e = .returned (.bool true) ∧ Below w.heap.size w w' := by
  by_cases h0 : checkBoardE l b = 0
  · have h0' : (checkBoardE l b != 0) = false := by simp [h0]
    obtain ⟨hcs, hbe, hix⟩ := checkBoardE_ok h0
    obtain ⟨k, hk, hi, -⟩ := idxOf_ok hix
    have hks : (k : Int) < (l.length : Int) := by omega
    have HM := Lib.hid (massV_ok h0 hk hi)
    have HS := Lib.hid ((checkSpecies_ok hcs).2 l[k] (List.getElem_mem _))
    have HB := Lib.hid (boardErr_ok hbe)
    have HI := Lib.hid hi
    clear hcs hbe hix hi
    go_enter Try.func3, Try.ntmps3
    go_wp2_with
      (first
        | (go_at_call 18; refine (awake_any _).mono ?_; rintro e w1 ⟨rfl, hb⟩; obtain ⟨hc1, hf1⟩ := bcell hb; have hz1 : w.heap.size < w1.heap.size := (by have := hb.size; simp at this; omega); have hb1 := ((Below.refl w.heap.size w).alloc (Nat.le_refl _) _).trans (hb.mono (by simp)))
        | (go_at_call 19; refine (short_any _ l _ _ (hs.keep hb1) hsl).mono ?_; rintro e w2 ⟨rfl, rfl⟩)
        | (go_at_call 20; refine (plain_any b _ _ _ hl hw).mono ?_; rintro e w3 ⟨rfl, hb'⟩; obtain ⟨hc3, hf3⟩ := bcell hb'; have hz3 : w.heap.size < w3.heap.size := (by have := hb'.size; omega); have hb3 := hb1.trans (hb'.mono hb1.size))
        | (go_at_call 21; refine (timberMass_any _ l _ b _ _ _ (hs.keep hb3) hsl (hv.keep hb3) hl hw).mono ?_; rintro e w4 ⟨rfl, hb''⟩; obtain ⟨hc4, hf4⟩ := bcell hb''; have hz4 : w.heap.size < w4.heap.size := (by have := hb''.size; omega); have hb4 := hb3.trans (hb''.mono hb3.size))
        | (go_at_call 22; refine (refCheckBoard_any _ l _ b _ _ _ (hs.keep hb4) hsl hsc (hv.keep hb4) hl hw).mono ?_; rintro e w5 ⟨rfl, hb'''⟩; obtain ⟨hc5, hf5⟩ := bcell hb'''; have hz5 : w.heap.size < w5.heap.size := (by have := hb'''.size; omega); have hb5 := hb4.trans (hb'''.mono hb4.size)))
    all_goals first
      | (go_ret; exact ⟨ret_bool (by go_tidy; rfl), hb3⟩)
      | (go_ret; exact ⟨ret_bool (by go_tidy; rfl), hb1⟩)
      | skip
    have hs5 := hs.keep hb5
    obtain ⟨bk, off, rfl, hat⟩ := hs5.at_ hk
    obtain ⟨c0, c1, c2, c3, c4, c5, c6, -⟩ := hat
    have hbk := block_lt_of_cell c0
    simp only at hbk
    refine wp_region_grew (by kernel_rfl) (by kernel_rfl) ?_
    repeat (first
      | go_big_quiet_step ((first | (go_at_call 24; exact grew_of_same (refFind_k _ l _ _ _ _ (hs5.keep (grewB (Below.refl _ _) (Nat.le_refl _) _)) hsl HI.out)) | (go_at_call 23; exact grew_of (refMass_any l[k] b a c _ HB.out HS.out))))
      | quiet_step ((first | (go_at_call 24; exact grew_of_same (refFind_k _ l _ _ _ _ (hs5.keep (grewB (Below.refl _ _) (Nat.le_refl _) _)) hsl HI.out)) | (go_at_call 23; exact grew_of (refMass_any l[k] b a c _ HB.out HS.out)))))
    refine wpQuiet_nil ?_
    rintro _ ⟨g, rfl⟩
    go_wp2_with fail
    go_ret
    exact ⟨ret_bool (by go_tidy; simp [HM.out]), grewB hb5 (by omega) _⟩
  · have h0' : (checkBoardE l b != 0) = true := by simp [h0]
    have hm := massV_err h0
    go_enter Try.func3, Try.ntmps3
    go_wp2_with
      (first
        | (go_at_call 18; refine (awake_any _).mono ?_; rintro e w1 ⟨rfl, hb⟩; obtain ⟨hc1, hf1⟩ := bcell hb; have hz1 : w.heap.size < w1.heap.size := (by have := hb.size; simp at this; omega); have hb1 := ((Below.refl w.heap.size w).alloc (Nat.le_refl _) _).trans (hb.mono (by simp)))
        | (go_at_call 19; refine (short_any _ l _ _ (hs.keep hb1) hsl).mono ?_; rintro e w2 ⟨rfl, rfl⟩)
        | (go_at_call 20; refine (plain_any b _ _ _ hl hw).mono ?_; rintro e w3 ⟨rfl, hb'⟩; obtain ⟨hc3, hf3⟩ := bcell hb'; have hz3 : w.heap.size < w3.heap.size := (by have := hb'.size; omega); have hb3 := hb1.trans (hb'.mono hb1.size))
        | (go_at_call 21; refine (timberMass_any _ l _ b _ _ _ (hs.keep hb3) hsl (hv.keep hb3) hl hw).mono ?_; rintro e w4 ⟨rfl, hb''⟩; obtain ⟨hc4, hf4⟩ := bcell hb''; have hz4 : w.heap.size < w4.heap.size := (by have := hb''.size; omega); have hb4 := hb3.trans (hb''.mono hb3.size))
        | (go_at_call 22; refine (refCheckBoard_any _ l _ b _ _ _ (hs.keep hb4) hsl hsc (hv.keep hb4) hl hw).mono ?_; rintro e w5 ⟨rfl, hb'''⟩; obtain ⟨hc5, hf5⟩ := bcell hb'''; have hz5 : w.heap.size < w5.heap.size := (by have := hb'''.size; omega); have hb5 := hb4.trans (hb'''.mono hb4.size)))
    all_goals first
      | (go_ret; exact ⟨ret_bool (by go_tidy; first | rfl | (simp [hm]; done)), hb5⟩)
      | (go_ret; exact ⟨ret_bool (by go_tidy; rfl), hb3⟩)
      | (go_ret; exact ⟨ret_bool (by go_tidy; rfl), hb1⟩)

set_option maxRecDepth 100000 in
theorem timberMasses_walks : Walks 3 Try.f3 := by
  intro H enc W base args ds p hval hA hlt
  rw [Try.params3] at hA hval
  obtain ⟨v0, vs0, d0, ds0, p0, q0, hargs, rfl, rfl, h0, r0⟩ := trodAll_cons hA
  obtain ⟨v1, vs1, d1, ds1, p1, q1, rfl, rfl, rfl, h1, r1⟩ := trodAll_cons r0
  obtain ⟨rfl, rfl, rfl⟩ := trodAll_nil r1
  obtain rfl : args = #[v0, v1] := by cases args; simp_all
  obtain ⟨sa, n, sc, rfl⟩ := okWide_slice Try.underlying22 (hval 0 22 v0 rfl rfl)
  obtain ⟨cs, rfl, -⟩ := okWide_struct Try.underlying25 (hval 1 25 v1 rfl rfl)
  obtain ⟨fuel, hf0⟩ := h0
  obtain ⟨fuel1, hf1⟩ := h1
  obtain ⟨a, l, c, hsl, hs, hlc, hcm⟩ := Speciess.open_ hf0
  obtain ⟨b, hb⟩ := Board.open_ hf1
  obtain ⟨ba, bc, hcs, hv, hbl, hbm, hwf⟩ := hb
  have hcs' : cs = #[.string b.name, .string b.species, .int .i64 b.length, .int .i64 b.width, .int .i64 b.thick, .int .i64 b.cut, .int .i64 b.moisture, .slice ba b.defects.length bc] := by
    cases cs; simpa [Value.cells] using hcs
  subst hcs'
  rw [hsl]
  exact walkMasses a l c b ba bc W hs (by unfold maxLen at hcm; omega) hlc hv (by unfold maxLen at hbm; omega) hwf

set_option maxRecDepth 100000 in
theorem timberMasses_holds : Rows.TimberMassesSaid :=
  law_holds (s := Rows.timberMassesSpec) (c := Rows.timberMassesRow) 3 Try.f3 rfl
    (fun H ds h => by match ds, h with | [_, _], _ => rfl) (by kernel_rfl) (by kernel_rfl)
    rfl rfl rfl rfl rfl rfl rfl ⟨rfl, rfl, rfl, rfl, rfl⟩ rfl rfl rfl rfl rfl rfl rfl rfl rfl rfl (fun _ _ => rfl) (by kernel_rfl) Try.func3
    timberMasses_closed (of_decide_eq_true (by kernel_rfl)) (by unfold Func.isWrapper; first | (rw [if_pos (by decide +kernel)]; kernel_rfl) | (rw [if_neg (by decide +kernel)]; exact ⟨rfl, rfl⟩)) (by kernel_rfl)
    (fun H enc os => ChangeSpec.witness6 (enc := enc) (C := Try.checked) false ⟨#[], #[.slice none 0 0, .agg #[.string ⟨#[]⟩, .string ⟨#[]⟩, .int .i64 0, .int .i64 0, .int .i64 0, .int .i64 0, .int .i64 0, .slice none 0 0]], []⟩ 8 (by kernel_rfl) (by kernel_rfl) (by kernel_rfl) (by kernel_rfl))
    timberMasses_walks
end Go.Proofs.Ythhchnhidhgccaa
