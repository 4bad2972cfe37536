/- Rates: what the program's Rate and the reference's Rate return. -/
import Derived.Test.YthhchnhidhgccaaMove2
set_option linter.unusedVariables false
set_option linter.unusedSimpArgs false
namespace Go.Proofs.Ythhchnhidhgccaa
open Go Go.RowKit

def rateOf (s : Species) (cut axis : Int) : Int := if axis = 0 then s.along else if (axis = 1) = (cut = 0) then s.across else s.radial
def rateE (s : Species) (cut axis : Int) : Int := if speciesErr s ≠ 0 then speciesErr s else if withinB cut 0 1 = false ∨ withinB axis 0 2 = false then 2 else 0
def rateV (s : Species) (cut axis : Int) : Int := if rateE s cut axis ≠ 0 then 0 else rateOf s cut axis

theorem timberRate0_any (s : Species) (cut axis : Int) (w : World) :
    Calls Try.prog 89 #[.agg #[.string s.name, .int .i64 s.along, .int .i64 s.across, .int .i64 s.radial, .int .i64 s.density, .int .i64 s.stiffness, .int .i64 s.strength], .int .i64 cut, .int .i64 axis] w fun e w' => e = .returned (.int .i64 (rateOf s cut axis)) ∧ Below w.heap.size w w' := by
  by_cases h0 : axis = 0
  · subst h0
    go_enter Try.func89, Try.ntmps89
    go_wp2_with fail
    go_ret
    exact ⟨ret_int (by first | (simp [rateOf]; done) | (simp [rateOf, *]; done) | (unfold rateOf; simp [*] <;> omega)), (Below.refl _ _).alloc (Nat.le_refl _) _⟩
  have b0 : (axis == 0) = false := by simpa using h0
  by_cases h1 : axis = 1
  · subst h1
    by_cases h2 : cut = 0
    · subst h2
      go_enter Try.func89, Try.ntmps89
      go_wp2_with fail
      go_ret
      exact ⟨ret_int (by first | (simp [rateOf]; done) | (simp [rateOf, *]; done) | (unfold rateOf; simp [*] <;> omega)), (Below.refl _ _).alloc (Nat.le_refl _) _⟩
    · have b2 : (cut == 0) = false := by simpa using h2
      go_enter Try.func89, Try.ntmps89
      go_wp2_with fail
      go_ret
      exact ⟨ret_int (by first | (simp [rateOf]; done) | (simp [rateOf, *]; done) | (unfold rateOf; simp [*] <;> omega)), (Below.refl _ _).alloc (Nat.le_refl _) _⟩
  · have b1 : (axis == 1) = false := by simpa using h1
    by_cases h2 : cut = 0
    · subst h2
      go_enter Try.func89, Try.ntmps89
      go_wp2_with fail
      go_ret
      exact ⟨ret_int (by first | (simp [rateOf]; done) | (simp [rateOf, *]; done) | (unfold rateOf; simp [*] <;> omega)), (Below.refl _ _).alloc (Nat.le_refl _) _⟩
    · have b2 : (cut == 0) = false := by simpa using h2
      go_enter Try.func89, Try.ntmps89
      go_wp2_with fail
      go_ret
      exact ⟨ret_int (by first | (simp [rateOf]; done) | (simp [rateOf, *]; done) | (unfold rateOf; simp [*] <;> omega)), (Below.refl _ _).alloc (Nat.le_refl _) _⟩

theorem rate_bad {s : Species} {cut axis x : Int} (h : rateE s cut axis = x) (hx : x ≠ 0) : rateE s cut axis = x ∧ rateV s cut axis = 0 := ⟨h, by unfold rateV; rw [h, if_pos hx]⟩
theorem rate_good {s : Species} {cut axis : Int} (h : rateE s cut axis = 0) : rateE s cut axis = 0 ∧ rateV s cut axis = rateOf s cut axis := ⟨h, by unfold rateV; rw [h]; rfl⟩
set_option maxHeartbeats 1000000 in
theorem timberRate_any (s : Species) (cut axis : Int) (w : World) (hs : s.name.size ≤ 9223372036854775807) :
    Calls Try.prog 40 #[.agg #[.string s.name, .int .i64 s.along, .int .i64 s.across, .int .i64 s.radial, .int .i64 s.density, .int .i64 s.stiffness, .int .i64 s.strength], .int .i64 cut, .int .i64 axis] w fun e w' => e = .returned (.tuple #[.int .i64 (rateV s cut axis), .int .i64 (rateE s cut axis)]) ∧ Below w.heap.size w w' := by
  have HV := Lib.hid (show rateV s cut axis = if rateE s cut axis ≠ 0 then 0 else rateOf s cut axis from rfl)
  have HE := Lib.hid (show rateE s cut axis = if speciesErr s ≠ 0 then speciesErr s else if withinB cut 0 1 = false ∨ withinB axis 0 2 = false then 2 else 0 from rfl)
  by_cases h0 : speciesErr s = 0
  · have h0' : (speciesErr s != 0) = false := by simp [h0]
    have H0 := Lib.hid h0
    clear h0
    cases h1 : withinB cut 0 1
    · have H1 := Lib.hid (rate_bad (x := 2) (by rw [HE.out]; simp [H0.out, h1]) (by decide))
      go_enter Try.func40, Try.ntmps40
      go_wp2_with (first
        | (go_at_call 81; refine (checkOne_any s _ hs).mono ?_; rintro e w1 ⟨rfl, hb⟩; obtain ⟨hc, hf⟩ := bcell hb; have hz := hb.size; have hz1 : w.heap.size < w1.heap.size := (by simp at hz; omega); have hb1 := ((Below.refl w.heap.size w).alloc (Nat.le_refl _) _).trans (hb.mono (by simp)))
        | (go_at_call 83; refine (within_any _ _ _ _).mono ?_; rintro e w' ⟨rfl, rfl⟩)
        | (go_at_call 89; refine (timberRate0_any s _ _ _).mono ?_; rintro e w2 ⟨rfl, hb2⟩; have hb3 := hb1.trans (hb2.mono hb1.size)))
      all_goals first
        | (go_ret2; exact ⟨ret_ints (by go_tidy; rw [H1.out.2]) (by go_tidy; rw [H1.out.1]), hb3⟩)
        | (go_ret2; exact ⟨ret_ints (by go_tidy; rw [H1.out.2]) (by go_tidy; rw [H1.out.1]), hb1⟩)
    · cases h2 : withinB axis 0 2
      · have H1 := Lib.hid (rate_bad (x := 2) (by rw [HE.out]; simp [H0.out, h1, h2]) (by decide))
        go_enter Try.func40, Try.ntmps40
        go_wp2_with (first
          | (go_at_call 81; refine (checkOne_any s _ hs).mono ?_; rintro e w1 ⟨rfl, hb⟩; obtain ⟨hc, hf⟩ := bcell hb; have hz := hb.size; have hz1 : w.heap.size < w1.heap.size := (by simp at hz; omega); have hb1 := ((Below.refl w.heap.size w).alloc (Nat.le_refl _) _).trans (hb.mono (by simp)))
          | (go_at_call 83; refine (within_any _ _ _ _).mono ?_; rintro e w' ⟨rfl, rfl⟩)
          | (go_at_call 89; refine (timberRate0_any s _ _ _).mono ?_; rintro e w2 ⟨rfl, hb2⟩; have hb3 := hb1.trans (hb2.mono hb1.size)))
        all_goals first
          | (go_ret2; exact ⟨ret_ints (by go_tidy; rw [H1.out.2]) (by go_tidy; rw [H1.out.1]), hb3⟩)
          | (go_ret2; exact ⟨ret_ints (by go_tidy; rw [H1.out.2]) (by go_tidy; rw [H1.out.1]), hb1⟩)
      · have H1 := Lib.hid (rate_good (by rw [HE.out]; simp [H0.out, h1, h2]))
        go_enter Try.func40, Try.ntmps40
        go_wp2_with (first
          | (go_at_call 81; refine (checkOne_any s _ hs).mono ?_; rintro e w1 ⟨rfl, hb⟩; obtain ⟨hc, hf⟩ := bcell hb; have hz := hb.size; have hz1 : w.heap.size < w1.heap.size := (by simp at hz; omega); have hb1 := ((Below.refl w.heap.size w).alloc (Nat.le_refl _) _).trans (hb.mono (by simp)))
          | (go_at_call 83; refine (within_any _ _ _ _).mono ?_; rintro e w' ⟨rfl, rfl⟩)
          | (go_at_call 89; refine (timberRate0_any s _ _ _).mono ?_; rintro e w2 ⟨rfl, hb2⟩; have hb3 := hb1.trans (hb2.mono hb1.size)))
        all_goals first
          | (go_ret2; exact ⟨ret_ints (by go_tidy; rw [H1.out.2]) (by go_tidy; rw [H1.out.1]), hb3⟩)
          | (go_ret2; exact ⟨ret_ints (by go_tidy; rw [H1.out.2]) (by go_tidy; rw [H1.out.1]), hb1⟩)
  · have h0' : (speciesErr s != 0) = true := by simp [h0]
    have H1 := Lib.hid (rate_bad (x := speciesErr s) (by rw [HE.out]; simp [h0]) h0)
    clear h0
    go_enter Try.func40, Try.ntmps40
    go_wp2_with (first
      | (go_at_call 81; refine (checkOne_any s _ hs).mono ?_; rintro e w1 ⟨rfl, hb⟩; obtain ⟨hc, hf⟩ := bcell hb; have hz := hb.size; have hz1 : w.heap.size < w1.heap.size := (by simp at hz; omega); have hb1 := ((Below.refl w.heap.size w).alloc (Nat.le_refl _) _).trans (hb.mono (by simp)))
      | (go_at_call 83; refine (within_any _ _ _ _).mono ?_; rintro e w' ⟨rfl, rfl⟩)
      | (go_at_call 89; refine (timberRate0_any s _ _ _).mono ?_; rintro e w2 ⟨rfl, hb2⟩; have hb3 := hb1.trans (hb2.mono hb1.size)))
    all_goals first
      | (go_ret2; exact ⟨ret_ints (by go_tidy; rw [H1.out.2]) (by go_tidy; rw [H1.out.1]), hb3⟩)
      | (go_ret2; exact ⟨ret_ints (by go_tidy; rw [H1.out.2]) (by go_tidy; rw [H1.out.1]), hb1⟩)
set_option maxHeartbeats 1000000 in
theorem refRate_any (s : Species) (cut axis : Int) (w : World) (hs : s.name.size ≤ 9223372036854775807) :
    Calls Try.prog 41 #[.agg #[.string s.name, .int .i64 s.along, .int .i64 s.across, .int .i64 s.radial, .int .i64 s.density, .int .i64 s.stiffness, .int .i64 s.strength], .int .i64 cut, .int .i64 axis] w fun e w' => e = .returned (.tuple #[.int .i64 (rateV s cut axis), .int .i64 (rateE s cut axis)]) ∧ Below w.heap.size w w' := by
  have HV := Lib.hid (show rateV s cut axis = if rateE s cut axis ≠ 0 then 0 else rateOf s cut axis from rfl)
  have HE := Lib.hid (show rateE s cut axis = if speciesErr s ≠ 0 then speciesErr s else if withinB cut 0 1 = false ∨ withinB axis 0 2 = false then 2 else 0 from rfl)
  by_cases h0 : speciesErr s = 0
  · have h0' : (speciesErr s != 0) = false := by simp [h0]
    have H0 := Lib.hid h0
    clear h0
    cases h1 : withinB cut 0 1
    · have H1 := Lib.hid (rate_bad (x := 2) (by rw [HE.out]; simp [H0.out, h1]) (by decide))
      go_enter Try.func41, Try.ntmps41
      go_wp2_with (first
        | (go_at_call 80; refine (speciesErr_any s _ hs).mono ?_; rintro e w1 ⟨rfl, hb⟩; obtain ⟨hc, hf⟩ := bcell hb; have hz := hb.size; have hz1 : w.heap.size < w1.heap.size := (by simp at hz; omega); have hb1 := ((Below.refl w.heap.size w).alloc (Nat.le_refl _) _).trans (hb.mono (by simp)))
        | (go_at_call 28; refine (baseWithin_any _ _ _ _).mono ?_; rintro e w' ⟨rfl, rfl⟩))
      all_goals (go_ret2; exact ⟨ret_ints (by go_tidy; rw [H1.out.2]) (by go_tidy; rw [H1.out.1]), hb1⟩)
    · cases h2 : withinB axis 0 2
      · have H1 := Lib.hid (rate_bad (x := 2) (by rw [HE.out]; simp [H0.out, h1, h2]) (by decide))
        go_enter Try.func41, Try.ntmps41
        go_wp2_with (first
          | (go_at_call 80; refine (speciesErr_any s _ hs).mono ?_; rintro e w1 ⟨rfl, hb⟩; obtain ⟨hc, hf⟩ := bcell hb; have hz := hb.size; have hz1 : w.heap.size < w1.heap.size := (by simp at hz; omega); have hb1 := ((Below.refl w.heap.size w).alloc (Nat.le_refl _) _).trans (hb.mono (by simp)))
          | (go_at_call 28; refine (baseWithin_any _ _ _ _).mono ?_; rintro e w' ⟨rfl, rfl⟩))
        all_goals (go_ret2; exact ⟨ret_ints (by go_tidy; rw [H1.out.2]) (by go_tidy; rw [H1.out.1]), hb1⟩)
      · have H2 := Lib.hid (rate_good (by rw [HE.out]; simp [H0.out, h1, h2]))
        by_cases k0 : axis = 0
        · subst k0
          have H1 := Lib.hid (show rateE s cut 0 = 0 ∧ rateV s cut 0 = s.along from ⟨H2.out.1, by rw [H2.out.2]; simp [rateOf]⟩)
          go_enter Try.func41, Try.ntmps41
          go_wp2_with (first
            | (go_at_call 80; refine (speciesErr_any s _ hs).mono ?_; rintro e w1 ⟨rfl, hb⟩; obtain ⟨hc, hf⟩ := bcell hb; have hz := hb.size; have hz1 : w.heap.size < w1.heap.size := (by simp at hz; omega); have hb1 := ((Below.refl w.heap.size w).alloc (Nat.le_refl _) _).trans (hb.mono (by simp)))
            | (go_at_call 28; refine (baseWithin_any _ _ _ _).mono ?_; rintro e w' ⟨rfl, rfl⟩))
          all_goals (go_ret2; exact ⟨ret_ints (by go_tidy; rw [H1.out.2]) (by go_tidy; rw [H1.out.1]), hb1⟩)
        have b0 : (axis == 0) = false := by simpa using k0
        by_cases k1 : axis = 1
        · subst k1
          by_cases k2 : cut = 0
          · subst k2
            have H1 := Lib.hid (show rateE s 0 1 = 0 ∧ rateV s 0 1 = s.across from ⟨H2.out.1, by rw [H2.out.2]; simp [rateOf]⟩)
            go_enter Try.func41, Try.ntmps41
            go_wp2_with (first
              | (go_at_call 80; refine (speciesErr_any s _ hs).mono ?_; rintro e w1 ⟨rfl, hb⟩; obtain ⟨hc, hf⟩ := bcell hb; have hz := hb.size; have hz1 : w.heap.size < w1.heap.size := (by simp at hz; omega); have hb1 := ((Below.refl w.heap.size w).alloc (Nat.le_refl _) _).trans (hb.mono (by simp)))
              | (go_at_call 28; refine (baseWithin_any _ _ _ _).mono ?_; rintro e w' ⟨rfl, rfl⟩))
            all_goals (go_ret2; exact ⟨ret_ints (by go_tidy; rw [H1.out.2]) (by go_tidy; rw [H1.out.1]), hb1⟩)
          · have b2 : (cut == 0) = false := by simpa using k2
            have H1 := Lib.hid (show rateE s cut 1 = 0 ∧ rateV s cut 1 = s.radial from ⟨H2.out.1, by rw [H2.out.2]; simp [rateOf, k2]⟩)
            go_enter Try.func41, Try.ntmps41
            go_wp2_with (first
              | (go_at_call 80; refine (speciesErr_any s _ hs).mono ?_; rintro e w1 ⟨rfl, hb⟩; obtain ⟨hc, hf⟩ := bcell hb; have hz := hb.size; have hz1 : w.heap.size < w1.heap.size := (by simp at hz; omega); have hb1 := ((Below.refl w.heap.size w).alloc (Nat.le_refl _) _).trans (hb.mono (by simp)))
              | (go_at_call 28; refine (baseWithin_any _ _ _ _).mono ?_; rintro e w' ⟨rfl, rfl⟩))
            all_goals (go_ret2; exact ⟨ret_ints (by go_tidy; rw [H1.out.2]) (by go_tidy; rw [H1.out.1]), hb1⟩)
        · have b1 : (axis == 1) = false := by simpa using k1
          by_cases k2 : cut = 0
          · subst k2
            have H1 := Lib.hid (show rateE s 0 axis = 0 ∧ rateV s 0 axis = s.radial from ⟨H2.out.1, by rw [H2.out.2]; simp [rateOf, k0, k1]⟩)
            go_enter Try.func41, Try.ntmps41
            go_wp2_with (first
              | (go_at_call 80; refine (speciesErr_any s _ hs).mono ?_; rintro e w1 ⟨rfl, hb⟩; obtain ⟨hc, hf⟩ := bcell hb; have hz := hb.size; have hz1 : w.heap.size < w1.heap.size := (by simp at hz; omega); have hb1 := ((Below.refl w.heap.size w).alloc (Nat.le_refl _) _).trans (hb.mono (by simp)))
              | (go_at_call 28; refine (baseWithin_any _ _ _ _).mono ?_; rintro e w' ⟨rfl, rfl⟩))
            all_goals (go_ret2; exact ⟨ret_ints (by go_tidy; rw [H1.out.2]) (by go_tidy; rw [H1.out.1]), hb1⟩)
          · have b2 : (cut == 0) = false := by simpa using k2
            have H1 := Lib.hid (show rateE s cut axis = 0 ∧ rateV s cut axis = s.across from ⟨H2.out.1, by rw [H2.out.2]; simp [rateOf, k0, k1, k2]⟩)
            go_enter Try.func41, Try.ntmps41
            go_wp2_with (first
              | (go_at_call 80; refine (speciesErr_any s _ hs).mono ?_; rintro e w1 ⟨rfl, hb⟩; obtain ⟨hc, hf⟩ := bcell hb; have hz := hb.size; have hz1 : w.heap.size < w1.heap.size := (by simp at hz; omega); have hb1 := ((Below.refl w.heap.size w).alloc (Nat.le_refl _) _).trans (hb.mono (by simp)))
              | (go_at_call 28; refine (baseWithin_any _ _ _ _).mono ?_; rintro e w' ⟨rfl, rfl⟩))
            all_goals (go_ret2; exact ⟨ret_ints (by go_tidy; rw [H1.out.2]) (by go_tidy; rw [H1.out.1]), hb1⟩)
  · have h0' : (speciesErr s != 0) = true := by simp [h0]
    have H1 := Lib.hid (rate_bad (x := speciesErr s) (by rw [HE.out]; simp [h0]) h0)
    clear h0
    go_enter Try.func41, Try.ntmps41
    go_wp2_with (first
      | (go_at_call 80; refine (speciesErr_any s _ hs).mono ?_; rintro e w1 ⟨rfl, hb⟩; obtain ⟨hc, hf⟩ := bcell hb; have hz := hb.size; have hz1 : w.heap.size < w1.heap.size := (by simp at hz; omega); have hb1 := ((Below.refl w.heap.size w).alloc (Nat.le_refl _) _).trans (hb.mono (by simp)))
      | (go_at_call 28; refine (baseWithin_any _ _ _ _).mono ?_; rintro e w' ⟨rfl, rfl⟩))
    all_goals (go_ret2; exact ⟨ret_ints (by go_tidy; rw [H1.out.2]) (by go_tidy; rw [H1.out.1]), hb1⟩)
end Go.Proofs.Ythhchnhidhgccaa
