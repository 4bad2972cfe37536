/- Numbers: rounding down and up, and the exact size in millionths, of the program and of the reference. -/
import Derived.Test.YthhchnhidhgccaaBoards3
import Derived.Deep.RegionHeld3
set_option linter.unusedVariables false
set_option linter.unusedSimpArgs false
namespace Go.Proofs.Ythhchnhidhgccaa
open Go Go.RowKit

theorem floor_form (n d : Int) (hd : 1 ≤ d) : n / d = if n.tmod d < 0 then n.tdiv d - 1 else n.tdiv d := by
  rw [Int.tdiv_eq_ediv, Int.tmod_eq_emod]
  have h1 := Int.emod_nonneg n (show d ≠ 0 by omega)
  have h2 := Int.emod_lt_of_pos n (show 0 < d by omega)
  have h3 : d.sign = 1 := Int.sign_eq_one_of_pos (by omega)
  have h4 : (d.natAbs : Int) = d := by omega
  by_cases hc : 0 ≤ n ∨ d ∣ n
  · simp only [hc, if_true]
    rw [if_neg (by omega)]; omega
  · simp only [hc, if_false, h3, h4]
    rw [if_pos (by omega)]; omega

theorem moved_bounds {rate x y : Int} (h1 : 0 ≤ rate) (h2 : rate ≤ 2000) (h3 : 0 ≤ x) (h4 : x ≤ 400) (h5 : 0 ≤ y) (h6 : y ≤ 400) :
    -560000 ≤ rate * (min x 280 - min y 280) ∧ rate * (min x 280 - min y 280) ≤ 560000 := by
  have a1 : -280 ≤ min x 280 - min y 280 := by omega
  have a2 : min x 280 - min y 280 ≤ 280 := by omega
  generalize min x 280 - min y 280 = d at *
  constructor
  · have := Int.mul_le_mul_of_nonneg_left a1 h1; omega
  · have := Int.mul_le_mul_of_nonneg_left a2 h1; omega
def moved (size rate from_ to : Int) : Int := size * (1000000 + rate * (min to 280 - min from_ 280))
theorem moved_range {size rate x y : Int} (s1 : 0 ≤ size) (s2 : size ≤ 600000) (h1 : 0 ≤ rate) (h2 : rate ≤ 2000) (h3 : 0 ≤ x) (h4 : x ≤ 400) (h5 : 0 ≤ y) (h6 : y ≤ 400) :
    0 ≤ moved size rate y x ∧ moved size rate y x ≤ 936000000000 := by
  have hb := moved_bounds h1 h2 h3 h4 h5 h6
  unfold moved
  generalize rate * (min x 280 - min y 280) = d at *
  constructor
  · exact Int.mul_nonneg s1 (by omega)
  · have := Int.mul_le_mul s2 (show 1000000 + d ≤ 1560000 by omega) (by omega) (by omega); omega

theorem moved_w {size rate d : Int} (s1 : 0 ≤ size) (s2 : size ≤ 600000) (h1 : 0 ≤ rate) (h2 : rate ≤ 2000) (h3 : -280 ≤ d) (h4 : d ≤ 280) :
    wrap64 (size * wrap64 (1000000 + wrap64 (rate * d))) = size * (1000000 + rate * d) := by
  have a1 : -560000 ≤ rate * d := by have := Int.mul_le_mul_of_nonneg_left h3 h1; omega
  have a2 : rate * d ≤ 560000 := by have := Int.mul_le_mul_of_nonneg_left h4 h1; omega
  rw [IntWalk.wrap64_in (rate * d) (by omega)]
  generalize rate * d = e at *
  rw [IntWalk.wrap64_in (1000000 + e) (by omega)]
  have b1 : 0 ≤ size * (1000000 + e) := Int.mul_nonneg s1 (by omega)
  have b2 : size * (1000000 + e) ≤ 600000 * 1560000 := Int.mul_le_mul s2 (by omega) (by omega) (by omega)
  rw [IntWalk.wrap64_in _ (by omega)]
theorem moved_w0 {size : Int} (s1 : 0 ≤ size) (s2 : size ≤ 600000) : wrap64 (size * wrap64 (1000000 + wrap64 0)) = size * (1000000 + 0) := by
  rw [IntWalk.wrap64_in 0 (by omega), IntWalk.wrap64_in (1000000 + 0) (by omega), IntWalk.wrap64_in _ (by omega)]

theorem timberMoved_any (size rate x y : Int) (w : World) (s1 : 0 ≤ size) (s2 : size ≤ 600000) (h1 : 0 ≤ rate) (h2 : rate ≤ 2000) (h3 : 0 ≤ x) (h4 : x ≤ 400) (h5 : 0 ≤ y) (h6 : y ≤ 400) :
    Calls Try.prog 77 #[.int .i64 size, .int .i64 rate, .int .i64 y, .int .i64 x] w fun e w' => e = .returned (.int .i64 (moved size rate y x)) ∧ w = w' := by
  go_enter Try.func77, Try.ntmps77
  go_wp2
  all_goals go_ret
  · exact ⟨ret_int ((moved_w0 s1 s2).trans (by unfold moved; rw [show min x 280 - min y 280 = 0 by omega]; simp)), rfl⟩
  · exact ⟨ret_int ((moved_w s1 s2 h1 h2 (by omega) (by omega)).trans (by unfold moved; congr 3; omega)), rfl⟩
  · exact ⟨ret_int ((moved_w s1 s2 h1 h2 (by omega) (by omega)).trans (by unfold moved; congr 3; omega)), rfl⟩
  · exact ⟨ret_int ((moved_w s1 s2 h1 h2 (by omega) (by omega)).trans (by unfold moved; congr 3; omega)), rfl⟩

theorem millionths_any (size rate x y : Int) (w : World) (s1 : 0 ≤ size) (s2 : size ≤ 600000) (h1 : 0 ≤ rate) (h2 : rate ≤ 2000) (h3 : 0 ≤ x) (h4 : x ≤ 400) (h5 : 0 ≤ y) (h6 : y ≤ 400) :
    Calls Try.prog 78 #[.int .i64 size, .int .i64 rate, .int .i64 y, .int .i64 x] w fun e w' => e = .returned (.int .i64 (moved size rate y x)) ∧ w = w' := by
  go_enter Try.func78, Try.ntmps78
  go_wp2
  all_goals go_ret
  · exact ⟨ret_int ((moved_w0 s1 s2).trans (by unfold moved; rw [show min x 280 - min y 280 = 0 by omega]; simp)), rfl⟩
  · exact ⟨ret_int ((moved_w s1 s2 h1 h2 (by omega) (by omega)).trans (by unfold moved; congr 3; omega)), rfl⟩
  · exact ⟨ret_int ((moved_w s1 s2 h1 h2 (by omega) (by omega)).trans (by unfold moved; congr 3; omega)), rfl⟩
  · exact ⟨ret_int ((moved_w s1 s2 h1 h2 (by omega) (by omega)).trans (by unfold moved; congr 3; omega)), rfl⟩

theorem timberFloor_any (n d : Int) (w : World) (hd : 1 ≤ d) (h1 : -4611686018427387904 ≤ n) (h2 : n ≤ 4611686018427387904) :
    Calls Try.prog 96 #[.int .i64 n, .int .i64 d] w fun e w' => e = .returned (.int .i64 (n / d)) ∧ w = w' := by
  have hf := floor_form n d hd
  have hb : -4611686018427387904 ≤ n.tdiv d ∧ n.tdiv d ≤ 4611686018427387904 := by
    have a1 := Int.natAbs_tdiv_le_natAbs n d
    omega
  have HF := Lib.hid hf
  clear hf
  go_enter Try.func96, Try.ntmps96
  go_wp2
  · go_ret
    exact ⟨ret_int (by rw [HF.out, if_pos (by assumption)]), rfl⟩
  · go_ret
    exact ⟨ret_int (by rw [HF.out, if_neg (by omega)]), rfl⟩

theorem timberCeil_any (n d : Int) (w : World) (hd : 1 ≤ d) (h1 : -4611686018427387904 ≤ n) (h2 : n ≤ 4611686018427387904) :
    Calls Try.prog 110 #[.int .i64 n, .int .i64 d] w fun e w' => e = .returned (.int .i64 (-((-n) / d))) ∧ w = w' := by
  have hb : -4611686018427387905 ≤ (-n) / d ∧ (-n) / d ≤ 4611686018427387904 := by
    have := floor_form (-n) d hd
    have a1 := Int.natAbs_tdiv_le_natAbs (-n) d
    split at this <;> omega
  go_enter Try.func110, Try.ntmps110
  go_wp2_with (go_at_call 96; refine (timberFloor_any _ _ _ hd (by omega) (by omega)).mono ?_; rintro e w' ⟨rfl, rfl⟩)
  go_ret
  exact ⟨rfl, rfl⟩

theorem baseMod_any (n d : Int) (w : World) (hd : 1 ≤ d) (h1 : -4611686018427387904 ≤ n) (h2 : n ≤ 4611686018427387904) (h3 : d ≤ 4611686018427387904) :
    Calls Try.prog 118 #[.int .i64 n, .int .i64 d] w fun e w' => e = .returned (.int .i64 (n % d)) ∧ w = w' := by
  have hf : n % d = if n.tmod d < 0 then n.tmod d + d else n.tmod d := by
    rw [Int.tmod_eq_emod]
    have h1 := Int.emod_nonneg n (show d ≠ 0 by omega)
    have h2 := Int.emod_lt_of_pos n (show 0 < d by omega)
    have h4 : (d.natAbs : Int) = d := by omega
    by_cases hc : 0 ≤ n ∨ d ∣ n
    · simp only [hc, if_true]
      rw [if_neg (by omega)]; omega
    · simp only [hc, if_false, h4]
      rw [if_pos (by omega)]; omega
  have hb' : -4611686018427387904 ≤ n.tmod d ∧ n.tmod d ≤ 4611686018427387904 := by
    have a1 := Int.emod_nonneg n (show d ≠ 0 by omega)
    have a2 := Int.emod_lt_of_pos n (show 0 < d by omega)
    split at hf <;> omega
  have HF := Lib.hid hf
  clear hf
  go_enter Try.func118, Try.ntmps118
  go_wp2
  · go_ret
    exact ⟨ret_int (by rw [HF.out, if_pos (by assumption)]), rfl⟩
  · go_ret
    exact ⟨ret_int (by rw [HF.out, if_neg (by omega)]), rfl⟩

theorem baseFloor_any (n d : Int) (w : World) (hd : 1 ≤ d) (h1 : -4611686018427387904 ≤ n) (h2 : n ≤ 4611686018427387904) (h3 : d ≤ 4611686018427387904) :
    Calls Try.prog 97 #[.int .i64 n, .int .i64 d] w fun e w' => e = .returned (.int .i64 (n / d)) ∧ w = w' := by
  have hm1 := Int.emod_nonneg n (show d ≠ 0 by omega)
  have hm2 := Int.emod_lt_of_pos n (show 0 < d by omega)
  have HF := Lib.hid (show (n - n % d).tdiv d = n / d by
    rw [show n - n % d = d * (n / d) by have := Int.mul_ediv_add_emod n d; omega, Int.mul_tdiv_cancel_left _ (by omega)])
  have hb : -4611686018427387905 ≤ n / d ∧ n / d ≤ 4611686018427387904 := by
    have := floor_form n d hd
    have a1 := Int.natAbs_tdiv_le_natAbs n d
    split at this <;> omega
  go_enter Try.func97, Try.ntmps97
  go_wp2_with (go_at_call 118; refine (baseMod_any _ _ _ hd h1 h2 h3).mono ?_; rintro e w' ⟨rfl, rfl⟩)
  go_ret
  exact ⟨ret_int HF.out, rfl⟩

theorem baseCeil_any (n d : Int) (w : World) (hd : 1 ≤ d) (h1 : -4611686018427387904 ≤ n) (h2 : n ≤ 4611686018427387904) (h3 : d ≤ 4611686018427387904) :
    Calls Try.prog 111 #[.int .i64 n, .int .i64 d] w fun e w' => e = .returned (.int .i64 (-((-n) / d))) ∧ w = w' := by
  have hb : -4611686018427387905 ≤ (-n) / d ∧ (-n) / d ≤ 4611686018427387904 := by
    have := floor_form (-n) d hd
    have a1 := Int.natAbs_tdiv_le_natAbs (-n) d
    split at this <;> omega
  go_enter Try.func111, Try.ntmps111
  go_wp2_with (go_at_call 97; refine (baseFloor_any _ _ _ hd (by omega) (by omega) h3).mono ?_; rintro e w' ⟨rfl, rfl⟩)
  go_ret
  exact ⟨rfl, rfl⟩
end Go.Proofs.Ythhchnhidhgccaa
