/- Days to a moisture, and the reference's drying. -/
import Derived.Test.YthhchnhidhgccaaDry
set_option linter.unusedVariables false
set_option linter.unusedSimpArgs false
namespace Go.Proofs.Ythhchnhidhgccaa
open Go Go.RowKit

theorem baseAbsI_any (n : Int) (w : World) (h : -1000000 ≤ n) (h' : n ≤ 1000000) : Calls Try.prog 101 #[.int .i64 n] w fun e w' => e = .returned (.int .i64 (n.natAbs : Int)) ∧ w = w' := by
  go_enter Try.func101, Try.ntmps101
  go_wp2
  all_goals (go_ret; exact ⟨ret_int (by go_tidy <;> omega), rfl⟩)

/-- The days to a moisture, by fuel. -/
def dtN (t r near : Int) : Nat → Int → Int
  | 0, _ => 0
  | f + 1, m => if near < ((m - t).natAbs : Int) then 1 + dtN t r near f (dayF m t r) else 0
theorem day_less {m t r : Int} (hr : 1 ≤ r) (h : 0 < (m - t).natAbs) : (dayF m t r - t).natAbs < (m - t).natAbs := by
  rcases Int.lt_trichotomy m t with hh | rfl | hh
  · have := dayF_up hh hr; omega
  · omega
  · have := dayF_down hh hr; omega
theorem dtN_fuel {t r near : Int} (hr : 1 ≤ r) (hn : 0 ≤ near) : ∀ (f f' : Nat) (m : Int), (m - t).natAbs < f → (m - t).natAbs < f' → dtN t r near f m = dtN t r near f' m
  | 0, _, m, h, _ => by omega
  | _ + 1, 0, m, _, h => by omega
  | f + 1, f' + 1, m, h, h' => by
    rw [dtN, dtN]
    split
    · have := day_less (m := m) (t := t) hr (by omega)
      rw [dtN_fuel hr hn f f' _ (by omega) (by omega)]
    · rfl
def daysTo (m t r near : Int) : Int := dtN t r near ((m - t).natAbs + 1) m
theorem daysTo_step {m t r near : Int} (hr : 1 ≤ r) (hn : 0 ≤ near) (h : near < ((m - t).natAbs : Int)) : daysTo m t r near = 1 + daysTo (dayF m t r) t r near := by
  unfold daysTo
  have := day_less (m := m) (t := t) hr (by omega)
  rw [dtN, if_pos h, dtN_fuel hr hn _ ((dayF m t r - t).natAbs + 1) _ (by omega) (by omega)]
theorem daysTo_end {m t r near : Int} (h : ¬ near < ((m - t).natAbs : Int)) : daysTo m t r near = 0 := by
  unfold daysTo
  rw [dtN, if_neg h]
theorem daysTo_bd {t r near : Int} : ∀ (f : Nat) (m : Int), 0 ≤ dtN t r near f m ∧ dtN t r near f m ≤ f
  | 0, m => by simp [dtN]
  | f + 1, m => by
    have := daysTo_bd (t := t) (r := r) (near := near) f (dayF m t r)
    rw [dtN]
    split <;> omega

def dtE (m t r near : Int) : Int := if dryErr m t r ≠ 0 then dryErr m t r else if withinB near 0 400 = false then 2 else 0
def dtV (m t r near : Int) : Int := if dtE m t r near ≠ 0 then 0 else daysTo m t r near

set_option maxHeartbeats 1000000 in
theorem timberDaysTo_any (m t r n : Int) (w : World) :
    Calls Try.prog 59 #[.int .i64 m, .int .i64 t, .int .i64 r, .int .i64 n] w fun e w' => e = .returned (.tuple #[.int .i64 (dtV m t r n), .int .i64 (dtE m t r n)]) ∧ w = w' := by
  by_cases h0 : dryErr m t r = 0
  · obtain ⟨⟨m1, m2⟩, ⟨t1, t2⟩, r1, r2⟩ := dryErr_ok h0
    have h0' : (dryErr m t r != 0) = false := by simp [h0]
    cases hq : withinB n 0 400
    · have HE : dtE m t r n = 2 := by simp [dtE, h0, hq]
      have HV := Lib.hid (show dtE m t r n = 2 ∧ dtV m t r n = 0 from ⟨HE, by simp [dtV, HE]⟩)
      clear h0 HE
      go_enter Try.func59, Try.ntmps59
      go_wp2_with (first
        | (go_at_call 99; refine (timberDryErr_any _ _ _ _).mono ?_; rintro e w' ⟨rfl, rfl⟩)
        | (go_at_call 83; refine (within_any _ _ _ _).mono ?_; rintro e w' ⟨rfl, rfl⟩))
      go_ret2
      exact ⟨ret_ints (by go_tidy; rw [HV.out.2]) (by go_tidy; rw [HV.out.1]), rfl⟩
    · obtain ⟨n1, n2⟩ := withinB_true hq
      have HE : dtE m t r n = 0 := by simp [dtE, h0, hq]
      have HV := Lib.hid (show dtE m t r n = 0 ∧ dtV m t r n = daysTo m t r n from ⟨HE, by simp [dtV, HE]⟩)
      clear h0 HE
      go_enter Try.func59, Try.ntmps59
      go_wp2_with (first
        | (go_at_call 99; refine (timberDryErr_any _ _ _ _).mono ?_; rintro e w' ⟨rfl, rfl⟩)
        | (go_at_call 83; refine (within_any _ _ _ _).mono ?_; rintro e w' ⟨rfl, rfl⟩))
      go_loop [0, 11] (fun x d => ∃ (j y : Int), d = .int .i64 j ∧ x = .int .i64 y ∧ 0 ≤ y ∧ y ≤ 400 ∧ 0 ≤ j ∧ j + ((y - t).natAbs : Int) ≤ 400 ∧ Hid (daysTo m t r n = j + daysTo y t r n)) (fun x _ => (intOf x - t).natAbs)
      case atStart => exact ⟨0, m, rfl, rfl, m1, m2, by omega, by omega, Lib.hid (by omega)⟩
      case round =>
        obtain ⟨j, y, rfl, rfl, y1, y2, j1, j2, HD⟩ := hrel
        by_cases hlt : n < ((y - t).natAbs : Int)
        · have hb := dayF_bd (m := y) (t := t) r1
          have hl := day_less (m := y) (t := t) r1 (by omega)
          have HN := Lib.hid (show daysTo m t r n = (j + 1) + daysTo (dayF y t r) t r n by rw [HD.out, daysTo_step r1 n1 hlt]; omega)
          clear HD
          rcases Int.lt_or_le y t with hs | hs
          all_goals
            go_wp2_with (go_at_call 100; refine (timberDay_any _ _ _ _ y1 y2 t1 t2 r1 r2).mono ?_; rintro e w' ⟨rfl, rfl⟩)
            go_round
            case rel => exact ⟨j + 1, _, by go_num, rfl, by omega, by omega, by omega, by omega, HN⟩
            case measure => simp [intOf]; omega
        · have HN := Lib.hid (show daysTo m t r n = j by rw [HD.out, daysTo_end hlt]; omega)
          clear HD
          rcases Int.lt_or_le y t with hs | hs
          all_goals
            go_wp2_with fail
            go_ret2
            exact ⟨ret_ints (by go_tidy; rw [HV.out.2, HN.out]) (by go_tidy; rw [HV.out.1]), rfl⟩
  · have h0' : (dryErr m t r != 0) = true := by simp [h0]
    have HE : dtE m t r n = dryErr m t r := by simp [dtE, h0]
    have HV := Lib.hid (show dtE m t r n = dryErr m t r ∧ dtV m t r n = 0 from ⟨HE, by simp [dtV, HE, h0]⟩)
    clear h0 HE
    go_enter Try.func59, Try.ntmps59
    go_wp2_with (go_at_call 99; refine (timberDryErr_any _ _ _ _).mono ?_; rintro e w' ⟨rfl, rfl⟩)
    go_ret2
    exact ⟨ret_ints (by go_tidy; rw [HV.out.2]) (by go_tidy; rw [HV.out.1]), rfl⟩

set_option maxHeartbeats 1000000 in
theorem refDaysTo_any (m t r n : Int) (w : World) (m1 : 0 ≤ m) (m2 : m ≤ 400) (t1 : 0 ≤ t) (t2 : t ≤ 400) (r1 : 1 ≤ r) (r2 : r ≤ 100) (n1 : 0 ≤ n) (n2 : n ≤ 400) :
    Calls Try.prog 61 #[.int .i64 m, .int .i64 t, .int .i64 r, .int .i64 n] w fun e w' => e = .returned (.int .i64 (daysTo m t r n)) ∧ w = w' := by
  go_enter Try.func61, Try.ntmps61
  go_wp2_with fail
  go_loop [0, 9] (fun x d => ∃ (j y : Int), d = .int .i64 j ∧ x = .int .i64 y ∧ 0 ≤ y ∧ y ≤ 400 ∧ 0 ≤ j ∧ j + ((y - t).natAbs : Int) ≤ 400 ∧ Hid (daysTo m t r n = j + daysTo y t r n)) (fun x _ => (intOf x - t).natAbs)
  case atStart => exact ⟨0, m, rfl, rfl, m1, m2, by omega, by omega, Lib.hid (by omega)⟩
  case round =>
    obtain ⟨j, y, rfl, rfl, y1, y2, j1, j2, HD⟩ := hrel
    by_cases hlt : n < ((y - t).natAbs : Int)
    · have hb := dayF_bd (m := y) (t := t) r1
      have hl := day_less (m := y) (t := t) r1 (by omega)
      have HN := Lib.hid (show daysTo m t r n = (j + 1) + daysTo (dayF y t r) t r n by rw [HD.out, daysTo_step r1 n1 hlt]; omega)
      clear HD
      go_wp2_with (first
        | (go_at_call 101; (with_reducible refine (baseAbsI_any _ _ (by omega) (by omega)).mono ?_); rintro e w' ⟨rfl, rfl⟩)
        | (go_at_call 102; refine (refDay_any _ _ _ _ y1 y2 t1 t2 r1 r2).mono ?_; rintro e w' ⟨rfl, rfl⟩))
      go_round
      case rel => exact ⟨j + 1, _, by go_num, rfl, by omega, by omega, by omega, by omega, HN⟩
      case measure => simp [intOf]; omega
    · have HN := Lib.hid (show daysTo m t r n = j by rw [HD.out, daysTo_end hlt]; omega)
      clear HD
      go_wp2_with (go_at_call 101; (with_reducible refine (baseAbsI_any _ _ (by omega) (by omega)).mono ?_); rintro e w' ⟨rfl, rfl⟩)
      go_ret
      exact ⟨ret_int (by rw [HN.out]), rfl⟩

set_option maxHeartbeats 1000000 in
theorem refDry_any (m t r : Int) (k : Nat) (w : World) (m1 : 0 ≤ m) (m2 : m ≤ 400) (t1 : 0 ≤ t) (t2 : t ≤ 400) (r1 : 1 ≤ r) (r2 : r ≤ 100) (n2 : k ≤ 10000) :
    Calls Try.prog 62 #[.int .i64 m, .int .i64 t, .int .i64 r, .int .i64 (k : Int)] w fun e w' => e = .returned (.int .i64 (dayN t r k m)) ∧ w = w' := by
  go_enter Try.func62, Try.ntmps62
  go_wp2_with fail
  go_loop [0, 9] (fun x i => ∃ (j : Nat) (y : Int), j ≤ k ∧ i = .int .i64 (j : Int) ∧ x = .int .i64 y ∧ 0 ≤ y ∧ y ≤ 400 ∧ Hid (dayN t r k m = dayN t r (k - j) y)) (fun _ i => k - (intOf i).toNat)
  case atStart => exact ⟨0, m, Nat.zero_le _, rfl, rfl, m1, m2, Lib.hid rfl⟩
  case round =>
    obtain ⟨j, y, hj, rfl, rfl, y1, y2, HD⟩ := hrel
    by_cases hlt : j < k
    · by_cases hne : y = t
      · subst hne
        have HN := Lib.hid (show dayN y r k m = y by rw [HD.out, dayN_same])
        clear HD
        go_wp2_with fail
        go_ret
        exact ⟨ret_int (by rw [HN.out]), rfl⟩
      · have hb := dayF_bd (m := y) (t := t) r1
        have b0 : (y != t) = true := by simpa using hne
        have HN := Lib.hid (show dayN t r k m = dayN t r (k - (j + 1)) (dayF y t r) by rw [HD.out, show k - j = (k - (j + 1)) + 1 by omega, dayN])
        clear HD
        go_wp2_with (go_at_call 102; refine (refDay_any _ _ _ _ y1 y2 t1 t2 r1 r2).mono ?_; rintro e w' ⟨rfl, rfl⟩)
        go_round
        case rel => exact ⟨j + 1, _, by omega, by go_num, rfl, by omega, by omega, HN⟩
        case measure => simp [intOf]; omega
    · have HN := Lib.hid (show dayN t r k m = y by rw [HD.out, show k - j = 0 by omega, dayN])
      clear HD
      go_wp2_with fail
      go_ret
      exact ⟨ret_int (by rw [HN.out]), rfl⟩
end Go.Proofs.Ythhchnhidhgccaa
