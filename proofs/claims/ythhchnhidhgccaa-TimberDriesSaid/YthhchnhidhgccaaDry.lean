/- Drying: a day, days, and days to a moisture, of the program and of the reference. -/
import Derived.Test.YthhchnhidhgccaaMove2
set_option linter.unusedVariables false
set_option linter.unusedSimpArgs false
namespace Go.Proofs.Ythhchnhidhgccaa
open Go Go.RowKit

theorem tdiv_pos_bd {d r : Int} (hd : 0 ≤ d) (hr : 1 ≤ r) : d.tdiv r = d / r ∧ 0 ≤ d / r ∧ d / r ≤ d := by
  refine ⟨Int.tdiv_eq_ediv_of_nonneg hd, Int.ediv_nonneg hd (by omega), Int.ediv_le_self r hd⟩
theorem tdiv_neg_bd {d r : Int} (hd : d ≤ 0) (hr : 1 ≤ r) : d ≤ d.tdiv r ∧ d.tdiv r ≤ 0 := by
  obtain ⟨e, h1, h2⟩ := tdiv_pos_bd (d := -d) (r := r) (by omega) hr
  rw [Int.neg_tdiv] at e
  omega
def dayF (m t r : Int) : Int := if 0 < t - m then m + max ((t - m).tdiv r) 1 else if t - m < 0 then m + min ((t - m).tdiv r) (-1) else m
theorem dayF_up {m t r : Int} (h : m < t) (hr : 1 ≤ r) : m + 1 ≤ dayF m t r ∧ dayF m t r ≤ t := by
  obtain ⟨e, h1, h2⟩ := tdiv_pos_bd (d := t - m) (r := r) (by omega) hr
  unfold dayF
  rw [if_pos (by omega), e]
  omega
theorem dayF_down {m t r : Int} (h : t < m) (hr : 1 ≤ r) : t ≤ dayF m t r ∧ dayF m t r ≤ m - 1 := by
  obtain ⟨h1, h2⟩ := tdiv_neg_bd (d := t - m) (r := r) (by omega) hr
  unfold dayF
  rw [if_neg (by omega), if_pos (by omega)]
  omega
theorem dayF_same (t r : Int) : dayF t t r = t := by unfold dayF; rw [if_neg (by omega), if_neg (by omega)]
theorem dayF_bd {m t r : Int} (hr : 1 ≤ r) : min m t ≤ dayF m t r ∧ dayF m t r ≤ max m t := by
  rcases Int.lt_trichotomy m t with h | rfl | h
  · have := dayF_up h hr; omega
  · rw [dayF_same]; omega
  · have := dayF_down h hr; omega

set_option maxHeartbeats 1000000 in
theorem timberDay_any (m t r : Int) (w : World) (m1 : 0 ≤ m) (m2 : m ≤ 400) (t1 : 0 ≤ t) (t2 : t ≤ 400) (r1 : 1 ≤ r) (r2 : r ≤ 100) :
    Calls Try.prog 100 #[.int .i64 m, .int .i64 t, .int .i64 r] w fun e w' => e = .returned (.int .i64 (dayF m t r)) ∧ w = w' := by
  rcases Int.lt_trichotomy m t with h | rfl | h
  · obtain ⟨e, h1, h2⟩ := tdiv_pos_bd (d := t - m) (r := r) (by omega) r1
    have HE := Lib.hid (show dayF m t r = m + max ((t - m) / r) 1 by unfold dayF; rw [if_pos (by omega), e])
    clear e
    generalize hq : (t - m) / r = q at *
    go_enter Try.func100, Try.ntmps100
    go_wp2
    all_goals (go_ret; exact ⟨ret_int (by rw [HE.out]; go_tidy; omega), rfl⟩)
  · go_enter Try.func100, Try.ntmps100
    go_wp2
    go_ret
    exact ⟨ret_int (dayF_same _ _).symm, rfl⟩
  · obtain ⟨h1, h2⟩ := tdiv_neg_bd (d := t - m) (r := r) (by omega) r1
    have HE := Lib.hid (show dayF m t r = m + min ((t - m).tdiv r) (-1) by unfold dayF; rw [if_neg (by omega), if_pos (by omega)])
    generalize hq : (t - m).tdiv r = q at *
    go_enter Try.func100, Try.ntmps100
    go_wp2
    all_goals (go_ret; exact ⟨ret_int (by rw [HE.out]; go_tidy; omega), rfl⟩)

set_option maxHeartbeats 1000000 in
theorem refDay_any (m t r : Int) (w : World) (m1 : 0 ≤ m) (m2 : m ≤ 400) (t1 : 0 ≤ t) (t2 : t ≤ 400) (r1 : 1 ≤ r) (r2 : r ≤ 100) :
    Calls Try.prog 102 #[.int .i64 m, .int .i64 t, .int .i64 r] w fun e w' => e = .returned (.int .i64 (dayF m t r)) ∧ w = w' := by
  rcases Int.lt_trichotomy m t with h | rfl | h
  · obtain ⟨e, h1, h2⟩ := tdiv_pos_bd (d := t - m) (r := r) (by omega) r1
    have HE := Lib.hid (show dayF m t r = m + max ((t - m) / r) 1 by unfold dayF; rw [if_pos (by omega), e])
    clear e
    generalize hq : (t - m) / r = q at *
    by_cases h0 : q = 0
    · subst h0
      go_enter Try.func102, Try.ntmps102
      go_wp2
      all_goals (go_ret; exact ⟨ret_int (by rw [HE.out]; go_tidy <;> omega), rfl⟩)
    · have b0 : (q == 0) = false := by simpa using h0
      go_enter Try.func102, Try.ntmps102
      go_wp2
      all_goals (go_ret; exact ⟨ret_int (by rw [HE.out]; go_tidy <;> omega), rfl⟩)
  · have hz : (0 : Int).tdiv r = 0 := Int.zero_tdiv r
    go_enter Try.func102, Try.ntmps102
    go_wp2
    all_goals (go_ret; exact ⟨ret_int (by rw [dayF_same] <;> (go_tidy <;> first | rfl | omega | simp)), rfl⟩)
  · obtain ⟨h1, h2⟩ := tdiv_neg_bd (d := t - m) (r := r) (by omega) r1
    have HE := Lib.hid (show dayF m t r = m + min ((t - m).tdiv r) (-1) by unfold dayF; rw [if_neg (by omega), if_pos (by omega)])
    generalize hq : (t - m).tdiv r = q at *
    by_cases h0 : q = 0
    · subst h0
      go_enter Try.func102, Try.ntmps102
      go_wp2
      all_goals (go_ret; exact ⟨ret_int (by rw [HE.out]; go_tidy <;> omega), rfl⟩)
    · have b0 : (q == 0) = false := by simpa using h0
      go_enter Try.func102, Try.ntmps102
      go_wp2
      all_goals (go_ret; exact ⟨ret_int (by rw [HE.out]; go_tidy <;> omega), rfl⟩)

def dryErr (m t r : Int) : Int := if withinB m 0 400 = true ∧ withinB t 0 400 = true ∧ withinB r 1 100 = true then 0 else 2
theorem dryErr_ok {m t r : Int} (h : dryErr m t r = 0) : (0 ≤ m ∧ m ≤ 400) ∧ (0 ≤ t ∧ t ≤ 400) ∧ (1 ≤ r ∧ r ≤ 100) := by
  unfold dryErr at h
  split at h
  · rename_i hh
    exact ⟨withinB_true hh.1, withinB_true hh.2.1, withinB_true hh.2.2⟩
  · cases h
theorem timberDryErr_any (m t r : Int) (w : World) : Calls Try.prog 99 #[.int .i64 m, .int .i64 t, .int .i64 r] w fun e w' => e = .returned (.int .i64 (dryErr m t r)) ∧ w = w' := by
  cases h1 : withinB m 0 400 <;> cases h2 : withinB t 0 400 <;> cases h3 : withinB r 1 100
  all_goals
    go_enter Try.func99, Try.ntmps99
    go_wp2_with (go_at_call 83; refine (within_any _ _ _ _).mono ?_; rintro e w' ⟨rfl, rfl⟩)
    go_ret
    exact ⟨ret_int (by go_tidy; simp [dryErr, h1, h2, h3]), rfl⟩
theorem refDryErr_any (m t r : Int) (w : World) : Calls Try.prog 60 #[.int .i64 m, .int .i64 t, .int .i64 r] w fun e w' => e = .returned (.int .i64 (dryErr m t r)) ∧ w = w' := by
  cases h1 : withinB m 0 400 <;> cases h2 : withinB t 0 400 <;> cases h3 : withinB r 1 100
  all_goals
    go_enter Try.func60, Try.ntmps60
    go_wp2_with (first
      | (go_at_call 28; refine (baseWithin_any _ _ _ _).mono ?_; rintro e w' ⟨rfl, rfl⟩)
      | (go_at_call 50; refine (moisture_any _ _).mono ?_; rintro e w' ⟨rfl, rfl⟩))
    go_ret
    exact ⟨ret_int (by go_tidy; simp [dryErr, h1, h2, h3]), rfl⟩

def dayN (t r : Int) : Nat → Int → Int
  | 0, m => m
  | n + 1, m => dayN t r n (dayF m t r)
theorem dayN_last (t r : Int) : ∀ (n : Nat) (m : Int), dayN t r (n + 1) m = dayF (dayN t r n m) t r
  | 0, m => rfl
  | n + 1, m => by rw [dayN, dayN_last t r n, dayN]
theorem dayN_bd {t r : Int} (hr : 1 ≤ r) : ∀ (n : Nat) (m : Int), min m t ≤ dayN t r n m ∧ dayN t r n m ≤ max m t
  | 0, m => by simp only [dayN]; omega
  | n + 1, m => by
    have h1 := dayF_bd (m := m) (t := t) hr
    have h2 := dayN_bd (t := t) hr n (dayF m t r)
    rw [dayN]; omega
theorem dayN_same (t r : Int) : ∀ n : Nat, dayN t r n t = t
  | 0 => rfl
  | n + 1 => by rw [dayN, dayF_same, dayN_same t r n]

def dryE (m t r n : Int) : Int := if dryErr m t r ≠ 0 then dryErr m t r else if withinB n 0 10000 = false then 2 else 0
def dryV (m t r n : Int) : Int := if dryE m t r n ≠ 0 then 0 else dayN t r n.toNat m

set_option maxHeartbeats 1000000 in
theorem timberDry_any (m t r n : Int) (w : World) :
    Calls Try.prog 58 #[.int .i64 m, .int .i64 t, .int .i64 r, .int .i64 n] w fun e w' => e = .returned (.tuple #[.int .i64 (dryV m t r n), .int .i64 (dryE m t r n)]) ∧ w = w' := by
  by_cases h0 : dryErr m t r = 0
  · obtain ⟨⟨m1, m2⟩, ⟨t1, t2⟩, r1, r2⟩ := dryErr_ok h0
    have h0' : (dryErr m t r != 0) = false := by simp [h0]
    cases hq : withinB n 0 10000
    · have HE : dryE m t r n = 2 := by simp [dryE, h0, hq]
      have HV := Lib.hid (show dryE m t r n = 2 ∧ dryV m t r n = 0 from ⟨HE, by simp [dryV, HE]⟩)
      clear h0 HE
      go_enter Try.func58, Try.ntmps58
      go_wp2_with (first
        | (go_at_call 99; refine (timberDryErr_any _ _ _ _).mono ?_; rintro e w' ⟨rfl, rfl⟩)
        | (go_at_call 83; refine (within_any _ _ _ _).mono ?_; rintro e w' ⟨rfl, rfl⟩))
      go_ret2
      exact ⟨ret_ints (by go_tidy; rw [HV.out.2]) (by go_tidy; rw [HV.out.1]), rfl⟩
    · obtain ⟨n1, n2⟩ := withinB_true hq
      have HE : dryE m t r n = 0 := by simp [dryE, h0, hq]
      have HV := Lib.hid (show dryE m t r n = 0 ∧ dryV m t r n = dayN t r n.toNat m from ⟨HE, by simp [dryV, HE]⟩)
      clear h0 HE
      obtain ⟨k, rfl⟩ : ∃ k : Nat, n = k := ⟨n.toNat, by omega⟩
      rw [Int.toNat_natCast] at HV
      go_enter Try.func58, Try.ntmps58
      go_wp2_with (first
        | (go_at_call 99; refine (timberDryErr_any _ _ _ _).mono ?_; rintro e w' ⟨rfl, rfl⟩)
        | (go_at_call 83; refine (within_any _ _ _ _).mono ?_; rintro e w' ⟨rfl, rfl⟩))
      go_loop [0, 22] (fun x i => ∃ (j : Nat) (y : Int), j ≤ k ∧ i = .int .i64 (j : Int) ∧ x = .int .i64 y ∧ 0 ≤ y ∧ y ≤ 400 ∧ Hid (dayN t r k m = dayN t r (k - j) y)) (fun _ i => k - (intOf i).toNat)
      case atStart => exact ⟨0, m, Nat.zero_le _, rfl, rfl, m1, m2, Lib.hid rfl⟩
      case round =>
        obtain ⟨j, y, hj, rfl, rfl, y1, y2, HD⟩ := hrel
        by_cases hlt : j < k
        · have hb := dayF_bd (m := y) (t := t) r1
          have HN := Lib.hid (show dayN t r k m = dayN t r (k - (j + 1)) (dayF y t r) by rw [HD.out, show k - j = (k - (j + 1)) + 1 by omega, dayN])
          clear HD
          go_wp2_with (go_at_call 100; refine (timberDay_any _ _ _ _ y1 y2 t1 t2 r1 r2).mono ?_; rintro e w' ⟨rfl, rfl⟩)
          go_round
          case rel => exact ⟨j + 1, _, by omega, by go_num, rfl, by omega, by omega, HN⟩
          case measure => simp [intOf]; omega
        · have HN := Lib.hid (show dayN t r k m = y by rw [HD.out, show k - j = 0 by omega, dayN])
          clear HD
          go_wp2_with fail
          go_ret2
          exact ⟨ret_ints (by go_tidy; rw [HV.out.2, HN.out]) (by go_tidy; rw [HV.out.1]), rfl⟩
  · have h0' : (dryErr m t r != 0) = true := by simp [h0]
    have HE : dryE m t r n = dryErr m t r := by simp [dryE, h0]
    have HV := Lib.hid (show dryE m t r n = dryErr m t r ∧ dryV m t r n = 0 from ⟨HE, by simp [dryV, HE, h0]⟩)
    clear h0 HE
    go_enter Try.func58, Try.ntmps58
    go_wp2_with (go_at_call 99; refine (timberDryErr_any _ _ _ _).mono ?_; rintro e w' ⟨rfl, rfl⟩)
    go_ret2
    exact ⟨ret_ints (by go_tidy; rw [HV.out.2]) (by go_tidy; rw [HV.out.1]), rfl⟩
end Go.Proofs.Ythhchnhidhgccaa
