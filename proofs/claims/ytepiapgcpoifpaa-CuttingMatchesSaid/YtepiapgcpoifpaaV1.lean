/- Flitches: what checkFlitch, follow and CheckFlitch, Follow of the reference return; what a list has. -/
import Derived.Test.YtepiapgcpoifpaaInts
import Derived.Deep.QuietTactic
import Derived.BigQuiet
set_option linter.unusedVariables false
set_option linter.unusedSimpArgs false
namespace Go.Proofs.Ytepiapgcpoifpaa
open Go Go.RowKit

def leafOk (n : Int) : Bool := withinB n 1 100000
def flitchE (l : List Int) : Int := if 400 < l.length then 8 else if l.all leafOk = false then 2 else if nextB riseP l = false then 9 else 0
theorem flitch_big {l : List Int} (h : 400 < l.length) : flitchE l = 8 := by unfold flitchE; rw [if_pos h]
theorem flitch_bad {l : List Int} (h : ¬ 400 < l.length) (h1 : l.all leafOk = false) : flitchE l = 2 := by unfold flitchE; rw [if_neg h, if_pos h1]
theorem flitch_fall {l : List Int} (h : ¬ 400 < l.length) (h1 : l.all leafOk = true) (h2 : nextB riseP l = false) : flitchE l = 9 := by unfold flitchE; rw [if_neg h, if_neg (by rw [h1]; decide), if_pos h2]
theorem flitch_ok {l : List Int} (h : ¬ 400 < l.length) (h1 : l.all leafOk = true) (h2 : nextB riseP l = true) : flitchE l = 0 := by unfold flitchE; rw [if_neg h, if_neg (by rw [h1]; decide), if_neg (by rw [h2]; decide)]

set_option maxHeartbeats 2000000 in
theorem checkFlitch_any (a : Option Addr) (l : List Int) (c : Nat) (w : World) (hv : Intss.V w a l) (hl : l.length ≤ 1000000) :
    Calls Try.prog 78 #[.slice a l.length c] w fun e w' => e = .returned (.int .i64 (flitchE l)) ∧ Below w.heap.size w w' := by
  by_cases hbig : 400 < l.length
  · go_enter Try.func78, Try.ntmps78
    go_wp2_with fail
    go_ret
    exact ⟨ret_int (flitch_big hbig).symm, Below.refl _ _⟩
  · go_enter Try.func78, Try.ntmps78
    go_wp2_with fail
    go_loopw [11] (fun iv wr => ∃ k : Nat, k ≤ l.length ∧ iv = .int .i64 k ∧ Hid (∀ j (hj : j < l.length), j < k → leafOk l[j] = true) ∧ Below w.heap.size w wr) (fun iv _ => l.length - (intOf iv).toNat)
    case atStart => exact ⟨0, Nat.zero_le _, rfl, Lib.hid (fun j _ h => by omega), Below.refl _ _⟩
    case round =>
      obtain ⟨k, hk, rfl, HK, hbw⟩ := hrel
      by_cases hlt : k < l.length
      · obtain ⟨b, off, ha, c0, -⟩ := (hv.keep hbw).at' hlt
        subst ha
        have HN := Lib.hid (fun h => all_no (p := leafOk) hlt h)
        have HS := Lib.hid (fun h => all_step (p := leafOk) hlt HK.out h)
        have hki : (k : Int) < (l.length : Int) := by omega
        clear HK
        generalize l[k] = x at *
        cases hq : leafOk x
        · have hr := Lib.hid (HN.out hq)
          have hq' := Lib.hid (show withinB x 1 100000 = false from hq)
          clear hq HN HS
          go_wp2_with (go_at_call 67; refine (cwithin_any _ _ _ _).mono ?_; rw [hq'.out]; rintro e w' ⟨rfl, rfl⟩)
          go_ret
          exact ⟨ret_int (flitch_bad hbig hr.out).symm, hbw⟩
        · have hr := Lib.hid (HS.out hq)
          have hq' := Lib.hid (show withinB x 1 100000 = true from hq)
          clear hq HN HS
          go_wp2_with (go_at_call 67; refine (cwithin_any _ _ _ _).mono ?_; rw [hq'.out]; rintro e w' ⟨rfl, rfl⟩)
          go_roundw
          case rel => exact ⟨k + 1, by omega, by go_num, hr, hbw⟩
          case measure => simp [intOf]; omega
      · have HA := Lib.hid (all_yes (p := leafOk) (by omega) HK.out)
        have hki : ¬ (k : Int) < (l.length : Int) := by omega
        have HB0 := Lib.hid hbw
        clear HK hbw
        go_wp2_with fail
        obtain ⟨wo, rfl⟩ : ∃ wo : World, wo = wr := ⟨_, rfl⟩
        go_loopw [5] (fun iv wr => ∃ m : Nat, m ≤ l.length ∧ iv = .int .i64 ((m : Int) + 1) ∧ Hid (∀ j (hj : j + 1 < l.length), j < m → riseP l[j] l[j + 1] = true) ∧ Below w.heap.size w wr) (fun iv _ => l.length + 1 - (intOf iv).toNat)
        case atStart => exact ⟨0, Nat.zero_le _, rfl, Lib.hid (fun j _ h => by omega), HB0.out⟩
        case round =>
          clear HB0
          obtain ⟨m, hm, rfl, HM, hbr⟩ := hrel
          by_cases hlt : m + 1 < l.length
          · have hlt1 : m < l.length := by omega
            obtain ⟨b, off, ha, c0, -⟩ := (hv.keep hbr).at' hlt1
            obtain ⟨b', off', ha', c1, -⟩ := (hv.keep hbr).at' hlt
            rw [ha] at ha'
            injection ha' with ha'
            injection ha' with e1 e2
            subst e1 e2
            subst ha
            have hzr := block_lt_of_cell c0
            simp only at hzr
            have i0 : (0 : Int) ≤ (m : Int) + 1 := by omega
            have i1 : ((m : Int) + 1).toNat = m + 1 := by omega
            have i2 : (m : Int) + 1 < (l.length : Int) := by omega
            have i3 : (m : Int) < (l.length : Int) := by omega
            have v1 : IntKind.i64.wrap ((m : Int) + 1 - 1) = m := by rw [Int.add_sub_cancel]; exact IntWalk.i64_in _ (by omega)
            have v2 : IntKind.i64.wrap ((m : Int) + 1 + 1) = (m : Int) + 1 + 1 := IntWalk.i64_in _ (by omega)
            have HI := Lib.hid (show m + 1 < l.length ∧ l.length ≤ 9223372036854775000 from ⟨hlt, by omega⟩)
            have HN := Lib.hid (fun h => nextB_no (p := riseP) hlt h)
            have HS := Lib.hid (fun h => nextB_step (p := riseP) hlt HM.out h)
            generalize l[m] = x at *
            generalize l[m + 1] = y at *
            clear HM hlt hlt1
            by_cases hle : y ≤ x
            · have hR := Lib.hid (HN.out (by unfold riseP; rw [decide_eq_false_iff_not]; omega))
              have hle' : decide (y ≤ x) = true := decide_eq_true hle
              go_wp2_with fail
              go_quiet (fail)
              rename_i nq
              go_wp2_with fail
              go_ret
              exact ⟨ret_int (flitch_fall hbig HA.out hR.out).symm, below_drewN hbr nq⟩
            · have hR := Lib.hid (HS.out (by unfold riseP; rw [decide_eq_true_eq]; omega))
              have hle' : decide (y ≤ x) = false := decide_eq_false hle
              go_wp2_with fail
              go_quiet (fail)
              rename_i nq
              go_wp2_with fail
              go_roundw
              case rel => exact ⟨m + 1, by have := HI.out; omega, by go_num, hR, below_drewN hbr nq⟩
              case measure => have := HI.out; simp [intOf]; omega
          · have HE := Lib.hid (nextB_yes (p := riseP) (l := l) (k := m) (by omega) HM.out)
            have hi : ¬ (m : Int) + 1 < (l.length : Int) := by omega
            clear HM
            go_wp2_with fail
            go_ret
            exact ⟨ret_int (flitch_ok hbig HA.out HE.out).symm, hbr⟩
set_option maxHeartbeats 2000000 in
theorem refCheckFlitch_any (a : Option Addr) (l : List Int) (c : Nat) (w : World) (hv : Intss.V w a l) (hl : l.length ≤ 1000000) :
    Calls Try.prog 49 #[.slice a l.length c] w fun e w' => e = .returned (.int .i64 (flitchE l)) ∧ Below w.heap.size w w' := by
  by_cases hbig : 400 < l.length
  · go_enter Try.func49, Try.ntmps49
    go_wp2_with fail
    go_ret
    exact ⟨ret_int (flitch_big hbig).symm, Below.refl _ _⟩
  · go_enter Try.func49, Try.ntmps49
    go_wp2_with fail
    go_loopw [3] (fun iv wr => ∃ k : Nat, k ≤ l.length ∧ iv = .int .i64 k ∧ Hid (∀ j (hj : j < l.length), j < k → leafOk l[j] = true) ∧ Below w.heap.size w wr) (fun iv _ => l.length - (intOf iv).toNat)
    case atStart => exact ⟨0, Nat.zero_le _, rfl, Lib.hid (fun j _ h => by omega), Below.refl _ _⟩
    case round =>
      obtain ⟨k, hk, rfl, HK, hbw⟩ := hrel
      by_cases hlt : k < l.length
      · obtain ⟨b, off, ha, c0, -⟩ := (hv.keep hbw).at' hlt
        subst ha
        have HN := Lib.hid (fun h => all_no (p := leafOk) hlt h)
        have HS := Lib.hid (fun h => all_step (p := leafOk) hlt HK.out h)
        have hki : (k : Int) < (l.length : Int) := by omega
        clear HK
        generalize l[k] = x at *
        cases hq : leafOk x
        · have hr := Lib.hid (HN.out hq)
          have hq' := Lib.hid (show withinB x 1 100000 = false from hq)
          clear hq HN HS
          go_wp2_with (go_at_call 22; refine (baseWithin_any _ _ _ _).mono ?_; rw [hq'.out]; rintro e w' ⟨rfl, rfl⟩)
          go_ret
          exact ⟨ret_int (flitch_bad hbig hr.out).symm, hbw⟩
        · have hr := Lib.hid (HS.out hq)
          have hq' := Lib.hid (show withinB x 1 100000 = true from hq)
          clear hq HN HS
          go_wp2_with (go_at_call 22; refine (baseWithin_any _ _ _ _).mono ?_; rw [hq'.out]; rintro e w' ⟨rfl, rfl⟩)
          go_roundw
          case rel => exact ⟨k + 1, by omega, by go_num, hr, hbw⟩
          case measure => simp [intOf]; omega
      · have HA := Lib.hid (all_yes (p := leafOk) (by omega) HK.out)
        have hki : ¬ (k : Int) < (l.length : Int) := by omega
        have HB0 := Lib.hid hbw
        clear HK hbw
        go_wp2_with fail
        obtain ⟨wo, rfl⟩ : ∃ wo : World, wo = wr := ⟨_, rfl⟩
        go_loopw [4] (fun iv wr => ∃ m : Nat, m ≤ l.length ∧ iv = .int .i64 ((m : Int) + 1) ∧ Hid (∀ j (hj : j + 1 < l.length), j < m → riseP l[j] l[j + 1] = true) ∧ Below w.heap.size w wr) (fun iv _ => l.length + 1 - (intOf iv).toNat)
        case atStart => exact ⟨0, Nat.zero_le _, rfl, Lib.hid (fun j _ h => by omega), HB0.out⟩
        case round =>
          clear HB0
          obtain ⟨m, hm, rfl, HM, hbr⟩ := hrel
          by_cases hlt : m + 1 < l.length
          · have hlt1 : m < l.length := by omega
            obtain ⟨b, off, ha, c0, -⟩ := (hv.keep hbr).at' hlt1
            obtain ⟨b', off', ha', c1, -⟩ := (hv.keep hbr).at' hlt
            rw [ha] at ha'
            injection ha' with ha'
            injection ha' with e1 e2
            subst e1 e2
            subst ha
            have hzr := block_lt_of_cell c0
            simp only at hzr
            have i0 : (0 : Int) ≤ (m : Int) + 1 := by omega
            have i1 : ((m : Int) + 1).toNat = m + 1 := by omega
            have i2 : (m : Int) + 1 < (l.length : Int) := by omega
            have i3 : (m : Int) < (l.length : Int) := by omega
            have v1 : IntKind.i64.wrap ((m : Int) + 1 - 1) = m := by rw [Int.add_sub_cancel]; exact IntWalk.i64_in _ (by omega)
            have v2 : IntKind.i64.wrap ((m : Int) + 1 + 1) = (m : Int) + 1 + 1 := IntWalk.i64_in _ (by omega)
            have HI := Lib.hid (show m + 1 < l.length ∧ l.length ≤ 9223372036854775000 from ⟨hlt, by omega⟩)
            have HN := Lib.hid (fun h => nextB_no (p := riseP) hlt h)
            have HS := Lib.hid (fun h => nextB_step (p := riseP) hlt HM.out h)
            generalize l[m] = x at *
            generalize l[m + 1] = y at *
            clear HM hlt hlt1
            by_cases hle : y ≤ x
            · have hR := Lib.hid (HN.out (by unfold riseP; rw [decide_eq_false_iff_not]; omega))
              have hle' : decide (y ≤ x) = true := decide_eq_true hle
              go_wp2_with fail
              go_quiet (fail)
              rename_i nq
              go_wp2_with fail
              go_ret
              exact ⟨ret_int (flitch_fall hbig HA.out hR.out).symm, below_drewN hbr nq⟩
            · have hR := Lib.hid (HS.out (by unfold riseP; rw [decide_eq_true_eq]; omega))
              have hle' : decide (y ≤ x) = false := decide_eq_false hle
              go_wp2_with fail
              go_quiet (fail)
              rename_i nq
              go_wp2_with fail
              go_roundw
              case rel => exact ⟨m + 1, by have := HI.out; omega, by go_num, hR, below_drewN hbr nq⟩
              case measure => have := HI.out; simp [intOf]; omega
          · have HE := Lib.hid (nextB_yes (p := riseP) (l := l) (k := m) (by omega) HM.out)
            have hi : ¬ (m : Int) + 1 < (l.length : Int) := by omega
            clear HM
            go_wp2_with fail
            go_ret
            exact ⟨ret_int (flitch_ok hbig HA.out HE.out).symm, hbr⟩
set_option maxHeartbeats 2000000 in
theorem follow_any (a : Option Addr) (l : List Int) (c : Nat) (w : World) (hv : Intss.V w a l) (hl : l.length ≤ 1000000) (hin : ∀ x ∈ l, -1000000 ≤ x ∧ x ≤ 1000000) :
    Calls Try.prog 80 #[.slice a l.length c] w fun e w' => e = .returned (.bool (followB l)) ∧ Below w.heap.size w w' := by
  go_enter Try.func80, Try.ntmps80
  go_wp2_with fail
  go_loopw [3] (fun iv wr => ∃ m : Nat, m ≤ l.length ∧ iv = .int .i64 ((m : Int) + 1) ∧ Hid (∀ j (hj : j + 1 < l.length), j < m → followP l[j] l[j + 1] = true) ∧ Below w.heap.size w wr) (fun iv _ => l.length + 1 - (intOf iv).toNat)
  case atStart => exact ⟨0, Nat.zero_le _, rfl, Lib.hid (fun j _ h => by omega), Below.refl _ _⟩
  case round =>
    obtain ⟨m, hm, rfl, HM, hbr⟩ := hrel
    by_cases hlt : m + 1 < l.length
    · have hlt1 : m < l.length := by omega
      obtain ⟨b, off, ha, c0, -⟩ := (hv.keep hbr).at' hlt1
      obtain ⟨b', off', ha', c1, -⟩ := (hv.keep hbr).at' hlt
      rw [ha] at ha'
      injection ha' with ha'
      injection ha' with e1 e2
      subst e1 e2
      subst ha
      have hzr := block_lt_of_cell c0
      simp only at hzr
      have i0 : (0 : Int) ≤ (m : Int) + 1 := by omega
      have i1 : ((m : Int) + 1).toNat = m + 1 := by omega
      have i2 : (m : Int) + 1 < (l.length : Int) := by omega
      have i3 : (m : Int) < (l.length : Int) := by omega
      have v1 : IntKind.i64.wrap ((m : Int) + 1 - 1) = m := by rw [Int.add_sub_cancel]; exact IntWalk.i64_in _ (by omega)
      have v2 : IntKind.i64.wrap ((m : Int) + 1 + 1) = (m : Int) + 1 + 1 := IntWalk.i64_in _ (by omega)
      have HI := Lib.hid (show m + 1 < l.length ∧ l.length ≤ 9223372036854775000 from ⟨hlt, by omega⟩)
      have hx := hin l[m] (List.getElem_mem hlt1)
      have HN := Lib.hid (fun h => nextB_no (p := followP) hlt h)
      have HS := Lib.hid (fun h => nextB_step (p := followP) hlt HM.out h)
      generalize l[m] = x at *
      generalize l[m + 1] = y at *
      clear HM hlt hlt1
      have v3 : IntKind.i64.wrap (x + 1) = x + 1 := IntWalk.i64_in _ (by omega)
      by_cases hle : y = x + 1
      · have hR := Lib.hid (HS.out (by unfold followP; rw [decide_eq_true_eq]; exact hle))
        have hle' : (y != x + 1) = false := by simpa using hle
        have hle2 : (y == x + 1) = true := by simpa using hle
        clear hle
        go_wp2_with fail
        go_quiet (fail)
        rename_i nq
        go_wp2_with fail
        go_roundw
        case rel => exact ⟨m + 1, by have := HI.out; omega, by go_num, hR, below_drewN hbr nq⟩
        case measure => have := HI.out; simp [intOf]; omega
      · have hR := Lib.hid (HN.out (by unfold followP; rw [decide_eq_false_iff_not]; exact hle))
        have hle' : (y != x + 1) = true := by simpa using hle
        go_wp2_with fail
        go_quiet (fail)
        rename_i nq
        go_wp2_with fail
        go_ret
        exact ⟨ret_bool hR.out.symm, below_drewN hbr nq⟩
    · have HE := Lib.hid (nextB_yes (p := followP) (l := l) (k := m) (by omega) HM.out)
      have hi : ¬ (m : Int) + 1 < (l.length : Int) := by omega
      clear HM
      go_wp2_with fail
      go_ret
      exact ⟨ret_bool HE.out.symm, hbr⟩
set_option maxHeartbeats 2000000 in
theorem refFollow_any (a : Option Addr) (l : List Int) (c : Nat) (w : World) (hv : Intss.V w a l) (hl : l.length ≤ 1000000) (hin : ∀ x ∈ l, -1000000 ≤ x ∧ x ≤ 1000000) :
    Calls Try.prog 50 #[.slice a l.length c] w fun e w' => e = .returned (.bool (followB l)) ∧ Below w.heap.size w w' := by
  go_enter Try.func50, Try.ntmps50
  go_wp2_with fail
  go_loopw [3] (fun iv wr => ∃ m : Nat, m ≤ l.length ∧ iv = .int .i64 ((m : Int) + 1) ∧ Hid (∀ j (hj : j + 1 < l.length), j < m → followP l[j] l[j + 1] = true) ∧ Below w.heap.size w wr) (fun iv _ => l.length + 1 - (intOf iv).toNat)
  case atStart => exact ⟨0, Nat.zero_le _, rfl, Lib.hid (fun j _ h => by omega), Below.refl _ _⟩
  case round =>
    obtain ⟨m, hm, rfl, HM, hbr⟩ := hrel
    by_cases hlt : m + 1 < l.length
    · have hlt1 : m < l.length := by omega
      obtain ⟨b, off, ha, c0, -⟩ := (hv.keep hbr).at' hlt1
      obtain ⟨b', off', ha', c1, -⟩ := (hv.keep hbr).at' hlt
      rw [ha] at ha'
      injection ha' with ha'
      injection ha' with e1 e2
      subst e1 e2
      subst ha
      have hzr := block_lt_of_cell c0
      simp only at hzr
      have i0 : (0 : Int) ≤ (m : Int) + 1 := by omega
      have i1 : ((m : Int) + 1).toNat = m + 1 := by omega
      have i2 : (m : Int) + 1 < (l.length : Int) := by omega
      have i3 : (m : Int) < (l.length : Int) := by omega
      have v1 : IntKind.i64.wrap ((m : Int) + 1 - 1) = m := by rw [Int.add_sub_cancel]; exact IntWalk.i64_in _ (by omega)
      have v2 : IntKind.i64.wrap ((m : Int) + 1 + 1) = (m : Int) + 1 + 1 := IntWalk.i64_in _ (by omega)
      have HI := Lib.hid (show m + 1 < l.length ∧ l.length ≤ 9223372036854775000 from ⟨hlt, by omega⟩)
      have hx := hin l[m] (List.getElem_mem hlt1)
      have HN := Lib.hid (fun h => nextB_no (p := followP) hlt h)
      have HS := Lib.hid (fun h => nextB_step (p := followP) hlt HM.out h)
      generalize l[m] = x at *
      generalize l[m + 1] = y at *
      clear HM hlt hlt1
      have v3 : IntKind.i64.wrap (x + 1) = x + 1 := IntWalk.i64_in _ (by omega)
      by_cases hle : y = x + 1
      · have hR := Lib.hid (HS.out (by unfold followP; rw [decide_eq_true_eq]; exact hle))
        have hle' : (y != x + 1) = false := by simpa using hle
        have hle2 : (y == x + 1) = true := by simpa using hle
        clear hle
        go_wp2_with fail
        go_quiet (fail)
        rename_i nq
        go_wp2_with fail
        go_roundw
        case rel => exact ⟨m + 1, by have := HI.out; omega, by go_num, hR, below_drewN hbr nq⟩
        case measure => have := HI.out; simp [intOf]; omega
      · have hR := Lib.hid (HN.out (by unfold followP; rw [decide_eq_false_iff_not]; exact hle))
        have hle' : (y != x + 1) = true := by simpa using hle
        go_wp2_with fail
        go_quiet (fail)
        rename_i nq
        go_wp2_with fail
        go_ret
        exact ⟨ret_bool hR.out.symm, below_drewN hbr nq⟩
    · have HE := Lib.hid (nextB_yes (p := followP) (l := l) (k := m) (by omega) HM.out)
      have hi : ¬ (m : Int) + 1 < (l.length : Int) := by omega
      clear HM
      go_wp2_with fail
      go_ret
      exact ⟨ret_bool HE.out.symm, hbr⟩
end Go.Proofs.Ytepiapgcpoifpaa
