/- Flitches: what checkFlitch, follow and CheckFlitch, Follow of the reference return; what a list has. Matches: what CheckMatch of the program and of the reference return. CheckMatch of the program and of the reference. Runs of leaves: what Leaves and Match of the program return. Match of the program. Lists of numbers that are equal. -/
import Derived.Test.YtepiapgcpoifpaaInts
import Derived.Deep.QuietTactic
import Derived.BigQuiet
import Derived.Test.YtepiapgcpoifpaaW2
import Derived.Lib.Walk
import Derived.Test.YtepiapgcpoifpaaL1
set_option linter.unusedVariables false
set_option linter.unusedSimpArgs false
namespace Go.Proofs.Ytepiapgcpoifpaa
open Go Go.RowKit

def leafOk (n : Int) : Bool := withinB n 1 100000
def flitchE (l : List Int) : Int := if 400 < l.length then 8 else if l.all leafOk = false then 2 else if nextB riseP l = false then 9 else 0
theorem flitch_big {l : List Int} (h : 400 < l.length) : flitchE l = 8 := by unfold flitchE; rw [if_pos h]
theorem flitch_bad {l : List Int} (h : ¬ 400 < l.length) (h1 : l.all leafOk = false) : flitchE l = 2 := by unfold flitchE; rw [if_neg h, if_pos h1]
theorem flitch_fall {l : List Int} (h : ¬ 400 < l.length) (h1 : l.all leafOk = true) (h2 : nextB riseP l = false) : flitchE l = 9 := by unfold flitchE; rw [if_neg h, if_neg (by rw [h1]; decide), if_pos h2]
theorem flitch_ok {l : List Int} (h : ¬ 400 < l.length) (h1 : l.all leafOk = true) (h2 : nextB riseP l = true) : flitchE l = 0 := by unfold flitchE; rw [if_neg h, if_neg (by rw [h1]; decide), if_neg (by rw [h2]; decide)]

set_option maxHeartbeats 2000000 in
theorem checkFlitch_any (a : Option Addr) (l : List Int) (c : Nat) (w : World) (hv : Intss.V w a l) (hl : l.length ≤ 1000000) :
    Calls Try.prog 78 #[.slice a l.length c] w fun e w' => e = .returned (.int .i64 (flitchE l)) ∧ Below w.heap.size w w' := by
  by_cases hbig : 400 < l.length
  · go_enter Try.func78, Try.ntmps78
    go_wp2_with fail
    go_ret
    exact ⟨ret_int (flitch_big hbig).symm, Below.refl _ _⟩
  · go_enter Try.func78, Try.ntmps78
    go_wp2_with fail
    go_loopw [11] (fun iv wr => ∃ k : Nat, k ≤ l.length ∧ iv = .int .i64 k ∧ Hid (∀ j (hj : j < l.length), j < k → leafOk l[j] = true) ∧ Below w.heap.size w wr) (fun iv _ => l.length - (intOf iv).toNat)
    case atStart => exact ⟨0, Nat.zero_le _, rfl, Lib.hid (fun j _ h => by omega), Below.refl _ _⟩
    case round =>
      obtain ⟨k, hk, rfl, HK, hbw⟩ := hrel
      by_cases hlt : k < l.length
      · obtain ⟨b, off, ha, c0, -⟩ := (hv.keep hbw).at' hlt
        subst ha
        have HN := Lib.hid (fun h => all_no (p := leafOk) hlt h)
        have HS := Lib.hid (fun h => all_step (p := leafOk) hlt HK.out h)
        have hki : (k : Int) < (l.length : Int) := by omega
        clear HK
        generalize l[k] = x at *
        cases hq : leafOk x
        · have hr := Lib.hid (HN.out hq)
          have hq' := Lib.hid (show withinB x 1 100000 = false from hq)
          clear hq HN HS
          go_wp2_with (go_at_call 67; refine (cwithin_any _ _ _ _).mono ?_; rw [hq'.out]; rintro e w' ⟨rfl, rfl⟩)
          go_ret
          exact ⟨ret_int (flitch_bad hbig hr.out).symm, hbw⟩
        · have hr := Lib.hid (HS.out hq)
          have hq' := Lib.hid (show withinB x 1 100000 = true from hq)
          clear hq HN HS
          go_wp2_with (go_at_call 67; refine (cwithin_any _ _ _ _).mono ?_; rw [hq'.out]; rintro e w' ⟨rfl, rfl⟩)
          go_roundw
          case rel => exact ⟨k + 1, by omega, by go_num, hr, hbw⟩
          case measure => simp [intOf]; omega
      · have HA := Lib.hid (all_yes (p := leafOk) (by omega) HK.out)
        have hki : ¬ (k : Int) < (l.length : Int) := by omega
        have HB0 := Lib.hid hbw
        clear HK hbw
        go_wp2_with fail
        obtain ⟨wo, rfl⟩ : ∃ wo : World, wo = wr := ⟨_, rfl⟩
        go_loopw [5] (fun iv wr => ∃ m : Nat, m ≤ l.length ∧ iv = .int .i64 ((m : Int) + 1) ∧ Hid (∀ j (hj : j + 1 < l.length), j < m → riseP l[j] l[j + 1] = true) ∧ Below w.heap.size w wr) (fun iv _ => l.length + 1 - (intOf iv).toNat)
        case atStart => exact ⟨0, Nat.zero_le _, rfl, Lib.hid (fun j _ h => by omega), HB0.out⟩
        case round =>
          clear HB0
          obtain ⟨m, hm, rfl, HM, hbr⟩ := hrel
          by_cases hlt : m + 1 < l.length
          · have hlt1 : m < l.length := by omega
            obtain ⟨b, off, ha, c0, -⟩ := (hv.keep hbr).at' hlt1
            obtain ⟨b', off', ha', c1, -⟩ := (hv.keep hbr).at' hlt
            rw [ha] at ha'
            injection ha' with ha'
            injection ha' with e1 e2
            subst e1 e2
            subst ha
            have hzr := block_lt_of_cell c0
            simp only at hzr
            have i0 : (0 : Int) ≤ (m : Int) + 1 := by omega
            have i1 : ((m : Int) + 1).toNat = m + 1 := by omega
            have i2 : (m : Int) + 1 < (l.length : Int) := by omega
            have i3 : (m : Int) < (l.length : Int) := by omega
            have v1 : IntKind.i64.wrap ((m : Int) + 1 - 1) = m := by rw [Int.add_sub_cancel]; exact IntWalk.i64_in _ (by omega)
            have v2 : IntKind.i64.wrap ((m : Int) + 1 + 1) = (m : Int) + 1 + 1 := IntWalk.i64_in _ (by omega)
            have HI := Lib.hid (show m + 1 < l.length ∧ l.length ≤ 9223372036854775000 from ⟨hlt, by omega⟩)
            have HN := Lib.hid (fun h => nextB_no (p := riseP) hlt h)
            have HS := Lib.hid (fun h => nextB_step (p := riseP) hlt HM.out h)
            generalize l[m] = x at *
            generalize l[m + 1] = y at *
            clear HM hlt hlt1
            by_cases hle : y ≤ x
            · have hR := Lib.hid (HN.out (by unfold riseP; rw [decide_eq_false_iff_not]; omega))
              have hle' : decide (y ≤ x) = true := decide_eq_true hle
              go_wp2_with fail
              go_quiet (fail)
              rename_i nq
              go_wp2_with fail
              go_ret
              exact ⟨ret_int (flitch_fall hbig HA.out hR.out).symm, below_drewN hbr nq⟩
            · have hR := Lib.hid (HS.out (by unfold riseP; rw [decide_eq_true_eq]; omega))
              have hle' : decide (y ≤ x) = false := decide_eq_false hle
              go_wp2_with fail
              go_quiet (fail)
              rename_i nq
              go_wp2_with fail
              go_roundw
              case rel => exact ⟨m + 1, by have := HI.out; omega, by go_num, hR, below_drewN hbr nq⟩
              case measure => have := HI.out; simp [intOf]; omega
          · have HE := Lib.hid (nextB_yes (p := riseP) (l := l) (k := m) (by omega) HM.out)
            have hi : ¬ (m : Int) + 1 < (l.length : Int) := by omega
            clear HM
            go_wp2_with fail
            go_ret
            exact ⟨ret_int (flitch_ok hbig HA.out HE.out).symm, hbr⟩
set_option maxHeartbeats 2000000 in
theorem refCheckFlitch_any (a : Option Addr) (l : List Int) (c : Nat) (w : World) (hv : Intss.V w a l) (hl : l.length ≤ 1000000) :
    Calls Try.prog 49 #[.slice a l.length c] w fun e w' => e = .returned (.int .i64 (flitchE l)) ∧ Below w.heap.size w w' := by
  by_cases hbig : 400 < l.length
  · go_enter Try.func49, Try.ntmps49
    go_wp2_with fail
    go_ret
    exact ⟨ret_int (flitch_big hbig).symm, Below.refl _ _⟩
  · go_enter Try.func49, Try.ntmps49
    go_wp2_with fail
    go_loopw [3] (fun iv wr => ∃ k : Nat, k ≤ l.length ∧ iv = .int .i64 k ∧ Hid (∀ j (hj : j < l.length), j < k → leafOk l[j] = true) ∧ Below w.heap.size w wr) (fun iv _ => l.length - (intOf iv).toNat)
    case atStart => exact ⟨0, Nat.zero_le _, rfl, Lib.hid (fun j _ h => by omega), Below.refl _ _⟩
    case round =>
      obtain ⟨k, hk, rfl, HK, hbw⟩ := hrel
      by_cases hlt : k < l.length
      · obtain ⟨b, off, ha, c0, -⟩ := (hv.keep hbw).at' hlt
        subst ha
        have HN := Lib.hid (fun h => all_no (p := leafOk) hlt h)
        have HS := Lib.hid (fun h => all_step (p := leafOk) hlt HK.out h)
        have hki : (k : Int) < (l.length : Int) := by omega
        clear HK
        generalize l[k] = x at *
        cases hq : leafOk x
        · have hr := Lib.hid (HN.out hq)
          have hq' := Lib.hid (show withinB x 1 100000 = false from hq)
          clear hq HN HS
          go_wp2_with (go_at_call 22; refine (baseWithin_any _ _ _ _).mono ?_; rw [hq'.out]; rintro e w' ⟨rfl, rfl⟩)
          go_ret
          exact ⟨ret_int (flitch_bad hbig hr.out).symm, hbw⟩
        · have hr := Lib.hid (HS.out hq)
          have hq' := Lib.hid (show withinB x 1 100000 = true from hq)
          clear hq HN HS
          go_wp2_with (go_at_call 22; refine (baseWithin_any _ _ _ _).mono ?_; rw [hq'.out]; rintro e w' ⟨rfl, rfl⟩)
          go_roundw
          case rel => exact ⟨k + 1, by omega, by go_num, hr, hbw⟩
          case measure => simp [intOf]; omega
      · have HA := Lib.hid (all_yes (p := leafOk) (by omega) HK.out)
        have hki : ¬ (k : Int) < (l.length : Int) := by omega
        have HB0 := Lib.hid hbw
        clear HK hbw
        go_wp2_with fail
        obtain ⟨wo, rfl⟩ : ∃ wo : World, wo = wr := ⟨_, rfl⟩
        go_loopw [4] (fun iv wr => ∃ m : Nat, m ≤ l.length ∧ iv = .int .i64 ((m : Int) + 1) ∧ Hid (∀ j (hj : j + 1 < l.length), j < m → riseP l[j] l[j + 1] = true) ∧ Below w.heap.size w wr) (fun iv _ => l.length + 1 - (intOf iv).toNat)
        case atStart => exact ⟨0, Nat.zero_le _, rfl, Lib.hid (fun j _ h => by omega), HB0.out⟩
        case round =>
          clear HB0
          obtain ⟨m, hm, rfl, HM, hbr⟩ := hrel
          by_cases hlt : m + 1 < l.length
          · have hlt1 : m < l.length := by omega
            obtain ⟨b, off, ha, c0, -⟩ := (hv.keep hbr).at' hlt1
            obtain ⟨b', off', ha', c1, -⟩ := (hv.keep hbr).at' hlt
            rw [ha] at ha'
            injection ha' with ha'
            injection ha' with e1 e2
            subst e1 e2
            subst ha
            have hzr := block_lt_of_cell c0
            simp only at hzr
            have i0 : (0 : Int) ≤ (m : Int) + 1 := by omega
            have i1 : ((m : Int) + 1).toNat = m + 1 := by omega
            have i2 : (m : Int) + 1 < (l.length : Int) := by omega
            have i3 : (m : Int) < (l.length : Int) := by omega
            have v1 : IntKind.i64.wrap ((m : Int) + 1 - 1) = m := by rw [Int.add_sub_cancel]; exact IntWalk.i64_in _ (by omega)
            have v2 : IntKind.i64.wrap ((m : Int) + 1 + 1) = (m : Int) + 1 + 1 := IntWalk.i64_in _ (by omega)
            have HI := Lib.hid (show m + 1 < l.length ∧ l.length ≤ 9223372036854775000 from ⟨hlt, by omega⟩)
            have HN := Lib.hid (fun h => nextB_no (p := riseP) hlt h)
            have HS := Lib.hid (fun h => nextB_step (p := riseP) hlt HM.out h)
            generalize l[m] = x at *
            generalize l[m + 1] = y at *
            clear HM hlt hlt1
            by_cases hle : y ≤ x
            · have hR := Lib.hid (HN.out (by unfold riseP; rw [decide_eq_false_iff_not]; omega))
              have hle' : decide (y ≤ x) = true := decide_eq_true hle
              go_wp2_with fail
              go_quiet (fail)
              rename_i nq
              go_wp2_with fail
              go_ret
              exact ⟨ret_int (flitch_fall hbig HA.out hR.out).symm, below_drewN hbr nq⟩
            · have hR := Lib.hid (HS.out (by unfold riseP; rw [decide_eq_true_eq]; omega))
              have hle' : decide (y ≤ x) = false := decide_eq_false hle
              go_wp2_with fail
              go_quiet (fail)
              rename_i nq
              go_wp2_with fail
              go_roundw
              case rel => exact ⟨m + 1, by have := HI.out; omega, by go_num, hR, below_drewN hbr nq⟩
              case measure => have := HI.out; simp [intOf]; omega
          · have HE := Lib.hid (nextB_yes (p := riseP) (l := l) (k := m) (by omega) HM.out)
            have hi : ¬ (m : Int) + 1 < (l.length : Int) := by omega
            clear HM
            go_wp2_with fail
            go_ret
            exact ⟨ret_int (flitch_ok hbig HA.out HE.out).symm, hbr⟩
set_option maxHeartbeats 2000000 in
theorem follow_any (a : Option Addr) (l : List Int) (c : Nat) (w : World) (hv : Intss.V w a l) (hl : l.length ≤ 1000000) (hin : ∀ x ∈ l, -1000000 ≤ x ∧ x ≤ 1000000) :
    Calls Try.prog 80 #[.slice a l.length c] w fun e w' => e = .returned (.bool (followB l)) ∧ Below w.heap.size w w' := by
  go_enter Try.func80, Try.ntmps80
  go_wp2_with fail
  go_loopw [3] (fun iv wr => ∃ m : Nat, m ≤ l.length ∧ iv = .int .i64 ((m : Int) + 1) ∧ Hid (∀ j (hj : j + 1 < l.length), j < m → followP l[j] l[j + 1] = true) ∧ Below w.heap.size w wr) (fun iv _ => l.length + 1 - (intOf iv).toNat)
  case atStart => exact ⟨0, Nat.zero_le _, rfl, Lib.hid (fun j _ h => by omega), Below.refl _ _⟩
  case round =>
    obtain ⟨m, hm, rfl, HM, hbr⟩ := hrel
    by_cases hlt : m + 1 < l.length
    · have hlt1 : m < l.length := by omega
      obtain ⟨b, off, ha, c0, -⟩ := (hv.keep hbr).at' hlt1
      obtain ⟨b', off', ha', c1, -⟩ := (hv.keep hbr).at' hlt
      rw [ha] at ha'
      injection ha' with ha'
      injection ha' with e1 e2
      subst e1 e2
      subst ha
      have hzr := block_lt_of_cell c0
      simp only at hzr
      have i0 : (0 : Int) ≤ (m : Int) + 1 := by omega
      have i1 : ((m : Int) + 1).toNat = m + 1 := by omega
      have i2 : (m : Int) + 1 < (l.length : Int) := by omega
      have i3 : (m : Int) < (l.length : Int) := by omega
      have v1 : IntKind.i64.wrap ((m : Int) + 1 - 1) = m := by rw [Int.add_sub_cancel]; exact IntWalk.i64_in _ (by omega)
      have v2 : IntKind.i64.wrap ((m : Int) + 1 + 1) = (m : Int) + 1 + 1 := IntWalk.i64_in _ (by omega)
      have HI := Lib.hid (show m + 1 < l.length ∧ l.length ≤ 9223372036854775000 from ⟨hlt, by omega⟩)
      have hx := hin l[m] (List.getElem_mem hlt1)
      have HN := Lib.hid (fun h => nextB_no (p := followP) hlt h)
      have HS := Lib.hid (fun h => nextB_step (p := followP) hlt HM.out h)
      generalize l[m] = x at *
      generalize l[m + 1] = y at *
      clear HM hlt hlt1
      have v3 : IntKind.i64.wrap (x + 1) = x + 1 := IntWalk.i64_in _ (by omega)
      by_cases hle : y = x + 1
      · have hR := Lib.hid (HS.out (by unfold followP; rw [decide_eq_true_eq]; exact hle))
        have hle' : (y != x + 1) = false := by simpa using hle
        have hle2 : (y == x + 1) = true := by simpa using hle
        clear hle
        go_wp2_with fail
        go_quiet (fail)
        rename_i nq
        go_wp2_with fail
        go_roundw
        case rel => exact ⟨m + 1, by have := HI.out; omega, by go_num, hR, below_drewN hbr nq⟩
        case measure => have := HI.out; simp [intOf]; omega
      · have hR := Lib.hid (HN.out (by unfold followP; rw [decide_eq_false_iff_not]; exact hle))
        have hle' : (y != x + 1) = true := by simpa using hle
        go_wp2_with fail
        go_quiet (fail)
        rename_i nq
        go_wp2_with fail
        go_ret
        exact ⟨ret_bool hR.out.symm, below_drewN hbr nq⟩
    · have HE := Lib.hid (nextB_yes (p := followP) (l := l) (k := m) (by omega) HM.out)
      have hi : ¬ (m : Int) + 1 < (l.length : Int) := by omega
      clear HM
      go_wp2_with fail
      go_ret
      exact ⟨ret_bool HE.out.symm, hbr⟩
set_option maxHeartbeats 2000000 in
theorem refFollow_any (a : Option Addr) (l : List Int) (c : Nat) (w : World) (hv : Intss.V w a l) (hl : l.length ≤ 1000000) (hin : ∀ x ∈ l, -1000000 ≤ x ∧ x ≤ 1000000) :
    Calls Try.prog 50 #[.slice a l.length c] w fun e w' => e = .returned (.bool (followB l)) ∧ Below w.heap.size w w' := by
  go_enter Try.func50, Try.ntmps50
  go_wp2_with fail
  go_loopw [3] (fun iv wr => ∃ m : Nat, m ≤ l.length ∧ iv = .int .i64 ((m : Int) + 1) ∧ Hid (∀ j (hj : j + 1 < l.length), j < m → followP l[j] l[j + 1] = true) ∧ Below w.heap.size w wr) (fun iv _ => l.length + 1 - (intOf iv).toNat)
  case atStart => exact ⟨0, Nat.zero_le _, rfl, Lib.hid (fun j _ h => by omega), Below.refl _ _⟩
  case round =>
    obtain ⟨m, hm, rfl, HM, hbr⟩ := hrel
    by_cases hlt : m + 1 < l.length
    · have hlt1 : m < l.length := by omega
      obtain ⟨b, off, ha, c0, -⟩ := (hv.keep hbr).at' hlt1
      obtain ⟨b', off', ha', c1, -⟩ := (hv.keep hbr).at' hlt
      rw [ha] at ha'
      injection ha' with ha'
      injection ha' with e1 e2
      subst e1 e2
      subst ha
      have hzr := block_lt_of_cell c0
      simp only at hzr
      have i0 : (0 : Int) ≤ (m : Int) + 1 := by omega
      have i1 : ((m : Int) + 1).toNat = m + 1 := by omega
      have i2 : (m : Int) + 1 < (l.length : Int) := by omega
      have i3 : (m : Int) < (l.length : Int) := by omega
      have v1 : IntKind.i64.wrap ((m : Int) + 1 - 1) = m := by rw [Int.add_sub_cancel]; exact IntWalk.i64_in _ (by omega)
      have v2 : IntKind.i64.wrap ((m : Int) + 1 + 1) = (m : Int) + 1 + 1 := IntWalk.i64_in _ (by omega)
      have HI := Lib.hid (show m + 1 < l.length ∧ l.length ≤ 9223372036854775000 from ⟨hlt, by omega⟩)
      have hx := hin l[m] (List.getElem_mem hlt1)
      have HN := Lib.hid (fun h => nextB_no (p := followP) hlt h)
      have HS := Lib.hid (fun h => nextB_step (p := followP) hlt HM.out h)
      generalize l[m] = x at *
      generalize l[m + 1] = y at *
      clear HM hlt hlt1
      have v3 : IntKind.i64.wrap (x + 1) = x + 1 := IntWalk.i64_in _ (by omega)
      by_cases hle : y = x + 1
      · have hR := Lib.hid (HS.out (by unfold followP; rw [decide_eq_true_eq]; exact hle))
        have hle' : (y != x + 1) = false := by simpa using hle
        have hle2 : (y == x + 1) = true := by simpa using hle
        clear hle
        go_wp2_with fail
        go_quiet (fail)
        rename_i nq
        go_wp2_with fail
        go_roundw
        case rel => exact ⟨m + 1, by have := HI.out; omega, by go_num, hR, below_drewN hbr nq⟩
        case measure => have := HI.out; simp [intOf]; omega
      · have hR := Lib.hid (HN.out (by unfold followP; rw [decide_eq_false_iff_not]; exact hle))
        have hle' : (y != x + 1) = true := by simpa using hle
        go_wp2_with fail
        go_quiet (fail)
        rename_i nq
        go_wp2_with fail
        go_ret
        exact ⟨ret_bool hR.out.symm, below_drewN hbr nq⟩
    · have HE := Lib.hid (nextB_yes (p := followP) (l := l) (k := m) (by omega) HM.out)
      have hi : ¬ (m : Int) + 1 < (l.length : Int) := by omega
      clear HM
      go_wp2_with fail
      go_ret
      exact ⟨ret_bool HE.out.symm, hbr⟩
end Go.Proofs.Ytepiapgcpoifpaa

set_option linter.unusedVariables false
set_option linter.unusedSimpArgs false
namespace Go.Proofs.Ytepiapgcpoifpaa
open Go Go.RowKit

set_option maxHeartbeats 1000000 in
theorem idxInt_any (a : Option Addr) (l : List Int) (c : Nat) (x : Int) (w : World) (hv : Intss.V w a l) (hl : l.length ≤ 1000000) :
    Calls Try.prog 113 #[.slice a l.length c, .int .i64 x] w fun e w' => e = .returned (.int .i64 (idxOf (fun y => decide (x = y)) l)) ∧ Below w.heap.size w w' := by
  go_enter Try.func113, Try.ntmps113
  go_wp2_with fail
  go_loopw [8] (fun i wr => ∃ k : Nat, k ≤ l.length ∧ i = .int .i64 k ∧ Hid (∀ j (hj : j < l.length), j < k → decide (x = l[j]) = false) ∧ Below w.heap.size w wr) (fun i _ => l.length - (intOf i).toNat)
  case atStart => exact ⟨0, Nat.zero_le _, rfl, Lib.hid (fun j _ h => by omega), Below.refl _ _⟩
  case round =>
    obtain ⟨k, hk, rfl, HK, hbw⟩ := hrel
    by_cases hlt : k < l.length
    · obtain ⟨b, off, rfl, c0, -⟩ := (hv.keep hbw).at' hlt
      have HH := Lib.hid (fun h => idxOf_hit (p := fun y => decide (x = y)) hlt HK.out h)
      have HN := Lib.hid (fun h => none_step (p := fun y => decide (x = y)) HK.out hlt h)
      have hki : (k : Int) < (l.length : Int) := by omega
      generalize l[k] = y at *
      by_cases hxy : x = y
      · have hr := Lib.hid (HH.out (decide_eq_true hxy))
        have h1 : (x == y) = true := beq_t hxy
        clear hxy HH HN HK
        go_wp2_with fail
        go_ret
        exact ⟨ret_int hr.out.symm, hbw⟩
      · have hr := Lib.hid (HN.out (decide_eq_false hxy))
        have h1 : (x == y) = false := beq_f hxy
        clear hxy HH HN HK
        go_wp2_with fail
        go_roundw
        case rel => exact ⟨k + 1, by omega, by go_num, hr, hbw⟩
        case measure => simp [intOf]; omega
    · have hm := Lib.hid (idxOf_miss (p := fun y => decide (x = y)) (l := l) (fun j hj => HK.out j hj (by omega)))
      have hki : ¬ (k : Int) < (l.length : Int) := by omega
      clear HK
      go_wp2_with fail
      go_ret
      exact ⟨ret_int hm.out.symm, hbw⟩
def hasB (l : List Int) (x : Int) : Bool := l.any fun y => decide (x = y)
theorem idxOf_bool' {α : Type} (p : α → Bool) (l : List α) : decide (0 ≤ idxOf p l) = l.any p := by
  unfold idxOf
  rw [Bool.eq_iff_iff, decide_eq_true_eq]
  cases h : l.findIdx? p with
  | none =>
    rw [List.findIdx?_eq_none_iff] at h
    simp only [List.any_eq_true]
    exact ⟨fun h' => by omega, fun ⟨x, hx, hp⟩ => by rw [h x hx] at hp; cases hp⟩
  | some i =>
    rw [List.findIdx?_eq_some_iff_getElem] at h
    obtain ⟨hi, hp, -⟩ := h
    simp only [List.any_eq_true]
    exact ⟨fun _ => ⟨_, List.getElem_mem hi, hp⟩, fun _ => by omega⟩
set_option maxHeartbeats 1000000 in
theorem hasInt_any (a : Option Addr) (l : List Int) (c : Nat) (x : Int) (w : World) (hv : Intss.V w a l) (hl : l.length ≤ 1000000) {q : Bool} (hq : hasB l x = q) :
    Calls Try.prog 79 #[.slice a l.length c, .int .i64 x] w fun e w' => e = .returned (.bool q) ∧ Below w.heap.size w w' := by
  have hi := Lib.hid ((idxOf_bool' (fun y => decide (x = y)) l).trans hq)
  generalize hI : idxOf (fun y => decide (x = y)) l = I at *
  have HC := Lib.hid (idxInt_any a l c x w hv hl)
  rw [hI] at HC
  clear hI
  go_enter Try.func79, Try.ntmps79
  go_wp2_with (go_at_call 113; refine HC.out.mono ?_; rintro e w1 ⟨rfl, hb⟩; have HB := Lib.hid hb; clear hb)
  go_ret
  exact ⟨ret_bool (by rw [← hi.out]), HB.out⟩
set_option maxHeartbeats 1000000 in
theorem refHas_any (a : Option Addr) (l : List Int) (c : Nat) (x : Int) (w : World) (hv : Intss.V w a l) (hl : l.length ≤ 1000000) {q : Bool} (hq : hasB l x = q) :
    Calls Try.prog 81 #[.slice a l.length c, .int .i64 x] w fun e w' => e = .returned (.bool q) ∧ Below w.heap.size w w' := by
  have HQ := Lib.hid hq
  clear hq
  go_enter Try.func81, Try.ntmps81
  go_wp2_with fail
  go_loopw [5] (fun i wr => ∃ k : Nat, k ≤ l.length ∧ i = .int .i64 k ∧ Hid (∀ j (hj : j < l.length), j < k → decide (x = l[j]) = false) ∧ Below w.heap.size w wr) (fun i _ => l.length - (intOf i).toNat)
  case atStart => exact ⟨0, Nat.zero_le _, rfl, Lib.hid (fun j _ h => by omega), Below.refl _ _⟩
  case round =>
    obtain ⟨k, hk, rfl, HK, hbw⟩ := hrel
    by_cases hlt : k < l.length
    · obtain ⟨b, off, rfl, c0, -⟩ := (hv.keep hbw).at' hlt
      have HH := Lib.hid (fun h : decide (x = l[k]) = true => show hasB l x = true by unfold hasB; rw [List.any_eq_true]; exact ⟨_, List.getElem_mem hlt, h⟩)
      have HN := Lib.hid (fun h => none_step (p := fun y => decide (x = y)) HK.out hlt h)
      have hki : (k : Int) < (l.length : Int) := by omega
      generalize l[k] = y at *
      by_cases hxy : x = y
      · have hr := Lib.hid (HH.out (decide_eq_true hxy))
        have h1 : (y == x) = true := beq_t hxy.symm
        clear hxy HH HN HK
        go_wp2_with fail
        go_ret
        exact ⟨ret_bool (by rw [← HQ.out, hr.out]), hbw⟩
      · have hr := Lib.hid (HN.out (decide_eq_false hxy))
        have h1 : (y == x) = false := beq_f (fun e => hxy e.symm)
        clear hxy HH HN HK
        go_wp2_with fail
        go_roundw
        case rel => exact ⟨k + 1, by omega, by go_num, hr, hbw⟩
        case measure => simp [intOf]; omega
    · have hm := Lib.hid (show hasB l x = false by
        unfold hasB
        rw [List.any_eq_false]
        intro y hy
        obtain ⟨j, hj, rfl⟩ := List.mem_iff_getElem.1 hy
        simpa using HK.out j hj (by omega))
      have hki : ¬ (k : Int) < (l.length : Int) := by omega
      clear HK
      go_wp2_with fail
      go_ret
      exact ⟨ret_bool (by rw [← HQ.out, hm.out]), hbw⟩

/-- The error of a match. -/
def flipP (i : Nat) (f : Bool) : Bool := f == decide ((i : Int) % 2 = 1)
def flipOk : Nat → List Bool → Bool
  | _, [] => true
  | i, f :: r => flipP i f && flipOk (i + 1) r
theorem flipOk_iff : ∀ {l : List Bool} {i : Nat}, flipOk i l = true ↔ ∀ j (h : j < l.length), flipP (i + j) l[j] = true
  | [], _ => by simp [flipOk]
  | f :: r, i => by
    rw [flipOk, Bool.and_eq_true, flipOk_iff]
    constructor
    · rintro ⟨h1, h2⟩ j hj
      match j, hj with
      | 0, _ => exact h1
      | j + 1, hj => have := h2 j (by simpa using hj); rwa [show i + 1 + j = i + (j + 1) by omega] at this
    · intro h
      exact ⟨h 0 (by simp), fun j hj => by have := h (j + 1) (by simpa using hj); rwa [show i + (j + 1) = i + 1 + j by omega] at this⟩
theorem flip_yes {l : List Bool} {k : Nat} (hk : l.length ≤ k) (h : ∀ j (hj : j < l.length), j < k → flipP j l[j] = true) : flipOk 0 l = true := flipOk_iff.2 fun j hj => by rw [Nat.zero_add]; exact h j hj (by omega)
theorem flip_no {l : List Bool} {k : Nat} (hk : k < l.length) (h : flipP k l[k] = false) : flipOk 0 l = false := by
  rw [Bool.eq_false_iff]
  intro h2
  have := flipOk_iff.1 h2 k hk
  rw [Nat.zero_add, h] at this; cases this
theorem flip_step {l : List Bool} {k : Nat} (hk : k < l.length) (h : ∀ j (hj : j < l.length), j < k → flipP j l[j] = true) (h1 : flipP k l[k] = true) : ∀ j (hj : j < l.length), j < k + 1 → flipP j l[j] = true := by
  intro j hj hlt
  rcases Nat.lt_succ_iff_lt_or_eq.1 hlt with h' | rfl
  · exact h j hj h'
  · exact h1
def matchE (fl lv : List Int) (fp : List Bool) : Int :=
  if flitchE fl ≠ 0 then flitchE fl else if lv.length = 0 ∨ fp.length ≠ lv.length then 10 else if lv.all (hasB fl) = false then 6 else if followB lv = false then 9 else if flipOk 0 fp = false then 3 else 0
section
variable {fl lv : List Int} {fp : List Bool}
theorem match_flitch (h : ¬ flitchE fl = 0) : matchE fl lv fp = flitchE fl := by unfold matchE; rw [if_pos h]
theorem match_shape (h : flitchE fl = 0) (h1 : lv.length = 0 ∨ fp.length ≠ lv.length) : matchE fl lv fp = 10 := by unfold matchE; rw [if_neg (by simp [h]), if_pos h1]
theorem match_miss (h : flitchE fl = 0) (h1 : ¬ (lv.length = 0 ∨ fp.length ≠ lv.length)) (h2 : lv.all (hasB fl) = false) : matchE fl lv fp = 6 := by unfold matchE; rw [if_neg (by simp [h]), if_neg h1, if_pos h2]
theorem match_order (h : flitchE fl = 0) (h1 : ¬ (lv.length = 0 ∨ fp.length ≠ lv.length)) (h2 : lv.all (hasB fl) = true) (h3 : followB lv = false) : matchE fl lv fp = 9 := by unfold matchE; rw [if_neg (by simp [h]), if_neg h1, if_neg (by rw [h2]; decide), if_pos h3]
theorem match_form (h : flitchE fl = 0) (h1 : ¬ (lv.length = 0 ∨ fp.length ≠ lv.length)) (h2 : lv.all (hasB fl) = true) (h3 : followB lv = true) (h4 : flipOk 0 fp = false) : matchE fl lv fp = 3 := by unfold matchE; rw [if_neg (by simp [h]), if_neg h1, if_neg (by rw [h2]; decide), if_neg (by rw [h3]; decide), if_pos h4]
theorem match_ok (h : flitchE fl = 0) (h1 : ¬ (lv.length = 0 ∨ fp.length ≠ lv.length)) (h2 : lv.all (hasB fl) = true) (h3 : followB lv = true) (h4 : flipOk 0 fp = true) : matchE fl lv fp = 0 := by unfold matchE; rw [if_neg (by simp [h]), if_neg h1, if_neg (by rw [h2]; decide), if_neg (by rw [h3]; decide), if_neg (by rw [h4]; decide)]
theorem flitch_in (h : flitchE fl = 0) : ∀ x ∈ fl, 1 ≤ x ∧ x ≤ 100000 := by
  unfold flitchE at h
  split at h
  · cases h
  · split at h
    · cases h
    · rename_i h1 h2
      simp only [Bool.not_eq_false] at h2
      rw [List.all_eq_true] at h2
      exact fun x hx => withinB_true (h2 x hx)
theorem has_in (h : flitchE fl = 0) (h2 : lv.all (hasB fl) = true) : ∀ x ∈ lv, -1000000 ≤ x ∧ x ≤ 1000000 := by
  intro x hx
  rw [List.all_eq_true] at h2
  have h3 := h2 x hx
  unfold hasB at h3
  rw [List.any_eq_true] at h3
  obtain ⟨y, hy, h4⟩ := h3
  have := flitch_in h y hy
  have : x = y := by simpa using h4
  omega
end
theorem follow_is (a : Option Addr) (l : List Int) (c : Nat) (w : World) {q : Bool} (hq : followB l = q) (hv : Intss.V w a l) (hl : l.length ≤ 1000000) (hin : ∀ x ∈ l, -1000000 ≤ x ∧ x ≤ 1000000) : Calls Try.prog 80 #[.slice a l.length c] w fun e w' => e = .returned (.bool q) ∧ Below w.heap.size w w' := by subst hq; exact follow_any a l c w hv hl hin
theorem refFollow_is (a : Option Addr) (l : List Int) (c : Nat) (w : World) {q : Bool} (hq : followB l = q) (hv : Intss.V w a l) (hl : l.length ≤ 1000000) (hin : ∀ x ∈ l, -1000000 ≤ x ∧ x ≤ 1000000) : Calls Try.prog 50 #[.slice a l.length c] w fun e w' => e = .returned (.bool q) ∧ Below w.heap.size w w' := by subst hq; exact refFollow_any a l c w hv hl hin
theorem checkFlitch_is (a : Option Addr) (l : List Int) (c : Nat) (w : World) {q : Int} (hq : flitchE l = q) (hv : Intss.V w a l) (hl : l.length ≤ 1000000) : Calls Try.prog 78 #[.slice a l.length c] w fun e w' => e = .returned (.int .i64 q) ∧ Below w.heap.size w w' := by subst hq; exact checkFlitch_any a l c w hv hl
theorem refCheckFlitch_is (a : Option Addr) (l : List Int) (c : Nat) (w : World) {q : Int} (hq : flitchE l = q) (hv : Intss.V w a l) (hl : l.length ≤ 1000000) : Calls Try.prog 49 #[.slice a l.length c] w fun e w' => e = .returned (.int .i64 q) ∧ Below w.heap.size w w' := by subst hq; exact refCheckFlitch_any a l c w hv hl
end Go.Proofs.Ytepiapgcpoifpaa

set_option linter.unusedVariables false
set_option linter.unusedSimpArgs false
namespace Go.Proofs.Ytepiapgcpoifpaa
open Go Go.RowKit

set_option maxRecDepth 100000 in
set_option maxHeartbeats 4000000 in
theorem checkMatch_any (af : Option Addr) (fl : List Int) (cf : Nat) (av : Option Addr) (lv : List Int) (cv : Nat) (ap : Option Addr) (fp : List Bool) (cp : Nat) (w : World) (hv1 : Intss.V w af fl) (hv2 : Intss.V w av lv) (hv3 : Bools.V w ap fp) (hl1 : fl.length ≤ 1000000) (hl2 : lv.length ≤ 1000000) (hl3 : fp.length ≤ 1000000) :
    Calls Try.prog 34 #[.slice af fl.length cf, .agg #[.slice av lv.length cv, .slice ap fp.length cp]] w fun e w' => e = .returned (.int .i64 (matchE fl lv fp)) ∧ Below w.heap.size w w' := by
  by_cases he : flitchE fl = 0
  · have HE := Lib.hid he
    clear he
    by_cases hsh : lv.length = 0 ∨ fp.length ≠ lv.length
    · have HM := Lib.hid (match_shape HE.out hsh)
      have h1 : (lv.length : Int) = 0 ∨ (¬ (lv.length : Int) = 0 ∧ ¬ (fp.length : Int) = (lv.length : Int)) := by omega
      clear hsh
      rcases h1 with h1 | ⟨h1, h2⟩
      · have h1' : ((lv.length : Int) == 0) = true := beq_t h1
        go_enter Try.func34, Try.ntmps34
        go_wp2_with (go_at_call 78; refine (checkFlitch_is af fl cf _ HE.out (hv1.keep ((Below.refl _ _).alloc (Nat.le_refl _) _)) hl1).mono ?_; rintro e w1 ⟨rfl, hb⟩; have HB := Lib.hid (((Below.refl _ _).alloc (Nat.le_refl _) _).trans (hb.mono (by simp))); have k0 : w1.cell? ⟨w.heap.size, 0, none⟩ = some (.slice av lv.length cv) := cell_keep hb (by simp [go_sem]); have k1 : w1.cell? ⟨w.heap.size, 1, none⟩ = some (.slice ap fp.length cp) := cell_keep hb (by simp [go_sem]); clear hb)
        go_ret
        exact ⟨ret_int HM.out.symm, HB.out⟩
      · have h1' : ((lv.length : Int) == 0) = false := beq_f h1
        have h2' : ((fp.length : Int) == (lv.length : Int)) = false := beq_f h2
        have h2'' : ((fp.length : Int) != (lv.length : Int)) = true := by simpa using h2
        go_enter Try.func34, Try.ntmps34
        go_wp2_with (go_at_call 78; refine (checkFlitch_is af fl cf _ HE.out (hv1.keep ((Below.refl _ _).alloc (Nat.le_refl _) _)) hl1).mono ?_; rintro e w1 ⟨rfl, hb⟩; have HB := Lib.hid (((Below.refl _ _).alloc (Nat.le_refl _) _).trans (hb.mono (by simp))); have k0 : w1.cell? ⟨w.heap.size, 0, none⟩ = some (.slice av lv.length cv) := cell_keep hb (by simp [go_sem]); have k1 : w1.cell? ⟨w.heap.size, 1, none⟩ = some (.slice ap fp.length cp) := cell_keep hb (by simp [go_sem]); clear hb)
        go_ret
        exact ⟨ret_int HM.out.symm, HB.out⟩
    · have HSH := Lib.hid hsh
      have h1 : ¬ (lv.length : Int) = 0 := by omega
      have h1' : ((lv.length : Int) == 0) = false := beq_f h1
      have h2 : fp.length = lv.length := by omega
      have h2' : ((fp.length : Int) == (lv.length : Int)) = true := beq_t (by omega)
      have h2'' : ((fp.length : Int) != (lv.length : Int)) = false := by simp [h2]
      have H2 := Lib.hid h2
      clear hsh h2
      go_enter Try.func34, Try.ntmps34
      go_wp2_with (go_at_call 78; refine (checkFlitch_is af fl cf _ HE.out (hv1.keep ((Below.refl _ _).alloc (Nat.le_refl _) _)) hl1).mono ?_; rintro e w1 ⟨rfl, hb⟩; have HB := Lib.hid (((Below.refl _ _).alloc (Nat.le_refl _) _).trans (hb.mono (by simp))); have k0 : w1.cell? ⟨w.heap.size, 0, none⟩ = some (.slice av lv.length cv) := cell_keep hb (by simp [go_sem]); have k1 : w1.cell? ⟨w.heap.size, 1, none⟩ = some (.slice ap fp.length cp) := cell_keep hb (by simp [go_sem]); have hzw : w.heap.size < w1.heap.size := (by have := hb.size; simp at this; omega); clear hb)
      have K0 := Lib.hid (And.intro k0 k1)
      clear k0 k1 h1 h1' h2' h2''
      go_loopw [31] (fun iv wr => ∃ k : Nat, k ≤ lv.length ∧ iv = .int .i64 k ∧ Hid (∀ j (hj : j < lv.length), j < k → hasB fl lv[j] = true) ∧ Below w1.heap.size w1 wr) (fun iv _ => lv.length - (intOf iv).toNat)
      case atStart => exact ⟨0, Nat.zero_le _, rfl, Lib.hid (fun j _ h => by omega), Below.refl _ _⟩
      case round =>
        obtain ⟨k, hk, rfl, HK, hbr⟩ := hrel
        have hbw := HB.out.trans (hbr.mono (Nat.le_of_lt hzw))
        have k0 := cell_keep hbr K0.out.1
        have k1 := cell_keep hbr K0.out.2
        have HBW := Lib.hid hbw
        have HBR := Lib.hid hbr
        by_cases hlt : k < lv.length
        · obtain ⟨b, off, rfl, c0, -⟩ := (hv2.keep hbw).at' hlt
          have HN := Lib.hid (fun h => all_no (p := hasB fl) hlt h)
          have HS := Lib.hid (fun h => all_step (p := hasB fl) hlt HK.out h)
          have hki : (k : Int) < (lv.length : Int) := by omega
          clear HK hbw hbr
          generalize lv[k] = x at *
          cases hq : hasB fl x
          · have hr := Lib.hid (HN.out hq)
            have HQ := Lib.hid hq
            clear hq HN HS
            go_wp2_with (go_at_call 79; refine (hasInt_any af fl cf x _ (hv1.keep HBW.out) hl1 HQ.out).mono ?_; rintro e w2 ⟨rfl, hb⟩; have HB2 := Lib.hid hb; clear hb)
            go_ret
            exact ⟨ret_int (match_miss HE.out HSH.out hr.out).symm, HBW.out.trans (HB2.out.mono HBW.out.size)⟩
          · have hr := Lib.hid (HS.out hq)
            have HQ := Lib.hid hq
            clear hq HN HS
            go_wp2_with (go_at_call 79; refine (hasInt_any af fl cf x _ (hv1.keep HBW.out) hl1 HQ.out).mono ?_; rintro e w2 ⟨rfl, hb⟩; have HB2 := Lib.hid hb; clear hb)
            go_roundw
            case rel => exact ⟨k + 1, by omega, by go_num, hr, HBR.out.trans (HB2.out.mono HBR.out.size)⟩
            case measure => simp [intOf]; omega
        · have HA := Lib.hid (all_yes (p := hasB fl) (by omega) HK.out)
          have hki : ¬ (k : Int) < (lv.length : Int) := by omega
          clear HK hbw hbr
          cases hf : followB lv
          · have HF := Lib.hid hf
            clear hf
            go_wp2_with (go_at_call 80; refine (follow_is av lv cv _ HF.out (hv2.keep HBW.out) hl2 (has_in HE.out HA.out)).mono ?_; rintro e w2 ⟨rfl, hb⟩; have HB2 := Lib.hid hb; clear hb)
            go_ret
            exact ⟨ret_int (match_order HE.out HSH.out HA.out HF.out).symm, HBW.out.trans (HB2.out.mono HBW.out.size)⟩
          · have HF := Lib.hid hf
            clear hf
            have hzr := HBR.out.size
            go_wp2_with (go_at_call 80; refine (follow_is av lv cv _ HF.out (hv2.keep HBW.out) hl2 (has_in HE.out HA.out)).mono ?_; rintro e w2 ⟨rfl, hb⟩; have HB2 := Lib.hid hb; have k0' := cell_keep hb k0; have k1' := cell_keep hb k1; clear hb k0 k1)
            have HB3 := Lib.hid (HBW.out.trans (HB2.out.mono HBW.out.size))
            have K1 := Lib.hid (And.intro k0' k1')
            have hzw2 : w.heap.size < w2.heap.size := by have := HB2.out.size; omega
            clear k0' k1' HB2 HBW HBR
            obtain ⟨wo, rfl⟩ : ∃ wo : World, wo = wr := ⟨_, rfl⟩
            go_loopw [47] (fun iv wr => ∃ m : Nat, m ≤ fp.length ∧ iv = .int .i64 m ∧ Hid (∀ j (hj : j < fp.length), j < m → flipP j fp[j] = true) ∧ Below w2.heap.size w2 wr) (fun iv _ => fp.length - (intOf iv).toNat)
            case atStart => exact ⟨0, Nat.zero_le _, rfl, Lib.hid (fun j _ h => by omega), Below.refl _ _⟩
            case round =>
              obtain ⟨m, hm, rfl, HM, hbr⟩ := hrel
              have hbw := HB3.out.trans (hbr.mono (Nat.le_of_lt hzw2))
              have k0 := cell_keep hbr K1.out.1
              have k1 := cell_keep hbr K1.out.2
              by_cases hltm : m < fp.length
              · obtain ⟨b, off, rfl, c0⟩ := (hv3.keep hbw).at' hltm
                have HN := Lib.hid (fun h => flip_no hltm h)
                have HS := Lib.hid (fun h => flip_step hltm HM.out h)
                have hmi : (m : Int) < (fp.length : Int) := by omega
                have hg := block_lt_of_cell c0
                simp only at hg
                clear HM
                generalize fp[m] = f at *
                cases hq : flipP m f
                · have hr := Lib.hid (HN.out hq)
                  have hne : (f != decide ((m : Int) % 2 = 1)) = true := by unfold flipP at hq; simpa using hq
                  have hne2 : (f == decide ((m : Int) % 2 = 1)) = false := hq
                  have hne3 : (!(f == ((m : Int) % 2 == 1))) = true := hne
                  clear hq HN HS
                  go_wp2_with fail
                  go_ret
                  exact ⟨ret_int (match_form HE.out HSH.out HA.out HF.out hr.out).symm, hbw⟩
                · have hr := Lib.hid (HS.out hq)
                  have hne : (f != decide ((m : Int) % 2 = 1)) = false := by unfold flipP at hq; simpa using hq
                  have hne2 : (f == decide ((m : Int) % 2 = 1)) = true := hq
                  have hne3 : (!(f == ((m : Int) % 2 == 1))) = false := hne
                  clear hq HN HS
                  go_wp2_with fail
                  go_roundw
                  case rel => exact ⟨m + 1, by omega, by go_num, hr, hbr⟩
                  case measure => simp [intOf]; omega
              · have HX := Lib.hid (flip_yes (by omega) HM.out)
                have hmi : ¬ (m : Int) < (fp.length : Int) := by omega
                clear HM
                go_wp2_with fail
                go_ret
                exact ⟨ret_int (match_ok HE.out HSH.out HA.out HF.out HX.out).symm, hbw⟩
  · have hne : (flitchE fl != 0) = true := by simpa using he
    have HM := Lib.hid (match_flitch (lv := lv) (fp := fp) he)
    obtain ⟨E, hE⟩ : ∃ E, E = flitchE fl := ⟨_, rfl⟩
    rw [← hE] at hne HM
    have HE := Lib.hid hE.symm
    clear he hE
    go_enter Try.func34, Try.ntmps34
    go_wp2_with (go_at_call 78; refine (checkFlitch_is af fl cf _ HE.out (hv1.keep ((Below.refl _ _).alloc (Nat.le_refl _) _)) hl1).mono ?_; rintro e w1 ⟨rfl, hb⟩; have HB := Lib.hid (((Below.refl _ _).alloc (Nat.le_refl _) _).trans (hb.mono (by simp))); clear hb)
    go_ret
    exact ⟨ret_int HM.out.symm, HB.out⟩
set_option maxRecDepth 100000 in
set_option maxHeartbeats 4000000 in
theorem refCheckMatch_any (af : Option Addr) (fl : List Int) (cf : Nat) (av : Option Addr) (lv : List Int) (cv : Nat) (ap : Option Addr) (fp : List Bool) (cp : Nat) (w : World) (hv1 : Intss.V w af fl) (hv2 : Intss.V w av lv) (hv3 : Bools.V w ap fp) (hl1 : fl.length ≤ 1000000) (hl2 : lv.length ≤ 1000000) (hl3 : fp.length ≤ 1000000) :
    Calls Try.prog 35 #[.slice af fl.length cf, .agg #[.slice av lv.length cv, .slice ap fp.length cp]] w fun e w' => e = .returned (.int .i64 (matchE fl lv fp)) ∧ Below w.heap.size w w' := by
  by_cases he : flitchE fl = 0
  · have HE := Lib.hid he
    clear he
    by_cases hsh : lv.length = 0 ∨ fp.length ≠ lv.length
    · have HM := Lib.hid (match_shape HE.out hsh)
      have h1 : (lv.length : Int) = 0 ∨ (¬ (lv.length : Int) = 0 ∧ ¬ (fp.length : Int) = (lv.length : Int)) := by omega
      clear hsh
      rcases h1 with h1 | ⟨h1, h2⟩
      · have h1' : ((lv.length : Int) == 0) = true := beq_t h1
        go_enter Try.func35, Try.ntmps35
        go_wp2_with (go_at_call 49; refine (refCheckFlitch_is af fl cf _ HE.out (hv1.keep ((Below.refl _ _).alloc (Nat.le_refl _) _)) hl1).mono ?_; rintro e w1 ⟨rfl, hb⟩; have HB := Lib.hid (((Below.refl _ _).alloc (Nat.le_refl _) _).trans (hb.mono (by simp))); have k0 : w1.cell? ⟨w.heap.size, 0, none⟩ = some (.slice av lv.length cv) := cell_keep hb (by simp [go_sem]); have k1 : w1.cell? ⟨w.heap.size, 1, none⟩ = some (.slice ap fp.length cp) := cell_keep hb (by simp [go_sem]); clear hb)
        go_ret
        exact ⟨ret_int HM.out.symm, HB.out⟩
      · have h1' : ((lv.length : Int) == 0) = false := beq_f h1
        have h2' : ((fp.length : Int) == (lv.length : Int)) = false := beq_f h2
        have h2'' : ((fp.length : Int) != (lv.length : Int)) = true := by simpa using h2
        go_enter Try.func35, Try.ntmps35
        go_wp2_with (go_at_call 49; refine (refCheckFlitch_is af fl cf _ HE.out (hv1.keep ((Below.refl _ _).alloc (Nat.le_refl _) _)) hl1).mono ?_; rintro e w1 ⟨rfl, hb⟩; have HB := Lib.hid (((Below.refl _ _).alloc (Nat.le_refl _) _).trans (hb.mono (by simp))); have k0 : w1.cell? ⟨w.heap.size, 0, none⟩ = some (.slice av lv.length cv) := cell_keep hb (by simp [go_sem]); have k1 : w1.cell? ⟨w.heap.size, 1, none⟩ = some (.slice ap fp.length cp) := cell_keep hb (by simp [go_sem]); clear hb)
        go_ret
        exact ⟨ret_int HM.out.symm, HB.out⟩
    · have HSH := Lib.hid hsh
      have h1 : ¬ (lv.length : Int) = 0 := by omega
      have h1' : ((lv.length : Int) == 0) = false := beq_f h1
      have h2 : fp.length = lv.length := by omega
      have h2' : ((fp.length : Int) == (lv.length : Int)) = true := beq_t (by omega)
      have h2'' : ((fp.length : Int) != (lv.length : Int)) = false := by simp [h2]
      have H2 := Lib.hid h2
      clear hsh h2
      go_enter Try.func35, Try.ntmps35
      go_wp2_with (go_at_call 49; refine (refCheckFlitch_is af fl cf _ HE.out (hv1.keep ((Below.refl _ _).alloc (Nat.le_refl _) _)) hl1).mono ?_; rintro e w1 ⟨rfl, hb⟩; have HB := Lib.hid (((Below.refl _ _).alloc (Nat.le_refl _) _).trans (hb.mono (by simp))); have k0 : w1.cell? ⟨w.heap.size, 0, none⟩ = some (.slice av lv.length cv) := cell_keep hb (by simp [go_sem]); have k1 : w1.cell? ⟨w.heap.size, 1, none⟩ = some (.slice ap fp.length cp) := cell_keep hb (by simp [go_sem]); have hzw : w.heap.size < w1.heap.size := (by have := hb.size; simp at this; omega); clear hb)
      have K0 := Lib.hid (And.intro k0 k1)
      clear k0 k1 h1 h1' h2' h2''
      go_loopw [6] (fun iv wr => ∃ k : Nat, k ≤ lv.length ∧ iv = .int .i64 k ∧ Hid (∀ j (hj : j < lv.length), j < k → hasB fl lv[j] = true) ∧ Below w1.heap.size w1 wr) (fun iv _ => lv.length - (intOf iv).toNat)
      case atStart => exact ⟨0, Nat.zero_le _, rfl, Lib.hid (fun j _ h => by omega), Below.refl _ _⟩
      case round =>
        obtain ⟨k, hk, rfl, HK, hbr⟩ := hrel
        have hbw := HB.out.trans (hbr.mono (Nat.le_of_lt hzw))
        have k0 := cell_keep hbr K0.out.1
        have k1 := cell_keep hbr K0.out.2
        have HBW := Lib.hid hbw
        have HBR := Lib.hid hbr
        by_cases hlt : k < lv.length
        · obtain ⟨b, off, rfl, c0, -⟩ := (hv2.keep hbw).at' hlt
          have HN := Lib.hid (fun h => all_no (p := hasB fl) hlt h)
          have HS := Lib.hid (fun h => all_step (p := hasB fl) hlt HK.out h)
          have hki : (k : Int) < (lv.length : Int) := by omega
          clear HK hbw hbr
          generalize lv[k] = x at *
          cases hq : hasB fl x
          · have hr := Lib.hid (HN.out hq)
            have HQ := Lib.hid hq
            clear hq HN HS
            go_wp2_with (go_at_call 81; refine (refHas_any af fl cf x _ (hv1.keep HBW.out) hl1 HQ.out).mono ?_; rintro e w2 ⟨rfl, hb⟩; have HB2 := Lib.hid hb; clear hb)
            go_ret
            exact ⟨ret_int (match_miss HE.out HSH.out hr.out).symm, HBW.out.trans (HB2.out.mono HBW.out.size)⟩
          · have hr := Lib.hid (HS.out hq)
            have HQ := Lib.hid hq
            clear hq HN HS
            go_wp2_with (go_at_call 81; refine (refHas_any af fl cf x _ (hv1.keep HBW.out) hl1 HQ.out).mono ?_; rintro e w2 ⟨rfl, hb⟩; have HB2 := Lib.hid hb; clear hb)
            go_roundw
            case rel => exact ⟨k + 1, by omega, by go_num, hr, HBR.out.trans (HB2.out.mono HBR.out.size)⟩
            case measure => simp [intOf]; omega
        · have HA := Lib.hid (all_yes (p := hasB fl) (by omega) HK.out)
          have hki : ¬ (k : Int) < (lv.length : Int) := by omega
          clear HK hbw hbr
          cases hf : followB lv
          · have HF := Lib.hid hf
            clear hf
            go_wp2_with (go_at_call 50; refine (refFollow_is av lv cv _ HF.out (hv2.keep HBW.out) hl2 (has_in HE.out HA.out)).mono ?_; rintro e w2 ⟨rfl, hb⟩; have HB2 := Lib.hid hb; clear hb)
            go_ret
            exact ⟨ret_int (match_order HE.out HSH.out HA.out HF.out).symm, HBW.out.trans (HB2.out.mono HBW.out.size)⟩
          · have HF := Lib.hid hf
            clear hf
            have hzr := HBR.out.size
            go_wp2_with (go_at_call 50; refine (refFollow_is av lv cv _ HF.out (hv2.keep HBW.out) hl2 (has_in HE.out HA.out)).mono ?_; rintro e w2 ⟨rfl, hb⟩; have HB2 := Lib.hid hb; have k0' := cell_keep hb k0; have k1' := cell_keep hb k1; clear hb k0 k1)
            have HB3 := Lib.hid (HBW.out.trans (HB2.out.mono HBW.out.size))
            have K1 := Lib.hid (And.intro k0' k1')
            have hzw2 : w.heap.size < w2.heap.size := by have := HB2.out.size; omega
            clear k0' k1' HB2 HBW HBR
            obtain ⟨wo, rfl⟩ : ∃ wo : World, wo = wr := ⟨_, rfl⟩
            go_loopw [7] (fun iv wr => ∃ m : Nat, m ≤ fp.length ∧ iv = .int .i64 m ∧ Hid (∀ j (hj : j < fp.length), j < m → flipP j fp[j] = true) ∧ Below w2.heap.size w2 wr) (fun iv _ => fp.length - (intOf iv).toNat)
            case atStart => exact ⟨0, Nat.zero_le _, rfl, Lib.hid (fun j _ h => by omega), Below.refl _ _⟩
            case round =>
              obtain ⟨m, hm, rfl, HM, hbr⟩ := hrel
              have hbw := HB3.out.trans (hbr.mono (Nat.le_of_lt hzw2))
              have k0 := cell_keep hbr K1.out.1
              have k1 := cell_keep hbr K1.out.2
              by_cases hltm : m < fp.length
              · obtain ⟨b, off, rfl, c0⟩ := (hv3.keep hbw).at' hltm
                have HN := Lib.hid (fun h => flip_no hltm h)
                have HS := Lib.hid (fun h => flip_step hltm HM.out h)
                have hmi : (m : Int) < (fp.length : Int) := by omega
                have hg := block_lt_of_cell c0
                simp only at hg
                clear HM
                generalize fp[m] = f at *
                cases hq : flipP m f
                · have hr := Lib.hid (HN.out hq)
                  have hne : (f != decide ((m : Int) % 2 = 1)) = true := by unfold flipP at hq; simpa using hq
                  have hne2 : (f == decide ((m : Int) % 2 = 1)) = false := hq
                  have hne3 : (!(f == ((m : Int) % 2 == 1))) = true := hne
                  clear hq HN HS
                  go_wp2_with fail
                  go_ret
                  exact ⟨ret_int (match_form HE.out HSH.out HA.out HF.out hr.out).symm, hbw⟩
                · have hr := Lib.hid (HS.out hq)
                  have hne : (f != decide ((m : Int) % 2 = 1)) = false := by unfold flipP at hq; simpa using hq
                  have hne2 : (f == decide ((m : Int) % 2 = 1)) = true := hq
                  have hne3 : (!(f == ((m : Int) % 2 == 1))) = false := hne
                  clear hq HN HS
                  go_wp2_with fail
                  go_roundw
                  case rel => exact ⟨m + 1, by omega, by go_num, hr, hbr⟩
                  case measure => simp [intOf]; omega
              · have HX := Lib.hid (flip_yes (by omega) HM.out)
                have hmi : ¬ (m : Int) < (fp.length : Int) := by omega
                clear HM
                go_wp2_with fail
                go_ret
                exact ⟨ret_int (match_ok HE.out HSH.out HA.out HF.out HX.out).symm, hbw⟩
  · have hne : (flitchE fl != 0) = true := by simpa using he
    have HM := Lib.hid (match_flitch (lv := lv) (fp := fp) he)
    obtain ⟨E, hE⟩ : ∃ E, E = flitchE fl := ⟨_, rfl⟩
    rw [← hE] at hne HM
    have HE := Lib.hid hE.symm
    clear he hE
    go_enter Try.func35, Try.ntmps35
    go_wp2_with (go_at_call 49; refine (refCheckFlitch_is af fl cf _ HE.out (hv1.keep ((Below.refl _ _).alloc (Nat.le_refl _) _)) hl1).mono ?_; rintro e w1 ⟨rfl, hb⟩; have HB := Lib.hid (((Below.refl _ _).alloc (Nat.le_refl _) _).trans (hb.mono (by simp))); clear hb)
    go_ret
    exact ⟨ret_int HM.out.symm, HB.out⟩
end Go.Proofs.Ytepiapgcpoifpaa

set_option linter.unusedVariables false
set_option linter.unusedSimpArgs false
namespace Go.Proofs.Ytepiapgcpoifpaa
open Go Go.RowKit

def subI (l : List Int) (k n : Nat) : List Int := (l.drop k).take n
theorem subI_len {l : List Int} {k n : Nat} (h : k + n ≤ l.length) : (subI l k n).length = n := by simp [subI]; omega
theorem subI_mem {l : List Int} {k n : Nat} {x : Int} (h : x ∈ subI l k n) : x ∈ l := List.mem_of_mem_drop (List.mem_of_mem_take h)
/-- The first place from k on, of m places; -1: there is none. -/
def firstI (p : Nat → Bool) : Nat → Nat → Int
  | _, 0 => -1
  | k, m + 1 => if p k = true then (k : Int) else firstI p (k + 1) m
theorem firstI_hit {p : Nat → Bool} {k m : Nat} (hm : 0 < m) (h : p k = true) : firstI p k m = k := by
  obtain ⟨n, rfl⟩ : ∃ n, m = n + 1 := ⟨m - 1, by omega⟩
  rw [firstI, if_pos h]
theorem firstI_step {p : Nat → Bool} {k m : Nat} (hm : 0 < m) (h : p k = false) : firstI p k m = firstI p (k + 1) (m - 1) := by
  obtain ⟨n, rfl⟩ : ∃ n, m = n + 1 := ⟨m - 1, by omega⟩
  rw [firstI, if_neg (by simp [h])]; rfl
theorem firstI_none {p : Nat → Bool} : ∀ {m k : Nat}, firstI p k m < 0 → ∀ j, k ≤ j → j < k + m → p j = false
  | 0, k, _, j, h1, h2 => by omega
  | m + 1, k, h, j, h1, h2 => by
    rw [firstI] at h
    split at h
    · omega
    · rename_i hk
      rcases Nat.lt_or_eq_of_le h1 with h3 | rfl
      · exact firstI_none h j (by omega) (by omega)
      · simpa using hk
theorem firstI_some {p : Nat → Bool} : ∀ {m k : Nat}, 0 ≤ firstI p k m → ∃ j : Nat, firstI p k m = (j : Int) ∧ k ≤ j ∧ j < k + m ∧ p j = true ∧ ∀ i, k ≤ i → i < j → p i = false
  | 0, k, h => by simp [firstI] at h
  | m + 1, k, h => by
    rw [firstI] at h ⊢
    split at h
    · rename_i hk
      rw [if_pos hk]
      exact ⟨k, rfl, Nat.le_refl _, by omega, hk, fun i h1 h2 => by omega⟩
    · rename_i hk
      rw [if_neg hk]
      obtain ⟨j, h1, h2, h3, h4, h5⟩ := firstI_some h
      refine ⟨j, h1, by omega, by omega, h4, fun i q1 q2 => ?_⟩
      rcases Nat.lt_or_eq_of_le q1 with h6 | rfl
      · exact h5 i (by omega) q2
      · simpa using hk
theorem firstI_cases {p : Nat → Bool} (m k : Nat) : firstI p k m = -1 ∨ 0 ≤ firstI p k m := by
  induction m generalizing k with
  | zero => exact .inl rfl
  | succ m ih =>
    rw [firstI]
    split
    · right; omega
    · exact ih _
theorem firstI_le {p q : Nat → Bool} {m n : Nat} (hmn : m ≤ n) (h : ∀ i, i < m → p i = true → q i = true) (hp : 0 ≤ firstI p 0 m) : 0 ≤ firstI q 0 n ∧ firstI q 0 n ≤ firstI p 0 m := by
  obtain ⟨j, h1, _, h3, h4, _⟩ := firstI_some hp
  have hq := h j (by omega) h4
  rcases firstI_cases (p := q) n 0 with h5 | h5
  · have := firstI_none (p := q) (m := n) (k := 0) (by omega) j (by omega) (by omega)
    rw [hq] at this; cases this
  · refine ⟨h5, ?_⟩
    obtain ⟨i, g1, _, g3, g4, g5⟩ := firstI_some h5
    rcases Nat.lt_or_ge j i with h6 | h6
    · have := g5 j (by omega) h6
      rw [hq] at this; cases this
    · omega
def runP (fl : List Int) (n k : Nat) : Bool := followB (subI fl k n)
theorem run_less {fl : List Int} {n k : Nat} (h : runP fl (n + 1) k = true) : runP fl n k = true := by
  unfold runP followB at *
  rw [nextB_iff] at *
  intro j hj
  have hj1 : j + 1 < (subI fl k (n + 1)).length := by
    simp only [subI, List.length_take, List.length_drop] at *; omega
  have := h j hj1
  simpa [subI] using this
def flipsM (n : Nat) : List Bool := (List.range n).map fun i : Nat => decide ((i : Int) % 2 = 1)
theorem flipsM_len (n : Nat) : (flipsM n).length = n := by simp [flipsM]
theorem flipsM_ok (n : Nat) : flipOk 0 (flipsM n) = true := flipOk_iff.2 fun j hj => by
  unfold flipP
  rw [beq_iff_eq]
  simp [flipsM]
theorem flipsM_succ (n : Nat) : flipsM (n + 1) = flipsM n ++ [decide ((n : Int) % 2 = 1)] := by simp [flipsM, List.range_succ]

theorem Intss.V.sub {w : World} {b off : Nat} {l : List Int} (h : Intss.V w (some ⟨b, off, none⟩) l) (k n : Nat) : Intss.V w (some ⟨b, off + k, none⟩) (subI l k n) := by
  intro hne
  have hl : l ≠ [] := by
    rintro rfl
    simp [subI] at hne
  obtain ⟨b', off', ha, hx⟩ := h hl
  injection ha with ha
  injection ha with e1 e2
  subst e1 e2
  refine ⟨b, off + k, rfl, fun j x hj => ?_⟩
  unfold subI at hj
  have hjn : j < n := by
    have := (List.getElem?_eq_some_iff.1 hj).1
    simp at this; omega
  rw [List.getElem?_take_of_lt hjn, List.getElem?_drop] at hj
  have := hx (k + j) x hj
  rwa [show off + (k + j) * 1 = off + k + j * 1 by omega] at this
theorem Intss.V.some_of {w : World} {a : Option Addr} {l : List Int} (h : Intss.V w a l) (hl : 0 < l.length) : ∃ b off, a = some ⟨b, off, none⟩ := by
  obtain ⟨b, off, ha, -⟩ := h (by rintro rfl; simp at hl)
  exact ⟨b, off, ha⟩

def facesE (fl : List Int) (n : Int) : Int := if flitchE fl ≠ 0 then flitchE fl else if withinB n 1 400 = false then 2 else 0
theorem faces_flitch {fl : List Int} {n : Int} (h : ¬ flitchE fl = 0) : facesE fl n = flitchE fl := by unfold facesE; rw [if_pos h]
theorem faces_rng {fl : List Int} {n : Int} (h : flitchE fl = 0) (h1 : withinB n 1 400 = false) : facesE fl n = 2 := by unfold facesE; rw [if_neg (by simp [h]), if_pos h1]
theorem faces_ok {fl : List Int} {n : Int} (h : flitchE fl = 0) (h1 : withinB n 1 400 = true) : facesE fl n = 0 := by unfold facesE; rw [if_neg (by simp [h]), if_neg (by rw [h1]; decide)]
theorem faces_zero {fl : List Int} {n : Int} (h : facesE fl n = 0) : flitchE fl = 0 ∧ (1 ≤ n ∧ n ≤ 400) := by
  unfold facesE at h
  split at h
  · rename_i h1; exact absurd h h1
  · split at h
    · cases h
    · rename_i h1 h2
      simp only [Bool.not_eq_false] at h2
      exact ⟨by simpa using h1, withinB_true h2⟩
theorem flitch_len {fl : List Int} (h : flitchE fl = 0) : fl.length ≤ 400 := by
  unfold flitchE at h
  split at h
  · cases h
  · omega
set_option maxHeartbeats 1000000 in
theorem checkFaces_is (a : Option Addr) (fl : List Int) (c : Nat) (n : Int) (w : World) {q : Int} (hq : facesE fl n = q) (hv : Intss.V w a fl) (hl : fl.length ≤ 1000000) :
    Calls Try.prog 88 #[.slice a fl.length c, .int .i64 n] w fun e w' => e = .returned (.int .i64 q) ∧ Below w.heap.size w w' := by
  have HV := Lib.hid hv
  by_cases he : flitchE fl = 0
  · cases hb : withinB n 1 400
    · have HQ := Lib.hid (show q = 2 by rw [← hq]; exact faces_rng he hb)
      have HE := Lib.hid he
      clear he hq hv
      go_enter Try.func88, Try.ntmps88
      go_wp2_with (first
        | (go_at_call 78; refine (checkFlitch_is a fl c _ HE.out HV.out hl).mono ?_; rintro e w1 ⟨rfl, hb1⟩; have HB := Lib.hid hb1; clear hb1)
        | (go_at_call 67; refine (cwithin_is _ _ _ _ hb).mono ?_; rintro e w' ⟨rfl, rfl⟩))
      go_ret
      exact ⟨ret_int HQ.out.symm, HB.out⟩
    · have HQ := Lib.hid (show q = 0 by rw [← hq]; exact faces_ok he hb)
      have HE := Lib.hid he
      clear he hq hv
      go_enter Try.func88, Try.ntmps88
      go_wp2_with (first
        | (go_at_call 78; refine (checkFlitch_is a fl c _ HE.out HV.out hl).mono ?_; rintro e w1 ⟨rfl, hb1⟩; have HB := Lib.hid hb1; clear hb1)
        | (go_at_call 67; refine (cwithin_is _ _ _ _ hb).mono ?_; rintro e w' ⟨rfl, rfl⟩))
      go_ret
      exact ⟨ret_int HQ.out.symm, HB.out⟩
  · obtain ⟨E, hE⟩ : ∃ E, flitchE fl = E := ⟨_, rfl⟩
    have HQ := Lib.hid (show q = E by rw [← hq, ← hE]; exact faces_flitch he)
    have hne : (E != 0) = true := by rw [← hE]; simpa using he
    have HE := Lib.hid hE
    clear he hq hE hv
    go_enter Try.func88, Try.ntmps88
    go_wp2_with (go_at_call 78; refine (checkFlitch_is a fl c _ HE.out HV.out hl).mono ?_; rintro e w1 ⟨rfl, hb1⟩; have HB := Lib.hid hb1; clear hb1)
    go_ret
    exact ⟨ret_int HQ.out.symm, HB.out⟩

/-! Leaves. -/
theorem ret_two {a b : Int} {q : Int × Int} (h : q = (a, b)) : Ending.returned (.tuple #[.int .i64 a, .int .i64 b]) = .returned (.tuple #[.int .i64 q.1, .int .i64 q.2]) := by rw [h]
def runsN (fl : List Int) (N : Nat) : Nat := fl.length + 1 - N
def firstRun (fl : List Int) (N : Nat) : Int := firstI (runP fl N) 0 (runsN fl N)
def leavesM (fl : List Int) (n : Int) : Int × Int := if facesE fl n ≠ 0 then (0, facesE fl n) else if firstRun fl n.toNat < 0 then (0, 12) else (firstRun fl n.toNat, 0)
theorem leaves_bad {fl : List Int} {n : Int} (h : ¬ facesE fl n = 0) : leavesM fl n = (0, facesE fl n) := by unfold leavesM; rw [if_pos h]
theorem leaves_at {fl : List Int} {N : Nat} {k : Nat} (h : facesE fl N = 0) (h1 : firstRun fl N = k) : leavesM fl N = ((k : Int), 0) := by
  unfold leavesM
  rw [if_neg (by simp [h]), Int.toNat_natCast, h1, if_neg (by omega)]
theorem leaves_none {fl : List Int} {N : Nat} (h : facesE fl N = 0) (h1 : firstRun fl N = -1) : leavesM fl N = (0, 12) := by
  unfold leavesM
  rw [if_neg (by simp [h]), Int.toNat_natCast, h1, if_pos (by omega)]
theorem sub_in {fl : List Int} {k n : Nat} (h : flitchE fl = 0) : ∀ x ∈ subI fl k n, -1000000 ≤ x ∧ x ≤ 1000000 := fun x hx => by
  have := flitch_in h x (subI_mem hx); omega
theorem follow_sub (fl : List Int) (b off N k C : Nat) (w : World) {q : Bool} (hq : runP fl N k = q) (hv : Intss.V w (some ⟨b, off, none⟩) fl) (hfl : flitchE fl = 0) (hk : k + N ≤ fl.length) :
    Calls Try.prog 80 #[.slice (some ⟨b, off + k, none⟩) N C] w fun e w' => e = .returned (.bool q) ∧ Below w.heap.size w w' := by
  have h := follow_is (some ⟨b, off + k, none⟩) (subI fl k N) C w hq (hv.sub k N) (by rw [subI_len hk]; have := flitch_len hfl; omega) (sub_in hfl)
  rwa [subI_len hk] at h
theorem refFollow_sub (fl : List Int) (b off N k C : Nat) (w : World) {q : Bool} (hq : runP fl N k = q) (hv : Intss.V w (some ⟨b, off, none⟩) fl) (hfl : flitchE fl = 0) (hk : k + N ≤ fl.length) :
    Calls Try.prog 50 #[.slice (some ⟨b, off + k, none⟩) N C] w fun e w' => e = .returned (.bool q) ∧ Below w.heap.size w w' := by
  have h := refFollow_is (some ⟨b, off + k, none⟩) (subI fl k N) C w hq (hv.sub k N) (by rw [subI_len hk]; have := flitch_len hfl; omega) (sub_in hfl)
  rwa [subI_len hk] at h
set_option maxRecDepth 100000 in
set_option maxHeartbeats 4000000 in
theorem leavesP_any (a : Option Addr) (fl : List Int) (c : Nat) (n : Int) (w : World) (hv : Intss.V w a fl) (hl : fl.length ≤ 1000000) (hc : fl.length ≤ c) :
    Calls Try.prog 47 #[.slice a fl.length c, .int .i64 n] w fun e w' => e = .returned (.tuple #[.int .i64 (leavesM fl n).1, .int .i64 (leavesM fl n).2]) ∧ Below w.heap.size w w' := by
  have HV := Lib.hid hv
  by_cases he : facesE fl n = 0
  · obtain ⟨hfl, hn1, hn2⟩ := faces_zero he
    obtain ⟨N, rfl⟩ : ∃ N : Nat, n = N := ⟨n.toNat, by omega⟩
    have HF := Lib.hid hfl
    have hl4 := flitch_len hfl
    have HE := Lib.hid he
    have HA := Lib.hid (fun k => leaves_at (k := k) he)
    have HO := Lib.hid (leaves_none he)
    generalize leavesM fl N = q at *
    clear he hfl hv
    go_enter Try.func47, Try.ntmps47
    go_upto_region 4 with (go_at_call 88; refine (checkFaces_is a fl c _ _ HE.out HV.out hl).mono ?_; rintro e w1 ⟨rfl, hb1⟩; have HB := Lib.hid hb1; clear hb1)
    go_wp2_with fail
    go_loopw [7] (fun iv wr => ∃ k : Nat, k ≤ runsN fl N ∧ iv = .int .i64 k ∧ Hid (firstRun fl N = firstI (runP fl N) k (runsN fl N - k)) ∧ Below w.heap.size w wr) (fun iv _ => fl.length + 1 - (intOf iv).toNat)
    case atStart => exact ⟨0, Nat.zero_le _, rfl, Lib.hid rfl, HB.out⟩
    case round =>
      obtain ⟨k, hk, rfl, HK, hbw⟩ := hrel
      unfold runsN at hk HK
      have v1 : IntKind.i64.wrap ((k : Int) + (N : Int)) = (k : Int) + (N : Int) := IntWalk.i64_in _ (by omega)
      by_cases hlt : k + N ≤ fl.length
      · obtain ⟨b, off, rfl⟩ := HV.out.some_of (by omega)
        have hki : (k : Int) + (N : Int) ≤ (fl.length : Int) := by omega
        cases hq : runP fl N k
        · have HS := Lib.hid (HK.out.trans (firstI_step (by omega) hq))
          have HQ := Lib.hid hq
          clear hq HK
          go_wp2_with (go_at_call 80; refine (follow_sub fl b off N k _ _ HQ.out (HV.out.keep hbw) HF.out hlt).mono ?_; rintro e w2 ⟨rfl, hb2⟩; have HB2 := Lib.hid (hbw.trans (hb2.mono hbw.size)); clear hb2)
          go_roundw
          case rel => exact ⟨k + 1, by unfold runsN; omega, by go_num, Lib.hid (by unfold runsN; rw [HS.out]; congr 1), HB2.out⟩
          case measure => simp [intOf]; omega
        · have HS := Lib.hid (HK.out.trans (firstI_hit (by omega) hq))
          have HQ := Lib.hid hq
          clear hq HK
          go_wp2_with (go_at_call 80; refine (follow_sub fl b off N k _ _ HQ.out (HV.out.keep hbw) HF.out hlt).mono ?_; rintro e w2 ⟨rfl, hb2⟩; have HB2 := Lib.hid (hbw.trans (hb2.mono hbw.size)); clear hb2)
          go_ret2
          exact ⟨ret_two (HA.out _ HS.out), HB2.out⟩
      · have hki : ¬ (k : Int) + (N : Int) ≤ (fl.length : Int) := by omega
        have HS := Lib.hid (show firstRun fl N = -1 by rw [HK.out, show fl.length + 1 - N - k = 0 by omega]; rfl)
        clear HK
        go_wp2_with fail
        go_ret2
        exact ⟨ret_two (HO.out HS.out), hbw⟩
  · have hne : (facesE fl n != 0) = true := by simpa using he
    have HM := Lib.hid (leaves_bad he)
    generalize leavesM fl n = q at *
    obtain ⟨E, hE⟩ : ∃ E, facesE fl n = E := ⟨_, rfl⟩
    rw [hE] at hne HM
    have HE := Lib.hid hE
    clear he hE
    go_enter Try.func47, Try.ntmps47
    go_wp2_with (go_at_call 88; refine (checkFaces_is a fl c _ _ HE.out HV.out hl).mono ?_; rintro e w1 ⟨rfl, hb1⟩; have HB := Lib.hid hb1; clear hb1)
    go_ret2
    exact ⟨ret_two HM.out, HB.out⟩
end Go.Proofs.Ytepiapgcpoifpaa

set_option linter.unusedVariables false
set_option linter.unusedSimpArgs false
namespace Go.Proofs.Ytepiapgcpoifpaa
open Go Go.RowKit

theorem bool_info : (Try.prog.info? 4).map (fun i => (i.zero, i.size, i.bytes)) = some (some (.bool false), 1, 1) := by kernel_rfl
theorem own_off {w : World} {base e k n : Nat} {v u : Value} {xs : List Value} {a : Addr} (h : w.ownsRow base e k v n xs) (ha : a.block < base) : (w.setCell a u).ownsRow base e k v n xs := by
  refine h.kept grownBy_set ?_
  cases hv : v.ownBlock with
  | none => exact .inl rfl
  | some g =>
    refine .inr fun e => ?_
    injection e with e
    have := own_base h hv
    omega
theorem frozen_keep {w w' : World} {b o : Nat} (hb : Below w.heap.size w w') (hz : b < w.heap.size) (h : w.frozen? ⟨b, o, none⟩ = false) : w'.frozen? ⟨b, o, none⟩ = false := by
  rw [(bcell hb).2 b o hz]; exact h
theorem flat_bools (l : List Bool) : (l.flatMap fun b => [Value.bool b]) = l.map Value.bool := by induction l <;> simp_all
theorem own_bools {w : World} {base e n : Nat} {v : Value} {l : List Bool} (h : w.ownsRow base e 1 v n (l.map Value.bool)) : ∃ a c, v = .slice a l.length c ∧ Bools.V w a l := by
  have hn : n = l.length := by have := h.1; simpa using this.symm
  subst hn
  obtain ⟨a, c, rfl, -, -⟩ := own_slice h
  have h' : w.ownsRow base e 1 (.slice a l.length c) l.length (l.flatMap fun b => [Value.bool b]) := by
    rw [flat_bools]; exact h
  exact ⟨a, c, rfl, own_rowV (fun _ => rfl) (by decide) (fun b o x _ hx => hx 0 _ rfl) h'⟩
theorem own_intss {w : World} {base e n : Nat} {v : Value} {l : List Int} (h : w.ownsRow base e 1 v n (l.map (Value.int .i64))) (hl : ∀ x ∈ l, -1000000 ≤ x ∧ x ≤ 1000000) : ∃ a c, v = .slice a l.length c ∧ Intss.V w a l := by
  have hn : n = l.length := by have := h.1; simpa using this.symm
  subst hn
  obtain ⟨a, c, rfl, hv⟩ := own_ints' h
  exact ⟨a, c, rfl, Intss.V.of hv fun x hx => by have := hl x hx; omega⟩
/-- A row in a cell is appended to. -/
theorem Desk.append1 {w w1 : World} {base i m : Nat} {L : List Slot} {St : Addr → Value → Prop} {s : Slot} {a : Addr} {v v' : Value} {news : List Value} (h : Desk w base L St) (hi : L[i]? = some s) (ha : s.a = some a) (hv : w.cell? a = some v)
    (ho : w1.ownsRow base s.e s.k v' m (s.xs ++ news)) (hg : w.grownBy w1 v.ownBlock) (hv' : v'.ownBlock = v.ownBlock ∨ v'.ownBlock = some w.heap.size) :
    w1.cell? a = some v ∧ w1.frozen? a = false ∧ Desk (w1.setCell a v') base (L.set i { s with xs := s.xs ++ news }) St := by
  obtain ⟨V, g1, g2⟩ := h.ex
  have hvi := g2 i s a hi ha
  rw [hv] at hvi
  injection hvi with hvi
  subst hvi
  obtain ⟨q1, q2⟩ := g1.append hi ho hg hv'
  have hil : i < L.length := (List.getElem?_eq_some_iff.1 hi).1
  have hi' : (L.set i { s with xs := s.xs ++ news })[i]? = some { s with xs := s.xs ++ news } := by simp [hil]
  obtain ⟨k1, k2, k3⟩ := q1.store (a := a) hi' ha v'
  refine ⟨by rw [q2 i s a hi ha]; exact hv, (q1.slot i _ a hi' ha).2.2.1, upd V i v', k1, fun j t b hj hb => ?_⟩
  by_cases he : j = i
  · subst he
    rw [hi'] at hj
    injection hj with hj
    subst hj
    simp only at hb
    rw [ha] at hb
    injection hb with hb
    subst hb
    rw [upd_same]; exact k2
  · rw [k3 j t b hj he hb, upd_ne _ _ he]
    obtain ⟨t0, h0, h1, _, _⟩ := set_get (s' := { s with xs := s.xs ++ news }) hi rfl hj
    rw [h1] at hb
    rw [q2 j t0 b h0 hb]
    exact g2 j t0 b h0 hb
theorem desk_one {w : World} {base x e k : Nat} {u : Value} (hx : base ≤ x) (h1 : w.cell? ⟨x, 1, none⟩ = some (.slice none 0 0)) (f1 : w.frozen? ⟨x, 1, none⟩ = false) (h0 : w.cell? ⟨x, 0, none⟩ = some u) :
    Desk w base [⟨some ⟨x, 1, none⟩, e, k, []⟩] (fun a v => a = ⟨x, 0, none⟩ ∧ v = u) := by
  have g : ∀ {i : Nat} {t : Slot}, [(⟨some ⟨x, 1, none⟩, e, k, []⟩ : Slot)][i]? = some t → i = 0 ∧ t = ⟨some ⟨x, 1, none⟩, e, k, []⟩ := by
    intro i t hi
    match i, hi with
    | 0, hi => injection hi with hi; exact ⟨rfl, hi.symm⟩
  refine ⟨fun _ => .slice none 0 0, ⟨fun i t hi => ?_, fun i t a hi ha => ?_, fun i j t u a hi hj hij ha => ?_, fun i j t u q hi hj hij hg => (by cases hg), fun i j t u a hi hj ha e => (by cases e), fun a u' hu => ?_⟩, fun i t a hi ha => ?_⟩
  · obtain ⟨rfl, rfl⟩ := g hi
    exact ⟨0, World.ownsRow_nil _ _ _ _⟩
  · obtain ⟨rfl, rfl⟩ := g hi
    injection ha with ha
    subst ha
    exact ⟨rfl, hx, f1, by rw [h1]; rfl⟩
  · obtain ⟨rfl, -⟩ := g hi
    obtain ⟨rfl, -⟩ := g hj
    exact absurd rfl hij
  · obtain ⟨rfl, rfl⟩ := hu
    refine ⟨rfl, h0, fun i t hi => ⟨fun e => ?_, fun e => (by cases e)⟩⟩
    obtain ⟨rfl, rfl⟩ := g hi
    injection e with e
    injection e with _ e
    cases e
  · obtain ⟨rfl, rfl⟩ := g hi
    injection ha with ha
    subst ha
    exact h1

set_option maxRecDepth 100000 in
set_option maxHeartbeats 2000000 in
theorem cloneInt_any (b off : Nat) (l : List Int) (n c : Nat) (hn : l.length = n) (w : World) (hv : Intss.V w (some ⟨b, off, none⟩) l) (hl : l.length ≤ 1000000) :
    Calls Try.prog 89 #[.slice (some ⟨b, off, none⟩) n c] w (RowPost w l) := by
  obtain ⟨i0, hi0, hz0, hz1, hz2⟩ := info_parts int_info
  have q22 : ∀ (w : World) (a : Option Addr) (n c n' c' : Nat), (binOp .eql 59 (.slice a n c) (.slice none n' c')).run Try.prog w = .ok (.bool a.isNone) w := fun w a n c n' c' => Lib.run_eql_slice_nil w _ _ a n c n' c' Try.underlying59
  have A : Aside (∀ j u, (l.map (Value.int .i64))[j]? = some u → w.cell? ((⟨b, off, none⟩ : Addr).add j) = some u) := by
    intro j u hj
    rw [List.getElem?_map, Option.map_eq_some_iff] at hj
    obtain ⟨x, hx, rfl⟩ := hj
    have hjl := (List.getElem?_eq_some_iff.1 hx).1
    obtain ⟨b', off', ha, hc⟩ := hv.ints (by rintro rfl; simp at hjl)
    injection ha with ha
    injection ha with e1 e2
    subst e1 e2
    rw [addr_add]; exact hc j x hx
  subst hn
  clear hv
  go_enter Try.func89, Try.ntmps89
  go_wp2_with (at_builtin; refine wpList_append_own _ rfl _ _ 59 rfl w.heap.size 3 i0 (.int .i64 0) 1 8 Try.underlying59 hi0 hz0 hz1 hz2 rfl (by decide) _ 0 [] rfl (World.ownsRow_made w #[] 0 (Nat.le_refl _) (Nat.zero_le _) rfl) ⟨b, off, none⟩ l.length c (l.map (Value.int .i64)) rfl (by simp) (fun j u hj => Lib.cell?_alloc_some _ (A.out j u hj)) (by intro u hu; obtain ⟨x, _, rfl⟩ := List.mem_map.1 hu; rfl) (by simp only [maxLen]; omega) (by omega) (by simp) ?_; intro v' w1 hown hgr hnil)
  go_ret
  exact ⟨v', rfl, by simpa using hown, ((Below.refl _ w).alloc (Nat.le_refl _) _).grown hgr (by simp) (by intro k hk; injection hk with hk; exact Nat.le_of_eq hk)⟩

/-- What Match returns. -/
def matchM (fl : List Int) (fr n : Int) : List Int × List Bool × Int :=
  if facesE fl n ≠ 0 then ([], [], facesE fl n) else if withinB fr 0 (fl.length - n) = false then ([], [], 6) else if runP fl n.toNat fr.toNat = false then ([], [], 9) else (subI fl fr.toNat n.toNat, flipsM n.toNat, 0)
def MatchPost (w : World) (q : List Int × List Bool × Int) (e : Ending) (w' : World) : Prop :=
  ∃ (a1 : Option Addr) (c1 : Nat) (a2 : Option Addr) (c2 : Nat), e = .returned (.tuple #[.agg #[.slice a1 q.1.length c1, .slice a2 q.2.1.length c2], .int .i64 q.2.2]) ∧ Intss.V w' a1 q.1 ∧ Bools.V w' a2 q.2.1 ∧ Below w.heap.size w w'
theorem MatchPost.empty {w w' : World} {q : List Int × List Bool × Int} {E : Int} (hq : q = ([], [], E)) (hb : Below w.heap.size w w') : MatchPost w q (.returned (.tuple #[.agg #[.slice none 0 0, .slice none 0 0], .int .i64 E])) w' := by
  subst hq
  exact ⟨none, 0, none, 0, rfl, fun h => absurd rfl h, fun h => absurd rfl h, hb⟩
set_option maxRecDepth 100000 in
set_option maxHeartbeats 4000000 in
theorem matchP_any (a : Option Addr) (fl : List Int) (c : Nat) (fr n : Int) (w : World) (hv : Intss.V w a fl) (hl : fl.length ≤ 1000000) (hc : fl.length ≤ c) :
    Calls Try.prog 48 #[.slice a fl.length c, .int .i64 fr, .int .i64 n] w (MatchPost w (matchM fl fr n)) := by
  have HV := Lib.hid (hv.keep ((Below.refl w.heap.size w).alloc (Nat.le_refl _) (.cells #[.slice none 0 0, .slice none 0 0] 70)))
  by_cases he : facesE fl n = 0
  · obtain ⟨hfl, hn1, hn2⟩ := faces_zero he
    obtain ⟨N, rfl⟩ : ∃ N : Nat, n = N := ⟨n.toNat, by omega⟩
    have HF := Lib.hid hfl
    have hl4 := flitch_len hfl
    have v0 : IntKind.i64.wrap ((fl.length : Int) - (N : Int)) = (fl.length : Int) - (N : Int) := IntWalk.i64_in _ (by omega)
    cases hw : withinB fr 0 (fl.length - N)
    · have HM := Lib.hid (show matchM fl fr N = ([], [], 6) by unfold matchM; rw [if_neg (by simp [he]), if_pos hw])
      have HE := Lib.hid he
      generalize matchM fl fr N = q at *
      clear he hfl hv
      go_enter Try.func48, Try.ntmps48
      go_wp2_with (first
        | (go_at_call 88; refine (checkFaces_is a fl c _ _ HE.out HV.out hl).mono ?_; rintro e w1 ⟨rfl, hb⟩; have k0 : w1.cell? ⟨w.heap.size, 0, none⟩ = some (.slice none 0 0) := (cell_keep hb (by simp [go_sem])); have k1 : w1.cell? ⟨w.heap.size, 1, none⟩ = some (.slice none 0 0) := (cell_keep hb (by simp [go_sem])); have HB := Lib.hid (((Below.refl w.heap.size w).alloc (Nat.le_refl _) _).trans (hb.mono (by simp))); have f0 : w1.frozen? ⟨w.heap.size, 0, none⟩ = false := frozen_keep hb (by simp) (by simp [go_sem]); have f1 : w1.frozen? ⟨w.heap.size, 1, none⟩ = false := frozen_keep hb (by simp) (by simp [go_sem]); have hz := hb.size; have hz0 : w.heap.size < w1.heap.size := (by simp at hz; omega); clear hb)
        | (go_at_call 67; refine (cwithin_is _ _ _ _ hw).mono ?_; rintro e w' ⟨rfl, rfl⟩))
      refine bodyPost_ret (v := .tuple #[.agg #[.slice none 0 0, .slice none 0 0], .int .i64 6]) (by simp [results, Try.results48, go_sem, *]) rfl (MatchPost.empty HM.out ?_)
      repeat (first | exact HB.out | exact HB2.out | (refine Below.setCell ?_ (by simp) _))
    · obtain ⟨hf0, hf1⟩ := withinB_true hw
      obtain ⟨K, rfl⟩ : ∃ K : Nat, fr = K := ⟨fr.toNat, by omega⟩
      have hkn : K + N ≤ fl.length := by omega
      have v1 : IntKind.i64.wrap ((K : Int) + (N : Int)) = (K : Int) + (N : Int) := IntWalk.i64_in _ (by omega)
      obtain ⟨b, off, rfl⟩ := hv.some_of (by omega)
      have hki : (K : Int) + (N : Int) ≤ (fl.length : Int) := by omega
      cases hr : runP fl N K
      · have HM := Lib.hid (show matchM fl K N = ([], [], 9) by unfold matchM; rw [if_neg (by simp [he]), if_neg (by rw [hw]; decide), if_pos (by simpa using hr)])
        have HE := Lib.hid he
        have HR := Lib.hid hr
        generalize matchM fl K N = q at *
        clear he hfl hv hr
        go_enter Try.func48, Try.ntmps48
        go_wp2_with (first
          | (go_at_call 88; refine (checkFaces_is _ fl c _ _ HE.out HV.out hl).mono ?_; rintro e w1 ⟨rfl, hb⟩; have HV1 := Lib.hid (HV.out.keep hb); have k0 : w1.cell? ⟨w.heap.size, 0, none⟩ = some (.slice none 0 0) := (cell_keep hb (by simp [go_sem])); have k1 : w1.cell? ⟨w.heap.size, 1, none⟩ = some (.slice none 0 0) := (cell_keep hb (by simp [go_sem])); have HB := Lib.hid (((Below.refl w.heap.size w).alloc (Nat.le_refl _) _).trans (hb.mono (by simp))); have f0 : w1.frozen? ⟨w.heap.size, 0, none⟩ = false := frozen_keep hb (by simp) (by simp [go_sem]); have f1 : w1.frozen? ⟨w.heap.size, 1, none⟩ = false := frozen_keep hb (by simp) (by simp [go_sem]); have hz := hb.size; have hz0 : w.heap.size < w1.heap.size := (by simp at hz; omega); clear hb)
          | (go_at_call 67; refine (cwithin_is _ _ _ _ hw).mono ?_; rintro e w' ⟨rfl, rfl⟩)
          | (go_at_call 80; refine (follow_sub fl b off N K _ _ HR.out HV1.out HF.out hkn).mono ?_; rintro e w2 ⟨rfl, hb2⟩; have HB2 := Lib.hid (HB.out.trans (hb2.mono HB.out.size)); have k2 := cell_keep hb2 k0; have k3 := cell_keep hb2 k1; have f2 := frozen_keep hb2 hz0 f0; have f3 := frozen_keep hb2 hz0 f1; clear k0 k1 f0 f1 hb2))
        refine bodyPost_ret (v := .tuple #[.agg #[.slice none 0 0, .slice none 0 0], .int .i64 9]) (by simp [results, Try.results48, go_sem, *]) rfl (MatchPost.empty HM.out ?_)
        repeat (first | exact HB.out | exact HB2.out | (refine Below.setCell ?_ (by simp) _))
      · have HM := Lib.hid (show matchM fl K N = (subI fl K N, flipsM N, 0) by unfold matchM; rw [if_neg (by simp [he]), if_neg (by rw [hw]; decide), if_neg (by simpa using hr)]; rfl)
        have HE := Lib.hid he
        have HR := Lib.hid hr
        obtain ⟨b0, hb0, hbz0, hbz1, hbz2⟩ := info_parts bool_info
        generalize matchM fl K N = q at *
        clear he hfl hv hr
        have hns : (subI fl K N).length = N := subI_len hkn
        go_enter Try.func48, Try.ntmps48
        go_upto_region 9 with (first
          | (go_at_call 88; refine (checkFaces_is _ fl c _ _ HE.out HV.out hl).mono ?_; rintro e w1 ⟨rfl, hb⟩; have HV1 := Lib.hid (HV.out.keep hb); have k0 : w1.cell? ⟨w.heap.size, 0, none⟩ = some (.slice none 0 0) := (cell_keep hb (by simp [go_sem])); have k1 : w1.cell? ⟨w.heap.size, 1, none⟩ = some (.slice none 0 0) := (cell_keep hb (by simp [go_sem])); have HB := Lib.hid (((Below.refl w.heap.size w).alloc (Nat.le_refl _) _).trans (hb.mono (by simp))); have f0 : w1.frozen? ⟨w.heap.size, 0, none⟩ = false := frozen_keep hb (by simp) (by simp [go_sem]); have f1 : w1.frozen? ⟨w.heap.size, 1, none⟩ = false := frozen_keep hb (by simp) (by simp [go_sem]); have hz := hb.size; have hz0 : w.heap.size < w1.heap.size := (by simp at hz; omega); clear hb)
          | (go_at_call 67; refine (cwithin_is _ _ _ _ hw).mono ?_; rintro e w' ⟨rfl, rfl⟩)
          | (go_at_call 80; refine (follow_sub fl b off N K _ _ HR.out HV1.out HF.out hkn).mono ?_; rintro e w2 ⟨rfl, hb2⟩; have HB2 := Lib.hid (HB.out.trans (hb2.mono HB.out.size)); have HV2 := Lib.hid (HV1.out.keep hb2); have k2 := cell_keep hb2 k0; have k3 := cell_keep hb2 k1; have f2 := frozen_keep hb2 hz0 f0; have f3 := frozen_keep hb2 hz0 f1; have hz6 : w.heap.size < w2.heap.size := Nat.lt_of_lt_of_le hz0 hb2.size; clear k0 k1 f0 f1 hb2))
        go_upto_region 10 with (go_at_call 89; refine (cloneInt_any b (off + K) (subI fl K N) N _ hns _ (HV2.out.sub K N) (by omega)).mono ?_; rintro e w3 ⟨vl, rfl, hol, hb3⟩; rw [hns] at hol; obtain ⟨al, cl, rfl, -, -⟩ := own_slice hol; have HOL := Lib.hid hol; have HB3 := Lib.hid hb3; have k4 := cell_keep hb3 k2; have k5 := cell_keep hb3 k3; have f4 := frozen_keep hb3 hz6 f2; have f5 := frozen_keep hb3 hz6 f3; have hz3 := hb3.size; have hz3' := Nat.lt_of_lt_of_le hz6 hb3.size; clear hol hb3 k2 k3 f2 f3)
        have K45 := Lib.hid (And.intro (And.intro k4 k5) (And.intro f4 f5))
        refine gen_world (fun W => Desk W w3.heap.size [⟨some ⟨w3.heap.size, 1, none⟩, 4, 1, []⟩] (fun a v => a = ⟨w3.heap.size, 0, none⟩ ∧ v = .slice al N cl) ∧ Below w3.heap.size w3 W) ⟨desk_one (Nat.le_refl _) (by simp [go_sem]) (by first | rfl | simp [go_sem]) (by simp [go_sem]), by repeat (first | exact (Below.refl _ _).alloc (Nat.le_refl _) _ | (refine Below.setCell ?_ (by simp) _))⟩ ?_
        rintro W ⟨hD, hbW⟩
        obtain ⟨G, hG⟩ : ∃ G, G = w3.heap.size := ⟨_, rfl⟩
        rw [← hG] at hD hbW ⊢
        have HG := Lib.hid hG
        have hG6 : w.heap.size < G := by omega
        have HD := Lib.hid hD
        have HBW := Lib.hid hbW
        clear hG hD hbW k4 k5 f4 f5
        go_wp2_with fail
        go_loopw [42] (fun iv wr => ∃ m : Nat, m ≤ N ∧ iv = .int .i64 m ∧ Hid (Desk wr G [⟨some ⟨G, 1, none⟩, 4, 1, (flipsM m).map Value.bool⟩] (fun a v => a = ⟨G, 0, none⟩ ∧ v = .slice al N cl)) ∧ Below G w3 wr) (fun iv _ => N - (intOf iv).toNat)
        case atStart => exact ⟨0, Nat.zero_le _, rfl, HD, HBW.out⟩
        case round =>
          clear HD HBW
          obtain ⟨m, hm, rfl, HD, hbr⟩ := hrel
          have HBR := Lib.hid hbr
          have hzr : G ≤ wr.heap.size := by have := hbr.size; rw [← HG.out] at this; exact this
          clear hbr
          obtain ⟨v, n', cv, fv, hown, -⟩ := HD.out.row (i := 0) rfl rfl
          have hn' : n' = m := by have := hown.1; simpa [flipsM_len] using this.symm
          subst hn'
          obtain ⟨av, cc, rfl, -, -⟩ := own_slice hown
          have HOWN := Lib.hid hown
          have hGr := block_lt_of_cell cv
          simp only at hGr
          clear hown
          by_cases hlt : n' < N
          · have hmi : (n' : Int) < (N : Int) := by omega
            have v2 : IntKind.i64.wrap ((n' : Int) + 1) = (n' : Int) + 1 := IntWalk.i64_in _ (by omega)
            have HCV := Lib.hid cv
            go_wp2_with (at_builtin; refine wpList_append_here _ rfl _ _ 68 rfl G 4 b0 (.bool false) 1 1 Try.underlying68 hb0 hbz0 hbz1 hbz2 rfl (by decide) _ n' _ rfl (HOWN.out.alloc _) ⟨wr.heap.size, 0, none⟩ 1 1 [.bool ((n' : Int) % 2 == 1)] rfl rfl (news_of _ _ _ _ rfl) (by intro v hv; obtain rfl := List.mem_singleton.1 hv; rfl) (by decide) (by simp only [maxLen]; omega) (by omega) (by simp; omega) ?_; intro v4 w4 ho4 hg4 hv4; obtain ⟨a4, cc4, rfl, -, -⟩ := own_slice ho4; obtain ⟨c4, f4, hD4⟩ := (HD.out.keep ((Below.refl _ _).alloc (Nat.le_refl _) _)).append1 (i := 0) rfl rfl (Lib.cell?_alloc_some _ HCV.out) ho4 hg4 hv4; have HD4 := Lib.hid hD4; have HB4 := Lib.hid (((HBR.out.alloc hzr _)).grown hg4 (by simp; omega) (fun k hk => own_base HOWN.out hk)); clear ho4 hg4 hv4 hD4)
            go_roundw
            case rel => exact ⟨n' + 1, by omega, by go_num, Lib.hid (by have h := HD4.out; rw [flipsM_succ, List.map_append]; exact h), HB4.out.setCell (Nat.le_refl _) _⟩
            case measure => simp [intOf]; omega
          · obtain rfl : N = n' := by omega
            have hd0 := HD.out.cell (a := ⟨G, 0, none⟩) (v := .slice al N cl) ⟨rfl, rfl⟩
            have HBR3 : Below w3.heap.size w3 wr := by rw [← HG.out]; exact HBR.out
            have j0 := cell_keep HBR3 K45.out.1.1
            have j1 := cell_keep HBR3 K45.out.1.2
            have e0 := frozen_keep HBR3 hz3' K45.out.2.1
            have e1 := frozen_keep HBR3 hz3' K45.out.2.2
            have HOL2 := Lib.hid (own_off (u := .slice av N cc) (a := ⟨w.heap.size, 1, none⟩) (own_off (u := .slice al N cl) (a := ⟨w.heap.size, 0, none⟩) (own_keep HOL.out HBR3) hz6) hz6)
            have HOW2 := Lib.hid (own_off (u := .slice av N cc) (a := ⟨w.heap.size, 1, none⟩) (own_off (u := .slice al N cl) (a := ⟨w.heap.size, 0, none⟩) HOWN.out hG6) hG6)
            clear HBR3
            go_wp2_with fail
            refine bodyPost_ret (v := .tuple #[.agg #[.slice al N cl, .slice av N cc], .int .i64 0]) (by simp [results, Try.results48, go_sem, *]) rfl ?_
            obtain ⟨a5, c5, h5, hv5⟩ := own_intss HOL2.out (sub_in HF.out)
            obtain ⟨a6, c6, h6, hv6⟩ := own_bools HOW2.out
            injection h5 with h51 h52 h53
            injection h6 with h61 h62 h63
            subst h51 h61
            refine ⟨al, cl, av, cc, by rw [HM.out]; simp [hns, flipsM_len], by rw [HM.out]; exact hv5, by rw [HM.out]; exact hv6, ?_⟩
            exact (((HB2.out.trans (HB3.out.mono HB2.out.size)).trans (HBR.out.mono (Nat.le_of_lt hG6))).setCell (Nat.le_refl _) _).setCell (Nat.le_refl _) _
  · have hne : (facesE fl n != 0) = true := by simpa using he
    obtain ⟨E, hE⟩ : ∃ E, facesE fl n = E := ⟨_, rfl⟩
    have HM := Lib.hid (show matchM fl fr n = ([], [], E) by unfold matchM; rw [if_pos he, hE])
    generalize matchM fl fr n = q at *
    rw [hE] at hne
    have HE := Lib.hid hE
    clear he hE hv
    go_enter Try.func48, Try.ntmps48
    go_wp2_with (go_at_call 88; refine (checkFaces_is a fl c _ _ HE.out HV.out hl).mono ?_; rintro e w1 ⟨rfl, hb⟩; have k0 : w1.cell? ⟨w.heap.size, 0, none⟩ = some (.slice none 0 0) := (cell_keep hb (by simp [go_sem])); have k1 : w1.cell? ⟨w.heap.size, 1, none⟩ = some (.slice none 0 0) := (cell_keep hb (by simp [go_sem])); have HB := Lib.hid (((Below.refl w.heap.size w).alloc (Nat.le_refl _) _).trans (hb.mono (by simp))); have f0 : w1.frozen? ⟨w.heap.size, 0, none⟩ = false := frozen_keep hb (by simp) (by simp [go_sem]); have f1 : w1.frozen? ⟨w.heap.size, 1, none⟩ = false := frozen_keep hb (by simp) (by simp [go_sem]); have hz := hb.size; have hz0 : w.heap.size < w1.heap.size := (by simp at hz; omega); clear hb)
    refine bodyPost_ret (v := .tuple #[.agg #[.slice none 0 0, .slice none 0 0], .int .i64 E]) (by simp [results, Try.results48, go_sem, *]) rfl (MatchPost.empty HM.out ?_)
    repeat (first | exact HB.out | exact HB2.out | (refine Below.setCell ?_ (by simp) _))
end Go.Proofs.Ytepiapgcpoifpaa

set_option linter.unusedVariables false
set_option linter.unusedSimpArgs false
namespace Go.Proofs.Ytepiapgcpoifpaa
open Go Go.RowKit

theorem eq_no {α : Type} {l m : List α} {k : Nat} (hk : k < l.length) (hm : k < m.length) (h : ¬ l[k] = m[k]) : ¬ l = m := by
  rintro rfl
  exact h rfl
theorem eq_yes {α : Type} {l m : List α} (hl : l.length = m.length) {k : Nat} (hk : l.length ≤ k) (h : ∀ j (hj : j < l.length) (hj' : j < m.length), j < k → l[j] = m[j]) : l = m :=
  List.ext_getElem hl fun j hj hj' => h j hj hj' (by omega)
theorem eq_step {α : Type} {l m : List α} {k : Nat} (hk : k < l.length) (hm : k < m.length) (h : ∀ j (hj : j < l.length) (hj' : j < m.length), j < k → l[j] = m[j]) (h1 : l[k] = m[k]) : ∀ j (hj : j < l.length) (hj' : j < m.length), j < k + 1 → l[j] = m[j] := by
  intro j hj hj' hlt
  rcases Nat.lt_succ_iff_lt_or_eq.1 hlt with h' | rfl
  · exact h j hj hj' h'
  · exact h1
set_option maxHeartbeats 2000000 in
theorem intsSame_is (a1 a2 : Option Addr) (l m : List Int) (n1 c1 n2 c2 : Nat) (w : World) {q : Bool} (hn1 : l.length = n1) (hn2 : m.length = n2) (hq : decide (l = m) = q) (hv1 : Intss.V w a1 l) (hv2 : Intss.V w a2 m) (hl : l.length ≤ 1000000) (hm : m.length ≤ 1000000) :
    Calls Try.prog 51 #[.slice a1 n1 c1, .slice a2 n2 c2] w fun e w' => e = .returned (.bool q) ∧ Below w.heap.size w w' := by
  subst hn1 hn2
  have HQ := Lib.hid hq
  clear hq
  by_cases hll : l.length = m.length
  · have hne : ((l.length : Int) == (m.length : Int)) = true := beq_t (by omega)
    have hne2 : ((l.length : Int) != (m.length : Int)) = false := by simp [hll]
    have HLL := Lib.hid hll
    clear hll
    go_enter Try.func51, Try.ntmps51
    go_wp2_with fail
    clear hne hne2
    go_loopw [5] (fun iv wr => ∃ k : Nat, k ≤ l.length ∧ iv = .int .i64 k ∧ Hid (∀ j (hj : j < l.length) (hj' : j < m.length), j < k → l[j] = m[j]) ∧ Below w.heap.size w wr) (fun iv _ => l.length - (intOf iv).toNat)
    case atStart => exact ⟨0, Nat.zero_le _, rfl, Lib.hid (fun j _ _ h => by omega), Below.refl _ _⟩
    case round =>
      obtain ⟨k, hk, rfl, HK, hbr⟩ := hrel
      by_cases hlt : k < l.length
      · have hlt2 : k < m.length := by have := HLL.out; omega
        obtain ⟨b, off, ha, c0, -⟩ := (hv1.keep hbr).at' hlt
        obtain ⟨b', off', ha', c1', -⟩ := (hv2.keep hbr).at' hlt2
        subst ha ha'
        have hg1 := block_lt_of_cell c0
        have hg2 := block_lt_of_cell c1'
        simp only at hg1 hg2
        have HN := Lib.hid (fun h => eq_no hlt hlt2 h)
        have HS := Lib.hid (fun h => eq_step hlt hlt2 HK.out h)
        have hki : (k : Int) < (l.length : Int) := by omega
        have hki2 : (k : Int) < (m.length : Int) := by omega
        clear HK
        generalize l[k] = x at *
        generalize m[k] = y at *
        by_cases hxy : x = y
        · have hR := Lib.hid (HS.out hxy)
          have h1 : (x != y) = false := by simpa using hxy
          have h2 : (x == y) = true := beq_t hxy
          clear hxy HN HS
          go_wp2_with fail
          go_quiet (fail)
          rename_i nq
          go_wp2_with fail
          go_roundw
          case rel => exact ⟨k + 1, by omega, by go_num, hR, below_drewN hbr nq⟩
          case measure => simp [intOf]; omega
        · have hR := Lib.hid (HN.out hxy)
          have h1 : (x != y) = true := by simpa using hxy
          have h2 : (x == y) = false := beq_f hxy
          clear hxy HN HS
          go_wp2_with fail
          go_quiet (fail)
          rename_i nq
          go_wp2_with fail
          go_ret
          exact ⟨ret_bool (by rw [← HQ.out, decide_eq_false hR.out]), below_drewN hbr nq⟩
      · have hE := Lib.hid (eq_yes HLL.out (by omega) HK.out)
        have hki : ¬ (k : Int) < (l.length : Int) := by omega
        clear HK
        go_wp2_with fail
        go_ret
        exact ⟨ret_bool (by rw [← HQ.out, decide_eq_true hE.out]), hbr⟩
  · have hne : ((l.length : Int) == (m.length : Int)) = false := beq_f (by omega)
    have hne2 : ((l.length : Int) != (m.length : Int)) = true := by rw [bne_iff_ne]; omega
    have hR := Lib.hid (show ¬ l = m by rintro rfl; exact hll rfl)
    clear hll
    go_enter Try.func51, Try.ntmps51
    go_wp2_with fail
    go_ret
    exact ⟨ret_bool (by rw [← HQ.out, decide_eq_false hR.out]), Below.refl _ _⟩
theorem match_self {fl : List Int} {K N : Nat} (h : flitchE fl = 0) (h1 : 1 ≤ N) (h2 : K + N ≤ fl.length) (h3 : runP fl N K = true) : matchE fl (subI fl K N) (flipsM N) = 0 := by
  refine match_ok h ?_ ?_ h3 (flipsM_ok N)
  · rw [flipsM_len, subI_len h2]; omega
  · rw [List.all_eq_true]
    intro x hx
    unfold hasB
    rw [List.any_eq_true]
    exact ⟨x, subI_mem hx, by simp⟩
theorem firstRun_rng (fl : List Int) (N : Nat) : -1 ≤ firstRun fl N ∧ firstRun fl N ≤ fl.length := by
  unfold firstRun
  rcases firstI_cases (p := runP fl N) (runsN fl N) 0 with h | h
  · omega
  · obtain ⟨j, h1, h2, h3, -⟩ := firstI_some h
    unfold runsN at *
    omega
end Go.Proofs.Ytepiapgcpoifpaa
