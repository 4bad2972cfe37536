/- Fitting: the error of a blank; whether two lists of numbers are equal. -/
import Derived.Test.YthhchnhidhgccaaFew
import Derived.Test.YthhchnhidhgccaaWidR
import Derived.Test.YthhchnhidhgccaaWidBest
set_option linter.unusedVariables false
set_option linter.unusedSimpArgs false
namespace Go.Proofs.Ythhchnhidhgccaa
open Go Go.RowKit

def blankErr (x : Blank) : Int :=
  if nameB x.name = false ∨ nameB x.species = false then 4
  else if withinB x.length 1 600000 = false ∨ withinB x.width 1 600000 = false ∨ withinB x.thick 1 600000 = false ∨ withinB x.count 1 200 = false then 2 else 0
theorem blankErr_ok {x : Blank} (h : blankErr x = 0) : (1 ≤ x.length ∧ x.length ≤ 600000) ∧ (1 ≤ x.width ∧ x.width ≤ 600000) ∧ (1 ≤ x.thick ∧ x.thick ≤ 600000) := by
  unfold blankErr at h
  split at h
  · cases h
  · split at h
    · cases h
    · rename_i h1
      refine ⟨withinB_true ?_, withinB_true ?_, withinB_true ?_⟩
      · cases hq : withinB x.length 1 600000 <;> simp_all
      · cases hq : withinB x.width 1 600000 <;> simp_all
      · cases hq : withinB x.thick 1 600000 <;> simp_all

set_option maxHeartbeats 2000000 in
theorem blankErr_any (x : Blank) (w : World) (hw : x.wf) :
    Calls Try.prog 55 #[.agg #[.string x.name, .string x.species, .int .i64 x.length, .int .i64 x.width, .int .i64 x.thick, .int .i64 x.count]] w fun e w' => e = .returned (.int .i64 (blankErr x)) ∧ Below w.heap.size w w' := by
  obtain ⟨hn1, hn2, -⟩ := hw
  cases h1 : nameB x.name
  · go_enter Try.func55, Try.ntmps55
    go_wp2_with (first
      | (go_at_call 85; refine (baseIsName_any _ _ (by assumption)).mono ?_; rintro e w' ⟨rfl, rfl⟩)
      | (go_at_call 28; refine (baseWithin_any _ _ _ _).mono ?_; rintro e w' ⟨rfl, rfl⟩))
    go_ret
    exact ⟨ret_int (by go_tidy; simp [blankErr, *]), (Below.refl _ _).alloc (Nat.le_refl _) _⟩
  cases h2 : nameB x.species
  · go_enter Try.func55, Try.ntmps55
    go_wp2_with (first
      | (go_at_call 85; refine (baseIsName_any _ _ (by assumption)).mono ?_; rintro e w' ⟨rfl, rfl⟩)
      | (go_at_call 28; refine (baseWithin_any _ _ _ _).mono ?_; rintro e w' ⟨rfl, rfl⟩))
    go_ret
    exact ⟨ret_int (by go_tidy; simp [blankErr, *]), (Below.refl _ _).alloc (Nat.le_refl _) _⟩
  cases h3 : withinB x.length 1 600000
  · go_enter Try.func55, Try.ntmps55
    go_wp2_with (first
      | (go_at_call 85; refine (baseIsName_any _ _ (by assumption)).mono ?_; rintro e w' ⟨rfl, rfl⟩)
      | (go_at_call 28; refine (baseWithin_any _ _ _ _).mono ?_; rintro e w' ⟨rfl, rfl⟩))
    go_ret
    exact ⟨ret_int (by go_tidy; simp [blankErr, *]), (Below.refl _ _).alloc (Nat.le_refl _) _⟩
  cases h4 : withinB x.width 1 600000
  · go_enter Try.func55, Try.ntmps55
    go_wp2_with (first
      | (go_at_call 85; refine (baseIsName_any _ _ (by assumption)).mono ?_; rintro e w' ⟨rfl, rfl⟩)
      | (go_at_call 28; refine (baseWithin_any _ _ _ _).mono ?_; rintro e w' ⟨rfl, rfl⟩))
    go_ret
    exact ⟨ret_int (by go_tidy; simp [blankErr, *]), (Below.refl _ _).alloc (Nat.le_refl _) _⟩
  cases h5 : withinB x.thick 1 600000
  · go_enter Try.func55, Try.ntmps55
    go_wp2_with (first
      | (go_at_call 85; refine (baseIsName_any _ _ (by assumption)).mono ?_; rintro e w' ⟨rfl, rfl⟩)
      | (go_at_call 28; refine (baseWithin_any _ _ _ _).mono ?_; rintro e w' ⟨rfl, rfl⟩))
    go_ret
    exact ⟨ret_int (by go_tidy; simp [blankErr, *]), (Below.refl _ _).alloc (Nat.le_refl _) _⟩
  cases h6 : withinB x.count 1 200
  · go_enter Try.func55, Try.ntmps55
    go_wp2_with (first
      | (go_at_call 85; refine (baseIsName_any _ _ (by assumption)).mono ?_; rintro e w' ⟨rfl, rfl⟩)
      | (go_at_call 28; refine (baseWithin_any _ _ _ _).mono ?_; rintro e w' ⟨rfl, rfl⟩))
    go_ret
    exact ⟨ret_int (by go_tidy; simp [blankErr, *]), (Below.refl _ _).alloc (Nat.le_refl _) _⟩
  · go_enter Try.func55, Try.ntmps55
    go_wp2_with (first
      | (go_at_call 85; refine (baseIsName_any _ _ (by assumption)).mono ?_; rintro e w' ⟨rfl, rfl⟩)
      | (go_at_call 28; refine (baseWithin_any _ _ _ _).mono ?_; rintro e w' ⟨rfl, rfl⟩))
    go_ret
    exact ⟨ret_int (by go_tidy; simp [blankErr, *]), (Below.refl _ _).alloc (Nat.le_refl _) _⟩

set_option maxRecDepth 100000 in
set_option maxHeartbeats 2000000 in
theorem ints_same (a a' : Option Addr) (l : List Int) (c c' : Nat) (w : World) (hv : IntsV w a l) (hv' : IntsV w a' l) (hl : l.length ≤ 9223372036854775807) :
    Calls Try.prog 56 #[.slice a l.length c, .slice a' l.length c'] w fun e w' => e = .returned (.bool true) ∧ Below w.heap.size w w' := by
  go_enter Try.func56, Try.ntmps56
  go_wp2_with fail
  go_loopw [5] (fun i wr => ∃ k : Nat, k ≤ l.length ∧ i = .int .i64 k ∧ Below w.heap.size w wr) (fun i _ => l.length - (intOf i).toNat)
  case atStart => exact ⟨0, Nat.zero_le _, rfl, Below.refl _ _⟩
  case round =>
    obtain ⟨k, hk, rfl, hbw⟩ := hrel
    by_cases hlt : k < l.length
    · obtain ⟨b, off, ha, c0⟩ := (hv.keep hbw).at_ hlt
      obtain ⟨b', off', ha', c0'⟩ := (hv'.keep hbw).at_ hlt
      subst ha ha'
      have hki : (k : Int) < (l.length : Int) := by omega
      generalize l[k] = z at *
      go_wp2_with fail
      go_quiet (fail)
      go_wp2_with fail
      go_roundw
      case rel => exact ⟨k + 1, by omega, by go_num, below_drewN hbw _⟩
      case measure => simp [intOf]; omega
    · go_wp2_with fail
      go_ret
      exact ⟨rfl, hbw⟩
end Go.Proofs.Ythhchnhidhgccaa
