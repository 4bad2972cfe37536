/- Matches: what CheckMatch of the program and of the reference return. -/
import Derived.Test.YtepiapgcpoifpaaV1
import Derived.Test.YtepiapgcpoifpaaW2
set_option linter.unusedVariables false
set_option linter.unusedSimpArgs false
namespace Go.Proofs.Ytepiapgcpoifpaa
open Go Go.RowKit

set_option maxHeartbeats 1000000 in
theorem idxInt_any (a : Option Addr) (l : List Int) (c : Nat) (x : Int) (w : World) (hv : Intss.V w a l) (hl : l.length ≤ 1000000) :
    Calls Try.prog 113 #[.slice a l.length c, .int .i64 x] w fun e w' => e = .returned (.int .i64 (idxOf (fun y => decide (x = y)) l)) ∧ Below w.heap.size w w' := by
  go_enter Try.func113, Try.ntmps113
  go_wp2_with fail
  go_loopw [8] (fun i wr => ∃ k : Nat, k ≤ l.length ∧ i = .int .i64 k ∧ Hid (∀ j (hj : j < l.length), j < k → decide (x = l[j]) = false) ∧ Below w.heap.size w wr) (fun i _ => l.length - (intOf i).toNat)
  case atStart => exact ⟨0, Nat.zero_le _, rfl, Lib.hid (fun j _ h => by omega), Below.refl _ _⟩
  case round =>
    obtain ⟨k, hk, rfl, HK, hbw⟩ := hrel
    by_cases hlt : k < l.length
    · obtain ⟨b, off, rfl, c0, -⟩ := (hv.keep hbw).at' hlt
      have HH := Lib.hid (fun h => idxOf_hit (p := fun y => decide (x = y)) hlt HK.out h)
      have HN := Lib.hid (fun h => none_step (p := fun y => decide (x = y)) HK.out hlt h)
      have hki : (k : Int) < (l.length : Int) := by omega
      generalize l[k] = y at *
      by_cases hxy : x = y
      · have hr := Lib.hid (HH.out (decide_eq_true hxy))
        have h1 : (x == y) = true := beq_t hxy
        clear hxy HH HN HK
        go_wp2_with fail
        go_ret
        exact ⟨ret_int hr.out.symm, hbw⟩
      · have hr := Lib.hid (HN.out (decide_eq_false hxy))
        have h1 : (x == y) = false := beq_f hxy
        clear hxy HH HN HK
        go_wp2_with fail
        go_roundw
        case rel => exact ⟨k + 1, by omega, by go_num, hr, hbw⟩
        case measure => simp [intOf]; omega
    · have hm := Lib.hid (idxOf_miss (p := fun y => decide (x = y)) (l := l) (fun j hj => HK.out j hj (by omega)))
      have hki : ¬ (k : Int) < (l.length : Int) := by omega
      clear HK
      go_wp2_with fail
      go_ret
      exact ⟨ret_int hm.out.symm, hbw⟩
def hasB (l : List Int) (x : Int) : Bool := l.any fun y => decide (x = y)
theorem idxOf_bool' {α : Type} (p : α → Bool) (l : List α) : decide (0 ≤ idxOf p l) = l.any p := by
  unfold idxOf
  rw [Bool.eq_iff_iff, decide_eq_true_eq]
  cases h : l.findIdx? p with
  | none =>
    rw [List.findIdx?_eq_none_iff] at h
    simp only [List.any_eq_true]
    exact ⟨fun h' => by omega, fun ⟨x, hx, hp⟩ => by rw [h x hx] at hp; cases hp⟩
  | some i =>
    rw [List.findIdx?_eq_some_iff_getElem] at h
    obtain ⟨hi, hp, -⟩ := h
    simp only [List.any_eq_true]
    exact ⟨fun _ => ⟨_, List.getElem_mem hi, hp⟩, fun _ => by omega⟩
set_option maxHeartbeats 1000000 in
theorem hasInt_any (a : Option Addr) (l : List Int) (c : Nat) (x : Int) (w : World) (hv : Intss.V w a l) (hl : l.length ≤ 1000000) {q : Bool} (hq : hasB l x = q) :
    Calls Try.prog 79 #[.slice a l.length c, .int .i64 x] w fun e w' => e = .returned (.bool q) ∧ Below w.heap.size w w' := by
  have hi := Lib.hid ((idxOf_bool' (fun y => decide (x = y)) l).trans hq)
  generalize hI : idxOf (fun y => decide (x = y)) l = I at *
  have HC := Lib.hid (idxInt_any a l c x w hv hl)
  rw [hI] at HC
  clear hI
  go_enter Try.func79, Try.ntmps79
  go_wp2_with (go_at_call 113; refine HC.out.mono ?_; rintro e w1 ⟨rfl, hb⟩; have HB := Lib.hid hb; clear hb)
  go_ret
  exact ⟨ret_bool (by rw [← hi.out]), HB.out⟩
set_option maxHeartbeats 1000000 in
theorem refHas_any (a : Option Addr) (l : List Int) (c : Nat) (x : Int) (w : World) (hv : Intss.V w a l) (hl : l.length ≤ 1000000) {q : Bool} (hq : hasB l x = q) :
    Calls Try.prog 81 #[.slice a l.length c, .int .i64 x] w fun e w' => e = .returned (.bool q) ∧ Below w.heap.size w w' := by
  have HQ := Lib.hid hq
  clear hq
  go_enter Try.func81, Try.ntmps81
  go_wp2_with fail
  go_loopw [5] (fun i wr => ∃ k : Nat, k ≤ l.length ∧ i = .int .i64 k ∧ Hid (∀ j (hj : j < l.length), j < k → decide (x = l[j]) = false) ∧ Below w.heap.size w wr) (fun i _ => l.length - (intOf i).toNat)
  case atStart => exact ⟨0, Nat.zero_le _, rfl, Lib.hid (fun j _ h => by omega), Below.refl _ _⟩
  case round =>
    obtain ⟨k, hk, rfl, HK, hbw⟩ := hrel
    by_cases hlt : k < l.length
    · obtain ⟨b, off, rfl, c0, -⟩ := (hv.keep hbw).at' hlt
      have HH := Lib.hid (fun h : decide (x = l[k]) = true => show hasB l x = true by unfold hasB; rw [List.any_eq_true]; exact ⟨_, List.getElem_mem hlt, h⟩)
      have HN := Lib.hid (fun h => none_step (p := fun y => decide (x = y)) HK.out hlt h)
      have hki : (k : Int) < (l.length : Int) := by omega
      generalize l[k] = y at *
      by_cases hxy : x = y
      · have hr := Lib.hid (HH.out (decide_eq_true hxy))
        have h1 : (y == x) = true := beq_t hxy.symm
        clear hxy HH HN HK
        go_wp2_with fail
        go_ret
        exact ⟨ret_bool (by rw [← HQ.out, hr.out]), hbw⟩
      · have hr := Lib.hid (HN.out (decide_eq_false hxy))
        have h1 : (y == x) = false := beq_f (fun e => hxy e.symm)
        clear hxy HH HN HK
        go_wp2_with fail
        go_roundw
        case rel => exact ⟨k + 1, by omega, by go_num, hr, hbw⟩
        case measure => simp [intOf]; omega
    · have hm := Lib.hid (show hasB l x = false by
        unfold hasB
        rw [List.any_eq_false]
        intro y hy
        obtain ⟨j, hj, rfl⟩ := List.mem_iff_getElem.1 hy
        simpa using HK.out j hj (by omega))
      have hki : ¬ (k : Int) < (l.length : Int) := by omega
      clear HK
      go_wp2_with fail
      go_ret
      exact ⟨ret_bool (by rw [← HQ.out, hm.out]), hbw⟩

/-- The error of a match. -/
def flipP (i : Nat) (f : Bool) : Bool := f == decide ((i : Int) % 2 = 1)
def flipOk : Nat → List Bool → Bool
  | _, [] => true
  | i, f :: r => flipP i f && flipOk (i + 1) r
theorem flipOk_iff : ∀ {l : List Bool} {i : Nat}, flipOk i l = true ↔ ∀ j (h : j < l.length), flipP (i + j) l[j] = true
  | [], _ => by simp [flipOk]
  | f :: r, i => by
    rw [flipOk, Bool.and_eq_true, flipOk_iff]
    constructor
    · rintro ⟨h1, h2⟩ j hj
      match j, hj with
      | 0, _ => exact h1
      | j + 1, hj => have := h2 j (by simpa using hj); rwa [show i + 1 + j = i + (j + 1) by omega] at this
    · intro h
      exact ⟨h 0 (by simp), fun j hj => by have := h (j + 1) (by simpa using hj); rwa [show i + (j + 1) = i + 1 + j by omega] at this⟩
theorem flip_yes {l : List Bool} {k : Nat} (hk : l.length ≤ k) (h : ∀ j (hj : j < l.length), j < k → flipP j l[j] = true) : flipOk 0 l = true := flipOk_iff.2 fun j hj => by rw [Nat.zero_add]; exact h j hj (by omega)
theorem flip_no {l : List Bool} {k : Nat} (hk : k < l.length) (h : flipP k l[k] = false) : flipOk 0 l = false := by
  rw [Bool.eq_false_iff]
  intro h2
  have := flipOk_iff.1 h2 k hk
  rw [Nat.zero_add, h] at this; cases this
theorem flip_step {l : List Bool} {k : Nat} (hk : k < l.length) (h : ∀ j (hj : j < l.length), j < k → flipP j l[j] = true) (h1 : flipP k l[k] = true) : ∀ j (hj : j < l.length), j < k + 1 → flipP j l[j] = true := by
  intro j hj hlt
  rcases Nat.lt_succ_iff_lt_or_eq.1 hlt with h' | rfl
  · exact h j hj h'
  · exact h1
def matchE (fl lv : List Int) (fp : List Bool) : Int :=
  if flitchE fl ≠ 0 then flitchE fl else if lv.length = 0 ∨ fp.length ≠ lv.length then 10 else if lv.all (hasB fl) = false then 6 else if followB lv = false then 9 else if flipOk 0 fp = false then 3 else 0
section
variable {fl lv : List Int} {fp : List Bool}
theorem match_flitch (h : ¬ flitchE fl = 0) : matchE fl lv fp = flitchE fl := by unfold matchE; rw [if_pos h]
theorem match_shape (h : flitchE fl = 0) (h1 : lv.length = 0 ∨ fp.length ≠ lv.length) : matchE fl lv fp = 10 := by unfold matchE; rw [if_neg (by simp [h]), if_pos h1]
theorem match_miss (h : flitchE fl = 0) (h1 : ¬ (lv.length = 0 ∨ fp.length ≠ lv.length)) (h2 : lv.all (hasB fl) = false) : matchE fl lv fp = 6 := by unfold matchE; rw [if_neg (by simp [h]), if_neg h1, if_pos h2]
theorem match_order (h : flitchE fl = 0) (h1 : ¬ (lv.length = 0 ∨ fp.length ≠ lv.length)) (h2 : lv.all (hasB fl) = true) (h3 : followB lv = false) : matchE fl lv fp = 9 := by unfold matchE; rw [if_neg (by simp [h]), if_neg h1, if_neg (by rw [h2]; decide), if_pos h3]
theorem match_form (h : flitchE fl = 0) (h1 : ¬ (lv.length = 0 ∨ fp.length ≠ lv.length)) (h2 : lv.all (hasB fl) = true) (h3 : followB lv = true) (h4 : flipOk 0 fp = false) : matchE fl lv fp = 3 := by unfold matchE; rw [if_neg (by simp [h]), if_neg h1, if_neg (by rw [h2]; decide), if_neg (by rw [h3]; decide), if_pos h4]
theorem match_ok (h : flitchE fl = 0) (h1 : ¬ (lv.length = 0 ∨ fp.length ≠ lv.length)) (h2 : lv.all (hasB fl) = true) (h3 : followB lv = true) (h4 : flipOk 0 fp = true) : matchE fl lv fp = 0 := by unfold matchE; rw [if_neg (by simp [h]), if_neg h1, if_neg (by rw [h2]; decide), if_neg (by rw [h3]; decide), if_neg (by rw [h4]; decide)]
theorem flitch_in (h : flitchE fl = 0) : ∀ x ∈ fl, 1 ≤ x ∧ x ≤ 100000 := by
  unfold flitchE at h
  split at h
  · cases h
  · split at h
    · cases h
    · rename_i h1 h2
      simp only [Bool.not_eq_false] at h2
      rw [List.all_eq_true] at h2
      exact fun x hx => withinB_true (h2 x hx)
theorem has_in (h : flitchE fl = 0) (h2 : lv.all (hasB fl) = true) : ∀ x ∈ lv, -1000000 ≤ x ∧ x ≤ 1000000 := by
  intro x hx
  rw [List.all_eq_true] at h2
  have h3 := h2 x hx
  unfold hasB at h3
  rw [List.any_eq_true] at h3
  obtain ⟨y, hy, h4⟩ := h3
  have := flitch_in h y hy
  have : x = y := by simpa using h4
  omega
end
theorem follow_is (a : Option Addr) (l : List Int) (c : Nat) (w : World) {q : Bool} (hq : followB l = q) (hv : Intss.V w a l) (hl : l.length ≤ 1000000) (hin : ∀ x ∈ l, -1000000 ≤ x ∧ x ≤ 1000000) : Calls Try.prog 80 #[.slice a l.length c] w fun e w' => e = .returned (.bool q) ∧ Below w.heap.size w w' := by subst hq; exact follow_any a l c w hv hl hin
theorem refFollow_is (a : Option Addr) (l : List Int) (c : Nat) (w : World) {q : Bool} (hq : followB l = q) (hv : Intss.V w a l) (hl : l.length ≤ 1000000) (hin : ∀ x ∈ l, -1000000 ≤ x ∧ x ≤ 1000000) : Calls Try.prog 50 #[.slice a l.length c] w fun e w' => e = .returned (.bool q) ∧ Below w.heap.size w w' := by subst hq; exact refFollow_any a l c w hv hl hin
theorem checkFlitch_is (a : Option Addr) (l : List Int) (c : Nat) (w : World) {q : Int} (hq : flitchE l = q) (hv : Intss.V w a l) (hl : l.length ≤ 1000000) : Calls Try.prog 78 #[.slice a l.length c] w fun e w' => e = .returned (.int .i64 q) ∧ Below w.heap.size w w' := by subst hq; exact checkFlitch_any a l c w hv hl
theorem refCheckFlitch_is (a : Option Addr) (l : List Int) (c : Nat) (w : World) {q : Int} (hq : flitchE l = q) (hv : Intss.V w a l) (hl : l.length ≤ 1000000) : Calls Try.prog 49 #[.slice a l.length c] w fun e w' => e = .returned (.int .i64 q) ∧ Below w.heap.size w w' := by subst hq; exact refCheckFlitch_any a l c w hv hl
end Go.Proofs.Ytepiapgcpoifpaa
