/- Tables: what CheckTable, checkTable and the two Equilibrium return. -/
import Derived.Test.YthhchnhidhgccaaMove2
set_option linter.unusedVariables false
set_option linter.unusedSimpArgs false
namespace Go.Proofs.Ythhchnhidhgccaa
open Go Go.RowKit

def knotGo (prev : Option Knot) : List Knot → Int
  | [] => 0
  | k :: r => if withinB k.at_ 0 1000 = false ∨ withinB k.value 0 400 = false then 2 else if (match prev with | some p => decide (k.at_ ≤ p.at_) | none => false) = true then 9 else knotGo (some k) r
def tableErr (t : List Knot) : Int := if t = [] then 12 else if 50 < t.length then 8 else knotGo none t
def prevK (t : List Knot) (k : Nat) : Option Knot := if k = 0 then none else t[k - 1]?
theorem knotGo_cons (p : Option Knot) (k : Knot) (r : List Knot) : knotGo p (k :: r) = if withinB k.at_ 0 1000 = false ∨ withinB k.value 0 400 = false then 2 else if (match p with | some p => decide (k.at_ ≤ p.at_) | none => false) = true then 9 else knotGo (some k) r := by
  rfl
theorem knotGo_bad {t : List Knot} {k : Nat} {e : Int} (hk : k < t.length) (h : e = knotGo (prevK t k) (t.drop k)) (h1 : withinB t[k].at_ 0 1000 = false ∨ withinB t[k].value 0 400 = false) : e = 2 := by
  rw [h, List.drop_eq_getElem_cons hk, knotGo_cons, if_pos h1]
theorem prevK_zero (t : List Knot) : prevK t 0 = none := by simp [prevK]
theorem prevK_pos {t : List Knot} {k : Nat} (hk : k < t.length) (hp : 0 < k) : prevK t k = some (t[k - 1]'(by omega)) := by
  unfold prevK
  rw [if_neg (by omega), List.getElem?_eq_getElem]
theorem prevK_succ {t : List Knot} {k : Nat} (hk : k < t.length) : prevK t (k + 1) = some t[k] := by simp [prevK, hk]
theorem knotGo_order {t : List Knot} {k : Nat} {e : Int} (hk : k < t.length) (hp : 0 < k) (h : e = knotGo (prevK t k) (t.drop k)) (h1 : withinB t[k].at_ 0 1000 = true) (h2 : withinB t[k].value 0 400 = true) (h3 : t[k].at_ ≤ (t[k - 1]'(by omega)).at_) : e = 9 := by
  rw [h, List.drop_eq_getElem_cons hk, knotGo_cons, if_neg (by simp [h1, h2]), prevK_pos hk hp]
  simp [h3]
theorem knotGo_next {t : List Knot} {k : Nat} {e : Int} (hk : k < t.length) (hp : 0 < k) (h : e = knotGo (prevK t k) (t.drop k)) (h1 : withinB t[k].at_ 0 1000 = true) (h2 : withinB t[k].value 0 400 = true) (h3 : ¬ t[k].at_ ≤ (t[k - 1]'(by omega)).at_) : e = knotGo (prevK t (k + 1)) (t.drop (k + 1)) := by
  rw [h, List.drop_eq_getElem_cons hk, knotGo_cons, if_neg (by simp [h1, h2]), prevK_pos hk hp, prevK_succ hk]
  simp [h3]
theorem knotGo_first {t : List Knot} {e : Int} (hk : 0 < t.length) (h : e = knotGo (prevK t 0) (t.drop 0)) (h1 : withinB t[0].at_ 0 1000 = true) (h2 : withinB t[0].value 0 400 = true) : e = knotGo (prevK t (0 + 1)) (t.drop (0 + 1)) := by
  rw [h, List.drop_eq_getElem_cons hk, knotGo_cons, if_neg (by simp [h1, h2]), prevK_zero, prevK_succ hk]
  simp
theorem knotGo_end {t : List Knot} {k : Nat} {e : Int} (hk : t.length ≤ k) (h : e = knotGo (prevK t k) (t.drop k)) : e = 0 := by
  rw [h, List.drop_of_length_le hk]; rfl

set_option maxRecDepth 100000 in
set_option maxHeartbeats 2000000 in
theorem refTable_any (a : Option Addr) (t : List Knot) (c : Nat) (w : World) (hv : Knots.V w a t) (hl : t.length ≤ 9223372036854775807) :
    Calls Try.prog 52 #[.slice a t.length c] w fun e w' => e = .returned (.int .i64 (tableErr t)) ∧ Below w.heap.size w w' := by
  by_cases h0 : t = []
  · subst h0
    have HE := Lib.hid (show tableErr [] = 12 from rfl)
    go_enter Try.func52, Try.ntmps52
    go_wp2_with fail
    go_ret
    exact ⟨ret_int (by rw [HE.out]), Below.refl _ _⟩
  have hpos : 0 < t.length := List.length_pos_iff.2 h0
  by_cases h1 : 50 < t.length
  · have HE := Lib.hid (show tableErr t = 8 by simp [tableErr, h0, h1])
    clear h0
    go_enter Try.func52, Try.ntmps52
    go_wp2_with fail
    go_ret
    exact ⟨ret_int (by rw [HE.out]), Below.refl _ _⟩
  have HF := Lib.hid (show tableErr t = knotGo (prevK t 0) (t.drop 0) by simp [tableErr, h0, h1, prevK])
  have hb0 : ((t.length : Int) == 0) = false := by simp; omega
  clear h0
  go_enter Try.func52, Try.ntmps52
  go_wp2_with fail
  go_loopw [3] (fun i wr => ∃ k : Nat, k ≤ t.length ∧ i = .int .i64 k ∧ Hid (tableErr t = knotGo (prevK t k) (t.drop k)) ∧ Below w.heap.size w wr) (fun i _ => t.length - (intOf i).toNat)
  case atStart => exact ⟨0, Nat.zero_le _, rfl, HF, Below.refl _ _⟩
  case round =>
    clear HF
    obtain ⟨k, hk, rfl, HF, hbw⟩ := hrel
    by_cases hlt : k < t.length
    · obtain ⟨b, off, ha, hall⟩ := (hv.keep hbw) (by rintro rfl; simp at hpos)
      subst ha
      obtain ⟨c0, c1, -⟩ := hall k _ (List.getElem?_eq_getElem hlt)
      have hki : (k : Int) < (t.length : Int) := by omega
      cases q1 : withinB t[k].at_ 0 1000
      · have HB := Lib.hid (knotGo_bad hlt HF.out (.inl q1))
        clear HF hall
        go_wp2_with (first
          | (go_at_call 28; refine (baseWithin_any _ _ _ _).mono ?_; rintro e w' ⟨rfl, rfl⟩))
        go_ret
        exact ⟨ret_int (by rw [HB.out]), hbw⟩
      · cases q2 : withinB t[k].value 0 400
        · have HB := Lib.hid (knotGo_bad hlt HF.out (.inr q2))
          clear HF hall
          go_wp2_with (first
            | (go_at_call 28; refine (baseWithin_any _ _ _ _).mono ?_; rintro e w' ⟨rfl, rfl⟩)
            | (go_at_call 50; refine (moisture_any _ _).mono ?_; rintro e w' ⟨rfl, rfl⟩))
          go_ret
          exact ⟨ret_int (by rw [HB.out]), hbw⟩
        · rcases Nat.eq_zero_or_pos k with rfl | hp
          · have HN := Lib.hid (knotGo_first hlt HF.out q1 q2)
            clear HF hall
            simp only [Nat.zero_mul, Nat.add_zero, Nat.zero_add] at c0 c1
            go_wp2_with (first
              | (go_at_call 28; refine (baseWithin_any _ _ _ _).mono ?_; rintro e w' ⟨rfl, rfl⟩)
              | (go_at_call 50; refine (moisture_any _ _).mono ?_; rintro e w' ⟨rfl, rfl⟩))
            go_quiet (fail)
            go_wp2_with fail
            go_roundw
            case rel => exact ⟨1, by omega, by go_num, HN, below_drewN hbw _⟩
            case measure => simp [intOf]; omega
          · obtain ⟨kp, hkp⟩ : ∃ kp, kp = t[k - 1]'(by omega) := ⟨_, rfl⟩
            have HKP := Lib.hid hkp
            obtain ⟨d0, d1, -⟩ := hall (k - 1) kp (by rw [hkp]; exact List.getElem?_eq_getElem (show k - 1 < t.length by omega))
            clear hkp
            have hj1 : (0 : Int) < (k : Int) := by omega
            have hj2 : (0 : Int) ≤ (k : Int) - 1 := by omega
            have hj3 : (k : Int) - 1 < (t.length : Int) := by omega
            have hj4 : IntKind.i64.wrap ((k : Int) - 1) = (k : Int) - 1 := IntWalk.i64_in _ (by omega)
            have hj5 : ((k : Int) - 1).toNat = k - 1 := by omega
            by_cases hord : t[k].at_ ≤ kp.at_
            · have HB := Lib.hid (knotGo_order hlt hp HF.out q1 q2 (by rw [← HKP.out]; exact hord))
              clear HF hall
              go_wp2_with (first
                | (go_at_call 28; refine (baseWithin_any _ _ _ _).mono ?_; rintro e w' ⟨rfl, rfl⟩)
                | (go_at_call 50; refine (moisture_any _ _).mono ?_; rintro e w' ⟨rfl, rfl⟩))
              go_quiet (fail)
              clear hj4 hj5
              go_wp2_with fail
              go_ret
              exact ⟨ret_int (by rw [HB.out]), below_drewN hbw _⟩
            · have HN := Lib.hid (knotGo_next hlt hp HF.out q1 q2 (by rw [← HKP.out]; exact hord))
              clear HF hall
              go_wp2_with (first
                | (go_at_call 28; refine (baseWithin_any _ _ _ _).mono ?_; rintro e w' ⟨rfl, rfl⟩)
                | (go_at_call 50; refine (moisture_any _ _).mono ?_; rintro e w' ⟨rfl, rfl⟩))
              go_quiet (fail)
              clear hj4 hj5
              go_wp2_with fail
              go_roundw
              case rel => exact ⟨k + 1, by omega, by go_num, HN, below_drewN hbw _⟩
              case measure => simp [intOf]; omega
    · have hm := Lib.hid (knotGo_end (by omega) HF.out)
      clear HF
      go_wp2_with fail
      go_ret
      exact ⟨ret_int hm.out.symm, hbw⟩
end Go.Proofs.Ythhchnhidhgccaa
