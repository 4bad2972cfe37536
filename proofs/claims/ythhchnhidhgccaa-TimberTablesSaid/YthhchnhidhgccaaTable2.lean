/- Tables: what the program's checkTable returns. -/
import Derived.Test.YthhchnhidhgccaaTable
set_option linter.unusedVariables false
set_option linter.unusedSimpArgs false
namespace Go.Proofs.Ythhchnhidhgccaa
open Go Go.RowKit

set_option maxRecDepth 100000 in
set_option maxHeartbeats 2000000 in
theorem timberTable_any (a : Option Addr) (t : List Knot) (c : Nat) (w : World) (hv : Knots.V w a t) (hl : t.length ≤ 9223372036854775807) :
    Calls Try.prog 93 #[.slice a t.length c] w fun e w' => e = .returned (.int .i64 (tableErr t)) ∧ Below w.heap.size w w' := by
  by_cases h0 : t = []
  · subst h0
    have HE := Lib.hid (show tableErr [] = 12 from rfl)
    go_enter Try.func93, Try.ntmps93
    go_wp2_with fail
    go_ret
    exact ⟨ret_int (by rw [HE.out]), Below.refl _ _⟩
  have hpos : 0 < t.length := List.length_pos_iff.2 h0
  have hb0 : ((t.length : Int) == 0) = false := by simp; omega
  by_cases h1 : 50 < t.length
  · have HE := Lib.hid (show tableErr t = 8 by simp [tableErr, h0, h1])
    clear h0
    go_enter Try.func93, Try.ntmps93
    go_wp2_with fail
    go_ret
    exact ⟨ret_int (by rw [HE.out]), Below.refl _ _⟩
  have HF := Lib.hid (show tableErr t = knotGo (prevK t 0) (t.drop 0) by simp [tableErr, h0, h1, prevK])
  clear h0
  go_enter Try.func93, Try.ntmps93
  go_wp2_with fail
  go_loopw [15] (fun i wr => ∃ k : Nat, k ≤ t.length ∧ i = .int .i64 k ∧ Hid (tableErr t = knotGo (prevK t k) (t.drop k)) ∧ Below w.heap.size w wr) (fun i _ => t.length - (intOf i).toNat)
  case atStart => exact ⟨0, Nat.zero_le _, rfl, HF, Below.refl _ _⟩
  case round =>
    clear HF
    obtain ⟨k, hk, rfl, HF, hbw⟩ := hrel
    have hsz := hbw.size
    by_cases hlt : k < t.length
    · obtain ⟨b, off, ha, hall⟩ := (hv.keep hbw) (by rintro rfl; simp at hpos)
      subst ha
      obtain ⟨c0, c1, -⟩ := hall k _ (List.getElem?_eq_getElem hlt)
      have hki : (k : Int) < (t.length : Int) := by omega
      have hbk := block_lt_of_cell c0
      simp only at hbk
      cases q1 : withinB t[k].at_ 0 1000
      · have HB := Lib.hid (knotGo_bad hlt HF.out (.inl q1))
        clear HF hall
        go_wp2_with (go_at_call 83; refine (within_any _ _ _ _).mono ?_; rintro e w' ⟨rfl, rfl⟩)
        go_ret
        exact ⟨ret_int (by rw [HB.out]), by (repeat (first | assumption | (refine Below.setCell ?_ (by first | omega | (simp; omega) | (simp; done)) _) | (refine Below.alloc ?_ (by first | omega | (simp; omega) | (simp; done)) _)))⟩
      · cases q2 : withinB t[k].value 0 400
        · have HB := Lib.hid (knotGo_bad hlt HF.out (.inr q2))
          clear HF hall
          go_wp2_with (go_at_call 83; refine (within_any _ _ _ _).mono ?_; rintro e w' ⟨rfl, rfl⟩)
          go_ret
          exact ⟨ret_int (by rw [HB.out]), by (repeat (first | assumption | (refine Below.setCell ?_ (by first | omega | (simp; omega) | (simp; done)) _) | (refine Below.alloc ?_ (by first | omega | (simp; omega) | (simp; done)) _)))⟩
        · rcases Nat.eq_zero_or_pos k with rfl | hp
          · have HN := Lib.hid (knotGo_first hlt HF.out q1 q2)
            clear HF hall
            simp only [Nat.zero_mul, Nat.add_zero, Nat.zero_add] at c0 c1
            go_wp2_with (go_at_call 83; refine (within_any _ _ _ _).mono ?_; rintro e w' ⟨rfl, rfl⟩)
            go_quiet (fail)
            go_wp2_with fail
            go_roundw
            case rel => exact ⟨1, by omega, by go_num, HN, below_drewN (hbw.alloc (by omega) _) _⟩
            case measure => simp [intOf]; omega
          · obtain ⟨kp, hkp⟩ : ∃ kp, kp = t[k - 1]'(by omega) := ⟨_, rfl⟩
            have HKP := Lib.hid hkp
            obtain ⟨d0, d1, -⟩ := hall (k - 1) kp (by rw [hkp]; exact List.getElem?_eq_getElem (show k - 1 < t.length by omega))
            clear hkp
            have hj1 : (0 : Int) < (k : Int) := by omega
            have hj2 : (0 : Int) ≤ (k : Int) - 1 := by omega
            have hj3 : (k : Int) - 1 < (t.length : Int) := by omega
            have hj4 : IntKind.i64.wrap ((k : Int) - 1) = (k : Int) - 1 := IntWalk.i64_in _ (by omega)
            have hj5 : ((k : Int) - 1).toNat = k - 1 := by omega
            by_cases hord : t[k].at_ ≤ kp.at_
            · have HB := Lib.hid (knotGo_order hlt hp HF.out q1 q2 (by rw [← HKP.out]; exact hord))
              clear HF hall
              go_wp2_with (go_at_call 83; refine (within_any _ _ _ _).mono ?_; rintro e w' ⟨rfl, rfl⟩)
              go_quiet (fail)
              clear hj4 hj5
              go_wp2_with fail
              go_ret
              exact ⟨ret_int (by rw [HB.out]), below_drewN (hbw.alloc (by omega) _) _⟩
            · have HN := Lib.hid (knotGo_next hlt hp HF.out q1 q2 (by rw [← HKP.out]; exact hord))
              clear HF hall
              go_wp2_with (go_at_call 83; refine (within_any _ _ _ _).mono ?_; rintro e w' ⟨rfl, rfl⟩)
              go_quiet (fail)
              clear hj4 hj5
              go_wp2_with fail
              go_roundw
              case rel => exact ⟨k + 1, by omega, by go_num, HN, below_drewN (hbw.alloc (by omega) _) _⟩
              case measure => simp [intOf]; omega
    · have hm := Lib.hid (knotGo_end (by omega) HF.out)
      clear HF
      go_wp2_with fail
      go_ret
      exact ⟨ret_int hm.out.symm, hbw⟩

theorem knotGo_none (k : Knot) (r : List Knot) : knotGo none (k :: r) = if withinB k.at_ 0 1000 = false ∨ withinB k.value 0 400 = false then 2 else knotGo (some k) r := by
  rw [knotGo_cons]; simp
theorem knotGo_some (q k : Knot) (r : List Knot) : knotGo (some q) (k :: r) = if withinB k.at_ 0 1000 = false ∨ withinB k.value 0 400 = false then 2 else if k.at_ ≤ q.at_ then 9 else knotGo (some k) r := by
  rw [knotGo_cons]; simp
theorem knotGo_ok : ∀ {t : List Knot} {p : Option Knot}, knotGo p t = 0 → (∀ k ∈ t, (0 ≤ k.at_ ∧ k.at_ ≤ 1000) ∧ (0 ≤ k.value ∧ k.value ≤ 400)) ∧ (∀ q, p = some q → ∀ k ∈ t, q.at_ < k.at_) ∧ t.Pairwise (fun a b => a.at_ < b.at_)
  | [], p, _ => by simp
  | k :: r, none, h => by
    rw [knotGo_none] at h
    split at h
    · cases h
    · rename_i h1
      obtain ⟨i1, i2, i3⟩ := knotGo_ok h
      have hk1 : withinB k.at_ 0 1000 = true := by cases hq : withinB k.at_ 0 1000 <;> simp_all
      have hk2 : withinB k.value 0 400 = true := by cases hq : withinB k.value 0 400 <;> simp_all
      refine ⟨fun x hx => ?_, fun q hq => by (cases hq), List.pairwise_cons.2 ⟨fun x hx => i2 k rfl x hx, i3⟩⟩
      rcases List.mem_cons.1 hx with rfl | hx
      · exact ⟨withinB_true hk1, withinB_true hk2⟩
      · exact i1 x hx
  | k :: r, some q0, h => by
    rw [knotGo_some] at h
    split at h
    · cases h
    · rename_i h1
      split at h
      · cases h
      · rename_i h2
        obtain ⟨i1, i2, i3⟩ := knotGo_ok h
        have hk1 : withinB k.at_ 0 1000 = true := by cases hq : withinB k.at_ 0 1000 <;> simp_all
        have hk2 : withinB k.value 0 400 = true := by cases hq : withinB k.value 0 400 <;> simp_all
        refine ⟨fun x hx => ?_, fun q hq x hx => ?_, List.pairwise_cons.2 ⟨fun x hx => i2 k rfl x hx, i3⟩⟩
        · rcases List.mem_cons.1 hx with rfl | hx
          · exact ⟨withinB_true hk1, withinB_true hk2⟩
          · exact i1 x hx
        · injection hq with hq
          subst hq
          rcases List.mem_cons.1 hx with rfl | hx
          · omega
          · have := i2 k rfl x hx; omega

/-! The value of a table. -/
structure TableOk (t : List Knot) : Prop where
  pos : 0 < t.length
  few : t.length ≤ 50
  bd : ∀ k ∈ t, (0 ≤ k.at_ ∧ k.at_ ≤ 1000) ∧ (0 ≤ k.value ∧ k.value ≤ 400)
  asc : t.Pairwise (fun a b => a.at_ < b.at_)
theorem tableErr_ok {t : List Knot} (h : tableErr t = 0) : TableOk t := by
  unfold tableErr at h
  split at h
  · cases h
  · split at h
    · cases h
    · rename_i h1 h2
      obtain ⟨a, -, b⟩ := knotGo_ok h
      exact ⟨List.length_pos_iff.2 h1, by omega, a, b⟩
def interp (a b : Knot) (h : Int) : Int := a.value + ((b.value - a.value) * (h - a.at_)) / (b.at_ - a.at_)
def eqVal (t : List Knot) (h : Int) : Int :=
  match t.findIdx? fun k => decide (h ≤ k.at_) with
  | none => (t.getLast?.map (·.value)).getD 0
  | some 0 => (t.head?.map (·.value)).getD 0
  | some (i + 1) => interp (t.getD i ⟨0, 0⟩) (t.getD (i + 1) ⟨0, 0⟩) h
theorem eqVal_none {t : List Knot} {h : Int} {z : Knot} (hz : t.getLast? = some z) (hn : ∀ k ∈ t, ¬ h ≤ k.at_) : eqVal t h = z.value := by
  have : (t.findIdx? fun k => decide (h ≤ k.at_)) = none := by
    rw [List.findIdx?_eq_none_iff]
    intro k hk; simpa using hn k hk
  unfold eqVal
  rw [this, hz]; rfl
theorem eqVal_zero {t : List Knot} {h : Int} (hp : 0 < t.length) (hh : h ≤ t[0].at_) : eqVal t h = t[0].value := by
  have : (t.findIdx? fun k => decide (h ≤ k.at_)) = some 0 := by
    rw [List.findIdx?_eq_some_iff_getElem]
    exact ⟨hp, by simpa using hh, fun j hj => by omega⟩
  unfold eqVal
  rw [this, List.head?_eq_getElem?, List.getElem?_eq_getElem hp]; rfl
theorem eqVal_mid {t : List Knot} {h : Int} {i : Nat} (hi : i + 1 < t.length) (hh : h ≤ t[i + 1].at_) (hn : ∀ j (hj : j < t.length), j < i + 1 → ¬ h ≤ t[j].at_) : eqVal t h = interp (t[i]'(by omega)) t[i + 1] h := by
  have : (t.findIdx? fun k => decide (h ≤ k.at_)) = some (i + 1) := by
    rw [List.findIdx?_eq_some_iff_getElem]
    exact ⟨hi, by simpa using hh, fun j hj => by simpa using hn j (by omega) hj⟩
  unfold eqVal
  rw [this]
  simp only [List.getD_eq_getElem?_getD, List.getElem?_eq_getElem hi, List.getElem?_eq_getElem (show i < t.length by omega), Option.getD_some]
theorem interp_ref {a b : Knot} {h : Int} (hd : 0 < b.at_ - a.at_) : (a.value * (b.at_ - a.at_) + (b.value - a.value) * (h - a.at_)) / (b.at_ - a.at_) = interp a b h := by
  unfold interp
  rw [Int.add_comm, Int.add_mul_ediv_right _ _ (by omega), Int.add_comm]
end Go.Proofs.Ythhchnhidhgccaa
