/- Which stocks the laws look at. -/
import Derived.Test.YthhchnhidhgccaaStock2
set_option linter.unusedVariables false
set_option linter.unusedSimpArgs false
namespace Go.Proofs.Ythhchnhidhgccaa
open Go Go.RowKit

def fewB (st : List Board) : Bool := !((decide (6 < st.length) && decide (st.length ≤ 100)) || decide (110 < st.length)) && st.all plainB
theorem few_no {st : List Board} {k : Nat} (hk : k < st.length) (h : plainB st[k] = false) : fewB st = false := by
  unfold fewB
  rw [Bool.and_eq_false_iff]
  exact .inr (List.all_eq_false.2 ⟨st[k], List.getElem_mem _, by simp [h]⟩)
theorem few_yes {st : List Board} (hl : ¬ ((6 < st.length ∧ st.length ≤ 100) ∨ 110 < st.length)) (h : ∀ j (hj : j < st.length), plainB st[j] = true) : fewB st = true := by
  unfold fewB
  rw [Bool.and_eq_true]
  refine ⟨by simp; omega, List.all_eq_true.2 fun x hx => ?_⟩
  obtain ⟨j, hj, rfl⟩ := List.getElem_of_mem hx
  exact h j hj
theorem fewB_ok {st : List Board} (h : fewB st = true) : st.length ≤ 110 := by
  unfold fewB at h
  rw [Bool.and_eq_true] at h
  have := h.1
  simp at this
  omega

set_option maxRecDepth 100000 in
set_option maxHeartbeats 1000000 in
theorem few_any (a : Option Addr) (st : List Board) (c : Nat) (w : World) (hv : Boards.V w a st) (hl : st.length ≤ 9223372036854775807) :
    Calls Try.prog 42 #[.slice a st.length c] w fun e w' => e = .returned (.bool (fewB st)) ∧ Below w.heap.size w w' := by
  by_cases hbig : (6 < st.length ∧ st.length ≤ 100) ∨ 110 < st.length
  · have HE := Lib.hid (show fewB st = false by
      unfold fewB
      rw [Bool.and_eq_false_iff]
      left
      simp
      omega)
    by_cases h6 : 6 < st.length ∧ st.length ≤ 100
    · obtain ⟨h6, h7⟩ := h6
      clear hbig
      go_enter Try.func42, Try.ntmps42
      go_wp2_with fail
      go_ret
      exact ⟨by rw [HE.out]; rfl, Below.refl _ _⟩
    · have h8 : 110 < st.length := by omega
      have h9 : 6 < st.length := by omega
      have h10 : ¬ st.length ≤ 100 := by omega
      clear hbig h6
      go_enter Try.func42, Try.ntmps42
      go_wp2_with fail
      go_ret
      exact ⟨by rw [HE.out]; rfl, Below.refl _ _⟩
  · have HY := Lib.hid (fun h => few_yes hbig h)
    have HB := Lib.hid hbig
    by_cases h6 : 6 < st.length
    · have h8 : 100 < st.length := by omega
      have h9 : st.length ≤ 110 := by omega
      clear hbig
      go_enter Try.func42, Try.ntmps42
      go_wp2_with fail
      go_loopw [3] (fun i wr => ∃ k : Nat, k ≤ st.length ∧ i = .int .i64 k ∧ Hid (∀ j (hj : j < st.length), j < k → plainB st[j] = true) ∧ Below w.heap.size w wr) (fun i _ => st.length - (intOf i).toNat)
      case atStart => exact ⟨0, Nat.zero_le _, rfl, Lib.hid (fun j _ h => by omega), Below.refl _ _⟩
      case round =>
        obtain ⟨k, hk, rfl, HA, hbw⟩ := hrel
        have hsz := hbw.size
        by_cases hlt : k < st.length
        · obtain ⟨b, off, ad, cd, ha, ⟨c0, c1, c2, c3, c4, c5, c6, c7⟩, hr, hrl, hwf⟩ := (hv.keep hbw).at' hlt
          subst ha
          have hki : (k : Int) < (st.length : Int) := by omega
          have HNO := Lib.hid (fun h => few_no hlt h)
          have HAN := Lib.hid (fun (h : plainB st[k] = true) => show ∀ j (hj : j < st.length), j < k + 1 → plainB st[j] = true by
            intro j hj hjk
            rcases Nat.lt_succ_iff_lt_or_eq.1 hjk with h' | rfl
            · exact HA.out j hj h'
            · exact h)
          generalize hbd : st[k] = bd at *
          clear hbd HA
          cases hq : plainB bd
          · have HQ := Lib.hid hq
            clear hq
            go_wp2_with (go_at_call 20; refine (plain_any bd _ _ _ hrl hwf).mono ?_; rw [HQ.out]; rintro e w1 ⟨rfl, hb⟩)
            go_ret
            exact ⟨ret_bool (by go_tidy; rw [HNO.out HQ.out]), hbw.trans (hb.mono hsz)⟩
          · have HQ := Lib.hid hq
            clear hq
            go_wp2_with (go_at_call 20; refine (plain_any bd _ _ _ hrl hwf).mono ?_; rw [HQ.out]; rintro e w1 ⟨rfl, hb⟩)
            go_roundw
            case rel => exact ⟨k + 1, by omega, by go_num, Lib.hid (HAN.out HQ.out), hbw.trans (hb.mono hsz)⟩
            case measure => simp [intOf]; omega
        · have HE := Lib.hid (HY.out (fun j hj => HA.out j hj (by omega)))
          clear HA
          go_wp2_with fail
          go_ret
          exact ⟨ret_bool (by go_tidy; rw [HE.out]), hbw⟩
    · have h9 : st.length ≤ 110 := by omega
      clear hbig
      go_enter Try.func42, Try.ntmps42
      go_wp2_with fail
      go_loopw [3] (fun i wr => ∃ k : Nat, k ≤ st.length ∧ i = .int .i64 k ∧ Hid (∀ j (hj : j < st.length), j < k → plainB st[j] = true) ∧ Below w.heap.size w wr) (fun i _ => st.length - (intOf i).toNat)
      case atStart => exact ⟨0, Nat.zero_le _, rfl, Lib.hid (fun j _ h => by omega), Below.refl _ _⟩
      case round =>
        obtain ⟨k, hk, rfl, HA, hbw⟩ := hrel
        have hsz := hbw.size
        by_cases hlt : k < st.length
        · obtain ⟨b, off, ad, cd, ha, ⟨c0, c1, c2, c3, c4, c5, c6, c7⟩, hr, hrl, hwf⟩ := (hv.keep hbw).at' hlt
          subst ha
          have hki : (k : Int) < (st.length : Int) := by omega
          have HNO := Lib.hid (fun h => few_no hlt h)
          have HAN := Lib.hid (fun (h : plainB st[k] = true) => show ∀ j (hj : j < st.length), j < k + 1 → plainB st[j] = true by
            intro j hj hjk
            rcases Nat.lt_succ_iff_lt_or_eq.1 hjk with h' | rfl
            · exact HA.out j hj h'
            · exact h)
          generalize hbd : st[k] = bd at *
          clear hbd HA
          cases hq : plainB bd
          · have HQ := Lib.hid hq
            clear hq
            go_wp2_with (go_at_call 20; refine (plain_any bd _ _ _ hrl hwf).mono ?_; rw [HQ.out]; rintro e w1 ⟨rfl, hb⟩)
            go_ret
            exact ⟨ret_bool (by go_tidy; rw [HNO.out HQ.out]), hbw.trans (hb.mono hsz)⟩
          · have HQ := Lib.hid hq
            clear hq
            go_wp2_with (go_at_call 20; refine (plain_any bd _ _ _ hrl hwf).mono ?_; rw [HQ.out]; rintro e w1 ⟨rfl, hb⟩)
            go_roundw
            case rel => exact ⟨k + 1, by omega, by go_num, Lib.hid (HAN.out HQ.out), hbw.trans (hb.mono hsz)⟩
            case measure => simp [intOf]; omega
        · have HE := Lib.hid (HY.out (fun j hj => HA.out j hj (by omega)))
          clear HA
          go_wp2_with fail
          go_ret
          exact ⟨ret_bool (by go_tidy; rw [HE.out]), hbw⟩
end Go.Proofs.Ythhchnhidhgccaa
