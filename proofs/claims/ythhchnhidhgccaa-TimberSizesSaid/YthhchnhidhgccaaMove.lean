/- Movement: what the reference MoveErr, Over, At and the program's At return. -/
import Derived.Test.YthhchnhidhgccaaOver
set_option linter.unusedVariables false
set_option linter.unusedSimpArgs false
namespace Go.Proofs.Ythhchnhidhgccaa
open Go Go.RowKit

theorem moved_mono {size rate f x y : Int} (s1 : 0 ≤ size) (h1 : 0 ≤ rate) (h : x ≤ y) : moved size rate f x ≤ moved size rate f y := by
  unfold moved
  refine Int.mul_le_mul_of_nonneg_left ?_ s1
  have := Int.mul_le_mul_of_nonneg_left (show min x 280 - min f 280 ≤ min y 280 - min f 280 by omega) h1
  omega
theorem moved_rate {size rate f x : Int} (s1 : 0 ≤ size) (h : f ≤ x) : moved size rate f x ≤ moved size (rate + 1) f x := by
  unfold moved
  refine Int.mul_le_mul_of_nonneg_left ?_ s1
  have : (rate + 1) * (min x 280 - min f 280) = rate * (min x 280 - min f 280) + (min x 280 - min f 280) := by rw [Int.add_mul]; omega
  omega
theorem moved_sat {size rate f x y : Int} (hx : 280 ≤ x) (hy : 280 ≤ y) : moved size rate f x = moved size rate f y := by
  unfold moved
  rw [show min x 280 = 280 by omega, show min y 280 = 280 by omega]

def moveOkB (size rate : Int) (ms : List Int) : Bool := withinB size 0 600000 && withinB rate 0 2000 && ms.all fun m => withinB m 0 400
theorem moveErr_B (size rate : Int) (ms : List Int) : moveErr size rate ms = if moveOkB size rate ms = true then 0 else 2 := by
  unfold moveErr moveOkB
  cases h1 : withinB size 0 600000 <;> cases h2 : withinB rate 0 2000 <;> simp
  by_cases h : ∀ m ∈ ms, withinB m 0 400 = true
  · rw [if_neg, if_pos h]
    rintro ⟨x, hx, hf⟩
    have := h x hx
    rw [hf] at this; cases this
  · rw [if_neg h, if_pos]
    obtain ⟨x, hx⟩ := Classical.not_forall.1 h
    obtain ⟨hx, hf⟩ := Classical.not_imp.1 hx
    exact ⟨x, hx, by simpa using hf⟩
theorem moveOkB_snoc {size rate : Int} {l : List Int} {k : Nat} (hk : k < l.length) : moveOkB size rate (l.take (k + 1)) = (moveOkB size rate (l.take k) && withinB l[k] 0 400) := by
  unfold moveOkB
  rw [List.take_succ_eq_append_getElem hk, List.all_append, List.all_cons, List.all_nil, Bool.and_true]
  simp only [Bool.and_assoc]

theorem moisture_any (n : Int) (w : World) : Calls Try.prog 50 #[.int .i64 n] w fun e w' => e = .returned (.bool (withinB n 0 400)) ∧ w = w' := by
  go_enter Try.func50, Try.ntmps50
  go_wp2_with (go_at_call 28; refine (baseWithin_any _ _ _ _).mono ?_; rintro e w' ⟨rfl, rfl⟩)
  go_ret
  exact ⟨rfl, rfl⟩

set_option maxHeartbeats 1000000 in
theorem refMoveErr_any (size rate : Int) (a : Option Addr) (l : List Int) (n c : Nat) (w : World) (hn : n = l.length) (hv : IntsV w a l) (hl : l.length ≤ 9223372036854775807) :
    Calls Try.prog 26 #[.int .i64 size, .int .i64 rate, .slice a n c] w fun e w' => e = .returned (.int .i64 (moveErr size rate l)) ∧ w = w' := by
  subst hn
  have HM := Lib.hid (moveErr_B size rate l)
  have H0 := Lib.hid (show moveOkB size rate (l.take 0) = (withinB size 0 600000 && withinB rate 0 2000) by simp [moveOkB])
  obtain ⟨b0, hb0⟩ : ∃ b0, b0 = (withinB size 0 600000 && withinB rate 0 2000) := ⟨_, rfl⟩
  rw [← hb0] at H0
  cases h1 : withinB size 0 600000
  all_goals rw [h1] at hb0
  all_goals first | simp only [Bool.false_and] at hb0 | simp only [Bool.true_and] at hb0
  all_goals subst hb0
  all_goals
    go_enter Try.func26, Try.ntmps26
    go_wp2_with (go_at_call 28; refine (baseWithin_any _ _ _ _).mono ?_; rintro e w' ⟨rfl, rfl⟩)
    clear h1
    go_loop [7, 8] (fun ok i => ∃ k : Nat, k ≤ l.length ∧ i = .int .i64 k ∧ ∃ b : Bool, ok = .bool b ∧ Hid (moveOkB size rate (l.take k) = b)) (fun _ i => l.length - (intOf i).toNat)
    case atStart => exact ⟨0, Nat.zero_le _, rfl, _, rfl, H0⟩
    case round =>
      clear H0
      obtain ⟨k, hk, rfl, b, rfl, HB⟩ := hrel
      by_cases hlt : k < l.length
      · obtain ⟨bk, off, rfl, c0⟩ := hv.at_ hlt
        cases b
        · go_wp2_with (go_at_call 50; refine (moisture_any _ _).mono ?_; rintro e w' ⟨rfl, rfl⟩)
          go_round
          case rel => exact ⟨k + 1, by omega, by go_num, _, rfl, Lib.hid (by rw [moveOkB_snoc hlt, HB.out]; rfl)⟩
          case measure => simp [intOf]; omega
        · go_wp2_with (go_at_call 50; refine (moisture_any _ _).mono ?_; rintro e w' ⟨rfl, rfl⟩)
          go_round
          case rel => exact ⟨k + 1, by omega, by go_num, _, rfl, Lib.hid (by rw [moveOkB_snoc hlt, HB.out]; rfl)⟩
          case measure => simp [intOf]; omega
      · have hm := HB.out
        rw [List.take_of_length_le (by omega)] at hm
        have HE := Lib.hid (show moveErr size rate l = if b = true then 0 else 2 by rw [HM.out, hm])
        clear hm HB
        cases b
        all_goals
          go_wp2_with fail
          go_ret
          exact ⟨ret_int (by rw [HE.out]; rfl), rfl⟩

theorem refAt_any (size rate : Int) (m : Interval) (w : World) (s1 : 0 ≤ size) (s2 : size ≤ 600000) (h1 : 0 ≤ rate) (h2 : rate ≤ 2000) (h3 : 0 ≤ m.lo) (h4 : m.lo ≤ 400) (h5 : 0 ≤ m.hi) (h6 : m.hi ≤ 400) :
    Calls Try.prog 48 #[.int .i64 size, .int .i64 rate, .agg #[.int .i64 m.lo, .int .i64 m.hi]] w fun e w' => e = .returned (.agg #[.int .i64 (moved size rate m.lo m.hi / 1000000), .int .i64 (-((-moved size rate m.lo m.hi) / 1000000))]) ∧ Below w.heap.size w w' := by
  obtain ⟨b1, b2⟩ := moved_range s1 s2 h1 h2 h5 h6 h3 h4
  go_enter Try.func48, Try.ntmps48
  go_wp2_with (first
    | (go_at_call 78; refine (millionths_any _ _ _ _ _ s1 s2 h1 h2 h5 h6 h3 h4).mono ?_; rintro e w' ⟨rfl, rfl⟩)
    | (go_at_call 79; refine (round_any _ _ _ (by omega) (by omega) (by omega) (by omega)).mono ?_; rintro e w1 ⟨rfl, hb⟩; have k2 : w1.cell? ⟨w.heap.size + 1, 0, none⟩ = some (.int .i64 0) := (cell_keep hb (by simp [go_sem])); have k3 : w1.cell? ⟨w.heap.size + 1, 1, none⟩ = some (.int .i64 0) := (cell_keep hb (by simp [go_sem])); have hz := hb.size; obtain ⟨hc, hf⟩ := bcell hb))
  refine bodyPost_ret (v := .agg #[.int .i64 (moved size rate m.lo m.hi / 1000000), .int .i64 (-((-moved size rate m.lo m.hi) / 1000000))]) (by simp [results, Try.results48, go_sem, k2, k3]) rfl ⟨rfl, ?_⟩
  exact (((((Below.refl _ _).alloc (Nat.le_refl _) _).alloc (by simp) _).trans (hb.mono (by simp; omega))).setCell (by simp) _).setCell (by simp) _
end Go.Proofs.Ythhchnhidhgccaa
