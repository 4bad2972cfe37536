/- Movement: what the program's At and the reference's Over return. -/
import Derived.Test.YthhchnhidhgccaaMove
set_option linter.unusedVariables false
set_option linter.unusedSimpArgs false
namespace Go.Proofs.Ythhchnhidhgccaa
open Go Go.RowKit

def atE (size rate from_ to_ : Int) : Int := moveErr size rate [from_, to_]
def atLo (size rate from_ to_ : Int) : Int := if atE size rate from_ to_ ≠ 0 then 0 else moved size rate from_ to_ / 1000000
def atHi (size rate from_ to_ : Int) : Int := if atE size rate from_ to_ ≠ 0 then 0 else -((-moved size rate from_ to_) / 1000000)

set_option maxHeartbeats 1000000 in
theorem timberAt_any (size rate : Int) (m : Interval) (w : World) :
    Calls Try.prog 29 #[.int .i64 size, .int .i64 rate, .agg #[.int .i64 m.lo, .int .i64 m.hi]] w fun e w' => e = .returned (.tuple #[.agg #[.int .i64 (atLo size rate m.lo m.hi), .int .i64 (atHi size rate m.lo m.hi)], .int .i64 (atE size rate m.lo m.hi)]) ∧ Below w.heap.size w w' := by
  by_cases h0 : moveErr size rate [m.lo, m.hi] = 0
  · obtain ⟨⟨s1, s2⟩, ⟨r1, r2⟩, hms⟩ := moveErr_ok h0
    have hm2 := hms m.lo (by simp)
    have hm3 := hms m.hi (by simp)
    clear hms
    have h0' : (moveErr size rate [m.lo, m.hi] != 0) = false := by simp [h0]
    have H0 := Lib.hid h0
    clear h0
    obtain ⟨b1, b2⟩ := moved_range s1 s2 r1 r2 hm3.1 hm3.2 hm2.1 hm2.2
    go_enter Try.func29, Try.ntmps29
    go_wp2_with (first
      | (go_at_call 75; refine (checkMove_any _ _ _ [m.lo, m.hi] _ _ _ rfl (intsV_new2 _ _ _ _ _ (by simp)) (by simp)).mono ?_; rintro e w' ⟨rfl, rfl⟩)
      | (go_at_call 77; refine (timberMoved_any _ _ _ _ _ s1 s2 r1 r2 hm3.1 hm3.2 hm2.1 hm2.2).mono ?_; rintro e w' ⟨rfl, rfl⟩)
      | (go_at_call 76; refine (interval_any _ _ _ (by omega) (by omega) (by omega) (by omega)).mono ?_; rintro e w1 ⟨rfl, hb⟩; have k2 : w1.cell? ⟨w.heap.size + 1, 0, none⟩ = some (.int .i64 0) := (cell_keep hb (by simp [go_sem])); have k3 : w1.cell? ⟨w.heap.size + 1, 1, none⟩ = some (.int .i64 0) := (cell_keep hb (by simp [go_sem])); have hz := hb.size; obtain ⟨hc, hf⟩ := bcell hb))
    have h0 := H0.out
    refine bodyPost_ret (v := .tuple #[.agg #[.int .i64 (moved size rate m.lo m.hi / 1000000), .int .i64 (-((-moved size rate m.lo m.hi) / 1000000))], .int .i64 0]) (by simp [results, Try.results29, go_sem, k2, k3]) rfl ⟨by simp [atLo, atHi, atE, h0], ?_⟩
    exact ((((((Below.refl _ _).alloc (Nat.le_refl _) _).alloc (by simp) _).alloc (by simp; omega) _).trans (hb.mono (by simp; omega))).setCell (by simp) _).setCell (by simp) _
  · have h0' : (moveErr size rate [m.lo, m.hi] != 0) = true := by simp [h0]
    have H0 := Lib.hid h0
    clear h0
    go_enter Try.func29, Try.ntmps29
    go_wp2_with (go_at_call 75; refine (checkMove_any _ _ _ [m.lo, m.hi] _ _ _ rfl (intsV_new2 _ _ _ _ _ (by simp)) (by simp)).mono ?_; rintro e w' ⟨rfl, rfl⟩)
    have h0 := H0.out
    exact bodyPost_ret (v := .tuple #[.agg #[.int .i64 0, .int .i64 0], .int .i64 (moveErr size rate [m.lo, m.hi])]) (by simp [results, Try.results29, go_sem]) rfl ⟨by simp [atLo, atHi, atE, h0], (((Below.refl _ _).alloc (Nat.le_refl _) _).alloc (by simp) _).alloc (by simp; omega) _⟩

set_option maxRecDepth 100000 in
set_option maxHeartbeats 1000000 in
theorem refOver_any (size rate from_ : Int) (m : Interval) (w : World) (s1 : 0 ≤ size) (s2 : size ≤ 600000) (h1 : 0 ≤ rate) (h2 : rate ≤ 2000) (h3 : 0 ≤ m.lo) (h4 : m.lo ≤ m.hi) (h6 : m.hi ≤ 400) (h7 : 0 ≤ from_) (h8 : from_ ≤ 400) :
    Calls Try.prog 27 #[.int .i64 size, .int .i64 rate, .int .i64 from_, .agg #[.int .i64 m.lo, .int .i64 m.hi]] w fun e w' => e = .returned (.agg #[.int .i64 (moved size rate from_ m.lo / 1000000), .int .i64 (-((-moved size rate from_ m.hi) / 1000000))]) ∧ Below w.heap.size w w' := by
  go_enter Try.func27, Try.ntmps27
  go_wp2_with fail
  refine gen_world (fun W => W.cell? ⟨w.heap.size, 0, none⟩ = some (.int .i64 m.lo) ∧ W.cell? ⟨w.heap.size, 1, none⟩ = some (.int .i64 m.hi) ∧ W.cell? ⟨w.heap.size + 1, 0, none⟩ = some (.int .i64 0) ∧ W.cell? ⟨w.heap.size + 1, 1, none⟩ = some (.int .i64 0) ∧
    W.frozen? ⟨w.heap.size + 1, 0, none⟩ = false ∧ W.frozen? ⟨w.heap.size + 1, 1, none⟩ = false ∧ Below w.heap.size w W) ?_ ?_
  · exact ⟨by simp [go_sem], by simp [go_sem], by simp [go_sem], by simp [go_sem], by simp [go_sem], by simp [go_sem], ((Below.refl _ _).alloc (Nat.le_refl _) _).alloc (by simp) _⟩
  rintro W ⟨e0, e1, e2, e3, f2, f3, hbW⟩
  have hlW : w.heap.size + 1 < W.heap.size := block_lt_of_cell e2
  go_quiet ((go_at_call 78; exact quiet_left (millionths_any _ _ _ _ _ s1 s2 h1 h2 h3 (by omega) h7 h8)))
  rename_i nq
  go_wp2_with fail
  have hbW2 := below_drewN hbW nq
  go_loop [9, 10, 11] (fun lo hi k => ∃ j : Int, m.lo ≤ j ∧ j ≤ m.hi + 1 ∧ k = .int .i64 j ∧ lo = .int .i64 (moved size rate from_ m.lo) ∧ ∃ h : Int, hi = .int .i64 h ∧ Hid (h = moved size rate from_ (if j ≤ m.lo then m.lo else j - 1))) (fun _ _ k => (m.hi + 1 - intOf k).toNat)
  case atStart => exact ⟨m.lo, Int.le_refl _, by omega, rfl, rfl, _, rfl, Lib.hid (by simp)⟩
  case round =>
    obtain ⟨j, j1, j2, rfl, rfl, h, rfl, HH⟩ := hrel
    have q0 := moved_range s1 s2 h1 h2 h3 (by omega) h7 h8
    by_cases hlt : j ≤ m.hi
    · have q1 : moved size rate from_ m.lo ≤ moved size rate from_ j := moved_mono s1 h1 j1
      have q2 : h ≤ moved size rate from_ j := by
        rw [HH.out]
        split
        · exact q1
        · exact moved_mono s1 h1 (by omega)
      go_wp2_with (go_at_call 78; refine (millionths_any _ _ _ _ _ s1 s2 h1 h2 (by omega) (by omega) h7 h8).mono ?_; rintro e w' ⟨rfl, rfl⟩)
      have hn : ¬ (j + 1 ≤ m.lo) := by omega
      have hn1 : j + 1 - 1 = j := by omega
      all_goals
        go_round
        case rel => exact ⟨j + 1, by omega, by omega, by go_num, by first | rfl | (congr 1; omega), _, rfl, Lib.hid (by rw [if_neg hn]; first | rfl | (rw [hn1]; done) | (rw [hn1]; omega) | omega)⟩
        case measure => simp [intOf]; omega
    · have hj : j = m.hi + 1 := by omega
      have HE := Lib.hid (show h = moved size rate from_ m.hi by rw [HH.out, if_neg (by omega), show j - 1 = m.hi by omega])
      have q1 : 0 ≤ h ∧ h ≤ 936000000000 := by rw [HE.out]; exact moved_range s1 s2 h1 h2 (by omega) (by omega) h7 h8
      clear hj
      go_wp2_with (go_at_call 79; refine (round_any _ _ _ (by omega) (by omega) (by omega) (by omega)).mono ?_; rintro e w1 ⟨rfl, hb⟩; have k2 : w1.cell? ⟨w.heap.size + 1, 0, none⟩ = some (.int .i64 0) := (cell_keep hb (by simpa using e2)); have k3 : w1.cell? ⟨w.heap.size + 1, 1, none⟩ = some (.int .i64 0) := (cell_keep hb (by simpa using e3)); have k4 : w1.frozen? ⟨w.heap.size + 1, 0, none⟩ = false := (frozen_keep hb (by simpa using hlW) (by simpa using f2)); have k5 : w1.frozen? ⟨w.heap.size + 1, 1, none⟩ = false := (frozen_keep hb (by simpa using hlW) (by simpa using f3)); have hz := hb.size; obtain ⟨hc, hf⟩ := bcell hb)
      refine bodyPost_ret (v := .agg #[.int .i64 (moved size rate from_ m.lo / 1000000), .int .i64 (-((-h) / 1000000))]) (by simp [results, Try.results27, go_sem, k2, k3]) rfl ⟨by rw [HE.out], ?_⟩
      exact (((hbW2.trans (hb.mono hbW2.size))).setCell (by simp) _).setCell (by simp) _
theorem moveErr_two {size rate : Int} {l l' : List Int} (h : moveErr size rate l = 0) (h' : ∀ m ∈ l', 0 ≤ m ∧ m ≤ 400) : moveErr size rate l' = 0 := by
  obtain ⟨⟨s1, s2⟩, ⟨r1, r2⟩, hms⟩ := moveErr_ok h
  unfold moveErr
  rw [if_neg]
  simp only [not_or, Classical.not_not]
  exact ⟨by simp [withinB]; omega, by simp [withinB]; omega, fun m hm => by have := h' m hm; simp [withinB]; omega⟩
theorem over_is (size rate from_ : Int) (m : Interval) (w : World) {a b c : Int} (ha : overLo size rate from_ m.lo m.hi = a) (hb : overHi size rate from_ m.lo m.hi = b) (hc : overE size rate from_ m.lo m.hi = c) :
    Calls Try.prog 25 #[.int .i64 size, .int .i64 rate, .int .i64 from_, .agg #[.int .i64 m.lo, .int .i64 m.hi]] w fun e w' => e = .returned (.tuple #[.agg #[.int .i64 a, .int .i64 b], .int .i64 c]) ∧ Below w.heap.size w w' := by
  subst ha hb hc; exact over_any size rate from_ m w
theorem timberAt_is (size rate : Int) (m : Interval) (w : World) {a b c : Int} (ha : atLo size rate m.lo m.hi = a) (hb : atHi size rate m.lo m.hi = b) (hc : atE size rate m.lo m.hi = c) :
    Calls Try.prog 29 #[.int .i64 size, .int .i64 rate, .agg #[.int .i64 m.lo, .int .i64 m.hi]] w fun e w' => e = .returned (.tuple #[.agg #[.int .i64 a, .int .i64 b], .int .i64 c]) ∧ Below w.heap.size w w' := by
  subst ha hb hc; exact timberAt_any size rate m w
theorem refMoveErr_is (size rate : Int) (a : Option Addr) (l : List Int) (n c : Nat) (w : World) {v : Int} (h : moveErr size rate l = v) (hn : n = l.length) (hv : IntsV w a l) (hl : l.length ≤ 9223372036854775807) :
    Calls Try.prog 26 #[.int .i64 size, .int .i64 rate, .slice a n c] w fun e w' => e = .returned (.int .i64 v) ∧ w = w' := by
  subst h; exact refMoveErr_any size rate a l n c w hn hv hl
end Go.Proofs.Ythhchnhidhgccaa
