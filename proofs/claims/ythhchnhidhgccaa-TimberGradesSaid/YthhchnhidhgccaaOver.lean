/- What Over of the program returns: an interval, or an error. -/
import Derived.Test.YthhchnhidhgccaaArith
import Derived.Deep.RegionHeld3
set_option linter.unusedVariables false
set_option linter.unusedSimpArgs false
namespace Go.Proofs.Ythhchnhidhgccaa
open Go Go.RowKit

theorem interval_any (lo hi : Int) (w : World) (h1 : 0 ≤ lo) (h2 : lo ≤ 1000000000000) (h3 : 0 ≤ hi) (h4 : hi ≤ 1000000000000) :
    Calls Try.prog 76 #[.int .i64 lo, .int .i64 hi] w fun e w' => e = .returned (.agg #[.int .i64 (lo / 1000000), .int .i64 (-((-hi) / 1000000))]) ∧ Below w.heap.size w w' := by
  go_enter Try.func76, Try.ntmps76
  go_wp2_with (first
    | (go_at_call 96; refine (timberFloor_any _ _ _ (by omega) (by omega) (by omega)).mono ?_; rintro e w' ⟨rfl, rfl⟩)
    | (go_at_call 110; refine (timberCeil_any _ _ _ (by omega) (by omega) (by omega)).mono ?_; rintro e w' ⟨rfl, rfl⟩))
  exact bodyPost_ret (v := .agg #[.int .i64 (lo / 1000000), .int .i64 (-((-hi) / 1000000))]) (by simp [results, Try.results76, go_sem]) rfl ⟨rfl, (Below.refl _ _).alloc (Nat.le_refl _) _⟩

theorem round_any (lo hi : Int) (w : World) (h1 : 0 ≤ lo) (h2 : lo ≤ 1000000000000) (h3 : 0 ≤ hi) (h4 : hi ≤ 1000000000000) :
    Calls Try.prog 79 #[.int .i64 lo, .int .i64 hi] w fun e w' => e = .returned (.agg #[.int .i64 (lo / 1000000), .int .i64 (-((-hi) / 1000000))]) ∧ Below w.heap.size w w' := by
  go_enter Try.func79, Try.ntmps79
  go_wp2_with (first
    | (go_at_call 97; refine (baseFloor_any _ _ _ (by omega) (by omega) (by omega) (by omega)).mono ?_; rintro e w' ⟨rfl, rfl⟩)
    | (go_at_call 111; refine (baseCeil_any _ _ _ (by omega) (by omega) (by omega) (by omega)).mono ?_; rintro e w' ⟨rfl, rfl⟩))
  exact bodyPost_ret (v := .agg #[.int .i64 (lo / 1000000), .int .i64 (-((-hi) / 1000000))]) (by simp [results, Try.results79, go_sem]) rfl ⟨rfl, (Below.refl _ _).alloc (Nat.le_refl _) _⟩

/-- A slice of numbers, in whatever memory. -/
def IntsV (w : World) (a : Option Addr) (l : List Int) : Prop := l ≠ [] → ∃ b off, a = some ⟨b, off, none⟩ ∧ ∀ k x, l[k]? = some x → w.cell? ⟨b, off + k, none⟩ = some (.int .i64 x)
theorem IntsV.at_ {w : World} {a : Option Addr} {l : List Int} (h : IntsV w a l) {k : Nat} (hk : k < l.length) : ∃ b off, a = some ⟨b, off, none⟩ ∧ w.cell? ⟨b, off + k, none⟩ = some (.int .i64 l[k]) := by
  obtain ⟨b, off, ha, hx⟩ := h (by intro e; subst e; simp at hk)
  exact ⟨b, off, ha, hx k _ (List.getElem?_eq_getElem hk)⟩
theorem IntsV.keep {w w' : World} {a : Option Addr} {l : List Int} (h : IntsV w a l) (hb : Below w.heap.size w w') : IntsV w' a l :=
  fun hl => let ⟨b, off, ha, hx⟩ := h hl; ⟨b, off, ha, fun k x hk => cell_keep hb (hx k x hk)⟩

def moveErr (size rate : Int) (ms : List Int) : Int := if withinB size 0 600000 = false ∨ withinB rate 0 2000 = false ∨ ¬ (∀ m ∈ ms, withinB m 0 400 = true) then 2 else 0
theorem moist_step {l : List Int} {k : Nat} (h : ∀ j (hj : j < l.length), j < k → withinB l[j] 0 400 = true) (hk : k < l.length) (hp : withinB l[k] 0 400 = true) : ∀ j (hj : j < l.length), j < k + 1 → withinB l[j] 0 400 = true := by
  intro j hj hlt
  rcases Nat.lt_succ_iff_lt_or_eq.1 hlt with h' | rfl
  · exact h j hj h'
  · exact hp

set_option maxHeartbeats 1000000 in
theorem checkMove_any (size rate : Int) (a : Option Addr) (l : List Int) (n c : Nat) (w : World) (hn : n = l.length) (hv : IntsV w a l) (hl : l.length ≤ 9223372036854775807) :
    Calls Try.prog 75 #[.int .i64 size, .int .i64 rate, .slice a n c] w fun e w' => e = .returned (.int .i64 (moveErr size rate l)) ∧ w = w' := by
  subst hn
  cases h1 : withinB size 0 600000
  · go_enter Try.func75, Try.ntmps75
    go_wp2_with (go_at_call 83; refine (within_any _ _ _ _).mono ?_; rintro e w' ⟨rfl, rfl⟩)
    go_ret
    exact ⟨ret_int (by go_tidy; simp [moveErr, *]), rfl⟩
  cases h2 : withinB rate 0 2000
  · go_enter Try.func75, Try.ntmps75
    go_wp2_with (go_at_call 83; refine (within_any _ _ _ _).mono ?_; rintro e w' ⟨rfl, rfl⟩)
    go_ret
    exact ⟨ret_int (by go_tidy; simp [moveErr, *]), rfl⟩
  have HM := Lib.hid (show (∀ m ∈ l, withinB m 0 400 = true) → moveErr size rate l = 0 by intro h; simp [moveErr, h1, h2]; exact h)
  have HM2 := Lib.hid (show (¬ ∀ m ∈ l, withinB m 0 400 = true) → moveErr size rate l = 2 by intro h; unfold moveErr; rw [if_pos (.inr (.inr h))])
  go_enter Try.func75, Try.ntmps75
  go_wp2_with (go_at_call 83; refine (within_any _ _ _ _).mono ?_; rintro e w' ⟨rfl, rfl⟩)
  go_loop [19] (fun i => ∃ k : Nat, k ≤ l.length ∧ i = .int .i64 k ∧ Hid (∀ j (hj : j < l.length), j < k → withinB l[j] 0 400 = true)) (fun i => l.length - (intOf i).toNat)
  case atStart => exact ⟨0, Nat.zero_le _, rfl, Lib.hid (fun j _ h => by omega)⟩
  case round =>
    obtain ⟨k, hk, rfl, HK⟩ := hrel
    by_cases hlt : k < l.length
    · obtain ⟨b, off, rfl, c0⟩ := hv.at_ hlt
      cases hq : withinB l[k] 0 400
      · go_wp2_with (go_at_call 83; refine (within_any _ _ _ _).mono ?_; rintro e w' ⟨rfl, rfl⟩)
        go_ret
        exact ⟨ret_int (HM2.out (fun h => by have := h _ (List.getElem_mem hlt); rw [hq] at this; cases this)).symm, rfl⟩
      · go_wp2_with (go_at_call 83; refine (within_any _ _ _ _).mono ?_; rintro e w' ⟨rfl, rfl⟩)
        go_round
        case rel => exact ⟨k + 1, by omega, by go_num, Lib.hid (moist_step HK.out hlt hq)⟩
        case measure => simp [intOf]; omega
    · have hm := Lib.hid (HM.out (fun m hm => by obtain ⟨j, hj, rfl⟩ := List.mem_iff_getElem.1 hm; exact HK.out j hj (by omega)))
      clear HK
      go_wp2_with fail
      go_ret
      exact ⟨ret_int hm.out.symm, rfl⟩

def overE (size rate from_ lo hi : Int) : Int := if moveErr size rate [from_, lo, hi] ≠ 0 then moveErr size rate [from_, lo, hi] else if hi < lo then 9 else 0
def overLo (size rate from_ lo hi : Int) : Int := if overE size rate from_ lo hi ≠ 0 then 0 else moved size rate from_ lo / 1000000
def overHi (size rate from_ lo hi : Int) : Int := if overE size rate from_ lo hi ≠ 0 then 0 else -((-moved size rate from_ hi) / 1000000)

theorem gen_world {P : Program} {c : Code} {Q : Exit → Act → World → Prop} {a : Act} {w : World} (R : World → Prop) (h : R w) (k : ∀ W, R W → c.wp P Q a W) : c.wp P Q a w := k w h
theorem frozen_keep {w w' : World} {p : Addr} {b : Bool} (hb : Below w.heap.size w w') (hp : p.block < w.heap.size) (h : w.frozen? p = b) : w'.frozen? p = b := (hb.frozen hp).trans h
theorem intsV_new3 (w : World) (t g : Nat) (a b c : Int) (hg : g = w.heap.size) : IntsV (w.alloc (.cells #[.int .i64 a, .int .i64 b, .int .i64 c] t)) (some ⟨g, 0, none⟩) [a, b, c] := by
  subst hg
  refine fun _ => ⟨_, 0, rfl, fun k x hk => ?_⟩
  match k, hk with
  | 0, hk => simp at hk; subst hk; simp
  | 1, hk => simp at hk; subst hk; simp
  | 2, hk => simp at hk; subst hk; simp
  | k + 3, hk => simp at hk
theorem intsV_new2 (w : World) (t g : Nat) (a b : Int) (hg : g = w.heap.size) : IntsV (w.alloc (.cells #[.int .i64 a, .int .i64 b] t)) (some ⟨g, 0, none⟩) [a, b] := by
  subst hg
  refine fun _ => ⟨_, 0, rfl, fun k x hk => ?_⟩
  match k, hk with
  | 0, hk => simp at hk; subst hk; simp
  | 1, hk => simp at hk; subst hk; simp
  | k + 2, hk => simp at hk
theorem withinB_true {n lo hi : Int} (h : withinB n lo hi = true) : lo ≤ n ∧ n ≤ hi := by simpa [withinB] using h
theorem moveErr_ok {size rate : Int} {ms : List Int} (h : moveErr size rate ms = 0) : (0 ≤ size ∧ size ≤ 600000) ∧ (0 ≤ rate ∧ rate ≤ 2000) ∧ ∀ m ∈ ms, 0 ≤ m ∧ m ≤ 400 := by
  unfold moveErr at h
  split at h
  · cases h
  · rename_i hh
    refine ⟨withinB_true (by cases hq : withinB size 0 600000 <;> simp_all), withinB_true (by cases hq : withinB rate 0 2000 <;> simp_all), fun m hm => withinB_true ?_⟩
    have := fun hx => hh (.inr (.inr hx))
    exact Classical.not_not.1 this m hm

set_option maxHeartbeats 1000000 in
theorem over_any (size rate from_ : Int) (m : Interval) (w : World) :
    Calls Try.prog 25 #[.int .i64 size, .int .i64 rate, .int .i64 from_, .agg #[.int .i64 m.lo, .int .i64 m.hi]] w fun e w' => e = .returned (.tuple #[.agg #[.int .i64 (overLo size rate from_ m.lo m.hi), .int .i64 (overHi size rate from_ m.lo m.hi)], .int .i64 (overE size rate from_ m.lo m.hi)]) ∧ Below w.heap.size w w' := by
  by_cases h0 : moveErr size rate [from_, m.lo, m.hi] = 0
  · obtain ⟨⟨s1, s2⟩, ⟨r1, r2⟩, hms⟩ := moveErr_ok h0
    have hm1 := hms from_ (by simp)
    have hm2 := hms m.lo (by simp)
    have hm3 := hms m.hi (by simp)
    clear hms
    have h0' : (moveErr size rate [from_, m.lo, m.hi] != 0) = false := by simp [h0]
    have H0 := Lib.hid h0
    clear h0
    by_cases hlt : m.hi < m.lo
    · go_enter Try.func25, Try.ntmps25
      go_wp2_with (go_at_call 75; refine (checkMove_any _ _ _ [from_, m.lo, m.hi] _ _ _ rfl (intsV_new3 _ _ _ _ _ _ (by simp)) (by simp)).mono ?_; rintro e w' ⟨rfl, rfl⟩)
      have h0 := H0.out
      exact bodyPost_ret (v := .tuple #[.agg #[.int .i64 0, .int .i64 0], .int .i64 9]) (by simp [results, Try.results25, go_sem]) rfl ⟨by simp [overLo, overHi, overE, h0, hlt], (((Below.refl _ _).alloc (Nat.le_refl _) _).alloc (by simp) _).alloc (by simp; omega) _⟩
    · have hr1 := moved_range s1 s2 r1 r2 hm2.1 hm2.2 hm1.1 hm1.2
      have hr2 := moved_range s1 s2 r1 r2 hm3.1 hm3.2 hm1.1 hm1.2
      go_enter Try.func25, Try.ntmps25
      go_wp2_with (go_at_call 75; refine (checkMove_any _ _ _ [from_, m.lo, m.hi] _ _ _ rfl (intsV_new3 _ _ _ _ _ _ (by simp)) (by simp)).mono ?_; rintro e w' ⟨rfl, rfl⟩)
      refine gen_world (fun W => W.cell? ⟨w.heap.size, 0, none⟩ = some (.int .i64 m.lo) ∧ W.cell? ⟨w.heap.size, 1, none⟩ = some (.int .i64 m.hi) ∧ W.cell? ⟨w.heap.size + 1, 0, none⟩ = some (.int .i64 0) ∧ W.cell? ⟨w.heap.size + 1, 1, none⟩ = some (.int .i64 0) ∧
        W.frozen? ⟨w.heap.size + 1, 0, none⟩ = false ∧ W.frozen? ⟨w.heap.size + 1, 1, none⟩ = false ∧ Below w.heap.size w W)
        ?_ ?_
      · exact ⟨by simp [go_sem], by simp [go_sem], by simp [go_sem], by simp [go_sem], by simp [go_sem], by simp [go_sem], (((Below.refl _ _).alloc (Nat.le_refl _) _).alloc (by simp) _).alloc (by simp; omega) _⟩
      rintro W ⟨e0, e1, e2, e3, f2, f3, hbW⟩
      have hlW : w.heap.size + 1 < W.heap.size := block_lt_of_cell e2
      have hlW0 : w.heap.size < W.heap.size := by omega
      go_region_held3 (fun w' => w'.cell? ⟨w.heap.size, 0, none⟩ = some (.int .i64 m.lo) ∧ w'.cell? ⟨w.heap.size, 1, none⟩ = some (.int .i64 m.hi)) (go_keep)
        (first
          | (go_at_call 77; refine (timberMoved_any _ _ _ _ _ (by omega) (by omega) (by omega) (by omega) (by omega) (by omega) (by omega) (by omega)).mono ?_; rintro e w' ⟨rfl, rfl⟩)
          | (go_at_call 76; refine (interval_any _ _ _ (by omega) (by omega) (by omega) (by omega)).mono ?_; rintro e w2 ⟨rfl, hb2⟩; have k0 := cell_keep hb2 e0; have k1 := cell_keep hb2 e1; have k2 := cell_keep hb2 e2; have k3 := cell_keep hb2 e3; have k4 := frozen_keep hb2 hlW f2; have k5 := frozen_keep hb2 hlW f3))
      go_wp2
      have h0 := H0.out
      refine bodyPost_ret (v := .tuple #[.agg #[.int .i64 (moved size rate from_ m.lo / 1000000), .int .i64 (-((-moved size rate from_ m.hi) / 1000000))], .int .i64 0]) (by simp [results, Try.results25, go_sem, k2, k3]) rfl ⟨by simp [overLo, overHi, overE, h0, hlt], ?_⟩
      exact ((hbW.drew.trans (hb2.mono hbW.size)).setCell (by simp) _).setCell (by simp) _
  · have h0' : (moveErr size rate [from_, m.lo, m.hi] != 0) = true := by simp [h0]
    have H0 := Lib.hid h0
    clear h0
    go_enter Try.func25, Try.ntmps25
    go_wp2_with (go_at_call 75; refine (checkMove_any _ _ _ [from_, m.lo, m.hi] _ _ _ rfl (intsV_new3 _ _ _ _ _ _ (by simp)) (by simp)).mono ?_; rintro e w' ⟨rfl, rfl⟩)
    have h0 := H0.out
    exact bodyPost_ret (v := .tuple #[.agg #[.int .i64 0, .int .i64 0], .int .i64 (moveErr size rate [from_, m.lo, m.hi])]) (by simp [results, Try.results25, go_sem]) rfl ⟨by simp [overLo, overHi, overE, h0], (((Below.refl _ _).alloc (Nat.le_refl _) _).alloc (by simp) _).alloc (by simp; omega) _⟩
end Go.Proofs.Ythhchnhidhgccaa
