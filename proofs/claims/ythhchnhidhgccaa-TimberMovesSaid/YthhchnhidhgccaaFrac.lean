/- Fractions in lowest terms: what gcd, Gcd, Lowest and Exact return. -/
import Derived.Test.YthhchnhidhgccaaMove2
set_option linter.unusedVariables false
set_option linter.unusedSimpArgs false
namespace Go.Proofs.Ythhchnhidhgccaa
open Go Go.RowKit

theorem tmod_nat (a b : Nat) : (a : Int).tmod (b : Int) = ((a % b : Nat) : Int) := (Int.ofNat_tmod a b).symm
theorem tdiv_nat (a b : Nat) : (a : Int).tdiv (b : Int) = ((a / b : Nat) : Int) := (Int.ofNat_tdiv a b).symm

theorem baseAbs_nn (n : Nat) (w : World) (h : n ≤ 1000000000000) : Calls Try.prog 101 #[.int .i64 (n : Int)] w fun e w' => e = .returned (.int .i64 (n : Int)) ∧ w = w' := by
  go_enter Try.func101, Try.ntmps101
  go_wp2
  go_ret
  exact ⟨rfl, rfl⟩

set_option maxHeartbeats 1000000 in
theorem timberGcd_any (n d : Nat) (w : World) (h1 : n ≤ 1000000000000) (h2 : 1 ≤ d) (h3 : d ≤ 1000000000000) :
    Calls Try.prog 91 #[.int .i64 (n : Int), .int .i64 (d : Int)] w fun e w' => e = .returned (.int .i64 ((Nat.gcd n d : Nat) : Int)) ∧ w = w' := by
  go_enter Try.func91, Try.ntmps91
  go_wp2
  all_goals
    go_loop [0, 1] (fun x y => ∃ a b : Nat, x = .int .i64 (a : Int) ∧ y = .int .i64 (b : Int) ∧ a ≤ 1000000000000 ∧ b ≤ 1000000000000 ∧ Hid (Nat.gcd n d = Nat.gcd a b)) (fun x _ => (intOf x).toNat)
    case atStart => exact ⟨n, d, by first | rfl | (congr 1; omega), rfl, h1, h3, Lib.hid rfl⟩
    case round =>
      obtain ⟨a, b, rfl, rfl, ha, hb, HG⟩ := hrel
      by_cases h0 : a = 0
      · subst h0
        have HE := Lib.hid (show Nat.gcd n d = b by rw [HG.out, Nat.gcd_zero_left])
        clear HG
        go_wp2
        go_ret
        exact ⟨ret_int (by rw [HE.out]), rfl⟩
      · have hpos : 1 ≤ a := by omega
        have HR := Lib.hid (show ((b % a : Nat) : Int) = (b : Int) % (a : Int) by omega)
        have hlt := Nat.mod_lt b (show a > 0 by omega)
        have HS := Lib.hid (show Nat.gcd n d = Nat.gcd (b % a) a by rw [HG.out, Nat.gcd_rec])
        clear HG
        go_wp2
        go_round
        case rel => exact ⟨b % a, a, by rw [HR.out], rfl, by omega, by omega, HS⟩
        case measure =>
          have := HR.out
          simp only [intOf]
          omega

set_option maxHeartbeats 1000000 in
theorem baseGcd_any (n d : Nat) (w : World) (h1 : n ≤ 1000000000000) (h2 : 1 ≤ d) (h3 : d ≤ 1000000000000) :
    Calls Try.prog 117 #[.int .i64 (n : Int), .int .i64 (d : Int)] w fun e w' => e = .returned (.int .i64 ((Nat.gcd n d : Nat) : Int)) ∧ Below w.heap.size w w' := by
  go_enter Try.func117, Try.ntmps117
  go_wp2_with (first
    | (go_at_call 101; (with_reducible refine (baseAbs_nn _ _ (by omega)).mono ?_); rintro e w' ⟨rfl, rfl⟩))
  go_loopw [0, 1] (fun x y wr => ∃ a b : Nat, x = .int .i64 (a : Int) ∧ y = .int .i64 (b : Int) ∧ a ≤ 1000000000000 ∧ b ≤ 1000000000000 ∧ Hid (Nat.gcd n d = Nat.gcd a b) ∧ Below w.heap.size w wr) (fun _ y _ => (intOf y).toNat)
  case atStart => exact ⟨n, d, rfl, rfl, h1, h3, Lib.hid rfl, Below.refl _ _⟩
  case round =>
    obtain ⟨a, b, rfl, rfl, ha, hb, HG, hbw⟩ := hrel
    by_cases h0 : b = 0
    · subst h0
      have HE := Lib.hid (show Nat.gcd n d = a by rw [HG.out, Nat.gcd_zero_right])
      clear HG
      go_wp2_with fail
      go_ret
      exact ⟨ret_int (by rw [HE.out]), hbw⟩
    · have hpos : 1 ≤ b := by omega
      have hlt := Nat.mod_lt a (show b > 0 by omega)
      have HS := Lib.hid (show Nat.gcd n d = Nat.gcd b (a % b) by rw [HG.out, Nat.gcd_comm, Nat.gcd_rec, Nat.gcd_comm])
      have HR := Lib.hid (show ((a % b : Nat) : Int) = (a : Int) % (b : Int) by omega)
      clear HG
      go_wp2_with fail
      go_quiet (fail)
      go_wp2_with fail
      go_roundw
      case rel => exact ⟨b, a % b, rfl, by rw [HR.out], by omega, by omega, HS, below_drewN hbw _⟩
      case measure =>
        have := HR.out
        simp only [intOf]
        omega

/-- A fraction in lowest terms. -/
def lowNum (n d : Nat) : Int := ((n / Nat.gcd n d : Nat) : Int)
def lowDen (n d : Nat) : Int := ((d / Nat.gcd n d : Nat) : Int)
theorem gcd_bds {n d : Nat} (h2 : 1 ≤ d) : 1 ≤ Nat.gcd n d ∧ Nat.gcd n d ≤ d := ⟨Nat.gcd_pos_of_pos_right _ h2, Nat.gcd_le_right _ h2⟩

set_option maxHeartbeats 1000000 in
theorem lowest_any (n d : Nat) (w : World) (h1 : n ≤ 1000000000000) (h2 : 1 ≤ d) (h3 : d ≤ 1000000000000) :
    Calls Try.prog 92 #[.int .i64 (n : Int), .int .i64 (d : Int)] w fun e w' => e = .returned (.agg #[.int .i64 (lowNum n d), .int .i64 (lowDen n d)]) ∧ Below w.heap.size w w' := by
  obtain ⟨g1, g2⟩ := gcd_bds (n := n) h2
  have e1 : (n : Int) / ((Nat.gcd n d : Nat) : Int) = lowNum n d := (Int.natCast_ediv _ _).symm
  have e2 : (d : Int) / ((Nat.gcd n d : Nat) : Int) = lowDen n d := (Int.natCast_ediv _ _).symm
  have b1 : 0 ≤ lowNum n d ∧ lowNum n d ≤ 1000000000000 := by
    have := Nat.div_le_self n (Nat.gcd n d)
    unfold lowNum
    generalize n / Nat.gcd n d = q at *
    omega
  have b2 : 0 ≤ lowDen n d ∧ lowDen n d ≤ 1000000000000 := by
    have := Nat.div_le_self d (Nat.gcd n d)
    unfold lowDen
    generalize d / Nat.gcd n d = q at *
    omega
  generalize lowNum n d = Q1 at *
  generalize lowDen n d = Q2 at *
  have HQ1 := Lib.hid e1
  have HQ2 := Lib.hid e2
  clear e1 e2
  go_enter Try.func92, Try.ntmps92
  go_wp2_with (go_at_call 117; refine (baseGcd_any n d _ h1 h2 h3).mono ?_; rintro e w1 ⟨rfl, hb⟩; have k2 : w1.cell? ⟨w.heap.size, 0, none⟩ = some (.int .i64 0) := (cell_keep hb (by simp [go_sem])); have k3 : w1.cell? ⟨w.heap.size, 1, none⟩ = some (.int .i64 0) := (cell_keep hb (by simp [go_sem])); have hz := hb.size; obtain ⟨hc, hf⟩ := bcell hb)
  generalize hG : Nat.gcd n d = G at *
  have HG := Lib.hid hG
  clear hG
  have hg0 : ¬ G = 0 := by omega
  have hg1 : ¬ ((G : Int) = 0) := by omega
  have hg2 : (1 : Int) ≤ (G : Int) := by omega
  have hw1 : IntKind.i64.wrap Q1 = Q1 := IntWalk.i64_in _ (by omega)
  have hw2 : IntKind.i64.wrap Q2 = Q2 := IntWalk.i64_in _ (by omega)
  have hw3 : (n : Int) / (G : Int) = Q1 := HQ1.out
  have hw4 : (d : Int) / (G : Int) = Q2 := HQ2.out
  have hz0 := block_lt_of_cell k2
  simp only at hz0
  go_region_held3 (fun w' => True) (trivial) (fail)
  all_goals
    go_wp2_with fail
    refine bodyPost_ret (v := .agg #[.int .i64 Q1, .int .i64 Q2]) (by simp [results, Try.results92, go_sem, k2, k3]) rfl ⟨rfl, ?_⟩
    exact ((((((Below.refl _ _).alloc (Nat.le_refl _) _).trans (hb.mono (by simp)))).setCell (by simp) _).setCell (by simp) _).drew

set_option maxHeartbeats 1000000 in
theorem refExact_any (size rate : Int) (m : Interval) (w : World) (s1 : 0 ≤ size) (s2 : size ≤ 600000) (h1 : 0 ≤ rate) (h2 : rate ≤ 2000) (h3 : 0 ≤ m.lo) (h4 : m.lo ≤ 400) (h5 : 0 ≤ m.hi) (h6 : m.hi ≤ 400) :
    Calls Try.prog 47 #[.int .i64 size, .int .i64 rate, .agg #[.int .i64 m.lo, .int .i64 m.hi]] w fun e w' => e = .returned (.agg #[.int .i64 (lowNum (moved size rate m.lo m.hi).toNat 1000000), .int .i64 (lowDen (moved size rate m.lo m.hi).toNat 1000000)]) ∧ Below w.heap.size w w' := by
  obtain ⟨b1, b2⟩ := moved_range s1 s2 h1 h2 h5 h6 h3 h4
  obtain ⟨M, hM⟩ : ∃ M : Nat, moved size rate m.lo m.hi = M := ⟨(moved size rate m.lo m.hi).toNat, by omega⟩
  have HM := Lib.hid hM
  have HT := Lib.hid (show (moved size rate m.lo m.hi).toNat = M by omega)
  rw [HT.out]
  rw [hM] at b1 b2
  clear hM
  go_enter Try.func47, Try.ntmps47
  go_wp2_with (first
    | (go_at_call 78; refine (millionths_any _ _ _ _ _ s1 s2 h1 h2 h5 h6 h3 h4).mono ?_; rw [HM.out]; rintro e w' ⟨rfl, rfl⟩)
    | (go_at_call 92; refine (lowest_any M 1000000 _ (by omega) (by omega) (by omega)).mono ?_; rintro e w1 ⟨rfl, hb⟩; have k2 : w1.cell? ⟨w.heap.size + 1, 0, none⟩ = some (.int .i64 0) := (cell_keep hb (by simp [go_sem])); have k3 : w1.cell? ⟨w.heap.size + 1, 1, none⟩ = some (.int .i64 0) := (cell_keep hb (by simp [go_sem])); have hz := hb.size; obtain ⟨hc, hf⟩ := bcell hb))
  refine bodyPost_ret (v := .agg #[.int .i64 (lowNum M 1000000), .int .i64 (lowDen M 1000000)]) (by simp [results, Try.results47, go_sem, k2, k3]) rfl ⟨rfl, ?_⟩
  exact (((((Below.refl _ _).alloc (Nat.le_refl _) _).alloc (by simp) _).trans (hb.mono (by simp; omega))).setCell (by simp) _).setCell (by simp) _
end Go.Proofs.Ythhchnhidhgccaa
