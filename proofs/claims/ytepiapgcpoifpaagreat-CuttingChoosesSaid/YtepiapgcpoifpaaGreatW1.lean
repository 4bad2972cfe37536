/- Weights of fractions: gcd, lowest, weight, Weight; Gcd, Lowest and Weight of the reference. -/
import Derived.Test.YtepiapgcpoifpaaGreatC8c
set_option linter.unusedVariables false
set_option linter.unusedSimpArgs false
namespace Go.Proofs.YtepiapgcpoifpaaGreat
open Go Go.RowKit

theorem tmod_nat (a b : Nat) : (a : Int).tmod (b : Int) = ((a % b : Nat) : Int) := (Int.ofNat_tmod a b).symm
theorem tdiv_nat (a b : Nat) : (a : Int).tdiv (b : Int) = ((a / b : Nat) : Int) := (Int.ofNat_tdiv a b).symm

theorem baseAbs_nn (n : Nat) (w : World) (h : n ≤ 1000000000000) : Calls Tryz.prog 142 #[.int .i64 (n : Int)] w fun e w' => e = .returned (.int .i64 (n : Int)) ∧ w = w' := by
  go_enter Tryz.func142, Tryz.ntmps142
  go_wp2
  go_ret
  exact ⟨rfl, rfl⟩

set_option maxHeartbeats 1000000 in
theorem cgcd_any (n d : Nat) (w : World) (h1 : n ≤ 1000000000000) (h3 : d ≤ 1000000000000) :
    Calls Tryz.prog 102 #[.int .i64 (n : Int), .int .i64 (d : Int)] w fun e w' => e = .returned (.int .i64 ((Nat.gcd n d : Nat) : Int)) ∧ Below w.heap.size w w' := by
  go_enter Tryz.func102, Tryz.ntmps102
  go_wp2_with fail
  go_loopw [0, 1] (fun x y wr => ∃ a b : Nat, x = .int .i64 (a : Int) ∧ y = .int .i64 (b : Int) ∧ a ≤ 1000000000000 ∧ b ≤ 1000000000000 ∧ Hid (Nat.gcd n d = Nat.gcd a b) ∧ Below w.heap.size w wr) (fun _ y _ => (intOf y).toNat)
  case atStart => exact ⟨n, d, rfl, rfl, h1, h3, Lib.hid rfl, Below.refl _ _⟩
  case round =>
    obtain ⟨a, b, rfl, rfl, ha, hb, HG, hbw⟩ := hrel
    by_cases h0 : b = 0
    · subst h0
      have HE := Lib.hid (show Nat.gcd n d = a by rw [HG.out, Nat.gcd_zero_right])
      clear HG
      go_wp2_with fail
      go_ret
      exact ⟨ret_int (by rw [HE.out]), hbw⟩
    · have hpos : 1 ≤ b := by omega
      have hlt := Nat.mod_lt a (show b > 0 by omega)
      have HS := Lib.hid (show Nat.gcd n d = Nat.gcd b (a % b) by rw [HG.out, Nat.gcd_comm, Nat.gcd_rec, Nat.gcd_comm])
      have HR := Lib.hid (show ((a % b : Nat) : Int) = (a : Int) % (b : Int) by omega)
      clear HG
      go_wp2_with fail
      go_quiet (fail)
      go_wp2_with fail
      go_roundw
      case rel => exact ⟨b, a % b, rfl, by rw [HR.out], by omega, by omega, HS, below_drewN hbw _⟩
      case measure =>
        have := HR.out
        simp only [intOf]
        omega
set_option maxHeartbeats 1000000 in
theorem baseGcd_any (n d : Nat) (w : World) (h1 : n ≤ 1000000000000) (h3 : d ≤ 1000000000000) :
    Calls Tryz.prog 112 #[.int .i64 (n : Int), .int .i64 (d : Int)] w fun e w' => e = .returned (.int .i64 ((Nat.gcd n d : Nat) : Int)) ∧ Below w.heap.size w w' := by
  go_enter Tryz.func112, Tryz.ntmps112
  go_wp2_with (first
    | (go_at_call 142; (with_reducible refine (baseAbs_nn _ _ (by omega)).mono ?_); rintro e w' ⟨rfl, rfl⟩))
  go_loopw [0, 1] (fun x y wr => ∃ a b : Nat, x = .int .i64 (a : Int) ∧ y = .int .i64 (b : Int) ∧ a ≤ 1000000000000 ∧ b ≤ 1000000000000 ∧ Hid (Nat.gcd n d = Nat.gcd a b) ∧ Below w.heap.size w wr) (fun _ y _ => (intOf y).toNat)
  case atStart => exact ⟨n, d, rfl, rfl, h1, h3, Lib.hid rfl, Below.refl _ _⟩
  case round =>
    obtain ⟨a, b, rfl, rfl, ha, hb, HG, hbw⟩ := hrel
    by_cases h0 : b = 0
    · subst h0
      have HE := Lib.hid (show Nat.gcd n d = a by rw [HG.out, Nat.gcd_zero_right])
      clear HG
      go_wp2_with fail
      go_ret
      exact ⟨ret_int (by rw [HE.out]), hbw⟩
    · have hpos : 1 ≤ b := by omega
      have hlt := Nat.mod_lt a (show b > 0 by omega)
      have HS := Lib.hid (show Nat.gcd n d = Nat.gcd b (a % b) by rw [HG.out, Nat.gcd_comm, Nat.gcd_rec, Nat.gcd_comm])
      have HR := Lib.hid (show ((a % b : Nat) : Int) = (a : Int) % (b : Int) by omega)
      clear HG
      go_wp2_with fail
      go_quiet (fail)
      go_wp2_with fail
      go_roundw
      case rel => exact ⟨b, a % b, rfl, by rw [HR.out], by omega, by omega, HS, below_drewN hbw _⟩
      case measure =>
        have := HR.out
        simp only [intOf]
        omega

/-- A fraction in lowest terms. -/
def lowNum (n d : Nat) : Int := ((n / Nat.gcd n d : Nat) : Int)
def lowDen (n d : Nat) : Int := ((d / Nat.gcd n d : Nat) : Int)
theorem gcd_bds {n d : Nat} (h2 : 1 ≤ d) : 1 ≤ Nat.gcd n d ∧ Nat.gcd n d ≤ d := ⟨Nat.gcd_pos_of_pos_right _ h2, Nat.gcd_le_right _ h2⟩
theorem low_bds {n d : Nat} (h1 : n ≤ 1000000000000) (h3 : d ≤ 1000000000000) : (0 ≤ lowNum n d ∧ lowNum n d ≤ 1000000000000) ∧ (0 ≤ lowDen n d ∧ lowDen n d ≤ 1000000000000) := by
  have a := Nat.div_le_self n (Nat.gcd n d)
  have b := Nat.div_le_self d (Nat.gcd n d)
  unfold lowNum lowDen
  generalize n / Nat.gcd n d = p at *
  generalize d / Nat.gcd n d = q at *
  omega
set_option maxHeartbeats 1000000 in
theorem lowest_any (n d : Nat) (w : World) (h1 : n ≤ 1000000000000) (h2 : 1 ≤ d) (h3 : d ≤ 1000000000000) :
    Calls Tryz.prog 67 #[.int .i64 (n : Int), .int .i64 (d : Int)] w fun e w' => e = .returned (.agg #[.int .i64 (lowNum n d), .int .i64 (lowDen n d)]) ∧ Below w.heap.size w w' := by
  obtain ⟨g1, g2⟩ := gcd_bds (n := n) h2
  have e1 : (n : Int) / ((Nat.gcd n d : Nat) : Int) = lowNum n d := (Int.natCast_ediv _ _).symm
  have e2 : (d : Int) / ((Nat.gcd n d : Nat) : Int) = lowDen n d := (Int.natCast_ediv _ _).symm
  obtain ⟨b1, b2⟩ := low_bds h1 h3
  generalize lowNum n d = Q1 at *
  generalize lowDen n d = Q2 at *
  have HQ1 := Lib.hid e1
  have HQ2 := Lib.hid e2
  clear e1 e2
  go_enter Tryz.func67, Tryz.ntmps67
  go_wp2_with (go_at_call 112; refine (baseGcd_any n d _ h1 h3).mono ?_; rintro e w1 ⟨rfl, hb⟩; have k2 : w1.cell? ⟨w.heap.size, 0, none⟩ = some (.int .i64 0) := (cell_keep hb (by simp [go_sem])); have k3 : w1.cell? ⟨w.heap.size, 1, none⟩ = some (.int .i64 0) := (cell_keep hb (by simp [go_sem])); have hz := hb.size; obtain ⟨hc, hf⟩ := bcell hb)
  generalize hG : Nat.gcd n d = G at *
  have HG := Lib.hid hG
  clear hG
  have hg0 : ¬ G = 0 := by omega
  have hg1 : ¬ ((G : Int) = 0) := by omega
  have hg2 : (1 : Int) ≤ (G : Int) := by omega
  have hw1 : IntKind.i64.wrap Q1 = Q1 := IntWalk.i64_in _ (by omega)
  have hw2 : IntKind.i64.wrap Q2 = Q2 := IntWalk.i64_in _ (by omega)
  have hw3 : (n : Int) / (G : Int) = Q1 := HQ1.out
  have hw4 : (d : Int) / (G : Int) = Q2 := HQ2.out
  have hz0 := block_lt_of_cell k2
  simp only at hz0
  go_region_held3 (fun w' => True) (trivial) (fail)
  all_goals
    go_wp2_with fail
    refine bodyPost_ret (v := .agg #[.int .i64 Q1, .int .i64 Q2]) (by simp [results, Tryz.results67, go_sem, k2, k3]) rfl ⟨rfl, ?_⟩
    exact ((((((Below.refl _ _).alloc (Nat.le_refl _) _).trans (hb.mono (by simp)))).setCell (by simp) _).setCell (by simp) _).drew
set_option maxHeartbeats 1000000 in
theorem clowest_any (n d : Nat) (w : World) (h1 : n ≤ 1000000000000) (h2 : 1 ≤ d) (h3 : d ≤ 1000000000000) :
    Calls Tryz.prog 59 #[.int .i64 (n : Int), .int .i64 (d : Int)] w fun e w' => e = .returned (.agg #[.int .i64 (lowNum n d), .int .i64 (lowDen n d)]) ∧ Below w.heap.size w w' := by
  obtain ⟨g1, g2⟩ := gcd_bds (n := n) h2
  have e1 : (n : Int) / ((Nat.gcd n d : Nat) : Int) = lowNum n d := (Int.natCast_ediv _ _).symm
  have e2 : (d : Int) / ((Nat.gcd n d : Nat) : Int) = lowDen n d := (Int.natCast_ediv _ _).symm
  obtain ⟨b1, b2⟩ := low_bds h1 h3
  generalize lowNum n d = Q1 at *
  generalize lowDen n d = Q2 at *
  have HQ1 := Lib.hid e1
  have HQ2 := Lib.hid e2
  clear e1 e2
  go_enter Tryz.func59, Tryz.ntmps59
  go_wp2_with (go_at_call 102; refine (cgcd_any n d _ h1 h3).mono ?_; rintro e w1 ⟨rfl, hb⟩; have k2 : w1.cell? ⟨w.heap.size, 0, none⟩ = some (.int .i64 0) := (cell_keep hb (by simp [go_sem])); have k3 : w1.cell? ⟨w.heap.size, 1, none⟩ = some (.int .i64 0) := (cell_keep hb (by simp [go_sem])); have hz := hb.size; obtain ⟨hc, hf⟩ := bcell hb)
  generalize hG : Nat.gcd n d = G at *
  have HG := Lib.hid hG
  clear hG
  have hg0 : ¬ G = 0 := by omega
  have hg1 : ¬ ((G : Int) = 0) := by omega
  have hg2 : (1 : Int) ≤ (G : Int) := by omega
  have hw1 : IntKind.i64.wrap Q1 = Q1 := IntWalk.i64_in _ (by omega)
  have hw2 : IntKind.i64.wrap Q2 = Q2 := IntWalk.i64_in _ (by omega)
  have hw3 : (n : Int) / (G : Int) = Q1 := HQ1.out
  have hw4 : (d : Int) / (G : Int) = Q2 := HQ2.out
  have hz0 := block_lt_of_cell k2
  simp only at hz0
  go_region_held3 (fun w' => True) (trivial) (fail)
  all_goals
    go_wp2_with fail
    refine bodyPost_ret (v := .agg #[.int .i64 Q1, .int .i64 Q2]) (by simp [results, Tryz.results59, go_sem, k2, k3]) rfl ⟨rfl, ?_⟩
    exact ((((((Below.refl _ _).alloc (Nat.le_refl _) _).trans (hb.mono (by simp)))).setCell (by simp) _).setCell (by simp) _).drew

/-- A weight, before it is in lowest terms. -/
def wtN (k num den : Nat) : Nat := if 0 < k ∧ (k + 1) * num % den ≠ 0 then (k + 1) * num / den else num
def wtD (k num den : Nat) : Nat := if 0 < k ∧ (k + 1) * num % den ≠ 0 then k else den
theorem wt_bds {k num den : Nat} (hk : k ≤ 20) (h1 : 1 ≤ den) (h2 : den ≤ 1000000) (h3 : num ≤ den) : wtN k num den ≤ wtD k num den ∧ 1 ≤ wtD k num den ∧ wtD k num den ≤ 1000000 := by
  unfold wtN wtD
  split
  · rename_i h
    have h4 : (k + 1) * num ≤ (k + 1) * den := Nat.mul_le_mul_left _ h3
    have h5 : (k + 1) * num / den ≤ k + 1 := Nat.div_le_of_le_mul (by rwa [Nat.mul_comm den])
    have h6 : (k + 1) * num / den ≠ k + 1 := by
      intro e
      have h7 := Nat.div_add_mod ((k + 1) * num) den
      rw [e, Nat.mul_comm den] at h7
      omega
    omega
  · omega
/-- The weights of a fraction and of the rest of 1. -/
theorem wt_sum {k num den : Nat} (h1 : 1 ≤ den) (h3 : num ≤ den) : wtD k (den - num) den = wtD k num den ∧ wtN k num den + wtN k (den - num) den = wtD k num den := by
  have e : (k + 1) * num + (k + 1) * (den - num) = (k + 1) * den := by rw [← Nat.mul_add]; congr 1; omega
  have hd : (k + 1) * (den - num) % den = 0 ↔ (k + 1) * num % den = 0 := by
    have h0 : ((k + 1) * num + (k + 1) * (den - num)) % den = 0 := by rw [e]; exact Nat.mul_mod_left _ _
    constructor
    · intro h
      rw [Nat.add_mod, h, Nat.add_zero, Nat.mod_mod] at h0; exact h0
    · intro h
      rw [Nat.add_mod, h, Nat.zero_add, Nat.mod_mod] at h0; exact h0
  unfold wtN wtD
  by_cases h : 0 < k ∧ (k + 1) * num % den ≠ 0
  · have h' : 0 < k ∧ (k + 1) * (den - num) % den ≠ 0 := ⟨h.1, fun q => h.2 (hd.1 q)⟩
    rw [if_pos h, if_pos h', if_pos h, if_pos h']
    refine ⟨rfl, ?_⟩
    have a1 := Nat.div_add_mod ((k + 1) * num) den
    have a2 := Nat.div_add_mod ((k + 1) * (den - num)) den
    have m1 := Nat.mod_lt ((k + 1) * num) h1
    have m2 := Nat.mod_lt ((k + 1) * (den - num)) h1
    have n1 := h.2
    have n2 := h'.2
    generalize (k + 1) * num / den = p at *
    generalize (k + 1) * (den - num) / den = q at *
    generalize (k + 1) * num % den = r at *
    generalize (k + 1) * (den - num) % den = s at *
    have hs : den * (p + q) + (r + s) = den * (k + 1) := by rw [Nat.mul_add, Nat.mul_comm den (k + 1)]; omega
    have l1 : p + q < k + 1 := by
      rcases Nat.lt_or_ge (p + q) (k + 1) with h | h
      · exact h
      · have := Nat.mul_le_mul_left den h; omega
    have l2 : k - 1 < p + q := by
      rcases Nat.lt_or_ge (k - 1) (p + q) with h | h
      · exact h
      · have h5 := Nat.mul_le_mul_left den h
        have h6 : den * (k - 1) + (den + den) = den * (k + 1) := by rw [← Nat.two_mul den, Nat.mul_comm 2 den, ← Nat.mul_add]; congr 1; omega
        omega
    omega
  · have h' : ¬ (0 < k ∧ (k + 1) * (den - num) % den ≠ 0) := fun q => h ⟨q.1, fun e => q.2 (hd.2 e)⟩
    rw [if_neg h, if_neg h', if_neg h, if_neg h']
    omega
def wNum (k num den : Nat) : Int := lowNum (wtN k num den) (wtD k num den)
def wDen (k num den : Nat) : Int := lowDen (wtN k num den) (wtD k num den)
theorem low_cross {a b c d : Nat} (hb : 1 ≤ b) (hd : 1 ≤ d) (h : a * d + c * b ≤ b * d) : lowNum a b * lowDen c d + lowNum c d * lowDen a b ≤ lowDen a b * lowDen c d := by
  obtain ⟨g1, _⟩ := gcd_bds (n := a) hb
  obtain ⟨g2, _⟩ := gcd_bds (n := c) hd
  obtain ⟨p, hp⟩ := Nat.gcd_dvd_left a b
  obtain ⟨q, hq⟩ := Nat.gcd_dvd_right a b
  obtain ⟨r, hr⟩ := Nat.gcd_dvd_left c d
  obtain ⟨s, hs⟩ := Nat.gcd_dvd_right c d
  have e1 : a / Nat.gcd a b = p := by conv => lhs; lhs; rw [hp]
                                      exact Nat.mul_div_cancel_left _ g1
  have e2 : b / Nat.gcd a b = q := by conv => lhs; lhs; rw [hq]
                                      exact Nat.mul_div_cancel_left _ g1
  have e3 : c / Nat.gcd c d = r := by conv => lhs; lhs; rw [hr]
                                      exact Nat.mul_div_cancel_left _ g2
  have e4 : d / Nat.gcd c d = s := by conv => lhs; lhs; rw [hs]
                                      exact Nat.mul_div_cancel_left _ g2
  unfold lowNum lowDen
  rw [e1, e2, e3, e4]
  generalize Nat.gcd a b = g at *
  generalize Nat.gcd c d = t at *
  have h' : (g * t) * (p * s + r * q) ≤ (g * t) * (q * s) := by
    have x1 : (g * t) * (p * s + r * q) = a * d + c * b := by rw [hp, hq, hr, hs, Nat.mul_add]; congr 1 <;> ac_rfl
    have x2 : (g * t) * (q * s) = b * d := by rw [hq, hs]; ac_rfl
    rw [x1, x2]; exact h
  have h5 := Nat.le_of_mul_le_mul_left h' (Nat.mul_pos g1 g2)
  have h6 : ((p * s + r * q : Nat) : Int) ≤ ((q * s : Nat) : Int) := by omega
  simpa using h6
theorem w_cross {k num den : Nat} (hk : k ≤ 20) (h1 : 1 ≤ den) (h2 : den ≤ 1000000) (h3 : num ≤ den) :
    wNum k num den * wDen k (den - num) den + wNum k (den - num) den * wDen k num den ≤ wDen k num den * wDen k (den - num) den := by
  obtain ⟨s1, s2⟩ := wt_sum (k := k) h1 h3
  obtain ⟨_, b2, _⟩ := wt_bds hk h1 h2 h3
  unfold wNum wDen
  rw [s1]
  refine low_cross b2 b2 ?_
  rw [← Nat.add_mul, s2]
  exact Nat.le_refl _

set_option maxHeartbeats 1000000 in
theorem cweight_any (k num den : Nat) (w : World) (hk : k ≤ 20) (h1 : 1 ≤ den) (h2 : den ≤ 1000000) (h3 : num ≤ den) :
    Calls Tryz.prog 58 #[.int .i64 (k : Int), .int .i64 (num : Int), .int .i64 (den : Int)] w fun e w' => e = .returned (.agg #[.int .i64 (wNum k num den), .int .i64 (wDen k num den)]) ∧ Below w.heap.size w w' := by
  obtain ⟨q1, q2, q3⟩ := wt_bds hk h1 h2 h3
  have h4 : (k + 1) * num ≤ 21 * 1000000 := Nat.mul_le_mul (by omega) (by omega)
  obtain ⟨N, hN⟩ : ∃ N, N = (k + 1) * num := ⟨_, rfl⟩
  have hp : ((k : Int) + 1) * (num : Int) = (N : Int) := by rw [hN, Int.natCast_mul]; rfl
  rw [← hN] at h4
  have v0 : IntKind.i64.wrap ((k : Int) + 1) = (k : Int) + 1 := IntWalk.i64_in _ (by omega)
  have v1 : IntKind.i64.wrap (N : Int) = (N : Int) := IntWalk.i64_in _ (by omega)
  by_cases hc : 0 < k ∧ N % den ≠ 0
  · obtain ⟨Q, hQ⟩ : ∃ Q, Q = N / den := ⟨_, rfl⟩
    have HN := Lib.hid (show wNum k num den = lowNum Q k ∧ wDen k num den = lowDen Q k by rw [hQ]; rw [hN] at hc ⊢; unfold wNum wDen wtN wtD; rw [if_pos hc, if_pos hc]; exact ⟨rfl, rfl⟩)
    have hq : Q ≤ 1000000000000 := by rw [hQ]; exact Nat.le_trans (Nat.div_le_self _ _) (by omega)
    have hk0 : 0 < (k : Int) := by omega
    have hr : ¬ ((N : Int) % (den : Int) = 0) := by have := hc.2; omega
    have hk1 : (k : Int) > 0 := hk0
    have hd : (N : Int) / (den : Int) = (Q : Int) := by rw [hQ]; exact (Int.natCast_ediv _ _).symm
    have v2 : IntKind.i64.wrap (Q : Int) = (Q : Int) := IntWalk.i64_in _ (by omega)
    have hkp := hc.1
    clear hN hc hQ
    go_enter Tryz.func58, Tryz.ntmps58
    go_wp2_with (go_at_call 59; refine (clowest_any Q k _ hq hkp (by omega)).mono ?_; rintro e w1 ⟨rfl, hb⟩; have k2 : w1.cell? ⟨w.heap.size, 0, none⟩ = some (.int .i64 0) := (cell_keep hb (by simp [go_sem])); have k3 : w1.cell? ⟨w.heap.size, 1, none⟩ = some (.int .i64 0) := (cell_keep hb (by simp [go_sem])); have hz := hb.size; obtain ⟨hc, hf⟩ := bcell hb)
    exact bodyPost_ret (v := .agg #[.int .i64 (wNum k num den), .int .i64 (wDen k num den)]) (by simp [results, Tryz.results58, go_sem, HN.out.1, HN.out.2, k2, k3]) rfl ⟨rfl, by repeat (first | exact ((Below.refl _ _).alloc (Nat.le_refl _) _).trans (hb.mono (by simp)) | (refine Below.setCell ?_ (by simp) _))⟩
  · have HN := Lib.hid (show wNum k num den = lowNum num den ∧ wDen k num den = lowDen num den by rw [hN] at hc; unfold wNum wDen wtN wtD; rw [if_neg hc, if_neg hc]; exact ⟨rfl, rfl⟩)
    by_cases hk0 : 0 < k
    · have hr : (N : Int) % (den : Int) = 0 := by
        have : N % den = 0 := by
          rcases Nat.eq_zero_or_pos (N % den) with h | h
          · exact h
          · exact absurd ⟨hk0, by omega⟩ hc
        omega
      have hk1 : (k : Int) > 0 := by omega
      have hk2 : 0 < (k : Int) := hk1
      clear hN hc
      go_enter Tryz.func58, Tryz.ntmps58
      go_wp2_with (go_at_call 59; refine (clowest_any num den _ (by omega) h1 (by omega)).mono ?_; rintro e w1 ⟨rfl, hb⟩; have k2 : w1.cell? ⟨w.heap.size, 0, none⟩ = some (.int .i64 0) := (cell_keep hb (by simp [go_sem])); have k3 : w1.cell? ⟨w.heap.size, 1, none⟩ = some (.int .i64 0) := (cell_keep hb (by simp [go_sem])); have hz := hb.size; obtain ⟨hc, hf⟩ := bcell hb)
      exact bodyPost_ret (v := .agg #[.int .i64 (wNum k num den), .int .i64 (wDen k num den)]) (by simp [results, Tryz.results58, go_sem, HN.out.1, HN.out.2, k2, k3]) rfl ⟨rfl, by repeat (first | exact ((Below.refl _ _).alloc (Nat.le_refl _) _).trans (hb.mono (by simp)) | (refine Below.setCell ?_ (by simp) _))⟩
    · have hk1 : ¬ (k : Int) > 0 := by omega
      have hk2 : ¬ 0 < (k : Int) := hk1
      clear hN hc
      go_enter Tryz.func58, Tryz.ntmps58
      go_wp2_with (go_at_call 59; refine (clowest_any num den _ (by omega) h1 (by omega)).mono ?_; rintro e w1 ⟨rfl, hb⟩; have k2 : w1.cell? ⟨w.heap.size, 0, none⟩ = some (.int .i64 0) := (cell_keep hb (by simp [go_sem])); have k3 : w1.cell? ⟨w.heap.size, 1, none⟩ = some (.int .i64 0) := (cell_keep hb (by simp [go_sem])); have hz := hb.size; obtain ⟨hc, hf⟩ := bcell hb)
      exact bodyPost_ret (v := .agg #[.int .i64 (wNum k num den), .int .i64 (wDen k num den)]) (by simp [results, Tryz.results58, go_sem, HN.out.1, HN.out.2, k2, k3]) rfl ⟨rfl, by repeat (first | exact ((Below.refl _ _).alloc (Nat.le_refl _) _).trans (hb.mono (by simp)) | (refine Below.setCell ?_ (by simp) _))⟩
end Go.Proofs.YtepiapgcpoifpaaGreat
