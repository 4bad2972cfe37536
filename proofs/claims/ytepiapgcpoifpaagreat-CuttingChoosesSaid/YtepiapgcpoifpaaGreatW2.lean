/- Weight of the program and of the reference. -/
import Derived.Test.YtepiapgcpoifpaaGreatW1
set_option linter.unusedVariables false
set_option linter.unusedSimpArgs false
namespace Go.Proofs.YtepiapgcpoifpaaGreat
open Go Go.RowKit

theorem beq_f {a b : Int} (h : ¬ a = b) : (a == b) = false := by simpa using h
theorem beq_t {a b : Int} (h : a = b) : (a == b) = true := by simpa using h
set_option maxRecDepth 100000 in
set_option maxHeartbeats 1000000 in
theorem refWeight_any (k num den : Nat) (w : World) (hk : k ≤ 20) (h1 : 1 ≤ den) (h2 : den ≤ 1000000) (h3 : num ≤ den) :
    Calls Tryz.prog 66 #[.int .i64 (k : Int), .int .i64 (num : Int), .int .i64 (den : Int)] w fun e w' => e = .returned (.agg #[.int .i64 (wNum k num den), .int .i64 (wDen k num den)]) ∧ Below w.heap.size w w' := by
  obtain ⟨q1, q2, q3⟩ := wt_bds hk h1 h2 h3
  have h4 : (k + 1) * num ≤ 21 * 1000000 := Nat.mul_le_mul (by omega) (by omega)
  obtain ⟨N, hN⟩ : ∃ N, N = (k + 1) * num := ⟨_, rfl⟩
  have hp : ((k : Int) + 1) * (num : Int) = (N : Int) := by rw [hN, Int.natCast_mul]; rfl
  rw [← hN] at h4
  have v0 : IntKind.i64.wrap ((k : Int) + 1) = (k : Int) + 1 := IntWalk.i64_in _ (by omega)
  have v1 : IntKind.i64.wrap (N : Int) = (N : Int) := IntWalk.i64_in _ (by omega)
  by_cases hc : 0 < k ∧ N % den ≠ 0
  · obtain ⟨Q, hQ⟩ : ∃ Q, Q = N / den := ⟨_, rfl⟩
    have HN := Lib.hid (show wNum k num den = lowNum Q k ∧ wDen k num den = lowDen Q k by rw [hQ]; rw [hN] at hc ⊢; unfold wNum wDen wtN wtD; rw [if_pos hc, if_pos hc]; exact ⟨rfl, rfl⟩)
    have hq : Q ≤ 1000000000000 := by rw [hQ]; exact Nat.le_trans (Nat.div_le_self _ _) (by omega)
    have hk0 : ¬ (k : Int) = 0 := by omega
    have hk00 : ¬ k = 0 := by omega
    have hr : ((N : Int) % (den : Int) == 0) = false := beq_f (by have := hc.2; omega)
    have hkb : ((k : Int) == 0) = false := beq_f hk0
    have hd : (N : Int) / (den : Int) = (Q : Int) := by rw [hQ]; exact (Int.natCast_ediv _ _).symm
    have v2 : IntKind.i64.wrap (Q : Int) = (Q : Int) := IntWalk.i64_in _ (by omega)
    have hkp := hc.1
    clear hN hc hQ
    go_enter Tryz.func66, Tryz.ntmps66
    go_wp2_with (go_at_call 67; refine (lowest_any Q k _ hq hkp (by omega)).mono ?_; rintro e w1 ⟨rfl, hb⟩; have k2 : w1.cell? ⟨w.heap.size, 0, none⟩ = some (.int .i64 0) := (cell_keep hb (by simp [go_sem])); have k3 : w1.cell? ⟨w.heap.size, 1, none⟩ = some (.int .i64 0) := (cell_keep hb (by simp [go_sem])); have hz := hb.size; obtain ⟨hc, hf⟩ := bcell hb)
    exact bodyPost_ret (v := .agg #[.int .i64 (wNum k num den), .int .i64 (wDen k num den)]) (by simp [results, Tryz.results66, go_sem, HN.out.1, HN.out.2, k2, k3]) rfl ⟨rfl, by repeat (first | exact ((Below.refl _ _).alloc (Nat.le_refl _) _).trans (hb.mono (by simp)) | (refine Below.setCell ?_ (by simp) _))⟩
  · have HN := Lib.hid (show wNum k num den = lowNum num den ∧ wDen k num den = lowDen num den by rw [hN] at hc; unfold wNum wDen wtN wtD; rw [if_neg hc, if_neg hc]; exact ⟨rfl, rfl⟩)
    by_cases hk0 : 0 < k
    · have hr : ((N : Int) % (den : Int) == 0) = true := by
        have : N % den = 0 := by
          rcases Nat.eq_zero_or_pos (N % den) with h | h
          · exact h
          · exact absurd ⟨hk0, by omega⟩ hc
        exact beq_t (by omega)
      have hkb : ((k : Int) == 0) = false := beq_f (by omega)
      have hk1 : ¬ (k : Int) = 0 := by omega
      have hk2 : ¬ k = 0 := by omega
      clear hN hc
      go_enter Tryz.func66, Tryz.ntmps66
      go_wp2_with (go_at_call 67; refine (lowest_any num den _ (by omega) h1 (by omega)).mono ?_; rintro e w1 ⟨rfl, hb⟩; have k2 : w1.cell? ⟨w.heap.size, 0, none⟩ = some (.int .i64 0) := (cell_keep hb (by simp [go_sem])); have k3 : w1.cell? ⟨w.heap.size, 1, none⟩ = some (.int .i64 0) := (cell_keep hb (by simp [go_sem])); have hz := hb.size; obtain ⟨hc, hf⟩ := bcell hb)
      exact bodyPost_ret (v := .agg #[.int .i64 (wNum k num den), .int .i64 (wDen k num den)]) (by simp [results, Tryz.results66, go_sem, HN.out.1, HN.out.2, k2, k3]) rfl ⟨rfl, by repeat (first | exact ((Below.refl _ _).alloc (Nat.le_refl _) _).trans (hb.mono (by simp)) | (refine Below.setCell ?_ (by simp) _))⟩
    · obtain rfl : k = 0 := by omega
      clear hN hc v0 v1 hp
      go_enter Tryz.func66, Tryz.ntmps66
      go_wp2_with (go_at_call 67; refine (lowest_any num den _ (by omega) h1 (by omega)).mono ?_; rintro e w1 ⟨rfl, hb⟩; have k2 : w1.cell? ⟨w.heap.size, 0, none⟩ = some (.int .i64 0) := (cell_keep hb (by simp [go_sem])); have k3 : w1.cell? ⟨w.heap.size, 1, none⟩ = some (.int .i64 0) := (cell_keep hb (by simp [go_sem])); have hz := hb.size; obtain ⟨hc, hf⟩ := bcell hb)
      exact bodyPost_ret (v := .agg #[.int .i64 (wNum 0 num den), .int .i64 (wDen 0 num den)]) (by simp [results, Tryz.results66, go_sem, HN.out.1, HN.out.2, k2, k3]) rfl ⟨rfl, by repeat (first | exact ((Below.refl _ _).alloc (Nat.le_refl _) _).trans (hb.mono (by simp)) | (refine Below.setCell ?_ (by simp) _))⟩

theorem withinB_in {n lo hi : Int} (h : lo ≤ n ∧ n ≤ hi) : withinB n lo hi = true := by unfold withinB; simp [h.1, h.2]
theorem withinB_out {n lo hi : Int} (h : ¬ (lo ≤ n ∧ n ≤ hi)) : withinB n lo hi = false := by
  unfold withinB
  rw [Bool.eq_false_iff]
  simp only [ne_eq, Bool.and_eq_true, decide_eq_true_eq]
  exact h
theorem cwithin_is (n lo hi : Int) (w : World) {q : Bool} (hq : withinB n lo hi = q) : Calls Tryz.prog 56 #[.int .i64 n, .int .i64 lo, .int .i64 hi] w fun e w' => e = .returned (.bool q) ∧ w = w' := by subst hq; exact cwithin_any n lo hi w
theorem baseWithin_is (n lo hi : Int) (w : World) {q : Bool} (hq : withinB n lo hi = q) : Calls Tryz.prog 36 #[.int .i64 n, .int .i64 lo, .int .i64 hi] w fun e w' => e = .returned (.bool q) ∧ w = w' := by subst hq; exact baseWithin_any n lo hi w
set_option maxRecDepth 100000 in
set_option maxHeartbeats 1000000 in
theorem weightP_ok (k num den : Nat) (w : World) (hk : k ≤ 20) (h1 : 1 ≤ den) (h2 : den ≤ 1000000) (h3 : num ≤ den) :
    Calls Tryz.prog 40 #[.int .i64 (k : Int), .int .i64 (num : Int), .int .i64 (den : Int)] w fun e w' => e = .returned (.tuple #[.agg #[.int .i64 (wNum k num den), .int .i64 (wDen k num den)], .int .i64 0]) ∧ Below w.heap.size w w' := by
  go_enter Tryz.func40, Tryz.ntmps40
  go_wp2_with (first
    | (go_at_call 56; refine (cwithin_is _ _ _ _ (withinB_in (by omega))).mono ?_; rintro e w' ⟨rfl, rfl⟩)
    | (go_at_call 58; refine (cweight_any k num den _ hk h1 h2 h3).mono ?_; rintro e w1 ⟨rfl, hb⟩; have k2 : w1.cell? ⟨w.heap.size, 0, none⟩ = some (.int .i64 0) := (cell_keep hb (by simp [go_sem])); have k3 : w1.cell? ⟨w.heap.size, 1, none⟩ = some (.int .i64 0) := (cell_keep hb (by simp [go_sem])); have hz := hb.size; obtain ⟨hc, hf⟩ := bcell hb))
  exact bodyPost_ret (v := .tuple #[.agg #[.int .i64 (wNum k num den), .int .i64 (wDen k num den)], .int .i64 0]) (by simp [results, Tryz.results40, go_sem, k2, k3]) rfl ⟨rfl, by repeat (first | exact ((Below.refl _ _).alloc (Nat.le_refl _) _).trans (hb.mono (by simp)) | (refine Below.setCell ?_ (by simp) _))⟩
set_option maxRecDepth 100000 in
set_option maxHeartbeats 1000000 in
theorem weightP_bad (k num den : Int) (w : World) (h : ¬ (withinB k 0 20 = true ∧ withinB den 1 1000000 = true ∧ withinB num 0 den = true)) :
    Calls Tryz.prog 40 #[.int .i64 k, .int .i64 num, .int .i64 den] w fun e w' => e = .returned (.tuple #[.agg #[.int .i64 0, .int .i64 0], .int .i64 2]) ∧ Below w.heap.size w w' := by
  cases hb1 : withinB k 0 20
  · go_enter Tryz.func40, Tryz.ntmps40
    go_wp2_with (go_at_call 56; refine (cwithin_is _ _ _ _ (by first | exact hb1 | exact hb2 | exact hb3)).mono ?_; rintro e w' ⟨rfl, rfl⟩)
    exact bodyPost_ret (v := .tuple #[.agg #[.int .i64 0, .int .i64 0], .int .i64 2]) (by simp [results, Tryz.results40, go_sem]) rfl ⟨rfl, by repeat (first | exact ((Below.refl _ _).alloc (Nat.le_refl _) _) | (refine Below.setCell ?_ (by simp) _))⟩
  · cases hb2 : withinB den 1 1000000
    · go_enter Tryz.func40, Tryz.ntmps40
      go_wp2_with (go_at_call 56; refine (cwithin_is _ _ _ _ (by first | exact hb1 | exact hb2 | exact hb3)).mono ?_; rintro e w' ⟨rfl, rfl⟩)
      exact bodyPost_ret (v := .tuple #[.agg #[.int .i64 0, .int .i64 0], .int .i64 2]) (by simp [results, Tryz.results40, go_sem]) rfl ⟨rfl, by repeat (first | exact ((Below.refl _ _).alloc (Nat.le_refl _) _) | (refine Below.setCell ?_ (by simp) _))⟩
    · have hb3 : withinB num 0 den = false := by
        rw [Bool.eq_false_iff]; exact fun h3 => h ⟨hb1, hb2, h3⟩
      go_enter Tryz.func40, Tryz.ntmps40
      go_wp2_with (go_at_call 56; refine (cwithin_is _ _ _ _ (by first | exact hb1 | exact hb2 | exact hb3)).mono ?_; rintro e w' ⟨rfl, rfl⟩)
      exact bodyPost_ret (v := .tuple #[.agg #[.int .i64 0, .int .i64 0], .int .i64 2]) (by simp [results, Tryz.results40, go_sem]) rfl ⟨rfl, by repeat (first | exact ((Below.refl _ _).alloc (Nat.le_refl _) _) | (refine Below.setCell ?_ (by simp) _))⟩
end Go.Proofs.YtepiapgcpoifpaaGreat
