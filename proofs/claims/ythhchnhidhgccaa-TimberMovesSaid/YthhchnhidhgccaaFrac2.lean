/- What the program's Exact returns. -/
import Derived.Test.YthhchnhidhgccaaFrac
set_option linter.unusedVariables false
set_option linter.unusedSimpArgs false
namespace Go.Proofs.Ythhchnhidhgccaa
open Go Go.RowKit

def exNum (size rate from_ to_ : Int) : Int := if atE size rate from_ to_ ≠ 0 then 0 else lowNum (moved size rate from_ to_).toNat 1000000
def exDen (size rate from_ to_ : Int) : Int := if atE size rate from_ to_ ≠ 0 then 0 else lowDen (moved size rate from_ to_).toNat 1000000

set_option maxHeartbeats 1000000 in
theorem timberExact_any (size rate : Int) (m : Interval) (w : World) :
    Calls Try.prog 46 #[.int .i64 size, .int .i64 rate, .agg #[.int .i64 m.lo, .int .i64 m.hi]] w fun e w' => e = .returned (.tuple #[.agg #[.int .i64 (exNum size rate m.lo m.hi), .int .i64 (exDen size rate m.lo m.hi)], .int .i64 (atE size rate m.lo m.hi)]) ∧ Below w.heap.size w w' := by
  by_cases h0 : moveErr size rate [m.lo, m.hi] = 0
  · obtain ⟨⟨s1, s2⟩, ⟨r1, r2⟩, hms⟩ := moveErr_ok h0
    have hm2 := hms m.lo (by simp)
    have hm3 := hms m.hi (by simp)
    clear hms
    have h0' : (moveErr size rate [m.lo, m.hi] != 0) = false := by simp [h0]
    obtain ⟨b1, b2⟩ := moved_range s1 s2 r1 r2 hm3.1 hm3.2 hm2.1 hm2.2
    obtain ⟨M, hM⟩ : ∃ M : Nat, moved size rate m.lo m.hi = M := ⟨(moved size rate m.lo m.hi).toNat, by omega⟩
    have HM := Lib.hid hM
    have HE := Lib.hid (show exNum size rate m.lo m.hi = lowNum M 1000000 ∧ exDen size rate m.lo m.hi = lowDen M 1000000 ∧ atE size rate m.lo m.hi = 0 from ⟨by simp [exNum, atE, h0, hM], by simp [exDen, atE, h0, hM], h0⟩)
    have H0 := Lib.hid h0
    rw [hM] at b1 b2
    clear h0 hM
    obtain ⟨g1, g2⟩ := gcd_bds (n := M) (d := 1000000) (by omega)
    have e1 : (M : Int) / ((Nat.gcd M 1000000 : Nat) : Int) = lowNum M 1000000 := (Int.natCast_ediv _ _).symm
    have e2 : ((1000000 : Nat) : Int) / ((Nat.gcd M 1000000 : Nat) : Int) = lowDen M 1000000 := (Int.natCast_ediv _ _).symm
    have c1 : 0 ≤ lowNum M 1000000 ∧ lowNum M 1000000 ≤ 1000000000000 := by
      have := Nat.div_le_self M (Nat.gcd M 1000000)
      unfold lowNum
      generalize M / Nat.gcd M 1000000 = q at *
      omega
    have c2 : 0 ≤ lowDen M 1000000 ∧ lowDen M 1000000 ≤ 1000000000000 := by
      have := Nat.div_le_self 1000000 (Nat.gcd M 1000000)
      unfold lowDen
      generalize 1000000 / Nat.gcd M 1000000 = q at *
      omega
    generalize lowNum M 1000000 = Q1 at *
    generalize lowDen M 1000000 = Q2 at *
    have HQ1 := Lib.hid e1
    have HQ2 := Lib.hid e2
    clear e1 e2
    go_enter Try.func46, Try.ntmps46
    go_wp2_with (first
      | (go_at_call 75; refine (checkMove_any _ _ _ [m.lo, m.hi] _ _ _ rfl (intsV_new2 _ _ _ _ _ (by simp)) (by simp)).mono ?_; rintro e w' ⟨rfl, rfl⟩)
      | (go_at_call 77; refine (timberMoved_any _ _ _ _ _ s1 s2 r1 r2 hm3.1 hm3.2 hm2.1 hm2.2).mono ?_; rw [HM.out]; rintro e w' ⟨rfl, rfl⟩)
      | (go_at_call 91; refine (timberGcd_any M 1000000 _ (by omega) (by omega) (by omega)).mono ?_; rintro e w' ⟨rfl, rfl⟩))
    generalize hG : Nat.gcd M 1000000 = G at *
    have HG := Lib.hid hG
    clear hG
    have hg0 : ¬ G = 0 := by omega
    have hg1 : ¬ ((G : Int) = 0) := by omega
    have hg2 : (1 : Int) ≤ (G : Int) := by omega
    have hw1 : IntKind.i64.wrap Q1 = Q1 := IntWalk.i64_in _ (by omega)
    have hw2 : IntKind.i64.wrap Q2 = Q2 := IntWalk.i64_in _ (by omega)
    have hw3 : (M : Int) / (G : Int) = Q1 := HQ1.out
    have hw4 : (1000000 : Int) / (G : Int) = Q2 := HQ2.out
    have hw5 : (1000000 : Int).tdiv (G : Int) = Q2 := (tdiv_nat 1000000 G).trans ((Int.natCast_ediv _ _).trans HQ2.out)
    refine gen_world (fun W => W.cell? ⟨w.heap.size + 1, 0, none⟩ = some (.int .i64 0) ∧ W.cell? ⟨w.heap.size + 1, 1, none⟩ = some (.int .i64 0) ∧
        W.frozen? ⟨w.heap.size + 1, 0, none⟩ = false ∧ W.frozen? ⟨w.heap.size + 1, 1, none⟩ = false ∧ Below w.heap.size w W) ?_ ?_
    · exact ⟨by simp [go_sem], by simp [go_sem], by simp [go_sem], by simp [go_sem], (((Below.refl _ _).alloc (Nat.le_refl _) _).alloc (by simp) _).alloc (by simp; omega) _⟩
    rintro W ⟨k2, k3, f2, f3, hbW⟩
    have hz0 := block_lt_of_cell k2
    simp only at hz0
    go_region_held3 (fun w' => True) (trivial) (fail)
    all_goals
      go_wp2_with fail
      refine bodyPost_ret (v := .tuple #[.agg #[.int .i64 Q1, .int .i64 Q2], .int .i64 0]) (by simp [results, Try.results46, go_sem, k2, k3]) rfl ⟨by rw [HE.out.1, HE.out.2.1, HE.out.2.2], ?_⟩
      (repeat (first | assumption | (refine Below.setCell ?_ (by first | omega | (simp; omega) | (simp; done)) _) | (refine Below.alloc ?_ (by first | omega | (simp; omega) | (simp; done)) _)))
      try exact ((hbW.setCell (by simp) _).setCell (by simp) _).drew
  · have h0' : (moveErr size rate [m.lo, m.hi] != 0) = true := by simp [h0]
    have HE := Lib.hid (show exNum size rate m.lo m.hi = 0 ∧ exDen size rate m.lo m.hi = 0 ∧ atE size rate m.lo m.hi = moveErr size rate [m.lo, m.hi] from ⟨by simp [exNum, atE, h0], by simp [exDen, atE, h0], rfl⟩)
    clear h0
    go_enter Try.func46, Try.ntmps46
    go_wp2_with (go_at_call 75; refine (checkMove_any _ _ _ [m.lo, m.hi] _ _ _ rfl (intsV_new2 _ _ _ _ _ (by simp)) (by simp)).mono ?_; rintro e w' ⟨rfl, rfl⟩)
    exact bodyPost_ret (v := .tuple #[.agg #[.int .i64 0, .int .i64 0], .int .i64 (moveErr size rate [m.lo, m.hi])]) (by simp [results, Try.results46, go_sem]) rfl ⟨by rw [HE.out.1, HE.out.2.1, HE.out.2.2], (((Below.refl _ _).alloc (Nat.le_refl _) _).alloc (by simp) _).alloc (by simp; omega) _⟩
theorem timberExact_is (size rate : Int) (m : Interval) (w : World) {a b c : Int} (ha : exNum size rate m.lo m.hi = a) (hb : exDen size rate m.lo m.hi = b) (hc : atE size rate m.lo m.hi = c) :
    Calls Try.prog 46 #[.int .i64 size, .int .i64 rate, .agg #[.int .i64 m.lo, .int .i64 m.hi]] w fun e w' => e = .returned (.tuple #[.agg #[.int .i64 a, .int .i64 b], .int .i64 c]) ∧ Below w.heap.size w w' := by
  subst ha hb hc; exact timberExact_any size rate m w
end Go.Proofs.Ythhchnhidhgccaa
