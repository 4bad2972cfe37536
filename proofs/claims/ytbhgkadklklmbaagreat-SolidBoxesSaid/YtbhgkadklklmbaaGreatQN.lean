/- The document's greatest common divisor, and the lowest form of a plane. -/
import Derived.Test.YtbhgkadklklmbaaGreatQC
import Derived.Test.YtbhgkadklklmbaaGreatQE
import Derived.Test.YtbhgkadklklmbaaGreatQF
import Derived.Test.YtbhgkadklklmbaaGreatQA
import Derived.Test.YtbhgkadklklmbaaGreatQB
set_option linter.unusedVariables false
set_option linter.unusedSimpArgs false
namespace Go.Proofs.YtbhgkadklklmbaaGreat
open Go Go.RowKit Go.Sort Go.Lib

theorem absR_any (n : Int) (hn : -1000000000000 ≤ n ∧ n ≤ 1000000000000) (w : World) : Calls Tryz.prog 159 #[.int .i64 n] w fun e w' => e = .returned (.int .i64 ((n.natAbs : Nat) : Int)) ∧ w = w' := by
 by_cases h : n < 0
 ·have v0 : IntKind.i64.wrap (-n) = -n := IntWalk.i64_in _ (by omega)
  go_enter Tryz.func159, Tryz.ntmps159
  go_wp2_with fail
  go_ret
  exact ⟨ret_int (by omega), rfl⟩
 ·go_enter Tryz.func159, Tryz.ntmps159
  go_wp2_with fail
  go_ret
  exact ⟨ret_int (by omega), rfl⟩
set_option maxRecDepth 100000 in
set_option maxHeartbeats 2000000 in
theorem gcdR_any (a b : Int) (ha : -1000000000000 ≤ a ∧ a ≤ 1000000000000) (hb : -1000000000000 ≤ b ∧ b ≤ 1000000000000) (w : World) :
    Calls Tryz.prog 120 #[.int .i64 a, .int .i64 b] w fun e w' => e = .returned (.int .i64 ((Nat.gcd a.natAbs b.natAbs : Nat) : Int)) ∧ Below w.heap.size w w' := by
 have HA := Lib.hid (absR_any a ha)
 have HB := Lib.hid (absR_any b hb)
 have h1 : a.natAbs ≤ 1000000000000 := by omega
 have h2 : b.natAbs ≤ 1000000000000 := by omega
 clear ha hb
 obtain ⟨G, hG⟩ : ∃ G, G = Nat.gcd a.natAbs b.natAbs := ⟨_, rfl⟩
 have HG := Lib.hid hG
 rw [← hG]
 clear hG
 generalize a.natAbs = x at *
 generalize b.natAbs = y at *
 go_enter Tryz.func120, Tryz.ntmps120
 go_wp2_with (first
  | (have h := HA.out; clear HA; go_at_call 159; refine (h _).mono ?_; clear h; rintro e w1 ⟨rfl, rfl⟩)
  | (have h := HB.out; clear HB; go_at_call 159; refine (h _).mono ?_; clear h; rintro e w1 ⟨rfl, rfl⟩))
 go_loopw [0, 1] (fun xv yv wr => ∃ x y : Nat, xv = .int .i64 (x : Int) ∧ yv = .int .i64 (y : Int) ∧ x ≤ 1000000000000 ∧ y ≤ 1000000000000 ∧ Hid (G = Nat.gcd x y) ∧ Below w.heap.size w wr) (fun _ yv _ => (intOf yv).toNat)
 case atStart => exact ⟨x, y, rfl, rfl, h1, h2, HG, Below.refl _ _⟩
 case round =>
  obtain ⟨x, y, rfl, rfl, h1, h2, HG, hb⟩ := hrel
  have HB := Lib.hid hb
  clear hb
  by_cases h0 : y = 0
  ·subst h0
   have HE := Lib.hid (show G = x by rw [HG.out, Nat.gcd_zero_right])
   go_wp2_with fail
   go_ret
   exact ⟨ret_int (by rw [HE.out]), HB.out⟩
  ·have hpos : 1 ≤ y := by omega
   have hltm := Nat.mod_lt x (show y > 0 by omega)
   have HE := Lib.hid (show G = Nat.gcd y (x % y) by rw [HG.out, Nat.gcd_comm, Nat.gcd_rec, Nat.gcd_comm])
   have HR := Lib.hid (show ((x % y : Nat) : Int) = (x : Int) % (y : Int) by omega)
   clear HG
   go_wp2_with fail
   go_quiet (fail)
   go_wp2_with fail
   go_roundw
   case rel => exact ⟨y, x % y, rfl, by rw [HR.out], by omega, by omega, HE, below_drewN HB.out _⟩
   case measure =>
    have := HR.out
    simp only [intOf]
    omega
/-- The document's lowest form. -/
theorem gcd4 (a b c d : Int) : Nat.gcd (Nat.gcd a.natAbs b.natAbs) (Nat.gcd c.natAbs d.natAbs) = g4 a b c d := by rw [g4_eq, Nat.gcd_assoc, Nat.gcd_assoc, Nat.gcd_assoc]
end Go.Proofs.YtbhgkadklklmbaaGreat
