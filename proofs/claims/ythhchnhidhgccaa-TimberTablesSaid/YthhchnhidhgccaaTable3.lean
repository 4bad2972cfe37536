/- Tables: what the program's Equilibrium and the reference's return. -/
import Derived.Test.YthhchnhidhgccaaTable2
set_option linter.unusedVariables false
set_option linter.unusedSimpArgs false
namespace Go.Proofs.Ythhchnhidhgccaa
open Go Go.RowKit

theorem eq1_any (k : Knot) (g : Nat) (h : Int) (w : World) (hg : w.cell? ⟨g, 0, none⟩ = some (.int .i64 h)) (hgl : g < w.heap.size) :
    Calls Try.prog 95 #[.agg #[.int .i64 k.at_, .int .i64 k.value], .pointer (some ⟨g, 0, none⟩)] w fun e w' => e = .returned (.bool (decide (h ≤ k.at_))) ∧ Below w.heap.size w w' := by
  go_enter Try.func95, Try.ntmps95
  go_wp2
  go_ret
  exact ⟨rfl, (Below.refl _ _).alloc (Nat.le_refl _) _⟩

set_option maxHeartbeats 1000000 in
theorem indexKnot_any (a : Option Addr) (l : List Knot) (c g : Nat) (h : Int) (w : World) (hv : Knots.V w a l) (hl : l.length ≤ 9223372036854775807) (hg : w.cell? ⟨g, 0, none⟩ = some (.int .i64 h)) (hgl : g < w.heap.size) :
    Calls Try.prog 94 #[.slice a l.length c, .func (.func 95) #[] #[.pointer (some ⟨g, 0, none⟩)]] w
      fun e w' => e = .returned (.int .i64 (idxOf (fun k => decide (h ≤ k.at_)) l)) ∧ Below w.heap.size w w' := by
  go_enter Try.func94, Try.ntmps94
  go_wp2
  go_loopw [8] (fun i wr => ∃ k : Nat, k ≤ l.length ∧ i = .int .i64 k ∧ Hid (∀ j (hj : j < l.length), j < k → decide (h ≤ l[j].at_) = false) ∧ Below w.heap.size w wr) (fun i _ => l.length - (intOf i).toNat)
  case atStart => exact ⟨0, Nat.zero_le _, rfl, Lib.hid (fun j _ h => by omega), Below.refl _ _⟩
  case round =>
    obtain ⟨k, hk, rfl, HK, hbw⟩ := hrel
    by_cases hlt : k < l.length
    · obtain ⟨b, off, rfl, hat⟩ := (hv.keep hbw).at_ hlt
      obtain ⟨c0, c1, -⟩ := hat
      have hgr := cell_keep hbw hg
      have hsz := hbw.size
      cases hq : decide (h ≤ l[k].at_)
      · have HQ := Lib.hid hq
        clear hq
        go_wp2_with (go_at_call 95; refine (eq1_any l[k] _ h _ hgr (by omega)).mono ?_; rw [HQ.out]; rintro e w1 ⟨rfl, hb⟩)
        go_round
        case rel => exact ⟨k + 1, by omega, by go_num, Lib.hid (none_step (p := fun k => decide (h ≤ k.at_)) HK.out hlt HQ.out), hbw.trans (hb.mono hsz)⟩
        case measure => simp [intOf]; omega
      · have HQ := Lib.hid hq
        clear hq
        go_wp2_with (go_at_call 95; refine (eq1_any l[k] _ h _ hgr (by omega)).mono ?_; rw [HQ.out]; rintro e w1 ⟨rfl, hb⟩)
        go_ret
        exact ⟨ret_int (idxOf_hit (p := fun k => decide (h ≤ k.at_)) hlt HK.out HQ.out).symm, hbw.trans (hb.mono hsz)⟩
    · have hm := Lib.hid (idxOf_miss (p := fun k => decide (h ≤ k.at_)) (l := l) (fun j hj => HK.out j hj (by omega)))
      clear HK
      go_wp2
      go_ret
      exact ⟨ret_int hm.out.symm, hbw⟩

theorem prod_bd {x y : Int} (h1 : -400 ≤ x) (h2 : x ≤ 400) (h3 : 0 ≤ y) (h4 : y ≤ 1000) : -400000 ≤ x * y ∧ x * y ≤ 400000 := by
  have a1 := Int.mul_le_mul_of_nonneg_right h1 h3
  have a2 := Int.mul_le_mul_of_nonneg_right h2 h3
  omega
theorem div_bd {p d : Int} (hd : 1 ≤ d) (h1 : -400000 ≤ p) (h2 : p ≤ 400000) : -400000 ≤ p / d ∧ p / d ≤ 400000 := by
  have e := Int.mul_ediv_add_emod p d
  have e1 := Int.emod_nonneg p (show d ≠ 0 by omega)
  have e2 := Int.emod_lt_of_pos p (show 0 < d by omega)
  constructor
  · exact Int.le_ediv_of_mul_le (by omega) (by have := Int.mul_le_mul_of_nonneg_left hd (show (0 : Int) ≤ 400000 by omega); omega)
  · exact Int.ediv_le_of_le_mul (by omega) (by have := Int.mul_le_mul_of_nonneg_left hd (show (0 : Int) ≤ 400000 by omega); omega)
end Go.Proofs.Ythhchnhidhgccaa
