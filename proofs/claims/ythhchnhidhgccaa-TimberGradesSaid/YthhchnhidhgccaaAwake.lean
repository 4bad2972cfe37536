/- The examples of the law, and which species and boards it looks at. -/
import Derived.Test.YthhchnhidhgccaaMass2
set_option linter.unusedVariables false
set_option linter.unusedSimpArgs false
namespace Go.Proofs.Ythhchnhidhgccaa
open Go Go.RowKit

theorem lt_of_shortB {P : Prop} [Decidable P] (h : P) : decide P = true := by simpa using h
def shortB (l : List Species) : Bool := decide (l.length ≤ 50) && l.all fun s => decide (s.name.size ≤ 30)
theorem short_no {l : List Species} {k : Nat} (hk : k < l.length) (h : 30 < l[k].name.size) : shortB l = false := by
  unfold shortB
  rw [Bool.and_eq_false_iff]
  exact .inr (List.all_eq_false.2 ⟨l[k], List.getElem_mem _, by simpa using h⟩)
theorem short_yes {l : List Species} (hl : l.length ≤ 50) (h : ∀ j (hj : j < l.length), l[j].name.size ≤ 30) : shortB l = true := by
  unfold shortB
  rw [Bool.and_eq_true]
  refine ⟨by simpa using hl, List.all_eq_true.2 fun x hx => ?_⟩
  obtain ⟨j, hj, rfl⟩ := List.getElem_of_mem hx
  simpa using h j hj
theorem shortB_ok {l : List Species} (h : shortB l = true) : l.length ≤ 50 := by
  unfold shortB at h
  rw [Bool.and_eq_true] at h
  simpa using h.1

set_option maxHeartbeats 1000000 in
theorem short_any (a : Option Addr) (l : List Species) (c : Nat) (w : World) (hv : Speciess.V w a l) (hl : l.length ≤ 9223372036854775807) :
    Calls Try.prog 19 #[.slice a l.length c] w fun e w' => e = .returned (.bool (shortB l)) ∧ w = w' := by
  by_cases hbig : 50 < l.length
  · have HE := Lib.hid (show shortB l = false by simp [shortB]; omega)
    go_enter Try.func19, Try.ntmps19
    go_wp2_with fail
    go_ret
    exact ⟨by rw [HE.out]; rfl, rfl⟩
  · go_enter Try.func19, Try.ntmps19
    go_wp2_with fail
    go_loopw [3] (fun i wr => ∃ k : Nat, k ≤ l.length ∧ i = .int .i64 k ∧ Hid (∀ j (hj : j < l.length), j < k → l[j].name.size ≤ 30) ∧ wr = w) (fun i _ => l.length - (intOf i).toNat)
    case atStart => exact ⟨0, Nat.zero_le _, rfl, Lib.hid (fun j _ h => by omega), rfl⟩
    case round =>
      obtain ⟨k, hk, rfl, HA, rfl⟩ := hrel
      by_cases hlt : k < l.length
      · obtain ⟨bk, off, rfl, hat⟩ := hv.at_ hlt
        obtain ⟨c0, -⟩ := hat
        have hki : (k : Int) < (l.length : Int) := by omega
        by_cases hn : 30 < l[k].name.size
        · have HE := Lib.hid (short_no hlt hn)
          go_wp2_with fail
          go_ret
          exact ⟨by rw [HE.out]; rfl, rfl⟩
        · go_wp2_with fail
          go_roundw
          case rel => exact ⟨k + 1, by omega, by go_num, Lib.hid (fun j hj h => by
            by_cases hjk2 : j = k
            · subst hjk2; omega
            · exact HA.out j hj (by omega)), by first | rfl | trivial⟩
          case measure => simp [intOf]; omega
      · have HE := Lib.hid (short_yes (by omega) (fun j hj => HA.out j hj (by omega)))
        go_wp2_with fail
        go_ret
        exact ⟨by rw [HE.out]; rfl, rfl⟩

def plainB (b : Board) : Bool := decide (b.name.size ≤ 30) && decide (b.species.size ≤ 30) && (decide (b.defects.length ≤ 8) || (decide (60 < b.defects.length) && decide (b.defects.length ≤ 70)))
set_option maxHeartbeats 1000000 in
theorem plain_any (b : Board) (a : Option Addr) (c : Nat) (w : World) (hl : b.defects.length ≤ 9223372036854775807) (hw : b.wf) :
    Calls Try.prog 20 #[.agg #[.string b.name, .string b.species, .int .i64 b.length, .int .i64 b.width, .int .i64 b.thick, .int .i64 b.cut, .int .i64 b.moisture, .slice a b.defects.length c]] w fun e w' => e = .returned (.bool (plainB b)) ∧ Below w.heap.size w w' := by
  obtain ⟨hn1, hn2, -⟩ := hw
  go_enter Try.func20, Try.ntmps20
  go_wp2_with fail
  all_goals (go_ret; exact ⟨ret_bool (by go_tidy; unfold plainB; rw [Bool.eq_iff_iff]; simp <;> omega), (Below.refl _ _).alloc (Nat.le_refl _) _⟩)
end Go.Proofs.Ythhchnhidhgccaa
