/- Jobs: what the reference's CheckBlanks, CheckTrim and Pieces return. Jobs: what the reference's CheckJob returns. -/
import Derived.Test.YtdmoiepafkbefaaQJ
set_option linter.unusedVariables false
set_option linter.unusedSimpArgs false
namespace Go.Proofs.Ytdmoiepafkbefaa
open Go Go.RowKit

theorem any_noneF {α : Type} {f : α → ByteArray} {st : List α} {k : Nat} (hk : k < st.length) (h : ∀ j (hj : j < st.length), j < k → ((f st[j]).toList == (f st[k]).toList) = false) : (((st.map f).take k).any fun t => (f st[k]).toList == t.toList) = false := by
  rw [List.any_eq_false]
  intro t ht
  obtain ⟨j, hj, rfl⟩ := List.mem_iff_getElem.1 ht
  simp only [List.length_take, List.length_map] at hj
  simp only [List.getElem_take, List.getElem_map]
  have := h j (by omega) (by omega)
  simp only [beq_eq_false_iff_ne, beq_iff_eq] at this ⊢
  exact fun e => this e.symm
theorem any_someF {α : Type} {f : α → ByteArray} {st : List α} {k j : Nat} (hk : k < st.length) (hj : j < st.length) (hjk : j < k) (h : ((f st[j]).toList == (f st[k]).toList) = true) : (((st.map f).take k).any fun t => (f st[k]).toList == t.toList) = true := by
  rw [List.any_eq_true]
  refine ⟨f st[j], ?_, ?_⟩
  · rw [List.mem_iff_getElem]
    exact ⟨j, by simp; omega, by simp⟩
  · simp only [beq_iff_eq] at h ⊢
    exact h.symm
theorem blankErr_rng {x : Blank} (h1 : nameB x.name = true) (h2 : nameB x.species = true) : blankErr x = if rngB x then 0 else 2 := by
  unfold blankErr rngB
  rw [if_neg (by simp [h1, h2])]
  cases withinB x.length 1 600000 <;> cases withinB x.width 1 600000 <;> cases withinB x.thick 1 600000 <;> cases withinB x.count 1 200 <;> rfl

set_option maxHeartbeats 1000000 in
theorem pieces_any (a : Option Addr) (l : List Blank) (c : Nat) (w : World) (hv : Blanks.V w a l) (hl : l.length ≤ 30) (hc : ∀ x ∈ l, 1 ≤ x.count ∧ x.count ≤ 200) :
    Calls Try.prog 19 #[.slice a l.length c] w fun e w' => e = .returned (.int .i64 (piecesN l)) ∧ Below w.heap.size w w' := by
  have HCT := Lib.hid hc
  clear hc
  go_enter Try.func19, Try.ntmps19
  go_wp2_with fail
  go_loopw [3, 4] (fun p i wr => ∃ (m : Nat) (P : Int), m ≤ l.length ∧ i = .int .i64 m ∧ p = .int .i64 P ∧ (0 ≤ P ∧ P ≤ 200 * (m : Int)) ∧ Hid (piecesN l = P + piecesN (l.drop m)) ∧ Below w.heap.size w wr) (fun _ i _ => l.length - (intOf i).toNat)
  case atStart => exact ⟨0, 0, Nat.zero_le _, rfl, rfl, by simp, Lib.hid (by simp), Below.refl _ _⟩
  case round =>
    obtain ⟨m, P, hm, rfl, rfl, hP, HPS, hbr⟩ := hrel
    have hszr := hbr.size
    by_cases hlt2 : m < l.length
    · obtain ⟨b, off, ha, hat⟩ := (hv.keep hbr).at_ hlt2
      subst ha
      obtain ⟨c0, c1', c2', c3, c4, c5, -⟩ := hat
      have hct := HCT.out _ (List.getElem_mem hlt2)
      have hmi : (m : Int) < (l.length : Int) := by omega
      have HPN := Lib.hid (show piecesN l = (P + l[m].count) + piecesN (l.drop (m + 1)) by rw [HPS.out, piecesN_drop hlt2, Int.add_assoc])
      clear HPS
      generalize l[m] = xb at *
      have v1 : IntKind.i64.wrap (P + xb.count) = P + xb.count := IntWalk.i64_in _ (by omega)
      go_wp2_with fail
      go_roundw
      case rel => exact ⟨m + 1, P + xb.count, by omega, by go_num, rfl, by omega, HPN, hbr⟩
      case measure => simp [intOf]; omega
    · have HPE := Lib.hid (show piecesN l = P by rw [HPS.out, List.drop_of_length_le (by omega)]; simp [piecesN])
      clear HPS
      go_wp2_with fail
      go_ret
      exact ⟨ret_int HPE.out.symm, hbr⟩

end Go.Proofs.Ytdmoiepafkbefaa

set_option linter.unusedVariables false
set_option linter.unusedSimpArgs false
namespace Go.Proofs.Ytdmoiepafkbefaa
open Go Go.RowKit

end Go.Proofs.Ytdmoiepafkbefaa
