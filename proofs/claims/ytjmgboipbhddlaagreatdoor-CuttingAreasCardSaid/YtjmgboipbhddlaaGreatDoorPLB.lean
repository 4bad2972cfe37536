import Derived.Test.YtjmgboipbhddlaaGreatDoorA8
import Derived.Test.YtjmgboipbhddlaaGreatDoorRR
import Derived.Test.YtjmgboipbhddlaaGreatDoorJX
import Derived.Laws.EntriesVeiled
import Derived.RangeFuncLeaves
import Derived.Shelf.Abstract
import Derived.WalkKit
import Derived.OwnWalkIn
import Derived.TacticsInMore
import Derived.LoopNIn
import Derived.LoopIn
import Derived.Test.YtjmgboipbhddlaaGreatDoorPL7
import Derived.Test.YtjmgboipbhddlaaGreatDoorQG
set_option linter.unusedVariables false
set_option linter.unusedSimpArgs false
namespace Go.Proofs.YtjmgboipbhddlaaGreatDoor
open Go Go.RowKit

def briefsL (n : Nat) : Prop := ¬ (6 < n ∧ n ≤ 100) ∧ ¬ 110 < n
instance (n : Nat) : Decidable (briefsL n) := by unfold briefsL; infer_instance
def briefsB (plan : List Layout) : Bool := decide (briefsL plan.length) && plan.all fun l => briefB l.cuts.length
theorem briefs_len {plan : List Layout} (h : briefsB plan = true) : plan.length ≤ 110 ∧ ∀ l ∈ plan, l.cuts.length ≤ 420 := by
 unfold briefsB at h
 rw [Bool.and_eq_true, decide_eq_true_eq, List.all_eq_true] at h
 refine ⟨by have := h.1.2; omega, fun l hl => ?_⟩
 have := h.2 l hl
 unfold briefB at this
 simp only [Bool.or_eq_true, Bool.and_eq_true, decide_eq_true_eq] at this
 omega
theorem briefs_no {plan : List Layout} {k : Nat} (hk : k < plan.length) (h : briefB plan[k].cuts.length = false) : briefsB plan = false := by
 unfold briefsB
 rw [Bool.and_eq_false_iff]
 right
 rw [List.all_eq_false]
 exact ⟨plan[k], List.getElem_mem hk, by simp [h]⟩
theorem briefs_yes {plan : List Layout} (h0 : briefsL plan.length) (h : ∀ i (hi : i < plan.length), i < plan.length → briefB plan[i].cuts.length = true) : briefsB plan = true := by
 unfold briefsB
 rw [Bool.and_eq_true, decide_eq_true_eq, List.all_eq_true]
 refine ⟨h0, fun l hl => ?_⟩
 obtain ⟨i, hi, rfl⟩ := List.getElem_of_mem hl
 exact h i hi hi
theorem briefs_big {plan : List Layout} (h : ¬ briefsL plan.length) : briefsB plan = false := by unfold briefsB; rw [decide_eq_false h]; rfl
set_option maxHeartbeats 2000000 in
theorem briefs_is (plan : List Layout) (ap : Option Addr) (cp : Nat) (w : World) {q : Bool} (hq : briefsB plan = q) (hp : Layouts.V w ap plan) (hl : plan.length ≤ 9223372036854775807) :
    Calls Tryz.prog 7 #[.slice ap plan.length cp] w fun e w' => e = .returned (.bool q) ∧ Below w.heap.size w w' := by
 have HQ := Lib.hid (show q = briefsB plan from hq.symm)
 have HPV := Lib.hid hp
 clear hq hp
 have hp : ((plan.length : Int) > 6 ∧ (plan.length : Int) ≤ 100 ∧ ¬ briefsL plan.length) ∨ ((plan.length : Int) > 6 ∧ ¬ (plan.length : Int) ≤ 100 ∧ (plan.length : Int) > 110 ∧ ¬ briefsL plan.length) ∨ ((plan.length : Int) > 6 ∧ ¬ (plan.length : Int) ≤ 100 ∧ ¬ (plan.length : Int) > 110 ∧ briefsL plan.length) ∨ (¬ (plan.length : Int) > 6 ∧ ¬ (plan.length : Int) > 110 ∧ briefsL plan.length) := by
  unfold briefsL
  omega
 have hloop : briefsL plan.length → True := fun _ => trivial
 rcases hp with ⟨h1, h2, h3⟩ | ⟨h1, h2, h3, h4⟩ | ⟨h1, h2, h3, h4⟩ | ⟨h1, h2, h4⟩
 case inl =>
  have HR := Lib.hid (briefs_big h3)
  go_enter Tryz.func7, Tryz.ntmps7
  go_wp2_with fail
  go_ret
  exact ⟨ret_bool (by rw [HQ.out, HR.out]), Below.refl _ _⟩
 case inr.inl =>
  have HR := Lib.hid (briefs_big h4)
  go_enter Tryz.func7, Tryz.ntmps7
  go_wp2_with fail
  go_ret
  exact ⟨ret_bool (by rw [HQ.out, HR.out]), Below.refl _ _⟩
 all_goals
  have HL := Lib.hid h4
  have HYY := Lib.hid (fun h => briefs_yes h4 h)
  clear h4
  go_enter Tryz.func7, Tryz.ntmps7
  go_wp2_with fail
  go_loopw [3] (fun iv wr => ∃ k : Nat, k ≤ plan.length ∧ iv = .int .i64 k ∧ Hid (∀ i (hi : i < plan.length), i < k → briefB plan[i].cuts.length = true) ∧ Below w.heap.size w wr) (fun iv _ => plan.length - (intOf iv).toNat)
  case atStart => exact ⟨0, Nat.zero_le _, rfl, Lib.hid (fun _ _ h => by omega), Below.refl _ _⟩
  case round =>
   obtain ⟨k, hk, rfl, HK, hbr⟩ := hrel
   have HB := Lib.hid hbr
   by_cases hlt : k < plan.length
   ·have hki : (k : Int) < (plan.length : Int) := by omega
    have v1 : IntKind.i64.wrap ((k : Int) + 1) = (k : Int) + 1 := IntWalk.i64_in _ (by omega)
    obtain ⟨b, off, ha, ad, cd, m0, m1, -⟩ := (HPV.out.keep hbr).at_ hlt
    subst ha
    have HN := Lib.hid (fun h => briefs_no hlt h)
    have HS := Lib.hid (show briefB plan[k].cuts.length = true → ∀ i (hi : i < plan.length), i < k + 1 → briefB plan[i].cuts.length = true from fun h i hi hik => by
     by_cases e : i = k
     ·subst e; exact h
     ·exact HK.out i hi (by omega))
    clear hbr
    generalize plan[k].cuts.length = nc at *
    generalize plan[k].board = bd at *
    cases hbn : briefB nc
    ·have HBN := Lib.hid hbn
     clear hbn HK
     go_wp2_with (go_at_call 25; refine (brief_is _ _ _ _ _ HBN.out).mono ?_; rintro e w2 ⟨rfl, hb⟩; have HB2 := Lib.hid (HB.out.trans (hb.mono HB.out.size)); clear hb)
     go_ret
     exact ⟨ret_bool (by rw [HQ.out, HN.out HBN.out]), HB2.out⟩
    ·have HBN := Lib.hid hbn
     clear hbn HK
     go_wp2_with (go_at_call 25; refine (brief_is _ _ _ _ _ HBN.out).mono ?_; rintro e w2 ⟨rfl, hb⟩; have HB2 := Lib.hid (HB.out.trans (hb.mono HB.out.size)); clear hb)
     go_roundw
     case rel => exact ⟨k + 1, by omega, by go_num, Lib.hid (HS.out HBN.out), HB2.out⟩
     case measure => first | (simp [intOf]; done) | (simp [intOf]; omega)
   ·obtain rfl : k = plan.length := by omega
    have hki : ¬ ((plan.length : Nat) : Int) < ((plan.length : Nat) : Int) := by omega
    go_wp2_with fail
    go_ret
    exact ⟨ret_bool (by rw [HQ.out, HYY.out (fun i hi _ => HK.out i hi hi)]), HB.out⟩
end Go.Proofs.YtjmgboipbhddlaaGreatDoor
