/- The program's solids of one cell: ints within the room, a cell of planes, a box. -/
import Derived.Test.YtgjmfdhgeahdcaaGreatQM
import Derived.Test.YtgjmfdhgeahdcaaGreatQG
import Derived.Test.YtgjmfdhgeahdcaaGreatQE
import Derived.Test.YtgjmfdhgeahdcaaGreatQF
import Derived.Test.YtgjmfdhgeahdcaaGreatQA
import Derived.Test.YtgjmfdhgeahdcaaGreatQD
set_option linter.unusedVariables false
set_option linter.unusedSimpArgs false
namespace Go.Proofs.YtgjmfdhgeahdcaaGreat
open Go Go.RowKit Go.Sort Go.Lib

def outW (z : Int) : Bool := decide (z < -300000) || decide (300000 < z)
set_option maxRecDepth 100000 in
set_option maxHeartbeats 1000000 in
theorem within1_any (z : Int) (w : World) : Calls Tryz.prog 34 #[.int .i64 z] w fun e w' => e = .returned (.bool (outW z)) ∧ Below w.heap.size w w' := by
 obtain ⟨S, hS⟩ : ∃ S, S = outW z := ⟨_, rfl⟩
 rw [← hS]
 have HS := Lib.hid hS
 clear hS
 go_enter Tryz.func34, Tryz.ntmps34
 go_wp2
 all_goals go_ret
 ·exact ⟨by rw [HS.out]; rfl, Below.refl _ _⟩
 ·rename_i h
  have h2 : S = true := by rw [HS.out]; unfold outW; rw [decide_eq_true h]; rfl
  exact ⟨by rw [h2]; rfl, Below.refl _ _⟩
set_option maxHeartbeats 1000000 in
theorem idx_within1 (a : Option Addr) (l : List Int) (c : Nat) (w : World) (hv : IntsV w a l) (hl : l.length ≤ 1000000) :
    Calls Tryz.prog 59 #[.slice a l.length c, .func (.func 34) #[] #[]] w fun e w' => e = .returned (.int .i64 (idxOf outW l)) ∧ Below w.heap.size w w' := by
 go_enter Tryz.func59, Tryz.ntmps59
 go_wp2
 go_loopw [8] (fun i wr => ∃ k : Nat, k ≤ l.length ∧ i = .int .i64 k ∧ Hid (∀ j (hj : j < l.length), j < k → outW l[j] = false) ∧ Below w.heap.size w wr) (fun i _ => l.length - (intOf i).toNat)
 case atStart => exact ⟨0, Nat.zero_le _, rfl, Lib.hid (fun j _ h => by omega), Below.refl _ _⟩
 case round =>
  obtain ⟨k, hk, rfl, HK, hbw⟩ := hrel
  have hsz := hbw.size
  by_cases hlt : k < l.length
  ·obtain ⟨b, off, rfl, hat⟩ := (hv.keep hbw) (fun e => by rw [e] at hlt; simp at hlt)
   have c0 := hat k l[k] (List.getElem?_eq_getElem hlt)
   clear hat
   have HH := Lib.hid (fun h => idxOf_hit (p := outW) hlt HK.out h)
   have HN := Lib.hid (fun h => none_step (p := outW) HK.out hlt h)
   have HF := Lib.hid (within1_any l[k] wr)
   generalize l[k] = d at *
   cases hq : outW d
   ·rw [hq] at HF
    go_wp2_with (go_at_call 34; refine HF.out.mono ?_; rintro e w1 ⟨rfl, hb⟩)
    go_round
    case rel => exact ⟨k + 1, by omega, by go_num, Lib.hid (HN.out hq), hbw.trans (hb.mono hsz)⟩
    case measure => simp [intOf]; omega
   ·rw [hq] at HF
    go_wp2_with (go_at_call 34; refine HF.out.mono ?_; rintro e w1 ⟨rfl, hb⟩)
    go_ret
    exact ⟨ret_int (HH.out hq).symm, hbw.trans (hb.mono hsz)⟩
  ·have hm := Lib.hid (idxOf_miss (p := outW) (l := l) (fun j hj => HK.out j hj (by omega)))
   clear HK
   go_wp2
   go_ret
   exact ⟨ret_int hm.out.symm, hbw⟩
theorem has_within1 (a : Option Addr) (l : List Int) (c : Nat) (w : World) (hv : IntsV w a l) (hl : l.length ≤ 1000000) :
    Calls Tryz.prog 33 #[.slice a l.length c, .func (.func 34) #[] #[]] w fun e w' => e = .returned (.bool (l.any outW)) ∧ Below w.heap.size w w' := by
 have hi := Lib.hid (idxOf_bool outW l)
 go_enter Tryz.func33, Tryz.ntmps33
 go_wp2_with (go_at_call 59; refine (idx_within1 a l c _ hv hl).mono ?_; rintro e w1 ⟨rfl, hb⟩)
 go_ret
 exact ⟨ret_bool (by rw [← hi.out]), hb⟩
theorem within_any (a : Option Addr) (l : List Int) (c : Nat) (w : World) (hv : IntsV w a l) (hl : l.length ≤ 1000000) :
    Calls Tryz.prog 12 #[.slice a l.length c] w fun e w' => e = .returned (.bool (!l.any outW)) ∧ Below w.heap.size w w' := by
 have HF := Lib.hid (has_within1 a l c w hv hl)
 cases hq : l.any outW
 ·rw [hq] at HF
  go_enter Tryz.func12, Tryz.ntmps12
  go_wp2_with (go_at_call 33; refine HF.out.mono ?_; rintro e w1 ⟨rfl, hb⟩)
  go_ret
  exact ⟨rfl, hb⟩
 ·rw [hq] at HF
  go_enter Tryz.func12, Tryz.ntmps12
  go_wp2_with (go_at_call 33; refine HF.out.mono ?_; rintro e w1 ⟨rfl, hb⟩)
  go_ret
  exact ⟨rfl, hb⟩

end Go.Proofs.YtgjmfdhgeahdcaaGreat
