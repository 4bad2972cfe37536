import Derived.Test.YtjmgboipbhddlaaGreatDoorQL
import Derived.Test.YtjmgboipbhddlaaGreatDoorVG
set_option linter.unusedVariables false
set_option linter.unusedSimpArgs false
namespace Go.Proofs.YtjmgboipbhddlaaGreatDoor
open Go Go.ChangeShapes Go.WideShapes Go.ChangeAt Go.RowKit

section
variable {ln st : List Int} {kerf U : Int} {l : List (List Int)} {D : List Bool} {k : Nat} {q : Int × Int}
end
theorem own_setb {w : World} {base e n g cap : Nat} {l : List Bool} {i : Nat} {x : Bool} (h : w.ownsRow base e 1 (.slice (some ⟨g, 0, none⟩) n cap) n (l.map Value.bool)) (hi : i < l.length) :
    (w.setCell ⟨g, i, none⟩ (.bool x)).ownsRow base e 1 (.slice (some ⟨g, 0, none⟩) n cap) n ((l.set i x).map Value.bool) := by
 have hn : l.length = n := by have := h.1; simpa using this
 refine ⟨by simp [hn], ?_⟩
 rcases h.2 with ⟨e0, _⟩ | ⟨g', cap', cur, e0, hb, hg, hnc, hm, hs, ht⟩
 ·cases e0
 ·injection e0 with e1 _ e3
  injection e1 with e1
  injection e1 with e1
  subst e1; subst e3
  refine .inr ⟨g, cap, cur.setIfInBounds i (.bool x), rfl, hb, ?_, hnc, hm, by simpa using hs, ?_⟩
  ·simp [World.setCell, Array.getElem?_modify, hg]
  ·rw [List.map_set, ← ht, Array.toList_setIfInBounds, List.take_set]
theorem own_bool_cell {w : World} {base e n g cap : Nat} {l : List Bool} {i : Nat} (h : w.ownsRow base e 1 (.slice (some ⟨g, 0, none⟩) n cap) n (l.map Value.bool)) (hi : i < l.length) : w.cell? ⟨g, i, none⟩ = some (.bool (l.getD i false)) ∧ w.frozen? ⟨g, i, none⟩ = false := by
 refine ⟨?_, ?_⟩
 ·have := h.cells (g := g) rfl i (.bool (l.getD i false)) (by simp [hi, List.getD_eq_getElem?_getD])
  rwa [addr_add, Nat.zero_add] at this
 ·rcases h.2 with ⟨e0, _⟩ | ⟨g', cap', cur, e0, hb, hg, hnc, hm, hs, ht⟩
  ·cases e0
  ·injection e0 with e1 _ e3
   injection e1 with e1
   injection e1 with e1
   subst e1
   simp [World.frozen?, hg]
theorem make_bools (W : World) (n : Nat) (hn : n ≤ 100000) : (Instr.makeSlice 121 (.int .i64 (n : Int)) (.int .i64 (n : Int))).run Tryz.prog W = .ok (.slice (some ⟨W.heap.size, 0, none⟩) n n) (W.alloc (.cells (madeCells #[.bool false] n) 4)) := by
 obtain ⟨n0, hn0, hx0, hx1, hx2⟩ := info_parts bool_info
 have := run_make (P := Tryz.prog) W 121 4 n0 (.bool false) Tryz.underlying121 hn0 hx0 .i64 .i64 (n : Int) (n : Int) (by omega) (Int.le_refl _) (by rw [hx2]; omega) (by omega)
 rw [this]
 simp [hx1, Value.cells]
end Go.Proofs.YtjmgboipbhddlaaGreatDoor

set_option linter.unusedVariables false
set_option linter.unusedSimpArgs false
namespace Go.Proofs.YtjmgboipbhddlaaGreatDoor
open Go Go.RowKit

set_option maxHeartbeats 1000000 in
theorem idxFalse_any (a : Option Addr) (l : List Bool) (n c : Nat) (w : World) (hn : l.length = n) (hv : Bools.V w a l) (hl : l.length ≤ 1000000) :
    Calls Tryz.prog 117 #[.slice a n c, .bool false] w fun e w' => e = .returned (.int .i64 (idxOf (fun y => !y) l)) ∧ Below w.heap.size w w' := by
 subst hn
 go_enter Tryz.func117, Tryz.ntmps117
 go_wp2_with fail
 go_loopw [8] (fun i wr => ∃ k : Nat, k ≤ l.length ∧ i = .int .i64 k ∧ Hid (∀ j (hj : j < l.length), j < k → (!l[j]) = false) ∧ Below w.heap.size w wr) (fun i _ => l.length - (intOf i).toNat)
 case atStart => exact ⟨0, Nat.zero_le _, rfl, Lib.hid (fun j _ h => by omega), Below.refl _ _⟩
 case round =>
  obtain ⟨k, hk, rfl, HK, hbw⟩ := hrel
  by_cases hlt : k < l.length
  ·obtain ⟨b, off, rfl, c0⟩ := (hv.keep hbw).at' hlt
   have HH := Lib.hid (fun h => idxOf_hit (p := fun y => !y) hlt HK.out h)
   have HN := Lib.hid (fun h => none_step (p := fun y => !y) HK.out hlt h)
   have hki : (k : Int) < (l.length : Int) := by omega
   generalize l[k] = y at *
   cases y
   ·have hr := Lib.hid (HH.out rfl)
    clear HH HN HK
    go_wp2_with fail
    go_ret
    exact ⟨ret_int hr.out.symm, hbw⟩
   ·have hr := Lib.hid (HN.out rfl)
    clear HH HN HK
    go_wp2_with fail
    go_roundw
    case rel => exact ⟨k + 1, by omega, by go_num, hr, hbw⟩
    case measure => simp [intOf]; omega
  ·have hm := Lib.hid (idxOf_miss (p := fun y => !y) (l := l) (fun j hj => HK.out j hj (by omega)))
   have hki : ¬ (k : Int) < (l.length : Int) := by omega
   clear HK
   go_wp2_with fail
   go_ret
   exact ⟨ret_int hm.out.symm, hbw⟩
theorem any_not (l : List Bool) : l.any (fun y => !y) = !(l.all id) := by induction l <;> simp_all
set_option maxHeartbeats 1000000 in
theorem hasFalse_any (a : Option Addr) (l : List Bool) (n c : Nat) (w : World) {q : Bool} (hn : l.length = n) (hq : l.all id = q) (hv : Bools.V w a l) (hl : l.length ≤ 1000000) :
    Calls Tryz.prog 99 #[.slice a n c, .bool false] w fun e w' => e = .returned (.bool (!q)) ∧ Below w.heap.size w w' := by
 have hi := Lib.hid ((idxOf_bool' (fun y => !y) l).trans ((any_not l).trans (by rw [hq])))
 generalize hI : idxOf (fun y => !y) l = I at *
 have HC := Lib.hid (idxFalse_any a l n c w hn hv hl)
 rw [hI] at HC
 clear hI
 go_enter Tryz.func99, Tryz.ntmps99
 go_wp2_with (go_at_call 117; refine HC.out.mono ?_; rintro e w1 ⟨rfl, hb⟩; have HB := Lib.hid hb; clear hb)
 go_ret
 exact ⟨ret_bool (by rw [← hi.out]), HB.out⟩

end Go.Proofs.YtjmgboipbhddlaaGreatDoor

set_option linter.unusedVariables false
set_option linter.unusedSimpArgs false
namespace Go.Proofs.YtjmgboipbhddlaaGreatDoor
open Go Go.RowKit

end Go.Proofs.YtjmgboipbhddlaaGreatDoor

set_option linter.unusedVariables false
set_option linter.unusedSimpArgs false
namespace Go.Proofs.YtjmgboipbhddlaaGreatDoor
open Go Go.RowKit

end Go.Proofs.YtjmgboipbhddlaaGreatDoor
