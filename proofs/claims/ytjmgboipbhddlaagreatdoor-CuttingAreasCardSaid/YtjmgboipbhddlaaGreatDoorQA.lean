import Derived.Test.YtjmgboipbhddlaaGreatDoorCX
import Derived.Test.YtjmgboipbhddlaaGreatDoorQM
import Derived.Test.YtjmgboipbhddlaaGreatDoorQT
set_option linter.unusedVariables false
set_option linter.unusedSimpArgs false
namespace Go.Proofs.YtjmgboipbhddlaaGreatDoor
open Go Go.RowKit

theorem whole_is (r q : Rect) (w : World) (hq : wholeR r = q) : Calls Tryz.prog 58 #[.agg #[.int .i64 r.x1, .int .i64 r.y1, .int .i64 r.x2, .int .i64 r.y2]] w fun e w' => e = .returned (.agg #[.int .i64 q.x1, .int .i64 q.y1, .int .i64 q.x2, .int .i64 q.y2]) ∧ Below w.heap.size w w' := by
 subst hq
 unfold wholeR
 go_enter Tryz.func58, Tryz.ntmps58
 by_cases h : r.x2 ≤ r.x1 ∨ r.y2 ≤ r.y1
 ·rw [if_pos h]
  go_wp2
  all_goals (first
   | (exact bodyPost_ret (v := .agg #[.int .i64 0, .int .i64 0, .int .i64 0, .int .i64 0]) (by simp [results, Tryz.results58, go_sem]) rfl ⟨rfl, by repeat (first | exact Below.refl _ _ | (refine Below.setCell ?_ (by simp) _) | (refine Below.alloc ?_ (by first | omega | (simp; omega) | (simp; done)) _))⟩)
   | (exfalso; go_tidy; (try simp only [Bool.not_eq_eq_eq_not, Bool.not_true, Bool.not_false, Bool.not_eq_true', Bool.not_eq_false', decide_eq_false_iff_not, decide_eq_true_eq, beq_iff_eq, beq_eq_false_iff_ne, bne_iff_ne, ne_eq, bne_eq_false_iff_eq, Bool.and_eq_true, Bool.or_eq_true, Bool.and_eq_false_iff, Bool.or_eq_false_iff, not_true_eq_false, not_false_eq_true, false_and, and_false, or_false, false_or, true_and, and_true, true_or, or_true] at *); omega))
 ·rw [if_neg h]
  go_wp2
  all_goals (first
   | (exact bodyPost_ret (v := .agg #[.int .i64 r.x1, .int .i64 r.y1, .int .i64 r.x2, .int .i64 r.y2]) (by simp [results, Tryz.results58, go_sem]) rfl ⟨rfl, by repeat (first | exact Below.refl _ _ | (refine Below.setCell ?_ (by simp) _) | (refine Below.alloc ?_ (by first | omega | (simp; omega) | (simp; done)) _))⟩)
   | (exfalso; go_tidy; (try simp only [Bool.not_eq_eq_eq_not, Bool.not_true, Bool.not_false, Bool.not_eq_true', Bool.not_eq_false', decide_eq_false_iff_not, decide_eq_true_eq, beq_iff_eq, beq_eq_false_iff_ne, bne_iff_ne, ne_eq, bne_eq_false_iff_eq, Bool.and_eq_true, Bool.or_eq_true, Bool.and_eq_false_iff, Bool.or_eq_false_iff, not_true_eq_false, not_false_eq_true, false_and, and_false, or_false, false_or, true_and, and_true, true_or, or_true] at *); omega))

def interR (a b : Rect) : Rect := ⟨max a.x1 b.x1, max a.y1 b.y1, min a.x2 b.x2, min a.y2 b.y2⟩
theorem inter_mk {a b : Rect} {p q r s : Int} (h1 : p = max a.x1 b.x1) (h2 : q = max a.y1 b.y1) (h3 : r = min a.x2 b.x2) (h4 : s = min a.y2 b.y2) : (⟨p, q, r, s⟩ : Rect) = interR a b := by unfold interR; rw [h1, h2, h3, h4]
theorem cells4 {W w1 : World} {T : TypeId} {a b c d : Value} (h : Below (W.alloc (.cells #[a, b, c, d] T)).heap.size (W.alloc (.cells #[a, b, c, d] T)) w1) :
    (w1.cell? ⟨W.heap.size, 0, none⟩ = some a ∧ w1.cell? ⟨W.heap.size, 1, none⟩ = some b ∧ w1.cell? ⟨W.heap.size, 2, none⟩ = some c ∧ w1.cell? ⟨W.heap.size, 3, none⟩ = some d) ∧
    w1.frozen? ⟨W.heap.size, 0, none⟩ = false ∧ w1.frozen? ⟨W.heap.size, 1, none⟩ = false ∧ w1.frozen? ⟨W.heap.size, 2, none⟩ = false ∧ w1.frozen? ⟨W.heap.size, 3, none⟩ = false := by
 have hz : W.heap.size < (W.alloc (.cells #[a, b, c, d] T)).heap.size := by simp
 refine ⟨⟨?_, ?_, ?_, ?_⟩, ?_, ?_, ?_, ?_⟩
 all_goals first
  | exact cell_keep h (by simp [go_sem])
  | (rw [h.frozen (p := ⟨W.heap.size, _, none⟩) hz]; simp [go_sem])
set_option maxRecDepth 100000 in
set_option maxHeartbeats 2000000 in
theorem common_is (a b q : Rect) (w : World) (hq : wholeR (interR a b) = q) : Calls Tryz.prog 59 #[.agg #[.int .i64 a.x1, .int .i64 a.y1, .int .i64 a.x2, .int .i64 a.y2], .agg #[.int .i64 b.x1, .int .i64 b.y1, .int .i64 b.x2, .int .i64 b.y2]] w fun e w' => e = .returned (.agg #[.int .i64 q.x1, .int .i64 q.y1, .int .i64 q.x2, .int .i64 q.y2]) ∧ Below w.heap.size w w' := by
 go_enter Tryz.func59, Tryz.ntmps59
 go_wp2_with (go_at_call 58; go_loud (with_reducible refine (whole_is ⟨_, _, _, _⟩ q _ (by rw [← hq]; exact congrArg wholeR (inter_mk (by omega) (by omega) (by omega) (by omega)))).mono ?_); rintro e w1 ⟨rfl, hb⟩; obtain ⟨⟨k0, k1, k2, k3⟩, f0, f1, f2, f3⟩ := cells4 hb; simp only [World.size_alloc] at k0 k1 k2 k3 f0 f1 f2 f3)
 all_goals (exact bodyPost_ret (v := .agg #[.int .i64 q.x1, .int .i64 q.y1, .int .i64 q.x2, .int .i64 q.y2]) (by simp [results, Tryz.results59, go_sem, *]) rfl ⟨rfl, by repeat (first | (exact ((((Below.refl _ _).alloc (Nat.le_refl _) _).alloc (by simp) _).alloc (by simp; omega) _).trans (hb.mono (by simp; omega))) | (refine Below.setCell ?_ (by simp; omega) _))⟩)
end Go.Proofs.YtjmgboipbhddlaaGreatDoor

set_option linter.unusedVariables false
set_option linter.unusedSimpArgs false
namespace Go.Proofs.YtjmgboipbhddlaaGreatDoor
open Go Go.RowKit

def hitB (d r : Rect) : Bool := !decide (wholeR (interR d r) = ⟨0, 0, 0, 0⟩)
theorem rect_dec (q r : Rect) : decide (q = r) = (decide (q.x1 = r.x1) && (decide (q.y1 = r.y1) && (decide (q.x2 = r.x2) && decide (q.y2 = r.y2)))) := by
 obtain ⟨a, b, c, d⟩ := q
 obtain ⟨a', b', c', d'⟩ := r
 simp [Bool.eq_iff_iff]
theorem rect_eql (q r : Rect) (w : World) : (binOp .eql 41 (.agg #[.int .i64 q.x1, .int .i64 q.y1, .int .i64 q.x2, .int .i64 q.y2]) (.agg #[.int .i64 r.x1, .int .i64 r.y1, .int .i64 r.x2, .int .i64 r.y2])).run Tryz.prog w = .ok (.bool (decide (q = r))) w := by
 rw [rect_dec]
 simp [go_sem]
 repeat' split
 all_goals simp_all
theorem rect_neq (q r : Rect) (w : World) : (binOp .neq 41 (.agg #[.int .i64 q.x1, .int .i64 q.y1, .int .i64 q.x2, .int .i64 q.y2]) (.agg #[.int .i64 r.x1, .int .i64 r.y1, .int .i64 r.x2, .int .i64 r.y2])).run Tryz.prog w = .ok (.bool (!decide (q = r))) w := by
 rw [rect_dec]
 simp [go_sem]
 repeat' split
 all_goals simp_all
theorem rect_eql0 (q : Rect) (w : World) : (binOp .eql 41 (.agg #[.int .i64 q.x1, .int .i64 q.y1, .int .i64 q.x2, .int .i64 q.y2]) (.agg #[.int .i64 0, .int .i64 0, .int .i64 0, .int .i64 0])).run Tryz.prog w = .ok (.bool (decide (q = ⟨0, 0, 0, 0⟩))) w := rect_eql q ⟨0, 0, 0, 0⟩ w
theorem rect_neq0 (q : Rect) (w : World) : (binOp .neq 41 (.agg #[.int .i64 q.x1, .int .i64 q.y1, .int .i64 q.x2, .int .i64 q.y2]) (.agg #[.int .i64 0, .int .i64 0, .int .i64 0, .int .i64 0])).run Tryz.prog w = .ok (.bool (!decide (q = ⟨0, 0, 0, 0⟩))) w := rect_neq q ⟨0, 0, 0, 0⟩ w
set_option maxHeartbeats 1000000 in
theorem sound1_any (d r : Rect) (g : Nat) (w : World) (h0 : w.cell? ⟨g, 0, none⟩ = some (.int .i64 r.x1)) (h1 : w.cell? ⟨g, 1, none⟩ = some (.int .i64 r.y1)) (h2 : w.cell? ⟨g, 2, none⟩ = some (.int .i64 r.x2)) (h3 : w.cell? ⟨g, 3, none⟩ = some (.int .i64 r.y2)) :
    Calls Tryz.prog 119 #[.agg #[.int .i64 d.x1, .int .i64 d.y1, .int .i64 d.x2, .int .i64 d.y2], .pointer (some ⟨g, 0, none⟩)] w fun e w' => e = .returned (.bool (hitB d r)) ∧ Below w.heap.size w w' := by
 have hgl := block_lt_of_cell h0
 simp only at hgl
 obtain ⟨q, hq⟩ : ∃ q, wholeR (interR d r) = q := ⟨_, rfl⟩
 have HE := Lib.hid (show hitB d r = (!decide (q = ⟨0, 0, 0, 0⟩)) by unfold hitB; rw [hq])
 have hn := rect_neq0 q
 go_enter Tryz.func119, Tryz.ntmps119
 go_wp2_with (go_at_call 59; refine (common_is d r q _ hq).mono ?_; rintro e w1 ⟨rfl, hb⟩)
 go_ret
 exact ⟨ret_bool (by rw [HE.out]), ((Below.refl _ _).alloc (Nat.le_refl _) _).trans (hb.mono (by simp))⟩

theorem hitB_eq {d r : Rect} (h1 : d.x1 < d.x2) (h2 : d.y1 < d.y2) (h3 : r.x1 < r.x2) (h4 : r.y1 < r.y2) : hitB d r = overlapsB d r := by
 unfold hitB overlapsB wholeR interR
 simp only
 by_cases h : min d.x2 r.x2 ≤ max d.x1 r.x1 ∨ min d.y2 r.y2 ≤ max d.y1 r.y1
 ·rw [if_pos h]
  simp only [decide_true, Bool.not_true]
  symm
  rw [Bool.eq_false_iff]
  simp only [ne_eq, Bool.and_eq_true, decide_eq_true_eq]
  omega
 ·rw [if_neg h]
  have : ¬ (⟨max d.x1 r.x1, max d.y1 r.y1, min d.x2 r.x2, min d.y2 r.y2⟩ : Rect) = ⟨0, 0, 0, 0⟩ := by
   simp only [Rect.mk.injEq]; omega
  rw [decide_eq_false this, Bool.not_false]
  symm
  simp only [Bool.and_eq_true, decide_eq_true_eq]
  omega

set_option maxHeartbeats 1000000 in
theorem idxRect_any (a : Option Addr) (l : List Rect) (c g : Nat) (r : Rect) (w : World) (hv : Rects.V w a l) (hl : l.length ≤ 9223372036854775807)
    (h0 : w.cell? ⟨g, 0, none⟩ = some (.int .i64 r.x1)) (h1 : w.cell? ⟨g, 1, none⟩ = some (.int .i64 r.y1)) (h2 : w.cell? ⟨g, 2, none⟩ = some (.int .i64 r.x2)) (h3 : w.cell? ⟨g, 3, none⟩ = some (.int .i64 r.y2)) :
    Calls Tryz.prog 134 #[.slice a l.length c, .func (.func 119) #[] #[.pointer (some ⟨g, 0, none⟩)]] w
     fun e w' => e = .returned (.int .i64 (idxOf (fun d => hitB d r) l)) ∧ Below w.heap.size w w' := by
 go_enter Tryz.func134, Tryz.ntmps134
 go_wp2
 go_loopw [8] (fun i wr => ∃ k : Nat, k ≤ l.length ∧ i = .int .i64 k ∧ Hid (∀ j (hj : j < l.length), j < k → hitB l[j] r = false) ∧ Below w.heap.size w wr) (fun i _ => l.length - (intOf i).toNat)
 case atStart => exact ⟨0, Nat.zero_le _, rfl, Lib.hid (fun j _ h => by omega), Below.refl _ _⟩
 case round =>
  obtain ⟨k, hk, rfl, HK, hbw⟩ := hrel
  have hsz := hbw.size
  by_cases hlt : k < l.length
  ·obtain ⟨b, off, rfl, hat⟩ := (hv.keep hbw).at_ hlt
   obtain ⟨c0, c1, c2, c3, -⟩ := hat
   have q0 := cell_keep hbw h0
   have q1 := cell_keep hbw h1
   have q2 := cell_keep hbw h2
   have q3 := cell_keep hbw h3
   have HH := Lib.hid (fun h => idxOf_hit (p := fun d => hitB d r) hlt HK.out h)
   have HN := Lib.hid (fun h => none_step (p := fun d => hitB d r) HK.out hlt h)
   generalize l[k] = d at *
   cases hq : hitB d r
   ·go_wp2_with (go_at_call 119; refine (sound1_any d r _ _ q0 q1 q2 q3).mono ?_; rw [hq]; rintro e w1 ⟨rfl, hb⟩)
    go_round
    case rel => exact ⟨k + 1, by omega, by go_num, Lib.hid (HN.out hq), hbw.trans (hb.mono hsz)⟩
    case measure => simp [intOf]; omega
   ·go_wp2_with (go_at_call 119; refine (sound1_any d r _ _ q0 q1 q2 q3).mono ?_; rw [hq]; rintro e w1 ⟨rfl, hb⟩)
    go_ret
    exact ⟨ret_int (HH.out hq).symm, hbw.trans (hb.mono hsz)⟩
  ·have hm := Lib.hid (idxOf_miss (p := fun d => hitB d r) (l := l) (fun j hj => HK.out j hj (by omega)))
   clear HK
   go_wp2
   go_ret
   exact ⟨ret_int hm.out.symm, hbw⟩
theorem idxOf_bool {α : Type} (p : α → Bool) (l : List α) : decide (0 ≤ idxOf p l) = l.any p := by
 unfold idxOf
 rw [Bool.eq_iff_iff, decide_eq_true_eq]
 cases h : l.findIdx? p with
 | none =>
  rw [List.findIdx?_eq_none_iff] at h
  simp only [List.any_eq_true]
  exact ⟨fun h' => by omega, fun ⟨x, hx, hp⟩ => by rw [h x hx] at hp; cases hp⟩
 | some i =>
  rw [List.findIdx?_eq_some_iff_getElem] at h
  obtain ⟨hi, hp, -⟩ := h
  simp only [List.any_eq_true]
  exact ⟨fun _ => ⟨_, List.getElem_mem hi, hp⟩, fun _ => by omega⟩
theorem hasRect_any (a : Option Addr) (l : List Rect) (c g : Nat) (r : Rect) (w : World) (hv : Rects.V w a l) (hl : l.length ≤ 9223372036854775807)
    (h0 : w.cell? ⟨g, 0, none⟩ = some (.int .i64 r.x1)) (h1 : w.cell? ⟨g, 1, none⟩ = some (.int .i64 r.y1)) (h2 : w.cell? ⟨g, 2, none⟩ = some (.int .i64 r.x2)) (h3 : w.cell? ⟨g, 3, none⟩ = some (.int .i64 r.y2)) :
    Calls Tryz.prog 118 #[.slice a l.length c, .func (.func 119) #[] #[.pointer (some ⟨g, 0, none⟩)]] w
     fun e w' => e = .returned (.bool (l.any fun d => hitB d r)) ∧ Below w.heap.size w w' := by
 have hi := Lib.hid (idxOf_bool (fun d => hitB d r) l)
 go_enter Tryz.func118, Tryz.ntmps118
 go_wp2_with (go_at_call 134; refine (idxRect_any a l c g r _ hv hl h0 h1 h2 h3).mono ?_; rintro e w1 ⟨rfl, hb⟩)
 go_ret
 exact ⟨ret_bool (by rw [← hi.out]), hb⟩
def soundC (ds : List Rect) (r : Rect) : Bool := !ds.any fun d => hitB d r
theorem soundC_eq {ds : List Rect} {r : Rect} (hd : ∀ d ∈ ds, d.x1 < d.x2 ∧ d.y1 < d.y2) (h3 : r.x1 < r.x2) (h4 : r.y1 < r.y2) : soundC ds r = soundB ds r := by
 unfold soundC soundB
 congr 1
 rw [Bool.eq_iff_iff, List.any_eq_true, List.any_eq_true]
 constructor
 ·rintro ⟨d, hm, h⟩; exact ⟨d, hm, by rw [← hitB_eq (hd d hm).1 (hd d hm).2 h3 h4]; exact h⟩
 ·rintro ⟨d, hm, h⟩; exact ⟨d, hm, by rw [hitB_eq (hd d hm).1 (hd d hm).2 h3 h4]; exact h⟩
set_option maxHeartbeats 1000000 in
theorem csound_any (b : Board) (r : Rect) (a : Option Addr) (c : Nat) (w : World) (hv : Rects.V w a b.defects) (hl : b.defects.length ≤ 9223372036854775807) :
    Calls Tryz.prog 100 #[.agg #[.string b.name, .string b.species, .int .i64 b.length, .int .i64 b.width, .int .i64 b.thick, .int .i64 b.cut, .int .i64 b.moisture, .slice a b.defects.length c], .agg #[.int .i64 r.x1, .int .i64 r.y1, .int .i64 r.x2, .int .i64 r.y2]] w fun e w' => e = .returned (.bool (soundC b.defects r)) ∧ Below w.heap.size w w' := by
 go_enter Tryz.func100, Tryz.ntmps100
 go_wp2_with (go_at_call 118; refine (hasRect_any a b.defects c _ r _ (hv.keep (((Below.refl _ _).alloc (Nat.le_refl _) _).alloc (by simp) _)) hl (by simp [go_sem]) (by simp [go_sem]) (by simp [go_sem]) (by simp [go_sem])).mono ?_; rintro e w1 ⟨rfl, hb⟩)
 go_ret
 exact ⟨rfl, (((Below.refl _ _).alloc (Nat.le_refl _) _).alloc (by simp) _).trans (hb.mono (by simp; omega))⟩
set_option maxHeartbeats 1000000 in
theorem usable_is (b : Board) (t : Trim) (q : Rect) (a : Option Addr) (c : Nat) (w : World) (hq : usableR b t = q) (hb : 0 ≤ b.length ∧ b.length ≤ 600000 ∧ 0 ≤ b.width ∧ b.width ≤ 600000) (ht : 0 ≤ t.ends ∧ t.ends ≤ 10000 ∧ 0 ≤ t.sides ∧ t.sides ≤ 10000) :
    Calls Tryz.prog 75 #[.agg #[.string b.name, .string b.species, .int .i64 b.length, .int .i64 b.width, .int .i64 b.thick, .int .i64 b.cut, .int .i64 b.moisture, .slice a b.defects.length c], .agg #[.int .i64 t.kerf, .int .i64 t.ends, .int .i64 t.sides]] w fun e w' => e = .returned (.agg #[.int .i64 q.x1, .int .i64 q.y1, .int .i64 q.x2, .int .i64 q.y2]) ∧ Below w.heap.size w w' := by
 have v1 : IntKind.i64.wrap (b.length - t.ends) = b.length - t.ends := IntWalk.i64_in _ (by omega)
 have v2 : IntKind.i64.wrap (b.width - t.sides) = b.width - t.sides := IntWalk.i64_in _ (by omega)
 have hq' : wholeR ⟨t.ends, t.sides, b.length - t.ends, b.width - t.sides⟩ = q := hq
 go_enter Tryz.func75, Tryz.ntmps75
 go_wp2_with (go_at_call 58; refine (whole_is ⟨t.ends, t.sides, b.length - t.ends, b.width - t.sides⟩ q _ hq').mono ?_; rintro e w1 ⟨rfl, hb1⟩; obtain ⟨⟨k0, k1, k2, k3⟩, f0, f1, f2, f3⟩ := cells4 hb1; simp only [World.size_alloc] at k0 k1 k2 k3 f0 f1 f2 f3)
 exact bodyPost_ret (v := .agg #[.int .i64 q.x1, .int .i64 q.y1, .int .i64 q.x2, .int .i64 q.y2]) (by simp [results, Tryz.results75, go_sem, *]) rfl ⟨rfl, by repeat (first | (exact ((((Below.refl _ _).alloc (Nat.le_refl _) _).alloc (by simp) _).alloc (by simp; omega) _).trans (hb1.mono (by simp; omega))) | (refine Below.setCell ?_ (by simp; omega) _))⟩
theorem area_any (r : Rect) (w : World) : Calls Tryz.prog 27 #[.agg #[.int .i64 r.x1, .int .i64 r.y1, .int .i64 r.x2, .int .i64 r.y2]] w fun e w' => (∃ n, e = .returned (.int .i64 n)) ∧ Below w.heap.size w w' := by
 go_enter Tryz.func27, Tryz.ntmps27
 go_wp2_with fail
 go_ret
 exact ⟨⟨_, rfl⟩, (Below.refl _ _).alloc (Nat.le_refl _) _⟩
theorem leaf_any (x : Cut) (w : World) : Calls Tryz.prog 28 #[.agg #[.bool x.across, .int .i64 x.at_, .int .i64 x.low, .int .i64 x.high, .int .i64 x.blank]] w fun e w' => e = .returned (.bool (decide (x.low = 0))) ∧ Below w.heap.size w w' := by
 go_enter Tryz.func28, Tryz.ntmps28
 go_wp2_with fail
 go_ret
 exact ⟨ret_bool (by first | rfl | simp), (Below.refl _ _).alloc (Nat.le_refl _) _⟩
end Go.Proofs.YtjmgboipbhddlaaGreatDoor

set_option linter.unusedVariables false
set_option linter.unusedSimpArgs false
namespace Go.Proofs.YtjmgboipbhddlaaGreatDoor
open Go Go.RowKit

structure BoxR (W : World) (g : Nat) (r : Rect) : Prop where
 c0 : W.cell? ⟨g, 0, none⟩ = some (.int .i64 r.x1)
 c1 : W.cell? ⟨g, 1, none⟩ = some (.int .i64 r.y1)
 c2 : W.cell? ⟨g, 2, none⟩ = some (.int .i64 r.x2)
 c3 : W.cell? ⟨g, 3, none⟩ = some (.int .i64 r.y2)
 f0 : W.frozen? ⟨g, 0, none⟩ = false
 f1 : W.frozen? ⟨g, 1, none⟩ = false
 f2 : W.frozen? ⟨g, 2, none⟩ = false
 f3 : W.frozen? ⟨g, 3, none⟩ = false
theorem BoxR.lt {W : World} {g : Nat} {r : Rect} (h : BoxR W g r) : g < W.heap.size := by simpa using block_lt_of_cell h.c0
theorem BoxR.keep {W W' : World} {g : Nat} {r : Rect} (h : BoxR W g r) (hb : Below W.heap.size W W') : BoxR W' g r := by
 have hl := h.lt
 have hf := fun o => hb.frozen (p := ⟨g, o, none⟩) hl
 exact ⟨cell_keep hb h.c0, cell_keep hb h.c1, cell_keep hb h.c2, cell_keep hb h.c3, by rw [hf]; exact h.f0, by rw [hf]; exact h.f1, by rw [hf]; exact h.f2, by rw [hf]; exact h.f3⟩
theorem BoxR.drew {W : World} {g : Nat} {r : Rect} (h : BoxR W g r) : BoxR W.drew g r := ⟨h.c0, h.c1, h.c2, h.c3, h.f0, h.f1, h.f2, h.f3⟩
theorem BoxR.set {W : World} {g : Nat} {r : Rect} {a : Addr} {u : Value} (h : BoxR W g r) (hne : a.block ≠ g) (ha : a.spot = none) : BoxR (W.setCell a u) g r := by
 have hn : ∀ o, a ≠ (⟨g, o, none⟩ : Addr) := fun o e => hne (by rw [e])
 exact ⟨by rw [cell_set_ne (hn _) ha rfl]; exact h.c0, by rw [cell_set_ne (hn _) ha rfl]; exact h.c1, by rw [cell_set_ne (hn _) ha rfl]; exact h.c2, by rw [cell_set_ne (hn _) ha rfl]; exact h.c3, by rw [frozen_set]; exact h.f0, by rw [frozen_set]; exact h.f1, by rw [frozen_set]; exact h.f2, by rw [frozen_set]; exact h.f3⟩

theorem gen_any {G : World → Prop} {w : World} (R : World → Prop) (h : R w) (k : ∀ W, R W → G W) : G w := k w h

set_option maxRecDepth 100000 in
set_option maxHeartbeats 4000000 in
theorem parted_is (r low high : Rect) (across : Bool) (a kerf : Int) (w : World) (hl : lowR r across a = low) (hh : highR r across a kerf = high)
    (h1 : 0 ≤ r.x1 ∧ r.x1 ≤ 600000 ∧ 0 ≤ r.y1 ∧ r.y1 ≤ 600000) (h2 : 0 ≤ a ∧ a ≤ 600000) (h3 : 0 ≤ kerf ∧ kerf ≤ 10000) :
    Calls Tryz.prog 29 #[.agg #[.int .i64 r.x1, .int .i64 r.y1, .int .i64 r.x2, .int .i64 r.y2], .bool across, .int .i64 a, .int .i64 kerf] w fun e w' => (∃ n, e = .returned (.tuple #[.agg #[.int .i64 low.x1, .int .i64 low.y1, .int .i64 low.x2, .int .i64 low.y2], .agg #[.int .i64 high.x1, .int .i64 high.y1, .int .i64 high.x2, .int .i64 high.y2], .int .i64 n])) ∧ Below w.heap.size w w' := by
 have kx0 : ∀ x : KW (fun W => BoxR W w.heap.size r), x.w.cell? ⟨w.heap.size, 0, none⟩ = some (.int .i64 r.x1) := fun x => x.ok.c0
 have kx1 : ∀ x : KW (fun W => BoxR W w.heap.size r), x.w.cell? ⟨w.heap.size, 1, none⟩ = some (.int .i64 r.y1) := fun x => x.ok.c1
 have kx2 : ∀ x : KW (fun W => BoxR W w.heap.size r), x.w.cell? ⟨w.heap.size, 2, none⟩ = some (.int .i64 r.x2) := fun x => x.ok.c2
 have kx3 : ∀ x : KW (fun W => BoxR W w.heap.size r), x.w.cell? ⟨w.heap.size, 3, none⟩ = some (.int .i64 r.y2) := fun x => x.ok.c3
 go_enter Tryz.func29, Tryz.ntmps29
 cases across
 ·have v1 : IntKind.i64.wrap (r.y1 + a) = r.y1 + a := IntWalk.i64_in _ (by omega)
  have v2 : IntKind.i64.wrap (r.y1 + a + kerf) = r.y1 + a + kerf := IntWalk.i64_in _ (by omega)
  have HL := Lib.hid (show low = ⟨r.x1, r.y1, r.x2, r.y1 + a⟩ by rw [← hl]; rfl)
  have HH := Lib.hid (show wholeR ⟨r.x1, r.y1 + a + kerf, r.x2, r.y2⟩ = high by rw [← hh]; rfl)
  clear h1 h2 h3 hl hh
  go_wp2_with fail
  refine gen_world (fun W => BoxR W w.heap.size r ∧ BoxR W (w.heap.size + 1) ⟨0, 0, 0, 0⟩ ∧ BoxR W (w.heap.size + 2) ⟨0, 0, 0, 0⟩ ∧ Below w.heap.size w W ∧ w.heap.size + 2 < W.heap.size) ?_ ?_
  ·refine ⟨?_, ?_, ?_, ?_, by simp⟩
   ·exact ⟨by simp [go_sem, *], by simp [go_sem, *], by simp [go_sem, *], by simp [go_sem, *], by simp [go_sem, *], by simp [go_sem, *], by simp [go_sem, *], by simp [go_sem, *]⟩
   ·exact ⟨by simp [go_sem, *], by simp [go_sem, *], by simp [go_sem, *], by simp [go_sem, *], by simp [go_sem, *], by simp [go_sem, *], by simp [go_sem, *], by simp [go_sem, *]⟩
   ·exact ⟨by simp [go_sem, *], by simp [go_sem, *], by simp [go_sem, *], by simp [go_sem, *], by simp [go_sem, *], by simp [go_sem, *], by simp [go_sem, *], by simp [go_sem, *]⟩
   ·exact ((((Below.refl _ _).alloc (Nat.le_refl _) _).alloc (by simp) _).alloc (by simp; omega) _)
  rintro W ⟨b0, b1, b2, hbW, hz⟩
  haveI hne : Nonempty (KW (fun W => BoxR W w.heap.size r)) := ⟨⟨_, b0⟩⟩
  refine wp_region_tree (fun w' => ∃ x : KW (fun W => BoxR W w.heap.size r), w' = x.w) 3 (.take 0 (.take 1 (.one 2 .done))) (by kernel_rfl) (by kernel_rfl) (KW.mk' b0.drew) ?_
  repeat (refine wpTree_take ?_; simp only [nthOp]; (first | go_big_quiet_step (fail) | quiet_step (fail)); refine wpQuiet_nil ?_)
  refine wpTree_one ?_
  simp only [nthOp]
  have b0' := Lib.hid b0
  obtain ⟨c0, c1, c2, c3, f0, f1, f2, f3⟩ := b0
  obtain ⟨d0, d1, d2, d3, g0, g1, g2, g3⟩ := b1
  obtain ⟨e0, e1, e2, e3, h0, h1', h2', h3'⟩ := b2
  go_wp2_with fail
  refine One_mk (KW.mk' (by repeat (first | (with_reducible exact b0'.out) | (with_reducible refine BoxR.drew ?_) | (with_reducible refine BoxR.set ?_ (by first | (simp; done) | (simp; omega)) rfl)))) (wpTree_done ?_)
  simp only [List.drop_succ_cons, List.drop_zero]
  go_wp2_with fail
  refine NP_mk ?_
  go_wp2_with fail
  refine gen_world (fun W => BoxR W w.heap.size r ∧ BoxR W (w.heap.size + 1) r ∧ BoxR W (w.heap.size + 2) r ∧ Below w.heap.size w W ∧ w.heap.size + 2 < W.heap.size) ?_ ?_
  ·refine ⟨(by repeat (first | (with_reducible exact b0'.out) | (with_reducible refine BoxR.drew ?_) | (with_reducible refine BoxR.set ?_ (by first | (simp; done) | (simp; omega)) rfl))), ?_, ?_, (by repeat (first | (with_reducible exact hbW) | (with_reducible refine Below.drew ?_) | (with_reducible refine Below.setCell ?_ (by first | (simp; done) | (simp; omega)) _))), by simpa using hz⟩
   ·exact ⟨by simp [go_sem, *], by simp [go_sem, *], by simp [go_sem, *], by simp [go_sem, *], by simp [go_sem, *], by simp [go_sem, *], by simp [go_sem, *], by simp [go_sem, *]⟩
   ·exact ⟨by simp [go_sem, *], by simp [go_sem, *], by simp [go_sem, *], by simp [go_sem, *], by simp [go_sem, *], by simp [go_sem, *], by simp [go_sem, *], by simp [go_sem, *]⟩
  clear b0' c0 c1 c2 c3 d0 d1 d2 d3 e0 e1 e2 e3 f0 f1 f2 f3 g0 g1 g2 g3 h0 h1' h2' h3' hbW hz
  rintro W2 ⟨b0, b1, b2, hbW, hz⟩
  refine wp_region_tree (fun w' => ∃ x : KW (fun W => BoxR W w.heap.size r), w' = x.w) 12 (.take 0 (.take 1 (.take 2 (.take 3 (.take 4 (.take 5 (.take 6 (.take 7 (.take 8 (.take 9 (.take 10 (.one 11 .done)))))))))))) (by kernel_rfl) (by kernel_rfl) (KW.mk' b0.drew) ?_
  repeat (refine wpTree_take ?_; simp only [nthOp]; (first | go_big_quiet_step (fail) | quiet_step (fail)); refine wpQuiet_nil ?_)
  refine wpTree_one ?_
  simp only [nthOp]
  have b0' := Lib.hid b0
  obtain ⟨c0, c1, c2, c3, f0, f1, f2, f3⟩ := b0
  obtain ⟨d0, d1, d2, d3, g0, g1, g2, g3⟩ := b1
  obtain ⟨e0, e1, e2, e3, h0, h1', h2', h3'⟩ := b2
  go_wp2_with fail
  refine One_mk (KW.mk' (by repeat (first | (with_reducible exact b0'.out) | (with_reducible refine BoxR.drew ?_) | (with_reducible refine BoxR.set ?_ (by first | (simp; done) | (simp; omega)) rfl)))) (wpTree_done ?_)
  simp only [List.drop_succ_cons, List.drop_zero]
  go_wp2_with fail
  refine NP_mk ?_
  go_upto_region 5 with fail
  refine gen_world (fun W => BoxR W w.heap.size r ∧ BoxR W (w.heap.size + 1) low ∧ BoxR W (w.heap.size + 2) ⟨r.x1, r.y1 + a + kerf, r.x2, r.y2⟩ ∧ Below w.heap.size w W ∧ w.heap.size + 2 < W.heap.size) ?_ ?_
  ·rw [HL.out]
   refine ⟨(by repeat (first | (with_reducible exact b0'.out) | (with_reducible refine BoxR.drew ?_) | (with_reducible refine BoxR.set ?_ (by first | (simp; done) | (simp; omega)) rfl))), ?_, ?_, (by repeat (first | (with_reducible exact hbW) | (with_reducible refine Below.drew ?_) | (with_reducible refine Below.setCell ?_ (by first | (simp; done) | (simp; omega)) _))), by simpa using hz⟩
   ·exact ⟨by simp [go_sem, *], by simp [go_sem, *], by simp [go_sem, *], by simp [go_sem, *], by simp [go_sem, *], by simp [go_sem, *], by simp [go_sem, *], by simp [go_sem, *]⟩
   ·exact ⟨by simp [go_sem, *], by simp [go_sem, *], by simp [go_sem, *], by simp [go_sem, *], by simp [go_sem, *], by simp [go_sem, *], by simp [go_sem, *], by simp [go_sem, *]⟩
  clear b0' c0 c1 c2 c3 d0 d1 d2 d3 e0 e1 e2 e3 f0 f1 f2 f3 g0 g1 g2 g3 h0 h1' h2' h3' hbW hz
  rintro W3 ⟨b0, b1, b2, hbW, hz⟩
  have b2' := Lib.hid b2
  obtain ⟨e0, e1, e2, e3, h0, h1', h2', h3'⟩ := b2
  go_wp2_with (go_at_call 58; refine (whole_is ⟨_, _, _, _⟩ high _ HH.out).mono ?_; rintro e w4 ⟨rfl, hb4⟩; have b20 := Lib.hid (b2'.out.keep hb4); obtain ⟨e0', e1', e2', e3', h0'', h1'', h2'', h3''⟩ := b20.out)
  refine gen_world (fun W => BoxR W w.heap.size r ∧ BoxR W (w.heap.size + 1) low ∧ BoxR W (w.heap.size + 2) high ∧ Below w.heap.size w W ∧ w.heap.size + 2 < W.heap.size) ?_ ?_
  ·have hz4 := hb4.size
   refine ⟨?_, ?_, ?_, ?_, by simp; omega⟩
   ·repeat (first | (with_reducible exact b0.keep hb4) | (with_reducible refine BoxR.drew ?_) | (with_reducible refine BoxR.set ?_ (by first | (simp; done) | (simp; omega)) rfl))
   ·repeat (first | (with_reducible exact b1.keep hb4) | (with_reducible refine BoxR.drew ?_) | (with_reducible refine BoxR.set ?_ (by first | (simp; done) | (simp; omega)) rfl))
   ·exact ⟨by simp [go_sem, *], by simp [go_sem, *], by simp [go_sem, *], by simp [go_sem, *], by simp [go_sem, *], by simp [go_sem, *], by simp [go_sem, *], by simp [go_sem, *]⟩
   ·repeat (first | (with_reducible exact hbW.trans (hb4.mono (by omega))) | (with_reducible refine Below.setCell ?_ (by first | (simp; done) | (simp; omega)) _))
  clear b2' e0 e1 e2 e3 h0 h1' h2' h3' b0 b1 hbW hz b20 e0' e1' e2' e3' h0'' h1'' h2'' h3'' hb4
  rintro W5 ⟨b0, b1, b2, hbW, hz⟩
  haveI hne : Nonempty (KW (fun W => BoxR W w.heap.size r ∧ BoxR W (w.heap.size + 1) low ∧ BoxR W (w.heap.size + 2) high)) := ⟨⟨_, b0, b1, b2⟩⟩
  have ky0 : ∀ x : KW (fun W => BoxR W w.heap.size r ∧ BoxR W (w.heap.size + 1) low ∧ BoxR W (w.heap.size + 2) high), x.w.cell? ⟨w.heap.size, 0, none⟩ = some (.int .i64 r.x1) ∧ x.w.cell? ⟨w.heap.size, 1, none⟩ = some (.int .i64 r.y1) ∧ x.w.cell? ⟨w.heap.size, 2, none⟩ = some (.int .i64 r.x2) ∧ x.w.cell? ⟨w.heap.size, 3, none⟩ = some (.int .i64 r.y2) := fun x => ⟨x.ok.1.c0, x.ok.1.c1, x.ok.1.c2, x.ok.1.c3⟩
  have ky1 : ∀ x : KW (fun W => BoxR W w.heap.size r ∧ BoxR W (w.heap.size + 1) low ∧ BoxR W (w.heap.size + 2) high), x.w.cell? ⟨w.heap.size + 1, 0, none⟩ = some (.int .i64 low.x1) ∧ x.w.cell? ⟨w.heap.size + 1, 1, none⟩ = some (.int .i64 low.y1) ∧ x.w.cell? ⟨w.heap.size + 1, 2, none⟩ = some (.int .i64 low.x2) ∧ x.w.cell? ⟨w.heap.size + 1, 3, none⟩ = some (.int .i64 low.y2) := fun x => ⟨x.ok.2.1.c0, x.ok.2.1.c1, x.ok.2.1.c2, x.ok.2.1.c3⟩
  have ky2 : ∀ x : KW (fun W => BoxR W w.heap.size r ∧ BoxR W (w.heap.size + 1) low ∧ BoxR W (w.heap.size + 2) high), x.w.cell? ⟨w.heap.size + 2, 0, none⟩ = some (.int .i64 high.x1) ∧ x.w.cell? ⟨w.heap.size + 2, 1, none⟩ = some (.int .i64 high.y1) ∧ x.w.cell? ⟨w.heap.size + 2, 2, none⟩ = some (.int .i64 high.x2) ∧ x.w.cell? ⟨w.heap.size + 2, 3, none⟩ = some (.int .i64 high.y2) := fun x => ⟨x.ok.2.2.c0, x.ok.2.2.c1, x.ok.2.2.c2, x.ok.2.2.c3⟩
  refine wp_region_tree (fun w' => ∃ x : KW (fun W => BoxR W w.heap.size r ∧ BoxR W (w.heap.size + 1) low ∧ BoxR W (w.heap.size + 2) high), w' = x.w) 12 (.take 0 (.take 1 (.take 2 (.take 4 (.take 7 (.one 3 (.one 5 (.take 6 (.one 8 (.take 9 (.one 10 (.one 11 .done)))))))))))) (by kernel_rfl) (by kernel_rfl) (KW.mk' ⟨b0.drew, b1.drew, b2.drew⟩) ?_
  repeat (refine wpTree_take ?_; simp only [nthOp]; (first | go_big_quiet_step (fail) | quiet_step (fail)); refine wpQuiet_nil ?_)
  have q0 := b0.drew
  have q1 := b1.drew
  have q2 := b2.drew
  have qb : Below w.heap.size w W5.drew := hbW.drew
  have qz : w.heap.size + 2 < W5.drew.heap.size := by simpa using hz
  generalize W5.drew = W6 at *
  clear b0 b1 b2 hbW hz
  refine wpTree_one ?_
  simp only [nthOp]
  go_wp2_with (go_at_call 27; refine (area_any r _).mono ?_; rintro e w7 ⟨⟨n1, rfl⟩, hb7⟩)
  refine One_mk (KW.mk' ⟨q0.keep hb7, q1.keep hb7, q2.keep hb7⟩) ?_
  refine wpTree_one ?_
  simp only [nthOp]
  go_wp2_with (go_at_call 27; refine (area_any low _).mono ?_; rintro e w8 ⟨⟨n2, rfl⟩, hb8⟩)
  refine One_mk (KW.mk' ⟨(q0.keep hb7).keep hb8, (q1.keep hb7).keep hb8, (q2.keep hb7).keep hb8⟩) ?_
  repeat (refine wpTree_take ?_; simp only [nthOp]; (first | go_big_quiet_step (fail) | quiet_step (fail)); refine wpQuiet_nil ?_)
  refine wpTree_one ?_
  simp only [nthOp]
  go_wp2_with (go_at_call 27; refine (area_any high _).mono ?_; rintro e w9 ⟨⟨n3, rfl⟩, hb9⟩)
  have p0 := Lib.hid (((q0.keep hb7).keep hb8).keep hb9)
  have p1 := Lib.hid (((q1.keep hb7).keep hb8).keep hb9)
  have p2 := Lib.hid (((q2.keep hb7).keep hb8).keep hb9)
  have z7 := hb7.size
  have z8 := hb8.size
  have z9 := hb9.size
  have pb := Lib.hid (((qb.trans (hb7.mono (by omega))).trans (hb8.mono (by omega))).trans (hb9.mono (by omega)))
  clear q0 q1 q2 qb hb7 hb8 hb9
  refine One_mk (KW.mk' ⟨p0.out, p1.out, p2.out⟩) ?_
  repeat (refine wpTree_take ?_; simp only [nthOp]; (first | go_big_quiet_step (fail) | quiet_step (fail)); refine wpQuiet_nil ?_)
  obtain ⟨d0, d1, d2, d3, g0, g1, g2, g3⟩ := p1.out
  obtain ⟨e0, e1, e2, e3, h0, h1', h2', h3'⟩ := p2.out
  refine wpTree_one ?_
  simp only [nthOp]
  go_wp2_with fail
  refine One_mk (KW.mk' ⟨?_, ?_, ?_⟩) ?_
  ·(repeat (first | (with_reducible exact p0.out) | (with_reducible refine BoxR.drew ?_) | (with_reducible refine BoxR.set ?_ (by first | (simp; done) | (simp; omega)) rfl)))
  ·exact ⟨by simp [go_sem, *], by simp [go_sem, *], by simp [go_sem, *], by simp [go_sem, *], by simp [go_sem, *], by simp [go_sem, *], by simp [go_sem, *], by simp [go_sem, *]⟩
  ·(repeat (first | (with_reducible exact p2.out) | (with_reducible refine BoxR.drew ?_) | (with_reducible refine BoxR.set ?_ (by first | (simp; done) | (simp; omega)) rfl)))
  refine wpTree_one ?_
  simp only [nthOp]
  go_wp2_with fail
  refine One_mk (KW.mk' ⟨?_, ?_, ?_⟩) (wpTree_done ?_)
  ·(repeat (first | (with_reducible exact p0.out) | (with_reducible refine BoxR.drew ?_) | (with_reducible refine BoxR.set ?_ (by first | (simp; done) | (simp; omega)) rfl)))
  ·exact ⟨by simp [go_sem, *], by simp [go_sem, *], by simp [go_sem, *], by simp [go_sem, *], by simp [go_sem, *], by simp [go_sem, *], by simp [go_sem, *], by simp [go_sem, *]⟩
  ·exact ⟨by simp [go_sem, *], by simp [go_sem, *], by simp [go_sem, *], by simp [go_sem, *], by simp [go_sem, *], by simp [go_sem, *], by simp [go_sem, *], by simp [go_sem, *]⟩
  simp only [List.drop_succ_cons, List.drop_zero]
  go_wp2_with fail
  refine NP_mk ?_
  go_wp2_with fail
  refine gen_any (G := fun W => bodyPost _ _ _ _ _ W) (fun W => BoxR W (w.heap.size + 1) low ∧ BoxR W (w.heap.size + 2) high ∧ Below w.heap.size w W) ?_ ?_
  ·refine ⟨?_, ?_, ?_⟩
   ·exact ⟨by simp [go_sem, *], by simp [go_sem, *], by simp [go_sem, *], by simp [go_sem, *], by simp [go_sem, *], by simp [go_sem, *], by simp [go_sem, *], by simp [go_sem, *]⟩
   ·exact ⟨by simp [go_sem, *], by simp [go_sem, *], by simp [go_sem, *], by simp [go_sem, *], by simp [go_sem, *], by simp [go_sem, *], by simp [go_sem, *], by simp [go_sem, *]⟩
   ·(repeat (first | (with_reducible exact pb.out) | (with_reducible refine Below.setCell ?_ (by first | (simp; done) | (simp; omega)) _)))
  rintro W9 ⟨⟨d0', d1', d2', d3', -, -, -, -⟩, ⟨e0', e1', e2', e3', -, -, -, -⟩, hb⟩
  exact bodyPost_ret (v := .tuple #[.agg #[.int .i64 low.x1, .int .i64 low.y1, .int .i64 low.x2, .int .i64 low.y2], .agg #[.int .i64 high.x1, .int .i64 high.y1, .int .i64 high.x2, .int .i64 high.y2], _]) (by simp [results, Tryz.results29, go_sem, d0', d1', d2', d3', e0', e1', e2', e3']; rfl) rfl ⟨⟨_, rfl⟩, hb⟩
 ·have v1 : IntKind.i64.wrap (r.x1 + a) = r.x1 + a := IntWalk.i64_in _ (by omega)
  have v2 : IntKind.i64.wrap (r.x1 + a + kerf) = r.x1 + a + kerf := IntWalk.i64_in _ (by omega)
  have HL := Lib.hid (show low = ⟨r.x1, r.y1, r.x1 + a, r.y2⟩ by rw [← hl]; rfl)
  have HH := Lib.hid (show wholeR ⟨r.x1 + a + kerf, r.y1, r.x2, r.y2⟩ = high by rw [← hh]; rfl)
  clear h1 h2 h3 hl hh
  go_wp2_with fail
  refine gen_world (fun W => BoxR W w.heap.size r ∧ BoxR W (w.heap.size + 1) ⟨0, 0, 0, 0⟩ ∧ BoxR W (w.heap.size + 2) ⟨0, 0, 0, 0⟩ ∧ Below w.heap.size w W ∧ w.heap.size + 2 < W.heap.size) ?_ ?_
  ·refine ⟨?_, ?_, ?_, ?_, by simp⟩
   ·exact ⟨by simp [go_sem, *], by simp [go_sem, *], by simp [go_sem, *], by simp [go_sem, *], by simp [go_sem, *], by simp [go_sem, *], by simp [go_sem, *], by simp [go_sem, *]⟩
   ·exact ⟨by simp [go_sem, *], by simp [go_sem, *], by simp [go_sem, *], by simp [go_sem, *], by simp [go_sem, *], by simp [go_sem, *], by simp [go_sem, *], by simp [go_sem, *]⟩
   ·exact ⟨by simp [go_sem, *], by simp [go_sem, *], by simp [go_sem, *], by simp [go_sem, *], by simp [go_sem, *], by simp [go_sem, *], by simp [go_sem, *], by simp [go_sem, *]⟩
   ·exact ((((Below.refl _ _).alloc (Nat.le_refl _) _).alloc (by simp) _).alloc (by simp; omega) _)
  rintro W ⟨b0, b1, b2, hbW, hz⟩
  haveI hne : Nonempty (KW (fun W => BoxR W w.heap.size r)) := ⟨⟨_, b0⟩⟩
  refine wp_region_tree (fun w' => ∃ x : KW (fun W => BoxR W w.heap.size r), w' = x.w) 3 (.take 0 (.take 1 (.one 2 .done))) (by kernel_rfl) (by kernel_rfl) (KW.mk' b0.drew) ?_
  repeat (refine wpTree_take ?_; simp only [nthOp]; (first | go_big_quiet_step (fail) | quiet_step (fail)); refine wpQuiet_nil ?_)
  refine wpTree_one ?_
  simp only [nthOp]
  have b0' := Lib.hid b0
  obtain ⟨c0, c1, c2, c3, f0, f1, f2, f3⟩ := b0
  obtain ⟨d0, d1, d2, d3, g0, g1, g2, g3⟩ := b1
  obtain ⟨e0, e1, e2, e3, h0, h1', h2', h3'⟩ := b2
  go_wp2_with fail
  refine One_mk (KW.mk' (by repeat (first | (with_reducible exact b0'.out) | (with_reducible refine BoxR.drew ?_) | (with_reducible refine BoxR.set ?_ (by first | (simp; done) | (simp; omega)) rfl)))) (wpTree_done ?_)
  simp only [List.drop_succ_cons, List.drop_zero]
  go_wp2_with fail
  refine NP_mk ?_
  go_wp2_with fail
  refine gen_world (fun W => BoxR W w.heap.size r ∧ BoxR W (w.heap.size + 1) r ∧ BoxR W (w.heap.size + 2) r ∧ Below w.heap.size w W ∧ w.heap.size + 2 < W.heap.size) ?_ ?_
  ·refine ⟨(by repeat (first | (with_reducible exact b0'.out) | (with_reducible refine BoxR.drew ?_) | (with_reducible refine BoxR.set ?_ (by first | (simp; done) | (simp; omega)) rfl))), ?_, ?_, (by repeat (first | (with_reducible exact hbW) | (with_reducible refine Below.drew ?_) | (with_reducible refine Below.setCell ?_ (by first | (simp; done) | (simp; omega)) _))), by simpa using hz⟩
   ·exact ⟨by simp [go_sem, *], by simp [go_sem, *], by simp [go_sem, *], by simp [go_sem, *], by simp [go_sem, *], by simp [go_sem, *], by simp [go_sem, *], by simp [go_sem, *]⟩
   ·exact ⟨by simp [go_sem, *], by simp [go_sem, *], by simp [go_sem, *], by simp [go_sem, *], by simp [go_sem, *], by simp [go_sem, *], by simp [go_sem, *], by simp [go_sem, *]⟩
  clear b0' c0 c1 c2 c3 d0 d1 d2 d3 e0 e1 e2 e3 f0 f1 f2 f3 g0 g1 g2 g3 h0 h1' h2' h3' hbW hz
  rintro W2 ⟨b0, b1, b2, hbW, hz⟩
  refine wp_region_tree (fun w' => ∃ x : KW (fun W => BoxR W w.heap.size r), w' = x.w) 12 (.take 0 (.take 1 (.take 2 (.take 3 (.take 4 (.take 5 (.take 6 (.take 7 (.take 8 (.take 9 (.take 10 (.one 11 .done)))))))))))) (by kernel_rfl) (by kernel_rfl) (KW.mk' b0.drew) ?_
  repeat (refine wpTree_take ?_; simp only [nthOp]; (first | go_big_quiet_step (fail) | quiet_step (fail)); refine wpQuiet_nil ?_)
  refine wpTree_one ?_
  simp only [nthOp]
  have b0' := Lib.hid b0
  obtain ⟨c0, c1, c2, c3, f0, f1, f2, f3⟩ := b0
  obtain ⟨d0, d1, d2, d3, g0, g1, g2, g3⟩ := b1
  obtain ⟨e0, e1, e2, e3, h0, h1', h2', h3'⟩ := b2
  go_wp2_with fail
  refine One_mk (KW.mk' (by repeat (first | (with_reducible exact b0'.out) | (with_reducible refine BoxR.drew ?_) | (with_reducible refine BoxR.set ?_ (by first | (simp; done) | (simp; omega)) rfl)))) (wpTree_done ?_)
  simp only [List.drop_succ_cons, List.drop_zero]
  go_wp2_with fail
  refine NP_mk ?_
  go_upto_region 5 with fail
  refine gen_world (fun W => BoxR W w.heap.size r ∧ BoxR W (w.heap.size + 1) low ∧ BoxR W (w.heap.size + 2) ⟨r.x1 + a + kerf, r.y1, r.x2, r.y2⟩ ∧ Below w.heap.size w W ∧ w.heap.size + 2 < W.heap.size) ?_ ?_
  ·rw [HL.out]
   refine ⟨(by repeat (first | (with_reducible exact b0'.out) | (with_reducible refine BoxR.drew ?_) | (with_reducible refine BoxR.set ?_ (by first | (simp; done) | (simp; omega)) rfl))), ?_, ?_, (by repeat (first | (with_reducible exact hbW) | (with_reducible refine Below.drew ?_) | (with_reducible refine Below.setCell ?_ (by first | (simp; done) | (simp; omega)) _))), by simpa using hz⟩
   ·exact ⟨by simp [go_sem, *], by simp [go_sem, *], by simp [go_sem, *], by simp [go_sem, *], by simp [go_sem, *], by simp [go_sem, *], by simp [go_sem, *], by simp [go_sem, *]⟩
   ·exact ⟨by simp [go_sem, *], by simp [go_sem, *], by simp [go_sem, *], by simp [go_sem, *], by simp [go_sem, *], by simp [go_sem, *], by simp [go_sem, *], by simp [go_sem, *]⟩
  clear b0' c0 c1 c2 c3 d0 d1 d2 d3 e0 e1 e2 e3 f0 f1 f2 f3 g0 g1 g2 g3 h0 h1' h2' h3' hbW hz
  rintro W3 ⟨b0, b1, b2, hbW, hz⟩
  have b2' := Lib.hid b2
  obtain ⟨e0, e1, e2, e3, h0, h1', h2', h3'⟩ := b2
  go_wp2_with (go_at_call 58; refine (whole_is ⟨_, _, _, _⟩ high _ HH.out).mono ?_; rintro e w4 ⟨rfl, hb4⟩; have b20 := Lib.hid (b2'.out.keep hb4); obtain ⟨e0', e1', e2', e3', h0'', h1'', h2'', h3''⟩ := b20.out)
  refine gen_world (fun W => BoxR W w.heap.size r ∧ BoxR W (w.heap.size + 1) low ∧ BoxR W (w.heap.size + 2) high ∧ Below w.heap.size w W ∧ w.heap.size + 2 < W.heap.size) ?_ ?_
  ·have hz4 := hb4.size
   refine ⟨?_, ?_, ?_, ?_, by simp; omega⟩
   ·repeat (first | (with_reducible exact b0.keep hb4) | (with_reducible refine BoxR.drew ?_) | (with_reducible refine BoxR.set ?_ (by first | (simp; done) | (simp; omega)) rfl))
   ·repeat (first | (with_reducible exact b1.keep hb4) | (with_reducible refine BoxR.drew ?_) | (with_reducible refine BoxR.set ?_ (by first | (simp; done) | (simp; omega)) rfl))
   ·exact ⟨by simp [go_sem, *], by simp [go_sem, *], by simp [go_sem, *], by simp [go_sem, *], by simp [go_sem, *], by simp [go_sem, *], by simp [go_sem, *], by simp [go_sem, *]⟩
   ·repeat (first | (with_reducible exact hbW.trans (hb4.mono (by omega))) | (with_reducible refine Below.setCell ?_ (by first | (simp; done) | (simp; omega)) _))
  clear b2' e0 e1 e2 e3 h0 h1' h2' h3' b0 b1 hbW hz b20 e0' e1' e2' e3' h0'' h1'' h2'' h3'' hb4
  rintro W5 ⟨b0, b1, b2, hbW, hz⟩
  haveI hne : Nonempty (KW (fun W => BoxR W w.heap.size r ∧ BoxR W (w.heap.size + 1) low ∧ BoxR W (w.heap.size + 2) high)) := ⟨⟨_, b0, b1, b2⟩⟩
  have ky0 : ∀ x : KW (fun W => BoxR W w.heap.size r ∧ BoxR W (w.heap.size + 1) low ∧ BoxR W (w.heap.size + 2) high), x.w.cell? ⟨w.heap.size, 0, none⟩ = some (.int .i64 r.x1) ∧ x.w.cell? ⟨w.heap.size, 1, none⟩ = some (.int .i64 r.y1) ∧ x.w.cell? ⟨w.heap.size, 2, none⟩ = some (.int .i64 r.x2) ∧ x.w.cell? ⟨w.heap.size, 3, none⟩ = some (.int .i64 r.y2) := fun x => ⟨x.ok.1.c0, x.ok.1.c1, x.ok.1.c2, x.ok.1.c3⟩
  have ky1 : ∀ x : KW (fun W => BoxR W w.heap.size r ∧ BoxR W (w.heap.size + 1) low ∧ BoxR W (w.heap.size + 2) high), x.w.cell? ⟨w.heap.size + 1, 0, none⟩ = some (.int .i64 low.x1) ∧ x.w.cell? ⟨w.heap.size + 1, 1, none⟩ = some (.int .i64 low.y1) ∧ x.w.cell? ⟨w.heap.size + 1, 2, none⟩ = some (.int .i64 low.x2) ∧ x.w.cell? ⟨w.heap.size + 1, 3, none⟩ = some (.int .i64 low.y2) := fun x => ⟨x.ok.2.1.c0, x.ok.2.1.c1, x.ok.2.1.c2, x.ok.2.1.c3⟩
  have ky2 : ∀ x : KW (fun W => BoxR W w.heap.size r ∧ BoxR W (w.heap.size + 1) low ∧ BoxR W (w.heap.size + 2) high), x.w.cell? ⟨w.heap.size + 2, 0, none⟩ = some (.int .i64 high.x1) ∧ x.w.cell? ⟨w.heap.size + 2, 1, none⟩ = some (.int .i64 high.y1) ∧ x.w.cell? ⟨w.heap.size + 2, 2, none⟩ = some (.int .i64 high.x2) ∧ x.w.cell? ⟨w.heap.size + 2, 3, none⟩ = some (.int .i64 high.y2) := fun x => ⟨x.ok.2.2.c0, x.ok.2.2.c1, x.ok.2.2.c2, x.ok.2.2.c3⟩
  refine wp_region_tree (fun w' => ∃ x : KW (fun W => BoxR W w.heap.size r ∧ BoxR W (w.heap.size + 1) low ∧ BoxR W (w.heap.size + 2) high), w' = x.w) 12 (.take 0 (.take 1 (.take 2 (.take 4 (.take 7 (.one 3 (.one 5 (.take 6 (.one 8 (.take 9 (.one 10 (.one 11 .done)))))))))))) (by kernel_rfl) (by kernel_rfl) (KW.mk' ⟨b0.drew, b1.drew, b2.drew⟩) ?_
  repeat (refine wpTree_take ?_; simp only [nthOp]; (first | go_big_quiet_step (fail) | quiet_step (fail)); refine wpQuiet_nil ?_)
  have q0 := b0.drew
  have q1 := b1.drew
  have q2 := b2.drew
  have qb : Below w.heap.size w W5.drew := hbW.drew
  have qz : w.heap.size + 2 < W5.drew.heap.size := by simpa using hz
  generalize W5.drew = W6 at *
  clear b0 b1 b2 hbW hz
  refine wpTree_one ?_
  simp only [nthOp]
  go_wp2_with (go_at_call 27; refine (area_any r _).mono ?_; rintro e w7 ⟨⟨n1, rfl⟩, hb7⟩)
  refine One_mk (KW.mk' ⟨q0.keep hb7, q1.keep hb7, q2.keep hb7⟩) ?_
  refine wpTree_one ?_
  simp only [nthOp]
  go_wp2_with (go_at_call 27; refine (area_any low _).mono ?_; rintro e w8 ⟨⟨n2, rfl⟩, hb8⟩)
  refine One_mk (KW.mk' ⟨(q0.keep hb7).keep hb8, (q1.keep hb7).keep hb8, (q2.keep hb7).keep hb8⟩) ?_
  repeat (refine wpTree_take ?_; simp only [nthOp]; (first | go_big_quiet_step (fail) | quiet_step (fail)); refine wpQuiet_nil ?_)
  refine wpTree_one ?_
  simp only [nthOp]
  go_wp2_with (go_at_call 27; refine (area_any high _).mono ?_; rintro e w9 ⟨⟨n3, rfl⟩, hb9⟩)
  have p0 := Lib.hid (((q0.keep hb7).keep hb8).keep hb9)
  have p1 := Lib.hid (((q1.keep hb7).keep hb8).keep hb9)
  have p2 := Lib.hid (((q2.keep hb7).keep hb8).keep hb9)
  have z7 := hb7.size
  have z8 := hb8.size
  have z9 := hb9.size
  have pb := Lib.hid (((qb.trans (hb7.mono (by omega))).trans (hb8.mono (by omega))).trans (hb9.mono (by omega)))
  clear q0 q1 q2 qb hb7 hb8 hb9
  refine One_mk (KW.mk' ⟨p0.out, p1.out, p2.out⟩) ?_
  repeat (refine wpTree_take ?_; simp only [nthOp]; (first | go_big_quiet_step (fail) | quiet_step (fail)); refine wpQuiet_nil ?_)
  obtain ⟨d0, d1, d2, d3, g0, g1, g2, g3⟩ := p1.out
  obtain ⟨e0, e1, e2, e3, h0, h1', h2', h3'⟩ := p2.out
  refine wpTree_one ?_
  simp only [nthOp]
  go_wp2_with fail
  refine One_mk (KW.mk' ⟨?_, ?_, ?_⟩) ?_
  ·(repeat (first | (with_reducible exact p0.out) | (with_reducible refine BoxR.drew ?_) | (with_reducible refine BoxR.set ?_ (by first | (simp; done) | (simp; omega)) rfl)))
  ·exact ⟨by simp [go_sem, *], by simp [go_sem, *], by simp [go_sem, *], by simp [go_sem, *], by simp [go_sem, *], by simp [go_sem, *], by simp [go_sem, *], by simp [go_sem, *]⟩
  ·(repeat (first | (with_reducible exact p2.out) | (with_reducible refine BoxR.drew ?_) | (with_reducible refine BoxR.set ?_ (by first | (simp; done) | (simp; omega)) rfl)))
  refine wpTree_one ?_
  simp only [nthOp]
  go_wp2_with fail
  refine One_mk (KW.mk' ⟨?_, ?_, ?_⟩) (wpTree_done ?_)
  ·(repeat (first | (with_reducible exact p0.out) | (with_reducible refine BoxR.drew ?_) | (with_reducible refine BoxR.set ?_ (by first | (simp; done) | (simp; omega)) rfl)))
  ·exact ⟨by simp [go_sem, *], by simp [go_sem, *], by simp [go_sem, *], by simp [go_sem, *], by simp [go_sem, *], by simp [go_sem, *], by simp [go_sem, *], by simp [go_sem, *]⟩
  ·exact ⟨by simp [go_sem, *], by simp [go_sem, *], by simp [go_sem, *], by simp [go_sem, *], by simp [go_sem, *], by simp [go_sem, *], by simp [go_sem, *], by simp [go_sem, *]⟩
  simp only [List.drop_succ_cons, List.drop_zero]
  go_wp2_with fail
  refine NP_mk ?_
  go_wp2_with fail
  refine gen_any (G := fun W => bodyPost _ _ _ _ _ W) (fun W => BoxR W (w.heap.size + 1) low ∧ BoxR W (w.heap.size + 2) high ∧ Below w.heap.size w W) ?_ ?_
  ·refine ⟨?_, ?_, ?_⟩
   ·exact ⟨by simp [go_sem, *], by simp [go_sem, *], by simp [go_sem, *], by simp [go_sem, *], by simp [go_sem, *], by simp [go_sem, *], by simp [go_sem, *], by simp [go_sem, *]⟩
   ·exact ⟨by simp [go_sem, *], by simp [go_sem, *], by simp [go_sem, *], by simp [go_sem, *], by simp [go_sem, *], by simp [go_sem, *], by simp [go_sem, *], by simp [go_sem, *]⟩
   ·(repeat (first | (with_reducible exact pb.out) | (with_reducible refine Below.setCell ?_ (by first | (simp; done) | (simp; omega)) _)))
  rintro W9 ⟨⟨d0', d1', d2', d3', -, -, -, -⟩, ⟨e0', e1', e2', e3', -, -, -, -⟩, hb⟩
  exact bodyPost_ret (v := .tuple #[.agg #[.int .i64 low.x1, .int .i64 low.y1, .int .i64 low.x2, .int .i64 low.y2], .agg #[.int .i64 high.x1, .int .i64 high.y1, .int .i64 high.x2, .int .i64 high.y2], _]) (by simp [results, Tryz.results29, go_sem, d0', d1', d2', d3', e0', e1', e2', e3']; rfl) rfl ⟨⟨_, rfl⟩, hb⟩
end Go.Proofs.YtjmgboipbhddlaaGreatDoor
