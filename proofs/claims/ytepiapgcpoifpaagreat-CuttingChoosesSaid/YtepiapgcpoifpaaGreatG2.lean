/- Sound rectangles of the program's cutting; usable rectangles; a leaf. -/
import Derived.Test.YtepiapgcpoifpaaGreatG1
set_option linter.unusedVariables false
set_option linter.unusedSimpArgs false
namespace Go.Proofs.YtepiapgcpoifpaaGreat
open Go Go.RowKit

def hitB (d r : Rect) : Bool := !decide (wholeR (interR d r) = ⟨0, 0, 0, 0⟩)
theorem rect_dec (q r : Rect) : decide (q = r) = (decide (q.x1 = r.x1) && (decide (q.y1 = r.y1) && (decide (q.x2 = r.x2) && decide (q.y2 = r.y2)))) := by
  obtain ⟨a, b, c, d⟩ := q
  obtain ⟨a', b', c', d'⟩ := r
  simp [Bool.eq_iff_iff]
theorem rect_eql (q r : Rect) (w : World) : (binOp .eql 41 (.agg #[.int .i64 q.x1, .int .i64 q.y1, .int .i64 q.x2, .int .i64 q.y2]) (.agg #[.int .i64 r.x1, .int .i64 r.y1, .int .i64 r.x2, .int .i64 r.y2])).run Tryz.prog w = .ok (.bool (decide (q = r))) w := by
  rw [rect_dec]
  simp [go_sem]
  repeat' split
  all_goals simp_all
theorem rect_neq (q r : Rect) (w : World) : (binOp .neq 41 (.agg #[.int .i64 q.x1, .int .i64 q.y1, .int .i64 q.x2, .int .i64 q.y2]) (.agg #[.int .i64 r.x1, .int .i64 r.y1, .int .i64 r.x2, .int .i64 r.y2])).run Tryz.prog w = .ok (.bool (!decide (q = r))) w := by
  rw [rect_dec]
  simp [go_sem]
  repeat' split
  all_goals simp_all
theorem rect_eql0 (q : Rect) (w : World) : (binOp .eql 41 (.agg #[.int .i64 q.x1, .int .i64 q.y1, .int .i64 q.x2, .int .i64 q.y2]) (.agg #[.int .i64 0, .int .i64 0, .int .i64 0, .int .i64 0])).run Tryz.prog w = .ok (.bool (decide (q = ⟨0, 0, 0, 0⟩))) w := rect_eql q ⟨0, 0, 0, 0⟩ w
theorem rect_neq0 (q : Rect) (w : World) : (binOp .neq 41 (.agg #[.int .i64 q.x1, .int .i64 q.y1, .int .i64 q.x2, .int .i64 q.y2]) (.agg #[.int .i64 0, .int .i64 0, .int .i64 0, .int .i64 0])).run Tryz.prog w = .ok (.bool (!decide (q = ⟨0, 0, 0, 0⟩))) w := rect_neq q ⟨0, 0, 0, 0⟩ w
set_option maxHeartbeats 1000000 in
theorem sound1_any (d r : Rect) (g : Nat) (w : World) (h0 : w.cell? ⟨g, 0, none⟩ = some (.int .i64 r.x1)) (h1 : w.cell? ⟨g, 1, none⟩ = some (.int .i64 r.y1)) (h2 : w.cell? ⟨g, 2, none⟩ = some (.int .i64 r.x2)) (h3 : w.cell? ⟨g, 3, none⟩ = some (.int .i64 r.y2)) :
    Calls Tryz.prog 161 #[.agg #[.int .i64 d.x1, .int .i64 d.y1, .int .i64 d.x2, .int .i64 d.y2], .pointer (some ⟨g, 0, none⟩)] w fun e w' => e = .returned (.bool (hitB d r)) ∧ Below w.heap.size w w' := by
  have hgl := block_lt_of_cell h0
  simp only at hgl
  obtain ⟨q, hq⟩ : ∃ q, wholeR (interR d r) = q := ⟨_, rfl⟩
  have HE := Lib.hid (show hitB d r = (!decide (q = ⟨0, 0, 0, 0⟩)) by unfold hitB; rw [hq])
  have hn := rect_neq0 q
  go_enter Tryz.func161, Tryz.ntmps161
  go_wp2_with (go_at_call 136; refine (common_is d r q _ hq).mono ?_; rintro e w1 ⟨rfl, hb⟩)
  go_ret
  exact ⟨ret_bool (by rw [HE.out]), ((Below.refl _ _).alloc (Nat.le_refl _) _).trans (hb.mono (by simp))⟩

theorem hitB_eq {d r : Rect} (h1 : d.x1 < d.x2) (h2 : d.y1 < d.y2) (h3 : r.x1 < r.x2) (h4 : r.y1 < r.y2) : hitB d r = overlapsB d r := by
  unfold hitB overlapsB wholeR interR
  simp only
  by_cases h : min d.x2 r.x2 ≤ max d.x1 r.x1 ∨ min d.y2 r.y2 ≤ max d.y1 r.y1
  · rw [if_pos h]
    simp only [decide_true, Bool.not_true]
    symm
    rw [Bool.eq_false_iff]
    simp only [ne_eq, Bool.and_eq_true, decide_eq_true_eq]
    omega
  · rw [if_neg h]
    have : ¬ (⟨max d.x1 r.x1, max d.y1 r.y1, min d.x2 r.x2, min d.y2 r.y2⟩ : Rect) = ⟨0, 0, 0, 0⟩ := by
      simp only [Rect.mk.injEq]; omega
    rw [decide_eq_false this, Bool.not_false]
    symm
    simp only [Bool.and_eq_true, decide_eq_true_eq]
    omega

set_option maxHeartbeats 1000000 in
theorem idxRect_any (a : Option Addr) (l : List Rect) (c g : Nat) (r : Rect) (w : World) (hv : Rects.V w a l) (hl : l.length ≤ 9223372036854775807)
    (h0 : w.cell? ⟨g, 0, none⟩ = some (.int .i64 r.x1)) (h1 : w.cell? ⟨g, 1, none⟩ = some (.int .i64 r.y1)) (h2 : w.cell? ⟨g, 2, none⟩ = some (.int .i64 r.x2)) (h3 : w.cell? ⟨g, 3, none⟩ = some (.int .i64 r.y2)) :
    Calls Tryz.prog 180 #[.slice a l.length c, .func (.func 161) #[] #[.pointer (some ⟨g, 0, none⟩)]] w
      fun e w' => e = .returned (.int .i64 (idxOf (fun d => hitB d r) l)) ∧ Below w.heap.size w w' := by
  go_enter Tryz.func180, Tryz.ntmps180
  go_wp2
  go_loopw [8] (fun i wr => ∃ k : Nat, k ≤ l.length ∧ i = .int .i64 k ∧ Hid (∀ j (hj : j < l.length), j < k → hitB l[j] r = false) ∧ Below w.heap.size w wr) (fun i _ => l.length - (intOf i).toNat)
  case atStart => exact ⟨0, Nat.zero_le _, rfl, Lib.hid (fun j _ h => by omega), Below.refl _ _⟩
  case round =>
    obtain ⟨k, hk, rfl, HK, hbw⟩ := hrel
    have hsz := hbw.size
    by_cases hlt : k < l.length
    · obtain ⟨b, off, rfl, hat⟩ := (hv.keep hbw).at_ hlt
      obtain ⟨c0, c1, c2, c3, -⟩ := hat
      have q0 := cell_keep hbw h0
      have q1 := cell_keep hbw h1
      have q2 := cell_keep hbw h2
      have q3 := cell_keep hbw h3
      have HH := Lib.hid (fun h => idxOf_hit (p := fun d => hitB d r) hlt HK.out h)
      have HN := Lib.hid (fun h => none_step (p := fun d => hitB d r) HK.out hlt h)
      generalize l[k] = d at *
      cases hq : hitB d r
      · go_wp2_with (go_at_call 161; refine (sound1_any d r _ _ q0 q1 q2 q3).mono ?_; rw [hq]; rintro e w1 ⟨rfl, hb⟩)
        go_round
        case rel => exact ⟨k + 1, by omega, by go_num, Lib.hid (HN.out hq), hbw.trans (hb.mono hsz)⟩
        case measure => simp [intOf]; omega
      · go_wp2_with (go_at_call 161; refine (sound1_any d r _ _ q0 q1 q2 q3).mono ?_; rw [hq]; rintro e w1 ⟨rfl, hb⟩)
        go_ret
        exact ⟨ret_int (HH.out hq).symm, hbw.trans (hb.mono hsz)⟩
    · have hm := Lib.hid (idxOf_miss (p := fun d => hitB d r) (l := l) (fun j hj => HK.out j hj (by omega)))
      clear HK
      go_wp2
      go_ret
      exact ⟨ret_int hm.out.symm, hbw⟩
theorem idxOf_bool {α : Type} (p : α → Bool) (l : List α) : decide (0 ≤ idxOf p l) = l.any p := by
  unfold idxOf
  rw [Bool.eq_iff_iff, decide_eq_true_eq]
  cases h : l.findIdx? p with
  | none =>
    rw [List.findIdx?_eq_none_iff] at h
    simp only [List.any_eq_true]
    exact ⟨fun h' => by omega, fun ⟨x, hx, hp⟩ => by rw [h x hx] at hp; cases hp⟩
  | some i =>
    rw [List.findIdx?_eq_some_iff_getElem] at h
    obtain ⟨hi, hp, -⟩ := h
    simp only [List.any_eq_true]
    exact ⟨fun _ => ⟨_, List.getElem_mem hi, hp⟩, fun _ => by omega⟩
theorem hasRect_any (a : Option Addr) (l : List Rect) (c g : Nat) (r : Rect) (w : World) (hv : Rects.V w a l) (hl : l.length ≤ 9223372036854775807)
    (h0 : w.cell? ⟨g, 0, none⟩ = some (.int .i64 r.x1)) (h1 : w.cell? ⟨g, 1, none⟩ = some (.int .i64 r.y1)) (h2 : w.cell? ⟨g, 2, none⟩ = some (.int .i64 r.x2)) (h3 : w.cell? ⟨g, 3, none⟩ = some (.int .i64 r.y2)) :
    Calls Tryz.prog 160 #[.slice a l.length c, .func (.func 161) #[] #[.pointer (some ⟨g, 0, none⟩)]] w
      fun e w' => e = .returned (.bool (l.any fun d => hitB d r)) ∧ Below w.heap.size w w' := by
  have hi := Lib.hid (idxOf_bool (fun d => hitB d r) l)
  go_enter Tryz.func160, Tryz.ntmps160
  go_wp2_with (go_at_call 180; refine (idxRect_any a l c g r _ hv hl h0 h1 h2 h3).mono ?_; rintro e w1 ⟨rfl, hb⟩)
  go_ret
  exact ⟨ret_bool (by rw [← hi.out]), hb⟩
def soundC (ds : List Rect) (r : Rect) : Bool := !ds.any fun d => hitB d r
theorem soundC_eq {ds : List Rect} {r : Rect} (hd : ∀ d ∈ ds, d.x1 < d.x2 ∧ d.y1 < d.y2) (h3 : r.x1 < r.x2) (h4 : r.y1 < r.y2) : soundC ds r = soundB ds r := by
  unfold soundC soundB
  congr 1
  rw [Bool.eq_iff_iff, List.any_eq_true, List.any_eq_true]
  constructor
  · rintro ⟨d, hm, h⟩; exact ⟨d, hm, by rw [← hitB_eq (hd d hm).1 (hd d hm).2 h3 h4]; exact h⟩
  · rintro ⟨d, hm, h⟩; exact ⟨d, hm, by rw [hitB_eq (hd d hm).1 (hd d hm).2 h3 h4]; exact h⟩
set_option maxHeartbeats 1000000 in
theorem csound_any (b : Board) (r : Rect) (a : Option Addr) (c : Nat) (w : World) (hv : Rects.V w a b.defects) (hl : b.defects.length ≤ 9223372036854775807) :
    Calls Tryz.prog 134 #[.agg #[.string b.name, .string b.species, .int .i64 b.length, .int .i64 b.width, .int .i64 b.thick, .int .i64 b.cut, .int .i64 b.moisture, .slice a b.defects.length c], .agg #[.int .i64 r.x1, .int .i64 r.y1, .int .i64 r.x2, .int .i64 r.y2]] w fun e w' => e = .returned (.bool (soundC b.defects r)) ∧ Below w.heap.size w w' := by
  go_enter Tryz.func134, Tryz.ntmps134
  go_wp2_with (go_at_call 160; refine (hasRect_any a b.defects c _ r _ (hv.keep (((Below.refl _ _).alloc (Nat.le_refl _) _).alloc (by simp) _)) hl (by simp [go_sem]) (by simp [go_sem]) (by simp [go_sem]) (by simp [go_sem])).mono ?_; rintro e w1 ⟨rfl, hb⟩)
  go_ret
  exact ⟨rfl, (((Below.refl _ _).alloc (Nat.le_refl _) _).alloc (by simp) _).trans (hb.mono (by simp; omega))⟩
set_option maxHeartbeats 1000000 in
theorem usable_is (b : Board) (t : Trim) (q : Rect) (a : Option Addr) (c : Nat) (w : World) (hq : usableR b t = q) (hb : 0 ≤ b.length ∧ b.length ≤ 600000 ∧ 0 ≤ b.width ∧ b.width ≤ 600000) (ht : 0 ≤ t.ends ∧ t.ends ≤ 10000 ∧ 0 ≤ t.sides ∧ t.sides ≤ 10000) :
    Calls Tryz.prog 79 #[.agg #[.string b.name, .string b.species, .int .i64 b.length, .int .i64 b.width, .int .i64 b.thick, .int .i64 b.cut, .int .i64 b.moisture, .slice a b.defects.length c], .agg #[.int .i64 t.kerf, .int .i64 t.ends, .int .i64 t.sides]] w fun e w' => e = .returned (.agg #[.int .i64 q.x1, .int .i64 q.y1, .int .i64 q.x2, .int .i64 q.y2]) ∧ Below w.heap.size w w' := by
  have v1 : IntKind.i64.wrap (b.length - t.ends) = b.length - t.ends := IntWalk.i64_in _ (by omega)
  have v2 : IntKind.i64.wrap (b.width - t.sides) = b.width - t.sides := IntWalk.i64_in _ (by omega)
  have hq' : wholeR ⟨t.ends, t.sides, b.length - t.ends, b.width - t.sides⟩ = q := hq
  go_enter Tryz.func79, Tryz.ntmps79
  go_wp2_with (go_at_call 121; refine (whole_is ⟨t.ends, t.sides, b.length - t.ends, b.width - t.sides⟩ q _ hq').mono ?_; rintro e w1 ⟨rfl, hb1⟩; obtain ⟨⟨k0, k1, k2, k3⟩, f0, f1, f2, f3⟩ := cells4 hb1; simp only [World.size_alloc] at k0 k1 k2 k3 f0 f1 f2 f3)
  exact bodyPost_ret (v := .agg #[.int .i64 q.x1, .int .i64 q.y1, .int .i64 q.x2, .int .i64 q.y2]) (by simp [results, Tryz.results79, go_sem, *]) rfl ⟨rfl, by repeat (first | (exact ((((Below.refl _ _).alloc (Nat.le_refl _) _).alloc (by simp) _).alloc (by simp; omega) _).trans (hb1.mono (by simp; omega))) | (refine Below.setCell ?_ (by simp; omega) _))⟩
theorem area_any (r : Rect) (w : World) : Calls Tryz.prog 104 #[.agg #[.int .i64 r.x1, .int .i64 r.y1, .int .i64 r.x2, .int .i64 r.y2]] w fun e w' => (∃ n, e = .returned (.int .i64 n)) ∧ Below w.heap.size w w' := by
  go_enter Tryz.func104, Tryz.ntmps104
  go_wp2_with fail
  go_ret
  exact ⟨⟨_, rfl⟩, (Below.refl _ _).alloc (Nat.le_refl _) _⟩
theorem leaf_any (x : Cut) (w : World) : Calls Tryz.prog 89 #[.agg #[.bool x.across, .int .i64 x.at_, .int .i64 x.low, .int .i64 x.high, .int .i64 x.blank]] w fun e w' => e = .returned (.bool (decide (x.low = 0))) ∧ Below w.heap.size w w' := by
  go_enter Tryz.func89, Tryz.ntmps89
  go_wp2_with fail
  go_ret
  exact ⟨ret_bool (by first | rfl | simp), (Below.refl _ _).alloc (Nat.le_refl _) _⟩
end Go.Proofs.YtepiapgcpoifpaaGreat
