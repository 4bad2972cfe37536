/- Sound rectangles: what the program's sound and Sound return. -/
import Derived.Test.YthhchnhidhgccaaSound
set_option linter.unusedVariables false
set_option linter.unusedSimpArgs false
namespace Go.Proofs.Ythhchnhidhgccaa
open Go Go.RowKit

def psound (ds : List Rect) (r : Rect) : Bool := !ds.any fun d => overlapB d r

theorem sound1_any (d r : Rect) (g : Nat) (w : World) (hr : RectBlk w g r) :
    Calls Try.prog 116 #[.agg #[.int .i64 d.x1, .int .i64 d.y1, .int .i64 d.x2, .int .i64 d.y2], .pointer (some ⟨g, 0, none⟩)] w fun e w' => e = .returned (.bool (overlapB d r)) ∧ Below w.heap.size w w' := by
  obtain ⟨c0, c1, c2, c3⟩ := hr.cells
  have hlt := hr.lt
  go_enter Try.func116, Try.ntmps116
  go_wp2_with (go_at_call 113; refine (overlap_any d r _).mono ?_; rintro e w1 ⟨rfl, hb⟩)
  go_ret
  exact ⟨rfl, ((Below.refl _ _).alloc (Nat.le_refl _) _).trans (hb.mono (by simp))⟩

set_option maxHeartbeats 1000000 in
theorem indexRect_any (a : Option Addr) (l : List Rect) (c g : Nat) (r : Rect) (w : World) (hv : Rects.V w a l) (hl : l.length ≤ 9223372036854775807) (hg : RectBlk w g r) :
    Calls Try.prog 126 #[.slice a l.length c, .func (.func 116) #[] #[.pointer (some ⟨g, 0, none⟩)]] w
      fun e w' => e = .returned (.int .i64 (idxOf (fun d => overlapB d r) l)) ∧ Below w.heap.size w w' := by
  go_enter Try.func126, Try.ntmps126
  go_wp2
  go_loopw [8] (fun i wr => ∃ k : Nat, k ≤ l.length ∧ i = .int .i64 k ∧ Hid (∀ j (hj : j < l.length), j < k → overlapB l[j] r = false) ∧ Below w.heap.size w wr) (fun i _ => l.length - (intOf i).toNat)
  case atStart => exact ⟨0, Nat.zero_le _, rfl, Lib.hid (fun j _ h => by omega), Below.refl _ _⟩
  case round =>
    obtain ⟨k, hk, rfl, HK, hbw⟩ := hrel
    by_cases hlt : k < l.length
    · obtain ⟨b, off, rfl, hat⟩ := (hv.keep hbw).at_ hlt
      obtain ⟨c0, c1, c2, c3, -⟩ := hat
      have hgr := RectBlk.keep hbw hg
      have hsz := hbw.size
      cases hq : overlapB l[k] r
      · go_wp2_with (go_at_call 116; refine (sound1_any l[k] r _ _ hgr).mono ?_; rintro e w1 ⟨rfl, hb⟩)
        go_round
        case rel => exact ⟨k + 1, by omega, by go_num, Lib.hid (none_step (p := fun d => overlapB d r) HK.out hlt hq), hbw.trans (hb.mono hsz)⟩
        case measure => simp [intOf]; omega
      · go_wp2_with (go_at_call 116; refine (sound1_any l[k] r _ _ hgr).mono ?_; rintro e w1 ⟨rfl, hb⟩)
        go_ret
        exact ⟨ret_int (idxOf_hit (p := fun d => overlapB d r) hlt HK.out hq).symm, hbw.trans (hb.mono hsz)⟩
    · have hm := Lib.hid (idxOf_miss (p := fun d => overlapB d r) (l := l) (fun j hj => HK.out j hj (by omega)))
      clear HK
      go_wp2
      go_ret
      exact ⟨ret_int hm.out.symm, hbw⟩

theorem containsRect_any (a : Option Addr) (l : List Rect) (c g : Nat) (r : Rect) (w : World) (hv : Rects.V w a l) (hl : l.length ≤ 9223372036854775807) (hg : RectBlk w g r) :
    Calls Try.prog 115 #[.slice a l.length c, .func (.func 116) #[] #[.pointer (some ⟨g, 0, none⟩)]] w
      fun e w' => e = .returned (.bool (l.any fun d => overlapB d r)) ∧ Below w.heap.size w w' := by
  have HA := Lib.hid (idxOf_nonneg (fun d => overlapB d r) l)
  go_enter Try.func115, Try.ntmps115
  go_wp2_with (go_at_call 126; refine (indexRect_any _ l _ _ r _ hv hl hg).mono ?_; rintro e w1 ⟨rfl, hb⟩)
  go_ret
  exact ⟨ret_bool (by go_tidy; rw [Bool.eq_iff_iff, decide_eq_true_eq]; exact HA.out), hb⟩

theorem soundP_any (b : Board) (r : Rect) (a : Option Addr) (c : Nat) (w : World) (hv : Rects.V w a b.defects) (hl : b.defects.length ≤ 9223372036854775807) :
    Calls Try.prog 88 #[.agg #[.string b.name, .string b.species, .int .i64 b.length, .int .i64 b.width, .int .i64 b.thick, .int .i64 b.cut, .int .i64 b.moisture, .slice a b.defects.length c], .agg #[.int .i64 r.x1, .int .i64 r.y1, .int .i64 r.x2, .int .i64 r.y2]] w fun e w' => e = .returned (.bool (psound b.defects r)) ∧ Below w.heap.size w w' := by
  go_enter Try.func88, Try.ntmps88
  go_wp2_with (go_at_call 115; refine (containsRect_any _ b.defects _ _ r _ (hv.keep (((Below.refl _ _).alloc (Nat.le_refl _) _).alloc (by simp) _)) hl (by have h := RectBlk.new (w.alloc (.cells #[.string b.name, .string b.species, .int .i64 b.length, .int .i64 b.width, .int .i64 b.thick, .int .i64 b.cut, .int .i64 b.moisture, .slice a b.defects.length c] 25)) r; simpa using h)).mono ?_; rintro e w1 ⟨rfl, hb⟩)
  go_ret
  exact ⟨rfl, (((Below.refl _ _).alloc (Nat.le_refl _) _).alloc (by simp) _).trans (hb.mono (by simp; omega))⟩

def soundE (b : Board) (r : Rect) : Int := if boardErr b ≠ 0 then boardErr b else rectIn b.length b.width r
def soundV (b : Board) (r : Rect) : Bool := if soundE b r ≠ 0 then false else psound b.defects r

set_option maxHeartbeats 1000000 in
theorem timberSound_any (b : Board) (r : Rect) (a : Option Addr) (c : Nat) (w : World) (hv : Rects.V w a b.defects) (hl : b.defects.length ≤ 9223372036854775807) (hw : b.wf) :
    Calls Try.prog 39 #[.agg #[.string b.name, .string b.species, .int .i64 b.length, .int .i64 b.width, .int .i64 b.thick, .int .i64 b.cut, .int .i64 b.moisture, .slice a b.defects.length c], .agg #[.int .i64 r.x1, .int .i64 r.y1, .int .i64 r.x2, .int .i64 r.y2]] w fun e w' => e = .returned (.tuple #[.bool (soundV b r), .int .i64 (soundE b r)]) ∧ Below w.heap.size w w' := by
  by_cases h0 : boardErr b = 0
  · have h0' : (boardErr b != 0) = false := by simp [h0]
    by_cases h1 : rectIn b.length b.width r = 0
    · have h1' : (rectIn b.length b.width r != 0) = false := by simp [h1]
      have HE := Lib.hid (show soundE b r = 0 ∧ soundV b r = psound b.defects r from ⟨by simp [soundE, h0, h1], by simp [soundV, soundE, h0, h1]⟩)
      clear h0 h1
      go_enter Try.func39, Try.ntmps39
      go_wp2_with (first
        | (go_at_call 82; refine (checkBoard_any b _ _ _ (hv.keep (((Below.refl _ _).alloc (Nat.le_refl _) _).alloc (by simp) _)) hl hw).mono ?_; rintro e w1 ⟨rfl, hb⟩; obtain ⟨hc, hf⟩ := bcell hb; have hz := hb.size; have hz1 : w.heap.size + 1 < w1.heap.size := (by simp at hz; omega); have hz1' : w.heap.size < w1.heap.size := (by omega); have hb1 := (((Below.refl w.heap.size w).alloc (Nat.le_refl _) _).alloc (by simp) _).trans (hb.mono (by simp; omega)))
        | (go_at_call 87; refine (checkRect_any b r _ _ _).mono ?_; rintro e w2 ⟨rfl, hb2⟩; obtain ⟨hc2, hf2⟩ := bcell hb2; have hz2 := hb2.size; have hz2' : w.heap.size + 1 < w2.heap.size := (by omega); have hb3 := hb1.trans (hb2.mono hb1.size))
        | (go_at_call 88; refine (soundP_any b r _ _ _ (hv.keep hb3) hl).mono ?_; rintro e w3 ⟨rfl, hb4⟩; have hb5 := hb3.trans (hb4.mono hb3.size)))
      go_ret2
      exact ⟨by rw [HE.out.1, HE.out.2]; rfl, hb5⟩
    · have h1' : (rectIn b.length b.width r != 0) = true := by simp [h1]
      have HE := Lib.hid (show soundE b r = rectIn b.length b.width r ∧ soundV b r = false from ⟨by simp [soundE, h0], by simp [soundV, soundE, h0, h1]⟩)
      clear h0 h1
      go_enter Try.func39, Try.ntmps39
      go_wp2_with (first
        | (go_at_call 82; refine (checkBoard_any b _ _ _ (hv.keep (((Below.refl _ _).alloc (Nat.le_refl _) _).alloc (by simp) _)) hl hw).mono ?_; rintro e w1 ⟨rfl, hb⟩; obtain ⟨hc, hf⟩ := bcell hb; have hz := hb.size; have hz1 : w.heap.size + 1 < w1.heap.size := (by simp at hz; omega); have hz1' : w.heap.size < w1.heap.size := (by omega); have hb1 := (((Below.refl w.heap.size w).alloc (Nat.le_refl _) _).alloc (by simp) _).trans (hb.mono (by simp; omega)))
        | (go_at_call 87; refine (checkRect_any b r _ _ _).mono ?_; rintro e w2 ⟨rfl, hb2⟩; obtain ⟨hc2, hf2⟩ := bcell hb2; have hz2 := hb2.size; have hz2' : w.heap.size + 1 < w2.heap.size := (by omega); have hb3 := hb1.trans (hb2.mono hb1.size))
        | (go_at_call 88; refine (soundP_any b r _ _ _ (hv.keep hb3) hl).mono ?_; rintro e w3 ⟨rfl, hb4⟩; have hb5 := hb3.trans (hb4.mono hb3.size)))
      go_ret2
      exact ⟨by rw [HE.out.1, HE.out.2]; rfl, hb3⟩
  · have h0' : (boardErr b != 0) = true := by simp [h0]
    have HE := Lib.hid (show soundE b r = boardErr b ∧ soundV b r = false from ⟨by simp [soundE, h0], by simp [soundV, soundE, h0]⟩)
    clear h0
    go_enter Try.func39, Try.ntmps39
    go_wp2_with (first
      | (go_at_call 82; refine (checkBoard_any b _ _ _ (hv.keep (((Below.refl _ _).alloc (Nat.le_refl _) _).alloc (by simp) _)) hl hw).mono ?_; rintro e w1 ⟨rfl, hb⟩; obtain ⟨hc, hf⟩ := bcell hb; have hz := hb.size; have hz1 : w.heap.size + 1 < w1.heap.size := (by simp at hz; omega); have hz1' : w.heap.size < w1.heap.size := (by omega); have hb1 := (((Below.refl w.heap.size w).alloc (Nat.le_refl _) _).alloc (by simp) _).trans (hb.mono (by simp; omega)))
      | (go_at_call 87; refine (checkRect_any b r _ _ _).mono ?_; rintro e w2 ⟨rfl, hb2⟩; obtain ⟨hc2, hf2⟩ := bcell hb2; have hz2 := hb2.size; have hz2' : w.heap.size + 1 < w2.heap.size := (by omega); have hb3 := hb1.trans (hb2.mono hb1.size))
      | (go_at_call 88; refine (soundP_any b r _ _ _ (hv.keep hb3) hl).mono ?_; rintro e w3 ⟨rfl, hb4⟩; have hb5 := hb3.trans (hb4.mono hb3.size)))
    go_ret2
    exact ⟨by rw [HE.out.1, HE.out.2]; rfl, hb1⟩
end Go.Proofs.Ythhchnhidhgccaa
