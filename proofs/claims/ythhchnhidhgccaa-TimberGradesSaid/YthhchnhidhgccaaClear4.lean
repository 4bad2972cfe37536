/- Clear of the program, with its check; what a clear length is. -/
import Derived.Test.YthhchnhidhgccaaClear3
import Derived.Test.YthhchnhidhgccaaSoundP
set_option linter.unusedVariables false
set_option linter.unusedSimpArgs false
namespace Go.Proofs.Ythhchnhidhgccaa
open Go Go.RowKit

def clearL (b : Board) : List Iv := if boardErr b = 0 then refClear b else []
set_option maxHeartbeats 1000000 in
theorem clearP_any (b : Board) (a : Option Addr) (c : Nat) (w : World) (hv : Rects.V w a b.defects) (hl : b.defects.length ≤ 9223372036854775807) (hw : b.wf) :
    Calls Try.prog 63 #[.agg #[.string b.name, .string b.species, .int .i64 b.length, .int .i64 b.width, .int .i64 b.thick, .int .i64 b.cut, .int .i64 b.moisture, .slice a b.defects.length c]] w fun e w' => ∃ (a' : Option Addr) (c' : Nat), e = .returned (.tuple #[.slice a' (clearL b).length c', .int .i64 (boardErr b)]) ∧ Ivs.V w' a' (clearL b) ∧ (clearL b).length ≤ c' ∧ c' ≤ 9223372036854775807 ∧ Below w.heap.size w w' := by
  by_cases h0 : boardErr b = 0
  · have h0' : (boardErr b != 0) = false := by simp [h0]
    have HCL := Lib.hid (show clearL b = refClear b by simp [clearL, h0])
    have HOK := Lib.hid (boardErr_ok h0)
    have HE := Lib.hid h0
    clear h0
    go_enter Try.func63, Try.ntmps63
    go_wp2_with (first
      | (go_at_call 82; refine (checkBoard_any b _ _ _ (hv.keep ((Below.refl _ _).alloc (Nat.le_refl _) _)) hl hw).mono ?_; rintro e w1 ⟨rfl, hb1⟩; obtain ⟨hk1, hf1⟩ := bcell hb1; have hc1 := ((Below.refl w.heap.size w).alloc (Nat.le_refl _) _).trans (hb1.mono (by simp)); have hz1 : w.heap.size < w1.heap.size := (by have := hb1.size; simp at this; omega))
      | (go_at_call 103; refine (clear_any b a c _ (hv.keep hc1) HOK.out.few ⟨HOK.out.length.1, HOK.out.width.1, HOK.out.inside⟩ HOK.out.length.2).mono ?_; rintro e w2 ⟨a', c', rfl, hV2, hlc, hcm, hb2⟩; have hc2 := hc1.trans (hb2.mono hc1.size)))
    go_ret2
    exact ⟨a', c', by rw [HCL.out, HE.out]; rfl, by rw [HCL.out]; exact hV2, by rw [HCL.out]; exact hlc, hcm, hc2⟩
  · have h0' : (boardErr b != 0) = true := by simp [h0]
    have HCL := Lib.hid (show clearL b = [] by simp [clearL, h0])
    clear h0
    go_enter Try.func63, Try.ntmps63
    go_wp2_with (first
      | (go_at_call 82; refine (checkBoard_any b _ _ _ (hv.keep ((Below.refl _ _).alloc (Nat.le_refl _) _)) hl hw).mono ?_; rintro e w1 ⟨rfl, hb1⟩; have hc1 := ((Below.refl w.heap.size w).alloc (Nat.le_refl _) _).trans (hb1.mono (by simp))))
    go_ret2
    exact ⟨none, 0, by rw [HCL.out]; rfl, by rw [HCL.out]; exact fun h => absurd rfl h, by rw [HCL.out]; simp, by omega, hc1⟩

theorem soundP_is (b : Board) (r : Rect) (a : Option Addr) (c : Nat) (w : World) (hv : Rects.V w a b.defects) (hl : b.defects.length ≤ 9223372036854775807) (hw : b.wf) {v : Bool} {e0 : Int} (he : soundE b r = e0) (hs : soundV b r = v) :
    Calls Try.prog 39 #[.agg #[.string b.name, .string b.species, .int .i64 b.length, .int .i64 b.width, .int .i64 b.thick, .int .i64 b.cut, .int .i64 b.moisture, .slice a b.defects.length c], .agg #[.int .i64 r.x1, .int .i64 r.y1, .int .i64 r.x2, .int .i64 r.y2]] w fun e w' => e = .returned (.tuple #[.bool v, .int .i64 e0]) ∧ Below w.heap.size w w' := by
  subst hs he; exact timberSound_any b r a c w hv hl hw

/-! Plain facts. -/
theorem soundV_free {b : Board} (hb : DefsIn b) (h0 : boardErr b = 0) {x x' : Int} (h1 : 0 ≤ x) (h2 : x < x') (h3 : x' ≤ b.length) :
    soundE b ⟨x, 0, x', b.width⟩ = 0 ∧ (soundV b ⟨x, 0, x', b.width⟩ = true ↔ ∀ p, x ≤ p → p < x' → freeAt b.defects p) := by
  have hwd := hb.wid
  have hE : soundE b ⟨x, 0, x', b.width⟩ = 0 := by
    unfold soundE rectIn
    simp only [h0, ne_eq, not_true_eq_false, if_false]
    rw [if_neg (by omega), if_neg (by omega)]
  refine ⟨hE, ?_⟩
  unfold soundV
  simp only [hE, ne_eq, not_true_eq_false, if_false]
  unfold psound freeAt overlapB
  rw [Bool.not_eq_true', List.any_eq_false]
  simp only [decide_eq_true_eq]
  constructor
  · intro h p p1 p2 d hd hp
    have hi := hb.ins d hd
    exact h d hd (by omega)
  · intro h d hd hc
    have hi := hb.ins d hd
    have := h (max x d.x1) (by omega) (by omega) d hd
    omega
def inB (L : List Iv) (p : Int) : Bool := L.any fun a => decide (a.1 ≤ p) && decide (p < a.2)
theorem inB_step {L : List Iv} {p : Int} {k : Nat} (hk : k < L.length) : inB (L.take (k + 1)) p = (inB (L.take k) p || (decide (L[k].1 ≤ p) && decide (p < L[k].2))) := by
  unfold inB
  rw [List.take_succ_eq_append_getElem hk, List.any_append]
  simp
theorem inB_cov {L : List Iv} {p : Int} : inB L p = true ↔ covI L p := by simp [inB, covI]
theorem clear_each {b : Board} (hb : DefsIn b) (h0 : boardErr b = 0) {a : Iv} (ha : a ∈ refClear b) : soundE b ⟨a.1, 0, a.2, b.width⟩ = 0 ∧ soundV b ⟨a.1, 0, a.2, b.width⟩ = true := by
  obtain ⟨hg, hl, hc⟩ := refClear_ok hb
  have hlt : a.1 < a.2 := by
    obtain ⟨A, B, hAB⟩ := List.append_of_mem ha
    rw [hAB] at hg
    clear hAB hl hc
    induction A with
    | nil => exact hg.head
    | cons c A ih => exact ih hg.tail
  have h1 := ((hc a.1).1 ⟨a, ha, Int.le_refl _, hlt⟩)
  have h2 := ((hc (a.2 - 1)).1 ⟨a, ha, by omega, by omega⟩)
  obtain ⟨e, s⟩ := soundV_free hb h0 (x := a.1) (x' := a.2) h1.1 hlt (by omega)
  exact ⟨e, s.2 fun p p1 p2 => ((hc p).1 ⟨a, ha, p1, p2⟩).2.2⟩
theorem clear_at {b : Board} (hb : DefsIn b) (h0 : boardErr b = 0) {at_ : Int} (h1 : 0 ≤ at_) (h2 : at_ ≤ b.length - 1) : soundE b ⟨at_, 0, at_ + 1, b.width⟩ = 0 ∧ soundV b ⟨at_, 0, at_ + 1, b.width⟩ = inB (refClear b) at_ := by
  obtain ⟨hg, hl, hc⟩ := refClear_ok hb
  obtain ⟨e, s⟩ := soundV_free hb h0 (x := at_) (x' := at_ + 1) h1 (by omega) (by omega)
  refine ⟨e, ?_⟩
  rw [Bool.eq_iff_iff, s, inB_cov, hc]
  constructor
  · intro h; exact ⟨h1, by omega, h at_ (Int.le_refl _) (by omega)⟩
  · rintro ⟨_, _, h⟩ p p1 p2
    obtain rfl : p = at_ := by omega
    exact h
theorem clear_bd {b : Board} (hb : DefsIn b) {a : Iv} (ha : a ∈ refClear b) : 0 ≤ a.1 ∧ a.1 < a.2 ∧ a.2 ≤ b.length := by
  obtain ⟨hg, hl, hc⟩ := refClear_ok hb
  have hlt : a.1 < a.2 := by
    obtain ⟨A, B, hAB⟩ := List.append_of_mem ha
    rw [hAB] at hg
    clear hAB hl hc
    induction A with
    | nil => exact hg.head
    | cons c A ih => exact ih hg.tail
  have h1 := ((hc a.1).1 ⟨a, ha, Int.le_refl _, hlt⟩)
  have h2 := ((hc (a.2 - 1)).1 ⟨a, ha, by omega, by omega⟩)
  omega
end Go.Proofs.Ythhchnhidhgccaa
