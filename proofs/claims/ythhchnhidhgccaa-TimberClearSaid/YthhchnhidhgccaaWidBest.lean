/- No sound rectangle of a length is wider than what Widest finds (plain law). -/
import Derived.Test.YthhchnhidhgccaaSoundP
import Derived.Test.YthhchnhidhgccaaWidLaw
set_option linter.unusedVariables false
set_option linter.unusedSimpArgs false
namespace Go.Proofs.Ythhchnhidhgccaa
open Go Go.RowKit

theorem wid_FB (b : Board) (len : Int) : ∃ r, widS b len = encR b.defects b.width len r ∧ FB (hgt b.defects b.width len) lexLt (pairs ((uniq (widXs b)).filter fun x => decide (x + len ≤ b.length)) (uniq (widYs b))) r := by
  refine ⟨(pairs ((uniq (widXs b)).filter fun x => decide (x + len ≤ b.length)) (uniq (widYs b))).foldl (fbStep (hgt b.defects b.width len)) none, ?_, ?_⟩
  rotate_left
  · have A2 := fb_fold (h := hgt b.defects b.width len) (lt := lexLt) (pre := []) (s := none) (ps := pairs ((uniq (widXs b)).filter fun x => decide (x + len ≤ b.length)) (uniq (widYs b))) (pairs_asc ((uniq_asc _).filter _) (uniq_asc _)) (by simp [FB])
    rw [List.nil_append] at A2
    exact A2
  unfold widS
  rw [widGo_fold (uniq_asc _), show ((⟨0, 0, 0, 0⟩, false) : Rect × Bool) = encR b.defects b.width len none from rfl, foldX_enc]
theorem wid_dom {b : Board} {len x' y' : Int} (hb : DefsIn b) (hx0 : 0 ≤ x') (h2 : x' + len ≤ b.length) (hy0 : 0 ≤ y') (hy1 : y' ≤ b.width) (h0 : 0 < hgt b.defects b.width len (x', y')) :
    ∃ p ∈ pairs ((uniq (widXs b)).filter fun x => decide (x + len ≤ b.length)) (uniq (widYs b)), hgt b.defects b.width len (x', y') ≤ hgt b.defects b.width len p := by
  have hds : ∀ d ∈ b.defects, d.x1 < d.x2 ∧ d.y1 < d.y2 := fun d hd => by have := hb.ins d hd; omega
  obtain ⟨x, hx, hxx, hxm⟩ := max_le (l := uniq (widXs b)) (t := x') (z := 0) (by rw [uniq_mem]; simp [widXs]) hx0
  obtain ⟨y, hy, hyy, hym⟩ := max_le (l := uniq (widYs b)) (t := y') (z := 0) (by rw [uniq_mem]; simp [widYs]) hy0
  have e0 : hgt b.defects b.width len (x', y') = reach b.defects b.width len x' y' - y' := rfl
  have e1 : hgt b.defects b.width len (x, y) = reach b.defects b.width len x y - y := rfl
  have r1 := reach_left (len := len) (wd := b.width) (y := y') hds hy1 hxx (fun d hd hq => hxm _ (by rw [uniq_mem]; simp only [widXs, List.mem_cons, List.mem_map]; exact .inr ⟨d, hd, rfl⟩) hq)
  have r2 := reach_down (len := len) (wd := b.width) (x := x) hds hy1 hyy (fun d hd hq => hym _ (by rw [uniq_mem]; simp only [widYs, List.mem_cons, List.mem_map]; exact .inr ⟨d, hd, rfl⟩) hq) (by omega)
  refine ⟨(x, y), ?_, by omega⟩
  rw [pairs_mem, List.mem_filter]
  exact ⟨⟨hx, by simp only [decide_eq_true_eq]; omega⟩, hy⟩
/-- What is sound is no wider. -/
theorem wid_best {b : Board} {len : Int} {o : Rect} (hb : DefsIn b) (h1 : 0 ≤ o.x1) (h2 : o.x2 ≤ b.length) (h3 : 0 ≤ o.y1) (h4 : o.y1 < o.y2) (h5 : o.y2 ≤ b.width) (h6 : o.x2 - o.x1 = len) (hs : psound b.defects o = true) :
    (widS b len).2 = true ∧ o.y2 - o.y1 ≤ (widS b len).1.y2 - (widS b len).1.y1 := by
  have hds : ∀ d ∈ b.defects, d.x1 < d.x2 ∧ d.y1 < d.y2 := fun d hd => by have := hb.ins d hd; omega
  obtain ⟨-, -, hf⟩ := fold_fY (x := o.x1) (xl := o.x1 + len) (y := o.y1) (ds := b.defects) (fun d hd => (hds d hd).2) (show o.y1 ≤ b.width by omega)
  have hr : o.y2 ≤ reach b.defects b.width len o.x1 o.y1 := by
    refine (hf o.y2 h4).2 ⟨h5, fun d hd => ?_⟩
    unfold psound at hs
    rw [Bool.not_eq_true', List.any_eq_false] at hs
    have e : (⟨o.x1, o.y1, o.x1 + len, o.y2⟩ : Rect) = o := by cases o; simp only [Rect.mk.injEq, true_and, and_true] at h6 ⊢; omega
    rw [e]
    simpa using hs d hd
  have e0 : hgt b.defects b.width len (o.x1, o.y1) = reach b.defects b.width len o.x1 o.y1 - o.y1 := rfl
  obtain ⟨p, hp, hle⟩ := wid_dom hb h1 (show o.x1 + len ≤ b.length by omega) h3 (by omega) (by omega)
  obtain ⟨r, hw, hfb⟩ := wid_FB b len
  rw [hw]
  cases r with
  | none => have := hfb p hp; omega
  | some c =>
    obtain ⟨-, -, hm⟩ := hfb
    have h7 := (hm p hp).1
    have e2 : hgt b.defects b.width len c = reach b.defects b.width len c.1 c.2 - c.2 := rfl
    refine ⟨rfl, ?_⟩
    simp only [encR]
    omega
theorem wid_in {b : Board} {len : Int} (hb : DefsIn b) (h : (widS b len).2 = true) : 0 ≤ (widS b len).1.y1 ∧ (widS b len).1.y1 < (widS b len).1.y2 ∧ (widS b len).1.y2 ≤ b.width := by
  have hds : ∀ d ∈ b.defects, d.x1 < d.x2 ∧ d.y1 < d.y2 := fun d hd => by have := hb.ins d hd; omega
  obtain ⟨r, hw, hfb⟩ := wid_FB b len
  rw [hw] at h ⊢
  cases r with
  | none => cases h
  | some c =>
    obtain ⟨hc, h0, -⟩ := hfb
    have e2 : hgt b.defects b.width len c = reach b.defects b.width len c.1 c.2 - c.2 := rfl
    have hy : 0 ≤ c.2 ∧ c.2 ≤ b.width := by
      have := (pairs_mem.1 hc).2
      rw [uniq_mem] at this
      simp only [widYs, List.mem_cons, List.mem_map] at this
      have := hb.wid
      rcases ‹c.2 = 0 ∨ _› with h' | ⟨d, hd, h'⟩
      · omega
      · have := hb.ins d hd; omega
    obtain ⟨-, h2, -⟩ := fold_fY (x := c.1) (xl := c.1 + len) (y := c.2) (ds := b.defects) (fun d hd => (hds d hd).2) hy.2
    have h3 : reach b.defects b.width len c.1 c.2 ≤ b.width := h2
    simp only [encR]
    omega
theorem boardOk_in {b : Board} (h : BoardOk b) : DefsIn b := ⟨h.length.1, h.width.1, h.inside⟩
end Go.Proofs.Ythhchnhidhgccaa
