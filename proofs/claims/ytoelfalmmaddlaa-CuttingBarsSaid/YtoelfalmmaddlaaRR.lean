/- Layouts: the error of one region (checkRegion and cutErr). Layouts: cutErr of the reference. Layouts: the model of a layout's regions; rows of rectangles of the call's own. The two regions of a cut, by the reference. A cut and a trim in a box of their own. Layouts: lists of rectangles that are equal; brief layouts. Layouts: regions of the program. Layouts: Regions and CheckLayout of the program. Layouts: Regions of the reference (loops 1 and 2; loop 3 is open). Layouts: CheckLayout of the reference. -/
import Derived.Test.YtoelfalmmaddlaaJob6
import Derived.Test.YtoelfalmmaddlaaBB
import Derived.Test.YtoelfalmmaddlaaQA
import Derived.Test.YtoelfalmmaddlaaC8c
import Derived.Test.YtoelfalmmaddlaaSlots
set_option linter.unusedVariables false
set_option linter.unusedSimpArgs false
namespace Go.Proofs.Ytoelfalmmaddlaa
open Go Go.RowKit

def regionE (c : Cut) (i n : Int) : Int :=
  if c.low = 0 then (if c.across = true ∨ c.at_ ≠ 0 ∨ c.high ≠ 0 then 3 else if withinB c.blank (-1) 29 = false then 2 else 0)
  else if c.blank ≠ 0 then 3 else if c.low ≤ i ∨ c.high ≤ i ∨ c.low = c.high then 9 else if n ≤ c.low ∨ n ≤ c.high then 6 else 0
section
variable {c : Cut} {i n : Int}
theorem reg_leaf3 (h : c.low = 0) (h1 : c.across = true ∨ c.at_ ≠ 0 ∨ c.high ≠ 0) : regionE c i n = 3 := by unfold regionE; rw [if_pos h, if_pos h1]
theorem reg_leaf2 (h : c.low = 0) (h1 : ¬ (c.across = true ∨ c.at_ ≠ 0 ∨ c.high ≠ 0)) (h2 : withinB c.blank (-1) 29 = false) : regionE c i n = 2 := by unfold regionE; rw [if_pos h, if_neg h1, if_pos h2]
theorem reg_leaf0 (h : c.low = 0) (h1 : ¬ (c.across = true ∨ c.at_ ≠ 0 ∨ c.high ≠ 0)) (h2 : withinB c.blank (-1) 29 = true) : regionE c i n = 0 := by unfold regionE; rw [if_pos h, if_neg h1, if_neg (by rw [h2]; decide)]
theorem reg_cut3 (h : ¬ c.low = 0) (h1 : c.blank ≠ 0) : regionE c i n = 3 := by unfold regionE; rw [if_neg h, if_pos h1]
theorem reg_cut9 (h : ¬ c.low = 0) (h1 : ¬ c.blank ≠ 0) (h2 : c.low ≤ i ∨ c.high ≤ i ∨ c.low = c.high) : regionE c i n = 9 := by unfold regionE; rw [if_neg h, if_neg h1, if_pos h2]
theorem reg_cut6 (h : ¬ c.low = 0) (h1 : ¬ c.blank ≠ 0) (h2 : ¬ (c.low ≤ i ∨ c.high ≤ i ∨ c.low = c.high)) (h3 : n ≤ c.low ∨ n ≤ c.high) : regionE c i n = 6 := by unfold regionE; rw [if_neg h, if_neg h1, if_neg h2, if_pos h3]
theorem reg_cut0 (h : ¬ c.low = 0) (h1 : ¬ c.blank ≠ 0) (h2 : ¬ (c.low ≤ i ∨ c.high ≤ i ∨ c.low = c.high)) (h3 : ¬ (n ≤ c.low ∨ n ≤ c.high)) : regionE c i n = 0 := by unfold regionE; rw [if_neg h, if_neg h1, if_neg h2, if_neg h3]
end
/-- The ways through a region's check. -/
theorem reg_ways (c : Cut) (i n : Int) :
    (c.low = 0 ∧ c.across = true ∧ regionE c i n = 3) ∨ (c.low = 0 ∧ c.across = false ∧ ¬ c.at_ = 0 ∧ regionE c i n = 3) ∨ (c.low = 0 ∧ c.across = false ∧ c.at_ = 0 ∧ ¬ c.high = 0 ∧ regionE c i n = 3) ∨
    (c.low = 0 ∧ c.across = false ∧ c.at_ = 0 ∧ c.high = 0 ∧ withinB c.blank (-1) 29 = false ∧ regionE c i n = 2) ∨ (c.low = 0 ∧ c.across = false ∧ c.at_ = 0 ∧ c.high = 0 ∧ withinB c.blank (-1) 29 = true ∧ regionE c i n = 0) ∨
    (¬ c.low = 0 ∧ ¬ c.blank = 0 ∧ regionE c i n = 3) ∨ (¬ c.low = 0 ∧ c.blank = 0 ∧ c.low ≤ i ∧ regionE c i n = 9) ∨ (¬ c.low = 0 ∧ c.blank = 0 ∧ ¬ c.low ≤ i ∧ c.high ≤ i ∧ regionE c i n = 9) ∨ (¬ c.low = 0 ∧ c.blank = 0 ∧ ¬ c.low ≤ i ∧ ¬ c.high ≤ i ∧ c.low = c.high ∧ regionE c i n = 9) ∨
    (¬ c.low = 0 ∧ c.blank = 0 ∧ ¬ c.low ≤ i ∧ ¬ c.high ≤ i ∧ ¬ c.low = c.high ∧ c.low ≥ n ∧ regionE c i n = 6) ∨ (¬ c.low = 0 ∧ c.blank = 0 ∧ ¬ c.low ≤ i ∧ ¬ c.high ≤ i ∧ ¬ c.low = c.high ∧ ¬ c.low ≥ n ∧ c.high ≥ n ∧ regionE c i n = 6) ∨
    (¬ c.low = 0 ∧ c.blank = 0 ∧ ¬ c.low ≤ i ∧ ¬ c.high ≤ i ∧ ¬ c.low = c.high ∧ ¬ c.low ≥ n ∧ ¬ c.high ≥ n ∧ regionE c i n = 0) := by
  by_cases h : c.low = 0
  · cases ha : c.across
    · by_cases h1 : c.at_ = 0
      · by_cases h2 : c.high = 0
        · cases hb : withinB c.blank (-1) 29
          · exact .inr (.inr (.inr (.inl ⟨h, rfl, h1, h2, rfl, reg_leaf2 h (by simp [ha, h1, h2]) hb⟩)))
          · exact .inr (.inr (.inr (.inr (.inl ⟨h, rfl, h1, h2, rfl, reg_leaf0 h (by simp [ha, h1, h2]) hb⟩))))
        · exact .inr (.inr (.inl ⟨h, rfl, h1, h2, reg_leaf3 h (.inr (.inr h2))⟩))
      · exact .inr (.inl ⟨h, rfl, h1, reg_leaf3 h (.inr (.inl h1))⟩)
    · exact .inl ⟨h, rfl, reg_leaf3 h (.inl ha)⟩
  · by_cases h1 : c.blank = 0
    · by_cases h2 : c.low ≤ i
      · exact .inr (.inr (.inr (.inr (.inr (.inr (.inl ⟨h, h1, h2, reg_cut9 h (by simp [h1]) (.inl h2)⟩))))))
      · by_cases h3 : c.high ≤ i
        · exact .inr (.inr (.inr (.inr (.inr (.inr (.inr (.inl ⟨h, h1, h2, h3, reg_cut9 h (by simp [h1]) (.inr (.inl h3))⟩)))))))
        · by_cases h4 : c.low = c.high
          · exact .inr (.inr (.inr (.inr (.inr (.inr (.inr (.inr (.inl ⟨h, h1, h2, h3, h4, reg_cut9 h (by simp [h1]) (.inr (.inr h4))⟩))))))))
          · by_cases h5 : c.low ≥ n
            · exact .inr (.inr (.inr (.inr (.inr (.inr (.inr (.inr (.inr (.inl ⟨h, h1, h2, h3, h4, h5, reg_cut6 h (by simp [h1]) (by rintro (q | q | q) <;> contradiction) (.inl h5)⟩)))))))))
            · by_cases h6 : c.high ≥ n
              · exact .inr (.inr (.inr (.inr (.inr (.inr (.inr (.inr (.inr (.inr (.inl ⟨h, h1, h2, h3, h4, h5, h6, reg_cut6 h (by simp [h1]) (by rintro (q | q | q) <;> contradiction) (.inr h6)⟩))))))))))
              · exact .inr (.inr (.inr (.inr (.inr (.inr (.inr (.inr (.inr (.inr (.inr ⟨h, h1, h2, h3, h4, h5, h6, reg_cut0 h (by simp [h1]) (by rintro (q | q | q) <;> contradiction) (by rintro (q | q) <;> contradiction)⟩))))))))))
    · exact .inr (.inr (.inr (.inr (.inr (.inl ⟨h, h1, reg_cut3 h h1⟩)))))
theorem bne_f {a b : Int} (h : a = b) : (a != b) = false := by simpa using h
theorem bne_t {a b : Int} (h : ¬ a = b) : (a != b) = true := by simpa using h
end Go.Proofs.Ytoelfalmmaddlaa

set_option linter.unusedVariables false
set_option linter.unusedSimpArgs false
namespace Go.Proofs.Ytoelfalmmaddlaa
open Go Go.RowKit

def markE (c : Cut) (O : List Bool) : Int := if c.low = 0 then 0 else if O.getD c.low.toNat false = true then 5 else if O.getD c.high.toNat false = true then 5 else 0
def cutErrM (c : Cut) (i n : Int) (O : List Bool) : Int := if regionE c i n ≠ 0 then regionE c i n else markE c O
theorem cutErr_bad {c : Cut} {i n E : Int} {O : List Bool} (h : E = regionE c i n) (h1 : ¬ E = 0) : cutErrM c i n O = E := by unfold cutErrM; rw [← h, if_pos h1]
theorem cutErr_good {c : Cut} {i n : Int} {O : List Bool} (h : regionE c i n = 0) : cutErrM c i n O = markE c O := by unfold cutErrM; rw [if_neg (by simp [h])]
end Go.Proofs.Ytoelfalmmaddlaa

set_option linter.unusedVariables false
set_option linter.unusedSimpArgs false
namespace Go.Proofs.Ytoelfalmmaddlaa
open Go Go.RowKit

section
variable {α : Type} {enc : α → List Value} {k : Nat}
theorem own_setCell {w : World} {base e n g cap : Nat} {l : List α} {i c : Nat} {x' : α} {u : Value} (hk : ∀ x, (enc x).length = k) (h : w.ownsRow base e k (.slice (some ⟨g, 0, none⟩) n cap) n (l.flatMap enc)) (hk0 : 0 < k) (hi : i < l.length) (hc : c < k) (hx : enc x' = (enc l[i]).set c u) :
    (w.setCell ⟨g, i * k + c, none⟩ u).ownsRow base e k (.slice (some ⟨g, 0, none⟩) n cap) n ((l.set i x').flatMap enc) := by
  have hn := own_len hk hk0 h
  refine ⟨by rw [flat_len hk, List.length_set, hn], ?_⟩
  rcases h.2 with ⟨e0, _⟩ | ⟨g', cap', cur, e0, hb, hg, hnc, hm, hs, ht⟩
  · cases e0
  · injection e0 with e1 _ e3
    injection e1 with e1
    injection e1 with e1
    subst e1; subst e3
    refine .inr ⟨g, cap, cur.setIfInBounds (i * k + c) u, rfl, hb, ?_, hnc, hm, by simpa using hs, ?_⟩
    · simp [World.setCell, Array.getElem?_modify, hg]
    · rw [flat_set hk hi hc hx, ← ht, Array.toList_setIfInBounds, List.take_set]
end
theorem own_putR {w : World} {base e n g cap : Nat} {l : List Rect} {i : Nat} (q : Rect) (h : w.ownsRow base e 4 (.slice (some ⟨g, 0, none⟩) n cap) n (l.flatMap cellsR)) (hi : i < l.length) :
    ((((w.setCell ⟨g, i * 4, none⟩ (.int .i64 q.x1)).setCell ⟨g, i * 4 + 1, none⟩ (.int .i64 q.y1)).setCell ⟨g, i * 4 + 2, none⟩ (.int .i64 q.x2)).setCell ⟨g, i * 4 + 3, none⟩ (.int .i64 q.y2)).ownsRow base e 4 (.slice (some ⟨g, 0, none⟩) n cap) n ((l.set i q).flatMap cellsR) := by
  have h0 := own_setCell (c := 0) (x' := ⟨q.x1, l[i].y1, l[i].x2, l[i].y2⟩) (u := .int .i64 q.x1) cellsR_len h (by decide) hi (by decide) rfl
  have h1 := own_setCell (c := 1) (i := i) (x' := ⟨q.x1, q.y1, l[i].x2, l[i].y2⟩) (u := .int .i64 q.y1) cellsR_len h0 (by decide) (by simpa using hi) (by decide) (by rw [List.getElem_set_self]; rfl)
  rw [List.set_set] at h1
  have h2 := own_setCell (c := 2) (i := i) (x' := ⟨q.x1, q.y1, q.x2, l[i].y2⟩) (u := .int .i64 q.x2) cellsR_len h1 (by decide) (by simpa using hi) (by decide) (by rw [List.getElem_set_self]; rfl)
  rw [List.set_set] at h2
  have h3 := own_setCell (c := 3) (i := i) (x' := ⟨q.x1, q.y1, q.x2, q.y2⟩) (u := .int .i64 q.y2) cellsR_len h2 (by decide) (by simpa using hi) (by decide) (by rw [List.getElem_set_self]; rfl)
  rw [List.set_set] at h3
  exact h3
theorem own_getR {w : World} {base e n g cap : Nat} {l : List Rect} {i : Nat} (h : w.ownsRow base e 4 (.slice (some ⟨g, 0, none⟩) n cap) n (l.flatMap cellsR)) (hi : i < l.length) :
    (w.cell? ⟨g, i * 4, none⟩ = some (.int .i64 l[i].x1) ∧ w.cell? ⟨g, i * 4 + 1, none⟩ = some (.int .i64 l[i].y1) ∧ w.cell? ⟨g, i * 4 + 2, none⟩ = some (.int .i64 l[i].x2) ∧ w.cell? ⟨g, i * 4 + 3, none⟩ = some (.int .i64 l[i].y2)) ∧
      (w.frozen? ⟨g, i * 4, none⟩ = false ∧ w.frozen? ⟨g, i * 4 + 1, none⟩ = false ∧ w.frozen? ⟨g, i * 4 + 2, none⟩ = false ∧ w.frozen? ⟨g, i * 4 + 3, none⟩ = false) := by
  obtain ⟨g', cap', hv, _, _, _, _, _, hc⟩ := own_cells cellsR_len h (by rintro rfl; simp at hi) (by decide)
  injection hv with ha _ _
  injection ha with ha
  injection ha with ha
  subst ha
  have c0 := hc i hi 0 (by decide)
  have c1 := hc i hi 1 (by decide)
  have c2 := hc i hi 2 (by decide)
  have c3 := hc i hi 3 (by decide)
  exact ⟨⟨c0.1, c1.1, c2.1, c3.1⟩, ⟨c0.2, c1.2, c2.2, c3.2⟩⟩
theorem flat_zero (n : Nat) : (List.replicate n (⟨0, 0, 0, 0⟩ : Rect)).flatMap cellsR = List.replicate (n * 4) (.int .i64 0) := by
  induction n with
  | zero => rfl
  | succ n ih => rw [List.replicate_succ, List.flatMap_cons, ih, show cellsR ⟨0, 0, 0, 0⟩ = List.replicate 4 (.int .i64 0) from rfl, List.replicate_append_replicate]; congr 1; omega
theorem made_toList (n : Nat) : (madeCells #[.int .i64 0, .int .i64 0, .int .i64 0, .int .i64 0] n).toList = List.replicate n (.int .i64 0) := by
  apply List.ext_getElem
  · simp [madeCells]
  · intro j h1 h2
    simp only [madeCells, Array.toList_map, List.getElem_map, List.getElem_replicate]
    simp
    have : j % 4 < 4 := Nat.mod_lt _ (by decide)
    generalize j % 4 = m at *
    match m, this with
    | 0, _ => rfl
    | 1, _ => rfl
    | 2, _ => rfl
    | 3, _ => rfl
theorem make_rects (W : World) (n : Nat) (hn : n ≤ 100000) : (Instr.makeSlice 66 (.int .i64 (n : Int)) (.int .i64 (n : Int))).run Try.prog W = .ok (.slice (some ⟨W.heap.size, 0, none⟩) n n) (W.alloc (.cells (madeCells #[.int .i64 0, .int .i64 0, .int .i64 0, .int .i64 0] (n * 4)) 90)) := by
  obtain ⟨n0, hn0, hx0, hx1, hx2⟩ := info_parts rect_info
  have := run_make (P := Try.prog) W 66 90 n0 (.agg #[.int .i64 0, .int .i64 0, .int .i64 0, .int .i64 0]) Try.underlying66 hn0 hx0 .i64 .i64 (n : Int) (n : Int) (by omega) (Int.le_refl _) (by rw [hx2]; omega) (by omega)
  rw [this]
  simp [hx1, Value.cells]
theorem made_rects {w : World} {base n : Nat} {T : TypeId} (hb : base ≤ w.heap.size) (hn : n ≤ maxLen) : (w.alloc (.cells (madeCells #[.int .i64 0, .int .i64 0, .int .i64 0, .int .i64 0] (n * 4)) T)).ownsRow base T 4 (.slice (some ⟨w.heap.size, 0, none⟩) n n) n ((List.replicate n (⟨0, 0, 0, 0⟩ : Rect)).flatMap cellsR) := by
  refine ⟨by rw [flat_zero]; simp, .inr ⟨w.heap.size, n, madeCells #[.int .i64 0, .int .i64 0, .int .i64 0, .int .i64 0] (n * 4), rfl, hb, heap_alloc_new w _, Nat.le_refl _, hn, by simp [size_madeCells], ?_⟩⟩
  rw [made_toList, flat_zero, List.take_of_length_le (by simp)]

/-! The model. -/
def markC (c : Cut) (O : List Bool) : List Bool := if c.low = 0 then O else (O.set c.low.toNat true).set c.high.toNat true
theorem markC_len {c : Cut} {O : List Bool} : (markC c O).length = O.length := by unfold markC; split <;> simp
def ownGo (n : Nat) : List Cut → Nat → List Bool → Int × List Bool
  | [], _, O => (0, O)
  | c :: r, i, O => if cutErrM c i n O ≠ 0 then (cutErrM c i n O, O) else ownGo n r (i + 1) (markC c O)
section
variable {n : Nat} {l : List Cut} {k : Nat} {O : List Bool} {q : Int × List Bool}
theorem own_err {E : Int} (hk : k < l.length) (h : q = ownGo n (l.drop k) k O) (he : cutErrM l[k] k n O = E) (hE : E ≠ 0) : q = (E, O) := by
  subst he
  rw [h, List.drop_eq_getElem_cons hk, ownGo, if_pos hE]
theorem own_step (hk : k < l.length) (h : q = ownGo n (l.drop k) k O) (he : cutErrM l[k] k n O = 0) : q = ownGo n (l.drop (k + 1)) (k + 1) (markC l[k] O) := by
  rw [h, List.drop_eq_getElem_cons hk, ownGo, if_neg (by simp [he])]
theorem own_end (hk : l.length ≤ k) (h : q = ownGo n (l.drop k) k O) : q = (0, O) := by rw [h, List.drop_of_length_le hk]; rfl
end
def sizeR (r : Rect) (across : Bool) : Int := if across = true then r.x2 - r.x1 else r.y2 - r.y1
def stepR (kerf : Int) (c : Cut) (q : Rect) (R : List Rect) : List Rect := (R.set c.low.toNat (lowR q c.across c.at_)).set c.high.toNat (highR q c.across c.at_ kerf)
def rectGo (kerf : Int) : List Cut → Nat → List Rect → List Rect × Int
  | [], _, R => (R, 0)
  | c :: r, i, R => if c.low = 0 then rectGo kerf r (i + 1) R else if withinB c.at_ 1 (sizeR (R.getD i ⟨0, 0, 0, 0⟩) c.across - 1) = false then ([], 2) else rectGo kerf r (i + 1) (stepR kerf c (R.getD i ⟨0, 0, 0, 0⟩) R)
section
variable {kerf : Int} {l : List Cut} {k : Nat} {R : List Rect} {q : List Rect × Int}
theorem getR {R : List Rect} {k : Nat} (hk : k < R.length) : R.getD k ⟨0, 0, 0, 0⟩ = R[k] := by rw [List.getD_eq_getElem?_getD, List.getElem?_eq_getElem hk]; rfl
theorem rect_leaf (hk : k < l.length) (h : q = rectGo kerf (l.drop k) k R) (he : l[k].low = 0) : q = rectGo kerf (l.drop (k + 1)) (k + 1) R := by
  rw [h, List.drop_eq_getElem_cons hk, rectGo, if_pos he]
theorem rect_err (hk : k < l.length) (hR : k < R.length) (h : q = rectGo kerf (l.drop k) k R) (he : ¬ l[k].low = 0) (hw : withinB l[k].at_ 1 (sizeR R[k] l[k].across - 1) = false) : q = ([], 2) := by
  rw [h, List.drop_eq_getElem_cons hk, rectGo, if_neg he, getR hR, if_pos hw]
theorem rect_step (hk : k < l.length) (hR : k < R.length) (h : q = rectGo kerf (l.drop k) k R) (he : ¬ l[k].low = 0) (hw : withinB l[k].at_ 1 (sizeR R[k] l[k].across - 1) = true) : q = rectGo kerf (l.drop (k + 1)) (k + 1) (stepR kerf l[k] R[k] R) := by
  rw [h, List.drop_eq_getElem_cons hk, rectGo, if_neg he, getR hR, if_neg (by rw [hw]; decide)]
theorem rect_end (hk : l.length ≤ k) (h : q = rectGo kerf (l.drop k) k R) : q = (R, 0) := by rw [h, List.drop_of_length_le hk]; rfl
end
theorem stepR_len {kerf : Int} {c : Cut} {q : Rect} {R : List Rect} : (stepR kerf c q R).length = R.length := by simp [stepR]
theorem okR_low {r : Rect} {ac : Bool} {a : Int} (h : okR r) (ha : 1 ≤ a ∧ a ≤ sizeR r ac - 1) : okR (lowR r ac a) := by
  rcases h with rfl | h
  · unfold sizeR at ha; split at ha <;> simp at ha <;> omega
  · right
    unfold proper at h ⊢
    unfold sizeR at ha
    unfold lowR
    split at ha <;> simp_all <;> omega
theorem okR_high {r : Rect} {ac : Bool} {a kerf : Int} (h : okR r) (ha : 1 ≤ a ∧ a ≤ sizeR r ac - 1) (hk : 0 ≤ kerf) : okR (highR r ac a kerf) := by
  rcases h with rfl | h
  · unfold sizeR at ha; split at ha <;> simp at ha <;> omega
  · unfold proper at h
    unfold sizeR at ha
    unfold highR
    refine okR_whole ?_
    split at ha <;> simp_all <;> omega
theorem okR_step {kerf : Int} {c : Cut} {q : Rect} {R : List Rect} (h : ∀ r ∈ R, okR r) (hq : okR q) (ha : 1 ≤ c.at_ ∧ c.at_ ≤ sizeR q c.across - 1) (hk : 0 ≤ kerf) : ∀ r ∈ stepR kerf c q R, okR r := by
  intro r hr
  unfold stepR at hr
  rcases List.mem_or_eq_of_mem_set hr with hr | rfl
  · rcases List.mem_or_eq_of_mem_set hr with hr | rfl
    · exact h r hr
    · exact okR_low hq ha
  · exact okR_high hq ha hk
def regM (u : Rect) (kerf : Int) (l : List Cut) : List Rect × Int :=
  if l.length = 0 then ([], 10) else if 400 < l.length then ([], 8)
  else if (ownGo l.length l 0 (List.replicate l.length false)).1 ≠ 0 then ([], (ownGo l.length l 0 (List.replicate l.length false)).1)
  else if (((ownGo l.length l 0 (List.replicate l.length false)).2).set 0 true).all id = false then ([], 10)
  else rectGo kerf l 0 ((List.replicate l.length ⟨0, 0, 0, 0⟩).set 0 u)
def layM (b : Board) (t : Trim) (l : List Cut) : List Rect × Int := if cutE b t ≠ 0 then ([], cutE b t) else regM (usableR b t) t.kerf l
def LayPost (w : World) (q : List Rect × Int) (e : Ending) (w' : World) : Prop := ∃ (a : Option Addr) (c : Nat), e = .returned (.tuple #[.slice a q.1.length c, .int .i64 q.2]) ∧ Rects.V w' a q.1 ∧ Below w.heap.size w w' ∧ (∀ x : Addr, a = some x → w.heap.size ≤ x.block)
theorem LayPost.empty {w w' : World} {q : List Rect × Int} {E : Int} (hq : q = ([], E)) (hb : Below w.heap.size w w') : LayPost w q (.returned (.tuple #[.slice none 0 0, .int .i64 E])) w' := by
  subst hq
  exact ⟨none, 0, rfl, fun h => absurd rfl h, hb, fun x h => by cases h⟩
end Go.Proofs.Ytoelfalmmaddlaa

set_option linter.unusedVariables false
set_option linter.unusedSimpArgs false
namespace Go.Proofs.Ytoelfalmmaddlaa
open Go Go.RowKit

structure HeadC (W : World) (g : Nat) (c : Cut) : Prop where
  a : W.cell? ⟨g, 0, none⟩ = some (.bool c.across)
  t : W.cell? ⟨g, 1, none⟩ = some (.int .i64 c.at_)
theorem HeadC.keep {W W' : World} {g : Nat} {c : Cut} (h : HeadC W g c) (hb : Below W.heap.size W W') : HeadC W' g c := ⟨cell_keep hb h.a, cell_keep hb h.t⟩
theorem HeadC.drew {W : World} {g : Nat} {c : Cut} (h : HeadC W g c) : HeadC W.drew g c := ⟨h.a, h.t⟩
theorem HeadC.set {W : World} {g : Nat} {c : Cut} {a : Addr} {u : Value} (h : HeadC W g c) (hne : a.block ≠ g) (ha : a.spot = none) : HeadC (W.setCell a u) g c := by
  have hn : ∀ o, a ≠ (⟨g, o, none⟩ : Addr) := fun o e => hne (by rw [e])
  exact ⟨by rw [cell_set_ne (hn _) ha rfl]; exact h.a, by rw [cell_set_ne (hn _) ha rfl]; exact h.t⟩
/-- What the region that makes low and high leaves. -/
structure PartW (w : World) (r : Rect) (c : Cut) (gx gy : Nat) (b1 b2 : Rect) (W : World) : Prop where
  br : BoxR W w.heap.size r
  hc : HeadC W (w.heap.size + 1) c
  bl : BoxR W (w.heap.size + 2) ⟨0, 0, 0, 0⟩
  bh : BoxR W (w.heap.size + 3) ⟨0, 0, 0, 0⟩
  bx : BoxR W gx b1
  by_ : BoxR W gy b2
  ne : gx ≠ gy
  hx : w.heap.size + 3 < gx
  hy : w.heap.size + 3 < gy
  be : Below w.heap.size w W
def PartR (w : World) (r : Rect) (c : Cut) (u : Nat → Value) (W : World) : Prop := ∃ gx gy : Nat, u 8 = .pointer (some ⟨gx, 0, none⟩) ∧ u 9 = .pointer (some ⟨gy, 0, none⟩) ∧ PartW w r c gx gy r r W

theorem BoxR.alloc {W : World} {g : Nat} {r : Rect} (h : BoxR W g r) (o : Obj) : BoxR (W.alloc o) g r := h.keep ((Below.refl _ _).alloc (Nat.le_refl _) _)
theorem HeadC.alloc {W : World} {g : Nat} {c : Cut} (h : HeadC W g c) (o : Obj) : HeadC (W.alloc o) g c := h.keep ((Below.refl _ _).alloc (Nat.le_refl _) _)
theorem PartW.keep {w W W' : World} {r : Rect} {c : Cut} {gx gy : Nat} {b1 b2 : Rect} (h : PartW w r c gx gy b1 b2 W) (hb : Below W.heap.size W W') : PartW w r c gx gy b1 b2 W' :=
  ⟨h.br.keep hb, h.hc.keep hb, h.bl.keep hb, h.bh.keep hb, h.bx.keep hb, h.by_.keep hb, h.ne, h.hx, h.hy, h.be.trans (hb.mono h.be.size)⟩
theorem bne_f5 {a : Int} (h : a = 0) : (a != 0) = false := by simpa using h
theorem bne_t5 {a : Int} (h : ¬ a = 0) : (a != 0) = true := by simpa using h
theorem boxR_new (W : World) (g : Nat) (T : TypeId) (hg : g = W.heap.size) : BoxR (W.alloc (.cells #[.int .i64 0, .int .i64 0, .int .i64 0, .int .i64 0] T)) g ⟨0, 0, 0, 0⟩ := by
  subst hg
  exact ⟨by simp [go_sem], by simp [go_sem], by simp [go_sem], by simp [go_sem], by simp [go_sem], by simp [go_sem], by simp [go_sem], by simp [go_sem]⟩
theorem boxR_new2 (W : World) (g : Nat) (T : TypeId) (q : Rect) (hg : g = W.heap.size) : BoxR (W.alloc (.cells #[.int .i64 q.x1, .int .i64 q.y1, .int .i64 q.x2, .int .i64 q.y2] T)) g q := by
  subst hg
  exact ⟨by simp [go_sem], by simp [go_sem], by simp [go_sem], by simp [go_sem], by simp [go_sem], by simp [go_sem], by simp [go_sem], by simp [go_sem]⟩
section
variable {W : World} {g : Nat} {x1 y1 x2 y2 : Int}
theorem BoxR.s0 (h : BoxR W g ⟨x1, y1, x2, y2⟩) (v : Int) : BoxR (W.setCell ⟨g, 0, none⟩ (.int .i64 v)) g ⟨v, y1, x2, y2⟩ := by
  obtain ⟨c0, c1, c2, c3, f0, f1, f2, f3⟩ := h
  simp only at c0 c1 c2 c3
  exact ⟨by simp [go_sem, *], by simp [go_sem, *], by simp [go_sem, *], by simp [go_sem, *], by simp [go_sem, *], by simp [go_sem, *], by simp [go_sem, *], by simp [go_sem, *]⟩
theorem BoxR.s1 (h : BoxR W g ⟨x1, y1, x2, y2⟩) (v : Int) : BoxR (W.setCell ⟨g, 1, none⟩ (.int .i64 v)) g ⟨x1, v, x2, y2⟩ := by
  obtain ⟨c0, c1, c2, c3, f0, f1, f2, f3⟩ := h
  simp only at c0 c1 c2 c3
  exact ⟨by simp [go_sem, *], by simp [go_sem, *], by simp [go_sem, *], by simp [go_sem, *], by simp [go_sem, *], by simp [go_sem, *], by simp [go_sem, *], by simp [go_sem, *]⟩
theorem BoxR.s2 (h : BoxR W g ⟨x1, y1, x2, y2⟩) (v : Int) : BoxR (W.setCell ⟨g, 2, none⟩ (.int .i64 v)) g ⟨x1, y1, v, y2⟩ := by
  obtain ⟨c0, c1, c2, c3, f0, f1, f2, f3⟩ := h
  simp only at c0 c1 c2 c3
  exact ⟨by simp [go_sem, *], by simp [go_sem, *], by simp [go_sem, *], by simp [go_sem, *], by simp [go_sem, *], by simp [go_sem, *], by simp [go_sem, *], by simp [go_sem, *]⟩
theorem BoxR.s3 (h : BoxR W g ⟨x1, y1, x2, y2⟩) (v : Int) : BoxR (W.setCell ⟨g, 3, none⟩ (.int .i64 v)) g ⟨x1, y1, x2, v⟩ := by
  obtain ⟨c0, c1, c2, c3, f0, f1, f2, f3⟩ := h
  simp only at c0 c1 c2 c3
  exact ⟨by simp [go_sem, *], by simp [go_sem, *], by simp [go_sem, *], by simp [go_sem, *], by simp [go_sem, *], by simp [go_sem, *], by simp [go_sem, *], by simp [go_sem, *]⟩
end
end Go.Proofs.Ytoelfalmmaddlaa

set_option linter.unusedVariables false
set_option linter.unusedSimpArgs false
namespace Go.Proofs.Ytoelfalmmaddlaa
open Go Go.RowKit

theorem put_keep {w : World} {B i : Nat} {a b c d v : Value} {p : Addr} (h : w.cell? p = some v) (hn : p.block ≠ B ∨ (p.off < i * 4 ∨ i * 4 + 3 < p.off)) (hs : p.spot = none) :
    ((((w.setCell ⟨B, i * 4, none⟩ a).setCell ⟨B, i * 4 + 1, none⟩ b).setCell ⟨B, i * 4 + 2, none⟩ c).setCell ⟨B, i * 4 + 3, none⟩ d).cell? p = some v := by
  have hne : ∀ j, i * 4 ≤ j → j ≤ i * 4 + 3 → (⟨B, j, none⟩ : Addr) ≠ p := by
    rintro j h1 h2 rfl
    rcases hn with hn | hn
    · exact hn rfl
    · simp only at hn; omega
  rw [cell_set_ne (hne _ (by omega) (by omega)) rfl hs, cell_set_ne (hne _ (by omega) (by omega)) rfl hs, cell_set_ne (hne _ (by omega) (by omega)) rfl hs, cell_set_ne (hne _ (by omega) (by omega)) rfl hs]
  exact h
structure CutB (W : World) (g : Nat) (c : Cut) : Prop where
  a : W.cell? ⟨g, 0, none⟩ = some (.bool c.across)
  t : W.cell? ⟨g, 1, none⟩ = some (.int .i64 c.at_)
  l : W.cell? ⟨g, 2, none⟩ = some (.int .i64 c.low)
  h : W.cell? ⟨g, 3, none⟩ = some (.int .i64 c.high)
  k : W.cell? ⟨g, 4, none⟩ = some (.int .i64 c.blank)
theorem CutB.keep {W W' : World} {g : Nat} {c : Cut} (h : CutB W g c) (hb : Below W.heap.size W W') : CutB W' g c := ⟨cell_keep hb h.a, cell_keep hb h.t, cell_keep hb h.l, cell_keep hb h.h, cell_keep hb h.k⟩
structure TrimB (W : World) (g : Nat) (t : Trim) : Prop where
  k : W.cell? ⟨g, 0, none⟩ = some (.int .i64 t.kerf)
  e : W.cell? ⟨g, 1, none⟩ = some (.int .i64 t.ends)
  s : W.cell? ⟨g, 2, none⟩ = some (.int .i64 t.sides)
theorem TrimB.keep {W W' : World} {g : Nat} {t : Trim} (h : TrimB W g t) (hb : Below W.heap.size W W') : TrimB W' g t := ⟨cell_keep hb h.k, cell_keep hb h.e, cell_keep hb h.s⟩
end Go.Proofs.Ytoelfalmmaddlaa

set_option linter.unusedVariables false
set_option linter.unusedSimpArgs false
namespace Go.Proofs.Ytoelfalmmaddlaa
open Go Go.RowKit

def briefB (n : Nat) : Bool := decide (n ≤ 40) || (decide (400 < n) && decide (n ≤ 420))
end Go.Proofs.Ytoelfalmmaddlaa

set_option linter.unusedVariables false
set_option linter.unusedSimpArgs false
namespace Go.Proofs.Ytoelfalmmaddlaa
open Go Go.RowKit

/-- The boxed arguments of a layout's functions. -/
structure LayB (W : World) (g : Nat) (b : Board) (ad : Option Addr) (cd : Nat) (t : Trim) (brd : Int) (al : Option Addr) (n cl : Nat) : Prop where
  bd : CellsBd W g 0 b ad cd
  tr : TrimB W (g + 1) t
  lb : W.cell? ⟨g + 2, 0, none⟩ = some (.int .i64 brd)
  lc : W.cell? ⟨g + 2, 1, none⟩ = some (.slice al n cl)
theorem LayB.keep {W W' : World} {g : Nat} {b : Board} {ad : Option Addr} {cd : Nat} {t : Trim} {brd : Int} {al : Option Addr} {n cl : Nat} (h : LayB W g b ad cd t brd al n cl) (hb : Below W.heap.size W W') : LayB W' g b ad cd t brd al n cl := ⟨h.bd.keep hb, h.tr.keep hb, cell_keep hb h.lb, cell_keep hb h.lc⟩
theorem getD_set0 {O : List Bool} {i : Nat} (h : 0 < i) : (O.set 0 true).getD i false = O.getD i false := by
  simp only [List.getD_eq_getElem?_getD]
  rw [List.getElem?_set_ne (by omega)]
theorem mark_set0 {c : Cut} {O : List Bool} (h : ¬ c.low = 0) (h1 : 0 < c.low.toNat) (h2 : 0 < c.high.toNat) : (markC c O).set 0 true = ((O.set 0 true).set c.low.toNat true).set c.high.toNat true := by
  unfold markC
  rw [if_neg h, List.set_comm _ _ (show c.high.toNat ≠ 0 by omega), List.set_comm _ _ (show c.low.toNat ≠ 0 by omega)]
theorem bne_f9 {a : Int} (h : ¬ a = 0) : (a != 0) = true := by simpa using h
theorem reg_zero {c : Cut} {i n : Int} (h : regionE c i n = 0) (hl : ¬ c.low = 0) : i < c.low ∧ i < c.high ∧ ¬ c.low = c.high ∧ c.low < n ∧ c.high < n := by
  unfold regionE at h
  rw [if_neg hl] at h
  split at h
  · cases h
  · split at h
    · cases h
    · split at h
      · cases h
      · omega
def regC (q : Int × List Bool) (u : Rect) (kerf : Int) (l : List Cut) : List Rect × Int :=
  if q.1 ≠ 0 then ([], q.1) else if (q.2.set 0 true).all id = false then ([], 10) else rectGo kerf l 0 ((List.replicate l.length ⟨0, 0, 0, 0⟩).set 0 u)
theorem regC_err {P : Int × List Bool} {u : Rect} {kerf E : Int} {O : List Bool} {l : List Cut} (h : P = (E, O)) (hE : E ≠ 0) : regC P u kerf l = ([], E) := by subst h; unfold regC; rw [if_pos hE]
theorem regC_shape {P : Int × List Bool} {u : Rect} {kerf : Int} {O : List Bool} {l : List Cut} (h : P = (0, O)) (hE : (O.set 0 true).all id = false) : regC P u kerf l = ([], 10) := by subst h; unfold regC; rw [if_neg (by simp), if_pos hE]
theorem regC_go {P : Int × List Bool} {u : Rect} {kerf : Int} {O : List Bool} {l : List Cut} (h : P = (0, O)) (hE : (O.set 0 true).all id = true) : regC P u kerf l = rectGo kerf l 0 ((List.replicate l.length ⟨0, 0, 0, 0⟩).set 0 u) := by subst h; unfold regC; rw [if_neg (by simp), if_neg (by rw [hE]; decide)]
end Go.Proofs.Ytoelfalmmaddlaa

set_option linter.unusedVariables false
set_option linter.unusedSimpArgs false
namespace Go.Proofs.Ytoelfalmmaddlaa
open Go Go.RowKit

end Go.Proofs.Ytoelfalmmaddlaa

set_option linter.unusedVariables false
set_option linter.unusedSimpArgs false
namespace Go.Proofs.Ytoelfalmmaddlaa
open Go Go.RowKit

theorem regM_err {u : Rect} {kerf E : Int} {l : List Cut} {O : List Bool} (h0 : ¬ l.length = 0) (h4 : ¬ 400 < l.length) (h : ownGo l.length l 0 (List.replicate l.length false) = (E, O)) (hE : E ≠ 0) : regM u kerf l = ([], E) := by
  unfold regM
  rw [if_neg h0, if_neg h4, h, if_pos hE]
theorem regM_shape {u : Rect} {kerf : Int} {l : List Cut} {O : List Bool} (h0 : ¬ l.length = 0) (h4 : ¬ 400 < l.length) (h : ownGo l.length l 0 (List.replicate l.length false) = (0, O)) (hE : (O.set 0 true).all id = false) : regM u kerf l = ([], 10) := by
  unfold regM
  rw [if_neg h0, if_neg h4, h, if_neg (by simp), if_pos hE]
theorem regM_go {u : Rect} {kerf : Int} {l : List Cut} {O : List Bool} (h0 : ¬ l.length = 0) (h4 : ¬ 400 < l.length) (h : ownGo l.length l 0 (List.replicate l.length false) = (0, O)) (hE : (O.set 0 true).all id = true) : regM u kerf l = rectGo kerf l 0 ((List.replicate l.length ⟨0, 0, 0, 0⟩).set 0 u) := by
  unfold regM
  rw [if_neg h0, if_neg h4, h, if_neg (by simp), if_neg (by rw [hE]; decide)]
theorem set0_all {O : List Bool} {k : Nat} (hk : 0 < k) (hkl : O.length ≤ k) (h : ∀ j (hj : j < O.length), 0 < j → j < k → O[j] = true) : (O.set 0 true).all id = true := by
  rw [List.all_eq_true]
  intro x hx
  obtain ⟨j, hj, rfl⟩ := List.mem_iff_getElem.1 hx
  rw [List.getElem_set]
  split
  · rfl
  · rename_i h0
    have hj' : j < O.length := by simpa using hj
    exact h j hj' (by omega) (by omega)
theorem set0_no {O : List Bool} {k : Nat} (hk : 0 < k) (hkl : k < O.length) (h : O[k] = false) : (O.set 0 true).all id = false := by
  rw [Bool.eq_false_iff]
  intro h2
  rw [List.all_eq_true] at h2
  have := h2 ((O.set 0 true)[k]'(by simpa using hkl)) (List.getElem_mem _)
  rw [List.getElem_set_ne (by omega)] at this
  rw [h] at this
  cases this
theorem cut0_reg {c : Cut} {i n : Int} {O : List Bool} (h : cutErrM c i n O = 0) : regionE c i n = 0 := by
  unfold cutErrM at h
  split at h
  · rename_i h1; exact absurd h h1
  · rename_i h1; simpa using h1
theorem getD_elem {O : List Bool} {k : Nat} (hk : k < O.length) : O[k] = O.getD k false := by rw [List.getD_eq_getElem?_getD, List.getElem?_eq_getElem hk]; rfl
end Go.Proofs.Ytoelfalmmaddlaa

set_option linter.unusedVariables false
set_option linter.unusedSimpArgs false
namespace Go.Proofs.Ytoelfalmmaddlaa
open Go Go.RowKit

theorem layM_cut {b : Board} {t : Trim} {l : List Cut} {E : Int} (h : cutE b t = E) (hE : E ≠ 0) : layM b t l = ([], E) := by unfold layM; rw [h, if_pos hE]
theorem layM_ok {b : Board} {t : Trim} {l : List Cut} (h : cutE b t = 0) : layM b t l = regM (usableR b t) t.kerf l := by unfold layM; rw [if_neg (by simp [h])]
end Go.Proofs.Ytoelfalmmaddlaa
