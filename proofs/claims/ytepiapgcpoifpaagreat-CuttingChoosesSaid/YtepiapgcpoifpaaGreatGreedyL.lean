/- What is a leaf stays plain. -/
import Derived.Test.YtepiapgcpoifpaaGreatGreedyM
set_option linter.unusedVariables false
set_option linter.unusedSimpArgs false
namespace Go.Proofs.YtepiapgcpoifpaaGreat

def leafC (c : Cut) : Prop := c.low = 0 → c.across = false ∧ c.at_ = 0 ∧ c.high = 0
structure LeafB (s : BS) : Prop where
  leaf : ∀ c ∈ s.cuts, leafC c
/-- A region that may become a piece. -/
structure FreeP (s : BS × Nat) : Prop where
  leaf : LeafB s.1
  lt : s.2 < s.1.cuts.length
  low : (s.1.cuts.getD s.2 wasteC).low = 0
theorem leaf_cut {s : BS} {kerf : Int} {region : Nat} {across : Bool} {a : Int} (h : LeafB s) (hr : region < s.cuts.length) : LeafB (s.cut kerf region across a) := by
  refine ⟨fun c hc => ?_⟩
  unfold BS.cut at hc
  rcases List.mem_or_eq_of_mem_set hc with hc | rfl
  · simp only [List.mem_append, List.mem_cons, List.not_mem_nil, or_false] at hc
    rcases hc with hc | rfl | rfl
    · exact h.leaf c hc
    · intro _; exact ⟨rfl, rfl, rfl⟩
    · intro _; exact ⟨rfl, rfl, rfl⟩
  · intro h0; simp only at h0; omega
theorem free_low {s : BS} {kerf : Int} {region : Nat} {across : Bool} {a : Int} (h : LeafB s) (hr : region < s.cuts.length) : FreeP (s.cut kerf region across a, s.cuts.length) := by
  refine ⟨leaf_cut h hr, by simp [BS.cut], ?_⟩
  simp only [BS.cut, List.getD_eq_getElem?_getD]
  rw [List.getElem?_set_ne (by omega), List.getElem?_append_right (Nat.le_refl _)]
  simp [wasteC]
theorem free_high {s : BS} {kerf : Int} {region : Nat} {across : Bool} {a : Int} (h : LeafB s) (hr : region < s.cuts.length) : FreeP (s.cut kerf region across a, s.cuts.length + 1) := by
  refine ⟨leaf_cut h hr, by simp [BS.cut], ?_⟩
  simp only [BS.cut, List.getD_eq_getElem?_getD]
  rw [List.getElem?_set_ne (by omega), List.getElem?_append_right (by omega)]
  simp [wasteC]
theorem free_cut1 {s : BS} {kerf o : Int} {region : Nat} (h : FreeP (s, region)) : FreeP (s.cut1 kerf region o) := by
  unfold BS.cut1
  split
  · exact free_high h.leaf h.lt
  · exact h
theorem free_cut2 {s : BS × Nat} {kerf : Int} {w : Blank} (h : FreeP s) : FreeP (BS.cut2 s kerf w) := by
  unfold BS.cut2
  split
  · exact free_low h.leaf h.lt
  · exact h
theorem free_cut3 {s : BS × Nat} {kerf : Int} {w : Blank} (h : FreeP s) : FreeP (BS.cut3 s kerf w) := by
  unfold BS.cut3
  split
  · exact free_low h.leaf h.lt
  · exact h
theorem free_get {s : BS × Nat} (h : FreeP s) : leafC (s.1.cuts[s.2]'h.lt) ∧ (s.1.cuts[s.2]'h.lt).low = 0 := by
  refine ⟨h.leaf.leaf _ (List.getElem_mem h.lt), ?_⟩
  have := h.low
  rwa [List.getD_eq_getElem?_getD, List.getElem?_eq_getElem h.lt] at this
theorem mark_eq {s : BS × Nat} {number : Int} (h : FreeP s) : (⟨s.1.cuts.set s.2 { s.1.cuts[s.2]'h.lt with blank := number }, s.1.rects⟩ : BS) = BS.mark s number := by
  obtain ⟨h1, h2⟩ := free_get h
  obtain ⟨a1, a2, a3⟩ := h1 h2
  unfold BS.mark pieceC
  congr 2
  cases hc : s.1.cuts[s.2]'h.lt
  rw [hc] at h2 a1 a2 a3
  simp only at h2 a1 a2 a3
  simp [h2, a1, a2, a3]
theorem leaf_mark {s : BS × Nat} {number : Int} (h : LeafB s.1) : LeafB (BS.mark s number) := by
  refine ⟨fun c hc => ?_⟩
  unfold BS.mark at hc
  rcases List.mem_or_eq_of_mem_set hc with hc | rfl
  · exact h.leaf c hc
  · intro _; exact ⟨rfl, rfl, rfl⟩
theorem free_at {s : BS} {kerf : Int} {ds : List Rect} {w : Blank} {k : Nat} {o : Int} (h : LeafB s) (hk : k < s.cuts.length) (hs : s.at_ kerf ds w k = some o) : FreeP (s, k) := by
  refine ⟨h, hk, ?_⟩
  unfold BS.at_ at hs
  split at hs
  · rename_i hf
    simp only [freeC, Bool.and_eq_true, decide_eq_true_eq] at hf
    exact hf.1.1
  · cases hs
theorem leaf_place {s : BS} {kerf : Int} {ds : List Rect} {w : Blank} {number : Int} {k : Nat} {o : Int} (h : LeafB s) (hk : k < s.cuts.length) (hs : s.at_ kerf ds w k = some o) : LeafB (s.place kerf w number k o) :=
  leaf_mark (free_cut3 (free_cut2 (free_cut1 (free_at h hk hs)))).leaf
theorem leaf_put {s s' : BS} {kerf : Int} {b : Board} {w : Blank} {number : Int} (h : LeafB s) (hs : s.put kerf b w number = some s') : LeafB s' := by
  unfold BS.put at hs
  split at hs
  · rw [Option.map_eq_some_iff] at hs
    obtain ⟨x, hx, rfl⟩ := hs
    obtain ⟨_, h2, h3⟩ := scan_some hx
    exact leaf_place h (by omega) h3
  · cases hs
theorem cut1_pos {s : BS} {kerf o : Int} {region : Nat} (h : 0 < o) : s.cut1 kerf region o = (s.cut kerf region true (o - kerf), s.cuts.length + 1) := by unfold BS.cut1; rw [if_pos h]
theorem cut1_zero {s : BS} {kerf o : Int} {region : Nat} (h : ¬ 0 < o) : s.cut1 kerf region o = (s, region) := by unfold BS.cut1; rw [if_neg h]
theorem cut2_yes {s : BS} {a : Nat} {kerf : Int} {w : Blank} (h : w.length < (s.r a).x2 - (s.r a).x1) : BS.cut2 (s, a) kerf w = (s.cut kerf a true w.length, s.cuts.length) := by unfold BS.cut2; rw [if_pos h]
theorem cut2_no {s : BS} {a : Nat} {kerf : Int} {w : Blank} (h : ¬ w.length < (s.r a).x2 - (s.r a).x1) : BS.cut2 (s, a) kerf w = (s, a) := by unfold BS.cut2; rw [if_neg h]
theorem cut3_yes {s : BS} {a : Nat} {kerf : Int} {w : Blank} (h : w.width < (s.r a).y2 - (s.r a).y1) : BS.cut3 (s, a) kerf w = (s.cut kerf a false w.width, s.cuts.length) := by unfold BS.cut3; rw [if_pos h]
theorem cut3_no {s : BS} {a : Nat} {kerf : Int} {w : Blank} (h : ¬ w.width < (s.r a).y2 - (s.r a).y1) : BS.cut3 (s, a) kerf w = (s, a) := by unfold BS.cut3; rw [if_neg h]
end Go.Proofs.YtepiapgcpoifpaaGreat
