import Derived.Test.YtjmgboipbhddlaaGreatDoorCX
import Derived.Test.YtjmgboipbhddlaaGreatDoorQM
set_option linter.unusedVariables false
set_option linter.unusedSimpArgs false
namespace Go.Proofs.YtjmgboipbhddlaaGreatDoor
open Go Go.RowKit

abbrev slotC (a : Addr) (cs : List Cut) : Slot := ⟨some a, 86, 5, cs.flatMap cellsC⟩
abbrev slotR (a : Addr) (rs : List Rect) : Slot := ⟨some a, 41, 4, rs.flatMap cellsR⟩
def setB (L : List Slot) (i : Nat) (ac ar : Addr) (s : BS) : List Slot := (L.set i (slotC ac s.cuts)).set (i + 1) (slotR ar s.rects)
structure AtB (L : List Slot) (i : Nat) (ac ar : Addr) (s : BS) : Prop where
 c : L[i]? = some (slotC ac s.cuts)
 r : L[i + 1]? = some (slotR ar s.rects)
theorem AtB.set {L : List Slot} {i : Nat} {ac ar : Addr} {s : BS} (h : AtB L i ac ar s) (s' : BS) : AtB (setB L i ac ar s') i ac ar s' := by
 have h1 := (List.getElem?_eq_some_iff.1 h.c).1
 have h2 := (List.getElem?_eq_some_iff.1 h.r).1
 exact ⟨by simp [setB, List.getElem?_set, h1], by simp [setB, List.getElem?_set, h2]⟩
theorem setB_setB {L : List Slot} {i : Nat} {ac ar : Addr} {s s' : BS} : setB (setB L i ac ar s) i ac ar s' = setB L i ac ar s' := by
 unfold setB
 rw [List.set_comm _ _ (by omega : i + 1 ≠ i), List.set_set, List.set_set]
theorem setB_same {L : List Slot} {i : Nat} {ac ar : Addr} {s : BS} (h : AtB L i ac ar s) : setB L i ac ar s = L := by
 unfold setB
 have h1 := List.getElem?_eq_some_iff.1 h.c
 have h2 := List.getElem?_eq_some_iff.1 h.r
 obtain ⟨l1, e1⟩ := h1
 obtain ⟨l2, e2⟩ := h2
 rw [← e1, List.set_getElem_self, ← e2, List.set_getElem_self]
theorem slotC_app (a : Addr) (cs : List Cut) (x : List Cut) : { slotC a cs with xs := (slotC a cs).xs ++ x.flatMap cellsC } = slotC a (cs ++ x) := by simp [slotC, List.flatMap_append]
theorem slotR_app (a : Addr) (rs : List Rect) (x : List Rect) : { slotR a rs with xs := (slotR a rs).xs ++ x.flatMap cellsR } = slotR a (rs ++ x) := by simp [slotR, List.flatMap_append]

theorem desk_stored {W w5 : World} {base : Nat} {L : List Slot} {St : Addr → Value → Prop} {V V' : Nat → Value} {i : Nat} {ac ar : Addr} {s s' : BS} (h : AtB L i ac ar s)
    (hO : Owned w5 base (setB L i ac ar s') V' St) (hcell : ∀ (j : Nat) (t : Slot) (a : Addr), L[j]? = some t → t.a = some a → j ≠ i → j ≠ i + 1 → w5.cell? a = some (V' j)) :
    Desk ((w5.setCell ac (V' i)).setCell ar (V' (i + 1))) base (setB L i ac ar s') St := by
 have hA := h.set s'
 obtain ⟨o1, c1, k1⟩ := hO.store hA.c rfl (V' i)
 obtain ⟨o2, c2, k2⟩ := o1.store hA.r rfl (V' (i + 1))
 refine ⟨V', o2, fun j t a hj ha => ?_⟩
 by_cases hji : j = i
 ·subst hji
  rw [hA.c] at hj
  injection hj with hj
  subst hj
  injection ha with ha
  subst ha
  rw [k2 j _ ac hA.c (by omega) rfl]; exact c1
 ·by_cases hji2 : j = i + 1
  ·subst hji2
   rw [hA.r] at hj
   injection hj with hj
   subst hj
   injection ha with ha
   subst ha
   exact c2
  ·rw [k2 j t a hj hji2 ha, k1 j t a hj hji ha]
   have : L[j]? = some t := by
    unfold setB at hj
    rw [List.getElem?_set_ne (by omega), List.getElem?_set_ne (by omega)] at hj
    exact hj
   exact hcell j t a this ha hji hji2
theorem own_len' {w : World} {base e k n : Nat} {v : Value} {α : Type} {enc : α → List Value} {l : List α} (hk : ∀ x, (enc x).length = k) (hk0 : 0 < k) (h : w.ownsRow base e k v n (l.flatMap enc)) : w.ownsRow base e k v l.length (l.flatMap enc) := by
 have := own_len hk hk0 h
 subst this; exact h
theorem Desk.rowC {w : World} {base : Nat} {L : List Slot} {St : Addr → Value → Prop} {i : Nat} {ac ar : Addr} {s : BS} (h : Desk w base L St) (hA : AtB L i ac ar s) (hne : s.cuts ≠ []) :
    ∃ g cap, w.cell? ac = some (.slice (some ⟨g, 0, none⟩) s.cuts.length cap) ∧ w.frozen? ac = false ∧ base ≤ g ∧ g < w.heap.size ∧ s.cuts.length ≤ cap ∧ cap ≤ 9223372036854775807 ∧
     ∀ k (hk : k < s.cuts.length) c, c < 5 → w.cell? ⟨g, k * 5 + c, none⟩ = (cellsC s.cuts[k])[c]? ∧ w.frozen? ⟨g, k * 5 + c, none⟩ = false := by
 obtain ⟨v, n, h1, h2, h3, h4⟩ := h.row hA.c rfl
 obtain ⟨g, cap, rfl, h5, h6, rfl, h7, h8, h9⟩ := own_cells cellsC_len h3 hne (by decide)
 exact ⟨g, cap, h1, h2, h5, h6, h7, h8, h9⟩
theorem Desk.rowR {w : World} {base : Nat} {L : List Slot} {St : Addr → Value → Prop} {i : Nat} {ac ar : Addr} {s : BS} (h : Desk w base L St) (hA : AtB L i ac ar s) (hne : s.rects ≠ []) :
    ∃ g cap, w.cell? ar = some (.slice (some ⟨g, 0, none⟩) s.rects.length cap) ∧ w.frozen? ar = false ∧ base ≤ g ∧ g < w.heap.size ∧ s.rects.length ≤ cap ∧ cap ≤ 9223372036854775807 ∧
     ∀ k (hk : k < s.rects.length) c, c < 4 → w.cell? ⟨g, k * 4 + c, none⟩ = (cellsR s.rects[k])[c]? ∧ w.frozen? ⟨g, k * 4 + c, none⟩ = false := by
 obtain ⟨v, n, h1, h2, h3, h4⟩ := h.row hA.r rfl
 obtain ⟨g, cap, rfl, h5, h6, rfl, h7, h8, h9⟩ := own_cells cellsR_len h3 hne (by decide)
 exact ⟨g, cap, h1, h2, h5, h6, h7, h8, h9⟩
theorem Desk.size {w : World} {base : Nat} {L : List Slot} {St : Addr → Value → Prop} {i : Nat} {ac ar : Addr} {s : BS} (h : Desk w base L St) (hA : AtB L i ac ar s) : base ≤ w.heap.size ∧ base ≤ ac.block ∧ ac.block < w.heap.size ∧ base ≤ ar.block ∧ ar.block < w.heap.size := by
 obtain ⟨v, n, h1, h2, h3, h4⟩ := h.row hA.c rfl
 obtain ⟨v', n', h1', h2', h3', h4'⟩ := h.row hA.r rfl
 have := block_lt_of_cell h1
 have := block_lt_of_cell h1'
 omega
end Go.Proofs.YtjmgboipbhddlaaGreatDoor

set_option linter.unusedVariables false
set_option linter.unusedSimpArgs false
namespace Go.Proofs.YtjmgboipbhddlaaGreatDoor
open Go Go.RowKit

theorem Desk.elemC {w : World} {base : Nat} {L : List Slot} {St : Addr → Value → Prop} {i : Nat} {ac ar : Addr} {s : BS} {g n cap k c : Nat} {c' : Cut} {u : Value} (h : Desk w base L St) (hA : AtB L i ac ar s) (hk : k < s.cuts.length) (hc : c < 5)
    (hg : w.cell? ac = some (.slice (some ⟨g, 0, none⟩) n cap)) (hx : cellsC c' = (cellsC s.cuts[k]).set c u) :
    Desk (w.setCell ⟨g, k * 5 + c, none⟩ u) base (setB L i ac ar ⟨s.cuts.set k c', s.rects⟩) St ∧ (w.setCell ⟨g, k * 5 + c, none⟩ u).cell? ac = some (.slice (some ⟨g, 0, none⟩) n cap) := by
 obtain ⟨V, g1, g2⟩ := h.ex
 have hv := g2 i _ ac hA.c rfl
 rw [hg] at hv
 injection hv with hv
 obtain ⟨k1, k2⟩ := g1.elem (c := k * 5 + c) hA.c (by rw [← hv]; rfl) u
 have hL : L.set i { slotC ac s.cuts with xs := (slotC ac s.cuts).xs.set (k * 5 + c) u } = setB L i ac ar ⟨s.cuts.set k c', s.rects⟩ := by
  have e1 : { slotC ac s.cuts with xs := (slotC ac s.cuts).xs.set (k * 5 + c) u } = slotC ac (s.cuts.set k c') := by
   simp only [slotC]
   rw [flat_set cellsC_len hk hc hx]
  rw [e1]
  unfold setB
  have h2 : (L.set i (slotC ac (s.cuts.set k c')))[i + 1]? = some (slotR ar s.rects) := by rw [List.getElem?_set_ne (by omega)]; exact hA.r
  obtain ⟨l2, e2⟩ := List.getElem?_eq_some_iff.1 h2
  rw [← e2, List.set_getElem_self]
 rw [← hL]
 refine ⟨⟨V, k1, fun j t b hj hb => ?_⟩, by rw [k2 i _ ac hA.c rfl]; exact hg⟩
 obtain ⟨t0, h0, h1, _, _⟩ := set_get (s' := { slotC ac s.cuts with xs := (slotC ac s.cuts).xs.set (k * 5 + c) u }) hA.c rfl hj
 rw [h1] at hb
 rw [k2 j t0 b h0 hb]
 exact g2 j t0 b h0 hb
theorem Desk.setCut {w : World} {base : Nat} {L : List Slot} {St : Addr → Value → Prop} {i : Nat} {ac ar : Addr} {s : BS} {g n cap k : Nat} (h : Desk w base L St) (hA : AtB L i ac ar s) (hk : k < s.cuts.length)
    (hg : w.cell? ac = some (.slice (some ⟨g, 0, none⟩) n cap)) (c' : Cut) :
    Desk (((((w.setCell ⟨g, k * 5, none⟩ (.bool c'.across)).setCell ⟨g, k * 5 + 1, none⟩ (.int .i64 c'.at_)).setCell ⟨g, k * 5 + 2, none⟩ (.int .i64 c'.low)).setCell ⟨g, k * 5 + 3, none⟩ (.int .i64 c'.high)).setCell ⟨g, k * 5 + 4, none⟩ (.int .i64 c'.blank))
     base (setB L i ac ar ⟨s.cuts.set k c', s.rects⟩) St := by
 obtain ⟨x0, h0⟩ : ∃ x, x = s.cuts[k] := ⟨_, rfl⟩
 have hl : ∀ y : Cut, k < (s.cuts.set k y).length := fun y => by rw [List.length_set]; exact hk
 have hs : ∀ y : Cut, (s.cuts.set k y)[k]'(hl y) = y := fun y => by simp
 have a1 := h.elemC (c := 0) (c' := { x0 with across := c'.across }) (u := .bool c'.across) hA hk (by decide) hg (by rw [← h0]; rfl)
 have a2 := a1.1.elemC (c := 1) (c' := { x0 with across := c'.across, at_ := c'.at_ }) (u := .int .i64 c'.at_) (hA.set _) (hl _) (by decide) a1.2 (by simp only [hs]; rfl)
 rw [setB_setB] at a2
 simp only [List.set_set] at a2
 have a3 := a2.1.elemC (c := 2) (c' := { x0 with across := c'.across, at_ := c'.at_, low := c'.low }) (u := .int .i64 c'.low) (hA.set _) (hl _) (by decide) a2.2 (by simp only [hs]; rfl)
 rw [setB_setB] at a3
 simp only [List.set_set] at a3
 have a4 := a3.1.elemC (c := 3) (c' := { x0 with across := c'.across, at_ := c'.at_, low := c'.low, high := c'.high }) (u := .int .i64 c'.high) (hA.set _) (hl _) (by decide) a3.2 (by simp only [hs]; rfl)
 rw [setB_setB] at a4
 simp only [List.set_set] at a4
 have a5 := a4.1.elemC (c := 4) (c' := c') (u := .int .i64 c'.blank) (hA.set _) (hl _) (by decide) a4.2 (by simp only [hs]; rfl)
 rw [setB_setB] at a5
 simp only [List.set_set] at a5
 exact a5.1
theorem Desk.setBlank {w : World} {base : Nat} {L : List Slot} {St : Addr → Value → Prop} {i : Nat} {ac ar : Addr} {s : BS} {g n cap k : Nat} (h : Desk w base L St) (hA : AtB L i ac ar s) (hk : k < s.cuts.length)
    (hg : w.cell? ac = some (.slice (some ⟨g, 0, none⟩) n cap)) (b : Int) :
    Desk (w.setCell ⟨g, k * 5 + 4, none⟩ (.int .i64 b)) base (setB L i ac ar ⟨s.cuts.set k { s.cuts[k] with blank := b }, s.rects⟩) St :=
 (h.elemC (c := 4) (c' := { s.cuts[k] with blank := b }) (u := .int .i64 b) hA hk (by decide) hg rfl).1
end Go.Proofs.YtjmgboipbhddlaaGreatDoor
