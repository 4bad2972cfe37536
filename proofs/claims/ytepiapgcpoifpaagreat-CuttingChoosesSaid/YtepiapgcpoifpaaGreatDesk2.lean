/- A store into a cut of a board that is being cut. -/
import Derived.Test.YtepiapgcpoifpaaGreatDesk
set_option linter.unusedVariables false
set_option linter.unusedSimpArgs false
namespace Go.Proofs.YtepiapgcpoifpaaGreat
open Go Go.RowKit

theorem Desk.elemC {w : World} {base : Nat} {L : List Slot} {St : Addr → Value → Prop} {i : Nat} {ac ar : Addr} {s : BS} {g n cap k c : Nat} {c' : Cut} {u : Value} (h : Desk w base L St) (hA : AtB L i ac ar s) (hk : k < s.cuts.length) (hc : c < 5)
    (hg : w.cell? ac = some (.slice (some ⟨g, 0, none⟩) n cap)) (hx : cellsC c' = (cellsC s.cuts[k]).set c u) :
    Desk (w.setCell ⟨g, k * 5 + c, none⟩ u) base (setB L i ac ar ⟨s.cuts.set k c', s.rects⟩) St ∧ (w.setCell ⟨g, k * 5 + c, none⟩ u).cell? ac = some (.slice (some ⟨g, 0, none⟩) n cap) := by
  obtain ⟨V, g1, g2⟩ := h.ex
  have hv := g2 i _ ac hA.c rfl
  rw [hg] at hv
  injection hv with hv
  obtain ⟨k1, k2⟩ := g1.elem (c := k * 5 + c) hA.c (by rw [← hv]; rfl) u
  have hL : L.set i { slotC ac s.cuts with xs := (slotC ac s.cuts).xs.set (k * 5 + c) u } = setB L i ac ar ⟨s.cuts.set k c', s.rects⟩ := by
    have e1 : { slotC ac s.cuts with xs := (slotC ac s.cuts).xs.set (k * 5 + c) u } = slotC ac (s.cuts.set k c') := by
      simp only [slotC]
      rw [flat_set cellsC_len hk hc hx]
    rw [e1]
    unfold setB
    have h2 : (L.set i (slotC ac (s.cuts.set k c')))[i + 1]? = some (slotR ar s.rects) := by rw [List.getElem?_set_ne (by omega)]; exact hA.r
    obtain ⟨l2, e2⟩ := List.getElem?_eq_some_iff.1 h2
    rw [← e2, List.set_getElem_self]
  rw [← hL]
  refine ⟨⟨V, k1, fun j t b hj hb => ?_⟩, by rw [k2 i _ ac hA.c rfl]; exact hg⟩
  obtain ⟨t0, h0, h1, _, _⟩ := set_get (s' := { slotC ac s.cuts with xs := (slotC ac s.cuts).xs.set (k * 5 + c) u }) hA.c rfl hj
  rw [h1] at hb
  rw [k2 j t0 b h0 hb]
  exact g2 j t0 b h0 hb
theorem Desk.setCut {w : World} {base : Nat} {L : List Slot} {St : Addr → Value → Prop} {i : Nat} {ac ar : Addr} {s : BS} {g n cap k : Nat} (h : Desk w base L St) (hA : AtB L i ac ar s) (hk : k < s.cuts.length)
    (hg : w.cell? ac = some (.slice (some ⟨g, 0, none⟩) n cap)) (c' : Cut) :
    Desk (((((w.setCell ⟨g, k * 5, none⟩ (.bool c'.across)).setCell ⟨g, k * 5 + 1, none⟩ (.int .i64 c'.at_)).setCell ⟨g, k * 5 + 2, none⟩ (.int .i64 c'.low)).setCell ⟨g, k * 5 + 3, none⟩ (.int .i64 c'.high)).setCell ⟨g, k * 5 + 4, none⟩ (.int .i64 c'.blank))
      base (setB L i ac ar ⟨s.cuts.set k c', s.rects⟩) St := by
  obtain ⟨x0, h0⟩ : ∃ x, x = s.cuts[k] := ⟨_, rfl⟩
  have hl : ∀ y : Cut, k < (s.cuts.set k y).length := fun y => by rw [List.length_set]; exact hk
  have hs : ∀ y : Cut, (s.cuts.set k y)[k]'(hl y) = y := fun y => by simp
  have a1 := h.elemC (c := 0) (c' := { x0 with across := c'.across }) (u := .bool c'.across) hA hk (by decide) hg (by rw [← h0]; rfl)
  have a2 := a1.1.elemC (c := 1) (c' := { x0 with across := c'.across, at_ := c'.at_ }) (u := .int .i64 c'.at_) (hA.set _) (hl _) (by decide) a1.2 (by simp only [hs]; rfl)
  rw [setB_setB] at a2
  simp only [List.set_set] at a2
  have a3 := a2.1.elemC (c := 2) (c' := { x0 with across := c'.across, at_ := c'.at_, low := c'.low }) (u := .int .i64 c'.low) (hA.set _) (hl _) (by decide) a2.2 (by simp only [hs]; rfl)
  rw [setB_setB] at a3
  simp only [List.set_set] at a3
  have a4 := a3.1.elemC (c := 3) (c' := { x0 with across := c'.across, at_ := c'.at_, low := c'.low, high := c'.high }) (u := .int .i64 c'.high) (hA.set _) (hl _) (by decide) a3.2 (by simp only [hs]; rfl)
  rw [setB_setB] at a4
  simp only [List.set_set] at a4
  have a5 := a4.1.elemC (c := 4) (c' := c') (u := .int .i64 c'.blank) (hA.set _) (hl _) (by decide) a4.2 (by simp only [hs]; rfl)
  rw [setB_setB] at a5
  simp only [List.set_set] at a5
  exact a5.1
theorem Desk.setBlank {w : World} {base : Nat} {L : List Slot} {St : Addr → Value → Prop} {i : Nat} {ac ar : Addr} {s : BS} {g n cap k : Nat} (h : Desk w base L St) (hA : AtB L i ac ar s) (hk : k < s.cuts.length)
    (hg : w.cell? ac = some (.slice (some ⟨g, 0, none⟩) n cap)) (b : Int) :
    Desk (w.setCell ⟨g, k * 5 + 4, none⟩ (.int .i64 b)) base (setB L i ac ar ⟨s.cuts.set k { s.cuts[k] with blank := b }, s.rects⟩) St :=
  (h.elemC (c := 4) (c' := { s.cuts[k] with blank := b }) (u := .int .i64 b) hA hk (by decide) hg rfl).1
end Go.Proofs.YtepiapgcpoifpaaGreat
