/- CheckPlan of the reference. -/
import Derived.Test.YtjmgboipbhddlaaGreatDoorPLB
set_option linter.unusedVariables false
set_option linter.unusedSimpArgs false
namespace Go.Proofs.YtjmgboipbhddlaaGreatDoor
open Go Go.RowKit

/-! The model. -/
def zeroPl : Placed := ⟨0, 0, ⟨0, 0, 0, 0⟩⟩
def layGo (j : Job) : List Layout → List Int → Int
  | [], _ => 0
  | l :: r, used => if ¬ (0 ≤ l.board ∧ l.board ≤ (j.stock.length : Int) - 1) then 6 else if l.board ∈ used then 5 else if (layOf j l).2 ≠ 0 then (layOf j l).2 else layGo j r (used ++ [l.board])
def boardsTo (plan : List Layout) (k : Nat) : List Int := (plan.take k).map Layout.board
def pieceGo (j : Job) : List Placed → List Int → (Placed × Int) × List Int
  | [], cs => ((zeroPl, 0), cs)
  | p :: r, cs => if pieceE j p ≠ 0 then ((p, pieceE j p), cs) else pieceGo j r (cs.set p.blank.toNat (cs.getD p.blank.toNat 0 + 1))
def lowB (cs ns : List Int) : Bool := (cs.zip ns).any fun p => decide (p.1 < p.2)
def highB (cs ns : List Int) : Bool := (cs.zip ns).any fun p => decide (p.1 > p.2)
def countsOf (j : Job) : List Int := j.blanks.map Blank.count
def countE (j : Job) (cs : List Int) : Int := if lowB cs (countsOf j) = true then 16 else if highB cs (countsOf j) = true then 15 else 0
def planOf (j : Job) (plan : List Layout) : Placed × Int :=
  if layGo j plan [] ≠ 0 then (zeroPl, layGo j plan [])
  else if (pieceGo j (placesM j plan) (List.replicate j.blanks.length 0)).1.2 ≠ 0 then (pieceGo j (placesM j plan) (List.replicate j.blanks.length 0)).1
  else (zeroPl, countE j (pieceGo j (placesM j plan) (List.replicate j.blanks.length 0)).2)
def planE2 (j : Job) (plan : List Layout) : Placed × Int := if jobE j ≠ 0 then (zeroPl, jobE j) else planOf j plan
section
variable {j : Job} {plan : List Layout} {k : Nat} {X : Int}
theorem lay_far (hk : k < plan.length) (h : X = layGo j (plan.drop k) (boardsTo plan k)) (h1 : ¬ (0 ≤ plan[k].board ∧ plan[k].board ≤ (j.stock.length : Int) - 1)) : X = 6 := by rw [h, List.drop_eq_getElem_cons hk, layGo, if_pos h1]
theorem lay_used (hk : k < plan.length) (h : X = layGo j (plan.drop k) (boardsTo plan k)) (h1 : 0 ≤ plan[k].board ∧ plan[k].board ≤ (j.stock.length : Int) - 1) (h2 : plan[k].board ∈ boardsTo plan k) : X = 5 := by rw [h, List.drop_eq_getElem_cons hk, layGo, if_neg (fun h => h h1), if_pos h2]
theorem lay_err (hk : k < plan.length) (h : X = layGo j (plan.drop k) (boardsTo plan k)) (h1 : 0 ≤ plan[k].board ∧ plan[k].board ≤ (j.stock.length : Int) - 1) (h2 : ¬ plan[k].board ∈ boardsTo plan k) (h3 : (layOf j plan[k]).2 ≠ 0) : X = (layOf j plan[k]).2 := by rw [h, List.drop_eq_getElem_cons hk, layGo, if_neg (fun h => h h1), if_neg h2, if_pos h3]
theorem lay_step (hk : k < plan.length) (h : X = layGo j (plan.drop k) (boardsTo plan k)) (h1 : 0 ≤ plan[k].board ∧ plan[k].board ≤ (j.stock.length : Int) - 1) (h2 : ¬ plan[k].board ∈ boardsTo plan k) (h3 : (layOf j plan[k]).2 = 0) : X = layGo j (plan.drop (k + 1)) (boardsTo plan (k + 1)) := by
  rw [h, List.drop_eq_getElem_cons hk, layGo, if_neg (fun h => h h1), if_neg h2, if_neg (fun h => h h3)]
  unfold boardsTo
  rw [List.take_succ_eq_append_getElem hk, List.map_append]
  rfl
theorem lay_end (hk : plan.length ≤ k) (h : X = layGo j (plan.drop k) (boardsTo plan k)) : X = 0 := by rw [h, List.drop_of_length_le hk]; rfl
end
theorem layGo_ok {j : Job} : ∀ {plan : List Layout} {used : List Int}, layGo j plan used = 0 → PlanOk j plan
  | [], _, _ => fun l hl => by simp at hl
  | l :: r, used, h => by
    unfold layGo at h
    split at h
    · simp at h
    · rename_i h1
      split at h
      · simp at h
      · split at h
        · rename_i h3; exact absurd h h3
        · rename_i h3
          intro l' hl'
          rcases List.mem_cons.1 hl' with rfl | hl'
          · have h1' := Classical.not_not.1 h1
            exact ⟨by omega, Classical.not_not.1 h3⟩
          · exact layGo_ok h l' hl'
theorem piecesTo_mem {l : Layout} {R : List Rect} : ∀ {k : Nat} {p : Placed}, p ∈ piecesTo l R k → p.board = l.board ∧ 0 ≤ p.blank ∧ (p.at_ ∈ R ∨ p.at_ = default)
  | 0, p, h => by simp [piecesTo] at h
  | k + 1, p, h => by
    rw [piecesTo] at h
    rcases List.mem_append.1 h with h | h
    · exact piecesTo_mem h
    · split at h
      · rename_i hc
        rw [List.mem_singleton] at h
        subst h
        unfold isPieceC at hc
        rw [Bool.and_eq_true, decide_eq_true_eq, decide_eq_true_eq] at hc
        refine ⟨rfl, hc.2, ?_⟩
        simp only
        rw [List.getD_eq_getElem?_getD]
        by_cases hk : k < R.length
        · rw [List.getElem?_eq_getElem hk]; exact .inl (List.getElem_mem hk)
        · rw [List.getElem?_eq_none (by omega)]; exact .inr rfl
      · simp at h
def PieceOk (j : Job) (p : Placed) : Prop := (0 ≤ p.board ∧ p.board < j.stock.length) ∧ 0 ≤ p.blank ∧ near p.at_
theorem placesTo_ok {j : Job} (hE : jobE j = 0) {plan : List Layout} (h : PlanOk j plan) : ∀ k, k ≤ plan.length → ∀ p ∈ placesTo j plan k, PieceOk j p
  | 0, _, p, hp => by simp [placesTo] at hp
  | k + 1, hk, p, hp => by
    rw [placesTo_step hk] at hp
    rcases List.mem_append.1 hp with hp | hp
    · exact placesTo_ok hE h k (by omega) p hp
    · obtain ⟨g1, g2, g3⟩ := piecesTo_mem hp
      obtain ⟨h1, h2⟩ := h _ (List.getElem_mem hk)
      have h3 := (lay_okR hE h1 h2).2.2
      refine ⟨by rw [g1]; exact h1, g2, ?_⟩
      rcases g3 with g3 | g3
      · exact okR_near (h3 _ g3)
      · rw [g3]; exact okR_near (.inl rfl)

theorem planOf_lay {j : Job} {plan : List Layout} {X : Int} (hX : X = layGo j plan []) (h : X ≠ 0) : planOf j plan = (zeroPl, X) := by unfold planOf; rw [← hX, if_pos h]
theorem planOf_piece {j : Job} {plan : List Layout} {p : Placed} {e : Int} {cs : List Int} (hX : layGo j plan [] = 0) (h : pieceGo j (placesM j plan) (List.replicate j.blanks.length 0) = ((p, e), cs)) (he : e ≠ 0) : planOf j plan = (p, e) := by
  unfold planOf; rw [if_neg (by rw [hX]; simp), h, if_pos he]
theorem planOf_count {j : Job} {plan : List Layout} {p : Placed} {cs : List Int} (hX : layGo j plan [] = 0) (h : pieceGo j (placesM j plan) (List.replicate j.blanks.length 0) = ((p, 0), cs)) : planOf j plan = (zeroPl, countE j cs) := by
  unfold planOf; rw [if_neg (by rw [hX]; simp), h, if_neg (by simp)]
theorem lowB_yes {j : Job} {cs : List Int} {i : Nat} (h : i < cs.length) (h' : i < j.blanks.length) (hl : cs[i] < j.blanks[i].count) : lowB cs (countsOf j) = true := by
  unfold lowB
  rw [List.any_eq_true]
  refine ⟨(cs[i], j.blanks[i].count), ?_, by simpa using hl⟩
  rw [List.mem_iff_getElem]
  exact ⟨i, by simp [countsOf]; omega, by simp [countsOf]⟩
theorem lowB_no {j : Job} {cs : List Int} (h : ∀ i (h : i < cs.length) (h' : i < j.blanks.length), ¬ cs[i] < j.blanks[i].count) : lowB cs (countsOf j) = false := by
  rw [Bool.eq_false_iff]
  intro hh
  unfold lowB at hh
  rw [List.any_eq_true] at hh
  obtain ⟨p, hp, hlt⟩ := hh
  rw [List.mem_iff_getElem] at hp
  obtain ⟨i, hi, rfl⟩ := hp
  have hi2 : i < cs.length ∧ i < j.blanks.length := by
    have hi3 := hi
    simp [countsOf] at hi3
    omega
  simp [countsOf] at hlt
  exact h i hi2.1 hi2.2 hlt
theorem highB_yes {j : Job} {cs : List Int} {i : Nat} (h : i < cs.length) (h' : i < j.blanks.length) (hl : cs[i] > j.blanks[i].count) : highB cs (countsOf j) = true := by
  unfold highB
  rw [List.any_eq_true]
  refine ⟨(cs[i], j.blanks[i].count), ?_, by simpa using hl⟩
  rw [List.mem_iff_getElem]
  exact ⟨i, by simp [countsOf]; omega, by simp [countsOf]⟩
theorem highB_no {j : Job} {cs : List Int} (h : ∀ i (h : i < cs.length) (h' : i < j.blanks.length), ¬ cs[i] > j.blanks[i].count) : highB cs (countsOf j) = false := by
  rw [Bool.eq_false_iff]
  intro hh
  unfold highB at hh
  rw [List.any_eq_true] at hh
  obtain ⟨p, hp, hlt⟩ := hh
  rw [List.mem_iff_getElem] at hp
  obtain ⟨i, hi, rfl⟩ := hp
  have hi2 : i < cs.length ∧ i < j.blanks.length := by
    have hi3 := hi
    simp [countsOf] at hi3
    omega
  simp [countsOf] at hlt
  exact h i hi2.1 hi2.2 hlt
theorem count_low {j : Job} {cs : List Int} (h : lowB cs (countsOf j) = true) : countE j cs = 16 := by unfold countE; rw [if_pos h]
theorem count_high {j : Job} {cs : List Int} (h : lowB cs (countsOf j) = false) (h2 : highB cs (countsOf j) = true) : countE j cs = 15 := by unfold countE; rw [if_neg (by rw [h]; decide), if_pos h2]
theorem count_ok {j : Job} {cs : List Int} (h : lowB cs (countsOf j) = false) (h2 : highB cs (countsOf j) = false) : countE j cs = 0 := by unfold countE; rw [if_neg (by rw [h]; decide), if_neg (by rw [h2]; decide)]
section
variable {j : Job} {P : List Placed} {k : Nat} {cs : List Int} {Y : (Placed × Int) × List Int}
end
theorem pieceE_blank {j : Job} {p : Placed} (h : pieceE j p = 0) : p.blank < (j.blanks.length : Int) := by
  unfold pieceE at h
  split at h
  · simp at h
  · omega

theorem below_six {n g : Nat} {w W : World} {u0 u1 u2 u3 u4 u5 : Value} (h : Below n w W) (hg : n ≤ g) : Below n w ((((((W.setCell ⟨g, 0, none⟩ u0).setCell ⟨g, 1, none⟩ u1).setCell ⟨g, 2, none⟩ u2).setCell ⟨g, 3, none⟩ u3).setCell ⟨g, 4, none⟩ u4).setCell ⟨g, 5, none⟩ u5) :=
  (((((h.setCell hg _).setCell hg _).setCell hg _).setCell hg _).setCell hg _).setCell hg _
end Go.Proofs.YtjmgboipbhddlaaGreatDoor
