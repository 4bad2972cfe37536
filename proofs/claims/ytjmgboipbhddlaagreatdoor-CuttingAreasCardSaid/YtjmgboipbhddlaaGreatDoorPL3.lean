import Derived.Test.YtjmgboipbhddlaaGreatDoorPX1
set_option linter.unusedVariables false
set_option linter.unusedSimpArgs false
namespace Go.Proofs.YtjmgboipbhddlaaGreatDoor
open Go Go.RowKit

def zeroPl : Placed := ⟨0, 0, ⟨0, 0, 0, 0⟩⟩
def layGo (j : Job) : List Layout → List Int → Int
 | [], _ => 0
 | l :: r, used => if ¬ (0 ≤ l.board ∧ l.board ≤ (j.stock.length : Int) - 1) then 6 else if l.board ∈ used then 5 else if (layOf j l).2 ≠ 0 then (layOf j l).2 else layGo j r (used ++ [l.board])
def boardsTo (plan : List Layout) (k : Nat) : List Int := (plan.take k).map Layout.board
def pieceGo (j : Job) : List Placed → List Int → (Placed × Int) × List Int
 | [], cs => ((zeroPl, 0), cs)
 | p :: r, cs => if pieceE j p ≠ 0 then ((p, pieceE j p), cs) else pieceGo j r (cs.set p.blank.toNat (cs.getD p.blank.toNat 0 + 1))
def lowB (cs ns : List Int) : Bool := (cs.zip ns).any fun p => decide (p.1 < p.2)
def highB (cs ns : List Int) : Bool := (cs.zip ns).any fun p => decide (p.1 > p.2)
def countsOf (j : Job) : List Int := j.blanks.map Blank.count
def countE (j : Job) (cs : List Int) : Int := if lowB cs (countsOf j) = true then 16 else if highB cs (countsOf j) = true then 15 else 0
def planOf (j : Job) (plan : List Layout) : Placed × Int :=
 if layGo j plan [] ≠ 0 then (zeroPl, layGo j plan [])
 else if (pieceGo j (placesM j plan) (List.replicate j.blanks.length 0)).1.2 ≠ 0 then (pieceGo j (placesM j plan) (List.replicate j.blanks.length 0)).1
 else (zeroPl, countE j (pieceGo j (placesM j plan) (List.replicate j.blanks.length 0)).2)
def planE2 (j : Job) (plan : List Layout) : Placed × Int := if jobE j ≠ 0 then (zeroPl, jobE j) else planOf j plan
section
variable {j : Job} {plan : List Layout} {k : Nat} {X : Int}
theorem lay_far (hk : k < plan.length) (h : X = layGo j (plan.drop k) (boardsTo plan k)) (h1 : ¬ (0 ≤ plan[k].board ∧ plan[k].board ≤ (j.stock.length : Int) - 1)) : X = 6 := by rw [h, List.drop_eq_getElem_cons hk, layGo, if_pos h1]
theorem lay_used (hk : k < plan.length) (h : X = layGo j (plan.drop k) (boardsTo plan k)) (h1 : 0 ≤ plan[k].board ∧ plan[k].board ≤ (j.stock.length : Int) - 1) (h2 : plan[k].board ∈ boardsTo plan k) : X = 5 := by rw [h, List.drop_eq_getElem_cons hk, layGo, if_neg (fun h => h h1), if_pos h2]
theorem lay_err (hk : k < plan.length) (h : X = layGo j (plan.drop k) (boardsTo plan k)) (h1 : 0 ≤ plan[k].board ∧ plan[k].board ≤ (j.stock.length : Int) - 1) (h2 : ¬ plan[k].board ∈ boardsTo plan k) (h3 : (layOf j plan[k]).2 ≠ 0) : X = (layOf j plan[k]).2 := by rw [h, List.drop_eq_getElem_cons hk, layGo, if_neg (fun h => h h1), if_neg h2, if_pos h3]
theorem lay_step (hk : k < plan.length) (h : X = layGo j (plan.drop k) (boardsTo plan k)) (h1 : 0 ≤ plan[k].board ∧ plan[k].board ≤ (j.stock.length : Int) - 1) (h2 : ¬ plan[k].board ∈ boardsTo plan k) (h3 : (layOf j plan[k]).2 = 0) : X = layGo j (plan.drop (k + 1)) (boardsTo plan (k + 1)) := by
 rw [h, List.drop_eq_getElem_cons hk, layGo, if_neg (fun h => h h1), if_neg h2, if_neg (fun h => h h3)]
 unfold boardsTo
 rw [List.take_succ_eq_append_getElem hk, List.map_append]
 rfl
theorem lay_end (hk : plan.length ≤ k) (h : X = layGo j (plan.drop k) (boardsTo plan k)) : X = 0 := by rw [h, List.drop_of_length_le hk]; rfl
end
theorem layGo_ok {j : Job} : ∀ {plan : List Layout} {used : List Int}, layGo j plan used = 0 → PlanOk j plan
 | [], _, _ => fun l hl => by simp at hl
 | l :: r, used, h => by
  unfold layGo at h
  split at h
  ·simp at h
  ·rename_i h1
   split at h
   ·simp at h
   ·split at h
    ·rename_i h3; exact absurd h h3
    ·rename_i h3
     intro l' hl'
     rcases List.mem_cons.1 hl' with rfl | hl'
     ·have h1' := Classical.not_not.1 h1
      exact ⟨by omega, Classical.not_not.1 h3⟩
     ·exact layGo_ok h l' hl'
theorem piecesTo_mem {l : Layout} {R : List Rect} : ∀ {k : Nat} {p : Placed}, p ∈ piecesTo l R k → p.board = l.board ∧ 0 ≤ p.blank ∧ (p.at_ ∈ R ∨ p.at_ = default)
 | 0, p, h => by simp [piecesTo] at h
 | k + 1, p, h => by
  rw [piecesTo] at h
  rcases List.mem_append.1 h with h | h
  ·exact piecesTo_mem h
  ·split at h
   ·rename_i hc
    rw [List.mem_singleton] at h
    subst h
    unfold isPieceC at hc
    rw [Bool.and_eq_true, decide_eq_true_eq, decide_eq_true_eq] at hc
    refine ⟨rfl, hc.2, ?_⟩
    simp only
    rw [List.getD_eq_getElem?_getD]
    by_cases hk : k < R.length
    ·rw [List.getElem?_eq_getElem hk]; exact .inl (List.getElem_mem hk)
    ·rw [List.getElem?_eq_none (by omega)]; exact .inr rfl
   ·simp at h
def PieceOk (j : Job) (p : Placed) : Prop := (0 ≤ p.board ∧ p.board < j.stock.length) ∧ 0 ≤ p.blank ∧ near p.at_
theorem placesTo_ok {j : Job} (hE : jobE j = 0) {plan : List Layout} (h : PlanOk j plan) : ∀ k, k ≤ plan.length → ∀ p ∈ placesTo j plan k, PieceOk j p
 | 0, _, p, hp => by simp [placesTo] at hp
 | k + 1, hk, p, hp => by
  rw [placesTo_step hk] at hp
  rcases List.mem_append.1 hp with hp | hp
  ·exact placesTo_ok hE h k (by omega) p hp
  ·obtain ⟨g1, g2, g3⟩ := piecesTo_mem hp
   obtain ⟨h1, h2⟩ := h _ (List.getElem_mem hk)
   have h3 := (lay_okR hE h1 h2).2.2
   refine ⟨by rw [g1]; exact h1, g2, ?_⟩
   rcases g3 with g3 | g3
   ·exact okR_near (h3 _ g3)
   ·rw [g3]; exact okR_near (.inl rfl)

theorem planOf_lay {j : Job} {plan : List Layout} {X : Int} (hX : X = layGo j plan []) (h : X ≠ 0) : planOf j plan = (zeroPl, X) := by unfold planOf; rw [← hX, if_pos h]
theorem planOf_piece {j : Job} {plan : List Layout} {p : Placed} {e : Int} {cs : List Int} (hX : layGo j plan [] = 0) (h : pieceGo j (placesM j plan) (List.replicate j.blanks.length 0) = ((p, e), cs)) (he : e ≠ 0) : planOf j plan = (p, e) := by
 unfold planOf; rw [if_neg (by rw [hX]; simp), h, if_pos he]
theorem planOf_count {j : Job} {plan : List Layout} {p : Placed} {cs : List Int} (hX : layGo j plan [] = 0) (h : pieceGo j (placesM j plan) (List.replicate j.blanks.length 0) = ((p, 0), cs)) : planOf j plan = (zeroPl, countE j cs) := by
 unfold planOf; rw [if_neg (by rw [hX]; simp), h, if_neg (by simp)]
theorem mem_boards {plan : List Layout} {k m : Nat} (hm : m < k) (hk : k ≤ plan.length) : (plan[m]'(by omega)).board ∈ boardsTo plan k := by
 unfold boardsTo
 refine List.mem_map.2 ⟨plan[m]'(by omega), ?_, rfl⟩
 rw [List.mem_iff_getElem?]
 exact ⟨m, by rw [List.getElem?_take_of_lt hm, List.getElem?_eq_getElem (by omega)]⟩
theorem not_boards {plan : List Layout} {k : Nat} {b : Int} (h : ∀ m (hm : m < plan.length), m < k → plan[m].board ≠ b) : ¬ b ∈ boardsTo plan k := by
 intro hb
 obtain ⟨l, hl, rfl⟩ := List.mem_map.1 hb
 rw [List.mem_iff_getElem?] at hl
 obtain ⟨m, hm⟩ := hl
 rw [List.getElem?_take] at hm
 split at hm
 ·rename_i hmk
  obtain ⟨hml, rfl⟩ := List.getElem?_eq_some_iff.1 hm
  exact h m hml hmk rfl
 ·cases hm

theorem lowB_yes {j : Job} {cs : List Int} {i : Nat} (h : i < cs.length) (h' : i < j.blanks.length) (hl : cs[i] < j.blanks[i].count) : lowB cs (countsOf j) = true := by
 unfold lowB
 rw [List.any_eq_true]
 refine ⟨(cs[i], j.blanks[i].count), ?_, by simpa using hl⟩
 rw [List.mem_iff_getElem]
 exact ⟨i, by simp [countsOf]; omega, by simp [countsOf]⟩
theorem lowB_no {j : Job} {cs : List Int} (h : ∀ i (h : i < cs.length) (h' : i < j.blanks.length), ¬ cs[i] < j.blanks[i].count) : lowB cs (countsOf j) = false := by
 rw [Bool.eq_false_iff]
 intro hh
 unfold lowB at hh
 rw [List.any_eq_true] at hh
 obtain ⟨p, hp, hlt⟩ := hh
 rw [List.mem_iff_getElem] at hp
 obtain ⟨i, hi, rfl⟩ := hp
 have hi2 : i < cs.length ∧ i < j.blanks.length := by
  have hi3 := hi
  simp [countsOf] at hi3
  omega
 simp [countsOf] at hlt
 exact h i hi2.1 hi2.2 hlt
theorem highB_yes {j : Job} {cs : List Int} {i : Nat} (h : i < cs.length) (h' : i < j.blanks.length) (hl : cs[i] > j.blanks[i].count) : highB cs (countsOf j) = true := by
 unfold highB
 rw [List.any_eq_true]
 refine ⟨(cs[i], j.blanks[i].count), ?_, by simpa using hl⟩
 rw [List.mem_iff_getElem]
 exact ⟨i, by simp [countsOf]; omega, by simp [countsOf]⟩
theorem highB_no {j : Job} {cs : List Int} (h : ∀ i (h : i < cs.length) (h' : i < j.blanks.length), ¬ cs[i] > j.blanks[i].count) : highB cs (countsOf j) = false := by
 rw [Bool.eq_false_iff]
 intro hh
 unfold highB at hh
 rw [List.any_eq_true] at hh
 obtain ⟨p, hp, hlt⟩ := hh
 rw [List.mem_iff_getElem] at hp
 obtain ⟨i, hi, rfl⟩ := hp
 have hi2 : i < cs.length ∧ i < j.blanks.length := by
  have hi3 := hi
  simp [countsOf] at hi3
  omega
 simp [countsOf] at hlt
 exact h i hi2.1 hi2.2 hlt
theorem count_low {j : Job} {cs : List Int} (h : lowB cs (countsOf j) = true) : countE j cs = 16 := by unfold countE; rw [if_pos h]
theorem count_high {j : Job} {cs : List Int} (h : lowB cs (countsOf j) = false) (h2 : highB cs (countsOf j) = true) : countE j cs = 15 := by unfold countE; rw [if_neg (by rw [h]; decide), if_pos h2]
theorem count_ok {j : Job} {cs : List Int} (h : lowB cs (countsOf j) = false) (h2 : highB cs (countsOf j) = false) : countE j cs = 0 := by unfold countE; rw [if_neg (by rw [h]; decide), if_neg (by rw [h2]; decide)]
section
variable {j : Job} {P : List Placed} {k : Nat} {cs : List Int} {Y : (Placed × Int) × List Int}
theorem piece_err (hk : k < P.length) (h : Y = pieceGo j (P.drop k) cs) (he : pieceE j P[k] ≠ 0) : Y = ((P[k], pieceE j P[k]), cs) := by rw [h, List.drop_eq_getElem_cons hk, pieceGo, if_pos he]
theorem piece_step (hk : k < P.length) (h : Y = pieceGo j (P.drop k) cs) (he : pieceE j P[k] = 0) : Y = pieceGo j (P.drop (k + 1)) (cs.set P[k].blank.toNat (cs.getD P[k].blank.toNat 0 + 1)) := by rw [h, List.drop_eq_getElem_cons hk, pieceGo, if_neg (fun h => h he)]
theorem piece_end (hk : P.length ≤ k) (h : Y = pieceGo j (P.drop k) cs) : Y = ((zeroPl, 0), cs) := by rw [h, List.drop_of_length_le hk]; rfl
end
theorem pieceE_blank {j : Job} {p : Placed} (h : pieceE j p = 0) : p.blank < (j.blanks.length : Int) := by
 unfold pieceE at h
 split at h
 ·simp at h
 ·omega

structure Zero6 (W : World) (g : Nat) : Prop where
 c0 : W.cell? ⟨g, 0, none⟩ = some (.int .i64 0)
 c1 : W.cell? ⟨g, 1, none⟩ = some (.int .i64 0)
 c2 : W.cell? ⟨g, 2, none⟩ = some (.int .i64 0)
 c3 : W.cell? ⟨g, 3, none⟩ = some (.int .i64 0)
 c4 : W.cell? ⟨g, 4, none⟩ = some (.int .i64 0)
 c5 : W.cell? ⟨g, 5, none⟩ = some (.int .i64 0)
 f0 : W.frozen? ⟨g, 0, none⟩ = false
 f1 : W.frozen? ⟨g, 1, none⟩ = false
 f2 : W.frozen? ⟨g, 2, none⟩ = false
 f3 : W.frozen? ⟨g, 3, none⟩ = false
 f4 : W.frozen? ⟨g, 4, none⟩ = false
 f5 : W.frozen? ⟨g, 5, none⟩ = false
theorem Zero6.keep {W W' : World} {g : Nat} (h : Zero6 W g) (hb : Below W.heap.size W W') : Zero6 W' g :=
 have hz := block_lt_of_cell h.c0
 ⟨cell_keep hb h.c0, cell_keep hb h.c1, cell_keep hb h.c2, cell_keep hb h.c3, cell_keep hb h.c4, cell_keep hb h.c5, frozen_keep hb hz h.f0, frozen_keep hb hz h.f1, frozen_keep hb hz h.f2, frozen_keep hb hz h.f3, frozen_keep hb hz h.f4, frozen_keep hb hz h.f5⟩
theorem below_six {n g : Nat} {w W : World} {u0 u1 u2 u3 u4 u5 : Value} (h : Below n w W) (hg : n ≤ g) : Below n w ((((((W.setCell ⟨g, 0, none⟩ u0).setCell ⟨g, 1, none⟩ u1).setCell ⟨g, 2, none⟩ u2).setCell ⟨g, 3, none⟩ u3).setCell ⟨g, 4, none⟩ u4).setCell ⟨g, 5, none⟩ u5) :=
 (((((h.setCell hg _).setCell hg _).setCell hg _).setCell hg _).setCell hg _).setCell hg _
def PlanPost2 (w : World) (q : Placed × Int) (e : Ending) (w' : World) : Prop := e = .returned (.tuple #[.agg #[.int .i64 q.1.board, .int .i64 q.1.blank, .int .i64 q.1.at_.x1, .int .i64 q.1.at_.y1, .int .i64 q.1.at_.x2, .int .i64 q.1.at_.y2], .int .i64 q.2]) ∧ Below w.heap.size w w'
theorem PlanPost2.zero {w w' : World} {q : Placed × Int} {E : Int} (hq : q = (zeroPl, E)) (hb : Below w.heap.size w w') : PlanPost2 w q (.returned (.tuple #[.agg #[.int .i64 0, .int .i64 0, .int .i64 0, .int .i64 0, .int .i64 0, .int .i64 0], .int .i64 E])) w' := by subst hq; exact ⟨rfl, hb⟩

theorem PlanPost2.full {w w' : World} {q : Placed × Int} {pb pl E : Int} {r : Rect} (hq : q = (⟨pb, pl, r⟩, E)) (hb : Below w.heap.size w w') : PlanPost2 w q (.returned (.tuple #[.agg #[.int .i64 pb, .int .i64 pl, .int .i64 r.x1, .int .i64 r.y1, .int .i64 r.x2, .int .i64 r.y2], .int .i64 E])) w' := by subst hq; exact ⟨rfl, hb⟩

set_option maxRecDepth 100000 in
set_option maxHeartbeats 16000000 in
theorem refCheckPlan_any (j : Job) (plan : List Layout) (a1 : Option Addr) (c1 : Nat) (a2 : Option Addr) (c2 : Nat) (ap : Option Addr) (cp : Nat) (w : World) (hs : Boards.V w a1 j.stock) (hsl : j.stock.length ≤ 9223372036854775807) (hb : Blanks.V w a2 j.blanks) (hbl : j.blanks.length ≤ 9223372036854775807) (hp : Layouts.V w ap plan) (hpl : plan.length ≤ 1000) (hcuts : ∀ l ∈ plan, l.cuts.length ≤ 100000) :
    Calls Tryz.prog 10 #[.agg #[.slice a1 j.stock.length c1, .slice a2 j.blanks.length c2, .int .i64 j.trim.kerf, .int .i64 j.trim.ends, .int .i64 j.trim.sides], .slice ap plan.length cp] w (PlanPost2 w (planE2 j plan)) := by
 obtain ⟨q, hq⟩ : ∃ q, planE2 j plan = q := ⟨_, rfl⟩
 rw [hq]
 have HQ0 := Lib.hid hq
 have HPV := Lib.hid hp
 have HPL := Lib.hid hcuts
 have HSV := Lib.hid hs
 have HBV := Lib.hid hb
 obtain ⟨EJ, hEJ⟩ : ∃ E, jobE j = E := ⟨_, rfl⟩
 have HEJ := Lib.hid hEJ
 obtain ⟨n0, hn0, hx0, hx1, hx2⟩ := info_parts int_info
 clear hq hp hs hb hEJ hcuts
 go_enter Tryz.func10, Tryz.ntmps10
 go_upto_region 1 with fail
 refine gen_world (fun W => JB W w.heap.size j a1 c1 a2 c2 ∧ Zero6 W (w.heap.size + 1) ∧ Below w.heap.size w W) ⟨⟨by simp [go_sem], by simp [go_sem], by simp [go_sem], by simp [go_sem], by simp [go_sem]⟩, ⟨by simp [go_sem], by simp [go_sem], by simp [go_sem], by simp [go_sem], by simp [go_sem], by simp [go_sem], by simp [go_sem], by simp [go_sem], by simp [go_sem], by simp [go_sem], by simp [go_sem], by simp [go_sem]⟩, by repeat (first | (with_reducible assumption) | exact Below.refl _ _ | (refine Below.setCell ?_ (by first | omega | (simp; omega) | (simp; done)) _) | (refine Below.alloc ?_ (by first | omega | (simp; omega) | (simp; done)) _) | (refine Below.drew ?_))⟩ ?_
 rintro W ⟨hC, hZ, hbW⟩
 obtain ⟨gj, hgj⟩ : ∃ g, g = w.heap.size := ⟨_, rfl⟩
 obtain ⟨g4, hg4⟩ : ∃ g, g = w.heap.size + 1 := ⟨_, rfl⟩
 rw [← hg4] at hZ ⊢
 rw [← hgj] at hC ⊢
 have hzW : gj < W.heap.size := by have := block_lt_of_cell hC.s; simpa using this
 have HG4 := Lib.hid (show w.heap.size ≤ g4 by omega)
 have HC0 := Lib.hid hC
 have HZ0 := Lib.hid hZ
 have HBW := Lib.hid hbW
 obtain ⟨k0, k1, k2, k3, k4⟩ := hC
 clear hbW hZ hgj hg4
 go_upto_region 2 with (go_at_call 15; refine (refCheckJob_any j a1 c1 a2 c2 _ (HSV.out.keep HBW.out) hsl (HBV.out.keep HBW.out) hbl).mono ?_; rw [HEJ.out]; rintro e w1 ⟨rfl, hb1⟩; have HB1 := Lib.hid hb1; clear hb1)
 have HBV1 := Lib.hid (HBW.out.trans (HB1.out.mono HBW.out.size))
 have HC := Lib.hid (HC0.out.keep HB1.out hzW)
 have HZ := Lib.hid (HZ0.out.keep HB1.out)
 have hzW1 := Nat.lt_of_lt_of_le hzW HB1.out.size
 clear k0 k1 k2 k3 k4 HC0 HZ0 HB1 HBW hzW
 by_cases hej : EJ = 0
 ·subst hej
  have HQ := Lib.hid (show q = planOf j plan by rw [← HQ0.out]; unfold planE2; rw [if_neg (by rw [HEJ.out]; simp)])
  clear HQ0
  have HJO := Lib.hid (jobOk_of HEJ.out)
  obtain ⟨AD, CD, hSC⟩ := stock_ch HSV.out
  have HSC := Lib.hid hSC
  have hN := HJO.out.lenS
  have v0 : IntKind.i64.wrap ((j.stock.length : Int) - 1) = (j.stock.length : Int) - 1 := IntWalk.i64_in _ (by omega)
  obtain ⟨X, hX⟩ : ∃ X, X = layGo j plan [] := ⟨_, rfl⟩
  have HX := Lib.hid hX
  have HNX := Lib.hid (fun h => HQ.out.trans (planOf_lay hX h))
  clear hX hSC
  go_wp2_with fail
  go_loopw [7] (fun iv wr => ∃ k : Nat, k ≤ plan.length ∧ iv = .int .i64 k ∧ Hid (X = layGo j (plan.drop k) (boardsTo plan k)) ∧ Below w1.heap.size w1 wr) (fun iv _ => plan.length - (intOf iv).toNat)
  case atStart => exact ⟨0, Nat.zero_le _, rfl, HX, Below.refl _ _⟩
  case round =>
   obtain ⟨k, hk, rfl, HXK, hbr⟩ := hrel
   obtain ⟨wo, rfl⟩ : ∃ wo : World, wo = wr := ⟨_, rfl⟩
   have HBO := Lib.hid hbr
   have HCO := Lib.hid (HC.out.keep hbr hzW1)
   have HZO := Lib.hid (HZ.out.keep hbr)
   have hzr := Nat.lt_of_lt_of_le hzW1 hbr.size
   have HBB := Lib.hid (HBV1.out.trans (hbr.mono HBV1.out.size))
   clear hbr
   by_cases hlt : k < plan.length
   ·have hki : (k : Int) < (plan.length : Int) := by omega
    have v1 : IntKind.i64.wrap ((k : Int) + 1) = (k : Int) + 1 := IntWalk.i64_in _ (by omega)
    have HL6 := Lib.hid (lay_far hlt HXK.out)
    have HL5 := Lib.hid (lay_used hlt HXK.out)
    have HLE := Lib.hid (lay_err hlt HXK.out)
    have HLS := Lib.hid (lay_step hlt HXK.out)
    have HMB := Lib.hid (fun (m : Nat) (hm : m < k) => mem_boards (plan := plan) hm hk)
    have HNB := Lib.hid (fun (b : Int) => not_boards (plan := plan) (k := k) (b := b))
    obtain ⟨gp, offp, hap, al, cl, m0, m1, hcv, hcl, -, hwf⟩ := HPV.out.at_ hlt
    obtain ⟨L, hL⟩ : ∃ L, L = plan[k] := ⟨_, rfl⟩
    have HLK := Lib.hid hL
    have HPC := Lib.hid (show ∀ (m : Nat) (hm : m < plan.length), w.cell? ⟨gp, offp + m * 2, none⟩ = some (.int .i64 plan[m].board) from fun m hm => by
     obtain ⟨gp', offp', hap', al', cl', m0', -⟩ := HPV.out.at_ hm
     rw [hap] at hap'
     injection hap' with h
     injection h with h1 h2
     subst h1; subst h2
     exact m0')
    rw [← hL] at HL6 HL5 HLE HLS m0 m1 hcv hcl hwf
    subst hap
    clear hL
    obtain ⟨lb, cuts⟩ := L
    unfold Layout.wf at hwf
    simp only at HL6 HL5 HLE HLS m0 m1 hcv hcl hwf
    have m0 := cell_keep HBB.out m0
    have m1 := cell_keep HBB.out m1
    have HCW := Lib.hid hcv
    have HCL := Lib.hid (show cuts.length ≤ 100000 from HPL.out ⟨lb, cuts⟩ (by rw [HLK.out]; exact List.getElem_mem hlt))
    obtain ⟨k0, -, k2, k3, k4⟩ := HCO.out
    clear hcv
    go_upto_region 8 with fail
    refine gen_world (fun W1 => (W1.cell? ⟨wo.heap.size, 0, none⟩ = some (.int .i64 lb) ∧ W1.cell? ⟨wo.heap.size, 1, none⟩ = some (.slice al cuts.length cl)) ∧ Below wo.heap.size wo W1) ⟨⟨by simp [go_sem], by simp [go_sem]⟩, by repeat (first | (with_reducible assumption) | exact Below.refl _ _ | (refine Below.setCell ?_ (by first | omega | (simp; omega) | (simp; done)) _) | (refine Below.alloc ?_ (by first | omega | (simp; omega) | (simp; done)) _) | (refine Below.drew ?_))⟩ ?_
    rintro W1 ⟨⟨x0, x1⟩, hb1⟩
    obtain ⟨g8, hg8⟩ : ∃ g, g = wo.heap.size := ⟨_, rfl⟩
    rw [← hg8] at x0 x1 ⊢
    have k0 := cell_keep hb1 k0
    have HB1 := Lib.hid hb1
    have HZ1 := Lib.hid (HZO.out.keep hb1)
    have HC1 := Lib.hid (HCO.out.keep hb1 hzr)
    have HBB1 := Lib.hid (HBB.out.trans (hb1.mono HBB.out.size))
    have hz1 := Nat.lt_of_lt_of_le hzr hb1.size
    clear hg8 hb1 m0 m1 k2 k3 k4
    by_cases hin : 0 ≤ lb ∧ lb ≤ (j.stock.length : Int) - 1
    ·have HW := Lib.hid (withinB_in hin)
     obtain ⟨nb, hnb⟩ : ∃ nb : Nat, lb = nb := ⟨lb.toNat, by omega⟩
     subst hnb
     have hnbs : nb < j.stock.length := by omega
     go_upto_region 10 with (go_at_call 16; refine (baseWithin_is _ _ _ _ HW.out).mono ?_; rintro e w' ⟨rfl, rfl⟩)
     have HX0 := Lib.hid x0
     have HX1 := Lib.hid x1
     clear x1 k0
     go_wp2_with fail
     go_loopw [9] (fun iv wr => ∃ k' : Nat, k' ≤ k ∧ iv = .int .i64 k' ∧ Hid (∀ m (hm : m < plan.length), m < k' → plan[m].board ≠ (nb : Int)) ∧ Below W1.heap.size W1 wr) (fun iv _ => k - (intOf iv).toNat)
     case atStart => exact ⟨0, Nat.zero_le _, rfl, Lib.hid (fun m _ h => by omega), Below.refl _ _⟩
     case round =>
      obtain ⟨k', hk', rfl, HNE, hbr⟩ := hrel
      have HB2 := Lib.hid hbr
      have HZ2 := Lib.hid (HZ1.out.keep hbr)
      have HBB2 := Lib.hid (HBB1.out.trans (hbr.mono HBB1.out.size))
      have x0 := cell_keep hbr x0
      clear hbr
      by_cases hlt' : k' < k
      ·have hki' : (k' : Int) < (k : Int) := by omega
       have hkl : k' < plan.length := by omega
       have hkli : (k' : Int) < (plan.length : Int) := by omega
       have v2 : IntKind.i64.wrap ((k' : Int) + 1) = (k' : Int) + 1 := IntWalk.i64_in _ (by omega)
       have n0 := cell_keep HBB2.out (HPC.out k' hkl)
       by_cases heq : plan[k'].board = (nb : Int)
       ·have HQE := Lib.hid (HNX.out (by rw [HL5.out hin (by rw [← heq]; exact HMB.out k' hlt')]; decide))
        rw [HL5.out hin (by rw [← heq]; exact HMB.out k' hlt')] at HQE
        rw [heq] at n0
        go_upto_region 13 with fail
        go_quiet (fail)
        rename_i nq
        have HZR := Lib.hid (HZ2.out.keep (below_drewN (Below.refl _ _) nq))
        have HBE := Lib.hid (below_drewN HBB2.out nq)
        generalize wr.drewN nq = W2 at *
        clear x0 n0
        obtain ⟨z0, z1, z2, z3, z4, z5, f0, f1, f2, f3, f4, f5⟩ := HZR.out
        go_wp2_with fail
        first | exact bodyPost_ret (v := .tuple #[.agg #[.int .i64 0, .int .i64 0, .int .i64 0, .int .i64 0, .int .i64 0, .int .i64 0], .int .i64 6]) (by simp [results, Tryz.results10, go_sem, *]) rfl (PlanPost2.zero HQE.out (below_six HBE.out HG4.out)) | exact bodyPost_ret (v := .tuple #[.agg #[.int .i64 0, .int .i64 0, .int .i64 0, .int .i64 0, .int .i64 0, .int .i64 0], .int .i64 5]) (by simp [results, Tryz.results10, go_sem, *]) rfl (PlanPost2.zero HQE.out (below_six HBE.out HG4.out)) | exact bodyPost_ret (v := .tuple #[.agg #[.int .i64 0, .int .i64 0, .int .i64 0, .int .i64 0, .int .i64 0, .int .i64 0], .int .i64 16]) (by simp [results, Tryz.results10, go_sem, *]) rfl (PlanPost2.zero HQE.out (below_six HBE.out HG4.out)) | exact bodyPost_ret (v := .tuple #[.agg #[.int .i64 0, .int .i64 0, .int .i64 0, .int .i64 0, .int .i64 0, .int .i64 0], .int .i64 15]) (by simp [results, Tryz.results10, go_sem, *]) rfl (PlanPost2.zero HQE.out (below_six HBE.out HG4.out)) | exact bodyPost_ret (v := .tuple #[.agg #[.int .i64 0, .int .i64 0, .int .i64 0, .int .i64 0, .int .i64 0, .int .i64 0], .int .i64 0]) (by simp [results, Tryz.results10, go_sem, *]) rfl (PlanPost2.zero HQE.out (below_six HBE.out HG4.out)) | exact bodyPost_ret (v := .tuple #[.agg #[.int .i64 0, .int .i64 0, .int .i64 0, .int .i64 0, .int .i64 0, .int .i64 0], .int .i64 re]) (by simp [results, Tryz.results10, go_sem, *]) rfl (PlanPost2.zero HQE.out (below_six HBE.out HG4.out))
       ·have HB3 := HB2
        have HNE2 := Lib.hid (show ∀ m (hm : m < plan.length), m < k' + 1 → plan[m].board ≠ (nb : Int) from fun m hm h => by
         by_cases e : m = k'
         ·subst e; exact heq
         ·exact HNE.out m hm (by omega))
        generalize plan[k'].board = ob at *
        go_upto_region 13 with fail
        go_quiet (fail)
        rename_i nq
        have HBE := Lib.hid (below_drewN HB2.out nq)
        generalize wr.drewN nq = W2 at *
        clear x0 n0
        go_wp2_with fail
        go_roundw
        case rel => exact ⟨k' + 1, by omega, by go_num, HNE2, HBE.out⟩
        case measure => first | (simp [intOf]; done) | (simp [intOf]; omega)
      ·obtain rfl : k' = k := by omega
       have hki' : ¬ (k' : Int) < (k' : Int) := by omega
       have HUN := Lib.hid (HNB.out nb HNE.out)
       have x1 := cell_keep HB2.out HX1.out
       obtain ⟨k0, -, k2, k3, k4⟩ := HC1.out.keep HB2.out hz1
       have hcv := HCW.out.keep HBB2.out
       obtain ⟨⟨gs, off, has, hcb⟩, hrv, -⟩ := HSC.out.ch nb _ (List.getElem?_eq_getElem hnbs)
       subst has
       obtain ⟨⟨rs, re⟩, hrs⟩ : ∃ q, layOf j ⟨nb, cuts⟩ = q := ⟨_, rfl⟩
       have HLY := Lib.hid (show regM (usableR j.stock[nb] j.trim) j.trim.kerf cuts = (rs, re) by
        rw [← hrs]; unfold layOf; simp only [Int.toNat_natCast]; rw [List.getD_eq_getElem?_getD, List.getElem?_eq_getElem hnbs]; rfl)
       have HCE := Lib.hid (job_cut HEJ.out (List.getElem_mem hnbs))
       rw [hrs] at HLE HLS
       simp only at HLE HLS
       have HLE2 := Lib.hid (HLE.out hin HUN.out)
       have HLS2 := Lib.hid (HLS.out hin HUN.out)
       have hrvo := hrv.keep HBB2.out
       obtain ⟨s0, s1, s2, s3, s4, s5, s6, s7⟩ := hcb.keep HBB2.out
       generalize AD nb = ad at *
       generalize CD nb = cd at *
       generalize j.stock[nb] = b at *
       have hbi : (nb : Int) < (j.stock.length : Int) := by omega
       have HCV := Lib.hid hcv
       have hcl2 := hcl
       clear hcb hrv hrs hcv HLE HLS
       go_upto_region 15 with fail
       have kx0 : ∀ y : KW (fun W' => Below wr.heap.size wr W'), (y.w.cell? ⟨gj, 0, none⟩ = some (.slice (some ⟨gs, off, none⟩) j.stock.length c1) ∧ y.w.cell? ⟨gj, 2, none⟩ = some (.int .i64 j.trim.kerf)) ∧ y.w.cell? ⟨gj, 3, none⟩ = some (.int .i64 j.trim.ends) ∧ y.w.cell? ⟨gj, 4, none⟩ = some (.int .i64 j.trim.sides) := fun y => ⟨⟨cell_keep y.ok k0, cell_keep y.ok k2⟩, cell_keep y.ok k3, cell_keep y.ok k4⟩
       have kx1 : ∀ y : KW (fun W' => Below wr.heap.size wr W'), y.w.cell? ⟨g8, 0, none⟩ = some (.int .i64 nb) ∧ y.w.cell? ⟨g8, 1, none⟩ = some (.slice al cuts.length cl) := fun y => ⟨cell_keep y.ok x0, cell_keep y.ok x1⟩
       have kx2 : ∀ y : KW (fun W' => Below wr.heap.size wr W'), (y.w.cell? ⟨gs, off + nb * 8, none⟩ = some (.string b.name) ∧ y.w.cell? ⟨gs, off + nb * 8 + 1, none⟩ = some (.string b.species)) ∧ y.w.cell? ⟨gs, off + nb * 8 + 2, none⟩ = some (.int .i64 b.length) ∧ y.w.cell? ⟨gs, off + nb * 8 + 3, none⟩ = some (.int .i64 b.width) := fun y => ⟨⟨cell_keep y.ok s0, cell_keep y.ok s1⟩, cell_keep y.ok s2, cell_keep y.ok s3⟩
       have kx3 : ∀ y : KW (fun W' => Below wr.heap.size wr W'), (y.w.cell? ⟨gs, off + nb * 8 + 4, none⟩ = some (.int .i64 b.thick) ∧ y.w.cell? ⟨gs, off + nb * 8 + 5, none⟩ = some (.int .i64 b.cut)) ∧ y.w.cell? ⟨gs, off + nb * 8 + 6, none⟩ = some (.int .i64 b.moisture) ∧ y.w.cell? ⟨gs, off + nb * 8 + 7, none⟩ = some (.slice ad b.defects.length cd) := fun y => ⟨⟨cell_keep y.ok s4, cell_keep y.ok s5⟩, cell_keep y.ok s6, cell_keep y.ok s7⟩
       clear s0 s1 s2 s3 s4 s5 s6 s7 k0 k2 k3 k4 x0 x1
       haveI n1 : Nonempty (KW (fun W' => Below wr.heap.size wr W')) := ⟨⟨wr, Below.refl _ _⟩⟩
       refine wp_region_tree (fun w' => ∃ y : KW (fun W' => Below wr.heap.size wr W'), w' = y.w) 15 (.take 0 (.take 1 (.take 2 (.take 3 (.take 4 (.take 5 (.take 6 (.take 7 (.take 8 (.take 9 (.one 10 (.take 11 (.take 12 (.take 13 (.take 14 .done))))))))))))))) (by kernel_rfl) (by kernel_rfl) (KW.mk' (Below.refl _ _).drew) ?_
       have HB0 : Hid (Below wr.heap.size wr wr.drew) := Lib.hid (Below.refl _ _).drew
       generalize wr.drew = w5 at *
       repeat (refine wpTree_take ?_; simp only [nthOp]; (first | go_big_quiet_step (fail) | quiet_step (fail)); refine wpQuiet_nil ?_)
       refine wpTree_one ?_
       simp only [nthOp]
       go_wp2_with (go_at_call 33; refine (refRegions_any b j.trim cuts ad al cd cl w5 HCE.out (HCV.out.keep HB0.out) HCL.out).mono ?_; rw [HLY.out]; rintro e w6 ⟨ar, cr, rfl, hv, hb6, -⟩; have HB6 := Lib.hid (HB0.out.trans (hb6.mono HB0.out.size)); clear hv hb6)
       refine One_mk (KW.mk' HB6.out) ?_
       repeat (refine wpTree_take ?_; simp only [nthOp]; (first | go_big_quiet_step (fail) | quiet_step (fail)); refine wpQuiet_nil ?_)
       refine wpTree_done ?_
       simp only [List.drop_succ_cons, List.drop_zero]
       go_wp2_with fail
       refine NP_mk ?_
       have HBE := Lib.hid (HBB2.out.trans (HB6.out.mono HBB2.out.size))
       have HZR := Lib.hid (HZ2.out.keep HB6.out)
       have HBQ := Lib.hid (HBO.out.trans ((HB1.out.trans ((HB2.out.trans (HB6.out.mono HB2.out.size)).mono HB1.out.size)).mono HBO.out.size))
       clear kx0 kx1 kx2 kx3 n1
       by_cases hre : re = 0
       ·subst hre
        go_wp2_with fail
        go_roundw
        case rel => exact ⟨k' + 1, by omega, by go_num, Lib.hid (HLS2.out rfl), HBQ.out⟩
        case measure => first | (simp [intOf]; done) | (simp [intOf]; omega)
       ·have hne := bne_t5 hre
        have HQE := Lib.hid (HNX.out (by rw [HLE2.out hre]; exact hre))
        rw [HLE2.out hre] at HQE
        go_upto_region 17 with fail
        obtain ⟨z0, z1, z2, z3, z4, z5, f0, f1, f2, f3, f4, f5⟩ := HZR.out
        go_wp2_with fail
        first | exact bodyPost_ret (v := .tuple #[.agg #[.int .i64 0, .int .i64 0, .int .i64 0, .int .i64 0, .int .i64 0, .int .i64 0], .int .i64 6]) (by simp [results, Tryz.results10, go_sem, *]) rfl (PlanPost2.zero HQE.out (below_six HBE.out HG4.out)) | exact bodyPost_ret (v := .tuple #[.agg #[.int .i64 0, .int .i64 0, .int .i64 0, .int .i64 0, .int .i64 0, .int .i64 0], .int .i64 5]) (by simp [results, Tryz.results10, go_sem, *]) rfl (PlanPost2.zero HQE.out (below_six HBE.out HG4.out)) | exact bodyPost_ret (v := .tuple #[.agg #[.int .i64 0, .int .i64 0, .int .i64 0, .int .i64 0, .int .i64 0, .int .i64 0], .int .i64 16]) (by simp [results, Tryz.results10, go_sem, *]) rfl (PlanPost2.zero HQE.out (below_six HBE.out HG4.out)) | exact bodyPost_ret (v := .tuple #[.agg #[.int .i64 0, .int .i64 0, .int .i64 0, .int .i64 0, .int .i64 0, .int .i64 0], .int .i64 15]) (by simp [results, Tryz.results10, go_sem, *]) rfl (PlanPost2.zero HQE.out (below_six HBE.out HG4.out)) | exact bodyPost_ret (v := .tuple #[.agg #[.int .i64 0, .int .i64 0, .int .i64 0, .int .i64 0, .int .i64 0, .int .i64 0], .int .i64 0]) (by simp [results, Tryz.results10, go_sem, *]) rfl (PlanPost2.zero HQE.out (below_six HBE.out HG4.out)) | exact bodyPost_ret (v := .tuple #[.agg #[.int .i64 0, .int .i64 0, .int .i64 0, .int .i64 0, .int .i64 0, .int .i64 0], .int .i64 re]) (by simp [results, Tryz.results10, go_sem, *]) rfl (PlanPost2.zero HQE.out (below_six HBE.out HG4.out))
    ·have HW := Lib.hid (withinB_out hin)
     have HQE := Lib.hid (HNX.out (by rw [HL6.out hin]; decide))
     rw [HL6.out hin] at HQE
     have HZR := HZ1
     have HBE := HBB1
     go_upto_region 9 with (go_at_call 16; refine (baseWithin_is _ _ _ _ HW.out).mono ?_; rintro e w' ⟨rfl, rfl⟩)
     obtain ⟨z0, z1, z2, z3, z4, z5, f0, f1, f2, f3, f4, f5⟩ := HZR.out
     go_wp2_with fail
     first | exact bodyPost_ret (v := .tuple #[.agg #[.int .i64 0, .int .i64 0, .int .i64 0, .int .i64 0, .int .i64 0, .int .i64 0], .int .i64 6]) (by simp [results, Tryz.results10, go_sem, *]) rfl (PlanPost2.zero HQE.out (below_six HBE.out HG4.out)) | exact bodyPost_ret (v := .tuple #[.agg #[.int .i64 0, .int .i64 0, .int .i64 0, .int .i64 0, .int .i64 0, .int .i64 0], .int .i64 5]) (by simp [results, Tryz.results10, go_sem, *]) rfl (PlanPost2.zero HQE.out (below_six HBE.out HG4.out)) | exact bodyPost_ret (v := .tuple #[.agg #[.int .i64 0, .int .i64 0, .int .i64 0, .int .i64 0, .int .i64 0, .int .i64 0], .int .i64 16]) (by simp [results, Tryz.results10, go_sem, *]) rfl (PlanPost2.zero HQE.out (below_six HBE.out HG4.out)) | exact bodyPost_ret (v := .tuple #[.agg #[.int .i64 0, .int .i64 0, .int .i64 0, .int .i64 0, .int .i64 0, .int .i64 0], .int .i64 15]) (by simp [results, Tryz.results10, go_sem, *]) rfl (PlanPost2.zero HQE.out (below_six HBE.out HG4.out)) | exact bodyPost_ret (v := .tuple #[.agg #[.int .i64 0, .int .i64 0, .int .i64 0, .int .i64 0, .int .i64 0, .int .i64 0], .int .i64 0]) (by simp [results, Tryz.results10, go_sem, *]) rfl (PlanPost2.zero HQE.out (below_six HBE.out HG4.out)) | exact bodyPost_ret (v := .tuple #[.agg #[.int .i64 0, .int .i64 0, .int .i64 0, .int .i64 0, .int .i64 0, .int .i64 0], .int .i64 re]) (by simp [results, Tryz.results10, go_sem, *]) rfl (PlanPost2.zero HQE.out (below_six HBE.out HG4.out))
   ·obtain rfl : k = plan.length := by omega
    have hki : ¬ ((plan.length : Nat) : Int) < ((plan.length : Nat) : Int) := by omega
    have HX0' := Lib.hid (lay_end (Nat.le_refl _) HXK.out)
    have HX0 := Lib.hid (show layGo j plan [] = 0 by rw [← HX.out]; exact HX0'.out)
    have HPO := Lib.hid (layGo_ok HX0.out)
    have HPP := Lib.hid (fun p hp => placesTo_ok HEJ.out HPO.out plan.length (Nat.le_refl _) p hp)
    have HPN := Lib.hid (placesTo_len HEJ.out HPO.out plan.length (Nat.le_refl _))
    have HPF := Lib.hid (refPlaces_any j plan a1 c1 a2 c2 ap cp wo (HSV.out.keep HBB.out) (HPV.out.keep HBB.out) HEJ.out HPO.out hpl)
    obtain ⟨P, hP⟩ : ∃ P, P = placesM j plan := ⟨_, rfl⟩
    have HQP := Lib.hid (fun (p : Placed) (e : Int) (cs : List Int) (h : pieceGo j P (List.replicate j.blanks.length 0) = ((p, e), cs)) (he : e ≠ 0) => HQ.out.trans (planOf_piece HX0.out (by rw [← hP]; exact h) he))
    have HQC := Lib.hid (fun (p : Placed) (cs : List Int) (h : pieceGo j P (List.replicate j.blanks.length 0) = ((p, 0), cs)) => HQ.out.trans (planOf_count HX0.out (by rw [← hP]; exact h)))
    rw [show placesTo j plan plan.length = placesM j plan from rfl, ← hP] at HPP HPN
    rw [← hP] at HPF
    obtain ⟨Y, hY⟩ : ∃ Y, Y = pieceGo j P (List.replicate j.blanks.length 0) := ⟨_, rfl⟩
    have HY0 := Lib.hid hY
    rw [← hY] at HQP HQC
    have hPN : P.length ≤ 400000 := by have := HPN.out; omega
    clear hP hY HX HNX HXK
    obtain ⟨k0, k1, k2, k3, k4⟩ := HCO.out
    have hnB := HJO.out.lenB
    have hmk : ∀ W : World, (Instr.makeSlice 73 (.int .i64 (j.blanks.length : Int)) (.int .i64 (j.blanks.length : Int))).run Tryz.prog W = .ok (.slice (some ⟨W.heap.size, 0, none⟩) j.blanks.length j.blanks.length) (W.alloc (.cells (madeCells #[.int .i64 0] j.blanks.length) 3)) := fun W => by
     have := run_make (P := Tryz.prog) W 73 3 n0 (.int .i64 0) Tryz.underlying73 hn0 hx0 .i64 .i64 (j.blanks.length : Int) (j.blanks.length : Int) (by omega) (Int.le_refl _) (by rw [hx2]; omega) (by omega)
     rw [this]
     simp [hx1, Value.cells]
    go_upto_region 19 with (go_at_call 34; refine HPF.out.mono ?_; rintro e w3 ⟨a3, c3, rfl, hv3, hb3⟩; have HV3 := Lib.hid hv3; have HB3 := Lib.hid hb3; have k1 := cell_keep hb3 k1; clear hv3 hb3)
    have HBB3 := Lib.hid (HBB.out.trans (HB3.out.mono HBB.out.size))
    have HC3 := Lib.hid (HCO.out.keep HB3.out hzr)
    have HZ3 := Lib.hid (HZO.out.keep HB3.out)
    have hz3 := Nat.lt_of_lt_of_le hzr HB3.out.size
    go_upto_region 20 with fail
    obtain ⟨gc, hgc⟩ : ∃ g, g = w3.heap.size := ⟨_, rfl⟩
    rw [← hgc]
    refine gen_world (fun W4 => W4.ownsRow gc 3 1 (.slice (some ⟨gc, 0, none⟩) j.blanks.length j.blanks.length) j.blanks.length ((List.replicate j.blanks.length (0 : Int)).map (Value.int .i64)) ∧ Below gc w3 W4) ⟨?_, ?_⟩ ?_
    ·have h := made_own (w := w3) (base := gc) (n := j.blanks.length) (T := 3) (z := .int .i64 0) (by rw [hgc]; exact Nat.le_refl _) (by unfold maxLen; omega)
     rw [List.map_replicate]
     rw [← hgc] at h
     exact h
    ·exact (Below.refl _ _).alloc (by rw [hgc]; exact Nat.le_refl _) _
    rintro W4 ⟨ho4, hb4⟩
    have HO4 := Lib.hid ho4
    have HB4 := Lib.hid hb4
    have HGC := Lib.hid hgc
    clear ho4 hb4 hgc hmk k0 k1 k2 k3 k4
    go_wp2_with fail
    go_loopw [14] (fun iv wr => ∃ (m : Nat) (cs : List Int), m ≤ P.length ∧ iv = .int .i64 m ∧ Hid (cs.length = j.blanks.length) ∧ Hid (∀ x ∈ cs, 0 ≤ x ∧ x ≤ m) ∧ Hid (Y = pieceGo j (P.drop m) cs) ∧ Hid (wr.ownsRow gc 3 1 (.slice (some ⟨gc, 0, none⟩) j.blanks.length j.blanks.length) j.blanks.length (cs.map (Value.int .i64))) ∧ Below gc w3 wr) (fun iv _ => P.length - (intOf iv).toNat)
    case atStart => exact ⟨0, _, Nat.zero_le _, rfl, Lib.hid (by simp), Lib.hid (fun x hx => by rw [(List.mem_replicate.1 hx).2]; omega), HY0, HO4, HB4.out⟩
    case round =>
     clear HO4 HB4
     obtain ⟨m, cs, hm, rfl, HCS, HCB, HYM, HO, hbr⟩ := hrel
     obtain ⟨wq, rfl⟩ : ∃ wq : World, wq = wr := ⟨_, rfl⟩
     have HBR := Lib.hid hbr
     have hbw : Below w3.heap.size w3 wq := by rw [← HGC.out]; exact hbr
     have HBE := Lib.hid (HBB3.out.trans (hbw.mono HBB3.out.size))
     have HZR := Lib.hid (HZ3.out.keep hbw)
     have HCR := Lib.hid (HC3.out.keep hbw hz3)
     by_cases hlt : m < P.length
     ·have hmi : (m : Int) < (P.length : Int) := by omega
      have v2 : IntKind.i64.wrap ((m : Int) + 1) = (m : Int) + 1 := IntWalk.i64_in _ (by omega)
      have HPE := Lib.hid (piece_err hlt HYM.out)
      have HPS := Lib.hid (piece_step hlt HYM.out)
      obtain ⟨hpb, hpl2, hpr⟩ := HPP.out _ (List.getElem_mem hlt)
      obtain ⟨g3, off3, ha3, ⟨p0, p1⟩, ⟨p2, p3⟩, p4, p5⟩ := (HV3.out.keep hbw).at_ hlt
      subst ha3
      generalize P[m] = p at *
      obtain ⟨E, hE⟩ : ∃ E, pieceE j p = E := ⟨_, rfl⟩
      have HPI := Lib.hid (fun w9 hs hb => pieceErr_any j p a1 c1 a2 c2 w9 hs hb HJO.out hpb hpl2 hpr)
      have HBL := Lib.hid (fun h => pieceE_blank (j := j) (p := p) (hE.trans h))
      rw [hE] at HPE HPS HPI
      clear hE
      obtain ⟨pb, pl, r⟩ := p
      simp only at hpb hpl2 hpr p0 p1 p2 p3 p4 p5 HPS HBL HPI HPE
      obtain ⟨bl, hbl⟩ : ∃ bl : Nat, pl = bl := ⟨pl.toNat, by omega⟩
      subst hbl
      simp only [Int.toNat_natCast] at HPS
      obtain ⟨k0, k1, k2, k3, k4⟩ := HCR.out
      have HP1 := Lib.hid p1
      have HPP0 := Lib.hid (And.intro (And.intro p0 p1) (And.intro (And.intro p2 p3) (And.intro p4 p5)))
      go_upto_region 23 with fail
      have kx0 : ∀ y : KW (fun W' => Below wq.heap.size wq W'), (y.w.cell? ⟨gj, 0, none⟩ = some (.slice a1 j.stock.length c1) ∧ y.w.cell? ⟨gj, 1, none⟩ = some (.slice a2 j.blanks.length c2)) ∧ (y.w.cell? ⟨gj, 2, none⟩ = some (.int .i64 j.trim.kerf) ∧ y.w.cell? ⟨gj, 3, none⟩ = some (.int .i64 j.trim.ends)) ∧ y.w.cell? ⟨gj, 4, none⟩ = some (.int .i64 j.trim.sides) := fun y => ⟨⟨cell_keep y.ok k0, cell_keep y.ok k1⟩, ⟨cell_keep y.ok k2, cell_keep y.ok k3⟩, cell_keep y.ok k4⟩
      have kx1 : ∀ y : KW (fun W' => Below wq.heap.size wq W'), (y.w.cell? ⟨g3, off3 + m * 6, none⟩ = some (.int .i64 pb) ∧ y.w.cell? ⟨g3, off3 + m * 6 + 1, none⟩ = some (.int .i64 (bl : Int))) ∧ (y.w.cell? ⟨g3, off3 + m * 6 + 2, none⟩ = some (.int .i64 r.x1) ∧ y.w.cell? ⟨g3, off3 + m * 6 + 3, none⟩ = some (.int .i64 r.y1)) ∧ y.w.cell? ⟨g3, off3 + m * 6 + 4, none⟩ = some (.int .i64 r.x2) ∧ y.w.cell? ⟨g3, off3 + m * 6 + 5, none⟩ = some (.int .i64 r.y2) := fun y => ⟨⟨cell_keep y.ok p0, cell_keep y.ok p1⟩, ⟨cell_keep y.ok p2, cell_keep y.ok p3⟩, cell_keep y.ok p4, cell_keep y.ok p5⟩
      clear p0 p1 p2 p3 p4 p5 k0 k1 k2 k3 k4
      haveI n1 : Nonempty (KW (fun W' => Below wq.heap.size wq W')) := ⟨⟨wq, Below.refl _ _⟩⟩
      refine wp_region_tree (fun w' => ∃ y : KW (fun W' => Below wq.heap.size wq W'), w' = y.w) 5 (.take 0 (.take 1 (.take 2 (.take 3 (.take 4 .done))))) (by kernel_rfl) (by kernel_rfl) (KW.mk' (Below.refl _ _).drew) ?_
      have HB0 : Hid (Below wq.heap.size wq wq.drew) := Lib.hid (Below.refl _ _).drew
      generalize wq.drew = w5 at *
      repeat (refine wpTree_take ?_; simp only [nthOp]; (first | go_big_quiet_step (fail) | quiet_step (fail)); refine wpQuiet_nil ?_)
      refine wpTree_done ?_
      simp only [List.drop_succ_cons, List.drop_zero]
      have HBE0 := Lib.hid (HBE.out.trans (HB0.out.mono HBE.out.size))
      go_wp2_with (go_at_call 35; refine (HPI.out _ (HSV.out.keep HBE0.out) (HBV.out.keep HBE0.out)).mono ?_; rintro e w6 ⟨rfl, hb6⟩; have HB6 := Lib.hid (HB0.out.trans (hb6.mono HB0.out.size)); clear hb6)
      refine NP_mk ?_
      have HBE6 := Lib.hid (HBE.out.trans (HB6.out.mono HBE.out.size))
      have HO6 := Lib.hid (own_keep HO.out HB6.out)
      have HBR6 := Lib.hid (HBR.out.trans (HB6.out.mono (by have h1 := HBR.out.size; have h2 := HGC.out; omega)))
      obtain ⟨⟨p0, p1⟩, ⟨p2, p3⟩, p4, p5⟩ := HPP0.out
      have p0 := cell_keep HB6.out p0
      have p1 := cell_keep HB6.out p1
      have p2 := cell_keep HB6.out p2
      have p3 := cell_keep HB6.out p3
      have p4 := cell_keep HB6.out p4
      have p5 := cell_keep HB6.out p5
      clear kx0 kx1 n1
      by_cases hE0 : E = 0
      ·subst hE0
       have HPS2 := Lib.hid (HPS.out rfl)
       have hbn := HBL.out rfl
       clear HPS
       have hbn2 : bl < cs.length := by rw [HCS.out]; omega
       obtain ⟨q0, f0⟩ := own_int_cell HO6.out hbn2
       have HCI := Lib.hid (show cs.getD bl 0 = cs[bl] by rw [List.getD_eq_getElem?_getD, List.getElem?_eq_getElem hbn2]; rfl)
       have hci := HCB.out _ (List.getElem_mem hbn2)
       generalize cs[bl] = ci at *
       have v3 : IntKind.i64.wrap (ci + 1) = ci + 1 := IntWalk.i64_in _ (by omega)
       have HBN := Lib.hid hbn2
       go_upto_region 26 with fail
       have kx1 : ∀ y : KW (fun W' => Below w6.heap.size w6 W'), y.w.cell? ⟨g3, off3 + m * 6 + 1, none⟩ = some (.int .i64 (bl : Int)) ∧ y.w.cell? ⟨gc, bl, none⟩ = some (.int .i64 ci) := fun y => ⟨cell_keep y.ok p1, cell_keep y.ok q0⟩
       have HQ0' := Lib.hid q0
       have HF0 := Lib.hid f0
       have hzc := block_lt_of_cell q0
       clear p0 p1 p2 p3 p4 p5 q0 f0
       haveI n1 : Nonempty (KW (fun W' => Below w6.heap.size w6 W')) := ⟨⟨w6, Below.refl _ _⟩⟩
       refine wp_region_tree (fun w' => ∃ y : KW (fun W' => Below w6.heap.size w6 W'), w' = y.w) 15 (.take 0 (.take 1 (.take 2 (.take 3 (.take 4 (.take 5 (.take 6 (.take 7 (.take 8 (.take 9 (.take 10 (.take 11 (.take 12 (.take 13 (.take 14 .done))))))))))))))) (by kernel_rfl) (by kernel_rfl) (KW.mk' (Below.refl _ _).drew) ?_
       have HB7 : Hid (Below w6.heap.size w6 w6.drew) := Lib.hid (Below.refl _ _).drew
       generalize w6.drew = w7 at *
       repeat (refine wpTree_take ?_; simp only [nthOp]; (first | go_big_quiet_step (fail) | quiet_step (fail)); refine wpQuiet_nil ?_)
       refine wpTree_done ?_
       simp only [List.drop_succ_cons, List.drop_zero]
       have q0 := cell_keep HB7.out HQ0'.out
       have f0 := frozen_keep HB7.out hzc HF0.out
       go_wp2_with fail
       refine NP_mk ?_
       have HO7 := Lib.hid (own_set1 (x := ci + 1) (own_keep HO6.out HB7.out) HBN.out)
       have HB8 := Lib.hid (HBR6.out.trans (HB7.out.mono (by have h1 := HBR6.out.size; have h2 := HGC.out; omega)))
       clear q0 f0 kx1 n1
       go_wp2_with fail
       go_roundw
       case rel => exact ⟨m + 1, cs.set bl (ci + 1), by omega, by go_num, Lib.hid (by rw [List.length_set]; exact HCS.out), Lib.hid (fun x hx => by
        rcases List.mem_or_eq_of_mem_set hx with hx | rfl
        ·have := HCB.out x hx; omega
        ·omega), Lib.hid (by have h := HPS2.out; rw [HCI.out] at h; exact h), HO7, HB8.out.setCell (Nat.le_refl _) _⟩
       case measure => first | (simp [intOf]; done) | (simp [intOf]; omega)
      ·have hne := bne_t5 hE0
       have HQE := Lib.hid (HQP.out _ _ _ (HPE.out hE0) hE0)
       have HZ6 := Lib.hid (HZR.out.keep HB6.out)
       obtain ⟨z0, z1, z2, z3, z4, z5, f0, f1, f2, f3, f4, f5⟩ := HZ6.out
       go_wp2_with fail
       refine bodyPost_ret (v := .tuple #[.agg #[.int .i64 pb, .int .i64 (bl : Int), .int .i64 r.x1, .int .i64 r.y1, .int .i64 r.x2, .int .i64 r.y2], .int .i64 E]) (by simp [results, Tryz.results10, go_sem, *]) rfl ?_
       exact PlanPost2.full HQE.out (below_six HBE6.out HG4.out)
     ·have HYE := Lib.hid (piece_end (Nat.le_of_not_lt hlt) HYM.out)
      have hmi : ¬ (m : Int) < (P.length : Int) := by omega
      have HQE0 := Lib.hid (HQC.out _ _ HYE.out)
      have hzq := Nat.lt_of_lt_of_le hz3 hbw.size
      clear hbw hbr
      go_wp2_with fail
      go_loopw [16] (fun iv wr => ∃ i : Nat, i ≤ j.blanks.length ∧ iv = .int .i64 i ∧ Hid (∀ t (h : t < cs.length) (h' : t < j.blanks.length), t < i → ¬ cs[t] < j.blanks[t].count) ∧ Below wq.heap.size wq wr) (fun iv _ => j.blanks.length - (intOf iv).toNat)
      case atStart => exact ⟨0, Nat.zero_le _, rfl, Lib.hid (fun t _ _ h => by omega), Below.refl _ _⟩
      case round =>
       obtain ⟨i, hi, rfl, HLO, hbr⟩ := hrel
       have HB5 := Lib.hid hbr
       have HZR5 := Lib.hid (HZR.out.keep hbr)
       have HBE5 := Lib.hid (HBE.out.trans (hbr.mono HBE.out.size))
       have k1 := (HCR.out.keep hbr hzq).b
       have HO5 := Lib.hid (own_keep HO.out hbr)
       clear hbr
       by_cases hlt : i < j.blanks.length
       ·have hii : (i : Int) < (j.blanks.length : Int) := by omega
        have v3 : IntKind.i64.wrap ((i : Int) + 1) = (i : Int) + 1 := IntWalk.i64_in _ (by omega)
        have hic : i < cs.length := by rw [HCS.out]; exact hlt
        have q0 := (own_int_cell HO5.out hic).1
        obtain ⟨gl, offl, hal, -, -, -, -, -, e5⟩ := blank_row (HBV.out.keep HBE5.out) hlt
        rw [hal] at k1
        by_cases hlo : cs[i] < j.blanks[i].count
        ·have HQE := Lib.hid (show q = (zeroPl, 16) by rw [HQE0.out, count_low (lowB_yes hic hlt hlo)])
         generalize cs[i] = ci at *
         generalize j.blanks[i].count = cn at *
         clear hal
         go_upto_region 30 with fail
         go_quiet (fail)
         rename_i nq
         have HZR := Lib.hid (HZR5.out.keep (below_drewN (Below.refl _ _) nq))
         have HBE := Lib.hid (below_drewN HBE5.out nq)
         generalize wr.drewN nq = W6 at *
         clear q0 e5 k1
         obtain ⟨z0, z1, z2, z3, z4, z5, f0, f1, f2, f3, f4, f5⟩ := HZR.out
         go_wp2_with fail
         first | exact bodyPost_ret (v := .tuple #[.agg #[.int .i64 0, .int .i64 0, .int .i64 0, .int .i64 0, .int .i64 0, .int .i64 0], .int .i64 6]) (by simp [results, Tryz.results10, go_sem, *]) rfl (PlanPost2.zero HQE.out (below_six HBE.out HG4.out)) | exact bodyPost_ret (v := .tuple #[.agg #[.int .i64 0, .int .i64 0, .int .i64 0, .int .i64 0, .int .i64 0, .int .i64 0], .int .i64 5]) (by simp [results, Tryz.results10, go_sem, *]) rfl (PlanPost2.zero HQE.out (below_six HBE.out HG4.out)) | exact bodyPost_ret (v := .tuple #[.agg #[.int .i64 0, .int .i64 0, .int .i64 0, .int .i64 0, .int .i64 0, .int .i64 0], .int .i64 16]) (by simp [results, Tryz.results10, go_sem, *]) rfl (PlanPost2.zero HQE.out (below_six HBE.out HG4.out)) | exact bodyPost_ret (v := .tuple #[.agg #[.int .i64 0, .int .i64 0, .int .i64 0, .int .i64 0, .int .i64 0, .int .i64 0], .int .i64 15]) (by simp [results, Tryz.results10, go_sem, *]) rfl (PlanPost2.zero HQE.out (below_six HBE.out HG4.out)) | exact bodyPost_ret (v := .tuple #[.agg #[.int .i64 0, .int .i64 0, .int .i64 0, .int .i64 0, .int .i64 0, .int .i64 0], .int .i64 0]) (by simp [results, Tryz.results10, go_sem, *]) rfl (PlanPost2.zero HQE.out (below_six HBE.out HG4.out)) | exact bodyPost_ret (v := .tuple #[.agg #[.int .i64 0, .int .i64 0, .int .i64 0, .int .i64 0, .int .i64 0, .int .i64 0], .int .i64 re]) (by simp [results, Tryz.results10, go_sem, *]) rfl (PlanPost2.zero HQE.out (below_six HBE.out HG4.out))
        ·have HLO2 := Lib.hid (show ∀ t (h : t < cs.length) (h' : t < j.blanks.length), t < i + 1 → ¬ cs[t] < j.blanks[t].count from fun t h h' ht => by
           by_cases e : t = i
           ·subst e; exact hlo
           ·exact HLO.out t h h' (by omega))
         generalize cs[i] = ci at *
         generalize j.blanks[i].count = cn at *
         clear hal
         go_upto_region 30 with fail
         go_quiet (fail)
         rename_i nq
         have HB6 := Lib.hid (below_drewN HB5.out nq)
         generalize wr.drewN nq = W6 at *
         clear q0 e5 k1
         go_wp2_with fail
         go_roundw
         case rel => exact ⟨i + 1, by omega, by go_num, HLO2, HB6.out⟩
         case measure => first | (simp [intOf]; done) | (simp [intOf]; omega)
       ·obtain rfl : i = j.blanks.length := by omega
        have hii : ¬ ((j.blanks.length : Nat) : Int) < ((j.blanks.length : Nat) : Int) := by omega
        have HLW := Lib.hid (lowB_no (fun t h h' => HLO.out t h h' h'))
        have HO := HO5
        have HZR := HZR5
        have HBE := HBE5
        have HCR := Lib.hid (HCR.out.keep HB5.out hzq)
        have hzq := Nat.lt_of_lt_of_le hzq HB5.out.size
        obtain ⟨wp, rfl⟩ : ∃ wp : World, wp = wr := ⟨_, rfl⟩
        clear HLO HB5 HZR5 HBE5 HO5 k1
        go_wp2_with fail
        go_loopw [17] (fun iv wr => ∃ i : Nat, i ≤ j.blanks.length ∧ iv = .int .i64 i ∧ Hid (∀ t (h : t < cs.length) (h' : t < j.blanks.length), t < i → ¬ cs[t] > j.blanks[t].count) ∧ Below wp.heap.size wp wr) (fun iv _ => j.blanks.length - (intOf iv).toNat)
        case atStart => exact ⟨0, Nat.zero_le _, rfl, Lib.hid (fun t _ _ h => by omega), Below.refl _ _⟩
        case round =>
         obtain ⟨i, hi, rfl, HLO, hbr⟩ := hrel
         have HB5 := Lib.hid hbr
         have HZR5 := Lib.hid (HZR.out.keep hbr)
         have HBE5 := Lib.hid (HBE.out.trans (hbr.mono HBE.out.size))
         have k1 := (HCR.out.keep hbr hzq).b
         have HO5 := Lib.hid (own_keep HO.out hbr)
         clear hbr
         by_cases hlt : i < j.blanks.length
         ·have hii : (i : Int) < (j.blanks.length : Int) := by omega
          have v3 : IntKind.i64.wrap ((i : Int) + 1) = (i : Int) + 1 := IntWalk.i64_in _ (by omega)
          have hic : i < cs.length := by rw [HCS.out]; exact hlt
          have q0 := (own_int_cell HO5.out hic).1
          obtain ⟨gl, offl, hal, -, -, -, -, -, e5⟩ := blank_row (HBV.out.keep HBE5.out) hlt
          rw [hal] at k1
          by_cases hlo : cs[i] > j.blanks[i].count
          ·have HQE := Lib.hid (show q = (zeroPl, 15) by rw [HQE0.out, count_high HLW.out (highB_yes hic hlt hlo)])
           generalize cs[i] = ci at *
           generalize j.blanks[i].count = cn at *
           clear hal
           go_upto_region 35 with fail
           go_quiet (fail)
           rename_i nq
           have HZR := Lib.hid (HZR5.out.keep (below_drewN (Below.refl _ _) nq))
           have HBE := Lib.hid (below_drewN HBE5.out nq)
           generalize wr.drewN nq = W6 at *
           clear q0 e5 k1
           obtain ⟨z0, z1, z2, z3, z4, z5, f0, f1, f2, f3, f4, f5⟩ := HZR.out
           go_wp2_with fail
           first | exact bodyPost_ret (v := .tuple #[.agg #[.int .i64 0, .int .i64 0, .int .i64 0, .int .i64 0, .int .i64 0, .int .i64 0], .int .i64 6]) (by simp [results, Tryz.results10, go_sem, *]) rfl (PlanPost2.zero HQE.out (below_six HBE.out HG4.out)) | exact bodyPost_ret (v := .tuple #[.agg #[.int .i64 0, .int .i64 0, .int .i64 0, .int .i64 0, .int .i64 0, .int .i64 0], .int .i64 5]) (by simp [results, Tryz.results10, go_sem, *]) rfl (PlanPost2.zero HQE.out (below_six HBE.out HG4.out)) | exact bodyPost_ret (v := .tuple #[.agg #[.int .i64 0, .int .i64 0, .int .i64 0, .int .i64 0, .int .i64 0, .int .i64 0], .int .i64 16]) (by simp [results, Tryz.results10, go_sem, *]) rfl (PlanPost2.zero HQE.out (below_six HBE.out HG4.out)) | exact bodyPost_ret (v := .tuple #[.agg #[.int .i64 0, .int .i64 0, .int .i64 0, .int .i64 0, .int .i64 0, .int .i64 0], .int .i64 15]) (by simp [results, Tryz.results10, go_sem, *]) rfl (PlanPost2.zero HQE.out (below_six HBE.out HG4.out)) | exact bodyPost_ret (v := .tuple #[.agg #[.int .i64 0, .int .i64 0, .int .i64 0, .int .i64 0, .int .i64 0, .int .i64 0], .int .i64 0]) (by simp [results, Tryz.results10, go_sem, *]) rfl (PlanPost2.zero HQE.out (below_six HBE.out HG4.out)) | exact bodyPost_ret (v := .tuple #[.agg #[.int .i64 0, .int .i64 0, .int .i64 0, .int .i64 0, .int .i64 0, .int .i64 0], .int .i64 re]) (by simp [results, Tryz.results10, go_sem, *]) rfl (PlanPost2.zero HQE.out (below_six HBE.out HG4.out))
          ·have HLO2 := Lib.hid (show ∀ t (h : t < cs.length) (h' : t < j.blanks.length), t < i + 1 → ¬ cs[t] > j.blanks[t].count from fun t h h' ht => by
             by_cases e : t = i
             ·subst e; exact hlo
             ·exact HLO.out t h h' (by omega))
           generalize cs[i] = ci at *
           generalize j.blanks[i].count = cn at *
           clear hal
           go_upto_region 35 with fail
           go_quiet (fail)
           rename_i nq
           have HB6 := Lib.hid (below_drewN HB5.out nq)
           generalize wr.drewN nq = W6 at *
           clear q0 e5 k1
           go_wp2_with fail
           go_roundw
           case rel => exact ⟨i + 1, by omega, by go_num, HLO2, HB6.out⟩
           case measure => first | (simp [intOf]; done) | (simp [intOf]; omega)
         ·obtain rfl : i = j.blanks.length := by omega
          have hii : ¬ ((j.blanks.length : Nat) : Int) < ((j.blanks.length : Nat) : Int) := by omega
          have HHI := Lib.hid (highB_no (fun t h h' => HLO.out t h h' h'))
          have HQE := Lib.hid (show q = (zeroPl, 0) by rw [HQE0.out, count_ok HLW.out HHI.out])
          have HZR := HZR5
          have HBE := HBE5
          clear k1
          obtain ⟨z0, z1, z2, z3, z4, z5, f0, f1, f2, f3, f4, f5⟩ := HZR.out
          go_wp2_with fail
          first | exact bodyPost_ret (v := .tuple #[.agg #[.int .i64 0, .int .i64 0, .int .i64 0, .int .i64 0, .int .i64 0, .int .i64 0], .int .i64 6]) (by simp [results, Tryz.results10, go_sem, *]) rfl (PlanPost2.zero HQE.out (below_six HBE.out HG4.out)) | exact bodyPost_ret (v := .tuple #[.agg #[.int .i64 0, .int .i64 0, .int .i64 0, .int .i64 0, .int .i64 0, .int .i64 0], .int .i64 5]) (by simp [results, Tryz.results10, go_sem, *]) rfl (PlanPost2.zero HQE.out (below_six HBE.out HG4.out)) | exact bodyPost_ret (v := .tuple #[.agg #[.int .i64 0, .int .i64 0, .int .i64 0, .int .i64 0, .int .i64 0, .int .i64 0], .int .i64 16]) (by simp [results, Tryz.results10, go_sem, *]) rfl (PlanPost2.zero HQE.out (below_six HBE.out HG4.out)) | exact bodyPost_ret (v := .tuple #[.agg #[.int .i64 0, .int .i64 0, .int .i64 0, .int .i64 0, .int .i64 0, .int .i64 0], .int .i64 15]) (by simp [results, Tryz.results10, go_sem, *]) rfl (PlanPost2.zero HQE.out (below_six HBE.out HG4.out)) | exact bodyPost_ret (v := .tuple #[.agg #[.int .i64 0, .int .i64 0, .int .i64 0, .int .i64 0, .int .i64 0, .int .i64 0], .int .i64 0]) (by simp [results, Tryz.results10, go_sem, *]) rfl (PlanPost2.zero HQE.out (below_six HBE.out HG4.out)) | exact bodyPost_ret (v := .tuple #[.agg #[.int .i64 0, .int .i64 0, .int .i64 0, .int .i64 0, .int .i64 0, .int .i64 0], .int .i64 re]) (by simp [results, Tryz.results10, go_sem, *]) rfl (PlanPost2.zero HQE.out (below_six HBE.out HG4.out))
 ·have hne := bne_t5 hej
  have HQ := Lib.hid (show q = (zeroPl, EJ) by rw [← HQ0.out]; unfold planE2; rw [HEJ.out, if_pos hej])
  obtain ⟨z0, z1, z2, z3, z4, z5, f0, f1, f2, f3, f4, f5⟩ := HZ.out
  go_wp2_with fail
  refine bodyPost_ret (v := .tuple #[.agg #[.int .i64 0, .int .i64 0, .int .i64 0, .int .i64 0, .int .i64 0, .int .i64 0], .int .i64 EJ]) (by simp [results, Tryz.results10, go_sem, *]) rfl ?_
  exact PlanPost2.zero HQ.out (below_six HBV1.out HG4.out)
end Go.Proofs.YtjmgboipbhddlaaGreatDoor
