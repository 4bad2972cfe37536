/- A plan: the model of its places and of its errors; Places of the reference. -/
import Derived.Test.YtdmoiepafkbefaaGreatPL1
set_option linter.unusedVariables false
set_option linter.unusedSimpArgs false
namespace Go.Proofs.YtdmoiepafkbefaaGreat
open Go Go.RowKit

instance layoutI : Inhabited Layout := ⟨⟨0, []⟩⟩
theorem rectGo_ok (kerf : Int) (hk : 0 ≤ kerf) : ∀ (l : List Cut) (i : Nat) (R : List Rect), (rectGo kerf l i R).2 = 0 → (∀ r ∈ R, okR r) → (rectGo kerf l i R).1.length = R.length ∧ ∀ r ∈ (rectGo kerf l i R).1, okR r
  | [], i, R => fun _ h => ⟨rfl, h⟩
  | c :: l, i, R => fun he h => by
    unfold rectGo at he ⊢
    split
    · rename_i h0
      rw [if_pos h0] at he
      exact rectGo_ok kerf hk l _ R he h
    · rename_i h0
      rw [if_neg h0] at he
      split
      · rename_i h1
        rw [if_pos h1] at he
        simp at he
      · rename_i h1
        rw [if_neg h1] at he
        have hw := withinB_true (by simpa using h1)
        have hq : okR (R.getD i ⟨0, 0, 0, 0⟩) := by
          rw [List.getD_eq_getElem?_getD]
          by_cases hi : i < R.length
          · rw [List.getElem?_eq_getElem hi]; exact h _ (List.getElem_mem hi)
          · rw [List.getElem?_eq_none (by omega)]; exact .inl rfl
        obtain ⟨g1, g2⟩ := rectGo_ok kerf hk l _ _ he (okR_step h hq hw hk)
        exact ⟨by rw [g1, stepR_len], g2⟩
theorem regM_ok {u : Rect} {kerf : Int} {l : List Cut} (hu : okR u) (hk : 0 ≤ kerf) (h : (regM u kerf l).2 = 0) : (regM u kerf l).1.length = l.length ∧ l.length ≤ 400 ∧ ∀ r ∈ (regM u kerf l).1, okR r := by
  unfold regM at h ⊢
  split
  · rename_i h0; rw [if_pos h0] at h; simp at h
  · rename_i h0; rw [if_neg h0] at h
    split
    · rename_i h1; rw [if_pos h1] at h; simp at h
    · rename_i h1; rw [if_neg h1] at h
      split
      · rename_i h2; rw [if_pos h2] at h; exact absurd h h2
      · rename_i h2; rw [if_neg h2] at h
        split
        · rename_i h3; rw [if_pos h3] at h; simp at h
        · rename_i h3; rw [if_neg h3] at h
          have hR : ∀ r ∈ (List.replicate l.length (⟨0, 0, 0, 0⟩ : Rect)).set 0 u, okR r := fun r hr => by
            rcases List.mem_or_eq_of_mem_set hr with hr | rfl
            · rw [(List.mem_replicate.1 hr).2]; exact .inl rfl
            · exact hu
          obtain ⟨g1, g2⟩ := rectGo_ok kerf hk l 0 _ h hR
          exact ⟨by rw [g1]; simp, by omega, g2⟩
theorem okR_near {r : Rect} (h : okR r) : near r := by
  unfold near
  rcases h with rfl | h
  · simp
  · unfold proper at h; omega
theorem job_cut {j : Job} (h : jobE j = 0) {b : Board} (hb : b ∈ j.stock) : cutE b j.trim = 0 := by
  obtain ⟨h1, h2, h3, h4, -⟩ := jobE_parts h
  unfold cutE
  rw [if_neg (by rw [h2 b hb]; simp)]
  exact h4

/-! What a row that grows leaves alone. -/
/-! The places of a plan. -/
def layOf (j : Job) (l : Layout) : List Rect × Int := regM (usableR (j.stock.getD l.board.toNat default) j.trim) j.trim.kerf l.cuts
def isPieceC (c : Cut) : Bool := decide (c.low = 0) && decide (0 ≤ c.blank)
def piecesTo (l : Layout) (R : List Rect) : Nat → List Placed
  | 0 => []
  | k + 1 => piecesTo l R k ++ (if isPieceC (l.cuts.getD k default) = true then [⟨l.board, (l.cuts.getD k default).blank, R.getD k default⟩] else [])
def placesTo (j : Job) (plan : List Layout) : Nat → List Placed
  | 0 => []
  | k + 1 => placesTo j plan k ++ piecesTo (plan.getD k default) (layOf j (plan.getD k default)).1 (plan.getD k default).cuts.length
def placesM (j : Job) (plan : List Layout) : List Placed := placesTo j plan plan.length
theorem piecesTo_yes {l : Layout} {R : List Rect} {k : Nat} (hk : k < l.cuts.length) (hR : k < R.length) (h : l.cuts[k].low = 0) (hb : 0 ≤ l.cuts[k].blank) : piecesTo l R (k + 1) = piecesTo l R k ++ [⟨l.board, l.cuts[k].blank, R[k]⟩] := by
  have e1 : l.cuts.getD k default = l.cuts[k] := by rw [List.getD_eq_getElem?_getD, List.getElem?_eq_getElem hk]; rfl
  have e2 : R.getD k default = R[k] := by rw [List.getD_eq_getElem?_getD, List.getElem?_eq_getElem hR]; rfl
  rw [piecesTo, e1, e2, if_pos (by unfold isPieceC; rw [decide_eq_true h, decide_eq_true hb]; rfl)]
theorem piecesTo_no {l : Layout} {R : List Rect} {k : Nat} (hk : k < l.cuts.length) (h : ¬ (l.cuts[k].low = 0 ∧ 0 ≤ l.cuts[k].blank)) : piecesTo l R (k + 1) = piecesTo l R k := by
  have e1 : l.cuts.getD k default = l.cuts[k] := by rw [List.getD_eq_getElem?_getD, List.getElem?_eq_getElem hk]; rfl
  rw [piecesTo, e1, if_neg (by unfold isPieceC; rw [Bool.and_eq_true, decide_eq_true_eq, decide_eq_true_eq]; exact h), List.append_nil]
theorem piecesTo_len (l : Layout) (R : List Rect) : ∀ k, (piecesTo l R k).length ≤ k
  | 0 => Nat.le_refl _
  | k + 1 => by
    have := piecesTo_len l R k
    rw [piecesTo, List.length_append]
    split <;> simp <;> omega
theorem placesTo_step {j : Job} {plan : List Layout} {k : Nat} (hk : k < plan.length) : placesTo j plan (k + 1) = placesTo j plan k ++ piecesTo plan[k] (layOf j plan[k]).1 plan[k].cuts.length := by
  have e1 : plan.getD k default = plan[k] := by rw [List.getD_eq_getElem?_getD, List.getElem?_eq_getElem hk]; rfl
  rw [placesTo, e1]
/-- The layouts of a plan are right. -/
def PlanOk (j : Job) (plan : List Layout) : Prop := ∀ l ∈ plan, (0 ≤ l.board ∧ l.board < j.stock.length) ∧ (layOf j l).2 = 0
theorem lay_okR {j : Job} (h : jobE j = 0) {l : Layout} (hb : 0 ≤ l.board ∧ l.board < j.stock.length) (hl : (layOf j l).2 = 0) : (layOf j l).1.length = l.cuts.length ∧ l.cuts.length ≤ 400 ∧ ∀ r ∈ (layOf j l).1, okR r := by
  have hlt : l.board.toNat < j.stock.length := by omega
  have hm : j.stock.getD l.board.toNat default ∈ j.stock := by rw [List.getD_eq_getElem?_getD, List.getElem?_eq_getElem hlt]; exact List.getElem_mem hlt
  obtain ⟨g1, g2⟩ := cut_bounds (job_cut h hm)
  have g3 := (jobOk_of h).trim
  exact regM_ok (okR_whole (by simp only; omega)) g3.1.1 hl
theorem placesTo_len {j : Job} (hE : jobE j = 0) {plan : List Layout} (h : PlanOk j plan) : ∀ k, k ≤ plan.length → (placesTo j plan k).length ≤ k * 400
  | 0, _ => Nat.le_refl _
  | k + 1, hk => by
    have h1 := placesTo_len hE h k (by omega)
    have h2 := piecesTo_len plan[k] (layOf j plan[k]).1 plan[k].cuts.length
    have h3 := (lay_okR hE (h _ (List.getElem_mem hk)).1 (h _ (List.getElem_mem hk)).2).2.1
    rw [placesTo_step hk, List.length_append]
    omega

def cellsPl (p : Placed) : List Value := [.int .i64 p.board, .int .i64 p.blank, .int .i64 p.at_.x1, .int .i64 p.at_.y1, .int .i64 p.at_.x2, .int .i64 p.at_.y2]
theorem cellsPl_len (p : Placed) : (cellsPl p).length = 6 := rfl
theorem cellsPl_one (p : Placed) : ∀ u ∈ cellsPl p, u.oneCell' = true := by
  intro u hu
  simp only [cellsPl, List.mem_cons, List.not_mem_nil, or_false] at hu
  rcases hu with rfl | rfl | rfl | rfl | rfl | rfl <;> rfl
def Placed.at (w : World) (b o : Nat) (p : Placed) : Prop := (w.cell? ⟨b, o, none⟩ = some (.int .i64 p.board) ∧ w.cell? ⟨b, o + 1, none⟩ = some (.int .i64 p.blank)) ∧ (w.cell? ⟨b, o + 2, none⟩ = some (.int .i64 p.at_.x1) ∧ w.cell? ⟨b, o + 3, none⟩ = some (.int .i64 p.at_.y1)) ∧ w.cell? ⟨b, o + 4, none⟩ = some (.int .i64 p.at_.x2) ∧ w.cell? ⟨b, o + 5, none⟩ = some (.int .i64 p.at_.y2)
def Placeds.V (w : World) (a : Option Addr) (l : List Placed) : Prop := RowV 6 Placed.at w a l
theorem Placeds.V.keep {w w' : World} {a : Option Addr} {l : List Placed} (h : Placeds.V w a l) (hb : Below w.heap.size w w') : Placeds.V w' a l := RowV.keep (fun _ _ _ h => ⟨⟨cell_keep hb h.1.1, cell_keep hb h.1.2⟩, ⟨cell_keep hb h.2.1.1, cell_keep hb h.2.1.2⟩, cell_keep hb h.2.2.1, cell_keep hb h.2.2.2⟩) h
theorem own_placeds {w : World} {base e n c : Nat} {a : Option Addr} {l : List Placed} (h : w.ownsRow base e 6 (.slice a n c) n (l.flatMap cellsPl)) : Placeds.V w a l :=
  own_rowV cellsPl_len (by decide) (fun b o x _ hx => ⟨⟨hx 0 _ rfl, hx 1 _ rfl⟩, ⟨hx 2 _ rfl, hx 3 _ rfl⟩, hx 4 _ rfl, hx 5 _ rfl⟩) h
theorem placed_info : (Tryz.prog.info? 35).map (fun i => (i.zero, i.size, i.bytes)) = some (some (.agg #[.int .i64 0, .int .i64 0, .int .i64 0, .int .i64 0, .int .i64 0, .int .i64 0]), 6, 48) := by kernel_rfl
end Go.Proofs.YtdmoiepafkbefaaGreat
