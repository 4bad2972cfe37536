/- Whether two rectangles overlap, and the widest sound rectangle as the program looks for it (the plain functions). -/
import Derived.Test.YthhchnhidhgccaaLines
import Derived.Test.YthhchnhidhgccaaGrew
set_option linter.unusedVariables false
set_option linter.unusedSimpArgs false
namespace Go.Proofs.Ythhchnhidhgccaa
open Go Go.RowKit

def overlapB (r s : Rect) : Bool := decide (max r.x1 s.x1 < min r.x2 s.x2 ∧ max r.y1 s.y1 < min r.y2 s.y2)
set_option maxHeartbeats 2000000 in
theorem overlap_any (r s : Rect) (w : World) : Calls Try.prog 113 #[.agg #[.int .i64 r.x1, .int .i64 r.y1, .int .i64 r.x2, .int .i64 r.y2], .agg #[.int .i64 s.x1, .int .i64 s.y1, .int .i64 s.x2, .int .i64 s.y2]] w fun e w' => e = .returned (.bool (overlapB r s)) ∧ Below w.heap.size w w' := by
  unfold overlapB
  go_enter Try.func113, Try.ntmps113
  go_wp2
  all_goals (go_ret; exact ⟨ret_bool (by go_tidy; rw [Bool.eq_iff_iff]; simp <;> omega), ((Below.refl _ _).alloc (Nat.le_refl _) _).alloc (by simp) _⟩)

def fY (x xl y : Int) (y2 : Int) (d : Rect) : Int := if overlapB d ⟨x, y, xl, y2⟩ = true then max d.y1 y else y2
def stepY (ds : List Rect) (wd len x : Int) (s : Rect × Bool) (y : Int) : Rect × Bool :=
  if y < ds.foldl (fY x (x + len) y) wd ∧ (s.2 = false ∨ s.1.y2 - s.1.y1 < ds.foldl (fY x (x + len) y) wd - y) then (⟨x, y, x + len, ds.foldl (fY x (x + len) y) wd⟩, true) else s
def widGo (ds : List Rect) (l wd len : Int) (ys : List Int) : List Int → Rect × Bool → Rect × Bool
  | [], s => s
  | x :: xs, s => if l < x + len then s else widGo ds l wd len ys xs (ys.foldl (stepY ds wd len x) s)
def widXs (b : Board) : List Int := 0 :: b.defects.map (·.x2)
def widYs (b : Board) : List Int := 0 :: b.defects.map (·.y2)
def widS (b : Board) (len : Int) : Rect × Bool := widGo b.defects b.length b.width len (uniq (widYs b)) (uniq (widXs b)) (⟨0, 0, 0, 0⟩, false)

theorem lines_n (base g cap n : Nat) (zs : List Int) (w : World) (hn : n = zs.length) (hown : w.ownsRow base 3 1 (.slice (some ⟨g, 0, none⟩) n cap) n (zs.map (Value.int .i64))) (hl : n < 1000000) :
    Calls Try.prog 112 #[.slice (some ⟨g, 0, none⟩) n cap] w fun e w' => e = .returned (.slice (some ⟨g, 0, none⟩) (uniq zs).length cap) ∧
      w'.ownsRow base 3 1 (.slice (some ⟨g, 0, none⟩) n cap) n ((uniq zs ++ List.replicate (n - (uniq zs).length) 0).map (Value.int .i64)) ∧ w.grownBy w' (some g) := by
  subst hn; exact lines_any base g cap zs w hown hl
/-- The first cells of a row of the call's own, as numbers. -/
theorem own_ints {w : World} {base e g n cap : Nat} {l r : List Int} (h : w.ownsRow base e 1 (.slice (some ⟨g, 0, none⟩) n cap) n ((l ++ r).map (Value.int .i64))) : IntsV w (some ⟨g, 0, none⟩) l := by
  refine fun _ => ⟨g, 0, rfl, fun k x hk => ?_⟩
  have := h.cells (g := g) rfl k (.int .i64 x) (by rw [List.getElem?_map, List.getElem?_append_left (List.getElem?_eq_some_iff.1 hk).1, hk]; rfl)
  have e1 : (⟨g, 0, none⟩ : Addr).add k = ⟨g, 0 + k, none⟩ := by unfold Addr.add; split <;> simp_all
  rw [e1] at this; exact this
theorem IntsV.grown {w w' : World} {g : Nat} {l : List Int} {row : Option Nat} (h : IntsV w (some ⟨g, 0, none⟩) l) (hg : w.grownBy w' row) (hne : some g ≠ row) : IntsV w' (some ⟨g, 0, none⟩) l := by
  intro hl
  obtain ⟨b, off, ha, hx⟩ := h hl
  injection ha with ha
  injection ha with hb ho
  subst hb ho
  exact ⟨g, 0, rfl, fun k x hk => hg.cell (hx k x hk) hne⟩

/-- A rectangle in a block of the call's own. -/
def RectBlk (w : World) (g : Nat) (r : Rect) : Prop := w.heap[g]? = some (.cells #[.int .i64 r.x1, .int .i64 r.y1, .int .i64 r.x2, .int .i64 r.y2] 55 (0, 0))
theorem RectBlk.lt {w : World} {g : Nat} {r : Rect} (h : RectBlk w g r) : g < w.heap.size := (Array.getElem?_eq_some_iff.1 h).1
theorem RectBlk.cells {w : World} {g : Nat} {r : Rect} (h : RectBlk w g r) : w.cell? ⟨g, 0, none⟩ = some (.int .i64 r.x1) ∧ w.cell? ⟨g, 1, none⟩ = some (.int .i64 r.y1) ∧ w.cell? ⟨g, 2, none⟩ = some (.int .i64 r.x2) ∧ w.cell? ⟨g, 3, none⟩ = some (.int .i64 r.y2) :=
  ⟨cell_of_row w g 0 _ _ _ h, cell_of_row w g 1 _ _ _ h, cell_of_row w g 2 _ _ _ h, cell_of_row w g 3 _ _ _ h⟩
theorem RectBlk.frozen {w : World} {g : Nat} {r : Rect} (h : RectBlk w g r) (j : Nat) : w.frozen? ⟨g, j, none⟩ = false := frozen_of_row w g j _ _ h
theorem RectBlk.keep {w w' : World} {g : Nat} {r : Rect} (hb : Below w.heap.size w w') (h : RectBlk w g r) : RectBlk w' g r := (hb.block g h.lt).trans h
theorem RectBlk.grown {w w' : World} {g : Nat} {r : Rect} {row : Option Nat} (h : RectBlk w g r) (hg : w.grownBy w' row) (hne : some g ≠ row) : RectBlk w' g r := (hg.block g h.lt hne).trans h
theorem RectBlk.far {w : World} {g : Nat} {r : Rect} (h : RectBlk w g r) {p : Addr} (hp : g ≠ p.block) (u : Value) : RectBlk (w.setCell p u) g r := (heap_setCell_other w p g u hp).trans h
theorem RectBlk.new (w : World) (r : Rect) : RectBlk (w.alloc (.cells #[.int .i64 r.x1, .int .i64 r.y1, .int .i64 r.x2, .int .i64 r.y2] 55)) w.heap.size r := heap_alloc_new w _
theorem RectBlk.alloc {w : World} {g : Nat} {r : Rect} (h : RectBlk w g r) (o : Obj) : RectBlk (w.alloc o) g r := (Below.heap_alloc w o g h.lt).trans h
theorem RectBlk.set3 {w : World} {g : Nat} {r : Rect} (h : RectBlk w g r) (v : Int) : RectBlk (w.setCell ⟨g, 3, none⟩ (.int .i64 v)) g ⟨r.x1, r.y1, r.x2, v⟩ := by
  unfold RectBlk at *
  rw [heap_setCell_same w g 3 _ _ _ h]; rfl
theorem RectBlk.setAll {w : World} {g : Nat} {r : Rect} (h : RectBlk w g r) (s : Rect) :
    RectBlk ((((w.setCell ⟨g, 0, none⟩ (.int .i64 s.x1)).setCell ⟨g, 1, none⟩ (.int .i64 s.y1)).setCell ⟨g, 2, none⟩ (.int .i64 s.x2)).setCell ⟨g, 3, none⟩ (.int .i64 s.y2)) g s := by
  unfold RectBlk at *
  have h1 := heap_setCell_same w g 0 _ _ (.int .i64 s.x1) h
  have h2 := heap_setCell_same _ g 1 _ _ (.int .i64 s.y1) h1
  have h3 := heap_setCell_same _ g 2 _ _ (.int .i64 s.x2) h2
  have h4 := heap_setCell_same _ g 3 _ _ (.int .i64 s.y2) h3
  rw [h4]; rfl
end Go.Proofs.Ythhchnhidhgccaa
