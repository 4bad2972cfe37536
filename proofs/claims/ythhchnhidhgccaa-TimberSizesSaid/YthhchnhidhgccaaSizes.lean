/- What the program's Sizes returns. -/
import Derived.Test.YthhchnhidhgccaaRates
import Derived.Test.YthhchnhidhgccaaAwake2
set_option linter.unusedVariables false
set_option linter.unusedSimpArgs false
namespace Go.Proofs.Ythhchnhidhgccaa
open Go Go.RowKit

/-- Three intervals in a block of the call's own. -/
def Six (w : World) (g : Nat) (a b c d e f : Int) : Prop := w.heap[g]? = some (.cells #[.int .i64 a, .int .i64 b, .int .i64 c, .int .i64 d, .int .i64 e, .int .i64 f] 84 (0, 0))
section
variable {w w' : World} {g : Nat} {a b c d e f : Int}
theorem Six.lt (h : Six w g a b c d e f) : g < w.heap.size := (Array.getElem?_eq_some_iff.1 h).1
theorem Six.cells (h : Six w g a b c d e f) : w.cell? ⟨g, 0, none⟩ = some (.int .i64 a) ∧ w.cell? ⟨g, 1, none⟩ = some (.int .i64 b) ∧ w.cell? ⟨g, 2, none⟩ = some (.int .i64 c) ∧ w.cell? ⟨g, 3, none⟩ = some (.int .i64 d) ∧ w.cell? ⟨g, 4, none⟩ = some (.int .i64 e) ∧ w.cell? ⟨g, 5, none⟩ = some (.int .i64 f) :=
  ⟨cell_of_row w g 0 _ _ _ h, cell_of_row w g 1 _ _ _ h, cell_of_row w g 2 _ _ _ h, cell_of_row w g 3 _ _ _ h, cell_of_row w g 4 _ _ _ h, cell_of_row w g 5 _ _ _ h⟩
theorem Six.frozen (h : Six w g a b c d e f) (j : Nat) : w.frozen? ⟨g, j, none⟩ = false := frozen_of_row w g j _ _ h
theorem Six.keep (hb : Below w.heap.size w w') (h : Six w g a b c d e f) : Six w' g a b c d e f := (hb.block g h.lt).trans h
theorem Six.far (h : Six w g a b c d e f) {p : Addr} (hp : g ≠ p.block) (u : Value) : Six (w.setCell p u) g a b c d e f := (heap_setCell_other w p g u hp).trans h
theorem Six.new (w : World) : Six (w.alloc (.cells #[.int .i64 0, .int .i64 0, .int .i64 0, .int .i64 0, .int .i64 0, .int .i64 0] 84)) w.heap.size 0 0 0 0 0 0 := heap_alloc_new w _
theorem Six.alloc (h : Six w g a b c d e f) (o : Obj) : Six (w.alloc o) g a b c d e f := (Below.heap_alloc w o g h.lt).trans h
theorem Six.set0 (h : Six w g a b c d e f) (x y : Int) : Six ((w.setCell ⟨g, 0, none⟩ (.int .i64 x)).setCell ⟨g, 1, none⟩ (.int .i64 y)) g x y c d e f := by
  unfold Six at *
  have h1 := heap_setCell_same w g 0 _ _ (.int .i64 x) h
  have h2 := heap_setCell_same _ g 1 _ _ (.int .i64 y) h1
  rw [h2]; rfl
theorem Six.set1 (h : Six w g a b c d e f) (x y : Int) : Six ((w.setCell ⟨g, 2, none⟩ (.int .i64 x)).setCell ⟨g, 3, none⟩ (.int .i64 y)) g a b x y e f := by
  unfold Six at *
  have h1 := heap_setCell_same w g 2 _ _ (.int .i64 x) h
  have h2 := heap_setCell_same _ g 3 _ _ (.int .i64 y) h1
  rw [h2]; rfl
theorem Six.set2 (h : Six w g a b c d e f) (x y : Int) : Six ((w.setCell ⟨g, 4, none⟩ (.int .i64 x)).setCell ⟨g, 5, none⟩ (.int .i64 y)) g a b c d x y := by
  unfold Six at *
  have h1 := heap_setCell_same w g 4 _ _ (.int .i64 x) h
  have h2 := heap_setCell_same _ g 5 _ _ (.int .i64 y) h1
  rw [h2]; rfl
theorem Six.setAll (h : Six w g a b c d e f) (p q r s t u : Int) : Six ((((((w.setCell ⟨g, 0, none⟩ (.int .i64 p)).setCell ⟨g, 1, none⟩ (.int .i64 q)).setCell ⟨g, 2, none⟩ (.int .i64 r)).setCell ⟨g, 3, none⟩ (.int .i64 s)).setCell ⟨g, 4, none⟩ (.int .i64 t)).setCell ⟨g, 5, none⟩ (.int .i64 u)) g p q r s t u :=
  ((h.set0 p q).set1 r s).set2 t u
end
def sizesE (l : List Species) (b : Board) (m : Int) : Int := if checkBoardE l b ≠ 0 then checkBoardE l b else if withinB m 0 400 = false then 2 else 0
/-- The millionths of a board's size along an axis. -/
def sizeN (s : Species) (b : Board) (m : Int) (axis : Int) : Int := moved (if axis = 0 then b.length else if axis = 1 then b.width else b.thick) (rateOf s b.cut axis) b.moisture m
theorem rateOf_bd {s : Species} (h : SpeciesOk s) (cut axis : Int) : 0 ≤ rateOf s cut axis ∧ rateOf s cut axis ≤ 2000 := by
  unfold rateOf
  have h1 := h.along
  have h2 := h.across
  have h3 := h.radial
  split
  · exact h1
  · split
    · exact h2
    · exact h3


set_option maxRecDepth 100000 in
set_option maxHeartbeats 4000000 in
theorem timberSizes_err (la : Option Addr) (l : List Species) (lc : Nat) (b : Board) (ba : Option Addr) (bc : Nat) (m : Int) (w : World) (hs : Speciess.V w la l) (hsl : l.length ≤ 9223372036854775807)
    (hv : Rects.V w ba b.defects) (hl : b.defects.length ≤ 9223372036854775807) (hw : b.wf) (hE : sizesE l b m ≠ 0) :
    Calls Try.prog 49 #[.slice la l.length lc, .agg #[.string b.name, .string b.species, .int .i64 b.length, .int .i64 b.width, .int .i64 b.thick, .int .i64 b.cut, .int .i64 b.moisture, .slice ba b.defects.length bc], .int .i64 m] w fun e w' => e = .returned (.tuple #[.agg #[.int .i64 0, .int .i64 0, .int .i64 0, .int .i64 0, .int .i64 0, .int .i64 0], .int .i64 (sizesE l b m)]) ∧ Below w.heap.size w w' := by
  by_cases h0 : checkBoardE l b = 0
  · have HC := Lib.hid h0
    cases h1 : withinB m 0 400
    · have HV := Lib.hid (show sizesE l b m = 2 by simp [sizesE, h0, h1])
      clear h0 hE
      go_enter Try.func49, Try.ntmps49
      go_upto_region 2 with fail
      refine gen_world (fun W => (W.cell? ⟨w.heap.size, 0, none⟩ = some (.string b.name) ∧ W.cell? ⟨w.heap.size, 1, none⟩ = some (.string b.species) ∧ W.cell? ⟨w.heap.size, 2, none⟩ = some (.int .i64 b.length) ∧ W.cell? ⟨w.heap.size, 3, none⟩ = some (.int .i64 b.width) ∧ W.cell? ⟨w.heap.size, 4, none⟩ = some (.int .i64 b.thick) ∧ W.cell? ⟨w.heap.size, 5, none⟩ = some (.int .i64 b.cut) ∧ W.cell? ⟨w.heap.size, 6, none⟩ = some (.int .i64 b.moisture) ∧ W.cell? ⟨w.heap.size, 7, none⟩ = some (.slice ba b.defects.length bc)) ∧ Six W (w.heap.size + 1) 0 0 0 0 0 0 ∧ Six W (w.heap.size + 1 + 1) 0 0 0 0 0 0 ∧ Below w.heap.size w W) ?_ ?_
      · refine ⟨⟨by simp [go_sem], by simp [go_sem], by simp [go_sem], by simp [go_sem], by simp [go_sem], by simp [go_sem], by simp [go_sem], by simp [go_sem]⟩, ?_, ?_, (((Below.refl _ _).alloc (Nat.le_refl _) _).alloc (by simp) _).alloc (by simp; omega) _⟩
        · have h := (Six.new (w.alloc (.cells #[.string b.name, .string b.species, .int .i64 b.length, .int .i64 b.width, .int .i64 b.thick, .int .i64 b.cut, .int .i64 b.moisture, .slice ba b.defects.length bc] 25))).alloc (.cells #[.int .i64 0, .int .i64 0, .int .i64 0, .int .i64 0, .int .i64 0, .int .i64 0] 84)
          simpa using h
        · have h := Six.new ((w.alloc (.cells #[.string b.name, .string b.species, .int .i64 b.length, .int .i64 b.width, .int .i64 b.thick, .int .i64 b.cut, .int .i64 b.moisture, .slice ba b.defects.length bc] 25)).alloc (.cells #[.int .i64 0, .int .i64 0, .int .i64 0, .int .i64 0, .int .i64 0, .int .i64 0] 84))
          simpa using h
      rintro W ⟨⟨e0, e1, e2, e3, e4, e5, e6, e7⟩, hR, hO, hbW⟩
      go_wp2_with (first
        | (go_at_call 43; refine (checkBoardP_any _ l _ b _ _ _ (hs.keep hbW) hsl (hv.keep hbW) hl hw).mono ?_; rw [HC.out]; rintro e w1 ⟨rfl, hb⟩; have f0 := cell_keep hb e0; have f1 := cell_keep hb e1; have f2 := cell_keep hb e2; have f3 := cell_keep hb e3; have f4 := cell_keep hb e4; have f5 := cell_keep hb e5; have f6 := cell_keep hb e6; have f7 := cell_keep hb e7; have hb1 := hbW.trans (hb.mono hbW.size); have R6 := Six.keep hb hR; have O6 := Six.keep hb hO; obtain ⟨q0, q1, q2, q3, q4, q5⟩ := O6.cells; obtain ⟨r0, r1, r2, r3, r4, r5⟩ := R6.cells; have p0 := R6.frozen 0; have p1 := R6.frozen 1; have p2 := R6.frozen 2; have p3 := R6.frozen 3; have p4 := R6.frozen 4; have p5 := R6.frozen 5; have hzR := R6.lt; have hzO := O6.lt)
        | (go_at_call 83; refine (within_any _ _ _ _).mono ?_; rintro e w' ⟨rfl, rfl⟩))
      have hset := R6.setAll 0 0 0 0 0 0
      obtain ⟨g0, g1, g2, g3, g4, g5⟩ := hset.cells
      refine bodyPost_ret (v := .tuple #[.agg #[.int .i64 0, .int .i64 0, .int .i64 0, .int .i64 0, .int .i64 0, .int .i64 0], .int .i64 2]) (by simp [results, Try.results49, go_sem, g0, g1, g2, g3, g4, g5]) rfl ⟨by rw [HV.out], by (repeat (first | assumption | (refine Below.setCell ?_ (by first | omega | (simp; omega) | (simp; done)) _) | (refine Below.alloc ?_ (by first | omega | (simp; omega) | (simp; done)) _)))⟩
    · exact absurd (by simp [sizesE, h0, h1]) hE
  · obtain ⟨E, hE'⟩ : ∃ E, checkBoardE l b = E := ⟨_, rfl⟩
    have HC := Lib.hid hE'
    have HV := Lib.hid (show sizesE l b m = E by unfold sizesE; rw [if_pos h0, hE'])
    rw [hE'] at h0
    have b0 : (E != 0) = true := by simp [h0]
    clear h0 hE' hE
    go_enter Try.func49, Try.ntmps49
    go_upto_region 2 with fail
    refine gen_world (fun W => (W.cell? ⟨w.heap.size, 0, none⟩ = some (.string b.name) ∧ W.cell? ⟨w.heap.size, 1, none⟩ = some (.string b.species) ∧ W.cell? ⟨w.heap.size, 2, none⟩ = some (.int .i64 b.length) ∧ W.cell? ⟨w.heap.size, 3, none⟩ = some (.int .i64 b.width) ∧ W.cell? ⟨w.heap.size, 4, none⟩ = some (.int .i64 b.thick) ∧ W.cell? ⟨w.heap.size, 5, none⟩ = some (.int .i64 b.cut) ∧ W.cell? ⟨w.heap.size, 6, none⟩ = some (.int .i64 b.moisture) ∧ W.cell? ⟨w.heap.size, 7, none⟩ = some (.slice ba b.defects.length bc)) ∧ Six W (w.heap.size + 1) 0 0 0 0 0 0 ∧ Six W (w.heap.size + 1 + 1) 0 0 0 0 0 0 ∧ Below w.heap.size w W) ?_ ?_
    · refine ⟨⟨by simp [go_sem], by simp [go_sem], by simp [go_sem], by simp [go_sem], by simp [go_sem], by simp [go_sem], by simp [go_sem], by simp [go_sem]⟩, ?_, ?_, (((Below.refl _ _).alloc (Nat.le_refl _) _).alloc (by simp) _).alloc (by simp; omega) _⟩
      · have h := (Six.new (w.alloc (.cells #[.string b.name, .string b.species, .int .i64 b.length, .int .i64 b.width, .int .i64 b.thick, .int .i64 b.cut, .int .i64 b.moisture, .slice ba b.defects.length bc] 25))).alloc (.cells #[.int .i64 0, .int .i64 0, .int .i64 0, .int .i64 0, .int .i64 0, .int .i64 0] 84)
        simpa using h
      · have h := Six.new ((w.alloc (.cells #[.string b.name, .string b.species, .int .i64 b.length, .int .i64 b.width, .int .i64 b.thick, .int .i64 b.cut, .int .i64 b.moisture, .slice ba b.defects.length bc] 25)).alloc (.cells #[.int .i64 0, .int .i64 0, .int .i64 0, .int .i64 0, .int .i64 0, .int .i64 0] 84))
        simpa using h
    rintro W ⟨⟨e0, e1, e2, e3, e4, e5, e6, e7⟩, hR, hO, hbW⟩
    go_wp2_with (go_at_call 43; refine (checkBoardP_any _ l _ b _ _ _ (hs.keep hbW) hsl (hv.keep hbW) hl hw).mono ?_; rw [HC.out]; rintro e w1 ⟨rfl, hb⟩; have f0 := cell_keep hb e0; have f1 := cell_keep hb e1; have f2 := cell_keep hb e2; have f3 := cell_keep hb e3; have f4 := cell_keep hb e4; have f5 := cell_keep hb e5; have f6 := cell_keep hb e6; have f7 := cell_keep hb e7; have hb1 := hbW.trans (hb.mono hbW.size); have R6 := Six.keep hb hR; have O6 := Six.keep hb hO; obtain ⟨q0, q1, q2, q3, q4, q5⟩ := O6.cells; obtain ⟨r0, r1, r2, r3, r4, r5⟩ := R6.cells; have p0 := R6.frozen 0; have p1 := R6.frozen 1; have p2 := R6.frozen 2; have p3 := R6.frozen 3; have p4 := R6.frozen 4; have p5 := R6.frozen 5; have hzR := R6.lt; have hzO := O6.lt)
    have hset := R6.setAll 0 0 0 0 0 0
    obtain ⟨g0, g1, g2, g3, g4, g5⟩ := hset.cells
    refine bodyPost_ret (v := .tuple #[.agg #[.int .i64 0, .int .i64 0, .int .i64 0, .int .i64 0, .int .i64 0, .int .i64 0], .int .i64 E]) (by simp [results, Try.results49, go_sem, g0, g1, g2, g3, g4, g5]) rfl ⟨by rw [HV.out], by (repeat (first | assumption | (refine Below.setCell ?_ (by first | omega | (simp; omega) | (simp; done)) _) | (refine Below.alloc ?_ (by first | omega | (simp; omega) | (simp; done)) _)))⟩

end Go.Proofs.Ythhchnhidhgccaa
