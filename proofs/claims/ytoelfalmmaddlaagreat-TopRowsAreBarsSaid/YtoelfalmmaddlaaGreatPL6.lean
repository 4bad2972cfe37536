/- The program's check of a plan: what it lays, and small parts. -/
import Derived.Test.YtoelfalmmaddlaaGreatPL5
set_option linter.unusedVariables false
set_option linter.unusedSimpArgs false
namespace Go.Proofs.YtoelfalmmaddlaaGreat
open Go Go.RowKit Go.Maps

/-! A set of numbers, kept as a map of the call's own. -/
def SeenI (w : World) (bm n : Nat) (xs : List Int) : Prop :=
 ∃ D : DataW Unit, w.ownsMap Tryz.prog 3 (plainElem Tryz.prog 4) bm n D ∧ IsMap D ∧
  ∀ i : Int, (Lit.int .i64 i).wf = true → D.atKey (.int .i64 i) (.lit (.bool false)) = .lit (.bool (decide (i ∈ xs)))
theorem int_keyedI : Keyed Tryz.prog 3 := int_keyed Tryz.underlying3
theorem SeenI.made (w : World) : SeenI (w.alloc (.map #[] 0)) w.heap.size 0 [] :=
 ⟨.map [], World.ownsMap_made _ _ _ _, isMap_empty, fun s _ => rfl⟩
theorem SeenI.below {w w' : World} {bm n : Nat} {xs : List Int} (h : SeenI w bm n xs) (hb : Below w.heap.size w w') : SeenI w' bm n xs := by
 obtain ⟨D, ho, hm, hk⟩ := h
 exact ⟨D, ho.kept (row := none) ⟨hb.os, hb.tape, hb.output, hb.size, fun k hk _ => hb.block k hk⟩ (by simp), hm, hk⟩
theorem SeenI.grown {w w' : World} {bm n : Nat} {xs : List Int} {row : Option Nat} (h : SeenI w bm n xs) (hg : w.grownBy w' row) (hne : some bm ≠ row) : SeenI w' bm n xs := by
 obtain ⟨D, ho, hm, hk⟩ := h
 exact ⟨D, ho.kept hg hne, hm, hk⟩
theorem SeenI.run {w : World} {bm n : Nat} {xs : List Int} (h : SeenI w bm n xs) (i : Int) (hs : (Lit.int .i64 i).wf = true) {q : Bool} (hq : decide (i ∈ xs) = q) :
    (Instr.lookup 118 (.map (some bm)) (.int .i64 i) false).run Tryz.prog w = .ok (.bool q) w := by
 subst hq
 obtain ⟨D, ho, hm, hk⟩ := h
 obtain ⟨v, ps, hr, hv⟩ := ho.lookup int_keyedI Tryz.underlying118 (zero_bool w) (plainElem_bool Tryz.underlying4 false) (keyOf_int_mk Tryz.underlying3 hs)
 rw [hk i hs] at hv
 rw [hr, plainElem_bool_inv Tryz.underlying4 hv]
theorem wpList_seenI {w : World} {ops : Array Oper} {rest : List Oper} {o : Oper} {a : Act} {Q : Exit → Act → World → Prop}
    (hg : o.guard = none) (m x v : Operand) (hop : o.op = Op.mapUpdate 118 m x v) (bm n : Nat) (xs : List Int) (i : Int) (hs : (Lit.int .i64 i).wf = true) (hn : n < 9223372036854775807)
    (hm : a.eval m = .map (some bm)) (hx : a.eval x = .int .i64 i) (hv : a.eval v = .bool true) (h : SeenI w bm n xs)
    (hK : ∀ w', SeenI w' bm (n + 1) (xs ++ [i]) → w.grownBy w' (some bm) → wpList Tryz.prog ops Q rest (a.put o.dst undef) w') :
    wpList Tryz.prog ops Q (o :: rest) a w := by
 obtain ⟨D, ho, him, hk⟩ := h
 refine wpList_mapUpdate_own w hg m x v _ hop _ _ int_keyedI Tryz.underlying118 _ bm n D hm ho hn _ _ (.int .i64 i) hx hv (keyOf_int_mk Tryz.underlying3 hs) (.lit (.bool true)) []
  (plainElem_bool Tryz.underlying4 true) ?_
 intro w' ho' hgr
 refine hK w' ⟨_, ho', him.put _ _, fun t ht => ?_⟩ hgr
 by_cases hti : t = i
 ·subst hti
  rw [atKey_put_same him (by simp [WideAt.IsKeyLit])]
  simp
 ·rw [atKey_put_other (by simpa using hti), hk t ht]
  simp [hti]
theorem wf_board {n : Nat} (h : n ≤ 1000) : (Lit.int .i64 (n : Int)).wf = true := by
 have h1 : IntKind.i64.min = -9223372036854775808 := by decide
 have h2 : IntKind.i64.max = 9223372036854775807 := by decide
 simp only [Lit.wf, Bool.and_eq_true, decide_eq_true_eq, h1, h2]
 omega

/-! A layout that is laid. -/
structure LaidC where
 lay : Layout
 rects : List Rect
 al : Option Addr
 cl : Nat
 ar : Option Addr
 cr : Nat
def cellsLd (x : LaidC) : List Value := [.int .i64 x.lay.board, .slice x.al x.lay.cuts.length x.cl, .slice x.ar x.rects.length x.cr]
theorem cellsLd_len (x : LaidC) : (cellsLd x).length = 3 := rfl
theorem cellsLd_one (x : LaidC) : ∀ u ∈ cellsLd x, u.oneCell' = true := by
 intro u hu
 simp only [cellsLd, List.mem_cons, List.not_mem_nil, or_false] at hu
 rcases hu with rfl | rfl | rfl <;> rfl
def LaidC.at (w : World) (b o : Nat) (x : LaidC) : Prop := w.cell? ⟨b, o, none⟩ = some (.int .i64 x.lay.board) ∧ w.cell? ⟨b, o + 1, none⟩ = some (.slice x.al x.lay.cuts.length x.cl) ∧ w.cell? ⟨b, o + 2, none⟩ = some (.slice x.ar x.rects.length x.cr)
def Laids.V (w : World) (a : Option Addr) (l : List LaidC) : Prop := RowV 3 LaidC.at w a l
theorem Laids.V.keep {w w' : World} {a : Option Addr} {l : List LaidC} (h : Laids.V w a l) (hb : Below w.heap.size w w') : Laids.V w' a l := RowV.keep (fun _ _ _ h => ⟨cell_keep hb h.1, cell_keep hb h.2.1, cell_keep hb h.2.2⟩) h
theorem own_laids {w : World} {base e n c : Nat} {a : Option Addr} {l : List LaidC} (h : w.ownsRow base e 3 (.slice a n c) n (l.flatMap cellsLd)) : Laids.V w a l :=
 own_rowV cellsLd_len (by decide) (fun b o x _ hc => ⟨hc 0 _ rfl, hc 1 _ rfl, hc 2 _ rfl⟩) h
theorem laid_info : (Tryz.prog.info? 81).map (fun i => (i.zero, i.size, i.bytes)) = some (some (.agg #[.int .i64 0, .slice none 0 0, .slice none 0 0]), 3, 56) := by kernel_rfl
theorem Rects.V.far {w w' : World} {a : Option Addr} {l : List Rect} {row : Option Nat} (h : Rects.V w a l) (hg : w.grownBy w' row) (hne : ∀ x, a = some x → row ≠ some x.block) : Rects.V w' a l := fun hl => by
 obtain ⟨b, off, ha, hx⟩ := h hl
 refine ⟨b, off, ha, fun k x hk => ?_⟩
 obtain ⟨c0, c1, c2, c3, hw⟩ := hx k x hk
 have hn : ∀ o, some (⟨b, o, none⟩ : Addr).block ≠ row := fun o e => hne _ ha e.symm
 exact ⟨hg.cell c0 (hn _), hg.cell c1 (hn _), hg.cell c2 (hn _), hg.cell c3 (hn _), hw⟩
/-- Its rectangles, and its cuts, which lay there before. -/
structure LaidOk (j : Job) (w wr : World) (v : Value) (bm : Nat) (x : LaidC) : Prop where
 ok : (layOf j x.lay).2 = 0
 rs : x.rects = (layOf j x.lay).1
 bd : 0 ≤ x.lay.board ∧ x.lay.board < j.stock.length
 cv : Cuts.V w x.al x.lay.cuts
 cc : x.lay.cuts.length ≤ x.cl ∧ x.cl ≤ maxLen
 rv : Rects.V wr x.ar x.rects
 ap : ∀ a, x.ar = some a → a.block < wr.heap.size ∧ v.ownBlock ≠ some a.block ∧ bm < a.block
theorem LaidOk.below {j : Job} {w wr wx : World} {v : Value} {bm : Nat} {x : LaidC} (h : LaidOk j w wr v bm x) (hb : Below wr.heap.size wr wx) : LaidOk j w wx v bm x :=
 ⟨h.ok, h.rs, h.bd, h.cv, h.cc, h.rv.keep hb, fun a ha => ⟨Nat.lt_of_lt_of_le (h.ap a ha).1 hb.size, (h.ap a ha).2⟩⟩
theorem LaidOk.row {j : Job} {w wr wx : World} {v v' : Value} {bm : Nat} {x : LaidC} (h : LaidOk j w wr v bm x) (hg : wr.grownBy wx v.ownBlock) (hv : v'.ownBlock = v.ownBlock ∨ v'.ownBlock = some wr.heap.size) : LaidOk j w wx v' bm x :=
 ⟨h.ok, h.rs, h.bd, h.cv, h.cc, h.rv.far hg fun a ha => (h.ap a ha).2.1, fun a ha => ⟨Nat.lt_of_lt_of_le (h.ap a ha).1 hg.size, by
  rcases hv with e | e
  ·rw [e]; exact (h.ap a ha).2.1
  ·rw [e]; intro e'; have := (h.ap a ha).1; injection e' with e'; omega, (h.ap a ha).2.2⟩⟩
theorem LaidOk.mapped {j : Job} {w wr wx : World} {v : Value} {bm : Nat} {x : LaidC} (h : LaidOk j w wr v bm x) (hg : wr.grownBy wx (some bm)) : LaidOk j w wx v bm x :=
 ⟨h.ok, h.rs, h.bd, h.cv, h.cc, h.rv.far hg fun a ha e => by injection e with e; have := (h.ap a ha).2.2; omega, fun a ha => ⟨Nat.lt_of_lt_of_le (h.ap a ha).1 hg.size, (h.ap a ha).2⟩⟩

/-! The way out. -/
structure OutB (W : World) (g4 g5 g6 : Nat) : Prop where
 x4 : W.cell? ⟨g4, 0, none⟩ = some (.slice none 0 0)
 x6 : W.cell? ⟨g6, 0, none⟩ = some (.int .i64 0)
 c0 : W.cell? ⟨g5, 0, none⟩ = some (.int .i64 0)
 c1 : W.cell? ⟨g5, 1, none⟩ = some (.int .i64 0)
 c2 : W.cell? ⟨g5, 2, none⟩ = some (.int .i64 0)
 c3 : W.cell? ⟨g5, 3, none⟩ = some (.int .i64 0)
 c4 : W.cell? ⟨g5, 4, none⟩ = some (.int .i64 0)
 c5 : W.cell? ⟨g5, 5, none⟩ = some (.int .i64 0)
 y4 : W.frozen? ⟨g4, 0, none⟩ = false
 y6 : W.frozen? ⟨g6, 0, none⟩ = false
 f0 : W.frozen? ⟨g5, 0, none⟩ = false
 f1 : W.frozen? ⟨g5, 1, none⟩ = false
 f2 : W.frozen? ⟨g5, 2, none⟩ = false
 f3 : W.frozen? ⟨g5, 3, none⟩ = false
 f4 : W.frozen? ⟨g5, 4, none⟩ = false
 f5 : W.frozen? ⟨g5, 5, none⟩ = false
theorem OutB.keep {W W' : World} {g4 g5 g6 : Nat} (h : OutB W g4 g5 g6) (hb : Below W.heap.size W W') : OutB W' g4 g5 g6 :=
 have h4 := block_lt_of_cell h.x4
 have h5 := block_lt_of_cell h.c0
 have h6 := block_lt_of_cell h.x6
 ⟨cell_keep hb h.x4, cell_keep hb h.x6, cell_keep hb h.c0, cell_keep hb h.c1, cell_keep hb h.c2, cell_keep hb h.c3, cell_keep hb h.c4, cell_keep hb h.c5, frozen_keep hb h4 h.y4, frozen_keep hb h6 h.y6, frozen_keep hb h5 h.f0, frozen_keep hb h5 h.f1, frozen_keep hb h5 h.f2, frozen_keep hb h5 h.f3, frozen_keep hb h5 h.f4, frozen_keep hb h5 h.f5⟩
structure OutAt (W : World) (g4 g5 g6 : Nat) (v u0 u1 u2 u3 u4 u5 e : Value) : Prop where
 x4 : W.cell? ⟨g4, 0, none⟩ = some v
 x6 : W.cell? ⟨g6, 0, none⟩ = some e
 c0 : W.cell? ⟨g5, 0, none⟩ = some u0
 c1 : W.cell? ⟨g5, 1, none⟩ = some u1
 c2 : W.cell? ⟨g5, 2, none⟩ = some u2
 c3 : W.cell? ⟨g5, 3, none⟩ = some u3
 c4 : W.cell? ⟨g5, 4, none⟩ = some u4
 c5 : W.cell? ⟨g5, 5, none⟩ = some u5
theorem OutAt.keepC {gc : Nat} {W W' : World} {g4 g5 g6 : Nat} {v u0 u1 u2 u3 u4 u5 e : Value} (h : OutAt W g4 g5 g6 v u0 u1 u2 u3 u4 u5 e) (hb : KeepsCells gc W W') (h4 : g4 ≠ gc) (h5 : g5 ≠ gc) (h6 : g6 ≠ gc) : OutAt W' g4 g5 g6 v u0 u1 u2 u3 u4 u5 e :=
 ⟨hb.cell h.x4 h4, hb.cell h.x6 h6, hb.cell h.c0 h5, hb.cell h.c1 h5, hb.cell h.c2 h5, hb.cell h.c3 h5, hb.cell h.c4 h5, hb.cell h.c5 h5⟩
theorem set_some {W : World} {p q : Addr} {u v : Value} (h : W.cell? q = some v) : (W.setCell p u).cell? q = some (if p = q then u else v) := by
 by_cases e : p = q
 ·subst e; rw [if_pos rfl]; exact World.cell?_setCell_same _ _ _ h
 ·rw [if_neg e, World.cell?_setCell_other (h := e)]; exact h
theorem outAt_set {W : World} {g4 g5 g6 : Nat} (h : OutB W g4 g5 g6) (h1 : g4 ≠ g5) (h2 : g4 ≠ g6) (h3 : g5 ≠ g6) (v u0 u1 u2 u3 u4 u5 e : Value) :
    OutAt ((((((((W.setCell ⟨g4, 0, none⟩ v).setCell ⟨g5, 0, none⟩ u0).setCell ⟨g5, 1, none⟩ u1).setCell ⟨g5, 2, none⟩ u2).setCell ⟨g5, 3, none⟩ u3).setCell ⟨g5, 4, none⟩ u4).setCell ⟨g5, 5, none⟩ u5).setCell ⟨g6, 0, none⟩ e) g4 g5 g6 v u0 u1 u2 u3 u4 u5 e := by
 obtain ⟨a1, a2, b0, b1, b2, b3, b4, b5, -⟩ := h
 have k : ∀ {q : Addr} {x : Value}, W.cell? q = some x → ((((((((W.setCell ⟨g4, 0, none⟩ v).setCell ⟨g5, 0, none⟩ u0).setCell ⟨g5, 1, none⟩ u1).setCell ⟨g5, 2, none⟩ u2).setCell ⟨g5, 3, none⟩ u3).setCell ⟨g5, 4, none⟩ u4).setCell ⟨g5, 5, none⟩ u5).setCell ⟨g6, 0, none⟩ e).cell? q = _ := fun hq => set_some (set_some (set_some (set_some (set_some (set_some (set_some (set_some hq)))))))
 refine ⟨(k a1).trans ?_, (k a2).trans ?_, (k b0).trans ?_, (k b1).trans ?_, (k b2).trans ?_, (k b3).trans ?_, (k b4).trans ?_, (k b5).trans ?_⟩ <;> simp [h1, h2, h3, h1.symm, h2.symm, h3.symm]
theorem below_out {n : Nat} {w W : World} {g4 g5 g6 : Nat} {v u0 u1 u2 u3 u4 u5 e : Value} (h : Below n w W) (h4 : n ≤ g4) (h5 : n ≤ g5) (h6 : n ≤ g6) : Below n w ((((((((W.setCell ⟨g4, 0, none⟩ v).setCell ⟨g5, 0, none⟩ u0).setCell ⟨g5, 1, none⟩ u1).setCell ⟨g5, 2, none⟩ u2).setCell ⟨g5, 3, none⟩ u3).setCell ⟨g5, 4, none⟩ u4).setCell ⟨g5, 5, none⟩ u5).setCell ⟨g6, 0, none⟩ e) :=
 (((((((h.setCell h4 _).setCell h5 _).setCell h5 _).setCell h5 _).setCell h5 _).setCell h5 _).setCell h5 _).setCell h6 _
theorem mark_setCell {W : World} {D : Nat} {a : Addr} {v : Value} {ds : Option (List Deferred)} (h : W.heap[D]? = some (.deferred ds)) : (W.setCell a v).heap[D]? = some (.deferred ds) := by
 show (W.heap.modify a.block _)[D]? = _
 rw [Array.getElem?_modify]
 split
 ·rw [h]; rfl
 ·exact h
theorem Marks.set {B : Nat} {ds : List Deferred} {W : World} (h : Marks B ds W) (a : Addr) (v : Value) : Marks B ds (W.setCell a v) := h.keep fun _ _ hl _ => mark_setCell hl
theorem Marks.below {B : Nat} {ds : List Deferred} {W W' : World} (h : Marks B ds W) (hb : Below W.heap.size W W') : Marks B ds W' := h.keep fun D _ hl _ => (hb.block D (Array.getElem?_eq_some_iff.1 hl).1).trans hl
theorem Marks.out {B : Nat} {ds : List Deferred} {W : World} {g4 g5 g6 : Nat} {v u0 u1 u2 u3 u4 u5 e : Value} (h : Marks B ds W) : Marks B ds ((((((((W.setCell ⟨g4, 0, none⟩ v).setCell ⟨g5, 0, none⟩ u0).setCell ⟨g5, 1, none⟩ u1).setCell ⟨g5, 2, none⟩ u2).setCell ⟨g5, 3, none⟩ u3).setCell ⟨g5, 4, none⟩ u4).setCell ⟨g5, 5, none⟩ u5).setCell ⟨g6, 0, none⟩ e) :=
 (((((((h.set _ _).set _ _).set _ _).set _ _).set _ _).set _ _).set _ _).set _ _

def plV (p : Placed) : Value := .agg #[.int .i64 p.board, .int .i64 p.blank, .int .i64 p.at_.x1, .int .i64 p.at_.y1, .int .i64 p.at_.x2, .int .i64 p.at_.y2]
def SixC (W : World) (g : Nat) (u0 u1 u2 u3 u4 u5 : Int) : Prop := (W.cell? ⟨g, 0, none⟩ = some (.int .i64 u0) ∧ W.cell? ⟨g, 1, none⟩ = some (.int .i64 u1)) ∧ (W.cell? ⟨g, 2, none⟩ = some (.int .i64 u2) ∧ W.cell? ⟨g, 3, none⟩ = some (.int .i64 u3)) ∧ W.cell? ⟨g, 4, none⟩ = some (.int .i64 u4) ∧ W.cell? ⟨g, 5, none⟩ = some (.int .i64 u5)
def SixW (g0 g1 : Nat) (u0 u1 u2 u3 u4 u5 : Int) (w W : World) : Prop := SixC W g0 u0 u1 u2 u3 u4 u5 ∧ Below w.heap.size w W
def OutZ (W : World) (g : Nat) : Prop := (W.cell? ⟨g, 0, none⟩ = some (.int .i64 0) ∧ W.cell? ⟨g, 1, none⟩ = some (.int .i64 0) ∧ W.cell? ⟨g, 2, none⟩ = some (.int .i64 0) ∧ W.cell? ⟨g, 3, none⟩ = some (.int .i64 0) ∧ W.cell? ⟨g, 4, none⟩ = some (.int .i64 0) ∧ W.cell? ⟨g, 5, none⟩ = some (.int .i64 0)) ∧ W.frozen? ⟨g, 0, none⟩ = false ∧ W.frozen? ⟨g, 1, none⟩ = false ∧ W.frozen? ⟨g, 2, none⟩ = false ∧ W.frozen? ⟨g, 3, none⟩ = false ∧ W.frozen? ⟨g, 4, none⟩ = false ∧ W.frozen? ⟨g, 5, none⟩ = false
set_option maxRecDepth 100000 in
set_option maxHeartbeats 1000000 in
theorem fail_any (u0 u1 u2 u3 u4 u5 : Int) (E : Int) (w : World) : Calls Tryz.prog 57 #[.agg #[.int .i64 u0, .int .i64 u1, .int .i64 u2, .int .i64 u3, .int .i64 u4, .int .i64 u5], .int .i64 E] w fun e w' => e = .returned (.tuple #[.slice none 0 0, .agg #[.int .i64 u0, .int .i64 u1, .int .i64 u2, .int .i64 u3, .int .i64 u4, .int .i64 u5], .int .i64 E]) ∧ Below w.heap.size w w' := by
 go_enter Tryz.func57, Tryz.ntmps57
 go_upto_region 1 with fail
 refine gen_world (fun W => SixC W w.heap.size u0 u1 u2 u3 u4 u5 ∧ OutZ W (w.heap.size + 1) ∧ Below w.heap.size w W ∧ w.heap.size + 1 < W.heap.size) ⟨⟨⟨by simp [go_sem], by simp [go_sem]⟩, ⟨by simp [go_sem], by simp [go_sem]⟩, by simp [go_sem], by simp [go_sem]⟩, ⟨⟨by simp [go_sem], by simp [go_sem], by simp [go_sem], by simp [go_sem], by simp [go_sem], by simp [go_sem]⟩, by simp [go_sem], by simp [go_sem], by simp [go_sem], by simp [go_sem], by simp [go_sem], by simp [go_sem]⟩, ((Below.refl _ _).alloc (Nat.le_refl _) _).alloc (by simp) _, by simp⟩ ?_
 rintro W ⟨h6, hz, hb, hs⟩
 obtain ⟨g0, hg0⟩ : ∃ g, g = w.heap.size := ⟨_, rfl⟩
 obtain ⟨g1, hg1⟩ : ∃ g, g = w.heap.size + 1 := ⟨_, rfl⟩
 rw [← hg1] at hz
 rw [← hg0] at h6
 rw [← hg1, ← hg0]
 have hne : g0 ≠ g1 := by omega
 have HNE := Lib.hid hne
 have HG1 := Lib.hid (show w.heap.size ≤ g1 by omega)
 have HB := Lib.hid hb
 have hcl : SixW g0 g1 u0 u1 u2 u3 u4 u5 w W := ⟨h6, hb⟩
 clear hg0 hg1 hs hb hne
 have kx : ∀ y : KW (SixW g0 g1 u0 u1 u2 u3 u4 u5 w), SixC y.w g0 u0 u1 u2 u3 u4 u5 := fun y => y.ok.1
 simp only [SixC] at kx
 haveI n1 : Nonempty (KW (SixW g0 g1 u0 u1 u2 u3 u4 u5 w)) := ⟨⟨W, hcl⟩⟩
 refine wp_region_tree (fun w' => ∃ y : KW (SixW g0 g1 u0 u1 u2 u3 u4 u5 w), w' = y.w) 4 (.take 0 (.take 1 (.take 2 (.one 3 .done)))) (by kernel_rfl) (by kernel_rfl) (KW.mk' ⟨h6, hcl.2.drew⟩) ?_
 have hz1 : OutZ W.drew g1 := hz
 have hb1 : Below w.heap.size w W.drew := HB.out.drew
 have h61 : SixC W.drew g0 u0 u1 u2 u3 u4 u5 := h6
 generalize W.drew = w5 at *
 have HZ := Lib.hid hz1
 have HB5 := Lib.hid hb1
 have H6 := Lib.hid h61
 clear hz hz1 h6 h61 hb1 hcl HB
 repeat (refine wpTree_take ?_; simp only [nthOp]; (first | go_big_quiet_step (fail) | quiet_step (fail)); refine wpQuiet_nil ?_)
 refine wpTree_one ?_
 simp only [nthOp]
 obtain ⟨⟨z0, z1, z2, z3, z4, z5⟩, f0, f1, f2, f3, f4, f5⟩ := HZ.out
 go_wp2_with fail
 refine One_mk (KW.mk' ⟨?_, ?_⟩) (wpTree_done ?_)
 ·have hh := HNE.out
  obtain ⟨⟨q0, q1⟩, ⟨q2, q3⟩, q4, q5⟩ := H6.out
  unfold SixC
  simp [go_sem, hh, hh.symm, q0, q1, q2, q3, q4, q5]
 ·exact below_six HB5.out HG1.out
 ·simp only [List.drop_succ_cons, List.drop_zero]
  go_wp2_with fail
  refine NP_mk ?_
  go_wp2_with fail
  refine bodyPost_ret (v := .tuple #[.slice none 0 0, .agg #[.int .i64 u0, .int .i64 u1, .int .i64 u2, .int .i64 u3, .int .i64 u4, .int .i64 u5], .int .i64 E]) (by simp [results, Tryz.results57, go_sem, *]) rfl ?_
  exact ⟨rfl, below_six HB5.out HG1.out⟩

/-- What checked lays. -/
structure LaidR (j : Job) (w' : World) (x : LaidC) : Prop where
 ok : (layOf j x.lay).2 = 0
 rs : x.rects = (layOf j x.lay).1
 bd : 0 ≤ x.lay.board ∧ x.lay.board < j.stock.length
 cv : Cuts.V w' x.al x.lay.cuts
 cc : x.lay.cuts.length ≤ x.cl ∧ x.cl ≤ maxLen
 rv : Rects.V w' x.ar x.rects
def CheckedPost (w : World) (j : Job) (plan : List Layout) (q : Placed × Int) (e : Ending) (w' : World) : Prop :=
 ∃ (av : Option Addr) (n cv : Nat), e = .returned (.tuple #[.slice av n cv, plV q.1, .int .i64 q.2]) ∧ Below w.heap.size w w' ∧ (q.2 ≠ 0 → av = none ∧ n = 0 ∧ cv = 0) ∧
  (q.2 = 0 → n = plan.length ∧ ∃ xs : List LaidC, xs.map LaidC.lay = plan ∧ Laids.V w' av xs ∧ ∀ x ∈ xs, LaidR j w' x)
theorem CheckedPost.bad {w w' : World} {j : Job} {plan : List Layout} {q : Placed × Int} {u0 u1 u2 u3 u4 u5 E : Int} (hq : q = (⟨u0, u1, ⟨u2, u3, u4, u5⟩⟩, E)) (hE : E ≠ 0) (hb : Below w.heap.size w w') :
    CheckedPost w j plan q (.returned (.tuple #[.slice none 0 0, .agg #[.int .i64 u0, .int .i64 u1, .int .i64 u2, .int .i64 u3, .int .i64 u4, .int .i64 u5], .int .i64 E])) w' := by
 subst hq
 exact ⟨none, 0, 0, rfl, hb, fun _ => ⟨rfl, rfl, rfl⟩, fun h => absurd h hE⟩
end Go.Proofs.YtoelfalmmaddlaaGreat
