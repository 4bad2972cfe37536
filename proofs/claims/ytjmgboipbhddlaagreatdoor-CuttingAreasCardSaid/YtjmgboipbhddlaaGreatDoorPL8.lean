import Derived.RangeFuncNested
import Derived.Test.YtjmgboipbhddlaaGreatDoorPX3
set_option linter.unusedVariables false
set_option linter.unusedSimpArgs false
namespace Go.Proofs.YtjmgboipbhddlaaGreatDoor
open Go Go.RowKit

theorem pieceGo_ok {j : Job} : ∀ {A B : List Placed} {cs cs' : List Int} {z : Placed}, pieceGo j A cs = ((z, 0), cs') → pieceGo j (A ++ B) cs = pieceGo j B cs'
 | [], B, cs, cs', z, h => by
  rw [pieceGo] at h
  injection h with h1 h2
  rw [List.nil_append, h2]
 | p :: A, B, cs, cs', z, h => by
  rw [List.cons_append, pieceGo]
  rw [pieceGo] at h
  split at h
  ·rename_i h1
   injection h with h2
   injection h2 with h2 h3
   exact absurd h3 h1
  ·rename_i h1
   rw [if_neg h1]
   exact pieceGo_ok h
theorem pieceGo_bad {j : Job} : ∀ {A B : List Placed} {cs : List Int}, (pieceGo j A cs).1.2 ≠ 0 → pieceGo j (A ++ B) cs = pieceGo j A cs
 | [], B, cs, h => absurd rfl h
 | p :: A, B, cs, h => by
  rw [List.cons_append, pieceGo, pieceGo]
  rw [pieceGo] at h
  split
  ·rfl
  ·rename_i h1
   rw [if_neg h1] at h
   exact pieceGo_bad h
theorem pieceGo_rng {j : Job} : ∀ {A : List Placed} {cs cs' : List Int} {z : Placed} {n : Int}, pieceGo j A cs = ((z, 0), cs') → (∀ x ∈ cs, 0 ≤ x ∧ x ≤ n) → z = zeroPl ∧ cs'.length = cs.length ∧ ∀ x ∈ cs', 0 ≤ x ∧ x ≤ n + A.length
 | [], cs, cs', z, n, h, hr => by
  rw [pieceGo] at h
  injection h with h1 h2
  injection h1 with h1
  subst h2
  exact ⟨h1.symm, rfl, fun x hx => by have := hr x hx; simp; omega⟩
 | p :: A, cs, cs', z, n, h, hr => by
  rw [pieceGo] at h
  split at h
  ·rename_i h1
   injection h with h2
   injection h2 with h2 h3
   exact absurd h3 h1
  ·rename_i h1
   obtain ⟨g1, g2, g3⟩ := pieceGo_rng (n := n + 1) h (fun x hx => by
    rcases List.mem_or_eq_of_mem_set hx with hx | rfl
    ·have := hr x hx; omega
    ·rw [List.getD_eq_getElem?_getD]
     by_cases hl : p.blank.toNat < cs.length
     ·rw [List.getElem?_eq_getElem hl]
      have := hr _ (List.getElem_mem hl)
      simp only [Option.getD_some]; omega
     ·by_cases h0 : cs = []
      ·subst h0; simp at hx
      ·obtain ⟨y, hy⟩ := List.exists_mem_of_ne_nil _ h0
       have := hr y hy
       rw [List.getElem?_eq_none (by omega)]
       simp only [Option.getD_none]; omega)
   refine ⟨g1, by rw [g2, List.length_set], fun x hx => ?_⟩
   have := g3 x hx
   simp only [List.length_cons]
   omega
def zerosOf (j : Job) : List Int := List.replicate j.blanks.length 0
theorem zeros_rng (j : Job) : ∀ x ∈ zerosOf j, 0 ≤ x ∧ x ≤ (0 : Int) := fun x hx => by rw [(List.mem_replicate.1 hx).2]; omega
theorem pieceGo_step {j : Job} {A : List Placed} {p : Placed} {cs : List Int} (h : pieceGo j A (zerosOf j) = ((zeroPl, 0), cs)) (he : pieceE j p = 0) :
    pieceGo j (A ++ [p]) (zerosOf j) = ((zeroPl, 0), cs.set p.blank.toNat (cs.getD p.blank.toNat 0 + 1)) := by
 rw [pieceGo_ok h, pieceGo, if_neg (fun h => h he)]; rfl
theorem pieceGo_err {j : Job} {A : List Placed} {p : Placed} {cs : List Int} (h : pieceGo j A (zerosOf j) = ((zeroPl, 0), cs)) (he : pieceE j p ≠ 0) :
    pieceGo j (A ++ [p]) (zerosOf j) = ((p, pieceE j p), cs) := by
 rw [pieceGo_ok h, pieceGo, if_pos he]
theorem placesTo_pre {j : Job} {plan : List Layout} : ∀ {m k : Nat}, m ≤ k → ∃ r, placesTo j plan k = placesTo j plan m ++ r
 | m, k, h => by
  induction k with
  | zero => obtain rfl : m = 0 := by omega
            exact ⟨[], by simp⟩
  | succ k ih =>
   by_cases e : m = k + 1
   ·subst e; exact ⟨[], by simp⟩
   ·obtain ⟨r, hr⟩ := ih (by omega)
    exact ⟨r ++ piecesTo (plan.getD k default) (layOf j (plan.getD k default)).1 (plan.getD k default).cuts.length, by rw [placesTo, hr, List.append_assoc]⟩
theorem piecesTo_pre {l : Layout} {R : List Rect} : ∀ {m k : Nat}, m ≤ k → ∃ r, piecesTo l R k = piecesTo l R m ++ r
 | m, k, h => by
  induction k with
  | zero => obtain rfl : m = 0 := by omega
            exact ⟨[], by simp⟩
  | succ k ih =>
   by_cases e : m = k + 1
   ·subst e; exact ⟨[], by simp⟩
   ·obtain ⟨r, hr⟩ := ih (by omega)
    exact ⟨_, by rw [piecesTo, hr, List.append_assoc]⟩
theorem plan_bad {j : Job} {plan : List Layout} {m k : Nat} {p : Placed} {E : Int} {cs : List Int} {pre : List Placed} (hX : layGo j plan [] = 0) (hm : m < plan.length)
    (hp : pre = piecesTo plan[m] (layOf j plan[m]).1 k) (hk : k ≤ plan[m].cuts.length)
    (h : pieceGo j (placesTo j plan m ++ pre) (zerosOf j) = ((p, E), cs)) (hE : E ≠ 0) : planOf j plan = (p, E) := by
 obtain ⟨r, hr⟩ := placesTo_pre (j := j) (plan := plan) (show m + 1 ≤ plan.length from hm)
 obtain ⟨r2, hr2⟩ := piecesTo_pre (l := plan[m]) (R := (layOf j plan[m]).1) hk
 refine planOf_piece (cs := cs) hX ?_ hE
 have e : placesM j plan = (placesTo j plan m ++ pre) ++ (r2 ++ r) := by
  unfold placesM
  rw [hr, placesTo_step hm, hr2, ← hp]; simp
 have := pieceGo_bad (j := j) (A := placesTo j plan m ++ pre) (B := r2 ++ r) (cs := zerosOf j) (by rw [h]; exact hE)
 rw [e]
 exact this.trans h

theorem lay_some {j : Job} {l : Layout} {rs : List Rect} (h : layOf j l = (rs, 0)) : rs ≠ [] := by
 unfold layOf regM at h
 split at h
 ·injection h with h1 h2; simp at h2
 ·rename_i h0
  split at h
  ·injection h with h1 h2; simp at h2
  ·split at h
   ·rename_i h2; injection h with h3 h4; exact absurd h4 h2
   ·split at h
    ·injection h with h1 h2; simp at h2
    ·intro e
     have h5 := congrArg (fun q : List Rect × Int => q.1.length) h
     simp only [e, List.length_nil] at h5
     have h6 : ∀ (l' : List Cut) (i : Nat) (R : List Rect), (rectGo j.trim.kerf l' i R).2 = 0 → (rectGo j.trim.kerf l' i R).1.length = R.length := by
      intro l'
      induction l' with
      | nil => intro i R _; rfl
      | cons c l' ih =>
       intro i R hr
       unfold rectGo at hr ⊢
       split
       ·rename_i g; rw [if_pos g] at hr; exact ih _ _ hr
       ·rename_i g
        rw [if_neg g] at hr
        split
        ·rename_i g2; rw [if_pos g2] at hr; simp at hr
        ·rename_i g2; rw [if_neg g2] at hr; rw [ih _ _ hr, stepR_len]
     rw [h6 _ _ _ (by rw [h])] at h5
     simp at h5
     exact h0 (by simp [h5])

theorem KeepsB.setOwn {g gc i : Nat} {A : World} {v : Value} (ho : ownAt g A = some gc) (hne : gc ≠ g) : KeepsB g A (A.setCell ⟨gc, i, none⟩ v) := fun hv => by
 have hs : ∀ k, k ≠ gc → (A.setCell ⟨gc, i, none⟩ v).heap[k]? = A.heap[k]? := fun k hk => by
  show (A.heap.modify gc _)[k]? = _
  rw [Array.getElem?_modify, if_neg (fun e => hk e.symm)]
 have hown : ownAt g (A.setCell ⟨gc, i, none⟩ v) = ownAt g A := by
  unfold ownAt
  rw [World.cell?_of_block (a := ⟨g, 0, none⟩) (hs g (fun e => hne e.symm))]
 refine ⟨⟨by rw [World.size_setCell]; exact hv.1, fun k e => by rw [hown] at e; rw [World.size_setCell]; exact hv.2 k e⟩, by rw [World.size_setCell]; exact Nat.le_refl _, fun k o h1 _ _ h4 => ?_, fun k e => .inl (by rwa [hown] at e)⟩
 rw [hs k (fun e => h4 (by rw [ho, e]))]; exact h1
theorem ownAt_box {g gc n c : Nat} {A : World} (h : A.cell? ⟨g, 0, none⟩ = some (.slice (some ⟨gc, 0, none⟩) n c)) : ownAt g A = some gc := by unfold ownAt; rw [h]; rfl
theorem cell_isCells {A : World} {a : Addr} {v : Value} (hc : A.cell? a = some v) : ∃ o, A.heap[a.block]? = some o ∧ o.isCells = true := by
 unfold World.cell? at hc
 cases hb : A.heap[a.block]? with
 | none => rw [hb] at hc; cases hc
 | some o => rw [hb] at hc; refine ⟨o, rfl, ?_⟩; cases o <;> simp_all [Obj.isCells]
theorem not_row {A : World} {a : Addr} {v : Value} {row : Option Nat} (hc : A.cell? a = some v) (hr : ∀ r, row = some r → ∃ o : Obj, A.heap[r]? = some o ∧ o.isCells = false) : some a.block ≠ row := fun e => by
 obtain ⟨o, h1, h2⟩ := cell_isCells hc
 obtain ⟨o', h3, h4⟩ := hr _ e.symm
 rw [h1] at h3; cases h3; rw [h2] at h4; cases h4

theorem checked_end {n B : Nat} {j : Job} {plan : List Layout} {q : Placed × Int} {w W : World} {tmps : Array Value} {ds : List Deferred} {g4 g5 g6 : Nat} {v u0 u1 u2 u3 u4 u5 e : Value}
    (run : ∀ W', OutAt W' g4 g5 g6 v u0 u1 u2 u3 u4 u5 e → (results Tryz.f26 tmps).run Tryz.prog W' = .ok (.tuple #[v, .agg #[u0, u1, u2, u3, u4, u5], e]) W') (hm : Marks B ds W) (ho : OutAt W g4 g5 g6 v u0 u1 u2 u3 u4 u5 e)
    (post : ∀ W', KeepsCells W.heap.size W W' → Below B W W' → CheckedPost w j plan q (.returned (.tuple #[v, .agg #[u0, u1, u2, u3, u4, u5], e])) W') : LeavesInM Fence.wide n Tryz.prog Tryz.f26 tmps (CheckedPost w j plan q) ds .returning W :=
 leave_marks ds W hm fun W' hk hb => by
  have h4 := block_lt_of_cell ho.x4
  have h5 := block_lt_of_cell ho.c0
  have h6 := block_lt_of_cell ho.x6
  simp only at h4 h5 h6
  exact ⟨_, run W' (ho.keepC hk (by omega) (by omega) (by omega)), post W' hk hb⟩
def KeepsAbove (n : Nat) (A B : World) : Prop := ∀ b o v, n ≤ b → A.cell? ⟨b, o, none⟩ = some v → B.cell? ⟨b, o, none⟩ = some v
theorem KeepsAbove.trans {n : Nat} {A B C : World} (h : KeepsAbove n A B) (h' : KeepsAbove n B C) : KeepsAbove n A C := fun b o v hn hc => h' b o v hn (h b o v hn hc)
theorem keepsAbove_set {n g i : Nat} {A B : World} {u : Value} (h : KeepsAbove n A B) (hg : g < n) : KeepsAbove n A (B.setCell ⟨g, i, none⟩ u) := fun b o v hn hc => by
 rw [World.cell?_setCell_other (h := fun e => by injection e with e; omega)]; exact h b o v hn hc
theorem keepsAbove_cells {n : Nat} {A B : World} (h : KeepsCells A.heap.size A B) : KeepsAbove n A B := fun b o v _ hc => h.cell hc (by have := block_lt_of_cell hc; simp only at this; omega)
theorem keepsAbove_out {n : Nat} {W : World} {g4 g5 g6 : Nat} {v u0 u1 u2 u3 u4 u5 e : Value} (h4 : g4 < n) (h5 : g5 < n) (h6 : g6 < n) : KeepsAbove n W ((((((((W.setCell ⟨g4, 0, none⟩ v).setCell ⟨g5, 0, none⟩ u0).setCell ⟨g5, 1, none⟩ u1).setCell ⟨g5, 2, none⟩ u2).setCell ⟨g5, 3, none⟩ u3).setCell ⟨g5, 4, none⟩ u4).setCell ⟨g5, 5, none⟩ u5).setCell ⟨g6, 0, none⟩ e) :=
 keepsAbove_set (keepsAbove_set (keepsAbove_set (keepsAbove_set (keepsAbove_set (keepsAbove_set (keepsAbove_set (keepsAbove_set (fun _ _ _ _ h => h) h4) h5) h5) h5) h5) h5) h5) h6
theorem Rects.V.above {n : Nat} {w w' : World} {a : Option Addr} {l : List Rect} (h : Rects.V w a l) (hk : KeepsAbove n w w') (hn : ∀ x, a = some x → n ≤ x.block) : Rects.V w' a l := fun hl => by
 obtain ⟨b, off, ha, hx⟩ := h hl
 refine ⟨b, off, ha, fun k x hkx => ?_⟩
 obtain ⟨c0, c1, c2, c3, hw⟩ := hx k x hkx
 have hb := hn _ ha
 exact ⟨hk _ _ _ hb c0, hk _ _ _ hb c1, hk _ _ _ hb c2, hk _ _ _ hb c3, hw⟩
theorem Laids.V.above {n : Nat} {w w' : World} {a : Option Addr} {l : List LaidC} (h : Laids.V w a l) (hk : KeepsAbove n w w') (hn : ∀ x, a = some x → n ≤ x.block) : Laids.V w' a l := fun hl => by
 obtain ⟨b, off, ha, hx⟩ := h hl
 refine ⟨b, off, ha, fun k x hkx => ?_⟩
 obtain ⟨c0, c1, c2⟩ := hx k x hkx
 have hb := hn _ ha
 exact ⟨hk _ _ _ hb c0, hk _ _ _ hb c1, hk _ _ _ hb c2⟩
theorem laid_row {w : World} {base e n c m : Nat} {a : Option Addr} {xs : List Value} (h : w.ownsRow base e 3 (.slice a n c) m xs) : ∀ x, a = some x → base ≤ x.block := fun x hx => by
 subst hx
 exact own_base h rfl
structure Counting (j : Job) (Wb : World) (gq gc B : Nat) (ds : List Deferred) (A : List Placed) (W : World) : Prop where
 cs : ∃ cs, pieceGo j A (zerosOf j) = ((zeroPl, 0), cs) ∧ W.ownsRow gc 3 1 (.slice (some ⟨gc, 0, none⟩) j.blanks.length j.blanks.length) j.blanks.length (cs.map (Value.int .i64))
 box : W.cell? ⟨gq, 0, none⟩ = some (.slice (some ⟨gc, 0, none⟩) j.blanks.length j.blanks.length)
 below : Below Wb.heap.size Wb W
 marks : Marks B ds W
theorem Marks.grown {B base : Nat} {ds : List Deferred} {W W' : World} {row : Option Nat} (h : Marks B ds W) (hg : W.grownBy W' row) (hr : ∀ r, row = some r → base ≤ r) (hd : ∀ d ∈ ds, ∃ D, d.target = .collected D ∧ D < base) : Marks B ds W' :=
 h.keep fun D _ hl ⟨d, hm, ht⟩ => by
  refine (hg.block D (Array.getElem?_eq_some_iff.1 hl).1 fun e => ?_).trans hl
  obtain ⟨D', h1, h2⟩ := hd d hm
  rw [ht] at h1
  injection h1 with h1
  have := hr D e.symm
  omega
theorem own_isCells {w : World} {base e k n m g c : Nat} {o : Nat} {xs : List Value} (h : w.ownsRow base e k (.slice (some ⟨g, o, none⟩) m c) n xs) : ∃ o : Obj, w.heap[g]? = some o ∧ o.isCells = true := by
 rcases h.2 with ⟨e0, _⟩ | ⟨g', cap, cur, e0, hb, hgg, _⟩
 ·cases e0
 ·injection e0 with e1 _ _
  injection e1 with e1
  injection e1 with e1 _ _
  subst e1
  exact ⟨_, hgg, rfl⟩
theorem Counting.own {j : Job} {Wb : World} {gq gc B base : Nat} {ds : List Deferred} {A : List Placed} {W W' : World} {row : Option Nat} (h : Counting j Wb gq gc B ds A W) (hb : Wb.heap.size ≤ base) (hd : ∀ d ∈ ds, ∃ D, d.target = .collected D ∧ D < base)
    (hg : W.grownBy W' row) (hr : ∀ r, row = some r → base ≤ r ∧ ∃ o : Obj, W.heap[r]? = some o ∧ o.isCells = false) : Counting j Wb gq gc B ds A W' := by
 obtain ⟨⟨cs, h1, h2⟩, h3, h4, h5⟩ := h
 refine ⟨⟨cs, h1, h2.kept hg (.inr fun e => ?_)⟩, hg.cell h3 (not_row h3 fun r e => (hr r e).2), h4.grown hg h4.size (fun r e => by have := (hr r e).1; omega), h5.grown hg (fun r e => (hr r e).1) hd⟩
 obtain ⟨o, g1, g2⟩ := own_isCells h2
 obtain ⟨o', g3, g4⟩ := (hr gc e.symm).2
 rw [g1] at g3; cases g3; rw [g2] at g4; cases g4
theorem Counting.keep {j : Job} {Wb : World} {gq gc B : Nat} {ds : List Deferred} {A : List Placed} {W W' : World} (h : Counting j Wb gq gc B ds A W) (hb : Below W.heap.size W W') : Counting j Wb gq gc B ds A W' := by
 obtain ⟨⟨cs, h1, h2⟩, h3, h4, h5⟩ := h
 exact ⟨⟨cs, h1, own_keep h2 hb⟩, cell_keep hb h3, h4.trans (hb.mono h4.size), h5.below hb⟩
structure Failing (j : Job) (w : World) (g4 g5 g6 B : Nat) (ds : List Deferred) (A : List Placed) (W : World) : Prop where
 ex : ∃ (p : Placed) (E : Int) (cs : List Int), E ≠ 0 ∧ pieceGo j A (zerosOf j) = ((p, E), cs) ∧ OutAt W g4 g5 g6 (.slice none 0 0) (.int .i64 p.board) (.int .i64 p.blank) (.int .i64 p.at_.x1) (.int .i64 p.at_.y1) (.int .i64 p.at_.x2) (.int .i64 p.at_.y2) (.int .i64 E)
 below : Below w.heap.size w W
 marks : Marks B ds W
theorem OutAt.grown {W W' : World} {g4 g5 g6 : Nat} {v u0 u1 u2 u3 u4 u5 e : Value} {row : Option Nat} (h : OutAt W g4 g5 g6 v u0 u1 u2 u3 u4 u5 e) (hg : W.grownBy W' row) (hr : ∀ r, row = some r → ∃ o : Obj, W.heap[r]? = some o ∧ o.isCells = false) : OutAt W' g4 g5 g6 v u0 u1 u2 u3 u4 u5 e :=
 ⟨hg.cell h.x4 (not_row h.x4 hr), hg.cell h.x6 (not_row h.x6 hr), hg.cell h.c0 (not_row h.c0 hr), hg.cell h.c1 (not_row h.c1 hr), hg.cell h.c2 (not_row h.c2 hr), hg.cell h.c3 (not_row h.c3 hr), hg.cell h.c4 (not_row h.c4 hr), hg.cell h.c5 (not_row h.c5 hr)⟩
theorem Failing.own {j : Job} {w : World} {g4 g5 g6 B base : Nat} {ds : List Deferred} {A : List Placed} {W W' : World} {row : Option Nat} (h : Failing j w g4 g5 g6 B ds A W) (hb : w.heap.size ≤ base) (hd : ∀ d ∈ ds, ∃ D, d.target = .collected D ∧ D < base)
    (hg : W.grownBy W' row) (hr : ∀ r, row = some r → base ≤ r ∧ ∃ o : Obj, W.heap[r]? = some o ∧ o.isCells = false) : Failing j w g4 g5 g6 B ds A W' := by
 obtain ⟨⟨p, E, cs, h1, h2, h3⟩, h4, h5⟩ := h
 exact ⟨⟨p, E, cs, h1, h2, h3.grown hg (fun r e => (hr r e).2)⟩, h4.grown hg h4.size (fun r e => by have := (hr r e).1; omega), h5.grown hg (fun r e => (hr r e).1) hd⟩
def PlBox (gq : Nat) (p : Placed) (g : Nat) (W : World) : Prop := Placed.at W g 0 p ∧ gq < g
theorem plBox_new {gq : Nat} {W : World} {T : TypeId} (p : Placed) (h : gq < W.heap.size) : PlBox gq p W.heap.size (W.alloc (.cells #[.int .i64 p.board, .int .i64 p.blank, .int .i64 p.at_.x1, .int .i64 p.at_.y1, .int .i64 p.at_.x2, .int .i64 p.at_.y2] T)) :=
 ⟨⟨⟨by simp [go_sem], by simp [go_sem]⟩, ⟨by simp [go_sem], by simp [go_sem]⟩, by simp [go_sem], by simp [go_sem]⟩, h⟩
theorem PlBox.own {gq base : Nat} {p : Placed} {g : Nat} : OwnFrom base (fun (_ : Unit) W => PlBox gq p g W) := fun _ W W' row h hg hr => by
 obtain ⟨⟨⟨p0, p1⟩, ⟨p2, p3⟩, p4, p5⟩, hq⟩ := h
 have hr' := fun r e => (hr r e).2
 exact ⟨⟨⟨hg.cell p0 (not_row p0 hr'), hg.cell p1 (not_row p1 hr')⟩, ⟨hg.cell p2 (not_row p2 hr'), hg.cell p3 (not_row p3 hr')⟩, hg.cell p4 (not_row p4 hr'), hg.cell p5 (not_row p5 hr')⟩, hq⟩
theorem wp_loop_at {P : Program} {c : Code} {Q : Exit → Act → World → Prop} {T0 : Array Value} {d0 : List Deferred} {w : World} (S : List Nat) (R : (Nat → Value) → List Deferred → World → Prop) (mu : Array Value → Nat) (hT : T0 = forget S (fun i => T0.getD i undef) T0)
    (h0 : R (fun i => T0.getD i undef) d0 w) (round : ∀ (u : Nat → Value) (ds : List Deferred) (w' : World) (K : Act → World → Prop), R u ds w' → (∀ a' w'', (∃ u' ds', a' = ⟨forget S u' T0, ds'⟩ ∧ R u' ds' w'' ∧ mu a'.tmps < mu (forget S u T0)) → K a' w'') → c.wp P (Exit.then K Q) ⟨forget S u T0, ds⟩ w') : (Code.loop c).wp P Q ⟨T0, d0⟩ w :=
 wp_loop_slots S R mu _ hT h0 fun u ds w' h => round u ds w' _ h fun _ _ h => h
theorem cut_arr {S : List Nat} {t T0 : Array Value} {ds : List Deferred} (h : t = forget S (fun i => t.getD i undef) T0) : (⟨t, ds⟩ : Act) = ⟨forget S (fun i => t.getD i undef) T0, ds⟩ := congrArg (fun x => (⟨x, ds⟩ : Act)) h
theorem keepsFrom_below {B : Nat} {W W' : World} (h : Below W.heap.size W W') : KeepsFrom B W W' := ⟨h.size, fun k o _ hk _ => (h.block k (Array.getElem?_eq_some_iff.1 hk).1).trans hk⟩
theorem keepsFrom_set {B : Nat} {W W' : World} (h : KeepsFrom B W W') (a : Addr) (v : Value) : KeepsFrom B W (W'.setCell a v) := h.trans ((KeepsOthers.setCell _ _ _).from _)
theorem keepsFrom_out {B : Nat} {W0 W : World} {g4 g5 g6 : Nat} {v u0 u1 u2 u3 u4 u5 e : Value} (h : KeepsFrom B W0 W) : KeepsFrom B W0 ((((((((W.setCell ⟨g4, 0, none⟩ v).setCell ⟨g5, 0, none⟩ u0).setCell ⟨g5, 1, none⟩ u1).setCell ⟨g5, 2, none⟩ u2).setCell ⟨g5, 3, none⟩ u3).setCell ⟨g5, 4, none⟩ u4).setCell ⟨g5, 5, none⟩ u5).setCell ⟨g6, 0, none⟩ e) :=
 keepsFrom_set (keepsFrom_set (keepsFrom_set (keepsFrom_set (keepsFrom_set (keepsFrom_set (keepsFrom_set (keepsFrom_set h _ _) _ _) _ _) _ _) _ _) _ _) _ _) _ _
theorem wpIn_rangeBox {F : Fence} {n : Nat} {P : Program} {w : World} {α : Type} {g : Operand} {ps : Array Tmp} {assign body : Code} {Q : Exit → Act → World → Prop} {a : Act}
    (hro : F.round = none) (h1 : 1 ≤ n) {gf : Nat} {first : Array Value} (hg : a.eval g = .func (.func gf) first #[]) (hFg : F.fn gf) (eg : ∀ args w, (callFunc gf args).run P w = .ok (.enter gf args) w)
    {encs : α → Array Value} {Kp : World → World → Prop} {S Sp : List α → Prop} {N : Nat} {w0 : World} (hseq : GivesB F (n - 1) P gf first encs Kp S Sp N w0)
    (hKt : ∀ {A B C : World}, Kp A B → Kp B C → Kp A C) (hKb : ∀ (W : World) (l : Nat) (o o' : Obj), w.heap.size ≤ l → W.heap[l]? = some o → o.isCells = false → o'.isCells = false → o.isWalk = false → Kp W (W.putObj l o')) (hb0 : Below w0.heap.size w0 w) (hps : ∀ x, (encs x).size = ps.size)
    (I Ix : List α → World → Prop) (hI : OwnFrom w.heap.size I) (hIx : OwnFrom w.heap.size Ix) (h0 : I [] w) (sB : Nat) (At : α → Nat → World → Prop) (hAt : ∀ x g, OwnFrom w.heap.size (fun (_ : Unit) W => At x g W))
    (hassign : ∀ (l : Nat) (pre : List α) (x : α) (W : World) (K : Act → World → Prop), I pre W → (∀ b W', KeepsFrom w.heap.size W W' → Kp W W' → I pre W' → At x b W' → K { tmps := ((ps.zip (encs x)).foldl (fun t (p, v) => t.setIfInBounds p v) a.tmps).setIfInBounds sB (.pointer (some ⟨b, 0, none⟩)), defers := [] } W') →
     assign.wpIn (F.inRound l) (n - 1 - 1) P (Exit.then K (fun _ _ _ => False)) { tmps := (ps.zip (encs x)).foldl (fun t (p, v) => t.setIfInBounds p v) a.tmps, defers := [] } W)
    (hbody : ∀ (l : Nat) (pre : List α) (x : α) (b : Nat) (W : World), I pre W → At x b W → pre.length < N → body.wpIn (F.inRound l) (n - 1 - 1) P (roundB w.heap.size Kp I Ix (pre ++ [x]) W) { tmps := ((ps.zip (encs x)).foldl (fun t (p, v) => t.setIfInBounds p v) a.tmps).setIfInBounds sB (.pointer (some ⟨b, 0, none⟩)), defers := [] } W)
    (hdone : ∀ (D : Nat) (xs : List α) (W : World), w.heap.size ≤ D → S xs → I xs W → W.heap[D]? = some (.deferred (some [])) → Q .normal { a with defers := { target := .collected D, args := #[] } :: a.defers } W)
    (hstop : ∀ (D : Nat) (pre : List α) (W : World), w.heap.size ≤ D → Sp pre → Ix pre W → W.heap[D]? = some (.deferred (some [])) → Code.ret.wpIn F n P Q { a with defers := { target := .collected D, args := #[] } :: a.defers } W) :
    (Code.rangeFunc g ps assign body).wpIn F n P Q a w :=
 wpIn_rangeBound hro h1 hg hFg eg hseq (fun h k => hKt h k) hKb hb0 hps I Ix hI hIx h0
  (fun x a' W => ∃ b, a' = { tmps := ((ps.zip (encs x)).foldl (fun t (p, v) => t.setIfInBounds p v) a.tmps).setIfInBounds sB (.pointer (some ⟨b, 0, none⟩)), defers := [] } ∧ At x b W)
  (fun x a' s W W' row h hg hr => by obtain ⟨b, h1, h2⟩ := h; exact ⟨b, h1, hAt x b () W W' row h2 hg hr⟩)
  (fun l pre x W K hi hK => hassign l pre x W K hi fun b W' h1 h2 h3 h4 => hK _ _ h1 h2 h3 ⟨b, rfl, h4⟩)
  (fun l pre x a' W hi ⟨b, e, h⟩ hlt => by subst e; exact hbody l pre x b W hi h hlt) hdone hstop
end Go.Proofs.YtjmgboipbhddlaaGreatDoor
