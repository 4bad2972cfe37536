import Derived.Test.YtjmgboipbhddlaaGreatDoorFrame
import Derived.Deep.Slices
import Derived.Deep.Fields
import Derived.Lib.Hide
set_option linter.unusedVariables false
set_option linter.unusedSimpArgs false
namespace Go.Proofs.YtjmgboipbhddlaaGreatDoor
open Go Go.ChangeShapes Go.WideShapes Go.ChangeAt Go.RowKit Go.Deep

theorem cell_keep {w w' : World} {p : Addr} {v : Value} (hb : Below w.heap.size w w') (h : w.cell? p = some v) : w'.cell? p = some v := by
 have := hb.cell (p := p) (block_lt_of_cell h)
 rw [this]; exact h

def RowV (sz : Nat) {α : Type} (R : World → Nat → Nat → α → Prop) (w : World) (a : Option Addr) (l : List α) : Prop :=
 l ≠ [] → ∃ b off, a = some ⟨b, off, none⟩ ∧ ∀ k x, l[k]? = some x → R w b (off + k * sz) x

theorem RowV.keep {sz : Nat} {α : Type} {R : World → Nat → Nat → α → Prop} {w w' : World} {a : Option Addr} {l : List α} (hR : ∀ b o x, R w b o x → R w' b o x)
    (h : RowV sz R w a l) : RowV sz R w' a l := fun hl => let ⟨b, off, ha, hx⟩ := h hl; ⟨b, off, ha, fun k x hk => hR _ _ _ (hx k x hk)⟩

theorem RowV.at_ {sz : Nat} {α : Type} {R : World → Nat → Nat → α → Prop} {w : World} {a : Option Addr} {l : List α} (h : RowV sz R w a l) {k : Nat} (hk : k < l.length) :
    ∃ b off, a = some ⟨b, off, none⟩ ∧ R w b (off + k * sz) l[k] := by
 obtain ⟨b, off, ha, hx⟩ := h (by intro e; subst e; simp at hk)
 exact ⟨b, off, ha, hx k _ (List.getElem?_eq_getElem hk)⟩

theorem RowV.nil {sz : Nat} {α : Type} {R : World → Nat → Nat → α → Prop} {w : World} {a : Option Addr} : RowV sz R w a [] := fun h => absurd rfl h

theorem int_wf {n : Int} (h : (Lit.int .i64 n).wf = true) : -9223372036854775808 ≤ n ∧ n ≤ 9223372036854775807 := by
 simpa [Lit.wf, IntKind.min, IntKind.max, IntKind.signed, IntKind.bits] using h

section
variable {H : Type} {enc : TypeId × Value → H} {P : Program} {w : World} {base : Nat} {spare : Nat → Bool} {held : Bool}
theorem trod_fields {t : TypeId} {fs : Array Field} {fuel : Nat} {cs : List Value} {x : DataW H × List MemPlace} (ht : P.underlying t = some (.struct fs))
    (hone : oneCellFields P fs = true) (hC : P.cellsOf t = fs.size) (h : DataW.trod enc P w base spare held fuel t cs = some x) :
    cs.length = fs.size ∧ ∃ m, ∀ (j : Nat) (f : Field), fs[j]? = some f → ∃ v y, cs[j]? = some v ∧ DataW.trod enc P w base spare held m f.type [v] = some y := by
 obtain ⟨ys, m, _, _, hlen, hyl, hf⟩ := DataW.trod_struct ht h
 refine ⟨hlen.trans hC, m, fun j f hj => ?_⟩
 obtain ⟨ho, hk⟩ := hone_of hone j f hj
 have hjl : j < fs.size := (Array.getElem?_eq_some_iff.1 hj).1
 have hjc : j < cs.length := by omega
 have h1 := hf j f hj
 rw [ho, hk, List.drop_eq_getElem_cons hjc] at h1
 exact ⟨cs[j], ys[j]'(by omega), List.getElem?_eq_getElem hjc, h1.trans (List.getElem?_eq_getElem (by omega))⟩

theorem choose_list {α : Type} {p : Nat → α → Prop} : ∀ n : Nat, (∀ i, i < n → ∃ x, p i x) → ∃ l : List α, l.length = n ∧ ∀ k x, l[k]? = some x → p k x
 | 0, _ => ⟨[], rfl, fun k x h => by simp at h⟩
 | n + 1, h => by
  obtain ⟨l, hl, hx⟩ := choose_list n (fun i hi => h i (by omega))
  obtain ⟨y, hy⟩ := h n (by omega)
  refine ⟨l ++ [y], by simp [hl], fun k x hk => ?_⟩
  rcases Nat.lt_or_ge k l.length with hlt | hge
  ·rw [List.getElem?_append_left hlt] at hk; exact hx k x hk
  ·rw [List.getElem?_append_right hge] at hk
   rcases Nat.eq_zero_or_pos (k - l.length) with h0 | h0
   ·rw [h0] at hk
    simp at hk
    subst hk
    obtain rfl : k = n := by omega
    exact hy
   ·rw [List.getElem?_eq_none (by simp; omega)] at hk
    cases hk

theorem open_row {α : Type} {t e : TypeId} {sz : Nat} {Of : World → List Value → α → Prop} {R : World → Nat → Nat → α → Prop} (ht : P.underlying t = some (.slice e)) (hsz : P.cellsOf e = sz) (hpos0 : 0 < sz)
    (hel : ∀ fuel cs y, DataW.trod enc P w base spare held fuel e cs = some y → ∃ x, Of w cs x)
    (hat : ∀ b o cs x, (∀ j u, cs[j]? = some u → w.cell? ⟨b, o + j, none⟩ = some u) → Of w cs x → R w b o x)
    {fuel : Nat} {v : Value} {y : DataW H × List MemPlace} (h : DataW.trod enc P w base spare held fuel t [v] = some y) :
    ∃ (a : Option Addr) (l : List α) (c : Nat), v = .slice a l.length c ∧ RowV sz R w a l ∧ l.length ≤ c ∧ c ≤ maxLen := by
 rcases open_slice ht h with ⟨hv, _⟩ | ⟨a, len, cap, m, n, D, Pl, hv, _, hl, hc, hm, _, hi⟩
 ·simp only [List.cons.injEq, and_true] at hv
  exact ⟨none, [], 0, hv, RowV.nil, Nat.le_refl _, by unfold maxLen; omega⟩
 ·simp only [List.cons.injEq, and_true] at hv
  have hlm : len ≤ m := by rw [hm]; split <;> omega
  obtain ⟨l, hll, hx⟩ := choose_list (p := fun i x => R w a.block (a.off + i * sz) x ∧ (0 < sz → i = 0 → a.spot = none)) len (fun i hi' => by
   obtain ⟨cs', hcs, htr⟩ := hi i (by omega)
   obtain ⟨x, hx⟩ := hel _ _ _ htr
   rw [hsz] at hcs
   obtain ⟨_, hcl, hat'⟩ := World.cells?_some hcs
   have hcell : ∀ j u, cs'[j]? = some u → w.cell? ⟨a.block, a.off + i * sz + j, none⟩ = some u := by
    intro j u hu
    have hj : j < sz := by rw [← hcl]; exact (List.getElem?_eq_some_iff.1 hu).1
    have hh := hat' j hj
    rw [hu] at hh
    by_cases h0 : i * sz = 0 ∧ j = 0
    ·obtain ⟨h1, rfl⟩ := h0
     have e1 : (a.add (i * sz)).add 0 = a := by rw [h1]; rfl
     rw [e1] at hh
     have hs : a.spot = none := by
      cases hsp : a.spot with
      | none => rfl
      | some _ => unfold World.cell? at hh; rw [hsp] at hh; split at hh <;> simp at hh
     have e2 : (⟨a.block, a.off + i * sz + 0, none⟩ : Addr) = a := by
      cases a; simp only at hs; subst hs; simp [h1]
     rw [e2]; exact hh
    ·have e1 : (a.add (i * sz)).add j = ⟨a.block, a.off + i * sz + j, none⟩ := by
       unfold Addr.add
       by_cases h1 : i * sz = 0
       ·have h2 : j ≠ 0 := fun e => h0 ⟨h1, e⟩
        simp [h1, h2]
       ·by_cases h2 : j = 0 <;> simp [h1, h2]
     rw [e1] at hh; exact hh
   refine ⟨x, hat _ _ _ _ hcell hx, fun hsz0 hi0 => ?_⟩
   subst hi0
   have hh := hat' 0 hsz0
   have e1 : (a.add (0 * sz)).add 0 = a := by simp [Addr.add]
   rw [e1, List.getElem?_eq_getElem (by omega)] at hh
   cases hsp : a.spot with
   | none => rfl
   | some _ => unfold World.cell? at hh; rw [hsp] at hh; split at hh <;> simp at hh)
  refine ⟨some ⟨a.block, a.off, a.spot⟩, l, cap, by rw [hll]; exact hv, ?_, by omega, hc⟩
  intro hne
  have hpos : 0 < l.length := List.length_pos_iff.2 hne
  refine ⟨a.block, a.off, ?_, fun k x hk => (hx k x hk).1⟩
  rw [(hx 0 l[0] (List.getElem?_eq_getElem hpos)).2 hpos0 rfl]
end

structure Rect where
 x1 : Int
 y1 : Int
 x2 : Int
 y2 : Int
deriving DecidableEq

def Rect.wf (x : Rect) : Prop := (-9223372036854775808 ≤ x.x1 ∧ x.x1 ≤ 9223372036854775807) ∧ (-9223372036854775808 ≤ x.y1 ∧ x.y1 ≤ 9223372036854775807) ∧ (-9223372036854775808 ≤ x.x2 ∧ x.x2 ≤ 9223372036854775807) ∧ (-9223372036854775808 ≤ x.y2 ∧ x.y2 ≤ 9223372036854775807)
def Rect.at (w : World) (b o : Nat) (x : Rect) : Prop := w.cell? ⟨b, o, none⟩ = some (.int .i64 x.x1) ∧ w.cell? ⟨b, o + 1, none⟩ = some (.int .i64 x.y1) ∧ w.cell? ⟨b, o + 2, none⟩ = some (.int .i64 x.x2) ∧ w.cell? ⟨b, o + 3, none⟩ = some (.int .i64 x.y2) ∧ x.wf
def Rect.of (w : World) (cs : List Value) (x : Rect) : Prop := cs = [.int .i64 x.x1, .int .i64 x.y1, .int .i64 x.x2, .int .i64 x.y2] ∧ x.wf
theorem Rect.at_of {w : World} {b o : Nat} {cs : List Value} {x : Rect} (hc : ∀ j u, cs[j]? = some u → w.cell? ⟨b, o + j, none⟩ = some u) (h : Rect.of w cs x) : Rect.at w b o x := by
 obtain ⟨rfl, hw⟩ := h
 exact ⟨hc 0 _ rfl, hc 1 _ rfl, hc 2 _ rfl, hc 3 _ rfl, hw⟩
theorem Rect.at.keep {w w' : World} {b o : Nat} {x : Rect} (hb : Below w.heap.size w w') (h : Rect.at w b o x) : Rect.at w' b o x := by
 obtain ⟨k0, k1, k2, k3, hw⟩ := h
 exact ⟨cell_keep hb k0, cell_keep hb k1, cell_keep hb k2, cell_keep hb k3, hw⟩
def Rects.V (w : World) (a : Option Addr) (l : List Rect) : Prop := RowV 4 Rect.at w a l
theorem Rects.V.keep {w w' : World} {a : Option Addr} {l : List Rect} (h : Rects.V w a l) (hb : Below w.heap.size w w') : Rects.V w' a l := RowV.keep (fun _ _ _ h => Rect.at.keep hb h) h
section
variable {H : Type} {enc : TypeId × Value → H} {w : World} {spare : Nat → Bool} {held : Bool}
theorem Rect.open_ {fuel : Nat} {cs : List Value} {y : DataW H × List MemPlace} (h : DataW.trod enc Tryz.prog w 0 spare held fuel 41 cs = some y) : ∃ x : Rect, Rect.of w cs x := by
 obtain ⟨hl, m, hf⟩ := trod_fields Tryz.underlying41 (by kernel_rfl) (by kernel_rfl) h
 match cs, hl with
 | [v0, v1, v2, v3], _ =>
  obtain ⟨u0, y0, e0, t0⟩ := hf 0 _ rfl
  simp only [List.getElem?_cons_succ, List.getElem?_cons_zero, Option.some.injEq] at e0
  subst e0
  obtain ⟨n0, g0, -, q0⟩ := DataW.trod_int Tryz.underlying3 t0
  simp only [List.cons.injEq, and_true] at g0
  subst g0
  obtain ⟨u1, y1, e1, t1⟩ := hf 1 _ rfl
  simp only [List.getElem?_cons_succ, List.getElem?_cons_zero, Option.some.injEq] at e1
  subst e1
  obtain ⟨n1, g1, -, q1⟩ := DataW.trod_int Tryz.underlying3 t1
  simp only [List.cons.injEq, and_true] at g1
  subst g1
  obtain ⟨u2, y2, e2, t2⟩ := hf 2 _ rfl
  simp only [List.getElem?_cons_succ, List.getElem?_cons_zero, Option.some.injEq] at e2
  subst e2
  obtain ⟨n2, g2, -, q2⟩ := DataW.trod_int Tryz.underlying3 t2
  simp only [List.cons.injEq, and_true] at g2
  subst g2
  obtain ⟨u3, y3, e3, t3⟩ := hf 3 _ rfl
  simp only [List.getElem?_cons_succ, List.getElem?_cons_zero, Option.some.injEq] at e3
  subst e3
  obtain ⟨n3, g3, -, q3⟩ := DataW.trod_int Tryz.underlying3 t3
  simp only [List.cons.injEq, and_true] at g3
  subst g3
  exact ⟨⟨n0, n1, n2, n3⟩, rfl, ⟨int_wf q0, int_wf q1, int_wf q2, int_wf q3⟩⟩
end

theorem Rects.open_ {H : Type} {enc : TypeId × Value → H} {w : World} {spare : Nat → Bool} {held : Bool} {fuel : Nat} {v : Value} {y : DataW H × List MemPlace} (h : DataW.trod enc Tryz.prog w 0 spare held fuel 50 [v] = some y) :
    ∃ (a : Option Addr) (l : List Rect) (c : Nat), v = .slice a l.length c ∧ Rects.V w a l ∧ l.length ≤ c ∧ c ≤ maxLen :=
 open_row Tryz.underlying50 (by kernel_rfl) (by decide) (fun _ _ _ h => Rect.open_ h) (fun _ _ _ _ hc h => Rect.at_of hc h) h

section
variable {H : Type} {enc : TypeId × Value → H} {w : World} {spare : Nat → Bool} {held : Bool}
end

structure Board where
 name : ByteArray
 species : ByteArray
 length : Int
 width : Int
 thick : Int
 cut : Int
 moisture : Int
 defects : List Rect
deriving DecidableEq

def Board.wf (x : Board) : Prop := (x.name.size ≤ 9223372036854775807) ∧ (x.species.size ≤ 9223372036854775807) ∧ (-9223372036854775808 ≤ x.length ∧ x.length ≤ 9223372036854775807) ∧ (-9223372036854775808 ≤ x.width ∧ x.width ≤ 9223372036854775807) ∧ (-9223372036854775808 ≤ x.thick ∧ x.thick ≤ 9223372036854775807) ∧ (-9223372036854775808 ≤ x.cut ∧ x.cut ≤ 9223372036854775807) ∧ (-9223372036854775808 ≤ x.moisture ∧ x.moisture ≤ 9223372036854775807)
def Board.at (w : World) (b o : Nat) (x : Board) : Prop := ∃ (a_defects : Option Addr) (c_defects : Nat), w.cell? ⟨b, o, none⟩ = some (.string x.name) ∧ w.cell? ⟨b, o + 1, none⟩ = some (.string x.species) ∧ w.cell? ⟨b, o + 2, none⟩ = some (.int .i64 x.length) ∧ w.cell? ⟨b, o + 3, none⟩ = some (.int .i64 x.width) ∧ w.cell? ⟨b, o + 4, none⟩ = some (.int .i64 x.thick) ∧ w.cell? ⟨b, o + 5, none⟩ = some (.int .i64 x.cut) ∧ w.cell? ⟨b, o + 6, none⟩ = some (.int .i64 x.moisture) ∧ w.cell? ⟨b, o + 7, none⟩ = some (.slice a_defects x.defects.length c_defects) ∧ Rects.V w a_defects x.defects ∧ x.defects.length ≤ c_defects ∧ c_defects ≤ maxLen ∧ x.wf
def Board.of (w : World) (cs : List Value) (x : Board) : Prop := ∃ (a_defects : Option Addr) (c_defects : Nat), cs = [.string x.name, .string x.species, .int .i64 x.length, .int .i64 x.width, .int .i64 x.thick, .int .i64 x.cut, .int .i64 x.moisture, .slice a_defects x.defects.length c_defects] ∧ Rects.V w a_defects x.defects ∧ x.defects.length ≤ c_defects ∧ c_defects ≤ maxLen ∧ x.wf
theorem Board.at_of {w : World} {b o : Nat} {cs : List Value} {x : Board} (hc : ∀ j u, cs[j]? = some u → w.cell? ⟨b, o + j, none⟩ = some u) (h : Board.of w cs x) : Board.at w b o x := by
 obtain ⟨a_defects, c_defects, rfl, r0_0, r0_1, r0_2, hw⟩ := h
 exact ⟨a_defects, c_defects, hc 0 _ rfl, hc 1 _ rfl, hc 2 _ rfl, hc 3 _ rfl, hc 4 _ rfl, hc 5 _ rfl, hc 6 _ rfl, hc 7 _ rfl, r0_0, r0_1, r0_2, hw⟩
theorem Board.at.keep {w w' : World} {b o : Nat} {x : Board} (hb : Below w.heap.size w w') (h : Board.at w b o x) : Board.at w' b o x := by
 obtain ⟨a_defects, c_defects, k0, k1, k2, k3, k4, k5, k6, k7, r0_0, r0_1, r0_2, hw⟩ := h
 exact ⟨a_defects, c_defects, cell_keep hb k0, cell_keep hb k1, cell_keep hb k2, cell_keep hb k3, cell_keep hb k4, cell_keep hb k5, cell_keep hb k6, cell_keep hb k7, r0_0.keep hb, r0_1, r0_2, hw⟩
def Boards.V (w : World) (a : Option Addr) (l : List Board) : Prop := RowV 8 Board.at w a l
theorem Boards.V.keep {w w' : World} {a : Option Addr} {l : List Board} (h : Boards.V w a l) (hb : Below w.heap.size w w') : Boards.V w' a l := RowV.keep (fun _ _ _ h => Board.at.keep hb h) h
section
variable {H : Type} {enc : TypeId × Value → H} {w : World} {spare : Nat → Bool} {held : Bool}
theorem Board.open_ {fuel : Nat} {cs : List Value} {y : DataW H × List MemPlace} (h : DataW.trod enc Tryz.prog w 0 spare held fuel 52 cs = some y) : ∃ x : Board, Board.of w cs x := by
 obtain ⟨hl, m, hf⟩ := trod_fields Tryz.underlying52 (by kernel_rfl) (by kernel_rfl) h
 match cs, hl with
 | [v0, v1, v2, v3, v4, v5, v6, v7], _ =>
  obtain ⟨u0, y0, e0, t0⟩ := hf 0 _ rfl
  simp only [List.getElem?_cons_succ, List.getElem?_cons_zero, Option.some.injEq] at e0
  subst e0
  obtain ⟨n0, g0, -, q0⟩ := DataW.trod_string Tryz.underlying9 t0
  simp only [List.cons.injEq, and_true] at g0
  subst g0
  obtain ⟨u1, y1, e1, t1⟩ := hf 1 _ rfl
  simp only [List.getElem?_cons_succ, List.getElem?_cons_zero, Option.some.injEq] at e1
  subst e1
  obtain ⟨n1, g1, -, q1⟩ := DataW.trod_string Tryz.underlying9 t1
  simp only [List.cons.injEq, and_true] at g1
  subst g1
  obtain ⟨u2, y2, e2, t2⟩ := hf 2 _ rfl
  simp only [List.getElem?_cons_succ, List.getElem?_cons_zero, Option.some.injEq] at e2
  subst e2
  obtain ⟨n2, g2, -, q2⟩ := DataW.trod_int Tryz.underlying3 t2
  simp only [List.cons.injEq, and_true] at g2
  subst g2
  obtain ⟨u3, y3, e3, t3⟩ := hf 3 _ rfl
  simp only [List.getElem?_cons_succ, List.getElem?_cons_zero, Option.some.injEq] at e3
  subst e3
  obtain ⟨n3, g3, -, q3⟩ := DataW.trod_int Tryz.underlying3 t3
  simp only [List.cons.injEq, and_true] at g3
  subst g3
  obtain ⟨u4, y4, e4, t4⟩ := hf 4 _ rfl
  simp only [List.getElem?_cons_succ, List.getElem?_cons_zero, Option.some.injEq] at e4
  subst e4
  obtain ⟨n4, g4, -, q4⟩ := DataW.trod_int Tryz.underlying3 t4
  simp only [List.cons.injEq, and_true] at g4
  subst g4
  obtain ⟨u5, y5, e5, t5⟩ := hf 5 _ rfl
  simp only [List.getElem?_cons_succ, List.getElem?_cons_zero, Option.some.injEq] at e5
  subst e5
  obtain ⟨n5, g5, -, q5⟩ := DataW.trod_int Tryz.underlying3 t5
  simp only [List.cons.injEq, and_true] at g5
  subst g5
  obtain ⟨u6, y6, e6, t6⟩ := hf 6 _ rfl
  simp only [List.getElem?_cons_succ, List.getElem?_cons_zero, Option.some.injEq] at e6
  subst e6
  obtain ⟨n6, g6, -, q6⟩ := DataW.trod_int Tryz.underlying3 t6
  simp only [List.cons.injEq, and_true] at g6
  subst g6
  obtain ⟨u7, y7, e7, t7⟩ := hf 7 _ rfl
  simp only [List.getElem?_cons_succ, List.getElem?_cons_zero, Option.some.injEq] at e7
  subst e7
  obtain ⟨a7, n7, c7, g7, q7, s7, z7⟩ := Rects.open_ t7
  subst g7
  exact ⟨⟨n0, n1, n2, n3, n4, n5, n6, n7⟩, a7, c7, rfl, q7, s7, z7, ⟨q0, q1, int_wf q2, int_wf q3, int_wf q4, int_wf q5, int_wf q6⟩⟩
end

theorem Boards.open_ {H : Type} {enc : TypeId × Value → H} {w : World} {spare : Nat → Bool} {held : Bool} {fuel : Nat} {v : Value} {y : DataW H × List MemPlace} (h : DataW.trod enc Tryz.prog w 0 spare held fuel 22 [v] = some y) :
    ∃ (a : Option Addr) (l : List Board) (c : Nat), v = .slice a l.length c ∧ Boards.V w a l ∧ l.length ≤ c ∧ c ≤ maxLen :=
 open_row Tryz.underlying22 (by kernel_rfl) (by decide) (fun _ _ _ h => Board.open_ h) (fun _ _ _ _ hc h => Board.at_of hc h) h

section
variable {H : Type} {enc : TypeId × Value → H} {w : World} {spare : Nat → Bool} {held : Bool}
end

structure Blank where
 name : ByteArray
 species : ByteArray
 length : Int
 width : Int
 thick : Int
 count : Int
deriving DecidableEq

def Blank.wf (x : Blank) : Prop := (x.name.size ≤ 9223372036854775807) ∧ (x.species.size ≤ 9223372036854775807) ∧ (-9223372036854775808 ≤ x.length ∧ x.length ≤ 9223372036854775807) ∧ (-9223372036854775808 ≤ x.width ∧ x.width ≤ 9223372036854775807) ∧ (-9223372036854775808 ≤ x.thick ∧ x.thick ≤ 9223372036854775807) ∧ (-9223372036854775808 ≤ x.count ∧ x.count ≤ 9223372036854775807)
def Blank.at (w : World) (b o : Nat) (x : Blank) : Prop := w.cell? ⟨b, o, none⟩ = some (.string x.name) ∧ w.cell? ⟨b, o + 1, none⟩ = some (.string x.species) ∧ w.cell? ⟨b, o + 2, none⟩ = some (.int .i64 x.length) ∧ w.cell? ⟨b, o + 3, none⟩ = some (.int .i64 x.width) ∧ w.cell? ⟨b, o + 4, none⟩ = some (.int .i64 x.thick) ∧ w.cell? ⟨b, o + 5, none⟩ = some (.int .i64 x.count) ∧ x.wf
def Blank.of (w : World) (cs : List Value) (x : Blank) : Prop := cs = [.string x.name, .string x.species, .int .i64 x.length, .int .i64 x.width, .int .i64 x.thick, .int .i64 x.count] ∧ x.wf
theorem Blank.at_of {w : World} {b o : Nat} {cs : List Value} {x : Blank} (hc : ∀ j u, cs[j]? = some u → w.cell? ⟨b, o + j, none⟩ = some u) (h : Blank.of w cs x) : Blank.at w b o x := by
 obtain ⟨rfl, hw⟩ := h
 exact ⟨hc 0 _ rfl, hc 1 _ rfl, hc 2 _ rfl, hc 3 _ rfl, hc 4 _ rfl, hc 5 _ rfl, hw⟩
theorem Blank.at.keep {w w' : World} {b o : Nat} {x : Blank} (hb : Below w.heap.size w w') (h : Blank.at w b o x) : Blank.at w' b o x := by
 obtain ⟨k0, k1, k2, k3, k4, k5, hw⟩ := h
 exact ⟨cell_keep hb k0, cell_keep hb k1, cell_keep hb k2, cell_keep hb k3, cell_keep hb k4, cell_keep hb k5, hw⟩
def Blanks.V (w : World) (a : Option Addr) (l : List Blank) : Prop := RowV 6 Blank.at w a l
theorem Blanks.V.keep {w w' : World} {a : Option Addr} {l : List Blank} (h : Blanks.V w a l) (hb : Below w.heap.size w w') : Blanks.V w' a l := RowV.keep (fun _ _ _ h => Blank.at.keep hb h) h
section
variable {H : Type} {enc : TypeId × Value → H} {w : World} {spare : Nat → Bool} {held : Bool}
theorem Blank.open_ {fuel : Nat} {cs : List Value} {y : DataW H × List MemPlace} (h : DataW.trod enc Tryz.prog w 0 spare held fuel 77 cs = some y) : ∃ x : Blank, Blank.of w cs x := by
 obtain ⟨hl, m, hf⟩ := trod_fields Tryz.underlying77 (by kernel_rfl) (by kernel_rfl) h
 match cs, hl with
 | [v0, v1, v2, v3, v4, v5], _ =>
  obtain ⟨u0, y0, e0, t0⟩ := hf 0 _ rfl
  simp only [List.getElem?_cons_succ, List.getElem?_cons_zero, Option.some.injEq] at e0
  subst e0
  obtain ⟨n0, g0, -, q0⟩ := DataW.trod_string Tryz.underlying9 t0
  simp only [List.cons.injEq, and_true] at g0
  subst g0
  obtain ⟨u1, y1, e1, t1⟩ := hf 1 _ rfl
  simp only [List.getElem?_cons_succ, List.getElem?_cons_zero, Option.some.injEq] at e1
  subst e1
  obtain ⟨n1, g1, -, q1⟩ := DataW.trod_string Tryz.underlying9 t1
  simp only [List.cons.injEq, and_true] at g1
  subst g1
  obtain ⟨u2, y2, e2, t2⟩ := hf 2 _ rfl
  simp only [List.getElem?_cons_succ, List.getElem?_cons_zero, Option.some.injEq] at e2
  subst e2
  obtain ⟨n2, g2, -, q2⟩ := DataW.trod_int Tryz.underlying3 t2
  simp only [List.cons.injEq, and_true] at g2
  subst g2
  obtain ⟨u3, y3, e3, t3⟩ := hf 3 _ rfl
  simp only [List.getElem?_cons_succ, List.getElem?_cons_zero, Option.some.injEq] at e3
  subst e3
  obtain ⟨n3, g3, -, q3⟩ := DataW.trod_int Tryz.underlying3 t3
  simp only [List.cons.injEq, and_true] at g3
  subst g3
  obtain ⟨u4, y4, e4, t4⟩ := hf 4 _ rfl
  simp only [List.getElem?_cons_succ, List.getElem?_cons_zero, Option.some.injEq] at e4
  subst e4
  obtain ⟨n4, g4, -, q4⟩ := DataW.trod_int Tryz.underlying3 t4
  simp only [List.cons.injEq, and_true] at g4
  subst g4
  obtain ⟨u5, y5, e5, t5⟩ := hf 5 _ rfl
  simp only [List.getElem?_cons_succ, List.getElem?_cons_zero, Option.some.injEq] at e5
  subst e5
  obtain ⟨n5, g5, -, q5⟩ := DataW.trod_int Tryz.underlying3 t5
  simp only [List.cons.injEq, and_true] at g5
  subst g5
  exact ⟨⟨n0, n1, n2, n3, n4, n5⟩, rfl, ⟨q0, q1, int_wf q2, int_wf q3, int_wf q4, int_wf q5⟩⟩
end



end Go.Proofs.YtjmgboipbhddlaaGreatDoor
