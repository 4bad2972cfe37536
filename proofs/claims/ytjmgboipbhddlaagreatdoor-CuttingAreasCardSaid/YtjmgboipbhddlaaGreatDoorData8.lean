import Derived.Test.YtjmgboipbhddlaaGreatDoorData
import Derived.Deep.Strs
set_option linter.unusedVariables false
set_option linter.unusedSimpArgs false
namespace Go.Proofs.YtjmgboipbhddlaaGreatDoor
open Go Go.ChangeShapes Go.WideShapes Go.ChangeAt Go.RowKit Go.Deep

theorem Blanks.open_ {H : Type} {enc : TypeId × Value → H} {w : World} {spare : Nat → Bool} {held : Bool} {fuel : Nat} {v : Value} {y : DataW H × List MemPlace} (h : DataW.trod enc Tryz.prog w 0 spare held fuel 23 [v] = some y) :
    ∃ (a : Option Addr) (l : List Blank) (c : Nat), v = .slice a l.length c ∧ Blanks.V w a l ∧ l.length ≤ c ∧ c ≤ maxLen :=
 open_row Tryz.underlying23 (by kernel_rfl) (by decide) (fun _ _ _ h => Blank.open_ h) (fun _ _ _ _ hc h => Blank.at_of hc h) h

structure Trim where
 kerf : Int
 ends : Int
 sides : Int
deriving DecidableEq

def Trim.wf (x : Trim) : Prop := (-9223372036854775808 ≤ x.kerf ∧ x.kerf ≤ 9223372036854775807) ∧ (-9223372036854775808 ≤ x.ends ∧ x.ends ≤ 9223372036854775807) ∧ (-9223372036854775808 ≤ x.sides ∧ x.sides ≤ 9223372036854775807)
def Trim.of (w : World) (cs : List Value) (x : Trim) : Prop := cs = [.int .i64 x.kerf, .int .i64 x.ends, .int .i64 x.sides] ∧ x.wf
section
variable {H : Type} {enc : TypeId × Value → H} {w : World} {spare : Nat → Bool} {held : Bool}
theorem Trim.open_ {fuel : Nat} {cs : List Value} {y : DataW H × List MemPlace} (h : DataW.trod enc Tryz.prog w 0 spare held fuel 25 cs = some y) : ∃ x : Trim, Trim.of w cs x := by
 obtain ⟨hl, m, hf⟩ := trod_fields Tryz.underlying25 (by kernel_rfl) (by kernel_rfl) h
 match cs, hl with
 | [v0, v1, v2], _ =>
  obtain ⟨u0, y0, e0, t0⟩ := hf 0 _ rfl
  simp only [List.getElem?_cons_succ, List.getElem?_cons_zero, Option.some.injEq] at e0
  subst e0
  obtain ⟨n0, g0, -, q0⟩ := DataW.trod_int Tryz.underlying3 t0
  simp only [List.cons.injEq, and_true] at g0
  subst g0
  obtain ⟨u1, y1, e1, t1⟩ := hf 1 _ rfl
  simp only [List.getElem?_cons_succ, List.getElem?_cons_zero, Option.some.injEq] at e1
  subst e1
  obtain ⟨n1, g1, -, q1⟩ := DataW.trod_int Tryz.underlying3 t1
  simp only [List.cons.injEq, and_true] at g1
  subst g1
  obtain ⟨u2, y2, e2, t2⟩ := hf 2 _ rfl
  simp only [List.getElem?_cons_succ, List.getElem?_cons_zero, Option.some.injEq] at e2
  subst e2
  obtain ⟨n2, g2, -, q2⟩ := DataW.trod_int Tryz.underlying3 t2
  simp only [List.cons.injEq, and_true] at g2
  subst g2
  exact ⟨⟨n0, n1, n2⟩, rfl, ⟨int_wf q0, int_wf q1, int_wf q2⟩⟩
end

structure Cut where
 across : Bool
 at_ : Int
 low : Int
 high : Int
 blank : Int
deriving DecidableEq

def Cut.wf (x : Cut) : Prop := (-9223372036854775808 ≤ x.at_ ∧ x.at_ ≤ 9223372036854775807) ∧ (-9223372036854775808 ≤ x.low ∧ x.low ≤ 9223372036854775807) ∧ (-9223372036854775808 ≤ x.high ∧ x.high ≤ 9223372036854775807) ∧ (-9223372036854775808 ≤ x.blank ∧ x.blank ≤ 9223372036854775807)
def Cut.at (w : World) (b o : Nat) (x : Cut) : Prop := w.cell? ⟨b, o, none⟩ = some (.bool x.across) ∧ w.cell? ⟨b, o + 1, none⟩ = some (.int .i64 x.at_) ∧ w.cell? ⟨b, o + 2, none⟩ = some (.int .i64 x.low) ∧ w.cell? ⟨b, o + 3, none⟩ = some (.int .i64 x.high) ∧ w.cell? ⟨b, o + 4, none⟩ = some (.int .i64 x.blank) ∧ x.wf
def Cut.of (w : World) (cs : List Value) (x : Cut) : Prop := cs = [.bool x.across, .int .i64 x.at_, .int .i64 x.low, .int .i64 x.high, .int .i64 x.blank] ∧ x.wf
theorem Cut.at_of {w : World} {b o : Nat} {cs : List Value} {x : Cut} (hc : ∀ j u, cs[j]? = some u → w.cell? ⟨b, o + j, none⟩ = some u) (h : Cut.of w cs x) : Cut.at w b o x := by
 obtain ⟨rfl, hw⟩ := h
 exact ⟨hc 0 _ rfl, hc 1 _ rfl, hc 2 _ rfl, hc 3 _ rfl, hc 4 _ rfl, hw⟩
theorem Cut.at.keep {w w' : World} {b o : Nat} {x : Cut} (hb : Below w.heap.size w w') (h : Cut.at w b o x) : Cut.at w' b o x := by
 obtain ⟨k0, k1, k2, k3, k4, hw⟩ := h
 exact ⟨cell_keep hb k0, cell_keep hb k1, cell_keep hb k2, cell_keep hb k3, cell_keep hb k4, hw⟩
def Cuts.V (w : World) (a : Option Addr) (l : List Cut) : Prop := RowV 5 Cut.at w a l
theorem Cuts.V.keep {w w' : World} {a : Option Addr} {l : List Cut} (h : Cuts.V w a l) (hb : Below w.heap.size w w') : Cuts.V w' a l := RowV.keep (fun _ _ _ h => Cut.at.keep hb h) h
section
variable {H : Type} {enc : TypeId × Value → H} {w : World} {spare : Nat → Bool} {held : Bool}
theorem Cut.open_ {fuel : Nat} {cs : List Value} {y : DataW H × List MemPlace} (h : DataW.trod enc Tryz.prog w 0 spare held fuel 86 cs = some y) : ∃ x : Cut, Cut.of w cs x := by
 obtain ⟨hl, m, hf⟩ := trod_fields Tryz.underlying86 (by kernel_rfl) (by kernel_rfl) h
 match cs, hl with
 | [v0, v1, v2, v3, v4], _ =>
  obtain ⟨u0, y0, e0, t0⟩ := hf 0 _ rfl
  simp only [List.getElem?_cons_succ, List.getElem?_cons_zero, Option.some.injEq] at e0
  subst e0
  obtain ⟨n0, g0, -⟩ := DataW.trod_bool Tryz.underlying4 t0
  simp only [List.cons.injEq, and_true] at g0
  subst g0
  obtain ⟨u1, y1, e1, t1⟩ := hf 1 _ rfl
  simp only [List.getElem?_cons_succ, List.getElem?_cons_zero, Option.some.injEq] at e1
  subst e1
  obtain ⟨n1, g1, -, q1⟩ := DataW.trod_int Tryz.underlying3 t1
  simp only [List.cons.injEq, and_true] at g1
  subst g1
  obtain ⟨u2, y2, e2, t2⟩ := hf 2 _ rfl
  simp only [List.getElem?_cons_succ, List.getElem?_cons_zero, Option.some.injEq] at e2
  subst e2
  obtain ⟨n2, g2, -, q2⟩ := DataW.trod_int Tryz.underlying3 t2
  simp only [List.cons.injEq, and_true] at g2
  subst g2
  obtain ⟨u3, y3, e3, t3⟩ := hf 3 _ rfl
  simp only [List.getElem?_cons_succ, List.getElem?_cons_zero, Option.some.injEq] at e3
  subst e3
  obtain ⟨n3, g3, -, q3⟩ := DataW.trod_int Tryz.underlying3 t3
  simp only [List.cons.injEq, and_true] at g3
  subst g3
  obtain ⟨u4, y4, e4, t4⟩ := hf 4 _ rfl
  simp only [List.getElem?_cons_succ, List.getElem?_cons_zero, Option.some.injEq] at e4
  subst e4
  obtain ⟨n4, g4, -, q4⟩ := DataW.trod_int Tryz.underlying3 t4
  simp only [List.cons.injEq, and_true] at g4
  subst g4
  exact ⟨⟨n0, n1, n2, n3, n4⟩, rfl, ⟨int_wf q1, int_wf q2, int_wf q3, int_wf q4⟩⟩
end

theorem Cuts.open_ {H : Type} {enc : TypeId × Value → H} {w : World} {spare : Nat → Bool} {held : Bool} {fuel : Nat} {v : Value} {y : DataW H × List MemPlace} (h : DataW.trod enc Tryz.prog w 0 spare held fuel 53 [v] = some y) :
    ∃ (a : Option Addr) (l : List Cut) (c : Nat), v = .slice a l.length c ∧ Cuts.V w a l ∧ l.length ≤ c ∧ c ≤ maxLen :=
 open_row Tryz.underlying53 (by kernel_rfl) (by decide) (fun _ _ _ h => Cut.open_ h) (fun _ _ _ _ hc h => Cut.at_of hc h) h

structure Layout where
 board : Int
 cuts : List Cut
deriving DecidableEq

def Layout.wf (x : Layout) : Prop := (-9223372036854775808 ≤ x.board ∧ x.board ≤ 9223372036854775807)
def Layout.at (w : World) (b o : Nat) (x : Layout) : Prop := ∃ (a_cuts : Option Addr) (c_cuts : Nat), w.cell? ⟨b, o, none⟩ = some (.int .i64 x.board) ∧ w.cell? ⟨b, o + 1, none⟩ = some (.slice a_cuts x.cuts.length c_cuts) ∧ Cuts.V w a_cuts x.cuts ∧ x.cuts.length ≤ c_cuts ∧ c_cuts ≤ maxLen ∧ x.wf
def Layout.of (w : World) (cs : List Value) (x : Layout) : Prop := ∃ (a_cuts : Option Addr) (c_cuts : Nat), cs = [.int .i64 x.board, .slice a_cuts x.cuts.length c_cuts] ∧ Cuts.V w a_cuts x.cuts ∧ x.cuts.length ≤ c_cuts ∧ c_cuts ≤ maxLen ∧ x.wf
theorem Layout.at_of {w : World} {b o : Nat} {cs : List Value} {x : Layout} (hc : ∀ j u, cs[j]? = some u → w.cell? ⟨b, o + j, none⟩ = some u) (h : Layout.of w cs x) : Layout.at w b o x := by
 obtain ⟨a_cuts, c_cuts, rfl, r0_0, r0_1, r0_2, hw⟩ := h
 exact ⟨a_cuts, c_cuts, hc 0 _ rfl, hc 1 _ rfl, r0_0, r0_1, r0_2, hw⟩
theorem Layout.at.keep {w w' : World} {b o : Nat} {x : Layout} (hb : Below w.heap.size w w') (h : Layout.at w b o x) : Layout.at w' b o x := by
 obtain ⟨a_cuts, c_cuts, k0, k1, r0_0, r0_1, r0_2, hw⟩ := h
 exact ⟨a_cuts, c_cuts, cell_keep hb k0, cell_keep hb k1, r0_0.keep hb, r0_1, r0_2, hw⟩
def Layouts.V (w : World) (a : Option Addr) (l : List Layout) : Prop := RowV 2 Layout.at w a l
theorem Layouts.V.keep {w w' : World} {a : Option Addr} {l : List Layout} (h : Layouts.V w a l) (hb : Below w.heap.size w w') : Layouts.V w' a l := RowV.keep (fun _ _ _ h => Layout.at.keep hb h) h
section
variable {H : Type} {enc : TypeId × Value → H} {w : World} {spare : Nat → Bool} {held : Bool}
theorem Layout.open_ {fuel : Nat} {cs : List Value} {y : DataW H × List MemPlace} (h : DataW.trod enc Tryz.prog w 0 spare held fuel 55 cs = some y) : ∃ x : Layout, Layout.of w cs x := by
 obtain ⟨hl, m, hf⟩ := trod_fields Tryz.underlying55 (by kernel_rfl) (by kernel_rfl) h
 match cs, hl with
 | [v0, v1], _ =>
  obtain ⟨u0, y0, e0, t0⟩ := hf 0 _ rfl
  simp only [List.getElem?_cons_succ, List.getElem?_cons_zero, Option.some.injEq] at e0
  subst e0
  obtain ⟨n0, g0, -, q0⟩ := DataW.trod_int Tryz.underlying3 t0
  simp only [List.cons.injEq, and_true] at g0
  subst g0
  obtain ⟨u1, y1, e1, t1⟩ := hf 1 _ rfl
  simp only [List.getElem?_cons_succ, List.getElem?_cons_zero, Option.some.injEq] at e1
  subst e1
  obtain ⟨a1, n1, c1, g1, q1, s1, z1⟩ := Cuts.open_ t1
  subst g1
  exact ⟨⟨n0, n1⟩, a1, c1, rfl, q1, s1, z1, int_wf q0⟩
end

theorem Layouts.open_ {H : Type} {enc : TypeId × Value → H} {w : World} {spare : Nat → Bool} {held : Bool} {fuel : Nat} {v : Value} {y : DataW H × List MemPlace} (h : DataW.trod enc Tryz.prog w 0 spare held fuel 28 [v] = some y) :
    ∃ (a : Option Addr) (l : List Layout) (c : Nat), v = .slice a l.length c ∧ Layouts.V w a l ∧ l.length ≤ c ∧ c ≤ maxLen :=
 open_row Tryz.underlying28 (by kernel_rfl) (by decide) (fun _ _ _ h => Layout.open_ h) (fun _ _ _ _ hc h => Layout.at_of hc h) h


structure Job where
 stock : List Board
 blanks : List Blank
 trim : Trim
deriving DecidableEq
def Job.of (w : World) (cs : List Value) (x : Job) : Prop := ∃ (a1 : Option Addr) (c1 : Nat) (a2 : Option Addr) (c2 : Nat), cs = [.slice a1 x.stock.length c1, .slice a2 x.blanks.length c2, .int .i64 x.trim.kerf, .int .i64 x.trim.ends, .int .i64 x.trim.sides] ∧
 (Boards.V w a1 x.stock ∧ x.stock.length ≤ c1 ∧ c1 ≤ maxLen) ∧ (Blanks.V w a2 x.blanks ∧ x.blanks.length ≤ c2 ∧ c2 ≤ maxLen) ∧ x.trim.wf
theorem list5 {cs : List Value} (h : cs.length = 5) : ∃ v0 v1 v2 v3 v4, cs = [v0, v1, v2, v3, v4] := by
 match cs, h with
 | [v0, v1, v2, v3, v4], _ => exact ⟨_, _, _, _, _, rfl⟩
theorem Job.open_ {H : Type} {enc : TypeId × Value → H} {w : World} {spare : Nat → Bool} {held : Bool} {fuel : Nat} {cs : List Value} {y : DataW H × List MemPlace} (h : DataW.trod enc Tryz.prog w 0 spare held fuel 27 cs = some y) : ∃ x : Job, Job.of w cs x := by
 obtain ⟨y0, y1, y2, n, _, hl, t0, t1, t2⟩ := trod_struct3 Tryz.underlying27 h
 have hc : Tryz.prog.cellsOf 27 = 5 := by kernel_rfl
 have c0 : Tryz.prog.cellsOf 22 = 1 := by kernel_rfl
 have c1 : Tryz.prog.cellsOf 23 = 1 := by kernel_rfl
 have c2 : Tryz.prog.cellsOf 25 = 3 := by kernel_rfl
 have hl5 : cs.length = 5 := hl.trans hc
 clear hl hc
 obtain ⟨v0, v1, v2, v3, v4, rfl⟩ := list5 hl5
 rw [c0] at t0
 rw [c1] at t1
 rw [c2] at t2
 have t0 : DataW.trod enc Tryz.prog w 0 spare held n 22 [v0] = some y0 := t0
 have t1 : DataW.trod enc Tryz.prog w 0 spare held n 23 [v1] = some y1 := t1
 have t2 : DataW.trod enc Tryz.prog w 0 spare held n 25 [v2, v3, v4] = some y2 := t2
 obtain ⟨a0, l0, k0, rfl, q0, s0, z0⟩ := Boards.open_ t0
 obtain ⟨a1, l1, k1, rfl, q1, s1, z1⟩ := Blanks.open_ t1
 obtain ⟨t, ht, hw⟩ := Trim.open_ t2
 simp only [List.cons.injEq, and_true] at ht
 obtain ⟨rfl, rfl, rfl⟩ := ht
 exact ⟨⟨l0, l1, t⟩, a0, k0, a1, k1, rfl, ⟨q0, s0, z0⟩, ⟨q1, s1, z1⟩, hw⟩

end Go.Proofs.YtjmgboipbhddlaaGreatDoor
