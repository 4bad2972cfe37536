/- How the data of chapter 1 lie in memory: structs by their cells, slices of them, and how an argument is opened. -/
import Derived.Test.YtgjmfdhgeahdcaaGreatFrame
import Derived.Deep.Slices
import Derived.Deep.Fields
import Derived.Lib.Hide
import Derived.Test.YtgjmfdhgeahdcaaGreatQA
import Derived.LoopN
import Derived.OwnWalk
import Derived.Sort.OwnSortedInts
import Derived.Lib.OwnBridge
import Derived.Lib.RowBridge
import Derived.Deep.QuietTactic
import Derived.BigQuiet
import Derived.BigRegion
import Derived.Deep.Cut
import Derived.Deep.CutBlock
import Derived.Deep.CutRange
import Derived.Deep.RegionHeld3
import Derived.WalkKit
set_option linter.unusedVariables false
set_option linter.unusedSimpArgs false
namespace Go.Proofs.YtgjmfdhgeahdcaaGreat
open Go Go.ChangeShapes Go.WideShapes Go.ChangeAt Go.RowKit Go.Deep

theorem cell_keep {w w' : World} {p : Addr} {v : Value} (hb : Below w.heap.size w w') (h : w.cell? p = some v) : w'.cell? p = some v := by
 have := hb.cell (p := p) (block_lt_of_cell h)
 rw [this]; exact h

/-- A slice's elements, each of so many cells, in whatever memory; of a nil slice or an empty one nothing is said. -/
def RowV (sz : Nat) {α : Type} (R : World → Nat → Nat → α → Prop) (w : World) (a : Option Addr) (l : List α) : Prop :=
 l ≠ [] → ∃ b off, a = some ⟨b, off, none⟩ ∧ ∀ k x, l[k]? = some x → R w b (off + k * sz) x

theorem RowV.keep {sz : Nat} {α : Type} {R : World → Nat → Nat → α → Prop} {w w' : World} {a : Option Addr} {l : List α} (hR : ∀ b o x, R w b o x → R w' b o x)
    (h : RowV sz R w a l) : RowV sz R w' a l := fun hl => let ⟨b, off, ha, hx⟩ := h hl; ⟨b, off, ha, fun k x hk => hR _ _ _ (hx k x hk)⟩

theorem RowV.at_ {sz : Nat} {α : Type} {R : World → Nat → Nat → α → Prop} {w : World} {a : Option Addr} {l : List α} (h : RowV sz R w a l) {k : Nat} (hk : k < l.length) :
    ∃ b off, a = some ⟨b, off, none⟩ ∧ R w b (off + k * sz) l[k] := by
 obtain ⟨b, off, ha, hx⟩ := h (by intro e; subst e; simp at hk)
 exact ⟨b, off, ha, hx k _ (List.getElem?_eq_getElem hk)⟩

theorem RowV.nil {sz : Nat} {α : Type} {R : World → Nat → Nat → α → Prop} {w : World} {a : Option Addr} : RowV sz R w a [] := fun h => absurd rfl h

theorem int_wf {n : Int} (h : (Lit.int .i64 n).wf = true) : -9223372036854775808 ≤ n ∧ n ≤ 9223372036854775807 := by
 simpa [Lit.wf, IntKind.min, IntKind.max, IntKind.signed, IntKind.bits] using h

section
variable {H : Type} {enc : TypeId × Value → H} {P : Program} {w : World} {base : Nat} {spare : Nat → Bool} {held : Bool}
theorem trod_fields {t : TypeId} {fs : Array Field} {fuel : Nat} {cs : List Value} {x : DataW H × List MemPlace} (ht : P.underlying t = some (.struct fs))
    (hone : oneCellFields P fs = true) (hC : P.cellsOf t = fs.size) (h : DataW.trod enc P w base spare held fuel t cs = some x) :
    cs.length = fs.size ∧ ∃ m, ∀ (j : Nat) (f : Field), fs[j]? = some f → ∃ v y, cs[j]? = some v ∧ DataW.trod enc P w base spare held m f.type [v] = some y := by
 obtain ⟨ys, m, _, _, hlen, hyl, hf⟩ := DataW.trod_struct ht h
 refine ⟨hlen.trans hC, m, fun j f hj => ?_⟩
 obtain ⟨ho, hk⟩ := hone_of hone j f hj
 have hjl : j < fs.size := (Array.getElem?_eq_some_iff.1 hj).1
 have hjc : j < cs.length := by omega
 have h1 := hf j f hj
 rw [ho, hk, List.drop_eq_getElem_cons hjc] at h1
 exact ⟨cs[j], ys[j]'(by omega), List.getElem?_eq_getElem hjc, h1.trans (List.getElem?_eq_getElem (by omega))⟩

theorem choose_list {α : Type} {p : Nat → α → Prop} : ∀ n : Nat, (∀ i, i < n → ∃ x, p i x) → ∃ l : List α, l.length = n ∧ ∀ k x, l[k]? = some x → p k x
 | 0, _ => ⟨[], rfl, fun k x h => by simp at h⟩
 | n + 1, h => by
  obtain ⟨l, hl, hx⟩ := choose_list n (fun i hi => h i (by omega))
  obtain ⟨y, hy⟩ := h n (by omega)
  refine ⟨l ++ [y], by simp [hl], fun k x hk => ?_⟩
  rcases Nat.lt_or_ge k l.length with hlt | hge
  ·rw [List.getElem?_append_left hlt] at hk; exact hx k x hk
  ·rw [List.getElem?_append_right hge] at hk
   rcases Nat.eq_zero_or_pos (k - l.length) with h0 | h0
   ·rw [h0] at hk
    simp at hk
    subst hk
    obtain rfl : k = n := by omega
    exact hy
   ·rw [List.getElem?_eq_none (by simp; omega)] at hk
    cases hk

theorem open_row {α : Type} {t e : TypeId} {sz : Nat} {Of : World → List Value → α → Prop} {R : World → Nat → Nat → α → Prop} (ht : P.underlying t = some (.slice e)) (hsz : P.cellsOf e = sz) (hpos0 : 0 < sz)
    (hel : ∀ fuel cs y, DataW.trod enc P w base spare held fuel e cs = some y → ∃ x, Of w cs x)
    (hat : ∀ b o cs x, (∀ j u, cs[j]? = some u → w.cell? ⟨b, o + j, none⟩ = some u) → Of w cs x → R w b o x)
    {fuel : Nat} {v : Value} {y : DataW H × List MemPlace} (h : DataW.trod enc P w base spare held fuel t [v] = some y) :
    ∃ (a : Option Addr) (l : List α) (c : Nat), v = .slice a l.length c ∧ RowV sz R w a l ∧ l.length ≤ c ∧ c ≤ maxLen := by
 rcases open_slice ht h with ⟨hv, _⟩ | ⟨a, len, cap, m, n, D, Pl, hv, _, hl, hc, hm, _, hi⟩
 ·simp only [List.cons.injEq, and_true] at hv
  exact ⟨none, [], 0, hv, RowV.nil, Nat.le_refl _, by unfold maxLen; omega⟩
 ·simp only [List.cons.injEq, and_true] at hv
  have hlm : len ≤ m := by rw [hm]; split <;> omega
  obtain ⟨l, hll, hx⟩ := choose_list (p := fun i x => R w a.block (a.off + i * sz) x ∧ (0 < sz → i = 0 → a.spot = none)) len (fun i hi' => by
   obtain ⟨cs', hcs, htr⟩ := hi i (by omega)
   obtain ⟨x, hx⟩ := hel _ _ _ htr
   rw [hsz] at hcs
   obtain ⟨_, hcl, hat'⟩ := World.cells?_some hcs
   have hcell : ∀ j u, cs'[j]? = some u → w.cell? ⟨a.block, a.off + i * sz + j, none⟩ = some u := by
    intro j u hu
    have hj : j < sz := by rw [← hcl]; exact (List.getElem?_eq_some_iff.1 hu).1
    have hh := hat' j hj
    rw [hu] at hh
    by_cases h0 : i * sz = 0 ∧ j = 0
    ·obtain ⟨h1, rfl⟩ := h0
     have e1 : (a.add (i * sz)).add 0 = a := by rw [h1]; rfl
     rw [e1] at hh
     have hs : a.spot = none := by
      cases hsp : a.spot with
      | none => rfl
      | some _ => unfold World.cell? at hh; rw [hsp] at hh; split at hh <;> simp at hh
     have e2 : (⟨a.block, a.off + i * sz + 0, none⟩ : Addr) = a := by
      cases a; simp only at hs; subst hs; simp [h1]
     rw [e2]; exact hh
    ·have e1 : (a.add (i * sz)).add j = ⟨a.block, a.off + i * sz + j, none⟩ := by
       unfold Addr.add
       by_cases h1 : i * sz = 0
       ·have h2 : j ≠ 0 := fun e => h0 ⟨h1, e⟩
        simp [h1, h2]
       ·by_cases h2 : j = 0 <;> simp [h1, h2]
     rw [e1] at hh; exact hh
   refine ⟨x, hat _ _ _ _ hcell hx, fun hsz0 hi0 => ?_⟩
   subst hi0
   have hh := hat' 0 hsz0
   have e1 : (a.add (0 * sz)).add 0 = a := by simp [Addr.add]
   rw [e1, List.getElem?_eq_getElem (by omega)] at hh
   cases hsp : a.spot with
   | none => rfl
   | some _ => unfold World.cell? at hh; rw [hsp] at hh; split at hh <;> simp at hh)
  refine ⟨some ⟨a.block, a.off, a.spot⟩, l, cap, by rw [hll]; exact hv, ?_, by omega, hc⟩
  intro hne
  have hpos : 0 < l.length := List.length_pos_iff.2 hne
  refine ⟨a.block, a.off, ?_, fun k x hk => (hx k x hk).1⟩
  rw [(hx 0 l[0] (List.getElem?_eq_getElem hpos)).2 hpos0 rfl]
end

structure Pl where
 a : Int
 b : Int
 c : Int
 d : Int
deriving DecidableEq

def Pl.wf (x : Pl) : Prop := (-9223372036854775808 ≤ x.a ∧ x.a ≤ 9223372036854775807) ∧ (-9223372036854775808 ≤ x.b ∧ x.b ≤ 9223372036854775807) ∧ (-9223372036854775808 ≤ x.c ∧ x.c ≤ 9223372036854775807) ∧ (-9223372036854775808 ≤ x.d ∧ x.d ≤ 9223372036854775807)
def Pl.at (w : World) (b o : Nat) (x : Pl) : Prop := w.cell? ⟨b, o, none⟩ = some (.int .i64 x.a) ∧ w.cell? ⟨b, o + 1, none⟩ = some (.int .i64 x.b) ∧ w.cell? ⟨b, o + 2, none⟩ = some (.int .i64 x.c) ∧ w.cell? ⟨b, o + 3, none⟩ = some (.int .i64 x.d) ∧ x.wf
theorem Pl.at.keep {w w' : World} {b o : Nat} {x : Pl} (hb : Below w.heap.size w w') (h : Pl.at w b o x) : Pl.at w' b o x := by
 obtain ⟨k0, k1, k2, k3, hw⟩ := h
 exact ⟨cell_keep hb k0, cell_keep hb k1, cell_keep hb k2, cell_keep hb k3, hw⟩
def Pls.V (w : World) (a : Option Addr) (l : List Pl) : Prop := RowV 4 Pl.at w a l
theorem Pls.V.keep {w w' : World} {a : Option Addr} {l : List Pl} (h : Pls.V w a l) (hb : Below w.heap.size w w') : Pls.V w' a l := RowV.keep (fun _ _ _ h => Pl.at.keep hb h) h
section
variable {H : Type} {enc : TypeId × Value → H} {w : World} {spare : Nat → Bool} {held : Bool}
end

structure Co where
 x : Int
 y : Int
 z : Int
 n : Int
deriving DecidableEq

def Co.wf (x : Co) : Prop := (-9223372036854775808 ≤ x.x ∧ x.x ≤ 9223372036854775807) ∧ (-9223372036854775808 ≤ x.y ∧ x.y ≤ 9223372036854775807) ∧ (-9223372036854775808 ≤ x.z ∧ x.z ≤ 9223372036854775807) ∧ (-9223372036854775808 ≤ x.n ∧ x.n ≤ 9223372036854775807)
def Co.at (w : World) (b o : Nat) (x : Co) : Prop := w.cell? ⟨b, o, none⟩ = some (.int .i64 x.x) ∧ w.cell? ⟨b, o + 1, none⟩ = some (.int .i64 x.y) ∧ w.cell? ⟨b, o + 2, none⟩ = some (.int .i64 x.z) ∧ w.cell? ⟨b, o + 3, none⟩ = some (.int .i64 x.n) ∧ x.wf
theorem Co.at.keep {w w' : World} {b o : Nat} {x : Co} (hb : Below w.heap.size w w') (h : Co.at w b o x) : Co.at w' b o x := by
 obtain ⟨k0, k1, k2, k3, hw⟩ := h
 exact ⟨cell_keep hb k0, cell_keep hb k1, cell_keep hb k2, cell_keep hb k3, hw⟩
def Cos.V (w : World) (a : Option Addr) (l : List Co) : Prop := RowV 4 Co.at w a l
theorem Cos.V.keep {w w' : World} {a : Option Addr} {l : List Co} (h : Cos.V w a l) (hb : Below w.heap.size w w') : Cos.V w' a l := RowV.keep (fun _ _ _ h => Co.at.keep hb h) h
section
variable {H : Type} {enc : TypeId × Value → H} {w : World} {spare : Nat → Bool} {held : Bool}
end

structure Cell where
 planes : List Pl
deriving DecidableEq

def Cell.wf (x : Cell) : Prop := True
def Cell.at (w : World) (b o : Nat) (x : Cell) : Prop := ∃ (a_planes : Option Addr) (c_planes : Nat), w.cell? ⟨b, o, none⟩ = some (.slice a_planes x.planes.length c_planes) ∧ Pls.V w a_planes x.planes ∧ x.planes.length ≤ c_planes ∧ c_planes ≤ maxLen ∧ x.wf
theorem Cell.at.keep {w w' : World} {b o : Nat} {x : Cell} (hb : Below w.heap.size w w') (h : Cell.at w b o x) : Cell.at w' b o x := by
 obtain ⟨a_planes, c_planes, k0, r0_0, r0_1, r0_2, hw⟩ := h
 exact ⟨a_planes, c_planes, cell_keep hb k0, r0_0.keep hb, r0_1, r0_2, hw⟩
def Cells.V (w : World) (a : Option Addr) (l : List Cell) : Prop := RowV 1 Cell.at w a l
theorem Cells.V.keep {w w' : World} {a : Option Addr} {l : List Cell} (h : Cells.V w a l) (hb : Below w.heap.size w w') : Cells.V w' a l := RowV.keep (fun _ _ _ h => Cell.at.keep hb h) h
section
variable {H : Type} {enc : TypeId × Value → H} {w : World} {spare : Nat → Bool} {held : Bool}
end

section
variable {H : Type} {enc : TypeId × Value → H} {w : World} {spare : Nat → Bool} {held : Bool}
end

structure Box6 where
 x1 : Int
 y1 : Int
 z1 : Int
 x2 : Int
 y2 : Int
 z2 : Int
deriving DecidableEq

section
variable {H : Type} {enc : TypeId × Value → H} {w : World} {spare : Nat → Bool} {held : Bool}
end

structure Pt where
 x : Int
 y : Int
deriving DecidableEq

def Pt.wf (x : Pt) : Prop := (-9223372036854775808 ≤ x.x ∧ x.x ≤ 9223372036854775807) ∧ (-9223372036854775808 ≤ x.y ∧ x.y ≤ 9223372036854775807)
def Pt.at (w : World) (b o : Nat) (x : Pt) : Prop := w.cell? ⟨b, o, none⟩ = some (.int .i64 x.x) ∧ w.cell? ⟨b, o + 1, none⟩ = some (.int .i64 x.y) ∧ x.wf
def Pt.of (w : World) (cs : List Value) (x : Pt) : Prop := cs = [.int .i64 x.x, .int .i64 x.y] ∧ x.wf
theorem Pt.at_of {w : World} {b o : Nat} {cs : List Value} {x : Pt} (hc : ∀ j u, cs[j]? = some u → w.cell? ⟨b, o + j, none⟩ = some u) (h : Pt.of w cs x) : Pt.at w b o x := by
 obtain ⟨rfl, hw⟩ := h
 exact ⟨hc 0 _ rfl, hc 1 _ rfl, hw⟩
theorem Pt.at.keep {w w' : World} {b o : Nat} {x : Pt} (hb : Below w.heap.size w w') (h : Pt.at w b o x) : Pt.at w' b o x := by
 obtain ⟨k0, k1, hw⟩ := h
 exact ⟨cell_keep hb k0, cell_keep hb k1, hw⟩
def Pts.V (w : World) (a : Option Addr) (l : List Pt) : Prop := RowV 2 Pt.at w a l
theorem Pts.V.keep {w w' : World} {a : Option Addr} {l : List Pt} (h : Pts.V w a l) (hb : Below w.heap.size w w') : Pts.V w' a l := RowV.keep (fun _ _ _ h => Pt.at.keep hb h) h
section
variable {H : Type} {enc : TypeId × Value → H} {w : World} {spare : Nat → Bool} {held : Bool}
theorem Pt.open_ {fuel : Nat} {cs : List Value} {y : DataW H × List MemPlace} (h : DataW.trod enc Tryz.prog w 0 spare held fuel 52 cs = some y) : ∃ x : Pt, Pt.of w cs x := by
 obtain ⟨hl, m, hf⟩ := trod_fields Tryz.underlying52 (by kernel_rfl) (by kernel_rfl) h
 match cs, hl with
 | [v0, v1], _ =>
  obtain ⟨u0, y0, e0, t0⟩ := hf 0 _ rfl
  simp only [List.getElem?_cons_succ, List.getElem?_cons_zero, Option.some.injEq] at e0
  subst e0
  obtain ⟨n0, g0, -, q0⟩ := DataW.trod_int Tryz.underlying3 t0
  simp only [List.cons.injEq, and_true] at g0
  subst g0
  obtain ⟨u1, y1, e1, t1⟩ := hf 1 _ rfl
  simp only [List.getElem?_cons_succ, List.getElem?_cons_zero, Option.some.injEq] at e1
  subst e1
  obtain ⟨n1, g1, -, q1⟩ := DataW.trod_int Tryz.underlying3 t1
  simp only [List.cons.injEq, and_true] at g1
  subst g1
  exact ⟨⟨n0, n1⟩, rfl, ⟨int_wf q0, int_wf q1⟩⟩
end

theorem Pts.open_ {H : Type} {enc : TypeId × Value → H} {w : World} {spare : Nat → Bool} {held : Bool} {fuel : Nat} {v : Value} {y : DataW H × List MemPlace} (h : DataW.trod enc Tryz.prog w 0 spare held fuel 22 [v] = some y) :
    ∃ (a : Option Addr) (l : List Pt) (c : Nat), v = .slice a l.length c ∧ Pts.V w a l ∧ l.length ≤ c ∧ c ≤ maxLen :=
 open_row Tryz.underlying22 (by kernel_rfl) (by decide) (fun _ _ _ h => Pt.open_ h) (fun _ _ _ _ hc h => Pt.at_of hc h) h

section
variable {H : Type} {enc : TypeId × Value → H} {w : World} {spare : Nat → Bool} {held : Bool}
end

end Go.Proofs.YtgjmfdhgeahdcaaGreat
/- General rules: rows of the call's own, worlds, ranges. -/
set_option linter.unusedVariables false
set_option linter.unusedSimpArgs false
namespace Go.Proofs.YtgjmfdhgeahdcaaGreat
open Go Go.RowKit Go.Sort Go.Lib

theorem ret_bool {a b : Bool} (h : a = b) : Ending.returned (.bool a) = .returned (.bool b) := by rw [h]
def withinB (n lo hi : Int) : Bool := decide (lo ≤ n) && decide (n ≤ hi)
theorem ret_int {a b : Int} (h : a = b) : Ending.returned (.int .i64 a) = .returned (.int .i64 b) := by rw [h]
theorem baseWithin_any (n lo hi : Int) (w : World) : Calls Tryz.prog 20 #[.int .i64 n, .int .i64 lo, .int .i64 hi] w fun e w' => e = .returned (.bool (withinB n lo hi)) ∧ w = w' := by
 unfold withinB
 go_enter Tryz.func20, Tryz.ntmps20
 go_wp2
 all_goals (go_ret; exact ⟨ret_bool (by rw [Bool.eq_iff_iff]; simp <;> omega), rfl⟩)
/-- The first place at which a list has what is sought, or -1. -/
def idxOf {α : Type} (p : α → Bool) (l : List α) : Int := match l.findIdx? p with | some i => (i : Int) | none => -1
theorem idxOf_hit {α : Type} {p : α → Bool} {l : List α} {k : Nat} (hk : k < l.length) (h : ∀ j (hj : j < l.length), j < k → p l[j] = false) (hp : p l[k] = true) : idxOf p l = k := by
 have : l.findIdx? p = some k := by
  rw [List.findIdx?_eq_some_iff_getElem]
  exact ⟨hk, hp, fun j hj => by rw [h j (by omega) hj]; decide⟩
 unfold idxOf; rw [this]
theorem idxOf_miss {α : Type} {p : α → Bool} {l : List α} (h : ∀ j (hj : j < l.length), p l[j] = false) : idxOf p l = -1 := by
 have : l.findIdx? p = none := by
  rw [List.findIdx?_eq_none_iff]
  intro x hx
  obtain ⟨j, hj, rfl⟩ := List.mem_iff_getElem.1 hx
  exact h j hj
 unfold idxOf; rw [this]
theorem none_step {α : Type} {p : α → Bool} {l : List α} {k : Nat} (h : ∀ j (hj : j < l.length), j < k → p l[j] = false) (hk : k < l.length) (hp : p l[k] = false) : ∀ j (hj : j < l.length), j < k + 1 → p l[j] = false := by
 intro j hj hlt
 rcases Nat.lt_succ_iff_lt_or_eq.1 hlt with h' | rfl
 ·exact h j hj h'
 ·exact hp
theorem RowV.take {sz : Nat} {α : Type} {R : World → Nat → Nat → α → Prop} {w : World} {a : Option Addr} {l : List α} (h : RowV sz R w a l) (k : Nat) : RowV sz R w a (l.take k) := by
 intro hne
 obtain ⟨b, off, ha, hx⟩ := h (by rintro rfl; simp at hne)
 refine ⟨b, off, ha, fun j x hj => hx j x ?_⟩
 rw [List.getElem?_take] at hj
 split at hj
 ·exact hj
 ·cases hj
theorem below_drewN {B : Nat} {a w : World} (h : Below B a w) (n : Nat) : Below B a (w.drewN n) := ⟨h.os, h.tape, h.output, h.size, h.block⟩
/-- A slice of numbers, in whatever memory. -/
def IntsV (w : World) (a : Option Addr) (l : List Int) : Prop := l ≠ [] → ∃ b off, a = some ⟨b, off, none⟩ ∧ ∀ k x, l[k]? = some x → w.cell? ⟨b, off + k, none⟩ = some (.int .i64 x)
theorem gen_world {P : Program} {c : Code} {Q : Exit → Act → World → Prop} {a : Act} {w : World} (R : World → Prop) (h : R w) (k : ∀ W, R W → c.wp P Q a W) : c.wp P Q a w := k w h
theorem withinB_true {n lo hi : Int} (h : withinB n lo hi = true) : lo ≤ n ∧ n ≤ hi := by simpa [withinB] using h
theorem addr_add (b o j : Nat) : (⟨b, o, none⟩ : Addr).add j = ⟨b, o + j, none⟩ := by unfold Addr.add; split <;> simp_all
theorem news_of (cs : List Value) (T : TypeId) (w : World) (g : Nat) (hg : g = w.heap.size) : ∀ j u, cs[j]? = some u → (w.alloc (.cells cs.toArray T)).cell? ((⟨g, 0, none⟩ : Addr).add j) = some u := by
 subst hg
 intro j u hj
 rw [addr_add, Nat.zero_add]
 unfold World.cell?
 rw [show (w.alloc (.cells cs.toArray T)).heap[w.heap.size]? = some (.cells cs.toArray T) from heap_alloc_new w _]
 simpa using hj
theorem own_block_lt {w : World} {base e k n : Nat} {v : Value} {xs : List Value} (h : w.ownsRow base e k v n xs) {j : Nat} (hj : v.ownBlock = some j) : j < w.heap.size := (h.lt j hj).2
/-- The first cells of a row of the call's own, as numbers. -/
theorem own_ints {w : World} {base e g n cap : Nat} {l r : List Int} (h : w.ownsRow base e 1 (.slice (some ⟨g, 0, none⟩) n cap) n ((l ++ r).map (Value.int .i64))) : IntsV w (some ⟨g, 0, none⟩) l := by
 refine fun _ => ⟨g, 0, rfl, fun k x hk => ?_⟩
 have := h.cells (g := g) rfl k (.int .i64 x) (by rw [List.getElem?_map, List.getElem?_append_left (List.getElem?_eq_some_iff.1 hk).1, hk]; rfl)
 have e1 : (⟨g, 0, none⟩ : Addr).add k = ⟨g, 0 + k, none⟩ := by unfold Addr.add; split <;> simp_all
 rw [e1] at this; exact this
theorem own_keep {w w' : World} {base e size n : Nat} {v : Value} {xs : List Value} (h : w.ownsRow base e size v n xs) (hb : Below w.heap.size w w') : w'.ownsRow base e size v n xs := by
 refine ⟨h.1, ?_⟩
 rcases h.2 with h0 | ⟨g, cap, cur, rfl, hbg, hblk, r⟩
 ·exact .inl h0
 ·exact .inr ⟨g, cap, cur, rfl, hbg, (hb.block g (Array.getElem?_eq_some_iff.1 hblk).1).trans hblk, r⟩
section
variable {α : Type} {enc : α → List Value} {k : Nat}
theorem flat_len (hk : ∀ x, (enc x).length = k) : ∀ l : List α, (l.flatMap enc).length = l.length * k
 | [] => by simp
 | a :: l => by rw [List.flatMap_cons, List.length_append, hk, flat_len hk l, List.length_cons, Nat.add_mul]; omega
theorem flat_get (hk : ∀ x, (enc x).length = k) : ∀ {l : List α} {i c : Nat} (hi : i < l.length), c < k → (l.flatMap enc)[i * k + c]? = (enc l[i])[c]?
 | [], _, _, hi, _ => absurd hi (by simp)
 | a :: l, 0, c, _, hc => by
  rw [List.flatMap_cons, Nat.zero_mul, Nat.zero_add, List.getElem?_append_left (by rw [hk]; exact hc)]; rfl
 | a :: l, i + 1, c, hi, hc => by
  have hi' : i < l.length := by simpa using hi
  rw [List.flatMap_cons, List.getElem?_append_right (by rw [hk, Nat.add_mul]; omega), hk, show (i + 1) * k + c - k = i * k + c by rw [Nat.add_mul]; omega, flat_get hk hi' hc]
  rfl
theorem own_cells {w : World} {base e n : Nat} {v : Value} {l : List α} (hk : ∀ x, (enc x).length = k) (h : w.ownsRow base e k v n (l.flatMap enc)) (hne : l ≠ []) (hk0 : 0 < k) :
    ∃ g cap, v = .slice (some ⟨g, 0, none⟩) n cap ∧ base ≤ g ∧ g < w.heap.size ∧ n = l.length ∧ n ≤ cap ∧ cap ≤ 9223372036854775807 ∧
     ∀ i (hi : i < l.length) c, c < k → w.cell? ⟨g, i * k + c, none⟩ = (enc l[i])[c]? ∧ w.frozen? ⟨g, i * k + c, none⟩ = false := by
 obtain ⟨hlen, h2⟩ := h
 rw [flat_len hk] at hlen
 have hn : l.length = n := Nat.eq_of_mul_eq_mul_right hk0 hlen
 rcases h2 with ⟨_, h0⟩ | ⟨g, cap, cur, rfl, hb, hblk, h1, h2, hs, ht⟩
 ·exact absurd (List.length_eq_zero_iff.1 (hn.trans h0)) hne
 ·refine ⟨g, cap, rfl, hb, (Array.getElem?_eq_some_iff.1 hblk).1, hn.symm, h1, h2, fun i hi c hc => ⟨?_, by simp [World.frozen?, hblk]⟩⟩
  have hlt : i * k + c < n * k := by
   have : i * k + k ≤ n * k := by have := Nat.mul_le_mul_right k (show i + 1 ≤ n by omega); rwa [Nat.add_mul, Nat.one_mul] at this
   omega
  have e1 : (cur.toList.take (n * k))[i * k + c]? = (l.flatMap enc)[i * k + c]? := by rw [ht]
  rw [List.getElem?_take, if_pos hlt, Array.getElem?_toList, flat_get hk hi hc] at e1
  simp only [World.cell?, hblk, Option.isSome_none, Bool.false_eq_true, if_false]
  exact e1
theorem own_rowV {R : World → Nat → Nat → α → Prop} {w : World} {base e n c : Nat} {a : Option Addr} {l : List α} (hk : ∀ x, (enc x).length = k) (hk0 : 0 < k)
    (hR : ∀ b o x, x ∈ l → (∀ j u, (enc x)[j]? = some u → w.cell? ⟨b, o + j, none⟩ = some u) → R w b o x) (h : w.ownsRow base e k (.slice a n c) n (l.flatMap enc)) : RowV k R w a l := by
 intro hne
 obtain ⟨g, cap, hv, _, _, _, _, _, hcell⟩ := own_cells hk h hne hk0
 injection hv with ha _ _
 refine ⟨g, 0, ha, fun i x hi => ?_⟩
 obtain ⟨hi', rfl⟩ := List.getElem?_eq_some_iff.1 hi
 refine hR _ _ _ (List.getElem_mem hi') fun j u hj => ?_
 have hjk : j < k := by rw [← hk l[i]]; exact (List.getElem?_eq_some_iff.1 hj).1
 rw [Nat.zero_add, (hcell i hi' j hjk).1, hj]
theorem own_len {w : World} {base e n : Nat} {v : Value} {l : List α} (hk : ∀ x, (enc x).length = k) (hk0 : 0 < k) (h : w.ownsRow base e k v n (l.flatMap enc)) : n = l.length := by
 have := h.1; rw [flat_len hk] at this; exact (Nat.eq_of_mul_eq_mul_right hk0 this).symm
theorem flat_set (hk : ∀ x, (enc x).length = k) : ∀ {l : List α} {i c : Nat} {x' : α} {u : Value} (hi : i < l.length), c < k → enc x' = (enc l[i]).set c u → (l.set i x').flatMap enc = (l.flatMap enc).set (i * k + c) u
 | [], _, _, _, _, hi, _, _ => absurd hi (by simp)
 | a :: l, 0, c, x', u, _, hc, hx => by
  simp only [List.set_cons_zero, List.flatMap_cons, Nat.zero_mul, Nat.zero_add]
  rw [List.set_append_left _ _ (by rw [hk]; exact hc), hx]; rfl
 | a :: l, i + 1, c, x', u, hi, hc, hx => by
  have hi' : i < l.length := by simpa using hi
  simp only [List.set_cons_succ, List.flatMap_cons]
  rw [List.set_append_right _ _ (by rw [hk, Nat.add_mul]; omega), hk, show (i + 1) * k + c - k = i * k + c by rw [Nat.add_mul]; omega, flat_set hk hi' hc (by simpa using hx)]
theorem own_setCell {w : World} {base e n g cap : Nat} {l : List α} {i c : Nat} {x' : α} {u : Value} (hk : ∀ x, (enc x).length = k) (h : w.ownsRow base e k (.slice (some ⟨g, 0, none⟩) n cap) n (l.flatMap enc)) (hk0 : 0 < k) (hi : i < l.length) (hc : c < k) (hx : enc x' = (enc l[i]).set c u) :
    (w.setCell ⟨g, i * k + c, none⟩ u).ownsRow base e k (.slice (some ⟨g, 0, none⟩) n cap) n ((l.set i x').flatMap enc) := by
 have hn := own_len hk hk0 h
 refine ⟨by rw [flat_len hk, List.length_set, hn], ?_⟩
 rcases h.2 with ⟨e0, _⟩ | ⟨g', cap', cur, e0, hb, hg, hnc, hm, hs, ht⟩
 ·cases e0
 ·injection e0 with e1 _ e3
  injection e1 with e1
  injection e1 with e1
  subst e1; subst e3
  refine .inr ⟨g, cap, cur.setIfInBounds (i * k + c) u, rfl, hb, ?_, hnc, hm, by simpa using hs, ?_⟩
  ·simp [World.setCell, Array.getElem?_modify, hg]
  ·rw [flat_set hk hi hc hx, ← ht, Array.toList_setIfInBounds, List.take_set]
end
theorem flat_one {α : Type} {enc : α → List Value} (h : ∀ x, ∀ v ∈ enc x, v.oneCell' = true) (l : List α) : ∀ v ∈ l.flatMap enc, v.oneCell' = true := by
 intro v hv
 obtain ⟨x, _, hx⟩ := List.mem_flatMap.1 hv
 exact h x v hx
theorem row_news {α : Type} {enc : α → List Value} {k : Nat} {R : World → Nat → Nat → α → Prop} {w : World} {b off : Nat} {l : List α} (hk : ∀ x, (enc x).length = k) (hk0 : 0 < k)
    (hR : ∀ b o x, R w b o x → ∀ c u, (enc x)[c]? = some u → w.cell? ⟨b, o + c, none⟩ = some u) (h : RowV k R w (some ⟨b, off, none⟩) l) : ∀ j u, (l.flatMap enc)[j]? = some u → w.cell? ((⟨b, off, none⟩ : Addr).add j) = some u := by
 intro j u hj
 have hjl : j < l.length * k := by rw [← flat_len hk]; exact (List.getElem?_eq_some_iff.1 hj).1
 have h1 : j / k < l.length := Nat.div_lt_of_lt_mul (by rwa [Nat.mul_comm])
 have h2 : j % k < k := Nat.mod_lt _ hk0
 have e1 : j / k * k + j % k = j := by rw [Nat.mul_comm]; exact Nat.div_add_mod j k
 have e2 := flat_get hk h1 h2
 rw [e1, hj] at e2
 obtain ⟨b', off', ha, hat⟩ := h.at_ h1
 injection ha with ha
 injection ha with hb ho
 subst hb ho
 have := hR _ _ _ hat _ _ e2.symm
 rw [addr_add, ← e1, ← Nat.add_assoc]
 exact this
theorem own_slice {w : World} {base e k n : Nat} {v : Value} {xs : List Value} (h : w.ownsRow base e k v n xs) : ∃ a c, v = .slice a n c ∧ n ≤ c ∧ c ≤ 9223372036854775807 := by
 rcases h.2 with ⟨rfl, rfl⟩ | ⟨g, cap, cur, rfl, _, _, h1, h2, _⟩
 ·exact ⟨none, 0, rfl, Nat.le_refl _, by omega⟩
 ·exact ⟨_, cap, rfl, h1, h2⟩
theorem own_mono {w : World} {base base' e k n : Nat} {v : Value} {xs : List Value} (h : w.ownsRow base e k v n xs) (hb : base' ≤ base) : w.ownsRow base' e k v n xs := by
 refine ⟨h.1, ?_⟩
 rcases h.2 with h0 | ⟨g, cap, cur, e1, h1, h2⟩
 ·exact .inl h0
 ·exact .inr ⟨g, cap, cur, e1, by omega, h2⟩
theorem grown_both {a b c : World} {row : Option Nat} (h : a.grownBy b row) (k : b.grownBy c row) : a.grownBy c row :=
 ⟨k.os.trans h.os, k.tape.trans h.tape, k.output.trans h.output, Nat.le_trans h.size k.size, fun i hi hne => (k.block i (Nat.lt_of_lt_of_le hi h.size) hne).trans (h.block i hi hne)⟩
theorem isNaN_any (x : Int) (w : World) : Calls Tryz.prog 127 #[.int .i64 x] w fun e w' => e = .returned (.bool false) ∧ w = w' := by
 go_enter Tryz.func127, Tryz.ntmps127
 go_wp2
 go_ret
 exact ⟨ret_bool (by simp), rfl⟩
def cmpI (x y : Int) : Int := if x < y then -1 else if y < x then 1 else 0
theorem compare_any (x y : Int) (w : World) : Calls Tryz.prog 90 #[.int .i64 x, .int .i64 y] w fun e w' => e = .returned (.int .i64 (cmpI x y)) ∧ w = w' := by
 go_enter Tryz.func90, Tryz.ntmps90
 go_wp2_with (go_at_call 127; refine (isNaN_any _ _).mono ?_; rintro e w' ⟨rfl, rfl⟩)
 all_goals (go_ret; exact ⟨ret_int (by unfold cmpI; split <;> (try split) <;> omega), rfl⟩)
theorem own_some {w : World} {base e k n : Nat} {v : Value} {xs : List Value} (h : w.ownsRow base e k v n xs) (hn : 0 < n) : ∃ g cap, v = .slice (some ⟨g, 0, none⟩) n cap ∧ base ≤ g ∧ g < w.heap.size := by
 rcases h.2 with ⟨rfl, h0⟩ | ⟨g, cap, cur, rfl, hb, hg, _⟩
 ·omega
 ·exact ⟨g, cap, rfl, hb, (Array.getElem?_eq_some_iff.1 hg).1⟩
end Go.Proofs.YtgjmfdhgeahdcaaGreat
/- Vectors, planes and points: what the small functions of the program return. -/
set_option linter.unusedVariables false
set_option linter.unusedSimpArgs false
namespace Go.Proofs.YtgjmfdhgeahdcaaGreat
open Go Go.RowKit Go.Sort Go.Lib

structure Vec where
 x : Int
 y : Int
 z : Int
deriving DecidableEq
def nrm (p : Pl) : Vec := ⟨p.a, p.b, p.c⟩
def crs (v w : Vec) : Vec := ⟨v.y * w.z - v.z * w.y, v.z * w.x - v.x * w.z, v.x * w.y - v.y * w.x⟩
def dt (v w : Vec) : Int := v.x * w.x + v.y * w.y + v.z * w.z
def opp (p : Pl) : Pl := ⟨-p.a, -p.b, -p.c, -p.d⟩
/-- Every number of a vector is at most B in size. -/
def Vec.in_ (B : Int) (v : Vec) : Prop := (-B ≤ v.x ∧ v.x ≤ B) ∧ (-B ≤ v.y ∧ v.y ≤ B) ∧ (-B ≤ v.z ∧ v.z ≤ B)
theorem mul_in {a b A B : Int} (h1 : -A ≤ a ∧ a ≤ A) (h2 : -B ≤ b ∧ b ≤ B) : -(A * B) ≤ a * b ∧ a * b ≤ A * B := by
 have hA : 0 ≤ A := by omega
 have hB : 0 ≤ B := by omega
 have k1 : 0 ≤ (A - a) * (B + b) := Int.mul_nonneg (by omega) (by omega)
 have k2 : 0 ≤ (A + a) * (B - b) := Int.mul_nonneg (by omega) (by omega)
 have k3 : 0 ≤ (A - a) * (B - b) := Int.mul_nonneg (by omega) (by omega)
 have k4 : 0 ≤ (A + a) * (B + b) := Int.mul_nonneg (by omega) (by omega)
 simp only [Int.sub_mul, Int.add_mul, Int.mul_sub, Int.mul_add] at k1 k2 k3 k4
 omega
set_option maxHeartbeats 1000000 in
theorem normal_any (p : Pl) (w : World) : Calls Tryz.prog 43 #[.agg #[.int .i64 p.a, .int .i64 p.b, .int .i64 p.c, .int .i64 p.d]] w fun e w' => e = .returned (.agg #[.int .i64 (nrm p).x, .int .i64 (nrm p).y, .int .i64 (nrm p).z]) ∧ Below w.heap.size w w' := by
 go_enter Tryz.func43, Tryz.ntmps43
 go_wp2_with fail
 exact bodyPost_ret (v := .agg #[.int .i64 p.a, .int .i64 p.b, .int .i64 p.c]) (by simp [results, Tryz.results43, go_sem]) rfl ⟨rfl, by repeat (first | (with_reducible assumption) | exact Below.refl _ _ | (refine Below.setCell ?_ (by first | omega | (simp; omega) | (simp; done)) _) | (refine Below.alloc ?_ (by first | omega | (simp; omega) | (simp; done)) _) | (refine Below.drew ?_))⟩
set_option maxHeartbeats 1000000 in
theorem opposite_any (p : Pl) (hp : (-1000000000000 ≤ p.a ∧ p.a ≤ 1000000000000) ∧ (-1000000000000 ≤ p.b ∧ p.b ≤ 1000000000000) ∧ (-1000000000000 ≤ p.c ∧ p.c ≤ 1000000000000) ∧ (-1000000000000 ≤ p.d ∧ p.d ≤ 1000000000000)) (w : World) : Calls Tryz.prog 81 #[.agg #[.int .i64 p.a, .int .i64 p.b, .int .i64 p.c, .int .i64 p.d]] w fun e w' => e = .returned (.agg #[.int .i64 (opp p).a, .int .i64 (opp p).b, .int .i64 (opp p).c, .int .i64 (opp p).d]) ∧ Below w.heap.size w w' := by
 obtain ⟨h1, h2, h3, h4⟩ := hp
 have v1 : IntKind.i64.wrap (-p.a) = -p.a := IntWalk.i64_in _ (by omega)
 have v2 : IntKind.i64.wrap (-p.b) = -p.b := IntWalk.i64_in _ (by omega)
 have v3 : IntKind.i64.wrap (-p.c) = -p.c := IntWalk.i64_in _ (by omega)
 have v4 : IntKind.i64.wrap (-p.d) = -p.d := IntWalk.i64_in _ (by omega)
 go_enter Tryz.func81, Tryz.ntmps81
 go_wp2_with fail
 exact bodyPost_ret (v := .agg #[.int .i64 (-p.a), .int .i64 (-p.b), .int .i64 (-p.c), .int .i64 (-p.d)]) (by simp [results, Tryz.results81, go_sem]) rfl ⟨rfl, by repeat (first | (with_reducible assumption) | exact Below.refl _ _ | (refine Below.setCell ?_ (by first | omega | (simp; omega) | (simp; done)) _) | (refine Below.alloc ?_ (by first | omega | (simp; omega) | (simp; done)) _) | (refine Below.drew ?_))⟩
/-- The cross product of two vectors of small numbers. -/
theorem cross_any (v u : Vec) (hv : v.in_ 100000) (hu : u.in_ 100000) (w : World) : Calls Tryz.prog 60 #[.agg #[.int .i64 v.x, .int .i64 v.y, .int .i64 v.z], .agg #[.int .i64 u.x, .int .i64 u.y, .int .i64 u.z]] w fun e w' => e = .returned (.agg #[.int .i64 (crs v u).x, .int .i64 (crs v u).y, .int .i64 (crs v u).z]) ∧ Below w.heap.size w w' := by
 obtain ⟨a1, a2, a3⟩ := hv
 obtain ⟨b1, b2, b3⟩ := hu
 obtain ⟨p1, hp1⟩ : ∃ p, p = v.y * u.z := ⟨_, rfl⟩
 obtain ⟨p2, hp2⟩ : ∃ p, p = v.z * u.y := ⟨_, rfl⟩
 obtain ⟨p3, hp3⟩ : ∃ p, p = v.z * u.x := ⟨_, rfl⟩
 obtain ⟨p4, hp4⟩ : ∃ p, p = v.x * u.z := ⟨_, rfl⟩
 obtain ⟨p5, hp5⟩ : ∃ p, p = v.x * u.y := ⟨_, rfl⟩
 obtain ⟨p6, hp6⟩ : ∃ p, p = v.y * u.x := ⟨_, rfl⟩
 have i1 := mul_in a2 b3
 have i2 := mul_in a3 b2
 have i3 := mul_in a3 b1
 have i4 := mul_in a1 b3
 have i5 := mul_in a1 b2
 have i6 := mul_in a2 b1
 have HV := Lib.hid (show crs v u = ⟨p1 - p2, p3 - p4, p5 - p6⟩ by rw [hp1, hp2, hp3, hp4, hp5, hp6]; rfl)
 rw [← hp1] at i1; rw [← hp2] at i2; rw [← hp3] at i3; rw [← hp4] at i4; rw [← hp5] at i5; rw [← hp6] at i6
 have w1 : IntKind.i64.wrap (v.y * u.z) = p1 := by rw [← hp1]; exact IntWalk.i64_in _ (by omega)
 have w2 : IntKind.i64.wrap (v.z * u.y) = p2 := by rw [← hp2]; exact IntWalk.i64_in _ (by omega)
 have w3 : IntKind.i64.wrap (v.z * u.x) = p3 := by rw [← hp3]; exact IntWalk.i64_in _ (by omega)
 have w4 : IntKind.i64.wrap (v.x * u.z) = p4 := by rw [← hp4]; exact IntWalk.i64_in _ (by omega)
 have w5 : IntKind.i64.wrap (v.x * u.y) = p5 := by rw [← hp5]; exact IntWalk.i64_in _ (by omega)
 have w6 : IntKind.i64.wrap (v.y * u.x) = p6 := by rw [← hp6]; exact IntWalk.i64_in _ (by omega)
 have d1 : IntKind.i64.wrap (p1 - p2) = p1 - p2 := IntWalk.i64_in _ (by omega)
 have d2 : IntKind.i64.wrap (p3 - p4) = p3 - p4 := IntWalk.i64_in _ (by omega)
 have d3 : IntKind.i64.wrap (p5 - p6) = p5 - p6 := IntWalk.i64_in _ (by omega)
 clear hp1 hp2 hp3 hp4 hp5 hp6 i1 i2 i3 i4 i5 i6 a1 a2 a3 b1 b2 b3
 rw [HV.out]
 go_enter Tryz.func60, Tryz.ntmps60
 go_wp2_with fail
 exact bodyPost_ret (v := .agg #[.int .i64 (p1 - p2), .int .i64 (p3 - p4), .int .i64 (p5 - p6)]) (by simp [results, Tryz.results60, go_sem]) rfl ⟨rfl, by repeat (first | (with_reducible assumption) | exact Below.refl _ _ | (refine Below.setCell ?_ (by first | omega | (simp; omega) | (simp; done)) _) | (refine Below.alloc ?_ (by first | omega | (simp; omega) | (simp; done)) _) | (refine Below.drew ?_))⟩
theorem dot_any (v u : Vec) (A B : Int) (hv : v.in_ A) (hu : u.in_ B) (hAB : A * B ≤ 1000000000000000) (w : World) : Calls Tryz.prog 61 #[.agg #[.int .i64 v.x, .int .i64 v.y, .int .i64 v.z], .agg #[.int .i64 u.x, .int .i64 u.y, .int .i64 u.z]] w fun e w' => e = .returned (.int .i64 (dt v u)) ∧ Below w.heap.size w w' := by
 obtain ⟨a1, a2, a3⟩ := hv
 obtain ⟨b1, b2, b3⟩ := hu
 have i1 := mul_in a1 b1
 have i2 := mul_in a2 b2
 have i3 := mul_in a3 b3
 generalize A * B = M at *
 obtain ⟨p1, hp1⟩ : ∃ p, p = v.x * u.x := ⟨_, rfl⟩
 obtain ⟨p2, hp2⟩ : ∃ p, p = v.y * u.y := ⟨_, rfl⟩
 obtain ⟨p3, hp3⟩ : ∃ p, p = v.z * u.z := ⟨_, rfl⟩
 have HV := Lib.hid (show dt v u = p1 + p2 + p3 by rw [hp1, hp2, hp3]; rfl)
 rw [← hp1] at i1; rw [← hp2] at i2; rw [← hp3] at i3
 have w1 : IntKind.i64.wrap (v.x * u.x) = p1 := by rw [← hp1]; exact IntWalk.i64_in _ (by omega)
 have w2 : IntKind.i64.wrap (v.y * u.y) = p2 := by rw [← hp2]; exact IntWalk.i64_in _ (by omega)
 have w3 : IntKind.i64.wrap (v.z * u.z) = p3 := by rw [← hp3]; exact IntWalk.i64_in _ (by omega)
 have d1 : IntKind.i64.wrap (p1 + p2) = p1 + p2 := IntWalk.i64_in _ (by omega)
 have d2 : IntKind.i64.wrap (p1 + p2 + p3) = p1 + p2 + p3 := IntWalk.i64_in _ (by omega)
 clear hp1 hp2 hp3 i1 i2 i3 a1 a2 a3 b1 b2 b3
 rw [HV.out]
 go_enter Tryz.func61, Tryz.ntmps61
 go_wp2_with fail
 go_ret
 exact ⟨rfl, by repeat (first | (with_reducible assumption) | exact Below.refl _ _ | (refine Below.setCell ?_ (by first | omega | (simp; omega) | (simp; done)) _) | (refine Below.alloc ?_ (by first | omega | (simp; omega) | (simp; done)) _) | (refine Below.drew ?_))⟩
end Go.Proofs.YtgjmfdhgeahdcaaGreat
/- The greatest common divisor of numbers, lowest forms, where a point lies at a plane. -/
set_option linter.unusedVariables false
set_option linter.unusedSimpArgs false
namespace Go.Proofs.YtgjmfdhgeahdcaaGreat
open Go Go.RowKit Go.Sort Go.Lib

theorem tmod_nat (a b : Nat) : (a : Int).tmod (b : Int) = ((a % b : Nat) : Int) := (Int.ofNat_tmod a b).symm
def gcdL (g : Nat) (l : List Int) : Nat := l.foldl (fun g n => Nat.gcd g n.natAbs) g
theorem gcdL_le {B : Nat} : ∀ {l : List Int} {g : Nat}, g ≤ B → (∀ x ∈ l, x.natAbs ≤ B) → gcdL g l ≤ B
 | [], _, h, _ => h
 | x :: l, g, h, hl => by
  unfold gcdL
  rw [List.foldl_cons]
  refine gcdL_le (l := l) ?_ fun y hy => hl y (List.mem_cons_of_mem _ hy)
  have hx := hl x List.mem_cons_self
  by_cases h0 : g = 0
  ·subst h0; rw [Nat.gcd_zero_left]; exact hx
  ·exact Nat.le_trans (Nat.gcd_le_left _ (by omega)) h
theorem gcdL_take {l : List Int} {k : Nat} (hk : k < l.length) (g : Nat) : gcdL g (l.take (k + 1)) = Nat.gcd (gcdL g (l.take k)) (l[k]).natAbs := by
 unfold gcdL
 rw [List.take_succ_eq_append_getElem hk, List.foldl_append]; rfl
set_option maxRecDepth 100000 in
set_option maxHeartbeats 2000000 in
theorem gcd_any (a : Option Addr) (l : List Int) (c : Nat) (w : World) (hv : IntsV w a l) (hl : l.length ≤ 100) (hb : ∀ x ∈ l, -1000000000000 ≤ x ∧ x ≤ 1000000000000) :
    Calls Tryz.prog 18 #[.slice a l.length c] w fun e w' => e = .returned (.int .i64 ((gcdL 0 l : Nat) : Int)) ∧ Below w.heap.size w w' := by
 have HB := Lib.hid hb
 have hG : ∀ k, gcdL 0 (l.take k) ≤ 1000000000000 := fun k => gcdL_le (by omega) fun x hx => by have := hb x (List.mem_of_mem_take hx); omega
 have HG := Lib.hid hG
 clear hb hG
 go_enter Tryz.func18, Tryz.ntmps18
 go_wp2_with fail
 go_loopw [3, 8] (fun gv iv wr => ∃ k : Nat, k ≤ l.length ∧ iv = .int .i64 (k : Int) ∧ gv = .int .i64 ((gcdL 0 (l.take k) : Nat) : Int) ∧ Below w.heap.size w wr) (fun _ iv _ => l.length - (intOf iv).toNat)
 case atStart => exact ⟨0, Nat.zero_le _, rfl, rfl, Below.refl _ _⟩
 case round =>
  obtain ⟨k, hk, rfl, rfl, hbr⟩ := hrel
  have HBR := Lib.hid hbr
  by_cases hlt : k < l.length
  ·have hki : (k : Int) < (l.length : Int) := by omega
   have hx := HB.out _ (List.getElem_mem hlt)
   have hg := HG.out k
   have HT := Lib.hid (gcdL_take hlt 0)
   obtain ⟨b, off, ha, hc⟩ := hv (by intro e; subst e; simp at hlt)
   subst ha
   have c0 := cell_keep hbr (hc k _ (List.getElem?_eq_getElem hlt))
   have v1 : IntKind.i64.wrap ((k : Int) + 1) = (k : Int) + 1 := IntWalk.i64_in _ (by omega)
   clear hc hbr
   generalize l[k] = x at *
   obtain ⟨n, hn⟩ : ∃ n : Nat, n = x.natAbs := ⟨_, rfl⟩
   have hnb : n ≤ 1000000000000 := by omega
   rw [← hn] at HT
   generalize gcdL 0 (l.take k) = g at *
   by_cases hneg : x < 0
   ·obtain rfl : x = -(n : Int) := by omega
    have hc1 : -(n : Int) < - -(n : Int) := by omega
    have v2 : IntKind.i64.wrap (- -(n : Int)) = (n : Int) := by rw [Int.neg_neg]; exact IntWalk.i64_in _ (by omega)
    have hnn : - -(n : Int) = (n : Int) := Int.neg_neg _
    clear hn hx hneg
    go_wp2_with fail
    go_loopw [3, 5] (fun x y wq => ∃ a b : Nat, x = .int .i64 (a : Int) ∧ y = .int .i64 (b : Int) ∧ a ≤ 1000000000000 ∧ b ≤ 1000000000000 ∧ Hid (Nat.gcd g n = Nat.gcd a b) ∧ Below w.heap.size w wq) (fun _ y _ => (intOf y).toNat)
    case atStart => exact ⟨g, n, rfl, rfl, hg, hnb, Lib.hid rfl, HBR.out⟩
    case round =>
     obtain ⟨a, b, rfl, rfl, ha, hb, HGG, hbw⟩ := hrel
     by_cases h0 : b = 0
     ·subst h0
      have HE := Lib.hid (show Nat.gcd g n = a by rw [HGG.out, Nat.gcd_zero_right])
      clear HGG
      go_wp2_with fail
      go_roundw
      case rel => exact ⟨k + 1, by omega, by go_num, by rw [HT.out, HE.out], hbw⟩
      case measure => first | (simp [intOf]; done) | (simp [intOf]; omega)
     ·have hpos : 1 ≤ b := by omega
      have hltm := Nat.mod_lt a (show b > 0 by omega)
      have HS := Lib.hid (show Nat.gcd g n = Nat.gcd b (a % b) by rw [HGG.out, Nat.gcd_comm, Nat.gcd_rec, Nat.gcd_comm])
      have HR := Lib.hid (show ((a % b : Nat) : Int) = (a : Int) % (b : Int) by omega)
      clear HGG
      go_wp2_with fail
      go_quiet (fail)
      go_wp2_with fail
      go_roundw
      case rel => exact ⟨b, a % b, rfl, by rw [HR.out], by omega, by omega, HS, below_drewN hbw _⟩
      case measure =>
       have := HR.out
       simp only [intOf]
       omega
   ·obtain rfl : x = (n : Int) := by omega
    have hc1 : ¬ ((n : Int) < -(n : Int)) := by omega
    have v2 : IntKind.i64.wrap (-(n : Int)) = -(n : Int) := IntWalk.i64_in _ (by omega)
    clear hn hx hneg
    go_wp2_with fail
    go_loopw [3, 5] (fun x y wq => ∃ a b : Nat, x = .int .i64 (a : Int) ∧ y = .int .i64 (b : Int) ∧ a ≤ 1000000000000 ∧ b ≤ 1000000000000 ∧ Hid (Nat.gcd g n = Nat.gcd a b) ∧ Below w.heap.size w wq) (fun _ y _ => (intOf y).toNat)
    case atStart => exact ⟨g, n, rfl, rfl, hg, hnb, Lib.hid rfl, HBR.out⟩
    case round =>
     obtain ⟨a, b, rfl, rfl, ha, hb, HGG, hbw⟩ := hrel
     by_cases h0 : b = 0
     ·subst h0
      have HE := Lib.hid (show Nat.gcd g n = a by rw [HGG.out, Nat.gcd_zero_right])
      clear HGG
      go_wp2_with fail
      go_roundw
      case rel => exact ⟨k + 1, by omega, by go_num, by rw [HT.out, HE.out], hbw⟩
      case measure => first | (simp [intOf]; done) | (simp [intOf]; omega)
     ·have hpos : 1 ≤ b := by omega
      have hltm := Nat.mod_lt a (show b > 0 by omega)
      have HS := Lib.hid (show Nat.gcd g n = Nat.gcd b (a % b) by rw [HGG.out, Nat.gcd_comm, Nat.gcd_rec, Nat.gcd_comm])
      have HR := Lib.hid (show ((a % b : Nat) : Int) = (a : Int) % (b : Int) by omega)
      clear HGG
      go_wp2_with fail
      go_quiet (fail)
      go_wp2_with fail
      go_roundw
      case rel => exact ⟨b, a % b, rfl, by rw [HR.out], by omega, by omega, HS, below_drewN hbw _⟩
      case measure =>
       have := HR.out
       simp only [intOf]
       omega
  ·obtain rfl : k = l.length := by omega
   have hki : ¬ ((l.length : Nat) : Int) < ((l.length : Nat) : Int) := by omega
   rw [List.take_length]
   go_wp2_with fail
   go_ret
   exact ⟨rfl, HBR.out⟩
end Go.Proofs.YtgjmfdhgeahdcaaGreat
/- Points in lowest form, and their order (plain). -/
set_option linter.unusedVariables false
set_option linter.unusedSimpArgs false
namespace Go.Proofs.YtgjmfdhgeahdcaaGreat

/-- The first of some numbers that is not 0. -/
def orL : List Int → Int
 | [] => 0
 | x :: l => if x ≠ 0 then x else orL l
def vec (c : Co) : Vec := ⟨c.x, c.y, c.z⟩
/-- Where a point lies at a plane. -/
def sd (p : Pl) (c : Co) : Int := cmpI (dt (nrm p) (vec c)) (p.d * c.n)
def g4 (a b c d : Int) : Nat := gcdL 0 [a, b, c, d]
theorem g4_eq (a b c d : Int) : g4 a b c d = Nat.gcd (Nat.gcd (Nat.gcd a.natAbs b.natAbs) c.natAbs) d.natAbs := by
 unfold g4 gcdL; simp
/-- A point in lowest form. -/
def pnt (v : Vec) (den : Int) : Co :=
 let g : Int := if den < 0 then -(g4 v.x v.y v.z den : Int) else (g4 v.x v.y v.z den : Int)
 ⟨v.x.tdiv g, v.y.tdiv g, v.z.tdiv g, den.tdiv g⟩
def det (p q r : Pl) : Int := dt (crs (nrm p) (nrm q)) (nrm r)
def mtv (p q r : Pl) : Vec :=
 let x := crs (nrm q) (nrm r); let y := crs (nrm r) (nrm p); let z := crs (nrm p) (nrm q)
 ⟨p.d * x.x + q.d * y.x + r.d * z.x, p.d * x.y + q.d * y.y + r.d * z.y, p.d * x.z + q.d * y.z + r.d * z.z⟩
/-- The point of three planes. -/
def mt (p q r : Pl) : Co := pnt (mtv p q r) (det p q r)
/-- A point with a positive denominator, in lowest form. -/
structure Low (c : Co) : Prop where
 pos : 0 < c.n
 one : g4 c.x c.y c.z c.n = 1
theorem g4_dvd (a b c d : Int) : ((g4 a b c d : Nat) : Int) ∣ a ∧ ((g4 a b c d : Nat) : Int) ∣ b ∧ ((g4 a b c d : Nat) : Int) ∣ c ∧ ((g4 a b c d : Nat) : Int) ∣ d := by
 rw [g4_eq]
 refine ⟨?_, ?_, ?_, ?_⟩ <;> rw [Int.ofNat_dvd_left]
 ·exact Nat.dvd_trans (Nat.gcd_dvd_left _ _) (Nat.dvd_trans (Nat.gcd_dvd_left _ _) (Nat.gcd_dvd_left _ _))
 ·exact Nat.dvd_trans (Nat.gcd_dvd_left _ _) (Nat.dvd_trans (Nat.gcd_dvd_left _ _) (Nat.gcd_dvd_right _ _))
 ·exact Nat.dvd_trans (Nat.gcd_dvd_left _ _) (Nat.gcd_dvd_right _ _)
 ·exact Nat.gcd_dvd_right _ _
theorem g4_pos {a b c d : Int} (h : d ≠ 0) : 0 < g4 a b c d := by
 rw [g4_eq]; exact Nat.gcd_pos_of_pos_right _ (by omega)
theorem g4_mul (a b c d : Int) (k : Int) : g4 (a * k) (b * k) (c * k) (d * k) = g4 a b c d * k.natAbs := by
 rw [g4_eq, g4_eq]
 simp only [Int.natAbs_mul, Nat.gcd_mul_right]
/-- A point's numbers times its divisor. -/
theorem pnt_spec {v : Vec} {den : Int} (h : den ≠ 0) : ∃ g : Int, g ≠ 0 ∧ v.x = (pnt v den).x * g ∧ v.y = (pnt v den).y * g ∧ v.z = (pnt v den).z * g ∧ den = (pnt v den).n * g ∧ (0 < den ↔ 0 < g) := by
 obtain ⟨d1, d2, d3, d4⟩ := g4_dvd v.x v.y v.z den
 have hp := g4_pos (a := v.x) (b := v.y) (c := v.z) h
 unfold pnt
 generalize g4 v.x v.y v.z den = G at *
 have hG : (G : Int) ≠ 0 := by omega
 by_cases hn : den < 0
 ·simp only [if_pos hn]
  refine ⟨-(G : Int), by omega, ?_, ?_, ?_, ?_, by omega⟩
  ·exact (Int.tdiv_mul_cancel (Int.neg_dvd.2 d1)).symm
  ·exact (Int.tdiv_mul_cancel (Int.neg_dvd.2 d2)).symm
  ·exact (Int.tdiv_mul_cancel (Int.neg_dvd.2 d3)).symm
  ·exact (Int.tdiv_mul_cancel (Int.neg_dvd.2 d4)).symm
 ·simp only [if_neg hn]
  refine ⟨(G : Int), by omega, ?_, ?_, ?_, ?_, by omega⟩
  ·exact (Int.tdiv_mul_cancel d1).symm
  ·exact (Int.tdiv_mul_cancel d2).symm
  ·exact (Int.tdiv_mul_cancel d3).symm
  ·exact (Int.tdiv_mul_cancel d4).symm
theorem pnt_low {v : Vec} {den : Int} (h : den ≠ 0) : Low (pnt v den) := by
 obtain ⟨g, hg, e1, e2, e3, e4, hs⟩ := pnt_spec (v := v) h
 have hpos : 0 < (pnt v den).n := by
  rcases Int.lt_trichotomy (pnt v den).n 0 with hlt | heq | hgt
  ·by_cases h0 : 0 < g
   ·have h1 : 0 < den := hs.2 h0
    have h2 : 0 < -(pnt v den).n * g := Int.mul_pos (by omega) h0
    rw [Int.neg_mul] at h2
    omega
   ·have h1 : ¬ 0 < den := fun q => h0 (hs.1 q)
    have h2 : 0 < -(pnt v den).n * -g := Int.mul_pos (by omega) (by omega)
    rw [Int.neg_mul_neg] at h2
    omega
  ·rw [heq, Int.zero_mul] at e4; exact absurd e4 h
  ·exact hgt
 refine ⟨hpos, ?_⟩
 have h1 : g4 v.x v.y v.z den = g4 (pnt v den).x (pnt v den).y (pnt v den).z (pnt v den).n * g.natAbs := by
  rw [← g4_mul, ← e1, ← e2, ← e3, ← e4]
 have h2 : g.natAbs = g4 v.x v.y v.z den := by
  have e5 : den = (pnt v den).n * (if den < 0 then -(g4 v.x v.y v.z den : Int) else (g4 v.x v.y v.z den : Int)) := by
   obtain ⟨-, -, -, d4⟩ := g4_dvd v.x v.y v.z den
   unfold pnt
   simp only
   split
   ·exact (Int.tdiv_mul_cancel (Int.neg_dvd.2 d4)).symm
   ·exact (Int.tdiv_mul_cancel d4).symm
  have e6 : (pnt v den).n * g = (pnt v den).n * (if den < 0 then -(g4 v.x v.y v.z den : Int) else (g4 v.x v.y v.z den : Int)) := by rw [← e4]; exact e5
  have e7 := Int.eq_of_mul_eq_mul_left (by omega) e6
  rw [e7]
  split <;> omega
 have h3 : 0 < g.natAbs := by omega
 rw [← h2] at h1
 exact Nat.eq_of_mul_eq_mul_right h3 (by omega)
/-- The order of points. -/
def cmpP (a b : Co) : Int := orL [cmpI (a.x * b.n) (b.x * a.n), cmpI (a.y * b.n) (b.y * a.n), cmpI (a.z * b.n) (b.z * a.n)]
theorem low_same {a b : Co} (ha : Low a) (hb : Low b) (hx : a.x * b.n = b.x * a.n) (hy : a.y * b.n = b.y * a.n) (hz : a.z * b.n = b.z * a.n) : a = b := by
 have h1 := g4_mul a.x a.y a.z a.n b.n
 have h2 := g4_mul b.x b.y b.z b.n a.n
 rw [ha.one, hx, hy, hz, Int.mul_comm a.n b.n] at h1
 rw [hb.one, h1] at h2
 have pa := ha.pos
 have pb := hb.pos
 have hn : a.n = b.n := by omega
 have hne : b.n ≠ 0 := by omega
 rw [hn] at hx hy hz
 have ex := Int.eq_of_mul_eq_mul_right hne hx
 have ey := Int.eq_of_mul_eq_mul_right hne hy
 have ez := Int.eq_of_mul_eq_mul_right hne hz
 cases a; cases b
 simp only at *
 subst ex ey ez hn
 rfl
theorem cmpI_zero {x y : Int} : cmpI x y = 0 ↔ x = y := by
 unfold cmpI
 by_cases h1 : x < y
 ·rw [if_pos h1]; omega
 ·rw [if_neg h1]
  by_cases h2 : y < x
  ·rw [if_pos h2]; omega
  ·rw [if_neg h2]; omega
theorem cmpI_neg {x y : Int} : cmpI x y < 0 ↔ x < y := by
 unfold cmpI
 by_cases h1 : x < y
 ·rw [if_pos h1]; omega
 ·rw [if_neg h1]
  by_cases h2 : y < x
  ·rw [if_pos h2]; omega
  ·rw [if_neg h2]; omega
theorem orL3_neg {a b c : Int} : orL [a, b, c] < 0 ↔ a < 0 ∨ (a = 0 ∧ (b < 0 ∨ (b = 0 ∧ c < 0))) := by
 simp only [orL]
 by_cases h1 : a = 0
 ·by_cases h2 : b = 0
  ·by_cases h3 : c = 0
   ·simp [h1, h2, h3]
   ·simp [h1, h2, h3]
  ·simp [h1, h2]
 ·simp [h1]
def ltP (a b : Co) : Prop := a.x * b.n < b.x * a.n ∨ (a.x * b.n = b.x * a.n ∧ (a.y * b.n < b.y * a.n ∨ (a.y * b.n = b.y * a.n ∧ a.z * b.n < b.z * a.n)))
instance (a b : Co) : Decidable (ltP a b) := by unfold ltP; infer_instance
theorem cmpP_neg {a b : Co} : cmpP a b < 0 ↔ ltP a b := by
 unfold cmpP ltP
 rw [orL3_neg, cmpI_zero, cmpI_zero, cmpI_neg, cmpI_neg, cmpI_neg]
theorem frac_trans {a b c p q r : Int} (hp : 0 < p) (hq : 0 < q) (hr : 0 < r) : (a * q < b * p → b * r < c * q → a * r < c * p) ∧ (a * q = b * p → b * r < c * q → a * r < c * p) ∧ (a * q < b * p → b * r = c * q → a * r < c * p) ∧ (a * q = b * p → b * r = c * q → a * r = c * p) := by
 have e : ∀ u v : Int, (u * q < v * q ↔ u < v) := fun u v => by
  constructor
  ·intro h; exact Int.lt_of_mul_lt_mul_right h (by omega)
  ·intro h; exact Int.mul_lt_mul_of_pos_right h hq
 have l1 : a * r * q = a * q * r := by rw [Int.mul_assoc, Int.mul_comm r q, ← Int.mul_assoc]
 have l2 : c * p * q = c * q * p := by rw [Int.mul_assoc, Int.mul_comm p q, ← Int.mul_assoc]
 have l3 : b * p * r = b * r * p := by rw [Int.mul_assoc, Int.mul_comm p r, ← Int.mul_assoc]
 refine ⟨fun h1 h2 => ?_, fun h1 h2 => ?_, fun h1 h2 => ?_, fun h1 h2 => ?_⟩
 ·have k1 := Int.mul_lt_mul_of_pos_right h1 hr
  have k2 := Int.mul_lt_mul_of_pos_right h2 hp
  exact (e _ _).1 (by omega)
 ·have k1 : a * q * r = b * p * r := by rw [h1]
  have k2 := Int.mul_lt_mul_of_pos_right h2 hp
  exact (e _ _).1 (by omega)
 ·have k1 := Int.mul_lt_mul_of_pos_right h1 hr
  have k2 : b * r * p = c * q * p := by rw [h2]
  exact (e _ _).1 (by omega)
 ·have k1 : a * q * r = b * p * r := by rw [h1]
  have k2 : b * r * p = c * q * p := by rw [h2]
  have : a * r * q = c * p * q := by omega
  exact Int.eq_of_mul_eq_mul_right (by omega) this
theorem ltP_irrefl (a : Co) : ¬ ltP a a := by unfold ltP; omega
theorem ltP_trans {a b c : Co} (ha : 0 < a.n) (hb : 0 < b.n) (hc : 0 < c.n) (h1 : ltP a b) (h2 : ltP b c) : ltP a c := by
 obtain ⟨x1, x2, x3, x4⟩ := frac_trans (a := a.x) (b := b.x) (c := c.x) ha hb hc
 obtain ⟨y1, y2, y3, y4⟩ := frac_trans (a := a.y) (b := b.y) (c := c.y) ha hb hc
 obtain ⟨z1, z2, z3, z4⟩ := frac_trans (a := a.z) (b := b.z) (c := c.z) ha hb hc
 unfold ltP at *
 rcases h1 with h1 | ⟨e1, h1 | ⟨f1, h1⟩⟩ <;> rcases h2 with h2 | ⟨e2, h2 | ⟨f2, h2⟩⟩
 ·exact .inl (x1 h1 h2)
 ·exact .inl (x3 h1 e2)
 ·exact .inl (x3 h1 e2)
 ·exact .inl (x2 e1 h2)
 ·exact .inr ⟨x4 e1 e2, .inl (y1 h1 h2)⟩
 ·exact .inr ⟨x4 e1 e2, .inl (y3 h1 f2)⟩
 ·exact .inl (x2 e1 h2)
 ·exact .inr ⟨x4 e1 e2, .inl (y2 f1 h2)⟩
 ·exact .inr ⟨x4 e1 e2, .inr ⟨y4 f1 f2, z1 h1 h2⟩⟩
theorem ltP_total {a b : Co} (ha : Low a) (hb : Low b) : ltP a b ∨ a = b ∨ ltP b a := by
 by_cases e : a = b
 ·exact .inr (.inl e)
 ·have h : ¬ (a.x * b.n = b.x * a.n ∧ a.y * b.n = b.y * a.n ∧ a.z * b.n = b.z * a.n) := fun ⟨h1, h2, h3⟩ => e (low_same ha hb h1 h2 h3)
  unfold ltP
  omega
end Go.Proofs.YtgjmfdhgeahdcaaGreat
/- Where a point lies at a plane; the point of three planes. -/
set_option linter.unusedVariables false
set_option linter.unusedSimpArgs false
namespace Go.Proofs.YtgjmfdhgeahdcaaGreat
open Go Go.RowKit Go.Sort Go.Lib

/-- The numbers of planes that the program works with. -/
def Pl.in_ (p : Pl) : Prop := (nrm p).in_ 8 ∧ (-10000000 ≤ p.d ∧ p.d ≤ 10000000)
/-- The numbers of points. -/
def Co.in_ (c : Co) : Prop := (vec c).in_ 4000000000 ∧ (-5000 ≤ c.n ∧ c.n ≤ 5000)
theorem Vec.in_.mono {A B : Int} {v : Vec} (h : v.in_ A) (hAB : A ≤ B) : v.in_ B := by unfold Vec.in_ at *; omega
set_option maxRecDepth 100000 in
set_option maxHeartbeats 2000000 in
theorem side_any (p : Pl) (c : Co) (hp : p.in_) (hc : c.in_) (w : World) : Calls Tryz.prog 67 #[.agg #[.int .i64 p.a, .int .i64 p.b, .int .i64 p.c, .int .i64 p.d], .agg #[.int .i64 c.x, .int .i64 c.y, .int .i64 c.z, .int .i64 c.n]] w fun e w' => e = .returned (.int .i64 (sd p c)) ∧ Below w.heap.size w w' := by
 obtain ⟨hn, hd⟩ := hp
 obtain ⟨hv, hcn⟩ := hc
 have hdn := mul_in hd hcn
 obtain ⟨m, hm⟩ : ∃ m, m = p.d * c.n := ⟨_, rfl⟩
 rw [← hm] at hdn
 have hw : IntKind.i64.wrap (p.d * c.n) = m := by rw [← hm]; exact IntWalk.i64_in _ (by omega)
 have HS := Lib.hid (show sd p c = cmpI (dt (nrm p) (vec c)) m by unfold sd; rw [← hm])
 rw [HS.out]
 have HD := Lib.hid (fun w => dot_any (nrm p) (vec c) 8 4000000000 hn hv (by decide) w)
 clear hm hdn hn hv hd hcn HS
 obtain ⟨pa, pb, pc, pd⟩ := p
 obtain ⟨cx, cy, cz, cn⟩ := c
 simp only at hw
 go_enter Tryz.func67, Tryz.ntmps67
 go_upto_region 1 with fail
 refine gen_world (fun W => ((W.cell? ⟨w.heap.size, 0, none⟩ = some (.int .i64 pa) ∧ W.cell? ⟨w.heap.size, 1, none⟩ = some (.int .i64 pb) ∧ W.cell? ⟨w.heap.size, 2, none⟩ = some (.int .i64 pc) ∧ W.cell? ⟨w.heap.size, 3, none⟩ = some (.int .i64 pd)) ∧
  (W.cell? ⟨w.heap.size + 1, 0, none⟩ = some (.int .i64 cx) ∧ W.cell? ⟨w.heap.size + 1, 1, none⟩ = some (.int .i64 cy) ∧ W.cell? ⟨w.heap.size + 1, 2, none⟩ = some (.int .i64 cz) ∧ W.cell? ⟨w.heap.size + 1, 3, none⟩ = some (.int .i64 cn))) ∧ Below w.heap.size w W ∧ w.heap.size + 1 < W.heap.size) ⟨⟨by simp [go_sem], by simp [go_sem]⟩, by repeat (first | (with_reducible assumption) | exact Below.refl _ _ | (refine Below.setCell ?_ (by first | omega | (simp; omega) | (simp; done)) _) | (refine Below.alloc ?_ (by first | omega | (simp; omega) | (simp; done)) _) | (refine Below.drew ?_)), by simp⟩ ?_
 rintro W ⟨⟨⟨p0, p1, p2, p3⟩, c0, c1, c2, c3⟩, hb, hz⟩
 have HB := Lib.hid hb
 clear hb
 obtain ⟨gp, hgp⟩ : ∃ g, g = w.heap.size := ⟨_, rfl⟩
 have HGP := Lib.hid hgp
 rw [← hgp] at p0 p1 p2 p3 c0 c1 c2 c3 hz HB ⊢
 clear hgp
 have hz0 : gp < W.heap.size := by omega
 refine wp_region_grew (by kernel_rfl) (by kernel_rfl) ?_
 repeat (first
  | go_big_quiet_step (first
   | (go_at_call 43; exact grew_of (normal_any ⟨pa, pb, pc, pd⟩ _))
   | (go_at_call 61; exact grew_of (HD.out _))
   | (go_at_call 90; exact grew_of_same (compare_any _ _ _)))
  | quiet_step (first
   | (go_at_call 43; exact grew_of (normal_any ⟨pa, pb, pc, pd⟩ _))
   | (go_at_call 61; exact grew_of (HD.out _))
   | (go_at_call 90; exact grew_of_same (compare_any _ _ _))))
 refine wpQuiet_nil ?_
 rintro _ ⟨gg, rfl⟩
 go_wp2_with fail
 go_ret
 exact ⟨rfl, by rw [← HGP.out]; exact grewB HB.out (by omega) _⟩
end Go.Proofs.YtgjmfdhgeahdcaaGreat
/- The orders of points and of planes. -/
set_option linter.unusedVariables false
set_option linter.unusedSimpArgs false
namespace Go.Proofs.YtgjmfdhgeahdcaaGreat
open Go Go.RowKit Go.Sort Go.Lib

/-- New memory alone, and some draws more. -/
structure Bd (w w' : World) : Prop where
 b : Below w.heap.size w w'
 d : w.drawn ≤ w'.drawn
theorem Bd.refl (w : World) : Bd w w := ⟨Below.refl _ _, Nat.le_refl _⟩
theorem Bd.trans {a b c : World} (h : Bd a b) (k : Bd b c) : Bd a c := ⟨h.b.trans (k.b.mono h.b.size), Nat.le_trans h.d k.d⟩
theorem Bd.drew (w : World) : Bd w w.drew := ⟨(Below.refl _ _).drew, Nat.le_succ _⟩
theorem Bd.alloc (w : World) (o : Obj) : Bd w (w.alloc o) := ⟨(Below.refl _ _).alloc (Nat.le_refl _) _, Nat.le_refl _⟩
/-- As the sort of the library asks for it. -/
theorem Bd.grow {w w' : World} (h : Bd w w') : ∃ q os', w' = Go.Sort.grow (w.drewN q) os' := by
 obtain ⟨g, rfl⟩ := below_grew h.b
 have hd := h.d
 refine ⟨g.n - w.drawn, g.objs, ?_⟩
 simp only [grew] at hd ⊢
 simp only [Go.Sort.grow, World.drewN, World.mk.injEq, true_and, and_true]
 omega
theorem ints_alloc (W : World) (l : List Int) (T : TypeId) : IntsV (W.alloc (.cells (l.map (Value.int .i64)).toArray T)) (some ⟨W.heap.size, 0, none⟩) l := by
 intro _
 refine ⟨W.heap.size, 0, rfl, fun k x hk => ?_⟩
 simp [go_sem, hk]
theorem orL_drop {l : List Int} {k : Nat} (hk : k < l.length) : orL (l.drop k) = if l[k] ≠ 0 then l[k] else orL (l.drop (k + 1)) := by
 rw [List.drop_eq_getElem_cons hk, orL]
set_option maxHeartbeats 2000000 in
theorem or_list (a : Option Addr) (l : List Int) (c : Nat) (w : World) (hv : IntsV w a l) (hl : l.length ≤ 100) :
    Calls Tryz.prog 89 #[.slice a l.length c] w fun e w' => e = .returned (.int .i64 (orL l)) ∧ Bd w w' := by
 go_enter Tryz.func89, Tryz.ntmps89
 go_wp2_with fail
 go_loopw [8] (fun iv wr => ∃ k : Nat, k ≤ l.length ∧ iv = .int .i64 (k : Int) ∧ Hid (orL l = orL (l.drop k)) ∧ Bd w wr) (fun iv _ => l.length - (intOf iv).toNat)
 case atStart => exact ⟨0, Nat.zero_le _, rfl, Lib.hid (by rw [List.drop_zero]), Bd.refl _⟩
 case round =>
  obtain ⟨k, hk, rfl, HO, hbd⟩ := hrel
  have HBR := Lib.hid hbd
  have hbr := hbd.b
  clear hbd
  by_cases hlt : k < l.length
  ·have hki : (k : Int) < (l.length : Int) := by omega
   have HT := Lib.hid (orL_drop hlt)
   obtain ⟨b, off, ha, hc⟩ := hv (by intro e; subst e; simp at hlt)
   subst ha
   have c0 := cell_keep hbr (hc k _ (List.getElem?_eq_getElem hlt))
   have v1 : IntKind.i64.wrap ((k : Int) + 1) = (k : Int) + 1 := IntWalk.i64_in _ (by omega)
   clear hc hbr
   generalize l[k] = x at *
   by_cases hx : x = 0
   ·subst hx
    have HE := Lib.hid (show orL l = orL (l.drop (k + 1)) by rw [HO.out, HT.out, if_neg (by simp)])
    clear HO HT
    go_wp2_with fail
    go_roundw
    case rel => exact ⟨k + 1, by omega, by go_num, HE, HBR.out⟩
    case measure => first | (simp [intOf]; done) | (simp [intOf]; omega)
   ·have HE := Lib.hid (show orL l = x by rw [HO.out, HT.out, if_pos hx])
    have hne : (x != 0) = true := by simpa using hx
    clear HO HT
    go_wp2_with fail
    go_ret
    exact ⟨ret_int HE.out.symm, HBR.out⟩
  ·obtain rfl : k = l.length := by omega
   have hki : ¬ ((l.length : Nat) : Int) < ((l.length : Nat) : Int) := by omega
   have HE := Lib.hid (show orL l = 0 by rw [HO.out, List.drop_length]; rfl)
   go_wp2_with fail
   go_ret
   exact ⟨ret_int HE.out.symm, HBR.out⟩
set_option maxRecDepth 100000 in
set_option maxHeartbeats 4000000 in
theorem comparePoints_any (a b : Co) (ha : a.in_) (hb : b.in_) (w : World) : Calls Tryz.prog 65 #[.agg #[.int .i64 a.x, .int .i64 a.y, .int .i64 a.z, .int .i64 a.n], .agg #[.int .i64 b.x, .int .i64 b.y, .int .i64 b.z, .int .i64 b.n]] w fun e w' => e = .returned (.int .i64 (cmpP a b)) ∧ Bd w w' := by
 obtain ⟨⟨a1, a2, a3⟩, a4⟩ := ha
 obtain ⟨⟨b1, b2, b3⟩, b4⟩ := hb
 unfold cmpP
 obtain ⟨ax, ay, az, an⟩ := a
 obtain ⟨bx, yb, bz, bn⟩ := b
 simp only [vec] at a1 a2 a3 a4 b1 b2 b3 b4
 have m1 := mul_in a1 b4
 have m2 := mul_in b1 a4
 have m3 := mul_in a2 b4
 have m4 := mul_in b2 a4
 have m5 := mul_in a3 b4
 have m6 := mul_in b3 a4
 have v1 : IntKind.i64.wrap (ax * bn) = ax * bn := IntWalk.i64_in _ (by omega)
 have v2 : IntKind.i64.wrap (bx * an) = bx * an := IntWalk.i64_in _ (by omega)
 have v3 : IntKind.i64.wrap (ay * bn) = ay * bn := IntWalk.i64_in _ (by omega)
 have v4 : IntKind.i64.wrap (yb * an) = yb * an := IntWalk.i64_in _ (by omega)
 have v5 : IntKind.i64.wrap (az * bn) = az * bn := IntWalk.i64_in _ (by omega)
 have v6 : IntKind.i64.wrap (bz * an) = bz * an := IntWalk.i64_in _ (by omega)
 clear m1 m2 m3 m4 m5 m6 a1 a2 a3 a4 b1 b2 b3 b4
 go_enter Tryz.func65, Tryz.ntmps65
 go_upto_region 1 with fail
 refine gen_world (fun W => ((W.cell? ⟨w.heap.size, 0, none⟩ = some (.int .i64 ax) ∧ W.cell? ⟨w.heap.size, 1, none⟩ = some (.int .i64 ay) ∧ W.cell? ⟨w.heap.size, 2, none⟩ = some (.int .i64 az) ∧ W.cell? ⟨w.heap.size, 3, none⟩ = some (.int .i64 an)) ∧
  (W.cell? ⟨w.heap.size + 1, 0, none⟩ = some (.int .i64 bx) ∧ W.cell? ⟨w.heap.size + 1, 1, none⟩ = some (.int .i64 yb) ∧ W.cell? ⟨w.heap.size + 1, 2, none⟩ = some (.int .i64 bz) ∧ W.cell? ⟨w.heap.size + 1, 3, none⟩ = some (.int .i64 bn))) ∧ Bd w W ∧ w.heap.size + 1 < W.heap.size) ⟨⟨⟨by simp [go_sem], by simp [go_sem], by simp [go_sem], by simp [go_sem]⟩, by simp [go_sem], by simp [go_sem], by simp [go_sem], by simp [go_sem]⟩, (Bd.alloc _ _).trans (Bd.alloc _ _), by simp⟩ ?_
 rintro W ⟨⟨⟨p0, p1, p2, p3⟩, c0, c1, c2, c3⟩, hb, hz⟩
 have HB := Lib.hid hb
 clear hb
 obtain ⟨gp, hgp⟩ : ∃ g, g = w.heap.size := ⟨_, rfl⟩
 have HGP := Lib.hid hgp
 rw [← hgp] at p0 p1 p2 p3 c0 c1 c2 c3 hz
 clear hgp
 have hmix : Tryz.prog.follows .mixedOrders = true := by kernel_rfl
 have kx0 : ∀ y : KW (fun W' => Bd W W'), (y.w.cell? ⟨gp, 0, none⟩ = some (.int .i64 ax) ∧ y.w.cell? ⟨gp, 1, none⟩ = some (.int .i64 ay) ∧ y.w.cell? ⟨gp, 2, none⟩ = some (.int .i64 az) ∧ y.w.cell? ⟨gp, 3, none⟩ = some (.int .i64 an)) := fun y => ⟨cell_keep y.ok.b p0, cell_keep y.ok.b p1, cell_keep y.ok.b p2, cell_keep y.ok.b p3⟩
 have kx1 : ∀ y : KW (fun W' => Bd W W'), (y.w.cell? ⟨gp + 1, 0, none⟩ = some (.int .i64 bx) ∧ y.w.cell? ⟨gp + 1, 1, none⟩ = some (.int .i64 yb) ∧ y.w.cell? ⟨gp + 1, 2, none⟩ = some (.int .i64 bz) ∧ y.w.cell? ⟨gp + 1, 3, none⟩ = some (.int .i64 bn)) := fun y => ⟨cell_keep y.ok.b c0, cell_keep y.ok.b c1, cell_keep y.ok.b c2, cell_keep y.ok.b c3⟩
 haveI n1 : Nonempty (KW (fun W' => Bd W W')) := ⟨⟨W, Bd.refl _⟩⟩
 rw [show w.heap.size = gp from HGP.out.symm]
 clear p0 p1 p2 p3 c0 c1 c2 c3
 refine wp_region_tree (fun w' => ∃ y : KW (fun W' => Bd W W'), w' = y.w) 32 (.take 0 (.take 1 (.take 2 (.take 3 (.take 4 (.take 5 (.take 6 (.take 7 (.take 8 (.take 9 (.take 11 (.take 12 (.take 13 (.take 14 (.take 15 (.take 16 (.take 17 (.take 18 (.take 19 (.take 20 (.take 22 (.take 23 (.take 24 (.take 25 (.take 26 (.take 27 (.take 28 (.take 29 (.take 30 (.take 31 (.one 10 (.one 21 .done)))))))))))))))))))))))))))))))) hmix (by kernel_rfl) (KW.mk' (Bd.drew _)) ?_
 have HB4 := Lib.hid (show Bd W W.drew from Bd.drew _)
 generalize W.drew = w4 at *
 have hz4 := HB4.out.b.size
 repeat (refine wpTree_take ?_; simp only [nthOp]; (first | go_big_quiet_step (fail) | quiet_step (fail)); refine wpQuiet_nil ?_)
 refine wpTree_one ?_
 simp only [nthOp]
 go_wp2_with (go_at_call 90; refine (compare_any _ _ _).mono ?_; rintro e w' ⟨rfl, rfl⟩)
 refine One_mk (KW.mk' HB4.out) ?_
 refine wpTree_one ?_
 simp only [nthOp]
 go_wp2_with (go_at_call 90; refine (compare_any _ _ _).mono ?_; rintro e w' ⟨rfl, rfl⟩)
 refine One_mk (KW.mk' HB4.out) ?_
 refine wpTree_done ?_
 simp only [List.drop_succ_cons, List.drop_zero]
 go_wp2_with (first
  | (go_at_call 90; refine (compare_any _ _ _).mono ?_; rintro e w' ⟨rfl, rfl⟩)
  | (go_at_call 89; refine (or_list _ [cmpI (ax * bn) (bx * an), cmpI (ay * bn) (yb * an), cmpI (az * bn) (bz * an)] _ _ (ints_alloc _ _ _) (by simp)).mono ?_; rintro e w5 ⟨rfl, hb⟩; have HB5 := Lib.hid hb; clear hb))
 refine NP_mk ?_
 go_wp2_with fail
 go_ret
 exact ⟨rfl, HB.out.trans (HB4.out.trans ((Bd.alloc _ _).trans HB5.out))⟩
/-- The order of planes. -/
def cmpL (p q : Pl) : Int := orL [cmpI p.a q.a, cmpI p.b q.b, cmpI p.c q.c, cmpI p.d q.d]
set_option maxRecDepth 100000 in
set_option maxHeartbeats 4000000 in
theorem comparePlanes_any (p q : Pl) (w : World) : Calls Tryz.prog 70 #[.agg #[.int .i64 p.a, .int .i64 p.b, .int .i64 p.c, .int .i64 p.d], .agg #[.int .i64 q.a, .int .i64 q.b, .int .i64 q.c, .int .i64 q.d]] w fun e w' => e = .returned (.int .i64 (cmpL p q)) ∧ Bd w w' := by
 unfold cmpL
 obtain ⟨ax, ay, az, an⟩ := p
 obtain ⟨bx, yb, bz, bn⟩ := q
 go_enter Tryz.func70, Tryz.ntmps70
 go_upto_region 1 with fail
 refine gen_world (fun W => ((W.cell? ⟨w.heap.size, 0, none⟩ = some (.int .i64 ax) ∧ W.cell? ⟨w.heap.size, 1, none⟩ = some (.int .i64 ay) ∧ W.cell? ⟨w.heap.size, 2, none⟩ = some (.int .i64 az) ∧ W.cell? ⟨w.heap.size, 3, none⟩ = some (.int .i64 an)) ∧
  (W.cell? ⟨w.heap.size + 1, 0, none⟩ = some (.int .i64 bx) ∧ W.cell? ⟨w.heap.size + 1, 1, none⟩ = some (.int .i64 yb) ∧ W.cell? ⟨w.heap.size + 1, 2, none⟩ = some (.int .i64 bz) ∧ W.cell? ⟨w.heap.size + 1, 3, none⟩ = some (.int .i64 bn))) ∧ Bd w W ∧ w.heap.size + 1 < W.heap.size) ⟨⟨⟨by simp [go_sem], by simp [go_sem], by simp [go_sem], by simp [go_sem]⟩, by simp [go_sem], by simp [go_sem], by simp [go_sem], by simp [go_sem]⟩, (Bd.alloc _ _).trans (Bd.alloc _ _), by simp⟩ ?_
 rintro W ⟨⟨⟨p0, p1, p2, p3⟩, c0, c1, c2, c3⟩, hb, hz⟩
 have HB := Lib.hid hb
 clear hb
 obtain ⟨gp, hgp⟩ : ∃ g, g = w.heap.size := ⟨_, rfl⟩
 have HGP := Lib.hid hgp
 rw [← hgp] at p0 p1 p2 p3 c0 c1 c2 c3 hz
 clear hgp
 have hmix : Tryz.prog.follows .mixedOrders = true := by kernel_rfl
 have kx0 : ∀ y : KW (fun W' => Bd W W'), (y.w.cell? ⟨gp, 0, none⟩ = some (.int .i64 ax) ∧ y.w.cell? ⟨gp, 1, none⟩ = some (.int .i64 ay) ∧ y.w.cell? ⟨gp, 2, none⟩ = some (.int .i64 az) ∧ y.w.cell? ⟨gp, 3, none⟩ = some (.int .i64 an)) := fun y => ⟨cell_keep y.ok.b p0, cell_keep y.ok.b p1, cell_keep y.ok.b p2, cell_keep y.ok.b p3⟩
 have kx1 : ∀ y : KW (fun W' => Bd W W'), (y.w.cell? ⟨gp + 1, 0, none⟩ = some (.int .i64 bx) ∧ y.w.cell? ⟨gp + 1, 1, none⟩ = some (.int .i64 yb) ∧ y.w.cell? ⟨gp + 1, 2, none⟩ = some (.int .i64 bz) ∧ y.w.cell? ⟨gp + 1, 3, none⟩ = some (.int .i64 bn)) := fun y => ⟨cell_keep y.ok.b c0, cell_keep y.ok.b c1, cell_keep y.ok.b c2, cell_keep y.ok.b c3⟩
 haveI n1 : Nonempty (KW (fun W' => Bd W W')) := ⟨⟨W, Bd.refl _⟩⟩
 rw [show w.heap.size = gp from HGP.out.symm]
 clear p0 p1 p2 p3 c0 c1 c2 c3
 refine wp_region_tree (fun w' => ∃ y : KW (fun W' => Bd W W'), w' = y.w) 19 (.take 0 (.take 1 (.take 2 (.take 3 (.take 5 (.take 6 (.take 7 (.take 8 (.take 10 (.take 11 (.take 12 (.take 13 (.take 15 (.take 16 (.take 17 (.take 18 (.one 4 (.one 9 (.one 14 .done))))))))))))))))))) hmix (by kernel_rfl) (KW.mk' (Bd.drew _)) ?_
 have HB4 := Lib.hid (show Bd W W.drew from Bd.drew _)
 generalize W.drew = w4 at *
 have hz4 := HB4.out.b.size
 repeat (refine wpTree_take ?_; simp only [nthOp]; (first | go_big_quiet_step (fail) | quiet_step (fail)); refine wpQuiet_nil ?_)
 refine wpTree_one ?_
 simp only [nthOp]
 go_wp2_with (go_at_call 90; refine (compare_any _ _ _).mono ?_; rintro e w' ⟨rfl, rfl⟩)
 refine One_mk (KW.mk' HB4.out) ?_
 refine wpTree_one ?_
 simp only [nthOp]
 go_wp2_with (go_at_call 90; refine (compare_any _ _ _).mono ?_; rintro e w' ⟨rfl, rfl⟩)
 refine One_mk (KW.mk' HB4.out) ?_
 refine wpTree_one ?_
 simp only [nthOp]
 go_wp2_with (go_at_call 90; refine (compare_any _ _ _).mono ?_; rintro e w' ⟨rfl, rfl⟩)
 refine One_mk (KW.mk' HB4.out) ?_
 refine wpTree_done ?_
 simp only [List.drop_succ_cons, List.drop_zero]
 go_wp2_with (first
  | (go_at_call 90; refine (compare_any _ _ _).mono ?_; rintro e w' ⟨rfl, rfl⟩)
  | (go_at_call 89; refine (or_list _ [cmpI ax bx, cmpI ay yb, cmpI az bz, cmpI an bn] _ _ (ints_alloc _ _ _) (by simp)).mono ?_; rintro e w5 ⟨rfl, hb⟩; have HB5 := Lib.hid hb; clear hb))
 refine NP_mk ?_
 go_wp2_with fail
 go_ret
 exact ⟨rfl, HB.out.trans (HB4.out.trans ((Bd.alloc _ _).trans HB5.out))⟩
end Go.Proofs.YtgjmfdhgeahdcaaGreat
/- The lowest form of a plane and of a point. -/
set_option linter.unusedVariables false
set_option linter.unusedSimpArgs false
namespace Go.Proofs.YtgjmfdhgeahdcaaGreat
open Go Go.RowKit Go.Sort Go.Lib

theorem frozen_keep {w w' : World} {p : Addr} {b : Bool} (hb : Below w.heap.size w w') (hp : p.block < w.heap.size) (h : w.frozen? p = b) : w'.frozen? p = b := (hb.frozen hp).trans h
theorem tdiv_in {a s B : Int} (h : -B ≤ a ∧ a ≤ B) : -B ≤ a.tdiv s ∧ a.tdiv s ≤ B := by
 have := Int.natAbs_tdiv_le_natAbs a s
 omega
def PntCut (W0 : World) (s : Int) (u : Nat → Value) (W : World) : Prop := u 5 = .int .i64 s ∧ W = W0
def lowL (p : Pl) : Pl := ⟨p.a.tdiv (g4 p.a p.b p.c p.d), p.b.tdiv (g4 p.a p.b p.c p.d), p.c.tdiv (g4 p.a p.b p.c p.d), p.d.tdiv (g4 p.a p.b p.c p.d)⟩
set_option maxRecDepth 100000 in
set_option maxHeartbeats 4000000 in
theorem lowest_any (p : Pl) (hp : p.in_) (h0 : g4 p.a p.b p.c p.d ≠ 0) (w : World) : Calls Tryz.prog 68 #[.agg #[.int .i64 p.a, .int .i64 p.b, .int .i64 p.c, .int .i64 p.d]] w fun e w' => e = .returned (.agg #[.int .i64 (lowL p).a, .int .i64 (lowL p).b, .int .i64 (lowL p).c, .int .i64 (lowL p).d]) ∧ Below w.heap.size w w' := by
 obtain ⟨⟨h1, h2, h3⟩, h4⟩ := hp
 obtain ⟨G, hG⟩ : ∃ G, G = g4 p.a p.b p.c p.d := ⟨_, rfl⟩
 rw [← hG] at h0
 obtain ⟨pa, pb, pc, pd⟩ := p
 simp only [nrm] at h1 h2 h3 h4 hG
 have HGV := Lib.hid (show ((gcdL 0 [pa, pb, pc, pd] : Nat) : Int) = (G : Int) by rw [hG]; rfl)
 have HRV := Lib.hid (show (Ending.returned (.agg #[.int .i64 (pa.tdiv (G : Int)), .int .i64 (pb.tdiv (G : Int)), .int .i64 (pc.tdiv (G : Int)), .int .i64 (pd.tdiv (G : Int))])) = .returned (.agg #[.int .i64 (lowL ⟨pa, pb, pc, pd⟩).a, .int .i64 (lowL ⟨pa, pb, pc, pd⟩).b, .int .i64 (lowL ⟨pa, pb, pc, pd⟩).c, .int .i64 (lowL ⟨pa, pb, pc, pd⟩).d]) by unfold lowL; simp only; rw [← hG])
 have HBD := Lib.hid (show ∀ x ∈ [pa, pb, pc, pd], -1000000000000 ≤ x ∧ x ≤ 1000000000000 by intro x hx; simp only [List.mem_cons, List.not_mem_nil, or_false] at hx; rcases hx with rfl | rfl | rfl | rfl <;> omega)
 have e1 := tdiv_in (s := (G : Int)) h1
 have e2 := tdiv_in (s := (G : Int)) h2
 have e3 := tdiv_in (s := (G : Int)) h3
 have e4 := tdiv_in (s := (G : Int)) h4
 have v1 : IntKind.i64.wrap (pa.tdiv (G : Int)) = pa.tdiv (G : Int) := IntWalk.i64_in _ (by omega)
 have v2 : IntKind.i64.wrap (pb.tdiv (G : Int)) = pb.tdiv (G : Int) := IntWalk.i64_in _ (by omega)
 have v3 : IntKind.i64.wrap (pc.tdiv (G : Int)) = pc.tdiv (G : Int) := IntWalk.i64_in _ (by omega)
 have v4 : IntKind.i64.wrap (pd.tdiv (G : Int)) = pd.tdiv (G : Int) := IntWalk.i64_in _ (by omega)
 have hs0 : ¬ (G : Int) = 0 := by omega
 have hs1 : ((G : Int) == 0) = false := by simpa using hs0
 clear e1 e2 e3 e4 h1 h2 h3 h4 hG
 go_enter Tryz.func68, Tryz.ntmps68
 go_upto_region 1 with fail
 refine gen_world (fun W => (((W.cell? ⟨w.heap.size, 0, none⟩ = some (.int .i64 pa) ∧ W.cell? ⟨w.heap.size, 1, none⟩ = some (.int .i64 pb) ∧ W.cell? ⟨w.heap.size, 2, none⟩ = some (.int .i64 pc) ∧ W.cell? ⟨w.heap.size, 3, none⟩ = some (.int .i64 pd))) ∧ ((W.cell? ⟨w.heap.size + 1, 0, none⟩ = some (.int .i64 0) ∧ W.cell? ⟨w.heap.size + 1, 1, none⟩ = some (.int .i64 0) ∧ W.cell? ⟨w.heap.size + 1, 2, none⟩ = some (.int .i64 0) ∧ W.cell? ⟨w.heap.size + 1, 3, none⟩ = some (.int .i64 0)) ∧ (W.frozen? ⟨w.heap.size + 1, 0, none⟩ = false ∧ W.frozen? ⟨w.heap.size + 1, 1, none⟩ = false ∧ W.frozen? ⟨w.heap.size + 1, 2, none⟩ = false ∧ W.frozen? ⟨w.heap.size + 1, 3, none⟩ = false))) ∧ Below w.heap.size w W ∧ w.heap.size + 1 < W.heap.size) ⟨⟨⟨by simp [go_sem], by simp [go_sem], by simp [go_sem], by simp [go_sem]⟩, ⟨by simp [go_sem], by simp [go_sem], by simp [go_sem], by simp [go_sem]⟩, by simp [go_sem], by simp [go_sem], by simp [go_sem], by simp [go_sem]⟩, by repeat (first | (with_reducible assumption) | exact Below.refl _ _ | (refine Below.setCell ?_ (by first | omega | (simp; omega) | (simp; done)) _) | (refine Below.alloc ?_ (by first | omega | (simp; omega) | (simp; done)) _) | (refine Below.drew ?_)), by simp⟩ ?_
 rintro W ⟨⟨⟨p0, p1, p2, p3⟩, ⟨z0, z1, z2, z3⟩, f0, f1, f2, f3⟩, hb, hz⟩
 have HB := Lib.hid hb
 clear hb
 obtain ⟨gp, hgp⟩ : ∃ g, g = w.heap.size := ⟨_, rfl⟩
 have HGP := Lib.hid hgp
 rw [← hgp] at p0 p1 p2 p3 z0 z1 z2 z3 f0 f1 f2 f3 hz
 rw [show w.heap.size = gp from hgp.symm]
 clear hgp
 have hmix : Tryz.prog.follows .mixedOrders = true := by kernel_rfl
 go_upto_region 2 with (go_at_call 18; refine (gcd_any _ [pa, pb, pc, pd] _ _ (ints_alloc _ _ _) (by simp) HBD.out).mono ?_; rintro e w5 ⟨rfl, hb⟩; have HB5 := Lib.hid (((Below.refl _ _).alloc (Nat.le_refl _) _).trans (hb.mono (by simp))); clear hb)
 rw [HGV.out]
 have p0 := cell_keep HB5.out p0
 have p1 := cell_keep HB5.out p1
 have p2 := cell_keep HB5.out p2
 have p3 := cell_keep HB5.out p3
 have z0 := cell_keep HB5.out z0
 have z1 := cell_keep HB5.out z1
 have z2 := cell_keep HB5.out z2
 have z3 := cell_keep HB5.out z3
 have f0 := frozen_keep HB5.out (by simp only; omega) f0
 have f1 := frozen_keep HB5.out (by simp only; omega) f1
 have f2 := frozen_keep HB5.out (by simp only; omega) f2
 have f3 := frozen_keep HB5.out (by simp only; omega) f3
 have hz5 := HB5.out.size
 have hz6 : gp + 1 < w5.heap.size := by omega
 have kx0 : ∀ y : KW (fun W' => Below w5.heap.size w5 W'), (y.w.cell? ⟨gp, 0, none⟩ = some (.int .i64 pa) ∧ y.w.cell? ⟨gp, 1, none⟩ = some (.int .i64 pb) ∧ y.w.cell? ⟨gp, 2, none⟩ = some (.int .i64 pc) ∧ y.w.cell? ⟨gp, 3, none⟩ = some (.int .i64 pd)) := fun y => ⟨cell_keep y.ok p0, cell_keep y.ok p1, cell_keep y.ok p2, cell_keep y.ok p3⟩
 haveI n1 : Nonempty (KW (fun W' => Below w5.heap.size w5 W')) := ⟨⟨w5, Below.refl _ _⟩⟩
 clear p0 p1 p2 p3
 refine wp_region_tree (fun w' => ∃ y : KW (fun W' => Below w5.heap.size w5 W'), w' = y.w) 16 (.take 0 (.take 1 (.take 2 (.take 3 (.take 4 (.take 5 (.take 6 (.take 7 (.take 8 (.take 9 (.take 10 (.take 11 (.take 12 (.take 13 (.take 14 (.take 15 .done)))))))))))))))) hmix (by kernel_rfl) (KW.mk' (Below.refl _ _).drew) ?_
 have HB6 := Lib.hid (show Below w5.heap.size w5 w5.drew from (Below.refl _ _).drew)
 generalize w5.drew = w6 at *
 have hz7 := HB6.out.size
 repeat (refine wpTree_take ?_; simp only [nthOp]; (first | go_big_quiet_step (fail) | quiet_step (fail)); refine wpQuiet_nil ?_)
 have z0 := cell_keep HB6.out z0
 have z1 := cell_keep HB6.out z1
 have z2 := cell_keep HB6.out z2
 have z3 := cell_keep HB6.out z3
 have f0 := frozen_keep HB6.out (by simp only; omega) f0
 have f1 := frozen_keep HB6.out (by simp only; omega) f1
 have f2 := frozen_keep HB6.out (by simp only; omega) f2
 have f3 := frozen_keep HB6.out (by simp only; omega) f3
 have HF := Lib.hid (HB.out.trans ((HB5.out.trans (HB6.out.mono HB5.out.size)).mono HB.out.size))
 refine wpTree_done ?_
 simp only [List.drop_succ_cons, List.drop_zero]
 go_wp2_with fail
 refine NP_mk ?_
 go_wp2_with fail
 exact bodyPost_ret (v := .agg #[.int .i64 ((pa).tdiv (G : Int)), .int .i64 ((pb).tdiv (G : Int)), .int .i64 ((pc).tdiv (G : Int)), .int .i64 ((pd).tdiv (G : Int))]) (by simp [results, Tryz.results68, go_sem, z0, z1, z2, z3]) rfl ⟨HRV.out, by repeat (first | exact HF.out | (refine Below.setCell ?_ (by have := HGP.out; simp only; omega) _))⟩
theorem g4_le {a b c d B : Int} (h0 : 0 ≤ B) (h1 : -B ≤ a ∧ a ≤ B) (h2 : -B ≤ b ∧ b ≤ B) (h3 : -B ≤ c ∧ c ≤ B) (h4 : -B ≤ d ∧ d ≤ B) : ((g4 a b c d : Nat) : Int) ≤ B := by
 have h := gcdL_le (B := B.toNat) (l := [a, b, c, d]) (g := 0) (by omega) fun x hx => by
  simp only [List.mem_cons, List.not_mem_nil, or_false] at hx
  rcases hx with rfl | rfl | rfl | rfl <;> omega
 unfold g4
 omega
set_option maxRecDepth 100000 in
set_option maxHeartbeats 8000000 in
theorem point_any (v : Vec) (den : Int) (hv : v.in_ 4000000000) (hd : -5000 ≤ den ∧ den ≤ 5000) (hd0 : den ≠ 0) (w : World) : Calls Tryz.prog 87 #[.agg #[.int .i64 v.x, .int .i64 v.y, .int .i64 v.z], .int .i64 den] w fun e w' => e = .returned (.agg #[.int .i64 (pnt v den).x, .int .i64 (pnt v den).y, .int .i64 (pnt v den).z, .int .i64 (pnt v den).n]) ∧ Below w.heap.size w w' := by
 obtain ⟨h1, h2, h3⟩ := hv
 obtain ⟨G, hG⟩ : ∃ G, G = g4 v.x v.y v.z den := ⟨_, rfl⟩
 have hG0 := g4_pos (a := v.x) (b := v.y) (c := v.z) hd0
 have hG1 := g4_le (B := 4000000000) (by omega) h1 h2 h3 (d := den) (by omega)
 rw [← hG] at hG0 hG1
 obtain ⟨vx, vy, vz⟩ := v
 simp only at h1 h2 h3 hG
 obtain ⟨s, hs⟩ : ∃ s : Int, s = if den < 0 then -(G : Int) else (G : Int) := ⟨_, rfl⟩
 have HGV := Lib.hid (show ((gcdL 0 [vx, vy, vz, den] : Nat) : Int) = (G : Int) by rw [hG]; rfl)
 have HRV := Lib.hid (show (Ending.returned (.agg #[.int .i64 (vx.tdiv s), .int .i64 (vy.tdiv s), .int .i64 (vz.tdiv s), .int .i64 (den.tdiv s)])) = .returned (.agg #[.int .i64 (pnt ⟨vx, vy, vz⟩ den).x, .int .i64 (pnt ⟨vx, vy, vz⟩ den).y, .int .i64 (pnt ⟨vx, vy, vz⟩ den).z, .int .i64 (pnt ⟨vx, vy, vz⟩ den).n]) by unfold pnt; simp only; rw [← hG, ← hs])
 have HBD := Lib.hid (show ∀ x ∈ [vx, vy, vz, den], -1000000000000 ≤ x ∧ x ≤ 1000000000000 by intro x hx; simp only [List.mem_cons, List.not_mem_nil, or_false] at hx; rcases hx with rfl | rfl | rfl | rfl <;> omega)
 have e1 := tdiv_in (s := s) h1
 have e2 := tdiv_in (s := s) h2
 have e3 := tdiv_in (s := s) h3
 have e4 := tdiv_in (s := s) hd
 have v1 : IntKind.i64.wrap (vx.tdiv s) = vx.tdiv s := IntWalk.i64_in _ (by omega)
 have v2 : IntKind.i64.wrap (vy.tdiv s) = vy.tdiv s := IntWalk.i64_in _ (by omega)
 have v3 : IntKind.i64.wrap (vz.tdiv s) = vz.tdiv s := IntWalk.i64_in _ (by omega)
 have v4 : IntKind.i64.wrap (den.tdiv s) = den.tdiv s := IntWalk.i64_in _ (by omega)
 have v5 : IntKind.i64.wrap (-(G : Int)) = -(G : Int) := IntWalk.i64_in _ (by omega)
 have hs0 : ¬ s = 0 := by rw [hs]; split <;> omega
 have hs1 : (s == 0) = false := by simpa using hs0
 have HS := Lib.hid hs
 clear e1 e2 e3 e4 h1 h2 h3 hG hs hG1 hd
 go_enter Tryz.func87, Tryz.ntmps87
 go_upto_region 1 with fail
 refine gen_world (fun W => (((W.cell? ⟨w.heap.size, 0, none⟩ = some (.int .i64 vx) ∧ W.cell? ⟨w.heap.size, 1, none⟩ = some (.int .i64 vy) ∧ W.cell? ⟨w.heap.size, 2, none⟩ = some (.int .i64 vz))) ∧ ((W.cell? ⟨w.heap.size + 1, 0, none⟩ = some (.int .i64 0) ∧ W.cell? ⟨w.heap.size + 1, 1, none⟩ = some (.int .i64 0) ∧ W.cell? ⟨w.heap.size + 1, 2, none⟩ = some (.int .i64 0) ∧ W.cell? ⟨w.heap.size + 1, 3, none⟩ = some (.int .i64 0)) ∧ (W.frozen? ⟨w.heap.size + 1, 0, none⟩ = false ∧ W.frozen? ⟨w.heap.size + 1, 1, none⟩ = false ∧ W.frozen? ⟨w.heap.size + 1, 2, none⟩ = false ∧ W.frozen? ⟨w.heap.size + 1, 3, none⟩ = false))) ∧ Below w.heap.size w W ∧ w.heap.size + 1 < W.heap.size) ⟨⟨⟨by simp [go_sem], by simp [go_sem], by simp [go_sem]⟩, ⟨by simp [go_sem], by simp [go_sem], by simp [go_sem], by simp [go_sem]⟩, by simp [go_sem], by simp [go_sem], by simp [go_sem], by simp [go_sem]⟩, by repeat (first | (with_reducible assumption) | exact Below.refl _ _ | (refine Below.setCell ?_ (by first | omega | (simp; omega) | (simp; done)) _) | (refine Below.alloc ?_ (by first | omega | (simp; omega) | (simp; done)) _) | (refine Below.drew ?_)), by simp⟩ ?_
 rintro W ⟨⟨⟨p0, p1, p2⟩, ⟨z0, z1, z2, z3⟩, f0, f1, f2, f3⟩, hb, hz⟩
 have HB := Lib.hid hb
 clear hb
 obtain ⟨gp, hgp⟩ : ∃ g, g = w.heap.size := ⟨_, rfl⟩
 have HGP := Lib.hid hgp
 rw [← hgp] at p0 p1 p2 z0 z1 z2 z3 f0 f1 f2 f3 hz
 rw [show w.heap.size = gp from hgp.symm]
 clear hgp
 have hmix : Tryz.prog.follows .mixedOrders = true := by kernel_rfl
 go_upto_if 16 with (go_at_call 18; refine (gcd_any _ [vx, vy, vz, den] _ _ (ints_alloc _ _ _) (by simp) HBD.out).mono ?_; rintro e w5 ⟨rfl, hb⟩; have HB5 := Lib.hid (((Below.refl _ _).alloc (Nat.le_refl _) _).trans (hb.mono (by simp))); rw [HGV.out]; clear hb)
 refine wp_cut_slots [5, 17, 18] (PntCut w5 s) ?_ ?_
 ·by_cases hneg : den < 0
  ·have HE := Lib.hid (HS.out.trans (if_pos hneg))
   go_wp2_with fail
   exact cut_meet (by simp [forget]) ⟨congrArg (Value.int .i64) HE.out.symm, rfl⟩
  ·have HE := Lib.hid (HS.out.trans (if_neg hneg))
   go_wp2_with fail
   exact cut_meet (by simp [forget]) ⟨congrArg (Value.int .i64) HE.out.symm, rfl⟩
 rintro u W5 ⟨hu, rfl⟩
 simp only [forget, List.foldl_cons, List.foldl_nil, hu, List.setIfInBounds_toArray, List.set_cons_succ, List.set_cons_zero]
 clear hu v5
 obtain ⟨w5, rfl⟩ : ∃ w5 : World, w5 = W5 := ⟨_, rfl⟩
 have p0 := cell_keep HB5.out p0
 have p1 := cell_keep HB5.out p1
 have p2 := cell_keep HB5.out p2
 have z0 := cell_keep HB5.out z0
 have z1 := cell_keep HB5.out z1
 have z2 := cell_keep HB5.out z2
 have z3 := cell_keep HB5.out z3
 have f0 := frozen_keep HB5.out (by simp only; omega) f0
 have f1 := frozen_keep HB5.out (by simp only; omega) f1
 have f2 := frozen_keep HB5.out (by simp only; omega) f2
 have f3 := frozen_keep HB5.out (by simp only; omega) f3
 have hz5 := HB5.out.size
 have hz6 : gp + 1 < w5.heap.size := by omega
 have kx0 : ∀ y : KW (fun W' => Below w5.heap.size w5 W'), (y.w.cell? ⟨gp, 0, none⟩ = some (.int .i64 vx) ∧ y.w.cell? ⟨gp, 1, none⟩ = some (.int .i64 vy) ∧ y.w.cell? ⟨gp, 2, none⟩ = some (.int .i64 vz)) := fun y => ⟨cell_keep y.ok p0, cell_keep y.ok p1, cell_keep y.ok p2⟩
 haveI n1 : Nonempty (KW (fun W' => Below w5.heap.size w5 W')) := ⟨⟨w5, Below.refl _ _⟩⟩
 clear p0 p1 p2
 go_upto_region 4 with fail
 refine wp_region_tree (fun w' => ∃ y : KW (fun W' => Below w5.heap.size w5 W'), w' = y.w) 15 (.take 0 (.take 1 (.take 2 (.take 3 (.take 4 (.take 5 (.take 6 (.take 7 (.take 8 (.take 9 (.take 10 (.take 11 (.take 12 (.take 13 (.take 14 .done))))))))))))))) hmix (by kernel_rfl) (KW.mk' (Below.refl _ _).drew) ?_
 have HB6 := Lib.hid (show Below w5.heap.size w5 w5.drew from (Below.refl _ _).drew)
 generalize w5.drew = w6 at *
 have hz7 := HB6.out.size
 repeat (refine wpTree_take ?_; simp only [nthOp]; (first | go_big_quiet_step (fail) | quiet_step (fail)); refine wpQuiet_nil ?_)
 have z0 := cell_keep HB6.out z0
 have z1 := cell_keep HB6.out z1
 have z2 := cell_keep HB6.out z2
 have z3 := cell_keep HB6.out z3
 have f0 := frozen_keep HB6.out (by simp only; omega) f0
 have f1 := frozen_keep HB6.out (by simp only; omega) f1
 have f2 := frozen_keep HB6.out (by simp only; omega) f2
 have f3 := frozen_keep HB6.out (by simp only; omega) f3
 have HF := Lib.hid (HB.out.trans ((HB5.out.trans (HB6.out.mono HB5.out.size)).mono HB.out.size))
 refine wpTree_done ?_
 simp only [List.drop_succ_cons, List.drop_zero]
 go_wp2_with fail
 refine NP_mk ?_
 go_wp2_with fail
 exact bodyPost_ret (v := .agg #[.int .i64 ((vx).tdiv s), .int .i64 ((vy).tdiv s), .int .i64 ((vz).tdiv s), .int .i64 ((den).tdiv s)]) (by simp [results, Tryz.results87, go_sem, z0, z1, z2, z3]) rfl ⟨HRV.out, by repeat (first | exact HF.out | (refine Below.setCell ?_ (by have := HGP.out; simp only; omega) _))⟩
end Go.Proofs.YtgjmfdhgeahdcaaGreat
