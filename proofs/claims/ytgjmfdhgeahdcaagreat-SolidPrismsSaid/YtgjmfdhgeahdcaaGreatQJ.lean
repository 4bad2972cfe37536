/- The box that a body is. -/
import Derived.Test.YtgjmfdhgeahdcaaGreatQI
import Derived.Test.YtgjmfdhgeahdcaaGreatQB
import Derived.Test.YtgjmfdhgeahdcaaGreatUniq
import Derived.Test.YtgjmfdhgeahdcaaGreatShelf
import Derived.Sort.OwnSortedInts
import Derived.Lib.OwnBridge
set_option linter.unusedVariables false
set_option linter.unusedSimpArgs false
namespace Go.Proofs.YtgjmfdhgeahdcaaGreat
open Go Go.RowKit Go.Sort Go.Lib

/-! Which axis a plane has. -/
theorem Vec_eqc0 (q : Vec) (w : World) : (binOp .eql 56 (.agg #[.int .i64 q.x, .int .i64 q.y, .int .i64 q.z]) (.agg #[.int .i64 (-1), .int .i64 0, .int .i64 0])).run Tryz.prog w = .ok (.bool (decide (q = ⟨-1, 0, 0⟩))) w := by
 rw [Vec_dec]
 obtain ⟨x, y, z⟩ := q
 rcases x with (_ | _ | n) | (_ | n)
 ·kernel_rfl
 ·kernel_rfl
 ·kernel_rfl
 ·rcases y with (_ | _ | n) | (_ | n)
  ·rcases z with (_ | _ | n) | (_ | n)
   ·kernel_rfl
   ·kernel_rfl
   ·kernel_rfl
   ·kernel_rfl
   ·kernel_rfl
  ·kernel_rfl
  ·kernel_rfl
  ·kernel_rfl
  ·kernel_rfl
 ·kernel_rfl
theorem Vec_eqc1 (q : Vec) (w : World) : (binOp .eql 56 (.agg #[.int .i64 q.x, .int .i64 q.y, .int .i64 q.z]) (.agg #[.int .i64 0, .int .i64 (-1), .int .i64 0])).run Tryz.prog w = .ok (.bool (decide (q = ⟨0, -1, 0⟩))) w := by
 rw [Vec_dec]
 obtain ⟨x, y, z⟩ := q
 rcases x with (_ | _ | n) | (_ | n)
 ·rcases y with (_ | _ | n) | (_ | n)
  ·kernel_rfl
  ·kernel_rfl
  ·kernel_rfl
  ·rcases z with (_ | _ | n) | (_ | n)
   ·kernel_rfl
   ·kernel_rfl
   ·kernel_rfl
   ·kernel_rfl
   ·kernel_rfl
  ·kernel_rfl
 ·kernel_rfl
 ·kernel_rfl
 ·kernel_rfl
 ·kernel_rfl
theorem Vec_eqc2 (q : Vec) (w : World) : (binOp .eql 56 (.agg #[.int .i64 q.x, .int .i64 q.y, .int .i64 q.z]) (.agg #[.int .i64 0, .int .i64 0, .int .i64 (-1)])).run Tryz.prog w = .ok (.bool (decide (q = ⟨0, 0, -1⟩))) w := by
 rw [Vec_dec]
 obtain ⟨x, y, z⟩ := q
 rcases x with (_ | _ | n) | (_ | n)
 ·rcases y with (_ | _ | n) | (_ | n)
  ·rcases z with (_ | _ | n) | (_ | n)
   ·kernel_rfl
   ·kernel_rfl
   ·kernel_rfl
   ·kernel_rfl
   ·kernel_rfl
  ·kernel_rfl
  ·kernel_rfl
  ·kernel_rfl
  ·kernel_rfl
 ·kernel_rfl
 ·kernel_rfl
 ·kernel_rfl
 ·kernel_rfl
theorem Vec_eqc3 (q : Vec) (w : World) : (binOp .eql 56 (.agg #[.int .i64 q.x, .int .i64 q.y, .int .i64 q.z]) (.agg #[.int .i64 1, .int .i64 0, .int .i64 0])).run Tryz.prog w = .ok (.bool (decide (q = ⟨1, 0, 0⟩))) w := by
 rw [Vec_dec]
 obtain ⟨x, y, z⟩ := q
 rcases x with (_ | _ | n) | (_ | n)
 ·kernel_rfl
 ·rcases y with (_ | _ | n) | (_ | n)
  ·rcases z with (_ | _ | n) | (_ | n)
   ·kernel_rfl
   ·kernel_rfl
   ·kernel_rfl
   ·kernel_rfl
   ·kernel_rfl
  ·kernel_rfl
  ·kernel_rfl
  ·kernel_rfl
  ·kernel_rfl
 ·kernel_rfl
 ·kernel_rfl
 ·kernel_rfl
theorem Vec_eqc4 (q : Vec) (w : World) : (binOp .eql 56 (.agg #[.int .i64 q.x, .int .i64 q.y, .int .i64 q.z]) (.agg #[.int .i64 0, .int .i64 1, .int .i64 0])).run Tryz.prog w = .ok (.bool (decide (q = ⟨0, 1, 0⟩))) w := by
 rw [Vec_dec]
 obtain ⟨x, y, z⟩ := q
 rcases x with (_ | _ | n) | (_ | n)
 ·rcases y with (_ | _ | n) | (_ | n)
  ·kernel_rfl
  ·rcases z with (_ | _ | n) | (_ | n)
   ·kernel_rfl
   ·kernel_rfl
   ·kernel_rfl
   ·kernel_rfl
   ·kernel_rfl
  ·kernel_rfl
  ·kernel_rfl
  ·kernel_rfl
 ·kernel_rfl
 ·kernel_rfl
 ·kernel_rfl
 ·kernel_rfl
theorem Vec_eqc5 (q : Vec) (w : World) : (binOp .eql 56 (.agg #[.int .i64 q.x, .int .i64 q.y, .int .i64 q.z]) (.agg #[.int .i64 0, .int .i64 0, .int .i64 1])).run Tryz.prog w = .ok (.bool (decide (q = ⟨0, 0, 1⟩))) w := by
 rw [Vec_dec]
 obtain ⟨x, y, z⟩ := q
 rcases x with (_ | _ | n) | (_ | n)
 ·rcases y with (_ | _ | n) | (_ | n)
  ·rcases z with (_ | _ | n) | (_ | n)
   ·kernel_rfl
   ·kernel_rfl
   ·kernel_rfl
   ·kernel_rfl
   ·kernel_rfl
  ·kernel_rfl
  ·kernel_rfl
  ·kernel_rfl
  ·kernel_rfl
 ·kernel_rfl
 ·kernel_rfl
 ·kernel_rfl
 ·kernel_rfl
def box0 : Box6 := ⟨0, 0, 0, 0, 0, 0⟩
def Box6.at_ (B : Box6) : Nat → Int
 | 0 => B.x1 | 1 => B.y1 | 2 => B.z1 | 3 => B.x2 | 4 => B.y2 | _ => B.z2
/-- A box after one more plane of its normal form. -/
def bstep (B : Box6) (p : Pl) : Option Box6 :=
 if nrm p = ⟨-1, 0, 0⟩ then some { B with x1 := -p.d } else
 if nrm p = ⟨0, -1, 0⟩ then some { B with y1 := -p.d } else
 if nrm p = ⟨0, 0, -1⟩ then some { B with z1 := -p.d } else
 if nrm p = ⟨1, 0, 0⟩ then some { B with x2 := p.d } else
 if nrm p = ⟨0, 1, 0⟩ then some { B with y2 := p.d } else
 if nrm p = ⟨0, 0, 1⟩ then some { B with z2 := p.d } else
 none
def boxF (B : Box6) : List Pl → Option Box6
 | [] => some B
 | p :: l => match bstep B p with | none => none | some B' => boxF B' l
def boxO (l : List Pl) : Option Box6 := boxF box0 (nf l)
def boxE (l : List Pl) : Int := match boxO l with | none => 17 | some _ => 0
def boxV (l : List Pl) : Box6 := (boxO l).getD box0
theorem boxF_none {B : Box6} {p : Pl} {l : List Pl} (h : bstep B p = none) : boxF B (p :: l) = none := by unfold boxF; rw [h]
theorem boxF_some {B B' : Box6} {p : Pl} {l : List Pl} (h : bstep B p = some B') : boxF B (p :: l) = boxF B' l := by rw [boxF, h]
def BxC (W : World) (g : Nat) (f : Nat → Int) : Prop := ∀ t, t < 6 → W.cell? ⟨g, t, none⟩ = some (.int .i64 (f t)) ∧ W.frozen? ⟨g, t, none⟩ = false
theorem BxC.keep {W W' : World} {g : Nat} {f : Nat → Int} (h : BxC W g f) (hb : Below W.heap.size W W') : BxC W' g f := fun t ht => ⟨cell_keep hb (h t ht).1, frozen_keep hb (block_lt_of_cell (h t ht).1) (h t ht).2⟩
theorem BxC.lt {W : World} {g : Nat} {f : Nat → Int} (h : BxC W g f) : g < W.heap.size := by have := block_lt_of_cell (h 0 (by decide)).1; simpa using this
theorem BxC.set {W : World} {g k : Nat} {f f' : Nat → Int} (h : BxC W g f) (hk : k < 6) (hf : ∀ t, t < 6 → t ≠ k → f' t = f t) : BxC (W.setCell ⟨g, k, none⟩ (.int .i64 (f' k))) g f' := fun t ht => by
 by_cases e : t = k
 ·subst e
  exact ⟨cell_set_same (by rw [(h t ht).1]; rfl), by rw [frozen_set]; exact (h t ht).2⟩
 ·exact ⟨by rw [cell_set_ne (by first | (simp; done) | (simp; omega)) rfl rfl, hf t ht e]; exact (h t ht).1, by rw [frozen_set]; exact (h t ht).2⟩
theorem BxC.off {W : World} {g r k : Nat} {f : Nat → Int} (h : BxC W r f) (hg : r ≠ g) (v : Value) : BxC (W.setCell ⟨g, k, none⟩ v) r f := fun t ht =>
 ⟨by rw [cell_set_other (by simpa using hg.symm)]; exact (h t ht).1, by rw [frozen_set]; exact (h t ht).2⟩
structure BxW (g r : Nat) (na : Option Addr) (N : List Pl) (w0 W : World) (B : Box6) : Prop where
 b : BxC W g B.at_
 z : BxC W r box0.at_
 p : Pls.V W na N
 o : ∀ b, blk na = some b → b ≠ g
 w : Below w0.heap.size w0 W
 g : w0.heap.size ≤ g ∧ r ≠ g
theorem BxW.keep {g r : Nat} {na : Option Addr} {N : List Pl} {w0 W W' : World} {B : Box6} (h : BxW g r na N w0 W B) (hb : Below W.heap.size W W') : BxW g r na N w0 W' B :=
 ⟨h.b.keep hb, h.z.keep hb, h.p.keep hb, h.o, h.w.trans (hb.mono h.w.size), h.g⟩
theorem BxW.set {g r k : Nat} {na : Option Addr} {N : List Pl} {w0 W : World} {B B' : Box6} (h : BxW g r na N w0 W B) (hk : k < 6) (hf : ∀ t, t < 6 → t ≠ k → B'.at_ t = B.at_ t) : BxW g r na N w0 (W.setCell ⟨g, k, none⟩ (.int .i64 (B'.at_ k))) B' :=
 ⟨h.b.set hk hf, h.z.off h.g.2 _, h.p.grown (grownBy_set (a := ⟨g, k, none⟩)) (fun b e e' => by injection e' with e'; exact h.o b e e'.symm), h.o, h.w.setCell h.g.1 _, h.g⟩
def set6 (W : World) (r : Nat) (B : Box6) : World := (((((W.setCell ⟨r, 0, none⟩ (.int .i64 B.x1)).setCell ⟨r, 1, none⟩ (.int .i64 B.y1)).setCell ⟨r, 2, none⟩ (.int .i64 B.z1)).setCell ⟨r, 3, none⟩ (.int .i64 B.x2)).setCell ⟨r, 4, none⟩ (.int .i64 B.y2)).setCell ⟨r, 5, none⟩ (.int .i64 B.z2)
theorem set6_below {w W : World} {r : Nat} (h : Below w.heap.size w W) (hr : w.heap.size ≤ r) (B : Box6) : Below w.heap.size w (set6 W r B) :=
 (((((h.setCell hr _).setCell hr _).setCell hr _).setCell hr _).setCell hr _).setCell hr _
theorem BxC.put6 {W : World} {r : Nat} {f : Nat → Int} (h : BxC W r f) (B : Box6) : BxC (set6 W r B) r B.at_ := by
 have h0 := h.set (k := 0) (f' := fun t => if t = 0 then B.x1 else f t) (by decide) (fun t _ e => if_neg e)
 have h1 := h0.set (k := 1) (f' := fun t => if t = 1 then B.y1 else if t = 0 then B.x1 else f t) (by decide) (fun t _ e => if_neg e)
 have h2 := h1.set (k := 2) (f' := fun t => if t = 2 then B.z1 else if t = 1 then B.y1 else if t = 0 then B.x1 else f t) (by decide) (fun t _ e => if_neg e)
 have h3 := h2.set (k := 3) (f' := fun t => if t = 3 then B.x2 else if t = 2 then B.z1 else if t = 1 then B.y1 else if t = 0 then B.x1 else f t) (by decide) (fun t _ e => if_neg e)
 have h4 := h3.set (k := 4) (f' := fun t => if t = 4 then B.y2 else if t = 3 then B.x2 else if t = 2 then B.z1 else if t = 1 then B.y1 else if t = 0 then B.x1 else f t) (by decide) (fun t _ e => if_neg e)
 have h5 := h4.set (k := 5) (f' := B.at_) (by decide) (fun t ht e => by match t, ht, e with | 0, _, _ | 1, _, _ | 2, _, _ | 3, _, _ | 4, _, _ => rfl | 5, _, e => exact absurd rfl e)
 exact h5
theorem BxC.six {W : World} {r : Nat} {f : Nat → Int} (h : BxC W r f) (B : Box6) : (set6 W r B).cell? ⟨r, 0, none⟩ = some (.int .i64 B.x1) ∧ (set6 W r B).cell? ⟨r, 1, none⟩ = some (.int .i64 B.y1) ∧ (set6 W r B).cell? ⟨r, 2, none⟩ = some (.int .i64 B.z1) ∧ (set6 W r B).cell? ⟨r, 3, none⟩ = some (.int .i64 B.x2) ∧ (set6 W r B).cell? ⟨r, 4, none⟩ = some (.int .i64 B.y2) ∧ (set6 W r B).cell? ⟨r, 5, none⟩ = some (.int .i64 B.z2) :=
 ⟨(h.put6 B 0 (by decide)).1, (h.put6 B 1 (by decide)).1, (h.put6 B 2 (by decide)).1, (h.put6 B 3 (by decide)).1, (h.put6 B 4 (by decide)).1, (h.put6 B 5 (by decide)).1⟩
set_option maxRecDepth 100000 in
set_option maxHeartbeats 8000000 in
theorem boxOf_any (r : BR) (w : World) (h : BG w r) :
    Calls Tryz.prog 27 #[.agg #[.slice r.pa r.ps.length r.pc, .slice r.ca (corn r.ps).length r.cc]] w fun e w' => e = .returned (.tuple #[.agg #[.int .i64 (boxV r.ps).x1, .int .i64 (boxV r.ps).y1, .int .i64 (boxV r.ps).z1, .int .i64 (boxV r.ps).x2, .int .i64 (boxV r.ps).y2, .int .i64 (boxV r.ps).z2], .int .i64 (boxE r.ps)]) ∧ Below w.heap.size w w' := by
 have HN := Lib.hid (fun W (hb : Below w.heap.size w W) => normalForm_any r.ps r.pa r.pc (corn r.ps) r.ca r.cc W (h.keep hb).g (h.keep hb).ci (h.keep hb).l (h.keep hb).cl (h.keep hb).pls (h.keep hb).cos)
 have HG := Lib.hid (h.g.nor (corn r.ps))
 have HL := Lib.hid (show (nor r.ps (corn r.ps)).length ≤ 40 from Nat.le_trans (nor_len _ _) h.l)
 obtain ⟨E, hE⟩ : ∃ E, E = boxE r.ps := ⟨_, rfl⟩
 obtain ⟨B1, hB1⟩ : ∃ B1, B1 = boxV r.ps := ⟨_, rfl⟩
 obtain ⟨N, hN⟩ : ∃ N, N = nor r.ps (corn r.ps) := ⟨_, rfl⟩
 have HE := Lib.hid (show E = match boxF box0 N with | none => 17 | some _ => 0 by rw [hE, hN]; rfl)
 have HB1 := Lib.hid (show B1 = (boxF box0 N).getD box0 by rw [hB1, hN]; rfl)
 rw [← hE, ← hB1]
 rw [← hN] at HN HG HL
 clear hE hB1 hN h
 obtain ⟨rp, ra, rc, rca, rcc⟩ := r
 simp only at HN ⊢
 generalize corn rp = CR at *
 go_enter Tryz.func27, Tryz.ntmps27
 go_upto_region 2 with fail
 refine gen_world (fun W => (W.cell? ⟨w.heap.size, 0, none⟩ = some (.slice ra rp.length rc) ∧ W.cell? ⟨w.heap.size, 1, none⟩ = some (.slice rca CR.length rcc)) ∧ BxC W (w.heap.size + 1) box0.at_ ∧ BxC W (w.heap.size + 2) box0.at_ ∧ Below w.heap.size w W) ⟨⟨by simp [go_sem], by simp [go_sem]⟩, fun t ht => ?_, fun t ht => ?_, by repeat (first | (with_reducible assumption) | exact Below.refl _ _ | (refine Below.setCell ?_ (by first | omega | (simp; omega) | (simp; done)) _) | (refine Below.alloc ?_ (by first | omega | (simp; omega) | (simp; done)) _) | (refine Below.drew ?_))⟩ ?_
 ·match t, ht with
  | 0, _ | 1, _ | 2, _ | 3, _ | 4, _ | 5, _ => exact ⟨by simp [go_sem]; rfl, by simp [go_sem]⟩
 ·match t, ht with
  | 0, _ | 1, _ | 2, _ | 3, _ | 4, _ | 5, _ => exact ⟨by simp [go_sem]; rfl, by simp [go_sem]⟩
 rintro W ⟨⟨b0, b1⟩, hz, hx, hb⟩
 have HB0 := Lib.hid hb
 have HZ0 := Lib.hid hz
 have HX0 := Lib.hid hx
 have HNW := Lib.hid (HN.out W hb)
 clear hb hz hx HN
 have hfl := fldCell
 go_wp2_with (go_at_call 37; refine HNW.out.mono ?_; rintro e w1 ⟨na, nc, rfl, ho, hb⟩; have HO := Lib.hid ho; have HB1W := Lib.hid hb; clear ho hb)
 have HW1 := Lib.hid (show BxW (w.heap.size + 2) (w.heap.size + 1) na N w w1 box0 from
  ⟨HX0.out.keep HB1W.out, HZ0.out.keep HB1W.out, ownPlV (fun x hx => Pl.in_.wf (HG.out x hx).1) HO.out, fun b e => by
   have h1 := (own_blk_lt HO.out b e).1
   have h2 := HX0.out.lt
   omega, HB0.out.trans (HB1W.out.mono HB0.out.size), Nat.le_add_right _ _, by omega⟩)
 clear b0 b1
 have hl40 := HL.out

 go_loopw [11] (fun iv wr => ∃ (k : Nat) (B : Box6), k ≤ N.length ∧ iv = .int .i64 (k : Int) ∧ Hid (boxF box0 N = boxF B (N.drop k)) ∧ BxW (w.heap.size + 2) (w.heap.size + 1) na N w wr B) (fun iv _ => N.length - (intOf iv).toNat)
 case atStart => exact ⟨0, box0, Nat.zero_le _, rfl, Lib.hid rfl, HW1.out⟩
 case round =>
  obtain ⟨k, B, hk, rfl, HF, hw⟩ := hrel
  have HW := Lib.hid hw
  by_cases hlt : k < N.length
  ·have hki : (k : Int) < (N.length : Int) := by omega
   obtain ⟨b, off, rfl, hat⟩ := hw.p.at_ hlt
   obtain ⟨c0, c1, c2, c3, -⟩ := hat
   have HD := Lib.hid (List.drop_eq_getElem_cons hlt)
   have HPI := Lib.hid (HG.out _ (List.getElem_mem hlt)).1
   generalize N[k] = p at *
   clear hw
   go_upto_region 5 with fail
   refine gen_world (fun W2 => BxW (w.heap.size + 2) (w.heap.size + 1) (some ⟨b, off, none⟩) N w W2 B ∧ PlBx W2 wr.heap.size p ∧ wr.heap.size ≠ w.heap.size + 2) ⟨HW.out.keep ((Below.refl _ _).alloc (Nat.le_refl _) _), ⟨by simp [go_sem], by simp [go_sem], by simp [go_sem], by simp [go_sem]⟩, by have := HW.out.b.lt; omega⟩ ?_
   rintro W2 ⟨hw2, hp2, hne⟩
   generalize wr.heap.size = g6 at *
   have HW2 := Lib.hid hw2
   have HP2 := Lib.hid hp2
   clear c0 c1 c2 c3 hw2 HW
   obtain ⟨q0, q1, q2, q3⟩ := hp2
   have HNM := Lib.hid (normal_any p W2)
   obtain ⟨L, hL⟩ : ∃ L, L = nrm p := ⟨_, rfl⟩
   have HLV := Lib.hid hL
   rw [← hL] at HNM
   clear hL
   have heq0 := Vec_eqc0 L
   have heq1 := Vec_eqc1 L
   have heq2 := Vec_eqc2 L
   have heq3 := Vec_eqc3 L
   have heq4 := Vec_eqc4 L
   have heq5 := Vec_eqc5 L
   have v0 : IntKind.i64.wrap (-p.d) = -p.d := IntWalk.i64_in _ (by have := HPI.out.2; omega)
   have HB2 := Lib.hid (fun w5 (hb : Below W2.heap.size W2 w5) => HW2.out.keep hb)
   have HP5 := Lib.hid (fun w5 (hb : Below W2.heap.size W2 w5) => (HP2.out.keep hb).d)

   by_cases h0 : L = ⟨-1, 0, 0⟩
   ·have hd0 : decide (L = ⟨-1, 0, 0⟩) = true := decide_eq_true h0
    have HS := Lib.hid (show bstep B p = some { B with x1 := -p.d } by unfold bstep; rw [← HLV.out]; rw [if_pos h0])
    have HF2 := Lib.hid (show boxF box0 N = boxF { B with x1 := -p.d } (N.drop (k + 1)) by rw [HF.out, HD.out]; exact boxF_some HS.out)
    have hd1 : decide (L = ⟨0, -1, 0⟩) = false := by rw [h0]; decide
    have hd2 : decide (L = ⟨0, 0, -1⟩) = false := by rw [h0]; decide
    have hd3 : decide (L = ⟨1, 0, 0⟩) = false := by rw [h0]; decide
    have hd4 : decide (L = ⟨0, 1, 0⟩) = false := by rw [h0]; decide
    have hd5 : decide (L = ⟨0, 0, 1⟩) = false := by rw [h0]; decide
    clear h0
    go_wp2_with (go_at_call 43; refine HNM.out.mono ?_; rintro e w5 ⟨rfl, hb⟩; have HW5 := Lib.hid (HB2.out w5 hb); have q3' := HP5.out w5 hb; have x0 := (HW5.out.b 0 (by decide)).1; have f0 := (HW5.out.b 0 (by decide)).2; clear hb)
    go_roundw
    case rel => exact ⟨k + 1, { B with x1 := -p.d }, by omega, by go_num, HF2, HW5.out.set (k := 0) (B' := { B with x1 := -p.d }) (by decide) (fun t ht hne => by match t, ht, hne with | 0, _, hne | 1, _, hne | 2, _, hne | 3, _, hne | 4, _, hne | 5, _, hne => first | rfl | exact absurd rfl hne)⟩
    case measure => first | (simp [intOf]; done) | (simp [intOf]; omega)
   ·have hd0 : decide (L = ⟨-1, 0, 0⟩) = false := decide_eq_false h0
    have hn0 := Lib.hid h0
    clear h0
    by_cases h1 : L = ⟨0, -1, 0⟩
    ·have hd1 : decide (L = ⟨0, -1, 0⟩) = true := decide_eq_true h1
     have HS := Lib.hid (show bstep B p = some { B with y1 := -p.d } by unfold bstep; rw [← HLV.out]; rw [if_neg hn0.out, if_pos h1])
     have HF2 := Lib.hid (show boxF box0 N = boxF { B with y1 := -p.d } (N.drop (k + 1)) by rw [HF.out, HD.out]; exact boxF_some HS.out)
     have hd2 : decide (L = ⟨0, 0, -1⟩) = false := by rw [h1]; decide
     have hd3 : decide (L = ⟨1, 0, 0⟩) = false := by rw [h1]; decide
     have hd4 : decide (L = ⟨0, 1, 0⟩) = false := by rw [h1]; decide
     have hd5 : decide (L = ⟨0, 0, 1⟩) = false := by rw [h1]; decide
     clear h1
     go_wp2_with (go_at_call 43; refine HNM.out.mono ?_; rintro e w5 ⟨rfl, hb⟩; have HW5 := Lib.hid (HB2.out w5 hb); have q3' := HP5.out w5 hb; have x0 := (HW5.out.b 1 (by decide)).1; have f0 := (HW5.out.b 1 (by decide)).2; clear hb)
     go_roundw
     case rel => exact ⟨k + 1, { B with y1 := -p.d }, by omega, by go_num, HF2, HW5.out.set (k := 1) (B' := { B with y1 := -p.d }) (by decide) (fun t ht hne => by match t, ht, hne with | 0, _, hne | 1, _, hne | 2, _, hne | 3, _, hne | 4, _, hne | 5, _, hne => first | rfl | exact absurd rfl hne)⟩
     case measure => first | (simp [intOf]; done) | (simp [intOf]; omega)
    ·have hd1 : decide (L = ⟨0, -1, 0⟩) = false := decide_eq_false h1
     have hn1 := Lib.hid h1
     clear h1
     by_cases h2 : L = ⟨0, 0, -1⟩
     ·have hd2 : decide (L = ⟨0, 0, -1⟩) = true := decide_eq_true h2
      have HS := Lib.hid (show bstep B p = some { B with z1 := -p.d } by unfold bstep; rw [← HLV.out]; rw [if_neg hn0.out, if_neg hn1.out, if_pos h2])
      have HF2 := Lib.hid (show boxF box0 N = boxF { B with z1 := -p.d } (N.drop (k + 1)) by rw [HF.out, HD.out]; exact boxF_some HS.out)
      have hd3 : decide (L = ⟨1, 0, 0⟩) = false := by rw [h2]; decide
      have hd4 : decide (L = ⟨0, 1, 0⟩) = false := by rw [h2]; decide
      have hd5 : decide (L = ⟨0, 0, 1⟩) = false := by rw [h2]; decide
      clear h2
      go_wp2_with (go_at_call 43; refine HNM.out.mono ?_; rintro e w5 ⟨rfl, hb⟩; have HW5 := Lib.hid (HB2.out w5 hb); have q3' := HP5.out w5 hb; have x0 := (HW5.out.b 2 (by decide)).1; have f0 := (HW5.out.b 2 (by decide)).2; clear hb)
      go_roundw
      case rel => exact ⟨k + 1, { B with z1 := -p.d }, by omega, by go_num, HF2, HW5.out.set (k := 2) (B' := { B with z1 := -p.d }) (by decide) (fun t ht hne => by match t, ht, hne with | 0, _, hne | 1, _, hne | 2, _, hne | 3, _, hne | 4, _, hne | 5, _, hne => first | rfl | exact absurd rfl hne)⟩
      case measure => first | (simp [intOf]; done) | (simp [intOf]; omega)
     ·have hd2 : decide (L = ⟨0, 0, -1⟩) = false := decide_eq_false h2
      have hn2 := Lib.hid h2
      clear h2
      by_cases h3 : L = ⟨1, 0, 0⟩
      ·have hd3 : decide (L = ⟨1, 0, 0⟩) = true := decide_eq_true h3
       have HS := Lib.hid (show bstep B p = some { B with x2 := p.d } by unfold bstep; rw [← HLV.out]; rw [if_neg hn0.out, if_neg hn1.out, if_neg hn2.out, if_pos h3])
       have HF2 := Lib.hid (show boxF box0 N = boxF { B with x2 := p.d } (N.drop (k + 1)) by rw [HF.out, HD.out]; exact boxF_some HS.out)
       have hd4 : decide (L = ⟨0, 1, 0⟩) = false := by rw [h3]; decide
       have hd5 : decide (L = ⟨0, 0, 1⟩) = false := by rw [h3]; decide
       clear h3
       go_wp2_with (go_at_call 43; refine HNM.out.mono ?_; rintro e w5 ⟨rfl, hb⟩; have HW5 := Lib.hid (HB2.out w5 hb); have q3' := HP5.out w5 hb; have x0 := (HW5.out.b 3 (by decide)).1; have f0 := (HW5.out.b 3 (by decide)).2; clear hb)
       go_roundw
       case rel => exact ⟨k + 1, { B with x2 := p.d }, by omega, by go_num, HF2, HW5.out.set (k := 3) (B' := { B with x2 := p.d }) (by decide) (fun t ht hne => by match t, ht, hne with | 0, _, hne | 1, _, hne | 2, _, hne | 3, _, hne | 4, _, hne | 5, _, hne => first | rfl | exact absurd rfl hne)⟩
       case measure => first | (simp [intOf]; done) | (simp [intOf]; omega)
      ·have hd3 : decide (L = ⟨1, 0, 0⟩) = false := decide_eq_false h3
       have hn3 := Lib.hid h3
       clear h3
       by_cases h4 : L = ⟨0, 1, 0⟩
       ·have hd4 : decide (L = ⟨0, 1, 0⟩) = true := decide_eq_true h4
        have HS := Lib.hid (show bstep B p = some { B with y2 := p.d } by unfold bstep; rw [← HLV.out]; rw [if_neg hn0.out, if_neg hn1.out, if_neg hn2.out, if_neg hn3.out, if_pos h4])
        have HF2 := Lib.hid (show boxF box0 N = boxF { B with y2 := p.d } (N.drop (k + 1)) by rw [HF.out, HD.out]; exact boxF_some HS.out)
        have hd5 : decide (L = ⟨0, 0, 1⟩) = false := by rw [h4]; decide
        clear h4
        go_wp2_with (go_at_call 43; refine HNM.out.mono ?_; rintro e w5 ⟨rfl, hb⟩; have HW5 := Lib.hid (HB2.out w5 hb); have q3' := HP5.out w5 hb; have x0 := (HW5.out.b 4 (by decide)).1; have f0 := (HW5.out.b 4 (by decide)).2; clear hb)
        go_roundw
        case rel => exact ⟨k + 1, { B with y2 := p.d }, by omega, by go_num, HF2, HW5.out.set (k := 4) (B' := { B with y2 := p.d }) (by decide) (fun t ht hne => by match t, ht, hne with | 0, _, hne | 1, _, hne | 2, _, hne | 3, _, hne | 4, _, hne | 5, _, hne => first | rfl | exact absurd rfl hne)⟩
        case measure => first | (simp [intOf]; done) | (simp [intOf]; omega)
       ·have hd4 : decide (L = ⟨0, 1, 0⟩) = false := decide_eq_false h4
        have hn4 := Lib.hid h4
        clear h4
        by_cases h5 : L = ⟨0, 0, 1⟩
        ·have hd5 : decide (L = ⟨0, 0, 1⟩) = true := decide_eq_true h5
         have HS := Lib.hid (show bstep B p = some { B with z2 := p.d } by unfold bstep; rw [← HLV.out]; rw [if_neg hn0.out, if_neg hn1.out, if_neg hn2.out, if_neg hn3.out, if_neg hn4.out, if_pos h5])
         have HF2 := Lib.hid (show boxF box0 N = boxF { B with z2 := p.d } (N.drop (k + 1)) by rw [HF.out, HD.out]; exact boxF_some HS.out)
         clear h5
         go_wp2_with (go_at_call 43; refine HNM.out.mono ?_; rintro e w5 ⟨rfl, hb⟩; have HW5 := Lib.hid (HB2.out w5 hb); have q3' := HP5.out w5 hb; have x0 := (HW5.out.b 5 (by decide)).1; have f0 := (HW5.out.b 5 (by decide)).2; clear hb)
         go_roundw
         case rel => exact ⟨k + 1, { B with z2 := p.d }, by omega, by go_num, HF2, HW5.out.set (k := 5) (B' := { B with z2 := p.d }) (by decide) (fun t ht hne => by match t, ht, hne with | 0, _, hne | 1, _, hne | 2, _, hne | 3, _, hne | 4, _, hne | 5, _, hne => first | rfl | exact absurd rfl hne)⟩
         case measure => first | (simp [intOf]; done) | (simp [intOf]; omega)
        ·have hd5 : decide (L = ⟨0, 0, 1⟩) = false := decide_eq_false h5
         have hn5 := Lib.hid h5
         clear h5
         have HS := Lib.hid (show bstep B p = none by unfold bstep; rw [← HLV.out]; rw [if_neg hn0.out, if_neg hn1.out, if_neg hn2.out, if_neg hn3.out, if_neg hn4.out, if_neg hn5.out])
         have HE0 := Lib.hid (show boxF box0 N = none by rw [HF.out, HD.out]; exact boxF_none HS.out)
         go_wp2_with (go_at_call 43; refine HNM.out.mono ?_; rintro e w5 ⟨rfl, hb⟩; have HW5 := Lib.hid (HB2.out w5 hb); have x0 := (HW5.out.z 0 (by decide)); have x1 := (HW5.out.z 1 (by decide)); have x2 := (HW5.out.z 2 (by decide)); have x3 := (HW5.out.z 3 (by decide)); have x4 := (HW5.out.z 4 (by decide)); have x5 := (HW5.out.z 5 (by decide)); obtain ⟨x0, f0⟩ := x0; obtain ⟨x1, f1⟩ := x1; obtain ⟨x2, f2⟩ := x2; obtain ⟨x3, f3⟩ := x3; obtain ⟨x4, f4⟩ := x4; obtain ⟨x5, f5⟩ := x5; clear hb)
         obtain ⟨s0, s1, s2, s3, s4, s5⟩ := HW5.out.z.six box0
         have hb := set6_below HW5.out.w (r := w.heap.size + 1) (Nat.le_succ _) box0
         unfold set6 at s0 s1 s2 s3 s4 s5 hb
         simp only [box0] at s0 s1 s2 s3 s4 s5 hb
         generalize ((((((w5.setCell ⟨w.heap.size + 1, 0, none⟩ (.int .i64 0)).setCell ⟨w.heap.size + 1, 1, none⟩ (.int .i64 0)).setCell ⟨w.heap.size + 1, 2, none⟩ (.int .i64 0)).setCell ⟨w.heap.size + 1, 3, none⟩ (.int .i64 0)).setCell ⟨w.heap.size + 1, 4, none⟩ (.int .i64 0)).setCell ⟨w.heap.size + 1, 5, none⟩ (.int .i64 0)) = WF at s0 s1 s2 s3 s4 s5 hb ⊢
         refine bodyPost_ret (v := .tuple #[.agg #[.int .i64 0, .int .i64 0, .int .i64 0, .int .i64 0, .int .i64 0, .int .i64 0], .int .i64 17]) ?_ ?_ ?_
         ·simp [results, Tryz.results27, go_sem, s0, s1, s2, s3, s4, s5]
         ·rfl
         ·exact ⟨by rw [HE.out, HB1.out, HE0.out]; rfl, hb⟩
  ·obtain rfl : k = N.length := by omega
   have hki : ¬ ((N.length : Nat) : Int) < ((N.length : Nat) : Int) := by omega
   have HE0 := Lib.hid (show boxF box0 N = some B by rw [HF.out, List.drop_length]; rfl)
   clear hw
   obtain ⟨x0, f0⟩ := HW.out.z 0 (by decide)
   obtain ⟨x1, f1⟩ := HW.out.z 1 (by decide)
   obtain ⟨x2, f2⟩ := HW.out.z 2 (by decide)
   obtain ⟨x3, f3⟩ := HW.out.z 3 (by decide)
   obtain ⟨x4, f4⟩ := HW.out.z 4 (by decide)
   obtain ⟨x5, f5⟩ := HW.out.z 5 (by decide)
   have y0 := (HW.out.b 0 (by decide)).1
   have y1 := (HW.out.b 1 (by decide)).1
   have y2 := (HW.out.b 2 (by decide)).1
   have y3 := (HW.out.b 3 (by decide)).1
   have y4 := (HW.out.b 4 (by decide)).1
   have y5 := (HW.out.b 5 (by decide)).1
   simp only [Box6.at_] at y0 y1 y2 y3 y4 y5
   go_wp2_with fail
   obtain ⟨s0, s1, s2, s3, s4, s5⟩ := HW.out.z.six B
   have hb := set6_below HW.out.w (r := w.heap.size + 1) (Nat.le_succ _) B
   unfold set6 at s0 s1 s2 s3 s4 s5 hb
   generalize ((((((wr.setCell ⟨w.heap.size + 1, 0, none⟩ (.int .i64 B.x1)).setCell ⟨w.heap.size + 1, 1, none⟩ (.int .i64 B.y1)).setCell ⟨w.heap.size + 1, 2, none⟩ (.int .i64 B.z1)).setCell ⟨w.heap.size + 1, 3, none⟩ (.int .i64 B.x2)).setCell ⟨w.heap.size + 1, 4, none⟩ (.int .i64 B.y2)).setCell ⟨w.heap.size + 1, 5, none⟩ (.int .i64 B.z2)) = WF at s0 s1 s2 s3 s4 s5 hb ⊢
   refine bodyPost_ret (v := .tuple #[.agg #[.int .i64 B.x1, .int .i64 B.y1, .int .i64 B.z1, .int .i64 B.x2, .int .i64 B.y2, .int .i64 B.z2], .int .i64 0]) ?_ ?_ ?_
   ·simp [results, Tryz.results27, go_sem, s0, s1, s2, s3, s4, s5]
   ·rfl
   ·exact ⟨by rw [HE.out, HB1.out, HE0.out]; rfl, hb⟩
end Go.Proofs.YtgjmfdhgeahdcaaGreat
/- The height that boxes cover above a place (plain). -/
set_option linter.unusedVariables false
set_option linter.unusedSimpArgs false
namespace Go.Proofs.YtgjmfdhgeahdcaaGreat

def foldH (t m : Int) : List Box6 → Int
 | [] => t
 | b :: l => if m < b.z2 then foldH (t + (b.z2 - max b.z1 m)) b.z2 l else foldH t m l
def cov (l : List Box6) (z : Int) : Bool := l.any fun b => decide (b.z1 ≤ z) && decide (z < b.z2)
def cntF (f : Int → Bool) (lo : Int) : Nat → Int
 | 0 => 0
 | n + 1 => cntF f lo n + if f (lo + n) = true then 1 else 0
theorem cntF_add {f g : Int → Bool} {lo p q : Int} (hp : lo ≤ p) (hq : p ≤ q) (h : ∀ z, g z = (f z || (decide (p ≤ z) && decide (z < q)))) (hf : ∀ z, p ≤ z → z < q → f z = false) : ∀ n : Nat, cntF g lo n = cntF f lo n + (min q (lo + n) - min p (lo + n)) := by
 intro n
 induction n with
 | zero => simp only [cntF, Int.natCast_zero]; omega
 | succ n ih =>
  rw [cntF, cntF, ih, h]
  by_cases h1 : p ≤ lo + n ∧ lo + n < q
  ·rw [hf _ h1.1 h1.2]
   simp [h1]
   omega
  ·have : (decide (p ≤ lo + n) && decide (lo + n < q)) = false := by
     rw [Bool.and_eq_false_iff, decide_eq_false_iff_not, decide_eq_false_iff_not]; omega
   rw [this, Bool.or_false]
   have h2 : min q (lo + (n + 1 : Nat)) - min p (lo + (n + 1 : Nat)) = min q (lo + n) - min p (lo + n) := by omega
   rw [h2]; omega
theorem cntF_congr {f g : Int → Bool} {lo : Int} (h : ∀ z, g z = f z) (n : Nat) : cntF g lo n = cntF f lo n := by rw [show g = f from funext h]
structure HInv (P : List Box6) (t m : Int) : Prop where
 tt : t = cntF (cov P) (-300000) 600000
 mm : -300000 ≤ m ∧ m ≤ 300000
 e : m = -300000 ∨ ∃ b ∈ P, b.z2 = m
 l : ∀ b ∈ P, b.z2 ≤ m
def Box6.zok (b : Box6) : Prop := -300000 ≤ b.z1 ∧ b.z1 ≤ b.z2 ∧ b.z2 ≤ 300000
theorem cov_snoc (P : List Box6) (b : Box6) (z : Int) : cov (P ++ [b]) z = (cov P z || (decide (b.z1 ≤ z) && decide (z < b.z2))) := by simp [cov, List.any_append]
theorem cov_top {P : List Box6} {t m : Int} (h : HInv P t m) {b : Box6} (hs : ∀ c ∈ P, c.z1 ≤ b.z1) (hb : b.zok) {z : Int} (h1 : b.z1 ≤ z) (h2 : z < m) : cov P z = true := by
 rcases h.e with e | ⟨c, hc, e⟩
 ·have := hb.1; omega
 ·have := hs c hc
  unfold cov
  rw [List.any_eq_true]
  exact ⟨c, hc, by simp; omega⟩
theorem cov_off {P : List Box6} {t m : Int} (h : HInv P t m) {z : Int} (h1 : m ≤ z) : cov P z = false := by
 unfold cov
 rw [List.any_eq_false]
 intro c hc
 have := h.l c hc
 simp; omega
theorem foldH_inv : ∀ {l P : List Box6} {t m : Int}, HInv P t m → (∀ b ∈ l, b.zok) → l.Pairwise (fun x y => ¬ y.z1 < x.z1) → (∀ c ∈ P, ∀ b ∈ l, c.z1 ≤ b.z1) → foldH t m l = cntF (cov (P ++ l)) (-300000) 600000 := by
 intro l
 induction l with
 | nil => intro P t m h _ _ _; rw [foldH, List.append_nil]; exact h.tt
 | cons b l ih =>
  intro P t m h hz hs hP
  have hb := hz b List.mem_cons_self
  have hPb : ∀ c ∈ P, c.z1 ≤ b.z1 := fun c hc => hP c hc b List.mem_cons_self
  have hP' : ∀ c ∈ P ++ [b], ∀ d ∈ l, c.z1 ≤ d.z1 := fun c hc d hd => by
   rcases List.mem_append.1 hc with hc | hc
   ·exact hP c hc d (List.mem_cons_of_mem _ hd)
   ·simp only [List.mem_singleton] at hc; subst hc
    have := (List.pairwise_cons.1 hs).1 d hd; omega
  have hs' := (List.pairwise_cons.1 hs).2
  have hz' : ∀ d ∈ l, d.zok := fun d hd => hz d (List.mem_cons_of_mem _ hd)
  have hm := h.mm
  obtain ⟨z1, z2, z3⟩ := hb
  rw [show P ++ b :: l = (P ++ [b]) ++ l by simp]
  rw [foldH]
  split
  ·rename_i hlt
   refine ih ⟨?_, ⟨by omega, z3⟩, .inr ⟨b, by simp, rfl⟩, fun c hc => ?_⟩ hz' hs' hP'
   ·have key := cntF_add (f := cov P) (g := cov (P ++ [b])) (lo := -300000) (p := max b.z1 m) (q := b.z2) (by omega) (by omega) (fun z => by
      rw [cov_snoc]
      by_cases hzz : max b.z1 m ≤ z
      ·have a1 : b.z1 ≤ z := by omega
       simp [hzz, a1]
      ·have a1 : ¬ max b.z1 m ≤ z := hzz
       rw [show decide (max b.z1 m ≤ z) = false from decide_eq_false a1, Bool.false_and, Bool.or_false]
       by_cases a2 : b.z1 ≤ z
       ·rw [cov_top h hPb ⟨z1, z2, z3⟩ a2 (by omega)]; rfl
       ·rw [show decide (b.z1 ≤ z) = false from decide_eq_false a2]; simp) (fun z hz1 hz2 => cov_off h (by omega)) 600000
    rw [key, ← h.tt]; omega
   ·rcases List.mem_append.1 hc with hc | hc
    ·have := h.l c hc; omega
    ·simp only [List.mem_singleton] at hc; subst hc; exact Int.le_refl _
  ·rename_i hlt
   refine ih ⟨?_, h.mm, ?_, fun c hc => ?_⟩ hz' hs' hP'
   ·rw [h.tt]
    refine (cntF_congr (fun z => ?_) _).symm
    rw [cov_snoc]
    by_cases a : b.z1 ≤ z ∧ z < b.z2
    ·rw [cov_top h hPb ⟨z1, z2, z3⟩ a.1 (by omega)]; rfl
    ·rw [show (decide (b.z1 ≤ z) && decide (z < b.z2)) = false by rw [Bool.and_eq_false_iff, decide_eq_false_iff_not, decide_eq_false_iff_not]; omega, Bool.or_false]
   ·rcases h.e with e | ⟨c, hc, e⟩
    ·exact .inl e
    ·exact .inr ⟨c, List.mem_append.2 (.inl hc), e⟩
   ·rcases List.mem_append.1 hc with hc | hc
    ·exact h.l c hc
    ·simp only [List.mem_singleton] at hc; subst hc; omega
theorem cov_perm {l r : List Box6} (h : r.Perm l) (z : Int) : cov r z = cov l z := by
 unfold cov
 rw [Bool.eq_iff_iff, List.any_eq_true, List.any_eq_true]
 exact ⟨fun ⟨b, hb, e⟩ => ⟨b, h.mem_iff.1 hb, e⟩, fun ⟨b, hb, e⟩ => ⟨b, h.mem_iff.2 hb, e⟩⟩
/-- The height that the boxes cover. -/
def hgt (l : List Box6) : Int := cntF (cov l) (-300000) 600000
theorem foldH_hgt {l r : List Box6} (hp : r.Perm l) (hs : r.Pairwise (fun x y => ¬ y.z1 < x.z1)) (hz : ∀ b ∈ l, b.zok) : foldH 0 (-300000) r = hgt l := by
 have h0 : cntF (cov []) (-300000) 600000 = 0 := by
  have : ∀ n, cntF (cov []) (-300000) n = 0 := fun n => by
   induction n with
   | zero => rfl
   | succ n ih => rw [cntF, ih]; simp [cov]
  exact this _
 have h := foldH_inv (l := r) (P := []) (t := 0) (m := -300000) ⟨h0.symm, by omega, .inl rfl, fun b hb => absurd hb (by simp)⟩ (fun b hb => hz b (hp.mem_iff.1 hb)) hs (fun c hc => absurd hc (by simp))
 rw [h, List.nil_append]
 exact cntF_congr (cov_perm hp) _
end Go.Proofs.YtgjmfdhgeahdcaaGreat
/- The marks of boxes: numbers, ascending, without repetition. -/
set_option linter.unusedVariables false
set_option linter.unusedSimpArgs false
namespace Go.Proofs.YtgjmfdhgeahdcaaGreat
open Go Go.RowKit Go.Sort Go.Lib

theorem sort_n (g cap : Nat) (zs : List Int) (w : World) (base : Nat) (hown : w.ownsRow base 3 1 (.slice (some ⟨g, 0, none⟩) zs.length cap) zs.length (zs.map (Value.int .i64))) (hl : zs.length < 1000000) :
    Calls Tryz.prog 44 #[.slice (some ⟨g, 0, none⟩) zs.length cap] w fun e w' => e = .returned (.tuple #[]) ∧
     w'.ownsRow base 3 1 (.slice (some ⟨g, 0, none⟩) zs.length cap) zs.length ((zs.mergeSort fun x y => decide (x ≤ y)).map (Value.int .i64)) ∧ w.grownBy w' (some g) := by
 rcases hown.2 with ⟨h0, _⟩ | ⟨g', cap', cur, hv, hbase, hb, h1, h2, h3, h4⟩
 ·cases h0
 ·injection hv with hv1 _ hv2
  injection hv1 with hv1
  injection hv1 with hv1
  subst hv1 hv2
  have hgl : g < w.heap.size := (Array.getElem?_eq_some_iff.1 hb).1
  have hH : Holds (Value.int .i64) w g 0 zs.toArray := holds_of_blockI hb (by simpa using h4)
  refine (Tryz.slices_Sort_int g 0 cap zs w hH hgl (by omega)).mono ?_
  rintro e w1 ⟨he, n1, os, rfl⟩
  exact ⟨he, ownsRow_sortedI (List.length_mergeSort _) hbase hb h1 h2 h3, grownBy_sortedI _⟩

theorem compact_n (g cap : Nat) (n : Nat) (l : List Int) (w : World) (base : Nat) (hn : n = l.length) (hown : w.ownsRow base 3 1 (.slice (some ⟨g, 0, none⟩) n cap) n (l.map (Value.int .i64))) (hl : n < 1000000) :
    Calls Tryz.prog 45 #[.slice (some ⟨g, 0, none⟩) n cap] w fun e w' => e = .returned (.slice (some ⟨g, 0, none⟩) (Lib.compact l).length cap) ∧
     w'.ownsRow base 3 1 (.slice (some ⟨g, 0, none⟩) n cap) n ((Lib.compact l ++ List.replicate (n - (Lib.compact l).length) 0).map (Value.int .i64)) ∧ w.grownBy w' (some g) := by
 subst hn
 obtain ⟨g0, cap0, hv, hbase, hgl, hnc, hcm, -, hH⟩ := holds_of_ownsRow hown (by simp)
 injection hv with hv1 _ hv2
 injection hv1 with hv1
 injection hv1 with hv1
 subst hv1 hv2
 refine (Tryz.slices_Compact_int g 0 cap l w hH (by omega) hnc).mono ?_
 rintro e w1 ⟨he, q, rfl⟩
 have hcl := Lib.compact_length_le l
 have hy : (Lib.compact l ++ List.replicate (l.length - (Lib.compact l).length) 0).length = l.length := by simp; omega
 have ho := ownsRow_putRow (q := q) (ys := Lib.compact l ++ List.replicate (l.length - (Lib.compact l).length) 0) hown hy (Nat.le_refl _)
 rw [List.take_of_length_le (by omega)] at ho
 refine ⟨he, ho, ⟨rfl, rfl, rfl, by simp [putRow, mapBlock, Sort.ahead], fun k hk hne => ?_⟩⟩
 have : g ≠ k := fun e => hne (by rw [e])
 simp [putRow, mapBlock, Sort.ahead, Array.getElem?_modify, this]

theorem marks_some (base g cap : Nat) (zs : List Int) (w : World) (hown : w.ownsRow base 3 1 (.slice (some ⟨g, 0, none⟩) zs.length cap) zs.length (zs.map (Value.int .i64))) (hl : zs.length < 1000000) :
    Calls Tryz.prog 28 #[.slice (some ⟨g, 0, none⟩) zs.length cap] w fun e w' => e = .returned (.slice (some ⟨g, 0, none⟩) (uniq zs).length cap) ∧
     w'.ownsRow base 3 1 (.slice (some ⟨g, 0, none⟩) zs.length cap) zs.length ((uniq zs ++ List.replicate (zs.length - (uniq zs).length) 0).map (Value.int .i64)) ∧ w.grownBy w' (some g) := by
 have HS := Lib.hid (sort_n g cap zs w base hown hl)
 clear hown
 have HM := Lib.hid (show zs.length = (zs.mergeSort fun x y => decide (x ≤ y)).length from (List.length_mergeSort _).symm)
 go_enter Tryz.func28, Tryz.ntmps28
 go_wp2_with (first
  | (go_at_call 44; refine HS.out.mono ?_; rintro e w1 ⟨rfl, ho1, hg1⟩; have HO1 := Lib.hid ho1; clear ho1)
  | (go_at_call 45; refine (compact_n _ _ _ _ _ base HM.out HO1.out hl).mono ?_; rintro e w2 ⟨rfl, ho2, hg2⟩; have HO2 := Lib.hid ho2; clear ho2))
 go_ret
 exact ⟨rfl, HO2.out, grown_both hg1 hg2⟩
theorem marks_none (a : Option Addr) (c : Nat) (w : World) : Calls Tryz.prog 28 #[.slice a 0 c] w fun e w' => e = .returned (.slice a 0 c) ∧ w = w' := by
 go_enter Tryz.func28, Tryz.ntmps28
 go_wp2_with (first
  | (go_at_call 44; refine (Tryz.slices_Sort_int_none a c _).mono ?_; rintro e w1 ⟨rfl, rfl⟩)
  | (go_at_call 45; refine (Tryz.slices_Compact_int_empty a c _).mono ?_; rintro e w2 ⟨rfl, rfl⟩))
 go_ret
 exact ⟨rfl, rfl⟩
end Go.Proofs.YtgjmfdhgeahdcaaGreat
/- Boxes in the order of their lower heights. -/
set_option linter.unusedVariables false
set_option linter.unusedSimpArgs false
namespace Go.Proofs.YtgjmfdhgeahdcaaGreat
open Go Go.RowKit Go.Sort Go.Lib

def Box6.zin (x : Box6) : Prop := -1000000000 ≤ x.z1 ∧ x.z1 ≤ 1000000000
def cellsBx (x : Box6) : List Value := [.int .i64 x.x1, .int .i64 x.y1, .int .i64 x.z1, .int .i64 x.x2, .int .i64 x.y2, .int .i64 x.z2]
theorem cellsBx_len (x : Box6) : (cellsBx x).length = 6 := rfl
theorem cellsBx_one (x : Box6) : ∀ v ∈ cellsBx x, v.oneCell' = true := by
 intro v hv
 simp only [cellsBx, List.mem_cons, List.not_mem_nil, or_false] at hv
 rcases hv with rfl | rfl | rfl | rfl | rfl | rfl <;> rfl
theorem hei1_any (x y : Box6) (hx : x.zin) (hy : y.zin) (w : World) : Calls Tryz.prog 47 #[.agg #[.int .i64 x.x1, .int .i64 x.y1, .int .i64 x.z1, .int .i64 x.x2, .int .i64 x.y2, .int .i64 x.z2], .agg #[.int .i64 y.x1, .int .i64 y.y1, .int .i64 y.z1, .int .i64 y.x2, .int .i64 y.y2, .int .i64 y.z2]] w fun e w' => e = .returned (.int .i64 (x.z1 - y.z1)) ∧ Bd w w' := by
 have v0 : IntKind.i64.wrap (x.z1 - y.z1) = x.z1 - y.z1 := IntWalk.i64_in _ (by unfold Box6.zin at hx hy; omega)
 go_enter Tryz.func47, Tryz.ntmps47
 go_wp2_with fail
 go_ret
 exact ⟨rfl, (Bd.alloc _ _).trans (Bd.alloc _ _)⟩
abbrev BB : Type := {b : Box6 // b.zin}
instance : Inhabited BB := ⟨⟨box0, by unfold Box6.zin; decide⟩⟩
def encBB (x : BB) : List Value := cellsBx x.1
def cmpBB (x y : BB) : Int := x.1.z1 - y.1.z1
theorem ltBB (x y : BB) : ltOf cmpBB x y = decide (x.1.z1 < y.1.z1) := by
 rw [ltOf_iff]; unfold cmpBB; congr 1; apply propext; omega
theorem swoBB : Go.Sort.SWO (ltOf cmpBB) where
 irrefl x := by rw [ltBB]; simp
 trans x y z h1 h2 := by rw [ltBB] at *; simp at *; omega
 ntrans x y z h1 h2 := by rw [ltBB] at *; simp at *; omega
theorem cmpLaysBB (blk off size : Nat) (w : World) : CmpLays Tryz.prog 47 #[] encBB 6 cmpBB blk off size w := fun _ _ _ _ x y => by
 refine (hei1_any x.1 y.1 x.2 y.2 _).mono ?_
 rintro e w' ⟨rfl, hb⟩
 exact ⟨rfl, hb.grow⟩
theorem sortBx_any (base : Nat) (v : Value) (n : Nat) (l : List Box6) (w : World) (h : w.ownsRow base 75 6 v n (l.flatMap cellsBx)) (hb : ∀ c ∈ l, c.zin) (hne : l ≠ []) (hl : l.length ≤ 1000000) (hbase : base ≤ w.heap.size) :
    Calls Tryz.prog 46 #[v, .func (.func 47) #[] #[]] w fun e w' => e = .returned (.tuple #[]) ∧ ∃ r : List Box6, r.Perm l ∧ r.Pairwise (fun x y => ¬ y.z1 < x.z1) ∧ w'.ownsRow base 75 6 v n (r.flatMap cellsBx) ∧ Below base w w' ∧ w.grownBy w' v.ownBlock := by
 have eg : ∀ args w, (callFunc 47 args).run Tryz.prog w = .ok (.enter 47 args) w := enters_of Tryz.func47 (by kernel_rfl) rfl
 obtain ⟨L, rfl⟩ := lift_sub hb
 have hL : L ≠ [] := by rintro rfl; simp at hne
 have h' : w.ownsRow base 75 6 v n (L.flatMap encBB) := by rw [show L.flatMap encBB = (L.map (·.1)).flatMap cellsBx from flat_sub L]; exact h
 obtain ⟨g, cap, rfl, hbg, hg, hnl, hH⟩ := holdsK_of_own (enc := encBB) (fun x => rfl) h' hL (by decide)
 have hcon := AnyQ.slices_SortFunc Tryz.sortBx 6 Tryz.isAgg75 Tryz.sizeOf75 encBB (fun _ => rfl) (fun x v hv => cellsBx_one x.1 v hv) cmpBB swoBB 47 #[] g 0 cap L.toArray w eg (cmpLaysBB g 0 L.toArray.size w) hH hg (by simp at hl ⊢; omega)
 have hnl' : L.toArray.size = n := by simp [hnl]
 rw [hnl'] at hcon
 refine hcon.mono fun e w' ⟨he, d', m, os, hp, hs, hw⟩ => ?_
 rw [← hnl'] at hp hs
 obtain ⟨hd, hperm⟩ := perm_of_permIn hp
 have hsrt := pairwise_of_sorted (by simpa using hd.symm) hs
 refine ⟨he, d'.toList.map (·.1), ?_, ?_, ?_, ?_, ?_⟩
 ·have := hperm.map (·.1); simpa using this
 ·rw [List.pairwise_map]
  exact hsrt.imp fun {x y} hxy => by rw [ltBB] at hxy; simpa using hxy
 ·rw [← flat_sub, hw]
  exact own_sorted (enc := encBB) (fun _ => rfl) (by decide) h' (by rw [hd, hnl'])
 ·rw [hw]
  exact below_sorted (Below.refl _ _) hbg hg hbase
 ·rw [hw]
  exact grown_sorted hg
theorem sortAllBx (base : Nat) (v : Value) (n : Nat) (l : List Box6) (w : World) (h : w.ownsRow base 75 6 v n (l.flatMap cellsBx)) (hb : ∀ c ∈ l, c.zin) (hl : l.length ≤ 1000000) (hbase : base ≤ w.heap.size) :
    Calls Tryz.prog 46 #[v, .func (.func 47) #[] #[]] w fun e w' => e = .returned (.tuple #[]) ∧ ∃ r : List Box6, r.Perm l ∧ r.Pairwise (fun x y => ¬ y.z1 < x.z1) ∧ w'.ownsRow base 75 6 v n (r.flatMap cellsBx) ∧ w.grownBy w' v.ownBlock := by
 by_cases hne : l = []
 ·subst hne
  have hn := own_len cellsBx_len (by decide) h
  obtain ⟨a, c, rfl, _, _⟩ := own_slice h
  simp only [List.length_nil] at hn
  subst hn
  refine (sortNoneBx a c _ w).mono ?_
  rintro e w' ⟨rfl, rfl⟩
  exact ⟨rfl, [], List.Perm.refl _, List.Pairwise.nil, h, grown_refl _ _⟩
 ·refine (sortBx_any base v n l w h hb hne hl hbase).mono ?_
  rintro e w' ⟨rfl, r, h1, h2, h3, h4, h5⟩
  exact ⟨rfl, r, h1, h2, h3, h5⟩
end Go.Proofs.YtgjmfdhgeahdcaaGreat
/- The height that boxes cover above a place. -/
set_option linter.unusedVariables false
set_option linter.unusedSimpArgs false
namespace Go.Proofs.YtgjmfdhgeahdcaaGreat
open Go Go.RowKit Go.Sort Go.Lib

theorem boxInfo : (Tryz.prog.info? 75).map (fun i => (i.zero, i.size, i.bytes)) = some (some (.agg #[.int .i64 0, .int .i64 0, .int .i64 0, .int .i64 0, .int .i64 0, .int .i64 0]), 6, 48) := by kernel_rfl
def atB (x y : Int) (b : Box6) : Bool := decide (b.x1 ≤ x) && decide (x < b.x2) && decide (b.y1 ≤ y) && decide (y < b.y2)
theorem filt_succ {l : List Box6} {p : Box6 → Bool} {k : Nat} (hk : k < l.length) : (l.take (k + 1)).filter p = (l.take k).filter p ++ (if p l[k] = true then [l[k]] else []) := by
 rw [List.take_succ_eq_append_getElem hk, List.filter_append]
 congr 1
 cases h : p l[k] <;> simp [h]
theorem foldH_some {t m : Int} {b : Box6} {l : List Box6} (h : m < b.z2) : foldH t m (b :: l) = foldH (t + (b.z2 - max b.z1 m)) b.z2 l := by rw [foldH, if_pos h]
theorem foldH_none {t m : Int} {b : Box6} {l : List Box6} (h : ¬ m < b.z2) : foldH t m (b :: l) = foldH t m l := by rw [foldH, if_neg h]
def Box6.at6 (w : World) (b o : Nat) (x : Box6) : Prop := w.cell? ⟨b, o, none⟩ = some (.int .i64 x.x1) ∧ w.cell? ⟨b, o + 1, none⟩ = some (.int .i64 x.y1) ∧ w.cell? ⟨b, o + 2, none⟩ = some (.int .i64 x.z1) ∧ w.cell? ⟨b, o + 3, none⟩ = some (.int .i64 x.x2) ∧ w.cell? ⟨b, o + 4, none⟩ = some (.int .i64 x.y2) ∧ w.cell? ⟨b, o + 5, none⟩ = some (.int .i64 x.z2)
def Bx6.V (w : World) (a : Option Addr) (l : List Box6) : Prop := RowV 6 Box6.at6 w a l
theorem Bx6.V.keep {w w' : World} {a : Option Addr} {l : List Box6} (h : Bx6.V w a l) (hb : Below w.heap.size w w') : Bx6.V w' a l :=
 RowV.keep (fun _ _ _ h => ⟨cell_keep hb h.1, cell_keep hb h.2.1, cell_keep hb h.2.2.1, cell_keep hb h.2.2.2.1, cell_keep hb h.2.2.2.2.1, cell_keep hb h.2.2.2.2.2⟩) h
theorem ownBxV {w : World} {base n c : Nat} {a : Option Addr} {l : List Box6} (h : w.ownsRow base 75 6 (.slice a n c) n (l.flatMap cellsBx)) : Bx6.V w a l :=
 own_rowV cellsBx_len (by decide) (fun b o x hx h => ⟨h 0 _ rfl, h 1 _ rfl, h 2 _ rfl, h 3 _ rfl, h 4 _ rfl, h 5 _ rfl⟩) h
set_option maxRecDepth 100000 in
set_option maxHeartbeats 8000000 in
theorem heights_any (l : List Box6) (a : Option Addr) (c : Nat) (x y : Int) (w : World) (hv : Bx6.V w a l) (hl : l.length ≤ 1000) (hz : ∀ b ∈ l, b.zok) :
    Calls Tryz.prog 29 #[.slice a l.length c, .int .i64 x, .int .i64 y] w fun e w' => e = .returned (.int .i64 (hgt (l.filter (atB x y)))) ∧ Below w.heap.size w w' := by
 obtain ⟨i0, hi0, hz0, hz1, hz2⟩ := info_parts boxInfo
 have HV := Lib.hid hv
 have HZ := Lib.hid hz
 obtain ⟨H, hH⟩ : ∃ H, H = hgt (l.filter (atB x y)) := ⟨_, rfl⟩
 have HH := Lib.hid hH
 rw [← hH]
 clear hv hz hH
 go_enter Tryz.func29, Tryz.ntmps29
 go_wp2_with fail
 go_loopw [7, 16] (fun v iv wr => ∃ (k : Nat) (P : List Box6), k ≤ l.length ∧ iv = .int .i64 (k : Int) ∧ Hid (P = (l.take k).filter (atB x y)) ∧ Hid (P.length ≤ 1000) ∧ wr.ownsRow w.heap.size 75 6 v P.length (P.flatMap cellsBx) ∧ Below w.heap.size w wr) (fun _ iv _ => l.length - (intOf iv).toNat)
 case atStart => exact ⟨0, [], Nat.zero_le _, rfl, Lib.hid rfl, Lib.hid (by simp), ⟨rfl, .inl ⟨rfl, rfl⟩⟩, Below.refl _ _⟩
 case round =>
  obtain ⟨k, P, hk, rfl, HP, HPL, hown, hb⟩ := hrel
  have HO := Lib.hid hown
  have HB := Lib.hid hb
  have hzz := hb.size
  obtain ⟨va, vc, rfl, -, -⟩ := own_slice hown
  by_cases hlt : k < l.length
  ·have hki : (k : Int) < (l.length : Int) := by omega
   obtain ⟨b1, off, rfl, hat⟩ := (HV.out.keep hb).at_ hlt
   have HF := Lib.hid (filt_succ (p := atB x y) hlt)
   have HPK := Lib.hid (show ((l.take (k + 1)).filter (atB x y)).length ≤ 1000 from Nat.le_trans (List.length_filter_le _ _) (by rw [List.length_take]; omega))
   generalize l[k] = b at *
   obtain ⟨c0, c1, c2, c3, c4, c5⟩ := hat
   clear hown hb
   have HK := Lib.hid (fun (O : Obj) => own_keep HO.out ((Below.refl wr.heap.size wr).alloc (Nat.le_refl _) O))
   by_cases h0 : b.x1 ≤ x
   ·by_cases h1 : x < b.x2
    ·by_cases h2 : b.y1 ≤ y
     ·by_cases h3 : y < b.y2
      ·have HN := Lib.hid (show (l.take (k + 1)).filter (atB x y) = P ++ [b] by rw [HF.out, ← HP.out, show atB x y b = true by unfold atB; simp [h0, h1, h2, h3]]; simp)
       have HK2 := Lib.hid (show ((wr.alloc (.cells #[.int .i64 b.x1, .int .i64 b.y1, .int .i64 b.z1, .int .i64 b.x2, .int .i64 b.y2, .int .i64 b.z2] 75)).alloc (.cells #[.int .i64 b.x1, .int .i64 b.y1, .int .i64 b.z1, .int .i64 b.x2, .int .i64 b.y2, .int .i64 b.z2] 75)).ownsRow w.heap.size 75 6 (.slice va P.length vc) P.length (P.flatMap cellsBx) from own_keep (HK.out _) ((Below.refl _ _).alloc (Nat.le_refl _) _))
       have HNW := Lib.hid (show ∀ j u, (cellsBx b)[j]? = some u → ((wr.alloc (.cells #[.int .i64 b.x1, .int .i64 b.y1, .int .i64 b.z1, .int .i64 b.x2, .int .i64 b.y2, .int .i64 b.z2] 75)).alloc (.cells #[.int .i64 b.x1, .int .i64 b.y1, .int .i64 b.z1, .int .i64 b.x2, .int .i64 b.y2, .int .i64 b.z2] 75)).cell? ((⟨wr.heap.size + 1, 0, none⟩ : Addr).add j) = some u from fun j u hj => by
        have := news_of (cellsBx b) 75 (wr.alloc (.cells #[.int .i64 b.x1, .int .i64 b.y1, .int .i64 b.z1, .int .i64 b.x2, .int .i64 b.y2, .int .i64 b.z2] 75)) (wr.heap.size + 1) (by simp) j u hj
        simpa [cellsBx] using this)
       go_wp2_with (at_builtin; refine wpList_append_here _ rfl _ _ 71 rfl w.heap.size 75 i0 (.agg #[.int .i64 0, .int .i64 0, .int .i64 0, .int .i64 0, .int .i64 0, .int .i64 0]) 6 48 Tryz.underlying71 hi0 hz0 hz1 hz2 rfl (by decide) (.slice va P.length vc) P.length (P.flatMap cellsBx) rfl HK2.out ⟨wr.heap.size + 1, 0, none⟩ 1 1 (cellsBx b) rfl rfl HNW.out (cellsBx_one b) (by decide) (by have := HPL.out; simp only [maxLen]; omega) (by have := HPL.out; omega) (by simp; omega) ?_; intro v' w10 hown10 hgr10 hat10; obtain ⟨va', vc', rfl, -, -⟩ := own_slice hown10; have HO10 := Lib.hid (show w10.ownsRow w.heap.size 75 6 (.slice va' (P.length + 1) vc') (P ++ [b]).length ((P ++ [b]).flatMap cellsBx) by rw [List.flatMap_append, List.length_append]; simpa using hown10); have HB10 := Lib.hid (below_grown ((HB.out.alloc hzz (.cells #[.int .i64 b.x1, .int .i64 b.y1, .int .i64 b.z1, .int .i64 b.x2, .int .i64 b.y2, .int .i64 b.z2] 75)).alloc (by simp; omega) (.cells #[.int .i64 b.x1, .int .i64 b.y1, .int .i64 b.z1, .int .i64 b.x2, .int .i64 b.y2, .int .i64 b.z2] 75)) hgr10 (by simp; omega) fun k hk => (own_lt HO.out hk).1); clear hown10 hgr10 hat10)
       go_roundw
       case rel => exact ⟨k + 1, P ++ [b], by omega, by go_num, Lib.hid HN.out.symm, Lib.hid (by rw [← HN.out]; exact HPK.out), HO10.out, HB10.out⟩
       case measure => first | (simp [intOf]; done) | (simp [intOf]; omega)
      ·have HN := Lib.hid (show (l.take (k + 1)).filter (atB x y) = P by rw [HF.out, ← HP.out, show atB x y b = false by unfold atB; simp [h0, h1, h2, h3]]; simp)
       go_wp2_with fail
       go_roundw
       case rel => exact ⟨k + 1, P, by omega, by go_num, Lib.hid HN.out.symm, HPL, HK.out _, HB.out.alloc hzz _⟩
       case measure => first | (simp [intOf]; done) | (simp [intOf]; omega)
     ·have HN := Lib.hid (show (l.take (k + 1)).filter (atB x y) = P by rw [HF.out, ← HP.out, show atB x y b = false by unfold atB; simp [h0, h1, h2]]; simp)
      go_wp2_with fail
      go_roundw
      case rel => exact ⟨k + 1, P, by omega, by go_num, Lib.hid HN.out.symm, HPL, HK.out _, HB.out.alloc hzz _⟩
      case measure => first | (simp [intOf]; done) | (simp [intOf]; omega)
    ·have HN := Lib.hid (show (l.take (k + 1)).filter (atB x y) = P by rw [HF.out, ← HP.out, show atB x y b = false by unfold atB; simp [h0, h1]]; simp)
     go_wp2_with fail
     go_roundw
     case rel => exact ⟨k + 1, P, by omega, by go_num, Lib.hid HN.out.symm, HPL, HK.out _, HB.out.alloc hzz _⟩
     case measure => first | (simp [intOf]; done) | (simp [intOf]; omega)
   ·have HN := Lib.hid (show (l.take (k + 1)).filter (atB x y) = P by rw [HF.out, ← HP.out, show atB x y b = false by unfold atB; simp [h0]]; simp)
    go_wp2_with fail
    go_roundw
    case rel => exact ⟨k + 1, P, by omega, by go_num, Lib.hid HN.out.symm, HPL, HK.out _, HB.out.alloc hzz _⟩
    case measure => first | (simp [intOf]; done) | (simp [intOf]; omega)
  ·obtain rfl : k = l.length := by omega
   have hki : ¬ ((l.length : Nat) : Int) < ((l.length : Nat) : Int) := by omega
   have HPF := Lib.hid (show P = l.filter (atB x y) by rw [HP.out, List.take_length])
   have HZP := Lib.hid (show ∀ b ∈ P, b.zok from fun b hb => HZ.out b (by rw [HPF.out] at hb; exact (List.mem_filter.1 hb).1))
   have HSO := Lib.hid (sortAllBx w.heap.size (.slice va P.length vc) P.length P wr HO.out (fun b hb => by have := HZP.out b hb; unfold Box6.zok at this; unfold Box6.zin; omega) (by have := HPL.out; omega) hzz)
   clear hown hb
   go_wp2_with (go_at_call 46; refine HSO.out.mono ?_; rintro e w2 ⟨rfl, r, hr1, hr2, hr3, hr4⟩; have HR1 := Lib.hid hr1; have HR2 := Lib.hid hr2; have HR3 := Lib.hid hr3; have HB2 := Lib.hid (below_grown HB.out hr4 hzz fun k hk => (own_lt HO.out hk).1); clear hr1 hr2 hr3 hr4)
   have HRL := Lib.hid (show r.length = P.length from HR1.out.length_eq)
   have HRZ := Lib.hid (show ∀ b ∈ r, b.zok from fun b hb => HZP.out b (HR1.out.mem_iff.1 hb))
   have HRV := Lib.hid (ownBxV HR3.out)
   have HHR := Lib.hid (show H = foldH 0 (-300000) r by rw [HH.out, ← HPF.out]; exact (foldH_hgt HR1.out (HR2.out.imp fun {a b} h => by omega) HZP.out).symm)
   have hpl := HPL.out
   go_wp2_with fail
   go_loopw [10, 11, 51] (fun tv mv iv wr => ∃ (j : Nat) (t m : Int), j ≤ P.length ∧ iv = .int .i64 (j : Int) ∧ tv = .int .i64 t ∧ mv = .int .i64 m ∧ Hid (foldH 0 (-300000) r = foldH t m (r.drop j)) ∧ Hid (-600000 * (j : Int) ≤ t ∧ t ≤ 600000 * (j : Int) ∧ -300000 ≤ m ∧ m ≤ 300000) ∧ Below w2.heap.size w2 wr) (fun _ _ iv _ => P.length - (intOf iv).toNat)
   case atStart => exact ⟨0, 0, -300000, Nat.zero_le _, rfl, rfl, rfl, Lib.hid rfl, Lib.hid (by omega), Below.refl _ _⟩
   case round =>
    obtain ⟨j, t, m, hj, rfl, rfl, rfl, HFD, HTB, hb3⟩ := hrel
    have HB3 := Lib.hid hb3
    by_cases hlt : j < P.length
    ·have hki2 : (j : Int) < (P.length : Int) := by omega
     have hjr : j < r.length := by have := HRL.out; omega
     obtain ⟨b1, off, rfl, hat⟩ := (HRV.out.keep hb3).at_ hjr
     have HD := Lib.hid (List.drop_eq_getElem_cons hjr)
     have HBZ := Lib.hid (HRZ.out _ (List.getElem_mem hjr))
     generalize r[j] = b at *
     obtain ⟨c0, c1, c2, c3, c4, c5⟩ := hat
     clear hb3
     have hbz := HBZ.out
     unfold Box6.zok at hbz
     have htb := HTB.out
     have v0 : IntKind.i64.wrap (b.z2 - max b.z1 m) = b.z2 - max b.z1 m := IntWalk.i64_in _ (by omega)
     have v1 : IntKind.i64.wrap (t + (b.z2 - max b.z1 m)) = t + (b.z2 - max b.z1 m) := IntWalk.i64_in _ (by omega)
     by_cases hm : m < b.z2
     ·have HS := Lib.hid (show foldH 0 (-300000) r = foldH (t + (b.z2 - max b.z1 m)) b.z2 (r.drop (j + 1)) by rw [HFD.out, HD.out, foldH_some hm])
      have HTB2 := Lib.hid (show -600000 * ((j + 1 : Nat) : Int) ≤ t + (b.z2 - max b.z1 m) ∧ t + (b.z2 - max b.z1 m) ≤ 600000 * ((j + 1 : Nat) : Int) ∧ -300000 ≤ b.z2 ∧ b.z2 ≤ 300000 by omega)
      clear hbz htb
      go_wp2_with fail
      go_roundw
      case rel => exact ⟨j + 1, _, _, by omega, by go_num, rfl, rfl, HS, HTB2, HB3.out.alloc HB3.out.size _⟩
      case measure => first | (simp [intOf]; done) | (simp [intOf]; omega)
     ·have HS := Lib.hid (show foldH 0 (-300000) r = foldH t m (r.drop (j + 1)) by rw [HFD.out, HD.out, foldH_none hm])
      have HTB2 := Lib.hid (show -600000 * ((j + 1 : Nat) : Int) ≤ t ∧ t ≤ 600000 * ((j + 1 : Nat) : Int) ∧ -300000 ≤ m ∧ m ≤ 300000 by omega)
      clear hbz htb
      go_wp2_with fail
      go_roundw
      case rel => exact ⟨j + 1, _, _, by omega, by go_num, rfl, rfl, HS, HTB2, HB3.out.alloc HB3.out.size _⟩
      case measure => first | (simp [intOf]; done) | (simp [intOf]; omega)
    ·obtain rfl : j = P.length := by omega
     have hki2 : ¬ ((P.length : Nat) : Int) < ((P.length : Nat) : Int) := by omega
     have HHE := Lib.hid (show H = t by rw [HHR.out, HFD.out, show r.drop P.length = [] by rw [← HRL.out]; simp]; rfl)
     clear hb3
     go_wp2_with fail
     go_ret
     exact ⟨ret_int HHE.out.symm, HB2.out.trans (HB3.out.mono HB2.out.size)⟩
end Go.Proofs.YtgjmfdhgeahdcaaGreat
