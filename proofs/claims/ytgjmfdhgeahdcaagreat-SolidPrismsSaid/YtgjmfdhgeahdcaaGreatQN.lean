/- The document's greatest common divisor, and the lowest form of a plane. -/
import Derived.Test.YtgjmfdhgeahdcaaGreatQL
import Derived.Test.YtgjmfdhgeahdcaaGreatQF
import Derived.Test.YtgjmfdhgeahdcaaGreatQA
import Derived.Test.YtgjmfdhgeahdcaaGreatQB
import Derived.Test.YtgjmfdhgeahdcaaGreatQC
set_option linter.unusedVariables false
set_option linter.unusedSimpArgs false
namespace Go.Proofs.YtgjmfdhgeahdcaaGreat
open Go Go.RowKit Go.Sort Go.Lib

theorem absR_any (n : Int) (hn : -1000000000000 ≤ n ∧ n ≤ 1000000000000) (w : World) : Calls Tryz.prog 38 #[.int .i64 n] w fun e w' => e = .returned (.int .i64 ((n.natAbs : Nat) : Int)) ∧ w = w' := by
 by_cases h : n < 0
 ·have v0 : IntKind.i64.wrap (-n) = -n := IntWalk.i64_in _ (by omega)
  go_enter Tryz.func38, Tryz.ntmps38
  go_wp2_with fail
  go_ret
  exact ⟨ret_int (by omega), rfl⟩
 ·go_enter Tryz.func38, Tryz.ntmps38
  go_wp2_with fail
  go_ret
  exact ⟨ret_int (by omega), rfl⟩
theorem withinR_any (n lo hi : Int) (w : World) : Calls Tryz.prog 20 #[.int .i64 n, .int .i64 lo, .int .i64 hi] w fun e w' => e = .returned (.bool (withinB n lo hi)) ∧ w = w' := by
 by_cases h : lo ≤ n
 ·have hE := Lib.hid (show withinB n lo hi = decide (n ≤ hi) by unfold withinB; rw [decide_eq_true h]; rfl)
  go_enter Tryz.func20, Tryz.ntmps20
  go_wp2_with fail
  go_ret
  exact ⟨ret_bool (by rw [hE.out]), rfl⟩
 ·have hE := Lib.hid (show withinB n lo hi = false by unfold withinB; rw [decide_eq_false h]; rfl)
  go_enter Tryz.func20, Tryz.ntmps20
  go_wp2_with fail
  go_ret
  exact ⟨ret_bool (by rw [hE.out]), rfl⟩
set_option maxRecDepth 100000 in
set_option maxHeartbeats 2000000 in
theorem gcdR_any (a b : Int) (ha : -1000000000000 ≤ a ∧ a ≤ 1000000000000) (hb : -1000000000000 ≤ b ∧ b ≤ 1000000000000) (w : World) :
    Calls Tryz.prog 23 #[.int .i64 a, .int .i64 b] w fun e w' => e = .returned (.int .i64 ((Nat.gcd a.natAbs b.natAbs : Nat) : Int)) ∧ Below w.heap.size w w' := by
 have HA := Lib.hid (absR_any a ha)
 have HB := Lib.hid (absR_any b hb)
 have h1 : a.natAbs ≤ 1000000000000 := by omega
 have h2 : b.natAbs ≤ 1000000000000 := by omega
 clear ha hb
 obtain ⟨G, hG⟩ : ∃ G, G = Nat.gcd a.natAbs b.natAbs := ⟨_, rfl⟩
 have HG := Lib.hid hG
 rw [← hG]
 clear hG
 generalize a.natAbs = x at *
 generalize b.natAbs = y at *
 go_enter Tryz.func23, Tryz.ntmps23
 go_wp2_with (first
  | (have h := HA.out; clear HA; go_at_call 38; refine (h _).mono ?_; clear h; rintro e w1 ⟨rfl, rfl⟩)
  | (have h := HB.out; clear HB; go_at_call 38; refine (h _).mono ?_; clear h; rintro e w1 ⟨rfl, rfl⟩))
 go_loopw [0, 1] (fun xv yv wr => ∃ x y : Nat, xv = .int .i64 (x : Int) ∧ yv = .int .i64 (y : Int) ∧ x ≤ 1000000000000 ∧ y ≤ 1000000000000 ∧ Hid (G = Nat.gcd x y) ∧ Below w.heap.size w wr) (fun _ yv _ => (intOf yv).toNat)
 case atStart => exact ⟨x, y, rfl, rfl, h1, h2, HG, Below.refl _ _⟩
 case round =>
  obtain ⟨x, y, rfl, rfl, h1, h2, HG, hb⟩ := hrel
  have HB := Lib.hid hb
  clear hb
  by_cases h0 : y = 0
  ·subst h0
   have HE := Lib.hid (show G = x by rw [HG.out, Nat.gcd_zero_right])
   go_wp2_with fail
   go_ret
   exact ⟨ret_int (by rw [HE.out]), HB.out⟩
  ·have hpos : 1 ≤ y := by omega
   have hltm := Nat.mod_lt x (show y > 0 by omega)
   have HE := Lib.hid (show G = Nat.gcd y (x % y) by rw [HG.out, Nat.gcd_comm, Nat.gcd_rec, Nat.gcd_comm])
   have HR := Lib.hid (show ((x % y : Nat) : Int) = (x : Int) % (y : Int) by omega)
   clear HG
   go_wp2_with fail
   go_quiet (fail)
   go_wp2_with fail
   go_roundw
   case rel => exact ⟨y, x % y, rfl, by rw [HR.out], by omega, by omega, HE, below_drewN HB.out _⟩
   case measure =>
    have := HR.out
    simp only [intOf]
    omega
/-- The document's lowest form. -/
theorem gcd4 (a b c d : Int) : Nat.gcd (Nat.gcd a.natAbs b.natAbs) (Nat.gcd c.natAbs d.natAbs) = g4 a b c d := by rw [g4_eq, Nat.gcd_assoc, Nat.gcd_assoc, Nat.gcd_assoc]
end Go.Proofs.YtgjmfdhgeahdcaaGreat
/- The point on three planes, as the document says it. -/
set_option linter.unusedVariables false
set_option linter.unusedSimpArgs false
namespace Go.Proofs.YtgjmfdhgeahdcaaGreat
open Go Go.RowKit Go.Sort Go.Lib

theorem det_eq (p q r : Pl) : dt (nrm p) (crs (nrm q) (nrm r)) = det p q r := by unfold det dt crs nrm; simp only; grind
/-- The document's point; 0, if there is none. -/
def ptR (p q r : Pl) : Co := if det p q r = 0 then ⟨0, 0, 0, 0⟩ else mt p q r
theorem ZBx.lt {w : World} {g : Nat} (h : ZBx w g) : g < w.heap.size := block_lt_of_cell h.a.1
theorem VcBx.lt' {w : World} {g : Nat} {v : Vec} (h : VcBx w g v) : g < w.heap.size := block_lt_of_cell h.a
def set3 (w : World) (g : Nat) (v : Vec) : World := ((w.setCell ⟨g, 0, none⟩ (.int .i64 v.x)).setCell ⟨g, 1, none⟩ (.int .i64 v.y)).setCell ⟨g, 2, none⟩ (.int .i64 v.z)
theorem cell_set_blk {w : World} {g k b o : Nat} {u : Value} (h : ¬ b = g) : (w.setCell ⟨g, k, none⟩ u).cell? ⟨b, o, none⟩ = w.cell? ⟨b, o, none⟩ := cell_set_ne (fun e => h (by injection e with e1 e2; exact e1.symm)) rfl rfl
theorem set3_cell {w : World} {g b o : Nat} {v : Vec} (h : ¬ b = g) : (set3 w g v).cell? ⟨b, o, none⟩ = w.cell? ⟨b, o, none⟩ := by unfold set3; rw [cell_set_blk h, cell_set_blk h, cell_set_blk h]
theorem set3_froz {w : World} {g b o : Nat} {v : Vec} : (set3 w g v).frozen? ⟨b, o, none⟩ = w.frozen? ⟨b, o, none⟩ := by unfold set3; rw [frozen_set, frozen_set, frozen_set]
theorem VcBx.off3 {w : World} {g b : Nat} {u v : Vec} (h : VcBx w b u) (hn : ¬ b = g) : VcBx (set3 w g v) b u := ⟨by rw [set3_cell hn]; exact h.a, by rw [set3_cell hn]; exact h.b, by rw [set3_cell hn]; exact h.c⟩
theorem ZBx.off3 {w : World} {g b : Nat} {v : Vec} (h : ZBx w b) (hn : ¬ b = g) : ZBx (set3 w g v) b := ⟨by rw [set3_cell hn, set3_froz]; exact h.a, by rw [set3_cell hn, set3_froz]; exact h.b, by rw [set3_cell hn, set3_froz]; exact h.c⟩
theorem below_set3 {B g : Nat} {w0 w : World} {v : Vec} (h : Below B w0 w) (hg : B ≤ g) : Below B w0 (set3 w g v) := ((h.setCell hg _).setCell hg _).setCell hg _
theorem three3 {w0 w : World} {B g1 g2 g3 : Nat} {a b c : Vec} (h1 : ZBx w g1) (h2 : ZBx w g2) (h3 : ZBx w g3) (n12 : ¬ g1 = g2) (n13 : ¬ g1 = g3) (n23 : ¬ g2 = g3) (hb : Below B w0 w) (b1 : B ≤ g1) (b2 : B ≤ g2) (b3 : B ≤ g3) :
    VcBx (set3 (set3 (set3 w g1 a) g2 b) g3 c) g1 a ∧ VcBx (set3 (set3 (set3 w g1 a) g2 b) g3 c) g2 b ∧ VcBx (set3 (set3 (set3 w g1 a) g2 b) g3 c) g3 c ∧ Below B w0 (set3 (set3 (set3 w g1 a) g2 b) g3 c) :=
 ⟨((ZBx.put h1 a).off3 n12).off3 n13, (ZBx.put (h2.off3 fun e => n12 e.symm) b).off3 n23, ZBx.put ((h3.off3 fun e => n13 e.symm).off3 fun e => n23 e.symm) c, below_set3 (below_set3 (below_set3 hb b1) b2) b3⟩
theorem MBox.keep {W W' : World} {g : Nat} {p q r : Pl} (hM : MBox W g p q r) (hb : Below W.heap.size W W') : MBox W' g p q r :=
 ⟨⟨cell_keep hb hM.p.1, cell_keep hb hM.p.2.1, cell_keep hb hM.p.2.2.1, cell_keep hb hM.p.2.2.2⟩, ⟨cell_keep hb hM.q.1, cell_keep hb hM.q.2.1, cell_keep hb hM.q.2.2.1, cell_keep hb hM.q.2.2.2⟩, ⟨cell_keep hb hM.r.1, cell_keep hb hM.r.2.1, cell_keep hb hM.r.2.2.1, cell_keep hb hM.r.2.2.2⟩,
  ⟨cell_keep hb hM.z.1, cell_keep hb hM.z.2.1, cell_keep hb hM.z.2.2.1, cell_keep hb hM.z.2.2.2⟩, ⟨frozen_keep hb (block_lt_of_cell hM.z.1) hM.f.1, frozen_keep hb (block_lt_of_cell hM.z.2.1) hM.f.2.1, frozen_keep hb (block_lt_of_cell hM.z.2.2.1) hM.f.2.2.1, frozen_keep hb (block_lt_of_cell hM.z.2.2.2) hM.f.2.2.2⟩⟩
/-- Three vectors in cells of their own. -/
def PtA (W : World) (a b c : Vec) (i j k : Nat) (u : Nat → Value) (W' : World) : Prop := ∃ g8 g9 g10, u i = .pointer (some ⟨g8, 0, none⟩) ∧ u j = .pointer (some ⟨g9, 0, none⟩) ∧ u k = .pointer (some ⟨g10, 0, none⟩) ∧ W.heap.size ≤ g8 ∧ W.heap.size ≤ g9 ∧ W.heap.size ≤ g10 ∧ VcBx W' g8 a ∧ VcBx W' g9 b ∧ VcBx W' g10 c ∧ Below W.heap.size W W'
def PntC (W0 : World) (s : Int) (u : Nat → Value) (W : World) : Prop := u 17 = .int .i64 s ∧ W = W0
set_option maxRecDepth 100000 in
set_option maxHeartbeats 16000000 in
theorem pointR_any (p q r : Pl) (hp : p.in_) (hq : q.in_) (hr : r.in_) (w : World) : Calls Tryz.prog 72 #[.agg #[.int .i64 p.a, .int .i64 p.b, .int .i64 p.c, .int .i64 p.d], .agg #[.int .i64 q.a, .int .i64 q.b, .int .i64 q.c, .int .i64 q.d], .agg #[.int .i64 r.a, .int .i64 r.b, .int .i64 r.c, .int .i64 r.d]] w fun e w' => e = .returned (.tuple #[.agg #[.int .i64 (ptR p q r).x, .int .i64 (ptR p q r).y, .int .i64 (ptR p q r).z, .int .i64 (ptR p q r).n], .bool (decide (det p q r ≠ 0))]) ∧ Below w.heap.size w w' := by
 have hmix : Tryz.prog.follows .mixedOrders = true := by kernel_rfl
 obtain ⟨A, hA⟩ : ∃ A, A = nrm p := ⟨_, rfl⟩
 obtain ⟨B, hB⟩ : ∃ B, B = nrm q := ⟨_, rfl⟩
 obtain ⟨C, hC⟩ : ∃ C, C = nrm r := ⟨_, rfl⟩
 have HAI := Lib.hid (show A.in_ 8 by rw [hA]; exact hp.1)
 have HBI := Lib.hid (show B.in_ 8 by rw [hB]; exact hq.1)
 have HCI := Lib.hid (show C.in_ 8 by rw [hC]; exact hr.1)
 have HNA := Lib.hid (fun W => normalR_any p W)
 have HNB := Lib.hid (fun W => normalR_any q W)
 have HNC := Lib.hid (fun W => normalR_any r W)
 rw [← hA] at HNA
 rw [← hB] at HNB
 rw [← hC] at HNC
 have HABC := Lib.hid (And.intro hA (And.intro hB hC))
 have HDD := Lib.hid (And.intro hp.2 (And.intro hq.2 hr.2))
 have HPQR := Lib.hid (And.intro hp (And.intro hq hr))
 clear hA hB hC hp hq hr
 go_enter Tryz.func72, Tryz.ntmps72
 go_upto_region 1 with fail
 refine gen_world (fun W => MBox W w.heap.size p q r ∧ Below w.heap.size w W ∧ w.heap.size + 3 < W.heap.size) ⟨⟨?_, ?_, ?_, ?_, ?_⟩, by repeat (first | (with_reducible assumption) | exact Below.refl _ _ | (refine Below.setCell ?_ (by first | omega | (simp; omega) | (simp; done)) _) | (refine Below.alloc ?_ (by first | omega | (simp; omega) | (simp; done)) _) | (refine Below.drew ?_)), by simp⟩ ?_
 ·exact ⟨by simp [go_sem], by simp [go_sem], by simp [go_sem], by simp [go_sem]⟩
 ·exact ⟨by simp [go_sem], by simp [go_sem], by simp [go_sem], by simp [go_sem]⟩
 ·exact ⟨by simp [go_sem], by simp [go_sem], by simp [go_sem], by simp [go_sem]⟩
 ·exact ⟨by simp [go_sem], by simp [go_sem], by simp [go_sem], by simp [go_sem]⟩
 ·exact ⟨by simp [go_sem], by simp [go_sem], by simp [go_sem], by simp [go_sem]⟩
 rintro W ⟨hM, hb, hz⟩
 have HM := Lib.hid hM
 have HB0 := Lib.hid hb
 clear hM hb
 obtain ⟨gp, hgp⟩ : ∃ g, g = w.heap.size := ⟨_, rfl⟩
 have HGP := Lib.hid hgp
 rw [← hgp] at HM hz
 rw [show w.heap.size = gp from hgp.symm]
 clear hgp
 simp only [Nat.add_assoc, Nat.reduceAdd]
 obtain ⟨⟨p0, p1, p2, p3⟩, ⟨q0, q1, q2, q3⟩, ⟨r0, r1, r2, r3⟩, -, -⟩ := HM.out
 have kx0 : ∀ y : KW (fun W' => Below W.heap.size W W'), (y.w.cell? ⟨gp, 0, none⟩ = some (.int .i64 p.a) ∧ y.w.cell? ⟨gp, 1, none⟩ = some (.int .i64 p.b) ∧ y.w.cell? ⟨gp, 2, none⟩ = some (.int .i64 p.c) ∧ y.w.cell? ⟨gp, 3, none⟩ = some (.int .i64 p.d)) := fun y => ⟨cell_keep y.ok p0, cell_keep y.ok p1, cell_keep y.ok p2, cell_keep y.ok p3⟩
 have kx1 : ∀ y : KW (fun W' => Below W.heap.size W W'), (y.w.cell? ⟨gp + 1, 0, none⟩ = some (.int .i64 q.a) ∧ y.w.cell? ⟨gp + 1, 1, none⟩ = some (.int .i64 q.b) ∧ y.w.cell? ⟨gp + 1, 2, none⟩ = some (.int .i64 q.c) ∧ y.w.cell? ⟨gp + 1, 3, none⟩ = some (.int .i64 q.d)) := fun y => ⟨cell_keep y.ok q0, cell_keep y.ok q1, cell_keep y.ok q2, cell_keep y.ok q3⟩
 have kx2 : ∀ y : KW (fun W' => Below W.heap.size W W'), (y.w.cell? ⟨gp + 2, 0, none⟩ = some (.int .i64 r.a) ∧ y.w.cell? ⟨gp + 2, 1, none⟩ = some (.int .i64 r.b) ∧ y.w.cell? ⟨gp + 2, 2, none⟩ = some (.int .i64 r.c) ∧ y.w.cell? ⟨gp + 2, 3, none⟩ = some (.int .i64 r.d)) := fun y => ⟨cell_keep y.ok r0, cell_keep y.ok r1, cell_keep y.ok r2, cell_keep y.ok r3⟩
 haveI n1 : Nonempty (KW (fun W' => Below W.heap.size W W')) := ⟨⟨W, Below.refl _ _⟩⟩
 refine wp_cut_slots [18, 19, 20, 21, 22, 23, 8, 9, 10] (PtA W A B C 8 9 10) ?_ ?_
 ·refine wp_region_gro (fun w' => ∃ y : KW (fun W' => Below W.heap.size W W'), w' = y.w) 9 (.take 0 (.call 1 (.take 2 (.call 3 (.take 4 (.call 5 (.three 6 (.two 7 (.one 8 .done) 8 (.one 7 .done)) 7 (.two 6 (.one 8 .done) 8 (.one 6 .done)) 8 (.two 6 (.one 7 .done) 7 (.one 6 .done))))))))) hmix (by kernel_rfl) kw_grew (KW.mk' (Below.refl _ _).drew) ?_
  have HC0 := Lib.hid (show Below W.heap.size W W.drew from (Below.refl _ _).drew)
  generalize W.drew = ww0 at *
  (refine wpGro_take ?_; simp only [nthOp]; (first | go_big_quiet_step (fail) | quiet_step (fail)); refine wpQuiet_nil ?_)
  apply wpGro_call
  ·intro w1 h1
   simp only [nthOp]
   (first | go_big_quiet_step ((go_at_call 92; exact grew_of (HNA.out _))) | quiet_step ((go_at_call 92; exact grew_of (HNA.out _))))
   exact wpQuiet_nil rfl
  (refine wpGro_take ?_; simp only [nthOp]; (first | go_big_quiet_step (fail) | quiet_step (fail)); refine wpQuiet_nil ?_)
  apply wpGro_call
  ·intro w1 h1
   simp only [nthOp]
   (first | go_big_quiet_step ((go_at_call 92; exact grew_of (HNB.out _))) | quiet_step ((go_at_call 92; exact grew_of (HNB.out _))))
   exact wpQuiet_nil rfl
  (refine wpGro_take ?_; simp only [nthOp]; (first | go_big_quiet_step (fail) | quiet_step (fail)); refine wpQuiet_nil ?_)
  apply wpGro_call
  ·intro w1 h1
   simp only [nthOp]
   (first | go_big_quiet_step ((go_at_call 92; exact grew_of (HNC.out _))) | quiet_step ((go_at_call 92; exact grew_of (HNC.out _))))
   exact wpQuiet_nil rfl
  clear kx0 kx1 kx2 n1 p0 p1 p2 p3 q0 q1 q2 q3 r0 r1 r2 r3
  refine wpGro_three ?_ ?_ ?_
  ·intro wa1 ha1
   simp only [nthOp]
   go_wp2_with fail
   have HA1 := Lib.hid (HC0.out.trans (ha1.mono HC0.out.size))
   have HC1 := Lib.hid (HA1.out.alloc HA1.out.size (.cells #[.int .i64 0, .int .i64 0, .int .i64 0] 55))
   have HZ1 := Lib.hid (ZBx.new wa1 55)
   have HG1 := Lib.hid HA1.out.size
   refine One_mk (KW.mk' HC1.out) ?_
   generalize (wa1.alloc (.cells #[.int .i64 0, .int .i64 0, .int .i64 0] 55)) = wb1 at *
   generalize wa1.heap.size = gg1 at *
   refine wpGro_two ?_ ?_
   ·intro wa2 ha2
    simp only [nthOp]
    go_wp2_with fail
    have HA2 := Lib.hid (HC1.out.trans (ha2.mono HC1.out.size))
    have HC2 := Lib.hid (HA2.out.alloc HA2.out.size (.cells #[.int .i64 0, .int .i64 0, .int .i64 0] 55))
    have HZ2 := Lib.hid (ZBx.new wa2 55)
    have HG2 := Lib.hid HA2.out.size
    have lt2_6 : gg1 < wa2.heap.size := (HZ1.out.keep ha2).lt
    have HK2_6 := Lib.hid ((HZ1.out.keep ha2).keep ((Below.refl wa2.heap.size wa2).alloc (Nat.le_refl _) (.cells #[.int .i64 0, .int .i64 0, .int .i64 0] 55)))
    refine One_mk (KW.mk' HC2.out) ?_
    generalize (wa2.alloc (.cells #[.int .i64 0, .int .i64 0, .int .i64 0] 55)) = wb2 at *
    generalize wa2.heap.size = gg2 at *
    refine wpGro_one ?_
    ·intro wa3 ha3
     simp only [nthOp]
     go_wp2_with fail
     have HA3 := Lib.hid (HC2.out.trans (ha3.mono HC2.out.size))
     have HC3 := Lib.hid (HA3.out.alloc HA3.out.size (.cells #[.int .i64 0, .int .i64 0, .int .i64 0] 55))
     have HZ3 := Lib.hid (ZBx.new wa3 55)
     have HG3 := Lib.hid HA3.out.size
     have lt3_6 : gg1 < wa3.heap.size := (HK2_6.out.keep ha3).lt
     have HK3_6 := Lib.hid ((HK2_6.out.keep ha3).keep ((Below.refl wa3.heap.size wa3).alloc (Nat.le_refl _) (.cells #[.int .i64 0, .int .i64 0, .int .i64 0] 55)))
     have lt3_7 : gg2 < wa3.heap.size := (HZ2.out.keep ha3).lt
     have HK3_7 := Lib.hid ((HZ2.out.keep ha3).keep ((Below.refl wa3.heap.size wa3).alloc (Nat.le_refl _) (.cells #[.int .i64 0, .int .i64 0, .int .i64 0] 55)))
     refine One_mk (KW.mk' HC3.out) ?_
     generalize (wa3.alloc (.cells #[.int .i64 0, .int .i64 0, .int .i64 0] 55)) = wb3 at *
     generalize wa3.heap.size = gg3 at *
     refine wpGro_done (fun wd4 hd4 => ?_)
     have HD4 := Lib.hid (HC3.out.trans (hd4.mono HC3.out.size))
     have HY0 := Lib.hid (HK3_6.out.keep hd4)
     have HY1 := Lib.hid (HK3_7.out.keep hd4)
     have HY2 := Lib.hid (HZ3.out.keep hd4)
     obtain ⟨⟨y00, x00⟩, ⟨y01, x01⟩, y02, x02⟩ := HY0.out
     obtain ⟨⟨y10, x10⟩, ⟨y11, x11⟩, y12, x12⟩ := HY1.out
     obtain ⟨⟨y20, x20⟩, ⟨y21, x21⟩, y22, x22⟩ := HY2.out
     have n01 : ¬ gg1 = gg2 := by omega
     have n10 : ¬ gg2 = gg1 := by omega
     have n02 : ¬ gg1 = gg3 := by omega
     have n20 : ¬ gg3 = gg1 := by omega
     have n12 : ¬ gg2 = gg3 := by omega
     have n21 : ¬ gg3 = gg2 := by omega
     simp only [List.drop_succ_cons, List.drop_zero]
     go_wp2_with fail
     refine NP_mk ?_
     exact cut_meet (by simp [forget]) ⟨_, _, _, rfl, rfl, rfl, HG1.out, HG2.out, HG3.out, three3 HY0.out HY1.out HY2.out n01 n02 n12 HD4.out HG1.out HG2.out HG3.out⟩
   ·intro wa5 ha5
    simp only [nthOp]
    go_wp2_with fail
    have HA5 := Lib.hid (HC1.out.trans (ha5.mono HC1.out.size))
    have HC5 := Lib.hid (HA5.out.alloc HA5.out.size (.cells #[.int .i64 0, .int .i64 0, .int .i64 0] 55))
    have HZ5 := Lib.hid (ZBx.new wa5 55)
    have HG5 := Lib.hid HA5.out.size
    have lt5_6 : gg1 < wa5.heap.size := (HZ1.out.keep ha5).lt
    have HK5_6 := Lib.hid ((HZ1.out.keep ha5).keep ((Below.refl wa5.heap.size wa5).alloc (Nat.le_refl _) (.cells #[.int .i64 0, .int .i64 0, .int .i64 0] 55)))
    refine One_mk (KW.mk' HC5.out) ?_
    generalize (wa5.alloc (.cells #[.int .i64 0, .int .i64 0, .int .i64 0] 55)) = wb5 at *
    generalize wa5.heap.size = gg5 at *
    refine wpGro_one ?_
    ·intro wa6 ha6
     simp only [nthOp]
     go_wp2_with fail
     have HA6 := Lib.hid (HC5.out.trans (ha6.mono HC5.out.size))
     have HC6 := Lib.hid (HA6.out.alloc HA6.out.size (.cells #[.int .i64 0, .int .i64 0, .int .i64 0] 55))
     have HZ6 := Lib.hid (ZBx.new wa6 55)
     have HG6 := Lib.hid HA6.out.size
     have lt6_6 : gg1 < wa6.heap.size := (HK5_6.out.keep ha6).lt
     have HK6_6 := Lib.hid ((HK5_6.out.keep ha6).keep ((Below.refl wa6.heap.size wa6).alloc (Nat.le_refl _) (.cells #[.int .i64 0, .int .i64 0, .int .i64 0] 55)))
     have lt6_8 : gg5 < wa6.heap.size := (HZ5.out.keep ha6).lt
     have HK6_8 := Lib.hid ((HZ5.out.keep ha6).keep ((Below.refl wa6.heap.size wa6).alloc (Nat.le_refl _) (.cells #[.int .i64 0, .int .i64 0, .int .i64 0] 55)))
     refine One_mk (KW.mk' HC6.out) ?_
     generalize (wa6.alloc (.cells #[.int .i64 0, .int .i64 0, .int .i64 0] 55)) = wb6 at *
     generalize wa6.heap.size = gg6 at *
     refine wpGro_done (fun wd7 hd7 => ?_)
     have HD7 := Lib.hid (HC6.out.trans (hd7.mono HC6.out.size))
     have HY0 := Lib.hid (HK6_6.out.keep hd7)
     have HY1 := Lib.hid (HZ6.out.keep hd7)
     have HY2 := Lib.hid (HK6_8.out.keep hd7)
     obtain ⟨⟨y00, x00⟩, ⟨y01, x01⟩, y02, x02⟩ := HY0.out
     obtain ⟨⟨y10, x10⟩, ⟨y11, x11⟩, y12, x12⟩ := HY1.out
     obtain ⟨⟨y20, x20⟩, ⟨y21, x21⟩, y22, x22⟩ := HY2.out
     have n01 : ¬ gg1 = gg6 := by omega
     have n10 : ¬ gg6 = gg1 := by omega
     have n02 : ¬ gg1 = gg5 := by omega
     have n20 : ¬ gg5 = gg1 := by omega
     have n12 : ¬ gg6 = gg5 := by omega
     have n21 : ¬ gg5 = gg6 := by omega
     simp only [List.drop_succ_cons, List.drop_zero]
     go_wp2_with fail
     refine NP_mk ?_
     exact cut_meet (by simp [forget]) ⟨_, _, _, rfl, rfl, rfl, HG1.out, HG6.out, HG5.out, three3 HY0.out HY1.out HY2.out n01 n02 n12 HD7.out HG1.out HG6.out HG5.out⟩
  ·intro wa8 ha8
   simp only [nthOp]
   go_wp2_with fail
   have HA8 := Lib.hid (HC0.out.trans (ha8.mono HC0.out.size))
   have HC8 := Lib.hid (HA8.out.alloc HA8.out.size (.cells #[.int .i64 0, .int .i64 0, .int .i64 0] 55))
   have HZ8 := Lib.hid (ZBx.new wa8 55)
   have HG8 := Lib.hid HA8.out.size
   refine One_mk (KW.mk' HC8.out) ?_
   generalize (wa8.alloc (.cells #[.int .i64 0, .int .i64 0, .int .i64 0] 55)) = wb8 at *
   generalize wa8.heap.size = gg8 at *
   refine wpGro_two ?_ ?_
   ·intro wa9 ha9
    simp only [nthOp]
    go_wp2_with fail
    have HA9 := Lib.hid (HC8.out.trans (ha9.mono HC8.out.size))
    have HC9 := Lib.hid (HA9.out.alloc HA9.out.size (.cells #[.int .i64 0, .int .i64 0, .int .i64 0] 55))
    have HZ9 := Lib.hid (ZBx.new wa9 55)
    have HG9 := Lib.hid HA9.out.size
    have lt9_7 : gg8 < wa9.heap.size := (HZ8.out.keep ha9).lt
    have HK9_7 := Lib.hid ((HZ8.out.keep ha9).keep ((Below.refl wa9.heap.size wa9).alloc (Nat.le_refl _) (.cells #[.int .i64 0, .int .i64 0, .int .i64 0] 55)))
    refine One_mk (KW.mk' HC9.out) ?_
    generalize (wa9.alloc (.cells #[.int .i64 0, .int .i64 0, .int .i64 0] 55)) = wb9 at *
    generalize wa9.heap.size = gg9 at *
    refine wpGro_one ?_
    ·intro wa10 ha10
     simp only [nthOp]
     go_wp2_with fail
     have HA10 := Lib.hid (HC9.out.trans (ha10.mono HC9.out.size))
     have HC10 := Lib.hid (HA10.out.alloc HA10.out.size (.cells #[.int .i64 0, .int .i64 0, .int .i64 0] 55))
     have HZ10 := Lib.hid (ZBx.new wa10 55)
     have HG10 := Lib.hid HA10.out.size
     have lt10_7 : gg8 < wa10.heap.size := (HK9_7.out.keep ha10).lt
     have HK10_7 := Lib.hid ((HK9_7.out.keep ha10).keep ((Below.refl wa10.heap.size wa10).alloc (Nat.le_refl _) (.cells #[.int .i64 0, .int .i64 0, .int .i64 0] 55)))
     have lt10_6 : gg9 < wa10.heap.size := (HZ9.out.keep ha10).lt
     have HK10_6 := Lib.hid ((HZ9.out.keep ha10).keep ((Below.refl wa10.heap.size wa10).alloc (Nat.le_refl _) (.cells #[.int .i64 0, .int .i64 0, .int .i64 0] 55)))
     refine One_mk (KW.mk' HC10.out) ?_
     generalize (wa10.alloc (.cells #[.int .i64 0, .int .i64 0, .int .i64 0] 55)) = wb10 at *
     generalize wa10.heap.size = gg10 at *
     refine wpGro_done (fun wd11 hd11 => ?_)
     have HD11 := Lib.hid (HC10.out.trans (hd11.mono HC10.out.size))
     have HY0 := Lib.hid (HK10_6.out.keep hd11)
     have HY1 := Lib.hid (HK10_7.out.keep hd11)
     have HY2 := Lib.hid (HZ10.out.keep hd11)
     obtain ⟨⟨y00, x00⟩, ⟨y01, x01⟩, y02, x02⟩ := HY0.out
     obtain ⟨⟨y10, x10⟩, ⟨y11, x11⟩, y12, x12⟩ := HY1.out
     obtain ⟨⟨y20, x20⟩, ⟨y21, x21⟩, y22, x22⟩ := HY2.out
     have n01 : ¬ gg9 = gg8 := by omega
     have n10 : ¬ gg8 = gg9 := by omega
     have n02 : ¬ gg9 = gg10 := by omega
     have n20 : ¬ gg10 = gg9 := by omega
     have n12 : ¬ gg8 = gg10 := by omega
     have n21 : ¬ gg10 = gg8 := by omega
     simp only [List.drop_succ_cons, List.drop_zero]
     go_wp2_with fail
     refine NP_mk ?_
     exact cut_meet (by simp [forget]) ⟨_, _, _, rfl, rfl, rfl, HG9.out, HG8.out, HG10.out, three3 HY0.out HY1.out HY2.out n01 n02 n12 HD11.out HG9.out HG8.out HG10.out⟩
   ·intro wa12 ha12
    simp only [nthOp]
    go_wp2_with fail
    have HA12 := Lib.hid (HC8.out.trans (ha12.mono HC8.out.size))
    have HC12 := Lib.hid (HA12.out.alloc HA12.out.size (.cells #[.int .i64 0, .int .i64 0, .int .i64 0] 55))
    have HZ12 := Lib.hid (ZBx.new wa12 55)
    have HG12 := Lib.hid HA12.out.size
    have lt12_7 : gg8 < wa12.heap.size := (HZ8.out.keep ha12).lt
    have HK12_7 := Lib.hid ((HZ8.out.keep ha12).keep ((Below.refl wa12.heap.size wa12).alloc (Nat.le_refl _) (.cells #[.int .i64 0, .int .i64 0, .int .i64 0] 55)))
    refine One_mk (KW.mk' HC12.out) ?_
    generalize (wa12.alloc (.cells #[.int .i64 0, .int .i64 0, .int .i64 0] 55)) = wb12 at *
    generalize wa12.heap.size = gg12 at *
    refine wpGro_one ?_
    ·intro wa13 ha13
     simp only [nthOp]
     go_wp2_with fail
     have HA13 := Lib.hid (HC12.out.trans (ha13.mono HC12.out.size))
     have HC13 := Lib.hid (HA13.out.alloc HA13.out.size (.cells #[.int .i64 0, .int .i64 0, .int .i64 0] 55))
     have HZ13 := Lib.hid (ZBx.new wa13 55)
     have HG13 := Lib.hid HA13.out.size
     have lt13_7 : gg8 < wa13.heap.size := (HK12_7.out.keep ha13).lt
     have HK13_7 := Lib.hid ((HK12_7.out.keep ha13).keep ((Below.refl wa13.heap.size wa13).alloc (Nat.le_refl _) (.cells #[.int .i64 0, .int .i64 0, .int .i64 0] 55)))
     have lt13_8 : gg12 < wa13.heap.size := (HZ12.out.keep ha13).lt
     have HK13_8 := Lib.hid ((HZ12.out.keep ha13).keep ((Below.refl wa13.heap.size wa13).alloc (Nat.le_refl _) (.cells #[.int .i64 0, .int .i64 0, .int .i64 0] 55)))
     refine One_mk (KW.mk' HC13.out) ?_
     generalize (wa13.alloc (.cells #[.int .i64 0, .int .i64 0, .int .i64 0] 55)) = wb13 at *
     generalize wa13.heap.size = gg13 at *
     refine wpGro_done (fun wd14 hd14 => ?_)
     have HD14 := Lib.hid (HC13.out.trans (hd14.mono HC13.out.size))
     have HY0 := Lib.hid (HZ13.out.keep hd14)
     have HY1 := Lib.hid (HK13_7.out.keep hd14)
     have HY2 := Lib.hid (HK13_8.out.keep hd14)
     obtain ⟨⟨y00, x00⟩, ⟨y01, x01⟩, y02, x02⟩ := HY0.out
     obtain ⟨⟨y10, x10⟩, ⟨y11, x11⟩, y12, x12⟩ := HY1.out
     obtain ⟨⟨y20, x20⟩, ⟨y21, x21⟩, y22, x22⟩ := HY2.out
     have n01 : ¬ gg13 = gg8 := by omega
     have n10 : ¬ gg8 = gg13 := by omega
     have n02 : ¬ gg13 = gg12 := by omega
     have n20 : ¬ gg12 = gg13 := by omega
     have n12 : ¬ gg8 = gg12 := by omega
     have n21 : ¬ gg12 = gg8 := by omega
     simp only [List.drop_succ_cons, List.drop_zero]
     go_wp2_with fail
     refine NP_mk ?_
     exact cut_meet (by simp [forget]) ⟨_, _, _, rfl, rfl, rfl, HG13.out, HG8.out, HG12.out, three3 HY0.out HY1.out HY2.out n01 n02 n12 HD14.out HG13.out HG8.out HG12.out⟩
  ·intro wa15 ha15
   simp only [nthOp]
   go_wp2_with fail
   have HA15 := Lib.hid (HC0.out.trans (ha15.mono HC0.out.size))
   have HC15 := Lib.hid (HA15.out.alloc HA15.out.size (.cells #[.int .i64 0, .int .i64 0, .int .i64 0] 55))
   have HZ15 := Lib.hid (ZBx.new wa15 55)
   have HG15 := Lib.hid HA15.out.size
   refine One_mk (KW.mk' HC15.out) ?_
   generalize (wa15.alloc (.cells #[.int .i64 0, .int .i64 0, .int .i64 0] 55)) = wb15 at *
   generalize wa15.heap.size = gg15 at *
   refine wpGro_two ?_ ?_
   ·intro wa16 ha16
    simp only [nthOp]
    go_wp2_with fail
    have HA16 := Lib.hid (HC15.out.trans (ha16.mono HC15.out.size))
    have HC16 := Lib.hid (HA16.out.alloc HA16.out.size (.cells #[.int .i64 0, .int .i64 0, .int .i64 0] 55))
    have HZ16 := Lib.hid (ZBx.new wa16 55)
    have HG16 := Lib.hid HA16.out.size
    have lt16_8 : gg15 < wa16.heap.size := (HZ15.out.keep ha16).lt
    have HK16_8 := Lib.hid ((HZ15.out.keep ha16).keep ((Below.refl wa16.heap.size wa16).alloc (Nat.le_refl _) (.cells #[.int .i64 0, .int .i64 0, .int .i64 0] 55)))
    refine One_mk (KW.mk' HC16.out) ?_
    generalize (wa16.alloc (.cells #[.int .i64 0, .int .i64 0, .int .i64 0] 55)) = wb16 at *
    generalize wa16.heap.size = gg16 at *
    refine wpGro_one ?_
    ·intro wa17 ha17
     simp only [nthOp]
     go_wp2_with fail
     have HA17 := Lib.hid (HC16.out.trans (ha17.mono HC16.out.size))
     have HC17 := Lib.hid (HA17.out.alloc HA17.out.size (.cells #[.int .i64 0, .int .i64 0, .int .i64 0] 55))
     have HZ17 := Lib.hid (ZBx.new wa17 55)
     have HG17 := Lib.hid HA17.out.size
     have lt17_8 : gg15 < wa17.heap.size := (HK16_8.out.keep ha17).lt
     have HK17_8 := Lib.hid ((HK16_8.out.keep ha17).keep ((Below.refl wa17.heap.size wa17).alloc (Nat.le_refl _) (.cells #[.int .i64 0, .int .i64 0, .int .i64 0] 55)))
     have lt17_6 : gg16 < wa17.heap.size := (HZ16.out.keep ha17).lt
     have HK17_6 := Lib.hid ((HZ16.out.keep ha17).keep ((Below.refl wa17.heap.size wa17).alloc (Nat.le_refl _) (.cells #[.int .i64 0, .int .i64 0, .int .i64 0] 55)))
     refine One_mk (KW.mk' HC17.out) ?_
     generalize (wa17.alloc (.cells #[.int .i64 0, .int .i64 0, .int .i64 0] 55)) = wb17 at *
     generalize wa17.heap.size = gg17 at *
     refine wpGro_done (fun wd18 hd18 => ?_)
     have HD18 := Lib.hid (HC17.out.trans (hd18.mono HC17.out.size))
     have HY0 := Lib.hid (HK17_6.out.keep hd18)
     have HY1 := Lib.hid (HZ17.out.keep hd18)
     have HY2 := Lib.hid (HK17_8.out.keep hd18)
     obtain ⟨⟨y00, x00⟩, ⟨y01, x01⟩, y02, x02⟩ := HY0.out
     obtain ⟨⟨y10, x10⟩, ⟨y11, x11⟩, y12, x12⟩ := HY1.out
     obtain ⟨⟨y20, x20⟩, ⟨y21, x21⟩, y22, x22⟩ := HY2.out
     have n01 : ¬ gg16 = gg17 := by omega
     have n10 : ¬ gg17 = gg16 := by omega
     have n02 : ¬ gg16 = gg15 := by omega
     have n20 : ¬ gg15 = gg16 := by omega
     have n12 : ¬ gg17 = gg15 := by omega
     have n21 : ¬ gg15 = gg17 := by omega
     simp only [List.drop_succ_cons, List.drop_zero]
     go_wp2_with fail
     refine NP_mk ?_
     exact cut_meet (by simp [forget]) ⟨_, _, _, rfl, rfl, rfl, HG16.out, HG17.out, HG15.out, three3 HY0.out HY1.out HY2.out n01 n02 n12 HD18.out HG16.out HG17.out HG15.out⟩
   ·intro wa19 ha19
    simp only [nthOp]
    go_wp2_with fail
    have HA19 := Lib.hid (HC15.out.trans (ha19.mono HC15.out.size))
    have HC19 := Lib.hid (HA19.out.alloc HA19.out.size (.cells #[.int .i64 0, .int .i64 0, .int .i64 0] 55))
    have HZ19 := Lib.hid (ZBx.new wa19 55)
    have HG19 := Lib.hid HA19.out.size
    have lt19_8 : gg15 < wa19.heap.size := (HZ15.out.keep ha19).lt
    have HK19_8 := Lib.hid ((HZ15.out.keep ha19).keep ((Below.refl wa19.heap.size wa19).alloc (Nat.le_refl _) (.cells #[.int .i64 0, .int .i64 0, .int .i64 0] 55)))
    refine One_mk (KW.mk' HC19.out) ?_
    generalize (wa19.alloc (.cells #[.int .i64 0, .int .i64 0, .int .i64 0] 55)) = wb19 at *
    generalize wa19.heap.size = gg19 at *
    refine wpGro_one ?_
    ·intro wa20 ha20
     simp only [nthOp]
     go_wp2_with fail
     have HA20 := Lib.hid (HC19.out.trans (ha20.mono HC19.out.size))
     have HC20 := Lib.hid (HA20.out.alloc HA20.out.size (.cells #[.int .i64 0, .int .i64 0, .int .i64 0] 55))
     have HZ20 := Lib.hid (ZBx.new wa20 55)
     have HG20 := Lib.hid HA20.out.size
     have lt20_8 : gg15 < wa20.heap.size := (HK19_8.out.keep ha20).lt
     have HK20_8 := Lib.hid ((HK19_8.out.keep ha20).keep ((Below.refl wa20.heap.size wa20).alloc (Nat.le_refl _) (.cells #[.int .i64 0, .int .i64 0, .int .i64 0] 55)))
     have lt20_7 : gg19 < wa20.heap.size := (HZ19.out.keep ha20).lt
     have HK20_7 := Lib.hid ((HZ19.out.keep ha20).keep ((Below.refl wa20.heap.size wa20).alloc (Nat.le_refl _) (.cells #[.int .i64 0, .int .i64 0, .int .i64 0] 55)))
     refine One_mk (KW.mk' HC20.out) ?_
     generalize (wa20.alloc (.cells #[.int .i64 0, .int .i64 0, .int .i64 0] 55)) = wb20 at *
     generalize wa20.heap.size = gg20 at *
     refine wpGro_done (fun wd21 hd21 => ?_)
     have HD21 := Lib.hid (HC20.out.trans (hd21.mono HC20.out.size))
     have HY0 := Lib.hid (HZ20.out.keep hd21)
     have HY1 := Lib.hid (HK20_7.out.keep hd21)
     have HY2 := Lib.hid (HK20_8.out.keep hd21)
     obtain ⟨⟨y00, x00⟩, ⟨y01, x01⟩, y02, x02⟩ := HY0.out
     obtain ⟨⟨y10, x10⟩, ⟨y11, x11⟩, y12, x12⟩ := HY1.out
     obtain ⟨⟨y20, x20⟩, ⟨y21, x21⟩, y22, x22⟩ := HY2.out
     have n01 : ¬ gg20 = gg19 := by omega
     have n10 : ¬ gg19 = gg20 := by omega
     have n02 : ¬ gg20 = gg15 := by omega
     have n20 : ¬ gg15 = gg20 := by omega
     have n12 : ¬ gg19 = gg15 := by omega
     have n21 : ¬ gg15 = gg19 := by omega
     simp only [List.drop_succ_cons, List.drop_zero]
     go_wp2_with fail
     refine NP_mk ?_
     exact cut_meet (by simp [forget]) ⟨_, _, _, rfl, rfl, rfl, HG20.out, HG19.out, HG15.out, three3 HY0.out HY1.out HY2.out n01 n02 n12 HD21.out HG20.out HG19.out HG15.out⟩
 rintro u W1 ⟨g8, g9, g10, hu8, hu9, hu10, b8, b9, b10, v8, v9, v10, hb1⟩
 simp only [forget, List.foldl_cons, List.foldl_nil, hu8, hu9, hu10, List.setIfInBounds_toArray, List.set_cons_succ, List.set_cons_zero]
 go_upto_region 2 with fail
 have HV8 := Lib.hid v8
 have HV9 := Lib.hid v9
 have HV10 := Lib.hid v10
 have HB1 := Lib.hid hb1
 have HBS := Lib.hid (And.intro b8 (And.intro b9 b10))
 have hl8 := v8.lt'
 have hl9 := v9.lt'
 have hl10 := v10.lt'
 obtain ⟨a0, a1, a2⟩ := v8
 obtain ⟨c0, c1, c2⟩ := v9
 obtain ⟨d0, d1, d2⟩ := v10
 clear hu8 hu9 hu10 hb1 b8 b9 b10
 have HX := Lib.hid (fun W => crossR_any B C (Vec.in_.mono HBI.out (by decide)) (Vec.in_.mono HCI.out (by decide)) W)
 have HY := Lib.hid (fun W => crossR_any C A (Vec.in_.mono HCI.out (by decide)) (Vec.in_.mono HAI.out (by decide)) W)
 have HZ := Lib.hid (fun W => crossR_any A B (Vec.in_.mono HAI.out (by decide)) (Vec.in_.mono HBI.out (by decide)) W)
 have HXI := Lib.hid (crs_in HBI.out HCI.out)
 have HYI := Lib.hid (crs_in HCI.out HAI.out)
 have HZI := Lib.hid (crs_in HAI.out HBI.out)
 obtain ⟨X, hX⟩ : ∃ X, X = crs B C := ⟨_, rfl⟩
 obtain ⟨Y, hY⟩ : ∃ Y, Y = crs C A := ⟨_, rfl⟩
 obtain ⟨Z, hZ⟩ : ∃ Z, Z = crs A B := ⟨_, rfl⟩
 rw [← hX] at HX HXI
 rw [← hY] at HY HYI
 rw [← hZ] at HZ HZI
 have HDT := Lib.hid (fun W => dotR_any A X 8 128 HAI.out HXI.out (by decide) W)
 have HDE := Lib.hid (show dt A X = det p q r by rw [hX, HABC.out.1, HABC.out.2.1, HABC.out.2.2]; exact det_eq p q r)
 have HXYZ := Lib.hid (And.intro hX (And.intro hY hZ))
 clear hX hY hZ
 rw [HDE.out] at HDT
 have HDI := Lib.hid (det_in HPQR.out.1 HPQR.out.2.1 HPQR.out.2.2)
 obtain ⟨D, hD⟩ : ∃ D, D = det p q r := ⟨_, rfl⟩
 have HDV := Lib.hid hD
 rw [← hD] at HDT HDI
 clear hD
 refine wp_region_grew (by kernel_rfl) (by kernel_rfl) ?_
 repeat (first
  | go_big_quiet_step (first | (go_at_call 94; exact grew_of (HX.out _)) | (go_at_call 93; exact grew_of (HDT.out _)))
  | quiet_step (first | (go_at_call 94; exact grew_of (HX.out _)) | (go_at_call 93; exact grew_of (HDT.out _))))
 refine wpQuiet_nil ?_
 rintro _ ⟨gg, rfl⟩
 have HB2 := Lib.hid (grewB (Below.refl W1.heap.size W1) (Nat.le_refl _) gg)
 generalize grew W1 gg = W2 at *
 have HM2 := Lib.hid ((HM.out.keep HB1.out).keep HB2.out)
 have HV8' := Lib.hid (HV8.out.keep HB2.out)
 have HV9' := Lib.hid (HV9.out.keep HB2.out)
 have HV10' := Lib.hid (HV10.out.keep HB2.out)
 have HBW2 := Lib.hid (HB0.out.trans ((HB1.out.trans (HB2.out.mono HB1.out.size)).mono HB0.out.size))
 have HG2 := Lib.hid (show gp + 3 < W2.heap.size by have := HB1.out.size; have := HB2.out.size; omega)
 clear a0 a1 a2 c0 c1 c2 d0 d1 d2 hl8 hl9 hl10
 by_cases h0 : D = 0
 ·subst h0
  obtain ⟨-, -, -, ⟨z0, z1, z2, z3⟩, f0, f1, f2, f3⟩ := HM2.out
  have HR := Lib.hid (show (⟨0, 0, 0, 0⟩ : Co) = ptR p q r by unfold ptR; rw [if_pos HDV.out.symm])
  have HR2 := Lib.hid (show false = decide (det p q r ≠ 0) by rw [← HDV.out]; rfl)
  go_wp2_with fail
  exact bodyPost_ret (v := .tuple #[.agg #[.int .i64 0, .int .i64 0, .int .i64 0, .int .i64 0], .bool false]) (by simp [results, Tryz.results72, go_sem, z0, z1, z2, z3]) rfl ⟨by rw [← HR.out, ← HR2.out], by repeat (first | exact HBW2.out | (refine Below.setCell ?_ (by have := HGP.out; simp only; omega) _))⟩
 ·have hd0 : decide (D = 0) = false := decide_eq_false h0
  have hd9 : (D == 0) = false := by simpa using h0
  have HR2 := Lib.hid (show true = decide (det p q r ≠ 0) by rw [← HDV.out]; simp [h0])
  have HR1 := Lib.hid (show ptR p q r = pnt (mtv p q r) D by unfold ptR; rw [if_neg (by rw [← HDV.out]; exact h0)]; unfold mt; rw [← HDV.out])
  obtain ⟨a0, a1, a2⟩ := HV8'.out
  obtain ⟨c0, c1, c2⟩ := HV9'.out
  obtain ⟨d0, d1, d2⟩ := HV10'.out
  go_upto_region 5 with fail
  have kx0 : ∀ y : KW (fun W' => Below W2.heap.size W2 W'), (y.w.cell? ⟨g8, 0, none⟩ = some (.int .i64 A.x) ∧ y.w.cell? ⟨g8, 1, none⟩ = some (.int .i64 A.y) ∧ y.w.cell? ⟨g8, 2, none⟩ = some (.int .i64 A.z)) := fun y => ⟨cell_keep y.ok a0, cell_keep y.ok a1, cell_keep y.ok a2⟩
  have kx1 : ∀ y : KW (fun W' => Below W2.heap.size W2 W'), (y.w.cell? ⟨g9, 0, none⟩ = some (.int .i64 B.x) ∧ y.w.cell? ⟨g9, 1, none⟩ = some (.int .i64 B.y) ∧ y.w.cell? ⟨g9, 2, none⟩ = some (.int .i64 B.z)) := fun y => ⟨cell_keep y.ok c0, cell_keep y.ok c1, cell_keep y.ok c2⟩
  have kx2 : ∀ y : KW (fun W' => Below W2.heap.size W2 W'), (y.w.cell? ⟨g10, 0, none⟩ = some (.int .i64 C.x) ∧ y.w.cell? ⟨g10, 1, none⟩ = some (.int .i64 C.y) ∧ y.w.cell? ⟨g10, 2, none⟩ = some (.int .i64 C.z)) := fun y => ⟨cell_keep y.ok d0, cell_keep y.ok d1, cell_keep y.ok d2⟩
  haveI n1 : Nonempty (KW (fun W' => Below W2.heap.size W2 W')) := ⟨⟨W2, Below.refl _ _⟩⟩
  refine wp_cut_slots [32, 33, 34, 35, 36, 37, 38, 39, 40, 12, 13, 14] (PtA W2 X Y Z 12 13 14) ?_ ?_
  ·refine wp_region_gro (fun w' => ∃ y : KW (fun W' => Below W2.heap.size W2 W'), w' = y.w) 12 (.take 0 (.take 1 (.call 2 (.take 3 (.take 4 (.call 5 (.take 6 (.take 7 (.call 8 (.three 9 (.two 10 (.one 11 .done) 11 (.one 10 .done)) 10 (.two 9 (.one 11 .done) 11 (.one 9 .done)) 11 (.two 9 (.one 10 .done) 10 (.one 9 .done)))))))))))) hmix (by kernel_rfl) kw_grew (KW.mk' (Below.refl _ _).drew) ?_
   have HC0 := Lib.hid (show Below W2.heap.size W2 W2.drew from (Below.refl _ _).drew)
   generalize W2.drew = ww0 at *
   (refine wpGro_take ?_; simp only [nthOp]; (first | go_big_quiet_step (fail) | quiet_step (fail)); refine wpQuiet_nil ?_)
   (refine wpGro_take ?_; simp only [nthOp]; (first | go_big_quiet_step (fail) | quiet_step (fail)); refine wpQuiet_nil ?_)
   apply wpGro_call
   ·intro w1 h1
    simp only [nthOp]
    (first | go_big_quiet_step ((go_at_call 94; exact grew_of (HX.out _))) | quiet_step ((go_at_call 94; exact grew_of (HX.out _))))
    exact wpQuiet_nil rfl
   (refine wpGro_take ?_; simp only [nthOp]; (first | go_big_quiet_step (fail) | quiet_step (fail)); refine wpQuiet_nil ?_)
   (refine wpGro_take ?_; simp only [nthOp]; (first | go_big_quiet_step (fail) | quiet_step (fail)); refine wpQuiet_nil ?_)
   apply wpGro_call
   ·intro w1 h1
    simp only [nthOp]
    (first | go_big_quiet_step ((go_at_call 94; exact grew_of (HY.out _))) | quiet_step ((go_at_call 94; exact grew_of (HY.out _))))
    exact wpQuiet_nil rfl
   (refine wpGro_take ?_; simp only [nthOp]; (first | go_big_quiet_step (fail) | quiet_step (fail)); refine wpQuiet_nil ?_)
   (refine wpGro_take ?_; simp only [nthOp]; (first | go_big_quiet_step (fail) | quiet_step (fail)); refine wpQuiet_nil ?_)
   apply wpGro_call
   ·intro w1 h1
    simp only [nthOp]
    (first | go_big_quiet_step ((go_at_call 94; exact grew_of (HZ.out _))) | quiet_step ((go_at_call 94; exact grew_of (HZ.out _))))
    exact wpQuiet_nil rfl
   clear kx0 kx1 kx2 n1 a0 a1 a2 c0 c1 c2 d0 d1 d2
   refine wpGro_three ?_ ?_ ?_
   ·intro wa22 ha22
    simp only [nthOp]
    go_wp2_with fail
    have HA22 := Lib.hid (HC0.out.trans (ha22.mono HC0.out.size))
    have HC22 := Lib.hid (HA22.out.alloc HA22.out.size (.cells #[.int .i64 0, .int .i64 0, .int .i64 0] 55))
    have HZ22 := Lib.hid (ZBx.new wa22 55)
    have HG22 := Lib.hid HA22.out.size
    refine One_mk (KW.mk' HC22.out) ?_
    generalize (wa22.alloc (.cells #[.int .i64 0, .int .i64 0, .int .i64 0] 55)) = wb22 at *
    generalize wa22.heap.size = gg22 at *
    refine wpGro_two ?_ ?_
    ·intro wa23 ha23
     simp only [nthOp]
     go_wp2_with fail
     have HA23 := Lib.hid (HC22.out.trans (ha23.mono HC22.out.size))
     have HC23 := Lib.hid (HA23.out.alloc HA23.out.size (.cells #[.int .i64 0, .int .i64 0, .int .i64 0] 55))
     have HZ23 := Lib.hid (ZBx.new wa23 55)
     have HG23 := Lib.hid HA23.out.size
     have lt23_9 : gg22 < wa23.heap.size := (HZ22.out.keep ha23).lt
     have HK23_9 := Lib.hid ((HZ22.out.keep ha23).keep ((Below.refl wa23.heap.size wa23).alloc (Nat.le_refl _) (.cells #[.int .i64 0, .int .i64 0, .int .i64 0] 55)))
     refine One_mk (KW.mk' HC23.out) ?_
     generalize (wa23.alloc (.cells #[.int .i64 0, .int .i64 0, .int .i64 0] 55)) = wb23 at *
     generalize wa23.heap.size = gg23 at *
     refine wpGro_one ?_
     ·intro wa24 ha24
      simp only [nthOp]
      go_wp2_with fail
      have HA24 := Lib.hid (HC23.out.trans (ha24.mono HC23.out.size))
      have HC24 := Lib.hid (HA24.out.alloc HA24.out.size (.cells #[.int .i64 0, .int .i64 0, .int .i64 0] 55))
      have HZ24 := Lib.hid (ZBx.new wa24 55)
      have HG24 := Lib.hid HA24.out.size
      have lt24_9 : gg22 < wa24.heap.size := (HK23_9.out.keep ha24).lt
      have HK24_9 := Lib.hid ((HK23_9.out.keep ha24).keep ((Below.refl wa24.heap.size wa24).alloc (Nat.le_refl _) (.cells #[.int .i64 0, .int .i64 0, .int .i64 0] 55)))
      have lt24_10 : gg23 < wa24.heap.size := (HZ23.out.keep ha24).lt
      have HK24_10 := Lib.hid ((HZ23.out.keep ha24).keep ((Below.refl wa24.heap.size wa24).alloc (Nat.le_refl _) (.cells #[.int .i64 0, .int .i64 0, .int .i64 0] 55)))
      refine One_mk (KW.mk' HC24.out) ?_
      generalize (wa24.alloc (.cells #[.int .i64 0, .int .i64 0, .int .i64 0] 55)) = wb24 at *
      generalize wa24.heap.size = gg24 at *
      refine wpGro_done (fun wd25 hd25 => ?_)
      have HD25 := Lib.hid (HC24.out.trans (hd25.mono HC24.out.size))
      have HY0 := Lib.hid (HK24_9.out.keep hd25)
      have HY1 := Lib.hid (HK24_10.out.keep hd25)
      have HY2 := Lib.hid (HZ24.out.keep hd25)
      obtain ⟨⟨y00, x00⟩, ⟨y01, x01⟩, y02, x02⟩ := HY0.out
      obtain ⟨⟨y10, x10⟩, ⟨y11, x11⟩, y12, x12⟩ := HY1.out
      obtain ⟨⟨y20, x20⟩, ⟨y21, x21⟩, y22, x22⟩ := HY2.out
      have n01 : ¬ gg22 = gg23 := by omega
      have n10 : ¬ gg23 = gg22 := by omega
      have n02 : ¬ gg22 = gg24 := by omega
      have n20 : ¬ gg24 = gg22 := by omega
      have n12 : ¬ gg23 = gg24 := by omega
      have n21 : ¬ gg24 = gg23 := by omega
      simp only [List.drop_succ_cons, List.drop_zero]
      go_wp2_with fail
      refine NP_mk ?_
      exact cut_meet (by simp [forget]) ⟨_, _, _, rfl, rfl, rfl, HG22.out, HG23.out, HG24.out, three3 HY0.out HY1.out HY2.out n01 n02 n12 HD25.out HG22.out HG23.out HG24.out⟩
    ·intro wa26 ha26
     simp only [nthOp]
     go_wp2_with fail
     have HA26 := Lib.hid (HC22.out.trans (ha26.mono HC22.out.size))
     have HC26 := Lib.hid (HA26.out.alloc HA26.out.size (.cells #[.int .i64 0, .int .i64 0, .int .i64 0] 55))
     have HZ26 := Lib.hid (ZBx.new wa26 55)
     have HG26 := Lib.hid HA26.out.size
     have lt26_9 : gg22 < wa26.heap.size := (HZ22.out.keep ha26).lt
     have HK26_9 := Lib.hid ((HZ22.out.keep ha26).keep ((Below.refl wa26.heap.size wa26).alloc (Nat.le_refl _) (.cells #[.int .i64 0, .int .i64 0, .int .i64 0] 55)))
     refine One_mk (KW.mk' HC26.out) ?_
     generalize (wa26.alloc (.cells #[.int .i64 0, .int .i64 0, .int .i64 0] 55)) = wb26 at *
     generalize wa26.heap.size = gg26 at *
     refine wpGro_one ?_
     ·intro wa27 ha27
      simp only [nthOp]
      go_wp2_with fail
      have HA27 := Lib.hid (HC26.out.trans (ha27.mono HC26.out.size))
      have HC27 := Lib.hid (HA27.out.alloc HA27.out.size (.cells #[.int .i64 0, .int .i64 0, .int .i64 0] 55))
      have HZ27 := Lib.hid (ZBx.new wa27 55)
      have HG27 := Lib.hid HA27.out.size
      have lt27_9 : gg22 < wa27.heap.size := (HK26_9.out.keep ha27).lt
      have HK27_9 := Lib.hid ((HK26_9.out.keep ha27).keep ((Below.refl wa27.heap.size wa27).alloc (Nat.le_refl _) (.cells #[.int .i64 0, .int .i64 0, .int .i64 0] 55)))
      have lt27_11 : gg26 < wa27.heap.size := (HZ26.out.keep ha27).lt
      have HK27_11 := Lib.hid ((HZ26.out.keep ha27).keep ((Below.refl wa27.heap.size wa27).alloc (Nat.le_refl _) (.cells #[.int .i64 0, .int .i64 0, .int .i64 0] 55)))
      refine One_mk (KW.mk' HC27.out) ?_
      generalize (wa27.alloc (.cells #[.int .i64 0, .int .i64 0, .int .i64 0] 55)) = wb27 at *
      generalize wa27.heap.size = gg27 at *
      refine wpGro_done (fun wd28 hd28 => ?_)
      have HD28 := Lib.hid (HC27.out.trans (hd28.mono HC27.out.size))
      have HY0 := Lib.hid (HK27_9.out.keep hd28)
      have HY1 := Lib.hid (HZ27.out.keep hd28)
      have HY2 := Lib.hid (HK27_11.out.keep hd28)
      obtain ⟨⟨y00, x00⟩, ⟨y01, x01⟩, y02, x02⟩ := HY0.out
      obtain ⟨⟨y10, x10⟩, ⟨y11, x11⟩, y12, x12⟩ := HY1.out
      obtain ⟨⟨y20, x20⟩, ⟨y21, x21⟩, y22, x22⟩ := HY2.out
      have n01 : ¬ gg22 = gg27 := by omega
      have n10 : ¬ gg27 = gg22 := by omega
      have n02 : ¬ gg22 = gg26 := by omega
      have n20 : ¬ gg26 = gg22 := by omega
      have n12 : ¬ gg27 = gg26 := by omega
      have n21 : ¬ gg26 = gg27 := by omega
      simp only [List.drop_succ_cons, List.drop_zero]
      go_wp2_with fail
      refine NP_mk ?_
      exact cut_meet (by simp [forget]) ⟨_, _, _, rfl, rfl, rfl, HG22.out, HG27.out, HG26.out, three3 HY0.out HY1.out HY2.out n01 n02 n12 HD28.out HG22.out HG27.out HG26.out⟩
   ·intro wa29 ha29
    simp only [nthOp]
    go_wp2_with fail
    have HA29 := Lib.hid (HC0.out.trans (ha29.mono HC0.out.size))
    have HC29 := Lib.hid (HA29.out.alloc HA29.out.size (.cells #[.int .i64 0, .int .i64 0, .int .i64 0] 55))
    have HZ29 := Lib.hid (ZBx.new wa29 55)
    have HG29 := Lib.hid HA29.out.size
    refine One_mk (KW.mk' HC29.out) ?_
    generalize (wa29.alloc (.cells #[.int .i64 0, .int .i64 0, .int .i64 0] 55)) = wb29 at *
    generalize wa29.heap.size = gg29 at *
    refine wpGro_two ?_ ?_
    ·intro wa30 ha30
     simp only [nthOp]
     go_wp2_with fail
     have HA30 := Lib.hid (HC29.out.trans (ha30.mono HC29.out.size))
     have HC30 := Lib.hid (HA30.out.alloc HA30.out.size (.cells #[.int .i64 0, .int .i64 0, .int .i64 0] 55))
     have HZ30 := Lib.hid (ZBx.new wa30 55)
     have HG30 := Lib.hid HA30.out.size
     have lt30_10 : gg29 < wa30.heap.size := (HZ29.out.keep ha30).lt
     have HK30_10 := Lib.hid ((HZ29.out.keep ha30).keep ((Below.refl wa30.heap.size wa30).alloc (Nat.le_refl _) (.cells #[.int .i64 0, .int .i64 0, .int .i64 0] 55)))
     refine One_mk (KW.mk' HC30.out) ?_
     generalize (wa30.alloc (.cells #[.int .i64 0, .int .i64 0, .int .i64 0] 55)) = wb30 at *
     generalize wa30.heap.size = gg30 at *
     refine wpGro_one ?_
     ·intro wa31 ha31
      simp only [nthOp]
      go_wp2_with fail
      have HA31 := Lib.hid (HC30.out.trans (ha31.mono HC30.out.size))
      have HC31 := Lib.hid (HA31.out.alloc HA31.out.size (.cells #[.int .i64 0, .int .i64 0, .int .i64 0] 55))
      have HZ31 := Lib.hid (ZBx.new wa31 55)
      have HG31 := Lib.hid HA31.out.size
      have lt31_10 : gg29 < wa31.heap.size := (HK30_10.out.keep ha31).lt
      have HK31_10 := Lib.hid ((HK30_10.out.keep ha31).keep ((Below.refl wa31.heap.size wa31).alloc (Nat.le_refl _) (.cells #[.int .i64 0, .int .i64 0, .int .i64 0] 55)))
      have lt31_9 : gg30 < wa31.heap.size := (HZ30.out.keep ha31).lt
      have HK31_9 := Lib.hid ((HZ30.out.keep ha31).keep ((Below.refl wa31.heap.size wa31).alloc (Nat.le_refl _) (.cells #[.int .i64 0, .int .i64 0, .int .i64 0] 55)))
      refine One_mk (KW.mk' HC31.out) ?_
      generalize (wa31.alloc (.cells #[.int .i64 0, .int .i64 0, .int .i64 0] 55)) = wb31 at *
      generalize wa31.heap.size = gg31 at *
      refine wpGro_done (fun wd32 hd32 => ?_)
      have HD32 := Lib.hid (HC31.out.trans (hd32.mono HC31.out.size))
      have HY0 := Lib.hid (HK31_9.out.keep hd32)
      have HY1 := Lib.hid (HK31_10.out.keep hd32)
      have HY2 := Lib.hid (HZ31.out.keep hd32)
      obtain ⟨⟨y00, x00⟩, ⟨y01, x01⟩, y02, x02⟩ := HY0.out
      obtain ⟨⟨y10, x10⟩, ⟨y11, x11⟩, y12, x12⟩ := HY1.out
      obtain ⟨⟨y20, x20⟩, ⟨y21, x21⟩, y22, x22⟩ := HY2.out
      have n01 : ¬ gg30 = gg29 := by omega
      have n10 : ¬ gg29 = gg30 := by omega
      have n02 : ¬ gg30 = gg31 := by omega
      have n20 : ¬ gg31 = gg30 := by omega
      have n12 : ¬ gg29 = gg31 := by omega
      have n21 : ¬ gg31 = gg29 := by omega
      simp only [List.drop_succ_cons, List.drop_zero]
      go_wp2_with fail
      refine NP_mk ?_
      exact cut_meet (by simp [forget]) ⟨_, _, _, rfl, rfl, rfl, HG30.out, HG29.out, HG31.out, three3 HY0.out HY1.out HY2.out n01 n02 n12 HD32.out HG30.out HG29.out HG31.out⟩
    ·intro wa33 ha33
     simp only [nthOp]
     go_wp2_with fail
     have HA33 := Lib.hid (HC29.out.trans (ha33.mono HC29.out.size))
     have HC33 := Lib.hid (HA33.out.alloc HA33.out.size (.cells #[.int .i64 0, .int .i64 0, .int .i64 0] 55))
     have HZ33 := Lib.hid (ZBx.new wa33 55)
     have HG33 := Lib.hid HA33.out.size
     have lt33_10 : gg29 < wa33.heap.size := (HZ29.out.keep ha33).lt
     have HK33_10 := Lib.hid ((HZ29.out.keep ha33).keep ((Below.refl wa33.heap.size wa33).alloc (Nat.le_refl _) (.cells #[.int .i64 0, .int .i64 0, .int .i64 0] 55)))
     refine One_mk (KW.mk' HC33.out) ?_
     generalize (wa33.alloc (.cells #[.int .i64 0, .int .i64 0, .int .i64 0] 55)) = wb33 at *
     generalize wa33.heap.size = gg33 at *
     refine wpGro_one ?_
     ·intro wa34 ha34
      simp only [nthOp]
      go_wp2_with fail
      have HA34 := Lib.hid (HC33.out.trans (ha34.mono HC33.out.size))
      have HC34 := Lib.hid (HA34.out.alloc HA34.out.size (.cells #[.int .i64 0, .int .i64 0, .int .i64 0] 55))
      have HZ34 := Lib.hid (ZBx.new wa34 55)
      have HG34 := Lib.hid HA34.out.size
      have lt34_10 : gg29 < wa34.heap.size := (HK33_10.out.keep ha34).lt
      have HK34_10 := Lib.hid ((HK33_10.out.keep ha34).keep ((Below.refl wa34.heap.size wa34).alloc (Nat.le_refl _) (.cells #[.int .i64 0, .int .i64 0, .int .i64 0] 55)))
      have lt34_11 : gg33 < wa34.heap.size := (HZ33.out.keep ha34).lt
      have HK34_11 := Lib.hid ((HZ33.out.keep ha34).keep ((Below.refl wa34.heap.size wa34).alloc (Nat.le_refl _) (.cells #[.int .i64 0, .int .i64 0, .int .i64 0] 55)))
      refine One_mk (KW.mk' HC34.out) ?_
      generalize (wa34.alloc (.cells #[.int .i64 0, .int .i64 0, .int .i64 0] 55)) = wb34 at *
      generalize wa34.heap.size = gg34 at *
      refine wpGro_done (fun wd35 hd35 => ?_)
      have HD35 := Lib.hid (HC34.out.trans (hd35.mono HC34.out.size))
      have HY0 := Lib.hid (HZ34.out.keep hd35)
      have HY1 := Lib.hid (HK34_10.out.keep hd35)
      have HY2 := Lib.hid (HK34_11.out.keep hd35)
      obtain ⟨⟨y00, x00⟩, ⟨y01, x01⟩, y02, x02⟩ := HY0.out
      obtain ⟨⟨y10, x10⟩, ⟨y11, x11⟩, y12, x12⟩ := HY1.out
      obtain ⟨⟨y20, x20⟩, ⟨y21, x21⟩, y22, x22⟩ := HY2.out
      have n01 : ¬ gg34 = gg29 := by omega
      have n10 : ¬ gg29 = gg34 := by omega
      have n02 : ¬ gg34 = gg33 := by omega
      have n20 : ¬ gg33 = gg34 := by omega
      have n12 : ¬ gg29 = gg33 := by omega
      have n21 : ¬ gg33 = gg29 := by omega
      simp only [List.drop_succ_cons, List.drop_zero]
      go_wp2_with fail
      refine NP_mk ?_
      exact cut_meet (by simp [forget]) ⟨_, _, _, rfl, rfl, rfl, HG34.out, HG29.out, HG33.out, three3 HY0.out HY1.out HY2.out n01 n02 n12 HD35.out HG34.out HG29.out HG33.out⟩
   ·intro wa36 ha36
    simp only [nthOp]
    go_wp2_with fail
    have HA36 := Lib.hid (HC0.out.trans (ha36.mono HC0.out.size))
    have HC36 := Lib.hid (HA36.out.alloc HA36.out.size (.cells #[.int .i64 0, .int .i64 0, .int .i64 0] 55))
    have HZ36 := Lib.hid (ZBx.new wa36 55)
    have HG36 := Lib.hid HA36.out.size
    refine One_mk (KW.mk' HC36.out) ?_
    generalize (wa36.alloc (.cells #[.int .i64 0, .int .i64 0, .int .i64 0] 55)) = wb36 at *
    generalize wa36.heap.size = gg36 at *
    refine wpGro_two ?_ ?_
    ·intro wa37 ha37
     simp only [nthOp]
     go_wp2_with fail
     have HA37 := Lib.hid (HC36.out.trans (ha37.mono HC36.out.size))
     have HC37 := Lib.hid (HA37.out.alloc HA37.out.size (.cells #[.int .i64 0, .int .i64 0, .int .i64 0] 55))
     have HZ37 := Lib.hid (ZBx.new wa37 55)
     have HG37 := Lib.hid HA37.out.size
     have lt37_11 : gg36 < wa37.heap.size := (HZ36.out.keep ha37).lt
     have HK37_11 := Lib.hid ((HZ36.out.keep ha37).keep ((Below.refl wa37.heap.size wa37).alloc (Nat.le_refl _) (.cells #[.int .i64 0, .int .i64 0, .int .i64 0] 55)))
     refine One_mk (KW.mk' HC37.out) ?_
     generalize (wa37.alloc (.cells #[.int .i64 0, .int .i64 0, .int .i64 0] 55)) = wb37 at *
     generalize wa37.heap.size = gg37 at *
     refine wpGro_one ?_
     ·intro wa38 ha38
      simp only [nthOp]
      go_wp2_with fail
      have HA38 := Lib.hid (HC37.out.trans (ha38.mono HC37.out.size))
      have HC38 := Lib.hid (HA38.out.alloc HA38.out.size (.cells #[.int .i64 0, .int .i64 0, .int .i64 0] 55))
      have HZ38 := Lib.hid (ZBx.new wa38 55)
      have HG38 := Lib.hid HA38.out.size
      have lt38_11 : gg36 < wa38.heap.size := (HK37_11.out.keep ha38).lt
      have HK38_11 := Lib.hid ((HK37_11.out.keep ha38).keep ((Below.refl wa38.heap.size wa38).alloc (Nat.le_refl _) (.cells #[.int .i64 0, .int .i64 0, .int .i64 0] 55)))
      have lt38_9 : gg37 < wa38.heap.size := (HZ37.out.keep ha38).lt
      have HK38_9 := Lib.hid ((HZ37.out.keep ha38).keep ((Below.refl wa38.heap.size wa38).alloc (Nat.le_refl _) (.cells #[.int .i64 0, .int .i64 0, .int .i64 0] 55)))
      refine One_mk (KW.mk' HC38.out) ?_
      generalize (wa38.alloc (.cells #[.int .i64 0, .int .i64 0, .int .i64 0] 55)) = wb38 at *
      generalize wa38.heap.size = gg38 at *
      refine wpGro_done (fun wd39 hd39 => ?_)
      have HD39 := Lib.hid (HC38.out.trans (hd39.mono HC38.out.size))
      have HY0 := Lib.hid (HK38_9.out.keep hd39)
      have HY1 := Lib.hid (HZ38.out.keep hd39)
      have HY2 := Lib.hid (HK38_11.out.keep hd39)
      obtain ⟨⟨y00, x00⟩, ⟨y01, x01⟩, y02, x02⟩ := HY0.out
      obtain ⟨⟨y10, x10⟩, ⟨y11, x11⟩, y12, x12⟩ := HY1.out
      obtain ⟨⟨y20, x20⟩, ⟨y21, x21⟩, y22, x22⟩ := HY2.out
      have n01 : ¬ gg37 = gg38 := by omega
      have n10 : ¬ gg38 = gg37 := by omega
      have n02 : ¬ gg37 = gg36 := by omega
      have n20 : ¬ gg36 = gg37 := by omega
      have n12 : ¬ gg38 = gg36 := by omega
      have n21 : ¬ gg36 = gg38 := by omega
      simp only [List.drop_succ_cons, List.drop_zero]
      go_wp2_with fail
      refine NP_mk ?_
      exact cut_meet (by simp [forget]) ⟨_, _, _, rfl, rfl, rfl, HG37.out, HG38.out, HG36.out, three3 HY0.out HY1.out HY2.out n01 n02 n12 HD39.out HG37.out HG38.out HG36.out⟩
    ·intro wa40 ha40
     simp only [nthOp]
     go_wp2_with fail
     have HA40 := Lib.hid (HC36.out.trans (ha40.mono HC36.out.size))
     have HC40 := Lib.hid (HA40.out.alloc HA40.out.size (.cells #[.int .i64 0, .int .i64 0, .int .i64 0] 55))
     have HZ40 := Lib.hid (ZBx.new wa40 55)
     have HG40 := Lib.hid HA40.out.size
     have lt40_11 : gg36 < wa40.heap.size := (HZ36.out.keep ha40).lt
     have HK40_11 := Lib.hid ((HZ36.out.keep ha40).keep ((Below.refl wa40.heap.size wa40).alloc (Nat.le_refl _) (.cells #[.int .i64 0, .int .i64 0, .int .i64 0] 55)))
     refine One_mk (KW.mk' HC40.out) ?_
     generalize (wa40.alloc (.cells #[.int .i64 0, .int .i64 0, .int .i64 0] 55)) = wb40 at *
     generalize wa40.heap.size = gg40 at *
     refine wpGro_one ?_
     ·intro wa41 ha41
      simp only [nthOp]
      go_wp2_with fail
      have HA41 := Lib.hid (HC40.out.trans (ha41.mono HC40.out.size))
      have HC41 := Lib.hid (HA41.out.alloc HA41.out.size (.cells #[.int .i64 0, .int .i64 0, .int .i64 0] 55))
      have HZ41 := Lib.hid (ZBx.new wa41 55)
      have HG41 := Lib.hid HA41.out.size
      have lt41_11 : gg36 < wa41.heap.size := (HK40_11.out.keep ha41).lt
      have HK41_11 := Lib.hid ((HK40_11.out.keep ha41).keep ((Below.refl wa41.heap.size wa41).alloc (Nat.le_refl _) (.cells #[.int .i64 0, .int .i64 0, .int .i64 0] 55)))
      have lt41_10 : gg40 < wa41.heap.size := (HZ40.out.keep ha41).lt
      have HK41_10 := Lib.hid ((HZ40.out.keep ha41).keep ((Below.refl wa41.heap.size wa41).alloc (Nat.le_refl _) (.cells #[.int .i64 0, .int .i64 0, .int .i64 0] 55)))
      refine One_mk (KW.mk' HC41.out) ?_
      generalize (wa41.alloc (.cells #[.int .i64 0, .int .i64 0, .int .i64 0] 55)) = wb41 at *
      generalize wa41.heap.size = gg41 at *
      refine wpGro_done (fun wd42 hd42 => ?_)
      have HD42 := Lib.hid (HC41.out.trans (hd42.mono HC41.out.size))
      have HY0 := Lib.hid (HZ41.out.keep hd42)
      have HY1 := Lib.hid (HK41_10.out.keep hd42)
      have HY2 := Lib.hid (HK41_11.out.keep hd42)
      obtain ⟨⟨y00, x00⟩, ⟨y01, x01⟩, y02, x02⟩ := HY0.out
      obtain ⟨⟨y10, x10⟩, ⟨y11, x11⟩, y12, x12⟩ := HY1.out
      obtain ⟨⟨y20, x20⟩, ⟨y21, x21⟩, y22, x22⟩ := HY2.out
      have n01 : ¬ gg41 = gg40 := by omega
      have n10 : ¬ gg40 = gg41 := by omega
      have n02 : ¬ gg41 = gg36 := by omega
      have n20 : ¬ gg36 = gg41 := by omega
      have n12 : ¬ gg40 = gg36 := by omega
      have n21 : ¬ gg36 = gg40 := by omega
      simp only [List.drop_succ_cons, List.drop_zero]
      go_wp2_with fail
      refine NP_mk ?_
      exact cut_meet (by simp [forget]) ⟨_, _, _, rfl, rfl, rfl, HG41.out, HG40.out, HG36.out, three3 HY0.out HY1.out HY2.out n01 n02 n12 HD42.out HG41.out HG40.out HG36.out⟩
  clear kx0 kx1 kx2 n1 a0 a1 a2 c0 c1 c2 d0 d1 d2
  rintro u W3 ⟨g12, g13, g14, hu8, hu9, hu10, b8, b9, b10, v8, v9, v10, hb3⟩
  simp only [forget, List.foldl_cons, List.foldl_nil, hu8, hu9, hu10, List.setIfInBounds_toArray, List.set_cons_succ, List.set_cons_zero]
  have HV12 := Lib.hid v8
  have HV13 := Lib.hid v9
  have HV14 := Lib.hid v10
  have HB3 := Lib.hid hb3
  have HM3 := Lib.hid (HM2.out.keep hb3)
  have HBW3 := Lib.hid (HBW2.out.trans (hb3.mono HBW2.out.size))
  have HG3 := Lib.hid (show gp + 3 < W3.heap.size by have := hb3.size; have := HG2.out; omega)
  have HL3 := Lib.hid (And.intro v8.lt' (And.intro v9.lt' v10.lt'))
  clear hu8 hu9 hu10 hb3 b8 b9 b10 v8 v9 v10
  go_upto_region 7 with fail
  refine gen_world (fun W4 => VecV W4 W3.heap.size (Vec.at_ ⟨0, 0, 0⟩) ∧ Below W3.heap.size W3 W4) ⟨?_, by repeat (first | (with_reducible assumption) | exact Below.refl _ _ | (refine Below.setCell ?_ (by first | omega | (simp; omega) | (simp; done)) _) | (refine Below.alloc ?_ (by first | omega | (simp; omega) | (simp; done)) _) | (refine Below.drew ?_))⟩ ?_
  ·intro t ht
   match t, ht with
   | 0, _ => exact ⟨by simp [go_sem, Vec.at_], by simp [go_sem]⟩
   | 1, _ => exact ⟨by simp [go_sem, Vec.at_], by simp [go_sem]⟩
   | 2, _ => exact ⟨by simp [go_sem, Vec.at_], by simp [go_sem]⟩
  rintro W4 ⟨hv4, hb4⟩
  obtain ⟨g15, hg15⟩ : ∃ g, g = W3.heap.size := ⟨_, rfl⟩
  rw [← hg15] at hv4 ⊢
  have HV4 := Lib.hid hv4
  have HB4 := Lib.hid hb4
  have HG15 := Lib.hid hg15
  have HBW4 := Lib.hid (HBW3.out.trans (hb4.mono HBW3.out.size))
  have hlt0 : gp + 3 < g15 := by have := HG3.out; omega
  have hlt1 : g12 < g15 ∧ g13 < g15 ∧ g14 < g15 := by have := HL3.out; omega
  have hlt2 : w.heap.size ≤ g15 := by have := HGP.out; omega
  have HM4 := Lib.hid (HM3.out.keep hb4)
  have HW12 := Lib.hid (HV12.out.keep hb4)
  have HW13 := Lib.hid (HV13.out.keep hb4)
  have HW14 := Lib.hid (HV14.out.keep hb4)
  clear hg15 hv4 hb4
  obtain ⟨N, hN⟩ : ∃ N, N = mtv p q r := ⟨_, rfl⟩
  have HNV := Lib.hid hN
  have HN0 := Lib.hid (show N.x = p.d * X.x + q.d * Y.x + r.d * Z.x ∧ N.y = p.d * X.y + q.d * Y.y + r.d * Z.y ∧ N.z = p.d * X.z + q.d * Y.z + r.d * Z.z by
   rw [hN, HXYZ.out.1, HXYZ.out.2.1, HXYZ.out.2.2, HABC.out.1, HABC.out.2.1, HABC.out.2.2]; exact ⟨rfl, rfl, rfl⟩)
  have HNI := Lib.hid (show N.in_ 4000000000 by rw [hN]; exact mtv_in HPQR.out.1 HPQR.out.2.1 HPQR.out.2.2)
  clear hN
  go_wp2_with fail

  go_loopw [16] (fun iv wr => ∃ (i : Nat) (v : Int), i ≤ 3 ∧ v = (i : Int) ∧ iv = .int .i64 v ∧ Hid (VecV wr g15 (fun t => if t < i then N.at_ t else 0)) ∧ But g15 W4 wr ∧ Below w.heap.size w wr) (fun iv _ => 3 - (intOf iv).toNat)
  case atStart => exact ⟨0, 0, Nat.zero_le _, rfl, rfl, Lib.hid (fun t ht => by have := HV4.out t ht; match t, ht with | 0, _ => exact this | 1, _ => exact this | 2, _ => exact this), But.refl _ _, HBW4.out⟩
  case round =>
   obtain ⟨i, v, hi, hvi, rfl, HVI, hbr, hbw⟩ := hrel
   have HBR := Lib.hid hbr
   have HBW := Lib.hid hbw
   clear hbr hbw
   have h4 : i = 0 ∨ i = 1 ∨ i = 2 ∨ i = 3 := by omega
   rcases h4 with rfl | rfl | rfl | rfl
   ·obtain rfl : v = 0 := by simpa using hvi
    clear hvi
    have hkx := HXI.out.1
    have hky := HYI.out.1
    have hkz := HZI.out.1
    have m1 := mul_in HDD.out.1 hkx
    have m2 := mul_in HDD.out.2.1 hky
    have m3 := mul_in HDD.out.2.2 hkz
    have hNc := HN0.out.1
    have p3 := HBR.out.get HM4.out.p.2.2.2 (by omega)
    have q3 := HBR.out.get HM4.out.q.2.2.2 (by omega)
    have r3 := HBR.out.get HM4.out.r.2.2.2 (by omega)
    have x3 := HBR.out.get HW12.out.a (by omega)
    have y3 := HBR.out.get HW13.out.a (by omega)
    have z3 := HBR.out.get HW14.out.a (by omega)
    obtain ⟨v3, f3⟩ := HVI.out 0 (by decide)
    obtain ⟨P1, hP1⟩ : ∃ P, P = p.d * X.x := ⟨_, rfl⟩
    obtain ⟨P2, hP2⟩ : ∃ P, P = q.d * Y.x := ⟨_, rfl⟩
    obtain ⟨P3, hP3⟩ : ∃ P, P = r.d * Z.x := ⟨_, rfl⟩
    rw [← hP1] at m1 hNc
    rw [← hP2] at m2 hNc
    rw [← hP3] at m3 hNc
    have e1 : IntKind.i64.wrap (p.d * X.x) = P1 := by rw [← hP1]; exact IntWalk.i64_in _ (by omega)
    have e2 : IntKind.i64.wrap (q.d * Y.x) = P2 := by rw [← hP2]; exact IntWalk.i64_in _ (by omega)
    have e3 : IntKind.i64.wrap (r.d * Z.x) = P3 := by rw [← hP3]; exact IntWalk.i64_in _ (by omega)
    have e4 : IntKind.i64.wrap (P1 + P2) = P1 + P2 := IntWalk.i64_in _ (by omega)
    have e5 : IntKind.i64.wrap (P1 + P2 + P3) = N.x := by rw [hNc]; exact IntWalk.i64_in _ (by omega)
    have hs0 := block_lt_of_cell v3
    simp only at hs0
    clear hP1 hP2 hP3 m1 m2 m3 hkx hky hkz hNc
    go_upto_region 10 with fail
    have kx0 : ∀ y : KW (fun W' => Below wr.heap.size wr W'), (y.w.cell? ⟨gp, 3, none⟩ = some (.int .i64 p.d) ∧ y.w.cell? ⟨gp + 1, 3, none⟩ = some (.int .i64 q.d) ∧ y.w.cell? ⟨gp + 2, 3, none⟩ = some (.int .i64 r.d)) := fun y => ⟨cell_keep y.ok p3, cell_keep y.ok q3, cell_keep y.ok r3⟩
    have kx1 : ∀ y : KW (fun W' => Below wr.heap.size wr W'), (y.w.cell? ⟨g12, 0, none⟩ = some (.int .i64 X.x) ∧ y.w.cell? ⟨g13, 0, none⟩ = some (.int .i64 Y.x) ∧ y.w.cell? ⟨g14, 0, none⟩ = some (.int .i64 Z.x)) := fun y => ⟨cell_keep y.ok x3, cell_keep y.ok y3, cell_keep y.ok z3⟩
    haveI n1 : Nonempty (KW (fun W' => Below wr.heap.size wr W')) := ⟨⟨wr, Below.refl _ _⟩⟩
    refine wp_region_tree (fun w' => ∃ y : KW (fun W' => Below wr.heap.size wr W'), w' = y.w) 21 (.take 0 (.take 1 (.take 2 (.take 3 (.take 4 (.take 5 (.take 6 (.take 7 (.take 8 (.take 9 (.take 10 (.take 11 (.take 12 (.take 13 (.take 14 (.take 15 (.take 16 (.take 17 (.take 18 (.take 19 (.take 20 .done))))))))))))))))))))) hmix (by kernel_rfl) (KW.mk' (Below.refl _ _).drew) ?_
    have HC0 := Lib.hid (show Below wr.heap.size wr wr.drew from (Below.refl _ _).drew)
    generalize wr.drew = wv at *
    repeat (refine wpTree_take ?_; simp only [nthOp]; (first | go_big_quiet_step (fail) | quiet_step (fail)); refine wpQuiet_nil ?_)
    have v3 := cell_keep HC0.out v3
    have f3 := frozen_keep HC0.out hs0 f3
    have HVK := Lib.hid (HVI.out.keep HC0.out)
    clear kx0 kx1 n1 p3 q3 r3 x3 y3 z3 e1 e2 e3 e4 e5
    refine wpTree_done ?_
    simp only [List.drop_succ_cons, List.drop_zero]
    go_wp2_with fail
    refine NP_mk ?_
    go_wp2_with fail
    go_roundw
    case rel => exact ⟨1, 1, by decide, rfl, by first | rfl | go_num, Lib.hid (VecV.set (k := 0) (f' := fun t => if t < 1 then N.at_ t else 0) HVK.out (by decide) (fun t ht => by by_cases h : t < 0 <;> simp [h] <;> first | omega | (split <;> first | omega | rfl))), (HBR.out.trans (But.of HC0.out)).set _ _, (HBW.out.trans (HC0.out.mono HBW.out.size)).setCell hlt2 _⟩
    case measure => first | (simp [intOf]; done) | (simp [intOf]; omega)
   ·obtain rfl : v = 1 := by simpa using hvi
    clear hvi
    have hkx := HXI.out.2.1
    have hky := HYI.out.2.1
    have hkz := HZI.out.2.1
    have m1 := mul_in HDD.out.1 hkx
    have m2 := mul_in HDD.out.2.1 hky
    have m3 := mul_in HDD.out.2.2 hkz
    have hNc := HN0.out.2.1
    have p3 := HBR.out.get HM4.out.p.2.2.2 (by omega)
    have q3 := HBR.out.get HM4.out.q.2.2.2 (by omega)
    have r3 := HBR.out.get HM4.out.r.2.2.2 (by omega)
    have x3 := HBR.out.get HW12.out.b (by omega)
    have y3 := HBR.out.get HW13.out.b (by omega)
    have z3 := HBR.out.get HW14.out.b (by omega)
    obtain ⟨v3, f3⟩ := HVI.out 1 (by decide)
    obtain ⟨P1, hP1⟩ : ∃ P, P = p.d * X.y := ⟨_, rfl⟩
    obtain ⟨P2, hP2⟩ : ∃ P, P = q.d * Y.y := ⟨_, rfl⟩
    obtain ⟨P3, hP3⟩ : ∃ P, P = r.d * Z.y := ⟨_, rfl⟩
    rw [← hP1] at m1 hNc
    rw [← hP2] at m2 hNc
    rw [← hP3] at m3 hNc
    have e1 : IntKind.i64.wrap (p.d * X.y) = P1 := by rw [← hP1]; exact IntWalk.i64_in _ (by omega)
    have e2 : IntKind.i64.wrap (q.d * Y.y) = P2 := by rw [← hP2]; exact IntWalk.i64_in _ (by omega)
    have e3 : IntKind.i64.wrap (r.d * Z.y) = P3 := by rw [← hP3]; exact IntWalk.i64_in _ (by omega)
    have e4 : IntKind.i64.wrap (P1 + P2) = P1 + P2 := IntWalk.i64_in _ (by omega)
    have e5 : IntKind.i64.wrap (P1 + P2 + P3) = N.y := by rw [hNc]; exact IntWalk.i64_in _ (by omega)
    have hs0 := block_lt_of_cell v3
    simp only at hs0
    clear hP1 hP2 hP3 m1 m2 m3 hkx hky hkz hNc
    go_upto_region 10 with fail
    have kx0 : ∀ y : KW (fun W' => Below wr.heap.size wr W'), (y.w.cell? ⟨gp, 3, none⟩ = some (.int .i64 p.d) ∧ y.w.cell? ⟨gp + 1, 3, none⟩ = some (.int .i64 q.d) ∧ y.w.cell? ⟨gp + 2, 3, none⟩ = some (.int .i64 r.d)) := fun y => ⟨cell_keep y.ok p3, cell_keep y.ok q3, cell_keep y.ok r3⟩
    have kx1 : ∀ y : KW (fun W' => Below wr.heap.size wr W'), (y.w.cell? ⟨g12, 1, none⟩ = some (.int .i64 X.y) ∧ y.w.cell? ⟨g13, 1, none⟩ = some (.int .i64 Y.y) ∧ y.w.cell? ⟨g14, 1, none⟩ = some (.int .i64 Z.y)) := fun y => ⟨cell_keep y.ok x3, cell_keep y.ok y3, cell_keep y.ok z3⟩
    haveI n1 : Nonempty (KW (fun W' => Below wr.heap.size wr W')) := ⟨⟨wr, Below.refl _ _⟩⟩
    refine wp_region_tree (fun w' => ∃ y : KW (fun W' => Below wr.heap.size wr W'), w' = y.w) 21 (.take 0 (.take 1 (.take 2 (.take 3 (.take 4 (.take 5 (.take 6 (.take 7 (.take 8 (.take 9 (.take 10 (.take 11 (.take 12 (.take 13 (.take 14 (.take 15 (.take 16 (.take 17 (.take 18 (.take 19 (.take 20 .done))))))))))))))))))))) hmix (by kernel_rfl) (KW.mk' (Below.refl _ _).drew) ?_
    have HC0 := Lib.hid (show Below wr.heap.size wr wr.drew from (Below.refl _ _).drew)
    generalize wr.drew = wv at *
    repeat (refine wpTree_take ?_; simp only [nthOp]; (first | go_big_quiet_step (fail) | quiet_step (fail)); refine wpQuiet_nil ?_)
    have v3 := cell_keep HC0.out v3
    have f3 := frozen_keep HC0.out hs0 f3
    have HVK := Lib.hid (HVI.out.keep HC0.out)
    clear kx0 kx1 n1 p3 q3 r3 x3 y3 z3 e1 e2 e3 e4 e5
    refine wpTree_done ?_
    simp only [List.drop_succ_cons, List.drop_zero]
    go_wp2_with fail
    refine NP_mk ?_
    go_wp2_with fail
    go_roundw
    case rel => exact ⟨2, 2, by decide, rfl, by first | rfl | go_num, Lib.hid (VecV.set (k := 1) (f' := fun t => if t < 2 then N.at_ t else 0) HVK.out (by decide) (fun t ht => by by_cases h : t < 1 <;> simp [h] <;> first | omega | (split <;> first | omega | rfl))), (HBR.out.trans (But.of HC0.out)).set _ _, (HBW.out.trans (HC0.out.mono HBW.out.size)).setCell hlt2 _⟩
    case measure => first | (simp [intOf]; done) | (simp [intOf]; omega)
   ·obtain rfl : v = 2 := by simpa using hvi
    clear hvi
    have hkx := HXI.out.2.2
    have hky := HYI.out.2.2
    have hkz := HZI.out.2.2
    have m1 := mul_in HDD.out.1 hkx
    have m2 := mul_in HDD.out.2.1 hky
    have m3 := mul_in HDD.out.2.2 hkz
    have hNc := HN0.out.2.2
    have p3 := HBR.out.get HM4.out.p.2.2.2 (by omega)
    have q3 := HBR.out.get HM4.out.q.2.2.2 (by omega)
    have r3 := HBR.out.get HM4.out.r.2.2.2 (by omega)
    have x3 := HBR.out.get HW12.out.c (by omega)
    have y3 := HBR.out.get HW13.out.c (by omega)
    have z3 := HBR.out.get HW14.out.c (by omega)
    obtain ⟨v3, f3⟩ := HVI.out 2 (by decide)
    obtain ⟨P1, hP1⟩ : ∃ P, P = p.d * X.z := ⟨_, rfl⟩
    obtain ⟨P2, hP2⟩ : ∃ P, P = q.d * Y.z := ⟨_, rfl⟩
    obtain ⟨P3, hP3⟩ : ∃ P, P = r.d * Z.z := ⟨_, rfl⟩
    rw [← hP1] at m1 hNc
    rw [← hP2] at m2 hNc
    rw [← hP3] at m3 hNc
    have e1 : IntKind.i64.wrap (p.d * X.z) = P1 := by rw [← hP1]; exact IntWalk.i64_in _ (by omega)
    have e2 : IntKind.i64.wrap (q.d * Y.z) = P2 := by rw [← hP2]; exact IntWalk.i64_in _ (by omega)
    have e3 : IntKind.i64.wrap (r.d * Z.z) = P3 := by rw [← hP3]; exact IntWalk.i64_in _ (by omega)
    have e4 : IntKind.i64.wrap (P1 + P2) = P1 + P2 := IntWalk.i64_in _ (by omega)
    have e5 : IntKind.i64.wrap (P1 + P2 + P3) = N.z := by rw [hNc]; exact IntWalk.i64_in _ (by omega)
    have hs0 := block_lt_of_cell v3
    simp only at hs0
    clear hP1 hP2 hP3 m1 m2 m3 hkx hky hkz hNc
    go_upto_region 10 with fail
    have kx0 : ∀ y : KW (fun W' => Below wr.heap.size wr W'), (y.w.cell? ⟨gp, 3, none⟩ = some (.int .i64 p.d) ∧ y.w.cell? ⟨gp + 1, 3, none⟩ = some (.int .i64 q.d) ∧ y.w.cell? ⟨gp + 2, 3, none⟩ = some (.int .i64 r.d)) := fun y => ⟨cell_keep y.ok p3, cell_keep y.ok q3, cell_keep y.ok r3⟩
    have kx1 : ∀ y : KW (fun W' => Below wr.heap.size wr W'), (y.w.cell? ⟨g12, 2, none⟩ = some (.int .i64 X.z) ∧ y.w.cell? ⟨g13, 2, none⟩ = some (.int .i64 Y.z) ∧ y.w.cell? ⟨g14, 2, none⟩ = some (.int .i64 Z.z)) := fun y => ⟨cell_keep y.ok x3, cell_keep y.ok y3, cell_keep y.ok z3⟩
    haveI n1 : Nonempty (KW (fun W' => Below wr.heap.size wr W')) := ⟨⟨wr, Below.refl _ _⟩⟩
    refine wp_region_tree (fun w' => ∃ y : KW (fun W' => Below wr.heap.size wr W'), w' = y.w) 21 (.take 0 (.take 1 (.take 2 (.take 3 (.take 4 (.take 5 (.take 6 (.take 7 (.take 8 (.take 9 (.take 10 (.take 11 (.take 12 (.take 13 (.take 14 (.take 15 (.take 16 (.take 17 (.take 18 (.take 19 (.take 20 .done))))))))))))))))))))) hmix (by kernel_rfl) (KW.mk' (Below.refl _ _).drew) ?_
    have HC0 := Lib.hid (show Below wr.heap.size wr wr.drew from (Below.refl _ _).drew)
    generalize wr.drew = wv at *
    repeat (refine wpTree_take ?_; simp only [nthOp]; (first | go_big_quiet_step (fail) | quiet_step (fail)); refine wpQuiet_nil ?_)
    have v3 := cell_keep HC0.out v3
    have f3 := frozen_keep HC0.out hs0 f3
    have HVK := Lib.hid (HVI.out.keep HC0.out)
    clear kx0 kx1 n1 p3 q3 r3 x3 y3 z3 e1 e2 e3 e4 e5
    refine wpTree_done ?_
    simp only [List.drop_succ_cons, List.drop_zero]
    go_wp2_with fail
    refine NP_mk ?_
    go_wp2_with fail
    go_roundw
    case rel => exact ⟨3, 3, by decide, rfl, by first | rfl | go_num, Lib.hid (VecV.set (k := 2) (f' := fun t => if t < 3 then N.at_ t else 0) HVK.out (by decide) (fun t ht => by by_cases h : t < 2 <;> simp [h] <;> first | omega | (split <;> first | omega | rfl))), (HBR.out.trans (But.of HC0.out)).set _ _, (HBW.out.trans (HC0.out.mono HBW.out.size)).setCell hlt2 _⟩
    case measure => first | (simp [intOf]; done) | (simp [intOf]; omega)
   ·obtain rfl : v = 3 := by simpa using hvi
    clear hvi
    have HVN := Lib.hid (show VecV wr g15 N.at_ from HVI.out.ext fun t ht => by simp [ht])
    obtain ⟨⟨v0, -⟩, ⟨v1, -⟩, ⟨v2, -⟩⟩ := (show _ ∧ _ ∧ _ from ⟨HVN.out 0 (by decide), HVN.out 1 (by decide), HVN.out 2 (by decide)⟩)
    simp only [Vec.at_] at v0 v1 v2
    obtain ⟨z0, z1, z2, z3⟩ : _ ∧ _ ∧ _ ∧ _ := ⟨HBR.out.get HM4.out.z.1 (by omega), HBR.out.get HM4.out.z.2.1 (by omega), HBR.out.get HM4.out.z.2.2.1 (by omega), HBR.out.get HM4.out.z.2.2.2 (by omega)⟩
    have hzz : gp + 3 < W4.heap.size := block_lt_of_cell HM4.out.z.1
    obtain ⟨f0, f1, f2, f3⟩ : _ ∧ _ ∧ _ ∧ _ := ⟨(HBR.out.froz _ hzz (by show gp + 3 ≠ g15; omega)).trans HM4.out.f.1, (HBR.out.froz _ hzz (by show gp + 3 ≠ g15; omega)).trans HM4.out.f.2.1, (HBR.out.froz _ hzz (by show gp + 3 ≠ g15; omega)).trans HM4.out.f.2.2.1, (HBR.out.froz _ hzz (by show gp + 3 ≠ g15; omega)).trans HM4.out.f.2.2.2⟩
    obtain ⟨hn1, hn2, hn3⟩ := HNI.out
    have hdi := HDI.out
    have HG1 := Lib.hid (gcdR_any N.x N.y (by omega) (by omega))
    have HG2 := Lib.hid (gcdR_any N.z D (by omega) (by omega))
    have HGE := Lib.hid (gcd4 N.x N.y N.z D)
    have hb1 : Nat.gcd N.x.natAbs N.y.natAbs ≤ 4000000000 ∨ Nat.gcd N.x.natAbs N.y.natAbs = 0 := by
     by_cases h : N.x.natAbs = 0
     ·left; rw [h, Nat.gcd_zero_left]; omega
     ·left; have := Nat.gcd_le_left N.y.natAbs (Nat.pos_of_ne_zero h); omega
    have hb2 : Nat.gcd N.z.natAbs D.natAbs ≤ 5000 := by
     have := Nat.gcd_le_right N.z.natAbs (show 0 < D.natAbs by omega); omega
    have HG0 := Lib.hid (g4_pos (a := N.x) (b := N.y) (c := N.z) h0)
    have HG4 := Lib.hid (g4_le (B := 4000000000) (by omega) hn1 hn2 hn3 (d := D) (by omega))
    obtain ⟨G1, hG1⟩ : ∃ G, G = Nat.gcd N.x.natAbs N.y.natAbs := ⟨_, rfl⟩
    obtain ⟨G2, hG2⟩ : ∃ G, G = Nat.gcd N.z.natAbs D.natAbs := ⟨_, rfl⟩
    rw [← hG1] at HG1 hb1 HGE
    rw [← hG2] at HG2 hb2 HGE
    have HG3 := Lib.hid (gcdR_any (G1 : Int) (G2 : Int) (by omega) (by omega))
    rw [Int.natAbs_natCast, Int.natAbs_natCast, HGE.out] at HG3
    obtain ⟨G, hG⟩ : ∃ G, G = g4 N.x N.y N.z D := ⟨_, rfl⟩
    rw [← hG] at HG3 HG0 HG4
    have hG0 := HG0.out
    have hG4 := HG4.out
    obtain ⟨s, hs⟩ : ∃ s : Int, s = if D < 0 then -(G : Int) else (G : Int) := ⟨_, rfl⟩
    have t1 := tdiv_in (s := s) hn1
    have t2 := tdiv_in (s := s) hn2
    have t3 := tdiv_in (s := s) hn3
    have t4 := tdiv_in (s := s) hdi
    have e1 : IntKind.i64.wrap (N.x.tdiv s) = N.x.tdiv s := IntWalk.i64_in _ (by omega)
    have e2 : IntKind.i64.wrap (N.y.tdiv s) = N.y.tdiv s := IntWalk.i64_in _ (by omega)
    have e3 : IntKind.i64.wrap (N.z.tdiv s) = N.z.tdiv s := IntWalk.i64_in _ (by omega)
    have e4 : IntKind.i64.wrap (D.tdiv s) = D.tdiv s := IntWalk.i64_in _ (by omega)
    have e5 : IntKind.i64.wrap (-(G : Int)) = -(G : Int) := IntWalk.i64_in _ (by omega)
    have hs0 : ¬ s = 0 := by rw [hs]; split <;> omega
    have hs1 : (s == 0) = false := by simpa using hs0
    have HS := Lib.hid hs
    have HRV := Lib.hid (show (⟨N.x.tdiv s, N.y.tdiv s, N.z.tdiv s, D.tdiv s⟩ : Co) = ptR p q r by rw [HR1.out, ← HNV.out]; unfold pnt; simp only; rw [← hG, ← hs])
    have hl0 := block_lt_of_cell v0
    simp only at hl0
    clear hG1 hG2 hG hs t1 t2 t3 t4 hn1 hn2 hn3 hdi hb1 hb2 hG0 hG4
    go_upto_region 11 with fail
    refine wp_region_grew (by kernel_rfl) (by kernel_rfl) ?_
    repeat (first | go_big_quiet_step (fail) | quiet_step (fail))
    (first | go_big_quiet_step ((go_at_call 23; exact grew_of (HG1.out _))) | quiet_step ((go_at_call 23; exact grew_of (HG1.out _))))
    repeat (first | go_big_quiet_step (fail) | quiet_step (fail))
    (first | go_big_quiet_step ((go_at_call 23; exact grew_of (HG2.out _))) | quiet_step ((go_at_call 23; exact grew_of (HG2.out _))))
    repeat (first | go_big_quiet_step (fail) | quiet_step (fail))
    (first | go_big_quiet_step ((go_at_call 23; exact grew_of (HG3.out _))) | quiet_step ((go_at_call 23; exact grew_of (HG3.out _))))
    repeat (first | go_big_quiet_step (fail) | quiet_step (fail))
    refine wpQuiet_nil ?_
    rintro _ ⟨gg, rfl⟩
    have HB5 := Lib.hid (grewB (Below.refl wr.heap.size wr) (Nat.le_refl _) gg)
    generalize grew wr gg = w5 at *
    have v0 := cell_keep HB5.out v0
    have v1 := cell_keep HB5.out v1
    have v2 := cell_keep HB5.out v2
    go_upto_if 78 with fail
    refine wp_cut_slots [17, 79, 80] (PntC w5 s) ?_ ?_
    ·by_cases hneg : D < 0
     ·have HE := Lib.hid (HS.out.trans (if_pos hneg))
      go_wp2_with fail
      exact cut_meet (by simp [forget]) ⟨congrArg (Value.int .i64) HE.out.symm, rfl⟩
     ·have HE := Lib.hid (HS.out.trans (if_neg hneg))
      go_wp2_with fail
      exact cut_meet (by simp [forget]) ⟨congrArg (Value.int .i64) HE.out.symm, rfl⟩
    rintro u W5 ⟨hu, rfl⟩
    simp only [forget, List.foldl_cons, List.foldl_nil, hu, List.setIfInBounds_toArray, List.set_cons_succ, List.set_cons_zero]
    clear hu e5
    obtain ⟨w5, rfl⟩ : ∃ w5 : World, w5 = W5 := ⟨_, rfl⟩
    go_upto_region 14 with fail
    have kx0 : ∀ y : KW (fun W' => Below w5.heap.size w5 W'), (y.w.cell? ⟨g15, 0, none⟩ = some (.int .i64 N.x) ∧ y.w.cell? ⟨g15, 1, none⟩ = some (.int .i64 N.y) ∧ y.w.cell? ⟨g15, 2, none⟩ = some (.int .i64 N.z)) := fun y => ⟨cell_keep y.ok v0, cell_keep y.ok v1, cell_keep y.ok v2⟩
    haveI n1 : Nonempty (KW (fun W' => Below w5.heap.size w5 W')) := ⟨⟨w5, Below.refl _ _⟩⟩
    refine wp_region_tree (fun w' => ∃ y : KW (fun W' => Below w5.heap.size w5 W'), w' = y.w) 15 (.take 0 (.take 1 (.take 2 (.take 3 (.take 4 (.take 5 (.take 6 (.take 7 (.take 8 (.take 9 (.take 10 (.take 11 (.take 12 (.take 13 (.take 14 .done))))))))))))))) hmix (by kernel_rfl) (KW.mk' (Below.refl _ _).drew) ?_
    have HB6 := Lib.hid (show Below w5.heap.size w5 w5.drew from (Below.refl _ _).drew)
    generalize w5.drew = w6 at *
    repeat (refine wpTree_take ?_; simp only [nthOp]; (first | go_big_quiet_step (fail) | quiet_step (fail)); refine wpQuiet_nil ?_)
    have HB56 := Lib.hid (HB5.out.trans (HB6.out.mono HB5.out.size))
    have z0 := cell_keep HB56.out z0
    have z1 := cell_keep HB56.out z1
    have z2 := cell_keep HB56.out z2
    have z3 := cell_keep HB56.out z3
    have hzr : gp + 3 < wr.heap.size := by have := HBR.out.size; omega
    have f0 := frozen_keep HB56.out hzr f0
    have f1 := frozen_keep HB56.out hzr f1
    have f2 := frozen_keep HB56.out hzr f2
    have f3 := frozen_keep HB56.out hzr f3
    have HF := Lib.hid (HBW.out.trans (HB56.out.mono HBW.out.size))
    clear kx0 n1 v0 v1 v2
    refine wpTree_done ?_
    simp only [List.drop_succ_cons, List.drop_zero]
    go_wp2_with fail
    refine NP_mk ?_
    go_wp2_with fail
    exact bodyPost_ret (v := .tuple #[.agg #[.int .i64 (N.x.tdiv s), .int .i64 (N.y.tdiv s), .int .i64 (N.z.tdiv s), .int .i64 (D.tdiv s)], .bool true]) (by simp [results, Tryz.results72, go_sem, z0, z1, z2, z3]) rfl ⟨by rw [← HRV.out, ← HR2.out], by repeat (first | exact HF.out | (refine Below.setCell ?_ (by have := HGP.out; simp only; omega) _))⟩
end Go.Proofs.YtgjmfdhgeahdcaaGreat
