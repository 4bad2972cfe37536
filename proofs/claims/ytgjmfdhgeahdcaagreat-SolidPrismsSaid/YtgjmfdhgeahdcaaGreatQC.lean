/- The point of three planes. -/
import Derived.Test.YtgjmfdhgeahdcaaGreatQB
set_option linter.unusedVariables false
set_option linter.unusedSimpArgs false
namespace Go.Proofs.YtgjmfdhgeahdcaaGreat
open Go Go.RowKit Go.Sort Go.Lib

/-- All but one block stays. -/
structure But (g : Nat) (W W' : World) : Prop where
 size : W.heap.size ≤ W'.heap.size
 cell : ∀ a : Addr, a.block < W.heap.size → a.block ≠ g → W'.cell? a = W.cell? a
 froz : ∀ a : Addr, a.block < W.heap.size → a.block ≠ g → W'.frozen? a = W.frozen? a
theorem But.refl (g : Nat) (W : World) : But g W W := ⟨Nat.le_refl _, fun _ _ _ => rfl, fun _ _ _ => rfl⟩
theorem But.of {g : Nat} {W W' : World} (h : Below W.heap.size W W') : But g W W' := ⟨h.size, fun a ha _ => h.cell ha, fun a ha _ => h.frozen ha⟩
theorem But.trans {g : Nat} {W W' W2 : World} (h : But g W W') (h2 : But g W' W2) : But g W W2 :=
 ⟨Nat.le_trans h.size h2.size, fun a ha hg => (h2.cell a (Nat.lt_of_lt_of_le ha h.size) hg).trans (h.cell a ha hg), fun a ha hg => (h2.froz a (Nat.lt_of_lt_of_le ha h.size) hg).trans (h.froz a ha hg)⟩
theorem But.set {g : Nat} {W W' : World} (h : But g W W') (i : Nat) (v : Value) : But g W (W'.setCell ⟨g, i, none⟩ v) :=
 ⟨by simpa [size_set] using h.size, fun a ha hg => (World.cell?_setCell_far _ _ _ _ (fun e => hg e.symm)).trans (h.cell a ha hg), fun a ha hg => by rw [frozen_set]; exact h.froz a ha hg⟩
theorem But.get {g : Nat} {W W' : World} (h : But g W W') {b o : Nat} {v : Value} (hc : W.cell? ⟨b, o, none⟩ = some v) (hg : b ≠ g) : W'.cell? ⟨b, o, none⟩ = some v := (h.cell _ (block_lt_of_cell hc) hg).trans hc
/-- A number of a vector. -/
def Vec.at_ (v : Vec) : Nat → Int
 | 0 => v.x
 | 1 => v.y
 | _ => v.z
def addV (v : Vec) (d : Int) (n : Vec) : Vec := ⟨v.x + d * n.x, v.y + d * n.y, v.z + d * n.z⟩
theorem addV_at (v : Vec) (d : Int) (n : Vec) (k : Nat) : (addV v d n).at_ k = v.at_ k + d * n.at_ k := by
 match k with
 | 0 => rfl
 | 1 => rfl
 | _ + 2 => rfl
theorem Vec.in_at {B : Int} {v : Vec} (h : v.in_ B) (k : Nat) : -B ≤ v.at_ k ∧ v.at_ k ≤ B := by
 obtain ⟨h1, h2, h3⟩ := h
 match k with
 | 0 => exact h1
 | 1 => exact h2
 | _ + 2 => exact h3
/-- A vector in memory. -/
def VecV (W : World) (g : Nat) (f : Nat → Int) : Prop := ∀ t, t < 3 → W.cell? ⟨g, t, none⟩ = some (.int .i64 (f t)) ∧ W.frozen? ⟨g, t, none⟩ = false
theorem VecV.keep {W W' : World} {g : Nat} {f : Nat → Int} (h : VecV W g f) (hb : Below W.heap.size W W') : VecV W' g f := fun t ht => ⟨cell_keep hb (h t ht).1, frozen_keep hb (block_lt_of_cell (h t ht).1) (h t ht).2⟩
theorem VecV.set {W : World} {g k : Nat} {f f' : Nat → Int} (h : VecV W g f) (hk : k < 3) (hf : ∀ t, t ≠ k → f' t = f t) : VecV (W.setCell ⟨g, k, none⟩ (.int .i64 (f' k))) g f' := fun t ht => by
 refine ⟨?_, by rw [frozen_set]; exact (h t ht).2⟩
 by_cases e : t = k
 ·subst e
  exact World.cell?_setCell_same _ _ _ (h t ht).1
 ·rw [World.cell?_setCell_other (h := fun q => e (by injection q with _ q _; exact q.symm)), hf t e]
  exact (h t ht).1
theorem VecV.ext {W : World} {g : Nat} {f f' : Nat → Int} (h : VecV W g f) (hf : ∀ t, t < 3 → f' t = f t) : VecV W g f' := fun t ht => by rw [hf t ht]; exact h t ht
theorem crs_in {v u : Vec} (hv : v.in_ 8) (hu : u.in_ 8) : (crs v u).in_ 128 := by
 obtain ⟨a1, a2, a3⟩ := hv
 obtain ⟨b1, b2, b3⟩ := hu
 have i1 := mul_in a2 b3
 have i2 := mul_in a3 b2
 have i3 := mul_in a3 b1
 have i4 := mul_in a1 b3
 have i5 := mul_in a1 b2
 have i6 := mul_in a2 b1
 unfold crs Vec.in_
 simp only
 omega
theorem mtv_add (p q r : Pl) : mtv p q r = addV (addV (addV ⟨0, 0, 0⟩ p.d (crs (nrm q) (nrm r))) q.d (crs (nrm r) (nrm p))) r.d (crs (nrm p) (nrm q)) := by
 unfold mtv addV
 simp only [Int.zero_add]
theorem addV_in {B : Int} {v n : Vec} {d : Int} (hv : v.in_ B) (hn : n.in_ 128) (hd : -10000000 ≤ d ∧ d ≤ 10000000) : (addV v d n).in_ (B + 1280000000) := by
 obtain ⟨a1, a2, a3⟩ := hv
 obtain ⟨b1, b2, b3⟩ := hn
 have i1 := mul_in hd b1
 have i2 := mul_in hd b2
 have i3 := mul_in hd b3
 unfold addV Vec.in_
 simp only
 omega
theorem idxV0 (a b c d e f g h i : Int) (w : World) : (Instr.index 132 (.agg #[.int .i64 a, .int .i64 b, .int .i64 c, .int .i64 d, .int .i64 e, .int .i64 f, .int .i64 g, .int .i64 h, .int .i64 i]) (.int .i64 0)).run Tryz.prog w = .ok (.agg #[.int .i64 a, .int .i64 b, .int .i64 c]) w := by kernel_rfl
theorem idxI0 (a b c : Int) (w : World) : (Instr.index 55 (.agg #[.int .i64 a, .int .i64 b, .int .i64 c]) (.int .i64 0)).run Tryz.prog w = .ok (.int .i64 a) w := by kernel_rfl
theorem idxV1 (a b c d e f g h i : Int) (w : World) : (Instr.index 132 (.agg #[.int .i64 a, .int .i64 b, .int .i64 c, .int .i64 d, .int .i64 e, .int .i64 f, .int .i64 g, .int .i64 h, .int .i64 i]) (.int .i64 1)).run Tryz.prog w = .ok (.agg #[.int .i64 d, .int .i64 e, .int .i64 f]) w := by kernel_rfl
theorem idxI1 (a b c : Int) (w : World) : (Instr.index 55 (.agg #[.int .i64 a, .int .i64 b, .int .i64 c]) (.int .i64 1)).run Tryz.prog w = .ok (.int .i64 b) w := by kernel_rfl
theorem idxV2 (a b c d e f g h i : Int) (w : World) : (Instr.index 132 (.agg #[.int .i64 a, .int .i64 b, .int .i64 c, .int .i64 d, .int .i64 e, .int .i64 f, .int .i64 g, .int .i64 h, .int .i64 i]) (.int .i64 2)).run Tryz.prog w = .ok (.agg #[.int .i64 g, .int .i64 h, .int .i64 i]) w := by kernel_rfl
theorem idxI2 (a b c : Int) (w : World) : (Instr.index 55 (.agg #[.int .i64 a, .int .i64 b, .int .i64 c]) (.int .i64 2)).run Tryz.prog w = .ok (.int .i64 c) w := by kernel_rfl
structure MBox (W : World) (g : Nat) (p q r : Pl) : Prop where
 p : W.cell? ⟨g, 0, none⟩ = some (.int .i64 p.a) ∧ W.cell? ⟨g, 1, none⟩ = some (.int .i64 p.b) ∧ W.cell? ⟨g, 2, none⟩ = some (.int .i64 p.c) ∧ W.cell? ⟨g, 3, none⟩ = some (.int .i64 p.d)
 q : W.cell? ⟨g + 1, 0, none⟩ = some (.int .i64 q.a) ∧ W.cell? ⟨g + 1, 1, none⟩ = some (.int .i64 q.b) ∧ W.cell? ⟨g + 1, 2, none⟩ = some (.int .i64 q.c) ∧ W.cell? ⟨g + 1, 3, none⟩ = some (.int .i64 q.d)
 r : W.cell? ⟨g + 2, 0, none⟩ = some (.int .i64 r.a) ∧ W.cell? ⟨g + 2, 1, none⟩ = some (.int .i64 r.b) ∧ W.cell? ⟨g + 2, 2, none⟩ = some (.int .i64 r.c) ∧ W.cell? ⟨g + 2, 3, none⟩ = some (.int .i64 r.d)
 z : W.cell? ⟨g + 3, 0, none⟩ = some (.int .i64 0) ∧ W.cell? ⟨g + 3, 1, none⟩ = some (.int .i64 0) ∧ W.cell? ⟨g + 3, 2, none⟩ = some (.int .i64 0) ∧ W.cell? ⟨g + 3, 3, none⟩ = some (.int .i64 0)
 f : W.frozen? ⟨g + 3, 0, none⟩ = false ∧ W.frozen? ⟨g + 3, 1, none⟩ = false ∧ W.frozen? ⟨g + 3, 2, none⟩ = false ∧ W.frozen? ⟨g + 3, 3, none⟩ = false
theorem MBox.but {W W' : World} {g h : Nat} {p q r : Pl} (hM : MBox W g p q r) (hb : But h W W') (hg : g + 3 < h) (hz : g + 3 < W.heap.size) : MBox W' g p q r := by
 obtain ⟨⟨p0, p1, p2, p3⟩, ⟨q0, q1, q2, q3⟩, ⟨r0, r1, r2, r3⟩, ⟨z0, z1, z2, z3⟩, f0, f1, f2, f3⟩ := hM
 have k : ∀ b o v, b ≤ g + 3 → W.cell? ⟨b, o, none⟩ = some v → W'.cell? ⟨b, o, none⟩ = some v := fun b o v hbg hc => hb.get hc (by omega)
 have kf : ∀ o, W.frozen? ⟨g + 3, o, none⟩ = false → W'.frozen? ⟨g + 3, o, none⟩ = false := fun o hc => (hb.froz _ (by simp only; omega) (by simp only; omega)).trans hc
 exact ⟨⟨k _ _ _ (by omega) p0, k _ _ _ (by omega) p1, k _ _ _ (by omega) p2, k _ _ _ (by omega) p3⟩, ⟨k _ _ _ (by omega) q0, k _ _ _ (by omega) q1, k _ _ _ (by omega) q2, k _ _ _ (by omega) q3⟩, ⟨k _ _ _ (by omega) r0, k _ _ _ (by omega) r1, k _ _ _ (by omega) r2, k _ _ _ (by omega) r3⟩, ⟨k _ _ _ (by omega) z0, k _ _ _ (by omega) z1, k _ _ _ (by omega) z2, k _ _ _ (by omega) z3⟩, kf _ f0, kf _ f1, kf _ f2, kf _ f3⟩
set_option maxRecDepth 100000 in
set_option maxHeartbeats 16000000 in
theorem meeting_any (p q r : Pl) (hp : p.in_) (hq : q.in_) (hr : r.in_) (den : Int) (hd : -5000 ≤ den ∧ den ≤ 5000) (hd0 : den ≠ 0) (w : World) : Calls Tryz.prog 63 #[.agg #[.int .i64 p.a, .int .i64 p.b, .int .i64 p.c, .int .i64 p.d], .agg #[.int .i64 q.a, .int .i64 q.b, .int .i64 q.c, .int .i64 q.d], .agg #[.int .i64 r.a, .int .i64 r.b, .int .i64 r.c, .int .i64 r.d], .int .i64 den] w fun e w' => e = .returned (.agg #[.int .i64 (pnt (mtv p q r) den).x, .int .i64 (pnt (mtv p q r) den).y, .int .i64 (pnt (mtv p q r) den).z, .int .i64 (pnt (mtv p q r) den).n]) ∧ Below w.heap.size w w' := by
 rw [mtv_add]
 have HC1 := Lib.hid (fun w => cross_any (nrm q) (nrm r) (hq.1.mono (by decide)) (hr.1.mono (by decide)) w)
 have HC2 := Lib.hid (fun w => cross_any (nrm r) (nrm p) (hr.1.mono (by decide)) (hp.1.mono (by decide)) w)
 have HC3 := Lib.hid (fun w => cross_any (nrm p) (nrm q) (hp.1.mono (by decide)) (hq.1.mono (by decide)) w)
 have HN := Lib.hid (fun p w => normal_any p w)
 have hX := crs_in hq.1 hr.1
 have hY := crs_in hr.1 hp.1
 have hZ := crs_in hp.1 hq.1
 have hdp := hp.2
 have hdq := hq.2
 have hdr := hr.2
 generalize crs (nrm q) (nrm r) = X at *
 generalize crs (nrm r) (nrm p) = Y at *
 generalize crs (nrm p) (nrm q) = Z at *
 have hA1 := addV_in (v := ⟨0, 0, 0⟩) (B := 0) (by unfold Vec.in_; simp) hX hdp
 have hA2 := addV_in hA1 hY hdq
 have hA3 := addV_in hA2 hZ hdr
 have HA := Lib.hid (And.intro hA1 (And.intro hA2 hA3))
 have HXYZ := Lib.hid (And.intro hX (And.intro hY hZ))
 have HPT := Lib.hid (fun w => point_any (addV (addV (addV ⟨0, 0, 0⟩ p.d X) q.d Y) r.d Z) den (hA3.mono (by decide)) hd hd0 w)
 have HDD := Lib.hid (And.intro hdp (And.intro hdq hdr))
 clear hA1 hA2 hA3 hX hY hZ hdp hdq hdr hp hq hr hd hd0
 go_enter Tryz.func63, Tryz.ntmps63
 go_upto_region 2 with fail
 refine gen_world (fun W => MBox W w.heap.size p q r ∧ VecV W (w.heap.size + 4) (Vec.at_ ⟨0, 0, 0⟩) ∧ Below w.heap.size w W ∧ w.heap.size + 4 < W.heap.size) ⟨⟨?_, ?_, ?_, ?_, ?_⟩, ?_, by repeat (first | (with_reducible assumption) | exact Below.refl _ _ | (refine Below.setCell ?_ (by first | omega | (simp; omega) | (simp; done)) _) | (refine Below.alloc ?_ (by first | omega | (simp; omega) | (simp; done)) _) | (refine Below.drew ?_)), by simp⟩ ?_
 ·exact ⟨by simp [go_sem], by simp [go_sem], by simp [go_sem], by simp [go_sem]⟩
 ·exact ⟨by simp [go_sem], by simp [go_sem], by simp [go_sem], by simp [go_sem]⟩
 ·exact ⟨by simp [go_sem], by simp [go_sem], by simp [go_sem], by simp [go_sem]⟩
 ·exact ⟨by simp [go_sem], by simp [go_sem], by simp [go_sem], by simp [go_sem]⟩
 ·exact ⟨by simp [go_sem], by simp [go_sem], by simp [go_sem], by simp [go_sem]⟩
 ·intro t ht
  match t, ht with
  | 0, _ => exact ⟨by simp [go_sem, Vec.at_], by simp [go_sem]⟩
  | 1, _ => exact ⟨by simp [go_sem, Vec.at_], by simp [go_sem]⟩
  | 2, _ => exact ⟨by simp [go_sem, Vec.at_], by simp [go_sem]⟩
 rintro W ⟨hM, hV, hb, hz⟩
 have HM := Lib.hid hM
 have HV := Lib.hid hV
 have HB := Lib.hid hb
 clear hM hV hb
 obtain ⟨gp, hgp⟩ : ∃ g, g = w.heap.size := ⟨_, rfl⟩
 have HGP := Lib.hid hgp
 rw [← hgp] at HM HV hz
 rw [show w.heap.size = gp from hgp.symm]
 clear hgp
 simp only [Nat.add_assoc, Nat.reduceAdd]
 obtain ⟨⟨p0, p1, p2, p3⟩, ⟨q0, q1, q2, q3⟩, ⟨r0, r1, r2, r3⟩, -, -⟩ := HM.out
 have hmix : Tryz.prog.follows .mixedOrders = true := by kernel_rfl
 have kx0 : ∀ y : KW (fun W' => Below W.heap.size W W'), (y.w.cell? ⟨gp, 0, none⟩ = some (.int .i64 p.a) ∧ y.w.cell? ⟨gp, 1, none⟩ = some (.int .i64 p.b) ∧ y.w.cell? ⟨gp, 2, none⟩ = some (.int .i64 p.c) ∧ y.w.cell? ⟨gp, 3, none⟩ = some (.int .i64 p.d)) := fun y => ⟨cell_keep y.ok p0, cell_keep y.ok p1, cell_keep y.ok p2, cell_keep y.ok p3⟩
 have kx1 : ∀ y : KW (fun W' => Below W.heap.size W W'), (y.w.cell? ⟨gp + 1, 0, none⟩ = some (.int .i64 q.a) ∧ y.w.cell? ⟨gp + 1, 1, none⟩ = some (.int .i64 q.b) ∧ y.w.cell? ⟨gp + 1, 2, none⟩ = some (.int .i64 q.c) ∧ y.w.cell? ⟨gp + 1, 3, none⟩ = some (.int .i64 q.d)) := fun y => ⟨cell_keep y.ok q0, cell_keep y.ok q1, cell_keep y.ok q2, cell_keep y.ok q3⟩
 have kx2 : ∀ y : KW (fun W' => Below W.heap.size W W'), (y.w.cell? ⟨gp + 2, 0, none⟩ = some (.int .i64 r.a) ∧ y.w.cell? ⟨gp + 2, 1, none⟩ = some (.int .i64 r.b) ∧ y.w.cell? ⟨gp + 2, 2, none⟩ = some (.int .i64 r.c) ∧ y.w.cell? ⟨gp + 2, 3, none⟩ = some (.int .i64 r.d)) := fun y => ⟨cell_keep y.ok r0, cell_keep y.ok r1, cell_keep y.ok r2, cell_keep y.ok r3⟩
 haveI n1 : Nonempty (KW (fun W' => Below W.heap.size W W')) := ⟨⟨W, Below.refl _ _⟩⟩
 have hy0 : gp < W.heap.size := by omega
 have hy1 : gp + 1 < W.heap.size := by omega
 have hy2 : gp + 2 < W.heap.size := by omega
 refine wp_region_grew (by kernel_rfl) (by kernel_rfl) ?_
 repeat (first | go_big_quiet_step (fail) | quiet_step (fail))
 (first | go_big_quiet_step ((go_at_call 43; exact grew_of (HN.out q _))) | quiet_step ((go_at_call 43; exact grew_of (HN.out q _))))
 repeat (first | go_big_quiet_step (fail) | quiet_step (fail))
 (first | go_big_quiet_step ((go_at_call 43; exact grew_of (HN.out r _))) | quiet_step ((go_at_call 43; exact grew_of (HN.out r _))))
 repeat (first | go_big_quiet_step (fail) | quiet_step (fail))
 (first | go_big_quiet_step ((go_at_call 60; exact grew_of (HC1.out _))) | quiet_step ((go_at_call 60; exact grew_of (HC1.out _))))
 repeat (first | go_big_quiet_step (fail) | quiet_step (fail))
 (first | go_big_quiet_step ((go_at_call 43; exact grew_of (HN.out r _))) | quiet_step ((go_at_call 43; exact grew_of (HN.out r _))))
 repeat (first | go_big_quiet_step (fail) | quiet_step (fail))
 (first | go_big_quiet_step ((go_at_call 43; exact grew_of (HN.out p _))) | quiet_step ((go_at_call 43; exact grew_of (HN.out p _))))
 repeat (first | go_big_quiet_step (fail) | quiet_step (fail))
 (first | go_big_quiet_step ((go_at_call 60; exact grew_of (HC2.out _))) | quiet_step ((go_at_call 60; exact grew_of (HC2.out _))))
 repeat (first | go_big_quiet_step (fail) | quiet_step (fail))
 (first | go_big_quiet_step ((go_at_call 43; exact grew_of (HN.out p _))) | quiet_step ((go_at_call 43; exact grew_of (HN.out p _))))
 repeat (first | go_big_quiet_step (fail) | quiet_step (fail))
 (first | go_big_quiet_step ((go_at_call 43; exact grew_of (HN.out q _))) | quiet_step ((go_at_call 43; exact grew_of (HN.out q _))))
 repeat (first | go_big_quiet_step (fail) | quiet_step (fail))
 (first | go_big_quiet_step ((go_at_call 60; exact grew_of (HC3.out _))) | quiet_step ((go_at_call 60; exact grew_of (HC3.out _))))
 repeat (first | go_big_quiet_step (fail) | quiet_step (fail))
 refine wpQuiet_nil ?_
 rintro _ ⟨gg, rfl⟩
 have HB4 := Lib.hid (grewB (Below.refl W.heap.size W) (Nat.le_refl _) gg)
 generalize grew W gg = w' at *
 obtain ⟨A1, hA1⟩ : ∃ A, A = addV ⟨0, 0, 0⟩ p.d X := ⟨_, rfl⟩
 have HS1 := Lib.hid (show ∀ k, A1.at_ k = (⟨0, 0, 0⟩ : Vec).at_ k + p.d * X.at_ k from fun k => by rw [hA1]; exact addV_at _ _ _ _)
 rw [← hA1] at HA HPT
 obtain ⟨A2, hA2⟩ : ∃ A, A = addV A1 q.d Y := ⟨_, rfl⟩
 have HS2 := Lib.hid (show ∀ k, A2.at_ k = A1.at_ k + q.d * Y.at_ k from fun k => by rw [hA2]; exact addV_at _ _ _ _)
 rw [← hA2] at HA HPT
 obtain ⟨A3, hA3⟩ : ∃ A, A = addV A2 r.d Z := ⟨_, rfl⟩
 have HS3 := Lib.hid (show ∀ k, A3.at_ k = A2.at_ k + r.d * Z.at_ k from fun k => by rw [hA3]; exact addV_at _ _ _ _)
 rw [← hA3] at HA HPT
 have HA3 := Lib.hid (And.intro hA1 (And.intro hA2 hA3))
 clear kx0 kx1 kx2 n1 hA1 hA2 hA3 p0 p1 p2 p3 q0 q1 q2 q3 r0 r1 r2 r3
 go_wp2_with fail
 go_loopw [30] (fun iv wr => ∃ (i : Nat) (v : Int), i ≤ 3 ∧ v = (i : Int) ∧ iv = .int .i64 v ∧ Hid (VecV wr (gp + 4) (if i = 0 then (⟨0, 0, 0⟩ : Vec) else if i = 1 then A1 else if i = 2 then A2 else A3).at_) ∧ But (gp + 4) W wr ∧ Below gp w wr) (fun iv _ => 3 - (intOf iv).toNat)
 case atStart => exact ⟨0, 0, Nat.zero_le _, rfl, rfl, Lib.hid (HV.out.keep HB4.out), But.of HB4.out, by have := HB.out; rw [← HGP.out] at this; exact this.trans (HB4.out.mono (by omega))⟩
 case round =>
  obtain ⟨i, v, hi, hvi, rfl, HV, hbr, hbw⟩ := hrel
  have HBWO := Lib.hid hbw
  clear hbw
  obtain ⟨wo, rfl⟩ : ∃ wo : World, wo = wr := ⟨_, rfl⟩
  have HBR := Lib.hid hbr
  have hM := HM.out.but hbr (by omega) (by omega)
  have hzo := hbr.size
  have hg0 : gp < wo.heap.size := by omega
  have hg1 : gp + 1 < wo.heap.size := by omega
  have hg2 : gp + 2 < wo.heap.size := by omega
  have p3 := hM.p.2.2.2
  have q3 := hM.q.2.2.2
  have r3 := hM.r.2.2.2
  clear hbr
  have h4 : i = 0 ∨ i = 1 ∨ i = 2 ∨ i = 3 := by omega
  rcases h4 with rfl | rfl | rfl | rfl
  ·obtain rfl : v = 0 := by simpa using hvi
   clear hvi
   have HST := Lib.hid (show ∀ k, A1.at_ k = (⟨0, 0, 0⟩ : Vec).at_ k + p.d * X.at_ k from HS1.out)
   have HQO := Lib.hid (show Vec.in_ 4000000000 ⟨0, 0, 0⟩ by unfold Vec.in_; simp)
   have HQN := Lib.hid (HXYZ.out.1)
   have HQD := Lib.hid (HDD.out.1)
   have ixv := fun w => idxV0 X.x X.y X.z Y.x Y.y Y.z Z.x Z.y Z.z w
   have ixi := fun w => idxI0 p.d q.d r.d w
   go_upto_region 6 with fail
   clear ixv ixi
   refine gen_world (fun W2 => VecV W2 (gp + 4) (⟨0, 0, 0⟩ : Vec).at_ ∧ VecV W2 wo.heap.size X.at_ ∧ But (gp + 4) W W2 ∧ wo.heap.size < W2.heap.size ∧ Below gp w W2) ⟨?_, ?_, ?_, ?_, ?_⟩ ?_
   ·exact (VecV.keep (show VecV wo (gp + 4) (⟨0, 0, 0⟩ : Vec).at_ from HV.out) (by repeat (first | (with_reducible assumption) | exact Below.refl _ _ | (refine Below.setCell ?_ (by first | omega | (simp; omega) | (simp; done)) _) | (refine Below.alloc ?_ (by first | omega | (simp; omega) | (simp; done)) _) | (refine Below.drew ?_))))
   ·intro t ht
    match t, ht with
    | 0, _ => exact ⟨by simp [go_sem, Vec.at_], by simp [go_sem]⟩
    | 1, _ => exact ⟨by simp [go_sem, Vec.at_], by simp [go_sem]⟩
    | 2, _ => exact ⟨by simp [go_sem, Vec.at_], by simp [go_sem]⟩
   ·exact HBR.out.trans (But.of (by repeat (first | (with_reducible assumption) | exact Below.refl _ _ | (refine Below.setCell ?_ (by first | omega | (simp; omega) | (simp; done)) _) | (refine Below.alloc ?_ (by first | omega | (simp; omega) | (simp; done)) _) | (refine Below.drew ?_))))
   ·simp
   ·exact HBWO.out.trans ((show Below wo.heap.size wo _ from (by repeat (first | (with_reducible assumption) | exact Below.refl _ _ | (refine Below.setCell ?_ (by first | omega | (simp; omega) | (simp; done)) _) | (refine Below.alloc ?_ (by first | omega | (simp; omega) | (simp; done)) _) | (refine Below.drew ?_)))).mono (by omega))
   obtain ⟨g11, hg11⟩ : ∃ g, g = wo.heap.size := ⟨_, rfl⟩
   rw [← hg11]
   have hgg : gp + 4 < g11 := by omega
   have HBO := Lib.hid hM
   clear HV hM p3 q3 r3 hg11
   rintro W2 ⟨hv2, hn2, hb2, hz2, hbw2⟩
   have HBW2 := Lib.hid hbw2
   clear hbw2
   have HV2 := Lib.hid hv2
   have HN2 := Lib.hid hn2
   have HB2 := Lib.hid hb2
   clear hv2 hn2 hb2
   go_wp2_with fail
   go_loopw [43] (fun kv wk => ∃ k : Nat, k ≤ 3 ∧ kv = .int .i64 (k : Int) ∧ Hid (VecV wk (gp + 4) (fun t => if t < k then A1.at_ t else (⟨0, 0, 0⟩ : Vec).at_ t)) ∧ But (gp + 4) W2 wk ∧ Below gp w wk) (fun kv _ => 3 - (intOf kv).toNat)
   case atStart => exact ⟨0, Nat.zero_le _, rfl, Lib.hid (HV2.out.ext fun t _ => by simp), But.refl _ _, HBW2.out⟩
   case round =>
    obtain ⟨k, hk, rfl, HVK, hbk, hbwk⟩ := hrel
    have HBWK := Lib.hid hbwk
    clear hbwk
    obtain ⟨wk, rfl⟩ : ∃ wk : World, wk = wr := ⟨_, rfl⟩
    have HBK := Lib.hid hbk
    have hzk := hbk.size
    clear hbk
    by_cases hk3 : k < 3
    ·have hki : (k : Int) < 3 := by omega
     have v1 : IntKind.i64.wrap ((k : Int) + 1) = (k : Int) + 1 := IntWalk.i64_in _ (by omega)
     have c0 : wk.cell? ⟨gp + 4, k, none⟩ = some (.int .i64 ((⟨0, 0, 0⟩ : Vec).at_ k)) := by have h := (HVK.out k hk3).1; simpa using h
     have c1 : wk.cell? ⟨g11, k, none⟩ = some (.int .i64 (X.at_ k)) := HBK.out.get (HN2.out k hk3).1 (by omega)
     have f0 := (HVK.out k hk3).2
     have b0 := Vec.in_at HQO.out k
     have b1 := mul_in HQD.out (Vec.in_at HQN.out k)
     obtain ⟨mm, hmm⟩ : ∃ m, m = p.d * X.at_ k := ⟨_, rfl⟩
     have HSK := Lib.hid (show A1.at_ k = (⟨0, 0, 0⟩ : Vec).at_ k + mm by rw [hmm]; exact HST.out k)
     rw [← hmm] at b1
     have v2 : IntKind.i64.wrap (p.d * X.at_ k) = mm := by rw [← hmm]; exact IntWalk.i64_in _ (by omega)
     have v3 : IntKind.i64.wrap ((⟨0, 0, 0⟩ : Vec).at_ k + mm) = (⟨0, 0, 0⟩ : Vec).at_ k + mm := IntWalk.i64_in _ (by omega)
     have kx0 : ∀ y : KW (fun W' => Below wk.heap.size wk W'), y.w.cell? ⟨gp + 4, k, none⟩ = some (.int .i64 ((⟨0, 0, 0⟩ : Vec).at_ k)) ∧ y.w.cell? ⟨g11, k, none⟩ = some (.int .i64 (X.at_ k)) := fun y => ⟨cell_keep y.ok c0, cell_keep y.ok c1⟩
     haveI n1 : Nonempty (KW (fun W' => Below wk.heap.size wk W')) := ⟨⟨wk, Below.refl _ _⟩⟩
     have HC0 := Lib.hid c0
     have hgv := block_lt_of_cell c0
     clear hmm b0 b1 c0 c1
     go_upto_region 9 with fail
     refine wp_region_tree (fun w' => ∃ y : KW (fun W' => Below wk.heap.size wk W'), w' = y.w) 8 (.take 0 (.take 1 (.take 2 (.take 3 (.take 4 (.take 5 (.take 6 (.take 7 .done)))))))) hmix (by kernel_rfl) (KW.mk' (Below.refl _ _).drew) ?_
     have HB6 := Lib.hid (show Below wk.heap.size wk wk.drew from (Below.refl _ _).drew)
     generalize wk.drew = w6 at *
     repeat (refine wpTree_take ?_; simp only [nthOp]; (first | go_big_quiet_step (fail) | quiet_step (fail)); refine wpQuiet_nil ?_)
     have c0 := cell_keep HB6.out HC0.out
     have f0 := frozen_keep HB6.out hgv f0
     refine wpTree_done ?_
     simp only [List.drop_succ_cons, List.drop_zero]
     go_wp2_with fail
     refine NP_mk ?_
     have HVN := Lib.hid (show VecV (w6.setCell ⟨gp + 4, k, none⟩ (.int .i64 ((⟨0, 0, 0⟩ : Vec).at_ k + mm))) (gp + 4) (fun t => if t < k + 1 then A1.at_ t else (⟨0, 0, 0⟩ : Vec).at_ t) from by
      have h := VecV.set (f' := fun t => if t < k + 1 then A1.at_ t else (⟨0, 0, 0⟩ : Vec).at_ t) (HVK.out.keep HB6.out) hk3 (fun t ht => by
       by_cases e : t < k
       ·simp only [if_pos e, if_pos (show t < k + 1 by omega)]
       ·simp only [if_neg e, if_neg (show ¬ t < k + 1 by omega)])
      simp only [if_pos (Nat.lt_succ_self k), HSK.out] at h
      exact h)
     go_wp2_with fail
     go_roundw
     case rel => exact ⟨k + 1, by omega, by go_num, HVN, (HBK.out.trans (But.of HB6.out)).set _ _, (HBWK.out.trans (HB6.out.mono (by omega))).setCell (by simp only; omega) _⟩
     case measure => first | (simp [intOf]; done) | (simp [intOf]; omega)
    ·obtain rfl : k = 3 := by omega
     have HVE := Lib.hid (show VecV wk (gp + 4) A1.at_ from HVK.out.ext fun t ht => by simp [ht])
     go_wp2_with fail
     go_roundw
     case rel => exact ⟨1, 1, by omega, rfl, by go_num, HVE, HB2.out.trans HBK.out, HBWK.out⟩
     case measure => first | (simp [intOf]; done) | (simp [intOf]; omega)
  ·obtain rfl : v = 1 := by simpa using hvi
   clear hvi
   have HST := Lib.hid (show ∀ k, A2.at_ k = A1.at_ k + q.d * Y.at_ k from HS2.out)
   have HQO := Lib.hid (HA.out.1.mono (show (0 + 1280000000 : Int) ≤ 4000000000 by decide))
   have HQN := Lib.hid (HXYZ.out.2.1)
   have HQD := Lib.hid (HDD.out.2.1)
   have ixv := fun w => idxV1 X.x X.y X.z Y.x Y.y Y.z Z.x Z.y Z.z w
   have ixi := fun w => idxI1 p.d q.d r.d w
   go_upto_region 6 with fail
   clear ixv ixi
   refine gen_world (fun W2 => VecV W2 (gp + 4) A1.at_ ∧ VecV W2 wo.heap.size Y.at_ ∧ But (gp + 4) W W2 ∧ wo.heap.size < W2.heap.size ∧ Below gp w W2) ⟨?_, ?_, ?_, ?_, ?_⟩ ?_
   ·exact (VecV.keep (show VecV wo (gp + 4) A1.at_ from HV.out) (by repeat (first | (with_reducible assumption) | exact Below.refl _ _ | (refine Below.setCell ?_ (by first | omega | (simp; omega) | (simp; done)) _) | (refine Below.alloc ?_ (by first | omega | (simp; omega) | (simp; done)) _) | (refine Below.drew ?_))))
   ·intro t ht
    match t, ht with
    | 0, _ => exact ⟨by simp [go_sem, Vec.at_], by simp [go_sem]⟩
    | 1, _ => exact ⟨by simp [go_sem, Vec.at_], by simp [go_sem]⟩
    | 2, _ => exact ⟨by simp [go_sem, Vec.at_], by simp [go_sem]⟩
   ·exact HBR.out.trans (But.of (by repeat (first | (with_reducible assumption) | exact Below.refl _ _ | (refine Below.setCell ?_ (by first | omega | (simp; omega) | (simp; done)) _) | (refine Below.alloc ?_ (by first | omega | (simp; omega) | (simp; done)) _) | (refine Below.drew ?_))))
   ·simp
   ·exact HBWO.out.trans ((show Below wo.heap.size wo _ from (by repeat (first | (with_reducible assumption) | exact Below.refl _ _ | (refine Below.setCell ?_ (by first | omega | (simp; omega) | (simp; done)) _) | (refine Below.alloc ?_ (by first | omega | (simp; omega) | (simp; done)) _) | (refine Below.drew ?_)))).mono (by omega))
   obtain ⟨g11, hg11⟩ : ∃ g, g = wo.heap.size := ⟨_, rfl⟩
   rw [← hg11]
   have hgg : gp + 4 < g11 := by omega
   have HBO := Lib.hid hM
   clear HV hM p3 q3 r3 hg11
   rintro W2 ⟨hv2, hn2, hb2, hz2, hbw2⟩
   have HBW2 := Lib.hid hbw2
   clear hbw2
   have HV2 := Lib.hid hv2
   have HN2 := Lib.hid hn2
   have HB2 := Lib.hid hb2
   clear hv2 hn2 hb2
   go_wp2_with fail
   go_loopw [43] (fun kv wk => ∃ k : Nat, k ≤ 3 ∧ kv = .int .i64 (k : Int) ∧ Hid (VecV wk (gp + 4) (fun t => if t < k then A2.at_ t else A1.at_ t)) ∧ But (gp + 4) W2 wk ∧ Below gp w wk) (fun kv _ => 3 - (intOf kv).toNat)
   case atStart => exact ⟨0, Nat.zero_le _, rfl, Lib.hid (HV2.out.ext fun t _ => by simp), But.refl _ _, HBW2.out⟩
   case round =>
    obtain ⟨k, hk, rfl, HVK, hbk, hbwk⟩ := hrel
    have HBWK := Lib.hid hbwk
    clear hbwk
    obtain ⟨wk, rfl⟩ : ∃ wk : World, wk = wr := ⟨_, rfl⟩
    have HBK := Lib.hid hbk
    have hzk := hbk.size
    clear hbk
    by_cases hk3 : k < 3
    ·have hki : (k : Int) < 3 := by omega
     have v1 : IntKind.i64.wrap ((k : Int) + 1) = (k : Int) + 1 := IntWalk.i64_in _ (by omega)
     have c0 : wk.cell? ⟨gp + 4, k, none⟩ = some (.int .i64 (A1.at_ k)) := by have h := (HVK.out k hk3).1; simpa using h
     have c1 : wk.cell? ⟨g11, k, none⟩ = some (.int .i64 (Y.at_ k)) := HBK.out.get (HN2.out k hk3).1 (by omega)
     have f0 := (HVK.out k hk3).2
     have b0 := Vec.in_at HQO.out k
     have b1 := mul_in HQD.out (Vec.in_at HQN.out k)
     obtain ⟨mm, hmm⟩ : ∃ m, m = q.d * Y.at_ k := ⟨_, rfl⟩
     have HSK := Lib.hid (show A2.at_ k = A1.at_ k + mm by rw [hmm]; exact HST.out k)
     rw [← hmm] at b1
     have v2 : IntKind.i64.wrap (q.d * Y.at_ k) = mm := by rw [← hmm]; exact IntWalk.i64_in _ (by omega)
     have v3 : IntKind.i64.wrap (A1.at_ k + mm) = A1.at_ k + mm := IntWalk.i64_in _ (by omega)
     have kx0 : ∀ y : KW (fun W' => Below wk.heap.size wk W'), y.w.cell? ⟨gp + 4, k, none⟩ = some (.int .i64 (A1.at_ k)) ∧ y.w.cell? ⟨g11, k, none⟩ = some (.int .i64 (Y.at_ k)) := fun y => ⟨cell_keep y.ok c0, cell_keep y.ok c1⟩
     haveI n1 : Nonempty (KW (fun W' => Below wk.heap.size wk W')) := ⟨⟨wk, Below.refl _ _⟩⟩
     have HC0 := Lib.hid c0
     have hgv := block_lt_of_cell c0
     clear hmm b0 b1 c0 c1
     go_upto_region 9 with fail
     refine wp_region_tree (fun w' => ∃ y : KW (fun W' => Below wk.heap.size wk W'), w' = y.w) 8 (.take 0 (.take 1 (.take 2 (.take 3 (.take 4 (.take 5 (.take 6 (.take 7 .done)))))))) hmix (by kernel_rfl) (KW.mk' (Below.refl _ _).drew) ?_
     have HB6 := Lib.hid (show Below wk.heap.size wk wk.drew from (Below.refl _ _).drew)
     generalize wk.drew = w6 at *
     repeat (refine wpTree_take ?_; simp only [nthOp]; (first | go_big_quiet_step (fail) | quiet_step (fail)); refine wpQuiet_nil ?_)
     have c0 := cell_keep HB6.out HC0.out
     have f0 := frozen_keep HB6.out hgv f0
     refine wpTree_done ?_
     simp only [List.drop_succ_cons, List.drop_zero]
     go_wp2_with fail
     refine NP_mk ?_
     have HVN := Lib.hid (show VecV (w6.setCell ⟨gp + 4, k, none⟩ (.int .i64 (A1.at_ k + mm))) (gp + 4) (fun t => if t < k + 1 then A2.at_ t else A1.at_ t) from by
      have h := VecV.set (f' := fun t => if t < k + 1 then A2.at_ t else A1.at_ t) (HVK.out.keep HB6.out) hk3 (fun t ht => by
       by_cases e : t < k
       ·simp only [if_pos e, if_pos (show t < k + 1 by omega)]
       ·simp only [if_neg e, if_neg (show ¬ t < k + 1 by omega)])
      simp only [if_pos (Nat.lt_succ_self k), HSK.out] at h
      exact h)
     go_wp2_with fail
     go_roundw
     case rel => exact ⟨k + 1, by omega, by go_num, HVN, (HBK.out.trans (But.of HB6.out)).set _ _, (HBWK.out.trans (HB6.out.mono (by omega))).setCell (by simp only; omega) _⟩
     case measure => first | (simp [intOf]; done) | (simp [intOf]; omega)
    ·obtain rfl : k = 3 := by omega
     have HVE := Lib.hid (show VecV wk (gp + 4) A2.at_ from HVK.out.ext fun t ht => by simp [ht])
     go_wp2_with fail
     go_roundw
     case rel => exact ⟨2, 2, by omega, rfl, by go_num, HVE, HB2.out.trans HBK.out, HBWK.out⟩
     case measure => first | (simp [intOf]; done) | (simp [intOf]; omega)
  ·obtain rfl : v = 2 := by simpa using hvi
   clear hvi
   have HST := Lib.hid (show ∀ k, A3.at_ k = A2.at_ k + r.d * Z.at_ k from HS3.out)
   have HQO := Lib.hid (HA.out.2.1.mono (show (0 + 1280000000 + 1280000000 : Int) ≤ 4000000000 by decide))
   have HQN := Lib.hid (HXYZ.out.2.2)
   have HQD := Lib.hid (HDD.out.2.2)
   have ixv := fun w => idxV2 X.x X.y X.z Y.x Y.y Y.z Z.x Z.y Z.z w
   have ixi := fun w => idxI2 p.d q.d r.d w
   go_upto_region 6 with fail
   clear ixv ixi
   refine gen_world (fun W2 => VecV W2 (gp + 4) A2.at_ ∧ VecV W2 wo.heap.size Z.at_ ∧ But (gp + 4) W W2 ∧ wo.heap.size < W2.heap.size ∧ Below gp w W2) ⟨?_, ?_, ?_, ?_, ?_⟩ ?_
   ·exact (VecV.keep (show VecV wo (gp + 4) A2.at_ from HV.out) (by repeat (first | (with_reducible assumption) | exact Below.refl _ _ | (refine Below.setCell ?_ (by first | omega | (simp; omega) | (simp; done)) _) | (refine Below.alloc ?_ (by first | omega | (simp; omega) | (simp; done)) _) | (refine Below.drew ?_))))
   ·intro t ht
    match t, ht with
    | 0, _ => exact ⟨by simp [go_sem, Vec.at_], by simp [go_sem]⟩
    | 1, _ => exact ⟨by simp [go_sem, Vec.at_], by simp [go_sem]⟩
    | 2, _ => exact ⟨by simp [go_sem, Vec.at_], by simp [go_sem]⟩
   ·exact HBR.out.trans (But.of (by repeat (first | (with_reducible assumption) | exact Below.refl _ _ | (refine Below.setCell ?_ (by first | omega | (simp; omega) | (simp; done)) _) | (refine Below.alloc ?_ (by first | omega | (simp; omega) | (simp; done)) _) | (refine Below.drew ?_))))
   ·simp
   ·exact HBWO.out.trans ((show Below wo.heap.size wo _ from (by repeat (first | (with_reducible assumption) | exact Below.refl _ _ | (refine Below.setCell ?_ (by first | omega | (simp; omega) | (simp; done)) _) | (refine Below.alloc ?_ (by first | omega | (simp; omega) | (simp; done)) _) | (refine Below.drew ?_)))).mono (by omega))
   obtain ⟨g11, hg11⟩ : ∃ g, g = wo.heap.size := ⟨_, rfl⟩
   rw [← hg11]
   have hgg : gp + 4 < g11 := by omega
   have HBO := Lib.hid hM
   clear HV hM p3 q3 r3 hg11
   rintro W2 ⟨hv2, hn2, hb2, hz2, hbw2⟩
   have HBW2 := Lib.hid hbw2
   clear hbw2
   have HV2 := Lib.hid hv2
   have HN2 := Lib.hid hn2
   have HB2 := Lib.hid hb2
   clear hv2 hn2 hb2
   go_wp2_with fail
   go_loopw [43] (fun kv wk => ∃ k : Nat, k ≤ 3 ∧ kv = .int .i64 (k : Int) ∧ Hid (VecV wk (gp + 4) (fun t => if t < k then A3.at_ t else A2.at_ t)) ∧ But (gp + 4) W2 wk ∧ Below gp w wk) (fun kv _ => 3 - (intOf kv).toNat)
   case atStart => exact ⟨0, Nat.zero_le _, rfl, Lib.hid (HV2.out.ext fun t _ => by simp), But.refl _ _, HBW2.out⟩
   case round =>
    obtain ⟨k, hk, rfl, HVK, hbk, hbwk⟩ := hrel
    have HBWK := Lib.hid hbwk
    clear hbwk
    obtain ⟨wk, rfl⟩ : ∃ wk : World, wk = wr := ⟨_, rfl⟩
    have HBK := Lib.hid hbk
    have hzk := hbk.size
    clear hbk
    by_cases hk3 : k < 3
    ·have hki : (k : Int) < 3 := by omega
     have v1 : IntKind.i64.wrap ((k : Int) + 1) = (k : Int) + 1 := IntWalk.i64_in _ (by omega)
     have c0 : wk.cell? ⟨gp + 4, k, none⟩ = some (.int .i64 (A2.at_ k)) := by have h := (HVK.out k hk3).1; simpa using h
     have c1 : wk.cell? ⟨g11, k, none⟩ = some (.int .i64 (Z.at_ k)) := HBK.out.get (HN2.out k hk3).1 (by omega)
     have f0 := (HVK.out k hk3).2
     have b0 := Vec.in_at HQO.out k
     have b1 := mul_in HQD.out (Vec.in_at HQN.out k)
     obtain ⟨mm, hmm⟩ : ∃ m, m = r.d * Z.at_ k := ⟨_, rfl⟩
     have HSK := Lib.hid (show A3.at_ k = A2.at_ k + mm by rw [hmm]; exact HST.out k)
     rw [← hmm] at b1
     have v2 : IntKind.i64.wrap (r.d * Z.at_ k) = mm := by rw [← hmm]; exact IntWalk.i64_in _ (by omega)
     have v3 : IntKind.i64.wrap (A2.at_ k + mm) = A2.at_ k + mm := IntWalk.i64_in _ (by omega)
     have kx0 : ∀ y : KW (fun W' => Below wk.heap.size wk W'), y.w.cell? ⟨gp + 4, k, none⟩ = some (.int .i64 (A2.at_ k)) ∧ y.w.cell? ⟨g11, k, none⟩ = some (.int .i64 (Z.at_ k)) := fun y => ⟨cell_keep y.ok c0, cell_keep y.ok c1⟩
     haveI n1 : Nonempty (KW (fun W' => Below wk.heap.size wk W')) := ⟨⟨wk, Below.refl _ _⟩⟩
     have HC0 := Lib.hid c0
     have hgv := block_lt_of_cell c0
     clear hmm b0 b1 c0 c1
     go_upto_region 9 with fail
     refine wp_region_tree (fun w' => ∃ y : KW (fun W' => Below wk.heap.size wk W'), w' = y.w) 8 (.take 0 (.take 1 (.take 2 (.take 3 (.take 4 (.take 5 (.take 6 (.take 7 .done)))))))) hmix (by kernel_rfl) (KW.mk' (Below.refl _ _).drew) ?_
     have HB6 := Lib.hid (show Below wk.heap.size wk wk.drew from (Below.refl _ _).drew)
     generalize wk.drew = w6 at *
     repeat (refine wpTree_take ?_; simp only [nthOp]; (first | go_big_quiet_step (fail) | quiet_step (fail)); refine wpQuiet_nil ?_)
     have c0 := cell_keep HB6.out HC0.out
     have f0 := frozen_keep HB6.out hgv f0
     refine wpTree_done ?_
     simp only [List.drop_succ_cons, List.drop_zero]
     go_wp2_with fail
     refine NP_mk ?_
     have HVN := Lib.hid (show VecV (w6.setCell ⟨gp + 4, k, none⟩ (.int .i64 (A2.at_ k + mm))) (gp + 4) (fun t => if t < k + 1 then A3.at_ t else A2.at_ t) from by
      have h := VecV.set (f' := fun t => if t < k + 1 then A3.at_ t else A2.at_ t) (HVK.out.keep HB6.out) hk3 (fun t ht => by
       by_cases e : t < k
       ·simp only [if_pos e, if_pos (show t < k + 1 by omega)]
       ·simp only [if_neg e, if_neg (show ¬ t < k + 1 by omega)])
      simp only [if_pos (Nat.lt_succ_self k), HSK.out] at h
      exact h)
     go_wp2_with fail
     go_roundw
     case rel => exact ⟨k + 1, by omega, by go_num, HVN, (HBK.out.trans (But.of HB6.out)).set _ _, (HBWK.out.trans (HB6.out.mono (by omega))).setCell (by simp only; omega) _⟩
     case measure => first | (simp [intOf]; done) | (simp [intOf]; omega)
    ·obtain rfl : k = 3 := by omega
     have HVE := Lib.hid (show VecV wk (gp + 4) A3.at_ from HVK.out.ext fun t ht => by simp [ht])
     go_wp2_with fail
     go_roundw
     case rel => exact ⟨3, 3, by omega, rfl, by go_num, HVE, HB2.out.trans HBK.out, HBWK.out⟩
     case measure => first | (simp [intOf]; done) | (simp [intOf]; omega)
  ·obtain rfl : v = 3 := by simpa using hvi
   clear hvi
   have hV := HV.out
   simp only [if_neg (show ¬ 3 = 0 by decide), if_neg (show ¬ 3 = 1 by decide), if_neg (show ¬ 3 = 2 by decide)] at hV
   have c0 : wo.cell? ⟨gp + 4, 0, none⟩ = some (.int .i64 A3.x) := (hV 0 (by decide)).1
   have c1 : wo.cell? ⟨gp + 4, 1, none⟩ = some (.int .i64 A3.y) := (hV 1 (by decide)).1
   have c2 : wo.cell? ⟨gp + 4, 2, none⟩ = some (.int .i64 A3.z) := (hV 2 (by decide)).1
   have hgz : gp + 3 < wo.heap.size := by omega
   obtain ⟨hp9, hq9, hr9, ⟨z0, z1, z2, z3⟩, f0, f1, f2, f3⟩ := hM
   have HZ := Lib.hid (And.intro (And.intro z0 (And.intro z1 (And.intro z2 z3))) (And.intro f0 (And.intro f1 (And.intro f2 f3))))
   have HEQ := Lib.hid (show addV (addV (addV ⟨0, 0, 0⟩ p.d X) q.d Y) r.d Z = A3 by rw [← HA3.out.1, ← HA3.out.2.1, ← HA3.out.2.2])
   clear hp9 hq9 hr9 z0 z1 z2 z3 f0 f1 f2 f3 hV HV p3 q3 r3 HS1 HS2 HS3 HA3
   go_wp2_with (go_at_call 87; refine (HPT.out _).mono ?_; rintro e w9 ⟨rfl, hb⟩; have HB9 := Lib.hid hb; clear hb; obtain ⟨⟨z0, z1, z2, z3⟩, f0, f1, f2, f3⟩ := HZ.out; have z0 := cell_keep HB9.out z0; have z1 := cell_keep HB9.out z1; have z2 := cell_keep HB9.out z2; have z3 := cell_keep HB9.out z3; have f0 := frozen_keep HB9.out (by simp only; omega) f0; have f1 := frozen_keep HB9.out (by simp only; omega) f1; have f2 := frozen_keep HB9.out (by simp only; omega) f2; have f3 := frozen_keep HB9.out (by simp only; omega) f3; have hz9 := HB9.out.size; have hgz9 : gp + 3 < w9.heap.size := by omega)
   rw [HEQ.out]
   exact bodyPost_ret (v := .agg #[.int .i64 (pnt A3 den).x, .int .i64 (pnt A3 den).y, .int .i64 (pnt A3 den).z, .int .i64 (pnt A3 den).n]) (by simp [results, Tryz.results63, go_sem, z0, z1, z2, z3]) rfl ⟨rfl, by rw [← HGP.out]; repeat (first | exact HBWO.out.trans (HB9.out.mono (by omega)) | (refine Below.setCell ?_ (by simp only; omega) _))⟩
end Go.Proofs.YtgjmfdhgeahdcaaGreat
/- What the program and the document compute of planes: corners, normal forms, errors (plain). -/
set_option linter.unusedVariables false
set_option linter.unusedSimpArgs false
namespace Go.Proofs.YtgjmfdhgeahdcaaGreat

/-! Lists in strictly ascending order. -/
section
variable {α : Type}
structure AscO (D : α → Prop) (lt : α → α → Bool) : Prop where
 irr : ∀ a, D a → lt a a = false
 tr : ∀ a b c, D a → D b → D c → lt a b = true → lt b c = true → lt a c = true
 tot : ∀ a b, D a → D b → lt a b = true ∨ a = b ∨ lt b a = true
variable {lt : α → α → Bool} {D : α → Prop}
/-- Two strictly ascending lists with the same members are the same. -/
theorem asc_unique (O : AscO D lt) : ∀ {l m : List α}, (∀ x ∈ l, D x) → (∀ x ∈ m, D x) → l.Pairwise (fun x y => lt x y = true) → m.Pairwise (fun x y => lt x y = true) → (∀ x, x ∈ l ↔ x ∈ m) → l = m
 | [], [], _, _, _, _, _ => rfl
 | [], y :: m, _, _, _, _, h => absurd ((h y).2 List.mem_cons_self) (by simp)
 | x :: l, [], _, _, _, _, h => absurd ((h x).1 List.mem_cons_self) (by simp)
 | x :: l, y :: m, hl, hm, sl, sm, h => by
  rw [List.pairwise_cons] at sl sm
  have hx := hl x List.mem_cons_self
  have hy := hm y List.mem_cons_self
  have exy : x = y := by
   rcases List.mem_cons.1 ((h x).1 List.mem_cons_self) with e | h1
   ·exact e
   ·rcases List.mem_cons.1 ((h y).2 List.mem_cons_self) with e | h2
    ·exact e.symm
    ·have a := sm.1 x h1
     have b := sl.1 y h2
     have := O.tr _ _ _ hx hy hx b a
     rw [O.irr x hx] at this
     cases this
  subst exy
  have hne : ∀ z, (z ∈ l → z ≠ x) ∧ (z ∈ m → z ≠ x) := fun z => by
   refine ⟨fun hz e => ?_, fun hz e => ?_⟩
   ·subst e; have := sl.1 z hz; rw [O.irr z hx] at this; cases this
   ·subst e; have := sm.1 z hz; rw [O.irr z hx] at this; cases this
  rw [asc_unique O (fun z hz => hl z (List.mem_cons_of_mem _ hz)) (fun z hz => hm z (List.mem_cons_of_mem _ hz)) sl.2 sm.2 fun z => ?_]
  have := h z
  rw [List.mem_cons, List.mem_cons] at this
  constructor
  ·intro hz
   rcases this.1 (.inr hz) with e | e
   ·exact absurd e ((hne z).1 hz)
   ·exact e
  ·intro hz
   rcases this.2 (.inr hz) with e | e
   ·exact absurd e ((hne z).2 hz)
   ·exact e
variable [DecidableEq α]
def insO (lt : α → α → Bool) (c : α) : List α → List α
 | [] => [c]
 | x :: xs => if lt c x then c :: x :: xs else if c = x then x :: xs else x :: insO lt c xs
def srt (lt : α → α → Bool) : List α → List α
 | [] => []
 | c :: l => insO lt c (srt lt l)
theorem insO_mem {c : α} : ∀ {l : List α} {y : α}, y ∈ insO lt c l ↔ y = c ∨ y ∈ l
 | [], y => by simp [insO]
 | x :: xs, y => by
  unfold insO
  split
  ·simp
  ·split
   ·rename_i h; subst h; simp
   ·rw [List.mem_cons, insO_mem, List.mem_cons]
    constructor
    ·rintro (h | h | h) <;> simp [h]
    ·rintro (h | h | h) <;> simp [h]
theorem srt_mem : ∀ {l : List α} {y : α}, y ∈ srt lt l ↔ y ∈ l
 | [], y => by simp [srt]
 | c :: l, y => by rw [srt, insO_mem, srt_mem, List.mem_cons]
theorem insO_sorted (O : AscO D lt) {c : α} (hc : D c) : ∀ {l : List α}, (∀ x ∈ l, D x) → l.Pairwise (fun x y => lt x y = true) → (insO lt c l).Pairwise (fun x y => lt x y = true)
 | [], _, _ => by simp [insO]
 | x :: xs, hD, hs => by
  have hx := hD x List.mem_cons_self
  have hxs : ∀ y ∈ xs, D y := fun y hy => hD y (List.mem_cons_of_mem _ hy)
  rw [List.pairwise_cons] at hs
  unfold insO
  split
  ·rename_i h1
   refine List.pairwise_cons.2 ⟨fun y hy => ?_, List.pairwise_cons.2 hs⟩
   rcases List.mem_cons.1 hy with rfl | hy
   ·exact h1
   ·exact O.tr _ _ _ hc hx (hxs y hy) h1 (hs.1 y hy)
  ·rename_i h1
   split
   ·exact List.pairwise_cons.2 hs
   ·rename_i h2
    refine List.pairwise_cons.2 ⟨fun y hy => ?_, insO_sorted O hc hxs hs.2⟩
    rcases insO_mem.1 hy with rfl | hy
    ·rcases O.tot _ _ hc hx with h | h | h
     ·exact absurd h h1
     ·exact absurd h h2
     ·exact h
    ·exact hs.1 y hy
theorem srt_sorted (O : AscO D lt) : ∀ {l : List α}, (∀ x ∈ l, D x) → (srt lt l).Pairwise (fun x y => lt x y = true)
 | [], _ => by simp [srt]
 | c :: l, hD => by
  rw [srt]
  refine insO_sorted O (hD c List.mem_cons_self) (fun x hx => hD x (List.mem_cons_of_mem _ (srt_mem.1 hx))) (srt_sorted O fun x hx => hD x (List.mem_cons_of_mem _ hx))
theorem srt_of (O : AscO D lt) {l m : List α} (hD : ∀ x ∈ l, D x) (hs : m.Pairwise (fun x y => lt x y = true)) (h : ∀ x, x ∈ m ↔ x ∈ l) : m = srt lt l :=
 asc_unique O (fun x hx => hD x ((h x).1 hx)) (fun x hx => hD x (srt_mem.1 hx)) hs (srt_sorted O hD) fun x => by rw [h, srt_mem]
theorem srt_len (hl : List α) : (srt lt hl).length ≤ hl.length := by
 induction hl with
 | nil => simp [srt]
 | cons c l ih =>
  have : ∀ m : List α, (insO lt c m).length ≤ m.length + 1 := by
   intro m
   induction m with
   | nil => simp [insO]
   | cons x xs ih => unfold insO; split <;> (try split) <;> simp <;> omega
  rw [srt, List.length_cons]
  exact Nat.le_trans (this _) (by omega)
/-- A list in which equal neighbours are dropped. -/
def dedup : List α → List α
 | [] => []
 | [x] => [x]
 | x :: y :: l => if x = y then dedup (y :: l) else x :: dedup (y :: l)
theorem dedup_mem : ∀ {l : List α} {y : α}, y ∈ dedup l ↔ y ∈ l
 | [], y => by simp [dedup]
 | [x], y => by simp [dedup]
 | x :: z :: l, y => by
  unfold dedup
  split
  ·rename_i h; subst h; rw [dedup_mem]; simp
  ·rw [List.mem_cons, dedup_mem, List.mem_cons (a := y) (b := x)]
theorem dedup_asc (O : AscO D lt) : ∀ {l : List α}, (∀ x ∈ l, D x) → l.Pairwise (fun x y => lt y x = false) → (dedup l).Pairwise (fun x y => lt x y = true)
 | [], _, _ => by simp [dedup]
 | [x], _, _ => by simp [dedup]
 | x :: z :: l, hD, hs => by
  have hD' : ∀ y ∈ z :: l, D y := fun y hy => hD y (List.mem_cons_of_mem _ hy)
  have hx := hD x List.mem_cons_self
  have hz := hD z (by simp)
  rw [List.pairwise_cons] at hs
  have ih := dedup_asc O hD' hs.2
  unfold dedup
  split
  ·exact ih
  ·rename_i hne
   refine List.pairwise_cons.2 ⟨fun y hy => ?_, ih⟩
   have hy' := dedup_mem.1 hy
   have hyD := hD' y hy'
   have h1 := hs.1 z List.mem_cons_self
   have hxz : lt x z = true := by
    rcases O.tot _ _ hx hz with h | h | h
    ·exact h
    ·exact absurd h hne
    ·rw [h1] at h; cases h
   rcases List.mem_cons.1 hy' with rfl | hyl
   ·exact hxz
   ·have h2 := (List.pairwise_cons.1 hs.2).1 y hyl
    rcases O.tot _ _ hz hyD with h | h | h
    ·exact O.tr _ _ _ hx hz hyD hxz h
    ·rw [← h]; exact hxz
    ·rw [h2] at h; cases h
theorem dedup_srt (O : AscO D lt) {l r : List α} (hD : ∀ x ∈ l, D x) (hp : r.Perm l) (hs : r.Pairwise (fun x y => lt y x = false)) : dedup r = srt lt l :=
 srt_of O hD (dedup_asc O (fun x hx => hD x (hp.mem_iff.1 hx)) hs) fun x => by rw [dedup_mem, hp.mem_iff]
end

/-! Points. -/
def ltPb (a b : Co) : Bool := decide (ltP a b)
theorem ordP : AscO Low ltPb where
 irr a _ := by unfold ltPb; simp [ltP_irrefl]
 tr a b c ha hb hc h1 h2 := by unfold ltPb at *; simp only [decide_eq_true_eq] at *; exact ltP_trans ha.pos hb.pos hc.pos h1 h2
 tot a b ha hb := by unfold ltPb; simp only [decide_eq_true_eq]; exact ltP_total ha hb
/-! Planes. -/
def ltL (p q : Pl) : Bool := if p.a ≠ q.a then decide (p.a < q.a) else if p.b ≠ q.b then decide (p.b < q.b) else if p.c ≠ q.c then decide (p.c < q.c) else decide (p.d < q.d)
theorem ltL_iff (p q : Pl) : ltL p q = true ↔ p.a < q.a ∨ (p.a = q.a ∧ (p.b < q.b ∨ (p.b = q.b ∧ (p.c < q.c ∨ (p.c = q.c ∧ p.d < q.d))))) := by
 unfold ltL
 split
 ·simp only [decide_eq_true_eq]; omega
 ·split
  ·simp only [decide_eq_true_eq]; omega
  ·split
   ·simp only [decide_eq_true_eq]; omega
   ·simp only [decide_eq_true_eq]; omega
theorem ordL : AscO (fun _ : Pl => True) ltL where
 irr a _ := by
  have := ltL_iff a a
  cases h : ltL a a with
  | false => rfl
  | true => rw [h] at this; simp at this
 tr a b c _ _ _ h1 h2 := by rw [ltL_iff] at *; omega
 tot a b _ _ := by
  rw [ltL_iff, ltL_iff]
  by_cases h : a = b
  ·exact .inr (.inl h)
  ·have : ¬ (a.a = b.a ∧ a.b = b.b ∧ a.c = b.c ∧ a.d = b.d) := fun ⟨h1, h2, h3, h4⟩ => h (by cases a; cases b; simp_all)
   omega
/-- A point beyond none of some planes. -/
def alw (l : List Pl) (c : Co) : Bool := l.all fun p => decide (¬ 0 < sd p c)
def p0 : Pl := ⟨0, 0, 0, 0⟩
def ptsR (l : List Pl) (p q r : Pl) : List Co := if det p q r ≠ 0 ∧ alw l (mt p q r) = true then [mt p q r] else []
def rawR (l : List Pl) (p q : Pl) (k : Nat) : List Co := (l.take k).flatMap (ptsR l p q)
def rawK (l : List Pl) (p : Pl) (i : Nat) : List Co := (List.range i).flatMap fun k => rawR l p (l.getD k p0) k
def rawI (l : List Pl) (n : Nat) : List Co := (List.range n).flatMap fun i => rawK l (l.getD i p0) i
/-- The points on three planes that are beyond none, in the order in which they are found. -/
def raw (l : List Pl) : List Co := rawI l l.length
/-- The corners of planes. -/
def corn (l : List Pl) : List Co := srt ltPb (raw l)
theorem rawR_succ {l : List Pl} {p q : Pl} {k : Nat} (hk : k < l.length) : rawR l p q (k + 1) = rawR l p q k ++ ptsR l p q l[k] := by
 unfold rawR; rw [List.take_succ_eq_append_getElem hk, List.flatMap_append]; simp
theorem rawK_succ (l : List Pl) (p : Pl) (k : Nat) : rawK l p (k + 1) = rawK l p k ++ rawR l p (l.getD k p0) k := by
 unfold rawK; rw [List.range_succ, List.flatMap_append]; simp
theorem rawI_succ (l : List Pl) (n : Nat) : rawI l (n + 1) = rawI l n ++ rawK l (l.getD n p0) n := by
 unfold rawI; rw [List.range_succ, List.flatMap_append]; simp
theorem mt_low {p q r : Pl} (h : det p q r ≠ 0) : Low (mt p q r) := pnt_low h
theorem ptsR_low {l : List Pl} {p q r : Pl} : ∀ c ∈ ptsR l p q r, Low c := by
 intro c hc
 unfold ptsR at hc
 split at hc
 ·rename_i h; simp at hc; subst hc; exact mt_low h.1
 ·simp at hc
theorem rawR_low {l : List Pl} {p q : Pl} {k : Nat} : ∀ c ∈ rawR l p q k, Low c := by
 intro c hc
 obtain ⟨r, _, h⟩ := List.mem_flatMap.1 hc
 exact ptsR_low c h
theorem raw_low {l : List Pl} {n : Nat} : ∀ c ∈ rawI l n, Low c := by
 intro c hc
 obtain ⟨i, _, h⟩ := List.mem_flatMap.1 hc
 obtain ⟨k, _, h⟩ := List.mem_flatMap.1 h
 exact rawR_low c h
theorem corn_low {l : List Pl} : ∀ c ∈ corn l, Low c := fun c hc => raw_low c (srt_mem.1 hc)
theorem corn_asc (l : List Pl) : (corn l).Pairwise (fun x y => ltPb x y = true) := srt_sorted ordP raw_low
theorem mem_corn {l : List Pl} {c : Co} : c ∈ corn l ↔ c ∈ raw l := srt_mem
theorem getD_at {l : List Pl} {k : Nat} (h : k < l.length) : l.getD k p0 = l[k] := by simp [List.getD, h]
theorem mem_raw {l : List Pl} {c : Co} : c ∈ raw l ↔ ∃ i k m, ∃ (hi : i < l.length) (hk : k < i) (hm : m < k), det l[i] l[k] l[m] ≠ 0 ∧ alw l (mt l[i] l[k] l[m]) = true ∧ c = mt l[i] l[k] l[m] := by
 unfold raw rawI rawK rawR
 simp only [List.mem_flatMap, List.mem_range]
 constructor
 ·rintro ⟨i, hi, k, hk, r, hr, hc⟩
  obtain ⟨m, hm, rfl⟩ := List.mem_iff_getElem.1 hr
  have hm' : m < k := by simp at hm; omega
  rw [getD_at hi, getD_at (by omega)] at hc
  simp only [List.getElem_take] at hc
  unfold ptsR at hc
  split at hc
  ·rename_i h; simp at hc; exact ⟨i, k, m, hi, hk, hm', h.1, h.2, hc⟩
  ·simp at hc
 ·rintro ⟨i, k, m, hi, hk, hm, h1, h2, rfl⟩
  refine ⟨i, hi, k, hk, l[m], ?_, ?_⟩
  ·exact List.mem_iff_getElem.2 ⟨m, by simp; omega, by simp⟩
  ·rw [getD_at hi, getD_at (by omega)]
   unfold ptsR
   rw [if_pos ⟨h1, h2⟩]; simp
/-- Whether a body has inside. -/
def insid (l : List Pl) (cs : List Co) : Bool := l.all fun p => cs.any fun c => decide (sd p c < 0)
def onN (p : Pl) (cs : List Co) : Nat := (cs.filter fun c => decide (sd p c = 0)).length
/-- The needed planes, in order. -/
def norL (l : List Pl) (cs : List Co) : List Pl := (l.filter fun p => decide (3 ≤ onN p cs)).map lowL
def nor (l : List Pl) (cs : List Co) : List Pl := srt ltL (norL l cs)

/-! Whether planes bound their points. -/
def v0 : Vec := ⟨0, 0, 0⟩
def crsK (l : List Pl) (p : Pl) (i : Nat) : List Vec := (List.range i).flatMap fun k => if crs (nrm p) (nrm (l.getD k p0)) = v0 then [] else [crs (nrm p) (nrm (l.getD k p0))]
def crsI (l : List Pl) (n : Nat) : List Vec := (List.range n).flatMap fun i => crsK l (l.getD i p0) i
def abov (l : List Pl) (v : Vec) : Bool := l.any fun r => decide (0 < dt v (nrm r))
def belo (l : List Pl) (v : Vec) : Bool := l.any fun r => decide (dt v (nrm r) < 0)
def bounM (l : List Pl) : Bool := (crsI l l.length).all (fun v => abov l v && belo l v) && decide (crsI l l.length ≠ [])
theorem crsK_succ (l : List Pl) (p : Pl) (k : Nat) : crsK l p (k + 1) = crsK l p k ++ (if crs (nrm p) (nrm (l.getD k p0)) = v0 then [] else [crs (nrm p) (nrm (l.getD k p0))]) := by
 unfold crsK; rw [List.range_succ, List.flatMap_append]; simp
theorem crsI_succ (l : List Pl) (n : Nat) : crsI l (n + 1) = crsI l n ++ crsK l (l.getD n p0) n := by
 unfold crsI; rw [List.range_succ, List.flatMap_append]; simp
/-! Errors. -/
def chkP (p : Pl) : Int :=
 if withinB p.a (-8) 8 && withinB p.b (-8) 8 && withinB p.c (-8) 8 && withinB p.d (-10000000) 10000000 then (if nrm p = v0 then 11 else 0) else 2
def chkPs : List Pl → Int
 | [] => 0
 | p :: l => if chkP p ≠ 0 then chkP p else chkPs l
def inRoomB (c : Co) : Bool := withinB c.x (-300000 * c.n) (300000 * c.n) && withinB c.y (-300000 * c.n) (300000 * c.n) && withinB c.z (-300000 * c.n) (300000 * c.n)
/-- The error of a cell. -/
def readE (l : List Pl) : Int :=
 if 16 < l.length then 8 else if chkPs l ≠ 0 then chkPs l else if bounM l = false then 14 else if insid l (corn l) = false then 13 else if (corn l).all inRoomB = false then 2 else 0
def chkCs : List Cell → Int
 | [] => 0
 | c :: l => if readE c.planes ≠ 0 then readE c.planes else chkCs l
/-- The error of a solid. -/
def solE (l : List Cell) : Int := if 100 < l.length then 8 else chkCs l
theorem chkP_zero {p : Pl} : chkP p = 0 ↔ p.in_ ∧ nrm p ≠ v0 := by
 unfold chkP Pl.in_ Vec.in_ withinB nrm
 by_cases h : (((decide (-8 ≤ p.a) && decide (p.a ≤ 8)) && (decide (-8 ≤ p.b) && decide (p.b ≤ 8)) && (decide (-8 ≤ p.c) && decide (p.c ≤ 8)) && (decide (-10000000 ≤ p.d) && decide (p.d ≤ 10000000))) = true)
 ·rw [if_pos h]
  simp only [Bool.and_eq_true, decide_eq_true_eq] at h
  simp only [h, and_self, true_and]
  split <;> simp [*]
 ·rw [if_neg h]
  simp only [Bool.and_eq_true, decide_eq_true_eq] at h
  constructor
  ·intro h2; omega
  ·rintro ⟨h2, _⟩; exact absurd h2 (by simpa [and_assoc] using h)
theorem chkPs_zero : ∀ {l : List Pl}, chkPs l = 0 ↔ ∀ p ∈ l, chkP p = 0
 | [] => by simp [chkPs]
 | p :: l => by
  unfold chkPs
  split
  ·rename_i h; simp [h]
  ·rename_i h
   rw [chkPs_zero]
   have : chkP p = 0 := by omega
   simp [this]
/-- Planes that the program computes with: small numbers, a normal. -/
def Good (l : List Pl) : Prop := ∀ p ∈ l, p.in_ ∧ nrm p ≠ v0
theorem good_of {l : List Pl} (h : chkPs l = 0) : Good l := fun p hp => chkP_zero.1 (chkPs_zero.1 h p hp)
theorem Good.append {l m : List Pl} (h : Good l) (k : Good m) : Good (l ++ m) := fun p hp => (List.mem_append.1 hp).elim (h p) (k p)
theorem Good.take {l : List Pl} (h : Good l) (n : Nat) : Good (l.take n) := fun p hp => h p (List.mem_of_mem_take hp)
theorem g4_pos' {a b c d : Int} (h : ¬ (a = 0 ∧ b = 0 ∧ c = 0)) : g4 a b c d ≠ 0 := by
 intro e
 obtain ⟨d1, d2, d3, -⟩ := g4_dvd a b c d
 rw [e] at d1 d2 d3
 exact h ⟨Int.zero_dvd.1 d1, Int.zero_dvd.1 d2, Int.zero_dvd.1 d3⟩
theorem nrm_ne {p : Pl} (h : nrm p ≠ v0) : ¬ (p.a = 0 ∧ p.b = 0 ∧ p.c = 0) := fun ⟨h1, h2, h3⟩ => h (by unfold nrm v0; rw [h1, h2, h3])
theorem Good.g4 {l : List Pl} (h : Good l) {p : Pl} (hp : p ∈ l) : g4 p.a p.b p.c p.d ≠ 0 := g4_pos' (nrm_ne (h p hp).2)
theorem lowL_good {p : Pl} (h : p.in_ ∧ nrm p ≠ v0) : (lowL p).in_ ∧ nrm (lowL p) ≠ v0 := by
 obtain ⟨⟨⟨h1, h2, h3⟩, h4⟩, h5⟩ := h
 have hg := g4_pos' (d := p.d) (nrm_ne h5)
 obtain ⟨d1, d2, d3, -⟩ := g4_dvd p.a p.b p.c p.d
 refine ⟨⟨⟨tdiv_in h1, tdiv_in h2, tdiv_in h3⟩, tdiv_in h4⟩, fun e => ?_⟩
 unfold nrm v0 lowL at e
 simp only [Vec.mk.injEq] at e
 obtain ⟨e1, e2, e3⟩ := e
 refine nrm_ne h5 ⟨?_, ?_, ?_⟩
 ·have := Int.tdiv_mul_cancel d1; rw [e1] at this; simpa using this.symm
 ·have := Int.tdiv_mul_cancel d2; rw [e2] at this; simpa using this.symm
 ·have := Int.tdiv_mul_cancel d3; rw [e3] at this; simpa using this.symm
theorem opp_good {p : Pl} (h : p.in_ ∧ nrm p ≠ v0) : (opp p).in_ ∧ nrm (opp p) ≠ v0 := by
 obtain ⟨⟨⟨h1, h2, h3⟩, h4⟩, h5⟩ := h
 simp only [nrm] at h1 h2 h3
 refine ⟨⟨⟨?_, ?_, ?_⟩, ?_⟩, fun e => ?_⟩
 ·simp only [nrm, opp]; omega
 ·simp only [nrm, opp]; omega
 ·simp only [nrm, opp]; omega
 ·simp only [opp]; omega
 ·unfold nrm v0 opp at e
  simp only [Vec.mk.injEq] at e
  exact nrm_ne h5 (by omega)
theorem mem_nor {l : List Pl} {cs : List Co} {q : Pl} : q ∈ nor l cs ↔ ∃ p ∈ l, 3 ≤ onN p cs ∧ q = lowL p := by
 unfold nor norL
 rw [srt_mem, List.mem_map]
 constructor
 ·rintro ⟨p, hp, rfl⟩
  rw [List.mem_filter] at hp
  exact ⟨p, hp.1, by simpa using hp.2, rfl⟩
 ·rintro ⟨p, hp, h3, rfl⟩
  exact ⟨p, List.mem_filter.2 ⟨hp, by simpa using h3⟩, rfl⟩
theorem Good.nor {l : List Pl} (h : Good l) (cs : List Co) : Good (nor l cs) := fun q hq => by
 obtain ⟨p, hp, _, rfl⟩ := mem_nor.1 hq
 exact lowL_good (h p hp)
theorem norL_len (l : List Pl) (cs : List Co) : (norL l cs).length ≤ l.length := by unfold norL; rw [List.length_map]; exact List.length_filter_le _ _
theorem nor_len (l : List Pl) (cs : List Co) : (nor l cs).length ≤ l.length := Nat.le_trans (srt_len _) (norL_len _ _)
theorem det_in {p q r : Pl} (hp : p.in_) (hq : q.in_) (hr : r.in_) : -5000 ≤ det p q r ∧ det p q r ≤ 5000 := by
 obtain ⟨c1, c2, c3⟩ := crs_in hp.1 hq.1
 obtain ⟨r1, r2, r3⟩ := hr.1
 have i1 := mul_in c1 r1
 have i2 := mul_in c2 r2
 have i3 := mul_in c3 r3
 unfold det dt
 omega
theorem mtv_in {p q r : Pl} (hp : p.in_) (hq : q.in_) (hr : r.in_) : (mtv p q r).in_ 4000000000 := by
 rw [mtv_add]
 have h0 : (⟨0, 0, 0⟩ : Vec).in_ 0 := by unfold Vec.in_; simp
 exact Vec.in_.mono (addV_in (addV_in (addV_in h0 (crs_in hq.1 hr.1) hp.2) (crs_in hr.1 hp.1) hq.2) (crs_in hp.1 hq.1) hr.2) (by decide)
theorem mt_in {p q r : Pl} (hp : p.in_) (hq : q.in_) (hr : r.in_) : (mt p q r).in_ := by
 obtain ⟨h1, h2, h3⟩ := mtv_in hp hq hr
 have hd := det_in hp hq hr
 unfold mt pnt
 exact ⟨⟨tdiv_in h1, tdiv_in h2, tdiv_in h3⟩, tdiv_in hd⟩
theorem raw_in {l : List Pl} (h : Good l) : ∀ c ∈ raw l, c.in_ := by
 intro c hc
 obtain ⟨i, k, m, hi, hk, hm, h1, h2, rfl⟩ := mem_raw.1 hc
 exact mt_in (h _ (List.getElem_mem _)).1 (h _ (List.getElem_mem _)).1 (h _ (List.getElem_mem _)).1
theorem corn_in {l : List Pl} (h : Good l) : ∀ c ∈ corn l, c.in_ := fun c hc => raw_in h c (mem_corn.1 hc)
theorem ptsR_len (l : List Pl) (p q r : Pl) : (ptsR l p q r).length ≤ 1 := by unfold ptsR; split <;> simp
theorem rawR_len (l : List Pl) (p q : Pl) : ∀ k, (rawR l p q k).length ≤ k := by
 intro k
 induction k with
 | zero => simp [rawR]
 | succ k ih =>
  by_cases hk : k < l.length
  ·rw [rawR_succ hk, List.length_append]
   have := ptsR_len l p q l[k]
   omega
  ·have : rawR l p q (k + 1) = rawR l p q k := by unfold rawR; rw [List.take_of_length_le (by omega), List.take_of_length_le (by omega)]
   rw [this]; omega
theorem rawK_len (l : List Pl) (p : Pl) (n : Nat) : ∀ k, k ≤ n → (rawK l p k).length ≤ k * n := by
 intro k
 induction k with
 | zero => simp [rawK]
 | succ k ih =>
  intro hk
  rw [rawK_succ, List.length_append, Nat.add_mul]
  have := ih (by omega)
  have := rawR_len l p (l.getD k p0) k
  omega
theorem rawI_len (l : List Pl) (n : Nat) : ∀ k, k ≤ n → (rawI l k).length ≤ k * (n * n) := by
 intro k
 induction k with
 | zero => simp [rawI]
 | succ k ih =>
  intro hk
  rw [rawI_succ, List.length_append, Nat.add_mul]
  have := ih (by omega)
  have := rawK_len l (l.getD k p0) n k (by omega)
  have := Nat.mul_le_mul_right n (show k ≤ n by omega)
  omega
theorem raw_len {l : List Pl} {n : Nat} (h : l.length ≤ n) : (raw l).length ≤ n * (n * n) := by
 have := rawI_len l n l.length h
 have := Nat.mul_le_mul_right (n * n) h
 exact Nat.le_trans (by assumption) (by assumption)
theorem corn_len {l : List Pl} {n : Nat} (h : l.length ≤ n) : (corn l).length ≤ n * (n * n) := Nat.le_trans (srt_len _) (raw_len h)
end Go.Proofs.YtgjmfdhgeahdcaaGreat
/- What the document computes of planes is what the program computes (plain). -/
set_option linter.unusedVariables false
set_option linter.unusedSimpArgs false
namespace Go.Proofs.YtgjmfdhgeahdcaaGreat

/-! The document's points: each once, as they are found. -/
section
variable {α : Type} {D : α → Prop} {lt : α → α → Bool}
variable [DecidableEq α]
def addN (o : List α) (c : α) : List α := if c ∈ o then o else o ++ [c]
def ddp (l : List α) : List α := l.foldl addN []
theorem ddp_snoc (l : List α) (c : α) : ddp (l ++ [c]) = addN (ddp l) c := by unfold ddp; rw [List.foldl_append]; rfl
theorem foldl_addN_mem : ∀ {l o : List α} {y : α}, y ∈ l.foldl addN o ↔ y ∈ o ∨ y ∈ l
 | [], o, y => by simp
 | c :: l, o, y => by
  rw [List.foldl_cons, foldl_addN_mem, List.mem_cons]
  unfold addN
  split
  ·rename_i h
   constructor
   ·rintro (h1 | h1)
    ·exact .inl h1
    ·exact .inr (.inr h1)
   ·rintro (h1 | rfl | h1)
    ·exact .inl h1
    ·exact .inl h
    ·exact .inr h1
  ·rw [List.mem_append, List.mem_singleton]
   constructor
   ·rintro ((h1 | h1) | h1)
    ·exact .inl h1
    ·exact .inr (.inl h1)
    ·exact .inr (.inr h1)
   ·rintro (h1 | h1 | h1)
    ·exact .inl (.inl h1)
    ·exact .inl (.inr h1)
    ·exact .inr h1
theorem ddp_mem {l : List α} {y : α} : y ∈ ddp l ↔ y ∈ l := by unfold ddp; rw [foldl_addN_mem]; simp
theorem foldl_addN_nodup : ∀ {l o : List α}, o.Nodup → (l.foldl addN o).Nodup
 | [], o, h => h
 | c :: l, o, h => by
  rw [List.foldl_cons]
  refine foldl_addN_nodup ?_
  unfold addN
  split
  ·exact h
  ·rename_i hc
   exact List.nodup_append.2 ⟨h, by simp, fun a ha b hb => by simp at hb; subst hb; intro e; subst e; exact hc ha⟩
theorem ddp_nodup (l : List α) : (ddp l).Nodup := foldl_addN_nodup List.nodup_nil
theorem foldl_addN_len : ∀ {l o : List α}, (l.foldl addN o).length ≤ o.length + l.length
 | [], o => by simp
 | c :: l, o => by
  rw [List.foldl_cons]
  refine Nat.le_trans foldl_addN_len ?_
  unfold addN
  split <;> simp <;> omega
theorem ddp_len (l : List α) : (ddp l).length ≤ l.length := by have := foldl_addN_len (l := l) (o := []); simpa [ddp] using this
/-- One element put in from ahead, unless it is there. -/
def putF (lt : α → α → Bool) (out : List α) (c : α) : List α := insO lt c out
def sortF (lt : α → α → Bool) (l : List α) : List α := l.foldl (putF lt) []
theorem sortF_snoc (l : List α) (c : α) : sortF lt (l ++ [c]) = insO lt c (sortF lt l) := by unfold sortF; rw [List.foldl_append]; rfl
theorem foldl_putF (O : AscO D lt) : ∀ {l o : List α}, (∀ x ∈ l, D x) → (∀ x ∈ o, D x) → o.Pairwise (fun x y => lt x y = true) →
    (l.foldl (putF lt) o).Pairwise (fun x y => lt x y = true) ∧ (∀ y, y ∈ l.foldl (putF lt) o ↔ y ∈ o ∨ y ∈ l)
 | [], o, _, _, hs => ⟨hs, by simp⟩
 | c :: l, o, hl, ho, hs => by
  rw [List.foldl_cons]
  have hc := hl c List.mem_cons_self
  obtain ⟨h1, h2⟩ := foldl_putF O (l := l) (o := putF lt o c) (fun x hx => hl x (List.mem_cons_of_mem _ hx)) (fun x hx => by
   rcases insO_mem.1 hx with rfl | h
   ·exact hc
   ·exact ho x h) (insO_sorted O hc ho hs)
  refine ⟨h1, fun y => ?_⟩
  rw [h2, show (y ∈ putF lt o c ↔ y = c ∨ y ∈ o) from insO_mem, List.mem_cons]
  constructor
  ·rintro ((h | h) | h)
   ·exact .inr (.inl h)
   ·exact .inl h
   ·exact .inr (.inr h)
  ·rintro (h | h | h)
   ·exact .inl (.inr h)
   ·exact .inl (.inl h)
   ·exact .inr h
theorem sortF_srt (O : AscO D lt) {l : List α} (hD : ∀ x ∈ l, D x) : sortF lt l = srt lt l := by
 obtain ⟨h1, h2⟩ := foldl_putF O hD (fun x hx => by simp at hx) List.Pairwise.nil
 exact srt_of O hD h1 fun x => by have := h2 x; simpa [sortF] using this
/-- Where the document puts it: behind those that stand before it. -/
def fatK (lt : α → α → Bool) (c : α) (l : List α) : Nat := (l.takeWhile (fun x => lt x c)).length
theorem insO_at (O : AscO D lt) {c : α} (hc : D c) : ∀ {l : List α}, (∀ x ∈ l, D x) → l.Pairwise (fun x y => lt x y = true) →
    insO lt c l = if l[fatK lt c l]? = some c then l else l.take (fatK lt c l) ++ [c] ++ l.drop (fatK lt c l)
 | [], _, _ => by simp [insO, fatK]
 | x :: xs, hD, hs => by
  have hx := hD x List.mem_cons_self
  rw [List.pairwise_cons] at hs
  have ih := insO_at O hc (fun y hy => hD y (List.mem_cons_of_mem _ hy)) hs.2
  unfold insO
  by_cases h1 : lt c x = true
  ·rw [if_pos h1]
   have h2 : lt x c = false := by
    cases h : lt x c with
    | false => rfl
    | true => have := O.tr _ _ _ hc hx hc h1 h; rw [O.irr c hc] at this; cases this
   have h3 : x ≠ c := fun e => by subst e; rw [O.irr x hx] at h1; cases h1
   simp [fatK, h2, h3]
  ·rw [if_neg h1]
   by_cases h2 : c = x
   ·subst h2
    have h3 := O.irr c hc
    simp [fatK, h3]
   ·rw [if_neg h2]
    have h3 : lt x c = true := by
     rcases O.tot _ _ hc hx with h | h | h
     ·exact absurd h h1
     ·exact absurd h h2
     ·exact h
    have e : fatK lt c (x :: xs) = fatK lt c xs + 1 := by simp [fatK, h3]
    rw [e, List.getElem?_cons_succ, List.take_succ_cons, List.drop_succ_cons, ih]
    split <;> simp
end
/-! The corners, the normal forms. -/
def refP (l : List Pl) : List Co := ddp (raw l)
theorem mem_refP {l : List Pl} {c : Co} : c ∈ refP l ↔ c ∈ corn l := by unfold refP; rw [ddp_mem, mem_corn]
theorem perm_refP (l : List Pl) : (refP l).Perm (corn l) := by
 refine (List.perm_ext_iff_of_nodup (ddp_nodup _) ?_).2 fun c => mem_refP
 refine (corn_asc l).imp_of_mem ?_
 intro a b ha hb h e
 subst e
 rw [ordP.irr a (corn_low a ha)] at h; cases h
theorem any_refP {l : List Pl} (f : Co → Bool) : (refP l).any f = (corn l).any f := by
 rw [Bool.eq_iff_iff]
 simp only [List.any_eq_true, mem_refP]
theorem all_refP {l : List Pl} (f : Co → Bool) : (refP l).all f = (corn l).all f := by
 rw [Bool.eq_iff_iff]
 simp only [List.all_eq_true, mem_refP]
theorem onN_refP (p : Pl) (l : List Pl) : onN p (refP l) = onN p (corn l) := ((perm_refP l).filter _).length_eq
theorem nor_ref (m l : List Pl) : sortF ltL (norL m (refP l)) = nor m (corn l) := by
 rw [sortF_srt ordL fun _ _ => trivial]
 unfold nor norL
 simp only [onN_refP]
/-! Whether planes bound. -/
theorem crs_swap (v w : Vec) : crs w v = ⟨-(crs v w).x, -(crs v w).y, -(crs v w).z⟩ := by
 unfold crs; simp only [Vec.mk.injEq]; refine ⟨?_, ?_, ?_⟩ <;> grind
theorem det_swap12 (p q r : Pl) : det q p r = -det p q r := by unfold det dt crs nrm; simp only; grind
theorem det_swap23 (p q r : Pl) : det p r q = -det p q r := by unfold det dt crs nrm; simp only; grind
theorem det_self12 (p r : Pl) : det p p r = 0 := by unfold det dt crs nrm; simp only; grind
theorem det_self13 (p q : Pl) : det p q p = 0 := by unfold det dt crs nrm; simp only; grind
theorem det_self23 (p q : Pl) : det p q q = 0 := by unfold det dt crs nrm; simp only; grind
def negV (v : Vec) : Vec := ⟨-v.x, -v.y, -v.z⟩
theorem dt_neg (v w : Vec) : dt v (negV w) = -dt v w := by unfold dt negV; simp only; grind
theorem dt_comm (v w : Vec) : dt v w = dt w v := by unfold dt; grind
def rayB (l : List Pl) (v : Vec) : Bool := (l.all fun p => decide (¬ 0 < dt (nrm p) v)) && decide (v ≠ v0)
theorem ray_abov {l : List Pl} {v : Vec} (h : v ≠ v0) : rayB l v = !abov l v := by
 unfold rayB abov
 simp only [h, ne_eq, not_false_eq_true, decide_true, Bool.and_true]
 rw [Bool.eq_iff_iff]
 simp only [List.all_eq_true, decide_eq_true_eq, Bool.not_eq_true', List.any_eq_false]
 exact forall_congr' fun p => forall_congr' fun _ => by rw [dt_comm]
theorem neg_ne {v : Vec} (h : v ≠ v0) : negV v ≠ v0 := by
 intro e; apply h
 cases v
 unfold negV v0 at *
 simp only [Vec.mk.injEq] at *
 omega
theorem ray_belo {l : List Pl} {v : Vec} (h : v ≠ v0) : rayB l (negV v) = !belo l v := by
 unfold rayB belo
 simp only [neg_ne h, ne_eq, not_false_eq_true, decide_true, Bool.and_true]
 rw [Bool.eq_iff_iff]
 simp only [List.all_eq_true, decide_eq_true_eq, Bool.not_eq_true', List.any_eq_false]
 exact forall_congr' fun p => forall_congr' fun _ => by rw [dt_neg, dt_comm]; omega
theorem ray_zero (l : List Pl) : rayB l v0 = false := by unfold rayB; simp
def detM (l : List Pl) (v : Vec) (k : Nat) : Bool := (l.take k).any fun r => decide (dt v (nrm r) ≠ 0)
/-- The document's pairs: no ray along any; a third plane across any. -/
def pairB (l : List Pl) (v : Vec) : Bool := !(rayB l v || rayB l (negV v))
def fulK (l : List Pl) (p : Pl) (i : Nat) : Bool := (List.range i).any fun k => detM l (crs (nrm p) (nrm (l.getD k p0))) k
def fulI (l : List Pl) (n : Nat) : Bool := (List.range n).any fun i => fulK l (l.getD i p0) i
def okK (l : List Pl) (p : Pl) (i : Nat) : Bool := (List.range i).all fun k => pairB l (crs (nrm p) (nrm (l.getD k p0)))
def okI (l : List Pl) (n : Nat) : Bool := (List.range n).all fun i => okK l (l.getD i p0) i
def refBoun (l : List Pl) : Bool := okI l l.length && fulI l l.length
theorem mem_crsI {l : List Pl} {v : Vec} : v ∈ crsI l l.length ↔ ∃ i k, ∃ (hi : i < l.length) (hk : k < i), crs (nrm l[i]) (nrm l[k]) ≠ v0 ∧ v = crs (nrm l[i]) (nrm l[k]) := by
 unfold crsI crsK
 simp only [List.mem_flatMap, List.mem_range]
 constructor
 ·rintro ⟨i, hi, k, hk, hv⟩
  rw [getD_at hi, getD_at (by omega)] at hv
  split at hv
  ·simp at hv
  ·rename_i h; simp at hv; exact ⟨i, k, hi, hk, h, hv⟩
 ·rintro ⟨i, k, hi, hk, h, rfl⟩
  refine ⟨i, hi, k, hk, ?_⟩
  rw [getD_at hi, getD_at (by omega), if_neg h]; simp
theorem okI_iff {l : List Pl} : okI l l.length = true ↔ ∀ v ∈ crsI l l.length, abov l v = true ∧ belo l v = true := by
 unfold okI okK
 simp only [List.all_eq_true, List.mem_range]
 constructor
 ·intro h v hv
  obtain ⟨i, k, hi, hk, h0, rfl⟩ := mem_crsI.1 hv
  have := h i hi k hk
  rw [getD_at hi, getD_at (by omega)] at this
  unfold pairB at this
  rw [ray_abov h0, ray_belo h0] at this
  simpa using this
 ·intro h i hi k hk
  rw [getD_at hi, getD_at (by omega)]
  unfold pairB
  by_cases h0 : crs (nrm l[i]) (nrm l[k]) = v0
  ·rw [h0, ray_zero, show negV v0 = v0 from rfl, ray_zero]; rfl
  ·rw [ray_abov h0, ray_belo h0]
   have := h _ (mem_crsI.2 ⟨i, k, hi, hk, h0, rfl⟩)
   simp [this]
theorem fulI_iff {l : List Pl} : fulI l l.length = true ↔ ∃ i k m, ∃ (hi : i < l.length) (hk : k < i) (hm : m < k), det l[i] l[k] l[m] ≠ 0 := by
 unfold fulI fulK detM
 simp only [List.any_eq_true, List.mem_range]
 constructor
 ·rintro ⟨i, hi, k, hk, r, hr, h⟩
  obtain ⟨m, hm, rfl⟩ := List.mem_iff_getElem.1 hr
  have hm' : m < k := by simp at hm; omega
  rw [getD_at hi, getD_at (by omega), List.getElem_take] at h
  exact ⟨i, k, m, hi, hk, hm', by simpa [det] using h⟩
 ·rintro ⟨i, k, m, hi, hk, hm, h⟩
  refine ⟨i, hi, k, hk, l[m], List.mem_iff_getElem.2 ⟨m, by simp; omega, by simp⟩, ?_⟩
  rw [getD_at hi, getD_at (by omega)]
  simpa [det] using h
theorem crs_zero_det {p q : Pl} (r : Pl) (h : crs (nrm p) (nrm q) = v0) : det p q r = 0 := by unfold det; rw [h]; unfold dt v0; simp
/-- Three places with independent normals, in any order: in descending order too. -/
theorem det_order {l : List Pl} {i k m : Nat} (hi : i < l.length) (hk : k < i) (hm : m < l.length) (h : det l[i] l[k] l[m] ≠ 0) : fulI l l.length = true := by
 rw [fulI_iff]
 have hkl : k < l.length := by omega
 rcases Nat.lt_trichotomy m k with h1 | h1 | h1
 ·exact ⟨i, k, m, hi, hk, h1, h⟩
 ·subst h1; exact absurd (det_self23 _ _) h
 ·rcases Nat.lt_trichotomy m i with h2 | h2 | h2
  ·refine ⟨i, m, k, hi, h2, h1, ?_⟩
   rw [det_swap23]; omega
  ·subst h2; exact absurd (det_self13 _ _) h
  ·refine ⟨m, i, k, hm, h2, hk, ?_⟩
   have e1 := det_swap12 l[i] l[m] l[k]
   have e2 := det_swap23 l[i] l[k] l[m]
   omega
theorem refBoun_eq (l : List Pl) : refBoun l = bounM l := by
 unfold refBoun bounM
 rw [Bool.eq_iff_iff]
 simp only [Bool.and_eq_true, okI_iff, List.all_eq_true, decide_eq_true_eq]
 refine and_congr_right fun hall => ?_
 constructor
 ·intro hf e
  obtain ⟨i, k, m, hi, hk, hm, h⟩ := fulI_iff.1 hf
  have : crs (nrm l[i]) (nrm l[k]) ∈ crsI l l.length := mem_crsI.2 ⟨i, k, hi, hk, fun h0 => h (crs_zero_det _ h0), rfl⟩
  rw [e] at this
  simp at this
 ·intro hne
  obtain ⟨v, hv⟩ := List.exists_mem_of_ne_nil _ hne
  obtain ⟨i, k, hi, hk, h0, rfl⟩ := mem_crsI.1 hv
  have ha := (hall _ hv).1
  unfold abov at ha
  rw [List.any_eq_true] at ha
  obtain ⟨r, hr, hd⟩ := ha
  obtain ⟨m, hm, rfl⟩ := List.mem_iff_getElem.1 hr
  refine det_order hi hk hm ?_
  have : 0 < det l[i] l[k] l[m] := by simpa [det] using hd
  omega
end Go.Proofs.YtgjmfdhgeahdcaaGreat
/- Convex bodies: along a direction to the first plane, and so to a corner that lies at least as far (plain). -/
set_option linter.unusedVariables false
set_option linter.unusedSimpArgs false
namespace Go.Proofs.YtgjmfdhgeahdcaaGreat

/-- How far a point lies beyond a plane, times its denominator. -/
def EE (p : Pl) (c : Co) : Int := dt (nrm p) (vec c) - p.d * c.n
theorem sd_neg {p : Pl} {c : Co} : sd p c < 0 ↔ EE p c < 0 := by unfold sd EE; rw [cmpI_neg]; omega
theorem sd_zero {p : Pl} {c : Co} : sd p c = 0 ↔ EE p c = 0 := by unfold sd EE; rw [cmpI_zero]; omega
theorem sd_pos {p : Pl} {c : Co} : 0 < sd p c ↔ 0 < EE p c := by
 have h1 := sd_neg (p := p) (c := c)
 have h2 := sd_zero (p := p) (c := c)
 omega
theorem alw_iff {l : List Pl} {c : Co} : alw l c = true ↔ ∀ p ∈ l, EE p c ≤ 0 := by
 unfold alw
 rw [List.all_eq_true]
 refine forall_congr' fun p => forall_congr' fun _ => ?_
 have := sd_pos (p := p) (c := c)
 simp only [decide_eq_true_eq]
 omega
/-- A point of a body. -/
def InB (l : List Pl) (c : Co) : Prop := 0 < c.n ∧ ∀ p ∈ l, EE p c ≤ 0
/-- A point moved. -/
def mv (k : Int) (c : Co) (m : Int) (v : Vec) : Co := ⟨k * c.x + m * v.x, k * c.y + m * v.y, k * c.z + m * v.z, k * c.n⟩
theorem EE_mv (p : Pl) (k : Int) (c : Co) (m : Int) (v : Vec) : EE p (mv k c m v) = k * EE p c + m * dt (nrm p) v := by
 unfold EE mv dt vec nrm; simp only; grind
/-- The least of some fractions. -/
theorem min_frac {α : Type} (s t : α → Int) : ∀ l : List α, (∃ q ∈ l, 0 < t q) → ∃ q ∈ l, 0 < t q ∧ ∀ p ∈ l, 0 < t p → s q * t p ≤ s p * t q
 | [], ⟨q, hq, _⟩ => absurd hq (by simp)
 | x :: l, h => by
  by_cases hl : ∃ q ∈ l, 0 < t q
  ·obtain ⟨q, hq, hq0, hm⟩ := min_frac s t l hl
   by_cases hx : 0 < t x ∧ s x * t q < s q * t x
   ·refine ⟨x, List.mem_cons_self, hx.1, fun p hp hp0 => ?_⟩
    rcases List.mem_cons.1 hp with rfl | hp
    ·exact Int.le_refl _
    ·have h1 := hm p hp hp0
     have h2 := Int.mul_le_mul_of_nonneg_right (Int.le_of_lt hx.2) (Int.le_of_lt hp0)
     have h3 := Int.mul_le_mul_of_nonneg_right h1 (Int.le_of_lt hx.1)
     refine Int.le_of_mul_le_mul_right ?_ hq0
     calc s x * t p * t q = s x * t q * t p := by grind
      _ ≤ s q * t x * t p := h2
      _ = s q * t p * t x := by grind
      _ ≤ s p * t q * t x := h3
      _ = s p * t x * t q := by grind
   ·refine ⟨q, List.mem_cons_of_mem _ hq, hq0, fun p hp hp0 => ?_⟩
    rcases List.mem_cons.1 hp with rfl | hp
    ·have : ¬ (s p * t q < s q * t p) := fun h => hx ⟨hp0, h⟩
     omega
    ·exact hm p hp hp0
  ·obtain ⟨q, hq, hq0⟩ := h
   rcases List.mem_cons.1 hq with rfl | hq
   ·refine ⟨q, List.mem_cons_self, hq0, fun p hp hp0 => ?_⟩
    rcases List.mem_cons.1 hp with rfl | hp
    ·exact Int.le_refl _
    ·exact absurd ⟨p, hp, hp0⟩ hl
   ·exact absurd ⟨q, hq, hq0⟩ hl
/-- Along a direction to the first plane that stops it. -/
theorem move_to {l : List Pl} {c : Co} (hc : InB l c) {v : Vec} (hv : ∃ q ∈ l, 0 < dt (nrm q) v) :
    ∃ q ∈ l, 0 < dt (nrm q) v ∧ ∃ k m : Int, 0 < k ∧ 0 ≤ m ∧ InB l (mv k c m v) ∧ EE q (mv k c m v) = 0 := by
 obtain ⟨q, hq, hq0, hm⟩ := min_frac (fun p => -EE p c) (fun p => dt (nrm p) v) l hv
 have hqc := hc.2 q hq
 refine ⟨q, hq, hq0, dt (nrm q) v, -EE q c, hq0, by omega, ⟨?_, fun p hp => ?_⟩, ?_⟩
 ·exact Int.mul_pos hq0 hc.1
 ·rw [EE_mv]
  have h1 := hc.2 p hp
  by_cases h0 : 0 < dt (nrm p) v
  ·have h2 := hm p hp h0
   grind
  ·have h2 := Int.mul_nonneg (show 0 ≤ dt (nrm q) v by omega) (show 0 ≤ -EE p c by omega)
   have h3 := Int.mul_nonneg (show 0 ≤ -EE q c by omega) (show 0 ≤ -dt (nrm p) v by omega)
   grind
 ·rw [EE_mv]; grind
/-- No direction is free. -/
def NoRay (l : List Pl) : Prop := ∀ v : Vec, v ≠ v0 → ∃ q ∈ l, 0 < dt (nrm q) v
/-- A vector at right angles. -/
theorem ortho {a : Vec} : ∃ v : Vec, v ≠ v0 ∧ dt a v = 0 := by
 by_cases h : a.x = 0
 ·refine ⟨⟨1, 0, 0⟩, by unfold v0; simp, by unfold dt; simp [h]⟩
 ·refine ⟨⟨-a.y, a.x, 0⟩, fun e => ?_, by unfold dt; simp only; grind⟩
  unfold v0 at e; simp only [Vec.mk.injEq] at e; exact h e.2.1
def FarLe (F : Pl) (c' c : Co) : Prop := EE F c' * c.n ≤ EE F c * c'.n
theorem FarLe.trans {F : Pl} {a b c : Co} (ha : 0 < a.n) (hb : 0 < b.n) (hc : 0 < c.n) (h1 : FarLe F a b) (h2 : FarLe F b c) : FarLe F a c := by
 unfold FarLe at *
 have k1 := Int.mul_le_mul_of_nonneg_right h1 (Int.le_of_lt hc)
 have k2 := Int.mul_le_mul_of_nonneg_right h2 (Int.le_of_lt ha)
 refine Int.le_of_mul_le_mul_right ?_ hb
 grind
theorem far_mv {F : Pl} {c : Co} {k m : Int} {v : Vec} (hn : 0 < c.n) (hm : 0 ≤ m) (hf : dt (nrm F) v ≤ 0) : FarLe F (mv k c m v) c := by
 unfold FarLe
 rw [EE_mv]
 have h1 := Int.mul_nonneg (Int.mul_nonneg hm (show 0 ≤ -dt (nrm F) v by omega)) (Int.le_of_lt hn)
 have : (mv k c m v).n = k * c.n := rfl
 rw [this]
 grind
theorem dt_negV (a v : Vec) : dt a (negV v) = -dt a v := dt_neg a v
/-- From a point of a body, at right angles to some normals, to a further plane that is tight. -/
theorem step_tight {l : List Pl} (hl : NoRay l) {c : Co} (hc : InB l c) (F : Pl) {v : Vec} (hv : v ≠ v0) :
    ∃ c', InB l c' ∧ FarLe F c' c ∧ (∃ q ∈ l, dt (nrm q) v ≠ 0 ∧ EE q c' = 0) ∧ ∀ p : Pl, EE p c = 0 → dt (nrm p) v = 0 → EE p c' = 0 := by
 have key : ∀ u : Vec, u ≠ v0 → dt (nrm F) u ≤ 0 → ∃ c', InB l c' ∧ FarLe F c' c ∧ (∃ q ∈ l, dt (nrm q) u ≠ 0 ∧ EE q c' = 0) ∧ ∀ p : Pl, EE p c = 0 → dt (nrm p) u = 0 → EE p c' = 0 := by
  intro u hu hF
  obtain ⟨q, hq, hq0, k, m, hk, hm, hin, ht⟩ := move_to hc (hl u hu)
  refine ⟨_, hin, far_mv hc.1 hm hF, ⟨q, hq, by omega, ht⟩, fun p hp hpv => ?_⟩
  rw [EE_mv, hp, hpv]; simp
 by_cases hF : dt (nrm F) v ≤ 0
 ·exact key v hv hF
 ·obtain ⟨c', h1, h2, ⟨q, hq, h3, h4⟩, h5⟩ := key (negV v) (neg_ne hv) (by rw [dt_negV]; omega)
  refine ⟨c', h1, h2, ⟨q, hq, fun e => h3 (by rw [dt_negV, e]; rfl), h4⟩, fun p hp hpv => h5 p hp (by rw [dt_negV, hpv]; rfl)⟩
theorem crs_dt1 (a b : Vec) : dt a (crs a b) = 0 := by unfold dt crs; simp only; grind
theorem crs_dt2 (a b : Vec) : dt b (crs a b) = 0 := by unfold dt crs; simp only; grind
theorem crs_zero_mul {a b v : Vec} (h : crs a b = v0) (hv : dt a v = 0) : ∀ i, a.at_ i * dt b v = 0 := by
 unfold crs v0 at h
 simp only [Vec.mk.injEq] at h
 obtain ⟨h1, h2, h3⟩ := h
 unfold dt at *
 intro i
 match i with
 | 0 => show a.x * _ = 0; grind
 | 1 => show a.y * _ = 0; grind
 | i + 2 => show a.z * _ = 0; grind
theorem crs_ne {a b v : Vec} (ha : a ≠ v0) (hv : dt a v = 0) (hb : dt b v ≠ 0) : crs a b ≠ v0 := by
 intro h
 have h1 := crs_zero_mul h hv
 apply ha
 have e0 := (Int.mul_eq_zero.1 (h1 0)).resolve_right hb
 have e1 := (Int.mul_eq_zero.1 (h1 1)).resolve_right hb
 have e2 := (Int.mul_eq_zero.1 (h1 2)).resolve_right hb
 cases a
 unfold v0
 simp only [Vec.at_] at e0 e1 e2
 simp only [Vec.mk.injEq]
 exact ⟨e0, e1, e2⟩
/-- THE CORNER: at least as far along a plane as any point of a bounded body, there is a point on three planes with independent normals. -/
theorem corner_far {l : List Pl} (hl : NoRay l) {c : Co} (hc : InB l c) (F : Pl) :
    ∃ c', InB l c' ∧ FarLe F c' c ∧ ∃ p ∈ l, ∃ q ∈ l, ∃ r ∈ l, det p q r ≠ 0 ∧ EE p c' = 0 ∧ EE q c' = 0 ∧ EE r c' = 0 := by
 obtain ⟨c1, i1, f1, ⟨p, hp, hpn, hp0⟩, -⟩ := step_tight hl hc F (v := ⟨1, 0, 0⟩) (by unfold v0; simp)
 have hpne : nrm p ≠ v0 := fun e => hpn (by rw [e]; unfold dt v0; simp)
 obtain ⟨v, hv, hpv⟩ := ortho (a := nrm p)
 obtain ⟨c2, i2, f2, ⟨q, hq, hqn, hq0⟩, k2⟩ := step_tight hl i1 F hv
 have hp1 := k2 p hp0 hpv
 have hcr := crs_ne hpne hpv hqn
 obtain ⟨c3, i3, f3, ⟨r, hr, hrn, hr0⟩, k3⟩ := step_tight hl i2 F hcr
 refine ⟨c3, i3, (f3.trans i3.1 i2.1 i1.1 f2).trans i3.1 i1.1 hc.1 f1, p, hp, q, hq, r, hr, ?_, k3 p hp1 (crs_dt1 _ _), k3 q hq0 (crs_dt2 _ _), hr0⟩
 unfold det
 rw [dt_comm]; exact hrn
/-! A corner is the point of its planes. -/
theorem mt_spec {p q r : Pl} (h : det p q r ≠ 0) : ∃ g : Int, g ≠ 0 ∧ (mtv p q r).x = (mt p q r).x * g ∧ (mtv p q r).y = (mt p q r).y * g ∧ (mtv p q r).z = (mt p q r).z * g ∧ det p q r = (mt p q r).n * g := by
 obtain ⟨g, hg, h1, h2, h3, h4, _⟩ := pnt_spec (v := mtv p q r) h
 exact ⟨g, hg, h1, h2, h3, h4⟩
theorem mtv_dt (p q r : Pl) : dt (nrm p) (mtv p q r) = p.d * det p q r ∧ dt (nrm q) (mtv p q r) = q.d * det p q r ∧ dt (nrm r) (mtv p q r) = r.d * det p q r := by
 unfold dt mtv det dt crs nrm; simp only
 refine ⟨?_, ?_, ?_⟩ <;> grind
theorem EE_scale {s : Pl} {v : Vec} {d g : Int} {c : Co} (hg : g ≠ 0) (h1 : v.x = c.x * g) (h2 : v.y = c.y * g) (h3 : v.z = c.z * g) (h4 : d = c.n * g) (h : dt (nrm s) v = s.d * d) : EE s c = 0 := by
 have : EE s c * g = 0 := by
  unfold EE; unfold dt at *; simp only [vec]; rw [h1, h2, h3, h4] at h; grind
 exact (Int.mul_eq_zero.1 this).resolve_right hg
theorem mt_tight {p q r : Pl} (h : det p q r ≠ 0) : EE p (mt p q r) = 0 ∧ EE q (mt p q r) = 0 ∧ EE r (mt p q r) = 0 := by
 obtain ⟨g, hg, h1, h2, h3, h4⟩ := mt_spec h
 obtain ⟨e1, e2, e3⟩ := mtv_dt p q r
 exact ⟨EE_scale hg h1 h2 h3 h4 e1, EE_scale hg h1 h2 h3 h4 e2, EE_scale hg h1 h2 h3 h4 e3⟩
/-- Points on three planes with independent normals are the same point. -/
theorem tight_same {p q r : Pl} (h : det p q r ≠ 0) {a b : Co} (a1 : EE p a = 0) (a2 : EE q a = 0) (a3 : EE r a = 0) (b1 : EE p b = 0) (b2 : EE q b = 0) (b3 : EE r b = 0) :
    a.x * b.n = b.x * a.n ∧ a.y * b.n = b.y * a.n ∧ a.z * b.n = b.z * a.n := by
 have key : ∀ c : Co, EE p c = 0 → EE q c = 0 → EE r c = 0 → c.x * det p q r = (mtv p q r).x * c.n ∧ c.y * det p q r = (mtv p q r).y * c.n ∧ c.z * det p q r = (mtv p q r).z * c.n := by
  intro c h1 h2 h3
  unfold EE dt nrm vec at h1 h2 h3
  simp only at h1 h2 h3
  unfold mtv det dt crs nrm; simp only
  refine ⟨?_, ?_, ?_⟩ <;> grind
 obtain ⟨k1, k2, k3⟩ := key a a1 a2 a3
 obtain ⟨m1, m2, m3⟩ := key b b1 b2 b3
 refine ⟨?_, ?_, ?_⟩ <;> refine Int.eq_of_mul_eq_mul_right h ?_ <;> grind
theorem EE_prop {s : Pl} {a b : Co} (hx : a.x * b.n = b.x * a.n) (hy : a.y * b.n = b.y * a.n) (hz : a.z * b.n = b.z * a.n) : EE s a * b.n = EE s b * a.n := by
 unfold EE dt nrm vec; simp only; grind
theorem det_index {l : List Pl} {p q r : Pl} (hp : p ∈ l) (hq : q ∈ l) (hr : r ∈ l) (h : det p q r ≠ 0) {P : Pl → Prop} (Pp : P p) (Pq : P q) (Pr : P r) :
    ∃ i k m, ∃ (hi : i < l.length) (hk : k < i) (hm : m < k), det l[i] l[k] l[m] ≠ 0 ∧ P l[i] ∧ P l[k] ∧ P l[m] := by
 obtain ⟨i, hi, rfl⟩ := List.mem_iff_getElem.1 hp
 obtain ⟨k, hk, rfl⟩ := List.mem_iff_getElem.1 hq
 obtain ⟨m, hm, rfl⟩ := List.mem_iff_getElem.1 hr
 have n1 : i ≠ k := fun e => by subst e; exact h (det_self12 _ _)
 have n2 : i ≠ m := fun e => by subst e; exact h (det_self13 _ _)
 have n3 : k ≠ m := fun e => by subst e; exact h (det_self23 _ _)
 have e1 := det_swap12 l[i] l[k] l[m]
 have e2 := det_swap23 l[i] l[k] l[m]
 have e3 := det_swap23 l[k] l[i] l[m]
 have e4 := det_swap12 l[i] l[m] l[k]
 have e5 := det_swap23 l[m] l[i] l[k]
 by_cases c1 : k < i
 ·by_cases c2 : m < k
  ·exact ⟨i, k, m, hi, c1, c2, h, Pp, Pq, Pr⟩
  ·by_cases c3 : m < i
   ·exact ⟨i, m, k, hi, c3, by omega, by omega, Pp, Pr, Pq⟩
   ·exact ⟨m, i, k, hm, by omega, c1, by omega, Pr, Pp, Pq⟩
 ·by_cases c2 : m < i
  ·exact ⟨k, i, m, hk, by omega, c2, by omega, Pq, Pp, Pr⟩
  ·by_cases c3 : m < k
   ·exact ⟨k, m, i, hk, c3, by omega, by omega, Pq, Pr, Pp⟩
   ·exact ⟨m, k, i, hm, by omega, by omega, by omega, Pr, Pq, Pp⟩
/-- The corners of planes: points in lowest form beyond none, on three with independent normals. -/
theorem mem_corn_iff {l : List Pl} {c : Co} : c ∈ corn l ↔ Low c ∧ (∀ p ∈ l, EE p c ≤ 0) ∧ ∃ p ∈ l, ∃ q ∈ l, ∃ r ∈ l, det p q r ≠ 0 ∧ EE p c = 0 ∧ EE q c = 0 ∧ EE r c = 0 := by
 rw [mem_corn, mem_raw]
 constructor
 ·rintro ⟨i, k, m, hi, hk, hm, h1, h2, rfl⟩
  obtain ⟨t1, t2, t3⟩ := mt_tight h1
  exact ⟨mt_low h1, alw_iff.1 h2, _, List.getElem_mem _, _, List.getElem_mem _, _, List.getElem_mem _, h1, t1, t2, t3⟩
 ·rintro ⟨hlow, hin, p, hp, q, hq, r, hr, h, t1, t2, t3⟩
  obtain ⟨i, k, m, hi, hk, hm, h1, u1, u2, u3⟩ := det_index hp hq hr h (P := fun s => EE s c = 0) t1 t2 t3
  obtain ⟨v1, v2, v3⟩ := mt_tight h1
  obtain ⟨x1, x2, x3⟩ := tight_same h1 u1 u2 u3 v1 v2 v3
  have e := low_same hlow (mt_low h1) x1 x2 x3
  refine ⟨i, k, m, hi, hk, hm, h1, ?_, e⟩
  rw [← e]; exact alw_iff.2 hin
theorem corn_inB {l : List Pl} {c : Co} (h : c ∈ corn l) : InB l c := ⟨(corn_low c h).pos, (mem_corn_iff.1 h).2.1⟩
/-- Of a bounded body a corner lies at least as far along a plane as any of its points. -/
theorem corn_far {l : List Pl} (hl : NoRay l) {c : Co} (hc : InB l c) (F : Pl) : ∃ c' ∈ corn l, FarLe F c' c := by
 obtain ⟨a, ha, hf, p, hp, q, hq, r, hr, h, t1, t2, t3⟩ := corner_far hl hc F
 obtain ⟨u1, u2, u3⟩ := mt_tight h
 obtain ⟨x1, x2, x3⟩ := tight_same h t1 t2 t3 u1 u2 u3
 have hlow := mt_low h
 have hEE : ∀ s, EE s a * (mt p q r).n = EE s (mt p q r) * a.n := fun s => EE_prop x1 x2 x3
 have hpos := hlow.pos
 have hin : ∀ s ∈ l, EE s (mt p q r) ≤ 0 := fun s hs => by
  have h1 := ha.2 s hs
  have h2 := Int.mul_nonneg (show 0 ≤ -EE s a by omega) (Int.le_of_lt hpos)
  have h3 := hEE s
  have h4 : EE s (mt p q r) * a.n ≤ 0 * a.n := by rw [← h3]; grind
  exact Int.le_of_mul_le_mul_right h4 ha.1
 refine ⟨mt p q r, mem_corn_iff.2 ⟨hlow, hin, p, hp, q, hq, r, hr, h, u1, u2, u3⟩, ?_⟩
 unfold FarLe at *
 have h1 := hEE F
 refine Int.le_of_mul_le_mul_right (a := a.n) ?_ ha.1
 have h2 := Int.mul_le_mul_of_nonneg_right hf (Int.le_of_lt hpos)
 have e1 : EE F (mt p q r) * c.n * a.n = EE F a * (mt p q r).n * c.n := by rw [h1]; grind
 rw [e1]
 grind
/-! Planes that bound. -/
theorem full_zero {p q r : Pl} (h : det p q r ≠ 0) {v : Vec} (h1 : dt (nrm p) v = 0) (h2 : dt (nrm q) v = 0) (h3 : dt (nrm r) v = 0) : v = v0 := by
 have e1 : v.x * det p q r = 0 := by unfold det dt crs nrm; unfold dt nrm at h1 h2 h3; simp only at *; grind
 have e2 : v.y * det p q r = 0 := by unfold det dt crs nrm; unfold dt nrm at h1 h2 h3; simp only at *; grind
 have e3 : v.z * det p q r = 0 := by unfold det dt crs nrm; unfold dt nrm at h1 h2 h3; simp only at *; grind
 have z1 := (Int.mul_eq_zero.1 e1).resolve_right h
 have z2 := (Int.mul_eq_zero.1 e2).resolve_right h
 have z3 := (Int.mul_eq_zero.1 e3).resolve_right h
 cases v; unfold v0; simp only at z1 z2 z3; simp only [Vec.mk.injEq]; exact ⟨z1, z2, z3⟩
theorem full_some {l : List Pl} (hf : fulI l l.length = true) {v : Vec} (hv : v ≠ v0) : ∃ p ∈ l, dt (nrm p) v ≠ 0 := by
 obtain ⟨i, k, m, hi, hk, hm, h⟩ := fulI_iff.1 hf
 by_cases h1 : dt (nrm l[i]) v = 0
 ·by_cases h2 : dt (nrm l[k]) v = 0
  ·exact ⟨_, List.getElem_mem (show m < l.length by omega), fun h3 => hv (full_zero h h1 h2 h3)⟩
  ·exact ⟨_, List.getElem_mem (show k < l.length by omega), h2⟩
 ·exact ⟨_, List.getElem_mem hi, h1⟩
def addW (k : Int) (v : Vec) (m : Int) (u : Vec) : Vec := ⟨k * v.x + m * u.x, k * v.y + m * u.y, k * v.z + m * u.z⟩
theorem dt_addW (a : Vec) (k : Int) (v : Vec) (m : Int) (u : Vec) : dt a (addW k v m u) = k * dt a v + m * dt a u := by unfold dt addW; simp only; grind
/-- Within the free directions, turned towards another one until a plane stops it. -/
theorem turn_tight {l : List Pl} {v u : Vec} (hv : ∀ p ∈ l, dt (nrm p) v ≤ 0) (hu : ∃ p ∈ l, dt (nrm p) u ≠ 0) (hi : crs v u ≠ v0) :
    ∃ w, w ≠ v0 ∧ (∀ p ∈ l, dt (nrm p) w ≤ 0) ∧ (∃ q ∈ l, dt (nrm q) w = 0 ∧ dt (nrm q) u ≠ 0) ∧ ∀ a, dt a v = 0 → dt a u = 0 → dt a w = 0 := by
 have key : ∀ s : Vec, crs v s ≠ v0 → (∃ p ∈ l, 0 < dt (nrm p) s) → ∃ w, w ≠ v0 ∧ (∀ p ∈ l, dt (nrm p) w ≤ 0) ∧ (∃ q ∈ l, dt (nrm q) w = 0 ∧ dt (nrm q) s ≠ 0) ∧ ∀ a, dt a v = 0 → dt a s = 0 → dt a w = 0 := by
  intro s hi hs
  obtain ⟨q, hq, hq0, hm⟩ := min_frac (fun p => -dt (nrm p) v) (fun p => dt (nrm p) s) l hs
  refine ⟨addW (dt (nrm q) s) v (-dt (nrm q) v) s, fun e => ?_, fun p hp => ?_, ⟨q, hq, ?_, by omega⟩, fun a h1 h2 => ?_⟩
  ·have e1 : crs (addW (dt (nrm q) s) v (-dt (nrm q) v) s) s = v0 := by rw [e]; unfold crs v0; simp
   have e2 : ∀ i, (crs (addW (dt (nrm q) s) v (-dt (nrm q) v) s) s).at_ i = dt (nrm q) s * (crs v s).at_ i := by
    intro i
    match i with
    | 0 => simp only [Vec.at_, crs, addW]; grind
    | 1 => simp only [Vec.at_, crs, addW]; grind
    | i + 2 => simp only [Vec.at_, crs, addW]; grind
   apply hi
   have z : ∀ i, (crs v s).at_ i = 0 := fun i => by
    have := e2 i
    rw [e1] at this
    have h0 : v0.at_ i = 0 := by match i with | 0 => rfl | 1 => rfl | i + 2 => rfl
    rw [h0] at this
    exact (Int.mul_eq_zero.1 this.symm).resolve_left (by omega)
   have z0 := z 0
   have z1 := z 1
   have z2 := z 2
   generalize crs v s = t at *
   cases t
   simp only [Vec.at_] at z0 z1 z2
   unfold v0; simp only [Vec.mk.injEq]; exact ⟨z0, z1, z2⟩
  ·rw [dt_addW]
   have h1 := hv p hp
   have h2 := hv q hq
   by_cases h0 : 0 < dt (nrm p) s
   ·have h3 := hm p hp h0
    grind
   ·have h3 := Int.mul_nonneg (show 0 ≤ dt (nrm q) s by omega) (show 0 ≤ -dt (nrm p) v by omega)
    have h4 := Int.mul_nonneg (show 0 ≤ -dt (nrm q) v by omega) (show 0 ≤ -dt (nrm p) s by omega)
    grind
  ·rw [dt_addW]; grind
  ·rw [dt_addW, h1, h2]; simp
 obtain ⟨p, hp, hp0⟩ := hu
 by_cases h0 : 0 < dt (nrm p) u
 ·exact key u hi ⟨p, hp, h0⟩
 ·have hi' : crs v (negV u) ≠ v0 := by
    intro e; apply hi
    unfold crs negV v0 at *
    simp only [Vec.mk.injEq] at *
    obtain ⟨e1, e2, e3⟩ := e
    refine ⟨?_, ?_, ?_⟩ <;> grind
  obtain ⟨w, h1, h2, ⟨q, hq, h3, h4⟩, h5⟩ := key (negV u) hi' ⟨p, hp, by rw [dt_negV]; omega⟩
  exact ⟨w, h1, h2, ⟨q, hq, h3, fun e => h4 (by rw [dt_negV, e]; rfl)⟩, fun a k1 k2 => h5 a k1 (by rw [dt_negV, k2]; rfl)⟩
theorem sq_pos {v : Vec} (h : v ≠ v0) : 0 < dt v v := by
 unfold dt
 have q : ∀ a : Int, 0 ≤ a * a := fun a => by
  rcases Int.le_total 0 a with h | h
  ·exact Int.mul_nonneg h h
  ·have := Int.mul_nonneg (show 0 ≤ -a by omega) (show 0 ≤ -a by omega); grind
 have q0 : ∀ a : Int, a * a = 0 → a = 0 := fun a e => (Int.mul_eq_zero.1 e).elim id id
 have h1 := q v.x
 have h2 := q v.y
 have h3 := q v.z
 rcases Int.lt_or_le 0 (v.x * v.x + v.y * v.y + v.z * v.z) with h4 | h4
 ·exact h4
 ·exfalso; apply h
  have z1 := q0 v.x (by omega)
  have z2 := q0 v.y (by omega)
  have z3 := q0 v.z (by omega)
  cases v; unfold v0; simp only at *; simp only [Vec.mk.injEq]; exact ⟨z1, z2, z3⟩
/-- A vector across another one that is not along it. -/
theorem other {v : Vec} (hv : v ≠ v0) : ∃ u : Vec, crs v u ≠ v0 := by
 by_cases h : v.x = 0 ∧ v.y = 0
 ·refine ⟨⟨1, 0, 0⟩, fun e => hv ?_⟩
  unfold crs v0 at *
  simp only [Vec.mk.injEq] at e
  cases v; simp only at *; simp only [Vec.mk.injEq]; omega
 ·refine ⟨⟨0, 0, 1⟩, fun e => h ?_⟩
  unfold crs v0 at e
  simp only [Vec.mk.injEq] at e
  omega
theorem noRay_of {l : List Pl} (hb : bounM l = true) : NoRay l := by
 have hr := refBoun_eq l
 rw [hb] at hr
 unfold refBoun at hr
 rw [Bool.and_eq_true] at hr
 obtain ⟨hok, hful⟩ := hr
 rw [okI_iff] at hok
 intro v hv
 apply Classical.byContradiction
 intro hno
 have hall : ∀ p ∈ l, dt (nrm p) v ≤ 0 := fun p hp => by
  rcases Int.lt_or_le 0 (dt (nrm p) v) with h | h
  ·exact absurd ⟨p, hp, h⟩ hno
  ·exact h
 obtain ⟨u, hu⟩ := other hv
 have hu0 : u ≠ v0 := fun e => hu (by rw [e]; unfold crs v0; simp)
 obtain ⟨w, hw, hwl, ⟨q, hq, hqw, hqu⟩, -⟩ := turn_tight hall (full_some hful hu0) hu
 have hqn : nrm q ≠ v0 := fun e => hqu (by rw [e]; unfold dt v0; simp)
 have hc : crs w (crs (nrm q) w) ≠ v0 := by
  intro e
  have h1 : dt (nrm q) (crs w (crs (nrm q) w)) = dt w w * dt (nrm q) (nrm q) := by
   unfold dt at hqw ⊢; unfold crs; simp only; grind
  rw [e] at h1
  have h2 : dt (nrm q) v0 = 0 := by unfold dt v0; simp
  have h3 := Int.mul_pos (sq_pos hw) (sq_pos hqn)
  omega
 have hc0 : crs (nrm q) w ≠ v0 := fun e => hc (by rw [e]; unfold crs v0; simp)
 obtain ⟨t, ht, htl, ⟨r, hr, hrt, hru⟩, hk⟩ := turn_tight hwl (full_some hful hc0) hc
 have hqt : dt (nrm q) t = 0 := hk _ hqw (crs_dt1 _ _)
 have hcr : crs (nrm q) (nrm r) ≠ v0 := crs_ne hqn (crs_dt1 _ _) hru
 -- t lies along the cross product
 have hlam : ∀ a : Vec, dt a (crs (nrm q) (nrm r)) * dt t (crs (nrm q) (nrm r)) = dt a t * dt (crs (nrm q) (nrm r)) (crs (nrm q) (nrm r)) := by
  intro a
  unfold dt at hqt hrt ⊢; unfold crs; simp only; grind
 have hs : dt t (crs (nrm q) (nrm r)) ≠ 0 := by
  intro e
  have h1 := hlam t
  rw [e] at h1
  have h3 := Int.mul_pos (sq_pos ht) (sq_pos hcr)
  omega
 obtain ⟨i, hi, rfl⟩ := List.mem_iff_getElem.1 hq
 obtain ⟨k, hk', rfl⟩ := List.mem_iff_getElem.1 hr
 have hpair : ∀ V : Vec, V ∈ crsI l l.length → (∀ a, dt a V * dt t V = dt a t * dt V V) → dt t V ≠ 0 → V ≠ v0 → False := by
  intro V hV hl hs hV0
  obtain ⟨ha, hbl⟩ := hok V hV
  unfold abov belo at *
  rw [List.any_eq_true] at ha hbl
  obtain ⟨a, ha, ha0⟩ := ha
  obtain ⟨b, hb, hb0⟩ := hbl
  simp only [decide_eq_true_eq] at ha0 hb0
  rw [dt_comm] at ha0 hb0
  have p1 := htl a ha
  have p2 := htl b hb
  have e1 := hl (nrm a)
  have e2 := hl (nrm b)
  have hVV := sq_pos hV0
  rcases Int.lt_or_gt_of_ne hs with h | h
  ·have h1 := Int.mul_pos (show 0 < -dt (nrm b) V by omega) (show 0 < -dt t V by omega)
   have h2 := Int.mul_nonneg (show 0 ≤ -dt (nrm b) t by omega) (Int.le_of_lt hVV)
   grind
  ·have h1 := Int.mul_pos ha0 h
   have h2 := Int.mul_nonneg (show 0 ≤ -dt (nrm a) t by omega) (Int.le_of_lt hVV)
   grind
 rcases Nat.lt_trichotomy k i with h | h | h
 ·exact hpair _ (mem_crsI.2 ⟨i, k, hi, h, hcr, rfl⟩) hlam hs hcr
 ·subst h; exact hcr (by unfold crs v0; simp only [Vec.mk.injEq]; refine ⟨?_, ?_, ?_⟩ <;> grind)
 ·have hsw := crs_swap (nrm l[i]) (nrm l[k])
  have hne : crs (nrm l[k]) (nrm l[i]) ≠ v0 := by
   intro e; apply hcr
   rw [hsw] at e
   generalize crs (nrm l[i]) (nrm l[k]) = V at *
   cases V; unfold v0 at *; simp only [Vec.mk.injEq] at *; omega
  refine hpair _ (mem_crsI.2 ⟨k, i, hk', h, hne, rfl⟩) (fun a => ?_) ?_ hne
  ·have := hlam a
   rw [hsw]
   generalize crs (nrm l[i]) (nrm l[k]) = V at *
   unfold dt at *; simp only; grind
  ·intro e; apply hs
   rw [hsw] at e
   generalize crs (nrm l[i]) (nrm l[k]) = V at *
   unfold dt at *; simp only at *; grind
/-- A plane of one body with no corner of the other one within: no inside in common. -/
def beyM (l m : List Pl) : Bool := l.any fun p => !(corn m).any fun c => decide (sd p c < 0)
def apaM (l m : List Pl) : Bool := beyM l m || beyM m l
end Go.Proofs.YtgjmfdhgeahdcaaGreat
