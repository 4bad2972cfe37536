/- CheckPlan and Places of the program. -/
import Derived.Laws.EntriesVeiled
import Derived.RangeFuncLeaves
import Derived.Shelf.Abstract
import Derived.WalkKit
import Derived.OwnWalkIn
import Derived.TacticsInMore
import Derived.LoopNIn
import Derived.LoopIn
import Derived.Test.YtpaindkfbgoogaaGreatPL7
import Derived.Test.YtpaindkfbgoogaaGreatQG
set_option linter.unusedVariables false
set_option linter.unusedSimpArgs false
namespace Go.Proofs.YtpaindkfbgoogaaGreat
open Go Go.RowKit Go.Maps Go.Shelf
attribute [local go_sem] Oper.semAt_some

theorem checkedPost_out {w w' : World} {j : Job} {plan : List Layout} {pb pl x1 y1 x2 y2 E : Int} {e : Ending} (h : CheckedPost w j plan (⟨pb, pl, ⟨x1, y1, x2, y2⟩⟩, E) e w') :
    ∃ (av : Option Addr) (n cv : Nat), e = .returned (.tuple #[.slice av n cv, .agg #[.int .i64 pb, .int .i64 pl, .int .i64 x1, .int .i64 y1, .int .i64 x2, .int .i64 y2], .int .i64 E]) ∧ Below w.heap.size w w' ∧ (E ≠ 0 → av = none ∧ n = 0 ∧ cv = 0) ∧
      (E = 0 → n = plan.length ∧ ∃ xs : List LaidC, xs.map LaidC.lay = plan ∧ Laids.V w' av xs ∧ ∀ x ∈ xs, LaidR j w' x) := h

set_option maxRecDepth 100000 in
set_option maxHeartbeats 4000000 in
theorem checkPlan_any (j : Job) (plan : List Layout) (a1 : Option Addr) (c1 : Nat) (a2 : Option Addr) (c2 : Nat) (ap : Option Addr) (cp : Nat) (w : World) (hs : Boards.V w a1 j.stock) (hsl : j.stock.length ≤ 9223372036854775807) (hb : Blanks.V w a2 j.blanks) (hbl : j.blanks.length ≤ 9223372036854775807) (hp : Layouts.V w ap plan) (hpl : plan.length ≤ 1000) (hcuts : ∀ l ∈ plan, l.cuts.length ≤ 100000) :
    Calls Tryz.prog 19 #[.agg #[.slice a1 j.stock.length c1, .slice a2 j.blanks.length c2, .int .i64 j.trim.kerf, .int .i64 j.trim.ends, .int .i64 j.trim.sides], .slice ap plan.length cp] w (PlanPost2 w (planE2 j plan)) := by
  have HCK := Lib.hid (fun w' hs hb hp => checked_any j plan a1 c1 a2 c2 ap cp w' hs hsl hb hbl hp hpl hcuts)
  have HPV := Lib.hid hp
  have HSV := Lib.hid hs
  have HBV := Lib.hid hb
  obtain ⟨q, hq⟩ : ∃ q, planE2 j plan = q := ⟨_, rfl⟩
  rw [hq] at HCK ⊢
  obtain ⟨⟨pb, pl, ⟨x1, y1, x2, y2⟩⟩, E⟩ := q
  clear hq hp hs hb hcuts
  go_enter Tryz.func19, Tryz.ntmps19
  go_upto_region 1 with fail
  refine gen_world (fun W => JB W w.heap.size j a1 c1 a2 c2 ∧ OutZ W (w.heap.size + 1) ∧ Below w.heap.size w W ∧ w.heap.size + 1 < W.heap.size) ⟨⟨by simp [go_sem], by simp [go_sem], by simp [go_sem], by simp [go_sem], by simp [go_sem]⟩, ⟨⟨by simp [go_sem], by simp [go_sem], by simp [go_sem], by simp [go_sem], by simp [go_sem], by simp [go_sem]⟩, by simp [go_sem], by simp [go_sem], by simp [go_sem], by simp [go_sem], by simp [go_sem], by simp [go_sem]⟩, by repeat (first | (with_reducible assumption) | exact Below.refl _ _ | (refine Below.setCell ?_ (by first | omega | (simp; omega) | (simp; done)) _) | (refine Below.alloc ?_ (by first | omega | (simp; omega) | (simp; done)) _) | (refine Below.drew ?_)), by simp⟩ ?_
  rintro W ⟨hC, hZ, hb, hz⟩
  obtain ⟨gj, hgj⟩ : ∃ g, g = w.heap.size := ⟨_, rfl⟩
  obtain ⟨g4, hg4⟩ : ∃ g, g = w.heap.size + 1 := ⟨_, rfl⟩
  rw [← hg4] at hZ hz
  rw [← hgj] at hC
  rw [← hg4, ← hgj]
  have HB := Lib.hid hb
  have HZ := Lib.hid hZ
  have HG := Lib.hid (show w.heap.size ≤ g4 ∧ g4 < W.heap.size from ⟨by omega, hz⟩)
  obtain ⟨k0, k1, k2, k3, k4⟩ := hC
  clear hb hZ hgj hg4 hz
  go_upto_region 2 with (go_at_call 47; refine (HCK.out _ (HSV.out.keep HB.out) (HBV.out.keep HB.out) (HPV.out.keep HB.out)).mono ?_; rintro e w1 hcp; obtain ⟨av, n, cv, rfl, hb1, -, -⟩ := checkedPost_out hcp; clear hcp; have HB1 := Lib.hid hb1; clear hb1)
  refine gen_world (fun W2 => SixC W2 w1.heap.size pb pl x1 y1 x2 y2 ∧ Below w1.heap.size w1 W2) ⟨⟨⟨by simp [go_sem], by simp [go_sem]⟩, ⟨by simp [go_sem], by simp [go_sem]⟩, by simp [go_sem], by simp [go_sem]⟩, by repeat (first | (with_reducible assumption) | exact Below.refl _ _ | (refine Below.setCell ?_ (by first | omega | (simp; omega) | (simp; done)) _) | (refine Below.alloc ?_ (by first | omega | (simp; omega) | (simp; done)) _) | (refine Below.drew ?_))⟩ ?_
  rintro W2 ⟨⟨⟨q0, q1⟩, ⟨q2, q3⟩, q4, q5⟩, hb2⟩
  obtain ⟨g7, hg7⟩ : ∃ g, g = w1.heap.size := ⟨_, rfl⟩
  have hbz := HB1.out.trans (hb2.mono HB1.out.size)
  have HB2 := Lib.hid (HB.out.trans (hbz.mono HB.out.size))
  have hne : g4 ≠ g7 := by have h1 := HG.out.2; have h2 := HB1.out.size; omega
  rw [← hg7] at q0 q1 q2 q3 q4 q5 ⊢
  obtain ⟨⟨z0, z1, z2, z3, z4, z5⟩, f0, f1, f2, f3, f4, f5⟩ := HZ.out
  have z0 := cell_keep hbz z0
  have z1 := cell_keep hbz z1
  have z2 := cell_keep hbz z2
  have z3 := cell_keep hbz z3
  have z4 := cell_keep hbz z4
  have z5 := cell_keep hbz z5
  have f0 := frozen_keep hbz HG.out.2 f0
  have f1 := frozen_keep hbz HG.out.2 f1
  have f2 := frozen_keep hbz HG.out.2 f2
  have f3 := frozen_keep hbz HG.out.2 f3
  have f4 := frozen_keep hbz HG.out.2 f4
  have f5 := frozen_keep hbz HG.out.2 f5
  clear k0 k1 k2 k3 k4 hg7 hb2 hbz HB1 HZ
  go_wp2_with fail
  refine bodyPost_ret (v := .tuple #[.agg #[.int .i64 pb, .int .i64 pl, .int .i64 x1, .int .i64 y1, .int .i64 x2, .int .i64 y2], .int .i64 E]) (by simp [results, Tryz.results19, go_sem, *]) rfl ?_
  exact ⟨rfl, below_six HB2.out HG.out.1⟩

/-! Gathering the pieces. -/
section
variable {F : Fence} {N : Nat} {P : Program}
end
end Go.Proofs.YtpaindkfbgoogaaGreat
