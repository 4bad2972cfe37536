import Derived.Test.YtjmgboipbhddlaaGreatDoorA8
import Derived.Test.YtjmgboipbhddlaaGreatDoorVG
set_option linter.unusedVariables false
set_option linter.unusedSimpArgs false
namespace Go.Proofs.YtjmgboipbhddlaaGreatDoor
open Go Go.RowKit

def cutE (b : Board) (t : Trim) : Int := if boardErr b ≠ 0 then boardErr b else trimE t
set_option maxHeartbeats 1000000 in
theorem checkCut_is (b : Board) (t : Trim) (a : Option Addr) (c : Nat) (w : World) {q : Int} (hq : cutE b t = q) (hv : Rects.V w a b.defects) (hl : b.defects.length ≤ 9223372036854775807) (hw : b.wf) :
    Calls Tryz.prog 97 #[.agg #[.string b.name, .string b.species, .int .i64 b.length, .int .i64 b.width, .int .i64 b.thick, .int .i64 b.cut, .int .i64 b.moisture, .slice a b.defects.length c], .agg #[.int .i64 t.kerf, .int .i64 t.ends, .int .i64 t.sides]] w fun e w' => e = .returned (.int .i64 q) ∧ Below w.heap.size w w' := by
 have HV := Lib.hid hv
 by_cases he : boardErr b = 0
 ·have HQ := Lib.hid (show q = trimE t by rw [← hq]; unfold cutE; rw [if_neg (by simp [he])])
  have HE := Lib.hid he
  clear he hq
  go_enter Tryz.func97, Tryz.ntmps97
  go_wp2_with (first
   | (go_at_call 71; refine (ccheckBoard_any b a c _ (HV.out.keep (((Below.refl _ _).alloc (Nat.le_refl _) _).alloc (by simp) _)) hl hw).mono ?_; rw [HE.out]; rintro e w1 ⟨rfl, hb⟩; have HB := Lib.hid ((((Below.refl w.heap.size w).alloc (Nat.le_refl _) _).alloc (by simp) _).trans (hb.mono (by simp; omega))); have k0 : w1.cell? ⟨w.heap.size + 1, 0, none⟩ = some (.int .i64 t.kerf) := (cell_keep hb (by simp [go_sem])); have k1 : w1.cell? ⟨w.heap.size + 1, 1, none⟩ = some (.int .i64 t.ends) := (cell_keep hb (by simp [go_sem])); have k2 : w1.cell? ⟨w.heap.size + 1, 2, none⟩ = some (.int .i64 t.sides) := (cell_keep hb (by simp [go_sem])); clear hb)
   | (go_at_call 73; refine (checkTrim_any t _).mono ?_; rintro e w2 ⟨rfl, hb⟩; have HB2 := Lib.hid (HB.out.trans (hb.mono HB.out.size)); clear hb))
  go_ret
  exact ⟨ret_int HQ.out.symm, HB2.out⟩
 ·have hne : (q != 0) = true := by rw [← hq]; unfold cutE; rw [if_pos he]; simpa using he
  have HQ := Lib.hid (show boardErr b = q by rw [← hq]; unfold cutE; rw [if_pos he])
  clear he hq
  go_enter Tryz.func97, Tryz.ntmps97
  go_wp2_with (go_at_call 71; refine (ccheckBoard_any b a c _ (HV.out.keep (((Below.refl _ _).alloc (Nat.le_refl _) _).alloc (by simp) _)) hl hw).mono ?_; rw [HQ.out]; rintro e w1 ⟨rfl, hb⟩; have HB := Lib.hid ((((Below.refl w.heap.size w).alloc (Nat.le_refl _) _).alloc (by simp) _).trans (hb.mono (by simp; omega))); clear hb)
  go_ret
  exact ⟨rfl, HB.out⟩
theorem cutE_ok {b : Board} {t : Trim} (h : cutE b t = 0) : boardErr b = 0 ∧ trimE t = 0 := by
 unfold cutE at h
 split at h
 ·rename_i h1; exact absurd h h1
 ·rename_i h1; exact ⟨by simpa using h1, h⟩
theorem cut_bounds {b : Board} {t : Trim} (h : cutE b t = 0) : (0 ≤ b.length ∧ b.length ≤ 600000 ∧ 0 ≤ b.width ∧ b.width ≤ 600000) ∧ (0 ≤ t.ends ∧ t.ends ≤ 10000 ∧ 0 ≤ t.sides ∧ t.sides ≤ 10000) := by
 obtain ⟨h1, h2⟩ := cutE_ok h
 obtain ⟨_, h3, _⟩ := boardErr_ok h1
 have h4 := trimE_ok h2
 omega
set_option maxRecDepth 100000 in
set_option maxHeartbeats 4000000 in
theorem refUsable_is (b : Board) (t : Trim) (q : Rect) (a : Option Addr) (c : Nat) (w : World) (hq : usableR b t = q) (hb : 0 ≤ b.length ∧ b.length ≤ 600000 ∧ 0 ≤ b.width ∧ b.width ≤ 600000) (ht : 0 ≤ t.ends ∧ t.ends ≤ 10000 ∧ 0 ≤ t.sides ∧ t.sides ≤ 10000) :
    Calls Tryz.prog 62 #[.agg #[.string b.name, .string b.species, .int .i64 b.length, .int .i64 b.width, .int .i64 b.thick, .int .i64 b.cut, .int .i64 b.moisture, .slice a b.defects.length c], .agg #[.int .i64 t.kerf, .int .i64 t.ends, .int .i64 t.sides]] w fun e w' => e = .returned (.agg #[.int .i64 q.x1, .int .i64 q.y1, .int .i64 q.x2, .int .i64 q.y2]) ∧ Below w.heap.size w w' := by
 have v1 : IntKind.i64.wrap (b.length - t.ends) = b.length - t.ends := IntWalk.i64_in _ (by omega)
 have v2 : IntKind.i64.wrap (b.width - t.sides) = b.width - t.sides := IntWalk.i64_in _ (by omega)
 obtain ⟨x2, hx2⟩ : ∃ x, x = b.length - t.ends := ⟨_, rfl⟩
 obtain ⟨y2, hy2⟩ : ∃ x, x = b.width - t.sides := ⟨_, rfl⟩
 unfold usableR at hq
 rw [← hx2, ← hy2] at hq
 rw [← hx2] at v1
 rw [← hy2] at v2
 have u1 : IntKind.i64.wrap (b.length - t.ends) = x2 := by rw [← hx2]; exact v1
 have u2 : IntKind.i64.wrap (b.width - t.sides) = y2 := by rw [← hy2]; exact v2
 clear v1 v2 hx2 hy2
 have HRE := Lib.hid (show rectErr ⟨t.ends, t.sides, x2, y2⟩ = (if x2 ≤ t.ends ∨ y2 ≤ t.sides then 3 else 0) from rfl)
 by_cases hin : x2 ≤ t.ends ∨ y2 ≤ t.sides
 ·have HQ := Lib.hid (show q = ⟨0, 0, 0, 0⟩ by rw [← hq]; unfold wholeR; rw [if_pos hin])
  have hE := HRE.out
  rw [if_pos hin] at hE
  have HE := Lib.hid hE
  clear hq hin hE HRE
  go_enter Tryz.func62, Tryz.ntmps62
  go_wp2_with (go_at_call 67; refine (rectErr_any ⟨t.ends, t.sides, x2, y2⟩ _).mono ?_; rw [HE.out]; rintro e w1 ⟨rfl, hb1⟩; have r0 : w1.cell? ⟨w.heap.size + 2, 0, none⟩ = some (.int .i64 0) := (cell_keep hb1 (by simp [go_sem])); have r1 : w1.cell? ⟨w.heap.size + 2, 1, none⟩ = some (.int .i64 0) := (cell_keep hb1 (by simp [go_sem])); have r2 : w1.cell? ⟨w.heap.size + 2, 2, none⟩ = some (.int .i64 0) := (cell_keep hb1 (by simp [go_sem])); have r3 : w1.cell? ⟨w.heap.size + 2, 3, none⟩ = some (.int .i64 0) := (cell_keep hb1 (by simp [go_sem])); have f0 : w1.frozen? ⟨w.heap.size + 2, 0, none⟩ = false := (frozen_keep hb1 (by simp; try omega) (by simp [go_sem])); have f1 : w1.frozen? ⟨w.heap.size + 2, 1, none⟩ = false := (frozen_keep hb1 (by simp; try omega) (by simp [go_sem])); have f2 : w1.frozen? ⟨w.heap.size + 2, 2, none⟩ = false := (frozen_keep hb1 (by simp; try omega) (by simp [go_sem])); have f3 : w1.frozen? ⟨w.heap.size + 2, 3, none⟩ = false := (frozen_keep hb1 (by simp; try omega) (by simp [go_sem])); have HB := Lib.hid hb1; have hz := hb1.size; simp only [World.size_alloc, size_set] at hz; clear hb1)
  refine bodyPost_ret (v := .agg #[.int .i64 0, .int .i64 0, .int .i64 0, .int .i64 0]) (by simp [results, Tryz.results62, go_sem, r0, r1, r2, r3]) rfl ⟨by rw [HQ.out], ?_⟩
  repeat (first | (refine Below.setCell ?_ (by first | (simp; done) | (simp; omega)) _) | (exact (Below.trans ?_ (HB.out.mono (by first | (simp; done) | (simp; omega))))) | (refine Below.trans ?_ (HB.out.mono (by first | (simp; done) | (simp; omega)))) | (refine Below.alloc ?_ (by first | (simp; done) | (simp; omega)) _) | exact Below.refl _ _)
 ·have HQ := Lib.hid (show q = ⟨t.ends, t.sides, x2, y2⟩ by rw [← hq]; unfold wholeR; rw [if_neg hin])
  have hE := HRE.out
  rw [if_neg hin] at hE
  have HE := Lib.hid hE
  clear hq hin hE HRE
  go_enter Tryz.func62, Tryz.ntmps62
  go_wp2_with (go_at_call 67; refine (rectErr_any ⟨t.ends, t.sides, x2, y2⟩ _).mono ?_; rw [HE.out]; rintro e w1 ⟨rfl, hb1⟩; have r0 : w1.cell? ⟨w.heap.size + 2, 0, none⟩ = some (.int .i64 0) := (cell_keep hb1 (by simp [go_sem])); have r1 : w1.cell? ⟨w.heap.size + 2, 1, none⟩ = some (.int .i64 0) := (cell_keep hb1 (by simp [go_sem])); have r2 : w1.cell? ⟨w.heap.size + 2, 2, none⟩ = some (.int .i64 0) := (cell_keep hb1 (by simp [go_sem])); have r3 : w1.cell? ⟨w.heap.size + 2, 3, none⟩ = some (.int .i64 0) := (cell_keep hb1 (by simp [go_sem])); have f0 : w1.frozen? ⟨w.heap.size + 2, 0, none⟩ = false := (frozen_keep hb1 (by simp; try omega) (by simp [go_sem])); have f1 : w1.frozen? ⟨w.heap.size + 2, 1, none⟩ = false := (frozen_keep hb1 (by simp; try omega) (by simp [go_sem])); have f2 : w1.frozen? ⟨w.heap.size + 2, 2, none⟩ = false := (frozen_keep hb1 (by simp; try omega) (by simp [go_sem])); have f3 : w1.frozen? ⟨w.heap.size + 2, 3, none⟩ = false := (frozen_keep hb1 (by simp; try omega) (by simp [go_sem])); have s0 : w1.cell? ⟨w.heap.size + 3, 0, none⟩ = some (.int .i64 t.ends) := (cell_keep hb1 (by simp [go_sem])); have s1 : w1.cell? ⟨w.heap.size + 3, 1, none⟩ = some (.int .i64 t.sides) := (cell_keep hb1 (by simp [go_sem])); have s2 : w1.cell? ⟨w.heap.size + 3, 2, none⟩ = some (.int .i64 x2) := (cell_keep hb1 (by simp [go_sem])); have s3 : w1.cell? ⟨w.heap.size + 3, 3, none⟩ = some (.int .i64 y2) := (cell_keep hb1 (by simp [go_sem])); have HB := Lib.hid hb1; have hz := hb1.size; simp only [World.size_alloc, size_set] at hz; clear hb1)
  refine bodyPost_ret (v := .agg #[.int .i64 t.ends, .int .i64 t.sides, .int .i64 x2, .int .i64 y2]) (by simp [results, Tryz.results62, go_sem, r0, r1, r2, r3]) rfl ⟨by rw [HQ.out], ?_⟩
  repeat (first | (refine Below.setCell ?_ (by first | (simp; done) | (simp; omega)) _) | (refine Below.trans ?_ (HB.out.mono (by first | (simp; done) | (simp; omega)))) | (refine Below.alloc ?_ (by first | (simp; done) | (simp; omega)) _) | exact Below.refl _ _)

end Go.Proofs.YtjmgboipbhddlaaGreatDoor
set_option linter.unusedVariables false
set_option linter.unusedSimpArgs false
namespace Go.Proofs.YtjmgboipbhddlaaGreatDoor
open Go Go.RowKit

def smallL (j : Job) : Prop := (j.stock.length ≤ 4 ∨ 100 < j.stock.length) ∧ j.stock.length ≤ 110 ∧ (j.blanks.length ≤ 5 ∨ 30 < j.blanks.length) ∧ j.blanks.length ≤ 40
def boardSm (b : Board) : Bool := !(decide (30 < b.name.size) || decide (30 < b.species.size) || (decide (6 < b.defects.length) && decide (b.defects.length ≤ 60)) || decide (70 < b.defects.length))
def blankSm (x : Blank) : Bool := !(decide (30 < x.name.size) || decide (30 < x.species.size) || (decide (6 < x.count) && decide (x.count ≤ 200)))
theorem boardSm_no {x : Board} (h : (x.name.size : Int) > 30 ∨ (x.species.size : Int) > 30 ∨ ((x.defects.length : Int) > 6 ∧ (x.defects.length : Int) ≤ 60) ∨ (x.defects.length : Int) > 70) : boardSm x = false := by
 unfold boardSm
 rw [Bool.not_eq_false']
 simp only [Bool.or_eq_true, Bool.and_eq_true, decide_eq_true_eq]
 omega
theorem boardSm_yes {x : Board} (h : ¬ ((x.name.size : Int) > 30 ∨ (x.species.size : Int) > 30 ∨ ((x.defects.length : Int) > 6 ∧ (x.defects.length : Int) ≤ 60) ∨ (x.defects.length : Int) > 70)) : boardSm x = true := by
 unfold boardSm
 rw [Bool.not_eq_true', Bool.eq_false_iff]
 simp only [ne_eq, Bool.or_eq_true, Bool.and_eq_true, decide_eq_true_eq]
 omega
theorem blankSm_no {x : Blank} (h : (x.name.size : Int) > 30 ∨ (x.species.size : Int) > 30 ∨ (x.count > 6 ∧ x.count ≤ 200)) : blankSm x = false := by
 unfold blankSm
 rw [Bool.not_eq_false']
 simp only [Bool.or_eq_true, Bool.and_eq_true, decide_eq_true_eq]
 omega
theorem blankSm_yes {x : Blank} (h : ¬ ((x.name.size : Int) > 30 ∨ (x.species.size : Int) > 30 ∨ (x.count > 6 ∧ x.count ≤ 200))) : blankSm x = true := by
 unfold blankSm
 rw [Bool.not_eq_true', Bool.eq_false_iff]
 simp only [ne_eq, Bool.or_eq_true, Bool.and_eq_true, decide_eq_true_eq]
 omega
instance (j : Job) : Decidable (smallL j) := by unfold smallL; infer_instance
def smallB (j : Job) : Bool := decide (smallL j) && (j.stock.all boardSm && j.blanks.all blankSm)
theorem smallB_big {j : Job} (h : ¬ smallL j) : smallB j = false := by unfold smallB; rw [decide_eq_false h]; rfl
theorem smallB_bd {j : Job} (h : j.stock.all boardSm = false) : smallB j = false := by unfold smallB; rw [h]; simp
theorem smallB_bk {j : Job} (h : j.blanks.all blankSm = false) : smallB j = false := by unfold smallB; rw [h]; simp
theorem smallB_yes {j : Job} (h : smallL j) (h1 : j.stock.all boardSm = true) (h2 : j.blanks.all blankSm = true) : smallB j = true := by unfold smallB; rw [decide_eq_true h, h1, h2]; rfl
set_option maxRecDepth 100000 in
set_option maxHeartbeats 8000000 in
theorem small_any (j : Job) (a1 : Option Addr) (c1 : Nat) (a2 : Option Addr) (c2 : Nat) (w : World) (hs : Boards.V w a1 j.stock) (hsl : j.stock.length ≤ 9223372036854775807) (hb : Blanks.V w a2 j.blanks) (hbl : j.blanks.length ≤ 9223372036854775807) :
    Calls Tryz.prog 6 #[.agg #[.slice a1 j.stock.length c1, .slice a2 j.blanks.length c2, .int .i64 j.trim.kerf, .int .i64 j.trim.ends, .int .i64 j.trim.sides]] w fun e w' => e = .returned (.bool (smallB j)) ∧ Below w.heap.size w w' := by
 by_cases hall : smallL j
 ·have HL := Lib.hid hall
  have hall' := hall
  unfold smallL at hall'
  clear hall
  have g4 : ¬ (j.stock.length : Int) > 110 := by omega
  have g6 : ¬ (j.blanks.length : Int) > 40 := by omega
  have hS : ¬ (j.stock.length : Int) > 4 ∨ ((j.stock.length : Int) > 4 ∧ ¬ (j.stock.length : Int) ≤ 100) := by omega
  have hB : ¬ (j.blanks.length : Int) > 5 ∨ ((j.blanks.length : Int) > 5 ∧ ¬ (j.blanks.length : Int) ≤ 30) := by omega
  clear hall'
  go_enter Tryz.func6, Tryz.ntmps6
  go_upto_region 1 with fail
  refine gen_world (fun W => JB W w.heap.size j a1 c1 a2 c2 ∧ Below w.heap.size w W ∧ w.heap.size < W.heap.size) ⟨⟨by simp, by simp, by simp, by simp, by simp⟩, (Below.refl _ _).alloc (Nat.le_refl _) _, by simp⟩ ?_
  rintro W ⟨hC, hbW, hzW⟩
  have HC := Lib.hid hC
  have HBW := Lib.hid hbW
  clear hbW
  obtain ⟨k0, k1, k2, k3, k4⟩ := hC
  rcases hS with g1 | ⟨g1, g2⟩ <;> rcases hB with g3 | ⟨g3, g5⟩
  all_goals
   go_upto_region 3 with fail
   clear k0 k1 k2 k3 k4 g1 g3 g4 g6
   go_wp2_with fail
   go_loopw [3] (fun iv wr => ∃ k : Nat, k ≤ j.stock.length ∧ iv = .int .i64 k ∧ Hid (∀ i (hi : i < j.stock.length), i < k → boardSm j.stock[i] = true) ∧ Below W.heap.size W wr) (fun iv _ => j.stock.length - (intOf iv).toNat)
   case atStart => exact ⟨0, Nat.zero_le _, rfl, Lib.hid (fun i _ h => by omega), Below.refl _ _⟩
   case round =>
    obtain ⟨k, hk, rfl, HK, hbr⟩ := hrel
    obtain ⟨k0, k1, k2, k3, k4⟩ := HC.out.keep hbr hzW
    have HBR := Lib.hid hbr
    have HBX := Lib.hid (HBW.out.trans (hbr.mono (Nat.le_of_lt hzW)))
    by_cases hlt : k < j.stock.length
    ·have hki : (k : Int) < (j.stock.length : Int) := by omega
     obtain ⟨b, off, ad, cd, rfl, ⟨m0, m1, m2, m3, m4, m5, m6, m7⟩, -⟩ := (hs.keep HBX.out).at' hlt
     have HN := Lib.hid (fun h => smallB_bd (all_no (p := boardSm) hlt h))
     have HS := Lib.hid (fun h => all_step (p := boardSm) hlt HK.out h)
     clear hbr k1 k2 k3 k4 HK
     generalize j.stock[k] = x at *
     have hpath : (x.name.size : Int) > 30 ∨ (¬ (x.name.size : Int) > 30 ∧ (x.species.size : Int) > 30) ∨ (¬ (x.name.size : Int) > 30 ∧ ¬ (x.species.size : Int) > 30 ∧ (x.defects.length : Int) > 6 ∧ (x.defects.length : Int) ≤ 60) ∨ (¬ (x.name.size : Int) > 30 ∧ ¬ (x.species.size : Int) > 30 ∧ (x.defects.length : Int) > 6 ∧ ¬ (x.defects.length : Int) ≤ 60 ∧ (x.defects.length : Int) > 70) ∨ (¬ (x.name.size : Int) > 30 ∧ ¬ (x.species.size : Int) > 30 ∧ (x.defects.length : Int) > 6 ∧ ¬ (x.defects.length : Int) ≤ 60 ∧ ¬ (x.defects.length : Int) > 70) ∨ (¬ (x.name.size : Int) > 30 ∧ ¬ (x.species.size : Int) > 30 ∧ ¬ (x.defects.length : Int) > 6 ∧ ¬ (x.defects.length : Int) > 70) := by omega
     go_upto_region 7 with fail
     refine gen_world (fun W9 => (W9.cell? ⟨wr.heap.size, 0, none⟩ = some (.string x.name) ∧ W9.cell? ⟨wr.heap.size, 1, none⟩ = some (.string x.species) ∧ W9.cell? ⟨wr.heap.size, 7, none⟩ = some (.slice ad x.defects.length cd)) ∧ Below wr.heap.size wr W9) ⟨⟨by simp [go_sem], by simp [go_sem], by simp [go_sem]⟩, by repeat (first | exact (Below.refl _ _).alloc (Nat.le_refl _) _ | (refine Below.setCell ?_ (by simp) _))⟩ ?_
     rintro W9 ⟨⟨z0, z1, z7⟩, hb9⟩
     have HB9 := Lib.hid (HBR.out.trans (hb9.mono HBR.out.size))
     have HX9 := Lib.hid (HBX.out.trans (hb9.mono HBX.out.size))
     clear hb9 m0 m1 m2 m3 m4 m5 m6 m7
     rcases hpath with p1 | ⟨p1, p2⟩ | ⟨p1, p2, p3, p4⟩ | ⟨p1, p2, p3, p4, p5⟩ | ⟨p1, p2, p3, p4, p5⟩ | ⟨p1, p2, p3, p5⟩
     iterate 4
      ·have HF := Lib.hid (HN.out (boardSm_no (by omega)))
       clear HN HS
       go_wp2_with fail
       go_ret
       exact ⟨ret_bool HF.out.symm, by first | exact (Below.refl _ _).alloc (Nat.le_refl _) _ | exact HX9.out⟩
     all_goals
      have HS2 := Lib.hid (HS.out (boardSm_yes (by omega)))
      clear HN HS
      go_wp2_with fail
      go_roundw
      case rel => exact ⟨k + 1, by omega, by go_num, HS2, HB9.out⟩
      case measure => simp [intOf]; omega
    ·have hki : ¬ (k : Int) < (j.stock.length : Int) := by omega
     clear hbr
     have hzr := HBR.out.size
     have HALL := Lib.hid (all_yes (p := boardSm) (l := j.stock) (k := k) (by omega) HK.out)
     clear HK
     go_wp2_with fail
     obtain ⟨wo, rfl⟩ : ∃ wo : World, wo = wr := ⟨_, rfl⟩
     go_loopw [5] (fun iv wr => ∃ k : Nat, k ≤ j.blanks.length ∧ iv = .int .i64 k ∧ Hid (∀ i (hi : i < j.blanks.length), i < k → blankSm j.blanks[i] = true) ∧ Below W.heap.size W wr) (fun iv _ => j.blanks.length - (intOf iv).toNat)
     case atStart => exact ⟨0, Nat.zero_le _, rfl, Lib.hid (fun i _ h => by omega), HBR.out⟩
     case round =>
      clear k0 k1 k2 k3 k4 HBX HBR hki hlt hk hzr
      obtain ⟨m, hm, rfl, HK, hbr⟩ := hrel
      obtain ⟨k0, k1, k2, k3, k4⟩ := HC.out.keep hbr hzW
      have HBR := Lib.hid hbr
      have HBX := Lib.hid (HBW.out.trans (hbr.mono (Nat.le_of_lt hzW)))
      by_cases hlt : m < j.blanks.length
      ·have hki : (m : Int) < (j.blanks.length : Int) := by omega
       obtain ⟨b, off, rfl, m0, m1, m2, m3, m4, m5, -⟩ := (hb.keep HBX.out).at_ hlt
       have HN := Lib.hid (fun h => smallB_bk (all_no (p := blankSm) hlt h))
       have HS := Lib.hid (fun h => all_step (p := blankSm) hlt HK.out h)
       clear hbr k0 k2 k3 k4 HK
       generalize j.blanks[m] = x at *
       have hpath : (x.name.size : Int) > 30 ∨ (¬ (x.name.size : Int) > 30 ∧ (x.species.size : Int) > 30) ∨ (¬ (x.name.size : Int) > 30 ∧ ¬ (x.species.size : Int) > 30 ∧ x.count > 6 ∧ x.count ≤ 200) ∨ (¬ (x.name.size : Int) > 30 ∧ ¬ (x.species.size : Int) > 30 ∧ x.count > 6 ∧ ¬ x.count ≤ 200) ∨ (¬ (x.name.size : Int) > 30 ∧ ¬ (x.species.size : Int) > 30 ∧ ¬ x.count > 6) := by omega
       go_upto_region 13 with fail
       refine gen_world (fun W9 => (W9.cell? ⟨wr.heap.size, 0, none⟩ = some (.string x.name) ∧ W9.cell? ⟨wr.heap.size, 1, none⟩ = some (.string x.species) ∧ W9.cell? ⟨wr.heap.size, 5, none⟩ = some (.int .i64 x.count)) ∧ Below wr.heap.size wr W9) ⟨⟨by simp [go_sem], by simp [go_sem], by simp [go_sem]⟩, by repeat (first | exact (Below.refl _ _).alloc (Nat.le_refl _) _ | (refine Below.setCell ?_ (by simp) _))⟩ ?_
       rintro W9 ⟨⟨z0, z1, z5⟩, hb9⟩
       have HB9 := Lib.hid (HBR.out.trans (hb9.mono HBR.out.size))
       have HX9 := Lib.hid (HBX.out.trans (hb9.mono HBX.out.size))
       clear hb9 m0 m1 m2 m3 m4 m5
       rcases hpath with p1 | ⟨p1, p2⟩ | ⟨p1, p2, p3, p4⟩ | ⟨p1, p2, p3, p4⟩ | ⟨p1, p2, p3⟩
       iterate 3
        ·have HF := Lib.hid (HN.out (blankSm_no (by omega)))
         clear HN HS
         go_wp2_with fail
         go_ret
         exact ⟨ret_bool HF.out.symm, by first | exact (Below.refl _ _).alloc (Nat.le_refl _) _ | exact HX9.out⟩
       all_goals
        have HS2 := Lib.hid (HS.out (blankSm_yes (by omega)))
        clear HN HS
        go_wp2_with fail
        go_roundw
        case rel => exact ⟨m + 1, by omega, by go_num, HS2, HB9.out⟩
        case measure => simp [intOf]; omega
      ·have hki : ¬ (m : Int) < (j.blanks.length : Int) := by omega
       have HALL2 := Lib.hid (all_yes (p := blankSm) (l := j.blanks) (k := m) (by omega) HK.out)
       clear HK hbr
       go_wp2_with fail
       go_ret
       exact ⟨ret_bool (smallB_yes HL.out HALL.out HALL2.out).symm, HBX.out⟩
 ·have HF := Lib.hid (smallB_big hall)
  unfold smallL at hall
  have hp : ((j.stock.length : Int) > 4 ∧ (j.stock.length : Int) ≤ 100) ∨ ((j.stock.length : Int) > 4 ∧ ¬ (j.stock.length : Int) ≤ 100 ∧ (j.stock.length : Int) > 110) ∨ (¬ (j.stock.length : Int) > 110 ∧ (¬ (j.stock.length : Int) > 4 ∨ ((j.stock.length : Int) > 4 ∧ ¬ (j.stock.length : Int) ≤ 100)) ∧ (((j.blanks.length : Int) > 5 ∧ (j.blanks.length : Int) ≤ 30) ∨ ((j.blanks.length : Int) > 5 ∧ ¬ (j.blanks.length : Int) ≤ 30 ∧ (j.blanks.length : Int) > 40))) := by omega
  clear hall
  rcases hp with ⟨g1, g2⟩ | ⟨g1, g2, g3⟩ | ⟨g0, g1 | ⟨g1, g2⟩, ⟨g4, g5⟩ | ⟨g4, g5, g6⟩⟩
  all_goals
   go_enter Tryz.func6, Tryz.ntmps6
   go_wp2_with fail
   go_ret
   exact ⟨ret_bool HF.out.symm, by first | exact (Below.refl _ _).alloc (Nat.le_refl _) _ | exact HX9.out⟩
theorem small_is (j : Job) (a1 : Option Addr) (c1 : Nat) (a2 : Option Addr) (c2 : Nat) (w : World) {q : Bool} (hq : smallB j = q) (hs : Boards.V w a1 j.stock) (hsl : j.stock.length ≤ 9223372036854775807) (hb : Blanks.V w a2 j.blanks) (hbl : j.blanks.length ≤ 9223372036854775807) :
    Calls Tryz.prog 6 #[.agg #[.slice a1 j.stock.length c1, .slice a2 j.blanks.length c2, .int .i64 j.trim.kerf, .int .i64 j.trim.ends, .int .i64 j.trim.sides]] w fun e w' => e = .returned (.bool q) ∧ Below w.heap.size w w' := by subst hq; exact small_any j a1 c1 a2 c2 w hs hsl hb hbl
end Go.Proofs.YtjmgboipbhddlaaGreatDoor
