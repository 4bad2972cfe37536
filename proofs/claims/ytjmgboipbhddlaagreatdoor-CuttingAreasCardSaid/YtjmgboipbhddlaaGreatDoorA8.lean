import Derived.Test.YtjmgboipbhddlaaGreatDoorQN
import Derived.Test.YtjmgboipbhddlaaGreatDoorQL
set_option linter.unusedVariables false
set_option linter.unusedSimpArgs false
namespace Go.Proofs.YtjmgboipbhddlaaGreatDoor
open Go Go.RowKit

theorem boardGo_ok : ∀ {l wd : Int} {ds : List Rect}, boardGo l wd ds = 0 → ∀ r ∈ ds, rectIn l wd r = 0
 | _, _, [], _, r, hr => absurd hr (by simp)
 | l, wd, d :: ds, h, r, hr => by
  unfold boardGo at h
  split at h
  ·rename_i h1; exact absurd h h1
  ·rename_i h1
   rcases List.mem_cons.1 hr with rfl | hr
   ·simpa using h1
   ·exact boardGo_ok h r hr
theorem boardErr_ok {b : Board} (h : boardErr b = 0) : (nameB b.name = true ∧ nameB b.species = true) ∧ ((1 ≤ b.length ∧ b.length ≤ 600000) ∧ (1 ≤ b.width ∧ b.width ≤ 100000) ∧ (1 ≤ b.thick ∧ b.thick ≤ 20000)) ∧ b.defects.length ≤ 60 ∧ ∀ r ∈ b.defects, 0 ≤ r.x1 ∧ r.x1 < r.x2 ∧ r.x2 ≤ b.length ∧ 0 ≤ r.y1 ∧ r.y1 < r.y2 ∧ r.y2 ≤ b.width := by
 unfold boardErr at h
 split at h
 ·cases h
 ·split at h
  ·cases h
  ·split at h
   ·cases h
   ·rename_i h1 h2 h3
    simp only [not_or, Bool.not_eq_false] at h1 h2
    refine ⟨h1, ⟨withinB_true h2.1, withinB_true h2.2.1, withinB_true h2.2.2.1⟩, by omega, fun r hr => ?_⟩
    have := boardGo_ok h r hr
    unfold rectIn at this
    split at this
    ·cases this
    ·split at this
     ·cases this
     ·omega
theorem trimE_ok {t : Trim} (h : trimE t = 0) : (0 ≤ t.kerf ∧ t.kerf ≤ 10000) ∧ (0 ≤ t.ends ∧ t.ends ≤ 10000) ∧ (0 ≤ t.sides ∧ t.sides ≤ 10000) := by
 unfold trimE at h
 split at h
 ·cases h
 ·rename_i h1
  simp only [not_or, Bool.not_eq_false] at h1
  exact ⟨withinB_true h1.1, withinB_true h1.2.1, withinB_true h1.2.2⟩
structure JobParts (j : Job) : Prop where
 lenS : j.stock.length ≤ 100
 boards : ∀ b ∈ j.stock, boardErr b = 0
 blanks : checkBlanksE j.blanks = 0
 trim : trimE j.trim = 0
 few : piecesN j.blanks ≤ 1000
theorem jobE_parts {j : Job} (h : jobE j = 0) : JobParts j := by
 unfold jobE at h
 split at h
 ·cases h
 ·split at h
  ·rename_i h1; exact absurd h h1
  ·split at h
   ·rename_i h1; exact absurd h h1
   ·split at h
    ·cases h
    ·rename_i h1 h2 h3 h4
     simp only [ne_eq, Decidable.not_not] at h2 h3
     exact ⟨by omega, jbGo_ok h2, h3, h, by omega⟩
theorem jobOk_of {j : Job} (h : jobE j = 0) : JobOk j.stock j.blanks j.trim := by
 obtain ⟨h1, h2, h3, h4, -⟩ := jobE_parts h
 obtain ⟨h5, h6⟩ := blanksE_ok h3
 refine ⟨fun b hb => ?_, fun b hb => ?_, fun w hw => ?_, trimE_ok h4, h1, h5⟩
 ·obtain ⟨_, hl, hd, hr⟩ := boardErr_ok (h2 b hb)
  exact ⟨fun r hr' => by have := hr r hr'; omega, hd⟩
 ·obtain ⟨_, hl, hd, hr⟩ := boardErr_ok (h2 b hb)
  exact ⟨hl.1, hl.2.1⟩
 ·have := rngB_ok (h6 w hw).2
  exact ⟨⟨this.1, this.2.1⟩, this.2.2.2⟩

def planE (j : Job) : List (Nat × List Cut) × Int := if jobE j ≠ 0 then ([], jobE j) else greedyM j.stock j.blanks j.trim
set_option maxRecDepth 100000 in
set_option maxHeartbeats 4000000 in
theorem greedyX_any (j : Job) (a1 : Option Addr) (c1 : Nat) (a2 : Option Addr) (c2 : Nat) (w : World) (hs : Boards.V w a1 j.stock) (hsl : j.stock.length ≤ 9223372036854775807) (hb : Blanks.V w a2 j.blanks) (hbl : j.blanks.length ≤ 9223372036854775807) (hB : jobE j = 0 → j.blanks.length < 20) :
    Calls Tryz.prog 17 #[.agg #[.slice a1 j.stock.length c1, .slice a2 j.blanks.length c2, .int .i64 j.trim.kerf, .int .i64 j.trim.ends, .int .i64 j.trim.sides]] w (PlanPost w (planE j)) := by
 by_cases he : jobE j = 0
 ·have HP := Lib.hid (show planE j = greedyM j.stock j.blanks j.trim by unfold planE; rw [if_neg (by simp [he])])
  have HJ := Lib.hid (jobOk_of he)
  have HL := Lib.hid (hB he)
  have HE := Lib.hid he
  clear he
  go_enter Tryz.func17, Tryz.ntmps17
  go_upto_region 1 with fail
  refine gen_world (fun W => JB W w.heap.size j a1 c1 a2 c2 ∧ Below w.heap.size w W ∧ w.heap.size < W.heap.size) ⟨⟨by simp, by simp, by simp, by simp, by simp⟩, (Below.refl _ _).alloc (Nat.le_refl _) _, by simp⟩ ?_
  rintro W ⟨hC, hbW, hzW⟩
  have HC := Lib.hid hC
  have HBW := Lib.hid hbW
  obtain ⟨k0, k1, k2, k3, k4⟩ := hC
  clear hbW
  go_upto_region 4 with (go_at_call 44; refine (checkJobP_any j a1 c1 a2 c2 _ (hs.keep HBW.out) hsl (hb.keep HBW.out) hbl).mono ?_; rw [HE.out]; rintro e w1 ⟨rfl, hb1⟩; have HB1 := Lib.hid hb1; clear hb1)
  have HB2 := Lib.hid (HBW.out.trans (HB1.out.mono (Nat.le_of_lt hzW)))
  obtain ⟨k0', k1', k2', k3', k4'⟩ := HC.out.keep HB1.out hzW
  clear k0 k1 k2 k3 k4
  go_wp2_with (go_at_call 45; refine (greedyP_any j a1 c1 a2 c2 _ (hs.keep HB2.out) (hb.keep HB2.out) HJ.out HL.out).mono ?_; rintro e w2 ⟨a3, c3, rfl, hv, hc, hc2, hb2⟩; have HV := Lib.hid hv; have HCC := Lib.hid (And.intro hc hc2); have HB3 := Lib.hid hb2; clear hv hc hc2 hb2)
  go_ret2
  exact ⟨a3, c3, by rw [HP.out]; rfl, by rw [HP.out]; exact HV.out, by rw [HP.out]; exact HCC.out.1, HCC.out.2, HB2.out.trans (HB3.out.mono HB2.out.size)⟩
 ·have HP := Lib.hid (show planE j = ([], jobE j) by unfold planE; rw [if_pos he])
  have hne : (jobE j != 0) = true := by simpa using he
  obtain ⟨E, hE⟩ : ∃ E, E = jobE j := ⟨_, rfl⟩
  rw [← hE] at hne HP
  have HE := Lib.hid hE
  clear he hB hE
  go_enter Tryz.func17, Tryz.ntmps17
  go_wp2_with (go_at_call 44; refine (checkJobP_any j a1 c1 a2 c2 _ (hs.keep ((Below.refl _ _).alloc (Nat.le_refl _) _)) hsl (hb.keep ((Below.refl _ _).alloc (Nat.le_refl _) _)) hbl).mono ?_; rw [← HE.out]; rintro e w1 ⟨rfl, hb1⟩; have HB1 := Lib.hid hb1; clear hb1)
  go_ret2
  exact PlanPost.empty HP.out (((Below.refl _ _).alloc (Nat.le_refl _) _).trans (HB1.out.mono (by simp)))

def deskJ : Job := ⟨[⟨⟨#[98]⟩, ⟨#[111, 97, 107]⟩, 100, 42, 10, 0, 0, []⟩], [⟨⟨#[97]⟩, ⟨#[111, 97, 107]⟩, 50, 20, 10, 2⟩, ⟨⟨#[99]⟩, ⟨#[111, 97, 107]⟩, 30, 40, 10, 1⟩], ⟨2, 0, 0⟩⟩
theorem desk_plan : (planE deskJ).1.length = 1 ∧ (planE deskJ).2 = 0 := by decide +kernel
theorem desk_least : leastM [100, 100] [50, 50, 49] 1 = (2, 0) := by decide +kernel
theorem desk_weight : wNum 2 2 5 = 1 ∧ wDen 2 2 5 = 2 := by decide +kernel
def DeskPost (w : World) (e : Ending) (w' : World) : Prop := ∃ (a1 : Option Addr) (c1 : Nat) (a2 : Option Addr) (c2 : Nat), e = .returned (.agg #[.slice a1 1 c1, .slice a2 2 c2, .int .i64 2, .int .i64 0, .int .i64 0]) ∧ Boards.V w' a1 deskJ.stock ∧ Blanks.V w' a2 deskJ.blanks ∧ Below w.heap.size w w'
set_option maxRecDepth 100000 in
set_option maxHeartbeats 4000000 in
theorem desk_any (w : World) : Calls Tryz.prog 22 #[] w (DeskPost w) := by
 go_enter Tryz.func22, Tryz.ntmps22
 go_wp2_with fail
 refine bodyPost_ret (v := .agg #[.slice (some ⟨w.heap.size + 1, 0, none⟩) 1 1, .slice (some ⟨w.heap.size + 2, 0, none⟩) 2 2, .int .i64 2, .int .i64 0, .int .i64 0]) (by simp [results, Tryz.results22, go_sem]) rfl ⟨_, _, _, _, rfl, ?_, ?_, ?_⟩
 ·intro _
  refine ⟨w.heap.size + 1, 0, rfl, fun k x hk => ?_⟩
  match k, hk with
  | 0, hk =>
   injection hk with hk
   subst hk
   refine ⟨none, 0, by simp [go_sem], by simp [go_sem], by simp [go_sem], by simp [go_sem], by simp [go_sem], by simp [go_sem], by simp [go_sem], by simp [go_sem], fun h => absurd rfl h, Nat.le_refl _, Nat.zero_le _, ?_⟩
   unfold Board.wf
   decide
 ·intro _
  refine ⟨w.heap.size + 2, 0, rfl, fun k x hk => ?_⟩
  match k, hk with
  | 0, hk =>
   injection hk with hk
   subst hk
   refine ⟨by simp [go_sem], by simp [go_sem], by simp [go_sem], by simp [go_sem], by simp [go_sem], by simp [go_sem], ?_⟩
   unfold Blank.wf
   decide
  | 1, hk =>
   injection hk with hk
   subst hk
   refine ⟨by simp [go_sem], by simp [go_sem], by simp [go_sem], by simp [go_sem], by simp [go_sem], by simp [go_sem], ?_⟩
   unfold Blank.wf
   decide
 ·repeat (first | exact Below.refl _ _ | (refine Below.setCell ?_ (by simp) _) | (refine Below.alloc ?_ (by first | omega | (simp; omega) | (simp; done)) _))

theorem ints_new2 (W : World) (g : Nat) (x y : Int) (T : TypeId) (hg : g = W.heap.size) : IntsV (W.alloc (.cells #[.int .i64 x, .int .i64 y] T)) (some ⟨g, 0, none⟩) [x, y] := by
 subst hg
 refine fun _ => ⟨W.heap.size, 0, rfl, fun k z hk => ?_⟩
 match k, hk with
 | 0, hk => injection hk with hk; subst hk; simp [go_sem]
 | 1, hk => injection hk with hk; subst hk; simp [go_sem]
theorem ints_new3 (W : World) (g : Nat) (x y z : Int) (T : TypeId) (hg : g = W.heap.size) : IntsV (W.alloc (.cells #[.int .i64 x, .int .i64 y, .int .i64 z] T)) (some ⟨g, 0, none⟩) [x, y, z] := by
 subst hg
 refine fun _ => ⟨W.heap.size, 0, rfl, fun k u hk => ?_⟩
 match k, hk with
 | 0, hk => injection hk with hk; subst hk; simp [go_sem]
 | 1, hk => injection hk with hk; subst hk; simp [go_sem]
 | 2, hk => injection hk with hk; subst hk; simp [go_sem]
theorem frac_eql (a b c d : Int) (w : World) : (binOp .eql 69 (.agg #[.int .i64 a, .int .i64 b]) (.agg #[.int .i64 c, .int .i64 d])).run Tryz.prog w = .ok (.bool (decide (a = c) && decide (b = d))) w := by
 simp [go_sem]
 repeat' split
 all_goals simp_all
def PlanHid (w : World) (e : Ending) (w' : World) : Prop := ∃ (a : Option Addr) (c : Nat), e = .returned (.tuple #[.slice a 1 c, .int .i64 0]) ∧ Below w.heap.size w w'
theorem deskGreedy_any (a1 : Option Addr) (c1 : Nat) (a2 : Option Addr) (c2 : Nat) (w : World) (hs : Boards.V w a1 deskJ.stock) (hb : Blanks.V w a2 deskJ.blanks) :
    Calls Tryz.prog 17 #[.agg #[.slice a1 1 c1, .slice a2 2 c2, .int .i64 2, .int .i64 0, .int .i64 0]] w (PlanHid w) := by
 refine (greedyX_any deskJ a1 c1 a2 c2 w hs (by decide) hb (by decide) (fun _ => by decide)).mono ?_
 rintro e w' ⟨a, c, rfl, hv, h1, h2, hb⟩
 refine ⟨a, c, ?_, hb⟩
 rw [desk_plan.1, desk_plan.2]
theorem deskLeast_any (a1 a2 : Option Addr) (w : World) (h1 : IntsV w a1 [100, 100]) (h2 : IntsV w a2 [50, 50, 49]) :
    Calls Tryz.prog 24 #[.agg #[.slice a1 2 2, .slice a2 3 3, .int .i64 1]] w fun e w' => e = .returned (.tuple #[.int .i64 2, .int .i64 0]) ∧ Below w.heap.size w w' := by
 have h := leastBars_any a1 a2 [100, 100] [50, 50, 49] 2 3 1 w h1 h2 (by decide) (by decide)
 rw [desk_least] at h
 exact h
theorem deskWeight_any (w : World) : Calls Tryz.prog 23 #[.int .i64 2, .int .i64 2, .int .i64 5] w fun e w' => e = .returned (.tuple #[.agg #[.int .i64 1, .int .i64 2], .int .i64 0]) ∧ Below w.heap.size w w' := by
 have h := weightP_ok 2 2 5 w (by decide) (by decide) (by decide) (by decide)
 rw [desk_weight.1, desk_weight.2] at h
 exact h
set_option maxRecDepth 100000 in
set_option maxHeartbeats 4000000 in
theorem awake_any (w : World) : Calls Tryz.prog 5 #[] w fun e w' => e = .returned (.bool true) ∧ Below w.heap.size w w' := by
 have hfe := frac_eql
 go_enter Tryz.func5, Tryz.ntmps5
 go_upto_region 4 with (first
  | (go_at_call 22; refine (desk_any _).mono ?_; rintro e w1 ⟨a1, c1, a2, c2, rfl, hs, hb, hbw⟩; have HS := Lib.hid hs; have HB := Lib.hid hb; have HB1 := Lib.hid hbw; clear hs hb hbw)
  | (go_at_call 17; refine (deskGreedy_any a1 c1 a2 c2 _ HS.out HB.out).mono ?_; rintro e w2 ⟨a3, c3, rfl, hbw⟩; have HB2 := Lib.hid (HB1.out.trans (hbw.mono HB1.out.size)); clear hbw)
  | (go_at_call 23; refine (deskWeight_any _).mono ?_; rintro e w3 ⟨rfl, hbw⟩; have HB3 := Lib.hid (HB2.out.trans (hbw.mono HB2.out.size)); clear hbw)
  | (go_at_call 24; refine (deskLeast_any _ _ _ (intsV_keep (ints_new2 _ _ _ _ _ (by simp)) ((Below.refl _ _).alloc (Nat.le_refl _) _)) (ints_new3 _ _ _ _ _ _ (by simp))).mono ?_; rintro e w4 ⟨rfl, hbw⟩; have HB4 := Lib.hid ((((HB3.out.alloc HB3.out.size _).alloc (by have := HB3.out.size; simp; omega) _).alloc (by have := HB3.out.size; simp; omega) _).trans (hbw.mono (by have := HB3.out.size; simp; omega))); have k0 : w4.cell? ⟨w3.heap.size, 0, none⟩ = some (.int .i64 1) := cell_keep hbw (by simp [go_sem]); have k1 : w4.cell? ⟨w3.heap.size, 1, none⟩ = some (.int .i64 2) := cell_keep hbw (by simp [go_sem]); clear hbw))
 go_wp2_with fail
 go_ret
 exact ⟨rfl, HB4.out⟩
end Go.Proofs.YtjmgboipbhddlaaGreatDoor
