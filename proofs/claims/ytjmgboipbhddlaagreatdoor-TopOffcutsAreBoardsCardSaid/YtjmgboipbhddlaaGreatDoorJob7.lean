/- Small jobs. -/
import Derived.Test.YtjmgboipbhddlaaGreatDoorA8
set_option linter.unusedVariables false
set_option linter.unusedSimpArgs false
namespace Go.Proofs.YtjmgboipbhddlaaGreatDoor
open Go Go.RowKit

/-! Small jobs. -/
def smallL (j : Job) : Prop := (j.stock.length ≤ 4 ∨ 100 < j.stock.length) ∧ j.stock.length ≤ 110 ∧ (j.blanks.length ≤ 5 ∨ 30 < j.blanks.length) ∧ j.blanks.length ≤ 40
def boardSm (b : Board) : Bool := !(decide (30 < b.name.size) || decide (30 < b.species.size) || (decide (6 < b.defects.length) && decide (b.defects.length ≤ 60)) || decide (70 < b.defects.length))
def blankSm (x : Blank) : Bool := !(decide (30 < x.name.size) || decide (30 < x.species.size) || (decide (6 < x.count) && decide (x.count ≤ 200)))
theorem boardSm_no {x : Board} (h : (x.name.size : Int) > 30 ∨ (x.species.size : Int) > 30 ∨ ((x.defects.length : Int) > 6 ∧ (x.defects.length : Int) ≤ 60) ∨ (x.defects.length : Int) > 70) : boardSm x = false := by
  unfold boardSm
  rw [Bool.not_eq_false']
  simp only [Bool.or_eq_true, Bool.and_eq_true, decide_eq_true_eq]
  omega
theorem boardSm_yes {x : Board} (h : ¬ ((x.name.size : Int) > 30 ∨ (x.species.size : Int) > 30 ∨ ((x.defects.length : Int) > 6 ∧ (x.defects.length : Int) ≤ 60) ∨ (x.defects.length : Int) > 70)) : boardSm x = true := by
  unfold boardSm
  rw [Bool.not_eq_true', Bool.eq_false_iff]
  simp only [ne_eq, Bool.or_eq_true, Bool.and_eq_true, decide_eq_true_eq]
  omega
theorem blankSm_no {x : Blank} (h : (x.name.size : Int) > 30 ∨ (x.species.size : Int) > 30 ∨ (x.count > 6 ∧ x.count ≤ 200)) : blankSm x = false := by
  unfold blankSm
  rw [Bool.not_eq_false']
  simp only [Bool.or_eq_true, Bool.and_eq_true, decide_eq_true_eq]
  omega
theorem blankSm_yes {x : Blank} (h : ¬ ((x.name.size : Int) > 30 ∨ (x.species.size : Int) > 30 ∨ (x.count > 6 ∧ x.count ≤ 200))) : blankSm x = true := by
  unfold blankSm
  rw [Bool.not_eq_true', Bool.eq_false_iff]
  simp only [ne_eq, Bool.or_eq_true, Bool.and_eq_true, decide_eq_true_eq]
  omega
instance (j : Job) : Decidable (smallL j) := by unfold smallL; infer_instance
def smallB (j : Job) : Bool := decide (smallL j) && (j.stock.all boardSm && j.blanks.all blankSm)
theorem smallB_big {j : Job} (h : ¬ smallL j) : smallB j = false := by unfold smallB; rw [decide_eq_false h]; rfl
theorem smallB_bd {j : Job} (h : j.stock.all boardSm = false) : smallB j = false := by unfold smallB; rw [h]; simp
theorem smallB_bk {j : Job} (h : j.blanks.all blankSm = false) : smallB j = false := by unfold smallB; rw [h]; simp
theorem smallB_yes {j : Job} (h : smallL j) (h1 : j.stock.all boardSm = true) (h2 : j.blanks.all blankSm = true) : smallB j = true := by unfold smallB; rw [decide_eq_true h, h1, h2]; rfl
theorem smallB_lens {j : Job} (h : smallB j = true) : smallL j := by
  unfold smallB at h
  rw [Bool.and_eq_true, decide_eq_true_eq] at h
  exact h.1
set_option maxRecDepth 100000 in
set_option maxHeartbeats 8000000 in
theorem small_any (j : Job) (a1 : Option Addr) (c1 : Nat) (a2 : Option Addr) (c2 : Nat) (w : World) (hs : Boards.V w a1 j.stock) (hsl : j.stock.length ≤ 9223372036854775807) (hb : Blanks.V w a2 j.blanks) (hbl : j.blanks.length ≤ 9223372036854775807) :
    Calls Tryz.prog 6 #[.agg #[.slice a1 j.stock.length c1, .slice a2 j.blanks.length c2, .int .i64 j.trim.kerf, .int .i64 j.trim.ends, .int .i64 j.trim.sides]] w fun e w' => e = .returned (.bool (smallB j)) ∧ Below w.heap.size w w' := by
  by_cases hall : smallL j
  · have HL := Lib.hid hall
    have hall' := hall
    unfold smallL at hall'
    clear hall
    have g4 : ¬ (j.stock.length : Int) > 110 := by omega
    have g6 : ¬ (j.blanks.length : Int) > 40 := by omega
    have hS : ¬ (j.stock.length : Int) > 4 ∨ ((j.stock.length : Int) > 4 ∧ ¬ (j.stock.length : Int) ≤ 100) := by omega
    have hB : ¬ (j.blanks.length : Int) > 5 ∨ ((j.blanks.length : Int) > 5 ∧ ¬ (j.blanks.length : Int) ≤ 30) := by omega
    clear hall'
    go_enter Tryz.func6, Tryz.ntmps6
    go_upto_region 1 with fail
    refine gen_world (fun W => JB W w.heap.size j a1 c1 a2 c2 ∧ Below w.heap.size w W ∧ w.heap.size < W.heap.size) ⟨⟨by simp, by simp, by simp, by simp, by simp⟩, (Below.refl _ _).alloc (Nat.le_refl _) _, by simp⟩ ?_
    rintro W ⟨hC, hbW, hzW⟩
    have HC := Lib.hid hC
    have HBW := Lib.hid hbW
    clear hbW
    obtain ⟨k0, k1, k2, k3, k4⟩ := hC
    rcases hS with g1 | ⟨g1, g2⟩ <;> rcases hB with g3 | ⟨g3, g5⟩
    all_goals
      go_upto_region 3 with fail
      clear k0 k1 k2 k3 k4 g1 g3 g4 g6
      go_wp2_with fail
      go_loopw [3] (fun iv wr => ∃ k : Nat, k ≤ j.stock.length ∧ iv = .int .i64 k ∧ Hid (∀ i (hi : i < j.stock.length), i < k → boardSm j.stock[i] = true) ∧ Below W.heap.size W wr) (fun iv _ => j.stock.length - (intOf iv).toNat)
      case atStart => exact ⟨0, Nat.zero_le _, rfl, Lib.hid (fun i _ h => by omega), Below.refl _ _⟩
      case round =>
        obtain ⟨k, hk, rfl, HK, hbr⟩ := hrel
        obtain ⟨k0, k1, k2, k3, k4⟩ := HC.out.keep hbr hzW
        have HBR := Lib.hid hbr
        have HBX := Lib.hid (HBW.out.trans (hbr.mono (Nat.le_of_lt hzW)))
        by_cases hlt : k < j.stock.length
        · have hki : (k : Int) < (j.stock.length : Int) := by omega
          obtain ⟨b, off, ad, cd, rfl, ⟨m0, m1, m2, m3, m4, m5, m6, m7⟩, -⟩ := (hs.keep HBX.out).at' hlt
          have HN := Lib.hid (fun h => smallB_bd (all_no (p := boardSm) hlt h))
          have HS := Lib.hid (fun h => all_step (p := boardSm) hlt HK.out h)
          clear hbr k1 k2 k3 k4 HK
          generalize j.stock[k] = x at *
          have hpath : (x.name.size : Int) > 30 ∨ (¬ (x.name.size : Int) > 30 ∧ (x.species.size : Int) > 30) ∨ (¬ (x.name.size : Int) > 30 ∧ ¬ (x.species.size : Int) > 30 ∧ (x.defects.length : Int) > 6 ∧ (x.defects.length : Int) ≤ 60) ∨ (¬ (x.name.size : Int) > 30 ∧ ¬ (x.species.size : Int) > 30 ∧ (x.defects.length : Int) > 6 ∧ ¬ (x.defects.length : Int) ≤ 60 ∧ (x.defects.length : Int) > 70) ∨ (¬ (x.name.size : Int) > 30 ∧ ¬ (x.species.size : Int) > 30 ∧ (x.defects.length : Int) > 6 ∧ ¬ (x.defects.length : Int) ≤ 60 ∧ ¬ (x.defects.length : Int) > 70) ∨ (¬ (x.name.size : Int) > 30 ∧ ¬ (x.species.size : Int) > 30 ∧ ¬ (x.defects.length : Int) > 6 ∧ ¬ (x.defects.length : Int) > 70) := by omega
          go_upto_region 7 with fail
          refine gen_world (fun W9 => (W9.cell? ⟨wr.heap.size, 0, none⟩ = some (.string x.name) ∧ W9.cell? ⟨wr.heap.size, 1, none⟩ = some (.string x.species) ∧ W9.cell? ⟨wr.heap.size, 7, none⟩ = some (.slice ad x.defects.length cd)) ∧ Below wr.heap.size wr W9) ⟨⟨by simp [go_sem], by simp [go_sem], by simp [go_sem]⟩, by repeat (first | exact (Below.refl _ _).alloc (Nat.le_refl _) _ | (refine Below.setCell ?_ (by simp) _))⟩ ?_
          rintro W9 ⟨⟨z0, z1, z7⟩, hb9⟩
          have HB9 := Lib.hid (HBR.out.trans (hb9.mono HBR.out.size))
          have HX9 := Lib.hid (HBX.out.trans (hb9.mono HBX.out.size))
          clear hb9 m0 m1 m2 m3 m4 m5 m6 m7
          rcases hpath with p1 | ⟨p1, p2⟩ | ⟨p1, p2, p3, p4⟩ | ⟨p1, p2, p3, p4, p5⟩ | ⟨p1, p2, p3, p4, p5⟩ | ⟨p1, p2, p3, p5⟩
          iterate 4
            · have HF := Lib.hid (HN.out (boardSm_no (by omega)))
              clear HN HS
              go_wp2_with fail
              go_ret
              exact ⟨ret_bool HF.out.symm, by first | exact (Below.refl _ _).alloc (Nat.le_refl _) _ | exact HX9.out⟩
          all_goals
            have HS2 := Lib.hid (HS.out (boardSm_yes (by omega)))
            clear HN HS
            go_wp2_with fail
            go_roundw
            case rel => exact ⟨k + 1, by omega, by go_num, HS2, HB9.out⟩
            case measure => simp [intOf]; omega
        · have hki : ¬ (k : Int) < (j.stock.length : Int) := by omega
          clear hbr
          have hzr := HBR.out.size
          have HALL := Lib.hid (all_yes (p := boardSm) (l := j.stock) (k := k) (by omega) HK.out)
          clear HK
          go_wp2_with fail
          obtain ⟨wo, rfl⟩ : ∃ wo : World, wo = wr := ⟨_, rfl⟩
          go_loopw [5] (fun iv wr => ∃ k : Nat, k ≤ j.blanks.length ∧ iv = .int .i64 k ∧ Hid (∀ i (hi : i < j.blanks.length), i < k → blankSm j.blanks[i] = true) ∧ Below W.heap.size W wr) (fun iv _ => j.blanks.length - (intOf iv).toNat)
          case atStart => exact ⟨0, Nat.zero_le _, rfl, Lib.hid (fun i _ h => by omega), HBR.out⟩
          case round =>
            clear k0 k1 k2 k3 k4 HBX HBR hki hlt hk hzr
            obtain ⟨m, hm, rfl, HK, hbr⟩ := hrel
            obtain ⟨k0, k1, k2, k3, k4⟩ := HC.out.keep hbr hzW
            have HBR := Lib.hid hbr
            have HBX := Lib.hid (HBW.out.trans (hbr.mono (Nat.le_of_lt hzW)))
            by_cases hlt : m < j.blanks.length
            · have hki : (m : Int) < (j.blanks.length : Int) := by omega
              obtain ⟨b, off, rfl, m0, m1, m2, m3, m4, m5, -⟩ := (hb.keep HBX.out).at_ hlt
              have HN := Lib.hid (fun h => smallB_bk (all_no (p := blankSm) hlt h))
              have HS := Lib.hid (fun h => all_step (p := blankSm) hlt HK.out h)
              clear hbr k0 k2 k3 k4 HK
              generalize j.blanks[m] = x at *
              have hpath : (x.name.size : Int) > 30 ∨ (¬ (x.name.size : Int) > 30 ∧ (x.species.size : Int) > 30) ∨ (¬ (x.name.size : Int) > 30 ∧ ¬ (x.species.size : Int) > 30 ∧ x.count > 6 ∧ x.count ≤ 200) ∨ (¬ (x.name.size : Int) > 30 ∧ ¬ (x.species.size : Int) > 30 ∧ x.count > 6 ∧ ¬ x.count ≤ 200) ∨ (¬ (x.name.size : Int) > 30 ∧ ¬ (x.species.size : Int) > 30 ∧ ¬ x.count > 6) := by omega
              go_upto_region 13 with fail
              refine gen_world (fun W9 => (W9.cell? ⟨wr.heap.size, 0, none⟩ = some (.string x.name) ∧ W9.cell? ⟨wr.heap.size, 1, none⟩ = some (.string x.species) ∧ W9.cell? ⟨wr.heap.size, 5, none⟩ = some (.int .i64 x.count)) ∧ Below wr.heap.size wr W9) ⟨⟨by simp [go_sem], by simp [go_sem], by simp [go_sem]⟩, by repeat (first | exact (Below.refl _ _).alloc (Nat.le_refl _) _ | (refine Below.setCell ?_ (by simp) _))⟩ ?_
              rintro W9 ⟨⟨z0, z1, z5⟩, hb9⟩
              have HB9 := Lib.hid (HBR.out.trans (hb9.mono HBR.out.size))
              have HX9 := Lib.hid (HBX.out.trans (hb9.mono HBX.out.size))
              clear hb9 m0 m1 m2 m3 m4 m5
              rcases hpath with p1 | ⟨p1, p2⟩ | ⟨p1, p2, p3, p4⟩ | ⟨p1, p2, p3, p4⟩ | ⟨p1, p2, p3⟩
              iterate 3
                · have HF := Lib.hid (HN.out (blankSm_no (by omega)))
                  clear HN HS
                  go_wp2_with fail
                  go_ret
                  exact ⟨ret_bool HF.out.symm, by first | exact (Below.refl _ _).alloc (Nat.le_refl _) _ | exact HX9.out⟩
              all_goals
                have HS2 := Lib.hid (HS.out (blankSm_yes (by omega)))
                clear HN HS
                go_wp2_with fail
                go_roundw
                case rel => exact ⟨m + 1, by omega, by go_num, HS2, HB9.out⟩
                case measure => simp [intOf]; omega
            · have hki : ¬ (m : Int) < (j.blanks.length : Int) := by omega
              have HALL2 := Lib.hid (all_yes (p := blankSm) (l := j.blanks) (k := m) (by omega) HK.out)
              clear HK hbr
              go_wp2_with fail
              go_ret
              exact ⟨ret_bool (smallB_yes HL.out HALL.out HALL2.out).symm, HBX.out⟩
  · have HF := Lib.hid (smallB_big hall)
    unfold smallL at hall
    have hp : ((j.stock.length : Int) > 4 ∧ (j.stock.length : Int) ≤ 100) ∨ ((j.stock.length : Int) > 4 ∧ ¬ (j.stock.length : Int) ≤ 100 ∧ (j.stock.length : Int) > 110) ∨ (¬ (j.stock.length : Int) > 110 ∧ (¬ (j.stock.length : Int) > 4 ∨ ((j.stock.length : Int) > 4 ∧ ¬ (j.stock.length : Int) ≤ 100)) ∧ (((j.blanks.length : Int) > 5 ∧ (j.blanks.length : Int) ≤ 30) ∨ ((j.blanks.length : Int) > 5 ∧ ¬ (j.blanks.length : Int) ≤ 30 ∧ (j.blanks.length : Int) > 40))) := by omega
    clear hall
    rcases hp with ⟨g1, g2⟩ | ⟨g1, g2, g3⟩ | ⟨g0, g1 | ⟨g1, g2⟩, ⟨g4, g5⟩ | ⟨g4, g5, g6⟩⟩
    all_goals
      go_enter Tryz.func6, Tryz.ntmps6
      go_wp2_with fail
      go_ret
      exact ⟨ret_bool HF.out.symm, by first | exact (Below.refl _ _).alloc (Nat.le_refl _) _ | exact HX9.out⟩
theorem small_is (j : Job) (a1 : Option Addr) (c1 : Nat) (a2 : Option Addr) (c2 : Nat) (w : World) {q : Bool} (hq : smallB j = q) (hs : Boards.V w a1 j.stock) (hsl : j.stock.length ≤ 9223372036854775807) (hb : Blanks.V w a2 j.blanks) (hbl : j.blanks.length ≤ 9223372036854775807) :
    Calls Tryz.prog 6 #[.agg #[.slice a1 j.stock.length c1, .slice a2 j.blanks.length c2, .int .i64 j.trim.kerf, .int .i64 j.trim.ends, .int .i64 j.trim.sides]] w fun e w' => e = .returned (.bool q) ∧ Below w.heap.size w w' := by subst hq; exact small_any j a1 c1 a2 c2 w hs hsl hb hbl
end Go.Proofs.YtjmgboipbhddlaaGreatDoor
