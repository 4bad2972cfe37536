import Derived.Test.YtjmgboipbhddlaaGreatDoorJX
import Derived.Test.YtjmgboipbhddlaaGreatDoorBB
import Derived.Test.YtjmgboipbhddlaaGreatDoorQA
import Derived.Test.YtjmgboipbhddlaaGreatDoorCX
import Derived.Test.YtjmgboipbhddlaaGreatDoorSlots
set_option linter.unusedVariables false
set_option linter.unusedSimpArgs false
namespace Go.Proofs.YtjmgboipbhddlaaGreatDoor
open Go Go.RowKit

def regionE (c : Cut) (i n : Int) : Int :=
 if c.low = 0 then (if c.across = true ∨ c.at_ ≠ 0 ∨ c.high ≠ 0 then 3 else if withinB c.blank (-1) 29 = false then 2 else 0)
 else if c.blank ≠ 0 then 3 else if c.low ≤ i ∨ c.high ≤ i ∨ c.low = c.high then 9 else if n ≤ c.low ∨ n ≤ c.high then 6 else 0
section
variable {c : Cut} {i n : Int}
theorem reg_leaf3 (h : c.low = 0) (h1 : c.across = true ∨ c.at_ ≠ 0 ∨ c.high ≠ 0) : regionE c i n = 3 := by unfold regionE; rw [if_pos h, if_pos h1]
theorem reg_leaf2 (h : c.low = 0) (h1 : ¬ (c.across = true ∨ c.at_ ≠ 0 ∨ c.high ≠ 0)) (h2 : withinB c.blank (-1) 29 = false) : regionE c i n = 2 := by unfold regionE; rw [if_pos h, if_neg h1, if_pos h2]
theorem reg_leaf0 (h : c.low = 0) (h1 : ¬ (c.across = true ∨ c.at_ ≠ 0 ∨ c.high ≠ 0)) (h2 : withinB c.blank (-1) 29 = true) : regionE c i n = 0 := by unfold regionE; rw [if_pos h, if_neg h1, if_neg (by rw [h2]; decide)]
theorem reg_cut3 (h : ¬ c.low = 0) (h1 : c.blank ≠ 0) : regionE c i n = 3 := by unfold regionE; rw [if_neg h, if_pos h1]
theorem reg_cut9 (h : ¬ c.low = 0) (h1 : ¬ c.blank ≠ 0) (h2 : c.low ≤ i ∨ c.high ≤ i ∨ c.low = c.high) : regionE c i n = 9 := by unfold regionE; rw [if_neg h, if_neg h1, if_pos h2]
theorem reg_cut6 (h : ¬ c.low = 0) (h1 : ¬ c.blank ≠ 0) (h2 : ¬ (c.low ≤ i ∨ c.high ≤ i ∨ c.low = c.high)) (h3 : n ≤ c.low ∨ n ≤ c.high) : regionE c i n = 6 := by unfold regionE; rw [if_neg h, if_neg h1, if_neg h2, if_pos h3]
theorem reg_cut0 (h : ¬ c.low = 0) (h1 : ¬ c.blank ≠ 0) (h2 : ¬ (c.low ≤ i ∨ c.high ≤ i ∨ c.low = c.high)) (h3 : ¬ (n ≤ c.low ∨ n ≤ c.high)) : regionE c i n = 0 := by unfold regionE; rw [if_neg h, if_neg h1, if_neg h2, if_neg h3]
end
theorem reg_ways (c : Cut) (i n : Int) :
    (c.low = 0 ∧ c.across = true ∧ regionE c i n = 3) ∨ (c.low = 0 ∧ c.across = false ∧ ¬ c.at_ = 0 ∧ regionE c i n = 3) ∨ (c.low = 0 ∧ c.across = false ∧ c.at_ = 0 ∧ ¬ c.high = 0 ∧ regionE c i n = 3) ∨
    (c.low = 0 ∧ c.across = false ∧ c.at_ = 0 ∧ c.high = 0 ∧ withinB c.blank (-1) 29 = false ∧ regionE c i n = 2) ∨ (c.low = 0 ∧ c.across = false ∧ c.at_ = 0 ∧ c.high = 0 ∧ withinB c.blank (-1) 29 = true ∧ regionE c i n = 0) ∨
    (¬ c.low = 0 ∧ ¬ c.blank = 0 ∧ regionE c i n = 3) ∨ (¬ c.low = 0 ∧ c.blank = 0 ∧ c.low ≤ i ∧ regionE c i n = 9) ∨ (¬ c.low = 0 ∧ c.blank = 0 ∧ ¬ c.low ≤ i ∧ c.high ≤ i ∧ regionE c i n = 9) ∨ (¬ c.low = 0 ∧ c.blank = 0 ∧ ¬ c.low ≤ i ∧ ¬ c.high ≤ i ∧ c.low = c.high ∧ regionE c i n = 9) ∨
    (¬ c.low = 0 ∧ c.blank = 0 ∧ ¬ c.low ≤ i ∧ ¬ c.high ≤ i ∧ ¬ c.low = c.high ∧ c.low ≥ n ∧ regionE c i n = 6) ∨ (¬ c.low = 0 ∧ c.blank = 0 ∧ ¬ c.low ≤ i ∧ ¬ c.high ≤ i ∧ ¬ c.low = c.high ∧ ¬ c.low ≥ n ∧ c.high ≥ n ∧ regionE c i n = 6) ∨
    (¬ c.low = 0 ∧ c.blank = 0 ∧ ¬ c.low ≤ i ∧ ¬ c.high ≤ i ∧ ¬ c.low = c.high ∧ ¬ c.low ≥ n ∧ ¬ c.high ≥ n ∧ regionE c i n = 0) := by
 by_cases h : c.low = 0
 ·cases ha : c.across
  ·by_cases h1 : c.at_ = 0
   ·by_cases h2 : c.high = 0
    ·cases hb : withinB c.blank (-1) 29
     ·exact .inr (.inr (.inr (.inl ⟨h, rfl, h1, h2, rfl, reg_leaf2 h (by simp [ha, h1, h2]) hb⟩)))
     ·exact .inr (.inr (.inr (.inr (.inl ⟨h, rfl, h1, h2, rfl, reg_leaf0 h (by simp [ha, h1, h2]) hb⟩))))
    ·exact .inr (.inr (.inl ⟨h, rfl, h1, h2, reg_leaf3 h (.inr (.inr h2))⟩))
   ·exact .inr (.inl ⟨h, rfl, h1, reg_leaf3 h (.inr (.inl h1))⟩)
  ·exact .inl ⟨h, rfl, reg_leaf3 h (.inl ha)⟩
 ·by_cases h1 : c.blank = 0
  ·by_cases h2 : c.low ≤ i
   ·exact .inr (.inr (.inr (.inr (.inr (.inr (.inl ⟨h, h1, h2, reg_cut9 h (by simp [h1]) (.inl h2)⟩))))))
   ·by_cases h3 : c.high ≤ i
    ·exact .inr (.inr (.inr (.inr (.inr (.inr (.inr (.inl ⟨h, h1, h2, h3, reg_cut9 h (by simp [h1]) (.inr (.inl h3))⟩)))))))
    ·by_cases h4 : c.low = c.high
     ·exact .inr (.inr (.inr (.inr (.inr (.inr (.inr (.inr (.inl ⟨h, h1, h2, h3, h4, reg_cut9 h (by simp [h1]) (.inr (.inr h4))⟩))))))))
     ·by_cases h5 : c.low ≥ n
      ·exact .inr (.inr (.inr (.inr (.inr (.inr (.inr (.inr (.inr (.inl ⟨h, h1, h2, h3, h4, h5, reg_cut6 h (by simp [h1]) (by rintro (q | q | q) <;> contradiction) (.inl h5)⟩)))))))))
      ·by_cases h6 : c.high ≥ n
       ·exact .inr (.inr (.inr (.inr (.inr (.inr (.inr (.inr (.inr (.inr (.inl ⟨h, h1, h2, h3, h4, h5, h6, reg_cut6 h (by simp [h1]) (by rintro (q | q | q) <;> contradiction) (.inr h6)⟩))))))))))
       ·exact .inr (.inr (.inr (.inr (.inr (.inr (.inr (.inr (.inr (.inr (.inr ⟨h, h1, h2, h3, h4, h5, h6, reg_cut0 h (by simp [h1]) (by rintro (q | q | q) <;> contradiction) (by rintro (q | q) <;> contradiction)⟩))))))))))
  ·exact .inr (.inr (.inr (.inr (.inr (.inl ⟨h, h1, reg_cut3 h h1⟩)))))
theorem bne_f {a b : Int} (h : a = b) : (a != b) = false := by simpa using h
theorem bne_t {a b : Int} (h : ¬ a = b) : (a != b) = true := by simpa using h
set_option maxRecDepth 100000 in
set_option maxHeartbeats 4000000 in
theorem checkRegion_is (c : Cut) (i n : Int) (w : World) {q : Int} (hq : regionE c i n = q) :
    Calls Tryz.prog 98 #[.agg #[.bool c.across, .int .i64 c.at_, .int .i64 c.low, .int .i64 c.high, .int .i64 c.blank], .int .i64 i, .int .i64 n] w fun e w' => e = .returned (.int .i64 q) ∧ Below w.heap.size w w' := by
 subst hq
 have hw := reg_ways c i n
 obtain ⟨E, hE⟩ : ∃ E, E = regionE c i n := ⟨_, rfl⟩
 rw [← hE] at hw ⊢
 clear hE
 have HWI := Lib.hid (fun w => cwithin_any c.blank (-1) 29 w)
 rcases hw with ⟨p1, p2, p7⟩ | ⟨p1, p2, p3, p7⟩ | ⟨p1, p2, p3, p4, p7⟩ | ⟨p1, p2, p3, p4, p5, p7⟩ | ⟨p1, p2, p3, p4, p5, p7⟩ | ⟨p1, p2, p7⟩ | ⟨p1, p2, p3, p7⟩ | ⟨p1, p2, p3, p4, p7⟩ | ⟨p1, p2, p3, p4, p5, p7⟩ | ⟨p1, p2, p3, p4, p5, p6, p7⟩ | ⟨p1, p2, p3, p4, p5, p6, p8, p7⟩ | ⟨p1, p2, p3, p4, p5, p6, p8, p7⟩
 iterate 5
  ·have HE := Lib.hid p7
   have HLF := Lib.hid (fun w => leaf_is c w (decide_eq_true p1))
   (try rw [p5] at HWI)
   (try clear p5)
   have HP2 := Lib.hid p2
   (try have e3 := beq_t p3)
   (try have e3 := beq_f p3)
   (try have e3' := bne_t p3)
   (try have e3' := bne_f p3)
   (try have e4 := beq_t p4)
   (try have e4 := beq_f p4)
   (try have e4' := bne_t p4)
   (try have e4' := bne_f p4)
   clear p1 p2 p7
   (try clear p3)
   (try clear p4)
   go_enter Tryz.func98, Tryz.ntmps98
   go_upto_region 2 with (go_at_call 28; refine (HLF.out _).mono ?_; rintro e w1 ⟨rfl, hb1⟩; have HB1 := Lib.hid (((Below.refl w.heap.size w).alloc (Nat.le_refl _) _).trans (hb1.mono (by simp))); have q0 : w1.cell? ⟨w.heap.size, 0, none⟩ = some (.bool c.across) := cell_keep hb1 (by simp [go_sem]); have q1 : w1.cell? ⟨w.heap.size, 1, none⟩ = some (.int .i64 c.at_) := cell_keep hb1 (by simp [go_sem]); have q2 : w1.cell? ⟨w.heap.size, 2, none⟩ = some (.int .i64 c.low) := cell_keep hb1 (by simp [go_sem]); have q3 : w1.cell? ⟨w.heap.size, 3, none⟩ = some (.int .i64 c.high) := cell_keep hb1 (by simp [go_sem]); have q4 : w1.cell? ⟨w.heap.size, 4, none⟩ = some (.int .i64 c.blank) := cell_keep hb1 (by simp [go_sem]); clear hb1)
   have p2 := HP2.out
   go_wp2_with (go_at_call 30; refine (HWI.out _).mono ?_; rintro e w' ⟨rfl, rfl⟩)
   go_ret
   exact ⟨ret_int HE.out.symm, HB1.out⟩
 all_goals
  have HE := Lib.hid p7
  have HLF := Lib.hid (fun w => leaf_is c w (decide_eq_false p1))
  (try have e2 := bne_t p2)
  (try have e2 := bne_f p2)
  (try have e5 := beq_t p5)
  (try have e5 := beq_f p5)
  clear p1 p2 p7
  (try clear p5)
  go_enter Tryz.func98, Tryz.ntmps98
  go_upto_region 7 with (go_at_call 28; refine (HLF.out _).mono ?_; rintro e w1 ⟨rfl, hb1⟩; have HB1 := Lib.hid (((Below.refl w.heap.size w).alloc (Nat.le_refl _) _).trans (hb1.mono (by simp))); have q0 : w1.cell? ⟨w.heap.size, 0, none⟩ = some (.bool c.across) := cell_keep hb1 (by simp [go_sem]); have q1 : w1.cell? ⟨w.heap.size, 1, none⟩ = some (.int .i64 c.at_) := cell_keep hb1 (by simp [go_sem]); have q2 : w1.cell? ⟨w.heap.size, 2, none⟩ = some (.int .i64 c.low) := cell_keep hb1 (by simp [go_sem]); have q3 : w1.cell? ⟨w.heap.size, 3, none⟩ = some (.int .i64 c.high) := cell_keep hb1 (by simp [go_sem]); have q4 : w1.cell? ⟨w.heap.size, 4, none⟩ = some (.int .i64 c.blank) := cell_keep hb1 (by simp [go_sem]); clear hb1)
  go_wp2_with fail
  go_ret
  exact ⟨ret_int HE.out.symm, HB1.out⟩
end Go.Proofs.YtjmgboipbhddlaaGreatDoor

set_option linter.unusedVariables false
set_option linter.unusedSimpArgs false
namespace Go.Proofs.YtjmgboipbhddlaaGreatDoor
open Go Go.RowKit

def markE (c : Cut) (O : List Bool) : Int := if c.low = 0 then 0 else if O.getD c.low.toNat false = true then 5 else if O.getD c.high.toNat false = true then 5 else 0
def cutErrM (c : Cut) (i n : Int) (O : List Bool) : Int := if regionE c i n ≠ 0 then regionE c i n else markE c O
theorem cutErr_bad {c : Cut} {i n E : Int} {O : List Bool} (h : E = regionE c i n) (h1 : ¬ E = 0) : cutErrM c i n O = E := by unfold cutErrM; rw [← h, if_pos h1]
theorem cutErr_good {c : Cut} {i n : Int} {O : List Bool} (h : regionE c i n = 0) : cutErrM c i n O = markE c O := by unfold cutErrM; rw [if_neg (by simp [h])]
set_option maxRecDepth 100000 in
set_option maxHeartbeats 4000000 in
theorem cutErr_is (al : Option Addr) (l : List Cut) (cl i g base n : Nat) (O : List Bool) (w : World) (hil : i < l.length) (hn : l.length = n) (hO : O.length = n) (hv : Cuts.V w al l) (hown : w.ownsRow base 4 1 (.slice (some ⟨g, 0, none⟩) n n) n (O.map Value.bool)) {q : Int} (hq : cutErrM l[i] i l.length O = q) :
    Calls Tryz.prog 61 #[.slice al l.length cl, .int .i64 i, .slice (some ⟨g, 0, none⟩) n n] w fun e w' => e = .returned (.int .i64 q) ∧ Below w.heap.size w w' := by
 obtain ⟨b, off, rfl, m0, m1, m2, m3, m4, -⟩ := hv.at_ hil
 have HO := Lib.hid hown
 have HOL := Lib.hid hO
 have hii : (i : Int) < (l.length : Int) := by omega
 have hni : (l.length : Int) = (n : Int) := by omega
 have HN := Lib.hid hn
 clear hown hO hv hn
 generalize l[i] = c at *
 have hw := reg_ways c i l.length
 obtain ⟨E, hE⟩ : ∃ E, E = regionE c i l.length := ⟨_, rfl⟩
 have hbad := fun h => cutErr_bad (O := O) hE h
 have hgood := fun h => cutErr_good (O := O) (hE.symm.trans h)
 rw [hq] at hbad hgood
 rw [← hE] at hw
 have HBAD := Lib.hid hbad
 have HGOOD := Lib.hid hgood
 clear hE hq hbad hgood
 have HWI := Lib.hid (fun w => baseWithin_any c.blank (-1) 29 w)
 have HLN := Lib.hid hni
 clear hni
 rcases hw with ⟨p1, p2, p7⟩ | ⟨p1, p2, p3, p7⟩ | ⟨p1, p2, p3, p4, p7⟩ | ⟨p1, p2, p3, p4, p5, p7⟩ | ⟨p1, p2, p3, p4, p5, p7⟩ | ⟨p1, p2, p7⟩ | ⟨p1, p2, p3, p7⟩ | ⟨p1, p2, p3, p4, p7⟩ | ⟨p1, p2, p3, p4, p5, p7⟩ | ⟨p1, p2, p3, p4, p5, p6, p7⟩ | ⟨p1, p2, p3, p4, p5, p6, p8, p7⟩ | ⟨p1, p2, p3, p4, p5, p6, p8, p7⟩
 iterate 5
  ·have HE := Lib.hid (show q = E by first | exact HBAD.out (by rw [p7]; decide) | (rw [HGOOD.out p7, p7]; unfold markE; rw [if_pos p1]))
   rw [p7] at HE
   have e1 := beq_t p1
   (try rw [p5] at HWI)
   (try clear p5)
   have HP2 := Lib.hid p2
   (try have e3 := beq_t p3)
   (try have e3 := beq_f p3)
   (try have e3' := bne_t p3)
   (try have e3' := bne_f p3)
   (try have e4 := beq_t p4)
   (try have e4 := beq_f p4)
   (try have e4' := bne_t p4)
   (try have e4' := bne_f p4)
   clear p1 p2 p7
   (try clear p3)
   (try clear p4)
   go_enter Tryz.func61, Tryz.ntmps61
   go_upto_region 2 with fail
   refine gen_world (fun W => (W.cell? ⟨w.heap.size, 0, none⟩ = some (.bool c.across) ∧ W.cell? ⟨w.heap.size, 1, none⟩ = some (.int .i64 c.at_) ∧ W.cell? ⟨w.heap.size, 2, none⟩ = some (.int .i64 c.low) ∧ W.cell? ⟨w.heap.size, 3, none⟩ = some (.int .i64 c.high) ∧ W.cell? ⟨w.heap.size, 4, none⟩ = some (.int .i64 c.blank)) ∧ Below w.heap.size w W) ⟨⟨by simp [go_sem], by simp [go_sem], by simp [go_sem], by simp [go_sem], by simp [go_sem]⟩, by repeat (first | exact (Below.refl _ _).alloc (Nat.le_refl _) _ | (refine Below.setCell ?_ (by simp) _))⟩ ?_
   rintro W ⟨⟨q0, q1, q2, q3, q4⟩, hbW⟩
   have HB1 := Lib.hid hbW
   clear hbW m0 m1 m2 m3 m4
   have p2 := HP2.out
   go_wp2_with (go_at_call 16; refine (HWI.out _).mono ?_; rintro e w' ⟨rfl, rfl⟩)
   go_ret
   exact ⟨ret_int HE.out.symm, HB1.out⟩
 iterate 6
  ·have HE := Lib.hid (show q = E from HBAD.out (by rw [p7]; decide))
   rw [p7] at HE
   have e1 := beq_f p1
   (try have e2 := bne_t p2)
   (try have e2 := bne_f p2)
   (try have e5 := beq_t (Eq.symm p5))
   (try have e5 := beq_f (fun h => p5 (Eq.symm h)))
   clear p1 p2 p7
   (try clear p5)
   go_enter Tryz.func61, Tryz.ntmps61
   go_upto_region 2 with fail
   refine gen_world (fun W => (W.cell? ⟨w.heap.size, 0, none⟩ = some (.bool c.across) ∧ W.cell? ⟨w.heap.size, 1, none⟩ = some (.int .i64 c.at_) ∧ W.cell? ⟨w.heap.size, 2, none⟩ = some (.int .i64 c.low) ∧ W.cell? ⟨w.heap.size, 3, none⟩ = some (.int .i64 c.high) ∧ W.cell? ⟨w.heap.size, 4, none⟩ = some (.int .i64 c.blank)) ∧ Below w.heap.size w W) ⟨⟨by simp [go_sem], by simp [go_sem], by simp [go_sem], by simp [go_sem], by simp [go_sem]⟩, by repeat (first | exact (Below.refl _ _).alloc (Nat.le_refl _) _ | (refine Below.setCell ?_ (by simp) _))⟩ ?_
   rintro W ⟨⟨q0, q1, q2, q3, q4⟩, hbW⟩
   have HB1 := Lib.hid hbW
   clear hbW m0 m1 m2 m3 m4
   go_wp2_with fail
   go_ret
   exact ⟨ret_int HE.out.symm, HB1.out⟩
 ·have HE := Lib.hid (show q = markE c O from HGOOD.out p7)
  have HMK := Lib.hid (show markE c O = if O.getD c.low.toNat false = true then 5 else if O.getD c.high.toNat false = true then 5 else 0 by unfold markE; rw [if_neg p1])
  have e1 := beq_f p1
  have e2 := bne_f p2
  have e5 := beq_f (fun h => p5 (Eq.symm h))
  obtain ⟨lo, hlo⟩ : ∃ lo : Nat, c.low = lo := ⟨c.low.toNat, by omega⟩
  obtain ⟨hi, hhi⟩ : ∃ hi : Nat, c.high = hi := ⟨c.high.toNat, by omega⟩
  rw [hlo, hhi] at HMK
  rw [Int.toNat_natCast, Int.toNat_natCast] at HMK
  rw [hlo] at p6 p3 e5
  rw [hhi] at p8 p4 e5
  rw [hlo] at e1
  clear p1 p2 p5 p7
  have HLO := Lib.hid hlo
  have HHI := Lib.hid hhi
  clear hlo hhi
  go_enter Tryz.func61, Tryz.ntmps61
  go_upto_region 2 with fail
  refine gen_world (fun W => (W.cell? ⟨w.heap.size, 0, none⟩ = some (.bool c.across) ∧ W.cell? ⟨w.heap.size, 1, none⟩ = some (.int .i64 c.at_) ∧ W.cell? ⟨w.heap.size, 2, none⟩ = some (.int .i64 c.low) ∧ W.cell? ⟨w.heap.size, 3, none⟩ = some (.int .i64 c.high) ∧ W.cell? ⟨w.heap.size, 4, none⟩ = some (.int .i64 c.blank)) ∧ Below w.heap.size w W) ⟨⟨by simp [go_sem], by simp [go_sem], by simp [go_sem], by simp [go_sem], by simp [go_sem]⟩, by repeat (first | exact (Below.refl _ _).alloc (Nat.le_refl _) _ | (refine Below.setCell ?_ (by simp) _))⟩ ?_
  rintro W ⟨⟨q0, q1, q2, q3, q4⟩, hbW⟩
  have HB1 := Lib.hid hbW
  clear hbW m0 m1 m2 m3 m4
  rw [HLO.out] at q2
  rw [HHI.out] at q3
  have hln := HLN.out
  have hol := HOL.out
  have g1 : (lo : Int) < (n : Int) := by omega
  have g2 : (hi : Int) < (n : Int) := by omega
  have HO2 := own_keep HO.out HB1.out
  obtain ⟨d1, f1⟩ := own_bool_cell HO2 (i := lo) (by omega)
  obtain ⟨d2, f2⟩ := own_bool_cell HO2 (i := hi) (by omega)
  clear hln hol HO2
  cases hL : O.getD lo false
  ·rw [hL] at d1
   cases hH : O.getD hi false
   ·rw [hH] at d2
    have HEE := Lib.hid (show q = 0 by rw [HE.out, HMK.out, hL, hH]; rfl)
    clear hL hH
    go_wp2_with fail
    go_ret
    exact ⟨ret_int HEE.out.symm, HB1.out⟩
   ·rw [hH] at d2
    have HEE := Lib.hid (show q = 5 by rw [HE.out, HMK.out, hL, hH]; rfl)
    clear hL hH
    go_wp2_with fail
    go_ret
    exact ⟨ret_int HEE.out.symm, HB1.out⟩
  ·rw [hL] at d1
   have HEE := Lib.hid (show q = 5 by rw [HE.out, HMK.out, hL]; rfl)
   clear hL
   go_wp2_with fail
   go_ret
   exact ⟨ret_int HEE.out.symm, HB1.out⟩
end Go.Proofs.YtjmgboipbhddlaaGreatDoor

set_option linter.unusedVariables false
set_option linter.unusedSimpArgs false
namespace Go.Proofs.YtjmgboipbhddlaaGreatDoor
open Go Go.RowKit

section
variable {α : Type} {enc : α → List Value} {k : Nat}
theorem own_setCell {w : World} {base e n g cap : Nat} {l : List α} {i c : Nat} {x' : α} {u : Value} (hk : ∀ x, (enc x).length = k) (h : w.ownsRow base e k (.slice (some ⟨g, 0, none⟩) n cap) n (l.flatMap enc)) (hk0 : 0 < k) (hi : i < l.length) (hc : c < k) (hx : enc x' = (enc l[i]).set c u) :
    (w.setCell ⟨g, i * k + c, none⟩ u).ownsRow base e k (.slice (some ⟨g, 0, none⟩) n cap) n ((l.set i x').flatMap enc) := by
 have hn := own_len hk hk0 h
 refine ⟨by rw [flat_len hk, List.length_set, hn], ?_⟩
 rcases h.2 with ⟨e0, _⟩ | ⟨g', cap', cur, e0, hb, hg, hnc, hm, hs, ht⟩
 ·cases e0
 ·injection e0 with e1 _ e3
  injection e1 with e1
  injection e1 with e1
  subst e1; subst e3
  refine .inr ⟨g, cap, cur.setIfInBounds (i * k + c) u, rfl, hb, ?_, hnc, hm, by simpa using hs, ?_⟩
  ·simp [World.setCell, Array.getElem?_modify, hg]
  ·rw [flat_set hk hi hc hx, ← ht, Array.toList_setIfInBounds, List.take_set]
end
theorem own_putR {w : World} {base e n g cap : Nat} {l : List Rect} {i : Nat} (q : Rect) (h : w.ownsRow base e 4 (.slice (some ⟨g, 0, none⟩) n cap) n (l.flatMap cellsR)) (hi : i < l.length) :
    ((((w.setCell ⟨g, i * 4, none⟩ (.int .i64 q.x1)).setCell ⟨g, i * 4 + 1, none⟩ (.int .i64 q.y1)).setCell ⟨g, i * 4 + 2, none⟩ (.int .i64 q.x2)).setCell ⟨g, i * 4 + 3, none⟩ (.int .i64 q.y2)).ownsRow base e 4 (.slice (some ⟨g, 0, none⟩) n cap) n ((l.set i q).flatMap cellsR) := by
 have h0 := own_setCell (c := 0) (x' := ⟨q.x1, l[i].y1, l[i].x2, l[i].y2⟩) (u := .int .i64 q.x1) cellsR_len h (by decide) hi (by decide) rfl
 have h1 := own_setCell (c := 1) (i := i) (x' := ⟨q.x1, q.y1, l[i].x2, l[i].y2⟩) (u := .int .i64 q.y1) cellsR_len h0 (by decide) (by simpa using hi) (by decide) (by rw [List.getElem_set_self]; rfl)
 rw [List.set_set] at h1
 have h2 := own_setCell (c := 2) (i := i) (x' := ⟨q.x1, q.y1, q.x2, l[i].y2⟩) (u := .int .i64 q.x2) cellsR_len h1 (by decide) (by simpa using hi) (by decide) (by rw [List.getElem_set_self]; rfl)
 rw [List.set_set] at h2
 have h3 := own_setCell (c := 3) (i := i) (x' := ⟨q.x1, q.y1, q.x2, q.y2⟩) (u := .int .i64 q.y2) cellsR_len h2 (by decide) (by simpa using hi) (by decide) (by rw [List.getElem_set_self]; rfl)
 rw [List.set_set] at h3
 exact h3
theorem own_getR {w : World} {base e n g cap : Nat} {l : List Rect} {i : Nat} (h : w.ownsRow base e 4 (.slice (some ⟨g, 0, none⟩) n cap) n (l.flatMap cellsR)) (hi : i < l.length) :
    (w.cell? ⟨g, i * 4, none⟩ = some (.int .i64 l[i].x1) ∧ w.cell? ⟨g, i * 4 + 1, none⟩ = some (.int .i64 l[i].y1) ∧ w.cell? ⟨g, i * 4 + 2, none⟩ = some (.int .i64 l[i].x2) ∧ w.cell? ⟨g, i * 4 + 3, none⟩ = some (.int .i64 l[i].y2)) ∧
     (w.frozen? ⟨g, i * 4, none⟩ = false ∧ w.frozen? ⟨g, i * 4 + 1, none⟩ = false ∧ w.frozen? ⟨g, i * 4 + 2, none⟩ = false ∧ w.frozen? ⟨g, i * 4 + 3, none⟩ = false) := by
 obtain ⟨g', cap', hv, _, _, _, _, _, hc⟩ := own_cells cellsR_len h (by rintro rfl; simp at hi) (by decide)
 injection hv with ha _ _
 injection ha with ha
 injection ha with ha
 subst ha
 have c0 := hc i hi 0 (by decide)
 have c1 := hc i hi 1 (by decide)
 have c2 := hc i hi 2 (by decide)
 have c3 := hc i hi 3 (by decide)
 exact ⟨⟨c0.1, c1.1, c2.1, c3.1⟩, ⟨c0.2, c1.2, c2.2, c3.2⟩⟩
theorem flat_zero (n : Nat) : (List.replicate n (⟨0, 0, 0, 0⟩ : Rect)).flatMap cellsR = List.replicate (n * 4) (.int .i64 0) := by
 induction n with
 | zero => rfl
 | succ n ih => rw [List.replicate_succ, List.flatMap_cons, ih, show cellsR ⟨0, 0, 0, 0⟩ = List.replicate 4 (.int .i64 0) from rfl, List.replicate_append_replicate]; congr 1; omega
theorem made_toList (n : Nat) : (madeCells #[.int .i64 0, .int .i64 0, .int .i64 0, .int .i64 0] n).toList = List.replicate n (.int .i64 0) := by
 apply List.ext_getElem
 ·simp [madeCells]
 ·intro j h1 h2
  simp only [madeCells, Array.toList_map, List.getElem_map, List.getElem_replicate]
  simp
  have : j % 4 < 4 := Nat.mod_lt _ (by decide)
  generalize j % 4 = m at *
  match m, this with
  | 0, _ => rfl
  | 1, _ => rfl
  | 2, _ => rfl
  | 3, _ => rfl
theorem make_rects (W : World) (n : Nat) (hn : n ≤ 100000) : (Instr.makeSlice 50 (.int .i64 (n : Int)) (.int .i64 (n : Int))).run Tryz.prog W = .ok (.slice (some ⟨W.heap.size, 0, none⟩) n n) (W.alloc (.cells (madeCells #[.int .i64 0, .int .i64 0, .int .i64 0, .int .i64 0] (n * 4)) 41)) := by
 obtain ⟨n0, hn0, hx0, hx1, hx2⟩ := info_parts rect_info
 have := run_make (P := Tryz.prog) W 50 41 n0 (.agg #[.int .i64 0, .int .i64 0, .int .i64 0, .int .i64 0]) Tryz.underlying50 hn0 hx0 .i64 .i64 (n : Int) (n : Int) (by omega) (Int.le_refl _) (by rw [hx2]; omega) (by omega)
 rw [this]
 simp [hx1, Value.cells]
theorem made_rects {w : World} {base n : Nat} {T : TypeId} (hb : base ≤ w.heap.size) (hn : n ≤ maxLen) : (w.alloc (.cells (madeCells #[.int .i64 0, .int .i64 0, .int .i64 0, .int .i64 0] (n * 4)) T)).ownsRow base T 4 (.slice (some ⟨w.heap.size, 0, none⟩) n n) n ((List.replicate n (⟨0, 0, 0, 0⟩ : Rect)).flatMap cellsR) := by
 refine ⟨by rw [flat_zero]; simp, .inr ⟨w.heap.size, n, madeCells #[.int .i64 0, .int .i64 0, .int .i64 0, .int .i64 0] (n * 4), rfl, hb, heap_alloc_new w _, Nat.le_refl _, hn, by simp [size_madeCells], ?_⟩⟩
 rw [made_toList, flat_zero, List.take_of_length_le (by simp)]

def markC (c : Cut) (O : List Bool) : List Bool := if c.low = 0 then O else (O.set c.low.toNat true).set c.high.toNat true
theorem markC_len {c : Cut} {O : List Bool} : (markC c O).length = O.length := by unfold markC; split <;> simp
def ownGo (n : Nat) : List Cut → Nat → List Bool → Int × List Bool
 | [], _, O => (0, O)
 | c :: r, i, O => if cutErrM c i n O ≠ 0 then (cutErrM c i n O, O) else ownGo n r (i + 1) (markC c O)
section
variable {n : Nat} {l : List Cut} {k : Nat} {O : List Bool} {q : Int × List Bool}
theorem own_err {E : Int} (hk : k < l.length) (h : q = ownGo n (l.drop k) k O) (he : cutErrM l[k] k n O = E) (hE : E ≠ 0) : q = (E, O) := by
 subst he
 rw [h, List.drop_eq_getElem_cons hk, ownGo, if_pos hE]
theorem own_step (hk : k < l.length) (h : q = ownGo n (l.drop k) k O) (he : cutErrM l[k] k n O = 0) : q = ownGo n (l.drop (k + 1)) (k + 1) (markC l[k] O) := by
 rw [h, List.drop_eq_getElem_cons hk, ownGo, if_neg (by simp [he])]
theorem own_end (hk : l.length ≤ k) (h : q = ownGo n (l.drop k) k O) : q = (0, O) := by rw [h, List.drop_of_length_le hk]; rfl
end
def sizeR (r : Rect) (across : Bool) : Int := if across = true then r.x2 - r.x1 else r.y2 - r.y1
def stepR (kerf : Int) (c : Cut) (q : Rect) (R : List Rect) : List Rect := (R.set c.low.toNat (lowR q c.across c.at_)).set c.high.toNat (highR q c.across c.at_ kerf)
def rectGo (kerf : Int) : List Cut → Nat → List Rect → List Rect × Int
 | [], _, R => (R, 0)
 | c :: r, i, R => if c.low = 0 then rectGo kerf r (i + 1) R else if withinB c.at_ 1 (sizeR (R.getD i ⟨0, 0, 0, 0⟩) c.across - 1) = false then ([], 2) else rectGo kerf r (i + 1) (stepR kerf c (R.getD i ⟨0, 0, 0, 0⟩) R)
section
variable {kerf : Int} {l : List Cut} {k : Nat} {R : List Rect} {q : List Rect × Int}
theorem getR {R : List Rect} {k : Nat} (hk : k < R.length) : R.getD k ⟨0, 0, 0, 0⟩ = R[k] := by rw [List.getD_eq_getElem?_getD, List.getElem?_eq_getElem hk]; rfl
theorem rect_leaf (hk : k < l.length) (h : q = rectGo kerf (l.drop k) k R) (he : l[k].low = 0) : q = rectGo kerf (l.drop (k + 1)) (k + 1) R := by
 rw [h, List.drop_eq_getElem_cons hk, rectGo, if_pos he]
theorem rect_err (hk : k < l.length) (hR : k < R.length) (h : q = rectGo kerf (l.drop k) k R) (he : ¬ l[k].low = 0) (hw : withinB l[k].at_ 1 (sizeR R[k] l[k].across - 1) = false) : q = ([], 2) := by
 rw [h, List.drop_eq_getElem_cons hk, rectGo, if_neg he, getR hR, if_pos hw]
theorem rect_step (hk : k < l.length) (hR : k < R.length) (h : q = rectGo kerf (l.drop k) k R) (he : ¬ l[k].low = 0) (hw : withinB l[k].at_ 1 (sizeR R[k] l[k].across - 1) = true) : q = rectGo kerf (l.drop (k + 1)) (k + 1) (stepR kerf l[k] R[k] R) := by
 rw [h, List.drop_eq_getElem_cons hk, rectGo, if_neg he, getR hR, if_neg (by rw [hw]; decide)]
theorem rect_end (hk : l.length ≤ k) (h : q = rectGo kerf (l.drop k) k R) : q = (R, 0) := by rw [h, List.drop_of_length_le hk]; rfl
end
theorem stepR_len {kerf : Int} {c : Cut} {q : Rect} {R : List Rect} : (stepR kerf c q R).length = R.length := by simp [stepR]
theorem okR_low {r : Rect} {ac : Bool} {a : Int} (h : okR r) (ha : 1 ≤ a ∧ a ≤ sizeR r ac - 1) : okR (lowR r ac a) := by
 rcases h with rfl | h
 ·unfold sizeR at ha; split at ha <;> simp at ha <;> omega
 ·right
  unfold proper at h ⊢
  unfold sizeR at ha
  unfold lowR
  split at ha <;> simp_all <;> omega
theorem okR_high {r : Rect} {ac : Bool} {a kerf : Int} (h : okR r) (ha : 1 ≤ a ∧ a ≤ sizeR r ac - 1) (hk : 0 ≤ kerf) : okR (highR r ac a kerf) := by
 rcases h with rfl | h
 ·unfold sizeR at ha; split at ha <;> simp at ha <;> omega
 ·unfold proper at h
  unfold sizeR at ha
  unfold highR
  refine okR_whole ?_
  split at ha <;> simp_all <;> omega
theorem okR_step {kerf : Int} {c : Cut} {q : Rect} {R : List Rect} (h : ∀ r ∈ R, okR r) (hq : okR q) (ha : 1 ≤ c.at_ ∧ c.at_ ≤ sizeR q c.across - 1) (hk : 0 ≤ kerf) : ∀ r ∈ stepR kerf c q R, okR r := by
 intro r hr
 unfold stepR at hr
 rcases List.mem_or_eq_of_mem_set hr with hr | rfl
 ·rcases List.mem_or_eq_of_mem_set hr with hr | rfl
  ·exact h r hr
  ·exact okR_low hq ha
 ·exact okR_high hq ha hk
def regM (u : Rect) (kerf : Int) (l : List Cut) : List Rect × Int :=
 if l.length = 0 then ([], 10) else if 400 < l.length then ([], 8)
 else if (ownGo l.length l 0 (List.replicate l.length false)).1 ≠ 0 then ([], (ownGo l.length l 0 (List.replicate l.length false)).1)
 else if (((ownGo l.length l 0 (List.replicate l.length false)).2).set 0 true).all id = false then ([], 10)
 else rectGo kerf l 0 ((List.replicate l.length ⟨0, 0, 0, 0⟩).set 0 u)
def layM (b : Board) (t : Trim) (l : List Cut) : List Rect × Int := if cutE b t ≠ 0 then ([], cutE b t) else regM (usableR b t) t.kerf l
def LayPost (w : World) (q : List Rect × Int) (e : Ending) (w' : World) : Prop := ∃ (a : Option Addr) (c : Nat), e = .returned (.tuple #[.slice a q.1.length c, .int .i64 q.2]) ∧ Rects.V w' a q.1 ∧ Below w.heap.size w w' ∧ (∀ x : Addr, a = some x → w.heap.size ≤ x.block)
theorem LayPost.empty {w w' : World} {q : List Rect × Int} {E : Int} (hq : q = ([], E)) (hb : Below w.heap.size w w') : LayPost w q (.returned (.tuple #[.slice none 0 0, .int .i64 E])) w' := by
 subst hq
 exact ⟨none, 0, rfl, fun h => absurd rfl h, hb, fun x h => by cases h⟩
end Go.Proofs.YtjmgboipbhddlaaGreatDoor

set_option linter.unusedVariables false
set_option linter.unusedSimpArgs false
namespace Go.Proofs.YtjmgboipbhddlaaGreatDoor
open Go Go.RowKit

structure HeadC (W : World) (g : Nat) (c : Cut) : Prop where
 a : W.cell? ⟨g, 0, none⟩ = some (.bool c.across)
 t : W.cell? ⟨g, 1, none⟩ = some (.int .i64 c.at_)
theorem HeadC.keep {W W' : World} {g : Nat} {c : Cut} (h : HeadC W g c) (hb : Below W.heap.size W W') : HeadC W' g c := ⟨cell_keep hb h.a, cell_keep hb h.t⟩
theorem HeadC.drew {W : World} {g : Nat} {c : Cut} (h : HeadC W g c) : HeadC W.drew g c := ⟨h.a, h.t⟩
theorem HeadC.set {W : World} {g : Nat} {c : Cut} {a : Addr} {u : Value} (h : HeadC W g c) (hne : a.block ≠ g) (ha : a.spot = none) : HeadC (W.setCell a u) g c := by
 have hn : ∀ o, a ≠ (⟨g, o, none⟩ : Addr) := fun o e => hne (by rw [e])
 exact ⟨by rw [cell_set_ne (hn _) ha rfl]; exact h.a, by rw [cell_set_ne (hn _) ha rfl]; exact h.t⟩
structure PartW (w : World) (r : Rect) (c : Cut) (gx gy : Nat) (b1 b2 : Rect) (W : World) : Prop where
 br : BoxR W w.heap.size r
 hc : HeadC W (w.heap.size + 1) c
 bl : BoxR W (w.heap.size + 2) ⟨0, 0, 0, 0⟩
 bh : BoxR W (w.heap.size + 3) ⟨0, 0, 0, 0⟩
 bx : BoxR W gx b1
 by_ : BoxR W gy b2
 ne : gx ≠ gy
 hx : w.heap.size + 3 < gx
 hy : w.heap.size + 3 < gy
 be : Below w.heap.size w W
def PartR (w : World) (r : Rect) (c : Cut) (u : Nat → Value) (W : World) : Prop := ∃ gx gy : Nat, u 8 = .pointer (some ⟨gx, 0, none⟩) ∧ u 9 = .pointer (some ⟨gy, 0, none⟩) ∧ PartW w r c gx gy r r W

theorem BoxR.alloc {W : World} {g : Nat} {r : Rect} (h : BoxR W g r) (o : Obj) : BoxR (W.alloc o) g r := h.keep ((Below.refl _ _).alloc (Nat.le_refl _) _)
theorem HeadC.alloc {W : World} {g : Nat} {c : Cut} (h : HeadC W g c) (o : Obj) : HeadC (W.alloc o) g c := h.keep ((Below.refl _ _).alloc (Nat.le_refl _) _)
theorem PartW.keep {w W W' : World} {r : Rect} {c : Cut} {gx gy : Nat} {b1 b2 : Rect} (h : PartW w r c gx gy b1 b2 W) (hb : Below W.heap.size W W') : PartW w r c gx gy b1 b2 W' :=
 ⟨h.br.keep hb, h.hc.keep hb, h.bl.keep hb, h.bh.keep hb, h.bx.keep hb, h.by_.keep hb, h.ne, h.hx, h.hy, h.be.trans (hb.mono h.be.size)⟩
theorem bne_f5 {a : Int} (h : a = 0) : (a != 0) = false := by simpa using h
theorem bne_t5 {a : Int} (h : ¬ a = 0) : (a != 0) = true := by simpa using h
theorem boxR_new (W : World) (g : Nat) (T : TypeId) (hg : g = W.heap.size) : BoxR (W.alloc (.cells #[.int .i64 0, .int .i64 0, .int .i64 0, .int .i64 0] T)) g ⟨0, 0, 0, 0⟩ := by
 subst hg
 exact ⟨by simp [go_sem], by simp [go_sem], by simp [go_sem], by simp [go_sem], by simp [go_sem], by simp [go_sem], by simp [go_sem], by simp [go_sem]⟩
theorem boxR_new2 (W : World) (g : Nat) (T : TypeId) (q : Rect) (hg : g = W.heap.size) : BoxR (W.alloc (.cells #[.int .i64 q.x1, .int .i64 q.y1, .int .i64 q.x2, .int .i64 q.y2] T)) g q := by
 subst hg
 exact ⟨by simp [go_sem], by simp [go_sem], by simp [go_sem], by simp [go_sem], by simp [go_sem], by simp [go_sem], by simp [go_sem], by simp [go_sem]⟩
section
variable {W : World} {g : Nat} {x1 y1 x2 y2 : Int}
theorem BoxR.s0 (h : BoxR W g ⟨x1, y1, x2, y2⟩) (v : Int) : BoxR (W.setCell ⟨g, 0, none⟩ (.int .i64 v)) g ⟨v, y1, x2, y2⟩ := by
 obtain ⟨c0, c1, c2, c3, f0, f1, f2, f3⟩ := h
 simp only at c0 c1 c2 c3
 exact ⟨by simp [go_sem, *], by simp [go_sem, *], by simp [go_sem, *], by simp [go_sem, *], by simp [go_sem, *], by simp [go_sem, *], by simp [go_sem, *], by simp [go_sem, *]⟩
theorem BoxR.s1 (h : BoxR W g ⟨x1, y1, x2, y2⟩) (v : Int) : BoxR (W.setCell ⟨g, 1, none⟩ (.int .i64 v)) g ⟨x1, v, x2, y2⟩ := by
 obtain ⟨c0, c1, c2, c3, f0, f1, f2, f3⟩ := h
 simp only at c0 c1 c2 c3
 exact ⟨by simp [go_sem, *], by simp [go_sem, *], by simp [go_sem, *], by simp [go_sem, *], by simp [go_sem, *], by simp [go_sem, *], by simp [go_sem, *], by simp [go_sem, *]⟩
theorem BoxR.s2 (h : BoxR W g ⟨x1, y1, x2, y2⟩) (v : Int) : BoxR (W.setCell ⟨g, 2, none⟩ (.int .i64 v)) g ⟨x1, y1, v, y2⟩ := by
 obtain ⟨c0, c1, c2, c3, f0, f1, f2, f3⟩ := h
 simp only at c0 c1 c2 c3
 exact ⟨by simp [go_sem, *], by simp [go_sem, *], by simp [go_sem, *], by simp [go_sem, *], by simp [go_sem, *], by simp [go_sem, *], by simp [go_sem, *], by simp [go_sem, *]⟩
theorem BoxR.s3 (h : BoxR W g ⟨x1, y1, x2, y2⟩) (v : Int) : BoxR (W.setCell ⟨g, 3, none⟩ (.int .i64 v)) g ⟨x1, y1, x2, v⟩ := by
 obtain ⟨c0, c1, c2, c3, f0, f1, f2, f3⟩ := h
 simp only at c0 c1 c2 c3
 exact ⟨by simp [go_sem, *], by simp [go_sem, *], by simp [go_sem, *], by simp [go_sem, *], by simp [go_sem, *], by simp [go_sem, *], by simp [go_sem, *], by simp [go_sem, *]⟩
end
set_option maxRecDepth 100000 in
set_option maxHeartbeats 8000000 in
theorem parts_is (r low high : Rect) (c : Cut) (kerf : Int) (w : World) (hl : lowR r c.across c.at_ = low) (hh : highR r c.across c.at_ kerf = high)
    (h1 : 0 ≤ r.x1 ∧ r.x1 ≤ 600000 ∧ 0 ≤ r.y1 ∧ r.y1 ≤ 600000) (h2 : 0 ≤ c.at_ ∧ c.at_ ≤ 600000) (h3 : 0 ≤ kerf ∧ kerf ≤ 10000) :
    Calls Tryz.prog 63 #[.agg #[.int .i64 r.x1, .int .i64 r.y1, .int .i64 r.x2, .int .i64 r.y2], .agg #[.bool c.across, .int .i64 c.at_, .int .i64 c.low, .int .i64 c.high, .int .i64 c.blank], .int .i64 kerf] w fun e w' => e = .returned (.tuple #[.agg #[.int .i64 low.x1, .int .i64 low.y1, .int .i64 low.x2, .int .i64 low.y2], .agg #[.int .i64 high.x1, .int .i64 high.y1, .int .i64 high.x2, .int .i64 high.y2]]) ∧ Below w.heap.size w w' := by
 have kx0 : ∀ x : KW (fun W => BoxR W w.heap.size r ∧ HeadC W (w.heap.size + 1) c), x.w.cell? ⟨w.heap.size, 0, none⟩ = some (.int .i64 r.x1) := fun x => x.ok.1.c0
 have kx1 : ∀ x : KW (fun W => BoxR W w.heap.size r ∧ HeadC W (w.heap.size + 1) c), x.w.cell? ⟨w.heap.size, 1, none⟩ = some (.int .i64 r.y1) := fun x => x.ok.1.c1
 have kx2 : ∀ x : KW (fun W => BoxR W w.heap.size r ∧ HeadC W (w.heap.size + 1) c), x.w.cell? ⟨w.heap.size, 2, none⟩ = some (.int .i64 r.x2) := fun x => x.ok.1.c2
 have kx3 : ∀ x : KW (fun W => BoxR W w.heap.size r ∧ HeadC W (w.heap.size + 1) c), x.w.cell? ⟨w.heap.size, 3, none⟩ = some (.int .i64 r.y2) := fun x => x.ok.1.c3
 have kx4 : ∀ x : KW (fun W => BoxR W w.heap.size r ∧ HeadC W (w.heap.size + 1) c), x.w.cell? ⟨w.heap.size + 1, 1, none⟩ = some (.int .i64 c.at_) := fun x => x.ok.2.t
 go_enter Tryz.func63, Tryz.ntmps63
 go_upto_region 1 with fail
 refine gen_world (fun W => BoxR W w.heap.size r ∧ HeadC W (w.heap.size + 1) c ∧ BoxR W (w.heap.size + 2) ⟨0, 0, 0, 0⟩ ∧ BoxR W (w.heap.size + 3) ⟨0, 0, 0, 0⟩ ∧ Below w.heap.size w W ∧ w.heap.size + 3 < W.heap.size) ?_ ?_
 ·refine ⟨?_, ?_, ?_, ?_, ?_, by simp⟩
  ·exact ⟨by simp [go_sem, *], by simp [go_sem, *], by simp [go_sem, *], by simp [go_sem, *], by simp [go_sem, *], by simp [go_sem, *], by simp [go_sem, *], by simp [go_sem, *]⟩
  ·exact ⟨by simp [go_sem, *], by simp [go_sem, *]⟩
  ·exact ⟨by simp [go_sem, *], by simp [go_sem, *], by simp [go_sem, *], by simp [go_sem, *], by simp [go_sem, *], by simp [go_sem, *], by simp [go_sem, *], by simp [go_sem, *]⟩
  ·exact ⟨by simp [go_sem, *], by simp [go_sem, *], by simp [go_sem, *], by simp [go_sem, *], by simp [go_sem, *], by simp [go_sem, *], by simp [go_sem, *], by simp [go_sem, *]⟩
  ·exact (((((Below.refl _ _).alloc (Nat.le_refl _) _).alloc (by simp) _).alloc (by simp; omega) _).alloc (by simp; omega) _)
 rintro W ⟨b0, b1, b2, b3, hbW, hz⟩
 refine wp_cut_slots [8, 9, 10, 11] (PartR w r c) ?_ ?_
 ·haveI hne : Nonempty (KW (fun W => BoxR W w.heap.size r ∧ HeadC W (w.heap.size + 1) c)) := ⟨⟨_, b0, b1⟩⟩
  refine wp_region_tree (fun w' => ∃ x : KW (fun W => BoxR W w.heap.size r ∧ HeadC W (w.heap.size + 1) c), w' = x.w) 5 (.take 0 (.take 1 (.two 2 (.one 3 (.one 4 .done)) 3 (.one 2 (.one 4 .done))))) (by kernel_rfl) (by kernel_rfl) (KW.mk' ⟨b0.drew, b1.drew⟩) ?_
  repeat (refine wpTree_take ?_; simp only [nthOp]; (first | go_big_quiet_step (fail) | quiet_step (fail)); refine wpQuiet_nil ?_)
  have c0 := b0.drew
  have c1 := b1.drew
  have c2 := b2.drew
  have c3 := b3.drew
  have cb := hbW.drew
  have cz : w.heap.size + 3 < W.drew.heap.size := by simpa using hz
  generalize W.drew = W0 at *
  clear b0 b1 b2 b3 hbW hz
  refine wpTree_two ?_ ?_
  ·simp only [nthOp]
   go_wp2_with fail
   refine One_mk (KW.mk' ⟨by (repeat (first | (with_reducible assumption) | (with_reducible refine BoxR.drew ?_) | (with_reducible refine HeadC.drew ?_) | (with_reducible apply BoxR.s0) | (with_reducible apply BoxR.s1) | (with_reducible apply BoxR.s2) | (with_reducible apply BoxR.s3) | (with_reducible refine BoxR.set ?_ (by first | (simp; done) | (simp; omega) | omega) rfl) | (with_reducible refine HeadC.set ?_ (by first | (simp; done) | (simp; omega) | omega) rfl) | ((with_reducible refine boxR_new _ _ _ ?_); (first | rfl | (simp; done))) | ((with_reducible refine boxR_new2 _ _ _ _ ?_); (first | rfl | (simp; done))) | (with_reducible refine BoxR.alloc ?_ _) | (with_reducible refine HeadC.alloc ?_ _))), by (repeat (first | (with_reducible assumption) | (with_reducible refine BoxR.drew ?_) | (with_reducible refine HeadC.drew ?_) | (with_reducible apply BoxR.s0) | (with_reducible apply BoxR.s1) | (with_reducible apply BoxR.s2) | (with_reducible apply BoxR.s3) | (with_reducible refine BoxR.set ?_ (by first | (simp; done) | (simp; omega) | omega) rfl) | (with_reducible refine HeadC.set ?_ (by first | (simp; done) | (simp; omega) | omega) rfl) | ((with_reducible refine boxR_new _ _ _ ?_); (first | rfl | (simp; done))) | ((with_reducible refine boxR_new2 _ _ _ _ ?_); (first | rfl | (simp; done))) | (with_reducible refine BoxR.alloc ?_ _) | (with_reducible refine HeadC.alloc ?_ _)))⟩) ?_
   refine wpTree_one ?_
   simp only [nthOp]
   go_wp2_with fail
   refine One_mk (KW.mk' ⟨by (repeat (first | (with_reducible assumption) | (with_reducible refine BoxR.drew ?_) | (with_reducible refine HeadC.drew ?_) | (with_reducible apply BoxR.s0) | (with_reducible apply BoxR.s1) | (with_reducible apply BoxR.s2) | (with_reducible apply BoxR.s3) | (with_reducible refine BoxR.set ?_ (by first | (simp; done) | (simp; omega) | omega) rfl) | (with_reducible refine HeadC.set ?_ (by first | (simp; done) | (simp; omega) | omega) rfl) | ((with_reducible refine boxR_new _ _ _ ?_); (first | rfl | (simp; done))) | ((with_reducible refine boxR_new2 _ _ _ _ ?_); (first | rfl | (simp; done))) | (with_reducible refine BoxR.alloc ?_ _) | (with_reducible refine HeadC.alloc ?_ _))), by (repeat (first | (with_reducible assumption) | (with_reducible refine BoxR.drew ?_) | (with_reducible refine HeadC.drew ?_) | (with_reducible apply BoxR.s0) | (with_reducible apply BoxR.s1) | (with_reducible apply BoxR.s2) | (with_reducible apply BoxR.s3) | (with_reducible refine BoxR.set ?_ (by first | (simp; done) | (simp; omega) | omega) rfl) | (with_reducible refine HeadC.set ?_ (by first | (simp; done) | (simp; omega) | omega) rfl) | ((with_reducible refine boxR_new _ _ _ ?_); (first | rfl | (simp; done))) | ((with_reducible refine boxR_new2 _ _ _ _ ?_); (first | rfl | (simp; done))) | (with_reducible refine BoxR.alloc ?_ _) | (with_reducible refine HeadC.alloc ?_ _)))⟩) ?_
   refine wpTree_one ?_
   simp only [nthOp]
   go_wp2_with fail
   refine One_mk (KW.mk' ⟨by (repeat (first | (with_reducible assumption) | (with_reducible refine BoxR.drew ?_) | (with_reducible refine HeadC.drew ?_) | (with_reducible apply BoxR.s0) | (with_reducible apply BoxR.s1) | (with_reducible apply BoxR.s2) | (with_reducible apply BoxR.s3) | (with_reducible refine BoxR.set ?_ (by first | (simp; done) | (simp; omega) | omega) rfl) | (with_reducible refine HeadC.set ?_ (by first | (simp; done) | (simp; omega) | omega) rfl) | ((with_reducible refine boxR_new _ _ _ ?_); (first | rfl | (simp; done))) | ((with_reducible refine boxR_new2 _ _ _ _ ?_); (first | rfl | (simp; done))) | (with_reducible refine BoxR.alloc ?_ _) | (with_reducible refine HeadC.alloc ?_ _))), by (repeat (first | (with_reducible assumption) | (with_reducible refine BoxR.drew ?_) | (with_reducible refine HeadC.drew ?_) | (with_reducible apply BoxR.s0) | (with_reducible apply BoxR.s1) | (with_reducible apply BoxR.s2) | (with_reducible apply BoxR.s3) | (with_reducible refine BoxR.set ?_ (by first | (simp; done) | (simp; omega) | omega) rfl) | (with_reducible refine HeadC.set ?_ (by first | (simp; done) | (simp; omega) | omega) rfl) | ((with_reducible refine boxR_new _ _ _ ?_); (first | rfl | (simp; done))) | ((with_reducible refine boxR_new2 _ _ _ _ ?_); (first | rfl | (simp; done))) | (with_reducible refine BoxR.alloc ?_ _) | (with_reducible refine HeadC.alloc ?_ _)))⟩) (wpTree_done ?_)
   simp only [List.drop_succ_cons, List.drop_zero]
   go_wp2_with fail
   refine NP_mk ?_
   exact cut_meet (by simp [forget]) ⟨W0.heap.size, W0.heap.size + 1, by simp, by simp, by (repeat (first | (with_reducible assumption) | (with_reducible refine BoxR.drew ?_) | (with_reducible refine HeadC.drew ?_) | (with_reducible apply BoxR.s0) | (with_reducible apply BoxR.s1) | (with_reducible apply BoxR.s2) | (with_reducible apply BoxR.s3) | (with_reducible refine BoxR.set ?_ (by first | (simp; done) | (simp; omega) | omega) rfl) | (with_reducible refine HeadC.set ?_ (by first | (simp; done) | (simp; omega) | omega) rfl) | ((with_reducible refine boxR_new _ _ _ ?_); (first | rfl | (simp; done))) | ((with_reducible refine boxR_new2 _ _ _ _ ?_); (first | rfl | (simp; done))) | (with_reducible refine BoxR.alloc ?_ _) | (with_reducible refine HeadC.alloc ?_ _))), by (repeat (first | (with_reducible assumption) | (with_reducible refine BoxR.drew ?_) | (with_reducible refine HeadC.drew ?_) | (with_reducible apply BoxR.s0) | (with_reducible apply BoxR.s1) | (with_reducible apply BoxR.s2) | (with_reducible apply BoxR.s3) | (with_reducible refine BoxR.set ?_ (by first | (simp; done) | (simp; omega) | omega) rfl) | (with_reducible refine HeadC.set ?_ (by first | (simp; done) | (simp; omega) | omega) rfl) | ((with_reducible refine boxR_new _ _ _ ?_); (first | rfl | (simp; done))) | ((with_reducible refine boxR_new2 _ _ _ _ ?_); (first | rfl | (simp; done))) | (with_reducible refine BoxR.alloc ?_ _) | (with_reducible refine HeadC.alloc ?_ _))), by (repeat (first | (with_reducible assumption) | (with_reducible refine BoxR.drew ?_) | (with_reducible refine HeadC.drew ?_) | (with_reducible apply BoxR.s0) | (with_reducible apply BoxR.s1) | (with_reducible apply BoxR.s2) | (with_reducible apply BoxR.s3) | (with_reducible refine BoxR.set ?_ (by first | (simp; done) | (simp; omega) | omega) rfl) | (with_reducible refine HeadC.set ?_ (by first | (simp; done) | (simp; omega) | omega) rfl) | ((with_reducible refine boxR_new _ _ _ ?_); (first | rfl | (simp; done))) | ((with_reducible refine boxR_new2 _ _ _ _ ?_); (first | rfl | (simp; done))) | (with_reducible refine BoxR.alloc ?_ _) | (with_reducible refine HeadC.alloc ?_ _))), by (repeat (first | (with_reducible assumption) | (with_reducible refine BoxR.drew ?_) | (with_reducible refine HeadC.drew ?_) | (with_reducible apply BoxR.s0) | (with_reducible apply BoxR.s1) | (with_reducible apply BoxR.s2) | (with_reducible apply BoxR.s3) | (with_reducible refine BoxR.set ?_ (by first | (simp; done) | (simp; omega) | omega) rfl) | (with_reducible refine HeadC.set ?_ (by first | (simp; done) | (simp; omega) | omega) rfl) | ((with_reducible refine boxR_new _ _ _ ?_); (first | rfl | (simp; done))) | ((with_reducible refine boxR_new2 _ _ _ _ ?_); (first | rfl | (simp; done))) | (with_reducible refine BoxR.alloc ?_ _) | (with_reducible refine HeadC.alloc ?_ _))), by (repeat (first | (with_reducible assumption) | (with_reducible refine BoxR.drew ?_) | (with_reducible refine HeadC.drew ?_) | (with_reducible apply BoxR.s0) | (with_reducible apply BoxR.s1) | (with_reducible apply BoxR.s2) | (with_reducible apply BoxR.s3) | (with_reducible refine BoxR.set ?_ (by first | (simp; done) | (simp; omega) | omega) rfl) | (with_reducible refine HeadC.set ?_ (by first | (simp; done) | (simp; omega) | omega) rfl) | ((with_reducible refine boxR_new _ _ _ ?_); (first | rfl | (simp; done))) | ((with_reducible refine boxR_new2 _ _ _ _ ?_); (first | rfl | (simp; done))) | (with_reducible refine BoxR.alloc ?_ _) | (with_reducible refine HeadC.alloc ?_ _))), by (repeat (first | (with_reducible assumption) | (with_reducible refine BoxR.drew ?_) | (with_reducible refine HeadC.drew ?_) | (with_reducible apply BoxR.s0) | (with_reducible apply BoxR.s1) | (with_reducible apply BoxR.s2) | (with_reducible apply BoxR.s3) | (with_reducible refine BoxR.set ?_ (by first | (simp; done) | (simp; omega) | omega) rfl) | (with_reducible refine HeadC.set ?_ (by first | (simp; done) | (simp; omega) | omega) rfl) | ((with_reducible refine boxR_new _ _ _ ?_); (first | rfl | (simp; done))) | ((with_reducible refine boxR_new2 _ _ _ _ ?_); (first | rfl | (simp; done))) | (with_reducible refine BoxR.alloc ?_ _) | (with_reducible refine HeadC.alloc ?_ _))), by omega, by omega, by omega, by (repeat (first | (with_reducible assumption) | (with_reducible refine Below.drew ?_) | (with_reducible refine Below.setCell ?_ (by first | (simp; done) | (simp; omega) | omega) _) | (with_reducible refine Below.alloc ?_ (by first | (simp; done) | (simp; omega) | omega) _)))⟩
  ·simp only [nthOp]
   go_wp2_with fail
   refine One_mk (KW.mk' ⟨by (repeat (first | (with_reducible assumption) | (with_reducible refine BoxR.drew ?_) | (with_reducible refine HeadC.drew ?_) | (with_reducible apply BoxR.s0) | (with_reducible apply BoxR.s1) | (with_reducible apply BoxR.s2) | (with_reducible apply BoxR.s3) | (with_reducible refine BoxR.set ?_ (by first | (simp; done) | (simp; omega) | omega) rfl) | (with_reducible refine HeadC.set ?_ (by first | (simp; done) | (simp; omega) | omega) rfl) | ((with_reducible refine boxR_new _ _ _ ?_); (first | rfl | (simp; done))) | ((with_reducible refine boxR_new2 _ _ _ _ ?_); (first | rfl | (simp; done))) | (with_reducible refine BoxR.alloc ?_ _) | (with_reducible refine HeadC.alloc ?_ _))), by (repeat (first | (with_reducible assumption) | (with_reducible refine BoxR.drew ?_) | (with_reducible refine HeadC.drew ?_) | (with_reducible apply BoxR.s0) | (with_reducible apply BoxR.s1) | (with_reducible apply BoxR.s2) | (with_reducible apply BoxR.s3) | (with_reducible refine BoxR.set ?_ (by first | (simp; done) | (simp; omega) | omega) rfl) | (with_reducible refine HeadC.set ?_ (by first | (simp; done) | (simp; omega) | omega) rfl) | ((with_reducible refine boxR_new _ _ _ ?_); (first | rfl | (simp; done))) | ((with_reducible refine boxR_new2 _ _ _ _ ?_); (first | rfl | (simp; done))) | (with_reducible refine BoxR.alloc ?_ _) | (with_reducible refine HeadC.alloc ?_ _)))⟩) ?_
   refine wpTree_one ?_
   simp only [nthOp]
   go_wp2_with fail
   refine One_mk (KW.mk' ⟨by (repeat (first | (with_reducible assumption) | (with_reducible refine BoxR.drew ?_) | (with_reducible refine HeadC.drew ?_) | (with_reducible apply BoxR.s0) | (with_reducible apply BoxR.s1) | (with_reducible apply BoxR.s2) | (with_reducible apply BoxR.s3) | (with_reducible refine BoxR.set ?_ (by first | (simp; done) | (simp; omega) | omega) rfl) | (with_reducible refine HeadC.set ?_ (by first | (simp; done) | (simp; omega) | omega) rfl) | ((with_reducible refine boxR_new _ _ _ ?_); (first | rfl | (simp; done))) | ((with_reducible refine boxR_new2 _ _ _ _ ?_); (first | rfl | (simp; done))) | (with_reducible refine BoxR.alloc ?_ _) | (with_reducible refine HeadC.alloc ?_ _))), by (repeat (first | (with_reducible assumption) | (with_reducible refine BoxR.drew ?_) | (with_reducible refine HeadC.drew ?_) | (with_reducible apply BoxR.s0) | (with_reducible apply BoxR.s1) | (with_reducible apply BoxR.s2) | (with_reducible apply BoxR.s3) | (with_reducible refine BoxR.set ?_ (by first | (simp; done) | (simp; omega) | omega) rfl) | (with_reducible refine HeadC.set ?_ (by first | (simp; done) | (simp; omega) | omega) rfl) | ((with_reducible refine boxR_new _ _ _ ?_); (first | rfl | (simp; done))) | ((with_reducible refine boxR_new2 _ _ _ _ ?_); (first | rfl | (simp; done))) | (with_reducible refine BoxR.alloc ?_ _) | (with_reducible refine HeadC.alloc ?_ _)))⟩) ?_
   refine wpTree_one ?_
   simp only [nthOp]
   go_wp2_with fail
   refine One_mk (KW.mk' ⟨by (repeat (first | (with_reducible assumption) | (with_reducible refine BoxR.drew ?_) | (with_reducible refine HeadC.drew ?_) | (with_reducible apply BoxR.s0) | (with_reducible apply BoxR.s1) | (with_reducible apply BoxR.s2) | (with_reducible apply BoxR.s3) | (with_reducible refine BoxR.set ?_ (by first | (simp; done) | (simp; omega) | omega) rfl) | (with_reducible refine HeadC.set ?_ (by first | (simp; done) | (simp; omega) | omega) rfl) | ((with_reducible refine boxR_new _ _ _ ?_); (first | rfl | (simp; done))) | ((with_reducible refine boxR_new2 _ _ _ _ ?_); (first | rfl | (simp; done))) | (with_reducible refine BoxR.alloc ?_ _) | (with_reducible refine HeadC.alloc ?_ _))), by (repeat (first | (with_reducible assumption) | (with_reducible refine BoxR.drew ?_) | (with_reducible refine HeadC.drew ?_) | (with_reducible apply BoxR.s0) | (with_reducible apply BoxR.s1) | (with_reducible apply BoxR.s2) | (with_reducible apply BoxR.s3) | (with_reducible refine BoxR.set ?_ (by first | (simp; done) | (simp; omega) | omega) rfl) | (with_reducible refine HeadC.set ?_ (by first | (simp; done) | (simp; omega) | omega) rfl) | ((with_reducible refine boxR_new _ _ _ ?_); (first | rfl | (simp; done))) | ((with_reducible refine boxR_new2 _ _ _ _ ?_); (first | rfl | (simp; done))) | (with_reducible refine BoxR.alloc ?_ _) | (with_reducible refine HeadC.alloc ?_ _)))⟩) (wpTree_done ?_)
   simp only [List.drop_succ_cons, List.drop_zero]
   go_wp2_with fail
   refine NP_mk ?_
   exact cut_meet (by simp [forget]) ⟨W0.heap.size + 1, W0.heap.size, by simp, by simp, by (repeat (first | (with_reducible assumption) | (with_reducible refine BoxR.drew ?_) | (with_reducible refine HeadC.drew ?_) | (with_reducible apply BoxR.s0) | (with_reducible apply BoxR.s1) | (with_reducible apply BoxR.s2) | (with_reducible apply BoxR.s3) | (with_reducible refine BoxR.set ?_ (by first | (simp; done) | (simp; omega) | omega) rfl) | (with_reducible refine HeadC.set ?_ (by first | (simp; done) | (simp; omega) | omega) rfl) | ((with_reducible refine boxR_new _ _ _ ?_); (first | rfl | (simp; done))) | ((with_reducible refine boxR_new2 _ _ _ _ ?_); (first | rfl | (simp; done))) | (with_reducible refine BoxR.alloc ?_ _) | (with_reducible refine HeadC.alloc ?_ _))), by (repeat (first | (with_reducible assumption) | (with_reducible refine BoxR.drew ?_) | (with_reducible refine HeadC.drew ?_) | (with_reducible apply BoxR.s0) | (with_reducible apply BoxR.s1) | (with_reducible apply BoxR.s2) | (with_reducible apply BoxR.s3) | (with_reducible refine BoxR.set ?_ (by first | (simp; done) | (simp; omega) | omega) rfl) | (with_reducible refine HeadC.set ?_ (by first | (simp; done) | (simp; omega) | omega) rfl) | ((with_reducible refine boxR_new _ _ _ ?_); (first | rfl | (simp; done))) | ((with_reducible refine boxR_new2 _ _ _ _ ?_); (first | rfl | (simp; done))) | (with_reducible refine BoxR.alloc ?_ _) | (with_reducible refine HeadC.alloc ?_ _))), by (repeat (first | (with_reducible assumption) | (with_reducible refine BoxR.drew ?_) | (with_reducible refine HeadC.drew ?_) | (with_reducible apply BoxR.s0) | (with_reducible apply BoxR.s1) | (with_reducible apply BoxR.s2) | (with_reducible apply BoxR.s3) | (with_reducible refine BoxR.set ?_ (by first | (simp; done) | (simp; omega) | omega) rfl) | (with_reducible refine HeadC.set ?_ (by first | (simp; done) | (simp; omega) | omega) rfl) | ((with_reducible refine boxR_new _ _ _ ?_); (first | rfl | (simp; done))) | ((with_reducible refine boxR_new2 _ _ _ _ ?_); (first | rfl | (simp; done))) | (with_reducible refine BoxR.alloc ?_ _) | (with_reducible refine HeadC.alloc ?_ _))), by (repeat (first | (with_reducible assumption) | (with_reducible refine BoxR.drew ?_) | (with_reducible refine HeadC.drew ?_) | (with_reducible apply BoxR.s0) | (with_reducible apply BoxR.s1) | (with_reducible apply BoxR.s2) | (with_reducible apply BoxR.s3) | (with_reducible refine BoxR.set ?_ (by first | (simp; done) | (simp; omega) | omega) rfl) | (with_reducible refine HeadC.set ?_ (by first | (simp; done) | (simp; omega) | omega) rfl) | ((with_reducible refine boxR_new _ _ _ ?_); (first | rfl | (simp; done))) | ((with_reducible refine boxR_new2 _ _ _ _ ?_); (first | rfl | (simp; done))) | (with_reducible refine BoxR.alloc ?_ _) | (with_reducible refine HeadC.alloc ?_ _))), by (repeat (first | (with_reducible assumption) | (with_reducible refine BoxR.drew ?_) | (with_reducible refine HeadC.drew ?_) | (with_reducible apply BoxR.s0) | (with_reducible apply BoxR.s1) | (with_reducible apply BoxR.s2) | (with_reducible apply BoxR.s3) | (with_reducible refine BoxR.set ?_ (by first | (simp; done) | (simp; omega) | omega) rfl) | (with_reducible refine HeadC.set ?_ (by first | (simp; done) | (simp; omega) | omega) rfl) | ((with_reducible refine boxR_new _ _ _ ?_); (first | rfl | (simp; done))) | ((with_reducible refine boxR_new2 _ _ _ _ ?_); (first | rfl | (simp; done))) | (with_reducible refine BoxR.alloc ?_ _) | (with_reducible refine HeadC.alloc ?_ _))), by (repeat (first | (with_reducible assumption) | (with_reducible refine BoxR.drew ?_) | (with_reducible refine HeadC.drew ?_) | (with_reducible apply BoxR.s0) | (with_reducible apply BoxR.s1) | (with_reducible apply BoxR.s2) | (with_reducible apply BoxR.s3) | (with_reducible refine BoxR.set ?_ (by first | (simp; done) | (simp; omega) | omega) rfl) | (with_reducible refine HeadC.set ?_ (by first | (simp; done) | (simp; omega) | omega) rfl) | ((with_reducible refine boxR_new _ _ _ ?_); (first | rfl | (simp; done))) | ((with_reducible refine boxR_new2 _ _ _ _ ?_); (first | rfl | (simp; done))) | (with_reducible refine BoxR.alloc ?_ _) | (with_reducible refine HeadC.alloc ?_ _))), by omega, by omega, by omega, by (repeat (first | (with_reducible assumption) | (with_reducible refine Below.drew ?_) | (with_reducible refine Below.setCell ?_ (by first | (simp; done) | (simp; omega) | omega) _) | (with_reducible refine Below.alloc ?_ (by first | (simp; done) | (simp; omega) | omega) _)))⟩
 ·rintro u W2 ⟨gx, gy, ux, uy, hP⟩
  obtain ⟨br, hc, bl, bh, bx, by_, ne, hx, hy, be⟩ := hP
  clear b0 b1 b2 b3 hbW hz
  simp only [forget, List.foldl_cons, List.foldl_nil, ux, uy]
  obtain ⟨ka, kt⟩ := hc
  have hc := HeadC.mk ka kt
  cases hac : c.across
  ·have v1 : IntKind.i64.wrap (r.y1 + c.at_) = r.y1 + c.at_ := IntWalk.i64_in _ (by omega)
   have v2 : IntKind.i64.wrap (r.y1 + c.at_ + kerf) = r.y1 + c.at_ + kerf := IntWalk.i64_in _ (by omega)
   have HL := Lib.hid (show low = ⟨r.x1, r.y1, r.x2, r.y1 + c.at_⟩ by rw [← hl]; unfold lowR; rw [hac]; rfl)
   have HH := Lib.hid (show wholeR ⟨r.x1, r.y1 + c.at_ + kerf, r.x2, r.y2⟩ = high by rw [← hh]; unfold highR; rw [hac]; rfl)
   clear h1 h2 h3 hl hh
   rw [hac] at ka
   go_wp2_with fail
   haveI hne : Nonempty (KW (fun W => BoxR W w.heap.size r ∧ HeadC W (w.heap.size + 1) c)) := ⟨⟨_, br, hc⟩⟩
   refine wp_region_tree (fun w' => ∃ x : KW (fun W => BoxR W w.heap.size r ∧ HeadC W (w.heap.size + 1) c), w' = x.w) 14 (.take 0 (.take 1 (.take 2 (.take 3 (.take 4 (.take 5 (.take 6 (.take 7 (.take 8 (.take 9 (.take 10 (.take 11 (.take 12 (.one 13 .done)))))))))))))) (by kernel_rfl) (by kernel_rfl) (KW.mk' ⟨br.drew, hc.drew⟩) ?_
   repeat (refine wpTree_take ?_; simp only [nthOp]; (first | go_big_quiet_step (fail) | quiet_step (fail)); refine wpQuiet_nil ?_)
   obtain ⟨x0, x1, x2, x3, xf0, xf1, xf2, xf3⟩ := bx
   obtain ⟨y0, y1, y2, y3, yf0, yf1, yf2, yf3⟩ := by_
   have bx' := BoxR.mk x0 x1 x2 x3 xf0 xf1 xf2 xf3
   have by' := BoxR.mk y0 y1 y2 y3 yf0 yf1 yf2 yf3
   refine wpTree_one ?_
   simp only [nthOp]
   go_wp2_with fail
   refine One_mk (KW.mk' ⟨by (repeat (first | (with_reducible assumption) | (with_reducible refine BoxR.drew ?_) | (with_reducible refine HeadC.drew ?_) | (with_reducible apply BoxR.s0) | (with_reducible apply BoxR.s1) | (with_reducible apply BoxR.s2) | (with_reducible apply BoxR.s3) | (with_reducible refine BoxR.set ?_ (by first | (simp; done) | (simp; omega) | omega) rfl) | (with_reducible refine HeadC.set ?_ (by first | (simp; done) | (simp; omega) | omega) rfl) | ((with_reducible refine boxR_new _ _ _ ?_); (first | rfl | (simp; done))) | ((with_reducible refine boxR_new2 _ _ _ _ ?_); (first | rfl | (simp; done))) | (with_reducible refine BoxR.alloc ?_ _) | (with_reducible refine HeadC.alloc ?_ _))), by (repeat (first | (with_reducible assumption) | (with_reducible refine BoxR.drew ?_) | (with_reducible refine HeadC.drew ?_) | (with_reducible apply BoxR.s0) | (with_reducible apply BoxR.s1) | (with_reducible apply BoxR.s2) | (with_reducible apply BoxR.s3) | (with_reducible refine BoxR.set ?_ (by first | (simp; done) | (simp; omega) | omega) rfl) | (with_reducible refine HeadC.set ?_ (by first | (simp; done) | (simp; omega) | omega) rfl) | ((with_reducible refine boxR_new _ _ _ ?_); (first | rfl | (simp; done))) | ((with_reducible refine boxR_new2 _ _ _ _ ?_); (first | rfl | (simp; done))) | (with_reducible refine BoxR.alloc ?_ _) | (with_reducible refine HeadC.alloc ?_ _)))⟩) (wpTree_done ?_)
   simp only [List.drop_succ_cons, List.drop_zero]
   go_wp2_with fail
   refine NP_mk ?_
   refine gen_any (G := fun W => _) (fun W => PartW w r c gx gy low ⟨r.x1, r.y1 + c.at_ + kerf, r.x2, r.y2⟩ W) ?_ ?_
   ·rw [HL.out]
    exact ⟨by (repeat (first | (with_reducible assumption) | (with_reducible refine BoxR.drew ?_) | (with_reducible refine HeadC.drew ?_) | (with_reducible apply BoxR.s0) | (with_reducible apply BoxR.s1) | (with_reducible apply BoxR.s2) | (with_reducible apply BoxR.s3) | (with_reducible refine BoxR.set ?_ (by first | (simp; done) | (simp; omega) | omega) rfl) | (with_reducible refine HeadC.set ?_ (by first | (simp; done) | (simp; omega) | omega) rfl) | ((with_reducible refine boxR_new _ _ _ ?_); (first | rfl | (simp; done))) | ((with_reducible refine boxR_new2 _ _ _ _ ?_); (first | rfl | (simp; done))) | (with_reducible refine BoxR.alloc ?_ _) | (with_reducible refine HeadC.alloc ?_ _))), by (repeat (first | (with_reducible assumption) | (with_reducible refine BoxR.drew ?_) | (with_reducible refine HeadC.drew ?_) | (with_reducible apply BoxR.s0) | (with_reducible apply BoxR.s1) | (with_reducible apply BoxR.s2) | (with_reducible apply BoxR.s3) | (with_reducible refine BoxR.set ?_ (by first | (simp; done) | (simp; omega) | omega) rfl) | (with_reducible refine HeadC.set ?_ (by first | (simp; done) | (simp; omega) | omega) rfl) | ((with_reducible refine boxR_new _ _ _ ?_); (first | rfl | (simp; done))) | ((with_reducible refine boxR_new2 _ _ _ _ ?_); (first | rfl | (simp; done))) | (with_reducible refine BoxR.alloc ?_ _) | (with_reducible refine HeadC.alloc ?_ _))), by (repeat (first | (with_reducible assumption) | (with_reducible refine BoxR.drew ?_) | (with_reducible refine HeadC.drew ?_) | (with_reducible apply BoxR.s0) | (with_reducible apply BoxR.s1) | (with_reducible apply BoxR.s2) | (with_reducible apply BoxR.s3) | (with_reducible refine BoxR.set ?_ (by first | (simp; done) | (simp; omega) | omega) rfl) | (with_reducible refine HeadC.set ?_ (by first | (simp; done) | (simp; omega) | omega) rfl) | ((with_reducible refine boxR_new _ _ _ ?_); (first | rfl | (simp; done))) | ((with_reducible refine boxR_new2 _ _ _ _ ?_); (first | rfl | (simp; done))) | (with_reducible refine BoxR.alloc ?_ _) | (with_reducible refine HeadC.alloc ?_ _))), by (repeat (first | (with_reducible assumption) | (with_reducible refine BoxR.drew ?_) | (with_reducible refine HeadC.drew ?_) | (with_reducible apply BoxR.s0) | (with_reducible apply BoxR.s1) | (with_reducible apply BoxR.s2) | (with_reducible apply BoxR.s3) | (with_reducible refine BoxR.set ?_ (by first | (simp; done) | (simp; omega) | omega) rfl) | (with_reducible refine HeadC.set ?_ (by first | (simp; done) | (simp; omega) | omega) rfl) | ((with_reducible refine boxR_new _ _ _ ?_); (first | rfl | (simp; done))) | ((with_reducible refine boxR_new2 _ _ _ _ ?_); (first | rfl | (simp; done))) | (with_reducible refine BoxR.alloc ?_ _) | (with_reducible refine HeadC.alloc ?_ _))), by (repeat (first | (with_reducible assumption) | (with_reducible refine BoxR.drew ?_) | (with_reducible refine HeadC.drew ?_) | (with_reducible apply BoxR.s0) | (with_reducible apply BoxR.s1) | (with_reducible apply BoxR.s2) | (with_reducible apply BoxR.s3) | (with_reducible refine BoxR.set ?_ (by first | (simp; done) | (simp; omega) | omega) rfl) | (with_reducible refine HeadC.set ?_ (by first | (simp; done) | (simp; omega) | omega) rfl) | ((with_reducible refine boxR_new _ _ _ ?_); (first | rfl | (simp; done))) | ((with_reducible refine boxR_new2 _ _ _ _ ?_); (first | rfl | (simp; done))) | (with_reducible refine BoxR.alloc ?_ _) | (with_reducible refine HeadC.alloc ?_ _))), by (repeat (first | (with_reducible assumption) | (with_reducible refine BoxR.drew ?_) | (with_reducible refine HeadC.drew ?_) | (with_reducible apply BoxR.s0) | (with_reducible apply BoxR.s1) | (with_reducible apply BoxR.s2) | (with_reducible apply BoxR.s3) | (with_reducible refine BoxR.set ?_ (by first | (simp; done) | (simp; omega) | omega) rfl) | (with_reducible refine HeadC.set ?_ (by first | (simp; done) | (simp; omega) | omega) rfl) | ((with_reducible refine boxR_new _ _ _ ?_); (first | rfl | (simp; done))) | ((with_reducible refine boxR_new2 _ _ _ _ ?_); (first | rfl | (simp; done))) | (with_reducible refine BoxR.alloc ?_ _) | (with_reducible refine HeadC.alloc ?_ _))), ne, hx, hy, by (repeat (first | (with_reducible assumption) | (with_reducible refine Below.drew ?_) | (with_reducible refine Below.setCell ?_ (by first | (simp; done) | (simp; omega) | omega) _) | (with_reducible refine Below.alloc ?_ (by first | (simp; done) | (simp; omega) | omega) _)))⟩
   clear br hc bl bh bx' by' x0 x1 x2 x3 xf0 xf1 xf2 xf3 y0 y1 y2 y3 yf0 yf1 yf2 yf3 be ka kt
   rintro W3 hP
   obtain ⟨br, hc, bl, bh, bx, by_, ne, hx, hy, be⟩ := hP
   have HP := Lib.hid (PartW.mk br hc bl bh bx by_ ne hx hy be)
   have HBE := Lib.hid be
   obtain ⟨y0, y1, y2, y3, yf0, yf1, yf2, yf3⟩ := by_
   go_upto_region 5 with fail
   obtain ⟨q5, hq5⟩ : ∃ q, q = rectErr ⟨r.x1, r.y1 + c.at_ + kerf, r.x2, r.y2⟩ := ⟨_, rfl⟩
   have HER := Lib.hid (fun w => rectErr_any ⟨r.x1, r.y1 + c.at_ + kerf, r.x2, r.y2⟩ w)
   rw [← hq5] at HER
   have HWH := Lib.hid (show high = if q5 ≠ 0 then ⟨0, 0, 0, 0⟩ else ⟨r.x1, r.y1 + c.at_ + kerf, r.x2, r.y2⟩ by
    rw [← HH.out, hq5]
    unfold wholeR rectErr
    split <;> simp_all)
   clear hq5
   by_cases hq : q5 = 0
   ·have hne5 := bne_f5 hq
    have HHI := Lib.hid (show high = ⟨r.x1, r.y1 + c.at_ + kerf, r.x2, r.y2⟩ by rw [HWH.out, if_neg (by simp [hq])])
    clear hq HWH
    go_upto_region 7 with (go_at_call 67; refine (HER.out _).mono ?_; rintro e w4 ⟨rfl, hb4⟩; have HB4 := Lib.hid hb4; clear hb4)
    have HP4 := Lib.hid (HP.out.keep HB4.out)
    rw [← HHI.out] at HP4
    clear y0 y1 y2 y3 yf0 yf1 yf2 yf3 HP br hc bl bh bx be
    have hne32 : w.heap.size + 3 ≠ w.heap.size + 2 := by omega
    have hne23 : w.heap.size + 2 ≠ w.heap.size + 3 := by omega
    obtain ⟨br, hc, bl, bh, bx, by_, ne, hx, hy, be⟩ := HP4.out
    haveI hne7 : Nonempty (KW (fun W => BoxR W gx low ∧ BoxR W gy high)) := ⟨⟨_, bx, by_⟩⟩
    have ky0 : ∀ x : KW (fun W => BoxR W gx low ∧ BoxR W gy high), x.w.cell? ⟨gx, 0, none⟩ = some (.int .i64 low.x1) ∧ x.w.cell? ⟨gx, 1, none⟩ = some (.int .i64 low.y1) ∧ x.w.cell? ⟨gx, 2, none⟩ = some (.int .i64 low.x2) ∧ x.w.cell? ⟨gx, 3, none⟩ = some (.int .i64 low.y2) := fun x => ⟨x.ok.1.c0, x.ok.1.c1, x.ok.1.c2, x.ok.1.c3⟩
    have ky1 : ∀ x : KW (fun W => BoxR W gx low ∧ BoxR W gy high), x.w.cell? ⟨gy, 0, none⟩ = some (.int .i64 high.x1) ∧ x.w.cell? ⟨gy, 1, none⟩ = some (.int .i64 high.y1) ∧ x.w.cell? ⟨gy, 2, none⟩ = some (.int .i64 high.x2) ∧ x.w.cell? ⟨gy, 3, none⟩ = some (.int .i64 high.y2) := fun x => ⟨x.ok.2.c0, x.ok.2.c1, x.ok.2.c2, x.ok.2.c3⟩
    refine wp_region_tree (fun w' => ∃ x : KW (fun W => BoxR W gx low ∧ BoxR W gy high), w' = x.w) 3 (.take 0 (.take 1 (.one 2 .done))) (by kernel_rfl) (by kernel_rfl) (KW.mk' ⟨bx.drew, by_.drew⟩) ?_
    repeat (refine wpTree_take ?_; simp only [nthOp]; (first | go_big_quiet_step (fail) | quiet_step (fail)); refine wpQuiet_nil ?_)
    obtain ⟨l0, l1, l2, l3, lf0, lf1, lf2, lf3⟩ := bl
    obtain ⟨n0, n1, n2, n3, nf0, nf1, nf2, nf3⟩ := bh
    have bl' := BoxR.mk l0 l1 l2 l3 lf0 lf1 lf2 lf3
    have bh' := BoxR.mk n0 n1 n2 n3 nf0 nf1 nf2 nf3
    refine wpTree_one ?_
    simp only [nthOp]
    go_wp2_with fail
    refine One_mk (KW.mk' ⟨by (repeat (first | (with_reducible assumption) | (with_reducible refine BoxR.drew ?_) | (with_reducible refine HeadC.drew ?_) | (with_reducible apply BoxR.s0) | (with_reducible apply BoxR.s1) | (with_reducible apply BoxR.s2) | (with_reducible apply BoxR.s3) | (with_reducible refine BoxR.set ?_ (by first | (simp; done) | (simp; omega) | omega) rfl) | (with_reducible refine HeadC.set ?_ (by first | (simp; done) | (simp; omega) | omega) rfl) | ((with_reducible refine boxR_new _ _ _ ?_); (first | rfl | (simp; done))) | ((with_reducible refine boxR_new2 _ _ _ _ ?_); (first | rfl | (simp; done))) | (with_reducible refine BoxR.alloc ?_ _) | (with_reducible refine HeadC.alloc ?_ _))), by (repeat (first | (with_reducible assumption) | (with_reducible refine BoxR.drew ?_) | (with_reducible refine HeadC.drew ?_) | (with_reducible apply BoxR.s0) | (with_reducible apply BoxR.s1) | (with_reducible apply BoxR.s2) | (with_reducible apply BoxR.s3) | (with_reducible refine BoxR.set ?_ (by first | (simp; done) | (simp; omega) | omega) rfl) | (with_reducible refine HeadC.set ?_ (by first | (simp; done) | (simp; omega) | omega) rfl) | ((with_reducible refine boxR_new _ _ _ ?_); (first | rfl | (simp; done))) | ((with_reducible refine boxR_new2 _ _ _ _ ?_); (first | rfl | (simp; done))) | (with_reducible refine BoxR.alloc ?_ _) | (with_reducible refine HeadC.alloc ?_ _)))⟩) (wpTree_done ?_)
    simp only [List.drop_succ_cons, List.drop_zero]
    go_wp2_with fail
    refine NP_mk ?_
    go_wp2_with fail
    refine gen_any (G := fun W => bodyPost _ _ _ _ _ W) (fun W => BoxR W (w.heap.size + 2) low ∧ BoxR W (w.heap.size + 3) high ∧ Below w.heap.size w W) ⟨by (repeat (first | (with_reducible assumption) | (with_reducible refine BoxR.drew ?_) | (with_reducible refine HeadC.drew ?_) | (with_reducible apply BoxR.s0) | (with_reducible apply BoxR.s1) | (with_reducible apply BoxR.s2) | (with_reducible apply BoxR.s3) | (with_reducible refine BoxR.set ?_ (by first | (simp; done) | (simp; omega) | omega) rfl) | (with_reducible refine HeadC.set ?_ (by first | (simp; done) | (simp; omega) | omega) rfl) | ((with_reducible refine boxR_new _ _ _ ?_); (first | rfl | (simp; done))) | ((with_reducible refine boxR_new2 _ _ _ _ ?_); (first | rfl | (simp; done))) | (with_reducible refine BoxR.alloc ?_ _) | (with_reducible refine HeadC.alloc ?_ _))), by (repeat (first | (with_reducible assumption) | (with_reducible refine BoxR.drew ?_) | (with_reducible refine HeadC.drew ?_) | (with_reducible apply BoxR.s0) | (with_reducible apply BoxR.s1) | (with_reducible apply BoxR.s2) | (with_reducible apply BoxR.s3) | (with_reducible refine BoxR.set ?_ (by first | (simp; done) | (simp; omega) | omega) rfl) | (with_reducible refine HeadC.set ?_ (by first | (simp; done) | (simp; omega) | omega) rfl) | ((with_reducible refine boxR_new _ _ _ ?_); (first | rfl | (simp; done))) | ((with_reducible refine boxR_new2 _ _ _ _ ?_); (first | rfl | (simp; done))) | (with_reducible refine BoxR.alloc ?_ _) | (with_reducible refine HeadC.alloc ?_ _))), by (repeat (first | (with_reducible assumption) | (with_reducible refine Below.drew ?_) | (with_reducible refine Below.setCell ?_ (by first | (simp; done) | (simp; omega) | omega) _) | (with_reducible refine Below.alloc ?_ (by first | (simp; done) | (simp; omega) | omega) _)))⟩ ?_
    rintro W9 ⟨⟨d0', d1', d2', d3', -, -, -, -⟩, ⟨e0', e1', e2', e3', -, -, -, -⟩, hb⟩
    exact bodyPost_ret (v := .tuple #[.agg #[.int .i64 low.x1, .int .i64 low.y1, .int .i64 low.x2, .int .i64 low.y2], .agg #[.int .i64 high.x1, .int .i64 high.y1, .int .i64 high.x2, .int .i64 high.y2]]) (by simp [results, Tryz.results63, go_sem, d0', d1', d2', d3', e0', e1', e2', e3']) rfl ⟨rfl, hb⟩
   ·have hne5 := bne_t5 hq
    have HHI := Lib.hid (show high = ⟨0, 0, 0, 0⟩ by rw [HWH.out, if_pos hq])
    clear hq HWH
    go_upto_region 6 with (go_at_call 67; refine (HER.out _).mono ?_; rintro e w4 ⟨rfl, hb4⟩; have HB4 := Lib.hid hb4; clear hb4)
    have HP4 := Lib.hid (HP.out.keep HB4.out)
    clear y0 y1 y2 y3 yf0 yf1 yf2 yf3 HP br hc bl bh bx be
    obtain ⟨br, hc, bl, bh, bx, by_, ne, hx, hy, be⟩ := HP4.out
    have hby := by_
    obtain ⟨y0, y1, y2, y3, yf0, yf1, yf2, yf3⟩ := by_
    go_upto_region 7 with fail
    refine gen_world (fun W => PartW w r c gx gy low ⟨0, 0, 0, 0⟩ W) ⟨by (repeat (first | (with_reducible assumption) | (with_reducible refine BoxR.drew ?_) | (with_reducible refine HeadC.drew ?_) | (with_reducible apply BoxR.s0) | (with_reducible apply BoxR.s1) | (with_reducible apply BoxR.s2) | (with_reducible apply BoxR.s3) | (with_reducible refine BoxR.set ?_ (by first | (simp; done) | (simp; omega) | omega) rfl) | (with_reducible refine HeadC.set ?_ (by first | (simp; done) | (simp; omega) | omega) rfl) | ((with_reducible refine boxR_new _ _ _ ?_); (first | rfl | (simp; done))) | ((with_reducible refine boxR_new2 _ _ _ _ ?_); (first | rfl | (simp; done))) | (with_reducible refine BoxR.alloc ?_ _) | (with_reducible refine HeadC.alloc ?_ _))), by (repeat (first | (with_reducible assumption) | (with_reducible refine BoxR.drew ?_) | (with_reducible refine HeadC.drew ?_) | (with_reducible apply BoxR.s0) | (with_reducible apply BoxR.s1) | (with_reducible apply BoxR.s2) | (with_reducible apply BoxR.s3) | (with_reducible refine BoxR.set ?_ (by first | (simp; done) | (simp; omega) | omega) rfl) | (with_reducible refine HeadC.set ?_ (by first | (simp; done) | (simp; omega) | omega) rfl) | ((with_reducible refine boxR_new _ _ _ ?_); (first | rfl | (simp; done))) | ((with_reducible refine boxR_new2 _ _ _ _ ?_); (first | rfl | (simp; done))) | (with_reducible refine BoxR.alloc ?_ _) | (with_reducible refine HeadC.alloc ?_ _))), by (repeat (first | (with_reducible assumption) | (with_reducible refine BoxR.drew ?_) | (with_reducible refine HeadC.drew ?_) | (with_reducible apply BoxR.s0) | (with_reducible apply BoxR.s1) | (with_reducible apply BoxR.s2) | (with_reducible apply BoxR.s3) | (with_reducible refine BoxR.set ?_ (by first | (simp; done) | (simp; omega) | omega) rfl) | (with_reducible refine HeadC.set ?_ (by first | (simp; done) | (simp; omega) | omega) rfl) | ((with_reducible refine boxR_new _ _ _ ?_); (first | rfl | (simp; done))) | ((with_reducible refine boxR_new2 _ _ _ _ ?_); (first | rfl | (simp; done))) | (with_reducible refine BoxR.alloc ?_ _) | (with_reducible refine HeadC.alloc ?_ _))), by (repeat (first | (with_reducible assumption) | (with_reducible refine BoxR.drew ?_) | (with_reducible refine HeadC.drew ?_) | (with_reducible apply BoxR.s0) | (with_reducible apply BoxR.s1) | (with_reducible apply BoxR.s2) | (with_reducible apply BoxR.s3) | (with_reducible refine BoxR.set ?_ (by first | (simp; done) | (simp; omega) | omega) rfl) | (with_reducible refine HeadC.set ?_ (by first | (simp; done) | (simp; omega) | omega) rfl) | ((with_reducible refine boxR_new _ _ _ ?_); (first | rfl | (simp; done))) | ((with_reducible refine boxR_new2 _ _ _ _ ?_); (first | rfl | (simp; done))) | (with_reducible refine BoxR.alloc ?_ _) | (with_reducible refine HeadC.alloc ?_ _))), by (repeat (first | (with_reducible assumption) | (with_reducible refine BoxR.drew ?_) | (with_reducible refine HeadC.drew ?_) | (with_reducible apply BoxR.s0) | (with_reducible apply BoxR.s1) | (with_reducible apply BoxR.s2) | (with_reducible apply BoxR.s3) | (with_reducible refine BoxR.set ?_ (by first | (simp; done) | (simp; omega) | omega) rfl) | (with_reducible refine HeadC.set ?_ (by first | (simp; done) | (simp; omega) | omega) rfl) | ((with_reducible refine boxR_new _ _ _ ?_); (first | rfl | (simp; done))) | ((with_reducible refine boxR_new2 _ _ _ _ ?_); (first | rfl | (simp; done))) | (with_reducible refine BoxR.alloc ?_ _) | (with_reducible refine HeadC.alloc ?_ _))), by (repeat (first | (with_reducible assumption) | (with_reducible refine BoxR.drew ?_) | (with_reducible refine HeadC.drew ?_) | (with_reducible apply BoxR.s0) | (with_reducible apply BoxR.s1) | (with_reducible apply BoxR.s2) | (with_reducible apply BoxR.s3) | (with_reducible refine BoxR.set ?_ (by first | (simp; done) | (simp; omega) | omega) rfl) | (with_reducible refine HeadC.set ?_ (by first | (simp; done) | (simp; omega) | omega) rfl) | ((with_reducible refine boxR_new _ _ _ ?_); (first | rfl | (simp; done))) | ((with_reducible refine boxR_new2 _ _ _ _ ?_); (first | rfl | (simp; done))) | (with_reducible refine BoxR.alloc ?_ _) | (with_reducible refine HeadC.alloc ?_ _))), ne, hx, hy, by (repeat (first | (with_reducible assumption) | (with_reducible refine Below.drew ?_) | (with_reducible refine Below.setCell ?_ (by first | (simp; done) | (simp; omega) | omega) _) | (with_reducible refine Below.alloc ?_ (by first | (simp; done) | (simp; omega) | omega) _)))⟩ ?_
    rintro W5 hP5
    have HP4 := Lib.hid hP5
    rw [← HHI.out] at HP4
    clear y0 y1 y2 y3 yf0 yf1 yf2 yf3 br hc bl bh bx be hby hP5
    have hne32 : w.heap.size + 3 ≠ w.heap.size + 2 := by omega
    have hne23 : w.heap.size + 2 ≠ w.heap.size + 3 := by omega
    obtain ⟨br, hc, bl, bh, bx, by_, ne, hx, hy, be⟩ := HP4.out
    haveI hne7 : Nonempty (KW (fun W => BoxR W gx low ∧ BoxR W gy high)) := ⟨⟨_, bx, by_⟩⟩
    have ky0 : ∀ x : KW (fun W => BoxR W gx low ∧ BoxR W gy high), x.w.cell? ⟨gx, 0, none⟩ = some (.int .i64 low.x1) ∧ x.w.cell? ⟨gx, 1, none⟩ = some (.int .i64 low.y1) ∧ x.w.cell? ⟨gx, 2, none⟩ = some (.int .i64 low.x2) ∧ x.w.cell? ⟨gx, 3, none⟩ = some (.int .i64 low.y2) := fun x => ⟨x.ok.1.c0, x.ok.1.c1, x.ok.1.c2, x.ok.1.c3⟩
    have ky1 : ∀ x : KW (fun W => BoxR W gx low ∧ BoxR W gy high), x.w.cell? ⟨gy, 0, none⟩ = some (.int .i64 high.x1) ∧ x.w.cell? ⟨gy, 1, none⟩ = some (.int .i64 high.y1) ∧ x.w.cell? ⟨gy, 2, none⟩ = some (.int .i64 high.x2) ∧ x.w.cell? ⟨gy, 3, none⟩ = some (.int .i64 high.y2) := fun x => ⟨x.ok.2.c0, x.ok.2.c1, x.ok.2.c2, x.ok.2.c3⟩
    refine wp_region_tree (fun w' => ∃ x : KW (fun W => BoxR W gx low ∧ BoxR W gy high), w' = x.w) 3 (.take 0 (.take 1 (.one 2 .done))) (by kernel_rfl) (by kernel_rfl) (KW.mk' ⟨bx.drew, by_.drew⟩) ?_
    repeat (refine wpTree_take ?_; simp only [nthOp]; (first | go_big_quiet_step (fail) | quiet_step (fail)); refine wpQuiet_nil ?_)
    obtain ⟨l0, l1, l2, l3, lf0, lf1, lf2, lf3⟩ := bl
    obtain ⟨n0, n1, n2, n3, nf0, nf1, nf2, nf3⟩ := bh
    have bl' := BoxR.mk l0 l1 l2 l3 lf0 lf1 lf2 lf3
    have bh' := BoxR.mk n0 n1 n2 n3 nf0 nf1 nf2 nf3
    refine wpTree_one ?_
    simp only [nthOp]
    go_wp2_with fail
    refine One_mk (KW.mk' ⟨by (repeat (first | (with_reducible assumption) | (with_reducible refine BoxR.drew ?_) | (with_reducible refine HeadC.drew ?_) | (with_reducible apply BoxR.s0) | (with_reducible apply BoxR.s1) | (with_reducible apply BoxR.s2) | (with_reducible apply BoxR.s3) | (with_reducible refine BoxR.set ?_ (by first | (simp; done) | (simp; omega) | omega) rfl) | (with_reducible refine HeadC.set ?_ (by first | (simp; done) | (simp; omega) | omega) rfl) | ((with_reducible refine boxR_new _ _ _ ?_); (first | rfl | (simp; done))) | ((with_reducible refine boxR_new2 _ _ _ _ ?_); (first | rfl | (simp; done))) | (with_reducible refine BoxR.alloc ?_ _) | (with_reducible refine HeadC.alloc ?_ _))), by (repeat (first | (with_reducible assumption) | (with_reducible refine BoxR.drew ?_) | (with_reducible refine HeadC.drew ?_) | (with_reducible apply BoxR.s0) | (with_reducible apply BoxR.s1) | (with_reducible apply BoxR.s2) | (with_reducible apply BoxR.s3) | (with_reducible refine BoxR.set ?_ (by first | (simp; done) | (simp; omega) | omega) rfl) | (with_reducible refine HeadC.set ?_ (by first | (simp; done) | (simp; omega) | omega) rfl) | ((with_reducible refine boxR_new _ _ _ ?_); (first | rfl | (simp; done))) | ((with_reducible refine boxR_new2 _ _ _ _ ?_); (first | rfl | (simp; done))) | (with_reducible refine BoxR.alloc ?_ _) | (with_reducible refine HeadC.alloc ?_ _)))⟩) (wpTree_done ?_)
    simp only [List.drop_succ_cons, List.drop_zero]
    go_wp2_with fail
    refine NP_mk ?_
    go_wp2_with fail
    refine gen_any (G := fun W => bodyPost _ _ _ _ _ W) (fun W => BoxR W (w.heap.size + 2) low ∧ BoxR W (w.heap.size + 3) high ∧ Below w.heap.size w W) ⟨by (repeat (first | (with_reducible assumption) | (with_reducible refine BoxR.drew ?_) | (with_reducible refine HeadC.drew ?_) | (with_reducible apply BoxR.s0) | (with_reducible apply BoxR.s1) | (with_reducible apply BoxR.s2) | (with_reducible apply BoxR.s3) | (with_reducible refine BoxR.set ?_ (by first | (simp; done) | (simp; omega) | omega) rfl) | (with_reducible refine HeadC.set ?_ (by first | (simp; done) | (simp; omega) | omega) rfl) | ((with_reducible refine boxR_new _ _ _ ?_); (first | rfl | (simp; done))) | ((with_reducible refine boxR_new2 _ _ _ _ ?_); (first | rfl | (simp; done))) | (with_reducible refine BoxR.alloc ?_ _) | (with_reducible refine HeadC.alloc ?_ _))), by (repeat (first | (with_reducible assumption) | (with_reducible refine BoxR.drew ?_) | (with_reducible refine HeadC.drew ?_) | (with_reducible apply BoxR.s0) | (with_reducible apply BoxR.s1) | (with_reducible apply BoxR.s2) | (with_reducible apply BoxR.s3) | (with_reducible refine BoxR.set ?_ (by first | (simp; done) | (simp; omega) | omega) rfl) | (with_reducible refine HeadC.set ?_ (by first | (simp; done) | (simp; omega) | omega) rfl) | ((with_reducible refine boxR_new _ _ _ ?_); (first | rfl | (simp; done))) | ((with_reducible refine boxR_new2 _ _ _ _ ?_); (first | rfl | (simp; done))) | (with_reducible refine BoxR.alloc ?_ _) | (with_reducible refine HeadC.alloc ?_ _))), by (repeat (first | (with_reducible assumption) | (with_reducible refine Below.drew ?_) | (with_reducible refine Below.setCell ?_ (by first | (simp; done) | (simp; omega) | omega) _) | (with_reducible refine Below.alloc ?_ (by first | (simp; done) | (simp; omega) | omega) _)))⟩ ?_
    rintro W9 ⟨⟨d0', d1', d2', d3', -, -, -, -⟩, ⟨e0', e1', e2', e3', -, -, -, -⟩, hb⟩
    exact bodyPost_ret (v := .tuple #[.agg #[.int .i64 low.x1, .int .i64 low.y1, .int .i64 low.x2, .int .i64 low.y2], .agg #[.int .i64 high.x1, .int .i64 high.y1, .int .i64 high.x2, .int .i64 high.y2]]) (by simp [results, Tryz.results63, go_sem, d0', d1', d2', d3', e0', e1', e2', e3']) rfl ⟨rfl, hb⟩
  ·have v1 : IntKind.i64.wrap (r.x1 + c.at_) = r.x1 + c.at_ := IntWalk.i64_in _ (by omega)
   have v2 : IntKind.i64.wrap (r.x1 + c.at_ + kerf) = r.x1 + c.at_ + kerf := IntWalk.i64_in _ (by omega)
   have HL := Lib.hid (show low = ⟨r.x1, r.y1, r.x1 + c.at_, r.y2⟩ by rw [← hl]; unfold lowR; rw [hac]; rfl)
   have HH := Lib.hid (show wholeR ⟨r.x1 + c.at_ + kerf, r.y1, r.x2, r.y2⟩ = high by rw [← hh]; unfold highR; rw [hac]; rfl)
   clear h1 h2 h3 hl hh
   rw [hac] at ka
   go_wp2_with fail
   haveI hne : Nonempty (KW (fun W => BoxR W w.heap.size r ∧ HeadC W (w.heap.size + 1) c)) := ⟨⟨_, br, hc⟩⟩
   refine wp_region_tree (fun w' => ∃ x : KW (fun W => BoxR W w.heap.size r ∧ HeadC W (w.heap.size + 1) c), w' = x.w) 14 (.take 0 (.take 1 (.take 2 (.take 3 (.take 4 (.take 5 (.take 6 (.take 7 (.take 8 (.take 9 (.take 10 (.take 11 (.take 12 (.one 13 .done)))))))))))))) (by kernel_rfl) (by kernel_rfl) (KW.mk' ⟨br.drew, hc.drew⟩) ?_
   repeat (refine wpTree_take ?_; simp only [nthOp]; (first | go_big_quiet_step (fail) | quiet_step (fail)); refine wpQuiet_nil ?_)
   obtain ⟨x0, x1, x2, x3, xf0, xf1, xf2, xf3⟩ := bx
   obtain ⟨y0, y1, y2, y3, yf0, yf1, yf2, yf3⟩ := by_
   have bx' := BoxR.mk x0 x1 x2 x3 xf0 xf1 xf2 xf3
   have by' := BoxR.mk y0 y1 y2 y3 yf0 yf1 yf2 yf3
   refine wpTree_one ?_
   simp only [nthOp]
   go_wp2_with fail
   refine One_mk (KW.mk' ⟨by (repeat (first | (with_reducible assumption) | (with_reducible refine BoxR.drew ?_) | (with_reducible refine HeadC.drew ?_) | (with_reducible apply BoxR.s0) | (with_reducible apply BoxR.s1) | (with_reducible apply BoxR.s2) | (with_reducible apply BoxR.s3) | (with_reducible refine BoxR.set ?_ (by first | (simp; done) | (simp; omega) | omega) rfl) | (with_reducible refine HeadC.set ?_ (by first | (simp; done) | (simp; omega) | omega) rfl) | ((with_reducible refine boxR_new _ _ _ ?_); (first | rfl | (simp; done))) | ((with_reducible refine boxR_new2 _ _ _ _ ?_); (first | rfl | (simp; done))) | (with_reducible refine BoxR.alloc ?_ _) | (with_reducible refine HeadC.alloc ?_ _))), by (repeat (first | (with_reducible assumption) | (with_reducible refine BoxR.drew ?_) | (with_reducible refine HeadC.drew ?_) | (with_reducible apply BoxR.s0) | (with_reducible apply BoxR.s1) | (with_reducible apply BoxR.s2) | (with_reducible apply BoxR.s3) | (with_reducible refine BoxR.set ?_ (by first | (simp; done) | (simp; omega) | omega) rfl) | (with_reducible refine HeadC.set ?_ (by first | (simp; done) | (simp; omega) | omega) rfl) | ((with_reducible refine boxR_new _ _ _ ?_); (first | rfl | (simp; done))) | ((with_reducible refine boxR_new2 _ _ _ _ ?_); (first | rfl | (simp; done))) | (with_reducible refine BoxR.alloc ?_ _) | (with_reducible refine HeadC.alloc ?_ _)))⟩) (wpTree_done ?_)
   simp only [List.drop_succ_cons, List.drop_zero]
   go_wp2_with fail
   refine NP_mk ?_
   refine gen_any (G := fun W => _) (fun W => PartW w r c gx gy low ⟨r.x1 + c.at_ + kerf, r.y1, r.x2, r.y2⟩ W) ?_ ?_
   ·rw [HL.out]
    exact ⟨by (repeat (first | (with_reducible assumption) | (with_reducible refine BoxR.drew ?_) | (with_reducible refine HeadC.drew ?_) | (with_reducible apply BoxR.s0) | (with_reducible apply BoxR.s1) | (with_reducible apply BoxR.s2) | (with_reducible apply BoxR.s3) | (with_reducible refine BoxR.set ?_ (by first | (simp; done) | (simp; omega) | omega) rfl) | (with_reducible refine HeadC.set ?_ (by first | (simp; done) | (simp; omega) | omega) rfl) | ((with_reducible refine boxR_new _ _ _ ?_); (first | rfl | (simp; done))) | ((with_reducible refine boxR_new2 _ _ _ _ ?_); (first | rfl | (simp; done))) | (with_reducible refine BoxR.alloc ?_ _) | (with_reducible refine HeadC.alloc ?_ _))), by (repeat (first | (with_reducible assumption) | (with_reducible refine BoxR.drew ?_) | (with_reducible refine HeadC.drew ?_) | (with_reducible apply BoxR.s0) | (with_reducible apply BoxR.s1) | (with_reducible apply BoxR.s2) | (with_reducible apply BoxR.s3) | (with_reducible refine BoxR.set ?_ (by first | (simp; done) | (simp; omega) | omega) rfl) | (with_reducible refine HeadC.set ?_ (by first | (simp; done) | (simp; omega) | omega) rfl) | ((with_reducible refine boxR_new _ _ _ ?_); (first | rfl | (simp; done))) | ((with_reducible refine boxR_new2 _ _ _ _ ?_); (first | rfl | (simp; done))) | (with_reducible refine BoxR.alloc ?_ _) | (with_reducible refine HeadC.alloc ?_ _))), by (repeat (first | (with_reducible assumption) | (with_reducible refine BoxR.drew ?_) | (with_reducible refine HeadC.drew ?_) | (with_reducible apply BoxR.s0) | (with_reducible apply BoxR.s1) | (with_reducible apply BoxR.s2) | (with_reducible apply BoxR.s3) | (with_reducible refine BoxR.set ?_ (by first | (simp; done) | (simp; omega) | omega) rfl) | (with_reducible refine HeadC.set ?_ (by first | (simp; done) | (simp; omega) | omega) rfl) | ((with_reducible refine boxR_new _ _ _ ?_); (first | rfl | (simp; done))) | ((with_reducible refine boxR_new2 _ _ _ _ ?_); (first | rfl | (simp; done))) | (with_reducible refine BoxR.alloc ?_ _) | (with_reducible refine HeadC.alloc ?_ _))), by (repeat (first | (with_reducible assumption) | (with_reducible refine BoxR.drew ?_) | (with_reducible refine HeadC.drew ?_) | (with_reducible apply BoxR.s0) | (with_reducible apply BoxR.s1) | (with_reducible apply BoxR.s2) | (with_reducible apply BoxR.s3) | (with_reducible refine BoxR.set ?_ (by first | (simp; done) | (simp; omega) | omega) rfl) | (with_reducible refine HeadC.set ?_ (by first | (simp; done) | (simp; omega) | omega) rfl) | ((with_reducible refine boxR_new _ _ _ ?_); (first | rfl | (simp; done))) | ((with_reducible refine boxR_new2 _ _ _ _ ?_); (first | rfl | (simp; done))) | (with_reducible refine BoxR.alloc ?_ _) | (with_reducible refine HeadC.alloc ?_ _))), by (repeat (first | (with_reducible assumption) | (with_reducible refine BoxR.drew ?_) | (with_reducible refine HeadC.drew ?_) | (with_reducible apply BoxR.s0) | (with_reducible apply BoxR.s1) | (with_reducible apply BoxR.s2) | (with_reducible apply BoxR.s3) | (with_reducible refine BoxR.set ?_ (by first | (simp; done) | (simp; omega) | omega) rfl) | (with_reducible refine HeadC.set ?_ (by first | (simp; done) | (simp; omega) | omega) rfl) | ((with_reducible refine boxR_new _ _ _ ?_); (first | rfl | (simp; done))) | ((with_reducible refine boxR_new2 _ _ _ _ ?_); (first | rfl | (simp; done))) | (with_reducible refine BoxR.alloc ?_ _) | (with_reducible refine HeadC.alloc ?_ _))), by (repeat (first | (with_reducible assumption) | (with_reducible refine BoxR.drew ?_) | (with_reducible refine HeadC.drew ?_) | (with_reducible apply BoxR.s0) | (with_reducible apply BoxR.s1) | (with_reducible apply BoxR.s2) | (with_reducible apply BoxR.s3) | (with_reducible refine BoxR.set ?_ (by first | (simp; done) | (simp; omega) | omega) rfl) | (with_reducible refine HeadC.set ?_ (by first | (simp; done) | (simp; omega) | omega) rfl) | ((with_reducible refine boxR_new _ _ _ ?_); (first | rfl | (simp; done))) | ((with_reducible refine boxR_new2 _ _ _ _ ?_); (first | rfl | (simp; done))) | (with_reducible refine BoxR.alloc ?_ _) | (with_reducible refine HeadC.alloc ?_ _))), ne, hx, hy, by (repeat (first | (with_reducible assumption) | (with_reducible refine Below.drew ?_) | (with_reducible refine Below.setCell ?_ (by first | (simp; done) | (simp; omega) | omega) _) | (with_reducible refine Below.alloc ?_ (by first | (simp; done) | (simp; omega) | omega) _)))⟩
   clear br hc bl bh bx' by' x0 x1 x2 x3 xf0 xf1 xf2 xf3 y0 y1 y2 y3 yf0 yf1 yf2 yf3 be ka kt
   rintro W3 hP
   obtain ⟨br, hc, bl, bh, bx, by_, ne, hx, hy, be⟩ := hP
   have HP := Lib.hid (PartW.mk br hc bl bh bx by_ ne hx hy be)
   have HBE := Lib.hid be
   obtain ⟨y0, y1, y2, y3, yf0, yf1, yf2, yf3⟩ := by_
   go_upto_region 5 with fail
   obtain ⟨q5, hq5⟩ : ∃ q, q = rectErr ⟨r.x1 + c.at_ + kerf, r.y1, r.x2, r.y2⟩ := ⟨_, rfl⟩
   have HER := Lib.hid (fun w => rectErr_any ⟨r.x1 + c.at_ + kerf, r.y1, r.x2, r.y2⟩ w)
   rw [← hq5] at HER
   have HWH := Lib.hid (show high = if q5 ≠ 0 then ⟨0, 0, 0, 0⟩ else ⟨r.x1 + c.at_ + kerf, r.y1, r.x2, r.y2⟩ by
    rw [← HH.out, hq5]
    unfold wholeR rectErr
    split <;> simp_all)
   clear hq5
   by_cases hq : q5 = 0
   ·have hne5 := bne_f5 hq
    have HHI := Lib.hid (show high = ⟨r.x1 + c.at_ + kerf, r.y1, r.x2, r.y2⟩ by rw [HWH.out, if_neg (by simp [hq])])
    clear hq HWH
    go_upto_region 7 with (go_at_call 67; refine (HER.out _).mono ?_; rintro e w4 ⟨rfl, hb4⟩; have HB4 := Lib.hid hb4; clear hb4)
    have HP4 := Lib.hid (HP.out.keep HB4.out)
    rw [← HHI.out] at HP4
    clear y0 y1 y2 y3 yf0 yf1 yf2 yf3 HP br hc bl bh bx be
    have hne32 : w.heap.size + 3 ≠ w.heap.size + 2 := by omega
    have hne23 : w.heap.size + 2 ≠ w.heap.size + 3 := by omega
    obtain ⟨br, hc, bl, bh, bx, by_, ne, hx, hy, be⟩ := HP4.out
    haveI hne7 : Nonempty (KW (fun W => BoxR W gx low ∧ BoxR W gy high)) := ⟨⟨_, bx, by_⟩⟩
    have ky0 : ∀ x : KW (fun W => BoxR W gx low ∧ BoxR W gy high), x.w.cell? ⟨gx, 0, none⟩ = some (.int .i64 low.x1) ∧ x.w.cell? ⟨gx, 1, none⟩ = some (.int .i64 low.y1) ∧ x.w.cell? ⟨gx, 2, none⟩ = some (.int .i64 low.x2) ∧ x.w.cell? ⟨gx, 3, none⟩ = some (.int .i64 low.y2) := fun x => ⟨x.ok.1.c0, x.ok.1.c1, x.ok.1.c2, x.ok.1.c3⟩
    have ky1 : ∀ x : KW (fun W => BoxR W gx low ∧ BoxR W gy high), x.w.cell? ⟨gy, 0, none⟩ = some (.int .i64 high.x1) ∧ x.w.cell? ⟨gy, 1, none⟩ = some (.int .i64 high.y1) ∧ x.w.cell? ⟨gy, 2, none⟩ = some (.int .i64 high.x2) ∧ x.w.cell? ⟨gy, 3, none⟩ = some (.int .i64 high.y2) := fun x => ⟨x.ok.2.c0, x.ok.2.c1, x.ok.2.c2, x.ok.2.c3⟩
    refine wp_region_tree (fun w' => ∃ x : KW (fun W => BoxR W gx low ∧ BoxR W gy high), w' = x.w) 3 (.take 0 (.take 1 (.one 2 .done))) (by kernel_rfl) (by kernel_rfl) (KW.mk' ⟨bx.drew, by_.drew⟩) ?_
    repeat (refine wpTree_take ?_; simp only [nthOp]; (first | go_big_quiet_step (fail) | quiet_step (fail)); refine wpQuiet_nil ?_)
    obtain ⟨l0, l1, l2, l3, lf0, lf1, lf2, lf3⟩ := bl
    obtain ⟨n0, n1, n2, n3, nf0, nf1, nf2, nf3⟩ := bh
    have bl' := BoxR.mk l0 l1 l2 l3 lf0 lf1 lf2 lf3
    have bh' := BoxR.mk n0 n1 n2 n3 nf0 nf1 nf2 nf3
    refine wpTree_one ?_
    simp only [nthOp]
    go_wp2_with fail
    refine One_mk (KW.mk' ⟨by (repeat (first | (with_reducible assumption) | (with_reducible refine BoxR.drew ?_) | (with_reducible refine HeadC.drew ?_) | (with_reducible apply BoxR.s0) | (with_reducible apply BoxR.s1) | (with_reducible apply BoxR.s2) | (with_reducible apply BoxR.s3) | (with_reducible refine BoxR.set ?_ (by first | (simp; done) | (simp; omega) | omega) rfl) | (with_reducible refine HeadC.set ?_ (by first | (simp; done) | (simp; omega) | omega) rfl) | ((with_reducible refine boxR_new _ _ _ ?_); (first | rfl | (simp; done))) | ((with_reducible refine boxR_new2 _ _ _ _ ?_); (first | rfl | (simp; done))) | (with_reducible refine BoxR.alloc ?_ _) | (with_reducible refine HeadC.alloc ?_ _))), by (repeat (first | (with_reducible assumption) | (with_reducible refine BoxR.drew ?_) | (with_reducible refine HeadC.drew ?_) | (with_reducible apply BoxR.s0) | (with_reducible apply BoxR.s1) | (with_reducible apply BoxR.s2) | (with_reducible apply BoxR.s3) | (with_reducible refine BoxR.set ?_ (by first | (simp; done) | (simp; omega) | omega) rfl) | (with_reducible refine HeadC.set ?_ (by first | (simp; done) | (simp; omega) | omega) rfl) | ((with_reducible refine boxR_new _ _ _ ?_); (first | rfl | (simp; done))) | ((with_reducible refine boxR_new2 _ _ _ _ ?_); (first | rfl | (simp; done))) | (with_reducible refine BoxR.alloc ?_ _) | (with_reducible refine HeadC.alloc ?_ _)))⟩) (wpTree_done ?_)
    simp only [List.drop_succ_cons, List.drop_zero]
    go_wp2_with fail
    refine NP_mk ?_
    go_wp2_with fail
    refine gen_any (G := fun W => bodyPost _ _ _ _ _ W) (fun W => BoxR W (w.heap.size + 2) low ∧ BoxR W (w.heap.size + 3) high ∧ Below w.heap.size w W) ⟨by (repeat (first | (with_reducible assumption) | (with_reducible refine BoxR.drew ?_) | (with_reducible refine HeadC.drew ?_) | (with_reducible apply BoxR.s0) | (with_reducible apply BoxR.s1) | (with_reducible apply BoxR.s2) | (with_reducible apply BoxR.s3) | (with_reducible refine BoxR.set ?_ (by first | (simp; done) | (simp; omega) | omega) rfl) | (with_reducible refine HeadC.set ?_ (by first | (simp; done) | (simp; omega) | omega) rfl) | ((with_reducible refine boxR_new _ _ _ ?_); (first | rfl | (simp; done))) | ((with_reducible refine boxR_new2 _ _ _ _ ?_); (first | rfl | (simp; done))) | (with_reducible refine BoxR.alloc ?_ _) | (with_reducible refine HeadC.alloc ?_ _))), by (repeat (first | (with_reducible assumption) | (with_reducible refine BoxR.drew ?_) | (with_reducible refine HeadC.drew ?_) | (with_reducible apply BoxR.s0) | (with_reducible apply BoxR.s1) | (with_reducible apply BoxR.s2) | (with_reducible apply BoxR.s3) | (with_reducible refine BoxR.set ?_ (by first | (simp; done) | (simp; omega) | omega) rfl) | (with_reducible refine HeadC.set ?_ (by first | (simp; done) | (simp; omega) | omega) rfl) | ((with_reducible refine boxR_new _ _ _ ?_); (first | rfl | (simp; done))) | ((with_reducible refine boxR_new2 _ _ _ _ ?_); (first | rfl | (simp; done))) | (with_reducible refine BoxR.alloc ?_ _) | (with_reducible refine HeadC.alloc ?_ _))), by (repeat (first | (with_reducible assumption) | (with_reducible refine Below.drew ?_) | (with_reducible refine Below.setCell ?_ (by first | (simp; done) | (simp; omega) | omega) _) | (with_reducible refine Below.alloc ?_ (by first | (simp; done) | (simp; omega) | omega) _)))⟩ ?_
    rintro W9 ⟨⟨d0', d1', d2', d3', -, -, -, -⟩, ⟨e0', e1', e2', e3', -, -, -, -⟩, hb⟩
    exact bodyPost_ret (v := .tuple #[.agg #[.int .i64 low.x1, .int .i64 low.y1, .int .i64 low.x2, .int .i64 low.y2], .agg #[.int .i64 high.x1, .int .i64 high.y1, .int .i64 high.x2, .int .i64 high.y2]]) (by simp [results, Tryz.results63, go_sem, d0', d1', d2', d3', e0', e1', e2', e3']) rfl ⟨rfl, hb⟩
   ·have hne5 := bne_t5 hq
    have HHI := Lib.hid (show high = ⟨0, 0, 0, 0⟩ by rw [HWH.out, if_pos hq])
    clear hq HWH
    go_upto_region 6 with (go_at_call 67; refine (HER.out _).mono ?_; rintro e w4 ⟨rfl, hb4⟩; have HB4 := Lib.hid hb4; clear hb4)
    have HP4 := Lib.hid (HP.out.keep HB4.out)
    clear y0 y1 y2 y3 yf0 yf1 yf2 yf3 HP br hc bl bh bx be
    obtain ⟨br, hc, bl, bh, bx, by_, ne, hx, hy, be⟩ := HP4.out
    have hby := by_
    obtain ⟨y0, y1, y2, y3, yf0, yf1, yf2, yf3⟩ := by_
    go_upto_region 7 with fail
    refine gen_world (fun W => PartW w r c gx gy low ⟨0, 0, 0, 0⟩ W) ⟨by (repeat (first | (with_reducible assumption) | (with_reducible refine BoxR.drew ?_) | (with_reducible refine HeadC.drew ?_) | (with_reducible apply BoxR.s0) | (with_reducible apply BoxR.s1) | (with_reducible apply BoxR.s2) | (with_reducible apply BoxR.s3) | (with_reducible refine BoxR.set ?_ (by first | (simp; done) | (simp; omega) | omega) rfl) | (with_reducible refine HeadC.set ?_ (by first | (simp; done) | (simp; omega) | omega) rfl) | ((with_reducible refine boxR_new _ _ _ ?_); (first | rfl | (simp; done))) | ((with_reducible refine boxR_new2 _ _ _ _ ?_); (first | rfl | (simp; done))) | (with_reducible refine BoxR.alloc ?_ _) | (with_reducible refine HeadC.alloc ?_ _))), by (repeat (first | (with_reducible assumption) | (with_reducible refine BoxR.drew ?_) | (with_reducible refine HeadC.drew ?_) | (with_reducible apply BoxR.s0) | (with_reducible apply BoxR.s1) | (with_reducible apply BoxR.s2) | (with_reducible apply BoxR.s3) | (with_reducible refine BoxR.set ?_ (by first | (simp; done) | (simp; omega) | omega) rfl) | (with_reducible refine HeadC.set ?_ (by first | (simp; done) | (simp; omega) | omega) rfl) | ((with_reducible refine boxR_new _ _ _ ?_); (first | rfl | (simp; done))) | ((with_reducible refine boxR_new2 _ _ _ _ ?_); (first | rfl | (simp; done))) | (with_reducible refine BoxR.alloc ?_ _) | (with_reducible refine HeadC.alloc ?_ _))), by (repeat (first | (with_reducible assumption) | (with_reducible refine BoxR.drew ?_) | (with_reducible refine HeadC.drew ?_) | (with_reducible apply BoxR.s0) | (with_reducible apply BoxR.s1) | (with_reducible apply BoxR.s2) | (with_reducible apply BoxR.s3) | (with_reducible refine BoxR.set ?_ (by first | (simp; done) | (simp; omega) | omega) rfl) | (with_reducible refine HeadC.set ?_ (by first | (simp; done) | (simp; omega) | omega) rfl) | ((with_reducible refine boxR_new _ _ _ ?_); (first | rfl | (simp; done))) | ((with_reducible refine boxR_new2 _ _ _ _ ?_); (first | rfl | (simp; done))) | (with_reducible refine BoxR.alloc ?_ _) | (with_reducible refine HeadC.alloc ?_ _))), by (repeat (first | (with_reducible assumption) | (with_reducible refine BoxR.drew ?_) | (with_reducible refine HeadC.drew ?_) | (with_reducible apply BoxR.s0) | (with_reducible apply BoxR.s1) | (with_reducible apply BoxR.s2) | (with_reducible apply BoxR.s3) | (with_reducible refine BoxR.set ?_ (by first | (simp; done) | (simp; omega) | omega) rfl) | (with_reducible refine HeadC.set ?_ (by first | (simp; done) | (simp; omega) | omega) rfl) | ((with_reducible refine boxR_new _ _ _ ?_); (first | rfl | (simp; done))) | ((with_reducible refine boxR_new2 _ _ _ _ ?_); (first | rfl | (simp; done))) | (with_reducible refine BoxR.alloc ?_ _) | (with_reducible refine HeadC.alloc ?_ _))), by (repeat (first | (with_reducible assumption) | (with_reducible refine BoxR.drew ?_) | (with_reducible refine HeadC.drew ?_) | (with_reducible apply BoxR.s0) | (with_reducible apply BoxR.s1) | (with_reducible apply BoxR.s2) | (with_reducible apply BoxR.s3) | (with_reducible refine BoxR.set ?_ (by first | (simp; done) | (simp; omega) | omega) rfl) | (with_reducible refine HeadC.set ?_ (by first | (simp; done) | (simp; omega) | omega) rfl) | ((with_reducible refine boxR_new _ _ _ ?_); (first | rfl | (simp; done))) | ((with_reducible refine boxR_new2 _ _ _ _ ?_); (first | rfl | (simp; done))) | (with_reducible refine BoxR.alloc ?_ _) | (with_reducible refine HeadC.alloc ?_ _))), by (repeat (first | (with_reducible assumption) | (with_reducible refine BoxR.drew ?_) | (with_reducible refine HeadC.drew ?_) | (with_reducible apply BoxR.s0) | (with_reducible apply BoxR.s1) | (with_reducible apply BoxR.s2) | (with_reducible apply BoxR.s3) | (with_reducible refine BoxR.set ?_ (by first | (simp; done) | (simp; omega) | omega) rfl) | (with_reducible refine HeadC.set ?_ (by first | (simp; done) | (simp; omega) | omega) rfl) | ((with_reducible refine boxR_new _ _ _ ?_); (first | rfl | (simp; done))) | ((with_reducible refine boxR_new2 _ _ _ _ ?_); (first | rfl | (simp; done))) | (with_reducible refine BoxR.alloc ?_ _) | (with_reducible refine HeadC.alloc ?_ _))), ne, hx, hy, by (repeat (first | (with_reducible assumption) | (with_reducible refine Below.drew ?_) | (with_reducible refine Below.setCell ?_ (by first | (simp; done) | (simp; omega) | omega) _) | (with_reducible refine Below.alloc ?_ (by first | (simp; done) | (simp; omega) | omega) _)))⟩ ?_
    rintro W5 hP5
    have HP4 := Lib.hid hP5
    rw [← HHI.out] at HP4
    clear y0 y1 y2 y3 yf0 yf1 yf2 yf3 br hc bl bh bx be hby hP5
    have hne32 : w.heap.size + 3 ≠ w.heap.size + 2 := by omega
    have hne23 : w.heap.size + 2 ≠ w.heap.size + 3 := by omega
    obtain ⟨br, hc, bl, bh, bx, by_, ne, hx, hy, be⟩ := HP4.out
    haveI hne7 : Nonempty (KW (fun W => BoxR W gx low ∧ BoxR W gy high)) := ⟨⟨_, bx, by_⟩⟩
    have ky0 : ∀ x : KW (fun W => BoxR W gx low ∧ BoxR W gy high), x.w.cell? ⟨gx, 0, none⟩ = some (.int .i64 low.x1) ∧ x.w.cell? ⟨gx, 1, none⟩ = some (.int .i64 low.y1) ∧ x.w.cell? ⟨gx, 2, none⟩ = some (.int .i64 low.x2) ∧ x.w.cell? ⟨gx, 3, none⟩ = some (.int .i64 low.y2) := fun x => ⟨x.ok.1.c0, x.ok.1.c1, x.ok.1.c2, x.ok.1.c3⟩
    have ky1 : ∀ x : KW (fun W => BoxR W gx low ∧ BoxR W gy high), x.w.cell? ⟨gy, 0, none⟩ = some (.int .i64 high.x1) ∧ x.w.cell? ⟨gy, 1, none⟩ = some (.int .i64 high.y1) ∧ x.w.cell? ⟨gy, 2, none⟩ = some (.int .i64 high.x2) ∧ x.w.cell? ⟨gy, 3, none⟩ = some (.int .i64 high.y2) := fun x => ⟨x.ok.2.c0, x.ok.2.c1, x.ok.2.c2, x.ok.2.c3⟩
    refine wp_region_tree (fun w' => ∃ x : KW (fun W => BoxR W gx low ∧ BoxR W gy high), w' = x.w) 3 (.take 0 (.take 1 (.one 2 .done))) (by kernel_rfl) (by kernel_rfl) (KW.mk' ⟨bx.drew, by_.drew⟩) ?_
    repeat (refine wpTree_take ?_; simp only [nthOp]; (first | go_big_quiet_step (fail) | quiet_step (fail)); refine wpQuiet_nil ?_)
    obtain ⟨l0, l1, l2, l3, lf0, lf1, lf2, lf3⟩ := bl
    obtain ⟨n0, n1, n2, n3, nf0, nf1, nf2, nf3⟩ := bh
    have bl' := BoxR.mk l0 l1 l2 l3 lf0 lf1 lf2 lf3
    have bh' := BoxR.mk n0 n1 n2 n3 nf0 nf1 nf2 nf3
    refine wpTree_one ?_
    simp only [nthOp]
    go_wp2_with fail
    refine One_mk (KW.mk' ⟨by (repeat (first | (with_reducible assumption) | (with_reducible refine BoxR.drew ?_) | (with_reducible refine HeadC.drew ?_) | (with_reducible apply BoxR.s0) | (with_reducible apply BoxR.s1) | (with_reducible apply BoxR.s2) | (with_reducible apply BoxR.s3) | (with_reducible refine BoxR.set ?_ (by first | (simp; done) | (simp; omega) | omega) rfl) | (with_reducible refine HeadC.set ?_ (by first | (simp; done) | (simp; omega) | omega) rfl) | ((with_reducible refine boxR_new _ _ _ ?_); (first | rfl | (simp; done))) | ((with_reducible refine boxR_new2 _ _ _ _ ?_); (first | rfl | (simp; done))) | (with_reducible refine BoxR.alloc ?_ _) | (with_reducible refine HeadC.alloc ?_ _))), by (repeat (first | (with_reducible assumption) | (with_reducible refine BoxR.drew ?_) | (with_reducible refine HeadC.drew ?_) | (with_reducible apply BoxR.s0) | (with_reducible apply BoxR.s1) | (with_reducible apply BoxR.s2) | (with_reducible apply BoxR.s3) | (with_reducible refine BoxR.set ?_ (by first | (simp; done) | (simp; omega) | omega) rfl) | (with_reducible refine HeadC.set ?_ (by first | (simp; done) | (simp; omega) | omega) rfl) | ((with_reducible refine boxR_new _ _ _ ?_); (first | rfl | (simp; done))) | ((with_reducible refine boxR_new2 _ _ _ _ ?_); (first | rfl | (simp; done))) | (with_reducible refine BoxR.alloc ?_ _) | (with_reducible refine HeadC.alloc ?_ _)))⟩) (wpTree_done ?_)
    simp only [List.drop_succ_cons, List.drop_zero]
    go_wp2_with fail
    refine NP_mk ?_
    go_wp2_with fail
    refine gen_any (G := fun W => bodyPost _ _ _ _ _ W) (fun W => BoxR W (w.heap.size + 2) low ∧ BoxR W (w.heap.size + 3) high ∧ Below w.heap.size w W) ⟨by (repeat (first | (with_reducible assumption) | (with_reducible refine BoxR.drew ?_) | (with_reducible refine HeadC.drew ?_) | (with_reducible apply BoxR.s0) | (with_reducible apply BoxR.s1) | (with_reducible apply BoxR.s2) | (with_reducible apply BoxR.s3) | (with_reducible refine BoxR.set ?_ (by first | (simp; done) | (simp; omega) | omega) rfl) | (with_reducible refine HeadC.set ?_ (by first | (simp; done) | (simp; omega) | omega) rfl) | ((with_reducible refine boxR_new _ _ _ ?_); (first | rfl | (simp; done))) | ((with_reducible refine boxR_new2 _ _ _ _ ?_); (first | rfl | (simp; done))) | (with_reducible refine BoxR.alloc ?_ _) | (with_reducible refine HeadC.alloc ?_ _))), by (repeat (first | (with_reducible assumption) | (with_reducible refine BoxR.drew ?_) | (with_reducible refine HeadC.drew ?_) | (with_reducible apply BoxR.s0) | (with_reducible apply BoxR.s1) | (with_reducible apply BoxR.s2) | (with_reducible apply BoxR.s3) | (with_reducible refine BoxR.set ?_ (by first | (simp; done) | (simp; omega) | omega) rfl) | (with_reducible refine HeadC.set ?_ (by first | (simp; done) | (simp; omega) | omega) rfl) | ((with_reducible refine boxR_new _ _ _ ?_); (first | rfl | (simp; done))) | ((with_reducible refine boxR_new2 _ _ _ _ ?_); (first | rfl | (simp; done))) | (with_reducible refine BoxR.alloc ?_ _) | (with_reducible refine HeadC.alloc ?_ _))), by (repeat (first | (with_reducible assumption) | (with_reducible refine Below.drew ?_) | (with_reducible refine Below.setCell ?_ (by first | (simp; done) | (simp; omega) | omega) _) | (with_reducible refine Below.alloc ?_ (by first | (simp; done) | (simp; omega) | omega) _)))⟩ ?_
    rintro W9 ⟨⟨d0', d1', d2', d3', -, -, -, -⟩, ⟨e0', e1', e2', e3', -, -, -, -⟩, hb⟩
    exact bodyPost_ret (v := .tuple #[.agg #[.int .i64 low.x1, .int .i64 low.y1, .int .i64 low.x2, .int .i64 low.y2], .agg #[.int .i64 high.x1, .int .i64 high.y1, .int .i64 high.x2, .int .i64 high.y2]]) (by simp [results, Tryz.results63, go_sem, d0', d1', d2', d3', e0', e1', e2', e3']) rfl ⟨rfl, hb⟩
end Go.Proofs.YtjmgboipbhddlaaGreatDoor

set_option linter.unusedVariables false
set_option linter.unusedSimpArgs false
namespace Go.Proofs.YtjmgboipbhddlaaGreatDoor
open Go Go.RowKit

theorem put_keep {w : World} {B i : Nat} {a b c d v : Value} {p : Addr} (h : w.cell? p = some v) (hn : p.block ≠ B ∨ (p.off < i * 4 ∨ i * 4 + 3 < p.off)) (hs : p.spot = none) :
    ((((w.setCell ⟨B, i * 4, none⟩ a).setCell ⟨B, i * 4 + 1, none⟩ b).setCell ⟨B, i * 4 + 2, none⟩ c).setCell ⟨B, i * 4 + 3, none⟩ d).cell? p = some v := by
 have hne : ∀ j, i * 4 ≤ j → j ≤ i * 4 + 3 → (⟨B, j, none⟩ : Addr) ≠ p := by
  rintro j h1 h2 rfl
  rcases hn with hn | hn
  ·exact hn rfl
  ·simp only at hn; omega
 rw [cell_set_ne (hne _ (by omega) (by omega)) rfl hs, cell_set_ne (hne _ (by omega) (by omega)) rfl hs, cell_set_ne (hne _ (by omega) (by omega)) rfl hs, cell_set_ne (hne _ (by omega) (by omega)) rfl hs]
 exact h
structure CutB (W : World) (g : Nat) (c : Cut) : Prop where
 a : W.cell? ⟨g, 0, none⟩ = some (.bool c.across)
 t : W.cell? ⟨g, 1, none⟩ = some (.int .i64 c.at_)
 l : W.cell? ⟨g, 2, none⟩ = some (.int .i64 c.low)
 h : W.cell? ⟨g, 3, none⟩ = some (.int .i64 c.high)
 k : W.cell? ⟨g, 4, none⟩ = some (.int .i64 c.blank)
theorem CutB.keep {W W' : World} {g : Nat} {c : Cut} (h : CutB W g c) (hb : Below W.heap.size W W') : CutB W' g c := ⟨cell_keep hb h.a, cell_keep hb h.t, cell_keep hb h.l, cell_keep hb h.h, cell_keep hb h.k⟩
structure TrimB (W : World) (g : Nat) (t : Trim) : Prop where
 k : W.cell? ⟨g, 0, none⟩ = some (.int .i64 t.kerf)
 e : W.cell? ⟨g, 1, none⟩ = some (.int .i64 t.ends)
 s : W.cell? ⟨g, 2, none⟩ = some (.int .i64 t.sides)
theorem TrimB.keep {W W' : World} {g : Nat} {t : Trim} (h : TrimB W g t) (hb : Below W.heap.size W W') : TrimB W' g t := ⟨cell_keep hb h.k, cell_keep hb h.e, cell_keep hb h.s⟩
end Go.Proofs.YtjmgboipbhddlaaGreatDoor

set_option linter.unusedVariables false
set_option linter.unusedSimpArgs false
namespace Go.Proofs.YtjmgboipbhddlaaGreatDoor
open Go Go.RowKit

def briefB (n : Nat) : Bool := decide (n ≤ 40) || (decide (400 < n) && decide (n ≤ 420))
set_option maxHeartbeats 1000000 in
theorem brief_is (brd : Int) (a : Option Addr) (n c : Nat) (w : World) {q : Bool} (hq : briefB n = q) :
    Calls Tryz.prog 25 #[.agg #[.int .i64 brd, .slice a n c]] w fun e w' => e = .returned (.bool q) ∧ Below w.heap.size w w' := by
 have HQ := Lib.hid (show q = briefB n from hq.symm)
 clear hq
 have hp : ((n : Int) ≤ 40 ∧ briefB n = true) ∨ (¬ (n : Int) ≤ 40 ∧ (n : Int) > 400 ∧ (n : Int) ≤ 420 ∧ briefB n = true) ∨ (¬ (n : Int) ≤ 40 ∧ (n : Int) > 400 ∧ ¬ (n : Int) ≤ 420 ∧ briefB n = false) ∨ (¬ (n : Int) ≤ 40 ∧ ¬ (n : Int) > 400 ∧ briefB n = false) := by
  unfold briefB
  simp only [Bool.or_eq_true, Bool.and_eq_true, decide_eq_true_eq, Bool.or_eq_false_iff, Bool.and_eq_false_iff, decide_eq_false_iff_not]
  omega
 rcases hp with ⟨h1, h2⟩ | ⟨h1, h3, h4, h2⟩ | ⟨h1, h3, h4, h2⟩ | ⟨h1, h3, h2⟩
 all_goals
  rw [h2] at HQ
  clear h2
  go_enter Tryz.func25, Tryz.ntmps25
  go_wp2_with fail
  go_ret
  exact ⟨ret_bool HQ.out.symm, (Below.refl _ _).alloc (Nat.le_refl _) _⟩
end Go.Proofs.YtjmgboipbhddlaaGreatDoor

set_option linter.unusedVariables false
set_option linter.unusedSimpArgs false
namespace Go.Proofs.YtjmgboipbhddlaaGreatDoor
open Go Go.RowKit

structure LayB (W : World) (g : Nat) (b : Board) (ad : Option Addr) (cd : Nat) (t : Trim) (brd : Int) (al : Option Addr) (n cl : Nat) : Prop where
 bd : CellsBd W g 0 b ad cd
 tr : TrimB W (g + 1) t
 lb : W.cell? ⟨g + 2, 0, none⟩ = some (.int .i64 brd)
 lc : W.cell? ⟨g + 2, 1, none⟩ = some (.slice al n cl)
theorem LayB.keep {W W' : World} {g : Nat} {b : Board} {ad : Option Addr} {cd : Nat} {t : Trim} {brd : Int} {al : Option Addr} {n cl : Nat} (h : LayB W g b ad cd t brd al n cl) (hb : Below W.heap.size W W') : LayB W' g b ad cd t brd al n cl := ⟨h.bd.keep hb, h.tr.keep hb, cell_keep hb h.lb, cell_keep hb h.lc⟩
theorem getD_set0 {O : List Bool} {i : Nat} (h : 0 < i) : (O.set 0 true).getD i false = O.getD i false := by
 simp only [List.getD_eq_getElem?_getD]
 rw [List.getElem?_set_ne (by omega)]
theorem mark_set0 {c : Cut} {O : List Bool} (h : ¬ c.low = 0) (h1 : 0 < c.low.toNat) (h2 : 0 < c.high.toNat) : (markC c O).set 0 true = ((O.set 0 true).set c.low.toNat true).set c.high.toNat true := by
 unfold markC
 rw [if_neg h, List.set_comm _ _ (show c.high.toNat ≠ 0 by omega), List.set_comm _ _ (show c.low.toNat ≠ 0 by omega)]
theorem bne_f9 {a : Int} (h : ¬ a = 0) : (a != 0) = true := by simpa using h
theorem reg_zero {c : Cut} {i n : Int} (h : regionE c i n = 0) (hl : ¬ c.low = 0) : i < c.low ∧ i < c.high ∧ ¬ c.low = c.high ∧ c.low < n ∧ c.high < n := by
 unfold regionE at h
 rw [if_neg hl] at h
 split at h
 ·cases h
 ·split at h
  ·cases h
  ·split at h
   ·cases h
   ·omega
def regC (q : Int × List Bool) (u : Rect) (kerf : Int) (l : List Cut) : List Rect × Int :=
 if q.1 ≠ 0 then ([], q.1) else if (q.2.set 0 true).all id = false then ([], 10) else rectGo kerf l 0 ((List.replicate l.length ⟨0, 0, 0, 0⟩).set 0 u)
theorem regC_err {P : Int × List Bool} {u : Rect} {kerf E : Int} {O : List Bool} {l : List Cut} (h : P = (E, O)) (hE : E ≠ 0) : regC P u kerf l = ([], E) := by subst h; unfold regC; rw [if_pos hE]
theorem regC_shape {P : Int × List Bool} {u : Rect} {kerf : Int} {O : List Bool} {l : List Cut} (h : P = (0, O)) (hE : (O.set 0 true).all id = false) : regC P u kerf l = ([], 10) := by subst h; unfold regC; rw [if_neg (by simp), if_pos hE]
theorem regC_go {P : Int × List Bool} {u : Rect} {kerf : Int} {O : List Bool} {l : List Cut} (h : P = (0, O)) (hE : (O.set 0 true).all id = true) : regC P u kerf l = rectGo kerf l 0 ((List.replicate l.length ⟨0, 0, 0, 0⟩).set 0 u) := by subst h; unfold regC; rw [if_neg (by simp), if_neg (by rw [hE]; decide)]
set_option maxRecDepth 100000 in
set_option maxHeartbeats 16000000 in
theorem regionsP_any (b : Board) (t : Trim) (brd : Int) (l : List Cut) (ad al : Option Addr) (cd cl : Nat) (w : World) (hv : Rects.V w ad b.defects) (hl : b.defects.length ≤ 9223372036854775807) (hw : b.wf) (hc : Cuts.V w al l) (hll : l.length ≤ 100000) :
    Calls Tryz.prog 55 #[.agg #[.string b.name, .string b.species, .int .i64 b.length, .int .i64 b.width, .int .i64 b.thick, .int .i64 b.cut, .int .i64 b.moisture, .slice ad b.defects.length cd], .agg #[.int .i64 t.kerf, .int .i64 t.ends, .int .i64 t.sides], .agg #[.int .i64 brd, .slice al l.length cl]] w (LayPost w (layM b t l)) := by
 have HV := Lib.hid hv
 have HCU := Lib.hid hc
 obtain ⟨E, hE⟩ : ∃ E, cutE b t = E := ⟨_, rfl⟩
 by_cases he : E = 0
 ·subst he
  have HE := Lib.hid hE
  obtain ⟨hb1, hb2⟩ := cut_bounds hE
  have htk := (trimE_ok (cutE_ok hE).2).1
  have hq : layM b t l = regM (usableR b t) t.kerf l := by unfold layM; rw [if_neg (by simp [hE])]
  obtain ⟨u, hu⟩ : ∃ u, usableR b t = u := ⟨_, rfl⟩
  rw [hu] at hq
  have HU := Lib.hid hu
  obtain ⟨q, hqq⟩ : ∃ q, q = layM b t l := ⟨_, rfl⟩
  rw [← hqq] at hq ⊢
  clear hqq hE hu hv hc
  by_cases hn0 : l.length = 0
  ·have HQ := Lib.hid (show q = ([], 10) by rw [hq]; unfold regM; rw [if_pos hn0])
   have h1 := beq_t (show (l.length : Int) = 0 by omega)
   clear hq hn0
   go_enter Tryz.func55, Tryz.ntmps55
   go_upto_region 1 with fail
   refine gen_world (fun W => LayB W w.heap.size b ad cd t brd al l.length cl ∧ Below w.heap.size w W ∧ w.heap.size + 2 < W.heap.size) ⟨⟨⟨by simp [go_sem], by simp [go_sem], by simp [go_sem], by simp [go_sem], by simp [go_sem], by simp [go_sem], by simp [go_sem], by simp [go_sem]⟩, ⟨by simp [go_sem], by simp [go_sem], by simp [go_sem]⟩, by simp [go_sem], by simp [go_sem]⟩, (((Below.refl _ _).alloc (Nat.le_refl _) _).alloc (by simp) _).alloc (by simp; omega) _, by simp⟩ ?_
   rintro W ⟨hC, hbW, hzW⟩
   have HC := Lib.hid hC
   have HBW := Lib.hid hbW
   obtain ⟨⟨c0, c1, c2, c3, c4, c5, c6, c7⟩, ⟨t0, t1, t2⟩, lb0, lc0⟩ := hC
   simp only [Nat.zero_add] at c0 c1 c2 c3 c4 c5 c6 c7
   clear hbW
   go_wp2_with (go_at_call 97; refine (checkCut_is b t ad cd _ HE.out (HV.out.keep HBW.out) hl hw).mono ?_; rintro e w1 ⟨rfl, hb⟩; have HB1 := Lib.hid (HBW.out.trans (hb.mono HBW.out.size)); have HC1 := Lib.hid (HC.out.keep hb); have hz1 := Nat.lt_of_lt_of_le hzW hb.size; have lc1 := cell_keep hb lc0; clear hb)
   go_ret2
   exact LayPost.empty HQ.out HB1.out
  ·have h1 := beq_f (show ¬ (l.length : Int) = 0 by omega)
   have hnp : 0 < l.length := by omega
   by_cases hn4 : 400 < l.length
   ·have HQ := Lib.hid (show q = ([], 8) by rw [hq]; unfold regM; rw [if_neg hn0, if_pos hn4])
    have h2 : (l.length : Int) > 400 := by omega
    clear hq hn0 hn4
    go_enter Tryz.func55, Tryz.ntmps55
    go_upto_region 1 with fail
    refine gen_world (fun W => LayB W w.heap.size b ad cd t brd al l.length cl ∧ Below w.heap.size w W ∧ w.heap.size + 2 < W.heap.size) ⟨⟨⟨by simp [go_sem], by simp [go_sem], by simp [go_sem], by simp [go_sem], by simp [go_sem], by simp [go_sem], by simp [go_sem], by simp [go_sem]⟩, ⟨by simp [go_sem], by simp [go_sem], by simp [go_sem]⟩, by simp [go_sem], by simp [go_sem]⟩, (((Below.refl _ _).alloc (Nat.le_refl _) _).alloc (by simp) _).alloc (by simp; omega) _, by simp⟩ ?_
    rintro W ⟨hC, hbW, hzW⟩
    have HC := Lib.hid hC
    have HBW := Lib.hid hbW
    obtain ⟨⟨c0, c1, c2, c3, c4, c5, c6, c7⟩, ⟨t0, t1, t2⟩, lb0, lc0⟩ := hC
    simp only [Nat.zero_add] at c0 c1 c2 c3 c4 c5 c6 c7
    clear hbW
    go_wp2_with (go_at_call 97; refine (checkCut_is b t ad cd _ HE.out (HV.out.keep HBW.out) hl hw).mono ?_; rintro e w1 ⟨rfl, hb⟩; have HB1 := Lib.hid (HBW.out.trans (hb.mono HBW.out.size)); have HC1 := Lib.hid (HC.out.keep hb); have hz1 := Nat.lt_of_lt_of_le hzW hb.size; have lc1 := cell_keep hb lc0; clear hb)
    go_ret2
    exact LayPost.empty HQ.out HB1.out
   ·have h2 : ¬ (l.length : Int) > 400 := by omega
    have HM := Lib.hid (show q = regC (ownGo l.length l 0 (List.replicate l.length false)) u t.kerf l by rw [hq]; unfold regM regC; rw [if_neg hn0, if_neg hn4])
    clear hq hn0
    have hl4 : l.length ≤ 400 := by omega
    obtain ⟨P, hP⟩ : ∃ P, P = ownGo l.length l 0 (List.replicate l.length false) := ⟨_, rfl⟩
    rw [← hP] at HM
    have HP := Lib.hid hP
    have hmk := fun W => make_bools W l.length (by omega)
    have hmr := fun W => make_rects W l.length (by omega)
    clear hP hn4
    go_enter Tryz.func55, Tryz.ntmps55
    go_upto_region 1 with fail
    refine gen_world (fun W => LayB W w.heap.size b ad cd t brd al l.length cl ∧ Below w.heap.size w W ∧ w.heap.size + 2 < W.heap.size) ⟨⟨⟨by simp [go_sem], by simp [go_sem], by simp [go_sem], by simp [go_sem], by simp [go_sem], by simp [go_sem], by simp [go_sem], by simp [go_sem]⟩, ⟨by simp [go_sem], by simp [go_sem], by simp [go_sem]⟩, by simp [go_sem], by simp [go_sem]⟩, (((Below.refl _ _).alloc (Nat.le_refl _) _).alloc (by simp) _).alloc (by simp; omega) _, by simp⟩ ?_
    rintro W ⟨hC, hbW, hzW⟩
    have HC := Lib.hid hC
    have HBW := Lib.hid hbW
    obtain ⟨⟨c0, c1, c2, c3, c4, c5, c6, c7⟩, ⟨t0, t1, t2⟩, lb0, lc0⟩ := hC
    simp only [Nat.zero_add] at c0 c1 c2 c3 c4 c5 c6 c7
    clear hbW
    go_upto_region 10 with (go_at_call 97; refine (checkCut_is b t ad cd _ HE.out (HV.out.keep HBW.out) hl hw).mono ?_; rintro e w1 ⟨rfl, hb⟩; have HB1 := Lib.hid (HBW.out.trans (hb.mono HBW.out.size)); have HC1 := Lib.hid (HC.out.keep hb); have hz1 := Nat.lt_of_lt_of_le hzW hb.size; have lc1 := cell_keep hb lc0; clear hb)
    clear c0 c1 c2 c3 c4 c5 c6 c7 t0 t1 t2 lb0 lc0
    obtain ⟨B2, hB2⟩ : ∃ B, B = w1.heap.size := ⟨_, rfl⟩
    have HB := Lib.hid hB2
    refine gen_world (fun W => W.ownsRow B2 4 1 (.slice (some ⟨B2, 0, none⟩) l.length l.length) l.length ((List.replicate l.length false).map Value.bool) ∧ Below B2 w1 W) ⟨?_, ?_⟩ ?_
    ·have h := made_own (w := w1) (base := B2) (n := l.length) (T := 4) (z := .bool false) (by rw [hB2]; exact Nat.le_refl _) (by unfold maxLen; omega)
     rw [List.map_replicate]
     rw [← hB2] at h
     exact h
    ·exact (Below.refl _ _).alloc (by rw [hB2]; exact Nat.le_refl _) _
    rintro W2 ⟨ho2, hb2'⟩
    have HO2 := Lib.hid ho2
    have HBW2 := Lib.hid hb2'
    rw [← hB2] at hz1 ⊢
    obtain ⟨d0, df0⟩ := own_bool_cell ho2 (i := 0) (by simpa using hnp)
    have lc2 := cell_keep (show Below w1.heap.size w1 W2 by rw [← HB.out]; exact hb2') lc1
    have hlp : (0 : Int) < (l.length : Int) := by omega
    have hsb : (w.heap.size + 2 == B2) = false := by simp; omega
    have hsn : w.heap.size + 2 ≠ B2 := by omega
    have hsn2 : B2 ≠ w.heap.size + 2 := by omega
    clear ho2 hb2' hB2 lc1
    go_wp2_with fail
    clear d0 df0 lc2 h1 h2
    go_loopw [40] (fun iv wr => ∃ (k : Nat) (O : List Bool), k ≤ l.length ∧ iv = .int .i64 k ∧ O.length = l.length ∧ Hid (P = ownGo l.length (l.drop k) k O) ∧ Hid (∀ j (hj : j < l.length), j < k → regionE l[j] j l.length = 0) ∧ Hid (wr.ownsRow B2 4 1 (.slice (some ⟨B2, 0, none⟩) l.length l.length) l.length ((O.set 0 true).map Value.bool)) ∧ Below B2 w1 wr) (fun iv _ => l.length - (intOf iv).toNat)
    case atStart => exact ⟨0, List.replicate l.length false, Nat.zero_le _, rfl, by simp, HP, Lib.hid (fun j _ h => by omega), Lib.hid (own_setb HO2.out (by simpa using hnp)), HBW2.out.setCell (Nat.le_refl _) _⟩
    case round =>
     clear HP HO2 HBW2
     obtain ⟨k, O, hk, rfl, hOl, HQ, HR, HO, hbr⟩ := hrel
     have HBR := Lib.hid hbr
     have HBR1 := Lib.hid (show Below w1.heap.size w1 wr by rw [← HB.out]; exact hbr)
     have HBX := Lib.hid (HB1.out.trans (HBR1.out.mono (by rw [← HB.out]; omega)))
     have hGB : B2 < wr.heap.size := (own_blk HO.out).2
     clear hbr
     obtain ⟨-, -, -, lc2⟩ := HC1.out.keep HBR1.out
     by_cases hlt : k < l.length
     ·obtain ⟨bc, oc, hal, m0, m1, m2, m3, m4, -⟩ := (HCU.out.keep HBX.out).at_ hlt
      subst hal
      have HERR := Lib.hid (fun E h1 h2 => own_err (E := E) hlt HQ.out h1 h2)
      have HSTP := Lib.hid (fun h1 => own_step hlt HQ.out h1)
      have HRS := Lib.hid (show regionE l[k] k l.length = 0 → ∀ j (hj : j < l.length), j < k + 1 → regionE l[j] j l.length = 0 from fun h j hj hlt' => by
       rcases Nat.lt_succ_iff_lt_or_eq.1 hlt' with h' | rfl
       ·exact HR.out j hj h'
       ·exact h)
      have hki : (k : Int) < (l.length : Int) := by omega
      clear HQ HR
      generalize l[k] = c at *
      go_upto_region 14 with fail
      refine gen_world (fun W9 => CutB W9 wr.heap.size c ∧ Below wr.heap.size wr W9) ⟨⟨by simp [go_sem], by simp [go_sem], by simp [go_sem], by simp [go_sem], by simp [go_sem]⟩, by repeat (first | exact (Below.refl _ _).alloc (Nat.le_refl _) _ | (refine Below.setCell ?_ (by simp) _))⟩ ?_
      rintro W9 ⟨hcb, hb9⟩
      have HCB := Lib.hid hcb
      have HO9 := Lib.hid (own_keep HO.out hb9)
      have HB9 := Lib.hid (HBR.out.trans (hb9.mono (Nat.le_of_lt hGB)))
      have HB9X := Lib.hid (HBX.out.trans (hb9.mono HBX.out.size))
      obtain ⟨q0, q1, q2, q3, q4⟩ := hcb
      have hG9 : wr.heap.size < W9.heap.size := by simpa using block_lt_of_cell q0
      clear m0 m1 m2 m3 m4 lc2 hb9 HO HBR HBX HBR1
      obtain ⟨G, hG⟩ : ∃ G, G = wr.heap.size := ⟨_, rfl⟩
      rw [← hG] at q0 q1 q2 q3 q4 HCB hGB hG9 ⊢
      have hGne : G ≠ B2 := by omega
      have hGne2 : B2 ≠ G := by omega
      clear hG
      obtain ⟨E, hE⟩ : ∃ E, regionE c k l.length = E := ⟨_, rfl⟩
      have HEE := Lib.hid hE
      by_cases hE0 : E = 0
      ·subst hE0
       have hce : cutErrM c k l.length O = markE c O := cutErr_good hE
       have HRS2 := Lib.hid (HRS.out hE)
       by_cases hlo : c.low = 0
       ·have hst := HSTP.out (by rw [hce]; unfold markE; rw [if_pos hlo])
        rw [show markC c O = O by unfold markC; rw [if_pos hlo]] at hst
        have HST := Lib.hid hst
        have HLF := Lib.hid (fun w => leaf_is c w (decide_eq_true hlo))
        clear hst hlo hce hE HERR HSTP HRS
        go_wp2_with (first
         | (go_at_call 98; refine (checkRegion_is c k l.length _ HEE.out).mono ?_; rintro e w3 ⟨rfl, hb3⟩; have HCB3 := Lib.hid (HCB.out.keep hb3); have HO3 := Lib.hid (own_keep HO9.out hb3); have HB3 := Lib.hid (HB9.out.trans (hb3.mono (by omega))); have HB3X := Lib.hid (HB9X.out.trans (hb3.mono HB9X.out.size)); have hz3 := Nat.lt_of_lt_of_le hG9 hb3.size; clear hb3 q0 q1 q2 q3 q4; obtain ⟨q0, q1, q2, q3, q4⟩ := HCB3.out)
         | (go_at_call 28; refine (HLF.out _).mono ?_; rintro e w4 ⟨rfl, hb4⟩; have HCB4 := Lib.hid (HCB3.out.keep hb4); have HO4 := Lib.hid (own_keep HO3.out hb4); have HB4 := Lib.hid (HB3.out.trans (hb4.mono (by omega))); have HB4X := Lib.hid (HB3X.out.trans (hb4.mono HB3X.out.size)); have hz4 := Nat.lt_of_lt_of_le hz3 hb4.size; clear hb4 q0 q1 q2 q3 q4))
        go_roundw
        case rel => exact ⟨k + 1, O, by omega, by go_num, hOl, HST, HRS2, HO4, HB4.out⟩
        case measure => simp [intOf]; omega
       ·obtain ⟨z1, z2, z3, z4, z5⟩ := reg_zero hE hlo
        obtain ⟨lo, hlo'⟩ : ∃ lo : Nat, c.low = lo := ⟨c.low.toNat, by omega⟩
        obtain ⟨hi, hhi'⟩ : ∃ hi : Nat, c.high = hi := ⟨c.high.toNat, by omega⟩
        have hLF := fun w => leaf_is c w (decide_eq_false hlo)
        have HLF := Lib.hid hLF
        have HM5 := Lib.hid (show markE c O = if O.getD lo false = true then 5 else if O.getD hi false = true then 5 else 0 by unfold markE; rw [if_neg hlo, hlo', hhi', Int.toNat_natCast, Int.toNat_natCast])
        have HS0 := Lib.hid (show (markC c O).set 0 true = ((O.set 0 true).set lo true).set hi true by rw [mark_set0 hlo (by omega) (by omega), hlo', hhi', Int.toNat_natCast, Int.toNat_natCast])
        have HLO := Lib.hid hlo'
        have HHI := Lib.hid hhi'
        rw [hlo'] at z1 z4 z3
        rw [hhi'] at z2 z5 z3
        have hlos : lo < (O.set 0 true).length := by rw [List.length_set]; omega
        have hhis : hi < (O.set 0 true).length := by rw [List.length_set]; omega
        have hg1 : (lo : Int) < (l.length : Int) := z4
        have hg2 : (hi : Int) < (l.length : Int) := z5
        have hlp2 : 0 < lo := by omega
        have hhp2 : 0 < hi := by omega
        clear hLF hlo hlo' hhi' hE HRS
        go_upto_region 18 with (first
         | (go_at_call 98; refine (checkRegion_is c k l.length _ HEE.out).mono ?_; rintro e w3 ⟨rfl, hb3⟩; have HCB3 := Lib.hid (HCB.out.keep hb3); have HO3 := Lib.hid (own_keep HO9.out hb3); have HB3 := Lib.hid (HB9.out.trans (hb3.mono (by omega))); have HB3X := Lib.hid (HB9X.out.trans (hb3.mono HB9X.out.size)); have hz3 := Nat.lt_of_lt_of_le hG9 hb3.size; clear hb3 q0 q1 q2 q3 q4; obtain ⟨q0, q1, q2, q3, q4⟩ := HCB3.out)
         | (go_at_call 28; refine (HLF.out _).mono ?_; rintro e w4 ⟨rfl, hb4⟩; have HCB4 := Lib.hid (HCB3.out.keep hb4); have HO4 := Lib.hid (own_keep HO3.out hb4); have HB4 := Lib.hid (HB3.out.trans (hb4.mono (by omega))); have HB4X := Lib.hid (HB3X.out.trans (hb4.mono HB3X.out.size)); have hz4 := Nat.lt_of_lt_of_le hz3 hb4.size; clear hb4 q0 q1 q2 q3 q4))
        obtain ⟨q0, q1, q2, q3, q4⟩ := HCB4.out
        rw [HLO.out] at q2
        rw [HHI.out] at q3
        obtain ⟨d1, f1⟩ := own_bool_cell HO4.out hlos
        obtain ⟨d2, f2⟩ := own_bool_cell HO4.out hhis
        rw [getD_set0 hlp2] at d1
        rw [getD_set0 hhp2] at d2
        cases hL : O.getD lo false
        ·rw [hL] at d1
         cases hH : O.getD hi false
         ·rw [hH] at d2
          have HST := Lib.hid (HSTP.out (by rw [hce, HM5.out, hL, hH]; rfl))
          clear hL hH hce HERR HSTP
          go_upto_region 20 with fail
          go_region_held3 (fun w' => w'.cell? ⟨G, 2, none⟩ = some (.int .i64 lo) ∧ w'.cell? ⟨G, 3, none⟩ = some (.int .i64 hi)) (go_keep) (fail)
          all_goals
           go_wp2_with fail
           go_roundw
           case rel =>
            refine ⟨k + 1, markC c O, by omega, by go_num, by rw [markC_len]; exact hOl, HST, HRS2, Lib.hid ?_, ?_⟩
            ·rw [HS0.out]
             exact own_setb (own_setb HO4.out hlos) (by rw [List.length_set]; exact hhis)
            ·refine Below.drew (Below.setCell (Below.setCell HB4.out ?_ _) ?_ _) <;> exact Nat.le_refl _
           case measure => simp [intOf]; omega
         ·rw [hH] at d2
          have HQ := Lib.hid (show q = ([], 5) by rw [HM.out]; exact regC_err (HERR.out 5 (by rw [hce, HM5.out, hL, hH]; rfl) (by decide)) (by decide))
          clear hL hH hce HERR HSTP
          go_wp2_with fail
          go_ret2
          exact LayPost.empty HQ.out HB4X.out
        ·rw [hL] at d1
         have HQ := Lib.hid (show q = ([], 5) by rw [HM.out]; exact regC_err (HERR.out 5 (by rw [hce, HM5.out, hL]; rfl) (by decide)) (by decide))
         clear hL hce HERR HSTP
         go_wp2_with fail
         go_ret2
         exact LayPost.empty HQ.out HB4X.out
      ·have hne := bne_f9 hE0
       have HQ := Lib.hid (show q = ([], E) by rw [HM.out]; exact regC_err (HERR.out E (cutErr_bad hE.symm hE0) hE0) hE0)
       clear hE hE0 HERR HSTP HRS
       go_wp2_with (go_at_call 98; refine (checkRegion_is c k l.length _ HEE.out).mono ?_; rintro e w3 ⟨rfl, hb3⟩; have HCB3 := Lib.hid (HCB.out.keep hb3); have HO3 := Lib.hid (own_keep HO9.out hb3); have HB3 := Lib.hid (HB9.out.trans (hb3.mono (by omega))); have HB3X := Lib.hid (HB9X.out.trans (hb3.mono HB9X.out.size)); have hz3 := Nat.lt_of_lt_of_le hG9 hb3.size; clear hb3 q0 q1 q2 q3 q4; obtain ⟨q0, q1, q2, q3, q4⟩ := HCB3.out)
       go_ret2
       exact LayPost.empty HQ.out HB3X.out
     ·have hPE := own_end (Nat.le_of_not_lt hlt) HQ.out
      have HRA := Lib.hid (show ∀ j (hj : j < l.length), regionE l[j] j l.length = 0 from fun j hj => HR.out j hj (by omega))
      have hki : ¬ (k : Int) < (l.length : Int) := by omega
      have hDl : (O.set 0 true).length = l.length := by rw [List.length_set]; exact hOl
      have HGAP := Lib.hid (fun h => regC_shape (u := u) (kerf := t.kerf) (l := l) hPE h)
      have HGO := Lib.hid (fun h => regC_go (u := u) (kerf := t.kerf) (l := l) hPE h)
      clear HQ HR hPE
      obtain ⟨D, hD⟩ : ∃ D, D = O.set 0 true := ⟨_, rfl⟩
      rw [← hD] at HGAP HGO HO hDl
      clear hD hOl
      have HDL := Lib.hid hDl
      clear hDl
      have HBV : Hid (Bools.V wr (some ⟨B2, 0, none⟩) D) := Lib.hid (by
       obtain ⟨a', c', e1, e2⟩ := own_bools HO.out
       injection e1 with e3 _ _
       rw [e3]; exact e2)
      have HDB := Lib.hid (show D.length ≤ 1000000 by have := HDL.out; omega)
      cases hall : D.all id
      ·have HA := Lib.hid hall
       have HQ := Lib.hid (show q = ([], 10) by rw [HM.out]; exact HGAP.out hall)
       clear hall HGAP HGO
       go_wp2_with (go_at_call 99; refine (hasFalse_any (some ⟨B2, 0, none⟩) D l.length l.length _ HDL.out HA.out HBV.out HDB.out).mono ?_; rintro e w5 ⟨rfl, hb⟩; have HB5 := Lib.hid (HBX.out.trans (hb.mono HBX.out.size)); clear hb)
       go_ret2
       exact LayPost.empty HQ.out HB5.out
      ·have HA := Lib.hid hall
       have HQ := Lib.hid (show q = rectGo t.kerf l 0 ((List.replicate l.length ⟨0, 0, 0, 0⟩).set 0 u) by rw [HM.out]; exact HGO.out hall)
       clear hall HGAP HGO
       go_upto_region 25 with (go_at_call 99; refine (hasFalse_any (some ⟨B2, 0, none⟩) D l.length l.length _ HDL.out HA.out HBV.out HDB.out).mono ?_; rintro e w5 ⟨rfl, hb⟩; have HB5 := Lib.hid (HBR1.out.trans (hb.mono HBR1.out.size)); clear hb)
       obtain ⟨B3, hB3⟩ : ∃ B, B = w5.heap.size := ⟨_, rfl⟩
       have HB3E := Lib.hid hB3
       refine gen_world (fun W => W.ownsRow B3 41 4 (.slice (some ⟨B3, 0, none⟩) l.length l.length) l.length ((List.replicate l.length (⟨0, 0, 0, 0⟩ : Rect)).flatMap cellsR) ∧ Below B3 w5 W) ⟨?_, ?_⟩ ?_
       ·have h := made_rects (w := w5) (base := B3) (n := l.length) (T := 41) (by rw [hB3]; exact Nat.le_refl _) (by unfold maxLen; omega)
        rw [← hB3] at h
        exact h
       ·exact (Below.refl _ _).alloc (by rw [hB3]; exact Nat.le_refl _) _
       rintro W6 ⟨ho6, hb6⟩
       have HO6 := Lib.hid ho6
       have HB6 := Lib.hid hb6
       have HB6' := Lib.hid (show Below w5.heap.size w5 W6 by rw [← HB3E.out]; exact hb6)
       have hz35 : w.heap.size + 2 < B3 := by have := HB5.out.size; have := HB.out; omega
       rw [← hB3]
       clear hB3 ho6 hb6 lc2
       have HC5 := Lib.hid (HC1.out.keep HB5.out)
       obtain ⟨⟨c0, c1, c2, c3, c4, c5, c6, c7⟩, ⟨t0, t1, t2⟩, lb0, lc0⟩ := HC5.out.keep HB6'.out
       simp only [Nat.zero_add] at c0 c1 c2 c3 c4 c5 c6 c7
       have hn2 : w.heap.size + 2 ≠ B3 := by omega
       have hn3 : B3 ≠ w.heap.size + 2 := by omega
       go_upto_region 26 with (go_at_call 75; refine (usable_is b t u ad cd _ HU.out hb1 hb2).mono ?_; rintro e w7 ⟨rfl, hb⟩; have HO7 := Lib.hid (own_keep HO6.out hb); have HB7 := Lib.hid (HB6.out.trans (hb.mono (by have := (own_base HO6.out rfl); have := HB6.out.size; have := HB3E.out; omega))); obtain ⟨⟨u0, u1, u2, u3⟩, ⟨uf0, uf1, uf2, uf3⟩⟩ := own_getR (own_keep HO6.out hb) (i := 0) (by simpa using hnp); simp only [Nat.zero_mul, Nat.zero_add] at u0 u1 u2 u3 uf0 uf1 uf2 uf3; clear hb)
       have hput := own_putR u HO7.out (i := 0) (by simpa using hnp)
       simp only [Nat.zero_mul, Nat.zero_add] at hput
       have HO8 := Lib.hid hput
       clear hput
       refine gen_world (fun W => W.ownsRow B3 41 4 (.slice (some ⟨B3, 0, none⟩) l.length l.length) l.length (((List.replicate l.length (⟨0, 0, 0, 0⟩ : Rect)).set 0 u).flatMap cellsR) ∧ Below B3 w5 W) ⟨by first | exact HO8.out | exact own_keep HO8.out (Below.refl _ _).drew, by repeat (first | exact HB7.out | exact Nat.le_refl _ | (refine Below.drew ?_) | (refine Below.setCell ?_ ?_ _))⟩ ?_
       rintro W8 ⟨ho8, hb8⟩
       have HO9 := Lib.hid ho8
       have HB9 := Lib.hid hb8
       obtain ⟨-, -, lb8, lc8⟩ := HC5.out.keep (show Below w5.heap.size w5 W8 by rw [← HB3E.out]; exact hb8)
       clear ho8 hb8 HO8 HO7 HB7 u0 u1 u2 u3 uf0 uf1 uf2 uf3 c0 c1 c2 c3 c4 c5 c6 c7 t0 t1 t2 lb0 lc0 HO6 HB6 HB6'
       go_wp2_with fail
       clear lb8 lc8
       go_loopw [87] (fun iv wr => ∃ (m : Nat) (R : List Rect), m ≤ l.length ∧ iv = .int .i64 m ∧ R.length = l.length ∧ Hid (∀ r ∈ R, okR r) ∧ Hid (q = rectGo t.kerf (l.drop m) m R) ∧ Hid (wr.ownsRow B3 41 4 (.slice (some ⟨B3, 0, none⟩) l.length l.length) l.length (R.flatMap cellsR)) ∧ Below B3 w5 wr) (fun iv _ => l.length - (intOf iv).toNat)
       case atStart =>
        refine ⟨0, _, Nat.zero_le _, rfl, by simp, Lib.hid (fun r hr => ?_), HQ, HO9, HB9.out⟩
        rcases List.mem_or_eq_of_mem_set hr with hr | rfl
        ·rw [List.eq_of_mem_replicate hr]; exact .inl rfl
        ·rw [← HU.out]
         unfold usableR
         exact okR_whole (by simp only; omega)
       case round =>
        clear HQ HO9 HB9
        obtain ⟨m, R, hm, rfl, hRl, HRO, HQ, HO, hbr⟩ := hrel
        have HBR := Lib.hid hbr
        have HBR5 := Lib.hid (show Below w5.heap.size w5 wr by rw [← HB3E.out]; exact hbr)
        have HBR1 := Lib.hid (HB5.out.trans (HBR5.out.mono HB5.out.size))
        have HBX := Lib.hid (HB1.out.trans (HBR1.out.mono HB1.out.size))
        have hGB : B3 < wr.heap.size := (HO.out.lt B3 rfl).2
        clear hbr
        obtain ⟨-, ⟨pk, -, -⟩, -, lc2⟩ := HC5.out.keep HBR5.out
        by_cases hltm : m < l.length
        ·obtain ⟨bc, oc, hal, m0, m1, m2, m3, m4, -⟩ := (HCU.out.keep HBX.out).at_ hltm
         subst hal
         have hkR : m < R.length := by omega
         have HLE := Lib.hid (fun h => rect_leaf hltm HQ.out h)
         have HER := Lib.hid (fun h1 h2 => rect_err hltm hkR HQ.out h1 h2)
         have HST := Lib.hid (fun h1 h2 => rect_step hltm hkR HQ.out h1 h2)
         have hreg := HRA.out m hltm
         have hokq := HRO.out _ (List.getElem_mem hkR)
         have hmi : (m : Int) < (l.length : Int) := by omega
         clear HQ
         generalize l[m] = c at *
         obtain ⟨rq, hrq⟩ : ∃ x, x = R[m] := ⟨_, rfl⟩
         rw [← hrq] at HER HST hokq
         have HRQ := Lib.hid hrq
         have hrb0 : (0 ≤ rq.x1 ∧ rq.x1 ≤ 600000 ∧ 0 ≤ rq.y1 ∧ rq.y1 ≤ 600000) ∧ (0 ≤ rq.x2 ∧ rq.x2 ≤ 600000 ∧ 0 ≤ rq.y2 ∧ rq.y2 ≤ 600000) := by
          rcases hokq with h | h
          ·rw [h]; simp
          ·unfold proper at h; omega
         obtain ⟨hrb, hrb2⟩ := hrb0
         clear hrq pk
         go_upto_region 29 with fail
         refine gen_world (fun W9 => CutB W9 wr.heap.size c ∧ Below wr.heap.size wr W9) ⟨⟨by simp [go_sem], by simp [go_sem], by simp [go_sem], by simp [go_sem], by simp [go_sem]⟩, by repeat (first | exact (Below.refl _ _).alloc (Nat.le_refl _) _ | (refine Below.setCell ?_ (by simp) _))⟩ ?_
         rintro W9 ⟨hcb, hb9⟩
         have HCB3 := Lib.hid hcb
         have HO3 := Lib.hid (own_keep HO.out hb9)
         have HB3 := Lib.hid (HBR.out.trans (hb9.mono (Nat.le_of_lt hGB)))
         have HB3X := Lib.hid (HBX.out.trans (hb9.mono HBX.out.size))
         obtain ⟨q0, q1, q2, q3, q4⟩ := hcb
         have hz3 : wr.heap.size < W9.heap.size := by simpa using block_lt_of_cell q0
         clear m0 m1 m2 m3 m4 lc2 hb9 HO HBR HBX HBR1 HBR5
         obtain ⟨G, hG⟩ : ∃ G, G = wr.heap.size := ⟨_, rfl⟩
         rw [← hG] at q0 q1 q2 q3 q4 HCB3 hGB hz3 ⊢
         have hGne : G ≠ B3 := by omega
         have hGne2 : B3 ≠ G := by omega
         clear hG
         by_cases hlo : c.low = 0
         ·have HSTL := Lib.hid (HLE.out hlo)
          have HLF := Lib.hid (fun w => leaf_is c w (decide_eq_true hlo))
          clear hlo HLE HER HST hreg
          go_wp2_with (go_at_call 28; refine (HLF.out _).mono ?_; rintro e w4 ⟨rfl, hb4⟩; have HCB4 := Lib.hid (HCB3.out.keep hb4); have HO4 := Lib.hid (own_keep HO3.out hb4); have HB4 := Lib.hid (HB3.out.trans (hb4.mono (by omega))); have HB4X := Lib.hid (HB3X.out.trans (hb4.mono HB3X.out.size)); have hz4 := Nat.lt_of_lt_of_le hz3 hb4.size; clear hb4 q0 q1 q2 q3 q4)
          go_roundw
          case rel => exact ⟨m + 1, R, by omega, by go_num, hRl, HRO, HSTL, HO4, HB4.out⟩
          case measure => simp [intOf]; omega
         ·obtain ⟨z1, z2, z3, z4, z5⟩ := reg_zero hreg hlo
          obtain ⟨lo, hlo'⟩ : ∃ lo : Nat, c.low = lo := ⟨c.low.toNat, by omega⟩
          obtain ⟨hi, hhi'⟩ : ∃ hi : Nat, c.high = hi := ⟨c.high.toNat, by omega⟩
          have HLF := Lib.hid (fun w => leaf_is c w (decide_eq_false hlo))
          have HLN := Lib.hid hlo
          have HSR := Lib.hid (show stepR t.kerf c rq R = (R.set lo (lowR rq c.across c.at_)).set hi (highR rq c.across c.at_ t.kerf) by unfold stepR; rw [hlo', hhi', Int.toNat_natCast, Int.toNat_natCast])
          have HLO := Lib.hid hlo'
          have HHI := Lib.hid hhi'
          rw [hlo'] at z1 z4 z3
          rw [hhi'] at z2 z5 z3
          have hloR : lo < R.length := by omega
          have hhiR : hi < R.length := by omega
          have hg1 : (lo : Int) < (l.length : Int) := z4
          have hg2 : (hi : Int) < (l.length : Int) := z5
          have hlm : lo ≠ m := by omega
          have hhm : hi ≠ m := by omega
          have hlh : lo ≠ hi := by omega
          clear hlo hlo' hhi' hreg HLE
          cases hac : c.across
          ·have v1 : IntKind.i64.wrap (rq.y2 - rq.y1) = rq.y2 - rq.y1 := IntWalk.i64_in _ (by omega)
           have v2 : IntKind.i64.wrap (rq.x2 - rq.x1) = rq.x2 - rq.x1 := IntWalk.i64_in _ (by omega)
           have v3 : IntKind.i64.wrap (rq.y2 - rq.y1 - 1) = rq.y2 - rq.y1 - 1 := IntWalk.i64_in _ (by omega)
           obtain ⟨wv, hwv⟩ : ∃ x, withinB c.at_ 1 (rq.y2 - rq.y1 - 1) = x := ⟨_, rfl⟩
           have HWV := Lib.hid hwv
           have HSZ := Lib.hid (show sizeR rq c.across - 1 = rq.y2 - rq.y1 - 1 by unfold sizeR; rw [hac]; rfl)
           have HAC := Lib.hid hac
           clear hac
           go_upto_region 30 with (go_at_call 28; refine (HLF.out _).mono ?_; rintro e w4 ⟨rfl, hb4⟩; have HCB4 := Lib.hid (HCB3.out.keep hb4); have HO4 := Lib.hid (own_keep HO3.out hb4); have HB4 := Lib.hid (HB3.out.trans (hb4.mono (by omega))); have HB4X := Lib.hid (HB3X.out.trans (hb4.mono HB3X.out.size)); have hz4 := Nat.lt_of_lt_of_le hz3 hb4.size; clear hb4 q0 q1 q2 q3 q4)
           obtain ⟨q0, q1, q2, q3, q4⟩ := HCB4.out
           rw [HAC.out] at q0
           have pk4 := (HC5.out.keep (show Below w5.heap.size w5 w4 by rw [← HB3E.out]; exact HB4.out)).tr.k
           obtain ⟨⟨e0, e1, e2, e3⟩, -⟩ := own_getR HO4.out hkR
           rw [← HRQ.out] at e0 e1 e2 e3
           go_quiet (fail)
           rename_i nq
           go_upto_region 33 with fail
           cases wv
           ·have HQE := Lib.hid (HER.out HLN.out (by rw [HSZ.out]; exact hwv))
            clear hwv
            go_wp2_with (go_at_call 30; refine (cwithin_is _ _ _ _ HWV.out).mono ?_; rintro e w' ⟨rfl, rfl⟩)
            go_ret2
            exact LayPost.empty HQE.out (by repeat (first | exact HB4X.out | (refine below_drewN ?_ _)))
           ·have hws := withinB_true hwv
            have hat : 1 ≤ c.at_ ∧ c.at_ ≤ sizeR rq c.across - 1 := by rw [HSZ.out]; exact hws
            have HPB := Lib.hid (And.intro hrb (show 0 ≤ c.at_ ∧ c.at_ ≤ 600000 by omega))
            have HOKS := Lib.hid (okR_step (kerf := t.kerf) (c := c) (R := R) HRO.out hokq hat htk.1)
            have HSTE := Lib.hid (HST.out HLN.out (by rw [HSZ.out]; exact hwv))
            clear hwv hws hat
            go_upto_region 35 with (go_at_call 30; refine (cwithin_is _ _ _ _ HWV.out).mono ?_; rintro e w' ⟨rfl, rfl⟩)
            clear q0 q1 q2 q3 q4 e0 e1 e2 e3
            refine gen_world (fun W => CutB W G c ∧ W.cell? ⟨w.heap.size + 1, 0, none⟩ = some (.int .i64 t.kerf) ∧ W.ownsRow B3 41 4 (.slice (some ⟨B3, 0, none⟩) l.length l.length) l.length (R.flatMap cellsR) ∧ Below B3 w5 W ∧ G < W.heap.size) ⟨HCB4.out.keep (by repeat (first | exact Below.refl _ _ | (refine below_drewN ?_ _))), cell_keep (by repeat (first | exact Below.refl _ _ | (refine below_drewN ?_ _))) pk4, own_keep HO4.out (by repeat (first | exact Below.refl _ _ | (refine below_drewN ?_ _))), (by repeat (first | exact HB4.out | (refine below_drewN ?_ _))), by simpa using hz4⟩ ?_
            rintro W10 ⟨hcb, pk, ho10, hb10, hg10⟩
            obtain ⟨p0, p1, p2, p3, p4⟩ := hcb
            rw [HLO.out] at p2
            rw [HHI.out] at p3
            have HO10 := Lib.hid ho10
            have HB10 := Lib.hid hb10
            obtain ⟨pR, -⟩ := own_getR ho10 hkR
            rw [← HRQ.out] at pR
            clear ho10 hb10
            obtain ⟨pR0, pR1, pR2, pR3⟩ := pR
            have hk1 : w.heap.size + 1 ≠ B3 := by omega
            have hk2 : B3 ≠ w.heap.size + 1 := by omega
            go_region_held3 (fun w' => w'.cell? ⟨G, 2, none⟩ = some (.int .i64 lo) ∧ w'.cell? ⟨G, 3, none⟩ = some (.int .i64 hi) ∧ w'.cell? ⟨B3, m * 4, none⟩ = some (.int .i64 rq.x1) ∧ w'.cell? ⟨B3, m * 4 + 1, none⟩ = some (.int .i64 rq.y1) ∧ w'.cell? ⟨B3, m * 4 + 2, none⟩ = some (.int .i64 rq.x2) ∧ w'.cell? ⟨B3, m * 4 + 3, none⟩ = some (.int .i64 rq.y2) ∧ w'.cell? ⟨G, 0, none⟩ = some (.bool c.across) ∧ w'.cell? ⟨G, 1, none⟩ = some (.int .i64 c.at_) ∧ w'.cell? ⟨w.heap.size + 1, 0, none⟩ = some (.int .i64 t.kerf)) (first | ((with_reducible refine ⟨?_, ?_, ?_, ?_, ?_, ?_, ?_, ?_, ?_⟩) <;> (first | with_reducible assumption | ((with_reducible refine put_keep ?_ ?_ rfl) <;> (first | with_reducible assumption | exact .inl hGne | exact .inl hk1 | exact .inr (by simp only; omega) | ((with_reducible refine put_keep ?_ ?_ rfl) <;> (first | with_reducible assumption | exact .inl hGne | exact .inl hk1 | exact .inr (by simp only; omega))))))) | go_keep)
             (first | (go_at_call 29; (with_reducible refine (parted_is rq _ _ c.across c.at_ t.kerf _ rfl rfl HPB.out.1 HPB.out.2 htk).mono ?_); rintro e w11 ⟨⟨nn, rfl⟩, hb11⟩; have HB11 := Lib.hid (show Below W10.heap.size W10 w11 from (Below.refl W10.heap.size W10).drew.trans hb11); clear hb11; have p2' := cell_keep HB11.out p2; have p3' := cell_keep HB11.out p3; have p0' := cell_keep HB11.out p0; have p1' := cell_keep HB11.out p1; have pk' := cell_keep HB11.out pk; have pR0' := cell_keep HB11.out pR0; have pR1' := cell_keep HB11.out pR1; have pR2' := cell_keep HB11.out pR2; have pR3' := cell_keep HB11.out pR3; have HO11 := Lib.hid (own_keep HO10.out HB11.out); have HB11B := Lib.hid (HB10.out.trans (HB11.out.mono (by omega))); obtain ⟨⟨u0, u1, u2, u3⟩, ⟨uf0, uf1, uf2, uf3⟩⟩ := own_getR HO11.out hloR; obtain ⟨⟨v0, v1', v2', v3'⟩, ⟨vf0, vf1, vf2, vf3⟩⟩ := own_getR HO11.out hhiR; have o0 : ¬ lo = hi := (by omega); have o1 : ¬ lo * 4 = hi * 4 + 1 := (by omega); have o2 : ¬ lo * 4 + 1 = hi * 4 := (by omega); have o3 : ¬ lo * 4 = hi * 4 + 2 := (by omega); have o4 : ¬ lo * 4 + 2 = hi * 4 := (by omega); have o5 : ¬ lo * 4 = hi * 4 + 3 := (by omega); have o6 : ¬ lo * 4 + 3 = hi * 4 := (by omega); have o7 : ¬ lo * 4 + 1 = hi * 4 + 2 := (by omega); have o8 : ¬ lo * 4 + 1 = hi * 4 + 3 := (by omega); have o9 : ¬ lo * 4 + 2 = hi * 4 + 1 := (by omega); have o10 : ¬ lo * 4 + 2 = hi * 4 + 3 := (by omega); have o11 : ¬ lo * 4 + 3 = hi * 4 + 1 := (by omega); have o12 : ¬ lo * 4 + 3 = hi * 4 + 2 := (by omega); have o13 : ¬ hi = lo := (by omega); have o14 : ¬ hi * 4 = lo * 4 + 1 := (by omega); have o15 : ¬ hi * 4 + 1 = lo * 4 := (by omega); have o16 : ¬ hi * 4 = lo * 4 + 2 := (by omega); have o17 : ¬ hi * 4 + 2 = lo * 4 := (by omega); have o18 : ¬ hi * 4 = lo * 4 + 3 := (by omega); have o19 : ¬ hi * 4 + 3 = lo * 4 := (by omega); have o20 : ¬ hi * 4 + 1 = lo * 4 + 2 := (by omega); have o21 : ¬ hi * 4 + 1 = lo * 4 + 3 := (by omega); have o22 : ¬ hi * 4 + 2 = lo * 4 + 1 := (by omega); have o23 : ¬ hi * 4 + 2 = lo * 4 + 3 := (by omega); have o24 : ¬ hi * 4 + 3 = lo * 4 + 1 := (by omega); have o25 : ¬ hi * 4 + 3 = lo * 4 + 2 := (by omega)))
            all_goals
             have HO12 := Lib.hid (own_putR (lowR rq c.across c.at_) HO11.out hloR)
             have hhi2 : hi < (R.set lo (lowR rq c.across c.at_)).length := by rw [List.length_set]; exact hhiR
             have HO14 := Lib.hid (own_putR (highR rq c.across c.at_ t.kerf) HO12.out hhi2)
             go_wp2_with fail
             go_roundw
             case rel =>
              refine ⟨m + 1, stepR t.kerf c rq R, by omega, by go_num, by rw [stepR_len]; exact hRl, HOKS, HSTE, Lib.hid ?_, ?_⟩
              ·rw [HSR.out]
               first
                | with_reducible exact HO14.out
                | with_reducible exact own_keep HO14.out (Below.refl _ _).drew
                | with_reducible exact own_keep HO14.out (below_drewN (Below.refl _ _) _)
              ·repeat (first | with_reducible exact HB11B.out | with_reducible exact Nat.le_refl _ | (with_reducible refine Below.drew ?_) | (with_reducible refine below_drewN ?_ _) | (with_reducible refine Below.setCell ?_ ?_ _))
             case measure => simp [intOf]; omega
          ·have v1 : IntKind.i64.wrap (rq.y2 - rq.y1) = rq.y2 - rq.y1 := IntWalk.i64_in _ (by omega)
           have v2 : IntKind.i64.wrap (rq.x2 - rq.x1) = rq.x2 - rq.x1 := IntWalk.i64_in _ (by omega)
           have v3 : IntKind.i64.wrap (rq.x2 - rq.x1 - 1) = rq.x2 - rq.x1 - 1 := IntWalk.i64_in _ (by omega)
           obtain ⟨wv, hwv⟩ : ∃ x, withinB c.at_ 1 (rq.x2 - rq.x1 - 1) = x := ⟨_, rfl⟩
           have HWV := Lib.hid hwv
           have HSZ := Lib.hid (show sizeR rq c.across - 1 = rq.x2 - rq.x1 - 1 by unfold sizeR; rw [hac]; rfl)
           have HAC := Lib.hid hac
           clear hac
           go_upto_region 30 with (go_at_call 28; refine (HLF.out _).mono ?_; rintro e w4 ⟨rfl, hb4⟩; have HCB4 := Lib.hid (HCB3.out.keep hb4); have HO4 := Lib.hid (own_keep HO3.out hb4); have HB4 := Lib.hid (HB3.out.trans (hb4.mono (by omega))); have HB4X := Lib.hid (HB3X.out.trans (hb4.mono HB3X.out.size)); have hz4 := Nat.lt_of_lt_of_le hz3 hb4.size; clear hb4 q0 q1 q2 q3 q4)
           obtain ⟨q0, q1, q2, q3, q4⟩ := HCB4.out
           rw [HAC.out] at q0
           have pk4 := (HC5.out.keep (show Below w5.heap.size w5 w4 by rw [← HB3E.out]; exact HB4.out)).tr.k
           obtain ⟨⟨e0, e1, e2, e3⟩, -⟩ := own_getR HO4.out hkR
           rw [← HRQ.out] at e0 e1 e2 e3
           go_quiet (fail)
           rename_i nq
           go_upto_region 32 with fail
           go_quiet (fail)
           rename_i nq2
           cases wv
           ·have HQE := Lib.hid (HER.out HLN.out (by rw [HSZ.out]; exact hwv))
            clear hwv
            go_wp2_with (go_at_call 30; refine (cwithin_is _ _ _ _ HWV.out).mono ?_; rintro e w' ⟨rfl, rfl⟩)
            go_ret2
            exact LayPost.empty HQE.out (by repeat (first | exact HB4X.out | (refine below_drewN ?_ _)))
           ·have hws := withinB_true hwv
            have hat : 1 ≤ c.at_ ∧ c.at_ ≤ sizeR rq c.across - 1 := by rw [HSZ.out]; exact hws
            have HPB := Lib.hid (And.intro hrb (show 0 ≤ c.at_ ∧ c.at_ ≤ 600000 by omega))
            have HOKS := Lib.hid (okR_step (kerf := t.kerf) (c := c) (R := R) HRO.out hokq hat htk.1)
            have HSTE := Lib.hid (HST.out HLN.out (by rw [HSZ.out]; exact hwv))
            clear hwv hws hat
            go_upto_region 35 with (go_at_call 30; refine (cwithin_is _ _ _ _ HWV.out).mono ?_; rintro e w' ⟨rfl, rfl⟩)
            clear q0 q1 q2 q3 q4 e0 e1 e2 e3
            refine gen_world (fun W => CutB W G c ∧ W.cell? ⟨w.heap.size + 1, 0, none⟩ = some (.int .i64 t.kerf) ∧ W.ownsRow B3 41 4 (.slice (some ⟨B3, 0, none⟩) l.length l.length) l.length (R.flatMap cellsR) ∧ Below B3 w5 W ∧ G < W.heap.size) ⟨HCB4.out.keep (by repeat (first | exact Below.refl _ _ | (refine below_drewN ?_ _))), cell_keep (by repeat (first | exact Below.refl _ _ | (refine below_drewN ?_ _))) pk4, own_keep HO4.out (by repeat (first | exact Below.refl _ _ | (refine below_drewN ?_ _))), (by repeat (first | exact HB4.out | (refine below_drewN ?_ _))), by simpa using hz4⟩ ?_
            rintro W10 ⟨hcb, pk, ho10, hb10, hg10⟩
            obtain ⟨p0, p1, p2, p3, p4⟩ := hcb
            rw [HLO.out] at p2
            rw [HHI.out] at p3
            have HO10 := Lib.hid ho10
            have HB10 := Lib.hid hb10
            obtain ⟨pR, -⟩ := own_getR ho10 hkR
            rw [← HRQ.out] at pR
            clear ho10 hb10
            obtain ⟨pR0, pR1, pR2, pR3⟩ := pR
            have hk1 : w.heap.size + 1 ≠ B3 := by omega
            have hk2 : B3 ≠ w.heap.size + 1 := by omega
            go_region_held3 (fun w' => w'.cell? ⟨G, 2, none⟩ = some (.int .i64 lo) ∧ w'.cell? ⟨G, 3, none⟩ = some (.int .i64 hi) ∧ w'.cell? ⟨B3, m * 4, none⟩ = some (.int .i64 rq.x1) ∧ w'.cell? ⟨B3, m * 4 + 1, none⟩ = some (.int .i64 rq.y1) ∧ w'.cell? ⟨B3, m * 4 + 2, none⟩ = some (.int .i64 rq.x2) ∧ w'.cell? ⟨B3, m * 4 + 3, none⟩ = some (.int .i64 rq.y2) ∧ w'.cell? ⟨G, 0, none⟩ = some (.bool c.across) ∧ w'.cell? ⟨G, 1, none⟩ = some (.int .i64 c.at_) ∧ w'.cell? ⟨w.heap.size + 1, 0, none⟩ = some (.int .i64 t.kerf)) (first | ((with_reducible refine ⟨?_, ?_, ?_, ?_, ?_, ?_, ?_, ?_, ?_⟩) <;> (first | with_reducible assumption | ((with_reducible refine put_keep ?_ ?_ rfl) <;> (first | with_reducible assumption | exact .inl hGne | exact .inl hk1 | exact .inr (by simp only; omega) | ((with_reducible refine put_keep ?_ ?_ rfl) <;> (first | with_reducible assumption | exact .inl hGne | exact .inl hk1 | exact .inr (by simp only; omega))))))) | go_keep)
             (first | (go_at_call 29; (with_reducible refine (parted_is rq _ _ c.across c.at_ t.kerf _ rfl rfl HPB.out.1 HPB.out.2 htk).mono ?_); rintro e w11 ⟨⟨nn, rfl⟩, hb11⟩; have HB11 := Lib.hid (show Below W10.heap.size W10 w11 from (Below.refl W10.heap.size W10).drew.trans hb11); clear hb11; have p2' := cell_keep HB11.out p2; have p3' := cell_keep HB11.out p3; have p0' := cell_keep HB11.out p0; have p1' := cell_keep HB11.out p1; have pk' := cell_keep HB11.out pk; have pR0' := cell_keep HB11.out pR0; have pR1' := cell_keep HB11.out pR1; have pR2' := cell_keep HB11.out pR2; have pR3' := cell_keep HB11.out pR3; have HO11 := Lib.hid (own_keep HO10.out HB11.out); have HB11B := Lib.hid (HB10.out.trans (HB11.out.mono (by omega))); obtain ⟨⟨u0, u1, u2, u3⟩, ⟨uf0, uf1, uf2, uf3⟩⟩ := own_getR HO11.out hloR; obtain ⟨⟨v0, v1', v2', v3'⟩, ⟨vf0, vf1, vf2, vf3⟩⟩ := own_getR HO11.out hhiR; have o0 : ¬ lo = hi := (by omega); have o1 : ¬ lo * 4 = hi * 4 + 1 := (by omega); have o2 : ¬ lo * 4 + 1 = hi * 4 := (by omega); have o3 : ¬ lo * 4 = hi * 4 + 2 := (by omega); have o4 : ¬ lo * 4 + 2 = hi * 4 := (by omega); have o5 : ¬ lo * 4 = hi * 4 + 3 := (by omega); have o6 : ¬ lo * 4 + 3 = hi * 4 := (by omega); have o7 : ¬ lo * 4 + 1 = hi * 4 + 2 := (by omega); have o8 : ¬ lo * 4 + 1 = hi * 4 + 3 := (by omega); have o9 : ¬ lo * 4 + 2 = hi * 4 + 1 := (by omega); have o10 : ¬ lo * 4 + 2 = hi * 4 + 3 := (by omega); have o11 : ¬ lo * 4 + 3 = hi * 4 + 1 := (by omega); have o12 : ¬ lo * 4 + 3 = hi * 4 + 2 := (by omega); have o13 : ¬ hi = lo := (by omega); have o14 : ¬ hi * 4 = lo * 4 + 1 := (by omega); have o15 : ¬ hi * 4 + 1 = lo * 4 := (by omega); have o16 : ¬ hi * 4 = lo * 4 + 2 := (by omega); have o17 : ¬ hi * 4 + 2 = lo * 4 := (by omega); have o18 : ¬ hi * 4 = lo * 4 + 3 := (by omega); have o19 : ¬ hi * 4 + 3 = lo * 4 := (by omega); have o20 : ¬ hi * 4 + 1 = lo * 4 + 2 := (by omega); have o21 : ¬ hi * 4 + 1 = lo * 4 + 3 := (by omega); have o22 : ¬ hi * 4 + 2 = lo * 4 + 1 := (by omega); have o23 : ¬ hi * 4 + 2 = lo * 4 + 3 := (by omega); have o24 : ¬ hi * 4 + 3 = lo * 4 + 1 := (by omega); have o25 : ¬ hi * 4 + 3 = lo * 4 + 2 := (by omega)))
            all_goals
             have HO12 := Lib.hid (own_putR (lowR rq c.across c.at_) HO11.out hloR)
             have hhi2 : hi < (R.set lo (lowR rq c.across c.at_)).length := by rw [List.length_set]; exact hhiR
             have HO14 := Lib.hid (own_putR (highR rq c.across c.at_ t.kerf) HO12.out hhi2)
             go_wp2_with fail
             go_roundw
             case rel =>
              refine ⟨m + 1, stepR t.kerf c rq R, by omega, by go_num, by rw [stepR_len]; exact hRl, HOKS, HSTE, Lib.hid ?_, ?_⟩
              ·rw [HSR.out]
               first
                | with_reducible exact HO14.out
                | with_reducible exact own_keep HO14.out (Below.refl _ _).drew
                | with_reducible exact own_keep HO14.out (below_drewN (Below.refl _ _) _)
              ·repeat (first | with_reducible exact HB11B.out | with_reducible exact Nat.le_refl _ | (with_reducible refine Below.drew ?_) | (with_reducible refine below_drewN ?_ _) | (with_reducible refine Below.setCell ?_ ?_ _))
             case measure => simp [intOf]; omega
        ·have HQ2 := rect_end (Nat.le_of_not_lt hltm) HQ.out
         have HQE := Lib.hid HQ2
         have hmi : ¬ (m : Int) < (l.length : Int) := by omega
         have HRV : Hid (Rects.V wr (some ⟨B3, 0, none⟩) R) := Lib.hid (own_rowV (n := l.length) (c := l.length) cellsR_len (by decide) (fun b o x hx h => ⟨h 0 _ rfl, h 1 _ rfl, h 2 _ rfl, h 3 _ rfl, by
          have := HRO.out x hx
          unfold Rect.wf
          rcases this with rfl | hp
          ·simp
          ·unfold proper at hp; omega⟩) HO.out)
         clear HQ HQ2 pk
         go_wp2_with fail
         go_ret2
         exact ⟨some ⟨B3, 0, none⟩, l.length, by rw [HQE.out]; show _ = Ending.returned (.tuple #[.slice (some ⟨B3, 0, none⟩) R.length l.length, .int .i64 0]); rw [hRl]; rfl, by rw [HQE.out]; exact HRV.out, HBX.out, fun x h => by injection h with h; subst h; have h1 := HB3E.out; first | (have h2 := HB5.out.size; simp only; omega) | (have h2 := HBX.out.size; simp only; omega)⟩
 ·have hne : (E != 0) = true := by simpa using he
  have HE := Lib.hid hE
  have HQ := Lib.hid (show layM b t l = ([], E) by unfold layM; rw [hE, if_pos he])
  generalize layM b t l = q at *
  clear hE he hv hc
  go_enter Tryz.func55, Tryz.ntmps55
  go_upto_region 1 with fail
  refine gen_world (fun W => LayB W w.heap.size b ad cd t brd al l.length cl ∧ Below w.heap.size w W ∧ w.heap.size + 2 < W.heap.size) ⟨⟨⟨by simp [go_sem], by simp [go_sem], by simp [go_sem], by simp [go_sem], by simp [go_sem], by simp [go_sem], by simp [go_sem], by simp [go_sem]⟩, ⟨by simp [go_sem], by simp [go_sem], by simp [go_sem]⟩, by simp [go_sem], by simp [go_sem]⟩, (((Below.refl _ _).alloc (Nat.le_refl _) _).alloc (by simp) _).alloc (by simp; omega) _, by simp⟩ ?_
  rintro W ⟨hC, hbW, hzW⟩
  have HC := Lib.hid hC
  have HBW := Lib.hid hbW
  obtain ⟨⟨c0, c1, c2, c3, c4, c5, c6, c7⟩, ⟨t0, t1, t2⟩, lb0, lc0⟩ := hC
  simp only [Nat.zero_add] at c0 c1 c2 c3 c4 c5 c6 c7
  clear hbW
  go_wp2_with (go_at_call 97; refine (checkCut_is b t ad cd _ HE.out (HV.out.keep HBW.out) hl hw).mono ?_; rintro e w1 ⟨rfl, hb⟩; have HB1 := Lib.hid (HBW.out.trans (hb.mono HBW.out.size)); have HC1 := Lib.hid (HC.out.keep hb); have hz1 := Nat.lt_of_lt_of_le hzW hb.size; have lc1 := cell_keep hb lc0; clear hb)
  go_ret2
  exact LayPost.empty HQ.out HB1.out
end Go.Proofs.YtjmgboipbhddlaaGreatDoor

set_option linter.unusedVariables false
set_option linter.unusedSimpArgs false
namespace Go.Proofs.YtjmgboipbhddlaaGreatDoor
open Go Go.RowKit

end Go.Proofs.YtjmgboipbhddlaaGreatDoor

set_option linter.unusedVariables false
set_option linter.unusedSimpArgs false
namespace Go.Proofs.YtjmgboipbhddlaaGreatDoor
open Go Go.RowKit

theorem regM_err {u : Rect} {kerf E : Int} {l : List Cut} {O : List Bool} (h0 : ¬ l.length = 0) (h4 : ¬ 400 < l.length) (h : ownGo l.length l 0 (List.replicate l.length false) = (E, O)) (hE : E ≠ 0) : regM u kerf l = ([], E) := by
 unfold regM
 rw [if_neg h0, if_neg h4, h, if_pos hE]
theorem regM_shape {u : Rect} {kerf : Int} {l : List Cut} {O : List Bool} (h0 : ¬ l.length = 0) (h4 : ¬ 400 < l.length) (h : ownGo l.length l 0 (List.replicate l.length false) = (0, O)) (hE : (O.set 0 true).all id = false) : regM u kerf l = ([], 10) := by
 unfold regM
 rw [if_neg h0, if_neg h4, h, if_neg (by simp), if_pos hE]
theorem regM_go {u : Rect} {kerf : Int} {l : List Cut} {O : List Bool} (h0 : ¬ l.length = 0) (h4 : ¬ 400 < l.length) (h : ownGo l.length l 0 (List.replicate l.length false) = (0, O)) (hE : (O.set 0 true).all id = true) : regM u kerf l = rectGo kerf l 0 ((List.replicate l.length ⟨0, 0, 0, 0⟩).set 0 u) := by
 unfold regM
 rw [if_neg h0, if_neg h4, h, if_neg (by simp), if_neg (by rw [hE]; decide)]
theorem set0_all {O : List Bool} {k : Nat} (hk : 0 < k) (hkl : O.length ≤ k) (h : ∀ j (hj : j < O.length), 0 < j → j < k → O[j] = true) : (O.set 0 true).all id = true := by
 rw [List.all_eq_true]
 intro x hx
 obtain ⟨j, hj, rfl⟩ := List.mem_iff_getElem.1 hx
 rw [List.getElem_set]
 split
 ·rfl
 ·rename_i h0
  have hj' : j < O.length := by simpa using hj
  exact h j hj' (by omega) (by omega)
theorem set0_no {O : List Bool} {k : Nat} (hk : 0 < k) (hkl : k < O.length) (h : O[k] = false) : (O.set 0 true).all id = false := by
 rw [Bool.eq_false_iff]
 intro h2
 rw [List.all_eq_true] at h2
 have := h2 ((O.set 0 true)[k]'(by simpa using hkl)) (List.getElem_mem _)
 rw [List.getElem_set_ne (by omega)] at this
 rw [h] at this
 cases this
theorem cut0_reg {c : Cut} {i n : Int} {O : List Bool} (h : cutErrM c i n O = 0) : regionE c i n = 0 := by
 unfold cutErrM at h
 split at h
 ·rename_i h1; exact absurd h h1
 ·rename_i h1; simpa using h1
theorem getD_elem {O : List Bool} {k : Nat} (hk : k < O.length) : O[k] = O.getD k false := by rw [List.getD_eq_getElem?_getD, List.getElem?_eq_getElem hk]; rfl
set_option maxRecDepth 100000 in
set_option maxHeartbeats 16000000 in
theorem refRegions_any (b : Board) (t : Trim) (l : List Cut) (ad al : Option Addr) (cd cl : Nat) (w : World) (hcut : cutE b t = 0) (hc : Cuts.V w al l) (hll : l.length ≤ 100000) :
    Calls Tryz.prog 33 #[.agg #[.string b.name, .string b.species, .int .i64 b.length, .int .i64 b.width, .int .i64 b.thick, .int .i64 b.cut, .int .i64 b.moisture, .slice ad b.defects.length cd], .agg #[.int .i64 t.kerf, .int .i64 t.ends, .int .i64 t.sides], .slice al l.length cl] w (LayPost w (regM (usableR b t) t.kerf l)) := by
 have HCU := Lib.hid hc
 obtain ⟨hb1, hb2⟩ := cut_bounds hcut
 have htk := (trimE_ok (cutE_ok hcut).2).1
 obtain ⟨u, hu⟩ : ∃ u, usableR b t = u := ⟨_, rfl⟩
 rw [hu]
 have HU := Lib.hid hu
 obtain ⟨q, hq⟩ : ∃ q, q = regM u t.kerf l := ⟨_, rfl⟩
 rw [← hq]
 clear hu hcut hc
 by_cases hn0 : l.length = 0
 ·have HQ := Lib.hid (show q = ([], 10) by rw [hq]; unfold regM; rw [if_pos hn0])
  have h1 := beq_t (show (l.length : Int) = 0 by omega)
  clear hq hn0
  go_enter Tryz.func33, Tryz.ntmps33
  go_wp2_with fail
  go_ret2
  exact LayPost.empty HQ.out (((Below.refl _ _).alloc (Nat.le_refl _) _).alloc (by simp) _)
 ·have h1 := beq_f (show ¬ (l.length : Int) = 0 by omega)
  have hnp : 0 < l.length := by omega
  by_cases hn4 : 400 < l.length
  ·have HQ := Lib.hid (show q = ([], 8) by rw [hq]; unfold regM; rw [if_neg hn0, if_pos hn4])
   have h2 : (l.length : Int) > 400 := by omega
   clear hq hn0 hn4
   go_enter Tryz.func33, Tryz.ntmps33
   go_wp2_with fail
   go_ret2
   exact LayPost.empty HQ.out (((Below.refl _ _).alloc (Nat.le_refl _) _).alloc (by simp) _)
  ·have h2 : ¬ (l.length : Int) > 400 := by omega
   have hl4 : l.length ≤ 400 := by omega
   obtain ⟨P, hP⟩ : ∃ P, P = ownGo l.length l 0 (List.replicate l.length false) := ⟨_, rfl⟩
   have HME := Lib.hid (fun (E : Int) (O : List Bool) (h : P = (E, O)) (hE : E ≠ 0) => hq.trans (regM_err (u := u) (kerf := t.kerf) hn0 hn4 (hP.symm.trans h) hE))
   have HMS := Lib.hid (fun (O : List Bool) (h : P = (0, O)) hE => hq.trans (regM_shape (u := u) (kerf := t.kerf) hn0 hn4 (hP.symm.trans h) hE))
   have HMG := Lib.hid (fun (O : List Bool) (h : P = (0, O)) hE => hq.trans (regM_go (u := u) (kerf := t.kerf) hn0 hn4 (hP.symm.trans h) hE))
   have HP := Lib.hid hP
   have hmk := fun W => make_bools W l.length (by omega)
   have hmr := fun W => make_rects W l.length (by omega)
   clear hP hn4 hn0 hq
   go_enter Tryz.func33, Tryz.ntmps33
   go_upto_region 5 with fail
   refine gen_world (fun W => (CellsBd W w.heap.size 0 b ad cd ∧ W.cell? ⟨w.heap.size + 1, 0, none⟩ = some (.int .i64 t.kerf) ∧ W.cell? ⟨w.heap.size + 1, 1, none⟩ = some (.int .i64 t.ends) ∧ W.cell? ⟨w.heap.size + 1, 2, none⟩ = some (.int .i64 t.sides)) ∧ Below w.heap.size w W ∧ w.heap.size + 1 < W.heap.size) ⟨⟨⟨by simp [go_sem], by simp [go_sem], by simp [go_sem], by simp [go_sem], by simp [go_sem], by simp [go_sem], by simp [go_sem], by simp [go_sem]⟩, by simp [go_sem], by simp [go_sem], by simp [go_sem]⟩, ((Below.refl _ _).alloc (Nat.le_refl _) _).alloc (by simp) _, by simp⟩ ?_
   rintro w1 ⟨hC, hbW, hz1⟩
   have HC := Lib.hid hC
   have HB1 := Lib.hid hbW
   clear hC hbW h1 h2
   go_upto_region 6 with fail
   obtain ⟨B2, hB2⟩ : ∃ B, B = w1.heap.size := ⟨_, rfl⟩
   have HB := Lib.hid hB2
   refine gen_world (fun W => W.ownsRow B2 4 1 (.slice (some ⟨B2, 0, none⟩) l.length l.length) l.length ((List.replicate l.length false).map Value.bool) ∧ Below B2 w1 W) ⟨?_, ?_⟩ ?_
   ·have h := made_own (w := w1) (base := B2) (n := l.length) (T := 4) (z := .bool false) (by rw [hB2]; exact Nat.le_refl _) (by unfold maxLen; omega)
    rw [List.map_replicate]
    rw [← hB2] at h
    exact h
   ·exact (Below.refl _ _).alloc (by rw [hB2]; exact Nat.le_refl _) _
   rintro W2 ⟨ho2, hb2'⟩
   have HO2 := Lib.hid ho2
   have HBW2 := Lib.hid hb2'
   rw [← hB2] at hz1 ⊢
   clear ho2 hb2' hB2
   go_wp2_with fail
   go_loopw [9] (fun iv wr => ∃ (k : Nat) (O : List Bool), k ≤ l.length ∧ iv = .int .i64 k ∧ O.length = l.length ∧ Hid (P = ownGo l.length (l.drop k) k O) ∧ Hid (∀ j (hj : j < l.length), j < k → regionE l[j] j l.length = 0) ∧ Hid (wr.ownsRow B2 4 1 (.slice (some ⟨B2, 0, none⟩) l.length l.length) l.length (O.map Value.bool)) ∧ Below B2 w1 wr) (fun iv _ => l.length - (intOf iv).toNat)
   case atStart => exact ⟨0, List.replicate l.length false, Nat.zero_le _, rfl, by simp, HP, Lib.hid (fun j _ h => by omega), HO2, HBW2.out⟩
   case round =>
    clear HP HO2 HBW2
    obtain ⟨k, O, hk, rfl, hOl, HQQ, HR, HO, hbr⟩ := hrel
    have HBR := Lib.hid hbr
    have HBR1 := Lib.hid (show Below w1.heap.size w1 wr by rw [← HB.out]; exact hbr)
    have HBX := Lib.hid (HB1.out.trans (HBR1.out.mono (by rw [← HB.out]; omega)))
    clear hbr
    by_cases hlt : k < l.length
    ·have HERR := Lib.hid (fun E h1 h2 => own_err (E := E) hlt HQQ.out h1 h2)
     have HSTP := Lib.hid (fun h1 => own_step hlt HQQ.out h1)
     have hki : (k : Int) < (l.length : Int) := by omega
     obtain ⟨E, hE⟩ : ∃ E, cutErrM l[k] k l.length O = E := ⟨_, rfl⟩
     have HCE := Lib.hid (fun w9 (hb9 : Below wr.heap.size wr w9) => cutErr_is al l cl k B2 B2 l.length O w9 hlt rfl hOl (HCU.out.keep (HBX.out.trans (hb9.mono HBX.out.size))) (own_keep HO.out hb9) hE)
     by_cases hE0 : E = 0
     ·have hreg := cut0_reg (hE.trans hE0)
      have hst := HSTP.out (hE.trans hE0)
      have HRS2 := Lib.hid (show ∀ j (hj : j < l.length), j < k + 1 → regionE l[j] j l.length = 0 from fun j hj hlt' => by
       rcases Nat.lt_succ_iff_lt_or_eq.1 hlt' with h' | rfl
       ·exact HR.out j hj h'
       ·exact hreg)
      obtain ⟨bc, oc, hal, m0, m1, m2, m3, m4, -⟩ := (HCU.out.keep HB1.out).at_ hlt
      have hbc : bc < B2 := by rw [HB.out]; simpa using block_lt_of_cell m2
      clear m0 m1 m4 HQQ HR
      subst hE0
      subst hal
      have hbn : bc ≠ B2 := by omega
      have hbn2 : B2 ≠ bc := by omega
      clear HERR HSTP hE
      generalize l[k] = c at *
      by_cases hlo : c.low = 0
      ·rw [show markC c O = O by unfold markC; rw [if_pos hlo]] at hst
       have HST := Lib.hid hst
       rw [hlo] at m2
       clear hst hlo hreg m3
       go_upto_region 12 with (go_at_call 61; refine (HCE.out _ (Below.refl _ _)).mono ?_; rintro e w3 ⟨rfl, hb3⟩; have HBX3 := Lib.hid (HBX.out.trans (hb3.mono HBX.out.size)); have HB3 := Lib.hid hb3; clear hb3)
       have m2' := cell_keep (HBR1.out.trans (HB3.out.mono HBR1.out.size)) m2
       clear m2
       go_wp2_with fail
       go_roundw
       case rel => exact ⟨k + 1, O, by omega, by go_num, hOl, HST, HRS2, Lib.hid (own_keep HO.out HB3.out), HBR.out.trans (HB3.out.mono (Nat.le_of_lt (own_blk HO.out).2))⟩
       case measure => simp [intOf]; omega
      ·obtain ⟨z1, z2, z3, z4, z5⟩ := reg_zero hreg hlo
       obtain ⟨lo, hlo'⟩ : ∃ lo : Nat, c.low = lo := ⟨c.low.toNat, by omega⟩
       obtain ⟨hi, hhi'⟩ : ∃ hi : Nat, c.high = hi := ⟨c.high.toNat, by omega⟩
       have HS0 := Lib.hid (show markC c O = (O.set lo true).set hi true by unfold markC; rw [if_neg hlo, hlo', hhi', Int.toNat_natCast, Int.toNat_natCast])
       have HST := Lib.hid hst
       rw [hlo'] at z1 z4 z3 m2
       rw [hhi'] at z2 z5 z3 m3
       have hlos : lo < O.length := by omega
       have hhis : hi < O.length := by omega
       have hg1 : (lo : Int) < (l.length : Int) := z4
       have hg2 : (hi : Int) < (l.length : Int) := z5
       have hlp2 : 0 < lo := by omega
       have hhp2 : 0 < hi := by omega
       have hln0 := bne_t5 (show ¬ (lo : Int) = 0 by omega)
       clear hst hlo hlo' hhi' hreg
       go_upto_region 12 with (go_at_call 61; refine (HCE.out _ (Below.refl _ _)).mono ?_; rintro e w3 ⟨rfl, hb3⟩; have HBX3 := Lib.hid (HBX.out.trans (hb3.mono HBX.out.size)); have HB3 := Lib.hid hb3; clear hb3)
       have m2' := cell_keep (HBR1.out.trans (HB3.out.mono HBR1.out.size)) m2
       have m3' := cell_keep (HBR1.out.trans (HB3.out.mono HBR1.out.size)) m3
       have HO3 := Lib.hid (own_keep HO.out HB3.out)
       have HB4 := Lib.hid (HBR.out.trans (HB3.out.mono (Nat.le_of_lt (own_blk HO.out).2)))
       obtain ⟨d1, f1⟩ := own_bool_cell HO3.out hlos
       obtain ⟨d2, f2⟩ := own_bool_cell HO3.out hhis
       clear m2 m3
       go_upto_region 13 with fail
       go_region_held3 (fun w' => w'.cell? ⟨bc, oc + k * 5 + 2, none⟩ = some (.int .i64 lo) ∧ w'.cell? ⟨bc, oc + k * 5 + 3, none⟩ = some (.int .i64 hi)) (go_keep) (fail)
       all_goals
        go_wp2_with fail
        go_roundw
        case rel =>
         refine ⟨k + 1, markC c O, by omega, by go_num, by rw [markC_len]; exact hOl, HST, HRS2, Lib.hid ?_, ?_⟩
         ·rw [HS0.out]
          exact own_setb (own_setb HO3.out hlos) (by rw [List.length_set]; exact hhis)
         ·refine Below.drew (Below.setCell (Below.setCell HB4.out ?_ _) ?_ _) <;> exact Nat.le_refl _
        case measure => simp [intOf]; omega
     ·have hne := bne_t5 hE0
      have HQ := Lib.hid (HME.out E O (HERR.out E hE hE0) hE0)
      clear hE hE0 HERR HSTP
      go_wp2_with (go_at_call 61; refine (HCE.out _ (Below.refl _ _)).mono ?_; rintro e w3 ⟨rfl, hb3⟩; have HBX3 := Lib.hid (HBX.out.trans (hb3.mono HBX.out.size)); have HB3 := Lib.hid hb3; clear hb3)
      go_ret2
      exact LayPost.empty HQ.out (by first | exact HBX3.out | exact HBX.out)
    ·have hPE := own_end (Nat.le_of_not_lt hlt) HQQ.out
     have HRA := Lib.hid (show ∀ j (hj : j < l.length), regionE l[j] j l.length = 0 from fun j hj => HR.out j hj (by omega))
     have hki : ¬ (k : Int) < (l.length : Int) := by omega
     have HGAP := Lib.hid (fun h => HMS.out O hPE h)
     have HGO := Lib.hid (fun h => HMG.out O hPE h)
     have HOL := Lib.hid hOl
     clear HQQ HR hPE hOl
     go_wp2_with fail
     go_loop [11] (fun iv => ∃ i : Nat, 1 ≤ i ∧ i ≤ l.length ∧ iv = .int .i64 i ∧ Hid (∀ j (hj : j < O.length), 0 < j → j < i → O[j] = true)) (fun iv => l.length - (intOf iv).toNat)
     case atStart => exact ⟨1, Nat.le_refl _, hnp, rfl, Lib.hid (fun j _ h1 h2 => by omega)⟩
     case round =>
      obtain ⟨i, hi1, hi2, rfl, HT⟩ := hrel
      by_cases hlt2 : i < l.length
      ·have hii : (i : Int) < (l.length : Int) := by omega
       obtain ⟨d0, -⟩ := own_bool_cell HO.out (i := i) (by rw [HOL.out]; exact hlt2)
       cases hv : O.getD i false
       ·rw [hv] at d0
        have HQ := Lib.hid (HGAP.out (set0_no (k := i) hi1 (by rw [HOL.out]; exact hlt2) ((getD_elem _).trans hv)))
        clear hv
        go_wp2_with fail
        go_ret2
        exact LayPost.empty HQ.out HBX.out
       ·rw [hv] at d0
        have HT2 := Lib.hid (show ∀ j (hj : j < O.length), 0 < j → j < i + 1 → O[j] = true from fun j hj h0 hlt' => by
         rcases Nat.lt_succ_iff_lt_or_eq.1 hlt' with h' | rfl
         ·exact HT.out j hj h0 h'
         ·exact (getD_elem _).trans hv)
        clear hv HT
        go_wp2_with fail
        go_round
        case rel => exact ⟨i + 1, by omega, by omega, by go_num, HT2⟩
        case measure => simp [intOf]; omega
      ·have hii : ¬ (i : Int) < (l.length : Int) := by omega
       have HQ := Lib.hid (HGO.out (set0_all (k := i) hi1 (by rw [HOL.out]; omega) HT.out))
       clear HGAP HGO HT
       go_upto_region 19 with fail
       go_upto_region 20 with fail
       obtain ⟨wo, rfl⟩ : ∃ wo : World, wo = wr := ⟨_, rfl⟩
       obtain ⟨B3, hB3⟩ : ∃ B, B = wo.heap.size := ⟨_, rfl⟩
       have HB3E := Lib.hid hB3
       refine gen_world (fun W => W.ownsRow B3 41 4 (.slice (some ⟨B3, 0, none⟩) l.length l.length) l.length ((List.replicate l.length (⟨0, 0, 0, 0⟩ : Rect)).flatMap cellsR) ∧ Below B3 wo W) ⟨?_, ?_⟩ ?_
       ·have h := made_rects (w := wo) (base := B3) (n := l.length) (T := 41) (by rw [hB3]; exact Nat.le_refl _) (by unfold maxLen; omega)
        rw [← hB3] at h
        exact h
       ·exact (Below.refl _ _).alloc (by rw [hB3]; exact Nat.le_refl _) _
       rintro W6 ⟨ho6, hb6⟩
       have HO6 := Lib.hid ho6
       have HB6 := Lib.hid hb6
       have HB6' := Lib.hid (show Below wo.heap.size wo W6 by rw [← HB3E.out]; exact hb6)
       have hz35 : w.heap.size + 1 < B3 := by have := (own_blk HO.out).2; omega
       have hB23 : B2 < B3 := by have := (own_blk HO.out).2; omega
       rw [← hB3]
       clear hB3 ho6 hb6
       obtain ⟨⟨c0, c1, c2, c3, c4, c5, c6, c7⟩, t0, t1, t2⟩ := HC.out
       simp only [Nat.zero_add] at c0 c1 c2 c3 c4 c5 c6 c7
       have hbb := HBR1.out.trans (HB6'.out.mono HBR1.out.size)
       replace c0 := cell_keep hbb c0
       replace c1 := cell_keep hbb c1
       replace c2 := cell_keep hbb c2
       replace c3 := cell_keep hbb c3
       replace c4 := cell_keep hbb c4
       replace c5 := cell_keep hbb c5
       replace c6 := cell_keep hbb c6
       replace c7 := cell_keep hbb c7
       replace t0 := cell_keep hbb t0
       replace t1 := cell_keep hbb t1
       replace t2 := cell_keep hbb t2
       clear hbb
       have hn2 : w.heap.size ≠ B3 := by omega
       have hn3 : B3 ≠ w.heap.size := by omega
       have hn4 : w.heap.size + 1 ≠ B3 := by omega
       have hn5 : B3 ≠ w.heap.size + 1 := by omega
       go_upto_region 21 with (go_at_call 62; refine (refUsable_is b t u ad cd _ HU.out hb1 hb2).mono ?_; rintro e w7 ⟨rfl, hb⟩; have HO7 := Lib.hid (own_keep HO6.out hb); have HB7 := Lib.hid (HB6.out.trans (hb.mono (by have := (own_base HO6.out rfl); have := HB6.out.size; have := HB3E.out; omega))); obtain ⟨⟨u0, u1, u2, u3⟩, ⟨uf0, uf1, uf2, uf3⟩⟩ := own_getR (own_keep HO6.out hb) (i := 0) (by simpa using hnp); simp only [Nat.zero_mul, Nat.zero_add] at u0 u1 u2 u3 uf0 uf1 uf2 uf3; clear hb)
       have hput := own_putR u HO7.out (i := 0) (by simpa using hnp)
       simp only [Nat.zero_mul, Nat.zero_add] at hput
       have HO8 := Lib.hid hput
       clear hput
       refine gen_world (fun W => W.ownsRow B3 41 4 (.slice (some ⟨B3, 0, none⟩) l.length l.length) l.length (((List.replicate l.length (⟨0, 0, 0, 0⟩ : Rect)).set 0 u).flatMap cellsR) ∧ Below B3 wo W) ⟨by first | exact HO8.out | exact own_keep HO8.out (Below.refl _ _).drew, by repeat (first | exact HB7.out | exact Nat.le_refl _ | (refine Below.drew ?_) | (refine Below.setCell ?_ ?_ _))⟩ ?_
       rintro W8 ⟨ho8, hb8⟩
       have HO9 := Lib.hid ho8
       have HB9 := Lib.hid hb8
       clear ho8 hb8 HO8 HO7 HB7 u0 u1 u2 u3 uf0 uf1 uf2 uf3 c0 c1 c2 c3 c4 c5 c6 c7 t0 t1 t2 HO6 HB6 HB6'
       go_wp2_with fail
       go_loopw [13] (fun iv wr => ∃ (m : Nat) (R : List Rect), m ≤ l.length ∧ iv = .int .i64 m ∧ R.length = l.length ∧ Hid (∀ r ∈ R, okR r) ∧ Hid (q = rectGo t.kerf (l.drop m) m R) ∧ Hid (wr.ownsRow B3 41 4 (.slice (some ⟨B3, 0, none⟩) l.length l.length) l.length (R.flatMap cellsR)) ∧ Below B3 wo wr) (fun iv _ => l.length - (intOf iv).toNat)
       case atStart =>
        refine ⟨0, _, Nat.zero_le _, rfl, by simp, Lib.hid (fun r hr => ?_), HQ, HO9, HB9.out⟩
        rcases List.mem_or_eq_of_mem_set hr with hr | rfl
        ·rw [List.eq_of_mem_replicate hr]; exact .inl rfl
        ·rw [← HU.out]
         unfold usableR
         exact okR_whole (by simp only; omega)
       case round =>
        clear HQ HO9 HB9
        obtain ⟨m, R, hm, rfl, hRl, HRO, HQ, HO3, hbr⟩ := hrel
        have HBR3 := Lib.hid hbr
        have HBR5 := Lib.hid (show Below wo.heap.size wo wr by rw [← HB3E.out]; exact hbr)
        have HBR6 := Lib.hid (HBR1.out.trans (HBR5.out.mono HBR1.out.size))
        have HBX6 := Lib.hid (HBX.out.trans (HBR5.out.mono HBX.out.size))
        have hGB : B3 < wr.heap.size := (HO3.out.lt B3 rfl).2
        clear hbr
        have pk := cell_keep HBR6.out HC.out.2.1
        by_cases hltm : m < l.length
        ·obtain ⟨bc, oc, hal, m0, m1, m2, m3, m4, -⟩ := (HCU.out.keep HB1.out).at_ hltm
         have hbc : bc < B2 := by rw [HB.out]; simpa using block_lt_of_cell m2
         have n0 := cell_keep HBR6.out m0
         have n1 := cell_keep HBR6.out m1
         have n2 := cell_keep HBR6.out m2
         have n3 := cell_keep HBR6.out m3
         have n4 := cell_keep HBR6.out m4
         clear m0 m1 m2 m3 m4
         subst hal
         have hkR : m < R.length := by omega
         have HLE := Lib.hid (fun h => rect_leaf hltm HQ.out h)
         have HER := Lib.hid (fun h1 h2 => rect_err hltm hkR HQ.out h1 h2)
         have HST := Lib.hid (fun h1 h2 => rect_step hltm hkR HQ.out h1 h2)
         have hreg := HRA.out m hltm
         have hokq := HRO.out _ (List.getElem_mem hkR)
         have hmi : (m : Int) < (l.length : Int) := by omega
         obtain ⟨⟨e0, e1, e2, e3⟩, -⟩ := own_getR HO3.out hkR
         clear HQ
         generalize l[m] = c at *
         obtain ⟨ac, ca, cl', ch', cb⟩ := c
         dsimp only at n0 n1 n2 n3 n4 HLE HER HST
         obtain ⟨rq, hrq⟩ : ∃ x, x = R[m] := ⟨_, rfl⟩
         rw [← hrq] at HER HST hokq e0 e1 e2 e3
         have hrb0 : (0 ≤ rq.x1 ∧ rq.x1 ≤ 600000 ∧ 0 ≤ rq.y1 ∧ rq.y1 ≤ 600000) ∧ (0 ≤ rq.x2 ∧ rq.x2 ≤ 600000 ∧ 0 ≤ rq.y2 ∧ rq.y2 ≤ 600000) := by
          rcases hokq with h | h
          ·rw [h]; simp
          ·unfold proper at h; omega
         obtain ⟨hrb, hrb2⟩ := hrb0
         clear hrq
         have hbn : bc ≠ B3 := by omega
         have hbn2 : B3 ≠ bc := by omega
         by_cases hlo : cl' = 0
         ·have HSTL := Lib.hid (HLE.out hlo)
          rw [hlo] at n2
          clear hlo HLE HER HST hreg n0 n1 n3 n4 e0 e1 e2 e3
          go_wp2_with fail
          go_roundw
          case rel => exact ⟨m + 1, R, by omega, by go_num, hRl, HRO, HSTL, HO3, HBR3.out⟩
          case measure => simp [intOf]; omega
         ·obtain ⟨z1, z2, z3, z4, z5⟩ := reg_zero hreg hlo
          dsimp only at z1 z2 z3 z4 z5
          have HLN := Lib.hid hlo
          have e5 := beq_f hlo
          obtain ⟨av, hav⟩ : ∃ x : Bool, x = ac := ⟨_, rfl⟩
          have HAV := Lib.hid hav
          clear hreg hlo hav
          obtain ⟨lo, rfl⟩ : ∃ lo : Nat, cl' = lo := ⟨cl'.toNat, by omega⟩
          obtain ⟨hi, rfl⟩ : ∃ hi : Nat, ch' = hi := ⟨ch'.toNat, by omega⟩
          have HSR := Lib.hid (show stepR t.kerf ⟨av, ca, lo, hi, cb⟩ rq R = (R.set lo (lowR rq av ca)).set hi (highR rq av ca t.kerf) by unfold stepR; simp only [Int.toNat_natCast])
          have hloR : lo < R.length := by omega
          have hhiR : hi < R.length := by omega
          have hg1 : (lo : Int) < (l.length : Int) := z4
          have hg2 : (hi : Int) < (l.length : Int) := z5
          have hlm : lo ≠ m := by omega
          have hhm : hi ≠ m := by omega
          have hlh : lo ≠ hi := by omega
          clear HLE
          go_upto_region 26 with fail
          refine gen_world (fun W9 => BoxR W9 wr.heap.size rq ∧ Below wr.heap.size wr W9) ⟨⟨by simp [go_sem], by simp [go_sem], by simp [go_sem], by simp [go_sem], by simp [go_sem], by simp [go_sem], by simp [go_sem], by simp [go_sem]⟩, by repeat (first | exact (Below.refl _ _).alloc (Nat.le_refl _) _ | (refine Below.setCell ?_ (by simp) _))⟩ ?_
          rintro W9 ⟨hbx, hb9⟩
          have HBX9 := Lib.hid hbx
          have HO9 := Lib.hid (own_keep HO3.out hb9)
          have HB9 := Lib.hid (HBR3.out.trans (hb9.mono (Nat.le_of_lt hGB)))
          have HB9X := Lib.hid (HBX6.out.trans (hb9.mono HBX6.out.size))
          replace n0 := cell_keep hb9 n0
          replace n1 := cell_keep hb9 n1
          replace n2 := cell_keep hb9 n2
          replace n3 := cell_keep hb9 n3
          replace n4 := cell_keep hb9 n4
          replace pk := cell_keep hb9 pk
          have hz3 : wr.heap.size < W9.heap.size := hbx.lt
          obtain ⟨q0, q1, q2, q3, -, -, -, -⟩ := hbx
          clear hb9 HO3 e0 e1 e2 e3
          obtain ⟨G, hG⟩ : ∃ G, G = wr.heap.size := ⟨_, rfl⟩
          rw [← hG] at q0 q1 q2 q3 HBX9 hGB hz3 ⊢
          have hGne : G ≠ B3 := by omega
          have hGne2 : B3 ≠ G := by omega
          have hk1 : w.heap.size + 1 ≠ B3 := by omega
          have hk2 : B3 ≠ w.heap.size + 1 := by omega
          clear hG
          have v1 : IntKind.i64.wrap (rq.y2 - rq.y1) = rq.y2 - rq.y1 := IntWalk.i64_in _ (by omega)
          have v2 : IntKind.i64.wrap (rq.x2 - rq.x1) = rq.x2 - rq.x1 := IntWalk.i64_in _ (by omega)
          have v3 : IntKind.i64.wrap (rq.y2 - rq.y1 - 1) = rq.y2 - rq.y1 - 1 := IntWalk.i64_in _ (by omega)
          have v4 : IntKind.i64.wrap (rq.x2 - rq.x1 - 1) = rq.x2 - rq.x1 - 1 := IntWalk.i64_in _ (by omega)
          have HZ := Lib.hid (show ca = ca ∧ sizeR rq false - 1 = rq.y2 - rq.y1 - 1 ∧ sizeR rq true - 1 = rq.x2 - rq.x1 - 1 from ⟨rfl, rfl, rfl⟩)
          obtain ⟨wv, hwv⟩ : ∃ x, withinB ca 1 (sizeR rq ac - 1) = x := ⟨_, rfl⟩
          have HWI := Lib.hid (fun w => baseWithin_any ca 1 (sizeR rq ac - 1) w)
          rw [hwv] at HWI
          cases wv
          ·have HQE := Lib.hid (HER.out HLN.out hwv)
           clear hwv HER HST
           cases ac
           all_goals
            (first | rw [HZ.out.2.1] at HWI | rw [HZ.out.2.2] at HWI)
            go_wp2_with (go_at_call 16; refine (HWI.out _).mono ?_; rintro e w' ⟨rfl, rfl⟩)
            go_ret2
            exact LayPost.empty HQE.out (by repeat (first | exact HB9X.out | (refine below_drewN ?_ _)))
          ·have hws := withinB_true hwv
           have HPB := Lib.hid (And.intro hrb (show 0 ≤ ca ∧ ca ≤ 600000 by cases ac <;> simp [sizeR] at hws <;> omega))
           have HOKS := Lib.hid (show ∀ r ∈ stepR t.kerf ⟨av, ca, lo, hi, cb⟩ rq R, okR r by rw [HAV.out]; exact okR_step (kerf := t.kerf) (c := ⟨ac, ca, lo, hi, cb⟩) (R := R) HRO.out hokq hws htk.1)
           have HSTE := Lib.hid (show q = rectGo t.kerf (l.drop (m + 1)) (m + 1) (stepR t.kerf ⟨av, ca, lo, hi, cb⟩ rq R) by rw [HAV.out]; exact HST.out HLN.out hwv)
           clear hwv hws HER HST HLN
           cases ac
           all_goals
            (first | rw [HZ.out.2.1] at HWI | rw [HZ.out.2.2] at HWI)
            go_upto_region 31 with (go_at_call 16; refine (HWI.out _).mono ?_; rintro e w' ⟨rfl, rfl⟩)
            refine gen_world (fun W => (W.cell? ⟨bc, oc + m * 5 + 2, none⟩ = some (.int .i64 lo) ∧ W.cell? ⟨bc, oc + m * 5 + 3, none⟩ = some (.int .i64 hi) ∧ W.cell? ⟨bc, oc + m * 5, none⟩ = some (.bool av) ∧ W.cell? ⟨bc, oc + m * 5 + 1, none⟩ = some (.int .i64 ca) ∧ W.cell? ⟨bc, oc + m * 5 + 4, none⟩ = some (.int .i64 cb)) ∧ BoxR W G rq ∧ W.cell? ⟨w.heap.size + 1, 0, none⟩ = some (.int .i64 t.kerf) ∧ W.ownsRow B3 41 4 (.slice (some ⟨B3, 0, none⟩) l.length l.length) l.length (R.flatMap cellsR) ∧ Below B3 wo W ∧ G < W.heap.size) ⟨⟨n2, n3, by rw [HAV.out]; exact n0, n1, n4⟩, HBX9.out, pk, HO9.out, HB9.out, hz3⟩ ?_
            clear n0 n1 n2 n3 n4 pk q0 q1 q2 q3
            rintro W10 ⟨⟨p2, p3, p0, p1, p4⟩, hbx, ppk, ho10, hb10, hg10⟩
            have HO10 := Lib.hid ho10
            have HB10 := Lib.hid hb10
            obtain ⟨q0, q1, q2, q3, -, -, -, -⟩ := hbx
            clear ho10 hb10
            go_region_held3 (fun w' => w'.cell? ⟨bc, oc + m * 5 + 2, none⟩ = some (.int .i64 lo) ∧ w'.cell? ⟨bc, oc + m * 5 + 3, none⟩ = some (.int .i64 hi) ∧ w'.cell? ⟨bc, oc + m * 5, none⟩ = some (.bool av) ∧ w'.cell? ⟨bc, oc + m * 5 + 1, none⟩ = some (.int .i64 ca) ∧ w'.cell? ⟨bc, oc + m * 5 + 4, none⟩ = some (.int .i64 cb) ∧ w'.cell? ⟨G, 0, none⟩ = some (.int .i64 rq.x1) ∧ w'.cell? ⟨G, 1, none⟩ = some (.int .i64 rq.y1) ∧ w'.cell? ⟨G, 2, none⟩ = some (.int .i64 rq.x2) ∧ w'.cell? ⟨G, 3, none⟩ = some (.int .i64 rq.y2) ∧ w'.cell? ⟨w.heap.size + 1, 0, none⟩ = some (.int .i64 t.kerf)) (first | ((with_reducible refine ⟨?_, ?_, ?_, ?_, ?_, ?_, ?_, ?_, ?_, ?_⟩) <;> (first | with_reducible assumption | ((with_reducible refine put_keep ?_ ?_ rfl) <;> (first | with_reducible assumption | exact .inl hbn | exact .inl hGne | exact .inl hk1 | ((with_reducible refine put_keep ?_ ?_ rfl) <;> (first | with_reducible assumption | exact .inl hbn | exact .inl hGne | exact .inl hk1)))))) | go_keep)
             (first | (go_at_call 63; (with_reducible refine (parts_is rq _ _ ⟨av, ca, lo, hi, cb⟩ t.kerf _ rfl rfl HPB.out.1 HPB.out.2 htk).mono ?_); rintro e w11 ⟨rfl, hb11⟩; have HB11 := Lib.hid (show Below W10.heap.size W10 w11 from (Below.refl W10.heap.size W10).drew.trans hb11); clear hb11; have p2' := cell_keep HB11.out p2; have p3' := cell_keep HB11.out p3; have p0' := cell_keep HB11.out p0; have p1' := cell_keep HB11.out p1; have p4' := cell_keep HB11.out p4; have pk' := cell_keep HB11.out ppk; have q0' := cell_keep HB11.out q0; have q1' := cell_keep HB11.out q1; have q2' := cell_keep HB11.out q2; have q3' := cell_keep HB11.out q3; have HO11 := Lib.hid (own_keep HO10.out HB11.out); have HB11B := Lib.hid (HB10.out.trans (HB11.out.mono (by omega))); obtain ⟨⟨u0, u1, u2, u3⟩, ⟨uf0, uf1, uf2, uf3⟩⟩ := own_getR HO11.out hloR; obtain ⟨⟨v0, v1', v2', v3'⟩, ⟨vf0, vf1, vf2, vf3⟩⟩ := own_getR HO11.out hhiR; have o0 : ¬ lo = hi := (by omega); have o1 : ¬ lo * 4 = hi * 4 + 1 := (by omega); have o2 : ¬ lo * 4 + 1 = hi * 4 := (by omega); have o3 : ¬ lo * 4 = hi * 4 + 2 := (by omega); have o4 : ¬ lo * 4 + 2 = hi * 4 := (by omega); have o5 : ¬ lo * 4 = hi * 4 + 3 := (by omega); have o6 : ¬ lo * 4 + 3 = hi * 4 := (by omega); have o7 : ¬ lo * 4 + 1 = hi * 4 + 2 := (by omega); have o8 : ¬ lo * 4 + 1 = hi * 4 + 3 := (by omega); have o9 : ¬ lo * 4 + 2 = hi * 4 + 1 := (by omega); have o10 : ¬ lo * 4 + 2 = hi * 4 + 3 := (by omega); have o11 : ¬ lo * 4 + 3 = hi * 4 + 1 := (by omega); have o12 : ¬ lo * 4 + 3 = hi * 4 + 2 := (by omega); have o13 : ¬ hi = lo := (by omega); have o14 : ¬ hi * 4 = lo * 4 + 1 := (by omega); have o15 : ¬ hi * 4 + 1 = lo * 4 := (by omega); have o16 : ¬ hi * 4 = lo * 4 + 2 := (by omega); have o17 : ¬ hi * 4 + 2 = lo * 4 := (by omega); have o18 : ¬ hi * 4 = lo * 4 + 3 := (by omega); have o19 : ¬ hi * 4 + 3 = lo * 4 := (by omega); have o20 : ¬ hi * 4 + 1 = lo * 4 + 2 := (by omega); have o21 : ¬ hi * 4 + 1 = lo * 4 + 3 := (by omega); have o22 : ¬ hi * 4 + 2 = lo * 4 + 1 := (by omega); have o23 : ¬ hi * 4 + 2 = lo * 4 + 3 := (by omega); have o24 : ¬ hi * 4 + 3 = lo * 4 + 1 := (by omega); have o25 : ¬ hi * 4 + 3 = lo * 4 + 2 := (by omega)))
            all_goals
             have HO12 := Lib.hid (own_putR (lowR rq av ca) HO11.out hloR)
             have hhi2 : hi < (R.set lo (lowR rq av ca)).length := by rw [List.length_set]; exact hhiR
             have HO14 := Lib.hid (own_putR (highR rq av ca t.kerf) HO12.out hhi2)
             go_wp2_with fail
             go_roundw
             case rel =>
              refine ⟨m + 1, stepR t.kerf ⟨av, ca, lo, hi, cb⟩ rq R, by omega, by go_num, by rw [stepR_len]; exact hRl, HOKS, HSTE, Lib.hid ?_, ?_⟩
              ·rw [HSR.out]
               first
                | with_reducible exact HO14.out
                | with_reducible exact own_keep HO14.out (Below.refl _ _).drew
                | with_reducible exact own_keep HO14.out (below_drewN (Below.refl _ _) _)
              ·repeat (first | with_reducible exact HB11B.out | with_reducible exact Nat.le_refl _ | (with_reducible refine Below.drew ?_) | (with_reducible refine below_drewN ?_ _) | (with_reducible refine Below.setCell ?_ ?_ _))
             case measure => simp [intOf]; omega
        ·have HQ2 := rect_end (Nat.le_of_not_lt hltm) HQ.out
         have HQE := Lib.hid HQ2
         have hmi : ¬ (m : Int) < (l.length : Int) := by omega
         have HRV : Hid (Rects.V wr (some ⟨B3, 0, none⟩) R) := Lib.hid (own_rowV (n := l.length) (c := l.length) cellsR_len (by decide) (fun b o x hx h => ⟨h 0 _ rfl, h 1 _ rfl, h 2 _ rfl, h 3 _ rfl, by
          have := HRO.out x hx
          unfold Rect.wf
          rcases this with rfl | hp
          ·simp
          ·unfold proper at hp; omega⟩) HO3.out)
         clear HQ HQ2 pk
         go_wp2_with fail
         go_ret2
         exact ⟨some ⟨B3, 0, none⟩, l.length, by rw [HQE.out]; show _ = Ending.returned (.tuple #[.slice (some ⟨B3, 0, none⟩) R.length l.length, .int .i64 0]); rw [hRl]; rfl, by rw [HQE.out]; exact HRV.out, HBX6.out, fun x h => by injection h with h; subst h; have h1 := HB3E.out; first | (have h2 := HB5.out.size; simp only; omega) | (have h2 := HBX.out.size; simp only; omega)⟩
end Go.Proofs.YtjmgboipbhddlaaGreatDoor

set_option linter.unusedVariables false
set_option linter.unusedSimpArgs false
namespace Go.Proofs.YtjmgboipbhddlaaGreatDoor
open Go Go.RowKit

end Go.Proofs.YtjmgboipbhddlaaGreatDoor
