/- Small jobs; checkCut, Usable of the program and of the reference. -/
import Derived.Test.YtjmgboipbhddlaaGreatDoorA8
import Derived.Test.YtjmgboipbhddlaaGreatDoorVG
set_option linter.unusedVariables false
set_option linter.unusedSimpArgs false
namespace Go.Proofs.YtjmgboipbhddlaaGreatDoor
open Go Go.RowKit

def cutE (b : Board) (t : Trim) : Int := if boardErr b ≠ 0 then boardErr b else trimE t
set_option maxHeartbeats 1000000 in
theorem checkCut_is (b : Board) (t : Trim) (a : Option Addr) (c : Nat) (w : World) {q : Int} (hq : cutE b t = q) (hv : Rects.V w a b.defects) (hl : b.defects.length ≤ 9223372036854775807) (hw : b.wf) :
    Calls Tryz.prog 97 #[.agg #[.string b.name, .string b.species, .int .i64 b.length, .int .i64 b.width, .int .i64 b.thick, .int .i64 b.cut, .int .i64 b.moisture, .slice a b.defects.length c], .agg #[.int .i64 t.kerf, .int .i64 t.ends, .int .i64 t.sides]] w fun e w' => e = .returned (.int .i64 q) ∧ Below w.heap.size w w' := by
  have HV := Lib.hid hv
  by_cases he : boardErr b = 0
  · have HQ := Lib.hid (show q = trimE t by rw [← hq]; unfold cutE; rw [if_neg (by simp [he])])
    have HE := Lib.hid he
    clear he hq
    go_enter Tryz.func97, Tryz.ntmps97
    go_wp2_with (first
      | (go_at_call 71; refine (ccheckBoard_any b a c _ (HV.out.keep (((Below.refl _ _).alloc (Nat.le_refl _) _).alloc (by simp) _)) hl hw).mono ?_; rw [HE.out]; rintro e w1 ⟨rfl, hb⟩; have HB := Lib.hid ((((Below.refl w.heap.size w).alloc (Nat.le_refl _) _).alloc (by simp) _).trans (hb.mono (by simp; omega))); have k0 : w1.cell? ⟨w.heap.size + 1, 0, none⟩ = some (.int .i64 t.kerf) := (cell_keep hb (by simp [go_sem])); have k1 : w1.cell? ⟨w.heap.size + 1, 1, none⟩ = some (.int .i64 t.ends) := (cell_keep hb (by simp [go_sem])); have k2 : w1.cell? ⟨w.heap.size + 1, 2, none⟩ = some (.int .i64 t.sides) := (cell_keep hb (by simp [go_sem])); clear hb)
      | (go_at_call 73; refine (checkTrim_any t _).mono ?_; rintro e w2 ⟨rfl, hb⟩; have HB2 := Lib.hid (HB.out.trans (hb.mono HB.out.size)); clear hb))
    go_ret
    exact ⟨ret_int HQ.out.symm, HB2.out⟩
  · have hne : (q != 0) = true := by rw [← hq]; unfold cutE; rw [if_pos he]; simpa using he
    have HQ := Lib.hid (show boardErr b = q by rw [← hq]; unfold cutE; rw [if_pos he])
    clear he hq
    go_enter Tryz.func97, Tryz.ntmps97
    go_wp2_with (go_at_call 71; refine (ccheckBoard_any b a c _ (HV.out.keep (((Below.refl _ _).alloc (Nat.le_refl _) _).alloc (by simp) _)) hl hw).mono ?_; rw [HQ.out]; rintro e w1 ⟨rfl, hb⟩; have HB := Lib.hid ((((Below.refl w.heap.size w).alloc (Nat.le_refl _) _).alloc (by simp) _).trans (hb.mono (by simp; omega))); clear hb)
    go_ret
    exact ⟨rfl, HB.out⟩
theorem cutE_ok {b : Board} {t : Trim} (h : cutE b t = 0) : boardErr b = 0 ∧ trimE t = 0 := by
  unfold cutE at h
  split at h
  · rename_i h1; exact absurd h h1
  · rename_i h1; exact ⟨by simpa using h1, h⟩
theorem cut_bounds {b : Board} {t : Trim} (h : cutE b t = 0) : (0 ≤ b.length ∧ b.length ≤ 600000 ∧ 0 ≤ b.width ∧ b.width ≤ 600000) ∧ (0 ≤ t.ends ∧ t.ends ≤ 10000 ∧ 0 ≤ t.sides ∧ t.sides ≤ 10000) := by
  obtain ⟨h1, h2⟩ := cutE_ok h
  obtain ⟨_, h3, _⟩ := boardErr_ok h1
  have h4 := trimE_ok h2
  omega
end Go.Proofs.YtjmgboipbhddlaaGreatDoor
