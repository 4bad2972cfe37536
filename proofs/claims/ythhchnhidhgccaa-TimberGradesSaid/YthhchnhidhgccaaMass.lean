/- What the program's Widest, Mass and the examples' species and board return. -/
import Derived.Test.YthhchnhidhgccaaWid
import Derived.Test.YthhchnhidhgccaaBoards3
import Derived.Test.YthhchnhidhgccaaOver
set_option linter.unusedVariables false
set_option linter.unusedSimpArgs false
namespace Go.Proofs.Ythhchnhidhgccaa
open Go Go.RowKit

theorem boardGo_ok {l wd : Int} {ds : List Rect} (h : boardGo l wd ds = 0) : ∀ d ∈ ds, 0 ≤ d.x1 ∧ d.x1 < d.x2 ∧ d.x2 ≤ l ∧ 0 ≤ d.y1 ∧ d.y1 < d.y2 ∧ d.y2 ≤ wd := by
  induction ds with
  | nil => simp
  | cons r rs ih =>
    unfold boardGo at h
    split at h
    · exact absurd h (by assumption)
    · rename_i hr
      intro d hd
      rcases List.mem_cons.1 hd with rfl | hd
      · have hr : rectIn l wd d = 0 := Classical.not_not.1 hr
        unfold rectIn at hr
        split at hr
        · cases hr
        · split at hr
          · cases hr
          · omega
      · exact ih h d hd
structure BoardOk (b : Board) : Prop where
  name : nameB b.name = true
  species : nameB b.species = true
  length : 1 ≤ b.length ∧ b.length ≤ 600000
  width : 1 ≤ b.width ∧ b.width ≤ 100000
  thick : 1 ≤ b.thick ∧ b.thick ≤ 20000
  cut : 0 ≤ b.cut ∧ b.cut ≤ 1
  moisture : 0 ≤ b.moisture ∧ b.moisture ≤ 400
  few : b.defects.length ≤ 60
  inside : ∀ d ∈ b.defects, 0 ≤ d.x1 ∧ d.x1 < d.x2 ∧ d.x2 ≤ b.length ∧ 0 ≤ d.y1 ∧ d.y1 < d.y2 ∧ d.y2 ≤ b.width
theorem boardErr_ok {b : Board} (h : boardErr b = 0) : BoardOk b := by
  unfold boardErr at h
  split at h
  · cases h
  · rename_i h1
    split at h
    · cases h
    · rename_i h2
      split at h
      · cases h
      · rename_i h3
        have e1 : withinB b.length 1 600000 = true := by cases hq : withinB b.length 1 600000 <;> simp_all
        have e2 : withinB b.width 1 100000 = true := by cases hq : withinB b.width 1 100000 <;> simp_all
        have e3 : withinB b.thick 1 20000 = true := by cases hq : withinB b.thick 1 20000 <;> simp_all
        have e4 : withinB b.cut 0 1 = true := by cases hq : withinB b.cut 0 1 <;> simp_all
        have e5 : withinB b.moisture 0 400 = true := by cases hq : withinB b.moisture 0 400 <;> simp_all
        exact ⟨by cases hq : nameB b.name <;> simp_all, by cases hq : nameB b.species <;> simp_all, withinB_true e1, withinB_true e2, withinB_true e3, withinB_true e4, withinB_true e5, by omega, boardGo_ok h⟩

def widE (b : Board) (len : Int) : Int := if boardErr b ≠ 0 then boardErr b else if withinB len 1 b.length = false then 2 else if (widS b len).2 = false then 12 else 0
def widR (b : Board) (len : Int) : Rect := if widE b len = 0 then (widS b len).1 else ⟨0, 0, 0, 0⟩

set_option maxHeartbeats 1000000 in
theorem widestP_any (b : Board) (len : Int) (a : Option Addr) (c : Nat) (w : World) (hv : Rects.V w a b.defects) (hl : b.defects.length ≤ 9223372036854775807) (hw : b.wf) :
    Calls Try.prog 33 #[.agg #[.string b.name, .string b.species, .int .i64 b.length, .int .i64 b.width, .int .i64 b.thick, .int .i64 b.cut, .int .i64 b.moisture, .slice a b.defects.length c], .int .i64 len] w fun e w' => e = .returned (.tuple #[.agg #[.int .i64 (widR b len).x1, .int .i64 (widR b len).y1, .int .i64 (widR b len).x2, .int .i64 (widR b len).y2], .int .i64 (widE b len)]) ∧ Below w.heap.size w w' := by
  by_cases h0 : boardErr b = 0
  · have HK := Lib.hid (boardErr_ok h0)
    have h0' : (boardErr b != 0) = false := by simp [h0]
    obtain ⟨hl1, hl2⟩ := HK.out.length
    obtain ⟨hd1, hd2⟩ := HK.out.width
    cases h1 : withinB len 1 b.length
    · have HE := Lib.hid (show widE b len = 2 ∧ widR b len = ⟨0, 0, 0, 0⟩ from ⟨by simp [widE, h0, h1], by simp [widR, widE, h0, h1]⟩)
      clear h0
      go_enter Try.func33, Try.ntmps33
      go_wp2_with (first
        | (go_at_call 82; refine (checkBoard_any b _ _ _ (hv.keep (((Below.refl _ _).alloc (Nat.le_refl _) _).alloc (by simp) _)) hl hw).mono ?_; rintro e w1 ⟨rfl, hb⟩; have q0 : w1.cell? ⟨w.heap.size + 1, 0, none⟩ = some (.int .i64 0) := (cell_keep hb (by simp [go_sem])); have q1 : w1.cell? ⟨w.heap.size + 1, 1, none⟩ = some (.int .i64 0) := (cell_keep hb (by simp [go_sem])); have q2 : w1.cell? ⟨w.heap.size + 1, 2, none⟩ = some (.int .i64 0) := (cell_keep hb (by simp [go_sem])); have q3 : w1.cell? ⟨w.heap.size + 1, 3, none⟩ = some (.int .i64 0) := (cell_keep hb (by simp [go_sem])); obtain ⟨hc, hf⟩ := bcell hb; have hz := hb.size; have hzz : w.heap.size + 1 < w1.heap.size := (by simp at hz; omega); have hb1 := (((Below.refl w.heap.size w).alloc (Nat.le_refl _) _).alloc (by simp) _).trans (hb.mono (by simp; omega)))
        | (go_at_call 83; refine (within_any _ _ _ _).mono ?_; rintro e w2 ⟨rfl, rfl⟩))
      exact bodyPost_ret (v := .tuple #[.agg #[.int .i64 0, .int .i64 0, .int .i64 0, .int .i64 0], .int .i64 2]) (by simp [results, Try.results33, go_sem, q0, q1, q2, q3]) rfl ⟨by rw [HE.out.1, HE.out.2], (by repeat (first | exact hb4 | exact hb1 | (refine Below.setCell ?_ (by simp) _) | (refine Below.alloc ?_ (by first | omega | (simp; omega) | (simp; done)) _)))⟩
    · have hwl := withinB_true h1
      have HIN := Lib.hid (show ∀ d ∈ b.defects, 0 ≤ d.x1 ∧ d.x1 < d.x2 ∧ d.x2 ≤ 600000 ∧ 0 ≤ d.y1 ∧ d.y1 < d.y2 ∧ d.y2 ≤ 600000 from fun d hd => by have := HK.out.inside d hd; omega)
      cases h2 : (widS b len).2
      · have HE := Lib.hid (show widE b len = 12 ∧ widR b len = ⟨0, 0, 0, 0⟩ from ⟨by simp [widE, h0, h1, h2], by simp [widR, widE, h0, h1, h2]⟩)
        clear h0
        go_enter Try.func33, Try.ntmps33
        go_wp2_with (first
          | (go_at_call 82; refine (checkBoard_any b _ _ _ (hv.keep (((Below.refl _ _).alloc (Nat.le_refl _) _).alloc (by simp) _)) hl hw).mono ?_; rintro e w1 ⟨rfl, hb⟩; have q0 : w1.cell? ⟨w.heap.size + 1, 0, none⟩ = some (.int .i64 0) := (cell_keep hb (by simp [go_sem])); have q1 : w1.cell? ⟨w.heap.size + 1, 1, none⟩ = some (.int .i64 0) := (cell_keep hb (by simp [go_sem])); have q2 : w1.cell? ⟨w.heap.size + 1, 2, none⟩ = some (.int .i64 0) := (cell_keep hb (by simp [go_sem])); have q3 : w1.cell? ⟨w.heap.size + 1, 3, none⟩ = some (.int .i64 0) := (cell_keep hb (by simp [go_sem])); obtain ⟨hc, hf⟩ := bcell hb; have hz := hb.size; have hzz : w.heap.size + 1 < w1.heap.size := (by simp at hz; omega); have hb1 := (((Below.refl w.heap.size w).alloc (Nat.le_refl _) _).alloc (by simp) _).trans (hb.mono (by simp; omega)))
          | (go_at_call 83; refine (within_any _ _ _ _).mono ?_; rintro e w2 ⟨rfl, rfl⟩)
          | (go_at_call 84; refine (widest_any b len _ _ _ (hv.keep hb1) HK.out.few HIN.out (by omega) (by omega) (by omega) (by omega) (by omega) (by omega)).mono ?_; rintro e w3 ⟨rfl, hb3⟩; have r0 := cell_keep hb3 q0; have r1 := cell_keep hb3 q1; have r2 := cell_keep hb3 q2; have r3 := cell_keep hb3 q3; obtain ⟨hc3, hf3⟩ := bcell hb3; have hz3 := hb3.size; have hb4 := hb1.trans (hb3.mono hb1.size); have hzz3 : w.heap.size + 1 < w3.heap.size := (by omega)))
        exact bodyPost_ret (v := .tuple #[.agg #[.int .i64 0, .int .i64 0, .int .i64 0, .int .i64 0], .int .i64 12]) (by simp [results, Try.results33, go_sem, r0, r1, r2, r3, hzz3]) rfl ⟨by rw [HE.out.1, HE.out.2], (by repeat (first | exact hb4 | exact hb1 | (refine Below.setCell ?_ (by simp) _) | (refine Below.alloc ?_ (by first | omega | (simp; omega) | (simp; done)) _)))⟩
      · have HE := Lib.hid (show widE b len = 0 ∧ widR b len = (widS b len).1 from ⟨by simp [widE, h0, h1, h2], by simp [widR, widE, h0, h1, h2]⟩)
        clear h0
        go_enter Try.func33, Try.ntmps33
        go_wp2_with (first
          | (go_at_call 82; refine (checkBoard_any b _ _ _ (hv.keep (((Below.refl _ _).alloc (Nat.le_refl _) _).alloc (by simp) _)) hl hw).mono ?_; rintro e w1 ⟨rfl, hb⟩; have q0 : w1.cell? ⟨w.heap.size + 1, 0, none⟩ = some (.int .i64 0) := (cell_keep hb (by simp [go_sem])); have q1 : w1.cell? ⟨w.heap.size + 1, 1, none⟩ = some (.int .i64 0) := (cell_keep hb (by simp [go_sem])); have q2 : w1.cell? ⟨w.heap.size + 1, 2, none⟩ = some (.int .i64 0) := (cell_keep hb (by simp [go_sem])); have q3 : w1.cell? ⟨w.heap.size + 1, 3, none⟩ = some (.int .i64 0) := (cell_keep hb (by simp [go_sem])); obtain ⟨hc, hf⟩ := bcell hb; have hz := hb.size; have hzz : w.heap.size + 1 < w1.heap.size := (by simp at hz; omega); have hb1 := (((Below.refl w.heap.size w).alloc (Nat.le_refl _) _).alloc (by simp) _).trans (hb.mono (by simp; omega)))
          | (go_at_call 83; refine (within_any _ _ _ _).mono ?_; rintro e w2 ⟨rfl, rfl⟩)
          | (go_at_call 84; refine (widest_any b len _ _ _ (hv.keep hb1) HK.out.few HIN.out (by omega) (by omega) (by omega) (by omega) (by omega) (by omega)).mono ?_; rintro e w3 ⟨rfl, hb3⟩; have r0 := cell_keep hb3 q0; have r1 := cell_keep hb3 q1; have r2 := cell_keep hb3 q2; have r3 := cell_keep hb3 q3; obtain ⟨hc3, hf3⟩ := bcell hb3; have hz3 := hb3.size; have hb4 := hb1.trans (hb3.mono hb1.size); have hzz3 : w.heap.size + 1 < w3.heap.size := (by omega)))
        exact bodyPost_ret (v := .tuple #[.agg #[.int .i64 (widS b len).1.x1, .int .i64 (widS b len).1.y1, .int .i64 (widS b len).1.x2, .int .i64 (widS b len).1.y2], .int .i64 0]) (by simp [results, Try.results33, go_sem, r0, r1, r2, r3, hzz3]) rfl ⟨by rw [HE.out.1, HE.out.2], (by repeat (first | exact hb4 | exact hb1 | (refine Below.setCell ?_ (by simp) _) | (refine Below.alloc ?_ (by first | omega | (simp; omega) | (simp; done)) _)))⟩
  · have h0' : (boardErr b != 0) = true := by simp [h0]
    have HE := Lib.hid (show widE b len = boardErr b ∧ widR b len = ⟨0, 0, 0, 0⟩ from ⟨by simp [widE, h0], by simp [widR, widE, h0]⟩)
    clear h0
    go_enter Try.func33, Try.ntmps33
    go_wp2_with (go_at_call 82; refine (checkBoard_any b _ _ _ (hv.keep (((Below.refl _ _).alloc (Nat.le_refl _) _).alloc (by simp) _)) hl hw).mono ?_; rintro e w1 ⟨rfl, hb⟩; have q0 : w1.cell? ⟨w.heap.size + 1, 0, none⟩ = some (.int .i64 0) := (cell_keep hb (by simp [go_sem])); have q1 : w1.cell? ⟨w.heap.size + 1, 1, none⟩ = some (.int .i64 0) := (cell_keep hb (by simp [go_sem])); have q2 : w1.cell? ⟨w.heap.size + 1, 2, none⟩ = some (.int .i64 0) := (cell_keep hb (by simp [go_sem])); have q3 : w1.cell? ⟨w.heap.size + 1, 3, none⟩ = some (.int .i64 0) := (cell_keep hb (by simp [go_sem])); obtain ⟨hc, hf⟩ := bcell hb; have hz := hb.size; have hzz : w.heap.size + 1 < w1.heap.size := (by simp at hz; omega); have hb1 := (((Below.refl w.heap.size w).alloc (Nat.le_refl _) _).alloc (by simp) _).trans (hb.mono (by simp; omega)))
    exact bodyPost_ret (v := .tuple #[.agg #[.int .i64 0, .int .i64 0, .int .i64 0, .int .i64 0], .int .i64 (boardErr b)]) (by simp [results, Try.results33, go_sem, q0, q1, q2, q3]) rfl ⟨by rw [HE.out.1, HE.out.2], (by repeat (first | exact hb4 | exact hb1 | (refine Below.setCell ?_ (by simp) _) | (refine Below.alloc ?_ (by first | omega | (simp; omega) | (simp; done)) _)))⟩
end Go.Proofs.Ythhchnhidhgccaa
