/- The examples of the law are as they should be. -/
import Derived.Test.YthhchnhidhgccaaAwake
set_option linter.unusedVariables false
set_option linter.unusedSimpArgs false
namespace Go.Proofs.Ythhchnhidhgccaa
open Go Go.RowKit

def oakName : ByteArray := { data := #[111, 97, 107] }
def oak : Species := ⟨oakName, 1, 300, 150, 700, 12000, 90⟩
def plank : Board := ⟨{ data := #[98, 49] }, oakName, 100, 40, 10, 0, 80, [⟨10, 0, 20, 15⟩, ⟨60, 30, 70, 40⟩]⟩
def beam : Board := ⟨{ data := #[98] }, oakName, 100000, 10000, 2000, 0, 100, []⟩
theorem plank_ok : boardErr plank = 0 := by decide
theorem plank_xs : uniq (widXs plank) = [0, 20, 70] := uniq_eq (by decide) (by simp [widXs, plank])
theorem plank_ys : uniq (widYs plank) = [0, 15, 40] := uniq_eq (by decide) (by simp [widYs, plank])
theorem plank_s : widS plank 50 = (⟨20, 0, 70, 30⟩, true) := by
  unfold widS
  rw [plank_xs, plank_ys]
  decide
theorem plank_e : widE plank 50 = 0 := by simp [widE, plank_ok, plank_s]; decide
theorem plank_r : widR plank 50 = ⟨20, 0, 70, 30⟩ := by simp [widR, plank_e, plank_s]
theorem oak_i : idxOf (nameIs beam.species) [oak] = (0 : Nat) := idxOf_hit (by decide) (fun j hj h => by omega) (by simp [nameIs, oak, beam])
theorem oak_c : checkSpecies [oak] = 0 := by simp [checkSpecies, spGo, show speciesErr oak = 0 by decide]
theorem beam_e : checkBoardE [oak] beam = 0 := by simp [checkBoardE, listedE, oak_c, oak_i, show boardErr beam = 0 by decide]
theorem beam_m : massV [oak] beam = 1540 := by rw [massV_ok beam_e (by decide) oak_i]; decide
theorem plank_wf : plank.wf := by unfold Board.wf plank; decide
theorem beam_wf : beam.wf := by unfold Board.wf beam; decide
theorem over_ex : overLo 2000 150 80 60 120 = 1994 ∧ overHi 2000 150 80 60 120 = 2012 ∧ overE 2000 150 80 60 120 = 0 := by decide

set_option maxHeartbeats 1000000 in
theorem oak_any (w : World) : Calls Try.prog 73 #[] w fun e w' => e = .returned (.agg #[.string oakName, .int .i64 1, .int .i64 300, .int .i64 150, .int .i64 700, .int .i64 12000, .int .i64 90]) ∧ Below w.heap.size w w' := by
  go_enter Try.func73, Try.ntmps73
  go_wp2_with fail
  exact bodyPost_ret (v := .agg #[.string oakName, .int .i64 1, .int .i64 300, .int .i64 150, .int .i64 700, .int .i64 12000, .int .i64 90]) (by simp [results, Try.results73, go_sem, oakName]) rfl ⟨rfl, by repeat (first | exact Below.refl _ _ | (refine Below.setCell ?_ (by simp) _) | (refine Below.alloc ?_ (by first | omega | (simp; omega) | (simp; done)) _))⟩

set_option maxHeartbeats 1000000 in
theorem plank_any (w : World) : Calls Try.prog 72 #[] w fun e w' => ∃ a, e = .returned (.agg #[.string plank.name, .string oakName, .int .i64 100, .int .i64 40, .int .i64 10, .int .i64 0, .int .i64 80, .slice (some a) 2 2]) ∧ Rects.V w' (some a) plank.defects ∧ Below w.heap.size w w' := by
  go_enter Try.func72, Try.ntmps72
  go_wp2_with fail
  refine bodyPost_ret (v := .agg #[.string plank.name, .string oakName, .int .i64 100, .int .i64 40, .int .i64 10, .int .i64 0, .int .i64 80, .slice (some ⟨w.heap.size + 1, 0, none⟩) 2 2]) (by simp [results, Try.results72, go_sem, oakName, plank]) rfl ⟨_, rfl, ?_, ?_⟩
  · refine fun _ => ⟨_, 0, rfl, fun k x hk => ?_⟩
    match k, hk with
    | 0, hk => simp [plank] at hk; subst hk; refine ⟨by simp [go_sem], by simp [go_sem], by simp [go_sem], by simp [go_sem], by unfold Rect.wf; decide⟩
    | 1, hk => simp [plank] at hk; subst hk; refine ⟨by simp [go_sem], by simp [go_sem], by simp [go_sem], by simp [go_sem], by unfold Rect.wf; decide⟩
    | k + 2, hk => simp [plank] at hk
  · repeat (first | exact Below.refl _ _ | (refine Below.setCell ?_ (by simp) _) | (refine Below.alloc ?_ (by first | omega | (simp; omega) | (simp; done)) _))

theorem oak_V (w : World) : Speciess.V (w.alloc (.cells #[.string oakName, .int .i64 1, .int .i64 300, .int .i64 150, .int .i64 700, .int .i64 12000, .int .i64 90] 35)) (some ⟨w.heap.size, 0, none⟩) [oak] := by
  refine fun _ => ⟨_, 0, rfl, fun k x hk => ?_⟩
  match k, hk with
  | 0, hk => simp at hk; subst hk; refine ⟨by simp [go_sem, oak], by simp [go_sem, oak], by simp [go_sem, oak], by simp [go_sem, oak], by simp [go_sem, oak], by simp [go_sem, oak], by simp [go_sem, oak], by unfold Species.wf oak; decide⟩
  | k + 1, hk => simp at hk

set_option maxHeartbeats 1000000 in
theorem awake_any (w : World) : Calls Try.prog 18 #[] w fun e w' => e = .returned (.bool true) ∧ Below w.heap.size w w' := by
  obtain ⟨o1, o2, o3⟩ := over_ex
  have hp := plank_e
  have hr := plank_r
  go_enter Try.func18, Try.ntmps18
  go_wp2_with (first
    | (go_at_call 25; refine (over_any 2000 150 80 ⟨60, 120⟩ _).mono ?_; simp only [o1, o2, o3]; rintro e w1 ⟨rfl, hb1⟩)
    | (go_at_call 72; refine (plank_any _).mono ?_; rintro e w2 ⟨pa, rfl, hpv, hb2⟩; have i0 : w2.cell? ⟨w1.heap.size, 0, none⟩ = some (.int .i64 1994) := (cell_keep hb2 (by simp [go_sem])); have i1 : w2.cell? ⟨w1.heap.size, 1, none⟩ = some (.int .i64 2012) := (cell_keep hb2 (by simp [go_sem])))
    | (go_at_call 33; refine (widestP_any plank 50 _ _ _ hpv (by decide) plank_wf).mono ?_; simp only [plank_e, plank_r]; rintro e w3 ⟨rfl, hb3⟩; have j0 := (cell_keep hb3 i0); have j1 := (cell_keep hb3 i1); have hz3 : w1.heap.size < w3.heap.size := (by simpa using block_lt_of_cell j0))
    | (go_at_call 73; refine (oak_any _).mono ?_; rintro e w4 ⟨rfl, hb4⟩; have k0 : w4.cell? ⟨w1.heap.size, 0, none⟩ = some (.int .i64 1994) := (cell_keep hb4 (by simp [go_sem, j0, hz3])); have k1 : w4.cell? ⟨w1.heap.size, 1, none⟩ = some (.int .i64 2012) := (cell_keep hb4 (by simp [go_sem, j1, hz3]));
        have r0 : w4.cell? ⟨w3.heap.size, 0, none⟩ = some (.int .i64 20) := (cell_keep hb4 (by simp [go_sem])); have r1 : w4.cell? ⟨w3.heap.size, 1, none⟩ = some (.int .i64 0) := (cell_keep hb4 (by simp [go_sem])); have r2 : w4.cell? ⟨w3.heap.size, 2, none⟩ = some (.int .i64 70) := (cell_keep hb4 (by simp [go_sem])); have r3 : w4.cell? ⟨w3.heap.size, 3, none⟩ = some (.int .i64 30) := (cell_keep hb4 (by simp [go_sem])); have hz4 : w3.heap.size < w4.heap.size := (by simpa using block_lt_of_cell r0); have hz5 : w1.heap.size < w4.heap.size := (by omega))
    | (go_at_call 21; refine (timberMass_any _ [oak] 1 beam none 0 _ (oak_V w4) (by decide) (fun h => absurd rfl h) (by decide) beam_wf).mono ?_; simp only [beam_e, beam_m]; rintro e w5 ⟨rfl, hb5⟩; have m0 : w5.cell? ⟨w1.heap.size, 0, none⟩ = some (.int .i64 1994) := (cell_keep hb5 (by simp [go_sem, k0, hz5])); have m1 : w5.cell? ⟨w1.heap.size, 1, none⟩ = some (.int .i64 2012) := (cell_keep hb5 (by simp [go_sem, k1, hz5]));
        have s0 : w5.cell? ⟨w3.heap.size, 0, none⟩ = some (.int .i64 20) := (cell_keep hb5 (by simp [go_sem, r0, hz4])); have s1 : w5.cell? ⟨w3.heap.size, 1, none⟩ = some (.int .i64 0) := (cell_keep hb5 (by simp [go_sem, r1, hz4])); have s2 : w5.cell? ⟨w3.heap.size, 2, none⟩ = some (.int .i64 70) := (cell_keep hb5 (by simp [go_sem, r2, hz4])); have s3 : w5.cell? ⟨w3.heap.size, 3, none⟩ = some (.int .i64 30) := (cell_keep hb5 (by simp [go_sem, r3, hz4]))))
  have B1 := hb1.trans (((Below.refl w1.heap.size w1).alloc (Nat.le_refl _) (.cells #[.int .i64 1994, .int .i64 2012] 41)).mono hb1.size)
  have B2 := B1.trans (hb2.mono B1.size)
  have B3 := B2.trans (hb3.mono B2.size)
  have B4 := B3.trans (((Below.refl w3.heap.size w3).alloc (Nat.le_refl _) (.cells #[.int .i64 20, .int .i64 0, .int .i64 70, .int .i64 30] 55)).mono B3.size)
  have B5 := B4.trans (hb4.mono B4.size)
  have B6 := B5.trans (((Below.refl w4.heap.size w4).alloc (Nat.le_refl _) (.cells #[.string oakName, .int .i64 1, .int .i64 300, .int .i64 150, .int .i64 700, .int .i64 12000, .int .i64 90] 35)).mono B5.size)
  go_ret
  exact ⟨rfl, B6.trans (hb5.mono B6.size)⟩
end Go.Proofs.Ythhchnhidhgccaa
