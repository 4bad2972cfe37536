/- TimberClear returns true for every input: Clear returns the clear lengths, or the error of the board; they are sound over the whole width, apart, and as long as they can be. No condition. -/
import Derived.Test.YthhchnhidhgccaaClear4
import Derived.Test.YthhchnhidhgccaaWidBest
import Derived.Test.YthhchnhidhgccaaFactsClear
set_option linter.unusedVariables false
set_option linter.unusedSimpArgs false
namespace Go.Proofs.Ythhchnhidhgccaa
open Go Go.ChangeShapes Go.WideShapes Go.ChangeAt Go.RowKit

set_option maxRecDepth 100000 in
set_option maxHeartbeats 8000000 in
theorem walkTimberClear (b : Board) (ba : Option Addr) (bc : Nat) (p : Int) (w : World) (Vb : Rects.V w ba b.defects) (Lb : b.defects.length ≤ 9223372036854775807) (Wb : b.wf) (Wp : -9223372036854775808 ≤ p ∧ p ≤ 9223372036854775807) :
    Calls Try.prog 15 #[.agg #[.string b.name, .string b.species, .int .i64 b.length, .int .i64 b.width, .int .i64 b.thick, .int .i64 b.cut, .int .i64 b.moisture, .slice ba b.defects.length bc], .int .i64 p] w fun e w' => e = .returned (.bool true) ∧ Below w.heap.size w w' := by
  cases hpl : plainB b
  · have HPL := Lib.hid hpl
    clear hpl
    go_enter Try.func15, Try.ntmps15
    go_upto_region 1 with fail
    refine gen_world (fun W => (W.cell? ⟨w.heap.size, 0, none⟩ = some (.string b.name) ∧ W.cell? ⟨w.heap.size, 1, none⟩ = some (.string b.species) ∧ W.cell? ⟨w.heap.size, 2, none⟩ = some (.int .i64 b.length) ∧ W.cell? ⟨w.heap.size, 3, none⟩ = some (.int .i64 b.width) ∧ W.cell? ⟨w.heap.size, 4, none⟩ = some (.int .i64 b.thick) ∧ W.cell? ⟨w.heap.size, 5, none⟩ = some (.int .i64 b.cut) ∧ W.cell? ⟨w.heap.size, 6, none⟩ = some (.int .i64 b.moisture) ∧ W.cell? ⟨w.heap.size, 7, none⟩ = some (.slice ba b.defects.length bc)) ∧ Below w.heap.size w W) ?_ ?_
    · exact ⟨⟨by simp [go_sem], by simp [go_sem], by simp [go_sem], by simp [go_sem], by simp [go_sem], by simp [go_sem], by simp [go_sem], by simp [go_sem]⟩, (Below.refl _ _).alloc (Nat.le_refl _) _⟩
    rintro W ⟨⟨e0, e1, e2, e3, e4, e5, e6, e7⟩, hbW⟩
    go_wp2_with (first
      | (go_at_call 18; refine (awake_any _).mono ?_; rintro e w1 ⟨rfl, hb1⟩; have f0 := cell_keep hb1 e0; have f1 := cell_keep hb1 e1; have f2 := cell_keep hb1 e2; have f3 := cell_keep hb1 e3; have f4 := cell_keep hb1 e4; have f5 := cell_keep hb1 e5; have f6 := cell_keep hb1 e6; have f7 := cell_keep hb1 e7; have hc1 := hbW.trans (hb1.mono hbW.size); have hz1 := block_lt_of_cell f0; simp only at hz1)
      | (go_at_call 20; refine (plain_any b _ _ _ Lb Wb).mono ?_; rw [HPL.out]; rintro e w2 ⟨rfl, hb2⟩; obtain ⟨hk2, hf2⟩ := bcell hb2; have hc2 := hc1.trans (hb2.mono hc1.size); have hz2 : w.heap.size < w2.heap.size := (by have := hb2.size; omega)))
    go_ret
    exact ⟨ret_bool (by go_tidy; first | rfl | (simp; done)), by (repeat (first | assumption | (refine Below.setCell ?_ (by first | omega | (simp; omega) | (simp; done)) _) | (refine Below.alloc ?_ (by first | omega | (simp; omega) | (simp; done)) _)))⟩
  have HPL := Lib.hid hpl
  clear hpl
  by_cases h0 : boardErr b = 0
  · have HBE := Lib.hid h0
    have HOK := Lib.hid (boardErr_ok h0)
    obtain ⟨L, hL⟩ : ∃ L, L = refClear b := ⟨_, rfl⟩
    have HC1 := Lib.hid (fun w hv => clearP_any b ba bc w hv Lb Wb)
    rw [show clearL b = L by rw [hL]; simp [clearL, h0], h0] at HC1
    have HC2 := Lib.hid (fun w hv => clearR_any b ba bc w hv HOK.out.few)
    rw [← hL] at HC2
    have HEACH := Lib.hid (show ∀ a ∈ L, soundE b ⟨a.1, 0, a.2, b.width⟩ = 0 ∧ soundV b ⟨a.1, 0, a.2, b.width⟩ = true from fun a ha => clear_each (boardOk_in HOK.out) h0 (hL ▸ ha))
    have HAT := Lib.hid (fun q1 q2 => clear_at (boardOk_in HOK.out) h0 (at_ := p) q1 q2)
    rw [← hL] at HAT
    clear h0 hL
    have hbl := HOK.out.length
    have hbw := HOK.out.width
    go_enter Try.func15, Try.ntmps15
    go_upto_region 1 with fail
    refine gen_world (fun W => (W.cell? ⟨w.heap.size, 0, none⟩ = some (.string b.name) ∧ W.cell? ⟨w.heap.size, 1, none⟩ = some (.string b.species) ∧ W.cell? ⟨w.heap.size, 2, none⟩ = some (.int .i64 b.length) ∧ W.cell? ⟨w.heap.size, 3, none⟩ = some (.int .i64 b.width) ∧ W.cell? ⟨w.heap.size, 4, none⟩ = some (.int .i64 b.thick) ∧ W.cell? ⟨w.heap.size, 5, none⟩ = some (.int .i64 b.cut) ∧ W.cell? ⟨w.heap.size, 6, none⟩ = some (.int .i64 b.moisture) ∧ W.cell? ⟨w.heap.size, 7, none⟩ = some (.slice ba b.defects.length bc)) ∧ Below w.heap.size w W) ?_ ?_
    · exact ⟨⟨by simp [go_sem], by simp [go_sem], by simp [go_sem], by simp [go_sem], by simp [go_sem], by simp [go_sem], by simp [go_sem], by simp [go_sem]⟩, (Below.refl _ _).alloc (Nat.le_refl _) _⟩
    rintro W ⟨⟨e0, e1, e2, e3, e4, e5, e6, e7⟩, hbW⟩
    go_wp2_with (first
      | (go_at_call 18; refine (awake_any _).mono ?_; rintro e w1 ⟨rfl, hb1⟩; have f0 := cell_keep hb1 e0; have f1 := cell_keep hb1 e1; have f2 := cell_keep hb1 e2; have f3 := cell_keep hb1 e3; have f4 := cell_keep hb1 e4; have f5 := cell_keep hb1 e5; have f6 := cell_keep hb1 e6; have f7 := cell_keep hb1 e7; have hc1 := hbW.trans (hb1.mono hbW.size); have hz1 := block_lt_of_cell f0; simp only at hz1)
      | (go_at_call 20; refine (plain_any b _ _ _ Lb Wb).mono ?_; rw [HPL.out]; rintro e w2 ⟨rfl, hb2⟩; obtain ⟨hk2, hf2⟩ := bcell hb2; have hc2 := hc1.trans (hb2.mono hc1.size); have hz2 : w.heap.size < w2.heap.size := (by have := hb2.size; omega))
      | (go_at_call 63; refine (HC1.out _ (Vb.keep hc2)).mono ?_; rintro e w3 ⟨a1, c1, rfl, hV1, hlc1, hcm1, hb3⟩; obtain ⟨hk3, hf3⟩ := bcell hb3; have hc3 := hc2.trans (hb3.mono hc2.size); have hz3 : w.heap.size < w3.heap.size := (by have := hb3.size; omega))
      | (go_at_call 34; refine (refBoardErr_any b _ _ _ (Vb.keep hc3) Lb Wb).mono ?_; rw [HBE.out]; rintro e w4 ⟨rfl, hb4⟩; obtain ⟨hk4, hf4⟩ := bcell hb4; have hc4 := hc3.trans (hb4.mono hc3.size); have hz4 : w.heap.size < w4.heap.size := (by have := hb4.size; omega); have hV1' := hV1.keep hb4)
      | (go_at_call 64; refine (HC2.out _ (Vb.keep hc4)).mono ?_; rintro e w5 ⟨a2, c2, rfl, hV2, hlc2, hcm2, hb5⟩; have hc5 := hc4.trans (hb5.mono hc4.size); have hz5 : w.heap.size < w5.heap.size := (by have := hb5.size; omega); have hV1'' := hV1'.keep hb5; obtain ⟨hk5, hf5⟩ := bcell hb5))
    refine gen_world (fun W => (W.cell? ⟨w.heap.size, 0, none⟩ = some (.string b.name) ∧ W.cell? ⟨w.heap.size, 1, none⟩ = some (.string b.species) ∧ W.cell? ⟨w.heap.size, 2, none⟩ = some (.int .i64 b.length) ∧ W.cell? ⟨w.heap.size, 3, none⟩ = some (.int .i64 b.width) ∧ W.cell? ⟨w.heap.size, 4, none⟩ = some (.int .i64 b.thick) ∧ W.cell? ⟨w.heap.size, 5, none⟩ = some (.int .i64 b.cut) ∧ W.cell? ⟨w.heap.size, 6, none⟩ = some (.int .i64 b.moisture) ∧ W.cell? ⟨w.heap.size, 7, none⟩ = some (.slice ba b.defects.length bc)) ∧ Ivs.V W a1 L ∧ Ivs.V W a2 L ∧ Below w.heap.size w W) ?_ ?_
    · exact ⟨⟨by simp [go_sem, *], by simp [go_sem, *], by simp [go_sem, *], by simp [go_sem, *], by simp [go_sem, *], by simp [go_sem, *], by simp [go_sem, *], by simp [go_sem, *]⟩, hV1'', hV2, by (repeat (first | assumption | (refine Below.setCell ?_ (by first | omega | (simp; omega) | (simp; done)) _) | (refine Below.alloc ?_ (by first | omega | (simp; omega) | (simp; done)) _)))⟩
    clear e0 e1 e2 e3 e4 e5 e6 e7 f0 f1 f2 f3 f4 f5 f6 f7 hb1 hb2 hb3 hb4 hb5 hc1 hc2 hc3 hc4 hc5 hk2 hf2 hk3 hf3 hk4 hf4 hk5 hf5 hbW hz1 hz2 hz3 hz4 hz5 hV1 hV1' hV1'' hV2
    rintro W6 ⟨⟨e0, e1, e2, e3, e4, e5, e6, e7⟩, hV1, hV2, hbW⟩
    have hzW := block_lt_of_cell e0
    simp only at hzW
    go_loopw [9, 10] (fun v i wr => ∃ k : Nat, k ≤ L.length ∧ i = .int .i64 k ∧ v = .bool (inB (L.take k) p) ∧ Below W6.heap.size W6 wr) (fun _ i _ => L.length - (intOf i).toNat)
    case atStart => exact ⟨0, Nat.zero_le _, rfl, by simp [inB], Below.refl _ _⟩
    case round =>
      obtain ⟨k, hk, rfl, rfl, hbr⟩ := hrel
      have g0 := cell_keep hbr e0
      have g1 := cell_keep hbr e1
      have g2 := cell_keep hbr e2
      have g3 := cell_keep hbr e3
      have g4 := cell_keep hbr e4
      have g5 := cell_keep hbr e5
      have g6 := cell_keep hbr e6
      have g7 := cell_keep hbr e7
      have hvr0 := (Vb.keep hbW).keep hbr
      have hzr : w.heap.size < wr.heap.size := by have := hbr.size; omega
      by_cases hlt : k < L.length
      · obtain ⟨b1, o1, rfl, k0, k1⟩ := (hV1.keep hbr).at_ hlt
        obtain ⟨b2, o2, rfl, q0, q1⟩ := (hV2.keep hbr).at_ hlt
        have hb1z := block_lt_of_cell k0
        have hb2z := block_lt_of_cell q0
        simp only at hb1z hb2z
        have HSD := Lib.hid (HEACH.out _ (List.getElem_mem hlt))
        have HIN := Lib.hid (inB_step (p := p) hlt)
        generalize L[k] = z at *
        obtain ⟨x, x'⟩ := z
        have hki : (k : Int) < (L.length : Int) := by omega
        cases hin : inB (L.take k) p
        · rw [hin] at HIN
          by_cases hp1 : x ≤ p
          · by_cases hp2 : p < x'
            · have HIN := Lib.hid (show inB (L.take (k + 1)) p = true by rw [HIN.out]; simp [hp1, hp2])
              go_wp2_with fail
              go_quiet (fail)
              rename_i nq
              have r0 : (wr.drewN nq).cell? ⟨w.heap.size, 0, none⟩ = some (.string b.name) := g0
              have r1 : (wr.drewN nq).cell? ⟨w.heap.size, 1, none⟩ = some (.string b.species) := g1
              have r2 : (wr.drewN nq).cell? ⟨w.heap.size, 2, none⟩ = some (.int .i64 b.length) := g2
              have r3 : (wr.drewN nq).cell? ⟨w.heap.size, 3, none⟩ = some (.int .i64 b.width) := g3
              have r4 : (wr.drewN nq).cell? ⟨w.heap.size, 4, none⟩ = some (.int .i64 b.thick) := g4
              have r5 : (wr.drewN nq).cell? ⟨w.heap.size, 5, none⟩ = some (.int .i64 b.cut) := g5
              have r6 : (wr.drewN nq).cell? ⟨w.heap.size, 6, none⟩ = some (.int .i64 b.moisture) := g6
              have r7 : (wr.drewN nq).cell? ⟨w.heap.size, 7, none⟩ = some (.slice ba b.defects.length bc) := g7
              have s0 : (wr.drewN nq).cell? ⟨b1, o1 + k * 2, none⟩ = some (.int .i64 x) := k0
              have s1 : (wr.drewN nq).cell? ⟨b1, o1 + k * 2 + 1, none⟩ = some (.int .i64 x') := k1
              have sz : b1 < (wr.drewN nq).heap.size := hb1z
              have tz : w.heap.size < (wr.drewN nq).heap.size := hzr
              have hvr : Rects.V (wr.drewN nq) ba b.defects := hvr0
              have hbrq := below_drewN hbr nq
              clear g0 g1 g2 g3 g4 g5 g6 g7 k0 k1 q0 q1 hb1z hb2z hvr0 hzr hbr
              generalize wr.drewN nq = W6 at *
              go_wp2_with fail
              refine wp_region_grew (by kernel_rfl) (by kernel_rfl) ?_
              repeat (first
                | go_big_quiet_step (((go_at_call 39; exact grew_of (soundP_is b ⟨x, 0, x', b.width⟩ _ _ _ (hvr.keep (grewB (Below.refl _ _) (Nat.le_refl _) _)) Lb Wb HSD.out.1 HSD.out.2))))
                | quiet_step (((go_at_call 39; exact grew_of (soundP_is b ⟨x, 0, x', b.width⟩ _ _ _ (hvr.keep (grewB (Below.refl _ _) (Nat.le_refl _) _)) Lb Wb HSD.out.1 HSD.out.2)))))
              refine wpQuiet_nil ?_
              rintro _ ⟨g, rfl⟩
              go_wp2_with fail
              go_roundw
              case rel => exact ⟨k + 1, by omega, by go_num, by first | (rw [HIN.out]; done) | (rw [HIN.out]; first | rfl | (simp; done) | (simp; omega)), grewB hbrq (by have := hbrq.size; omega) g⟩
              case measure => simp [intOf]; omega
            · have HIN := Lib.hid (show inB (L.take (k + 1)) p = false by rw [HIN.out]; simp [hp2])
              go_wp2_with fail
              go_quiet (fail)
              rename_i nq
              have r0 : (wr.drewN nq).cell? ⟨w.heap.size, 0, none⟩ = some (.string b.name) := g0
              have r1 : (wr.drewN nq).cell? ⟨w.heap.size, 1, none⟩ = some (.string b.species) := g1
              have r2 : (wr.drewN nq).cell? ⟨w.heap.size, 2, none⟩ = some (.int .i64 b.length) := g2
              have r3 : (wr.drewN nq).cell? ⟨w.heap.size, 3, none⟩ = some (.int .i64 b.width) := g3
              have r4 : (wr.drewN nq).cell? ⟨w.heap.size, 4, none⟩ = some (.int .i64 b.thick) := g4
              have r5 : (wr.drewN nq).cell? ⟨w.heap.size, 5, none⟩ = some (.int .i64 b.cut) := g5
              have r6 : (wr.drewN nq).cell? ⟨w.heap.size, 6, none⟩ = some (.int .i64 b.moisture) := g6
              have r7 : (wr.drewN nq).cell? ⟨w.heap.size, 7, none⟩ = some (.slice ba b.defects.length bc) := g7
              have s0 : (wr.drewN nq).cell? ⟨b1, o1 + k * 2, none⟩ = some (.int .i64 x) := k0
              have s1 : (wr.drewN nq).cell? ⟨b1, o1 + k * 2 + 1, none⟩ = some (.int .i64 x') := k1
              have sz : b1 < (wr.drewN nq).heap.size := hb1z
              have tz : w.heap.size < (wr.drewN nq).heap.size := hzr
              have hvr : Rects.V (wr.drewN nq) ba b.defects := hvr0
              have hbrq := below_drewN hbr nq
              clear g0 g1 g2 g3 g4 g5 g6 g7 k0 k1 q0 q1 hb1z hb2z hvr0 hzr hbr
              generalize wr.drewN nq = W6 at *
              go_wp2_with fail
              refine wp_region_grew (by kernel_rfl) (by kernel_rfl) ?_
              repeat (first
                | go_big_quiet_step (((go_at_call 39; exact grew_of (soundP_is b ⟨x, 0, x', b.width⟩ _ _ _ (hvr.keep (grewB (Below.refl _ _) (Nat.le_refl _) _)) Lb Wb HSD.out.1 HSD.out.2))))
                | quiet_step (((go_at_call 39; exact grew_of (soundP_is b ⟨x, 0, x', b.width⟩ _ _ _ (hvr.keep (grewB (Below.refl _ _) (Nat.le_refl _) _)) Lb Wb HSD.out.1 HSD.out.2)))))
              refine wpQuiet_nil ?_
              rintro _ ⟨g, rfl⟩
              go_wp2_with fail
              go_roundw
              case rel => exact ⟨k + 1, by omega, by go_num, by first | (rw [HIN.out]; done) | (rw [HIN.out]; first | rfl | (simp; done) | (simp; omega)), grewB hbrq (by have := hbrq.size; omega) g⟩
              case measure => simp [intOf]; omega
          · have HIN := Lib.hid (show inB (L.take (k + 1)) p = false by rw [HIN.out]; simp [hp1])
            go_wp2_with fail
            go_quiet (fail)
            rename_i nq
            have r0 : (wr.drewN nq).cell? ⟨w.heap.size, 0, none⟩ = some (.string b.name) := g0
            have r1 : (wr.drewN nq).cell? ⟨w.heap.size, 1, none⟩ = some (.string b.species) := g1
            have r2 : (wr.drewN nq).cell? ⟨w.heap.size, 2, none⟩ = some (.int .i64 b.length) := g2
            have r3 : (wr.drewN nq).cell? ⟨w.heap.size, 3, none⟩ = some (.int .i64 b.width) := g3
            have r4 : (wr.drewN nq).cell? ⟨w.heap.size, 4, none⟩ = some (.int .i64 b.thick) := g4
            have r5 : (wr.drewN nq).cell? ⟨w.heap.size, 5, none⟩ = some (.int .i64 b.cut) := g5
            have r6 : (wr.drewN nq).cell? ⟨w.heap.size, 6, none⟩ = some (.int .i64 b.moisture) := g6
            have r7 : (wr.drewN nq).cell? ⟨w.heap.size, 7, none⟩ = some (.slice ba b.defects.length bc) := g7
            have s0 : (wr.drewN nq).cell? ⟨b1, o1 + k * 2, none⟩ = some (.int .i64 x) := k0
            have s1 : (wr.drewN nq).cell? ⟨b1, o1 + k * 2 + 1, none⟩ = some (.int .i64 x') := k1
            have sz : b1 < (wr.drewN nq).heap.size := hb1z
            have tz : w.heap.size < (wr.drewN nq).heap.size := hzr
            have hvr : Rects.V (wr.drewN nq) ba b.defects := hvr0
            have hbrq := below_drewN hbr nq
            clear g0 g1 g2 g3 g4 g5 g6 g7 k0 k1 q0 q1 hb1z hb2z hvr0 hzr hbr
            generalize wr.drewN nq = W6 at *
            go_wp2_with fail
            refine wp_region_grew (by kernel_rfl) (by kernel_rfl) ?_
            repeat (first
              | go_big_quiet_step (((go_at_call 39; exact grew_of (soundP_is b ⟨x, 0, x', b.width⟩ _ _ _ (hvr.keep (grewB (Below.refl _ _) (Nat.le_refl _) _)) Lb Wb HSD.out.1 HSD.out.2))))
              | quiet_step (((go_at_call 39; exact grew_of (soundP_is b ⟨x, 0, x', b.width⟩ _ _ _ (hvr.keep (grewB (Below.refl _ _) (Nat.le_refl _) _)) Lb Wb HSD.out.1 HSD.out.2)))))
            refine wpQuiet_nil ?_
            rintro _ ⟨g, rfl⟩
            go_wp2_with fail
            go_roundw
            case rel => exact ⟨k + 1, by omega, by go_num, by first | (rw [HIN.out]; done) | (rw [HIN.out]; first | rfl | (simp; done) | (simp; omega)), grewB hbrq (by have := hbrq.size; omega) g⟩
            case measure => simp [intOf]; omega
        · have HIN := Lib.hid (show inB (L.take (k + 1)) p = true by rw [HIN.out, hin]; simp)
          go_wp2_with fail
          go_quiet (fail)
          rename_i nq
          have r0 : (wr.drewN nq).cell? ⟨w.heap.size, 0, none⟩ = some (.string b.name) := g0
          have r1 : (wr.drewN nq).cell? ⟨w.heap.size, 1, none⟩ = some (.string b.species) := g1
          have r2 : (wr.drewN nq).cell? ⟨w.heap.size, 2, none⟩ = some (.int .i64 b.length) := g2
          have r3 : (wr.drewN nq).cell? ⟨w.heap.size, 3, none⟩ = some (.int .i64 b.width) := g3
          have r4 : (wr.drewN nq).cell? ⟨w.heap.size, 4, none⟩ = some (.int .i64 b.thick) := g4
          have r5 : (wr.drewN nq).cell? ⟨w.heap.size, 5, none⟩ = some (.int .i64 b.cut) := g5
          have r6 : (wr.drewN nq).cell? ⟨w.heap.size, 6, none⟩ = some (.int .i64 b.moisture) := g6
          have r7 : (wr.drewN nq).cell? ⟨w.heap.size, 7, none⟩ = some (.slice ba b.defects.length bc) := g7
          have s0 : (wr.drewN nq).cell? ⟨b1, o1 + k * 2, none⟩ = some (.int .i64 x) := k0
          have s1 : (wr.drewN nq).cell? ⟨b1, o1 + k * 2 + 1, none⟩ = some (.int .i64 x') := k1
          have sz : b1 < (wr.drewN nq).heap.size := hb1z
          have tz : w.heap.size < (wr.drewN nq).heap.size := hzr
          have hvr : Rects.V (wr.drewN nq) ba b.defects := hvr0
          have hbrq := below_drewN hbr nq
          clear g0 g1 g2 g3 g4 g5 g6 g7 k0 k1 q0 q1 hb1z hb2z hvr0 hzr hbr
          generalize wr.drewN nq = W6 at *
          go_wp2_with fail
          refine wp_region_grew (by kernel_rfl) (by kernel_rfl) ?_
          repeat (first
            | go_big_quiet_step (((go_at_call 39; exact grew_of (soundP_is b ⟨x, 0, x', b.width⟩ _ _ _ (hvr.keep (grewB (Below.refl _ _) (Nat.le_refl _) _)) Lb Wb HSD.out.1 HSD.out.2))))
            | quiet_step (((go_at_call 39; exact grew_of (soundP_is b ⟨x, 0, x', b.width⟩ _ _ _ (hvr.keep (grewB (Below.refl _ _) (Nat.le_refl _) _)) Lb Wb HSD.out.1 HSD.out.2)))))
          refine wpQuiet_nil ?_
          rintro _ ⟨g, rfl⟩
          go_wp2_with fail
          go_roundw
          case rel => exact ⟨k + 1, by omega, by go_num, by first | (rw [HIN.out]; done) | (rw [HIN.out]; first | rfl | (simp; done) | (simp; omega)), grewB hbrq (by have := hbrq.size; omega) g⟩
          case measure => simp [intOf]; omega
      · obtain rfl : k = L.length := by omega
        have hkn : ¬ (L.length : Int) < (L.length : Int) := by omega
        rw [List.take_length]
        cases hwi : withinB p 0 (b.length - 1)
        · have HWI := Lib.hid hwi
          clear hwi
          go_wp2_with (go_at_call 28; refine (baseWithin_any _ _ _ _).mono ?_; rw [HWI.out]; rintro e w' ⟨rfl, rfl⟩)
          go_ret
          exact ⟨ret_bool (by go_tidy; first | rfl | (simp; done)), hbW.trans (hbr.mono (by omega))⟩
        · have hpb := withinB_true hwi
          have HSD := Lib.hid (HAT.out hpb.1 hpb.2)
          have HWI := Lib.hid hwi
          clear hwi
          go_wp2_with (first
            | (go_at_call 28; refine (baseWithin_any _ _ _ _).mono ?_; rw [HWI.out]; rintro e w' ⟨rfl, rfl⟩)
            | (go_at_call 39; refine (soundP_is b ⟨p, 0, p + 1, b.width⟩ _ _ _ hvr0 Lb Wb HSD.out.1 HSD.out.2).mono ?_; rintro e w7 ⟨rfl, hb7⟩))
          go_ret
          exact ⟨ret_bool (by go_tidy; first | rfl | (simp; done)), (hbW.trans (hbr.mono (by omega))).trans (hb7.mono (by omega))⟩
  · have HBE := Lib.hid (rfl : boardErr b = boardErr b)
    have h0' : (boardErr b != 0) = true := by simp [h0]
    obtain ⟨L, hL⟩ : ∃ L : List Iv, L = [] := ⟨_, rfl⟩
    have HC1 := Lib.hid (fun w hv => clearP_any b ba bc w hv Lb Wb)
    rw [show clearL b = [] by simp [clearL, h0]] at HC1
    have hL0 : ([] : List Iv).length = 0 := rfl
    rw [hL0] at HC1
    clear h0 hL hL0
    go_enter Try.func15, Try.ntmps15
    go_upto_region 1 with fail
    refine gen_world (fun W => (W.cell? ⟨w.heap.size, 0, none⟩ = some (.string b.name) ∧ W.cell? ⟨w.heap.size, 1, none⟩ = some (.string b.species) ∧ W.cell? ⟨w.heap.size, 2, none⟩ = some (.int .i64 b.length) ∧ W.cell? ⟨w.heap.size, 3, none⟩ = some (.int .i64 b.width) ∧ W.cell? ⟨w.heap.size, 4, none⟩ = some (.int .i64 b.thick) ∧ W.cell? ⟨w.heap.size, 5, none⟩ = some (.int .i64 b.cut) ∧ W.cell? ⟨w.heap.size, 6, none⟩ = some (.int .i64 b.moisture) ∧ W.cell? ⟨w.heap.size, 7, none⟩ = some (.slice ba b.defects.length bc)) ∧ Below w.heap.size w W) ?_ ?_
    · exact ⟨⟨by simp [go_sem], by simp [go_sem], by simp [go_sem], by simp [go_sem], by simp [go_sem], by simp [go_sem], by simp [go_sem], by simp [go_sem]⟩, (Below.refl _ _).alloc (Nat.le_refl _) _⟩
    rintro W ⟨⟨e0, e1, e2, e3, e4, e5, e6, e7⟩, hbW⟩
    go_wp2_with (first
      | (go_at_call 18; refine (awake_any _).mono ?_; rintro e w1 ⟨rfl, hb1⟩; have f0 := cell_keep hb1 e0; have f1 := cell_keep hb1 e1; have f2 := cell_keep hb1 e2; have f3 := cell_keep hb1 e3; have f4 := cell_keep hb1 e4; have f5 := cell_keep hb1 e5; have f6 := cell_keep hb1 e6; have f7 := cell_keep hb1 e7; have hc1 := hbW.trans (hb1.mono hbW.size); have hz1 := block_lt_of_cell f0; simp only at hz1)
      | (go_at_call 20; refine (plain_any b _ _ _ Lb Wb).mono ?_; rw [HPL.out]; rintro e w2 ⟨rfl, hb2⟩; obtain ⟨hk2, hf2⟩ := bcell hb2; have hc2 := hc1.trans (hb2.mono hc1.size); have hz2 : w.heap.size < w2.heap.size := (by have := hb2.size; omega))
      | (go_at_call 63; refine (HC1.out _ (Vb.keep hc2)).mono ?_; rintro e w3 ⟨a1, c1, rfl, hV1, hlc1, hcm1, hb3⟩; obtain ⟨hk3, hf3⟩ := bcell hb3; have hc3 := hc2.trans (hb3.mono hc2.size); have hz3 : w.heap.size < w3.heap.size := (by have := hb3.size; omega))
      | (go_at_call 34; refine (refBoardErr_any b _ _ _ (Vb.keep hc3) Lb Wb).mono ?_; rintro e w4 ⟨rfl, hb4⟩; have hc4 := hc3.trans (hb4.mono hc3.size)))
    go_ret
    exact ⟨ret_bool (by go_tidy; first | rfl | (simp; done)), hc4⟩
set_option maxRecDepth 100000 in
theorem timberClear_walks : Walks 15 Try.f15 := by
  intro H enc W base args ds p hval hA hlt
  rw [Try.params15] at hA hval
  obtain ⟨v0, vs0, d0, ds0, p0, q0, hargs, rfl, rfl, ⟨fu0, hf0⟩, r0⟩ := trodAll_cons hA
  obtain ⟨v1, vs1, d1, ds1, p1, q1, rfl, rfl, rfl, ⟨fu1, hf1⟩, r1⟩ := trodAll_cons r0
  obtain ⟨rfl, rfl, rfl⟩ := trodAll_nil r1
  obtain rfl : args = #[v0, v1] := by cases args; simp_all
  obtain ⟨cs0, rfl, -⟩ := okWide_struct Try.underlying25 (hval 0 25 v0 rfl rfl)
  obtain ⟨b, hb0⟩ := Board.open_ hf0
  obtain ⟨a0, c0, hc0, V0, C0, M0, W0⟩ := hb0
  have hd0 : cs0 = #[.string b.name, .string b.species, .int .i64 b.length, .int .i64 b.width, .int .i64 b.thick, .int .i64 b.cut, .int .i64 b.moisture, .slice a0 b.defects.length c0] := by
    cases cs0; simpa [Value.cells] using hc0
  subst hd0
  obtain ⟨p, rfl⟩ := okWide_int Try.underlying3 (hval 1 3 v1 rfl rfl)
  obtain ⟨s1, g1, -, q1⟩ := DataW.trod_int Try.underlying3 hf1
  obtain rfl : s1 = p := by simpa [Value.cells] using g1.symm
  exact walkTimberClear b a0 c0 s1 W V0 (by unfold maxLen at M0; omega) W0 (int_wf q1)

set_option maxRecDepth 100000 in
theorem timberClear_holds : Rows.TimberClearSaid :=
  law_holds (s := Rows.timberClearSpec) (c := Rows.timberClearRow) 15 Try.f15 rfl
    (fun H ds h => by match ds, h with | [_, _], _ => rfl) (by kernel_rfl) (by kernel_rfl)
    rfl rfl rfl rfl rfl rfl rfl ⟨rfl, rfl, rfl, rfl, rfl⟩ rfl rfl rfl rfl rfl rfl rfl rfl rfl rfl (fun _ _ => rfl) (by kernel_rfl) Try.func15
    timberClear_closed (of_decide_eq_true (by kernel_rfl)) (by unfold Func.isWrapper; first | (rw [if_pos (by decide +kernel)]; kernel_rfl) | (rw [if_neg (by decide +kernel)]; exact ⟨rfl, rfl⟩)) (by kernel_rfl)
    (fun H enc os => ChangeSpec.witness6 (enc := enc) (C := Try.checked) false ⟨#[], #[.agg #[.string ⟨#[]⟩, .string ⟨#[]⟩, .int .i64 0, .int .i64 0, .int .i64 0, .int .i64 0, .int .i64 0, .slice none 0 0], .int .i64 0], []⟩ 8 (by kernel_rfl) (by kernel_rfl) (by kernel_rfl) (by kernel_rfl))
    timberClear_walks
end Go.Proofs.Ythhchnhidhgccaa
