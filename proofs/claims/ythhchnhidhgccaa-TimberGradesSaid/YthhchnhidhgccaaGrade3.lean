/- Grades: the reference's GradeOf. -/
import Derived.Test.YthhchnhidhgccaaGrade2
set_option linter.unusedVariables false
set_option linter.unusedSimpArgs false
namespace Go.Proofs.Ythhchnhidhgccaa
open Go Go.RowKit

def lonG (L : List Iv) : Int := L.foldl (fun m a => max m (a.2 - a.1)) 0
theorem lonG_step {L : List Iv} {k : Nat} (hk : k < L.length) : lonG (L.take (k + 1)) = max (lonG (L.take k)) (L[k].2 - L[k].1) := by
  unfold lonG
  rw [List.take_succ_eq_append_getElem hk, List.foldl_append]; rfl
def gradeP (b : Board) : Grade → Bool := gradeHit b.defects.length (refArea b) b.length b.width (lonG (refClear b))
theorem refArea_bd {b : Board} (h : BoardOk b) (hw : b.defects.length ≤ 60) : 0 ≤ refArea b ∧ refArea b ≤ 100000000000000 := by
  have hb := boardOk_defs h
  have h1 := h.length
  have h2 := h.width
  have hX : (lineXs b).length ≤ 122 := by
    have := lineK_len false b b.defects.length (Nat.le_refl _)
    rw [lineK_all] at this
    simp at this; omega
  have HXB : ∀ x ∈ lineXs b, 0 ≤ x ∧ x ≤ 600000 := by
    intro v hv
    rcases lineXs_mem.1 hv with rfl | rfl | ⟨d, hd, hh⟩
    · omega
    · omega
    · have := hb.ins d hd; omega
  have HXA : (lineXs b).Pairwise (· < ·) := uniq_asc _
  unfold refArea
  generalize lineXs b = X at *
  have key : ∀ X : List Int, (∀ x ∈ X, 0 ≤ x ∧ x ≤ 600000) → X.Pairwise (· < ·) → 0 ≤ chain (stripA b.defects b.width) X ∧ chain (stripA b.defects b.width) X ≤ 60000000000 * (X.length : Int) := by
    intro X
    induction X with
    | nil => intro _ _; simp [chain]
    | cons x X ih =>
      intro hB hA
      cases X with
      | nil => simp [chain]
      | cons x' X =>
        obtain ⟨i1, i2⟩ := ih (fun z hz => hB z (by simp [hz])) (List.pairwise_cons.1 hA).2
        have hx := (List.pairwise_cons.1 hA).1 x' (by simp)
        have b1 := hB x (by simp)
        have b2 := hB x' (by simp)
        have := stripA_bd (ds := b.defects) (wd := b.width) b1.1 hx b2.2 (by omega) h2.2
        rw [chain]
        simp only [List.length_cons] at i2 ⊢
        omega
  have := key X HXB HXA
  omega

set_option maxRecDepth 100000 in
set_option maxHeartbeats 8000000 in
theorem gradeR_any (b : Board) (a : Option Addr) (c : Nat) (ga : Option Addr) (l : List Grade) (gc : Nat) (w : World) (hv : Rects.V w a b.defects) (hb : BoardOk b) (hg : Grades.V w ga l) (hl : l.length ≤ 9223372036854775807)
    (hgl : ∀ g ∈ l, (0 ≤ g.share ∧ g.share ≤ 1000)) :
    Calls Try.prog 71 #[.agg #[.string b.name, .string b.species, .int .i64 b.length, .int .i64 b.width, .int .i64 b.thick, .int .i64 b.cut, .int .i64 b.moisture, .slice a b.defects.length c], .slice ga l.length gc] w fun e w' => e = .returned (.int .i64 (idxOf (gradeP b) l)) ∧ Below w.heap.size w w' := by
  have HCL := Lib.hid (fun w hv => clearR_any b a c w hv hb.few)
  have HDF := Lib.hid (fun w hv => defectiveR_any b a c w hv hb.few (boardOk_defs hb) hb.length.2 hb.width.2)
  have hTb := refArea_bd hb hb.few
  have HCB := Lib.hid (fun z (hz : z ∈ refClear b) => clear_bd (boardOk_defs hb) hz)
  have hbl := hb.length
  have hbw := hb.width
  have HGL := Lib.hid hgl
  have HP := Lib.hid (show gradeP b = gradeHit b.defects.length (refArea b) b.length b.width (lonG (refClear b)) from rfl)
  clear hb hgl
  generalize refClear b = L at *
  generalize refArea b = T at *
  go_enter Try.func71, Try.ntmps71
  go_upto_region 1 with fail
  refine gen_world (fun W => (W.cell? ⟨w.heap.size, 0, none⟩ = some (.string b.name) ∧ W.cell? ⟨w.heap.size, 1, none⟩ = some (.string b.species) ∧ W.cell? ⟨w.heap.size, 2, none⟩ = some (.int .i64 b.length) ∧ W.cell? ⟨w.heap.size, 3, none⟩ = some (.int .i64 b.width) ∧ W.cell? ⟨w.heap.size, 4, none⟩ = some (.int .i64 b.thick) ∧ W.cell? ⟨w.heap.size, 5, none⟩ = some (.int .i64 b.cut) ∧ W.cell? ⟨w.heap.size, 6, none⟩ = some (.int .i64 b.moisture) ∧ W.cell? ⟨w.heap.size, 7, none⟩ = some (.slice a b.defects.length c)) ∧ w.heap.size < W.heap.size ∧ Below w.heap.size w W) ?_ ?_
  · exact ⟨⟨by simp [go_sem], by simp [go_sem], by simp [go_sem], by simp [go_sem], by simp [go_sem], by simp [go_sem], by simp [go_sem], by simp [go_sem]⟩, by simp, (Below.refl _ _).alloc (Nat.le_refl _) _⟩
  rintro W ⟨⟨e0, e1, e2, e3, e4, e5, e6, e7⟩, hzW, hbW⟩
  go_wp2_with (go_at_call 64; refine (HCL.out _ (hv.keep hbW)).mono ?_; rintro e w1 ⟨aL, cL, rfl, hVL, hlL, hcL, hb1⟩; have f0 := cell_keep hb1 e0; have f1 := cell_keep hb1 e1; have f2 := cell_keep hb1 e2; have f3 := cell_keep hb1 e3; have f4 := cell_keep hb1 e4; have f5 := cell_keep hb1 e5; have f6 := cell_keep hb1 e6; have f7 := cell_keep hb1 e7; clear e0 e1 e2 e3 e4 e5 e6 e7)
  have hc1 : Below w.heap.size w w1 := hbW.trans (hb1.mono hbW.size)
  have hz1 : w.heap.size < w1.heap.size := by have := hb1.size; omega
  have hg1 := hg.keep hc1
  have hv1 := hv.keep hc1
  clear hb1 hbW hzW
  go_loopw [5, 7] (fun s i wr => ∃ k : Nat, k ≤ L.length ∧ i = .int .i64 k ∧ s = .int .i64 (lonG (L.take k)) ∧ (0 ≤ lonG (L.take k) ∧ lonG (L.take k) ≤ 600000) ∧ Below w1.heap.size w1 wr) (fun _ i _ => L.length - (intOf i).toNat)
  case atStart => exact ⟨0, Nat.zero_le _, rfl, rfl, by simp [lonG], Below.refl _ _⟩
  case round =>
    obtain ⟨k, hk, rfl, rfl, hlb, hbr⟩ := hrel
    have hszr := hbr.size
    by_cases hlt : k < L.length
    · obtain ⟨bL, oL, rfl, k0, k1⟩ := (hVL.keep hbr).at_ hlt
      have hzb := HCB.out _ (List.getElem_mem hlt)
      have HS := Lib.hid (lonG_step hlt)
      have hki : (k : Int) < (L.length : Int) := by omega
      generalize L[k] = z at *
      obtain ⟨lo, hi⟩ := z
      simp only at hzb k0 k1
      generalize lonG (L.take k) = S at *
      have v1 : IntKind.i64.wrap (hi - lo) = hi - lo := IntWalk.i64_in _ (by omega)
      go_wp2_with fail
      go_quiet (fail)
      rename_i nq
      clear v1 k0 k1
      go_wp2_with fail
      go_roundw
      case rel => exact ⟨k + 1, by omega, by go_num, by rw [HS.out], by rw [HS.out]; first | omega | (simp only; omega), below_drewN hbr nq⟩
      case measure => simp [intOf]; omega
    · obtain rfl : k = L.length := by omega
      have hkn : ¬ (L.length : Int) < (L.length : Int) := by omega
      rw [List.take_length] at hlb
      rw [List.take_length]
      generalize lonG L = S at *
      have hz2 : w.heap.size < wr.heap.size := by omega
      have hc2 : Below w.heap.size w wr := hc1.trans (hbr.mono (by omega))
      have g0 := cell_keep hbr f0
      have g1 := cell_keep hbr f1
      have g2 := cell_keep hbr f2
      have g3 := cell_keep hbr f3
      have g4 := cell_keep hbr f4
      have g5 := cell_keep hbr f5
      have g6 := cell_keep hbr f6
      have g7 := cell_keep hbr f7
      have hg2 := hg1.keep hbr
      have hv2 := hv1.keep hbr
      clear f0 f1 f2 f3 f4 f5 f6 f7 hVL hg1 hv1 hc1 hbr hszr
      generalize wr = W5 at *
      go_wp2_with fail
      go_loopw [8] (fun i wr => ∃ k : Nat, k ≤ l.length ∧ i = .int .i64 k ∧ Hid (∀ j (hj : j < l.length), j < k → gradeP b l[j] = false) ∧ Below W5.heap.size W5 wr) (fun i _ => l.length - (intOf i).toNat)
      case atStart => exact ⟨0, Nat.zero_le _, rfl, Lib.hid (fun j _ h => by omega), Below.refl _ _⟩
      case round =>
        obtain ⟨k, hk, rfl, HK, hbr⟩ := hrel
        have hszr := hbr.size
        by_cases hlt : k < l.length
        · obtain ⟨bG, oG, rfl, hat⟩ := (hg2.keep hbr).at_ hlt
          obtain ⟨c0, c1, c2, c3, -⟩ := hat
          have HST := Lib.hid (fun (h : gradeP b l[k] = false) => none_step (p := gradeP b) HK.out hlt h)
          have HHT := Lib.hid (fun (h : gradeP b l[k] = true) => idxOf_hit (p := gradeP b) hlt HK.out h)
          have hgk := HGL.out _ (List.getElem_mem hlt)
          have hki : (k : Int) < (l.length : Int) := by omega
          generalize l[k] = g at *
          rw [HP.out] at HST HHT
          have HPG := Lib.hid (show gradeHit b.defects.length T b.length b.width S g = (decide ((b.defects.length : Int) ≤ g.most) && decide (T * 1000 ≤ g.share * b.length * b.width) && decide (g.clear ≤ S)) from rfl)
          obtain ⟨⟨s1, s2⟩, s3, s4⟩ := share_bd hgk.1 hgk.2 hbl.1 hbl.2 hbw.1 hbw.2
          have v1 : IntKind.i64.wrap (T * 1000) = T * 1000 := IntWalk.i64_in _ (by omega)
          have v2 : IntKind.i64.wrap (g.share * b.length) = g.share * b.length := IntWalk.i64_in _ (by omega)
          have v3 : IntKind.i64.wrap (g.share * b.length * b.width) = g.share * b.length * b.width := IntWalk.i64_in _ (by omega)
          have h0 := cell_keep hbr g0
          have h1 := cell_keep hbr g1
          have h2 := cell_keep hbr g2
          have h3 := cell_keep hbr g3
          have h4 := cell_keep hbr g4
          have h5 := cell_keep hbr g5
          have h6 := cell_keep hbr g6
          have h7 := cell_keep hbr g7
          have hvr := hv2.keep hbr
          have hzr : w.heap.size < wr.heap.size := by omega
          have hbG : bG < wr.heap.size := by simpa using block_lt_of_cell c0
          clear HK
          by_cases q1 : (b.defects.length : Int) ≤ g.most
          · by_cases q2 : T * 1000 ≤ g.share * b.length * b.width
            · by_cases q3 : g.clear ≤ S
              · have HHT2 := Lib.hid (HHT.out (by rw [HPG.out]; simp [q1, q2, q3]))
                go_wp2_with fail
                refine wp_region_grew (by kernel_rfl) (by kernel_rfl) ?_
                repeat (first
                  | go_big_quiet_step ((go_at_call 67; exact grew_of (HDF.out _ (hvr.keep (grewB (Below.refl _ _) (Nat.le_refl _) _)))))
                  | quiet_step ((go_at_call 67; exact grew_of (HDF.out _ (hvr.keep (grewB (Below.refl _ _) (Nat.le_refl _) _))))))
                refine wpQuiet_nil ?_
                rintro _ ⟨gg, rfl⟩
                go_wp2_with fail
                go_ret
                exact ⟨ret_int (by rw [HP.out]; exact HHT2.out.symm), grewB (hc2.trans (hbr.mono (by omega))) (by omega) gg⟩
              · have HST2 := Lib.hid (HST.out (by rw [HPG.out]; simp [q3]))
                have q3' : decide (g.clear ≤ S) = false := by simpa using q3
                go_wp2_with fail
                refine wp_region_grew (by kernel_rfl) (by kernel_rfl) ?_
                repeat (first
                  | go_big_quiet_step ((go_at_call 67; exact grew_of (HDF.out _ (hvr.keep (grewB (Below.refl _ _) (Nat.le_refl _) _)))))
                  | quiet_step ((go_at_call 67; exact grew_of (HDF.out _ (hvr.keep (grewB (Below.refl _ _) (Nat.le_refl _) _))))))
                refine wpQuiet_nil ?_
                rintro _ ⟨gg, rfl⟩
                go_wp2_with fail
                go_roundw
                case rel => exact ⟨k + 1, by omega, by go_num, by rw [HP.out]; exact HST2, grewB hbr (by omega) gg⟩
                case measure => simp [intOf]; omega
            · have HST2 := Lib.hid (HST.out (by rw [HPG.out]; simp [q2]))
              have q2' : decide (T * 1000 ≤ g.share * b.length * b.width) = false := by simpa using q2
              go_wp2_with fail
              refine wp_region_grew (by kernel_rfl) (by kernel_rfl) ?_
              repeat (first
                | go_big_quiet_step ((go_at_call 67; exact grew_of (HDF.out _ (hvr.keep (grewB (Below.refl _ _) (Nat.le_refl _) _)))))
                | quiet_step ((go_at_call 67; exact grew_of (HDF.out _ (hvr.keep (grewB (Below.refl _ _) (Nat.le_refl _) _))))))
              refine wpQuiet_nil ?_
              rintro _ ⟨gg, rfl⟩
              go_wp2_with fail
              go_roundw
              case rel => exact ⟨k + 1, by omega, by go_num, by rw [HP.out]; exact HST2, grewB hbr (by omega) gg⟩
              case measure => simp [intOf]; omega
          · have HST2 := Lib.hid (HST.out (by rw [HPG.out]; simp [q1]))
            have q1' : decide ((b.defects.length : Int) ≤ g.most) = false := by simpa using q1
            go_wp2_with fail
            refine wp_region_grew (by kernel_rfl) (by kernel_rfl) ?_
            repeat (first
              | go_big_quiet_step ((go_at_call 67; exact grew_of (HDF.out _ (hvr.keep (grewB (Below.refl _ _) (Nat.le_refl _) _)))))
              | quiet_step ((go_at_call 67; exact grew_of (HDF.out _ (hvr.keep (grewB (Below.refl _ _) (Nat.le_refl _) _))))))
            refine wpQuiet_nil ?_
            rintro _ ⟨gg, rfl⟩
            go_wp2_with fail
            go_roundw
            case rel => exact ⟨k + 1, by omega, by go_num, by rw [HP.out]; exact HST2, grewB hbr (by omega) gg⟩
            case measure => simp [intOf]; omega
        · have hm := Lib.hid (idxOf_miss (p := gradeP b) (l := l) (fun j hj => HK.out j hj (by omega)))
          have hkn : ¬ (k : Int) < (l.length : Int) := by omega
          clear HK
          go_wp2_with fail
          go_ret
          exact ⟨ret_int hm.out.symm, hc2.trans (hbr.mono (by omega))⟩
end Go.Proofs.Ythhchnhidhgccaa
