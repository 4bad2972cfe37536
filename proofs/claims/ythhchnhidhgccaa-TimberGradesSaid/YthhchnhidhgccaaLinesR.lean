/- The reference's lines: the places at which defects begin or end. -/
import Derived.Test.YthhchnhidhgccaaSorted
set_option linter.unusedVariables false
set_option linter.unusedSimpArgs false
namespace Go.Proofs.Ythhchnhidhgccaa
open Go Go.RowKit

theorem intsV_new1 (w : World) (t g : Nat) (a : Int) (hg : g = w.heap.size) : IntsV (w.alloc (.cells #[.int .i64 a] t)) (some ⟨g, 0, none⟩) [a] := by
  subst hg
  refine fun _ => ⟨_, 0, rfl, fun k x hk => ?_⟩
  match k, hk with
  | 0, hk => simp at hk; subst hk; simp
  | k + 1, hk => simp at hk
theorem IntsV.drew {w : World} {a : Option Addr} {l : List Int} (h : IntsV w a l) : IntsV w.drew a l := h
theorem sw_uniq (l : List Int) (n : Int) : sw (uniq l) n = uniq (n :: l) := by
  rw [sw_eq (uniq_asc l)]
  exact uniq_congr fun x => by simp [uniq_mem]
/-- The lines after so many defects. -/
def lineK (across : Bool) (b : Board) (k : Nat) : List Int := uniq (0 :: (if across then b.width else b.length) :: (b.defects.take k).flatMap fun d => if across then [d.y1, d.y2] else [d.x1, d.x2])
theorem sw_ne (l : List Int) (n : Int) : sw l n ≠ [] := by
  unfold sw
  split
  · rintro rfl; rename_i h; cases h
  · simp
theorem lineK_step {across : Bool} {b : Board} {k : Nat} (hk : k < b.defects.length) :
    sw (sw (lineK across b k) (if across then b.defects[k].y1 else b.defects[k].x1)) (if across then b.defects[k].y2 else b.defects[k].x2) = lineK across b (k + 1) := by
  unfold lineK
  rw [sw_uniq, sw_uniq, List.take_succ_eq_append_getElem hk, List.flatMap_append]
  refine uniq_congr fun x => ?_
  cases across <;> simp <;> constructor <;> intro h <;> rcases h with h | h | h | h | h <;> simp [h]
theorem lineK_len (across : Bool) (b : Board) (k : Nat) (hk : k ≤ b.defects.length) : (lineK across b k).length ≤ 2 + 2 * k := by
  unfold lineK
  refine Nat.le_trans (uniq_length _) ?_
  rw [List.length_cons, List.length_cons, List.length_flatMap]
  have : ((b.defects.take k).map fun d => (if across then [d.y1, d.y2] else [d.x1, d.x2]).length) = (b.defects.take k).map fun _ => 2 := by
    refine List.map_congr_left fun d _ => ?_
    cases across <;> rfl
  rw [this, List.map_const', List.sum_replicate_nat]
  have := List.length_take_le k b.defects
  omega
theorem lineK_ne (across : Bool) (b : Board) (k : Nat) : lineK across b k ≠ [] := by
  intro h
  have : (0 : Int) ∈ lineK across b k := uniq_mem.2 (by simp)
  rw [h] at this; cases this
theorem lineK_all (across : Bool) (b : Board) : lineK across b b.defects.length = if across then lineYs b else lineXs b := by
  unfold lineK lineYs lineXs
  rw [List.take_length]
  cases across <;> rfl

set_option maxRecDepth 100000 in
set_option maxHeartbeats 4000000 in
theorem linesR_any (b : Board) (a : Option Addr) (c : Nat) (across : Bool) (w : World) (hv : Rects.V w a b.defects) (hl : b.defects.length ≤ 60) :
    Calls Try.prog 86 #[.agg #[.string b.name, .string b.species, .int .i64 b.length, .int .i64 b.width, .int .i64 b.thick, .int .i64 b.cut, .int .i64 b.moisture, .slice a b.defects.length c], .bool across] w fun e w' => ∃ (a' : Option Addr) (c' : Nat), e = .returned (.slice a' (if across then lineYs b else lineXs b).length c') ∧ IntsV w' a' (if across then lineYs b else lineXs b) ∧ (if across then lineYs b else lineXs b).length ≤ c' ∧ c' ≤ 9223372036854775807 ∧ Below w.heap.size w w' := by
  cases across
  · show Calls _ _ _ _ fun e w' => ∃ (a' : Option Addr) (c' : Nat), e = .returned (.slice a' (lineXs b).length c') ∧ IntsV w' a' (lineXs b) ∧ (lineXs b).length ≤ c' ∧ c' ≤ 9223372036854775807 ∧ Below w.heap.size w w'
    have HK0 := Lib.hid (show lineK false b 0 = sw [0] b.length by
      rw [sw_eq (by simp)]
      exact uniq_congr fun x => by simp [or_comm])
    have HKE := Lib.hid (show lineK false b b.defects.length = lineXs b from lineK_all false b)
    go_enter Try.func86, Try.ntmps86
    go_upto_region 4 with fail
    refine gen_world (fun W => W.cell? ⟨w.heap.size, 2, none⟩ = some (.int .i64 b.length) ∧ W.cell? ⟨w.heap.size, 7, none⟩ = some (.slice a b.defects.length c) ∧ IntsV W (some ⟨w.heap.size + 1, 0, none⟩) [0] ∧ w.heap.size + 1 < W.heap.size ∧ Below w.heap.size w W) ?_ ?_
    · exact ⟨by simp [go_sem], by simp [go_sem], intsV_new1 _ _ _ _ (by simp), by simp, ((Below.refl _ _).alloc (Nat.le_refl _) _).alloc (by simp) _⟩
    rintro W ⟨e2, e7, hi0, hzW, hbW⟩
    go_wp2_with (go_at_call 114; refine (sortedWith_any _ [0] _ _ _ hi0 (by simp) (by simp) (by omega) (by simp)).mono ?_; rw [← HK0.out]; rintro e w1 ⟨a1, c1, rfl, hi1, hlc1, hcm1, hb1⟩)
    go_loopw [5, 6] (fun v i wr => ∃ (k : Nat) (a' : Option Addr) (c' : Nat), k ≤ b.defects.length ∧ i = .int .i64 k ∧ v = .slice a' (lineK false b k).length c' ∧ IntsV wr a' (lineK false b k) ∧ (lineK false b k).length ≤ c' ∧ c' ≤ 9223372036854775807 ∧ Below W.heap.size W wr) (fun _ i _ => b.defects.length - (intOf i).toNat)
    case atStart => exact ⟨0, _, _, Nat.zero_le _, rfl, rfl, hi1, hlc1, hcm1, hb1⟩
    case round =>
      clear hi1 hlc1 hcm1 hb1 HK0
      obtain ⟨k, a', c', hk, rfl, rfl, hiK, hlcK, hcmK, hbr⟩ := hrel
      have hbr0 : Below w.heap.size w wr := hbW.trans (hbr.mono (by omega))
      have hszr := hbr.size
      have f7 := cell_keep hbr e7
      by_cases hlt : k < b.defects.length
      · obtain ⟨bk, off, rfl, hat⟩ := (hv.keep hbr0).at_ hlt
        obtain ⟨c0, c1, c2, c3, -⟩ := hat
        have hL := lineK_len false b k hk
        have hL0 : (lineK false b k).length ≤ 1000 := by omega
        have hN0 := lineK_ne false b k
        have HST := Lib.hid (show sw (sw (lineK false b k) b.defects[k].x1) b.defects[k].x2 = lineK false b (k + 1) from lineK_step (across := false) hlt)
        generalize hd0 : b.defects[k] = d at *
        clear hd0
        obtain ⟨L, hLe⟩ : ∃ L, L = lineK false b k := ⟨_, rfl⟩
        rw [← hLe] at hiK hlcK hL hL0 hN0 HST
        have HLE := Lib.hid hLe
        clear hLe
        simp only [← HLE.out]
        have hL1 : (sw L d.x1).length ≤ 1000 := by have := sw_length L d.x1; omega
        have hN1 : sw L d.x1 ≠ [] := sw_ne _ _
        go_upto_region 11 with fail
        refine gen_world (fun W2 => W2.cell? ⟨wr.heap.size, 0, none⟩ = some (.int .i64 d.x1) ∧ W2.cell? ⟨wr.heap.size, 2, none⟩ = some (.int .i64 d.x2) ∧ IntsV W2 a' L ∧ Below W.heap.size W W2 ∧ wr.heap.size < W2.heap.size) ?_ ?_
        · exact ⟨by simp [go_sem], by simp [go_sem], hiK.keep ((Below.refl _ _).alloc (Nat.le_refl _) _), hbr.alloc (by omega) _, by simp⟩
        rintro W2 ⟨d1, d2, hi2, hb2, hz2⟩
        clear c0 c1 c2 c3 f7
        refine wp_cut_slots [5, 38, 39, 40, 41, 42, 43, 44] (fun u wc => ∃ (a4 : Option Addr) (c4 : Nat), u 5 = .slice a4 (lineK false b (k + 1)).length c4 ∧ IntsV wc a4 (lineK false b (k + 1)) ∧ (lineK false b (k + 1)).length ≤ c4 ∧ c4 ≤ 9223372036854775807 ∧ Below W.heap.size W wc) ?_ ?_
        · go_region_held3 (fun w' => w'.cell? ⟨wr.heap.size, 0, none⟩ = some (.int .i64 d.x1) ∧ w'.cell? ⟨wr.heap.size, 2, none⟩ = some (.int .i64 d.x2)) (go_keep)
            (first
            | (go_at_call 114; (with_reducible refine (sortedWith_any a' L c' d.x1 _ hi2.drew hL0 hlcK hcmK hN0).mono ?_); rintro e w3 ⟨a3, c3, rfl, hi3, hlc3, hcm3, hb3⟩; have q1 := cell_keep hb3 d1; have q2 := cell_keep hb3 d2)
            | (go_at_call 114; (with_reducible refine (sortedWith_any a3 (sw L d.x1) c3 d.x2 _ hi3 hL1 hlc3 hcm3 hN1).mono ?_); rintro e w4 ⟨a4, c4, rfl, hi4, hlc4, hcm4, hb4⟩; have r1 := cell_keep hb4 q1; have r2 := cell_keep hb4 q2))
          refine cut_meet (by simp [forget]) ⟨a4, c4, by rw [← HST.out]; simp, by rw [← HST.out]; exact hi4, by rw [← HST.out]; exact hlc4, hcm4, by first | exact (hb2.drew.trans (hb3.mono (by simp; omega))).trans (hb4.mono (by have := hb3.size; simp at this; omega))⟩
        · rintro u wc ⟨a4, c4, h5, hi4, hlc4, hcm4, hbc⟩
          simp only [forget, List.foldl_cons, List.foldl_nil, List.setIfInBounds_toArray, List.set_cons_succ, List.set_cons_zero, h5]
          go_wp2_with fail
          go_roundw
          case rel => exact ⟨k + 1, a4, c4, by omega, by go_num, rfl, hi4, hlc4, hcm4, hbc⟩
          case measure => simp [intOf]; omega
      · obtain rfl : k = b.defects.length := by omega
        rw [HKE.out] at hiK hlcK
        simp only [HKE.out]
        go_wp2_with fail
        go_ret
        exact ⟨a', c', rfl, hiK, hlcK, hcmK, hbr0⟩
  · show Calls _ _ _ _ fun e w' => ∃ (a' : Option Addr) (c' : Nat), e = .returned (.slice a' (lineYs b).length c') ∧ IntsV w' a' (lineYs b) ∧ (lineYs b).length ≤ c' ∧ c' ≤ 9223372036854775807 ∧ Below w.heap.size w w'
    have HK0 := Lib.hid (show lineK true b 0 = sw [0] b.width by
      rw [sw_eq (by simp)]
      exact uniq_congr fun x => by simp [or_comm])
    have HKE := Lib.hid (show lineK true b b.defects.length = lineYs b from lineK_all true b)
    go_enter Try.func86, Try.ntmps86
    go_upto_region 3 with fail
    refine gen_world (fun W => W.cell? ⟨w.heap.size, 3, none⟩ = some (.int .i64 b.width) ∧ W.cell? ⟨w.heap.size, 7, none⟩ = some (.slice a b.defects.length c) ∧ IntsV W (some ⟨w.heap.size + 1, 0, none⟩) [0] ∧ w.heap.size + 1 < W.heap.size ∧ Below w.heap.size w W) ?_ ?_
    · exact ⟨by simp [go_sem], by simp [go_sem], intsV_new1 _ _ _ _ (by simp), by simp, ((Below.refl _ _).alloc (Nat.le_refl _) _).alloc (by simp) _⟩
    rintro W ⟨e2, e7, hi0, hzW, hbW⟩
    go_wp2_with (go_at_call 114; refine (sortedWith_any _ [0] _ _ _ hi0 (by simp) (by simp) (by omega) (by simp)).mono ?_; rw [← HK0.out]; rintro e w1 ⟨a1, c1, rfl, hi1, hlc1, hcm1, hb1⟩)
    go_loopw [5, 6] (fun v i wr => ∃ (k : Nat) (a' : Option Addr) (c' : Nat), k ≤ b.defects.length ∧ i = .int .i64 k ∧ v = .slice a' (lineK true b k).length c' ∧ IntsV wr a' (lineK true b k) ∧ (lineK true b k).length ≤ c' ∧ c' ≤ 9223372036854775807 ∧ Below W.heap.size W wr) (fun _ i _ => b.defects.length - (intOf i).toNat)
    case atStart => exact ⟨0, _, _, Nat.zero_le _, rfl, rfl, hi1, hlc1, hcm1, hb1⟩
    case round =>
      clear hi1 hlc1 hcm1 hb1 HK0
      obtain ⟨k, a', c', hk, rfl, rfl, hiK, hlcK, hcmK, hbr⟩ := hrel
      have hbr0 : Below w.heap.size w wr := hbW.trans (hbr.mono (by omega))
      have hszr := hbr.size
      have f7 := cell_keep hbr e7
      by_cases hlt : k < b.defects.length
      · obtain ⟨bk, off, rfl, hat⟩ := (hv.keep hbr0).at_ hlt
        obtain ⟨c0, c1, c2, c3, -⟩ := hat
        have hL := lineK_len true b k hk
        have hL0 : (lineK true b k).length ≤ 1000 := by omega
        have hN0 := lineK_ne true b k
        have HST := Lib.hid (show sw (sw (lineK true b k) b.defects[k].y1) b.defects[k].y2 = lineK true b (k + 1) from lineK_step (across := true) hlt)
        generalize hd0 : b.defects[k] = d at *
        clear hd0
        obtain ⟨L, hLe⟩ : ∃ L, L = lineK true b k := ⟨_, rfl⟩
        rw [← hLe] at hiK hlcK hL hL0 hN0 HST
        have HLE := Lib.hid hLe
        clear hLe
        simp only [← HLE.out]
        have hL1 : (sw L d.y1).length ≤ 1000 := by have := sw_length L d.y1; omega
        have hN1 : sw L d.y1 ≠ [] := sw_ne _ _
        go_upto_region 10 with fail
        refine gen_world (fun W2 => W2.cell? ⟨wr.heap.size, 1, none⟩ = some (.int .i64 d.y1) ∧ W2.cell? ⟨wr.heap.size, 3, none⟩ = some (.int .i64 d.y2) ∧ IntsV W2 a' L ∧ Below W.heap.size W W2 ∧ wr.heap.size < W2.heap.size) ?_ ?_
        · exact ⟨by simp [go_sem], by simp [go_sem], hiK.keep ((Below.refl _ _).alloc (Nat.le_refl _) _), hbr.alloc (by omega) _, by simp⟩
        rintro W2 ⟨d1, d2, hi2, hb2, hz2⟩
        clear c0 c1 c2 c3 f7
        refine wp_cut_slots [5, 31, 32, 33, 34, 35, 36, 37] (fun u wc => ∃ (a4 : Option Addr) (c4 : Nat), u 5 = .slice a4 (lineK true b (k + 1)).length c4 ∧ IntsV wc a4 (lineK true b (k + 1)) ∧ (lineK true b (k + 1)).length ≤ c4 ∧ c4 ≤ 9223372036854775807 ∧ Below W.heap.size W wc) ?_ ?_
        · go_region_held3 (fun w' => w'.cell? ⟨wr.heap.size, 1, none⟩ = some (.int .i64 d.y1) ∧ w'.cell? ⟨wr.heap.size, 3, none⟩ = some (.int .i64 d.y2)) (go_keep)
            (first
            | (go_at_call 114; (with_reducible refine (sortedWith_any a' L c' d.y1 _ hi2.drew hL0 hlcK hcmK hN0).mono ?_); rintro e w3 ⟨a3, c3, rfl, hi3, hlc3, hcm3, hb3⟩; have q1 := cell_keep hb3 d1; have q2 := cell_keep hb3 d2)
            | (go_at_call 114; (with_reducible refine (sortedWith_any a3 (sw L d.y1) c3 d.y2 _ hi3 hL1 hlc3 hcm3 hN1).mono ?_); rintro e w4 ⟨a4, c4, rfl, hi4, hlc4, hcm4, hb4⟩; have r1 := cell_keep hb4 q1; have r2 := cell_keep hb4 q2))
          refine cut_meet (by simp [forget]) ⟨a4, c4, by rw [← HST.out]; simp, by rw [← HST.out]; exact hi4, by rw [← HST.out]; exact hlc4, hcm4, by first | exact (hb2.drew.trans (hb3.mono (by simp; omega))).trans (hb4.mono (by have := hb3.size; simp at this; omega))⟩
        · rintro u wc ⟨a4, c4, h5, hi4, hlc4, hcm4, hbc⟩
          simp only [forget, List.foldl_cons, List.foldl_nil, List.setIfInBounds_toArray, List.set_cons_succ, List.set_cons_zero, h5]
          go_wp2_with fail
          go_roundw
          case rel => exact ⟨k + 1, a4, c4, by omega, by go_num, rfl, hi4, hlc4, hcm4, hbc⟩
          case measure => simp [intOf]; omega
      · obtain rfl : k = b.defects.length := by omega
        rw [HKE.out] at hiK hlcK
        simp only [HKE.out]
        go_wp2_with fail
        go_ret
        exact ⟨a', c', rfl, hiK, hlcK, hcmK, hbr0⟩
end Go.Proofs.Ythhchnhidhgccaa
