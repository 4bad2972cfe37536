/- Stocks: what the program's CheckStock, the reference's CheckStock and Few return. -/
import Derived.Test.YthhchnhidhgccaaAwake2
set_option linter.unusedVariables false
set_option linter.unusedSimpArgs false
namespace Go.Proofs.Ythhchnhidhgccaa
open Go Go.RowKit Go.Maps Go.WideMaps

def stGo (l : List Species) (pre : List ByteArray) : List Board → Int
  | [] => 0
  | b :: r => if listedE l b ≠ 0 then listedE l b else if (pre.any fun t => b.name.toList == t.toList) then 5 else stGo l (pre ++ [b.name]) r
def checkStockE (l : List Species) (st : List Board) : Int := if checkSpecies l ≠ 0 then checkSpecies l else if 100 < st.length then 8 else stGo l [] st
theorem stGo_err {l : List Species} {st : List Board} {k : Nat} {e : Int} (hk : k < st.length) (h : e = stGo l ((st.map (·.name)).take k) (st.drop k)) (h1 : (listedE l st[k] != 0) = true) : e = listedE l st[k] := by
  rw [h, List.drop_eq_getElem_cons hk, stGo, if_pos (by simpa using h1)]
theorem stGo_dup {l : List Species} {st : List Board} {k : Nat} {e : Int} (hk : k < st.length) (h : e = stGo l ((st.map (·.name)).take k) (st.drop k)) (h1 : (listedE l st[k] != 0) = false)
    (h2 : (((st.map (·.name)).take k).any fun t => st[k].name.toList == t.toList) = true) : e = 5 := by
  rw [h, List.drop_eq_getElem_cons hk, stGo, if_neg (by simpa using h1), if_pos h2]
theorem stGo_next {l : List Species} {st : List Board} {k : Nat} {e : Int} (hk : k < st.length) (h : e = stGo l ((st.map (·.name)).take k) (st.drop k)) (h1 : (listedE l st[k] != 0) = false)
    (h2 : (((st.map (·.name)).take k).any fun t => st[k].name.toList == t.toList) = false) : e = stGo l ((st.map (·.name)).take (k + 1)) (st.drop (k + 1)) := by
  rw [h, List.drop_eq_getElem_cons hk, stGo, if_neg (by simpa using h1), if_neg (by simp [h2]), take_map_step _ hk]
theorem stGo_end {l : List Species} {st : List Board} {k : Nat} {e : Int} (hk : st.length ≤ k) (h : e = stGo l ((st.map (·.name)).take k) (st.drop k)) : e = 0 := by
  rw [h, List.drop_eq_nil_of_le hk]; rfl
/-- A board's cells in memory. -/
theorem Boards.V.at' {w : World} {a : Option Addr} {l : List Board} (h : Boards.V w a l) {k : Nat} (hk : k < l.length) : ∃ b off ad cd, a = some ⟨b, off, none⟩ ∧
    (w.cell? ⟨b, off + k * 8, none⟩ = some (.string l[k].name) ∧ w.cell? ⟨b, off + k * 8 + 1, none⟩ = some (.string l[k].species) ∧ w.cell? ⟨b, off + k * 8 + 2, none⟩ = some (.int .i64 l[k].length) ∧ w.cell? ⟨b, off + k * 8 + 3, none⟩ = some (.int .i64 l[k].width) ∧
      w.cell? ⟨b, off + k * 8 + 4, none⟩ = some (.int .i64 l[k].thick) ∧ w.cell? ⟨b, off + k * 8 + 5, none⟩ = some (.int .i64 l[k].cut) ∧ w.cell? ⟨b, off + k * 8 + 6, none⟩ = some (.int .i64 l[k].moisture) ∧ w.cell? ⟨b, off + k * 8 + 7, none⟩ = some (.slice ad l[k].defects.length cd)) ∧
    Rects.V w ad l[k].defects ∧ l[k].defects.length ≤ 9223372036854775807 ∧ l[k].wf := by
  obtain ⟨b, off, ha, ad, cd, k0, k1, k2, k3, k4, k5, k6, k7, hr, h1, h2, hw⟩ := h.at_ hk
  exact ⟨b, off, ad, cd, ha, ⟨k0, k1, k2, k3, k4, k5, k6, k7⟩, hr, by unfold maxLen at h2; omega, hw⟩

set_option maxRecDepth 100000 in
set_option maxHeartbeats 4000000 in
theorem checkStockP_any (la : Option Addr) (l : List Species) (lc : Nat) (a : Option Addr) (st : List Board) (c : Nat) (w : World) (hs : Speciess.V w la l) (hsl : l.length ≤ 9223372036854775807)
    (hv : Boards.V w a st) (hl : st.length ≤ 9223372036854775807) :
    Calls Try.prog 44 #[.slice la l.length lc, .slice a st.length c] w fun e w' => e = .returned (.int .i64 (checkStockE l st)) ∧ Below w.heap.size w w' := by
  by_cases h0 : checkSpecies l = 0
  · by_cases hbig : 100 < st.length
    · have HE := Lib.hid (show checkStockE l st = 8 by simp [checkStockE, h0, hbig])
      have h0' : (checkSpecies l != 0) = false := by simp [h0]
      clear h0
      go_enter Try.func44, Try.ntmps44
      go_wp2_with (go_at_call 32; refine (checkSpecies_any _ l _ _ hs hsl).mono ?_; rintro e w1 ⟨rfl, hb1⟩)
      go_ret
      exact ⟨ret_int (by go_tidy; rw [HE.out]), hb1⟩
    · have hmm := @run_makeMap Try.prog
      have HF := Lib.hid (show checkStockE l st = stGo l ((st.map (·.name)).take 0) (st.drop 0) by simp [checkStockE, h0, hbig])
      have h0' : (checkSpecies l != 0) = false := by simp [h0]
      clear h0
      go_enter Try.func44, Try.ntmps44
      go_upto_region 6 with (go_at_call 32; refine (checkSpecies_any _ l _ _ hs hsl).mono ?_; rintro e w1 ⟨rfl, hb1⟩)
      go_wp2_with fail
      have hz1 := hb1.size
      have hS0 := Lib.hid (Seen.made w1)
      have hbA : Below w.heap.size w (w1.alloc (.map #[] 0)) := hb1.alloc hz1 _
      go_loopw [21] (fun i wr => ∃ k : Nat, k ≤ st.length ∧ i = .int .i64 k ∧ Hid (checkStockE l st = stGo l ((st.map (·.name)).take k) (st.drop k)) ∧ Hid (Seen wr w1.heap.size k ((st.map (·.name)).take k)) ∧ Below w.heap.size w wr ∧ w1.heap.size < wr.heap.size) (fun i _ => st.length - (intOf i).toNat)
      case atStart => exact ⟨0, Nat.zero_le _, rfl, HF, hS0, hbA, by simp⟩
      case round =>
        clear HF hS0 hbA
        obtain ⟨k, hk, rfl, HF, HS, hbw, hzw⟩ := hrel
        have hsz := hbw.size
        by_cases hlt : k < st.length
        · obtain ⟨b, off, ad, cd, ha, ⟨c0, c1, c2, c3, c4, c5, c6, c7⟩, hr, hrl, hwf⟩ := (hv.keep hbw).at' hlt
          subst ha
          have hns := hwf.1
          have hsK := hs.keep hbw
          have hbk := block_lt_of_cell c0
          simp only at hbk
          have HER := Lib.hid (fun h => stGo_err hlt HF.out h)
          have HDU := Lib.hid (fun h h' => stGo_dup hlt HF.out h h')
          have HNX := Lib.hid (fun h h' => stGo_next hlt HF.out h h')
          have HTK := Lib.hid (show (st.map (·.name)).take (k + 1) = (st.map (·.name)).take k ++ [st[k].name] from take_map_step (·.name) hlt)
          generalize hbd : st[k] = bd at *
          clear hbd HF
          go_wp2_with (first
            | (go_at_call 90; refine (listed_any _ l _ bd _ _ _ (hsK.keep ((Below.refl _ _).alloc (Nat.le_refl _) _)) hsl (hr.keep ((Below.refl _ _).alloc (Nat.le_refl _) _)) hrl hwf).mono ?_; rintro e w2 ⟨rfl, hb⟩; obtain ⟨hc, hf⟩ := bcell hb; have hz := hb.size; have HS1 := Lib.hid (((show Seen wr _ _ _ from HS.out).below ((Below.refl _ _).alloc (Nat.le_refl _) _)).below hb); have hlk := Seen.run HS1.out bd.name hns)
            | (at_mapUpdate; refine wpList_seen rfl _ _ _ rfl w1.heap.size k _ bd.name hns (by omega) rfl rfl rfl HS1.out ?_; intro w3 hS3 hg3; have HS3 := Lib.hid hS3; clear hS3))
          · go_ret
            exact ⟨ret_int (by go_tidy; exact (HER.out (by assumption)).symm), (hbw.alloc (by omega) _).trans (hb.mono (by simp; omega))⟩
          · go_ret
            exact ⟨ret_int (by go_tidy; exact (HDU.out (by assumption) (by assumption)).symm), (hbw.alloc (by omega) _).trans (hb.mono (by simp; omega))⟩
          · have hS3 := HS3.out
            rw [← HTK.out] at hS3
            go_roundw
            case rel => exact ⟨k + 1, by omega, by go_num, Lib.hid (HNX.out (by assumption) (by assumption)), Lib.hid hS3, ((hbw.alloc (by omega) _).trans (hb.mono (by simp; omega))).grown hg3 (by simp at hz; omega) (fun j hj => by cases hj; omega), by have := hg3.size; simp at hz; omega⟩
            case measure => simp [intOf]; omega
        · have hm := Lib.hid (stGo_end (by omega) HF.out)
          clear HF
          go_wp2_with fail
          go_ret
          exact ⟨ret_int hm.out.symm, hbw⟩
  · have h0' : (checkSpecies l != 0) = true := by simp [h0]
    have HE := Lib.hid (show checkStockE l st = checkSpecies l by unfold checkStockE; rw [if_pos h0])
    clear h0
    go_enter Try.func44, Try.ntmps44
    go_wp2_with (go_at_call 32; refine (checkSpecies_any _ l _ _ hs hsl).mono ?_; rintro e w1 ⟨rfl, hb1⟩)
    go_ret
    exact ⟨ret_int (by go_tidy; rw [HE.out]), hb1⟩
end Go.Proofs.Ythhchnhidhgccaa
