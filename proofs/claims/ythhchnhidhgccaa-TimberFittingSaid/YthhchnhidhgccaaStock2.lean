/- Stocks: what the reference's CheckStock and Few return. -/
import Derived.Test.YthhchnhidhgccaaStock
set_option linter.unusedVariables false
set_option linter.unusedSimpArgs false
namespace Go.Proofs.Ythhchnhidhgccaa
open Go Go.RowKit

theorem any_none {st : List Board} {k : Nat} (hk : k < st.length) (h : ∀ j (hj : j < st.length), j < k → (st[j].name.toList == st[k].name.toList) = false) : (((st.map (·.name)).take k).any fun t => st[k].name.toList == t.toList) = false := by
  rw [List.any_eq_false]
  intro t ht
  obtain ⟨j, hj, rfl⟩ := List.mem_iff_getElem.1 ht
  simp only [List.length_take, List.length_map] at hj
  simp only [List.getElem_take, List.getElem_map]
  have := h j (by omega) (by omega)
  simp only [beq_eq_false_iff_ne, beq_iff_eq] at this ⊢
  exact fun e => this e.symm
theorem any_some {st : List Board} {k j : Nat} (hk : k < st.length) (hj : j < st.length) (hjk : j < k) (h : (st[j].name.toList == st[k].name.toList) = true) : (((st.map (·.name)).take k).any fun t => st[k].name.toList == t.toList) = true := by
  rw [List.any_eq_true]
  refine ⟨st[j].name, ?_, ?_⟩
  · rw [List.mem_iff_getElem]
    exact ⟨j, by simp; omega, by simp⟩
  · simp only [beq_iff_eq] at h ⊢
    exact h.symm
theorem listedE_of (l : List Species) (b : Board) : listedE l b = if boardErr b ≠ 0 then boardErr b else if idxOf (nameIs b.species) l < 0 then 6 else 0 := rfl

set_option maxRecDepth 100000 in
set_option maxHeartbeats 4000000 in
theorem refCheckStock_any (la : Option Addr) (l : List Species) (lc : Nat) (a : Option Addr) (st : List Board) (c : Nat) (w : World) (hs : Speciess.V w la l) (hsl : l.length ≤ 9223372036854775807) (hsc : l.length ≤ lc)
    (hv : Boards.V w a st) (hl : st.length ≤ 9223372036854775807) :
    Calls Try.prog 45 #[.slice la l.length lc, .slice a st.length c] w fun e w' => e = .returned (.int .i64 (checkStockE l st)) ∧ Below w.heap.size w w' := by
  by_cases h0 : checkSpecies l = 0
  · have h0' : (checkSpecies l != 0) = false := by simp [h0]
    by_cases hbig : 100 < st.length
    · have HE := Lib.hid (show checkStockE l st = 8 by simp [checkStockE, h0, hbig])
      clear h0
      go_enter Try.func45, Try.ntmps45
      go_wp2_with (go_at_call 31; refine (refCheckSpecies_any _ l _ _ hs hsl hsc).mono ?_; rintro e w1 ⟨rfl, hb1⟩)
      go_ret
      exact ⟨ret_int (by go_tidy; rw [HE.out]), hb1⟩
    · have HF := Lib.hid (show checkStockE l st = stGo l ((st.map (·.name)).take 0) (st.drop 0) by simp [checkStockE, h0, hbig])
      clear h0
      go_enter Try.func45, Try.ntmps45
      go_wp2_with (go_at_call 31; refine (refCheckSpecies_any _ l _ _ hs hsl hsc).mono ?_; rintro e w1 ⟨rfl, hb1⟩)
      go_loopw [6] (fun i wr => ∃ k : Nat, k ≤ st.length ∧ i = .int .i64 k ∧ Hid (checkStockE l st = stGo l ((st.map (·.name)).take k) (st.drop k)) ∧ Below w.heap.size w wr) (fun i _ => st.length - (intOf i).toNat)
      case atStart => exact ⟨0, Nat.zero_le _, rfl, HF, hb1⟩
      case round =>
        clear HF hb1
        obtain ⟨k, hk, rfl, HF, hbw⟩ := hrel
        have hsz := hbw.size
        by_cases hlt : k < st.length
        · obtain ⟨b, off, ad, cd, ha, ⟨c0, c1, c2, c3, c4, c5, c6, c7⟩, hr, hrl, hwf⟩ := (hv.keep hbw).at' hlt
          subst ha
          have hsK := hs.keep hbw
          have hki : (k : Int) < (st.length : Int) := by omega
          have hbk := block_lt_of_cell c0
          simp only at hbk
          have HER := Lib.hid (fun h => stGo_err hlt HF.out h)
          have HDU := Lib.hid (fun h h' => stGo_dup hlt HF.out h h')
          have HNX := Lib.hid (fun h h' => stGo_next hlt HF.out h h')
          have HLI := Lib.hid (listedE_of l st[k])
          have HAN := Lib.hid (fun h => any_none hlt h)
          have HAS := Lib.hid (fun (j : Nat) hj hjk h => any_some (j := j) hlt hj hjk h)
          have hvK := hv
          generalize hbd : st[k] = bd at *
          have HBD := Lib.hid hbd
          clear hbd HF
          by_cases hb0 : boardErr bd = 0
          · have b0 : (boardErr bd != 0) = false := by simp [hb0]
            by_cases hi0 : idxOf (nameIs bd.species) l < 0
            · have HL := Lib.hid (show (listedE l bd != 0) = true ∧ listedE l bd = 6 by rw [HLI.out]; simp [hb0, hi0])
              clear hb0
              go_wp2_with (first
                | (go_at_call 34; refine (refBoardErr_any bd _ _ _ hr hrl hwf).mono ?_; rintro e w2 ⟨rfl, hb2⟩; obtain ⟨hc2, hf2⟩ := bcell hb2; have hb3 := hbw.trans (hb2.mono hsz); have hsK2 := hsK.keep hb2; have d1 := cell_keep hb2 c1)
                | (go_at_call 24; refine (refFind_any _ l _ _ _ hsK2 hsl).mono ?_; rintro e w3 ⟨rfl, rfl⟩))
              go_ret
              exact ⟨ret_int (by go_tidy; rw [HER.out HL.out.1, HL.out.2]), hb3⟩
            · have HL := Lib.hid (show (listedE l bd != 0) = false by rw [HLI.out]; simp [hb0, hi0])
              clear hb0
              go_wp2_with (first
                | (go_at_call 34; refine (refBoardErr_any bd _ _ _ hr hrl hwf).mono ?_; rintro e w2 ⟨rfl, hb2⟩; obtain ⟨hc2, hf2⟩ := bcell hb2; have hb3 := hbw.trans (hb2.mono hsz); have hsK2 := hsK.keep hb2; have d1 := cell_keep hb2 c1)
                | (go_at_call 24; refine (refFind_any _ l _ _ _ hsK2 hsl).mono ?_; rintro e w3 ⟨rfl, rfl⟩))
              obtain ⟨wo, rfl⟩ : ∃ wo : World, wo = wr := ⟨_, rfl⟩
              go_loopw [8] (fun i wr => ∃ j : Nat, j ≤ k ∧ i = .int .i64 j ∧ Hid (∀ m (hm : m < st.length), m < j → (st[m].name.toList == bd.name.toList) = false) ∧ Below w.heap.size w wr) (fun i _ => k - (intOf i).toNat)
              case atStart => exact ⟨0, Nat.zero_le _, rfl, Lib.hid (fun m _ h => by omega), hb3⟩
              case round =>
                clear hb3 hb2 c0 c1 c2 c3 c4 c5 c6 c7 hr hsK
                obtain ⟨j, hj, rfl, HJ, hbj⟩ := hrel
                by_cases hjk : j < k
                · have hjl : j < st.length := by omega
                  obtain ⟨b2, off2, ad2, cd2, ha2, ⟨q0, -⟩, -⟩ := (hv.keep hbj).at' hjl
                  obtain ⟨b3, off3, ad3, cd3, ha3, ⟨r0, -⟩, -⟩ := (hv.keep hbj).at' hlt
                  injection ha2 with ha2
                  injection ha2 with e1 e2
                  subst e1 e2
                  injection ha3 with ha3
                  injection ha3 with e1 e2
                  subst e1 e2
                  rw [HBD.out] at r0
                  have hji : (j : Int) < (st.length : Int) := by omega
                  have hjk2 : (j : Int) < (k : Int) := by omega
                  cases hq : (st[j].name.toList == bd.name.toList)
                  · have HJ' := Lib.hid (show ∀ m (hm : m < st.length), m < j + 1 → (st[m].name.toList == bd.name.toList) = false by
                      intro m hm hlt'
                      rcases Nat.lt_succ_iff_lt_or_eq.1 hlt' with h' | rfl
                      · exact HJ.out m hm h'
                      · exact hq)
                    clear HJ
                    generalize st[j] = sj at *
                    go_wp2_with fail
                    go_quiet (fail)
                    go_wp2_with fail
                    go_roundw
                    case rel => exact ⟨j + 1, by omega, by go_num, HJ', below_drewN hbj _⟩
                    case measure => simp [intOf]; omega
                  · have HD := Lib.hid (HDU.out HL.out (HAS.out j hjl hjk hq))
                    clear HJ
                    generalize st[j] = sj at *
                    go_wp2_with fail
                    go_quiet (fail)
                    go_wp2_with fail
                    go_ret
                    exact ⟨ret_int (by go_tidy; rw [HD.out]), below_drewN hbj _⟩
                · have HN := Lib.hid (HNX.out HL.out (HAN.out (fun m hm h => HJ.out m hm (by omega))))
                  clear HJ
                  go_wp2_with fail
                  go_roundw
                  case rel => exact ⟨k + 1, by omega, by go_num, HN, hbj⟩
                  case measure => simp [intOf]; omega
          · have b0 : (boardErr bd != 0) = true := by simp [hb0]
            have HL := Lib.hid (show (listedE l bd != 0) = true ∧ listedE l bd = boardErr bd by rw [HLI.out]; simp [hb0])
            clear hb0
            go_wp2_with (go_at_call 34; refine (refBoardErr_any bd _ _ _ hr hrl hwf).mono ?_; rintro e w2 ⟨rfl, hb2⟩; obtain ⟨hc2, hf2⟩ := bcell hb2; have hb3 := hbw.trans (hb2.mono hsz); have hsK2 := hsK.keep hb2; have d1 := cell_keep hb2 c1)
            go_ret
            exact ⟨ret_int (by go_tidy; rw [HER.out HL.out.1, HL.out.2]), hb3⟩
        · have hm := Lib.hid (stGo_end (by omega) HF.out)
          clear HF
          go_wp2_with fail
          go_ret
          exact ⟨ret_int hm.out.symm, hbw⟩
  · have h0' : (checkSpecies l != 0) = true := by simp [h0]
    have HE := Lib.hid (show checkStockE l st = checkSpecies l by unfold checkStockE; rw [if_pos h0])
    clear h0
    go_enter Try.func45, Try.ntmps45
    go_wp2_with (go_at_call 31; refine (refCheckSpecies_any _ l _ _ hs hsl hsc).mono ?_; rintro e w1 ⟨rfl, hb1⟩)
    go_ret
    exact ⟨ret_int (by go_tidy; rw [HE.out]), hb1⟩
end Go.Proofs.Ythhchnhidhgccaa
