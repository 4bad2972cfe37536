/- Fitting: what the reference's Fitting returns. -/
import Derived.Test.YthhchnhidhgccaaFit1
set_option linter.unusedVariables false
set_option linter.unusedSimpArgs false
namespace Go.Proofs.Ythhchnhidhgccaa
open Go Go.RowKit

theorem refWidest_is (b : Board) (len : Int) (a : Option Addr) (c : Nat) (w : World) {s : Rect × Bool} (hs : refWid b len = s) (hv : Rects.V w a b.defects) (hl : b.defects.length ≤ 60) (hb : DefsIn b) (hb2 : b.length ≤ 600000) (hw2 : b.width ≤ 600000) (hb3 : 1 ≤ len) (hb4 : len ≤ 600000) :
    Calls Try.prog 35 #[.agg #[.string b.name, .string b.species, .int .i64 b.length, .int .i64 b.width, .int .i64 b.thick, .int .i64 b.cut, .int .i64 b.moisture, .slice a b.defects.length c], .int .i64 len] w fun e w' => e = .returned (.tuple #[.agg #[.int .i64 s.1.x1, .int .i64 s.1.y1, .int .i64 s.1.x2, .int .i64 s.1.y2], .bool s.2]) ∧ Below w.heap.size w w' := by
  subst hs; exact refWidest_any b len a c w hv hl hb hb2 hw2 hb3 hb4
theorem own_below {w w' : World} {base e size n : Nat} {v : Value} {xs : List Value} (h : w.ownsRow base e size v n xs) (hb : Below w.heap.size w w') : w'.ownsRow base e size v n xs := by
  refine ⟨h.1, ?_⟩
  rcases h.2 with h0 | ⟨g, cap, cur, rfl, hbg, hblk, r⟩
  · exact .inl h0
  · exact .inr ⟨g, cap, cur, rfl, hbg, (hb.block g (Array.getElem?_eq_some_iff.1 hblk).1).trans hblk, r⟩
theorem own_ints' {w : World} {base e n : Nat} {v : Value} {l : List Int} (h : w.ownsRow base e 1 v n (l.map (Value.int .i64))) : ∃ a' c', v = .slice a' n c' ∧ IntsV w a' l := by
  rcases h.2 with ⟨rfl, h0⟩ | ⟨g, cap, cur, rfl, hb, hblk, r⟩
  · have hl := h.1
    subst h0
    have : l = [] := by simpa using hl
    subst this
    exact ⟨none, 0, rfl, fun hn => absurd rfl hn⟩
  · exact ⟨_, _, rfl, own_ints (r := []) (by simpa using h)⟩
def fitOne (x : Blank) (b : Board) : Bool :=
  (b.species.toList == x.species.toList) && decide (x.thick ≤ b.thick) && decide (x.length ≤ b.length) && (widS b x.length).2 && decide (x.width ≤ (widS b x.length).1.y2 - (widS b x.length).1.y1)
def fitK (st : List Board) (x : Blank) : Nat → List Int
  | 0 => []
  | k + 1 => fitK st x k ++ (match st[k]? with | some b => if fitOne x b = true then [(k : Int)] else [] | none => [])
theorem fitK_yes {st : List Board} {x : Blank} {k : Nat} (hk : k < st.length) (h : fitOne x st[k] = true) : fitK st x (k + 1) = fitK st x k ++ [(k : Int)] := by
  rw [fitK, List.getElem?_eq_getElem hk]; simp [h]
theorem fitK_no {st : List Board} {x : Blank} {k : Nat} (hk : k < st.length) (h : fitOne x st[k] = false) : fitK st x (k + 1) = fitK st x k := by
  rw [fitK, List.getElem?_eq_getElem hk]; simp [h]
theorem fitK_len (st : List Board) (x : Blank) : ∀ k, (fitK st x k).length ≤ k
  | 0 => Nat.le_refl _
  | k + 1 => by
    have := fitK_len st x k
    rw [fitK, List.length_append]
    split
    · split <;> simp <;> omega
    · simp; omega
theorem stGo_ok {l : List Species} : ∀ {st : List Board} {pre : List ByteArray}, stGo l pre st = 0 → ∀ b ∈ st, listedE l b = 0
  | [], _, _ => by simp
  | b :: r, pre, h => by
    unfold stGo at h
    split at h
    · exact absurd h (by assumption)
    · rename_i h1
      split at h
      · cases h
      · intro d hd
        rcases List.mem_cons.1 hd with rfl | hd
        · exact Classical.not_not.1 h1
        · exact stGo_ok h d hd
theorem stock_ok {l : List Species} {st : List Board} (h : checkStockE l st = 0) : st.length ≤ 100 ∧ ∀ b ∈ st, boardErr b = 0 := by
  unfold checkStockE at h
  split at h
  · exact absurd h (by assumption)
  · split at h
    · cases h
    · refine ⟨by omega, fun b hb => ?_⟩
      have := stGo_ok h b hb
      unfold listedE at this
      split at this
      · exact absurd this (by assumption)
      · rename_i h1; exact Classical.not_not.1 h1

set_option maxRecDepth 100000 in
set_option maxHeartbeats 8000000 in
theorem refFitting_any (a : Option Addr) (st : List Board) (c : Nat) (x : Blank) (w : World) (hv : Boards.V w a st) (hl : st.length ≤ 100) (hok : ∀ b ∈ st, boardErr b = 0) (hx1 : 1 ≤ x.length) (hx2 : x.length ≤ 600000) (hx3 : 1 ≤ x.width) (hx4 : x.width ≤ 600000) :
    Calls Try.prog 57 #[.slice a st.length c, .agg #[.string x.name, .string x.species, .int .i64 x.length, .int .i64 x.width, .int .i64 x.thick, .int .i64 x.count]] w fun e w' => ∃ (a' : Option Addr) (c' : Nat), e = .returned (.slice a' (fitK st x st.length).length c') ∧ IntsV w' a' (fitK st x st.length) ∧ Below w.heap.size w w' := by
  obtain ⟨i0, hi0, hz0, hz1, hz2⟩ := info_parts int_info
  have HOKS := Lib.hid hok
  clear hok
  go_enter Try.func57, Try.ntmps57
  go_upto_region 1 with fail
  refine gen_world (fun W => (W.cell? ⟨w.heap.size, 1, none⟩ = some (.string x.species) ∧ W.cell? ⟨w.heap.size, 2, none⟩ = some (.int .i64 x.length) ∧ W.cell? ⟨w.heap.size, 3, none⟩ = some (.int .i64 x.width) ∧ W.cell? ⟨w.heap.size, 4, none⟩ = some (.int .i64 x.thick)) ∧ w.heap.size < W.heap.size ∧ Below w.heap.size w W) ?_ ?_
  · exact ⟨⟨by simp [go_sem], by simp [go_sem], by simp [go_sem], by simp [go_sem]⟩, by simp, (Below.refl _ _).alloc (Nat.le_refl _) _⟩
  rintro W ⟨⟨e1, e2, e3, e4⟩, hzW, hbW⟩
  go_wp2_with fail
  go_loopw [5, 6] (fun v i wr => ∃ k : Nat, k ≤ st.length ∧ i = .int .i64 k ∧ wr.ownsRow W.heap.size 3 1 v (fitK st x k).length ((fitK st x k).map (Value.int .i64)) ∧ Below W.heap.size W wr) (fun _ i _ => st.length - (intOf i).toNat)
  case atStart => exact ⟨0, Nat.zero_le _, rfl, ownedNone _ _, Below.refl _ _⟩
  case round =>
    obtain ⟨k, hk, rfl, hown, hbr⟩ := hrel
    have hsz := hbr.size
    have hbr0 := hbW.trans (hbr.mono hbW.size)
    have f1 := cell_keep hbr e1
    have f2 := cell_keep hbr e2
    have f3 := cell_keep hbr e3
    have f4 := cell_keep hbr e4
    by_cases hlt : k < st.length
    · obtain ⟨b, off, ad, cd, ha, ⟨c0, c1, c2, c3, c4, c5, c6, c7⟩, hr, hrl, hwf⟩ := (hv.keep hbr0).at' hlt
      subst ha
      have hki : (k : Int) < (st.length : Int) := by omega
      have hbo := boardErr_ok (HOKS.out _ (List.getElem_mem hlt))
      have HFY := Lib.hid (fun h => fitK_yes (x := x) hlt h)
      have HFN := Lib.hid (fun h => fitK_no (x := x) hlt h)
      have hbk := block_lt_of_cell c0
      simp only at hbk
      generalize hbd : st[k] = bd at *
      clear hbd
      have HF1 := Lib.hid (show fitOne x bd = ((bd.species.toList == x.species.toList) && decide (x.thick ≤ bd.thick) && decide (x.length ≤ bd.length) && (widS bd x.length).2 && decide (x.width ≤ (widS bd x.length).1.y2 - (widS bd x.length).1.y1)) from rfl)
      have hzk : w.heap.size < wr.heap.size := by omega
      cases hsp : (bd.species.toList == x.species.toList)
      · have hsp' : (bd.species.toList != x.species.toList) = true := by simp [bne, hsp]
        have HN := Lib.hid (HFN.out (by rw [HF1.out, hsp]; rfl))
        go_wp2_with fail
        go_roundw
        case rel => exact ⟨k + 1, by omega, by go_num, by rw [HN.out]; exact hown.alloc _, hbr.alloc (by omega) _⟩
        case measure => simp [intOf]; omega
      · have hsp' : (bd.species.toList != x.species.toList) = false := by simp [bne, hsp]
        by_cases ht : bd.thick < x.thick
        · have HN := Lib.hid (HFN.out (by rw [HF1.out, decide_eq_false (by omega : ¬ x.thick ≤ bd.thick)]; simp))
          go_wp2_with fail
          go_roundw
          case rel => exact ⟨k + 1, by omega, by go_num, by rw [HN.out]; exact hown.alloc _, hbr.alloc (by omega) _⟩
          case measure => simp [intOf]; omega
        by_cases hle : bd.length < x.length
        · have HN := Lib.hid (HFN.out (by rw [HF1.out, decide_eq_false (by omega : ¬ x.length ≤ bd.length)]; simp))
          go_wp2_with fail
          go_roundw
          case rel => exact ⟨k + 1, by omega, by go_num, by rw [HN.out]; exact hown.alloc _, hbr.alloc (by omega) _⟩
          case measure => simp [intOf]; omega
        have hL := hbo.length
        have hWd := hbo.width
        have HW := Lib.hid (wid_same (boardOk_in hbo) hx1)
        have HBO := Lib.hid hbo
        have hin := fun h => wid_in (b := bd) (len := x.length) (boardOk_in hbo) h
        cases h2 : (widS bd x.length).2
        · have HN := Lib.hid (HFN.out (by rw [HF1.out, h2]; simp))
          obtain ⟨R, hR⟩ : ∃ R, R = (widS bd x.length).1 := ⟨_, rfl⟩
          have HRW := Lib.hid (show refWid bd x.length = (R, false) by rw [HW.out, hR, ← h2])
          clear h2 hR hin
          go_wp2_with (go_at_call 35; refine (refWidest_is bd x.length _ _ _ HRW.out (hr.keep ((Below.refl _ _).alloc (Nat.le_refl _) _)) HBO.out.few (boardOk_in HBO.out) (by omega) (by omega) (by omega) (by omega)).mono ?_; rintro e w2 ⟨rfl, hb2⟩; obtain ⟨hk2, hf2⟩ := bcell hb2; have hs2 := hb2.size; have hown2 := own_below (hown.alloc _) hb2; have hbr2 := (hbr.alloc (by omega) _).trans (hb2.mono (by simp; omega)); have hy2 : w.heap.size < w2.heap.size := (by simp at hs2; omega); have hy2' : wr.heap.size < w2.heap.size := (by simp at hs2; omega))
          go_roundw
          case rel => exact ⟨k + 1, by omega, by go_num, by rw [HN.out]; exact hown2.alloc _, (hbr2.alloc (by omega) _)⟩
          case measure => simp [intOf]; omega
        · obtain ⟨R, hR⟩ : ∃ R, R = (widS bd x.length).1 := ⟨_, rfl⟩
          have HRW := Lib.hid (show refWid bd x.length = (R, true) by rw [HW.out, hR, ← h2])
          have hRin := hin h2
          rw [← hR] at hRin HF1
          by_cases hwd : x.width ≤ R.y2 - R.y1
          · have HY := Lib.hid (HFY.out (by rw [HF1.out, h2, hsp]; simp; omega))
            clear h2 hR hin
            have hfl := fitK_len st x k
            obtain ⟨F, hF⟩ : ∃ F, F = fitK st x k := ⟨_, rfl⟩
            rw [← hF] at hown HY hfl
            obtain ⟨mm, hmm⟩ : ∃ mm, mm = F.length := ⟨_, rfl⟩
            rw [← hmm] at hown hfl
            have HMM := Lib.hid hmm
            clear hF hmm
            go_wp2_with (first
              | (go_at_call 35; refine (refWidest_is bd x.length _ _ _ HRW.out (hr.keep ((Below.refl _ _).alloc (Nat.le_refl _) _)) HBO.out.few (boardOk_in HBO.out) (by omega) (by omega) (by omega) (by omega)).mono ?_; rintro e w2 ⟨rfl, hb2⟩; obtain ⟨hk2, hf2⟩ := bcell hb2; have hs2 := hb2.size; have hown2 := own_below (hown.alloc _) hb2; have hbr2 := (hbr.alloc (by omega) _).trans (hb2.mono (by simp; omega)); have hy2 : w.heap.size < w2.heap.size := (by simp at hs2; omega); have hy2' : wr.heap.size < w2.heap.size := (by simp at hs2; omega))
              | (at_builtin; refine wpList_append_own _ rfl _ _ 97 rfl W.heap.size 3 i0 (.int .i64 0) 1 8 Try.underlying97 hi0 hz0 hz1 hz2 rfl (by decide) _ mm _ rfl ((hown2.alloc _).alloc _) ⟨w2.heap.size + 1, 0, none⟩ 1 1 [.int .i64 (k : Int)] rfl rfl (news_one (by simp [go_sem])) (by simp [Value.oneCell']) (by simp only [maxLen]; omega) (by omega) (by simp; omega) ?_; intro v' w3 hown3 hgr3 hnil3))
            go_roundw
            case rel => exact ⟨k + 1, by omega, by go_num, by rw [HY.out, List.length_append, List.map_append, ← HMM.out]; exact hown3, ((hbr2.alloc (by omega) _).alloc (by simp; omega) _).grown hgr3 (by simp; omega) (fun j hj => own_base hown2 hj)⟩
            case measure => simp [intOf]; omega
          · have HN := Lib.hid (HFN.out (by rw [HF1.out, decide_eq_false hwd]; simp))
            clear h2 hR hin
            go_wp2_with (go_at_call 35; refine (refWidest_is bd x.length _ _ _ HRW.out (hr.keep ((Below.refl _ _).alloc (Nat.le_refl _) _)) HBO.out.few (boardOk_in HBO.out) (by omega) (by omega) (by omega) (by omega)).mono ?_; rintro e w2 ⟨rfl, hb2⟩; obtain ⟨hk2, hf2⟩ := bcell hb2; have hs2 := hb2.size; have hown2 := own_below (hown.alloc _) hb2; have hbr2 := (hbr.alloc (by omega) _).trans (hb2.mono (by simp; omega)); have hy2 : w.heap.size < w2.heap.size := (by simp at hs2; omega); have hy2' : wr.heap.size < w2.heap.size := (by simp at hs2; omega))
            go_roundw
            case rel => exact ⟨k + 1, by omega, by go_num, by rw [HN.out]; exact hown2.alloc _, (hbr2.alloc (by omega) _)⟩
            case measure => simp [intOf]; omega
    · obtain rfl : k = st.length := by omega
      obtain ⟨a', c', rfl, hi⟩ := own_ints' hown
      go_wp2_with fail
      go_ret
      exact ⟨a', c', rfl, hi, hbr0⟩
end Go.Proofs.Ythhchnhidhgccaa
