/- Jobs: what the reference's CheckJob returns. -/
import Derived.Test.YtepiapgcpoifpaaGreatJob4
set_option linter.unusedVariables false
set_option linter.unusedSimpArgs false
namespace Go.Proofs.YtepiapgcpoifpaaGreat
open Go Go.RowKit

set_option maxRecDepth 100000 in
set_option maxHeartbeats 8000000 in
theorem refCheckJob_any (j : Job) (a1 : Option Addr) (c1 : Nat) (a2 : Option Addr) (c2 : Nat) (w : World) (hs : Boards.V w a1 j.stock) (hsl : j.stock.length ≤ 9223372036854775807) (hb : Blanks.V w a2 j.blanks) (hbl : j.blanks.length ≤ 9223372036854775807) :
    Calls Tryz.prog 11 #[.agg #[.slice a1 j.stock.length c1, .slice a2 j.blanks.length c2, .int .i64 j.trim.kerf, .int .i64 j.trim.ends, .int .i64 j.trim.sides]] w fun e w' => e = .returned (.int .i64 (jobE j)) ∧ Below w.heap.size w w' := by
  by_cases hbig : 100 < j.stock.length
  · go_enter Tryz.func11, Tryz.ntmps11
    go_wp2_with fail
    go_ret
    exact ⟨ret_int (by simp [jobE, hbig]), (Below.refl _ _).alloc (Nat.le_refl _) _⟩
  have HE := Lib.hid (show jobE j = if jbGo [] j.stock ≠ 0 then jbGo [] j.stock else if checkBlanksE j.blanks ≠ 0 then checkBlanksE j.blanks else if 1000 < piecesN j.blanks then 8 else trimE j.trim by unfold jobE; rw [if_neg hbig])
  have HF := Lib.hid (show jbGo [] j.stock = jbGo ((j.stock.map (·.name)).take 0) (j.stock.drop 0) from rfl)
  go_enter Tryz.func11, Tryz.ntmps11
  go_upto_region 3 with fail
  refine gen_world (fun W => JB W w.heap.size j a1 c1 a2 c2 ∧ Below w.heap.size w W ∧ w.heap.size < W.heap.size) ?_ ?_
  · exact ⟨⟨by simp, by simp, by simp, by simp, by simp⟩, (Below.refl _ _).alloc (Nat.le_refl _) _, by simp⟩
  rintro W ⟨hJ, hbW, hzW⟩
  have HJ := Lib.hid hJ
  obtain ⟨j0, -⟩ := hJ
  go_wp2_with fail
  clear j0
  go_loopw [3] (fun i wr => ∃ k : Nat, k ≤ j.stock.length ∧ i = .int .i64 k ∧ Hid (jbGo [] j.stock = jbGo ((j.stock.map (·.name)).take k) (j.stock.drop k)) ∧ Below W.heap.size W wr) (fun i _ => j.stock.length - (intOf i).toNat)
  case atStart => exact ⟨0, Nat.zero_le _, rfl, HF, Below.refl _ _⟩
  case round =>
    clear HF
    obtain ⟨k, hk, rfl, HF, hbw⟩ := hrel
    have hsz := hbw.size
    have hbw0 := hbW.trans (hbw.mono (Nat.le_of_lt hzW))
    obtain ⟨j0, j1, j2, j3, j4⟩ := HJ.out.keep hbw hzW
    by_cases hlt : k < j.stock.length
    · obtain ⟨b, off, ad, cd, ha, ⟨e0, e1', e2', e3, e4, e5, e6, e7⟩, hr, hrl, hwf⟩ := (hs.keep hbw0).at' hlt
      subst ha
      have hki : (k : Int) < (j.stock.length : Int) := by omega
      have HER := Lib.hid (fun h => jbGo_err hlt HF.out h)
      have HDU := Lib.hid (fun h h' => jbGo_dup hlt HF.out h h')
      have HNX := Lib.hid (fun h h' => jbGo_next hlt HF.out h h')
      have HAN := Lib.hid (fun h => any_noneF (f := fun x : Board => x.name) hlt h)
      have HAS := Lib.hid (fun (m : Nat) hm hmk h => any_someF (f := fun x : Board => x.name) (j := m) hlt hm hmk h)
      generalize hbd : j.stock[k] = bd at *
      have HBD := Lib.hid hbd
      clear hbd HF
      cases hb0 : (boardErr bd != 0)
      · have HOK := Lib.hid hb0
        go_wp2_with (go_at_call 46; refine (refBoardErr_any bd _ _ _ hr hrl hwf).mono ?_; rintro e w2 ⟨rfl, hb2⟩; have HB2 := Lib.hid (hbw.trans (hb2.mono hsz)); clear hb2)
        clear hb0
        obtain ⟨wo, rfl⟩ : ∃ wo : World, wo = wr := ⟨_, rfl⟩
        go_loopw [5] (fun i wr => ∃ m : Nat, m ≤ k ∧ i = .int .i64 m ∧ Hid (∀ n (hn : n < j.stock.length), n < m → (j.stock[n].name.toList == bd.name.toList) = false) ∧ Below W.heap.size W wr) (fun i _ => k - (intOf i).toNat)
        case atStart => exact ⟨0, Nat.zero_le _, rfl, Lib.hid (fun n _ h => by omega), HB2.out⟩
        case round =>
          clear HB2 hbw hbw0 hsz e0 e1' e2' e3 e4 e5 e6 e7 hr j0 j1 j2 j3 j4
          obtain ⟨m, hm, rfl, HM, hbm⟩ := hrel
          have hbm0 := hbW.trans (hbm.mono (Nat.le_of_lt hzW))
          obtain ⟨j0, -⟩ := HJ.out.keep hbm hzW
          by_cases hmk : m < k
          · have hml : m < j.stock.length := by omega
            obtain ⟨b2, off2, ad2, cd2, ha2, ⟨q0, -⟩, -⟩ := (hs.keep hbm0).at' hml
            obtain ⟨b3, off3, ad3, cd3, ha3, ⟨r0, -⟩, -⟩ := (hs.keep hbm0).at' hlt
            injection ha2 with ha2
            injection ha2 with x1 x2
            subst x1 x2
            injection ha3 with ha3
            injection ha3 with x1 x2
            subst x1 x2
            rw [HBD.out] at r0
            have hji : (m : Int) < (j.stock.length : Int) := by omega
            have hjk2 : (m : Int) < (k : Int) := by omega
            cases hq : (j.stock[m].name.toList == bd.name.toList)
            · have HJ' := Lib.hid (show ∀ n (hn : n < j.stock.length), n < m + 1 → (j.stock[n].name.toList == bd.name.toList) = false by
                intro n hn hlt'
                rcases Nat.lt_succ_iff_lt_or_eq.1 hlt' with h' | rfl
                · exact HM.out n hn h'
                · exact hq)
              clear HM
              generalize j.stock[m] = sj at *
              go_wp2_with fail
              go_quiet (fail)
              go_wp2_with fail
              go_roundw
              case rel => exact ⟨m + 1, by omega, by go_num, HJ', below_drewN hbm _⟩
              case measure => simp [intOf]; omega
            · have HD := Lib.hid (show jobE j = 5 by rw [HE.out, HDU.out HOK.out (HAS.out m hml hmk hq)]; rfl)
              clear HM
              generalize j.stock[m] = sj at *
              go_wp2_with fail
              go_quiet (fail)
              go_wp2_with fail
              go_ret
              exact ⟨ret_int (by go_tidy; rw [HD.out]), below_drewN hbm0 _⟩
          · have HN := Lib.hid (HNX.out HOK.out (HAN.out (fun n hn h => HM.out n hn (by omega))))
            clear HM
            go_wp2_with fail
            go_roundw
            case rel => exact ⟨k + 1, by omega, by go_num, HN, hbm⟩
            case measure => simp [intOf]; omega
      · have HD := Lib.hid (show jobE j = boardErr bd by rw [HE.out, HER.out hb0, if_pos (by simpa using hb0)])
        go_wp2_with (go_at_call 46; refine (refBoardErr_any bd _ _ _ hr hrl hwf).mono ?_; rintro e w2 ⟨rfl, hb2⟩; have HB2 := Lib.hid (hbw.trans (hb2.mono hsz)); clear hb2)
        go_ret
        exact ⟨ret_int HD.out.symm, hbW.trans (HB2.out.mono (Nat.le_of_lt hzW))⟩
    · have hm := Lib.hid (jbGo_end (by omega) HF.out)
      clear HF
      have HBV := Lib.hid (hb.keep hbw0)
      have HB0 := Lib.hid hbw0
      have HE1 := Lib.hid (show jobE j = if checkBlanksE j.blanks ≠ 0 then checkBlanksE j.blanks else if 1000 < piecesN j.blanks then 8 else trimE j.trim by rw [HE.out, hm.out]; rfl)
      have hzr : w.heap.size < wr.heap.size := by omega
      clear HE hm HJ hbw hbw0 hsz hzW hbW
      by_cases hq : checkBlanksE j.blanks = 0
      · have hq' : (checkBlanksE j.blanks != 0) = false := by simp [hq]
        have HE2 := Lib.hid (show jobE j = if 1000 < piecesN j.blanks then 8 else trimE j.trim by rw [HE1.out, if_neg (by simp [hq])])
        obtain ⟨hl30, hall⟩ := blanksE_ok hq
        have HCT := Lib.hid (show ∀ x ∈ j.blanks, 1 ≤ x.count ∧ x.count ≤ 200 from fun x hx => (rngB_ok (hall x hx).2).2.2.2)
        clear hq hall HE1
        go_upto_region 17 with (go_at_call 47; refine (refCheckBlanks_any a2 j.blanks c2 _ HBV.out hbl).mono ?_; rintro e w2 ⟨rfl, hb2⟩; have HB2 := Lib.hid hb2; clear hb2)
        have hJ2 := (JB.mk j0 j1 j2 j3 j4).keep HB2.out (by omega)
        have hBB := HB0.out.trans (HB2.out.mono (by omega))
        have hz2 := HB2.out.size
        clear j0 j1 j2 j3 j4
        have HJ2 := Lib.hid hJ2
        obtain ⟨j0, j1, j2, j3, j4⟩ := hJ2
        have HBL := Lib.hid (hb.keep hBB)
        have HB3 := Lib.hid hBB
        have hz3 : w.heap.size < w2.heap.size := by omega
        clear hBB HBV HB0 HB2 hzr hz2
        by_cases hbig2 : 1000 < piecesN j.blanks
        · have HE3 := Lib.hid (show jobE j = 8 by rw [HE2.out, if_pos hbig2])
          go_wp2_with (go_at_call 32; refine (pieces_any a2 j.blanks c2 _ HBL.out hl30 HCT.out).mono ?_; rintro e w3 ⟨rfl, hb3⟩; have HB4 := Lib.hid hb3; clear hb3)
          go_ret
          exact ⟨ret_int HE3.out.symm, HB3.out.trans (HB4.out.mono (by omega))⟩
        · have HE3 := Lib.hid (show jobE j = trimE j.trim by rw [HE2.out, if_neg hbig2])
          go_upto_region 19 with (go_at_call 32; refine (pieces_any a2 j.blanks c2 _ HBL.out hl30 HCT.out).mono ?_; rintro e w3 ⟨rfl, hb3⟩; have HB4 := Lib.hid hb3; clear hb3)
          clear j0 j1 j2 j3 j4
          obtain ⟨j0, j1, j2, j3, j4⟩ := HJ2.out.keep HB4.out hz3
          have hz4 := HB4.out.size
          go_wp2_with (go_at_call 48; refine (refCheckTrim_any j.trim _).mono ?_; rintro e w5 ⟨rfl, hb5⟩; have HB5 := Lib.hid hb5; clear hb5)
          go_ret
          exact ⟨ret_int HE3.out.symm, (HB3.out.trans (HB4.out.mono (by omega))).trans (HB5.out.mono (by omega))⟩
      · have hq' : (checkBlanksE j.blanks != 0) = true := by simp [hq]
        have HE2 := Lib.hid (show jobE j = checkBlanksE j.blanks by rw [HE1.out, if_pos hq])
        clear hq HE1
        go_wp2_with (go_at_call 47; refine (refCheckBlanks_any a2 j.blanks c2 _ HBV.out hbl).mono ?_; rintro e w2 ⟨rfl, hb2⟩; have HB2 := Lib.hid hb2; clear hb2)
        go_ret
        exact ⟨ret_int HE2.out.symm, HB0.out.trans (HB2.out.mono (by omega))⟩
end Go.Proofs.YtepiapgcpoifpaaGreat
