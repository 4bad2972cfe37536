import Derived.Test.YtjmgboipbhddlaaGreatDoorQJ
set_option linter.unusedVariables false
set_option linter.unusedSimpArgs false
namespace Go.Proofs.YtjmgboipbhddlaaGreatDoor
open Go Go.RowKit

theorem any_noneF {α : Type} {f : α → ByteArray} {st : List α} {k : Nat} (hk : k < st.length) (h : ∀ j (hj : j < st.length), j < k → ((f st[j]).toList == (f st[k]).toList) = false) : (((st.map f).take k).any fun t => (f st[k]).toList == t.toList) = false := by
 rw [List.any_eq_false]
 intro t ht
 obtain ⟨j, hj, rfl⟩ := List.mem_iff_getElem.1 ht
 simp only [List.length_take, List.length_map] at hj
 simp only [List.getElem_take, List.getElem_map]
 have := h j (by omega) (by omega)
 simp only [beq_eq_false_iff_ne, beq_iff_eq] at this ⊢
 exact fun e => this e.symm
theorem any_someF {α : Type} {f : α → ByteArray} {st : List α} {k j : Nat} (hk : k < st.length) (hj : j < st.length) (hjk : j < k) (h : ((f st[j]).toList == (f st[k]).toList) = true) : (((st.map f).take k).any fun t => (f st[k]).toList == t.toList) = true := by
 rw [List.any_eq_true]
 refine ⟨f st[j], ?_, ?_⟩
 ·rw [List.mem_iff_getElem]
  exact ⟨j, by simp; omega, by simp⟩
 ·simp only [beq_iff_eq] at h ⊢
  exact h.symm
theorem blankErr_rng {x : Blank} (h1 : nameB x.name = true) (h2 : nameB x.species = true) : blankErr x = if rngB x then 0 else 2 := by
 unfold blankErr rngB
 rw [if_neg (by simp [h1, h2])]
 cases withinB x.length 1 600000 <;> cases withinB x.width 1 600000 <;> cases withinB x.thick 1 600000 <;> cases withinB x.count 1 200 <;> rfl

theorem refCheckTrim_any (t : Trim) (w : World) :
    Calls Tryz.prog 43 #[.agg #[.int .i64 t.kerf, .int .i64 t.ends, .int .i64 t.sides]] w fun e w' => e = .returned (.int .i64 (trimE t)) ∧ Below w.heap.size w w' := by
 go_enter Tryz.func43, Tryz.ntmps43
 go_wp2_with (go_at_call 16; refine (baseWithin_any _ _ _ _).mono ?_; rintro e w' ⟨rfl, rfl⟩)
 all_goals (go_ret; exact ⟨ret_int (by go_tidy; (try simp only [Bool.not_eq_eq_eq_not, Bool.not_true, Bool.not_false, Bool.not_eq_true', Bool.not_eq_false', decide_eq_false_iff_not, decide_eq_true_eq, beq_iff_eq, beq_eq_false_iff_ne, bne_iff_ne, ne_eq, bne_eq_false_iff_eq, Bool.and_eq_true, Bool.or_eq_true, Bool.and_eq_false_iff, Bool.or_eq_false_iff, not_true_eq_false, not_false_eq_true, false_and, and_false, or_false, false_or, true_and, and_true, true_or, or_true] at *) <;> simp [trimE, *]), (Below.refl _ _).alloc (Nat.le_refl _) _⟩)

set_option maxHeartbeats 1000000 in
theorem pieces_any (a : Option Addr) (l : List Blank) (c : Nat) (w : World) (hv : Blanks.V w a l) (hl : l.length ≤ 30) (hc : ∀ x ∈ l, 1 ≤ x.count ∧ x.count ≤ 200) :
    Calls Tryz.prog 42 #[.slice a l.length c] w fun e w' => e = .returned (.int .i64 (piecesN l)) ∧ Below w.heap.size w w' := by
 have HCT := Lib.hid hc
 clear hc
 go_enter Tryz.func42, Tryz.ntmps42
 go_wp2_with fail
 go_loopw [3, 4] (fun p i wr => ∃ (m : Nat) (P : Int), m ≤ l.length ∧ i = .int .i64 m ∧ p = .int .i64 P ∧ (0 ≤ P ∧ P ≤ 200 * (m : Int)) ∧ Hid (piecesN l = P + piecesN (l.drop m)) ∧ Below w.heap.size w wr) (fun _ i _ => l.length - (intOf i).toNat)
 case atStart => exact ⟨0, 0, Nat.zero_le _, rfl, rfl, by simp, Lib.hid (by simp), Below.refl _ _⟩
 case round =>
  obtain ⟨m, P, hm, rfl, rfl, hP, HPS, hbr⟩ := hrel
  have hszr := hbr.size
  by_cases hlt2 : m < l.length
  ·obtain ⟨b, off, ha, hat⟩ := (hv.keep hbr).at_ hlt2
   subst ha
   obtain ⟨c0, c1', c2', c3, c4, c5, -⟩ := hat
   have hct := HCT.out _ (List.getElem_mem hlt2)
   have hmi : (m : Int) < (l.length : Int) := by omega
   have HPN := Lib.hid (show piecesN l = (P + l[m].count) + piecesN (l.drop (m + 1)) by rw [HPS.out, piecesN_drop hlt2, Int.add_assoc])
   clear HPS
   generalize l[m] = xb at *
   have v1 : IntKind.i64.wrap (P + xb.count) = P + xb.count := IntWalk.i64_in _ (by omega)
   go_wp2_with fail
   go_roundw
   case rel => exact ⟨m + 1, P + xb.count, by omega, by go_num, rfl, by omega, HPN, hbr⟩
   case measure => simp [intOf]; omega
  ·have HPE := Lib.hid (show piecesN l = P by rw [HPS.out, List.drop_of_length_le (by omega)]; simp [piecesN])
   clear HPS
   go_wp2_with fail
   go_ret
   exact ⟨ret_int HPE.out.symm, hbr⟩

set_option maxRecDepth 100000 in
set_option maxHeartbeats 8000000 in
theorem refCheckBlanks_any (a : Option Addr) (l : List Blank) (c : Nat) (w : World) (hv : Blanks.V w a l) (hl : l.length ≤ 9223372036854775807) :
    Calls Tryz.prog 41 #[.slice a l.length c] w fun e w' => e = .returned (.int .i64 (checkBlanksE l)) ∧ Below w.heap.size w w' := by
 by_cases hbig : 30 < l.length
 ·go_enter Tryz.func41, Tryz.ntmps41
  go_wp2_with fail
  go_ret
  exact ⟨ret_int (by simp [checkBlanksE, hbig]), Below.refl _ _⟩
 have HF := Lib.hid (show checkBlanksE l = bkGo ((l.map (·.name)).take 0) (l.drop 0) by simp [checkBlanksE, hbig])
 go_enter Tryz.func41, Tryz.ntmps41
 go_wp2_with fail
 go_loopw [3] (fun i wr => ∃ k : Nat, k ≤ l.length ∧ i = .int .i64 k ∧ Hid (checkBlanksE l = bkGo ((l.map (·.name)).take k) (l.drop k)) ∧ Below w.heap.size w wr) (fun i _ => l.length - (intOf i).toNat)
 case atStart => exact ⟨0, Nat.zero_le _, rfl, HF, Below.refl _ _⟩
 case round =>
  clear HF
  obtain ⟨k, hk, rfl, HF, hbw⟩ := hrel
  have hsz := hbw.size
  by_cases hlt : k < l.length
  ·obtain ⟨b, off, ha, hat⟩ := (hv.keep hbw).at_ hlt
   subst ha
   obtain ⟨c0, c1, c2, c3, c4, c5, hwf⟩ := hat
   obtain ⟨hns, hss, -⟩ := id hwf
   have hki : (k : Int) < (l.length : Int) := by omega
   have HNM := Lib.hid (fun h => bkGo_name hlt HF.out h)
   have HDU := Lib.hid (fun h h' => bkGo_dup hlt HF.out h h')
   have HRG := Lib.hid (fun h h' h3 => bkGo_range hlt HF.out h h' h3)
   have HNX := Lib.hid (fun h h' h3 => bkGo_next hlt HF.out h h' h3)
   have HAN := Lib.hid (fun h => any_noneF (f := fun x : Blank => x.name) hlt h)
   have HAS := Lib.hid (fun (j : Nat) hj hjk h => any_someF (f := fun x : Blank => x.name) (j := j) hlt hj hjk h)
   have HBR := Lib.hid (show nameB l[k].name = true → nameB l[k].species = true → blankErr l[k] = if rngB l[k] then 0 else 2 from fun h1 h2 => blankErr_rng h1 h2)
   generalize hbd : l[k] = bd at *
   have HBD := Lib.hid hbd
   clear hbd HF
   cases h1 : nameB bd.name
   ·go_wp2_with (go_at_call 66; refine (baseIsName_any _ _ (by assumption)).mono ?_; rintro e w' ⟨rfl, rfl⟩)
    go_ret
    exact ⟨ret_int (HNM.out (by simp [h1])).symm, hbw⟩
   cases h2 : nameB bd.species
   ·go_wp2_with (go_at_call 66; refine (baseIsName_any _ _ (by assumption)).mono ?_; rintro e w' ⟨rfl, rfl⟩)
    go_ret
    exact ⟨ret_int (HNM.out (by simp [h1, h2])).symm, hbw⟩
   have HOK := Lib.hid (show (nameB bd.name && nameB bd.species) = true by simp [h1, h2])
   have HBR := Lib.hid (HBR.out h1 h2)
   go_wp2_with (go_at_call 66; refine (baseIsName_any _ _ (by assumption)).mono ?_; rintro e w' ⟨rfl, rfl⟩)
   clear h1 h2
   obtain ⟨wo, rfl⟩ : ∃ wo : World, wo = wr := ⟨_, rfl⟩
   go_loopw [4] (fun i wr => ∃ j : Nat, j ≤ k ∧ i = .int .i64 j ∧ Hid (∀ m (hm : m < l.length), m < j → (l[m].name.toList == bd.name.toList) = false) ∧ Below w.heap.size w wr) (fun i _ => k - (intOf i).toNat)
   case atStart => exact ⟨0, Nat.zero_le _, rfl, Lib.hid (fun m _ h => by omega), hbw⟩
   case round =>
    clear hbw c0 c1 c2 c3 c4 c5 hsz
    obtain ⟨j, hj, rfl, HJ, hbj⟩ := hrel
    obtain ⟨b3, off3, ha3, r0, r1, r2, r3, r4, r5, -⟩ := (hv.keep hbj).at_ hlt
    injection ha3 with ha3
    injection ha3 with e1 e2
    subst e1 e2
    rw [HBD.out] at r0 r1 r2 r3 r4 r5
    by_cases hjk : j < k
    ·have hjl : j < l.length := by omega
     obtain ⟨b2, off2, ha2, q0, -⟩ := (hv.keep hbj).at_ hjl
     injection ha2 with ha2
     injection ha2 with e1 e2
     subst e1 e2
     clear r1 r2 r3 r4 r5
     have hji : (j : Int) < (l.length : Int) := by omega
     have hjk2 : (j : Int) < (k : Int) := by omega
     cases hq : (l[j].name.toList == bd.name.toList)
     ·have HJ' := Lib.hid (show ∀ m (hm : m < l.length), m < j + 1 → (l[m].name.toList == bd.name.toList) = false by
        intro m hm hlt'
        rcases Nat.lt_succ_iff_lt_or_eq.1 hlt' with h' | rfl
        ·exact HJ.out m hm h'
        ·exact hq)
      clear HJ
      generalize l[j] = sj at *
      go_wp2_with fail
      go_quiet (fail)
      go_wp2_with fail
      go_roundw
      case rel => exact ⟨j + 1, by omega, by go_num, HJ', below_drewN hbj _⟩
      case measure => simp [intOf]; omega
     ·have HD := Lib.hid (HDU.out HOK.out (HAS.out j hjl hjk hq))
      clear HJ
      generalize l[j] = sj at *
      go_wp2_with fail
      go_quiet (fail)
      go_wp2_with fail
      go_ret
      exact ⟨ret_int (by go_tidy; rw [HD.out]), below_drewN hbj _⟩
    ·have HN := Lib.hid (HAN.out (fun m hm h => HJ.out m hm (by omega)))
     have hzj := hbj.size
     clear HJ
     cases hr : rngB bd
     ·have HE := Lib.hid (show blankErr bd = 2 by rw [HBR.out, hr]; rfl)
      go_wp2_with (go_at_call 70; refine (blankErr_any bd _ hwf).mono ?_; rw [HE.out]; rintro e w2 ⟨rfl, hb2⟩)
      go_ret
      exact ⟨ret_int (HRG.out HOK.out HN.out hr).symm, hbj.trans (hb2.mono hzj)⟩
     ·have HE := Lib.hid (show blankErr bd = 0 by rw [HBR.out, hr]; rfl)
      go_wp2_with (go_at_call 70; refine (blankErr_any bd _ hwf).mono ?_; rw [HE.out]; rintro e w2 ⟨rfl, hb2⟩)
      go_roundw
      case rel => exact ⟨k + 1, by omega, by go_num, Lib.hid (HNX.out HOK.out HN.out hr), hbj.trans (hb2.mono hzj)⟩
      case measure => simp [intOf]; omega
  ·have hm := Lib.hid (bkGo_end (by omega) HF.out)
   clear HF
   go_wp2_with fail
   go_ret
   exact ⟨ret_int hm.out.symm, hbw⟩
end Go.Proofs.YtjmgboipbhddlaaGreatDoor

set_option linter.unusedVariables false
set_option linter.unusedSimpArgs false
namespace Go.Proofs.YtjmgboipbhddlaaGreatDoor
open Go Go.RowKit

set_option maxRecDepth 100000 in
set_option maxHeartbeats 8000000 in
theorem refCheckJob_any (j : Job) (a1 : Option Addr) (c1 : Nat) (a2 : Option Addr) (c2 : Nat) (w : World) (hs : Boards.V w a1 j.stock) (hsl : j.stock.length ≤ 9223372036854775807) (hb : Blanks.V w a2 j.blanks) (hbl : j.blanks.length ≤ 9223372036854775807) :
    Calls Tryz.prog 15 #[.agg #[.slice a1 j.stock.length c1, .slice a2 j.blanks.length c2, .int .i64 j.trim.kerf, .int .i64 j.trim.ends, .int .i64 j.trim.sides]] w fun e w' => e = .returned (.int .i64 (jobE j)) ∧ Below w.heap.size w w' := by
 by_cases hbig : 100 < j.stock.length
 ·go_enter Tryz.func15, Tryz.ntmps15
  go_wp2_with fail
  go_ret
  exact ⟨ret_int (by simp [jobE, hbig]), (Below.refl _ _).alloc (Nat.le_refl _) _⟩
 have HE := Lib.hid (show jobE j = if jbGo [] j.stock ≠ 0 then jbGo [] j.stock else if checkBlanksE j.blanks ≠ 0 then checkBlanksE j.blanks else if 1000 < piecesN j.blanks then 8 else trimE j.trim by unfold jobE; rw [if_neg hbig])
 have HF := Lib.hid (show jbGo [] j.stock = jbGo ((j.stock.map (·.name)).take 0) (j.stock.drop 0) from rfl)
 go_enter Tryz.func15, Tryz.ntmps15
 go_upto_region 3 with fail
 refine gen_world (fun W => JB W w.heap.size j a1 c1 a2 c2 ∧ Below w.heap.size w W ∧ w.heap.size < W.heap.size) ?_ ?_
 ·exact ⟨⟨by simp, by simp, by simp, by simp, by simp⟩, (Below.refl _ _).alloc (Nat.le_refl _) _, by simp⟩
 rintro W ⟨hJ, hbW, hzW⟩
 have HJ := Lib.hid hJ
 obtain ⟨j0, -⟩ := hJ
 go_wp2_with fail
 clear j0
 go_loopw [3] (fun i wr => ∃ k : Nat, k ≤ j.stock.length ∧ i = .int .i64 k ∧ Hid (jbGo [] j.stock = jbGo ((j.stock.map (·.name)).take k) (j.stock.drop k)) ∧ Below W.heap.size W wr) (fun i _ => j.stock.length - (intOf i).toNat)
 case atStart => exact ⟨0, Nat.zero_le _, rfl, HF, Below.refl _ _⟩
 case round =>
  clear HF
  obtain ⟨k, hk, rfl, HF, hbw⟩ := hrel
  have hsz := hbw.size
  have hbw0 := hbW.trans (hbw.mono (Nat.le_of_lt hzW))
  obtain ⟨j0, j1, j2, j3, j4⟩ := HJ.out.keep hbw hzW
  by_cases hlt : k < j.stock.length
  ·obtain ⟨b, off, ad, cd, ha, ⟨e0, e1', e2', e3, e4, e5, e6, e7⟩, hr, hrl, hwf⟩ := (hs.keep hbw0).at' hlt
   subst ha
   have hki : (k : Int) < (j.stock.length : Int) := by omega
   have HER := Lib.hid (fun h => jbGo_err hlt HF.out h)
   have HDU := Lib.hid (fun h h' => jbGo_dup hlt HF.out h h')
   have HNX := Lib.hid (fun h h' => jbGo_next hlt HF.out h h')
   have HAN := Lib.hid (fun h => any_noneF (f := fun x : Board => x.name) hlt h)
   have HAS := Lib.hid (fun (m : Nat) hm hmk h => any_someF (f := fun x : Board => x.name) (j := m) hlt hm hmk h)
   generalize hbd : j.stock[k] = bd at *
   have HBD := Lib.hid hbd
   clear hbd HF
   cases hb0 : (boardErr bd != 0)
   ·have HOK := Lib.hid hb0
    go_wp2_with (go_at_call 40; refine (refBoardErr_any bd _ _ _ hr hrl hwf).mono ?_; rintro e w2 ⟨rfl, hb2⟩; have HB2 := Lib.hid (hbw.trans (hb2.mono hsz)); clear hb2)
    clear hb0
    obtain ⟨wo, rfl⟩ : ∃ wo : World, wo = wr := ⟨_, rfl⟩
    go_loopw [5] (fun i wr => ∃ m : Nat, m ≤ k ∧ i = .int .i64 m ∧ Hid (∀ n (hn : n < j.stock.length), n < m → (j.stock[n].name.toList == bd.name.toList) = false) ∧ Below W.heap.size W wr) (fun i _ => k - (intOf i).toNat)
    case atStart => exact ⟨0, Nat.zero_le _, rfl, Lib.hid (fun n _ h => by omega), HB2.out⟩
    case round =>
     clear HB2 hbw hbw0 hsz e0 e1' e2' e3 e4 e5 e6 e7 hr j0 j1 j2 j3 j4
     obtain ⟨m, hm, rfl, HM, hbm⟩ := hrel
     have hbm0 := hbW.trans (hbm.mono (Nat.le_of_lt hzW))
     obtain ⟨j0, -⟩ := HJ.out.keep hbm hzW
     by_cases hmk : m < k
     ·have hml : m < j.stock.length := by omega
      obtain ⟨b2, off2, ad2, cd2, ha2, ⟨q0, -⟩, -⟩ := (hs.keep hbm0).at' hml
      obtain ⟨b3, off3, ad3, cd3, ha3, ⟨r0, -⟩, -⟩ := (hs.keep hbm0).at' hlt
      injection ha2 with ha2
      injection ha2 with x1 x2
      subst x1 x2
      injection ha3 with ha3
      injection ha3 with x1 x2
      subst x1 x2
      rw [HBD.out] at r0
      have hji : (m : Int) < (j.stock.length : Int) := by omega
      have hjk2 : (m : Int) < (k : Int) := by omega
      cases hq : (j.stock[m].name.toList == bd.name.toList)
      ·have HJ' := Lib.hid (show ∀ n (hn : n < j.stock.length), n < m + 1 → (j.stock[n].name.toList == bd.name.toList) = false by
         intro n hn hlt'
         rcases Nat.lt_succ_iff_lt_or_eq.1 hlt' with h' | rfl
         ·exact HM.out n hn h'
         ·exact hq)
       clear HM
       generalize j.stock[m] = sj at *
       go_wp2_with fail
       go_quiet (fail)
       go_wp2_with fail
       go_roundw
       case rel => exact ⟨m + 1, by omega, by go_num, HJ', below_drewN hbm _⟩
       case measure => simp [intOf]; omega
      ·have HD := Lib.hid (show jobE j = 5 by rw [HE.out, HDU.out HOK.out (HAS.out m hml hmk hq)]; rfl)
       clear HM
       generalize j.stock[m] = sj at *
       go_wp2_with fail
       go_quiet (fail)
       go_wp2_with fail
       go_ret
       exact ⟨ret_int (by go_tidy; rw [HD.out]), below_drewN hbm0 _⟩
     ·have HN := Lib.hid (HNX.out HOK.out (HAN.out (fun n hn h => HM.out n hn (by omega))))
      clear HM
      go_wp2_with fail
      go_roundw
      case rel => exact ⟨k + 1, by omega, by go_num, HN, hbm⟩
      case measure => simp [intOf]; omega
   ·have HD := Lib.hid (show jobE j = boardErr bd by rw [HE.out, HER.out hb0, if_pos (by simpa using hb0)])
    go_wp2_with (go_at_call 40; refine (refBoardErr_any bd _ _ _ hr hrl hwf).mono ?_; rintro e w2 ⟨rfl, hb2⟩; have HB2 := Lib.hid (hbw.trans (hb2.mono hsz)); clear hb2)
    go_ret
    exact ⟨ret_int HD.out.symm, hbW.trans (HB2.out.mono (Nat.le_of_lt hzW))⟩
  ·have hm := Lib.hid (jbGo_end (by omega) HF.out)
   clear HF
   have HBV := Lib.hid (hb.keep hbw0)
   have HB0 := Lib.hid hbw0
   have HE1 := Lib.hid (show jobE j = if checkBlanksE j.blanks ≠ 0 then checkBlanksE j.blanks else if 1000 < piecesN j.blanks then 8 else trimE j.trim by rw [HE.out, hm.out]; rfl)
   have hzr : w.heap.size < wr.heap.size := by omega
   clear HE hm HJ hbw hbw0 hsz hzW hbW
   by_cases hq : checkBlanksE j.blanks = 0
   ·have hq' : (checkBlanksE j.blanks != 0) = false := by simp [hq]
    have HE2 := Lib.hid (show jobE j = if 1000 < piecesN j.blanks then 8 else trimE j.trim by rw [HE1.out, if_neg (by simp [hq])])
    obtain ⟨hl30, hall⟩ := blanksE_ok hq
    have HCT := Lib.hid (show ∀ x ∈ j.blanks, 1 ≤ x.count ∧ x.count ≤ 200 from fun x hx => (rngB_ok (hall x hx).2).2.2.2)
    clear hq hall HE1
    go_upto_region 17 with (go_at_call 41; refine (refCheckBlanks_any a2 j.blanks c2 _ HBV.out hbl).mono ?_; rintro e w2 ⟨rfl, hb2⟩; have HB2 := Lib.hid hb2; clear hb2)
    have hJ2 := (JB.mk j0 j1 j2 j3 j4).keep HB2.out (by omega)
    have hBB := HB0.out.trans (HB2.out.mono (by omega))
    have hz2 := HB2.out.size
    clear j0 j1 j2 j3 j4
    have HJ2 := Lib.hid hJ2
    obtain ⟨j0, j1, j2, j3, j4⟩ := hJ2
    have HBL := Lib.hid (hb.keep hBB)
    have HB3 := Lib.hid hBB
    have hz3 : w.heap.size < w2.heap.size := by omega
    clear hBB HBV HB0 HB2 hzr hz2
    by_cases hbig2 : 1000 < piecesN j.blanks
    ·have HE3 := Lib.hid (show jobE j = 8 by rw [HE2.out, if_pos hbig2])
     go_wp2_with (go_at_call 42; refine (pieces_any a2 j.blanks c2 _ HBL.out hl30 HCT.out).mono ?_; rintro e w3 ⟨rfl, hb3⟩; have HB4 := Lib.hid hb3; clear hb3)
     go_ret
     exact ⟨ret_int HE3.out.symm, HB3.out.trans (HB4.out.mono (by omega))⟩
    ·have HE3 := Lib.hid (show jobE j = trimE j.trim by rw [HE2.out, if_neg hbig2])
     go_upto_region 19 with (go_at_call 42; refine (pieces_any a2 j.blanks c2 _ HBL.out hl30 HCT.out).mono ?_; rintro e w3 ⟨rfl, hb3⟩; have HB4 := Lib.hid hb3; clear hb3)
     clear j0 j1 j2 j3 j4
     obtain ⟨j0, j1, j2, j3, j4⟩ := HJ2.out.keep HB4.out hz3
     have hz4 := HB4.out.size
     go_wp2_with (go_at_call 43; refine (refCheckTrim_any j.trim _).mono ?_; rintro e w5 ⟨rfl, hb5⟩; have HB5 := Lib.hid hb5; clear hb5)
     go_ret
     exact ⟨ret_int HE3.out.symm, (HB3.out.trans (HB4.out.mono (by omega))).trans (HB5.out.mono (by omega))⟩
   ·have hq' : (checkBlanksE j.blanks != 0) = true := by simp [hq]
    have HE2 := Lib.hid (show jobE j = checkBlanksE j.blanks by rw [HE1.out, if_pos hq])
    clear hq HE1
    go_wp2_with (go_at_call 41; refine (refCheckBlanks_any a2 j.blanks c2 _ HBV.out hbl).mono ?_; rintro e w2 ⟨rfl, hb2⟩; have HB2 := Lib.hid hb2; clear hb2)
    go_ret
    exact ⟨ret_int HE2.out.symm, HB0.out.trans (HB2.out.mono (by omega))⟩
end Go.Proofs.YtjmgboipbhddlaaGreatDoor
