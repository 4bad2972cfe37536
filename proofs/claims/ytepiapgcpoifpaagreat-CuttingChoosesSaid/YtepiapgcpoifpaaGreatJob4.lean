/- Jobs: what the reference's CheckBlanks, CheckTrim and Pieces return. -/
import Derived.Test.YtepiapgcpoifpaaGreatJob3
set_option linter.unusedVariables false
set_option linter.unusedSimpArgs false
namespace Go.Proofs.YtepiapgcpoifpaaGreat
open Go Go.RowKit

theorem any_noneF {α : Type} {f : α → ByteArray} {st : List α} {k : Nat} (hk : k < st.length) (h : ∀ j (hj : j < st.length), j < k → ((f st[j]).toList == (f st[k]).toList) = false) : (((st.map f).take k).any fun t => (f st[k]).toList == t.toList) = false := by
  rw [List.any_eq_false]
  intro t ht
  obtain ⟨j, hj, rfl⟩ := List.mem_iff_getElem.1 ht
  simp only [List.length_take, List.length_map] at hj
  simp only [List.getElem_take, List.getElem_map]
  have := h j (by omega) (by omega)
  simp only [beq_eq_false_iff_ne, beq_iff_eq] at this ⊢
  exact fun e => this e.symm
theorem any_someF {α : Type} {f : α → ByteArray} {st : List α} {k j : Nat} (hk : k < st.length) (hj : j < st.length) (hjk : j < k) (h : ((f st[j]).toList == (f st[k]).toList) = true) : (((st.map f).take k).any fun t => (f st[k]).toList == t.toList) = true := by
  rw [List.any_eq_true]
  refine ⟨f st[j], ?_, ?_⟩
  · rw [List.mem_iff_getElem]
    exact ⟨j, by simp; omega, by simp⟩
  · simp only [beq_iff_eq] at h ⊢
    exact h.symm
theorem blankErr_rng {x : Blank} (h1 : nameB x.name = true) (h2 : nameB x.species = true) : blankErr x = if rngB x then 0 else 2 := by
  unfold blankErr rngB
  rw [if_neg (by simp [h1, h2])]
  cases withinB x.length 1 600000 <;> cases withinB x.width 1 600000 <;> cases withinB x.thick 1 600000 <;> cases withinB x.count 1 200 <;> rfl

theorem refCheckTrim_any (t : Trim) (w : World) :
    Calls Tryz.prog 48 #[.agg #[.int .i64 t.kerf, .int .i64 t.ends, .int .i64 t.sides]] w fun e w' => e = .returned (.int .i64 (trimE t)) ∧ Below w.heap.size w w' := by
  go_enter Tryz.func48, Tryz.ntmps48
  go_wp2_with (go_at_call 36; refine (baseWithin_any _ _ _ _).mono ?_; rintro e w' ⟨rfl, rfl⟩)
  all_goals (go_ret; exact ⟨ret_int (by go_tidy; (try simp only [Bool.not_eq_eq_eq_not, Bool.not_true, Bool.not_false, Bool.not_eq_true', Bool.not_eq_false', decide_eq_false_iff_not, decide_eq_true_eq, beq_iff_eq, beq_eq_false_iff_ne, bne_iff_ne, ne_eq, bne_eq_false_iff_eq, Bool.and_eq_true, Bool.or_eq_true, Bool.and_eq_false_iff, Bool.or_eq_false_iff, not_true_eq_false, not_false_eq_true, false_and, and_false, or_false, false_or, true_and, and_true, true_or, or_true] at *) <;> simp [trimE, *]), (Below.refl _ _).alloc (Nat.le_refl _) _⟩)

set_option maxHeartbeats 1000000 in
theorem pieces_any (a : Option Addr) (l : List Blank) (c : Nat) (w : World) (hv : Blanks.V w a l) (hl : l.length ≤ 30) (hc : ∀ x ∈ l, 1 ≤ x.count ∧ x.count ≤ 200) :
    Calls Tryz.prog 32 #[.slice a l.length c] w fun e w' => e = .returned (.int .i64 (piecesN l)) ∧ Below w.heap.size w w' := by
  have HCT := Lib.hid hc
  clear hc
  go_enter Tryz.func32, Tryz.ntmps32
  go_wp2_with fail
  go_loopw [3, 4] (fun p i wr => ∃ (m : Nat) (P : Int), m ≤ l.length ∧ i = .int .i64 m ∧ p = .int .i64 P ∧ (0 ≤ P ∧ P ≤ 200 * (m : Int)) ∧ Hid (piecesN l = P + piecesN (l.drop m)) ∧ Below w.heap.size w wr) (fun _ i _ => l.length - (intOf i).toNat)
  case atStart => exact ⟨0, 0, Nat.zero_le _, rfl, rfl, by simp, Lib.hid (by simp), Below.refl _ _⟩
  case round =>
    obtain ⟨m, P, hm, rfl, rfl, hP, HPS, hbr⟩ := hrel
    have hszr := hbr.size
    by_cases hlt2 : m < l.length
    · obtain ⟨b, off, ha, hat⟩ := (hv.keep hbr).at_ hlt2
      subst ha
      obtain ⟨c0, c1', c2', c3, c4, c5, -⟩ := hat
      have hct := HCT.out _ (List.getElem_mem hlt2)
      have hmi : (m : Int) < (l.length : Int) := by omega
      have HPN := Lib.hid (show piecesN l = (P + l[m].count) + piecesN (l.drop (m + 1)) by rw [HPS.out, piecesN_drop hlt2, Int.add_assoc])
      clear HPS
      generalize l[m] = xb at *
      have v1 : IntKind.i64.wrap (P + xb.count) = P + xb.count := IntWalk.i64_in _ (by omega)
      go_wp2_with fail
      go_roundw
      case rel => exact ⟨m + 1, P + xb.count, by omega, by go_num, rfl, by omega, HPN, hbr⟩
      case measure => simp [intOf]; omega
    · have HPE := Lib.hid (show piecesN l = P by rw [HPS.out, List.drop_of_length_le (by omega)]; simp [piecesN])
      clear HPS
      go_wp2_with fail
      go_ret
      exact ⟨ret_int HPE.out.symm, hbr⟩

set_option maxRecDepth 100000 in
set_option maxHeartbeats 8000000 in
theorem refCheckBlanks_any (a : Option Addr) (l : List Blank) (c : Nat) (w : World) (hv : Blanks.V w a l) (hl : l.length ≤ 9223372036854775807) :
    Calls Tryz.prog 47 #[.slice a l.length c] w fun e w' => e = .returned (.int .i64 (checkBlanksE l)) ∧ Below w.heap.size w w' := by
  by_cases hbig : 30 < l.length
  · go_enter Tryz.func47, Tryz.ntmps47
    go_wp2_with fail
    go_ret
    exact ⟨ret_int (by simp [checkBlanksE, hbig]), Below.refl _ _⟩
  have HF := Lib.hid (show checkBlanksE l = bkGo ((l.map (·.name)).take 0) (l.drop 0) by simp [checkBlanksE, hbig])
  go_enter Tryz.func47, Tryz.ntmps47
  go_wp2_with fail
  go_loopw [3] (fun i wr => ∃ k : Nat, k ≤ l.length ∧ i = .int .i64 k ∧ Hid (checkBlanksE l = bkGo ((l.map (·.name)).take k) (l.drop k)) ∧ Below w.heap.size w wr) (fun i _ => l.length - (intOf i).toNat)
  case atStart => exact ⟨0, Nat.zero_le _, rfl, HF, Below.refl _ _⟩
  case round =>
    clear HF
    obtain ⟨k, hk, rfl, HF, hbw⟩ := hrel
    have hsz := hbw.size
    by_cases hlt : k < l.length
    · obtain ⟨b, off, ha, hat⟩ := (hv.keep hbw).at_ hlt
      subst ha
      obtain ⟨c0, c1, c2, c3, c4, c5, hwf⟩ := hat
      obtain ⟨hns, hss, -⟩ := id hwf
      have hki : (k : Int) < (l.length : Int) := by omega
      have HNM := Lib.hid (fun h => bkGo_name hlt HF.out h)
      have HDU := Lib.hid (fun h h' => bkGo_dup hlt HF.out h h')
      have HRG := Lib.hid (fun h h' h3 => bkGo_range hlt HF.out h h' h3)
      have HNX := Lib.hid (fun h h' h3 => bkGo_next hlt HF.out h h' h3)
      have HAN := Lib.hid (fun h => any_noneF (f := fun x : Blank => x.name) hlt h)
      have HAS := Lib.hid (fun (j : Nat) hj hjk h => any_someF (f := fun x : Blank => x.name) (j := j) hlt hj hjk h)
      have HBR := Lib.hid (show nameB l[k].name = true → nameB l[k].species = true → blankErr l[k] = if rngB l[k] then 0 else 2 from fun h1 h2 => blankErr_rng h1 h2)
      generalize hbd : l[k] = bd at *
      have HBD := Lib.hid hbd
      clear hbd HF
      cases h1 : nameB bd.name
      · go_wp2_with (go_at_call 90; refine (baseIsName_any _ _ (by assumption)).mono ?_; rintro e w' ⟨rfl, rfl⟩)
        go_ret
        exact ⟨ret_int (HNM.out (by simp [h1])).symm, hbw⟩
      cases h2 : nameB bd.species
      · go_wp2_with (go_at_call 90; refine (baseIsName_any _ _ (by assumption)).mono ?_; rintro e w' ⟨rfl, rfl⟩)
        go_ret
        exact ⟨ret_int (HNM.out (by simp [h1, h2])).symm, hbw⟩
      have HOK := Lib.hid (show (nameB bd.name && nameB bd.species) = true by simp [h1, h2])
      have HBR := Lib.hid (HBR.out h1 h2)
      go_wp2_with (go_at_call 90; refine (baseIsName_any _ _ (by assumption)).mono ?_; rintro e w' ⟨rfl, rfl⟩)
      clear h1 h2
      obtain ⟨wo, rfl⟩ : ∃ wo : World, wo = wr := ⟨_, rfl⟩
      go_loopw [4] (fun i wr => ∃ j : Nat, j ≤ k ∧ i = .int .i64 j ∧ Hid (∀ m (hm : m < l.length), m < j → (l[m].name.toList == bd.name.toList) = false) ∧ Below w.heap.size w wr) (fun i _ => k - (intOf i).toNat)
      case atStart => exact ⟨0, Nat.zero_le _, rfl, Lib.hid (fun m _ h => by omega), hbw⟩
      case round =>
        clear hbw c0 c1 c2 c3 c4 c5 hsz
        obtain ⟨j, hj, rfl, HJ, hbj⟩ := hrel
        obtain ⟨b3, off3, ha3, r0, r1, r2, r3, r4, r5, -⟩ := (hv.keep hbj).at_ hlt
        injection ha3 with ha3
        injection ha3 with e1 e2
        subst e1 e2
        rw [HBD.out] at r0 r1 r2 r3 r4 r5
        by_cases hjk : j < k
        · have hjl : j < l.length := by omega
          obtain ⟨b2, off2, ha2, q0, -⟩ := (hv.keep hbj).at_ hjl
          injection ha2 with ha2
          injection ha2 with e1 e2
          subst e1 e2
          clear r1 r2 r3 r4 r5
          have hji : (j : Int) < (l.length : Int) := by omega
          have hjk2 : (j : Int) < (k : Int) := by omega
          cases hq : (l[j].name.toList == bd.name.toList)
          · have HJ' := Lib.hid (show ∀ m (hm : m < l.length), m < j + 1 → (l[m].name.toList == bd.name.toList) = false by
              intro m hm hlt'
              rcases Nat.lt_succ_iff_lt_or_eq.1 hlt' with h' | rfl
              · exact HJ.out m hm h'
              · exact hq)
            clear HJ
            generalize l[j] = sj at *
            go_wp2_with fail
            go_quiet (fail)
            go_wp2_with fail
            go_roundw
            case rel => exact ⟨j + 1, by omega, by go_num, HJ', below_drewN hbj _⟩
            case measure => simp [intOf]; omega
          · have HD := Lib.hid (HDU.out HOK.out (HAS.out j hjl hjk hq))
            clear HJ
            generalize l[j] = sj at *
            go_wp2_with fail
            go_quiet (fail)
            go_wp2_with fail
            go_ret
            exact ⟨ret_int (by go_tidy; rw [HD.out]), below_drewN hbj _⟩
        · have HN := Lib.hid (HAN.out (fun m hm h => HJ.out m hm (by omega)))
          have hzj := hbj.size
          clear HJ
          cases hr : rngB bd
          · have HE := Lib.hid (show blankErr bd = 2 by rw [HBR.out, hr]; rfl)
            go_wp2_with (go_at_call 93; refine (blankErr_any bd _ hwf).mono ?_; rw [HE.out]; rintro e w2 ⟨rfl, hb2⟩)
            go_ret
            exact ⟨ret_int (HRG.out HOK.out HN.out hr).symm, hbj.trans (hb2.mono hzj)⟩
          · have HE := Lib.hid (show blankErr bd = 0 by rw [HBR.out, hr]; rfl)
            go_wp2_with (go_at_call 93; refine (blankErr_any bd _ hwf).mono ?_; rw [HE.out]; rintro e w2 ⟨rfl, hb2⟩)
            go_roundw
            case rel => exact ⟨k + 1, by omega, by go_num, Lib.hid (HNX.out HOK.out HN.out hr), hbj.trans (hb2.mono hzj)⟩
            case measure => simp [intOf]; omega
    · have hm := Lib.hid (bkGo_end (by omega) HF.out)
      clear HF
      go_wp2_with fail
      go_ret
      exact ⟨ret_int hm.out.symm, hbw⟩
end Go.Proofs.YtepiapgcpoifpaaGreat
