/- CheckMatch of the program and of the reference. -/
import Derived.Test.YtepiapgcpoifpaaV2
set_option linter.unusedVariables false
set_option linter.unusedSimpArgs false
namespace Go.Proofs.Ytepiapgcpoifpaa
open Go Go.RowKit

set_option maxRecDepth 100000 in
set_option maxHeartbeats 4000000 in
theorem checkMatch_any (af : Option Addr) (fl : List Int) (cf : Nat) (av : Option Addr) (lv : List Int) (cv : Nat) (ap : Option Addr) (fp : List Bool) (cp : Nat) (w : World) (hv1 : Intss.V w af fl) (hv2 : Intss.V w av lv) (hv3 : Bools.V w ap fp) (hl1 : fl.length ≤ 1000000) (hl2 : lv.length ≤ 1000000) (hl3 : fp.length ≤ 1000000) :
    Calls Try.prog 34 #[.slice af fl.length cf, .agg #[.slice av lv.length cv, .slice ap fp.length cp]] w fun e w' => e = .returned (.int .i64 (matchE fl lv fp)) ∧ Below w.heap.size w w' := by
  by_cases he : flitchE fl = 0
  · have HE := Lib.hid he
    clear he
    by_cases hsh : lv.length = 0 ∨ fp.length ≠ lv.length
    · have HM := Lib.hid (match_shape HE.out hsh)
      have h1 : (lv.length : Int) = 0 ∨ (¬ (lv.length : Int) = 0 ∧ ¬ (fp.length : Int) = (lv.length : Int)) := by omega
      clear hsh
      rcases h1 with h1 | ⟨h1, h2⟩
      · have h1' : ((lv.length : Int) == 0) = true := beq_t h1
        go_enter Try.func34, Try.ntmps34
        go_wp2_with (go_at_call 78; refine (checkFlitch_is af fl cf _ HE.out (hv1.keep ((Below.refl _ _).alloc (Nat.le_refl _) _)) hl1).mono ?_; rintro e w1 ⟨rfl, hb⟩; have HB := Lib.hid (((Below.refl _ _).alloc (Nat.le_refl _) _).trans (hb.mono (by simp))); have k0 : w1.cell? ⟨w.heap.size, 0, none⟩ = some (.slice av lv.length cv) := cell_keep hb (by simp [go_sem]); have k1 : w1.cell? ⟨w.heap.size, 1, none⟩ = some (.slice ap fp.length cp) := cell_keep hb (by simp [go_sem]); clear hb)
        go_ret
        exact ⟨ret_int HM.out.symm, HB.out⟩
      · have h1' : ((lv.length : Int) == 0) = false := beq_f h1
        have h2' : ((fp.length : Int) == (lv.length : Int)) = false := beq_f h2
        have h2'' : ((fp.length : Int) != (lv.length : Int)) = true := by simpa using h2
        go_enter Try.func34, Try.ntmps34
        go_wp2_with (go_at_call 78; refine (checkFlitch_is af fl cf _ HE.out (hv1.keep ((Below.refl _ _).alloc (Nat.le_refl _) _)) hl1).mono ?_; rintro e w1 ⟨rfl, hb⟩; have HB := Lib.hid (((Below.refl _ _).alloc (Nat.le_refl _) _).trans (hb.mono (by simp))); have k0 : w1.cell? ⟨w.heap.size, 0, none⟩ = some (.slice av lv.length cv) := cell_keep hb (by simp [go_sem]); have k1 : w1.cell? ⟨w.heap.size, 1, none⟩ = some (.slice ap fp.length cp) := cell_keep hb (by simp [go_sem]); clear hb)
        go_ret
        exact ⟨ret_int HM.out.symm, HB.out⟩
    · have HSH := Lib.hid hsh
      have h1 : ¬ (lv.length : Int) = 0 := by omega
      have h1' : ((lv.length : Int) == 0) = false := beq_f h1
      have h2 : fp.length = lv.length := by omega
      have h2' : ((fp.length : Int) == (lv.length : Int)) = true := beq_t (by omega)
      have h2'' : ((fp.length : Int) != (lv.length : Int)) = false := by simp [h2]
      have H2 := Lib.hid h2
      clear hsh h2
      go_enter Try.func34, Try.ntmps34
      go_wp2_with (go_at_call 78; refine (checkFlitch_is af fl cf _ HE.out (hv1.keep ((Below.refl _ _).alloc (Nat.le_refl _) _)) hl1).mono ?_; rintro e w1 ⟨rfl, hb⟩; have HB := Lib.hid (((Below.refl _ _).alloc (Nat.le_refl _) _).trans (hb.mono (by simp))); have k0 : w1.cell? ⟨w.heap.size, 0, none⟩ = some (.slice av lv.length cv) := cell_keep hb (by simp [go_sem]); have k1 : w1.cell? ⟨w.heap.size, 1, none⟩ = some (.slice ap fp.length cp) := cell_keep hb (by simp [go_sem]); have hzw : w.heap.size < w1.heap.size := (by have := hb.size; simp at this; omega); clear hb)
      have K0 := Lib.hid (And.intro k0 k1)
      clear k0 k1 h1 h1' h2' h2''
      go_loopw [31] (fun iv wr => ∃ k : Nat, k ≤ lv.length ∧ iv = .int .i64 k ∧ Hid (∀ j (hj : j < lv.length), j < k → hasB fl lv[j] = true) ∧ Below w1.heap.size w1 wr) (fun iv _ => lv.length - (intOf iv).toNat)
      case atStart => exact ⟨0, Nat.zero_le _, rfl, Lib.hid (fun j _ h => by omega), Below.refl _ _⟩
      case round =>
        obtain ⟨k, hk, rfl, HK, hbr⟩ := hrel
        have hbw := HB.out.trans (hbr.mono (Nat.le_of_lt hzw))
        have k0 := cell_keep hbr K0.out.1
        have k1 := cell_keep hbr K0.out.2
        have HBW := Lib.hid hbw
        have HBR := Lib.hid hbr
        by_cases hlt : k < lv.length
        · obtain ⟨b, off, rfl, c0, -⟩ := (hv2.keep hbw).at' hlt
          have HN := Lib.hid (fun h => all_no (p := hasB fl) hlt h)
          have HS := Lib.hid (fun h => all_step (p := hasB fl) hlt HK.out h)
          have hki : (k : Int) < (lv.length : Int) := by omega
          clear HK hbw hbr
          generalize lv[k] = x at *
          cases hq : hasB fl x
          · have hr := Lib.hid (HN.out hq)
            have HQ := Lib.hid hq
            clear hq HN HS
            go_wp2_with (go_at_call 79; refine (hasInt_any af fl cf x _ (hv1.keep HBW.out) hl1 HQ.out).mono ?_; rintro e w2 ⟨rfl, hb⟩; have HB2 := Lib.hid hb; clear hb)
            go_ret
            exact ⟨ret_int (match_miss HE.out HSH.out hr.out).symm, HBW.out.trans (HB2.out.mono HBW.out.size)⟩
          · have hr := Lib.hid (HS.out hq)
            have HQ := Lib.hid hq
            clear hq HN HS
            go_wp2_with (go_at_call 79; refine (hasInt_any af fl cf x _ (hv1.keep HBW.out) hl1 HQ.out).mono ?_; rintro e w2 ⟨rfl, hb⟩; have HB2 := Lib.hid hb; clear hb)
            go_roundw
            case rel => exact ⟨k + 1, by omega, by go_num, hr, HBR.out.trans (HB2.out.mono HBR.out.size)⟩
            case measure => simp [intOf]; omega
        · have HA := Lib.hid (all_yes (p := hasB fl) (by omega) HK.out)
          have hki : ¬ (k : Int) < (lv.length : Int) := by omega
          clear HK hbw hbr
          cases hf : followB lv
          · have HF := Lib.hid hf
            clear hf
            go_wp2_with (go_at_call 80; refine (follow_is av lv cv _ HF.out (hv2.keep HBW.out) hl2 (has_in HE.out HA.out)).mono ?_; rintro e w2 ⟨rfl, hb⟩; have HB2 := Lib.hid hb; clear hb)
            go_ret
            exact ⟨ret_int (match_order HE.out HSH.out HA.out HF.out).symm, HBW.out.trans (HB2.out.mono HBW.out.size)⟩
          · have HF := Lib.hid hf
            clear hf
            have hzr := HBR.out.size
            go_wp2_with (go_at_call 80; refine (follow_is av lv cv _ HF.out (hv2.keep HBW.out) hl2 (has_in HE.out HA.out)).mono ?_; rintro e w2 ⟨rfl, hb⟩; have HB2 := Lib.hid hb; have k0' := cell_keep hb k0; have k1' := cell_keep hb k1; clear hb k0 k1)
            have HB3 := Lib.hid (HBW.out.trans (HB2.out.mono HBW.out.size))
            have K1 := Lib.hid (And.intro k0' k1')
            have hzw2 : w.heap.size < w2.heap.size := by have := HB2.out.size; omega
            clear k0' k1' HB2 HBW HBR
            obtain ⟨wo, rfl⟩ : ∃ wo : World, wo = wr := ⟨_, rfl⟩
            go_loopw [47] (fun iv wr => ∃ m : Nat, m ≤ fp.length ∧ iv = .int .i64 m ∧ Hid (∀ j (hj : j < fp.length), j < m → flipP j fp[j] = true) ∧ Below w2.heap.size w2 wr) (fun iv _ => fp.length - (intOf iv).toNat)
            case atStart => exact ⟨0, Nat.zero_le _, rfl, Lib.hid (fun j _ h => by omega), Below.refl _ _⟩
            case round =>
              obtain ⟨m, hm, rfl, HM, hbr⟩ := hrel
              have hbw := HB3.out.trans (hbr.mono (Nat.le_of_lt hzw2))
              have k0 := cell_keep hbr K1.out.1
              have k1 := cell_keep hbr K1.out.2
              by_cases hltm : m < fp.length
              · obtain ⟨b, off, rfl, c0⟩ := (hv3.keep hbw).at' hltm
                have HN := Lib.hid (fun h => flip_no hltm h)
                have HS := Lib.hid (fun h => flip_step hltm HM.out h)
                have hmi : (m : Int) < (fp.length : Int) := by omega
                have hg := block_lt_of_cell c0
                simp only at hg
                clear HM
                generalize fp[m] = f at *
                cases hq : flipP m f
                · have hr := Lib.hid (HN.out hq)
                  have hne : (f != decide ((m : Int) % 2 = 1)) = true := by unfold flipP at hq; simpa using hq
                  have hne2 : (f == decide ((m : Int) % 2 = 1)) = false := hq
                  have hne3 : (!(f == ((m : Int) % 2 == 1))) = true := hne
                  clear hq HN HS
                  go_wp2_with fail
                  go_ret
                  exact ⟨ret_int (match_form HE.out HSH.out HA.out HF.out hr.out).symm, hbw⟩
                · have hr := Lib.hid (HS.out hq)
                  have hne : (f != decide ((m : Int) % 2 = 1)) = false := by unfold flipP at hq; simpa using hq
                  have hne2 : (f == decide ((m : Int) % 2 = 1)) = true := hq
                  have hne3 : (!(f == ((m : Int) % 2 == 1))) = false := hne
                  clear hq HN HS
                  go_wp2_with fail
                  go_roundw
                  case rel => exact ⟨m + 1, by omega, by go_num, hr, hbr⟩
                  case measure => simp [intOf]; omega
              · have HX := Lib.hid (flip_yes (by omega) HM.out)
                have hmi : ¬ (m : Int) < (fp.length : Int) := by omega
                clear HM
                go_wp2_with fail
                go_ret
                exact ⟨ret_int (match_ok HE.out HSH.out HA.out HF.out HX.out).symm, hbw⟩
  · have hne : (flitchE fl != 0) = true := by simpa using he
    have HM := Lib.hid (match_flitch (lv := lv) (fp := fp) he)
    obtain ⟨E, hE⟩ : ∃ E, E = flitchE fl := ⟨_, rfl⟩
    rw [← hE] at hne HM
    have HE := Lib.hid hE.symm
    clear he hE
    go_enter Try.func34, Try.ntmps34
    go_wp2_with (go_at_call 78; refine (checkFlitch_is af fl cf _ HE.out (hv1.keep ((Below.refl _ _).alloc (Nat.le_refl _) _)) hl1).mono ?_; rintro e w1 ⟨rfl, hb⟩; have HB := Lib.hid (((Below.refl _ _).alloc (Nat.le_refl _) _).trans (hb.mono (by simp))); clear hb)
    go_ret
    exact ⟨ret_int HM.out.symm, HB.out⟩
set_option maxRecDepth 100000 in
set_option maxHeartbeats 4000000 in
theorem refCheckMatch_any (af : Option Addr) (fl : List Int) (cf : Nat) (av : Option Addr) (lv : List Int) (cv : Nat) (ap : Option Addr) (fp : List Bool) (cp : Nat) (w : World) (hv1 : Intss.V w af fl) (hv2 : Intss.V w av lv) (hv3 : Bools.V w ap fp) (hl1 : fl.length ≤ 1000000) (hl2 : lv.length ≤ 1000000) (hl3 : fp.length ≤ 1000000) :
    Calls Try.prog 35 #[.slice af fl.length cf, .agg #[.slice av lv.length cv, .slice ap fp.length cp]] w fun e w' => e = .returned (.int .i64 (matchE fl lv fp)) ∧ Below w.heap.size w w' := by
  by_cases he : flitchE fl = 0
  · have HE := Lib.hid he
    clear he
    by_cases hsh : lv.length = 0 ∨ fp.length ≠ lv.length
    · have HM := Lib.hid (match_shape HE.out hsh)
      have h1 : (lv.length : Int) = 0 ∨ (¬ (lv.length : Int) = 0 ∧ ¬ (fp.length : Int) = (lv.length : Int)) := by omega
      clear hsh
      rcases h1 with h1 | ⟨h1, h2⟩
      · have h1' : ((lv.length : Int) == 0) = true := beq_t h1
        go_enter Try.func35, Try.ntmps35
        go_wp2_with (go_at_call 49; refine (refCheckFlitch_is af fl cf _ HE.out (hv1.keep ((Below.refl _ _).alloc (Nat.le_refl _) _)) hl1).mono ?_; rintro e w1 ⟨rfl, hb⟩; have HB := Lib.hid (((Below.refl _ _).alloc (Nat.le_refl _) _).trans (hb.mono (by simp))); have k0 : w1.cell? ⟨w.heap.size, 0, none⟩ = some (.slice av lv.length cv) := cell_keep hb (by simp [go_sem]); have k1 : w1.cell? ⟨w.heap.size, 1, none⟩ = some (.slice ap fp.length cp) := cell_keep hb (by simp [go_sem]); clear hb)
        go_ret
        exact ⟨ret_int HM.out.symm, HB.out⟩
      · have h1' : ((lv.length : Int) == 0) = false := beq_f h1
        have h2' : ((fp.length : Int) == (lv.length : Int)) = false := beq_f h2
        have h2'' : ((fp.length : Int) != (lv.length : Int)) = true := by simpa using h2
        go_enter Try.func35, Try.ntmps35
        go_wp2_with (go_at_call 49; refine (refCheckFlitch_is af fl cf _ HE.out (hv1.keep ((Below.refl _ _).alloc (Nat.le_refl _) _)) hl1).mono ?_; rintro e w1 ⟨rfl, hb⟩; have HB := Lib.hid (((Below.refl _ _).alloc (Nat.le_refl _) _).trans (hb.mono (by simp))); have k0 : w1.cell? ⟨w.heap.size, 0, none⟩ = some (.slice av lv.length cv) := cell_keep hb (by simp [go_sem]); have k1 : w1.cell? ⟨w.heap.size, 1, none⟩ = some (.slice ap fp.length cp) := cell_keep hb (by simp [go_sem]); clear hb)
        go_ret
        exact ⟨ret_int HM.out.symm, HB.out⟩
    · have HSH := Lib.hid hsh
      have h1 : ¬ (lv.length : Int) = 0 := by omega
      have h1' : ((lv.length : Int) == 0) = false := beq_f h1
      have h2 : fp.length = lv.length := by omega
      have h2' : ((fp.length : Int) == (lv.length : Int)) = true := beq_t (by omega)
      have h2'' : ((fp.length : Int) != (lv.length : Int)) = false := by simp [h2]
      have H2 := Lib.hid h2
      clear hsh h2
      go_enter Try.func35, Try.ntmps35
      go_wp2_with (go_at_call 49; refine (refCheckFlitch_is af fl cf _ HE.out (hv1.keep ((Below.refl _ _).alloc (Nat.le_refl _) _)) hl1).mono ?_; rintro e w1 ⟨rfl, hb⟩; have HB := Lib.hid (((Below.refl _ _).alloc (Nat.le_refl _) _).trans (hb.mono (by simp))); have k0 : w1.cell? ⟨w.heap.size, 0, none⟩ = some (.slice av lv.length cv) := cell_keep hb (by simp [go_sem]); have k1 : w1.cell? ⟨w.heap.size, 1, none⟩ = some (.slice ap fp.length cp) := cell_keep hb (by simp [go_sem]); have hzw : w.heap.size < w1.heap.size := (by have := hb.size; simp at this; omega); clear hb)
      have K0 := Lib.hid (And.intro k0 k1)
      clear k0 k1 h1 h1' h2' h2''
      go_loopw [6] (fun iv wr => ∃ k : Nat, k ≤ lv.length ∧ iv = .int .i64 k ∧ Hid (∀ j (hj : j < lv.length), j < k → hasB fl lv[j] = true) ∧ Below w1.heap.size w1 wr) (fun iv _ => lv.length - (intOf iv).toNat)
      case atStart => exact ⟨0, Nat.zero_le _, rfl, Lib.hid (fun j _ h => by omega), Below.refl _ _⟩
      case round =>
        obtain ⟨k, hk, rfl, HK, hbr⟩ := hrel
        have hbw := HB.out.trans (hbr.mono (Nat.le_of_lt hzw))
        have k0 := cell_keep hbr K0.out.1
        have k1 := cell_keep hbr K0.out.2
        have HBW := Lib.hid hbw
        have HBR := Lib.hid hbr
        by_cases hlt : k < lv.length
        · obtain ⟨b, off, rfl, c0, -⟩ := (hv2.keep hbw).at' hlt
          have HN := Lib.hid (fun h => all_no (p := hasB fl) hlt h)
          have HS := Lib.hid (fun h => all_step (p := hasB fl) hlt HK.out h)
          have hki : (k : Int) < (lv.length : Int) := by omega
          clear HK hbw hbr
          generalize lv[k] = x at *
          cases hq : hasB fl x
          · have hr := Lib.hid (HN.out hq)
            have HQ := Lib.hid hq
            clear hq HN HS
            go_wp2_with (go_at_call 81; refine (refHas_any af fl cf x _ (hv1.keep HBW.out) hl1 HQ.out).mono ?_; rintro e w2 ⟨rfl, hb⟩; have HB2 := Lib.hid hb; clear hb)
            go_ret
            exact ⟨ret_int (match_miss HE.out HSH.out hr.out).symm, HBW.out.trans (HB2.out.mono HBW.out.size)⟩
          · have hr := Lib.hid (HS.out hq)
            have HQ := Lib.hid hq
            clear hq HN HS
            go_wp2_with (go_at_call 81; refine (refHas_any af fl cf x _ (hv1.keep HBW.out) hl1 HQ.out).mono ?_; rintro e w2 ⟨rfl, hb⟩; have HB2 := Lib.hid hb; clear hb)
            go_roundw
            case rel => exact ⟨k + 1, by omega, by go_num, hr, HBR.out.trans (HB2.out.mono HBR.out.size)⟩
            case measure => simp [intOf]; omega
        · have HA := Lib.hid (all_yes (p := hasB fl) (by omega) HK.out)
          have hki : ¬ (k : Int) < (lv.length : Int) := by omega
          clear HK hbw hbr
          cases hf : followB lv
          · have HF := Lib.hid hf
            clear hf
            go_wp2_with (go_at_call 50; refine (refFollow_is av lv cv _ HF.out (hv2.keep HBW.out) hl2 (has_in HE.out HA.out)).mono ?_; rintro e w2 ⟨rfl, hb⟩; have HB2 := Lib.hid hb; clear hb)
            go_ret
            exact ⟨ret_int (match_order HE.out HSH.out HA.out HF.out).symm, HBW.out.trans (HB2.out.mono HBW.out.size)⟩
          · have HF := Lib.hid hf
            clear hf
            have hzr := HBR.out.size
            go_wp2_with (go_at_call 50; refine (refFollow_is av lv cv _ HF.out (hv2.keep HBW.out) hl2 (has_in HE.out HA.out)).mono ?_; rintro e w2 ⟨rfl, hb⟩; have HB2 := Lib.hid hb; have k0' := cell_keep hb k0; have k1' := cell_keep hb k1; clear hb k0 k1)
            have HB3 := Lib.hid (HBW.out.trans (HB2.out.mono HBW.out.size))
            have K1 := Lib.hid (And.intro k0' k1')
            have hzw2 : w.heap.size < w2.heap.size := by have := HB2.out.size; omega
            clear k0' k1' HB2 HBW HBR
            obtain ⟨wo, rfl⟩ : ∃ wo : World, wo = wr := ⟨_, rfl⟩
            go_loopw [7] (fun iv wr => ∃ m : Nat, m ≤ fp.length ∧ iv = .int .i64 m ∧ Hid (∀ j (hj : j < fp.length), j < m → flipP j fp[j] = true) ∧ Below w2.heap.size w2 wr) (fun iv _ => fp.length - (intOf iv).toNat)
            case atStart => exact ⟨0, Nat.zero_le _, rfl, Lib.hid (fun j _ h => by omega), Below.refl _ _⟩
            case round =>
              obtain ⟨m, hm, rfl, HM, hbr⟩ := hrel
              have hbw := HB3.out.trans (hbr.mono (Nat.le_of_lt hzw2))
              have k0 := cell_keep hbr K1.out.1
              have k1 := cell_keep hbr K1.out.2
              by_cases hltm : m < fp.length
              · obtain ⟨b, off, rfl, c0⟩ := (hv3.keep hbw).at' hltm
                have HN := Lib.hid (fun h => flip_no hltm h)
                have HS := Lib.hid (fun h => flip_step hltm HM.out h)
                have hmi : (m : Int) < (fp.length : Int) := by omega
                have hg := block_lt_of_cell c0
                simp only at hg
                clear HM
                generalize fp[m] = f at *
                cases hq : flipP m f
                · have hr := Lib.hid (HN.out hq)
                  have hne : (f != decide ((m : Int) % 2 = 1)) = true := by unfold flipP at hq; simpa using hq
                  have hne2 : (f == decide ((m : Int) % 2 = 1)) = false := hq
                  have hne3 : (!(f == ((m : Int) % 2 == 1))) = true := hne
                  clear hq HN HS
                  go_wp2_with fail
                  go_ret
                  exact ⟨ret_int (match_form HE.out HSH.out HA.out HF.out hr.out).symm, hbw⟩
                · have hr := Lib.hid (HS.out hq)
                  have hne : (f != decide ((m : Int) % 2 = 1)) = false := by unfold flipP at hq; simpa using hq
                  have hne2 : (f == decide ((m : Int) % 2 = 1)) = true := hq
                  have hne3 : (!(f == ((m : Int) % 2 == 1))) = false := hne
                  clear hq HN HS
                  go_wp2_with fail
                  go_roundw
                  case rel => exact ⟨m + 1, by omega, by go_num, hr, hbr⟩
                  case measure => simp [intOf]; omega
              · have HX := Lib.hid (flip_yes (by omega) HM.out)
                have hmi : ¬ (m : Int) < (fp.length : Int) := by omega
                clear HM
                go_wp2_with fail
                go_ret
                exact ⟨ret_int (match_ok HE.out HSH.out HA.out HF.out HX.out).symm, hbw⟩
  · have hne : (flitchE fl != 0) = true := by simpa using he
    have HM := Lib.hid (match_flitch (lv := lv) (fp := fp) he)
    obtain ⟨E, hE⟩ : ∃ E, E = flitchE fl := ⟨_, rfl⟩
    rw [← hE] at hne HM
    have HE := Lib.hid hE.symm
    clear he hE
    go_enter Try.func35, Try.ntmps35
    go_wp2_with (go_at_call 49; refine (refCheckFlitch_is af fl cf _ HE.out (hv1.keep ((Below.refl _ _).alloc (Nat.le_refl _) _)) hl1).mono ?_; rintro e w1 ⟨rfl, hb⟩; have HB := Lib.hid (((Below.refl _ _).alloc (Nat.le_refl _) _).trans (hb.mono (by simp))); clear hb)
    go_ret
    exact ⟨ret_int HM.out.symm, HB.out⟩
end Go.Proofs.Ytepiapgcpoifpaa
