/- CuttingLeaves returns true for every input: Leaves and Match return what the document specifies, or the errors; a match is accepted, and there is one where Leaves says. No condition. -/
import Derived.Test.YtepiapgcpoifpaaA8
import Derived.Test.YtepiapgcpoifpaaVV
import Derived.Test.YtepiapgcpoifpaaFactsLeaves
set_option linter.unusedVariables false
set_option linter.unusedSimpArgs false
namespace Go.Proofs.Ytepiapgcpoifpaa
open Go Go.ChangeShapes Go.WideShapes Go.ChangeAt Go.RowKit

theorem within_hi {fr : Int} {L N : Int} (h1 : 1 ≤ N) (h : withinB fr 0 (L - N) = true) : withinB fr 0 (L - 1) = true ∧ ¬ fr > L - N := by
  have := withinB_true h
  exact ⟨withinB_in (by omega), by omega⟩
set_option maxRecDepth 100000 in
set_option maxHeartbeats 8000000 in
theorem walkCuttingLeaves (fa : Option Addr) (f : List Int) (fc : Nat) (fr : Int) (n : Int) (w : World) (Vf : Intss.V w fa f) (Lf : f.length ≤ 9223372036854775807) (Cf : f.length ≤ fc) (Wfr : -9223372036854775808 ≤ fr ∧ fr ≤ 9223372036854775807) (Wn : -9223372036854775808 ≤ n ∧ n ≤ 9223372036854775807) :
    Calls Try.prog 10 #[.slice fa f.length fc, .int .i64 fr, .int .i64 n] w fun e w' => e = .returned (.bool true) ∧ Below w.heap.size w w' := by
  go_enter Try.func10, Try.ntmps10
  go_upto_region 3 with (go_at_call 14; refine (awake_any _).mono ?_; rintro e w1 ⟨rfl, hb1⟩; have HB := Lib.hid hb1; clear hb1)
  by_cases hgo : (f.length ≤ 40 ∨ 400 < f.length) ∧ f.length ≤ 420
  · have h3 : ¬ (f.length : Int) > 420 := by omega
    have hl1 : f.length ≤ 1000000 := by omega
    have hcase : (¬ (f.length : Int) > 40) ∨ ((f.length : Int) > 40 ∧ ¬ (f.length : Int) ≤ 400) := by omega
    have hlen : f.length ≤ 420 := hgo.2
    clear hgo
    by_cases hfe : flitchE f = 0
    · have HFE := Lib.hid hfe
      have HFE' := Lib.hid hfe
      cases hwn : withinB n 1 400
      · have HWN := Lib.hid hwn
        have he := faces_rng hfe hwn
        have HPL : Hid (∀ w', Below w.heap.size w w' → Calls Try.prog 47 #[.slice fa f.length fc, .int .i64 n] w' fun e w'' => e = .returned (.tuple #[.int .i64 0, .int .i64 2]) ∧ Below w'.heap.size w' w'') := Lib.hid (fun w' hb => by
          have h := leavesP_any fa f fc n w' (Vf.keep hb) hl1 Cf
          rwa [leaves_bad (by rw [he]; decide), he] at h)
        have HPM : Hid (∀ w', Below w.heap.size w w' → Calls Try.prog 48 #[.slice fa f.length fc, .int .i64 fr, .int .i64 n] w' fun e w'' => ∃ (a1 : Option Addr) (c1 : Nat) (a2 : Option Addr) (c2 : Nat), e = .returned (.tuple #[.agg #[.slice a1 0 c1, .slice a2 0 c2], .int .i64 2]) ∧ Below w'.heap.size w' w'') := Lib.hid (fun w' hb => by
          have h := matchP_any fa f fc fr n w' (Vf.keep hb) hl1 Cf
          rw [show matchM f fr n = ([], [], 2) by unfold matchM; rw [if_pos (by rw [he]; decide), he]] at h
          refine h.mono ?_
          rintro e w'' ⟨a1, c1, a2, c2, rfl, -, -, hb⟩
          exact ⟨a1, c1, a2, c2, rfl, hb⟩)
        clear hfe hwn he
        rcases hcase with h1 | ⟨h1, h2⟩
        · go_upto_region 7 with (first
            | (go_at_call 47; refine (HPL.out _ HB.out).mono ?_; rintro e w2 ⟨rfl, hb⟩; have HB2 := Lib.hid (HB.out.trans (hb.mono HB.out.size)); clear hb)
            | (go_at_call 48; refine (HPM.out _ HB2.out).mono ?_; rintro e w3 ⟨a1, c1, a2, c2, rfl, hb⟩; have HB3 := Lib.hid (HB2.out.trans (hb.mono HB2.out.size)); clear hb))
          refine gen_world (fun W => (W.cell? ⟨w3.heap.size, 0, none⟩ = some (.slice a1 0 c1) ∧ W.cell? ⟨w3.heap.size, 1, none⟩ = some (.slice a2 0 c2)) ∧ Below w.heap.size w W) ⟨⟨by simp [go_sem], by simp [go_sem]⟩, by repeat (first | exact HB3.out.alloc HB3.out.size _ | (refine Below.setCell ?_ (by first | exact HB3.out.size | (simp; done)) _))⟩ ?_
          rintro W ⟨⟨k0, k1⟩, hbW⟩
          have HBW := Lib.hid hbW
          have K0 := Lib.hid (And.intro k0 k1)
          clear hbW k0 k1
          go_upto_region 8 with (go_at_call 49; refine (refCheckFlitch_is fa f fc _ HFE.out (Vf.keep HBW.out) hl1).mono ?_; rintro e w4 ⟨rfl, hb⟩; have k0 := cell_keep hb K0.out.1; have k1 := cell_keep hb K0.out.2; have HB4 := Lib.hid (HBW.out.trans (hb.mono HBW.out.size)); clear hb)
          go_wp2_with (go_at_call 22; refine (baseWithin_is _ _ _ _ HWN.out).mono ?_; rintro e w' ⟨rfl, rfl⟩)
          go_ret
          exact ⟨ret_bool (by simp), HB4.out⟩
        · go_upto_region 7 with (first
            | (go_at_call 47; refine (HPL.out _ HB.out).mono ?_; rintro e w2 ⟨rfl, hb⟩; have HB2 := Lib.hid (HB.out.trans (hb.mono HB.out.size)); clear hb)
            | (go_at_call 48; refine (HPM.out _ HB2.out).mono ?_; rintro e w3 ⟨a1, c1, a2, c2, rfl, hb⟩; have HB3 := Lib.hid (HB2.out.trans (hb.mono HB2.out.size)); clear hb))
          refine gen_world (fun W => (W.cell? ⟨w3.heap.size, 0, none⟩ = some (.slice a1 0 c1) ∧ W.cell? ⟨w3.heap.size, 1, none⟩ = some (.slice a2 0 c2)) ∧ Below w.heap.size w W) ⟨⟨by simp [go_sem], by simp [go_sem]⟩, by repeat (first | exact HB3.out.alloc HB3.out.size _ | (refine Below.setCell ?_ (by first | exact HB3.out.size | (simp; done)) _))⟩ ?_
          rintro W ⟨⟨k0, k1⟩, hbW⟩
          have HBW := Lib.hid hbW
          have K0 := Lib.hid (And.intro k0 k1)
          clear hbW k0 k1
          go_upto_region 8 with (go_at_call 49; refine (refCheckFlitch_is fa f fc _ HFE.out (Vf.keep HBW.out) hl1).mono ?_; rintro e w4 ⟨rfl, hb⟩; have k0 := cell_keep hb K0.out.1; have k1 := cell_keep hb K0.out.2; have HB4 := Lib.hid (HBW.out.trans (hb.mono HBW.out.size)); clear hb)
          go_wp2_with (go_at_call 22; refine (baseWithin_is _ _ _ _ HWN.out).mono ?_; rintro e w' ⟨rfl, rfl⟩)
          go_ret
          exact ⟨ret_bool (by simp), HB4.out⟩
      · have HWN := Lib.hid hwn
        obtain ⟨hn1, hn2⟩ := withinB_true hwn
        have he := faces_ok hfe hwn
        obtain ⟨N, rfl⟩ : ∃ N : Nat, n = N := ⟨n.toNat, by omega⟩
        obtain ⟨R, hR⟩ : ∃ R, R = firstRun f N := ⟨_, rfl⟩
        obtain ⟨hr1, hr2⟩ := firstRun_rng f N
        rw [← hR] at hr1 hr2
        obtain ⟨⟨X, E⟩, hXE⟩ : ∃ q, q = leavesM f N := ⟨_, rfl⟩
        have HX := Lib.hid (show (R < 0 → X = 0 ∧ E = 12) ∧ (¬ R < 0 → X = R ∧ E = 0) by
          unfold leavesM at hXE
          rw [if_neg (by simp [he]), Int.toNat_natCast, ← hR] at hXE
          constructor
          · intro h; rw [if_pos h] at hXE; injection hXE with h1 h2; exact ⟨h1, h2⟩
          · intro h; rw [if_neg h] at hXE; injection hXE with h1 h2; exact ⟨h1, h2⟩)
        have HR := Lib.hid hR
        obtain ⟨⟨lv, fp, E2⟩, hM⟩ : ∃ q, q = matchM f fr N := ⟨_, rfl⟩
        have HM := Lib.hid hM
        have HPL : Hid (∀ w', Below w.heap.size w w' → Calls Try.prog 47 #[.slice fa f.length fc, .int .i64 N] w' fun e w'' => e = .returned (.tuple #[.int .i64 X, .int .i64 E]) ∧ Below w'.heap.size w' w'') := Lib.hid (fun w' hb => by
          have h := leavesP_any fa f fc N w' (Vf.keep hb) hl1 Cf
          rwa [← hXE] at h)
        have HPM : Hid (∀ w', Below w.heap.size w w' → Calls Try.prog 48 #[.slice fa f.length fc, .int .i64 fr, .int .i64 N] w' (MatchPost w' (lv, fp, E2))) := Lib.hid (fun w' hb => by
          have h := matchP_any fa f fc fr N w' (Vf.keep hb) hl1 Cf
          rwa [← hM] at h)
        have HE := Lib.hid he
        have HVF := Lib.hid Vf
        clear hfe hwn he hXE hM hR
        have v0 : IntKind.i64.wrap ((f.length : Int) - (N : Int)) = (f.length : Int) - (N : Int) := IntWalk.i64_in _ (by omega)
        rcases hcase with h1 | ⟨h1, h2⟩
        · go_upto_region 7 with (first
            | (go_at_call 47; refine (HPL.out _ HB.out).mono ?_; rintro e w2 ⟨rfl, hb⟩; have HB2 := Lib.hid (HB.out.trans (hb.mono HB.out.size)); clear hb)
            | (go_at_call 48; refine (HPM.out _ HB2.out).mono ?_; rintro e w3 ⟨a1, c1, a2, c2, rfl, hvl, hvp, hb⟩; have HB3 := Lib.hid (HB2.out.trans (hb.mono HB2.out.size)); have HVL := Lib.hid hvl; have HVP := Lib.hid hvp; clear hb hvl hvp))
          refine gen_world (fun W => (W.cell? ⟨w3.heap.size, 0, none⟩ = some (.slice a1 lv.length c1) ∧ W.cell? ⟨w3.heap.size, 1, none⟩ = some (.slice a2 fp.length c2)) ∧ Below w3.heap.size w3 W) ⟨⟨by simp [go_sem], by simp [go_sem]⟩, by repeat (first | exact (Below.refl _ _).alloc (Nat.le_refl _) _ | (refine Below.setCell ?_ (by simp) _))⟩ ?_
          rintro W ⟨⟨k0, k1⟩, hbW⟩
          have HBW3 := Lib.hid hbW
          have HBW := Lib.hid (HB3.out.trans (hbW.mono HB3.out.size))
          have K0 := Lib.hid (And.intro k0 k1)
          clear hbW k0 k1
          go_upto_region 13 with (first
            | (go_at_call 49; refine (refCheckFlitch_is fa f fc _ HFE.out (Vf.keep HBW.out) hl1).mono ?_; rintro e w4 ⟨rfl, hb⟩; have k0 := cell_keep hb K0.out.1; have k1 := cell_keep hb K0.out.2; have HB4 := Lib.hid (HBW.out.trans (hb.mono HBW.out.size)); have HB43 := Lib.hid (HBW3.out.trans (hb.mono HBW3.out.size)); clear hb)
            | (go_at_call 22; refine (baseWithin_is _ _ _ _ HWN.out).mono ?_; rintro e w' ⟨rfl, rfl⟩))
          have K4 := Lib.hid (And.intro k0 k1)
          clear k0 k1
          go_wp2_with fail
          go_loopw [13, 12] (fun iv fv wr => ∃ i F : Int, iv = .int .i64 i ∧ fv = .int .i64 F ∧ (-401 ≤ i ∧ i ≤ (f.length : Int) - N) ∧ Hid (F = firstI (runP f N) (i + 1).toNat (runsN f N - (i + 1).toNat)) ∧ Below w4.heap.size w4 wr) (fun iv _ _ => (intOf iv + 1).toNat)
          case atStart => exact ⟨(f.length : Int) - N, -1, rfl, rfl, by omega, Lib.hid (by unfold runsN; rw [show f.length + 1 - N - ((f.length : Int) - N + 1).toNat = 0 by omega]; rfl), Below.refl _ _⟩
          case round =>
            obtain ⟨i, F, rfl, rfl, hi, HF, hbr⟩ := hrel
            have HBR := Lib.hid hbr
            have HBX := Lib.hid (HB4.out.trans (hbr.mono HB4.out.size))
            clear hbr
            by_cases hge : i ≥ 0
            · obtain ⟨k, rfl⟩ : ∃ k : Nat, i = k := ⟨i.toNat, by omega⟩
              have hkn : k + N ≤ f.length := by omega
              obtain ⟨b, off, rfl⟩ := HVF.out.some_of (by omega)
              have v1 : IntKind.i64.wrap ((k : Int) + (N : Int)) = (k : Int) + (N : Int) := IntWalk.i64_in _ (by omega)
              have v2 : IntKind.i64.wrap ((k : Int) - 1) = (k : Int) - 1 := IntWalk.i64_in _ (by omega)
              have hki : (k : Int) + (N : Int) ≤ (f.length : Int) := by omega
              cases hq : runP f N k
              · have HS := Lib.hid (show F = firstI (runP f N) ((k : Int) - 1 + 1).toNat (runsN f N - ((k : Int) - 1 + 1).toNat) by
                  rw [show ((k : Int) - 1 + 1).toNat = k by omega, firstI_step (by unfold runsN; omega) hq, HF.out, show ((k : Int) + 1).toNat = k + 1 by omega, Nat.sub_sub])
                have HQ := Lib.hid hq
                clear hq HF
                go_wp2_with (go_at_call 50; refine (refFollow_sub f b off N k _ _ HQ.out (HVF.out.keep HBX.out) HFE'.out hkn).mono ?_; rintro e w5 ⟨rfl, hb⟩; have HB5 := Lib.hid (HBR.out.trans (hb.mono HBR.out.size)); clear hb)
                go_roundw
                case rel => exact ⟨(k : Int) - 1, F, by go_num, rfl, by omega, HS, HB5.out⟩
                case measure => simp [intOf]
              · have HS := Lib.hid (show (k : Int) = firstI (runP f N) ((k : Int) - 1 + 1).toNat (runsN f N - ((k : Int) - 1 + 1).toNat) by
                  rw [show ((k : Int) - 1 + 1).toNat = k by omega, firstI_hit (by unfold runsN; omega) hq])
                have HQ := Lib.hid hq
                clear hq HF
                go_wp2_with (go_at_call 50; refine (refFollow_sub f b off N k _ _ HQ.out (HVF.out.keep HBX.out) HFE'.out hkn).mono ?_; rintro e w5 ⟨rfl, hb⟩; have HB5 := Lib.hid (HBR.out.trans (hb.mono HBR.out.size)); clear hb)
                go_roundw
                case rel => exact ⟨(k : Int) - 1, (k : Int), by go_num, rfl, by omega, HS, HB5.out⟩
                case measure => simp [intOf]
            · have hFR := HF.out
              rw [show (i + 1).toNat = 0 by omega, Nat.sub_zero] at hFR
              obtain rfl : F = R := hFR.trans HR.out.symm
              have k0 := cell_keep HBR.out K4.out.1
              have k1 := cell_keep HBR.out K4.out.2
              have hg := block_lt_of_cell k0
              simp only at hg
              clear HF hFR
              have hx : (F < 0 ∧ X = 0 ∧ E = 12) ∨ (¬ F < 0 ∧ F ≥ 0 ∧ X = F ∧ E = 0) := by
                by_cases h : F < 0
                · exact .inl ⟨h, HX.out.1 h⟩
                · exact .inr ⟨h, by omega, HX.out.2 (by omega)⟩
              have v3 : IntKind.i64.wrap ((f.length : Int) - 1) = (f.length : Int) - 1 := IntWalk.i64_in _ (by omega)
              have HMC := Lib.hid (show (¬ withinB fr 0 ((f.length : Int) - 1) = true ∨ fr > (f.length : Int) - N → lv = [] ∧ fp = [] ∧ E2 = 6) from fun h => by
                have h2 : withinB fr 0 ((f.length : Int) - N) = false := by
                  rw [Bool.eq_false_iff]
                  intro h3
                  obtain ⟨q1, q2⟩ := within_hi (by omega) h3
                  rcases h with h | h
                  · exact h q1
                  · exact q2 h
                have h4 := HM.out
                unfold matchM at h4
                rw [if_neg (by rw [HE.out]; decide), if_pos h2] at h4
                injection h4 with e1 e2
                injection e2 with e2 e3
                exact ⟨e1, e2, e3⟩)
              cases hw1 : withinB fr 0 ((f.length : Int) - 1)
              · obtain ⟨rfl, rfl, rfl⟩ := HMC.out (.inl (by rw [hw1]; decide))
                have HW1 := Lib.hid hw1
                clear hw1 HMC HM HX
                rcases hx with ⟨g1, rfl, rfl⟩ | ⟨g1, g2, rfl, rfl⟩
                all_goals
                  go_wp2_with (go_at_call 22; refine (baseWithin_is _ _ _ _ HW1.out).mono ?_; rintro e w' ⟨rfl, rfl⟩)
                  go_ret
                  exact ⟨ret_bool (by simp), HBX.out⟩
              · have HW1 := Lib.hid hw1
                by_cases hgt : fr > (f.length : Int) - N
                · obtain ⟨rfl, rfl, rfl⟩ := HMC.out (.inr hgt)
                  clear hw1 HMC HM HX
                  rcases hx with ⟨g1, rfl, rfl⟩ | ⟨g1, g2, rfl, rfl⟩
                  all_goals
                    go_wp2_with (go_at_call 22; refine (baseWithin_is _ _ _ _ HW1.out).mono ?_; rintro e w' ⟨rfl, rfl⟩)
                    go_ret
                    exact ⟨ret_bool (by simp), HBX.out⟩
                · have hfr := withinB_true hw1
                  obtain ⟨K, rfl⟩ : ∃ K : Nat, fr = K := ⟨fr.toNat, by omega⟩
                  have hkn : K + N ≤ f.length := by omega
                  obtain ⟨b, off, rfl⟩ := HVF.out.some_of (by omega)
                  have v4 : IntKind.i64.wrap ((K : Int) + (N : Int)) = (K : Int) + (N : Int) := IntWalk.i64_in _ (by omega)
                  have hki : (K : Int) + (N : Int) ≤ (f.length : Int) := by omega
                  have h2 : withinB K 0 ((f.length : Int) - N) = true := withinB_in (by omega)
                  have HM2 := Lib.hid (show (lv, fp, E2) = if runP f N K = false then ([], [], 9) else (subI f K N, flipsM N, 0) by
                    rw [HM.out]
                    unfold matchM
                    rw [if_neg (by rw [HE.out]; decide), if_neg (by rw [h2]; decide)]; rfl)
                  clear hw1 HMC HM HX h2
                  cases hq : runP f N K
                  · have h5 := HM2.out
                    rw [if_pos hq] at h5
                    injection h5 with e1 e2
                    injection e2 with e2 e3
                    subst e1 e2 e3
                    have HQ := Lib.hid hq
                    clear hq HM2
                    rcases hx with ⟨g1, rfl, rfl⟩ | ⟨g1, g2, rfl, rfl⟩
                    all_goals
                      go_wp2_with (first
                        | (go_at_call 22; refine (baseWithin_is _ _ _ _ HW1.out).mono ?_; rintro e w' ⟨rfl, rfl⟩)
                        | (go_at_call 50; refine (refFollow_sub f b off N K _ _ HQ.out (HVF.out.keep HBX.out) HFE'.out hkn).mono ?_; rintro e w5 ⟨rfl, hb⟩; have HB5 := Lib.hid (HBX.out.trans (hb.mono HBX.out.size)); have k0' := cell_keep hb k0; have k1' := cell_keep hb k1; clear hb))
                      go_ret
                      exact ⟨ret_bool (by simp), HB5.out⟩
                  · have h5 := HM2.out
                    rw [if_neg (by rw [hq]; decide)] at h5
                    injection h5 with e1 e2
                    injection e2 with e2 e3
                    subst e3
                    have HMS := Lib.hid (match_self HFE'.out (by omega) hkn hq)
                    rw [← e1, ← e2] at HMS
                    have HLV := Lib.hid e1
                    have hl2 : lv.length ≤ 1000000 := by rw [e1, subI_len hkn]; omega
                    have hl3 : fp.length ≤ 1000000 := by rw [e2, flipsM_len]; omega
                    have HQ := Lib.hid hq
                    clear hq HM2 e1 e2
                    rcases hx with ⟨g1, rfl, rfl⟩ | ⟨g1, g2, rfl, rfl⟩
                    all_goals
                      go_upto_region 24 with (first
                        | (go_at_call 22; refine (baseWithin_is _ _ _ _ HW1.out).mono ?_; rintro e w' ⟨rfl, rfl⟩)
                        | (go_at_call 50; refine (refFollow_sub f b off N K _ _ HQ.out (HVF.out.keep HBX.out) HFE'.out hkn).mono ?_; rintro e w5 ⟨rfl, hb⟩; have HB5 := Lib.hid (HBX.out.trans (hb.mono HBX.out.size)); have HB53 := Lib.hid (HB43.out.trans ((HBR.out.mono HB43.out.size).trans (hb.mono (Nat.le_trans HB43.out.size HBR.out.size)))); have k0' := cell_keep hb k0; have k1' := cell_keep hb k1; clear hb))
                      clear k0 k1 hg
                      have hg := block_lt_of_cell k0'
                      simp only at hg
                      have HPI := Lib.hid (fun g => intsSame_is a1 (some ⟨b, off + K, none⟩) lv (subI f K N) lv.length c1 N (fc - K) (grew w5.drew g) rfl (subI_len hkn) (decide_eq_true HLV.out) (HVL.out.keep (grewB HB53.out.drew HB53.out.size g)) ((HVF.out.keep (grewB HB5.out.drew HB5.out.size g)).sub K N) hl2 (by rw [subI_len hkn]; omega))
                      have HP1 := Lib.hid (fun g => checkMatch_any (some ⟨b, off, none⟩) f fc a1 lv c1 a2 fp c2 (grew w5.drew g) (HVF.out.keep (grewB HB5.out.drew HB5.out.size g)) (HVL.out.keep (grewB HB53.out.drew HB53.out.size g)) (HVP.out.keep (grewB HB53.out.drew HB53.out.size g)) hl1 hl2 hl3)
                      have HP2 := Lib.hid (fun g => refCheckMatch_any (some ⟨b, off, none⟩) f fc a1 lv c1 a2 fp c2 (grew w5.drew g) (HVF.out.keep (grewB HB5.out.drew HB5.out.size g)) (HVL.out.keep (grewB HB53.out.drew HB53.out.size g)) (HVP.out.keep (grewB HB53.out.drew HB53.out.size g)) hl1 hl2 hl3)
                      rw [HMS.out] at HP1 HP2
                      generalize w3.heap.size = G at *
                      refine wp_region_grew (by kernel_rfl) (by kernel_rfl) ?_
                      repeat (first
                        | go_big_quiet_step (first | (go_at_call 51; exact grew_of (HPI.out _)) | (go_at_call 34; exact grew_of (HP1.out _)) | (go_at_call 35; exact grew_of (HP2.out _)))
                        | quiet_step (first | (go_at_call 51; exact grew_of (HPI.out _)) | (go_at_call 34; exact grew_of (HP1.out _)) | (go_at_call 35; exact grew_of (HP2.out _))))
                      refine wpQuiet_nil ?_
                      rintro _ ⟨g, rfl⟩
                      go_wp2_with fail
                      go_ret
                      exact ⟨ret_bool (by simp), grewB HB5.out HB5.out.size g⟩
        · exfalso
          have := flitch_len HFE.out
          omega
    · have he := faces_flitch (n := n) hfe
      obtain ⟨E, hE⟩ : ∃ E, flitchE f = E := ⟨_, rfl⟩
      rw [hE] at hfe he
      have HFE := Lib.hid hE
      have hne : (E == 0) = false := beq_f hfe
      have hne2 : (E != 0) = true := by simpa using hfe
      have HWN := Lib.hid (show withinB n 1 400 = withinB n 1 400 from rfl)
      have HPL : Hid (∀ w', Below w.heap.size w w' → Calls Try.prog 47 #[.slice fa f.length fc, .int .i64 n] w' fun e w'' => e = .returned (.tuple #[.int .i64 0, .int .i64 E]) ∧ Below w'.heap.size w' w'') := Lib.hid (fun w' hb => by
        have h := leavesP_any fa f fc n w' (Vf.keep hb) hl1 Cf
        rwa [leaves_bad (by rw [he]; exact hfe), he] at h)
      have HPM : Hid (∀ w', Below w.heap.size w w' → Calls Try.prog 48 #[.slice fa f.length fc, .int .i64 fr, .int .i64 n] w' fun e w'' => ∃ (a1 : Option Addr) (c1 : Nat) (a2 : Option Addr) (c2 : Nat), e = .returned (.tuple #[.agg #[.slice a1 0 c1, .slice a2 0 c2], .int .i64 E]) ∧ Below w'.heap.size w' w'') := Lib.hid (fun w' hb => by
        have h := matchP_any fa f fc fr n w' (Vf.keep hb) hl1 Cf
        rw [show matchM f fr n = ([], [], E) by unfold matchM; rw [if_pos (by rw [he]; exact hfe), he]] at h
        refine h.mono ?_
        rintro e w'' ⟨a1, c1, a2, c2, rfl, -, -, hb⟩
        exact ⟨a1, c1, a2, c2, rfl, hb⟩)
      clear hfe he hE
      rcases hcase with h1 | ⟨h1, h2⟩
      · go_upto_region 7 with (first
          | (go_at_call 47; refine (HPL.out _ HB.out).mono ?_; rintro e w2 ⟨rfl, hb⟩; have HB2 := Lib.hid (HB.out.trans (hb.mono HB.out.size)); clear hb)
          | (go_at_call 48; refine (HPM.out _ HB2.out).mono ?_; rintro e w3 ⟨a1, c1, a2, c2, rfl, hb⟩; have HB3 := Lib.hid (HB2.out.trans (hb.mono HB2.out.size)); clear hb))
        refine gen_world (fun W => (W.cell? ⟨w3.heap.size, 0, none⟩ = some (.slice a1 0 c1) ∧ W.cell? ⟨w3.heap.size, 1, none⟩ = some (.slice a2 0 c2)) ∧ Below w.heap.size w W) ⟨⟨by simp [go_sem], by simp [go_sem]⟩, by repeat (first | exact HB3.out.alloc HB3.out.size _ | (refine Below.setCell ?_ (by first | exact HB3.out.size | (simp; done)) _))⟩ ?_
        rintro W ⟨⟨k0, k1⟩, hbW⟩
        have HBW := Lib.hid hbW
        have K0 := Lib.hid (And.intro k0 k1)
        clear hbW k0 k1
        go_upto_region 8 with (go_at_call 49; refine (refCheckFlitch_is fa f fc _ HFE.out (Vf.keep HBW.out) hl1).mono ?_; rintro e w4 ⟨rfl, hb⟩; have k0 := cell_keep hb K0.out.1; have k1 := cell_keep hb K0.out.2; have HB4 := Lib.hid (HBW.out.trans (hb.mono HBW.out.size)); clear hb)
        go_wp2_with (go_at_call 22; refine (baseWithin_is _ _ _ _ HWN.out).mono ?_; rintro e w' ⟨rfl, rfl⟩)
        go_ret
        exact ⟨ret_bool (by simp), HB4.out⟩
      · go_upto_region 7 with (first
          | (go_at_call 47; refine (HPL.out _ HB.out).mono ?_; rintro e w2 ⟨rfl, hb⟩; have HB2 := Lib.hid (HB.out.trans (hb.mono HB.out.size)); clear hb)
          | (go_at_call 48; refine (HPM.out _ HB2.out).mono ?_; rintro e w3 ⟨a1, c1, a2, c2, rfl, hb⟩; have HB3 := Lib.hid (HB2.out.trans (hb.mono HB2.out.size)); clear hb))
        refine gen_world (fun W => (W.cell? ⟨w3.heap.size, 0, none⟩ = some (.slice a1 0 c1) ∧ W.cell? ⟨w3.heap.size, 1, none⟩ = some (.slice a2 0 c2)) ∧ Below w.heap.size w W) ⟨⟨by simp [go_sem], by simp [go_sem]⟩, by repeat (first | exact HB3.out.alloc HB3.out.size _ | (refine Below.setCell ?_ (by first | exact HB3.out.size | (simp; done)) _))⟩ ?_
        rintro W ⟨⟨k0, k1⟩, hbW⟩
        have HBW := Lib.hid hbW
        have K0 := Lib.hid (And.intro k0 k1)
        clear hbW k0 k1
        go_upto_region 8 with (go_at_call 49; refine (refCheckFlitch_is fa f fc _ HFE.out (Vf.keep HBW.out) hl1).mono ?_; rintro e w4 ⟨rfl, hb⟩; have k0 := cell_keep hb K0.out.1; have k1 := cell_keep hb K0.out.2; have HB4 := Lib.hid (HBW.out.trans (hb.mono HBW.out.size)); clear hb)
        go_wp2_with (go_at_call 22; refine (baseWithin_is _ _ _ _ HWN.out).mono ?_; rintro e w' ⟨rfl, rfl⟩)
        go_ret
        exact ⟨ret_bool (by simp), HB4.out⟩
  · by_cases h1 : (f.length : Int) > 40
    · by_cases h2 : (f.length : Int) ≤ 400
      · go_wp2_with fail
        go_ret
        exact ⟨rfl, HB.out⟩
      · have h3 : (f.length : Int) > 420 := by omega
        go_wp2_with fail
        go_ret
        exact ⟨rfl, HB.out⟩
    · exfalso
      omega
set_option maxRecDepth 100000 in
theorem cuttingLeaves_walks : Walks 10 Try.f10 := by
  intro H enc W base args ds p hval hA hlt
  rw [Try.params10] at hA hval
  obtain ⟨v0, vs0, d0, ds0, p0, q0, hargs, rfl, rfl, ⟨fu0, hf0⟩, r0⟩ := trodAll_cons hA
  obtain ⟨v1, vs1, d1, ds1, p1, q1, rfl, rfl, rfl, ⟨fu1, hf1⟩, r1⟩ := trodAll_cons r0
  obtain ⟨v2, vs2, d2, ds2, p2, q2, rfl, rfl, rfl, ⟨fu2, hf2⟩, r2⟩ := trodAll_cons r1
  obtain ⟨rfl, rfl, rfl⟩ := trodAll_nil r2
  obtain rfl : args = #[v0, v1, v2] := by cases args; simp_all
  obtain ⟨_, _, _, rfl⟩ := okWide_slice Try.underlying59 (hval 0 59 v0 rfl rfl)
  obtain ⟨a0, f, c0, e0, V0, C0, M0⟩ := Intss.open_ hf0
  rw [e0]
  obtain ⟨fr, rfl⟩ := okWide_int Try.underlying3 (hval 1 3 v1 rfl rfl)
  obtain ⟨s1, g1, -, q1⟩ := DataW.trod_int Try.underlying3 hf1
  obtain rfl : s1 = fr := by simpa [Value.cells] using g1.symm
  obtain ⟨n, rfl⟩ := okWide_int Try.underlying3 (hval 2 3 v2 rfl rfl)
  obtain ⟨s2, g2, -, q2⟩ := DataW.trod_int Try.underlying3 hf2
  obtain rfl : s2 = n := by simpa [Value.cells] using g2.symm
  exact walkCuttingLeaves a0 f c0 s1 s2 W V0 (by unfold maxLen at M0; omega) C0 (int_wf q1) (int_wf q2)

set_option maxRecDepth 100000 in
theorem cuttingLeaves_holds : Rows.CuttingLeavesSaid :=
  law_holds (s := Rows.cuttingLeavesSpec) (c := Rows.cuttingLeavesRow) 10 Try.f10 rfl
    (fun H ds h => by match ds, h with | [_, _, _], _ => rfl) (by kernel_rfl) (by kernel_rfl)
    rfl rfl rfl rfl rfl rfl rfl ⟨rfl, rfl, rfl, rfl, rfl⟩ rfl rfl rfl rfl rfl rfl rfl rfl rfl rfl (fun _ _ => rfl) (by kernel_rfl) Try.func10
    cuttingLeaves_closed (of_decide_eq_true (by kernel_rfl)) (by unfold Func.isWrapper; first | (rw [if_pos (by decide +kernel)]; kernel_rfl) | (rw [if_neg (by decide +kernel)]; exact ⟨rfl, rfl⟩)) (by kernel_rfl)
    (fun H enc os => ChangeSpec.witness6 (enc := enc) (C := Try.checked) false ⟨#[], #[.slice none 0 0, .int .i64 0, .int .i64 0], []⟩ 8 (by kernel_rfl) (by kernel_rfl) (by kernel_rfl) (by kernel_rfl))
    cuttingLeaves_walks
end Go.Proofs.Ytepiapgcpoifpaa
