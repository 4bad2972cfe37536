/- TopVeneerInSequence returns true for every input: where Leaves finds a run there is a match, which begins there; no earlier place has one, and a shorter face is found there or earlier. No condition. -/
import Derived.Test.YtepiapgcpoifpaaA8
import Derived.Test.YtepiapgcpoifpaaVV
import Derived.Test.YtepiapgcpoifpaaFactsTopVeneerInSequence
set_option linter.unusedVariables false
set_option linter.unusedSimpArgs false
namespace Go.Proofs.Ytepiapgcpoifpaa
open Go Go.ChangeShapes Go.WideShapes Go.ChangeAt Go.RowKit

set_option maxRecDepth 100000 in
set_option maxHeartbeats 4000000 in
theorem sawn_any (w : World) : Calls Try.prog 62 #[] w fun e w' => e = .returned (.bool true) ∧ Below w.heap.size w w' := by
  go_enter Try.func62, Try.ntmps62
  go_upto_region 3 with (first
    | (go_at_call 63; refine (desk_any _).mono ?_; rintro e w1 ⟨a1, c1, a2, c2, rfl, hs, hb, hbw⟩; have HS := Lib.hid hs; have HB := Lib.hid hb; have HB1 := Lib.hid hbw; clear hs hb hbw)
    | (go_at_call 16; refine (deskGreedy_any a1 c1 a2 c2 _ HS.out HB.out).mono ?_; rintro e w2 ⟨a3, c3, rfl, hbw⟩; have HB2 := Lib.hid (HB1.out.trans (hbw.mono HB1.out.size)); clear hbw)
    | (go_at_call 42; refine (deskLeast_any _ _ _ (intsV_keep (ints_new2 _ _ _ _ _ (by simp)) ((Below.refl _ _).alloc (Nat.le_refl _) _)) (ints_new3 _ _ _ _ _ _ (by simp))).mono ?_; rintro e w4 ⟨rfl, hbw⟩; have HB4 := Lib.hid (((HB2.out.alloc HB2.out.size _).alloc (by have := HB2.out.size; simp; omega) _).trans (hbw.mono (by have := HB2.out.size; simp; omega))); clear hbw))
  go_wp2_with fail
  go_ret
  exact ⟨rfl, HB4.out⟩
theorem match_err {f : List Int} {N k : Nat} (he : facesE f N = 0) (h : k + N ≤ f.length → runP f N k = false) : ¬ (matchM f k N).2.2 = 0 := by
  unfold matchM
  rw [if_neg (by simp [he])]
  split
  · decide
  · rename_i h1
    simp only [Bool.not_eq_false] at h1
    have h2 := withinB_true h1
    rw [if_pos (by have := h (by omega); simpa using this)]
    decide
theorem match_hit {f : List Int} {N k : Nat} (he : facesE f N = 0) (hk : k + N ≤ f.length) (h : runP f N k = true) : matchM f k N = (subI f k N, flipsM N, 0) := by
  unfold matchM
  rw [if_neg (by simp [he]), if_neg (by rw [withinB_in (by omega)]; decide), if_neg (by rw [Int.toNat_natCast, Int.toNat_natCast, h]; decide)]; rfl
def ErrPost (w : World) (e : Ending) (w' : World) : Prop := ∃ (a1 : Option Addr) (l1 c1 : Nat) (a2 : Option Addr) (l2 c2 : Nat) (E : Int), (E == 0) = false ∧ e = .returned (.tuple #[.agg #[.slice a1 l1 c1, .slice a2 l2 c2], .int .i64 E]) ∧ Below w.heap.size w w'
set_option maxRecDepth 100000 in
set_option maxHeartbeats 8000000 in
theorem walkTopVeneerInSequence (fa : Option Addr) (f : List Int) (fc : Nat) (n : Int) (w : World) (Vf : Intss.V w fa f) (Lf : f.length ≤ 9223372036854775807) (Cf : f.length ≤ fc) (Wn : -9223372036854775808 ≤ n ∧ n ≤ 9223372036854775807) :
    Calls Try.prog 13 #[.slice fa f.length fc, .int .i64 n] w fun e w' => e = .returned (.bool true) ∧ Below w.heap.size w w' := by
  go_enter Try.func13, Try.ntmps13
  go_upto_region 3 with (go_at_call 62; refine (sawn_any _).mono ?_; rintro e w1 ⟨rfl, hb1⟩; have HB := Lib.hid hb1; clear hb1)
  by_cases hbig : (f.length : Int) > 40
  · go_wp2_with fail
    go_ret
    exact ⟨rfl, HB.out⟩
  · have hl1 : f.length ≤ 1000000 := by omega
    have HVF := Lib.hid Vf
    by_cases hfe : flitchE f = 0
    · have HFE := Lib.hid hfe
      cases hwn : withinB n 2 40
      · have HWN := Lib.hid hwn
        clear hfe hwn
        go_wp2_with (first
          | (go_at_call 49; refine (refCheckFlitch_is fa f fc _ HFE.out (HVF.out.keep HB.out) hl1).mono ?_; rintro e w2 ⟨rfl, hb⟩; have HB2 := Lib.hid (HB.out.trans (hb.mono HB.out.size)); clear hb)
          | (go_at_call 22; refine (baseWithin_is _ _ _ _ HWN.out).mono ?_; rintro e w' ⟨rfl, rfl⟩))
        go_ret
        exact ⟨rfl, HB2.out⟩
      · have HWN := Lib.hid hwn
        have hn := withinB_true hwn
        obtain ⟨N, rfl⟩ : ∃ N : Nat, n = N := ⟨n.toNat, by omega⟩
        obtain ⟨M, rfl⟩ : ∃ M : Nat, N = M + 1 := ⟨N - 1, by omega⟩
        have he : facesE f ((M + 1 : Nat) : Int) = 0 := faces_ok hfe (withinB_in (by omega))
        have he2 : facesE f (M : Int) = 0 := faces_ok hfe (withinB_in (by omega))
        have hle := firstI_le (p := runP f (M + 1)) (q := runP f M) (m := runsN f (M + 1)) (n := runsN f M) (by unfold runsN; omega) (fun i _ h => run_less h)
        have HNO := Lib.hid (fun (h : firstRun f (M + 1) < 0) (j : Nat) => firstI_none (p := runP f (M + 1)) (k := 0) (m := runsN f (M + 1)) h j (Nat.zero_le _))
        have HYES := Lib.hid (fun (h : 0 ≤ firstRun f (M + 1)) => firstI_some (p := runP f (M + 1)) (k := 0) (m := runsN f (M + 1)) h)
        have hc := firstI_cases (p := runP f (M + 1)) (runsN f (M + 1)) 0
        have hu : ∀ K, firstI (runP f K) 0 (runsN f K) = firstRun f K := fun K => rfl
        rw [hu, hu] at hle
        rw [hu] at hc
        have HME := Lib.hid (fun k => match_err (k := k) he)
        have HMH := Lib.hid (fun k => match_hit (k := k) he)
        obtain ⟨N, hN⟩ : ∃ N, N = M + 1 := ⟨_, rfl⟩
        rw [← hN] at he hle HNO HYES hc HME HMH HWN hn ⊢
        have hMN : (N : Int) - 1 = (M : Int) := by omega
        have v0 : IntKind.i64.wrap ((N : Int) - 1) = (M : Int) := by rw [hMN]; exact IntWalk.i64_in _ (by omega)
        have hN2 : 2 ≤ N ∧ N ≤ 40 := by omega
        have HERR : Hid (∀ (k : Nat) (w' : World), Below w.heap.size w w' → (k + N ≤ f.length → runP f N k = false) → Calls Try.prog 48 #[.slice fa f.length fc, .int .i64 k, .int .i64 N] w' (ErrPost w')) := Lib.hid (fun k w' hb hk => by
          have h := matchP_any fa f fc k N w' (HVF.out.keep hb) hl1 Cf
          refine h.mono ?_
          rintro e w'' ⟨a1, c1, a2, c2, rfl, -, -, hb⟩
          exact ⟨_, _, _, _, _, _, _, beq_f (HME.out k hk), rfl, hb⟩)
        rcases hc with hr | hr
        · have hlv := leaves_none he hr
          obtain ⟨q2, hq2⟩ : ∃ q, q = leavesM f M := ⟨_, rfl⟩
          have HNO2 := Lib.hid (HNO.out (by omega))
          have HPL : Hid (∀ w', Below w.heap.size w w' → Calls Try.prog 47 #[.slice fa f.length fc, .int .i64 N] w' fun e w'' => e = .returned (.tuple #[.int .i64 0, .int .i64 12]) ∧ Below w'.heap.size w' w'') := Lib.hid (fun w' hb => by
            have h := leavesP_any fa f fc N w' (HVF.out.keep hb) hl1 Cf
            rwa [hlv] at h)
          have HPL2 : Hid (∀ w', Below w.heap.size w w' → Calls Try.prog 47 #[.slice fa f.length fc, .int .i64 M] w' fun e w'' => e = .returned (.tuple #[.int .i64 q2.1, .int .i64 q2.2]) ∧ Below w'.heap.size w' w'') := Lib.hid (fun w' hb => by
            have h := leavesP_any fa f fc M w' (HVF.out.keep hb) hl1 Cf
            rwa [← hq2] at h)
          clear hq2 hlv hr hle HNO HYES HME HMH he he2 hu hN hfe hwn hn hMN
          go_upto_region 6 with (first
            | (go_at_call 49; refine (refCheckFlitch_is fa f fc _ HFE.out (HVF.out.keep HB.out) hl1).mono ?_; rintro e w2 ⟨rfl, hb⟩; have HB2 := Lib.hid (HB.out.trans (hb.mono HB.out.size)); clear hb)
            | (go_at_call 22; refine (baseWithin_is _ _ _ _ HWN.out).mono ?_; rintro e w' ⟨rfl, rfl⟩)
            | (go_at_call 47; refine (HPL.out _ HB2.out).mono ?_; rintro e w3 ⟨rfl, hb⟩; have HB3 := Lib.hid (HB2.out.trans (hb.mono HB2.out.size)); clear hb))
          go_upto_region 8 with (go_at_call 47; refine (HPL2.out _ HB3.out).mono ?_; rintro e w4 ⟨rfl, hb⟩; have HB4 := Lib.hid (HB3.out.trans (hb.mono HB3.out.size)); clear hb)
          go_wp2_with fail
          go_loopw [9] (fun iv wr => ∃ k : Nat, k ≤ f.length ∧ iv = .int .i64 k ∧ Below w.heap.size w wr) (fun iv _ => f.length - (intOf iv).toNat)
          case atStart => exact ⟨0, Nat.zero_le _, rfl, HB4.out⟩
          case round =>
            obtain ⟨k, hk, rfl, hbr⟩ := hrel
            by_cases hlt : k < f.length
            · have hki : (k : Int) < (f.length : Int) := by omega
              go_wp2_with (go_at_call 48; refine (HERR.out k _ hbr (fun h => HNO2.out k (by unfold runsN; omega))).mono ?_; rintro e w5 ⟨a1, l1, c1, a2, l2, c2, E, hE, rfl, hb⟩; have HBE := Lib.hid (hbr.trans (hb.mono hbr.size)); clear hb)
              go_roundw
              case rel => exact ⟨k + 1, by omega, by go_num, by (repeat (first | exact HBE.out.alloc HBE.out.size _ | (refine Below.setCell ?_ (by first | exact HBE.out.size | (simp; done)) _)))⟩
              case measure => simp [intOf]; omega
            · have hki : ¬ (k : Int) < (f.length : Int) := by omega
              go_wp2_with fail
              go_ret
              exact ⟨rfl, hbr⟩
        · obtain ⟨jj, hj1, -, hj3, hj4, hj5⟩ := HYES.out hr
          rw [hu] at hj1
          have hjn : jj + N ≤ f.length := by unfold runsN at hj3; omega
          have hlv := leaves_at he hj1
          obtain ⟨g1, g2⟩ := hle hr
          obtain ⟨X2, hX2⟩ : ∃ x : Nat, firstRun f M = x := ⟨(firstRun f M).toNat, by omega⟩
          have hlv2 := leaves_at he2 hX2
          have hX : (X2 : Int) ≤ (jj : Int) := by rw [← hX2, ← hj1]; exact g2
          have HBEF := Lib.hid hj5
          have hmm := HMH.out jj hjn hj4
          have HMS := Lib.hid (match_self hfe (by omega) hjn hj4)
          have HPL : Hid (∀ w', Below w.heap.size w w' → Calls Try.prog 47 #[.slice fa f.length fc, .int .i64 N] w' fun e w'' => e = .returned (.tuple #[.int .i64 jj, .int .i64 0]) ∧ Below w'.heap.size w' w'') := Lib.hid (fun w' hb => by
            have h := leavesP_any fa f fc N w' (HVF.out.keep hb) hl1 Cf
            rwa [hlv] at h)
          have HPL2 : Hid (∀ w', Below w.heap.size w w' → Calls Try.prog 47 #[.slice fa f.length fc, .int .i64 M] w' fun e w'' => e = .returned (.tuple #[.int .i64 X2, .int .i64 0]) ∧ Below w'.heap.size w' w'') := Lib.hid (fun w' hb => by
            have h := leavesP_any fa f fc M w' (HVF.out.keep hb) hl1 Cf
            rwa [hlv2] at h)
          have HPM : Hid (∀ w', Below w.heap.size w w' → Calls Try.prog 48 #[.slice fa f.length fc, .int .i64 jj, .int .i64 N] w' (MatchPost w' (subI f jj N, flipsM N, 0))) := Lib.hid (fun w' hb => by
            have h := matchP_any fa f fc jj N w' (HVF.out.keep hb) hl1 Cf
            rwa [hmm] at h)
          have hs1 := subI_len hjn
          have hs2 := flipsM_len N
          obtain ⟨lv, hlv'⟩ : ∃ lv, lv = subI f jj N := ⟨_, rfl⟩
          obtain ⟨fp, hfp'⟩ : ∃ fp, fp = flipsM N := ⟨_, rfl⟩
          rw [← hlv'] at hs1 HMS HPM
          rw [← hfp'] at hs2 HMS HPM
          have hl2 : lv.length ≤ 1000000 := by omega
          have hl3 : fp.length ≤ 1000000 := by omega
          have HS1 := Lib.hid (show (lv.length : Int) = (N : Int) by omega)
          clear hs1 hs2
          clear hlv' hfp' hmm hlv2 hX2 g1 g2 hlv hj1 hj4 hj5 hr hle HNO HYES HME HMH he he2 hu hN hfe hwn hn hMN
          go_upto_region 6 with (first
            | (go_at_call 49; refine (refCheckFlitch_is fa f fc _ HFE.out (HVF.out.keep HB.out) hl1).mono ?_; rintro e w2 ⟨rfl, hb⟩; have HB2 := Lib.hid (HB.out.trans (hb.mono HB.out.size)); clear hb)
            | (go_at_call 22; refine (baseWithin_is _ _ _ _ HWN.out).mono ?_; rintro e w' ⟨rfl, rfl⟩)
            | (go_at_call 47; refine (HPL.out _ HB2.out).mono ?_; rintro e w3 ⟨rfl, hb⟩; have HB3 := Lib.hid (HB2.out.trans (hb.mono HB2.out.size)); clear hb))
          go_upto_region 15 with (go_at_call 47; refine (HPL2.out _ HB3.out).mono ?_; rintro e w4 ⟨rfl, hb⟩; have HB4 := Lib.hid (HB3.out.trans (hb.mono HB3.out.size)); clear hb)
          go_upto_region 16 with (go_at_call 48; refine (HPM.out _ HB4.out).mono ?_; rintro e w5 ⟨a1, c1, a2, c2, rfl, hvl, hvp, hb⟩; have HB5 := Lib.hid (HB4.out.trans (hb.mono HB4.out.size)); have HVL := Lib.hid hvl; have HVP := Lib.hid hvp; clear hb hvl hvp)
          refine gen_world (fun W => (W.cell? ⟨w5.heap.size, 0, none⟩ = some (.slice a1 lv.length c1) ∧ W.cell? ⟨w5.heap.size, 1, none⟩ = some (.slice a2 fp.length c2)) ∧ Below w5.heap.size w5 W) ⟨⟨by simp [go_sem], by simp [go_sem]⟩, by repeat (first | exact (Below.refl _ _).alloc (Nat.le_refl _) _ | (refine Below.setCell ?_ (by simp) _))⟩ ?_
          rintro W ⟨⟨k0, k1⟩, hbW⟩
          have HBW5 := Lib.hid hbW
          have HBW := Lib.hid (HB5.out.trans (hbW.mono HB5.out.size))
          have K0 := Lib.hid (And.intro k0 k1)
          clear hbW k0 k1
          go_wp2_with fail
          go_loopw [14] (fun iv wr => ∃ k : Nat, k ≤ jj ∧ iv = .int .i64 k ∧ Below W.heap.size W wr) (fun iv _ => jj - (intOf iv).toNat)
          case atStart => exact ⟨0, Nat.zero_le _, rfl, Below.refl _ _⟩
          case round =>
            obtain ⟨k, hk, rfl, hbr⟩ := hrel
            have HBR := Lib.hid hbr
            have HBX := Lib.hid (HBW.out.trans (hbr.mono HBW.out.size))
            have HBX5 := Lib.hid (HBW5.out.trans (hbr.mono HBW5.out.size))
            clear hbr
            by_cases hlt : k < jj
            · have hki : (k : Int) < (jj : Int) := by omega
              have hki2 : (k : Int) < (f.length : Int) := by omega
              go_wp2_with (go_at_call 48; refine (HERR.out k _ HBX.out (fun _ => HBEF.out k (Nat.zero_le _) hlt)).mono ?_; rintro e w6 ⟨a3, l1, c3, a4, l2, c4, E, hE, rfl, hb⟩; have HBE := Lib.hid (HBR.out.trans (hb.mono HBR.out.size)); clear hb)
              go_roundw
              case rel => exact ⟨k + 1, by omega, by go_num, by (repeat (first | exact HBE.out.alloc HBE.out.size _ | (refine Below.setCell ?_ (by first | exact HBE.out.size | (simp; done)) _)))⟩
              case measure => simp [intOf]; omega
            · have hki : ¬ (k : Int) < (jj : Int) := by omega
              have k0 := cell_keep HBR.out K0.out.1
              have k1 := cell_keep HBR.out K0.out.2
              have HP := Lib.hid (checkMatch_any fa f fc a1 lv c1 a2 fp c2 wr (HVF.out.keep HBX.out) (HVL.out.keep HBX5.out) (HVP.out.keep HBX5.out) hl1 hl2 hl3)
              rw [HMS.out] at HP
              go_wp2_with (go_at_call 34; refine HP.out.mono ?_; rintro e w6 ⟨rfl, hb⟩; have HB6 := Lib.hid (HBX.out.trans (hb.mono HBX.out.size)); have k0' := cell_keep hb k0; have k1' := cell_keep hb k1; clear hb)
              go_ret
              exact ⟨ret_bool (by simp [HS1.out]), HB6.out⟩
    · obtain ⟨E, hE⟩ : ∃ E, flitchE f = E := ⟨_, rfl⟩
      rw [hE] at hfe
      have HFE := Lib.hid hE
      have hne : (E != 0) = true := by simpa using hfe
      clear hE
      go_wp2_with (go_at_call 49; refine (refCheckFlitch_is fa f fc _ HFE.out (HVF.out.keep HB.out) hl1).mono ?_; rintro e w2 ⟨rfl, hb⟩; have HB2 := Lib.hid (HB.out.trans (hb.mono HB.out.size)); clear hb)
      go_ret
      exact ⟨rfl, HB2.out⟩
set_option maxRecDepth 100000 in
theorem topVeneerInSequence_walks : Walks 13 Try.f13 := by
  intro H enc W base args ds p hval hA hlt
  rw [Try.params13] at hA hval
  obtain ⟨v0, vs0, d0, ds0, p0, q0, hargs, rfl, rfl, ⟨fu0, hf0⟩, r0⟩ := trodAll_cons hA
  obtain ⟨v1, vs1, d1, ds1, p1, q1, rfl, rfl, rfl, ⟨fu1, hf1⟩, r1⟩ := trodAll_cons r0
  obtain ⟨rfl, rfl, rfl⟩ := trodAll_nil r1
  obtain rfl : args = #[v0, v1] := by cases args; simp_all
  obtain ⟨_, _, _, rfl⟩ := okWide_slice Try.underlying59 (hval 0 59 v0 rfl rfl)
  obtain ⟨a0, f, c0, e0, V0, C0, M0⟩ := Intss.open_ hf0
  rw [e0]
  obtain ⟨n, rfl⟩ := okWide_int Try.underlying3 (hval 1 3 v1 rfl rfl)
  obtain ⟨s1, g1, -, q1⟩ := DataW.trod_int Try.underlying3 hf1
  obtain rfl : s1 = n := by simpa [Value.cells] using g1.symm
  exact walkTopVeneerInSequence a0 f c0 s1 W V0 (by unfold maxLen at M0; omega) C0 (int_wf q1)

set_option maxRecDepth 100000 in
theorem topVeneerInSequence_holds : Rows.TopVeneerInSequenceSaid :=
  law_holds (s := Rows.topVeneerInSequenceSpec) (c := Rows.topVeneerInSequenceRow) 13 Try.f13 rfl
    (fun H ds h => by match ds, h with | [_, _], _ => rfl) (by kernel_rfl) (by kernel_rfl)
    rfl rfl rfl rfl rfl rfl rfl ⟨rfl, rfl, rfl, rfl, rfl⟩ rfl rfl rfl rfl rfl rfl rfl rfl rfl rfl (fun _ _ => rfl) (by kernel_rfl) Try.func13
    topVeneerInSequence_closed (of_decide_eq_true (by kernel_rfl)) (by unfold Func.isWrapper; first | (rw [if_pos (by decide +kernel)]; kernel_rfl) | (rw [if_neg (by decide +kernel)]; exact ⟨rfl, rfl⟩)) (by kernel_rfl)
    (fun H enc os => ChangeSpec.witness6 (enc := enc) (C := Try.checked) false ⟨#[], #[.slice none 0 0, .int .i64 0], []⟩ 8 (by kernel_rfl) (by kernel_rfl) (by kernel_rfl) (by kernel_rfl))
    topVeneerInSequence_walks
end Go.Proofs.Ytepiapgcpoifpaa
