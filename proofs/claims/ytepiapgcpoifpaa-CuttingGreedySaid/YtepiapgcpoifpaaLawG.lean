/- The closed cells of the row of CuttingGreedy are what the program forces. CuttingGreedy returns true for every input: Greedy returns the greedy plan, or the error that the document specifies. No condition. -/
import Derived.Test.YtepiapgcpoifpaaFrame
import Derived.Test.YtepiapgcpoifpaaRG
import Derived.Test.YtepiapgcpoifpaaJob7
set_option linter.unusedVariables false
namespace Go.Proofs.Ytepiapgcpoifpaa
open Go Go.ChangeShapes Go.WideShapes Go.ChangeAt Go.RowKit
set_option maxRecDepth 100000
theorem cuttingGreedy_inPlace : (Rows.cuttingGreedyRow.inPlace == Try.checked.prog.inPlace 3) = true := by kernel_rfl
theorem cuttingGreedy_unfollowed : (Rows.cuttingGreedyRow.unfollowed == Try.checked.prog.unfollowed 3) = true := by kernel_rfl
theorem cuttingGreedy_recurses : (Rows.cuttingGreedyRow.recurses == Try.checked.prog.recurses 3) = true := by kernel_rfl
theorem cuttingGreedy_named : (Rows.cuttingGreedyRow.named == Try.checked.prog.varsNamed 3) = true := by kernel_rfl
theorem cuttingGreedy_closed : joinedFacts Try.checked.prog 3 Try.f3 Rows.cuttingGreedySpec Rows.cuttingGreedyRow = true := by
  unfold joinedFacts
  rw [cuttingGreedy_inPlace, cuttingGreedy_unfollowed, cuttingGreedy_recurses, cuttingGreedy_named]
  kernel_rfl
end Go.Proofs.Ytepiapgcpoifpaa

set_option linter.unusedVariables false
set_option linter.unusedSimpArgs false
namespace Go.Proofs.Ytepiapgcpoifpaa
open Go Go.ChangeShapes Go.WideShapes Go.ChangeAt Go.RowKit

theorem planE_err {j : Job} {E : Int} (h : jobE j = E) (hE : ¬ E = 0) : planE j = ([], E) := by subst h; unfold planE; rw [if_pos hE]
theorem planE_ok {j : Job} (h : jobE j = 0) : planE j = greedyM j.stock j.blanks j.trim := by unfold planE; rw [if_neg (by simp [h])]
theorem small_few {j : Job} (hs : smallB j = true) (h : jobE j = 0) : j.blanks.length < 20 := by
  have hp := (jobOk_of h).lenB
  have hl := smallB_lens hs
  unfold smallL at hl
  omega
theorem greedyM_len {stock : List Board} {blanks : List Blank} {t : Trim} (hl : stock.length ≤ 100) : (greedyM stock blanks t).1.length ≤ 1000000 := by
  have hr : ∀ {n : Nat} {l : List Nat} {S S' : List BS}, S.length = n → runM t.kerf stock blanks l S = some S' → S'.length = n := by
    intro n l
    induction l with
    | nil => intro S S' h1 h2; injection h2 with h2; rw [← h2]; exact h1
    | cons i r ih =>
      intro S S' h1 h2
      unfold runM at h2
      split at h2
      · rename_i L' hp
        obtain ⟨i', b, s, _, _, _, e⟩ := putAll_some hp
        exact ih (by rw [e, List.length_set]; exact h1) h2
      · cases h2
  have ho : ∀ {S : List BS} {i : Nat} {acc r : List (Nat × List Cut)}, outGo i S acc = some r → r.length ≤ acc.length + S.length := by
    intro S
    induction S with
    | nil => intro i acc r h; injection h with h; rw [← h]; simp
    | cons s S ih =>
      intro i acc r h
      unfold outGo at h
      split at h
      · cases h
      · have := ih h
        split at this <;> simp at this ⊢ <;> omega
  unfold greedyM
  split
  · simp
  · rename_i L hL
    split
    · simp
    · rename_i r h
      have h1 := ho h
      have h2 := hr (n := stock.length) (by simp [startM]) hL
      simp at h1 ⊢
      omega
set_option maxRecDepth 100000 in
set_option maxHeartbeats 4000000 in
theorem walkCuttingGreedy (j : Job) (ja1 : Option Addr) (jc1 : Nat) (ja2 : Option Addr) (jc2 : Nat) (w : World) (VSj : Boards.V w ja1 j.stock) (LSj : j.stock.length ≤ 9223372036854775807) (CSj : j.stock.length ≤ jc1) (VBj : Blanks.V w ja2 j.blanks) (LBj : j.blanks.length ≤ 9223372036854775807) (CBj : j.blanks.length ≤ jc2) (WTj : j.trim.wf) :
    Calls Try.prog 3 #[.agg #[.slice ja1 j.stock.length jc1, .slice ja2 j.blanks.length jc2, .int .i64 j.trim.kerf, .int .i64 j.trim.ends, .int .i64 j.trim.sides]] w fun e w' => e = .returned (.bool true) ∧ Below w.heap.size w w' := by
  have HVS := Lib.hid VSj
  have HVB := Lib.hid VBj
  clear VSj VBj
  go_enter Try.func3, Try.ntmps3
  go_upto_region 1 with fail
  refine gen_world (fun W => JB W w.heap.size j ja1 jc1 ja2 jc2 ∧ Below w.heap.size w W ∧ w.heap.size < W.heap.size) ⟨⟨by simp, by simp, by simp, by simp, by simp⟩, (Below.refl _ _).alloc (Nat.le_refl _) _, by simp⟩ ?_
  rintro W ⟨hC, hbW, hzW⟩
  have HC := Lib.hid hC
  have HBW := Lib.hid hbW
  clear hC hbW
  go_upto_region 3 with (go_at_call 14; refine (awake_any _).mono ?_; rintro e w1 ⟨rfl, hb1⟩; have HB1 := Lib.hid hb1; clear hb1)
  have HC1 := Lib.hid (HC.out.keep HB1.out hzW)
  have HBW1 := Lib.hid (HBW.out.trans (HB1.out.mono (Nat.le_of_lt hzW)))
  have hzw1 : w.heap.size < w1.heap.size := Nat.lt_of_lt_of_le hzW HB1.out.size
  clear HC HBW HB1 hzW
  obtain ⟨k0, k1, k2, k3, k4⟩ := HC1.out
  cases hsm : smallB j
  · have HSM := Lib.hid hsm
    clear hsm
    go_wp2_with (go_at_call 15; refine (small_is j ja1 jc1 ja2 jc2 _ HSM.out (HVS.out.keep HBW1.out) LSj (HVB.out.keep HBW1.out) LBj).mono ?_; rintro e w2 ⟨rfl, hb⟩; have HB2 := Lib.hid (HBW1.out.trans (hb.mono HBW1.out.size)); clear hb)
    go_ret
    exact ⟨rfl, HB2.out⟩
  · have HSM := Lib.hid hsm
    clear hsm
    go_upto_region 5 with (go_at_call 15; refine (small_is j ja1 jc1 ja2 jc2 _ HSM.out (HVS.out.keep HBW1.out) LSj (HVB.out.keep HBW1.out) LBj).mono ?_; rintro e w2 ⟨rfl, hb⟩; have HB2 := Lib.hid hb; clear hb)
    have HC2 := Lib.hid (HC1.out.keep HB2.out hzw1)
    have HBW2 := Lib.hid (HBW1.out.trans (HB2.out.mono HBW1.out.size))
    have hzw2 : w.heap.size < w2.heap.size := Nat.lt_of_lt_of_le hzw1 HB2.out.size
    clear k0 k1 k2 k3 k4 HC1 HBW1 HB2 hzw1
    obtain ⟨k0, k1, k2, k3, k4⟩ := HC2.out
    have HFEW := Lib.hid (fun h => small_few (j := j) HSM.out h)
    obtain ⟨E, hE⟩ : ∃ E, jobE j = E := ⟨_, rfl⟩
    have HE := Lib.hid hE
    obtain ⟨q, hq⟩ : ∃ q, planE j = q := ⟨_, rfl⟩
    have HX := Lib.hid (fun w9 hs hb => greedyX_any j ja1 jc1 ja2 jc2 w9 hs LSj hb LBj HFEW.out)
    rw [hq] at HX
    go_upto_region 6 with (go_at_call 16; refine (HX.out _ (HVS.out.keep HBW2.out) (HVB.out.keep HBW2.out)).mono ?_; rintro e w3 ⟨a3, c3, rfl, hv, hc3, hm3, hb⟩; have HV3 := Lib.hid hv; have HB3 := Lib.hid (HBW2.out.trans (hb.mono HBW2.out.size)); have HC3 := Lib.hid (HC2.out.keep hb hzw2); have hz3 := hb.size; clear hv hb hc3 hm3)
    have hzw3 : w.heap.size < w3.heap.size := by omega
    clear k0 k1 k2 k3 k4
    obtain ⟨k0, k1, k2, k3, k4⟩ := HC3.out
    go_upto_region 7 with (go_at_call 17; refine (refCheckJob_any j ja1 jc1 ja2 jc2 _ (HVS.out.keep HB3.out) LSj (HVB.out.keep HB3.out) LBj).mono ?_; rw [HE.out]; rintro e w4 ⟨rfl, hb⟩; have HB4 := Lib.hid (HB3.out.trans (hb.mono HB3.out.size)); have HC4 := Lib.hid (HC3.out.keep hb hzw3); have HV4 := Lib.hid (HV3.out.keep hb); clear hb)
    clear k0 k1 k2 k3 k4
    by_cases hE0 : E = 0
    · subst hE0
      have HQ := Lib.hid (hq.symm.trans (planE_ok hE))
      have HJO := Lib.hid (jobOk_of hE)
      have HLN := Lib.hid (show q.1.length ≤ 1000000 by rw [HQ.out]; exact greedyM_len HJO.out.lenS)
      clear hE hq
      obtain ⟨k0, k1, k2, k3, k4⟩ := HC4.out
      have HRG := Lib.hid (fun w9 hs hb => refGreedy_any j ja1 jc1 ja2 jc2 w9 hs hb HJO.out)
      rw [← HQ.out] at HRG
      obtain ⟨ql, qe⟩ := q
      go_wp2_with (first
        | (go_at_call 18; refine (HRG.out _ (HVS.out.keep HB4.out) (HVB.out.keep HB4.out)).mono ?_; rintro e w5 ⟨a5, c5, rfl, hv, hc5, hm5, hb⟩; have HV5 := Lib.hid hv; have HB5 := Lib.hid (HB4.out.trans (hb.mono HB4.out.size)); have HV4' := Lib.hid (HV4.out.keep hb); clear hv hb hc5 hm5)
        | (go_at_call 19; refine (samePlans_same a3 a5 (planL ql) _ _ _ _ (by simp [planL]) HV4'.out HV5.out (by have h : ql.length ≤ 1000000 := HLN.out; simpa [planL] using h)).mono ?_; rintro e w6 ⟨rfl, hb⟩; have HB6 := Lib.hid (HB5.out.trans (hb.mono HB5.out.size)); clear hb))
      go_ret
      exact ⟨ret_bool (by simp), HB6.out⟩
    · have hne := bne_t5 hE0
      have hqe := hq.symm.trans (planE_err hE hE0)
      subst hqe
      clear hE hq hE0 HX
      go_wp2_with fail
      go_ret
      exact ⟨ret_bool (by simp), HB4.out⟩
set_option maxRecDepth 100000 in
theorem cuttingGreedy_walks : Walks 3 Try.f3 := by
  intro H enc W base args ds p hval hA hlt
  rw [Try.params3] at hA hval
  obtain ⟨v0, vs0, d0, ds0, p0, q0, hargs, rfl, rfl, ⟨fu0, hf0⟩, r0⟩ := trodAll_cons hA
  obtain ⟨rfl, rfl, rfl⟩ := trodAll_nil r0
  obtain rfl : args = #[v0] := by cases args; simp_all
  obtain ⟨cs0, rfl, -⟩ := okWide_struct Try.underlying27 (hval 0 27 v0 rfl rfl)
  obtain ⟨j0, a0, c0, b0, d0, hc0, ⟨V0, C0, M0⟩, ⟨U0, D0, N0⟩, W0⟩ := Job.open_ hf0
  have hd0 : cs0 = #[.slice a0 j0.stock.length c0, .slice b0 j0.blanks.length d0, .int .i64 j0.trim.kerf, .int .i64 j0.trim.ends, .int .i64 j0.trim.sides] := by
    cases cs0; simpa [Value.cells] using hc0
  subst hd0
  exact walkCuttingGreedy j0 a0 c0 b0 d0 W V0 (by unfold maxLen at M0; omega) C0 U0 (by unfold maxLen at N0; omega) D0 W0

set_option maxRecDepth 100000 in
theorem cuttingGreedy_holds : Rows.CuttingGreedySaid :=
  law_holds (s := Rows.cuttingGreedySpec) (c := Rows.cuttingGreedyRow) 3 Try.f3 rfl
    (fun H ds h => by match ds, h with | [_], _ => rfl) (by kernel_rfl) (by kernel_rfl)
    rfl rfl rfl rfl rfl rfl rfl ⟨rfl, rfl, rfl, rfl, rfl⟩ rfl rfl rfl rfl rfl rfl rfl rfl rfl rfl (fun _ _ => rfl) (by kernel_rfl) Try.func3
    cuttingGreedy_closed (of_decide_eq_true (by kernel_rfl)) (by unfold Func.isWrapper; first | (rw [if_pos (by decide +kernel)]; kernel_rfl) | (rw [if_neg (by decide +kernel)]; exact ⟨rfl, rfl⟩)) (by kernel_rfl)
    (fun H enc os => ChangeSpec.witness6 (enc := enc) (C := Try.checked) false ⟨#[], #[.agg #[.slice none 0 0, .slice none 0 0, .int .i64 0, .int .i64 0, .int .i64 0]], []⟩ 8 (by kernel_rfl) (by kernel_rfl) (by kernel_rfl) (by kernel_rfl))
    cuttingGreedy_walks
end Go.Proofs.Ytepiapgcpoifpaa
