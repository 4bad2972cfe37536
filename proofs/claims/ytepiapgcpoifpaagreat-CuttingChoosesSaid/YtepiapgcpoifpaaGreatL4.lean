/- The least number of bars of the program. -/
import Derived.Test.YtepiapgcpoifpaaGreatL3
set_option linter.unusedVariables false
set_option linter.unusedSimpArgs false
namespace Go.Proofs.YtepiapgcpoifpaaGreat
open Go Go.RowKit

def leastGo (kerf : Int) : List Int → Int → Nat → Int × Int
  | [], need, n => if 0 < need then (0, 12) else (n, 0)
  | v :: r, need, n => if 0 < need then leastGo kerf r (need - (v + kerf)) (n + 1) else (n, 0)
def sumK (kerf : Int) : List Int → Int
  | [] => 0
  | x :: r => x + kerf + sumK kerf r
def leastM (st ln : List Int) (kerf : Int) : Int × Int := if crossE st ln kerf ≠ 0 then (0, crossE st ln kerf) else leastGo kerf (fallL st) (sumK kerf ln) 0
theorem leastGo_stop {kerf : Int} {l : List Int} {need : Int} {n : Nat} {q : Int × Int} (h : q = leastGo kerf l need n) (hn : ¬ 0 < need) : q = ((n : Int), 0) := by
  rw [h]
  cases l <;> simp [leastGo, hn]
theorem leastGo_out {kerf : Int} {l : List Int} {k : Nat} {need : Int} {n : Nat} {q : Int × Int} (hk : l.length ≤ k) (h : q = leastGo kerf (l.drop k) need n) (hn : 0 < need) : q = (0, 12) := by
  rw [h, List.drop_of_length_le hk]
  simp [leastGo, hn]
theorem leastGo_step {kerf : Int} {l : List Int} {k : Nat} {need : Int} {n : Nat} {q : Int × Int} (hk : k < l.length) (h : q = leastGo kerf (l.drop k) need n) (hn : 0 < need) : q = leastGo kerf (l.drop (k + 1)) (need - (l[k] + kerf)) (n + 1) := by
  rw [h, List.drop_eq_getElem_cons hk, leastGo, if_pos hn]
theorem sumK_step {kerf : Int} {l : List Int} {k : Nat} (hk : k < l.length) : sumK kerf (l.drop k) = l[k] + kerf + sumK kerf (l.drop (k + 1)) := by rw [List.drop_eq_getElem_cons hk, sumK]
theorem cross_ok {st ln : List Int} {kerf : Int} (h : crossE st ln kerf = 0) : (st.length ≤ 10 ∧ ln.length ≤ 10) ∧ (∀ x ∈ st, 1 ≤ x ∧ x ≤ 600000) ∧ (∀ x ∈ ln, 1 ≤ x ∧ x ≤ 600000) ∧ (0 ≤ kerf ∧ kerf ≤ 10000) := by
  unfold crossE at h
  split at h
  · cases h
  · split at h
    · cases h
    · split at h
      · cases h
      · rename_i h1 h2 h3
        simp only [Bool.not_eq_false] at h2 h3
        rw [List.all_eq_true] at h2
        exact ⟨by omega, fun x hx => withinB_true (h2 x (List.mem_append_left _ hx)), fun x hx => withinB_true (h2 x (List.mem_append_right _ hx)), withinB_true h3⟩
theorem fallL_len (st : List Int) : (fallL st).length = st.length := by unfold fallL; rw [sortL_len]; simp

theorem ret_least {a b : Int} {q : Int × Int} (h : q = (a, b)) : Ending.returned (.tuple #[.int .i64 a, .int .i64 b]) = .returned (.tuple #[.int .i64 q.1, .int .i64 q.2]) := by rw [h]
set_option maxRecDepth 100000 in
set_option maxHeartbeats 4000000 in
theorem leastBars_any (a1 a2 : Option Addr) (st ln : List Int) (c1 c2 : Nat) (kerf : Int) (w : World) (hv1 : IntsV w a1 st) (hv2 : IntsV w a2 ln) (hl1 : st.length ≤ 100000) (hl2 : ln.length ≤ 100000) :
    Calls Tryz.prog 41 #[.agg #[.slice a1 st.length c1, .slice a2 ln.length c2, .int .i64 kerf]] w fun e w' => e = .returned (.tuple #[.int .i64 (leastM st ln kerf).1, .int .i64 (leastM st ln kerf).2]) ∧ Below w.heap.size w w' := by
  by_cases he : crossE st ln kerf = 0
  · have HM := Lib.hid (show leastM st ln kerf = leastGo kerf ((fallL st).drop 0) (sumK kerf ln) 0 by unfold leastM; rw [if_neg (by simp [he])]; rfl)
    have HE := Lib.hid he
    have hok := cross_ok he
    generalize leastM st ln kerf = q at *
    obtain ⟨⟨s10, l10⟩, hs, hl, hk⟩ := hok
    have HS := Lib.hid hs
    have HL := Lib.hid hl
    clear he hs hl
    go_enter Tryz.func41, Tryz.ntmps41
    go_upto_region 1 with fail
    refine gen_world (fun W => CB W w.heap.size a1 st.length c1 a2 ln.length c2 kerf ∧ Below w.heap.size w W ∧ w.heap.size < W.heap.size) ⟨⟨by simp, by simp, by simp⟩, (Below.refl _ _).alloc (Nat.le_refl _) _, by simp⟩ ?_
    rintro W ⟨hC, hbW, hzW⟩
    have HC := Lib.hid hC
    have HBW := Lib.hid hbW
    obtain ⟨k0, k1, k2⟩ := hC
    clear hbW
    go_upto_region 5 with (go_at_call 71; refine (checkCross_any a1 a2 st ln c1 c2 kerf _ (intsV_keep hv1 HBW.out) (intsV_keep hv2 HBW.out) hl1 hl2).mono ?_; rw [HE.out]; rintro e w1 ⟨rfl, hb⟩; have HB1 := Lib.hid hb; clear hb)
    have HC1 := Lib.hid (HC.out.keep HB1.out)
    have HB2 := Lib.hid (HBW.out.trans (HB1.out.mono (Nat.le_of_lt hzW)))
    have hz1 := HB1.out.size
    have hzw1 : w.heap.size < w1.heap.size := by omega
    clear k0 k1 k2 HC HBW HB1 hz1
    obtain ⟨k0, k1, k2⟩ := HC1.out
    go_wp2_with fail
    clear k0 k1 k2
    go_loopw [5, 18] (fun nv iv wr => ∃ (k : Nat) (N : Int), k ≤ ln.length ∧ iv = .int .i64 k ∧ nv = .int .i64 N ∧ (0 ≤ N ∧ N ≤ 610000 * k) ∧ Hid (sumK kerf ln = N + sumK kerf (ln.drop k)) ∧ Below w1.heap.size w1 wr) (fun _ iv _ => ln.length - (intOf iv).toNat)
    case atStart => exact ⟨0, 0, Nat.zero_le _, rfl, rfl, by omega, Lib.hid (by simp), Below.refl _ _⟩
    case round =>
      obtain ⟨k, N, hkl, rfl, rfl, hN, HN, hbr⟩ := hrel
      obtain ⟨k0, k1, k2⟩ := HC1.out.keep hbr
      have hbw := HB2.out.trans (hbr.mono (Nat.le_of_lt hzw1))
      by_cases hlt : k < ln.length
      · obtain ⟨b, off, ha, hcl⟩ := intsV_keep hv2 hbw (by rintro rfl; simp at hlt)
        have c0 := hcl k ln[k] (List.getElem?_eq_getElem hlt)
        subst ha
        have hx := HL.out _ (List.getElem_mem hlt)
        have HN2 := Lib.hid (show sumK kerf ln = N + (ln[k] + kerf) + sumK kerf (ln.drop (k + 1)) by rw [HN.out, sumK_step hlt]; omega)
        have hki : (k : Int) < (ln.length : Int) := by omega
        generalize ln[k] = x at *
        have v1 : IntKind.i64.wrap (x + kerf) = x + kerf := IntWalk.i64_in _ (by omega)
        have v2 : IntKind.i64.wrap (N + (x + kerf)) = N + (x + kerf) := IntWalk.i64_in _ (by omega)
        clear HN hcl
        go_wp2_with fail
        go_roundw
        case rel => exact ⟨k + 1, N + (x + kerf), by omega, by go_num, rfl, by omega, HN2, hbr⟩
        case measure => simp [intOf]; omega
      · have HNE := Lib.hid (show sumK kerf ln = N by rw [HN.out, List.drop_of_length_le (by omega)]; simp [sumK])
        have hki : ¬ (k : Int) < (ln.length : Int) := by omega
        have HBR := Lib.hid hbr
        have HBW := Lib.hid hbw
        have hN2 : 0 ≤ N ∧ N ≤ 6100000 := by omega
        clear HN hbr hbw hN
        go_upto_region 11 with (go_at_call 73; refine (longest_any a1 st c1 _ (intsV_keep hv1 HBW.out) (by omega)).mono ?_; rintro e w2 ⟨v, rfl, ho, hb⟩; obtain ⟨a3, c3, rfl, hiv⟩ := own_ints' ho; have HIV := Lib.hid hiv; have HB3 := Lib.hid hb; clear ho hb hiv)
        rw [longM_len]
        have HB4 := Lib.hid (HBW.out.trans (HB3.out.mono HBW.out.size))
        have HC2 := Lib.hid ((HC1.out.keep HBR.out).keep HB3.out)
        have HM2 := Lib.hid (show q = leastGo kerf ((fallL st).drop 0) N 0 by rw [← HNE.out]; exact HM.out)
        have hz4 := HB4.out.size
        clear k0 k1 k2 HB3 HBW HBR HM HNE
        go_loopw [5, 6] (fun nv iv wr => ∃ (k : Nat) (N : Int), k ≤ st.length ∧ iv = .int .i64 k ∧ nv = .int .i64 N ∧ (N ≤ 6100000 ∧ -610000 ≤ N) ∧ Hid (q = leastGo kerf ((fallL st).drop k) N k) ∧ Below w2.heap.size w2 wr) (fun _ iv _ => st.length - (intOf iv).toNat)
        case atStart => exact ⟨0, N, Nat.zero_le _, rfl, rfl, by omega, HM2, Below.refl _ _⟩
        case round =>
          clear HM2 hN2 hki hkl
          obtain ⟨m, M, hm, rfl, rfl, hM, HQ, hbr⟩ := hrel
          obtain ⟨k0, k1, k2⟩ := HC2.out.keep hbr
          have hbw := HB4.out.trans (hbr.mono (by omega))
          by_cases hpos : 0 < M
          · have hpos' : M > 0 := hpos
            by_cases hlt : m < st.length
            · have hml : m < (longM st).length := by rw [longM_len]; exact hlt
              obtain ⟨i, hi⟩ : ∃ i, i = (longM st)[m] := ⟨_, rfl⟩
              have hil : i < st.length := by rw [hi]; exact longM_lt (List.getElem_mem hml)
              obtain ⟨b, off, ha, hcl⟩ := intsV_keep HIV.out hbr (by intro h0; rw [List.map_eq_nil_iff] at h0; rw [h0] at hml; simp at hml)
              have c0 := hcl m (i : Int) (by rw [List.getElem?_map, List.getElem?_eq_getElem hml, hi]; rfl)
              obtain ⟨b', off', ha', hcl'⟩ := intsV_keep hv1 hbw (by rintro rfl; simp at hlt)
              have c0' := hcl' i st[i] (List.getElem?_eq_getElem hil)
              subst ha ha'
              have hfl : m < (fallL st).length := by rw [fallL_len]; exact hlt
              have hfe : (fallL st)[m] = st[i] := by
                have h1 : (fallL st)[m]? = some st[i] := by
                  rw [← longM_vals, List.getElem?_map, List.getElem?_eq_getElem hml, ← hi]
                  simp [List.getD_eq_getElem?_getD, List.getElem?_eq_getElem hil]
                rw [List.getElem?_eq_getElem hfl] at h1
                injection h1
              have hx := HS.out _ (List.getElem_mem hil)
              have hst := leastGo_step hfl HQ.out hpos
              rw [hfe] at hst
              have HST := Lib.hid hst
              have hmi : (m : Int) < (st.length : Int) := by omega
              have hii : (i : Int) < (st.length : Int) := by omega
              have hne : ((m : Int) == (st.length : Int)) = false := beq_f (by omega)
              have hne2 : (m == st.length) = false := by simpa using (show ¬ m = st.length by omega)
              have hg1 := block_lt_of_cell c0
              have hg2 := block_lt_of_cell c0'
              simp only at hg1 hg2
              clear hcl hcl' hi hst hfe HQ
              generalize st[i] = x at *
              have v1 : IntKind.i64.wrap (x + kerf) = x + kerf := IntWalk.i64_in _ (by omega)
              have v2 : IntKind.i64.wrap (M - (x + kerf)) = M - (x + kerf) := IntWalk.i64_in _ (by omega)
              have v3 : IntKind.i64.wrap ((m : Int) + 1) = (m : Int) + 1 := IntWalk.i64_in _ (by omega)
              go_wp2_with fail
              go_quiet (fail)
              rename_i nq
              go_wp2_with fail
              go_roundw
              case rel => exact ⟨m + 1, M - (x + kerf), by omega, by go_num, rfl, by omega, HST, below_drewN hbr nq⟩
              case measure => simp [intOf]; omega
            · have HX := Lib.hid (leastGo_out (by rw [fallL_len]; omega) HQ.out hpos)
              obtain rfl : m = st.length := by omega
              go_wp2_with fail
              go_ret2
              exact ⟨ret_least HX.out, hbw⟩
          · have hpos' : ¬ M > 0 := hpos
            have HX := Lib.hid (leastGo_stop HQ.out hpos)
            go_wp2_with fail
            go_ret2
            exact ⟨ret_least HX.out, hbw⟩
  · have hne : (crossE st ln kerf != 0) = true := by simpa using he
    have HM := Lib.hid (show leastM st ln kerf = (0, crossE st ln kerf) by unfold leastM; rw [if_pos he])
    generalize leastM st ln kerf = q at *
    obtain ⟨E, hE⟩ : ∃ E, E = crossE st ln kerf := ⟨_, rfl⟩
    rw [← hE] at hne HM
    have HE := Lib.hid hE
    clear he hE
    go_enter Tryz.func41, Tryz.ntmps41
    go_wp2_with (go_at_call 71; refine (checkCross_any a1 a2 st ln c1 c2 kerf _ (intsV_keep hv1 ((Below.refl _ _).alloc (Nat.le_refl _) _)) (intsV_keep hv2 ((Below.refl _ _).alloc (Nat.le_refl _) _)) hl1 hl2).mono ?_; rw [← HE.out]; rintro e w1 ⟨rfl, hb⟩; have HB1 := Lib.hid hb; clear hb)
    go_ret2
    exact ⟨ret_least HM.out, ((Below.refl _ _).alloc (Nat.le_refl _) _).trans (HB1.out.mono (by simp))⟩
end Go.Proofs.YtepiapgcpoifpaaGreat
