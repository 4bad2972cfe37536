/- What the reference's Equilibrium returns. -/
import Derived.Test.YthhchnhidhgccaaTable4
set_option linter.unusedVariables false
set_option linter.unusedSimpArgs false
namespace Go.Proofs.Ythhchnhidhgccaa
open Go Go.RowKit

theorem baseFloor_is (n d : Int) (w : World) {q : Int} (hq : q = n / d) (hd : 1 ≤ d) (h1 : -4611686018427387904 ≤ n) (h2 : n ≤ 4611686018427387904) (h3 : d ≤ 4611686018427387904) :
    Calls Try.prog 97 #[.int .i64 n, .int .i64 d] w fun e w' => e = .returned (.int .i64 q) ∧ w = w' := by
  subst hq; exact baseFloor_any n d w hd h1 h2 h3

set_option maxRecDepth 100000 in
set_option maxHeartbeats 4000000 in
theorem refEq_any (a : Option Addr) (t : List Knot) (c : Nat) (h : Int) (w : World) (hv : Knots.V w a t) (hl : t.length ≤ 9223372036854775807) (hok : TableOk t) (hh1 : 0 ≤ h) (hh2 : h ≤ 1000) :
    Calls Try.prog 53 #[.slice a t.length c, .int .i64 h] w fun e w' => e = .returned (.int .i64 (eqVal t h)) ∧ Below w.heap.size w w' := by
  have HOK := Lib.hid hok
  have hpos := hok.pos
  clear hok
  obtain ⟨bk, off, ha, hall⟩ := hv (by rintro rfl; simp at hpos)
  subst ha
  obtain ⟨d0, d1, -⟩ := hall 0 t[0] (List.getElem?_eq_getElem hpos)
  simp only [Nat.zero_mul, Nat.add_zero] at d0 d1
  have hn0 : (0 : Int) < (t.length : Int) := by omega
  by_cases h0 : h ≤ t[0].at_
  · have HZ := Lib.hid (eqVal_zero hpos h0)
    clear hall
    generalize t[0] = z at *
    go_enter Try.func53, Try.ntmps53
    go_wp2_with fail
    go_ret
    exact ⟨ret_int (by go_tidy; rw [HZ.out]), Below.refl _ _⟩
  · have H0 := Lib.hid (show ∀ j (hj : j < t.length), j < 1 → t[j].at_ < h by
      intro j hj hj1
      obtain rfl : j = 0 := by omega
      omega)
    have hbef : t[0].at_ < h := by omega
    obtain ⟨z0, hz0⟩ : ∃ z, z = t[0] := ⟨_, rfl⟩
    rw [← hz0] at d0 d1 hbef
    clear h0 hz0
    have HALL := Lib.hid hall
    clear hall
    go_enter Try.func53, Try.ntmps53
    go_wp2_with fail
    clear d0 d1 hbef
    go_loopw [5] (fun i wr => ∃ k : Nat, k ≤ t.length ∧ 1 ≤ k ∧ i = .int .i64 k ∧ Hid (∀ j (hj : j < t.length), j < k → t[j].at_ < h) ∧ Below w.heap.size w wr) (fun i _ => t.length - (intOf i).toNat)
    case atStart => exact ⟨1, by omega, Nat.le_refl _, rfl, H0, Below.refl _ _⟩
    case round =>
      clear H0
      obtain ⟨k, hk, hkp, rfl, HK, hbw⟩ := hrel
      have hsz := hbw.size
      by_cases hlt : k < t.length
      · have hk1 : k - 1 < t.length := by omega
        have hord : t[k - 1].at_ < t[k].at_ := (List.pairwise_iff_getElem.1 HOK.out.asc) (k - 1) k hk1 hlt (by omega)
        have hprev := HK.out (k - 1) hk1 (by omega)
        have hba := HOK.out.bd _ (List.getElem_mem hk1)
        have hbb := HOK.out.bd _ (List.getElem_mem hlt)
        have HZF := Lib.hid (fun hp' : h ≤ t[k].at_ => show eqVal t h = interp t[k - 1] t[k] h by
          obtain ⟨j, rfl⟩ : ∃ j, k = j + 1 := ⟨k - 1, by omega⟩
          exact eqVal_mid hlt hp' (fun j hj hjk => by have := HK.out j hj hjk; omega))
        have HKN := Lib.hid (fun hp' : t[k].at_ < h => show ∀ j (hj : j < t.length), j < k + 1 → t[j].at_ < h by
          intro j hj hjk
          rcases Nat.lt_succ_iff_lt_or_eq.1 hjk with hh | rfl
          · exact HK.out j hj hh
          · exact hp')
        obtain ⟨e0, e1, -⟩ := HALL.out (k - 1) t[k - 1] (List.getElem?_eq_getElem hk1)
        obtain ⟨e2, e3, -⟩ := HALL.out k t[k] (List.getElem?_eq_getElem hlt)
        clear HK
        generalize t[k - 1] = za at *
        generalize t[k] = zb at *
        obtain ⟨av, hav⟩ : ∃ x, x = za.value := ⟨_, rfl⟩
        obtain ⟨aa, haa⟩ : ∃ x, x = za.at_ := ⟨_, rfl⟩
        obtain ⟨bv, hbv⟩ : ∃ x, x = zb.value := ⟨_, rfl⟩
        obtain ⟨bat, hbat⟩ : ∃ x, x = zb.at_ := ⟨_, rfl⟩
        have f0 := cell_keep hbw e0
        have f1 := cell_keep hbw e1
        have f2 := cell_keep hbw e2
        have f3 := cell_keep hbw e3
        rw [← haa] at f0 hord hprev hba
        rw [← hav] at f1 hba
        rw [← hbat] at f2 hord hbb HKN
        rw [← hbv] at f3 hbb
        have hir := interp_ref (a := za) (b := zb) (h := h) (by rw [← haa, ← hbat]; omega)
        rw [← hav, ← haa, ← hbv, ← hbat] at hir
        have HZF' := Lib.hid (fun hp' : h ≤ bat => show eqVal t h = (av * (bat - aa) + (bv - av) * (h - aa)) / (bat - aa) by rw [hir]; exact HZF.out (by rw [← hbat]; exact hp'))
        clear HZF hir hav haa hbv hbat e0 e1 e2 e3
        have hj1 : (0 : Int) < (k : Int) := by omega
        have hj2 : (0 : Int) ≤ (k : Int) - 1 := by omega
        have hj3 : (k : Int) - 1 < (t.length : Int) := by omega
        have hj6 : (k : Int) < (t.length : Int) := by omega
        have hj4 : IntKind.i64.wrap ((k : Int) - 1) = (k : Int) - 1 := IntWalk.i64_in _ (by omega)
        have hj5 : ((k : Int) - 1).toNat = k - 1 := by omega
        have hj7 : (1 : Int) ≤ (k : Int) := by omega
        have hj8 : (k : Int) ≤ (t.length : Int) := by omega
        have hj9 : (k : Int) < (t.length : Int) + 1 := by omega
        have z1 := block_lt_of_cell f0
        simp only at z1
        go_upto_region 6 with fail
        refine wp_cut_slots [6, 7, 24, 25, 26, 27, 28, 29, 30, 31, 32] (fun u wc => ∃ g1 g2 : Nat, u 6 = .pointer (some ⟨g1, 0, none⟩) ∧ u 7 = .pointer (some ⟨g2, 0, none⟩) ∧ (wc.cell? ⟨g1, 0, none⟩ = some (.int .i64 aa) ∧ wc.cell? ⟨g1, 1, none⟩ = some (.int .i64 av) ∧ wc.cell? ⟨g2, 0, none⟩ = some (.int .i64 bat) ∧ wc.cell? ⟨g2, 1, none⟩ = some (.int .i64 bv)) ∧ Below w.heap.size w wc) ?_ ?_
        · go_region_held3 (fun w' => w'.cell? ⟨bk, off + (k - 1) * 2, none⟩ = some (.int .i64 aa) ∧ w'.cell? ⟨bk, off + (k - 1) * 2 + 1, none⟩ = some (.int .i64 av) ∧ w'.cell? ⟨bk, off + k * 2, none⟩ = some (.int .i64 bat) ∧ w'.cell? ⟨bk, off + k * 2 + 1, none⟩ = some (.int .i64 bv)) (go_keep) (fail)
          all_goals
            first
              | refine cut_meet (by simp [forget]) ⟨wr.heap.size, wr.heap.size + 1, rfl, rfl, ?_, ((hbw.alloc (by omega) _).alloc (by simp; omega) _).drew⟩
              | refine cut_meet (by simp [forget]) ⟨wr.heap.size + 1, wr.heap.size, rfl, rfl, ?_, ((hbw.alloc (by omega) _).alloc (by simp; omega) _).drew⟩
          all_goals exact ⟨by simp [go_sem], by simp [go_sem], by simp [go_sem], by simp [go_sem]⟩
        · rintro u wc ⟨g1, g2, h6, h7, ⟨a0, a1, b0, b1⟩, hbc⟩
          simp only [forget, List.foldl_cons, List.foldl_nil, List.setIfInBounds_toArray, List.set_cons_succ, List.set_cons_zero, h6, h7]
          clear hj1 hj2 hj3 hj4 hj5 hj6 hj7 hj9 f0 f1 f2 f3
          by_cases hp' : h ≤ bat
          · have HZ := Lib.hid (HZF'.out hp')
            have hP := prod_bd (x := bv - av) (y := h - aa) (by omega) (by omega) (by omega) (by omega)
            have hR := prod_bd (x := av) (y := bat - aa) (by omega) (by omega) (by omega) (by omega)
            clear HZF' HKN
            obtain ⟨P, hPP⟩ : ∃ P, (bv - av) * (h - aa) = P := ⟨_, rfl⟩
            obtain ⟨R, hRR⟩ : ∃ R, av * (bat - aa) = R := ⟨_, rfl⟩
            rw [hPP] at hP HZ
            rw [hRR] at hR HZ
            obtain ⟨Q, hQQ⟩ : ∃ Q, Q = (R + P) / (bat - aa) := ⟨_, rfl⟩
            rw [← hQQ] at HZ
            have HQQ := Lib.hid hQQ
            clear hQQ
            go_wp2_with (go_at_call 97; refine (baseFloor_is _ _ _ HQQ.out (by omega) (by omega) (by omega) (by omega)).mono ?_; rintro e w' ⟨rfl, rfl⟩)
            go_ret
            exact ⟨ret_int (by go_tidy; rw [HZ.out]), hbc⟩
          · have HN := Lib.hid (HKN.out (by omega))
            clear HZF' HKN
            go_wp2_with fail
            go_roundw
            case rel => exact ⟨k + 1, by omega, by omega, by go_num, HN, hbc⟩
            case measure => simp [intOf]; omega
      · have hz : ∃ z, t.getLast? = some z ∧ t[t.length - 1]? = some z := ⟨t[t.length - 1]'(by omega), by rw [List.getLast?_eq_getElem?]; exact List.getElem?_eq_getElem _, List.getElem?_eq_getElem _⟩
        obtain ⟨z, hz1, hz2⟩ := hz
        have HZ := Lib.hid (eqVal_none (h := h) hz1 (fun x hx => by
          obtain ⟨j, hj, rfl⟩ := List.mem_iff_getElem.1 hx
          have := HK.out j hj (by omega); omega))
        obtain ⟨e0, e1, -⟩ := HALL.out (t.length - 1) z hz2
        have f0 := cell_keep hbw e0
        have f1 := cell_keep hbw e1
        have hn1 : (0 : Int) ≤ (t.length : Int) - 1 := by omega
        have hn2 : (t.length : Int) - 1 < (t.length : Int) := by omega
        clear HK hz1 hz2 e0 e1
        go_wp2_with fail
        go_ret
        exact ⟨ret_int (by go_tidy; rw [HZ.out]), hbw⟩
end Go.Proofs.Ythhchnhidhgccaa
