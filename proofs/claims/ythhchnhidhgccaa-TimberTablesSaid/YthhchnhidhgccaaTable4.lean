/- What the program's Equilibrium returns. -/
import Derived.Test.YthhchnhidhgccaaTable3
import Derived.Test.YthhchnhidhgccaaGrew
import Derived.Deep.DeepCutAuto
set_option linter.unusedVariables false
set_option linter.unusedSimpArgs false
namespace Go.Proofs.Ythhchnhidhgccaa
open Go Go.RowKit

theorem floor_is (n d : Int) (w : World) {q : Int} (hq : q = n / d) (hd : 1 ≤ d) (h1 : -4611686018427387904 ≤ n) (h2 : n ≤ 4611686018427387904) :
    Calls Try.prog 96 #[.int .i64 n, .int .i64 d] w fun e w' => e = .returned (.int .i64 q) ∧ w = w' := by
  subst hq; exact timberFloor_any n d w hd h1 h2
def eqE (t : List Knot) (h : Int) : Int := if tableErr t ≠ 0 then tableErr t else if withinB h 0 1000 = false then 2 else 0
def eqV (t : List Knot) (h : Int) : Int := if eqE t h ≠ 0 then 0 else eqVal t h

set_option maxRecDepth 100000 in
set_option maxHeartbeats 4000000 in
theorem timberEq_any (a : Option Addr) (t : List Knot) (c : Nat) (h : Int) (w : World) (hv : Knots.V w a t) (hl : t.length ≤ 9223372036854775807) :
    Calls Try.prog 51 #[.slice a t.length c, .int .i64 h] w fun e w' => e = .returned (.tuple #[.int .i64 (eqV t h), .int .i64 (eqE t h)]) ∧ Below w.heap.size w w' := by
  by_cases k0 : tableErr t = 0
  · have HT := Lib.hid k0
    have HOK := Lib.hid (tableErr_ok k0)
    cases k1 : withinB h 0 1000
    · have HE : eqE t h = 2 := by simp [eqE, k0, k1]
      have HV := Lib.hid (show eqE t h = 2 ∧ eqV t h = 0 from ⟨HE, by simp [eqV, HE]⟩)
      clear k0 HE
      go_enter Try.func51, Try.ntmps51
      have HI := Lib.hid (show (0 : Int) = 0 from rfl)
      go_wp2_with (first | (go_at_call 93; refine (timberTable_any _ t _ _ (hv.keep ((Below.refl _ _).alloc (Nat.le_refl _) _)) hl).mono ?_; rw [HT.out]; rintro e w1 ⟨rfl, hb1⟩; have h0 : w1.cell? ⟨w.heap.size, 0, none⟩ = some (.int .i64 h) := (cell_keep hb1 (by simp [go_sem])); have hz1 := block_lt_of_cell h0; simp only at hz1; have hc1 := ((Below.refl w.heap.size w).alloc (Nat.le_refl _) _).trans (hb1.mono (by simp))) | (go_at_call 83; refine (within_any _ _ _ _).mono ?_; rintro e w' ⟨rfl, rfl⟩) | (go_at_call 94; refine (indexKnot_any _ t _ _ h _ (hv.keep hc1) hl h0 hz1).mono ?_; rw [HI.out]; rintro e w2 ⟨rfl, hb2⟩; have h1 := cell_keep hb2 h0; have hz2 := block_lt_of_cell h1; simp only at hz2; have hc2 := hc1.trans (hb2.mono hc1.size)))
      go_ret2
      exact ⟨ret_ints (by go_tidy; rw [HV.out.2]) (by go_tidy; rw [HV.out.1]), hc1⟩
    · have hh := withinB_true k1
      have HE : eqE t h = 0 := by simp [eqE, k0, k1]
      have HV := Lib.hid (show eqE t h = 0 ∧ eqV t h = eqVal t h from ⟨HE, by simp [eqV, HE]⟩)
      clear k0 HE
      have hpos := HOK.out.pos
      cases hf : t.findIdx? fun k => decide (h ≤ k.at_) with
      | none =>
        have HI := Lib.hid (show idxOf (fun k : Knot => decide (h ≤ k.at_)) t = -1 by unfold idxOf; rw [hf])
        have HN : ∀ k ∈ t, ¬ h ≤ k.at_ := fun k hk => by simpa using (List.findIdx?_eq_none_iff.1 hf) k hk
        obtain ⟨z, hz⟩ : ∃ z, t[t.length - 1]? = some z := ⟨_, List.getElem?_eq_getElem (by omega)⟩
        have HZ := Lib.hid (eqVal_none (by rw [List.getLast?_eq_getElem?]; exact hz) HN)
        have HZZ := Lib.hid hz
        clear hf HN hz
        have hn1 : (0 : Int) ≤ (t.length : Int) - 1 := by omega
        have hn2 : (t.length : Int) - 1 < (t.length : Int) := by omega
        go_enter Try.func51, Try.ntmps51
        go_upto_region 9 with (first | (go_at_call 93; refine (timberTable_any _ t _ _ (hv.keep ((Below.refl _ _).alloc (Nat.le_refl _) _)) hl).mono ?_; rw [HT.out]; rintro e w1 ⟨rfl, hb1⟩; have h0 : w1.cell? ⟨w.heap.size, 0, none⟩ = some (.int .i64 h) := (cell_keep hb1 (by simp [go_sem])); have hz1 := block_lt_of_cell h0; simp only at hz1; have hc1 := ((Below.refl w.heap.size w).alloc (Nat.le_refl _) _).trans (hb1.mono (by simp))) | (go_at_call 83; refine (within_any _ _ _ _).mono ?_; rintro e w' ⟨rfl, rfl⟩) | (go_at_call 94; refine (indexKnot_any _ t _ _ h _ (hv.keep hc1) hl h0 hz1).mono ?_; rw [HI.out]; rintro e w2 ⟨rfl, hb2⟩; have h1 := cell_keep hb2 h0; have hz2 := block_lt_of_cell h1; simp only at hz2; have hc2 := hc1.trans (hb2.mono hc1.size)))
        obtain ⟨bk, off, ha, hall⟩ := (hv.keep hc2) (by rintro rfl; simp at hpos)
        subst ha
        obtain ⟨d0, d1, -⟩ := hall (t.length - 1) z HZZ.out
        clear hall
        go_wp2_with fail
        go_ret2
        exact ⟨ret_ints (by go_tidy; rw [HV.out.2, HZ.out]) (by go_tidy; rw [HV.out.1]), hc2⟩
      | some k =>
        have HI := Lib.hid (show idxOf (fun k : Knot => decide (h ≤ k.at_)) t = (k : Int) by unfold idxOf; rw [hf])
        obtain ⟨hk, hp, hbef⟩ := List.findIdx?_eq_some_iff_getElem.1 hf
        have hp' : h ≤ t[k].at_ := by simpa using hp
        have hn : ∀ j (hj : j < t.length), j < k → ¬ h ≤ t[j].at_ := fun j hj hjk => by simpa using hbef j hjk
        clear hf hp hbef
        rcases Nat.eq_zero_or_pos k with rfl | hkp
        · have HZ := Lib.hid (eqVal_zero hk hp')
          obtain ⟨z, hz⟩ : ∃ z, t[0]? = some z := ⟨_, List.getElem?_eq_getElem hk⟩
          have HZ2 := Lib.hid (show eqVal t h = z.value by rw [HZ.out]; rw [List.getElem?_eq_getElem hk] at hz; injection hz with hz; rw [hz])
          have HZZ := Lib.hid hz
          have HI' := Lib.hid (show idxOf (fun k : Knot => decide (h ≤ k.at_)) t = 0 by rw [HI.out]; rfl)
          have hn0 : (0 : Int) < (t.length : Int) := by omega
          clear hn hz hp' HI
          have HI := HI'
          go_enter Try.func51, Try.ntmps51
          go_upto_region 11 with (first | (go_at_call 93; refine (timberTable_any _ t _ _ (hv.keep ((Below.refl _ _).alloc (Nat.le_refl _) _)) hl).mono ?_; rw [HT.out]; rintro e w1 ⟨rfl, hb1⟩; have h0 : w1.cell? ⟨w.heap.size, 0, none⟩ = some (.int .i64 h) := (cell_keep hb1 (by simp [go_sem])); have hz1 := block_lt_of_cell h0; simp only at hz1; have hc1 := ((Below.refl w.heap.size w).alloc (Nat.le_refl _) _).trans (hb1.mono (by simp))) | (go_at_call 83; refine (within_any _ _ _ _).mono ?_; rintro e w' ⟨rfl, rfl⟩) | (go_at_call 94; refine (indexKnot_any _ t _ _ h _ (hv.keep hc1) hl h0 hz1).mono ?_; rw [HI.out]; rintro e w2 ⟨rfl, hb2⟩; have h1 := cell_keep hb2 h0; have hz2 := block_lt_of_cell h1; simp only at hz2; have hc2 := hc1.trans (hb2.mono hc1.size)))
          obtain ⟨bk, off, ha, hall⟩ := (hv.keep hc2) (by rintro rfl; simp at hpos)
          subst ha
          obtain ⟨d0, d1, -⟩ := hall 0 z HZZ.out
          simp only [Nat.zero_mul, Nat.add_zero] at d0 d1
          clear hall
          go_wp2_with fail
          go_ret2
          exact ⟨ret_ints (by go_tidy; rw [HV.out.2, HZ2.out]) (by go_tidy; rw [HV.out.1]), hc2⟩
        · have hk1 : k - 1 < t.length := by omega
          have HZ := Lib.hid (show eqVal t h = interp t[k - 1] t[k] h by
            obtain ⟨j, rfl⟩ : ∃ j, k = j + 1 := ⟨k - 1, by omega⟩
            exact eqVal_mid hk hp' hn)
          have hord : t[k - 1].at_ < t[k].at_ := (List.pairwise_iff_getElem.1 HOK.out.asc) (k - 1) k hk1 hk (by omega)
          have hprev := hn (k - 1) hk1 (by omega)
          have hba := HOK.out.bd _ (List.getElem_mem hk1)
          have hbb := HOK.out.bd _ (List.getElem_mem hk)
          obtain ⟨za, hza⟩ : ∃ z, z = t[k - 1] := ⟨_, rfl⟩
          obtain ⟨zb, hzb⟩ : ∃ z, z = t[k] := ⟨_, rfl⟩
          have HA := Lib.hid (show t[k - 1]? = some za by rw [hza]; exact List.getElem?_eq_getElem hk1)
          have HB := Lib.hid (show t[k]? = some zb by rw [hzb]; exact List.getElem?_eq_getElem hk)
          rw [← hza] at HZ hord hprev hba
          rw [← hzb] at HZ hord hp' hbb
          clear hza hzb hn
          obtain ⟨av, hav⟩ : ∃ x, x = za.value := ⟨_, rfl⟩
          obtain ⟨aa, haa⟩ : ∃ x, x = za.at_ := ⟨_, rfl⟩
          obtain ⟨bv, hbv⟩ : ∃ x, x = zb.value := ⟨_, rfl⟩
          obtain ⟨bat, hbat⟩ : ∃ x, x = zb.at_ := ⟨_, rfl⟩
          have HF := Lib.hid (show av = za.value ∧ aa = za.at_ ∧ bv = zb.value ∧ bat = zb.at_ from ⟨hav, haa, hbv, hbat⟩)
          unfold interp at HZ
          rw [← hav, ← haa, ← hbv, ← hbat] at HZ
          rw [← haa, ← hbat] at hord
          rw [← haa] at hprev
          rw [← hav, ← haa] at hba
          rw [← hbv, ← hbat] at hbb
          rw [← hbat] at hp'
          clear hav haa hbv hbat
          have hP := prod_bd (x := bv - av) (y := h - aa) (by omega) (by omega) (by omega) (by omega)
          obtain ⟨P, hPP⟩ : ∃ P, P = (bv - av) * (h - aa) := ⟨_, rfl⟩
          rw [← hPP] at hP HZ
          have hQ := div_bd (p := P) (d := bat - aa) (by omega) hP.1 hP.2
          obtain ⟨Q, hQQ⟩ : ∃ Q, Q = P / (bat - aa) := ⟨_, rfl⟩
          rw [← hQQ] at hQ HZ
          have HPP := Lib.hid hPP
          have HQQ := Lib.hid hQQ
          clear hPP hQQ
          have hj1 : (0 : Int) < (k : Int) := by omega
          have hj2 : (0 : Int) ≤ (k : Int) - 1 := by omega
          have hj3 : (k : Int) - 1 < (t.length : Int) := by omega
          have hj6 : (k : Int) < (t.length : Int) := by omega
          have b1 : ((k : Int) == -1) = false := by rw [beq_eq_false_iff_ne]; omega
          have b2 : ((k : Int) == 0) = false := by rw [beq_eq_false_iff_ne]; omega
          go_enter Try.func51, Try.ntmps51
          go_upto_region 12 with (first | (go_at_call 93; refine (timberTable_any _ t _ _ (hv.keep ((Below.refl _ _).alloc (Nat.le_refl _) _)) hl).mono ?_; rw [HT.out]; rintro e w1 ⟨rfl, hb1⟩; have h0 : w1.cell? ⟨w.heap.size, 0, none⟩ = some (.int .i64 h) := (cell_keep hb1 (by simp [go_sem])); have hz1 := block_lt_of_cell h0; simp only at hz1; have hc1 := ((Below.refl w.heap.size w).alloc (Nat.le_refl _) _).trans (hb1.mono (by simp))) | (go_at_call 83; refine (within_any _ _ _ _).mono ?_; rintro e w' ⟨rfl, rfl⟩) | (go_at_call 94; refine (indexKnot_any _ t _ _ h _ (hv.keep hc1) hl h0 hz1).mono ?_; rw [HI.out]; rintro e w2 ⟨rfl, hb2⟩; have h1 := cell_keep hb2 h0; have hz2 := block_lt_of_cell h1; simp only at hz2; have hc2 := hc1.trans (hb2.mono hc1.size)))
          obtain ⟨bk, off, ha, hall⟩ := (hv.keep hc2) (by rintro rfl; simp at hpos)
          subst ha
          obtain ⟨d0, d1, -⟩ := hall (k - 1) za HA.out
          obtain ⟨d2, d3, -⟩ := hall k zb HB.out
          rw [← HF.out.2.1] at d0
          rw [← HF.out.1] at d1
          rw [← HF.out.2.2.2] at d2
          rw [← HF.out.2.2.1] at d3
          clear hall
          have hj4 : IntKind.i64.wrap ((k : Int) - 1) = (k : Int) - 1 := IntWalk.i64_in _ (by omega)
          have hj5 : ((k : Int) - 1).toNat = k - 1 := by omega
          have z1 := block_lt_of_cell d0
          simp only at z1
          have hj7 : (1 : Int) ≤ (k : Int) := by omega
          have hj8 : (k : Int) ≤ (t.length : Int) := by omega
          have hj9 : (k : Int) < (t.length : Int) + 1 := by omega
          refine wp_cut_slots [8, 9, 37, 38, 39, 40, 41, 42, 43, 44, 45] (fun u wc => ∃ g1 g2 : Nat, u 8 = .pointer (some ⟨g1, 0, none⟩) ∧ u 9 = .pointer (some ⟨g2, 0, none⟩) ∧ (wc.cell? ⟨g1, 0, none⟩ = some (.int .i64 aa) ∧ wc.cell? ⟨g1, 1, none⟩ = some (.int .i64 av) ∧ wc.cell? ⟨g2, 0, none⟩ = some (.int .i64 bat) ∧ wc.cell? ⟨g2, 1, none⟩ = some (.int .i64 bv) ∧ wc.cell? ⟨w.heap.size, 0, none⟩ = some (.int .i64 h)) ∧ Below w.heap.size w wc) ?_ ?_
          · go_region_held3 (fun w' => w'.cell? ⟨bk, off + (k - 1) * 2, none⟩ = some (.int .i64 aa) ∧ w'.cell? ⟨bk, off + (k - 1) * 2 + 1, none⟩ = some (.int .i64 av) ∧ w'.cell? ⟨bk, off + k * 2, none⟩ = some (.int .i64 bat) ∧ w'.cell? ⟨bk, off + k * 2 + 1, none⟩ = some (.int .i64 bv)) (go_keep) (fail)
            all_goals
              first
                | refine cut_meet (by simp [forget]) ⟨w2.heap.size, w2.heap.size + 1, rfl, rfl, ?_, ((hc2.alloc (by omega) _).alloc (by simp; omega) _).drew⟩
                | refine cut_meet (by simp [forget]) ⟨w2.heap.size + 1, w2.heap.size, rfl, rfl, ?_, ((hc2.alloc (by omega) _).alloc (by simp; omega) _).drew⟩
            all_goals exact ⟨by simp [go_sem], by simp [go_sem], by simp [go_sem], by simp [go_sem], by simp [go_sem, *]⟩
          · rintro u wc ⟨g1, g2, h8, h9, ⟨a0, a1, b0, b1', hh0⟩, hbc⟩
            simp only [forget, List.foldl_cons, List.foldl_nil, List.setIfInBounds_toArray, List.set_cons_succ, List.set_cons_zero, h8, h9]
            clear hj1 hj2 hj3 hj4 hj5 hj6 hj7 hj8 hj9
            have y1 : IntKind.i64.wrap (bv - av) = bv - av := IntWalk.i64_in _ (by omega)
            have y2 : IntKind.i64.wrap (h - aa) = h - aa := IntWalk.i64_in _ (by omega)
            have y3 : IntKind.i64.wrap (bat - aa) = bat - aa := IntWalk.i64_in _ (by omega)
            have y4 : IntKind.i64.wrap P = P := IntWalk.i64_in _ (by omega)
            have y5 : (bv - av) * (h - aa) = P := HPP.out.symm
            have y6 : IntKind.i64.wrap (av + Q) = av + Q := IntWalk.i64_in _ (by omega)
            go_upto_region 13 with fail
            go_quiet ((go_at_call 96; exact quiet_left (floor_is _ _ _ HQQ.out (by omega) (by omega) (by omega))))
            go_wp2_with fail
            go_ret2
            exact ⟨ret_ints (by go_tidy; rw [HV.out.2, HZ.out]) (by go_tidy; rw [HV.out.1]), below_drewN hbc _⟩
  · obtain ⟨E, hE⟩ : ∃ E, tableErr t = E := ⟨_, rfl⟩
    have HT := Lib.hid hE
    have HE : eqE t h = E := by unfold eqE; rw [if_pos k0, hE]
    rw [hE] at k0
    have HV := Lib.hid (show eqE t h = E ∧ eqV t h = 0 from ⟨HE, by unfold eqV; rw [HE, if_pos k0]⟩)
    have b0 : (E != 0) = true := by simp [k0]
    clear HE hE k0
    go_enter Try.func51, Try.ntmps51
    have HI := Lib.hid (show (0 : Int) = 0 from rfl)
    go_wp2_with (first | (go_at_call 93; refine (timberTable_any _ t _ _ (hv.keep ((Below.refl _ _).alloc (Nat.le_refl _) _)) hl).mono ?_; rw [HT.out]; rintro e w1 ⟨rfl, hb1⟩; have h0 : w1.cell? ⟨w.heap.size, 0, none⟩ = some (.int .i64 h) := (cell_keep hb1 (by simp [go_sem])); have hz1 := block_lt_of_cell h0; simp only at hz1; have hc1 := ((Below.refl w.heap.size w).alloc (Nat.le_refl _) _).trans (hb1.mono (by simp))) | (go_at_call 83; refine (within_any _ _ _ _).mono ?_; rintro e w' ⟨rfl, rfl⟩) | (go_at_call 94; refine (indexKnot_any _ t _ _ h _ (hv.keep hc1) hl h0 hz1).mono ?_; rw [HI.out]; rintro e w2 ⟨rfl, hb2⟩; have h1 := cell_keep hb2 h0; have hz2 := block_lt_of_cell h1; simp only at hz2; have hc2 := hc1.trans (hb2.mono hc1.size)))
    go_ret2
    exact ⟨ret_ints (by go_tidy; rw [HV.out.2]) (by go_tidy; rw [HV.out.1]), hc1⟩
end Go.Proofs.Ythhchnhidhgccaa
