/- The reference's ascending lists: sortedWith and lines. -/
import Derived.Test.YthhchnhidhgccaaAwake2
import Derived.Test.YthhchnhidhgccaaWidLaw
set_option linter.unusedVariables false
set_option linter.unusedSimpArgs false
namespace Go.Proofs.Ythhchnhidhgccaa
open Go Go.RowKit

/-- An ascending list with a number more. -/
def sw (l : List Int) (n : Int) : List Int := if n ∈ l then l else l.filter (fun x => decide (x < n)) ++ n :: l.drop (l.filter fun x => decide (x < n)).length
theorem filter_lt_take {l : List Int} (ha : l.Pairwise (· < ·)) (n : Int) : l.filter (fun x => decide (x < n)) = l.take (l.filter fun x => decide (x < n)).length := by
  induction l with
  | nil => rfl
  | cons a l ih =>
    obtain ⟨h1, h2⟩ := List.pairwise_cons.1 ha
    rw [List.filter_cons]
    split
    · rw [List.length_cons, List.take_succ_cons, ← ih h2]
    · rename_i h
      rw [List.filter_eq_nil_iff.2]
      · rfl
      · intro x hx
        have := h1 x hx
        simp at h ⊢
        omega
theorem sw_eq {l : List Int} (ha : l.Pairwise (· < ·)) (n : Int) : sw l n = uniq (n :: l) := by
  unfold sw
  split
  · rename_i h
    exact (uniq_eq ha fun x => by simp only [List.mem_cons]; exact ⟨.inr, fun h' => h'.elim (fun e => e ▸ h) id⟩).symm
  · rename_i h
    have hf := filter_lt_take ha n
    generalize hc : (l.filter fun x => decide (x < n)).length = c at *
    rw [hf]
    have hlt : ∀ x ∈ l.take c, x < n := fun x hx => by rw [← hf] at hx; simpa using (List.mem_filter.1 hx).2
    have hge : ∀ x ∈ l.drop c, n < x := by
      intro x hx
      have hxl : x ∈ l := List.mem_of_mem_drop hx
      rcases Int.lt_trichotomy x n with h' | rfl | h'
      · have hm : x ∈ l.take c := by rw [← hf]; exact List.mem_filter.2 ⟨hxl, by simpa using h'⟩
        have hp := ha
        rw [← List.take_append_drop c l] at hp
        have := (List.pairwise_append.1 hp).2.2 x hm x hx
        omega
      · exact absurd hxl h
      · exact h'
    refine (uniq_eq ?_ fun x => ?_).symm
    · have hp := ha
      rw [← List.take_append_drop c l] at hp
      obtain ⟨p1, p2, p3⟩ := List.pairwise_append.1 hp
      refine List.pairwise_append.2 ⟨p1, List.pairwise_cons.2 ⟨hge, p2⟩, fun a ha' b hb => ?_⟩
      rcases List.mem_cons.1 hb with rfl | hb
      · exact hlt a ha'
      · exact p3 a ha' b hb
    · have : x ∈ l ↔ x ∈ l.take c ∨ x ∈ l.drop c := by rw [← List.mem_append, List.take_append_drop]
      rw [List.mem_append, List.mem_cons, List.mem_cons, this]
      constructor
      · rintro (h' | h' | h')
        · exact .inr (.inl h')
        · exact .inl h'
        · exact .inr (.inr h')
      · rintro (h' | h' | h')
        · exact .inr (.inl h')
        · exact .inl h'
        · exact .inr (.inr h')
theorem sw_length (l : List Int) (n : Int) : (sw l n).length ≤ l.length + 1 := by
  unfold sw
  split
  · omega
  · have := List.length_filter_le (fun x => decide (x < n)) l
    simp; omega
theorem filt_step {l : List Int} {n : Int} {k : Nat} (hk : k < l.length) (h : l[k] < n) : (l.take (k + 1)).filter (fun x => decide (x < n)) = (l.take k).filter (fun x => decide (x < n)) ++ [l[k]] := by
  rw [List.take_succ_eq_append_getElem hk, List.filter_append, List.filter_cons, if_pos (by simpa using h), List.filter_nil]
theorem filt_skip {l : List Int} {n : Int} {k : Nat} (hk : k < l.length) (h : ¬ l[k] < n) : (l.take (k + 1)).filter (fun x => decide (x < n)) = (l.take k).filter (fun x => decide (x < n)) := by
  rw [List.take_succ_eq_append_getElem hk, List.filter_append, List.filter_cons, if_neg (by simpa using h), List.filter_nil, List.append_nil]
theorem ownedNone (w : World) (B : Nat) : w.ownsRow B 3 1 (.slice none 0 0) 0 [] := ⟨rfl, .inl ⟨rfl, rfl⟩⟩

theorem own_base {w : World} {base e size n : Nat} {v : Value} {xs : List Value} (h : w.ownsRow base e size v n xs) {j : Nat} (hj : v.ownBlock = some j) : base ≤ j := by
  rcases h.2 with ⟨rfl, _⟩ | ⟨g, cap, cur, rfl, hb, _⟩
  · cases hj
  · simp only [Value.ownBlock, Option.some.injEq] at hj
    omega

theorem own_form {w : World} {base e size n : Nat} {v : Value} {xs : List Value} (h : w.ownsRow base e size v (n + 1) xs) : ∃ g cap, v = .slice (some ⟨g, 0, none⟩) (n + 1) cap ∧ base ≤ g ∧ n + 1 ≤ cap ∧ cap ≤ 9223372036854775807 ∧ g < w.heap.size := by
  rcases h.2 with ⟨_, h0⟩ | ⟨g, cap, cur, rfl, hb, hblk, h1, h2, _, _⟩
  · cases h0
  · exact ⟨g, cap, rfl, hb, h1, h2, (Array.getElem?_eq_some_iff.1 hblk).1⟩

theorem own_form' {w : World} {base e size n : Nat} {v : Value} {xs : List Value} (h : w.ownsRow base e size v n xs) (hn : n ≠ 0) : ∃ g cap, v = .slice (some ⟨g, 0, none⟩) n cap ∧ base ≤ g ∧ n ≤ cap ∧ cap ≤ 9223372036854775807 ∧ g < w.heap.size := by
  rcases h.2 with ⟨_, h0⟩ | ⟨g, cap, cur, rfl, hb, hblk, h1, h2, _, _⟩
  · exact absurd h0 hn
  · exact ⟨g, cap, rfl, hb, h1, h2, (Array.getElem?_eq_some_iff.1 hblk).1⟩
theorem addr_add (b o j : Nat) : (⟨b, o, none⟩ : Addr).add j = ⟨b, o + j, none⟩ := by unfold Addr.add; split <;> simp_all
theorem drop_cells {w : World} {b off m : Nat} {l : List Int} (h : IntsV w (some ⟨b, off, none⟩) l) : ∀ j u, ((l.drop m).map (Value.int .i64))[j]? = some u → w.cell? ((⟨b, off + m, none⟩ : Addr).add j) = some u := by
  intro j u hu
  rw [List.getElem?_map, List.getElem?_drop] at hu
  cases hx : l[m + j]? with
  | none => rw [hx] at hu; cases hu
  | some x =>
    rw [hx] at hu
    simp only [Option.map_some, Option.some.injEq] at hu
    subst hu
    obtain ⟨b', off', ha, hc⟩ := h (by rintro rfl; simp at hx)
    injection ha with ha
    injection ha with hb ho
    subst hb ho
    rw [addr_add, Nat.add_assoc]
    exact hc _ _ hx
theorem int_one {l : List Int} : ∀ u ∈ l.map (Value.int .i64), u.oneCell' = true := by
  intro u hu
  obtain ⟨x, _, rfl⟩ := List.mem_map.1 hu
  rfl

set_option maxRecDepth 100000 in
set_option maxHeartbeats 4000000 in
theorem sortedWith_any (a : Option Addr) (l : List Int) (c : Nat) (n : Int) (w : World) (hv : IntsV w a l) (hl : l.length ≤ 1000) (hlc : l.length ≤ c) (hcm : c ≤ 9223372036854775807) (hne : l ≠ []) :
    Calls Try.prog 114 #[.slice a l.length c, .int .i64 n] w fun e w' => ∃ (a' : Option Addr) (c' : Nat), e = .returned (.slice a' (sw l n).length c') ∧ IntsV w' a' (sw l n) ∧ (sw l n).length ≤ c' ∧ c' ≤ 9223372036854775807 ∧ Below w.heap.size w w' := by
  obtain ⟨i0, hi0, hz0, hz1, hz2⟩ := info_parts int_info
  go_enter Try.func114, Try.ntmps114
  go_wp2_with fail
  go_loopw [5, 6] (fun v i wr => ∃ k : Nat, k ≤ l.length ∧ i = .int .i64 k ∧ wr.ownsRow w.heap.size 3 1 v ((l.take k).filter fun x => decide (x < n)).length (((l.take k).filter fun x => decide (x < n)).map (Value.int .i64)) ∧ Hid (∀ x ∈ l.take k, x ≠ n) ∧ Below w.heap.size w wr) (fun _ i _ => l.length - (intOf i).toNat)
  case atStart => exact ⟨0, Nat.zero_le _, rfl, ownedNone _ _, Lib.hid (by simp), Below.refl _ _⟩
  case round =>
    obtain ⟨k, hk, rfl, hown, HN, hbw⟩ := hrel
    have hsz := hbw.size
    have hv1 := hv.keep hbw
    by_cases hlt : k < l.length
    · obtain ⟨b, off, ha, c0⟩ := hv1.at_ hlt
      by_cases heq : l[k] = n
      · have HE := Lib.hid (show sw l n = l by unfold sw; rw [if_pos]; rw [← heq]; exact List.getElem_mem _)
        have HV := Lib.hid hv1
        subst ha
        have b0 : (l[k] == n) = true := by simpa using heq
        clear heq
        go_wp2_with fail
        go_ret
        exact ⟨_, c, by rw [HE.out]; rfl, by rw [HE.out]; exact HV.out, by rw [HE.out]; exact hlc, hcm, hbw⟩
      · have b0 : (l[k] == n) = false := by simpa using heq
        have HN' := Lib.hid (show ∀ x ∈ l.take (k + 1), x ≠ n by
          intro x hx
          rw [List.take_succ_eq_append_getElem hlt] at hx
          rcases List.mem_append.1 hx with hx | hx
          · exact HN.out x hx
          · simp at hx; subst hx; exact heq)
        clear heq HN
        by_cases hl2 : l[k] < n
        · have HF := Lib.hid (filt_step hlt hl2)
          subst ha
          have hfl : ((l.take k).filter fun x => decide (x < n)).length ≤ 1000 := by
            have := List.length_filter_le (fun x => decide (x < n)) (l.take k)
            have := List.length_take_le k l
            omega
          obtain ⟨m, hm⟩ : ∃ m, m = ((l.take k).filter fun x => decide (x < n)).length := ⟨_, rfl⟩
          rw [← hm] at hown hfl
          go_wp2_with (at_builtin; refine wpList_append_own _ rfl _ _ 97 rfl w.heap.size 3 i0 (.int .i64 0) 1 8 Try.underlying97 hi0 hz0 hz1 hz2 rfl (by decide) _ m _ rfl (hown.alloc _) ⟨wr.heap.size, 0, none⟩ 1 1 [.int .i64 l[k]] rfl rfl (news_one (by simp [go_sem])) (by simp [Value.oneCell']) (by simp only [maxLen]; omega) (by omega) (by simp; omega) ?_; intro v' w1 hown' hgr hnil)
          go_roundw
          case rel => exact ⟨k + 1, by omega, by go_num, by rw [HF.out, List.length_append, List.map_append, ← hm]; exact hown', HN', (hbw.alloc (by omega) _).grown hgr (by simp; omega) (fun j hj => own_base hown hj)⟩
          case measure => simp [intOf]; omega
        · have HF := Lib.hid (filt_skip hlt hl2)
          subst ha
          go_wp2_with fail
          go_roundw
          case rel => exact ⟨k + 1, by omega, by go_num, by rw [HF.out]; exact hown, HN', hbw⟩
          case measure => simp [intOf]; omega
    · have hfl : (l.filter fun x => decide (x < n)).length ≤ l.length := List.length_filter_le _ _
      rw [List.take_of_length_le (by omega)] at hown HN
      have HS := Lib.hid (show sw l n = l.filter (fun x => decide (x < n)) ++ n :: l.drop (l.filter fun x => decide (x < n)).length by
        unfold sw
        rw [if_neg]
        intro hm
        exact HN.out n hm rfl)
      have HL := Lib.hid (show (sw l n).length = l.length + 1 by rw [HS.out]; simp; omega)
      clear HN
      obtain ⟨b, off, ha, hcs⟩ := hv1 hne
      obtain ⟨F, hF⟩ : ∃ F, F = l.filter fun x => decide (x < n) := ⟨_, rfl⟩
      rw [← hF] at hown hfl
      obtain ⟨m, hm⟩ : ∃ m, m = F.length := ⟨_, rfl⟩
      rw [← hm] at hown hfl
      have HM := Lib.hid hm
      have HFF := Lib.hid hF
      subst ha
      clear hF hm
      have HC := Lib.hid hcs
      have hv0 := hv
      clear hcs hv hv1
      have hmi : (0 : Int) ≤ (m : Int) := by omega
      have hml : (m : Int) ≤ (l.length : Int) := by omega
      have hmc : (m : Int) ≤ (c : Int) := by omega
      have hvK := Lib.hid hv0
      have HBW := Lib.hid hbw
      have HOWN := Lib.hid hown
      have hzw := hbw.size
      clear hbw hown hv0
      by_cases hmc2 : (m : Int) < (c : Int)
      · go_wp2_with (first
          | (at_builtin; refine wpList_append_own _ rfl _ _ 97 rfl w.heap.size 3 i0 (.int .i64 0) 1 8 Try.underlying97 hi0 hz0 hz1 hz2 rfl (by decide) _ m _ rfl (HOWN.out.alloc _) ⟨wr.heap.size, 0, none⟩ 1 1 [.int .i64 n] rfl rfl (news_one (by simp [go_sem])) (by simp [Value.oneCell']) (by simp only [maxLen]; omega) (by omega) (by simp; omega) ?_; intro v' w1 ho1 hgr hnil; obtain ⟨g, cap, rfl, hbg, hnc, hcm2, hgl⟩ := own_form ho1; have HB1 := Lib.hid ((HBW.out.alloc (by omega) _).grown hgr (by simp; omega) (fun j hj => own_base HOWN.out hj)); have HV1 := Lib.hid (hvK.out.keep HB1.out); have HO1 := Lib.hid ho1; have hz1' := HB1.out.size; clear ho1 hgr hnil)
          | (at_builtin; refine wpList_append_own _ rfl _ _ 97 rfl w.heap.size 3 i0 (.int .i64 0) 1 8 Try.underlying97 hi0 hz0 hz1 hz2 rfl (by decide) _ (m + 1) _ rfl HO1.out ⟨b, off + m, none⟩ (l.length - m) (c - m) ((l.drop m).map (Value.int .i64)) rfl (by simp) (drop_cells HV1.out) int_one (by simp only [maxLen]; omega) (by omega) (by omega) ?_; intro v2 w2 ho2 hgr2 hnil2; obtain ⟨g2, cap2, rfl, hbg2, hnc2, hcm3, hgl2⟩ := own_form' ho2 (by omega); have HB2 := Lib.hid (HB1.out.grown hgr2 (by omega) (fun j hj => own_base HO1.out hj)); have HO2 := Lib.hid ho2; clear ho2))
        have e1 : (sw l n).length = m + 1 + (l.length - m) := by rw [HL.out]; omega
        have ho := HO2.out
        rw [show (F.map (Value.int .i64) ++ [Value.int .i64 n]) ++ (l.drop m).map (Value.int .i64) = ((sw l n) ++ []).map (Value.int .i64) by rw [HS.out, ← HFF.out, ← HM.out]; simp] at ho
        go_ret
        exact ⟨some ⟨g2, 0, none⟩, cap2, by rw [e1]; rfl, own_ints ho, by omega, hcm3, HB2.out⟩
      · obtain rfl : m = c := by omega
        have hlm : l.length = m := by omega
        go_wp2_with (at_builtin; refine wpList_append_own _ rfl _ _ 97 rfl w.heap.size 3 i0 (.int .i64 0) 1 8 Try.underlying97 hi0 hz0 hz1 hz2 rfl (by decide) _ m _ rfl (HOWN.out.alloc _) ⟨wr.heap.size, 0, none⟩ 1 1 [.int .i64 n] rfl rfl (news_one (by simp [go_sem])) (by simp [Value.oneCell']) (by simp only [maxLen]; omega) (by omega) (by simp; omega) ?_; intro v' w1 ho1 hgr hnil; obtain ⟨g, cap, rfl, hbg, hnc, hcm2, hgl⟩ := own_form ho1; have HB1 := Lib.hid ((HBW.out.alloc (by omega) _).grown hgr (by simp; omega) (fun j hj => own_base HOWN.out hj)); have HV1 := Lib.hid (hvK.out.keep HB1.out); have HO1 := Lib.hid ho1; have hz1' := HB1.out.size; clear ho1 hgr hnil)
        have e1 : (sw l n).length = m + 1 := by rw [HL.out]; omega
        have ho := HO1.out
        rw [show F.map (Value.int .i64) ++ [Value.int .i64 n] = ((sw l n) ++ []).map (Value.int .i64) by rw [HS.out, ← HFF.out, ← HM.out, List.drop_of_length_le (by omega)]; simp] at ho
        go_ret
        exact ⟨some ⟨g, 0, none⟩, cap, by rw [e1]; rfl, own_ints ho, by omega, hcm2, HB1.out⟩
end Go.Proofs.Ythhchnhidhgccaa
