/- Numbers in falling order, of the document's side. -/
import Derived.Test.YtoelfalmmaddlaaBW2
set_option linter.unusedVariables false
set_option linter.unusedSimpArgs false
namespace Go.Proofs.Ytoelfalmmaddlaa
open Go Go.RowKit Go.Sort Go.Lib

/-- The same numbers, none before a greater one. -/
def FallOf (l r : List Int) : Prop := r.Perm l ∧ r.Pairwise fun a b => b ≤ a
theorem fall_in {A B : List Int} {x : Int} (h : (A ++ B).Pairwise fun a b => b ≤ a) (hA : A = [] ∨ ∃ y, A.getLast? = some y ∧ x ≤ y) (hB : ∀ b ∈ B, b < x) : (A ++ x :: B).Pairwise fun a b : Int => b ≤ a := by
  rw [List.pairwise_append] at h ⊢
  obtain ⟨h1, h2, h3⟩ := h
  refine ⟨h1, List.pairwise_cons.2 ⟨fun b hb => by have := hB b hb; omega, h2⟩, fun a ha b hb => ?_⟩
  rcases List.mem_cons.1 hb with rfl | hb
  · rcases hA with rfl | ⟨y, hy, hxy⟩
    · simp at ha
    · obtain ⟨A', rfl⟩ := List.getLast?_eq_some_iff.1 hy
      rcases List.mem_append.1 ha with ha | ha
      · rw [List.pairwise_append] at h1
        have := h1.2.2 a ha y (by simp)
        omega
      · rw [List.mem_singleton.1 ha]; exact hxy
  · exact h3 a ha b hb
theorem fall_take {A B R : List Int} {x : Int} {i : Nat} (h : A.length + B.length = i) (hp : (A ++ x :: B).Pairwise fun a b : Int => b ≤ a) : ((A ++ x :: B ++ R).take (i + 1)).Pairwise fun a b : Int => b ≤ a := by
  rw [List.take_left' (by simp; omega)]; exact hp
theorem swap_perm {A B R l : List Int} {x y : Int} (h : (A ++ y :: (x :: B) ++ R).Perm l) : (A ++ x :: (y :: B) ++ R).Perm l := by
  refine List.Perm.trans ?_ h
  simp only [List.append_assoc, List.cons_append]
  exact (List.Perm.swap _ _ _).append_left A
def FallPost (w : World) (l : List Int) (e : Ending) (w' : World) : Prop := ∃ v r, e = .returned v ∧ FallOf l r ∧ w'.ownsRow w.heap.size 3 1 v l.length (r.map (Value.int .i64)) ∧ Below w.heap.size w w'
set_option maxRecDepth 100000 in
set_option maxHeartbeats 8000000 in
theorem falling_any (a : Option Addr) (l : List Int) (c : Nat) (w : World) (hv : IntsV w a l) (hl : l.length ≤ 1000) :
    Calls Try.prog 33 #[.slice a l.length c] w (FallPost w l) := by
  have HV := Lib.hid hv
  clear hv
  go_enter Try.func33, Try.ntmps33
  go_upto_region 2 with (go_at_call 21; refine (copyInts_any _ l c _ HV.out hl).mono ?_; rintro e w1 ⟨v, rfl, ho, hb⟩; have HO1 := Lib.hid ho; have HB1 := Lib.hid hb; clear ho hb)
  obtain ⟨av, cv, rfl, -, -⟩ := own_slice HO1.out
  obtain ⟨N, hN⟩ : ∃ N, N = l.length := ⟨_, rfl⟩
  have HN := Lib.hid hN
  rw [← hN] at HO1 hl ⊢
  clear hN
  go_wp2_with fail
  go_loopw [3] (fun iv wr => ∃ (i : Nat) (r : List Int), i ≤ N ∧ iv = .int .i64 i ∧ Hid (r.Perm l) ∧ Hid ((r.take i).Pairwise fun a b => b ≤ a) ∧ Hid (wr.ownsRow w.heap.size 3 1 (.slice av N cv) N (r.map (Value.int .i64))) ∧ Below w.heap.size w wr) (fun iv _ => N - (intOf iv).toNat)
  case atStart => exact ⟨0, l, Nat.zero_le _, rfl, Lib.hid (List.Perm.refl _), Lib.hid (by simp), HO1, HB1.out⟩
  case round =>
    obtain ⟨i, r, hi, rfl, HP, HS, HO, hbr⟩ := hrel
    have HBR := Lib.hid hbr
    clear hbr
    by_cases hlt : i < N
    · have hii : (i : Int) < (N : Int) := by omega
      have v1 : IntKind.i64.wrap ((i : Int) + 1) = (i : Int) + 1 := IntWalk.i64_in _ (by omega)
      obtain ⟨g, cp, hgv, hg1, hg2⟩ := own_some HO.out (by omega)
      injection hgv with e1 _ e3
      subst e1; subst e3
      have hrl : r.length = N := by rw [HP.out.length_eq, ← HN.out]
      obtain ⟨x, hx⟩ : ∃ x, x = r[i] := ⟨_, rfl⟩
      have hsp : r.take i ++ x :: [] ++ r.drop (i + 1) = r := by
        rw [List.append_assoc, List.singleton_append, hx, ← List.drop_eq_getElem_cons (by omega), List.take_append_drop]
      have HSP := Lib.hid (show (r.take i ++ x :: ([] : List Int) ++ r.drop (i + 1)).Perm l by rw [hsp]; exact HP.out)
      have HS2 := Lib.hid (show (r.take i ++ ([] : List Int)).Pairwise (fun a b => b ≤ a) by rw [List.append_nil]; exact HS.out)
      have HO2 := Lib.hid (show wr.ownsRow w.heap.size 3 1 (.slice (some ⟨g, 0, none⟩) N cv) N ((r.take i ++ x :: ([] : List Int) ++ r.drop (i + 1)).map (Value.int .i64)) by rw [hsp]; exact HO.out)
      have HTL := Lib.hid (show (r.take i).length = i by rw [List.length_take]; omega)
      have HTD := Lib.hid (show (r.drop (i + 1)).length + i + 1 = N by rw [List.length_drop]; omega)
      generalize r.take i = A0 at *
      generalize r.drop (i + 1) = R at *
      clear hsp hx HP HS HO hrl
      go_wp2_with fail
      go_loopw [4] (fun kv wk => ∃ (k : Nat) (A B : List Int), k ≤ i ∧ kv = .int .i64 k ∧ Hid (A.length = k) ∧ Hid (A.length + B.length = i) ∧ Hid ((A ++ x :: B ++ R).Perm l) ∧ Hid ((A ++ B).Pairwise fun a b => b ≤ a) ∧ Hid (∀ b ∈ B, b < x) ∧ Hid (wk.ownsRow w.heap.size 3 1 (.slice (some ⟨g, 0, none⟩) N cv) N ((A ++ x :: B ++ R).map (Value.int .i64))) ∧ Below w.heap.size w wk) (fun kv _ => (intOf kv).toNat)
      case atStart => exact ⟨i, A0, [], Nat.le_refl _, rfl, HTL, Lib.hid (by rw [HTL.out]; rfl), HSP, HS2, Lib.hid (fun b hb => by simp at hb), HO2, HBR.out⟩
      case round =>
        obtain ⟨k, A, B, hk, rfl, HA, HAB, HP, HS, HB, HO, hbk⟩ := hrel
        have HBK := Lib.hid hbk
        clear hbk
        have hzz := HBK.out.size
        have hll : (A ++ x :: B ++ R).length = N := by simp; have := HTD.out; have := HAB.out; omega
        have hcx : wr.cell? ⟨g, k, none⟩ = some (.int .i64 x) ∧ wr.frozen? ⟨g, k, none⟩ = false := by
          have h := own_int_cell HO.out (i := k) (by omega)
          have hx : (A ++ x :: B ++ R)[k]'(by omega) = x := by have hA := HA.out; subst hA; simp
          rwa [hx] at h
        obtain ⟨hc1, hf1⟩ := hcx
        have hkN : (k : Int) < (N : Int) := by omega
        rcases List.eq_nil_or_concat A with rfl | ⟨A', y, hA'⟩
        · obtain rfl : k = 0 := by have := HA.out; simpa using this.symm
          have HF := Lib.hid (fall_in HS.out (.inl rfl) HB.out)
          clear HA HS HB hll
          go_upto_region 6 with fail
          go_quiet (fail)
          rename_i nq
          go_wp2_with fail
          go_roundw
          case rel => exact ⟨i + 1, _, by omega, by go_num, HP, Lib.hid (fall_take HAB.out HF.out), Lib.hid (own_keep HO.out (below_drewN (Below.refl _ _) nq)), below_drewN HBK.out nq⟩
          case measure => first | (simp [intOf]; done) | (simp [intOf]; omega)
        · have hA' : A = A' ++ [y] := by rw [hA', List.concat_eq_append]
          obtain ⟨k', rfl⟩ : ∃ k', k = k' + 1 := ⟨A'.length, by have := HA.out; rw [hA'] at this; simpa using this.symm⟩
          have hAl : A'.length = k' := by have := HA.out; rw [hA'] at this; simpa using this
          have hcy : wr.cell? ⟨g, k', none⟩ = some (.int .i64 y) ∧ wr.frozen? ⟨g, k', none⟩ = false := by
            have h := own_int_cell HO.out (i := k') (by omega)
            have hx : (A ++ x :: B ++ R)[k']'(by omega) = y := by subst hAl; subst hA'; simp
            rwa [hx] at h
          obtain ⟨hc2, hf2⟩ := hcy
          have v2 : IntKind.i64.wrap (((k' + 1 : Nat) : Int) - 1) = (k' : Int) := by rw [show ((k' + 1 : Nat) : Int) - 1 = (k' : Int) by omega]; exact IntWalk.i64_in _ (by omega)
          have hkp : ((k' + 1 : Nat) : Int) > 0 := by omega
          have hkN2 : (k' : Int) < (N : Int) := by omega
          by_cases hyx : x > y
          · have HNW := Lib.hid (show (A' ++ x :: (y :: B) ++ R).Perm l ∧ (A' ++ y :: B).Pairwise (fun a b => b ≤ a) ∧ (∀ b ∈ y :: B, b < x) ∧ A'.length + (y :: B).length = i from ⟨swap_perm (by have h := HP.out; rw [hA'] at h; simp only [List.append_assoc, List.cons_append, List.nil_append] at h ⊢; exact h), by have h := HS.out; rw [hA'] at h; simp only [List.append_assoc, List.cons_append, List.nil_append] at h ⊢; exact h, by intro b hb; rcases List.mem_cons.1 hb with rfl | hb; exact hyx; exact HB.out b hb, by have := HAB.out; rw [hA'] at this; simp at this ⊢; omega⟩)
            have HCE := Lib.hid (show ∀ W : World, W.ownsRow w.heap.size 3 1 (.slice (some ⟨g, 0, none⟩) N cv) N ((A ++ x :: B ++ R).map (Value.int .i64)) → (W.cell? ⟨g, k' + 1, none⟩ = some (.int .i64 x) ∧ W.frozen? ⟨g, k' + 1, none⟩ = false) ∧ (W.cell? ⟨g, k', none⟩ = some (.int .i64 y) ∧ W.frozen? ⟨g, k', none⟩ = false) by
              intro W ho
              have h1 := own_int_cell ho (i := k' + 1) (by omega)
              have h2 := own_int_cell ho (i := k') (by omega)
              have e1 : (A ++ x :: B ++ R)[k' + 1]'(by omega) = x := by subst hAl; subst hA'; simp
              have e2 : (A ++ x :: B ++ R)[k']'(by omega) = y := by subst hAl; subst hA'; simp
              rw [e1] at h1; rw [e2] at h2
              exact ⟨h1, h2⟩)
            have HLS := Lib.hid (show ((A ++ x :: B ++ R).set (k' + 1) y).set k' x = A' ++ x :: (y :: B) ++ R by subst hAl; subst hA'; simp [List.set_append])
            have HAL := Lib.hid hAl
            have HLL := Lib.hid hll
            clear HA HS HB HP hll hA' hAl HAB
            go_upto_region 6 with fail
            go_quiet (fail)
            rename_i nq
            go_upto_region 8 with fail
            refine gen_world (fun W8 => W8.ownsRow w.heap.size 3 1 (.slice (some ⟨g, 0, none⟩) N cv) N ((A ++ x :: B ++ R).map (Value.int .i64)) ∧ Below w.heap.size w W8) ⟨own_keep HO.out (below_drewN (Below.refl _ _) nq), below_drewN HBK.out nq⟩ ?_
            rintro W8 ⟨ho8, hb8⟩
            clear hc1 hf1 hc2 hf2
            obtain ⟨⟨hc1, hf1⟩, hc2, hf2⟩ := HCE.out W8 ho8
            have HO8 := Lib.hid ho8
            have HB8 := Lib.hid hb8
            clear ho8 hb8
            go_region
            go_wp2_with fail
            go_roundw
            case rel =>
              refine ⟨k', A', y :: B, by omega, by go_num, HAL, Lib.hid HNW.out.2.2.2, Lib.hid HNW.out.1, Lib.hid HNW.out.2.1, Lib.hid HNW.out.2.2.1, Lib.hid ?_, ((HB8.out.setCell hg1 _).setCell hg1 _).drew⟩
              rw [← HLS.out]
              exact own_keep (own_set1 (own_set1 HO8.out (by rw [HLL.out]; omega)) (by rw [List.length_set, HLL.out]; omega)) ((Below.refl _ _).drew)
            case measure => first | (simp [intOf]; done) | (simp [intOf]; omega)
          · have HF := Lib.hid (fall_in (x := x) HS.out (.inr ⟨y, by rw [hA']; simp, by omega⟩) HB.out)
            clear HA HS HB hll hA' hAl
            go_upto_region 6 with fail
            go_quiet (fail)
            rename_i nq
            go_wp2_with fail
            go_roundw
            case rel => exact ⟨i + 1, _, by omega, by go_num, HP, Lib.hid (fall_take HAB.out HF.out), Lib.hid (own_keep HO.out (below_drewN (Below.refl _ _) nq)), below_drewN HBK.out nq⟩
            case measure => first | (simp [intOf]; done) | (simp [intOf]; omega)
    · obtain rfl : i = N := by omega
      have hii : ¬ (i : Int) < (i : Int) := by omega
      have hrl : r.length = i := by rw [HP.out.length_eq, ← HN.out]
      go_wp2_with fail
      go_ret
      refine ⟨_, r, rfl, ⟨HP.out, ?_⟩, by rw [← HN.out]; exact HO.out, HBR.out⟩
      have h := HS.out
      rw [← hrl, List.take_length] at h
      exact h
end Go.Proofs.Ytoelfalmmaddlaa
