/- CuttingBars returns true for every input: Crosscut returns a right assignment with the least number of bars, not less than LeastBars, or the error that the document specifies. No condition. -/
import Derived.Test.YtoelfalmmaddlaaBC2
import Derived.Test.YtoelfalmmaddlaaA8
import Derived.Test.YtoelfalmmaddlaaFactsBars
set_option linter.unusedVariables false
set_option linter.unusedSimpArgs false
namespace Go.Proofs.Ytoelfalmmaddlaa
open Go Go.ChangeShapes Go.WideShapes Go.ChangeAt Go.RowKit

theorem cross_open {H : Type} {enc : TypeId × Value → H} {w : World} {spare : Nat → Bool} {held : Bool} {fuel : Nat} {cs : List Value} {y : DataW H × List MemPlace} (h : DataW.trod enc Try.prog w 0 spare held fuel 24 cs = some y) :
    ∃ (a1 : Option Addr) (l1 : List Int) (c1 : Nat) (a2 : Option Addr) (l2 : List Int) (c2 : Nat) (k : Int), cs = [.slice a1 l1.length c1, .slice a2 l2.length c2, .int .i64 k] ∧ (Intss.V w a1 l1 ∧ l1.length ≤ c1 ∧ c1 ≤ maxLen) ∧ (Intss.V w a2 l2 ∧ l2.length ≤ c2 ∧ c2 ≤ maxLen) ∧ (-9223372036854775808 ≤ k ∧ k ≤ 9223372036854775807) := by
  obtain ⟨hl, m, hf⟩ := trod_fields Try.underlying24 (by kernel_rfl) (by kernel_rfl) h
  match cs, hl with
  | [v0, v1, v2], _ =>
    obtain ⟨u0, y0, e0, t0⟩ := hf 0 _ rfl
    simp only [List.getElem?_cons_succ, List.getElem?_cons_zero, Option.some.injEq] at e0
    subst e0
    obtain ⟨a0, l0, c0, g0, q0, s0, z0⟩ := Intss.open_ t0
    subst g0
    obtain ⟨u1, y1, e1, t1⟩ := hf 1 _ rfl
    simp only [List.getElem?_cons_succ, List.getElem?_cons_zero, Option.some.injEq] at e1
    subst e1
    obtain ⟨a1, l1, c1, g1, q1, s1, z1⟩ := Intss.open_ t1
    subst g1
    obtain ⟨u2, y2, e2, t2⟩ := hf 2 _ rfl
    simp only [List.getElem?_cons_succ, List.getElem?_cons_zero, Option.some.injEq] at e2
    subst e2
    obtain ⟨n, g, -, q⟩ := DataW.trod_int Try.underlying3 t2
    have g2 : v2 = .int .i64 n := by simpa using g
    subst g2
    exact ⟨a0, l0, c0, a1, l1, c1, n, rfl, ⟨q0, s0, z0⟩, ⟨q1, s1, z1⟩, int_wf q⟩
theorem back_len {st ln : List Int} {kerf : Int} (hk : 0 ≤ kerf) (hd : dp (ordF st) ln kerf (2 ^ ln.length - 1) ≠ nev (ordF st)) : (back (ordF st) ln kerf (2 ^ ln.length - 1) (2 ^ ln.length - 1)).length = ln.length := by
  have hB := back_ok (ordF st) ln kerf hk _ _ (Nat.le_refl (2 ^ ln.length - 1)) hd
  have h1 : ((back (ordF st) ln kerf (2 ^ ln.length - 1) (2 ^ ln.length - 1)).map (·.2)).Perm (List.range ln.length) := (List.perm_ext_iff_of_nodup hB.nodup List.nodup_range).2 fun x => by
    rw [hB.mem, Nat.testBit_two_pow_sub_one, List.mem_range]; simp
  have := h1.length_eq
  simpa using this
theorem rows_len {st ln : List Int} {kerf : Int} (hk : 0 ≤ kerf) (hln : ln.length ≤ 20) (hd : dp (ordF st) ln kerf (2 ^ ln.length - 1) ≠ nev (ordF st)) {rows : List (List Nat)} (hr : RowsPerm rows (layR (longM st) (back (ordF st) ln kerf (2 ^ ln.length - 1) (2 ^ ln.length - 1)) (List.replicate st.length []))) : ∀ r ∈ rows, r.length ≤ 20 := by
  intro r h
  obtain ⟨b, hb, rfl⟩ := List.mem_iff_getElem.1 h
  have h0 : b < st.length := by have := hr.1; rw [layR_len, List.length_replicate] at this; omega
  have h1 := hr.2 b (by rw [layR_len]; simpa using h0)
  rw [List.getD_eq_getElem?_getD, List.getElem?_eq_getElem hb, layR_get (by simpa using h0)] at h1
  have h2 := h1.length_eq
  simp only [Option.getD_some] at h2
  rw [h2, List.length_append, List.length_map]
  have h3 := back_len hk hd
  have h4 := List.length_filter_le (fun p => (longM st).getD p.1 0 == b) (back (ordF st) ln kerf (2 ^ ln.length - 1) (2 ^ ln.length - 1))
  have h5 : ((List.replicate st.length ([] : List Nat)).getD b []).length = 0 := by rw [List.getD_eq_getElem?_getD, List.getElem?_replicate, if_pos h0]; rfl
  omega
def oP : Option Nat → Int × Int
  | none => (0, 12)
  | some m => ((m : Int), 0)
def oV : Option Nat → Value
  | none => .tuple #[.int .i64 0, .bool false]
  | some n => .tuple #[.int .i64 n, .bool true]
/-- What the law compares. -/
structure BarsFacts (st ln : List Int) (kerf : Int) : Prop where
  no : dp (ordF st) ln kerf (2 ^ ln.length - 1) = nev (ordF st) → fewM kerf ln (st.map (· + kerf)) (List.replicate st.length false) < 0
  yes : dp (ordF st) ln kerf (2 ^ ln.length - 1) ≠ nev (ordF st) → fewM kerf ln (st.map (· + kerf)) (List.replicate st.length false) = ((dp (ordF st) ln kerf (2 ^ ln.length - 1)).bars : Int) ∧
    ∃ m : Nat, enoughM ((fallL st).map (· + kerf)) ((ln.map (· + kerf)).sum) 0 = some m ∧ (m : Int) ≤ ((dp (ordF st) ln kerf (2 ^ ln.length - 1)).bars : Int)
  least : leastM st ln kerf = oP (enoughM ((fallL st).map (· + kerf)) ((ln.map (· + kerf)).sum) 0)
theorem bars_facts {st ln : List Int} {kerf : Int} (hc : crossE st ln kerf = 0) : BarsFacts st ln kerf := by
  obtain ⟨⟨s10, l10⟩, hs, hl, hk⟩ := cross_ok hc
  have hF : ∀ a b, a ≤ b → b < (lenF st (longM st)).length → (lenF st (longM st)).getD b 0 ≤ (lenF st (longM st)).getD a 0 := by rw [lenF_long]; exact fall_mono (fall_pair st)
  obtain ⟨t1, t2⟩ := table_few (long_perm st) hF hk.1 (fun m hm => by have := hs m hm; omega) (fun m hm => (hl m hm).1)
  refine ⟨fun h => ?_, fun h => ?_, ?_⟩
  · rcases Int.lt_or_le (fewM kerf ln (st.map (· + kerf)) (List.replicate st.length false)) 0 with h' | h'
    · exact h'
    · exact absurd h (t1.1 h')
  · have e := t2 h
    refine ⟨e, ?_⟩
    obtain ⟨as', u, h1, h2⟩ := (few_min (kerf := kerf) ln (st.map (· + kerf)) (List.replicate st.length false)).2 (t1.2 h)
    have h3 := run_least (kerf := kerf) (ln := ln) (room := st.map (· + kerf)) (r := (fallL st).map (· + kerf)) (u := u) (fun x hx => by
      obtain ⟨m, hm, rfl⟩ := List.mem_map.1 hx
      have := hs m hm
      omega) (fall_rooms st kerf) (by rw [List.length_map]; exact h1)
    obtain ⟨m, h4, h5⟩ := h3
    refine ⟨m, h4, ?_⟩
    unfold ordF
    omega
  · unfold leastM
    rw [if_neg (by simp [hc]), sumK_sum, least_enough]
    generalize enoughM ((fallL st).map (· + kerf)) ((ln.map (· + kerf)).sum) 0 = o
    cases o <;> rfl
/-- Crosscut's answer, as one shape. -/
structure CrossFacts (st ln : List Int) (kerf : Int) (rows : List (List Nat)) (E : Int) : Prop where
  err : crossE st ln kerf ≠ 0 → E = crossE st ln kerf ∧ rows = []
  no : crossE st ln kerf = 0 → dp (ordF st) ln kerf (2 ^ ln.length - 1) = nev (ordF st) → E = 12 ∧ rows = []
  yes : crossE st ln kerf = 0 → dp (ordF st) ln kerf (2 ^ ln.length - 1) ≠ nev (ordF st) → E = 0 ∧ rows.length = st.length ∧ (∀ r ∈ rows, r.length ≤ 20) ∧ assignM st ln kerf (rows.map fun r => r.map fun i : Nat => (i : Int)) = (((dp (ordF st) ln kerf (2 ^ ln.length - 1)).bars : Int), 0)
def CrossOut (w : World) (st ln : List Int) (kerf : Int) (e : Ending) (w' : World) : Prop := ∃ (av : Option Addr) (cv : Nat) (rows : List (List Nat)) (E : Int), e = .returned (.tuple #[.slice av rows.length cv, .int .i64 E]) ∧ Listss.V w' av (rows.map fun r => r.map fun i : Nat => (i : Int)) ∧ Below w.heap.size w w' ∧ CrossFacts st ln kerf rows E
theorem cross_out {w w' : World} {st ln : List Int} {kerf : Int} {e : Ending} (h : CrossPost w st ln kerf e w') : CrossOut w st ln kerf e w' := by
  obtain ⟨hb, h | h | h⟩ := h
  · obtain ⟨h1, rfl⟩ := h
    exact ⟨none, 0, [], _, rfl, fun hne => absurd rfl hne, hb, fun _ => ⟨rfl, rfl⟩, fun h => absurd h h1, fun h => absurd h h1⟩
  · obtain ⟨h1, h2, rfl⟩ := h
    exact ⟨none, 0, [], _, rfl, fun hne => absurd rfl hne, hb, fun h => absurd h1 h, fun _ _ => ⟨rfl, rfl⟩, fun _ h => absurd h2 h⟩
  · obtain ⟨h1, h2, a, c, rows, h3, h4, rfl, h5⟩ := h
    obtain ⟨⟨s10, l10⟩, hs, hl, hk⟩ := cross_ok h1
    have hlen : rows.length = st.length := by have := h3.1; rw [layR_len, List.length_replicate] at this; exact this
    exact ⟨a, c, rows, 0, rfl, h5, hb, fun h => absurd h1 h, fun _ h => absurd h h2, fun _ _ => ⟨rfl, hlen, rows_len hk.1 (by omega) h2 h3, back_rows (long_perm st) hk.1 h1 (fun m hm => by have := hs m hm; omega) h2 h3 h4⟩⟩
theorem crosscut_out (a1 a2 : Option Addr) (st ln : List Int) (c1 c2 : Nat) (kerf : Int) (w : World) (hv1 : IntsV w a1 st) (hv2 : IntsV w a2 ln) (hl1 : st.length ≤ 100000) (hl2 : ln.length ≤ 100000) :
    Calls Try.prog 5 #[.agg #[.slice a1 st.length c1, .slice a2 ln.length c2, .int .i64 kerf]] w (CrossOut w st ln kerf) := (crosscut_any a1 a2 st ln c1 c2 kerf w hv1 hv2 hl1 hl2).mono fun _ _ h => cross_out h
theorem made_bv (w : World) (n : Nat) (hn : n ≤ 1000) : BoolsV (w.alloc (.cells (madeCells #[.bool false] n) 4)) (some ⟨w.heap.size, 0, none⟩) (List.replicate n false) := by
  have h := made_own (w := w) (base := w.heap.size) (n := n) (T := 4) (z := .bool false) (Nat.le_refl _) (by unfold maxLen; omega)
  rw [show List.replicate n (Value.bool false) = (List.replicate n false).map Value.bool by rw [List.map_replicate]] at h
  exact own_boolsV h
def BigR (w : World) (q : Bool) (u : Nat → Value) (w' : World) : Prop := u 50 = .bool q ∧ w' = w
theorem ret_ok (w w' : World) (h : Below w.heap.size w w') : Ending.returned (.bool true) = .returned (.bool true) ∧ Below w.heap.size w w' := ⟨rfl, h⟩
set_option maxRecDepth 100000 in
set_option maxHeartbeats 8000000 in
theorem walkCuttingBars (ca1 : Option Addr) (c1 : List Int) (cc1 : Nat) (ca2 : Option Addr) (c2 : List Int) (cc2 : Nat) (ck : Int) (w : World) (Vc1 : Intss.V w ca1 c1) (Lc1 : c1.length ≤ 9223372036854775807) (Cc1 : c1.length ≤ cc1) (Vc2 : Intss.V w ca2 c2) (Lc2 : c2.length ≤ 9223372036854775807) (Cc2 : c2.length ≤ cc2) (Wc : -9223372036854775808 ≤ ck ∧ ck ≤ 9223372036854775807) :
    Calls Try.prog 3 #[.agg #[.slice ca1 c1.length cc1, .slice ca2 c2.length cc2, .int .i64 ck]] w fun e w' => e = .returned (.bool true) ∧ Below w.heap.size w w' := by
  go_enter Try.func3, Try.ntmps3
  go_upto_region 1 with fail
  refine gen_world (fun W => CB W w.heap.size ca1 c1.length cc1 ca2 c2.length cc2 ck ∧ Below w.heap.size w W ∧ w.heap.size < W.heap.size) ⟨⟨by simp, by simp, by simp⟩, (Below.refl _ _).alloc (Nat.le_refl _) _, by simp⟩ ?_
  rintro W ⟨hC, hbW, hzW⟩
  have HC := Lib.hid hC
  have HBW := Lib.hid hbW
  clear hC hbW
  go_upto_region 3 with (go_at_call 4; refine (awake_any _).mono ?_; rintro e w1 ⟨rfl, hb1⟩; have HB1 := Lib.hid hb1; clear hb1)
  have HB := Lib.hid (HBW.out.trans (HB1.out.mono (Nat.le_of_lt hzW)))
  have HC1 := Lib.hid (HC.out.keep HB1.out)
  have hzw1 : w.heap.size < w1.heap.size := Nat.lt_of_lt_of_le hzW HB1.out.size
  clear HC HBW HB1 hzW
  obtain ⟨k0, k1, k2⟩ := HC1.out
  obtain ⟨big, hbig⟩ : ∃ q : Bool, q = decide ((5 < c1.length ∧ c1.length ≤ 10) ∨ (5 < c2.length ∧ c2.length ≤ 10) ∨ 20 < c1.length ∨ 20 < c2.length) := ⟨_, rfl⟩
  refine wp_cut_slots [17, 18, 19, 20, 21, 22, 23, 24, 25, 26, 27, 28, 29, 30, 31, 32, 33, 34, 35, 36, 37, 38, 39, 40, 41, 42, 43, 44, 45, 46, 47, 48, 49, 50] (BigR w1 big) ?_ ?_
  · by_cases a1 : (c1.length : Int) > 5 <;> by_cases a2 : (c1.length : Int) ≤ 10 <;> by_cases a3 : (c2.length : Int) > 5 <;> by_cases a4 : (c2.length : Int) ≤ 10 <;> by_cases a5 : (c1.length : Int) > 20 <;> by_cases a6 : (c2.length : Int) > 20 <;> (first
      | (exfalso; omega)
      | (obtain rfl : big = true := (by rw [hbig, decide_eq_true_eq]; omega)
         clear hbig
         go_wp2_with fail
         exact cut_meet (by simp [forget]) ⟨rfl, rfl⟩)
      | (obtain rfl : big = false := (by rw [hbig, decide_eq_false_iff_not]; omega)
         clear hbig
         go_wp2_with fail
         exact cut_meet (by simp [forget]) ⟨rfl, rfl⟩))
  rintro u W1' ⟨hu, rfl⟩
  simp only [forget, List.foldl_cons, List.foldl_nil, hu, List.setIfInBounds_toArray, List.set_cons_succ, List.set_cons_zero]
  cases big
  case true =>
    go_wp2_with fail
    go_ret
    exact ⟨rfl, HB.out⟩
  case false =>
    have hbd : c1.length ≤ 20 ∧ c2.length ≤ 20 := by
      have := of_decide_eq_false hbig.symm
      omega
    obtain ⟨hb1, hb2⟩ := hbd
    clear hbig hu
    have HV := Lib.hid (fun W (hb : Below w.heap.size w W) => And.intro (Vc1.keep hb) (Vc2.keep hb))
    go_upto_region 6 with (go_at_call 5; refine (crosscut_out ca1 ca2 c1 c2 cc1 cc2 ck _ (HV.out _ HB.out).1.ints (HV.out _ HB.out).2.ints (by omega) (by omega)).mono ?_; rintro e w2 ⟨av, cv, rows, E, rfl, hvl, hb, hf⟩; have HVL := Lib.hid hvl; have HB2 := Lib.hid hb; have HF := Lib.hid hf; clear hvl hb hf)
    have HBX := Lib.hid (HB.out.trans (HB2.out.mono HB.out.size))
    have HC2 := Lib.hid (HC1.out.keep HB2.out)
    clear k0 k1 k2 HC1 HB HB2
    obtain ⟨k0, k1, k2⟩ := HC2.out
    have HVX := Lib.hid (HV.out _ HBX.out)
    by_cases he : crossE c1 c2 ck = 0
    · obtain ⟨⟨s10, l10⟩, hs, hl, hk⟩ := cross_ok he
      have HS := Lib.hid (show ∀ m ∈ c1, 0 ≤ m ∧ m ≤ 600000 from fun m hm => by have := hs m hm; omega)
      have HL := Lib.hid (show ∀ m ∈ c2, 0 ≤ m ∧ m ≤ 600000 from fun m hm => by have := hl m hm; omega)
      have HSR := Lib.hid (show ∀ x ∈ c1.map (· + ck), 0 ≤ x ∧ x ≤ 1000000 from fun x hx => by
        obtain ⟨m, hm, rfl⟩ := List.mem_map.1 hx
        have := hs m hm
        omega)
      obtain ⟨hno, hyes, hleast⟩ := bars_facts he
      have HNO := Lib.hid hno
      have HYES := Lib.hid hyes
      clear hs hl hno hyes
      obtain ⟨r0, hr0⟩ : ∃ r0, r0 = (fallL c1).map (· + ck) := ⟨_, rfl⟩
      obtain ⟨sm, hsm⟩ : ∃ sm, sm = (c2.map (· + ck)).sum := ⟨_, rfl⟩
      obtain ⟨o, ho⟩ : ∃ o, o = enoughM r0 sm 0 := ⟨_, rfl⟩
      rw [← hr0, ← hsm, ← ho] at hleast
      have HYES := Lib.hid (show dp (ordF c1) c2 ck (2 ^ c2.length - 1) ≠ nev (ordF c1) → _ from by have h := HYES.out; rw [← hr0, ← hsm, ← ho] at h; exact h)
      have HEN := Lib.hid (show ∀ r, FallOf (c1.map (· + ck)) r → enoughV r ((c2.map (· + ck)).sum) = oV o from fun r hr => by
        rw [fall_one hr (fall_rooms c1 ck), ← hr0, ← hsm]
        unfold enoughV
        rw [← ho]
        cases o <;> rfl)
      clear hr0 hsm ho
      have HP := Lib.hid (fun W (h1 : Intss.V W ca1 c1 ∧ Intss.V W ca2 c2) => leastBars_any ca1 ca2 c1 c2 cc1 cc2 ck W h1.1.ints h1.2.ints (by omega) (by omega))
      have HQ := Lib.hid (fun W (h1 : Intss.V W ca1 c1 ∧ Intss.V W ca2 c2) => refCross_any ca1 ca2 c1 c2 cc1 cc2 ck W h1.1 h1.2 (by omega) (by omega))
      rw [hleast] at HP
      rw [he] at HQ
      clear hleast
      have HPF := Lib.hid (show ∀ (W : World) (a3 a4 : Option Addr) (c3 c4 : Nat), Intss.V W ca1 c1 ∧ Intss.V W ca2 c2 → IntsV W a3 (c1.map (· + ck)) → BoolsV W a4 (List.replicate c1.length false) → Calls Try.prog 9 #[.agg #[.slice ca1 c1.length cc1, .slice ca2 c2.length cc2, .int .i64 ck], .slice a3 c1.length c3, .slice a4 c1.length c4, .int .i64 0] W fun e w' => e = .returned (.int .i64 (fewM ck c2 (c1.map (· + ck)) (List.replicate c1.length false))) ∧ Below W.heap.size W w' from fun W a3 a4 c3 c4 h1 h3 h4 => by
        have h := few_any ca1 ca2 c1.length cc1 c2 cc2 ck (by omega) HL.out hk (c1.map (· + ck)) (List.replicate c1.length false) a3 a4 c3 c4 W h1.2.ints h3 h4 (by simp) (by rw [List.length_map]; omega) HSR.out
        rw [List.length_map, List.length_replicate, List.drop_zero] at h
        exact h)
      have HPR := Lib.hid (fun W (h1 : Intss.V W ca1 c1 ∧ Intss.V W ca2 c2) => rooms_any ca1 ca2 c1 c2 cc1 cc2 ck W h1.1.ints (by omega) HS.out hk)
      have HPL := Lib.hid (fun W (h1 : Intss.V W ca1 c1 ∧ Intss.V W ca2 c2) => least_any ca1 ca2 c1 c2 cc1 cc2 ck W h1.1.ints h1.2.ints (by omega) (by omega) HS.out HL.out hk)
      obtain ⟨want, hwant⟩ : ∃ want, want = fewM ck c2 (c1.map (· + ck)) (List.replicate c1.length false) := ⟨_, rfl⟩
      rw [← hwant] at HPF HNO HYES
      clear hwant HS HL HSR
      have hmk := fun W => make_bools W c1.length (by omega)
      have hmix : Try.prog.follows .mixedOrders = true := by kernel_rfl
      obtain ⟨D, hD⟩ : ∃ D, D = dp (ordF c1) c2 ck (2 ^ c2.length - 1) := ⟨_, rfl⟩
      have HFN := Lib.hid (HF.out.no he)
      have HFY := Lib.hid (HF.out.yes he)
      rw [← hD] at HNO HYES HFN HFY
      clear hD HF
      by_cases hnev : D = nev (ordF c1)
      · have hw := HNO.out hnev
        obtain ⟨rfl, rfl⟩ := HFN.out hnev
        have hw' : want < 0 := hw
        clear HNO HYES HFN HFY hnev hw
        cases o with
        | none =>
          simp only [oP] at HP
          go_upto_region 13 with (first
            | (go_at_call 6; refine (HP.out _ HVX.out).mono ?_; rintro e w3 ⟨rfl, hb⟩; have HB3 := Lib.hid (HBX.out.trans (hb.mono HBX.out.size)); have HC3 := Lib.hid (HC2.out.keep hb); have HE3 := Lib.hid hb; have k0 := HC3.out.s; have k1 := HC3.out.l; have k2 := HC3.out.k; clear hb)
            | (go_at_call 7; refine (HQ.out _ (HV.out _ HB3.out)).mono ?_; rintro e w4 ⟨rfl, hb⟩; have HB4 := Lib.hid (HB3.out.trans (hb.mono HB3.out.size)); have HC4 := Lib.hid (HC3.out.keep hb); have HE4 := Lib.hid (HE3.out.trans (hb.mono HE3.out.size)); have k0 := HC4.out.s; have k1 := HC4.out.l; have k2 := HC4.out.k; clear hb)
            | (go_at_call 8; refine (HPL.out _ (HV.out _ HB4.out)).mono ?_; rintro e w5 ⟨r, rfl, hf, hb⟩; rw [HEN.out r hf]; simp only [oV]; have HB5 := Lib.hid (HB4.out.trans (hb.mono HB4.out.size)); have HC5 := Lib.hid (HC4.out.keep hb); have HE5 := Lib.hid (HE4.out.trans (hb.mono HE4.out.size)); clear hb hf))
          clear HP HQ HPL HEN
          have kx : ∀ y : KW (fun W => Below w5.heap.size w5 W), (y.w.cell? ⟨w.heap.size, 0, none⟩ = some (.slice ca1 c1.length cc1) ∧ y.w.cell? ⟨w.heap.size, 1, none⟩ = some (.slice ca2 c2.length cc2)) ∧ y.w.cell? ⟨w.heap.size, 2, none⟩ = some (.int .i64 ck) := fun y => ⟨⟨cell_keep y.ok HC5.out.s, cell_keep y.ok HC5.out.l⟩, cell_keep y.ok HC5.out.k⟩
          haveI n1 : Nonempty (KW (fun W => Below w5.heap.size w5 W)) := ⟨⟨w5, Below.refl _ _⟩⟩
          clear k0 k1 k2
          refine wp_region_tree (fun w' => ∃ y : KW (fun W => Below w5.heap.size w5 W), w' = y.w) 7 (.take 0 (.take 1 (.take 3 (.take 4 (.take 5 (.two 2 (.one 6 .done) 6 (.one 2 .done))))))) hmix (by kernel_rfl) (KW.mk' (Below.refl _ _).drew) ?_
          have HB6 := Lib.hid (show Below w5.heap.size w5 w5.drew from (Below.refl _ _).drew)
          generalize w5.drew = w6 at *
          have hz6 := HB6.out.size
          have HV6 := Lib.hid (HV.out _ (HB5.out.trans (HB6.out.mono HB5.out.size)))
          repeat (refine wpTree_take ?_; simp only [nthOp]; (first | go_big_quiet_step (fail) | quiet_step (fail)); refine wpQuiet_nil ?_)
          refine wpTree_two ?_ ?_
          · simp only [nthOp]
            go_wp2_with (go_at_call 10; refine (HPR.out _ HV6.out).mono ?_; rintro e w7 ⟨v, rfl, ho, hb⟩; have HO7 := Lib.hid ho; have HB7 := Lib.hid hb; clear ho hb)
            refine One_mk (KW.mk' (HB6.out.trans (HB7.out.mono hz6))) ?_
            refine wpTree_one ?_
            simp only [nthOp]
            go_wp2_with fail
            refine One_mk (KW.mk' ((HB6.out.trans (HB7.out.mono hz6)).alloc (by have := HB7.out.size; omega) _)) ?_
            refine wpTree_done ?_
            simp only [List.drop_succ_cons, List.drop_zero]
            obtain ⟨a3, c3, rfl, hiv⟩ := own_ints' HO7.out
            rw [List.length_map]
            have HV7 := Lib.hid (HV.out _ (((HB5.out.trans (HB6.out.mono HB5.out.size)).trans (HB7.out.mono (by have := HB5.out.size; omega))).alloc (by have := HB7.out.size; have := HB5.out.size; omega) (.cells (madeCells #[.bool false] c1.length) 4)))
            have HI7 := Lib.hid (intsV_keep hiv ((Below.refl _ _).alloc (Nat.le_refl _) (.cells (madeCells #[.bool false] c1.length) 4)))
            have HO8 := Lib.hid (made_bv w7 c1.length (by omega))
            go_wp2_with (go_at_call 9; refine (HPF.out _ _ _ _ _ HV7.out HI7.out HO8.out).mono ?_; rintro e w9 ⟨rfl, hb⟩; have HE9 := Lib.hid hb; clear hb)
            refine NP_mk ?_
            have HW9 := Lib.hid (show Below w2.heap.size w2 w9 from ((HE5.out.trans (HB6.out.mono HE5.out.size)).trans (HB7.out.mono (by have := HE5.out.size; omega))).trans ((Below.trans ((Below.refl w7.heap.size w7).alloc (Nat.le_refl _) (.cells (madeCells #[.bool false] c1.length) 4)) (HE9.out.mono (by simp))).mono (by have := HB7.out.size; have := HE5.out.size; omega)))
            clear kx n1 HV7 HI7 HO8 hiv HO7 HE9 HB7 HV6 HB6 hz6
            have HB9 := Lib.hid (HBX.out.trans (HW9.out.mono HBX.out.size))
            obtain ⟨k0, k1, k2⟩ := HC2.out.keep HW9.out
            go_wp2_with (first
              | (go_at_call 11; refine (HCK.out.1 _ HW9.out).mono ?_; rintro e w10 ⟨rfl, hb⟩; have HW10 := Lib.hid (HW9.out.trans (hb.mono HW9.out.size)); have k0 := cell_keep hb k0; have k1 := cell_keep hb k1; have k2 := cell_keep hb k2; clear hb)
              | (go_at_call 12; refine (HCK.out.2 _ HW10.out).mono ?_; rintro e w11 ⟨rfl, hb⟩; have HB9 := Lib.hid (HBX.out.trans ((HW10.out.trans (hb.mono HW10.out.size)).mono HBX.out.size)); clear hb))
            go_ret
            first | exact ⟨rfl, HB9.out⟩ | exact ⟨by simp, HB9.out⟩ | exact ⟨by simp; omega, HB9.out⟩
          · simp only [nthOp]
            go_wp2_with fail
            refine One_mk (KW.mk' (HB6.out.alloc hz6 _)) ?_
            refine wpTree_one ?_
            simp only [nthOp]
            have HB8 := Lib.hid ((Below.refl w6.heap.size w6).alloc (Nat.le_refl _) (.cells (madeCells #[.bool false] c1.length) 4))
            have HO8 := Lib.hid (made_bv w6 c1.length (by omega))
            have HV8 := Lib.hid (HV.out _ ((HB5.out.trans (HB6.out.mono HB5.out.size)).trans (HB8.out.mono (by have := HB5.out.size; omega))))
            go_wp2_with (go_at_call 10; refine (HPR.out _ HV8.out).mono ?_; rintro e w7 ⟨v, rfl, ho, hb⟩; have HO7 := Lib.hid ho; have HB7 := Lib.hid (HB8.out.trans (hb.mono HB8.out.size)); have HO9 := Lib.hid (boolsV_keep HO8.out hb); clear ho hb)
            refine One_mk (KW.mk' (HB6.out.trans (HB7.out.mono hz6))) ?_
            refine wpTree_done ?_
            simp only [List.drop_succ_cons, List.drop_zero]
            obtain ⟨a3, c3, rfl, hiv⟩ := own_ints' HO7.out
            rw [List.length_map]
            have HV7 := Lib.hid (HV.out _ ((HB5.out.trans (HB6.out.mono HB5.out.size)).trans (HB7.out.mono (by have := HB5.out.size; omega))))
            go_wp2_with (go_at_call 9; refine (HPF.out _ _ _ _ _ HV7.out hiv HO9.out).mono ?_; rintro e w9 ⟨rfl, hb⟩; have HE9 := Lib.hid hb; clear hb)
            refine NP_mk ?_
            have HW9 := Lib.hid (show Below w2.heap.size w2 w9 from ((HE5.out.trans (HB6.out.mono HE5.out.size)).trans (HB7.out.mono (by have := HE5.out.size; omega))).trans (HE9.out.mono (by have := HB7.out.size; have := HE5.out.size; omega)))
            clear kx n1 HV7 HO8 HO9 hiv HO7 HE9 HB7 HV6 HB6 hz6 HB8 HV8
            have HB9 := Lib.hid (HBX.out.trans (HW9.out.mono HBX.out.size))
            obtain ⟨k0, k1, k2⟩ := HC2.out.keep HW9.out
            go_wp2_with (first
              | (go_at_call 11; refine (HCK.out.1 _ HW9.out).mono ?_; rintro e w10 ⟨rfl, hb⟩; have HW10 := Lib.hid (HW9.out.trans (hb.mono HW9.out.size)); have k0 := cell_keep hb k0; have k1 := cell_keep hb k1; have k2 := cell_keep hb k2; clear hb)
              | (go_at_call 12; refine (HCK.out.2 _ HW10.out).mono ?_; rintro e w11 ⟨rfl, hb⟩; have HB9 := Lib.hid (HBX.out.trans ((HW10.out.trans (hb.mono HW10.out.size)).mono HBX.out.size)); clear hb))
            go_ret
            first | exact ⟨rfl, HB9.out⟩ | exact ⟨by simp, HB9.out⟩ | exact ⟨by simp; omega, HB9.out⟩
        | some mb =>
          simp only [oP] at HP
          go_upto_region 13 with (first
            | (go_at_call 6; refine (HP.out _ HVX.out).mono ?_; rintro e w3 ⟨rfl, hb⟩; have HB3 := Lib.hid (HBX.out.trans (hb.mono HBX.out.size)); have HC3 := Lib.hid (HC2.out.keep hb); have HE3 := Lib.hid hb; have k0 := HC3.out.s; have k1 := HC3.out.l; have k2 := HC3.out.k; clear hb)
            | (go_at_call 7; refine (HQ.out _ (HV.out _ HB3.out)).mono ?_; rintro e w4 ⟨rfl, hb⟩; have HB4 := Lib.hid (HB3.out.trans (hb.mono HB3.out.size)); have HC4 := Lib.hid (HC3.out.keep hb); have HE4 := Lib.hid (HE3.out.trans (hb.mono HE3.out.size)); have k0 := HC4.out.s; have k1 := HC4.out.l; have k2 := HC4.out.k; clear hb)
            | (go_at_call 8; refine (HPL.out _ (HV.out _ HB4.out)).mono ?_; rintro e w5 ⟨r, rfl, hf, hb⟩; rw [HEN.out r hf]; simp only [oV]; have HB5 := Lib.hid (HB4.out.trans (hb.mono HB4.out.size)); have HC5 := Lib.hid (HC4.out.keep hb); have HE5 := Lib.hid (HE4.out.trans (hb.mono HE4.out.size)); clear hb hf))
          clear HP HQ HPL HEN
          have kx : ∀ y : KW (fun W => Below w5.heap.size w5 W), (y.w.cell? ⟨w.heap.size, 0, none⟩ = some (.slice ca1 c1.length cc1) ∧ y.w.cell? ⟨w.heap.size, 1, none⟩ = some (.slice ca2 c2.length cc2)) ∧ y.w.cell? ⟨w.heap.size, 2, none⟩ = some (.int .i64 ck) := fun y => ⟨⟨cell_keep y.ok HC5.out.s, cell_keep y.ok HC5.out.l⟩, cell_keep y.ok HC5.out.k⟩
          haveI n1 : Nonempty (KW (fun W => Below w5.heap.size w5 W)) := ⟨⟨w5, Below.refl _ _⟩⟩
          clear k0 k1 k2
          refine wp_region_tree (fun w' => ∃ y : KW (fun W => Below w5.heap.size w5 W), w' = y.w) 7 (.take 0 (.take 1 (.take 3 (.take 4 (.take 5 (.two 2 (.one 6 .done) 6 (.one 2 .done))))))) hmix (by kernel_rfl) (KW.mk' (Below.refl _ _).drew) ?_
          have HB6 := Lib.hid (show Below w5.heap.size w5 w5.drew from (Below.refl _ _).drew)
          generalize w5.drew = w6 at *
          have hz6 := HB6.out.size
          have HV6 := Lib.hid (HV.out _ (HB5.out.trans (HB6.out.mono HB5.out.size)))
          repeat (refine wpTree_take ?_; simp only [nthOp]; (first | go_big_quiet_step (fail) | quiet_step (fail)); refine wpQuiet_nil ?_)
          refine wpTree_two ?_ ?_
          · simp only [nthOp]
            go_wp2_with (go_at_call 10; refine (HPR.out _ HV6.out).mono ?_; rintro e w7 ⟨v, rfl, ho, hb⟩; have HO7 := Lib.hid ho; have HB7 := Lib.hid hb; clear ho hb)
            refine One_mk (KW.mk' (HB6.out.trans (HB7.out.mono hz6))) ?_
            refine wpTree_one ?_
            simp only [nthOp]
            go_wp2_with fail
            refine One_mk (KW.mk' ((HB6.out.trans (HB7.out.mono hz6)).alloc (by have := HB7.out.size; omega) _)) ?_
            refine wpTree_done ?_
            simp only [List.drop_succ_cons, List.drop_zero]
            obtain ⟨a3, c3, rfl, hiv⟩ := own_ints' HO7.out
            rw [List.length_map]
            have HV7 := Lib.hid (HV.out _ (((HB5.out.trans (HB6.out.mono HB5.out.size)).trans (HB7.out.mono (by have := HB5.out.size; omega))).alloc (by have := HB7.out.size; have := HB5.out.size; omega) (.cells (madeCells #[.bool false] c1.length) 4)))
            have HI7 := Lib.hid (intsV_keep hiv ((Below.refl _ _).alloc (Nat.le_refl _) (.cells (madeCells #[.bool false] c1.length) 4)))
            have HO8 := Lib.hid (made_bv w7 c1.length (by omega))
            go_wp2_with (go_at_call 9; refine (HPF.out _ _ _ _ _ HV7.out HI7.out HO8.out).mono ?_; rintro e w9 ⟨rfl, hb⟩; have HE9 := Lib.hid hb; clear hb)
            refine NP_mk ?_
            have HW9 := Lib.hid (show Below w2.heap.size w2 w9 from ((HE5.out.trans (HB6.out.mono HE5.out.size)).trans (HB7.out.mono (by have := HE5.out.size; omega))).trans ((Below.trans ((Below.refl w7.heap.size w7).alloc (Nat.le_refl _) (.cells (madeCells #[.bool false] c1.length) 4)) (HE9.out.mono (by simp))).mono (by have := HB7.out.size; have := HE5.out.size; omega)))
            clear kx n1 HV7 HI7 HO8 hiv HO7 HE9 HB7 HV6 HB6 hz6
            have HB9 := Lib.hid (HBX.out.trans (HW9.out.mono HBX.out.size))
            obtain ⟨k0, k1, k2⟩ := HC2.out.keep HW9.out
            go_wp2_with (first
              | (go_at_call 11; refine (HCK.out.1 _ HW9.out).mono ?_; rintro e w10 ⟨rfl, hb⟩; have HW10 := Lib.hid (HW9.out.trans (hb.mono HW9.out.size)); have k0 := cell_keep hb k0; have k1 := cell_keep hb k1; have k2 := cell_keep hb k2; clear hb)
              | (go_at_call 12; refine (HCK.out.2 _ HW10.out).mono ?_; rintro e w11 ⟨rfl, hb⟩; have HB9 := Lib.hid (HBX.out.trans ((HW10.out.trans (hb.mono HW10.out.size)).mono HBX.out.size)); clear hb))
            go_ret
            first | exact ⟨rfl, HB9.out⟩ | exact ⟨by simp, HB9.out⟩ | exact ⟨by simp; omega, HB9.out⟩
          · simp only [nthOp]
            go_wp2_with fail
            refine One_mk (KW.mk' (HB6.out.alloc hz6 _)) ?_
            refine wpTree_one ?_
            simp only [nthOp]
            have HB8 := Lib.hid ((Below.refl w6.heap.size w6).alloc (Nat.le_refl _) (.cells (madeCells #[.bool false] c1.length) 4))
            have HO8 := Lib.hid (made_bv w6 c1.length (by omega))
            have HV8 := Lib.hid (HV.out _ ((HB5.out.trans (HB6.out.mono HB5.out.size)).trans (HB8.out.mono (by have := HB5.out.size; omega))))
            go_wp2_with (go_at_call 10; refine (HPR.out _ HV8.out).mono ?_; rintro e w7 ⟨v, rfl, ho, hb⟩; have HO7 := Lib.hid ho; have HB7 := Lib.hid (HB8.out.trans (hb.mono HB8.out.size)); have HO9 := Lib.hid (boolsV_keep HO8.out hb); clear ho hb)
            refine One_mk (KW.mk' (HB6.out.trans (HB7.out.mono hz6))) ?_
            refine wpTree_done ?_
            simp only [List.drop_succ_cons, List.drop_zero]
            obtain ⟨a3, c3, rfl, hiv⟩ := own_ints' HO7.out
            rw [List.length_map]
            have HV7 := Lib.hid (HV.out _ ((HB5.out.trans (HB6.out.mono HB5.out.size)).trans (HB7.out.mono (by have := HB5.out.size; omega))))
            go_wp2_with (go_at_call 9; refine (HPF.out _ _ _ _ _ HV7.out hiv HO9.out).mono ?_; rintro e w9 ⟨rfl, hb⟩; have HE9 := Lib.hid hb; clear hb)
            refine NP_mk ?_
            have HW9 := Lib.hid (show Below w2.heap.size w2 w9 from ((HE5.out.trans (HB6.out.mono HE5.out.size)).trans (HB7.out.mono (by have := HE5.out.size; omega))).trans (HE9.out.mono (by have := HB7.out.size; have := HE5.out.size; omega)))
            clear kx n1 HV7 HO8 HO9 hiv HO7 HE9 HB7 HV6 HB6 hz6 HB8 HV8
            have HB9 := Lib.hid (HBX.out.trans (HW9.out.mono HBX.out.size))
            obtain ⟨k0, k1, k2⟩ := HC2.out.keep HW9.out
            go_wp2_with (first
              | (go_at_call 11; refine (HCK.out.1 _ HW9.out).mono ?_; rintro e w10 ⟨rfl, hb⟩; have HW10 := Lib.hid (HW9.out.trans (hb.mono HW9.out.size)); have k0 := cell_keep hb k0; have k1 := cell_keep hb k1; have k2 := cell_keep hb k2; clear hb)
              | (go_at_call 12; refine (HCK.out.2 _ HW10.out).mono ?_; rintro e w11 ⟨rfl, hb⟩; have HB9 := Lib.hid (HBX.out.trans ((HW10.out.trans (hb.mono HW10.out.size)).mono HBX.out.size)); clear hb))
            go_ret
            first | exact ⟨rfl, HB9.out⟩ | exact ⟨by simp, HB9.out⟩ | exact ⟨by simp; omega, HB9.out⟩
      · obtain ⟨rfl, hrl, hr20, has⟩ := HFY.out hnev
        obtain ⟨hwB, mb, rfl, hmb⟩ := HYES.out hnev
        have hw' : ¬ want < 0 := by omega
        have HWB := Lib.hid hwB
        have HRL := Lib.hid (show rows.length ≤ 20 by omega)
        have HR20 := Lib.hid hr20
        have HAS := Lib.hid has
        clear HNO HYES HFN HFY hnev hwB hrl hr20 has
        have hl4 : ∀ x ∈ rows.map (fun r => r.map fun i : Nat => (i : Int)), x.length ≤ 20 := fun x hx => by
          obtain ⟨r, hr, rfl⟩ := List.mem_map.1 hx
          rw [List.length_map]; exact HR20.out r hr
        have HCK := Lib.hid (show (∀ W, Below w2.heap.size w2 W → Calls Try.prog 11 #[.agg #[.slice ca1 c1.length cc1, .slice ca2 c2.length cc2, .int .i64 ck], .slice av rows.length cv] W fun e w' => e = .returned (.tuple #[.int .i64 want, .int .i64 0]) ∧ Below W.heap.size W w') ∧
            (∀ W, Below w2.heap.size w2 W → Calls Try.prog 12 #[.agg #[.slice ca1 c1.length cc1, .slice ca2 c2.length cc2, .int .i64 ck], .slice av rows.length cv] W fun e w' => e = .returned (.tuple #[.int .i64 want, .int .i64 0]) ∧ Below W.heap.size W w') from by
          constructor
          · intro W hb
            have h0 := HV.out _ (HBX.out.trans (hb.mono HBX.out.size))
            have h := refCheckBars_any ca1 ca2 av c1 c2 (rows.map fun r => r.map fun i : Nat => (i : Int)) cc1 cc2 cv ck W h0.1 h0.2 (HVL.out.keep hb) (by omega) (by omega) (by rw [List.length_map]; exact HRL.out) hl4 Wc
            rw [HAS.out, List.length_map, ← HWB.out] at h
            exact h
          · intro W hb
            have h0 := HV.out _ (HBX.out.trans (hb.mono HBX.out.size))
            have h := checkBarsP_any ca1 ca2 av c1 c2 (rows.map fun r => r.map fun i : Nat => (i : Int)) cc1 cc2 cv ck W h0.1 h0.2 (HVL.out.keep hb) (by omega) (by omega) (by rw [List.length_map]; exact HRL.out) hl4
            rw [HAS.out, List.length_map, ← HWB.out] at h
            exact h)
        have hge : want ≥ (mb : Int) := by have := HWB.out; omega
        clear hl4 HR20 HAS HRL HWB hmb
        simp only [oP] at HP
        go_upto_region 13 with (first
          | (go_at_call 6; refine (HP.out _ HVX.out).mono ?_; rintro e w3 ⟨rfl, hb⟩; have HB3 := Lib.hid (HBX.out.trans (hb.mono HBX.out.size)); have HC3 := Lib.hid (HC2.out.keep hb); have HE3 := Lib.hid hb; have k0 := HC3.out.s; have k1 := HC3.out.l; have k2 := HC3.out.k; clear hb)
          | (go_at_call 7; refine (HQ.out _ (HV.out _ HB3.out)).mono ?_; rintro e w4 ⟨rfl, hb⟩; have HB4 := Lib.hid (HB3.out.trans (hb.mono HB3.out.size)); have HC4 := Lib.hid (HC3.out.keep hb); have HE4 := Lib.hid (HE3.out.trans (hb.mono HE3.out.size)); have k0 := HC4.out.s; have k1 := HC4.out.l; have k2 := HC4.out.k; clear hb)
          | (go_at_call 8; refine (HPL.out _ (HV.out _ HB4.out)).mono ?_; rintro e w5 ⟨r, rfl, hf, hb⟩; rw [HEN.out r hf]; simp only [oV]; have HB5 := Lib.hid (HB4.out.trans (hb.mono HB4.out.size)); have HC5 := Lib.hid (HC4.out.keep hb); have HE5 := Lib.hid (HE4.out.trans (hb.mono HE4.out.size)); clear hb hf))
        clear HP HQ HPL HEN
        have kx : ∀ y : KW (fun W => Below w5.heap.size w5 W), (y.w.cell? ⟨w.heap.size, 0, none⟩ = some (.slice ca1 c1.length cc1) ∧ y.w.cell? ⟨w.heap.size, 1, none⟩ = some (.slice ca2 c2.length cc2)) ∧ y.w.cell? ⟨w.heap.size, 2, none⟩ = some (.int .i64 ck) := fun y => ⟨⟨cell_keep y.ok HC5.out.s, cell_keep y.ok HC5.out.l⟩, cell_keep y.ok HC5.out.k⟩
        haveI n1 : Nonempty (KW (fun W => Below w5.heap.size w5 W)) := ⟨⟨w5, Below.refl _ _⟩⟩
        clear k0 k1 k2
        refine wp_region_tree (fun w' => ∃ y : KW (fun W => Below w5.heap.size w5 W), w' = y.w) 7 (.take 0 (.take 1 (.take 3 (.take 4 (.take 5 (.two 2 (.one 6 .done) 6 (.one 2 .done))))))) hmix (by kernel_rfl) (KW.mk' (Below.refl _ _).drew) ?_
        have HB6 := Lib.hid (show Below w5.heap.size w5 w5.drew from (Below.refl _ _).drew)
        generalize w5.drew = w6 at *
        have hz6 := HB6.out.size
        have HV6 := Lib.hid (HV.out _ (HB5.out.trans (HB6.out.mono HB5.out.size)))
        repeat (refine wpTree_take ?_; simp only [nthOp]; (first | go_big_quiet_step (fail) | quiet_step (fail)); refine wpQuiet_nil ?_)
        refine wpTree_two ?_ ?_
        · simp only [nthOp]
          go_wp2_with (go_at_call 10; refine (HPR.out _ HV6.out).mono ?_; rintro e w7 ⟨v, rfl, ho, hb⟩; have HO7 := Lib.hid ho; have HB7 := Lib.hid hb; clear ho hb)
          refine One_mk (KW.mk' (HB6.out.trans (HB7.out.mono hz6))) ?_
          refine wpTree_one ?_
          simp only [nthOp]
          go_wp2_with fail
          refine One_mk (KW.mk' ((HB6.out.trans (HB7.out.mono hz6)).alloc (by have := HB7.out.size; omega) _)) ?_
          refine wpTree_done ?_
          simp only [List.drop_succ_cons, List.drop_zero]
          obtain ⟨a3, c3, rfl, hiv⟩ := own_ints' HO7.out
          rw [List.length_map]
          have HV7 := Lib.hid (HV.out _ (((HB5.out.trans (HB6.out.mono HB5.out.size)).trans (HB7.out.mono (by have := HB5.out.size; omega))).alloc (by have := HB7.out.size; have := HB5.out.size; omega) (.cells (madeCells #[.bool false] c1.length) 4)))
          have HI7 := Lib.hid (intsV_keep hiv ((Below.refl _ _).alloc (Nat.le_refl _) (.cells (madeCells #[.bool false] c1.length) 4)))
          have HO8 := Lib.hid (made_bv w7 c1.length (by omega))
          go_wp2_with (go_at_call 9; refine (HPF.out _ _ _ _ _ HV7.out HI7.out HO8.out).mono ?_; rintro e w9 ⟨rfl, hb⟩; have HE9 := Lib.hid hb; clear hb)
          refine NP_mk ?_
          have HW9 := Lib.hid (show Below w2.heap.size w2 w9 from ((HE5.out.trans (HB6.out.mono HE5.out.size)).trans (HB7.out.mono (by have := HE5.out.size; omega))).trans ((Below.trans ((Below.refl w7.heap.size w7).alloc (Nat.le_refl _) (.cells (madeCells #[.bool false] c1.length) 4)) (HE9.out.mono (by simp))).mono (by have := HB7.out.size; have := HE5.out.size; omega)))
          clear kx n1 HV7 HI7 HO8 hiv HO7 HE9 HB7 HV6 HB6 hz6
          have HB9 := Lib.hid (HBX.out.trans (HW9.out.mono HBX.out.size))
          obtain ⟨k0, k1, k2⟩ := HC2.out.keep HW9.out
          go_wp2_with (first
            | (go_at_call 11; refine (HCK.out.1 _ HW9.out).mono ?_; rintro e w10 ⟨rfl, hb⟩; have HW10 := Lib.hid (HW9.out.trans (hb.mono HW9.out.size)); have k0 := cell_keep hb k0; have k1 := cell_keep hb k1; have k2 := cell_keep hb k2; clear hb)
            | (go_at_call 12; refine (HCK.out.2 _ HW10.out).mono ?_; rintro e w11 ⟨rfl, hb⟩; have HB9 := Lib.hid (HBX.out.trans ((HW10.out.trans (hb.mono HW10.out.size)).mono HBX.out.size)); clear hb))
          go_ret
          first | exact ⟨rfl, HB9.out⟩ | exact ⟨by simp, HB9.out⟩ | exact ⟨by simp; omega, HB9.out⟩
        · simp only [nthOp]
          go_wp2_with fail
          refine One_mk (KW.mk' (HB6.out.alloc hz6 _)) ?_
          refine wpTree_one ?_
          simp only [nthOp]
          have HB8 := Lib.hid ((Below.refl w6.heap.size w6).alloc (Nat.le_refl _) (.cells (madeCells #[.bool false] c1.length) 4))
          have HO8 := Lib.hid (made_bv w6 c1.length (by omega))
          have HV8 := Lib.hid (HV.out _ ((HB5.out.trans (HB6.out.mono HB5.out.size)).trans (HB8.out.mono (by have := HB5.out.size; omega))))
          go_wp2_with (go_at_call 10; refine (HPR.out _ HV8.out).mono ?_; rintro e w7 ⟨v, rfl, ho, hb⟩; have HO7 := Lib.hid ho; have HB7 := Lib.hid (HB8.out.trans (hb.mono HB8.out.size)); have HO9 := Lib.hid (boolsV_keep HO8.out hb); clear ho hb)
          refine One_mk (KW.mk' (HB6.out.trans (HB7.out.mono hz6))) ?_
          refine wpTree_done ?_
          simp only [List.drop_succ_cons, List.drop_zero]
          obtain ⟨a3, c3, rfl, hiv⟩ := own_ints' HO7.out
          rw [List.length_map]
          have HV7 := Lib.hid (HV.out _ ((HB5.out.trans (HB6.out.mono HB5.out.size)).trans (HB7.out.mono (by have := HB5.out.size; omega))))
          go_wp2_with (go_at_call 9; refine (HPF.out _ _ _ _ _ HV7.out hiv HO9.out).mono ?_; rintro e w9 ⟨rfl, hb⟩; have HE9 := Lib.hid hb; clear hb)
          refine NP_mk ?_
          have HW9 := Lib.hid (show Below w2.heap.size w2 w9 from ((HE5.out.trans (HB6.out.mono HE5.out.size)).trans (HB7.out.mono (by have := HE5.out.size; omega))).trans (HE9.out.mono (by have := HB7.out.size; have := HE5.out.size; omega)))
          clear kx n1 HV7 HO8 HO9 hiv HO7 HE9 HB7 HV6 HB6 hz6 HB8 HV8
          have HB9 := Lib.hid (HBX.out.trans (HW9.out.mono HBX.out.size))
          obtain ⟨k0, k1, k2⟩ := HC2.out.keep HW9.out
          go_wp2_with (first
            | (go_at_call 11; refine (HCK.out.1 _ HW9.out).mono ?_; rintro e w10 ⟨rfl, hb⟩; have HW10 := Lib.hid (HW9.out.trans (hb.mono HW9.out.size)); have k0 := cell_keep hb k0; have k1 := cell_keep hb k1; have k2 := cell_keep hb k2; clear hb)
            | (go_at_call 12; refine (HCK.out.2 _ HW10.out).mono ?_; rintro e w11 ⟨rfl, hb⟩; have HB9 := Lib.hid (HBX.out.trans ((HW10.out.trans (hb.mono HW10.out.size)).mono HBX.out.size)); clear hb))
          go_ret
          first | exact ⟨rfl, HB9.out⟩ | exact ⟨by simp, HB9.out⟩ | exact ⟨by simp; omega, HB9.out⟩
    · have HFE := Lib.hid (HF.out.err he)
      have hleast : leastM c1 c2 ck = (0, crossE c1 c2 ck) := by unfold leastM; rw [if_pos he]
      have HP := Lib.hid (fun W (h1 : Intss.V W ca1 c1 ∧ Intss.V W ca2 c2) => leastBars_any ca1 ca2 c1 c2 cc1 cc2 ck W h1.1.ints h1.2.ints (by omega) (by omega))
      have HQ := Lib.hid (fun W (h1 : Intss.V W ca1 c1 ∧ Intss.V W ca2 c2) => refCross_any ca1 ca2 c1 c2 cc1 cc2 ck W h1.1 h1.2 (by omega) (by omega))
      rw [hleast] at HP
      obtain ⟨h1, rfl⟩ := HFE.out
      have hne : ¬ E = 0 := by rw [h1]; exact he
      rw [← h1] at HP HQ
      clear h1 HFE he hleast HF
      go_wp2_with (first
        | (go_at_call 6; refine (HP.out _ HVX.out).mono ?_; rintro e w3 ⟨rfl, hb⟩; have HB3 := Lib.hid (HBX.out.trans (hb.mono HBX.out.size)); have HC3 := HC2.out.keep hb; have k0 := HC3.s; have k1 := HC3.l; have k2 := HC3.k; clear HC3 hb)
        | (go_at_call 7; refine (HQ.out _ (HV.out _ HB3.out)).mono ?_; rintro e w4 ⟨rfl, hb⟩; have HB4 := Lib.hid (HB3.out.trans (hb.mono HB3.out.size)); clear hb))
      go_ret
      exact ⟨by simp, HB4.out⟩
set_option maxRecDepth 100000 in
theorem cuttingBars_walks : Walks 3 Try.f3 := by
  intro H enc W base args ds p hval hA hlt
  rw [Try.params3] at hA hval
  obtain ⟨v0, vs0, d0, ds0, p0, q0, hargs, rfl, rfl, ⟨fu0, hf0⟩, r0⟩ := trodAll_cons hA
  obtain ⟨rfl, rfl, rfl⟩ := trodAll_nil r0
  obtain rfl : args = #[v0] := by cases args; simp_all
  obtain ⟨cs0, rfl, -⟩ := okWide_struct Try.underlying24 (hval 0 24 v0 rfl rfl)
  obtain ⟨a0, l0, c0, b0, m0, d0, k0, hc0, ⟨V0, C0, M0⟩, ⟨U0, D0, N0⟩, W0⟩ := cross_open hf0
  have hd0 : cs0 = #[.slice a0 l0.length c0, .slice b0 m0.length d0, .int .i64 k0] := by
    cases cs0; simpa [Value.cells] using hc0
  subst hd0
  exact walkCuttingBars a0 l0 c0 b0 m0 d0 k0 W V0 (by unfold maxLen at M0; omega) C0 U0 (by unfold maxLen at N0; omega) D0 W0

set_option maxRecDepth 100000 in
theorem cuttingBars_holds : Rows.CuttingBarsSaid :=
  law_holds (s := Rows.cuttingBarsSpec) (c := Rows.cuttingBarsRow) 3 Try.f3 rfl
    (fun H ds h => by match ds, h with | [_], _ => rfl) (by kernel_rfl) (by kernel_rfl)
    rfl rfl rfl rfl rfl rfl rfl ⟨rfl, rfl, rfl, rfl, rfl⟩ rfl rfl rfl rfl rfl rfl rfl rfl rfl rfl (fun _ _ => rfl) (by kernel_rfl) Try.func3
    cuttingBars_closed (of_decide_eq_true (by kernel_rfl)) (by unfold Func.isWrapper; first | (rw [if_pos (by decide +kernel)]; kernel_rfl) | (rw [if_neg (by decide +kernel)]; exact ⟨rfl, rfl⟩)) (by kernel_rfl)
    (fun H enc os => ChangeSpec.witness6 (enc := enc) (C := Try.checked) false ⟨#[], #[.agg #[.slice none 0 0, .slice none 0 0, .int .i64 0]], []⟩ 8 (by kernel_rfl) (by kernel_rfl) (by kernel_rfl) (by kernel_rfl))
    cuttingBars_walks
end Go.Proofs.Ytoelfalmmaddlaa
