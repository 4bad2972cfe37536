/- Assignments of crosscuts: rows of rows of numbers; what CheckCrosscut returns. CheckCrosscut of the program. CheckCross and CheckCrosscut of the reference. CheckCrosscut of the reference. -/
import Derived.Test.YtoelfalmmaddlaaGreatQL
import Derived.Test.YtoelfalmmaddlaaGreatVG
set_option linter.unusedVariables false
set_option linter.unusedSimpArgs false
namespace Go.Proofs.YtoelfalmmaddlaaGreat
open Go Go.ChangeShapes Go.WideShapes Go.ChangeAt Go.RowKit

def listAt (w : World) (b o : Nat) (x : List Int) : Prop := ∃ (ad : Option Addr) (cd : Nat), w.cell? ⟨b, o, none⟩ = some (.slice ad x.length cd) ∧ Intss.V w ad x ∧ x.length ≤ cd ∧ cd ≤ maxLen
def Listss.V (w : World) (a : Option Addr) (l : List (List Int)) : Prop := RowV 1 listAt w a l
theorem Listss.V.keep {w w' : World} {a : Option Addr} {l : List (List Int)} (h : Listss.V w a l) (hb : Below w.heap.size w w') : Listss.V w' a l :=
 RowV.keep (fun _ _ _ ⟨ad, cd, h1, h2, h3, h4⟩ => ⟨ad, cd, cell_keep hb h1, h2.keep hb, h3, h4⟩) h
theorem Listss.V.at' {w : World} {a : Option Addr} {l : List (List Int)} (h : Listss.V w a l) {k : Nat} (hk : k < l.length) : ∃ b off ad cd, a = some ⟨b, off, none⟩ ∧ w.cell? ⟨b, off + k, none⟩ = some (.slice ad l[k].length cd) ∧ Intss.V w ad l[k] := by
 obtain ⟨b, off, ha, ad, cd, h1, h2, h3, h4⟩ := h.at_ hk
 exact ⟨b, off, ad, cd, ha, by simpa using h1, h2⟩
/-! One row. -/
def entE (m : Nat) (D : List Bool) (x : List Int) (i : Nat) : Int :=
 if withinB (x.getD i 0) 0 ((m : Int) - 1) = false then 6 else if 0 < i ∧ x.getD i 0 ≤ x.getD (i - 1) 0 then 9 else if D.getD (x.getD i 0).toNat false = true then 5 else 0
theorem getD_at {x : List Int} {k : Nat} (hk : k < x.length) : x.getD k 0 = x[k] := by rw [List.getD_eq_getElem?_getD, List.getElem?_eq_getElem hk]; rfl
theorem ent_miss {m : Nat} {D : List Bool} {x : List Int} {k : Nat} (hk : k < x.length) (h : withinB x[k] 0 ((m : Int) - 1) = false) : entE m D x k = 6 := by unfold entE; rw [getD_at hk, if_pos h]
theorem ent_order {m : Nat} {D : List Bool} {x : List Int} {k : Nat} (hk : k < x.length) (h : withinB x[k] 0 ((m : Int) - 1) = true) (h0 : 0 < k) (h1 : x[k] ≤ x[k - 1]) : entE m D x k = 9 := by
 unfold entE
 rw [getD_at hk, getD_at (by omega), if_neg (by rw [h]; decide), if_pos ⟨h0, h1⟩]
theorem ent_exists {m : Nat} {D : List Bool} {x : List Int} {k : Nat} (hk : k < x.length) (h : withinB x[k] 0 ((m : Int) - 1) = true) (h1 : 0 < k → ¬ x[k] ≤ x[k - 1]) (h2 : D.getD x[k].toNat false = true) : entE m D x k = 5 := by
 unfold entE
 rw [getD_at hk, if_neg (by rw [h]; decide), if_neg (by rintro ⟨a, b⟩; rw [getD_at (by omega)] at b; exact h1 a b), if_pos h2]
theorem ent_zero {m : Nat} {D : List Bool} {x : List Int} {k : Nat} (hk : k < x.length) (h : withinB x[k] 0 ((m : Int) - 1) = true) (h1 : 0 < k → ¬ x[k] ≤ x[k - 1]) (h2 : D.getD x[k].toNat false = false) : entE m D x k = 0 := by
 unfold entE
 rw [getD_at hk, if_neg (by rw [h]; decide), if_neg (by rintro ⟨a, b⟩; rw [getD_at (by omega)] at b; exact h1 a b), if_neg (by rw [h2]; decide)]
theorem ent_ok {m : Nat} {D : List Bool} {x : List Int} {i : Nat} (h : entE m D x i = 0) : (0 ≤ x.getD i 0 ∧ x.getD i 0 ≤ (m : Int) - 1) ∧ (0 < i → x.getD (i - 1) 0 < x.getD i 0) ∧ D.getD (x.getD i 0).toNat false = false := by
 unfold entE at h
 split at h
 ·cases h
 ·split at h
  ·cases h
  ·split at h
   ·cases h
   ·rename_i h1 h2 h3
    simp only [Bool.not_eq_false] at h1
    exact ⟨withinB_true h1, fun h0 => by have := fun q => h2 ⟨h0, q⟩; omega, by simpa using h3⟩
def markB (D : List Bool) : List Int → List Bool
 | [] => D
 | n :: r => markB (D.set n.toNat true) r
theorem markB_len : ∀ {r : List Int} {D : List Bool}, (markB D r).length = D.length
 | [], _ => rfl
 | n :: r, D => by rw [markB, markB_len, List.length_set]
theorem markB_snoc : ∀ {r : List Int} {D : List Bool} {n : Int}, markB D (r ++ [n]) = (markB D r).set n.toNat true
 | [], _, _ => rfl
 | y :: r, D, n => by rw [List.cons_append, markB, markB_snoc, markB]
theorem markB_take {x : List Int} {D : List Bool} {k : Nat} (hk : k < x.length) : markB D (x.take (k + 1)) = (markB D (x.take k)).set x[k].toNat true := by
 rw [List.take_succ_eq_append_getElem hk, markB_snoc]
def fnz (f : Nat → Int) : Nat → Nat → Int
 | _, 0 => 0
 | k, n + 1 => if f k ≠ 0 then f k else fnz f (k + 1) n
theorem fnz_from {f : Nat → Int} : ∀ {n k j : Nat}, (∀ i, k ≤ i → i < j → f i = 0) → k ≤ j → j < k + n → f j ≠ 0 → fnz f k n = f j
 | 0, k, j, _, h1, h2, _ => by omega
 | n + 1, k, j, h, h1, h2, h3 => by
  rw [fnz]
  rcases Nat.lt_or_eq_of_le h1 with h4 | rfl
  ·rw [if_neg (by simp [h k (Nat.le_refl _) h4])]
   exact fnz_from (fun i a b => h i (by omega) b) (by omega) (by omega) h3
  ·rw [if_pos h3]
theorem fnz_zero {f : Nat → Int} : ∀ {n k : Nat}, (∀ i, k ≤ i → i < k + n → f i = 0) → fnz f k n = 0
 | 0, _, _ => rfl
 | n + 1, k, h => by
  rw [fnz, if_neg (by simp [h k (Nat.le_refl _) (by omega)])]
  exact fnz_zero fun i a b => h i (by omega) (by omega)
def rowE (m : Nat) (D : List Bool) (x : List Int) : Int := fnz (entE m D x) 0 x.length
theorem row_err {m : Nat} {D : List Bool} {x : List Int} {k : Nat} {E : Int} (h : ∀ i, i < k → entE m D x i = 0) (hk : k < x.length) (he : entE m D x k = E) (hE : E ≠ 0) : rowE m D x = E := by
 subst he
 exact fnz_from (fun i _ hi => h i hi) (Nat.zero_le _) (by omega) hE
theorem row_ok {m : Nat} {D : List Bool} {x : List Int} {k : Nat} (h : ∀ i, i < k → entE m D x i = 0) (hk : x.length ≤ k) : rowE m D x = 0 := fnz_zero fun i _ hi => h i (by omega)
def rowSum (ln : List Int) (kerf : Int) : List Int → Int
 | [] => 0
 | n :: r => ln.getD n.toNat 0 + kerf + rowSum ln kerf r
theorem rowSum_snoc {ln : List Int} {kerf : Int} : ∀ {r : List Int} {n : Int}, rowSum ln kerf (r ++ [n]) = rowSum ln kerf r + (ln.getD n.toNat 0 + kerf)
 | [], _ => by simp [rowSum]
 | y :: r, n => by rw [List.cons_append, rowSum, rowSum_snoc, rowSum]; omega
theorem rowSum_take {ln : List Int} {kerf : Int} {x : List Int} {k : Nat} (hk : k < x.length) : rowSum ln kerf (x.take (k + 1)) = rowSum ln kerf (x.take k) + (ln.getD x[k].toNat 0 + kerf) := by
 rw [List.take_succ_eq_append_getElem hk, rowSum_snoc]

/-! All rows. -/
def barsGo (ln : List Int) (kerf : Int) : List (List Int) → List Int → List Bool → Int → Int × Int
 | [], _, D, U => if D.all id = false then (0, 16) else (U, 0)
 | x :: r, s, D, U => if rowE ln.length D x ≠ 0 then (0, rowE ln.length D x) else if s.headD 0 + kerf < rowSum ln kerf x then (0, 8) else barsGo ln kerf r s.tail (markB D x) (U + if x.length = 0 then 0 else 1)
section
variable {ln st : List Int} {kerf U : Int} {l : List (List Int)} {D : List Bool} {k : Nat} {q : Int × Int}
theorem bars_err {E : Int} (hk : k < l.length) (h : q = barsGo ln kerf (l.drop k) (st.drop k) D U) (he : rowE ln.length D l[k] = E) (hE : E ≠ 0) : q = (0, E) := by
 subst he
 rw [h, List.drop_eq_getElem_cons hk, barsGo, if_pos hE]
theorem headD_at (hs : k < st.length) : (st.drop k).headD 0 = st[k] := by rw [List.drop_eq_getElem_cons hs]; rfl
theorem bars_large (hk : k < l.length) (hs : k < st.length) (h : q = barsGo ln kerf (l.drop k) (st.drop k) D U) (he : rowE ln.length D l[k] = 0) (hE : st[k] + kerf < rowSum ln kerf l[k]) : q = (0, 8) := by
 rw [h, List.drop_eq_getElem_cons hk, barsGo, if_neg (by simp [he]), headD_at hs, if_pos hE]
theorem bars_step (hk : k < l.length) (hs : k < st.length) (h : q = barsGo ln kerf (l.drop k) (st.drop k) D U) (he : rowE ln.length D l[k] = 0) (hE : ¬ st[k] + kerf < rowSum ln kerf l[k]) :
    q = barsGo ln kerf (l.drop (k + 1)) (st.drop (k + 1)) (markB D l[k]) (U + if l[k].length = 0 then 0 else 1) := by
 rw [h, List.drop_eq_getElem_cons hk, barsGo, if_neg (by simp [he]), headD_at hs, if_neg hE, List.tail_drop]
theorem bars_gap (hk : l.length ≤ k) (h : q = barsGo ln kerf (l.drop k) (st.drop k) D U) (hD : D.all id = false) : q = (0, 16) := by
 rw [h, List.drop_of_length_le hk, barsGo, if_pos hD]
theorem bars_end (hk : l.length ≤ k) (h : q = barsGo ln kerf (l.drop k) (st.drop k) D U) (hD : D.all id = true) : q = (U, 0) := by
 rw [h, List.drop_of_length_le hk, barsGo, if_neg (by rw [hD]; decide)]
end
def assignM (st ln : List Int) (kerf : Int) (l : List (List Int)) : Int × Int :=
 if crossE st ln kerf ≠ 0 then (0, crossE st ln kerf) else if l.length ≠ st.length then (0, 10) else barsGo ln kerf l st (List.replicate ln.length false) 0

/-! Rows of truth values of the call's own. -/
theorem own_setb {w : World} {base e n g cap : Nat} {l : List Bool} {i : Nat} {x : Bool} (h : w.ownsRow base e 1 (.slice (some ⟨g, 0, none⟩) n cap) n (l.map Value.bool)) (hi : i < l.length) :
    (w.setCell ⟨g, i, none⟩ (.bool x)).ownsRow base e 1 (.slice (some ⟨g, 0, none⟩) n cap) n ((l.set i x).map Value.bool) := by
 have hn : l.length = n := by have := h.1; simpa using this
 refine ⟨by simp [hn], ?_⟩
 rcases h.2 with ⟨e0, _⟩ | ⟨g', cap', cur, e0, hb, hg, hnc, hm, hs, ht⟩
 ·cases e0
 ·injection e0 with e1 _ e3
  injection e1 with e1
  injection e1 with e1
  subst e1; subst e3
  refine .inr ⟨g, cap, cur.setIfInBounds i (.bool x), rfl, hb, ?_, hnc, hm, by simpa using hs, ?_⟩
  ·simp [World.setCell, Array.getElem?_modify, hg]
  ·rw [List.map_set, ← ht, Array.toList_setIfInBounds, List.take_set]
theorem own_bool_cell {w : World} {base e n g cap : Nat} {l : List Bool} {i : Nat} (h : w.ownsRow base e 1 (.slice (some ⟨g, 0, none⟩) n cap) n (l.map Value.bool)) (hi : i < l.length) : w.cell? ⟨g, i, none⟩ = some (.bool (l.getD i false)) ∧ w.frozen? ⟨g, i, none⟩ = false := by
 refine ⟨?_, ?_⟩
 ·have := h.cells (g := g) rfl i (.bool (l.getD i false)) (by simp [hi, List.getD_eq_getElem?_getD])
  rwa [addr_add, Nat.zero_add] at this
 ·rcases h.2 with ⟨e0, _⟩ | ⟨g', cap', cur, e0, hb, hg, hnc, hm, hs, ht⟩
  ·cases e0
  ·injection e0 with e1 _ e3
   injection e1 with e1
   injection e1 with e1
   subst e1
   simp [World.frozen?, hg]
theorem make_bools (W : World) (n : Nat) (hn : n ≤ 100000) : (Instr.makeSlice 84 (.int .i64 (n : Int)) (.int .i64 (n : Int))).run Tryz.prog W = .ok (.slice (some ⟨W.heap.size, 0, none⟩) n n) (W.alloc (.cells (madeCells #[.bool false] n) 4)) := by
 obtain ⟨n0, hn0, hx0, hx1, hx2⟩ := info_parts bool_info
 have := run_make (P := Tryz.prog) W 84 4 n0 (.bool false) Tryz.underlying84 hn0 hx0 .i64 .i64 (n : Int) (n : Int) (by omega) (Int.le_refl _) (by rw [hx2]; omega) (by omega)
 rw [this]
 simp [hx1, Value.cells]
end Go.Proofs.YtoelfalmmaddlaaGreat

set_option linter.unusedVariables false
set_option linter.unusedSimpArgs false
namespace Go.Proofs.YtoelfalmmaddlaaGreat
open Go Go.RowKit

set_option maxHeartbeats 1000000 in
theorem idxFalse_any (a : Option Addr) (l : List Bool) (n c : Nat) (w : World) (hn : l.length = n) (hv : Bools.V w a l) (hl : l.length ≤ 1000000) :
    Calls Tryz.prog 61 #[.slice a n c, .bool false] w fun e w' => e = .returned (.int .i64 (idxOf (fun y => !y) l)) ∧ Below w.heap.size w w' := by
 subst hn
 go_enter Tryz.func61, Tryz.ntmps61
 go_wp2_with fail
 go_loopw [8] (fun i wr => ∃ k : Nat, k ≤ l.length ∧ i = .int .i64 k ∧ Hid (∀ j (hj : j < l.length), j < k → (!l[j]) = false) ∧ Below w.heap.size w wr) (fun i _ => l.length - (intOf i).toNat)
 case atStart => exact ⟨0, Nat.zero_le _, rfl, Lib.hid (fun j _ h => by omega), Below.refl _ _⟩
 case round =>
  obtain ⟨k, hk, rfl, HK, hbw⟩ := hrel
  by_cases hlt : k < l.length
  ·obtain ⟨b, off, rfl, c0⟩ := (hv.keep hbw).at' hlt
   have HH := Lib.hid (fun h => idxOf_hit (p := fun y => !y) hlt HK.out h)
   have HN := Lib.hid (fun h => none_step (p := fun y => !y) HK.out hlt h)
   have hki : (k : Int) < (l.length : Int) := by omega
   generalize l[k] = y at *
   cases y
   ·have hr := Lib.hid (HH.out rfl)
    clear HH HN HK
    go_wp2_with fail
    go_ret
    exact ⟨ret_int hr.out.symm, hbw⟩
   ·have hr := Lib.hid (HN.out rfl)
    clear HH HN HK
    go_wp2_with fail
    go_roundw
    case rel => exact ⟨k + 1, by omega, by go_num, hr, hbw⟩
    case measure => simp [intOf]; omega
  ·have hm := Lib.hid (idxOf_miss (p := fun y => !y) (l := l) (fun j hj => HK.out j hj (by omega)))
   have hki : ¬ (k : Int) < (l.length : Int) := by omega
   clear HK
   go_wp2_with fail
   go_ret
   exact ⟨ret_int hm.out.symm, hbw⟩
theorem any_not (l : List Bool) : l.any (fun y => !y) = !(l.all id) := by induction l <;> simp_all
set_option maxHeartbeats 1000000 in
theorem hasFalse_any (a : Option Addr) (l : List Bool) (n c : Nat) (w : World) {q : Bool} (hn : l.length = n) (hq : l.all id = q) (hv : Bools.V w a l) (hl : l.length ≤ 1000000) :
    Calls Tryz.prog 32 #[.slice a n c, .bool false] w fun e w' => e = .returned (.bool (!q)) ∧ Below w.heap.size w w' := by
 have hi := Lib.hid ((idxOf_bool' (fun y => !y) l).trans ((any_not l).trans (by rw [hq])))
 generalize hI : idxOf (fun y => !y) l = I at *
 have HC := Lib.hid (idxFalse_any a l n c w hn hv hl)
 rw [hI] at HC
 clear hI
 go_enter Tryz.func32, Tryz.ntmps32
 go_wp2_with (go_at_call 61; refine HC.out.mono ?_; rintro e w1 ⟨rfl, hb⟩; have HB := Lib.hid hb; clear hb)
 go_ret
 exact ⟨ret_bool (by rw [← hi.out]), HB.out⟩

theorem at0 (x : List Int) : (x.take 0) = [] := by simp
set_option maxRecDepth 100000 in
set_option maxHeartbeats 16000000 in
theorem checkBarsP_any (a1 a2 al : Option Addr) (st ln : List Int) (l : List (List Int)) (c1 c2 cl : Nat) (kerf : Int) (w : World) (hv1 : Intss.V w a1 st) (hv2 : Intss.V w a2 ln) (hv3 : Listss.V w al l) (hl1 : st.length ≤ 20) (hl2 : ln.length ≤ 20) (hl3 : l.length ≤ 20) (hl4 : ∀ x ∈ l, x.length ≤ 20) :
    Calls Tryz.prog 15 #[.agg #[.slice a1 st.length c1, .slice a2 ln.length c2, .int .i64 kerf], .slice al l.length cl] w fun e w' => e = .returned (.tuple #[.int .i64 (assignM st ln kerf l).1, .int .i64 (assignM st ln kerf l).2]) ∧ Below w.heap.size w w' := by
 by_cases he : crossE st ln kerf = 0
 ·have HE := Lib.hid he
  obtain ⟨⟨s10, l10⟩, hsb, hlb, hkf⟩ := cross_ok he
  have HSB := Lib.hid hsb
  have HLB := Lib.hid hlb
  have HL4 := Lib.hid hl4
  by_cases hll : l.length = st.length
  ·have HM := Lib.hid (show assignM st ln kerf l = barsGo ln kerf l st (List.replicate ln.length false) 0 by unfold assignM; rw [if_neg (by simp [he]), if_neg (by simp [hll])])
   generalize assignM st ln kerf l = q at *
   have hq1 : ((l.length : Int) == (st.length : Int)) = true := beq_t (by omega)
   have hq2 : ((l.length : Int) != (st.length : Int)) = false := by rw [hll]; simp
   have HLL := Lib.hid hll
   have hmk := fun W => make_bools W ln.length (by omega)
   clear he hsb hlb hl4 hll
   go_enter Tryz.func15, Tryz.ntmps15
   go_upto_region 1 with fail
   refine gen_world (fun W => CB W w.heap.size a1 st.length c1 a2 ln.length c2 kerf ∧ Below w.heap.size w W ∧ w.heap.size < W.heap.size) ⟨⟨by simp, by simp, by simp⟩, (Below.refl _ _).alloc (Nat.le_refl _) _, by simp⟩ ?_
   rintro W ⟨hC, hbW, hzW⟩
   have HC := Lib.hid hC
   have HBW := Lib.hid hbW
   obtain ⟨k0, k1, k2⟩ := hC
   clear hbW
   go_upto_region 4 with (go_at_call 30; refine (checkCross_any a1 a2 st ln c1 c2 kerf _ (hv1.keep HBW.out).ints (hv2.keep HBW.out).ints (by omega) (by omega)).mono ?_; rw [HE.out]; rintro e w1 ⟨rfl, hb⟩; have HB1 := Lib.hid hb; clear hb)
   have HC1 := Lib.hid (HC.out.keep HB1.out)
   have HB2 := Lib.hid (HBW.out.trans (HB1.out.mono (Nat.le_of_lt hzW)))
   have hzw1 : w.heap.size < w1.heap.size := Nat.lt_of_lt_of_le hzW HB1.out.size
   clear k0 k1 k2 HC HBW HB1 hzW
   obtain ⟨k0, k1, k2⟩ := HC1.out
   go_wp2_with fail
   clear k0 k1 k2 hmk hq1 hq2
   obtain ⟨B2, hB2⟩ : ∃ B, B = w1.heap.size := ⟨_, rfl⟩
   have HB := Lib.hid hB2
   rw [← hB2] at hzw1 ⊢
   clear hB2
   go_loopw [33, 7] (fun iv uv wr => ∃ (k : Nat) (U : Int) (D : List Bool), k ≤ l.length ∧ iv = .int .i64 k ∧ uv = .int .i64 U ∧ (0 ≤ U ∧ U ≤ k) ∧ D.length = ln.length ∧ Hid (q = barsGo ln kerf (l.drop k) (st.drop k) D U) ∧ Hid (wr.ownsRow B2 4 1 (.slice (some ⟨B2, 0, none⟩) ln.length ln.length) ln.length (D.map Value.bool)) ∧ Below B2 w1 wr) (fun iv _ _ => l.length - (intOf iv).toNat)
   case atStart =>
    refine ⟨0, 0, List.replicate ln.length false, Nat.zero_le _, rfl, rfl, by omega, by simp, HM, Lib.hid ?_, ?_⟩
    ·have h := made_own (w := w1) (base := B2) (n := ln.length) (T := 4) (z := .bool false) (by rw [HB.out]; exact Nat.le_refl _) (by unfold maxLen; omega)
     rw [List.map_replicate]
     rw [← HB.out] at h
     exact h
    ·exact (Below.refl _ _).alloc (by rw [HB.out]; exact Nat.le_refl _) _
   case round =>
    clear HM
    obtain ⟨k, U, D, hk, rfl, rfl, hU, hDl, HQ, HO, hbr⟩ := hrel
    have hzB := own_blk HO.out
    have HBR := Lib.hid hbr
    have HBRw : Hid (Below w1.heap.size w1 wr) := Lib.hid (by rw [← HB.out]; exact hbr)
    have HBX := Lib.hid (HB2.out.trans (HBRw.out.mono (by rw [← HB.out]; omega)))
    clear hbr
    obtain ⟨k0, k1, k2⟩ := HC1.out.keep HBRw.out
    by_cases hlt : k < l.length
    ·obtain ⟨b, off, ad, cd, rfl, c0w, hx⟩ := hv3.at' hlt
     have c0 := cell_keep HBX.out c0w
     clear c0w
     have hks : k < st.length := by have := HLL.out; omega
     have HERR := Lib.hid (fun E h1 h2 => bars_err (E := E) hlt HQ.out h1 h2)
     have HLAR := Lib.hid (fun h1 h2 => bars_large hlt hks HQ.out h1 h2)
     have HSTP := Lib.hid (fun h1 h2 => bars_step hlt hks HQ.out h1 h2)
     have hx20 := HL4.out _ (List.getElem_mem hlt)
     have hki : (k : Int) < (l.length : Int) := by omega
     have HX := Lib.hid hx
     clear hx HQ
     generalize l[k] = x at *
     go_wp2_with fail
     clear k0 k1 k2 c0
     obtain ⟨wo, rfl⟩ : ∃ wo : World, wo = wr := ⟨_, rfl⟩
     go_loopw [40, 11] (fun iv sv wi => ∃ (i : Nat) (S : Int), i ≤ x.length ∧ iv = .int .i64 i ∧ sv = .int .i64 S ∧ (0 ≤ S ∧ S ≤ 610000 * i) ∧ Hid (S = rowSum ln kerf (x.take i)) ∧ Hid (∀ j, j < i → entE ln.length D x j = 0) ∧ Below wo.heap.size wo wi) (fun iv _ _ => x.length - (intOf iv).toNat)
     case atStart => exact ⟨0, 0, Nat.zero_le _, rfl, rfl, by omega, Lib.hid (by rw [at0]; rfl), Lib.hid (fun j h => by omega), Below.refl _ _⟩
     case round =>
      obtain ⟨i, S, hi, rfl, rfl, hS, HS, HZ, hbi⟩ := hrel
      have HBI := Lib.hid hbi
      have HBIX := Lib.hid (HBX.out.trans (hbi.mono (by have := HBX.out.size; omega)))
      have HOI := Lib.hid (own_keep HO.out hbi)
      obtain ⟨k0, k1, k2⟩ := (HC1.out.keep HBRw.out).keep hbi
      by_cases hil : i < x.length
      ·obtain ⟨bx, ox, hax, cx, -⟩ := (HX.out.keep HBIX.out).at' hil
       have hii : (i : Int) < (x.length : Int) := by omega
       have HMISS := Lib.hid (fun h => row_err HZ.out hil (ent_miss (m := ln.length) (D := D) hil h) (by decide))
       have HORD := Lib.hid (fun h h0 h1 => row_err HZ.out hil (ent_order (m := ln.length) (D := D) hil h h0 h1) (by decide))
       have HEX := Lib.hid (fun h h0 h1 => row_err HZ.out hil (ent_exists (m := ln.length) (D := D) hil h h0 h1) (by decide))
       have HZ1 := Lib.hid (fun h h0 h1 => ent_zero (m := ln.length) (D := D) hil h h0 h1)
       have HSUM := Lib.hid (show rowSum ln kerf (x.take (i + 1)) = S + (ln.getD x[i].toNat 0 + kerf) by rw [rowSum_take hil, HS.out])
       have hprev : i = 0 ∨ ∃ (j : Nat) (p : Int), i = j + 1 ∧ wr.cell? ⟨bx, ox + j, none⟩ = some (.int .i64 p) ∧ x[i - 1]? = some p := by
        rcases Nat.eq_zero_or_pos i with h | h
        ·exact .inl h
        ·obtain ⟨bx', ox', hax', cx', -⟩ := (HX.out.keep HBIX.out).at' (k := i - 1) (by omega)
         rw [hax] at hax'
         injection hax' with hax'
         injection hax' with e1 e2
         subst e1 e2
         exact .inr ⟨i - 1, x[i - 1], by omega, cx', List.getElem?_eq_getElem _⟩
       subst hax
       clear hbi HS
       have HN := Lib.hid (show ∃ hh : i < x.length, x[i] = x[i] from ⟨hil, rfl⟩)
       have hpn : ∀ p, x[i - 1]? = some p → ∀ h : i - 1 < x.length, x[i - 1] = p := fun p hp h => by rw [List.getElem?_eq_getElem h] at hp; injection hp
       have HPN := Lib.hid hpn
       clear hpn
       obtain ⟨n, hn⟩ : ∃ n, n = x[i] := ⟨_, rfl⟩
       rw [← hn] at cx HMISS HORD HEX HZ1 HSUM
       have HNE := Lib.hid hn
       clear hn HN
       have vL : IntKind.i64.wrap ((ln.length : Int) - 1) = (ln.length : Int) - 1 := IntWalk.i64_in _ (by omega)
       cases hwn : withinB n 0 ((ln.length : Int) - 1)
       ·have HR := Lib.hid (HERR.out 6 (HMISS.out hwn) (by decide))
        have HW := Lib.hid hwn
        clear HMISS HORD HEX HZ1 HSUM HERR HLAR HSTP hwn hprev
        go_wp2_with (go_at_call 31; refine (cwithin_is _ _ _ _ HW.out).mono ?_; rintro e w' ⟨rfl, rfl⟩)
        go_ret2
        exact ⟨ret_two HR.out, HBIX.out⟩
       ·have HW := Lib.hid hwn
        obtain ⟨hn0, hn1⟩ := withinB_true hwn
        obtain ⟨c, rfl⟩ : ∃ c : Nat, n = c := ⟨n.toNat, by omega⟩
        have hcl : c < ln.length := by omega
        have hci : (c : Int) < (ln.length : Int) := by omega
        obtain ⟨dcell, dfr⟩ := own_bool_cell HOI.out (i := c) (by omega)
        obtain ⟨by_, oy, hay, cy, -⟩ := (hv2.keep HBIX.out).at' hcl
        have hyb := HLB.out _ (List.getElem_mem hcl)
        rw [Int.toNat_natCast, getD_at hcl] at HSUM
        rw [Int.toNat_natCast] at HEX HZ1
        subst hay
        generalize ln[c] = y at *
        have hgx := block_lt_of_cell cx
        have hgy := block_lt_of_cell cy
        have hgk := block_lt_of_cell k0
        simp only at hgx hgy hgk
        clear HMISS
        rcases hprev with hi0 | ⟨j, p, hj, cp, hp⟩
        ·have g54 : ¬ (i : Int) > 0 := by omega
         have HH1 : Hid (0 < i → ¬ (c : Int) ≤ x[i - 1]'(Nat.lt_of_le_of_lt (Nat.sub_le i 1) hil)) := Lib.hid (fun h => by omega)
         clear hi0
         cases hD : D.getD c false
         ·rw [hD] at dcell
          have HZN := Lib.hid (HZ1.out HW.out HH1.out hD)
          have vs1 : IntKind.i64.wrap (y + kerf) = y + kerf := IntWalk.i64_in _ (by omega)
          have vs2 : IntKind.i64.wrap (S + (y + kerf)) = S + (y + kerf) := IntWalk.i64_in _ (by omega)
          clear HEX HORD HZ1 HERR HLAR HSTP hwn hD
          go_wp2_with (go_at_call 31; refine (cwithin_is _ _ _ _ HW.out).mono ?_; rintro e w' ⟨rfl, rfl⟩)
          go_quiet (fail)
          rename_i nq
          go_wp2_with fail
          go_roundw
          case rel =>
           refine ⟨i + 1, S + (y + kerf), by omega, by go_num, rfl, by omega, Lib.hid HSUM.out.symm, Lib.hid (fun jj h => ?_), below_drewN HBI.out nq⟩
           rcases Nat.lt_succ_iff_lt_or_eq.1 h with h' | rfl
           ·exact HZ.out jj h'
           ·exact HZN.out
          case measure => simp [intOf]; omega
         ·rw [hD] at dcell
          have HR := Lib.hid (HERR.out 5 (HEX.out HW.out HH1.out hD) (by decide))
          clear HEX HORD HZ1 HSUM HERR HLAR HSTP hwn hD
          go_wp2_with (go_at_call 31; refine (cwithin_is _ _ _ _ HW.out).mono ?_; rintro e w' ⟨rfl, rfl⟩)
          go_ret2
          exact ⟨ret_two HR.out, HBIX.out⟩
        ·have HJ := Lib.hid hj
         have hp2 : Hid (x[i - 1]'(Nat.lt_of_le_of_lt (Nat.sub_le i 1) hil) = p) := Lib.hid (HPN.out p hp _)
         have g54 : (i : Int) > 0 := by omega
         have vi : IntKind.i64.wrap ((i : Int) - 1) = (j : Int) := by rw [show (i : Int) - 1 = (j : Int) by omega]; exact IntWalk.i64_in _ (by omega)
         have hji : (j : Int) < (x.length : Int) := by omega
         clear hj hp
         by_cases hle : (c : Int) ≤ p
         ·have HR := Lib.hid (HERR.out 9 (HORD.out HW.out (by have := HJ.out; omega) (by rw [hp2.out]; exact hle)) (by decide))
          clear HEX HORD HZ1 HSUM HERR HLAR HSTP hwn
          go_wp2_with (go_at_call 31; refine (cwithin_is _ _ _ _ HW.out).mono ?_; rintro e w' ⟨rfl, rfl⟩)
          go_ret2
          exact ⟨ret_two HR.out, HBIX.out⟩
         ·have HH1 : Hid (0 < i → ¬ (c : Int) ≤ x[i - 1]'(Nat.lt_of_le_of_lt (Nat.sub_le i 1) hil)) := Lib.hid (fun h => by rw [hp2.out]; exact hle)
          cases hD : D.getD c false
          ·rw [hD] at dcell
           have HZN := Lib.hid (HZ1.out HW.out HH1.out hD)
           have vs1 : IntKind.i64.wrap (y + kerf) = y + kerf := IntWalk.i64_in _ (by omega)
           have vs2 : IntKind.i64.wrap (S + (y + kerf)) = S + (y + kerf) := IntWalk.i64_in _ (by omega)
           clear HEX HORD HZ1 HERR HLAR HSTP hwn hD
           go_wp2_with (go_at_call 31; refine (cwithin_is _ _ _ _ HW.out).mono ?_; rintro e w' ⟨rfl, rfl⟩)
           go_quiet (fail)
           rename_i nq
           go_wp2_with fail
           go_roundw
           case rel =>
            refine ⟨i + 1, S + (y + kerf), by omega, by go_num, rfl, by omega, Lib.hid HSUM.out.symm, Lib.hid (fun jj h => ?_), below_drewN HBI.out nq⟩
            rcases Nat.lt_succ_iff_lt_or_eq.1 h with h' | rfl
            ·exact HZ.out jj h'
            ·exact HZN.out
           case measure => simp [intOf]; omega
          ·rw [hD] at dcell
           have HR := Lib.hid (HERR.out 5 (HEX.out HW.out HH1.out hD) (by decide))
           clear HEX HORD HZ1 HSUM HERR HLAR HSTP hwn hD
           go_wp2_with (go_at_call 31; refine (cwithin_is _ _ _ _ HW.out).mono ?_; rintro e w' ⟨rfl, rfl⟩)
           go_ret2
           exact ⟨ret_two HR.out, HBIX.out⟩
      ·have HS2 := HS.out
       rw [List.take_of_length_le (by omega)] at HS2
       have hRO := row_ok HZ.out (Nat.le_of_not_lt hil)
       have HZA := Lib.hid (fun j (h : j < x.length) => HZ.out j (by omega))
       obtain ⟨by_, oy, hay, cy, -⟩ := (hv1.keep HBIX.out).at' hks
       have hyb := HSB.out _ (List.getElem_mem hks)
       have HLAR2 := Lib.hid (fun h => HLAR.out hRO h)
       have HSTP2 := Lib.hid (fun h => HSTP.out hRO h)
       rw [← HS2] at HLAR2 HSTP2
       subst hay
       generalize st[k] = y at *
       have hgy := block_lt_of_cell cy
       have hgk := block_lt_of_cell k0
       simp only at hgy hgk
       have hii : ¬ (i : Int) < (x.length : Int) := by omega
       have hki2 : (k : Int) < (st.length : Int) := by omega
       have v1 : IntKind.i64.wrap (y + kerf) = y + kerf := IntWalk.i64_in _ (by omega)
       clear hbi HS HZ HS2 hRO HERR HLAR HSTP
       by_cases hlg : S > y + kerf
       ·have HR := Lib.hid (HLAR2.out hlg)
        clear HLAR2 HSTP2
        go_wp2_with fail
        go_quiet (fail)
        rename_i nq
        go_wp2_with fail
        go_ret2
        exact ⟨ret_two HR.out, below_drewN HBIX.out nq⟩
       ·have HR := Lib.hid (HSTP2.out (by omega))
        clear HLAR2 HSTP2
        go_wp2_with fail
        go_quiet (fail)
        rename_i nq
        go_wp2_with fail
        clear k0 k1 k2 cy
        obtain ⟨wi, rfl⟩ : ∃ wi : World, wi = wr := ⟨_, rfl⟩
        go_loopw [93] (fun iv wm => ∃ i : Nat, i ≤ x.length ∧ iv = .int .i64 i ∧ Hid (wm.ownsRow B2 4 1 (.slice (some ⟨B2, 0, none⟩) ln.length ln.length) ln.length ((markB D (x.take i)).map Value.bool)) ∧ Below B2 w1 wm) (fun iv _ => x.length - (intOf iv).toNat)
        case atStart =>
         exact ⟨0, Nat.zero_le _, rfl, Lib.hid (by rw [at0]; exact own_keep HOI.out (below_drewN (Below.refl _ _) nq)), below_drewN (HBR.out.trans (HBI.out.mono (by omega))) nq⟩
        case round =>
         obtain ⟨j, hj, rfl, HOJ, hbj⟩ := hrel
         have HBJ := Lib.hid hbj
         have HBJX := Lib.hid (HB2.out.trans ((show Below w1.heap.size w1 wr by rw [← HB.out]; exact hbj).mono (by rw [← HB.out]; omega)))
         clear hbj
         by_cases hjl : j < x.length
         ·obtain ⟨bx, ox, hax, cx, -⟩ := (HX.out.keep HBJX.out).at' hjl
          have hent := (ent_ok (HZA.out j hjl)).1
          have HTK := Lib.hid (markB_take (x := x) (D := D) hjl)
          rw [getD_at hjl] at hent
          have hii : (j : Int) < (x.length : Int) := by omega
          subst hax
          obtain ⟨n, hn⟩ : ∃ n, n = x[j] := ⟨_, rfl⟩
          rw [← hn] at cx hent HTK
          clear hn
          obtain ⟨c, rfl⟩ : ∃ c : Nat, n = c := ⟨n.toNat, by omega⟩
          have hci : (c : Int) < (ln.length : Int) := by omega
          have hcm : c < (markB D (x.take j)).length := by rw [markB_len]; omega
          obtain ⟨dcell, dfr⟩ := own_bool_cell HOJ.out hcm
          rw [Int.toNat_natCast] at HTK
          clear hent
          go_wp2_with fail
          go_roundw
          case rel => exact ⟨j + 1, by omega, by go_num, Lib.hid (by rw [HTK.out]; exact own_setb HOJ.out hcm), HBJ.out.setCell (Nat.le_refl _) _⟩
          case measure => simp [intOf]; omega
         ·obtain rfl : x.length = j := by omega
          have hii : ¬ (x.length : Int) < (x.length : Int) := by omega
          have HOF := HOJ.out
          rw [List.take_length] at HOF
          have HOF2 := Lib.hid HOF
          clear HOJ HOF
          by_cases hx0 : x.length = 0
          ·have hmn : min (1 : Int) (x.length : Int) = 0 := by omega
           rw [if_pos hx0] at HR
           clear hx0
           have hu : IntKind.i64.wrap (U + 0) = U := by rw [Int.add_zero]; exact IntWalk.i64_in _ (by omega)
           have hu2 : IntKind.i64.wrap U = U := IntWalk.i64_in _ (by omega)
           go_wp2_with fail
           go_roundw
           case rel => exact ⟨k + 1, U, markB D x, by omega, by go_num, by first | rfl | simp [*], by omega, by rw [markB_len]; exact hDl, Lib.hid (by have h := HR.out; rwa [Int.add_zero] at h), HOF2, HBJ.out⟩
           case measure => simp [intOf]; omega
          ·have hmn : min (1 : Int) (x.length : Int) = 1 := by omega
           rw [if_neg hx0] at HR
           clear hx0
           have hu : IntKind.i64.wrap (U + 1) = U + 1 := IntWalk.i64_in _ (by omega)
           go_wp2_with fail
           go_roundw
           case rel => exact ⟨k + 1, U + 1, markB D x, by omega, by go_num, by first | rfl | simp [*], by omega, by rw [markB_len]; exact hDl, HR, HOF2, HBJ.out⟩
           case measure => simp [intOf]; omega
    ·have hki : ¬ (k : Int) < (l.length : Int) := by omega
     have HBV : Hid (Bools.V wr (some ⟨B2, 0, none⟩) D) := Lib.hid (by
      obtain ⟨a', c', e1, e2⟩ := own_bools HO.out
      injection e1 with e3 _ _
      rw [e3]; exact e2)
     have hDd := Lib.hid hDl
     clear k0 k1 k2
     cases hall : D.all id
     ·have HR := Lib.hid (bars_gap (Nat.le_of_not_lt hlt) HQ.out hall)
      have HA := Lib.hid hall
      clear hall HQ hDl
      go_wp2_with (go_at_call 32; refine (hasFalse_any (some ⟨B2, 0, none⟩) D ln.length ln.length _ hDd.out HA.out HBV.out (by have := hDd.out; omega)).mono ?_; rintro e w2 ⟨rfl, hb⟩; have HB9 := Lib.hid (HBX.out.trans (hb.mono HBX.out.size)); clear hb)
      go_ret2
      exact ⟨ret_two HR.out, HB9.out⟩
     ·have HR := Lib.hid (bars_end (Nat.le_of_not_lt hlt) HQ.out hall)
      have HA := Lib.hid hall
      clear hall HQ hDl
      go_wp2_with (go_at_call 32; refine (hasFalse_any (some ⟨B2, 0, none⟩) D ln.length ln.length _ hDd.out HA.out HBV.out (by have := hDd.out; omega)).mono ?_; rintro e w2 ⟨rfl, hb⟩; have HB9 := Lib.hid (HBX.out.trans (hb.mono HBX.out.size)); clear hb)
      go_ret2
      exact ⟨ret_two HR.out, HB9.out⟩
  ·have HM := Lib.hid (show assignM st ln kerf l = (0, 10) by unfold assignM; rw [if_neg (by simp [he]), if_pos hll])
   generalize assignM st ln kerf l = q at *
   have hq1 : ((l.length : Int) == (st.length : Int)) = false := beq_f (by omega)
   have hq2 : ((l.length : Int) != (st.length : Int)) = true := by rw [bne_iff_ne]; omega
   clear he
   go_enter Tryz.func15, Tryz.ntmps15
   go_wp2_with (go_at_call 30; refine (checkCross_any a1 a2 st ln c1 c2 kerf _ (hv1.keep ((Below.refl _ _).alloc (Nat.le_refl _) _)).ints (hv2.keep ((Below.refl _ _).alloc (Nat.le_refl _) _)).ints (by omega) (by omega)).mono ?_; rw [HE.out]; rintro e w1 ⟨rfl, hb⟩; have HB1 := Lib.hid (((Below.refl w.heap.size w).alloc (Nat.le_refl _) _).trans (hb.mono (by simp))); have k0 : w1.cell? ⟨w.heap.size, 0, none⟩ = some (.slice a1 st.length c1) := cell_keep hb (by simp [go_sem]); clear hb)
   go_ret2
   exact ⟨ret_two HM.out, HB1.out⟩
 ·have hne : (crossE st ln kerf != 0) = true := by simpa using he
  have HM := Lib.hid (show assignM st ln kerf l = (0, crossE st ln kerf) by unfold assignM; rw [if_pos he])
  generalize assignM st ln kerf l = q at *
  obtain ⟨E, hE⟩ : ∃ E, crossE st ln kerf = E := ⟨_, rfl⟩
  rw [hE] at hne HM
  have HE := Lib.hid hE
  clear he hE
  go_enter Tryz.func15, Tryz.ntmps15
  go_wp2_with (go_at_call 30; refine (checkCross_any a1 a2 st ln c1 c2 kerf _ (hv1.keep ((Below.refl _ _).alloc (Nat.le_refl _) _)).ints (hv2.keep ((Below.refl _ _).alloc (Nat.le_refl _) _)).ints (by omega) (by omega)).mono ?_; rw [HE.out]; rintro e w1 ⟨rfl, hb⟩; have HB1 := Lib.hid (((Below.refl w.heap.size w).alloc (Nat.le_refl _) _).trans (hb.mono (by simp))); clear hb)
  go_ret2
  exact ⟨ret_two HM.out, HB1.out⟩
end Go.Proofs.YtoelfalmmaddlaaGreat

set_option linter.unusedVariables false
set_option linter.unusedSimpArgs false
namespace Go.Proofs.YtoelfalmmaddlaaGreat
open Go Go.RowKit

end Go.Proofs.YtoelfalmmaddlaaGreat

set_option linter.unusedVariables false
set_option linter.unusedSimpArgs false
namespace Go.Proofs.YtoelfalmmaddlaaGreat
open Go Go.RowKit

end Go.Proofs.YtoelfalmmaddlaaGreat
