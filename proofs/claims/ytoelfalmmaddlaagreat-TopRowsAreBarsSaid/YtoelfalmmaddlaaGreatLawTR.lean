/- TopRowsAreBars returns true for every input: the pieces of an accepted plan, in rows, are a right assignment of crosscuts, and as many boards as the least number of bars are used at least. No condition. -/
import Derived.Test.YtoelfalmmaddlaaGreatTRX
import Derived.Test.YtoelfalmmaddlaaGreatPLX
import Derived.Test.YtoelfalmmaddlaaGreatFactsTopRowsAreBars
set_option linter.unusedVariables false
set_option linter.unusedSimpArgs false
namespace Go.Proofs.YtoelfalmmaddlaaGreat
open Go Go.ChangeShapes Go.WideShapes Go.ChangeAt Go.RowKit

def TCut (W0 : World) (u : Nat → Value) (W : World) : Prop := ∃ (plan : List Layout) (a : Option Addr) (c : Nat), u 1 = .slice a plan.length c ∧ Layouts.V W a plan ∧ plan.length ≤ 1000 ∧ (∀ l ∈ plan, l.cuts.length ≤ 9223372036854775807) ∧ W = W0
theorem usable_rngT {j : Job} (hJ : JobOk j.stock j.blanks j.trim) {b : Board} (hb : b ∈ j.stock) : (-1000000 ≤ (usableR b j.trim).x1 ∧ (usableR b j.trim).x1 ≤ 1000000) ∧ (-1000000 ≤ (usableR b j.trim).y1 ∧ (usableR b j.trim).y1 ≤ 1000000) ∧ (0 ≤ (usableR b j.trim).x2 - (usableR b j.trim).x1 ∧ (usableR b j.trim).x2 - (usableR b j.trim).x1 ≤ 600000) ∧ (0 ≤ (usableR b j.trim).y2 - (usableR b j.trim).y1 ∧ (usableR b j.trim).y2 - (usableR b j.trim).y1 ≤ 600000) := by
 have h1 := hJ.size b hb
 have h2 := hJ.trim
 unfold usableR wholeR
 split
 ·simp
 ·rename_i hx; simp only at hx ⊢; omega
theorem outGo_few : ∀ (L : List BS) (i : Nat) (acc r : List (Nat × List Cut)), outGo i L acc = some r → r.length ≤ acc.length + L.length
 | [], i, acc, r, h => by unfold outGo at h; injection h with h; subst h; simp
 | s :: L, i, acc, r, h => by
  unfold outGo at h
  split at h
  ·cases h
  ·have h1 := outGo_few L _ _ _ h
   have h2 : (if usedB s.cuts then acc ++ [(i, s.cuts)] else acc).length ≤ acc.length + 1 := by split <;> simp
   rw [List.length_cons]
   omega
theorem run_few {stock : List Board} {blanks : List Blank} {kerf : Int} (hf : 0 ≤ kerf) (hw : ∀ x ∈ blanks, 0 < x.length ∧ 0 < x.width) : ∀ (seq : List Nat) (B : Nat) (L L' : List BS), (∀ i ∈ seq, i < blanks.length) → GoodL B L → L.length = stock.length → runM kerf stock blanks seq L = some L' → L'.length = stock.length
 | [], B, L, L', _, hL, hl, h => by unfold runM at h; injection h with h; subst h; exact hl
 | i :: seq, B, L, L', hi, hL, hl, h => by
  unfold runM at h
  split at h
  ·rename_i L1 h1
   have hb : bl blanks i ∈ blanks := by unfold bl; rw [List.getD_eq_getElem?_getD, List.getElem?_eq_getElem (hi i List.mem_cons_self)]; exact List.getElem_mem _
   obtain ⟨g1, g2⟩ := good_putAll hL hl hf (hw _ hb).1 (hw _ hb).2 h1
   exact run_few hf hw seq (B + 6) L1 L' (fun x hx => hi x (List.mem_cons_of_mem _ hx)) g1 g2 h
  ·cases h
theorem greedy_few {j : Job} (hE : jobE j = 0) {r : List (Nat × List Cut)} (hg : greedyM j.stock j.blanks j.trim = (r, 0)) : (planL r).length ≤ 1000 := by
 have hJ := jobOk_of hE
 have h3 := hJ.lenS
 unfold greedyM at hg
 split at hg
 ·cases hg
 ·rename_i L hL
  have hl := run_few hJ.trim.1.1 (fun x hx => by have := (hJ.want x hx).1; omega) (seqM j.blanks) 1 _ _ (fun i hi => seq_lt hi) (good_start (fun b hb => by have := hJ.size b hb; omega) hJ.trim.2.1.1 hJ.trim.2.2.1) (by unfold startM; simp) hL
  split at hg
  ·cases hg
  ·rename_i q hq
   injection hg with hg
   subst hg
   have := outGo_few _ _ _ _ hq
   unfold planL
   rw [List.length_map]
   simp only [List.length_nil] at this
   omega
structure RectT (W : World) (g : Nat) (r : Rect) : Prop where
 x1 : W.cell? ⟨g, 0, none⟩ = some (.int .i64 r.x1)
 y1 : W.cell? ⟨g, 1, none⟩ = some (.int .i64 r.y1)
 x2 : W.cell? ⟨g, 2, none⟩ = some (.int .i64 r.x2)
 y2 : W.cell? ⟨g, 3, none⟩ = some (.int .i64 r.y2)
theorem RectT.keep {W W' : World} {g : Nat} {r : Rect} (h : RectT W g r) (hb : Below W.heap.size W W') : RectT W' g r := ⟨cell_keep hb h.x1, cell_keep hb h.y1, cell_keep hb h.x2, cell_keep hb h.y2⟩
def TRect (W0 : World) (r : Rect) (u : Nat → Value) (W : World) : Prop := ∃ g : Nat, u 11 = .pointer (some ⟨g, 0, none⟩) ∧ RectT W g r ∧ Below W0.heap.size W0 W
theorem Desk.ltT {W : World} {g : Nat} {xs ys : List Int} {St : Addr → Value → Prop} (h : Desk W g [slotI ⟨g, 0, none⟩ xs, slotI ⟨g, 1, none⟩ ys] St) : g < W.heap.size := by
 obtain ⟨v, n, h1, -⟩ := h.row (i := 0) rfl rfl
 exact block_lt_of_cell h1
def PlSt (w : World) (n : Nat) (a : Addr) (v : Value) : Prop := a.spot = none ∧ n ≤ a.block ∧ w.cell? a = some v
theorem cntR_none (n : Nat) : cntR (List.replicate n []) = 0 := by unfold cntR; rw [List.countP_eq_zero]; intro x hx; rw [List.mem_replicate] at hx; rw [hx.2]; simp
theorem itemsL_len {b : Nat} : ∀ {asn : List Nat} {k : Nat}, (itemsL b asn k).length ≤ asn.length
 | [], k => by simp [itemsL]
 | a :: asn, k => by
  have h := itemsL_len (b := b) (asn := asn) (k := k + 1)
  rw [itemsL, List.length_cons]
  split
  ·rw [List.length_cons]; omega
  ·omega
theorem Desk.lt2 {W : World} {g : Nat} {xs ys : List Int} {S : List Slot} {St : Addr → Value → Prop} (h : Desk W g ([slotI ⟨g, 0, none⟩ xs, slotI ⟨g, 1, none⟩ ys] ++ S) St) : g < W.heap.size := by
 obtain ⟨v, n, h1, -⟩ := h.row (i := 0) rfl rfl
 exact block_lt_of_cell h1
def CutT (W0 : World) (v : Int) (u : Nat → Value) (W : World) : Prop := u 17 = .int .i64 v ∧ W = W0
theorem cuts_lim {w : World} {a : Option Addr} {plan : List Layout} (h : Layouts.V w a plan) : ∀ l ∈ plan, l.cuts.length ≤ 9223372036854775807 := by
 intro l hl
 obtain ⟨i, hi, rfl⟩ := List.mem_iff_getElem.1 hl
 obtain ⟨b, off, -, ac, cc, -, -, -, h1, h2, -⟩ := h.at_ hi
 unfold maxLen at h2
 omega
set_option maxRecDepth 100000 in
set_option maxHeartbeats 16000000 in
theorem walkTopRowsAreBars (j : Job) (ja1 : Option Addr) (jc1 : Nat) (ja2 : Option Addr) (jc2 : Nat) (plana : Option Addr) (plan : List Layout) (planc : Nat) (w : World) (VSj : Boards.V w ja1 j.stock) (LSj : j.stock.length ≤ 9223372036854775807) (CSj : j.stock.length ≤ jc1) (VBj : Blanks.V w ja2 j.blanks) (LBj : j.blanks.length ≤ 9223372036854775807) (CBj : j.blanks.length ≤ jc2) (WTj : j.trim.wf) (Vplan : Layouts.V w plana plan) (Lplan : plan.length ≤ 9223372036854775807) (Cplan : plan.length ≤ planc) :
    Calls Tryz.prog 3 #[.agg #[.slice ja1 j.stock.length jc1, .slice ja2 j.blanks.length jc2, .int .i64 j.trim.kerf, .int .i64 j.trim.ends, .int .i64 j.trim.sides], .slice plana plan.length planc] w fun e w' => e = .returned (.bool true) ∧ Below w.heap.size w w' := by
 have HVS := Lib.hid VSj
 have HVB := Lib.hid VBj
 have HPV := Lib.hid Vplan
 clear VSj VBj Vplan
 go_enter Tryz.func3, Tryz.ntmps3
 go_upto_region 1 with fail
 refine gen_world (fun W => JB W w.heap.size j ja1 jc1 ja2 jc2 ∧ Below w.heap.size w W ∧ w.heap.size < W.heap.size) ⟨⟨by simp, by simp, by simp, by simp, by simp⟩, (Below.refl _ _).alloc (Nat.le_refl _) _, by simp⟩ ?_
 rintro W ⟨hC, hbW, hzW⟩
 obtain ⟨gj, hgj⟩ : ∃ g, g = w.heap.size := ⟨_, rfl⟩
 rw [← hgj] at hC ⊢
 have hzG : gj < W.heap.size := by omega
 have HC := Lib.hid hC
 have HBW := Lib.hid (show Below w.heap.size w W from hbW)
 have HZW := Lib.hid (show w.heap.size ≤ W.heap.size by omega)
 clear hC hbW hzW hgj
 go_upto_region 3 with (go_at_call 4; refine (sawn_any _).mono ?_; rintro e w1 ⟨rfl, hb1⟩; have HB1 := Lib.hid hb1; clear hb1)
 have HC1 := Lib.hid (HC.out.keep HB1.out hzG)
 have HBW1 := Lib.hid (HBW.out.trans (HB1.out.mono HZW.out))
 have hzw1 : gj < w1.heap.size := Nat.lt_of_lt_of_le hzG HB1.out.size
 clear HC HBW HB1 hzG HZW
 obtain ⟨k0, k1, k2, k3, k4⟩ := HC1.out
 cases hsm : smallB j
 ·have HSM := Lib.hid hsm
  clear hsm
  go_wp2_with (go_at_call 5; refine (small_is j ja1 jc1 ja2 jc2 _ HSM.out (HVS.out.keep HBW1.out) LSj (HVB.out.keep HBW1.out) LBj).mono ?_; rintro e w2 ⟨rfl, hb⟩; have HB2 := Lib.hid (HBW1.out.trans (hb.mono HBW1.out.size)); have HC2 := Lib.hid (HC1.out.keep hb hzw1); have k0 := HC2.out.s; have k1 := HC2.out.b; have k2 := HC2.out.k; have k3 := HC2.out.e; have k4 := HC2.out.d; have hz2 := hb.size; clear hb)
  go_ret
  exact ⟨rfl, HB2.out⟩
 have HSM := Lib.hid hsm
 clear hsm
 obtain ⟨EJ, hEJ⟩ : ∃ E, jobE j = E := ⟨_, rfl⟩
 have HE := Lib.hid hEJ
 clear hEJ
 by_cases hE0 : ¬ EJ = 0
 ·have hne := bne_t5 hE0
  clear hE0
  go_wp2_with (first
   | (go_at_call 5; refine (small_is j ja1 jc1 ja2 jc2 _ HSM.out (HVS.out.keep HBW1.out) LSj (HVB.out.keep HBW1.out) LBj).mono ?_; rintro e w2 ⟨rfl, hb⟩; have HB2 := Lib.hid (HBW1.out.trans (hb.mono HBW1.out.size)); have HC2 := Lib.hid (HC1.out.keep hb hzw1); have k0 := HC2.out.s; have k1 := HC2.out.b; have k2 := HC2.out.k; have k3 := HC2.out.e; have k4 := HC2.out.d; have hz2 := hb.size; clear hb)
   | (go_at_call 6; refine (refCheckJob_any j ja1 jc1 ja2 jc2 _ (HVS.out.keep HB2.out) LSj (HVB.out.keep HB2.out) LBj).mono ?_; rw [HE.out]; rintro e w3 ⟨rfl, hb⟩; have HB3 := Lib.hid (HB2.out.trans (hb.mono HB2.out.size)); have HC3 := Lib.hid (HC2.out.keep hb (by omega)); have k0 := HC3.out.s; have k1 := HC3.out.b; have k2 := HC3.out.k; have k3 := HC3.out.e; have k4 := HC3.out.d; have hz3 := hb.size; clear hb))
  go_ret
  exact ⟨rfl, HB3.out⟩
 obtain rfl : EJ = 0 := Decidable.not_not.1 hE0
 clear hE0
 have HJO := Lib.hid (jobOk_of HE.out)
 by_cases hp6 : (plan.length : Int) > 6
 ·go_wp2_with (first
    | (go_at_call 5; refine (small_is j ja1 jc1 ja2 jc2 _ HSM.out (HVS.out.keep HBW1.out) LSj (HVB.out.keep HBW1.out) LBj).mono ?_; rintro e w2 ⟨rfl, hb⟩; have HB2 := Lib.hid (HBW1.out.trans (hb.mono HBW1.out.size)); have HC2 := Lib.hid (HC1.out.keep hb hzw1); have k0 := HC2.out.s; have k1 := HC2.out.b; have k2 := HC2.out.k; have k3 := HC2.out.e; have k4 := HC2.out.d; have hz2 := hb.size; clear hb)
    | (go_at_call 6; refine (refCheckJob_any j ja1 jc1 ja2 jc2 _ (HVS.out.keep HB2.out) LSj (HVB.out.keep HB2.out) LBj).mono ?_; rw [HE.out]; rintro e w3 ⟨rfl, hb⟩; have HB3 := Lib.hid (HB2.out.trans (hb.mono HB2.out.size)); have HC3 := Lib.hid (HC2.out.keep hb (by omega)); have k0 := HC3.out.s; have k1 := HC3.out.b; have k2 := HC3.out.k; have k3 := HC3.out.e; have k4 := HC3.out.d; have hz3 := hb.size; clear hb))
  go_ret
  exact ⟨rfl, HB3.out⟩
 by_cases hp5 : piecesN j.blanks > 5
 ·go_wp2_with (first
    | (go_at_call 5; refine (small_is j ja1 jc1 ja2 jc2 _ HSM.out (HVS.out.keep HBW1.out) LSj (HVB.out.keep HBW1.out) LBj).mono ?_; rintro e w2 ⟨rfl, hb⟩; have HB2 := Lib.hid (HBW1.out.trans (hb.mono HBW1.out.size)); have HC2 := Lib.hid (HC1.out.keep hb hzw1); have k0 := HC2.out.s; have k1 := HC2.out.b; have k2 := HC2.out.k; have k3 := HC2.out.e; have k4 := HC2.out.d; have hz2 := hb.size; clear hb)
    | (go_at_call 6; refine (refCheckJob_any j ja1 jc1 ja2 jc2 _ (HVS.out.keep HB2.out) LSj (HVB.out.keep HB2.out) LBj).mono ?_; rw [HE.out]; rintro e w3 ⟨rfl, hb⟩; have HB3 := Lib.hid (HB2.out.trans (hb.mono HB2.out.size)); have HC3 := Lib.hid (HC2.out.keep hb (by omega)); have k0 := HC3.out.s; have k1 := HC3.out.b; have k2 := HC3.out.k; have k3 := HC3.out.e; have k4 := HC3.out.d; have hz3 := hb.size; clear hb)
    | (go_at_call 7; refine (pieces_any ja2 j.blanks jc2 _ (HVB.out.keep HB3.out) HJO.out.lenB (fun x hx => (HJO.out.want x hx).2)).mono ?_; rintro e w4 ⟨rfl, hb⟩; have HB4 := Lib.hid (HB3.out.trans (hb.mono HB3.out.size)); have HC4 := Lib.hid (HC3.out.keep hb (by omega)); have k0 := HC4.out.s; have k1 := HC4.out.b; have k2 := HC4.out.k; have k3 := HC4.out.e; have k4 := HC4.out.d; have hz4 := hb.size; clear hb))
  go_ret
  exact ⟨rfl, HB4.out⟩
 go_upto_if 52 with (first
  | (go_at_call 5; refine (small_is j ja1 jc1 ja2 jc2 _ HSM.out (HVS.out.keep HBW1.out) LSj (HVB.out.keep HBW1.out) LBj).mono ?_; rintro e w2 ⟨rfl, hb⟩; have HB2 := Lib.hid (HBW1.out.trans (hb.mono HBW1.out.size)); have HC2 := Lib.hid (HC1.out.keep hb hzw1); have k0 := HC2.out.s; have k1 := HC2.out.b; have k2 := HC2.out.k; have k3 := HC2.out.e; have k4 := HC2.out.d; have hz2 := hb.size; clear hb)
  | (go_at_call 6; refine (refCheckJob_any j ja1 jc1 ja2 jc2 _ (HVS.out.keep HB2.out) LSj (HVB.out.keep HB2.out) LBj).mono ?_; rw [HE.out]; rintro e w3 ⟨rfl, hb⟩; have HB3 := Lib.hid (HB2.out.trans (hb.mono HB2.out.size)); have HC3 := Lib.hid (HC2.out.keep hb (by omega)); have k0 := HC3.out.s; have k1 := HC3.out.b; have k2 := HC3.out.k; have k3 := HC3.out.e; have k4 := HC3.out.d; have hz3 := hb.size; clear hb)
  | (go_at_call 7; refine (pieces_any ja2 j.blanks jc2 _ (HVB.out.keep HB3.out) HJO.out.lenB (fun x hx => (HJO.out.want x hx).2)).mono ?_; rintro e w4 ⟨rfl, hb⟩; have HB4 := Lib.hid (HB3.out.trans (hb.mono HB3.out.size)); have HC4 := Lib.hid (HC3.out.keep hb (by omega)); have k0 := HC4.out.s; have k1 := HC4.out.b; have k2 := HC4.out.k; have k3 := HC4.out.e; have k4 := HC4.out.d; have hz4 := hb.size; clear hb)
  | (go_at_call 8; refine (kinds_len ja2 j.blanks jc2 _ (HVB.out.keep HB4.out) (by have := HJO.out.lenB; omega)).mono ?_; rintro e w5 ⟨av, nk, cv, rfl, hb⟩; have HB5 := Lib.hid (HB4.out.trans (hb.mono HB4.out.size)); have HC5 := Lib.hid (HC4.out.keep hb (by omega)); have hz5 := hb.size; clear hb))
 by_cases hk1 : (nk : Int) > 1
 ·go_wp2_with fail
  go_ret
  exact ⟨rfl, HB5.out⟩
 go_upto_region 5 with fail
 have hzw5 : gj < w5.heap.size := by omega
 have hplen : plan.length ≤ 6 := by omega
 have HP5 := Lib.hid hp5
 clear k0 k1 k2 k3 k4 HC1 HBW1 HB2 HC2 hz2 hz3 hzw1 HB3 HC3 HB4 HC4 hz4 hz5 hp6 hp5
 obtain ⟨q0, q1, q2, q3, q4⟩ := HC5.out
 obtain ⟨q, hq⟩ : ∃ q, planE j = q := ⟨_, rfl⟩
 have HFEW := Lib.hid (fun h => small_few (j := j) HSM.out h)
 have HX := Lib.hid (fun w9 hs hb => greedyX_any j ja1 jc1 ja2 jc2 w9 hs LSj hb LBj HFEW.out)
 rw [hq] at HX
 have HQ := Lib.hid hq
 clear hq
 go_upto_if 59 with (go_at_call 9; refine (HX.out _ (HVS.out.keep HB5.out) (HVB.out.keep HB5.out)).mono ?_; rintro e w6 ⟨a3, c3, rfl, hv, hc3, hm3, hb⟩; have HV6 := Lib.hid hv; have HB6 := Lib.hid (HB5.out.trans (hb.mono HB5.out.size)); have HC6 := Lib.hid (HC5.out.keep hb hzw5); have hz6 := hb.size; clear hv hb hc3 hm3)
 have hzw6 : gj < w6.heap.size := by omega
 clear q0 q1 q2 q3 q4 HC5 HB5 hz6 hzw5 HX
 refine wp_cut_slots [1, 59, 60] (TCut w6) ?_ ?_
 ·obtain ⟨ql, qe⟩ := q
  by_cases hqe : qe = 0
  ·subst hqe
   have hgq := (planE_ok HE.out).symm.trans HQ.out
   have HGP := Lib.hid (greedy_few HE.out hgq)
   go_wp2_with fail
   exact cut_meet (by simp [forget]) ⟨planL ql, a3, c3, by simp [planL], HV6.out, HGP.out, cuts_lim HV6.out, rfl⟩
  ·have hb5 := bne_t5 hqe
   have hb6 : (qe == 0) = false := by simpa using hqe
   go_wp2_with fail
   exact cut_meet (by simp [forget]) ⟨plan, plana, planc, rfl, HPV.out.keep HB6.out, by omega, cuts_lim (HPV.out.keep HB6.out), rfl⟩
 rintro u W6' ⟨plan2, ap2, cp2, hu1, hv2, hpl2, hcu2, rfl⟩
 simp only [forget, List.foldl_cons, List.foldl_nil, hu1, List.setIfInBounds_toArray, List.set_cons_succ, List.set_cons_zero]
 have HPV2 := Lib.hid hv2
 clear hu1 hv2 HPV HV6 HQ
 obtain ⟨⟨⟨pb, pl, ⟨x1, y1, x2, y2⟩⟩, E⟩, hqp⟩ : ∃ t, planE2 j plan2 = t := ⟨_, rfl⟩
 have HCK := Lib.hid (fun w9 hs hb hp => refCheckPlan_all j plan2 ja1 jc1 ja2 jc2 ap2 cp2 w9 hs LSj hb LBj hp hpl2 hcu2)
 rw [hqp] at HCK
 have HQP := Lib.hid hqp
 clear hqp hcu2
 obtain ⟨q0, q1, q2, q3, q4⟩ := HC6.out
 by_cases hE1 : ¬ E = 0
 ·have hne := bne_t5 hE1
  clear hE1
  go_wp2_with (go_at_call 10; refine (HCK.out _ (HVS.out.keep HB6.out) (HVB.out.keep HB6.out) HPV2.out).mono ?_; rintro e w7 h; obtain ⟨rfl, hb⟩ := planPost2_out h; have HB7 := Lib.hid (HB6.out.trans (hb.mono HB6.out.size)); clear hb h)
  go_ret
  exact ⟨rfl, by repeat (first | exact HB7.out | (refine Below.setCell ?_ (by have := HB7.out.size; simp; omega) _) | (refine Below.alloc ?_ (by have := HB7.out.size; first | omega | (simp; omega)) _))⟩
 obtain rfl : E = 0 := Decidable.not_not.1 hE1
 clear hE1
 go_upto_region 11 with (go_at_call 10; refine (HCK.out _ (HVS.out.keep HB6.out) (HVB.out.keep HB6.out) HPV2.out).mono ?_; rintro e w7 h; obtain ⟨rfl, hb⟩ := planPost2_out h; have HB7 := Lib.hid hb; clear hb h)
 refine gen_world (fun W8 => Below W6'.heap.size W6' W8) (by repeat (first | exact HB7.out | (refine Below.setCell ?_ (by have := HB7.out.size; simp; omega) _) | (refine Below.alloc ?_ (by have := HB7.out.size; first | omega | (simp; omega)) _))) ?_
 rintro W8 hb8
 have HB8 := Lib.hid (HB6.out.trans (hb8.mono HB6.out.size))
 have HC8 := Lib.hid (HC6.out.keep hb8 hzw6)
 have HPV8 := Lib.hid (HPV2.out.keep hb8)
 have hzw8 : gj < W8.heap.size := by have := hb8.size; omega
 have HZ := Lib.hid (show (planE2 j plan2).2 = 0 by rw [HQP.out])
 clear q0 q1 q2 q3 q4 HCK HPV2 HB6 HC6 HB7 hb8 HQP hzw6
 obtain ⟨q0, q1, q2, q3, q4⟩ := HC8.out
 go_upto_region 12 with fail
 obtain ⟨g9, hg9⟩ : ∃ g, g = W8.heap.size := ⟨_, rfl⟩
 have HG9 := Lib.hid hg9
 refine gen_world (fun W9 => Desk W9 g9 [slotI ⟨g9, 0, none⟩ [], slotI ⟨g9, 1, none⟩ []] (KerfSt g9 j.trim.kerf) ∧ Below g9 W8 W9) ⟨by rw [hg9]; exact desk_cross (by simp [go_sem]) (by simp [go_sem]) (by simp [go_sem]) (by simp [go_sem]) (by simp [go_sem]), by rw [hg9]; exact (Below.refl _ _).alloc (Nat.le_refl _) _⟩ ?_
 rintro W9 ⟨hD9, hb9⟩
 rw [← hg9]
 have HD9 := Lib.hid hD9
 have HB9 := Lib.hid hb9
 have hzg : gj < g9 := by omega
 have HBL := Lib.hid (fun W (hb : Below g9 W8 W) => And.intro (HB8.out.trans (hb.mono (by rw [hg9]; exact HB8.out.size))) (show Below W8.heap.size W8 W by rw [← hg9]; exact hb))
 clear q0 q1 q2 q3 q4 hD9 hb9 hg9
 have HJO := Lib.hid (jobOk_of HE.out)
 obtain ⟨hLS, hLB, -⟩ := small_bd HSM.out HE.out
 have hmix : Tryz.prog.follows .mixedOrders = true := by kernel_rfl
 have htr := HJO.out.trim
 go_wp2_with fail
 go_loopw [10] (fun sv wr => ∃ i : Nat, i ≤ j.stock.length ∧ sv = .int .i64 i ∧ Hid (∀ m (hm : m < j.stock.length), m < i → GoodT j j.stock[m]) ∧ Hid (Desk wr g9 [slotI ⟨g9, 0, none⟩ ((j.stock.take i).map (useL j)), slotI ⟨g9, 1, none⟩ []] (KerfSt g9 j.trim.kerf)) ∧ Below g9 W8 wr) (fun sv _ => j.stock.length - (intOf sv).toNat)
 case atStart => exact ⟨0, Nat.zero_le _, rfl, Lib.hid (fun m _ h => by omega), Lib.hid HD9.out, HB9.out⟩
 case round =>
  obtain ⟨i, hi, rfl, HGT, HD, hbr⟩ := hrel
  obtain ⟨wo, rfl⟩ : ∃ wo : World, wo = wr := ⟨_, rfl⟩
  have HBO := Lib.hid hbr
  have HCO := Lib.hid (HC8.out.keep hbr hzg)
  have hgo : g9 < wo.heap.size := Desk.ltT HD.out
  clear hbr
  by_cases hlt : i < j.stock.length
  ·have hki : (i : Int) < (j.stock.length : Int) := by omega
   have v1 : IntKind.i64.wrap ((i : Int) + 1) = (i : Int) + 1 := IntWalk.i64_in _ (by omega)
   obtain ⟨gs, off, ad, cd, has, ⟨s0, s1, s2, s3, s4, s5, s6, s7⟩, -, -, -⟩ := (HVS.out.keep (HBL.out _ HBO.out).1).at' hlt
   subst has
   have hbm : j.stock[i] ∈ j.stock := List.getElem_mem hlt
   have hbd := HJO.out.size _ hbm
   have HTK := Lib.hid (show (j.stock.take (i + 1)).map (useL j) = (j.stock.take i).map (useL j) ++ [useL j j.stock[i]] by rw [List.take_succ_eq_append_getElem hlt, List.map_append]; rfl)
   have HGN := Lib.hid (show GoodT j j.stock[i] → ∀ m (hm : m < j.stock.length), m < i + 1 → GoodT j j.stock[m] from fun h m hm hmi => by
    by_cases e : m = i
    ·subst e; exact h
    ·exact HGT.out m hm (by omega))
   have hur := usable_rngT HJO.out hbm
   generalize j.stock[i] = b at *
   obtain ⟨r, hr⟩ : ∃ r, usableR b j.trim = r := ⟨_, rfl⟩
   have HUS := Lib.hid (fun w9 => refUsable_is b j.trim r ad cd w9 hr (by omega) (by omega))
   have HUR := Lib.hid hr
   rw [hr] at hur
   clear hr hbm HGT
   obtain ⟨k0, k1, k2, k3, k4⟩ := HCO.out
   have kx0 : ∀ y : KW (fun W' => Below wo.heap.size wo W'), ((y.w.cell? ⟨gj, 2, none⟩ = some (.int .i64 j.trim.kerf) ∧ y.w.cell? ⟨gj, 0, none⟩ = some (.slice (some ⟨gs, off, none⟩) j.stock.length jc1)) ∧ y.w.cell? ⟨gj, 3, none⟩ = some (.int .i64 j.trim.ends) ∧ y.w.cell? ⟨gj, 4, none⟩ = some (.int .i64 j.trim.sides)) := fun y => ⟨⟨cell_keep y.ok k2, cell_keep y.ok k0⟩, cell_keep y.ok k3, cell_keep y.ok k4⟩
   have kx2 : ∀ y : (KW (fun W' => Below wo.heap.size wo W')), (y.w.cell? ⟨gs, off + i * 8, none⟩ = some (.string b.name) ∧ y.w.cell? ⟨gs, off + i * 8 + 1, none⟩ = some (.string b.species)) ∧ y.w.cell? ⟨gs, off + i * 8 + 2, none⟩ = some (.int .i64 b.length) ∧ y.w.cell? ⟨gs, off + i * 8 + 3, none⟩ = some (.int .i64 b.width) := fun y => ⟨⟨cell_keep y.ok s0, cell_keep y.ok s1⟩, cell_keep y.ok s2, cell_keep y.ok s3⟩
   have kx3 : ∀ y : (KW (fun W' => Below wo.heap.size wo W')), (y.w.cell? ⟨gs, off + i * 8 + 4, none⟩ = some (.int .i64 b.thick) ∧ y.w.cell? ⟨gs, off + i * 8 + 5, none⟩ = some (.int .i64 b.cut)) ∧ y.w.cell? ⟨gs, off + i * 8 + 6, none⟩ = some (.int .i64 b.moisture) ∧ y.w.cell? ⟨gs, off + i * 8 + 7, none⟩ = some (.slice ad b.defects.length cd) := fun y => ⟨⟨cell_keep y.ok s4, cell_keep y.ok s5⟩, cell_keep y.ok s6, cell_keep y.ok s7⟩
   haveI n1 : Nonempty (KW (fun W' => Below wo.heap.size wo W')) := ⟨⟨wo, Below.refl _ _⟩⟩
   go_upto_region 15 with fail
   clear k0 k1 k2 k3 k4 s0 s1 s2 s3 s4 s5 s6 s7
   refine wp_cut_slots [11, 80, 81, 82, 83, 84, 85, 86, 87] (TRect wo r) ?_ ?_
   ·refine wp_region_tree (fun w' => ∃ y : KW (fun W => Below wo.heap.size wo W), w' = y.w) 9 (.take 0 (.take 1 (.take 2 (.take 3 (.take 4 (.take 5 (.take 6 (.two 7 (.one 8 .done) 8 (.one 7 .done))))))))) hmix (by kernel_rfl) (KW.mk' (Below.refl _ _).drew) ?_
    have HB6 := Lib.hid (show Below wo.heap.size wo wo.drew from (Below.refl _ _).drew)
    generalize wo.drew = w6 at *
    have hz6 := HB6.out.size
    repeat (refine wpTree_take ?_; simp only [nthOp]; (first | go_big_quiet_step (fail) | quiet_step (fail)); refine wpQuiet_nil ?_)
    refine wpTree_two ?_ ?_
    ·simp only [nthOp]
     go_wp2_with (go_at_call 11; refine (HUS.out _).mono ?_; rintro e w7 ⟨rfl, hb⟩; have HB7 := Lib.hid (HB6.out.trans (hb.mono hz6)); clear hb)
     refine One_mk (KW.mk' HB7.out) ?_
     have hz7 := HB7.out.size
     refine wpTree_one ?_
     simp only [nthOp]
     go_wp2_with fail
     refine One_mk (KW.mk' (HB7.out.alloc hz7 _)) ?_
     refine wpTree_done ?_
     simp only [List.drop_succ_cons, List.drop_zero]
     go_wp2_with fail
     refine NP_mk ?_
     exact cut_meet (by simp [forget]) ⟨w7.heap.size, rfl, ⟨by simp [go_sem], by simp [go_sem], by simp [go_sem], by simp [go_sem]⟩, by repeat (first | exact HB7.out | (refine Below.setCell ?_ (by simp; omega) _) | (refine Below.alloc ?_ (by first | omega | (simp; omega)) _))⟩
    ·simp only [nthOp]
     go_wp2_with fail
     refine One_mk (KW.mk' (HB6.out.alloc hz6 _)) ?_
     refine wpTree_one ?_
     simp only [nthOp]
     go_wp2_with (go_at_call 11; refine (HUS.out _).mono ?_; rintro e w7 ⟨rfl, hb⟩; have HB7 := Lib.hid hb; clear hb)
     have hz7 := HB7.out.size
     have z0 : w7.cell? ⟨w6.heap.size, 0, none⟩ = some (.int .i64 0) := (HB7.out.cell (p := ⟨w6.heap.size, 0, none⟩) (by simp)).trans (by simp [go_sem])
     have z1 : w7.cell? ⟨w6.heap.size, 1, none⟩ = some (.int .i64 0) := (HB7.out.cell (p := ⟨w6.heap.size, 1, none⟩) (by simp)).trans (by simp [go_sem])
     have z2 : w7.cell? ⟨w6.heap.size, 2, none⟩ = some (.int .i64 0) := (HB7.out.cell (p := ⟨w6.heap.size, 2, none⟩) (by simp)).trans (by simp [go_sem])
     have z3 : w7.cell? ⟨w6.heap.size, 3, none⟩ = some (.int .i64 0) := (HB7.out.cell (p := ⟨w6.heap.size, 3, none⟩) (by simp)).trans (by simp [go_sem])
     have f0 : w7.frozen? ⟨w6.heap.size, 0, none⟩ = false := frozen_keep HB7.out (by simp) (by simp [go_sem])
     have f1 : w7.frozen? ⟨w6.heap.size, 1, none⟩ = false := frozen_keep HB7.out (by simp) (by simp [go_sem])
     have f2 : w7.frozen? ⟨w6.heap.size, 2, none⟩ = false := frozen_keep HB7.out (by simp) (by simp [go_sem])
     have f3 : w7.frozen? ⟨w6.heap.size, 3, none⟩ = false := frozen_keep HB7.out (by simp) (by simp [go_sem])
     have HB8' := Lib.hid (show Below wo.heap.size wo w7 from (HB6.out.alloc hz6 _).trans (HB7.out.mono (by simp; omega)))
     refine One_mk (KW.mk' HB8'.out) ?_
     refine wpTree_done ?_
     simp only [List.drop_succ_cons, List.drop_zero]
     go_wp2_with fail
     refine NP_mk ?_
     exact cut_meet (by simp [forget]) ⟨w6.heap.size, rfl, ⟨by simp [go_sem, z0, z1, z2, z3], by simp [go_sem, z0, z1, z2, z3], by simp [go_sem, z0, z1, z2, z3], by simp [go_sem, z0, z1, z2, z3]⟩, by repeat (first | exact HB8'.out | (refine Below.setCell ?_ (by simp; omega) _))⟩
   rintro u W1 ⟨g7, hu, ⟨r0, r1, r2, r3⟩, hb1⟩
   simp only [forget, List.foldl_cons, List.foldl_nil, hu, List.setIfInBounds_toArray, List.set_cons_succ, List.set_cons_zero]
   have HR1 := Lib.hid (RectT.mk r0 r1 r2 r3)
   have hzr := block_lt_of_cell r0
   have HB1 := Lib.hid (HBO.out.trans (hb1.mono (Nat.le_of_lt hgo)))
   have HD1 := Lib.hid (HD.out.keep hb1)
   have HC1 := Lib.hid (HC8.out.keep HB1.out hzg)
   have hz1 := hb1.size
   clear kx0 kx2 kx3 n1 HUS hu HD HCO hb1
   by_cases hre : ¬ rectErr r = 0
   ·have hne := bne_t5 hre
    clear hre
    go_wp2_with (go_at_call 12; refine (rectErr_any r _).mono ?_; rintro e w2 ⟨rfl, hb⟩; have HB2 := Lib.hid (HB1.out.trans (hb.mono (by omega))); clear hb)
    go_ret
    exact ⟨rfl, (HBL.out _ HB2.out).1⟩
   have hre := Decidable.not_not.1 hre
   have HRE := Lib.hid hre
   have hne : ((rectErr r : Int) != 0) = false := by rw [hre]; rfl
   clear hre
   go_upto_region 18 with (go_at_call 12; refine (rectErr_any r _).mono ?_; rintro e w2 ⟨rfl, hb⟩; have HB2 := Lib.hid (HB1.out.trans (hb.mono (by omega))); have HD2 := Lib.hid (HD1.out.keep hb); have HR2 := Lib.hid (HR1.out.keep hb); have hz2 := hb.size; clear hb)
   clear hne HB1 HD1 HR1 r0 r1 r2 r3 HC1
   have hg2 : g9 < w2.heap.size := by omega
   have v6 : IntKind.i64.wrap (r.y2 - r.y1) = r.y2 - r.y1 := IntWalk.i64_in _ (by omega)
   have v7 : IntKind.i64.wrap (r.x2 - r.x1) = r.x2 - r.x1 := IntWalk.i64_in _ (by omega)
   go_wp2_with fail
   go_loopw [12] (fun sv wr => ∃ k : Nat, k ≤ j.blanks.length ∧ sv = .int .i64 k ∧ Hid (∀ m (hm : m < j.blanks.length), m < k → ∀ y ∈ j.blanks, r.y2 - r.y1 < j.blanks[m].width + y.width + j.trim.kerf) ∧ Below w2.heap.size w2 wr) (fun sv _ => j.blanks.length - (intOf sv).toNat)
   case atStart => exact ⟨0, Nat.zero_le _, rfl, Lib.hid (fun m _ h => by omega), Below.refl _ _⟩
   case round =>
    obtain ⟨k, hk, rfl, HNK, hbk⟩ := hrel
    obtain ⟨wk, rfl⟩ : ∃ wk : World, wk = wr := ⟨_, rfl⟩
    have HBK := Lib.hid (HB2.out.trans (hbk.mono (Nat.le_of_lt hg2)))
    have HBK2 := Lib.hid hbk
    have hgk : g9 < wk.heap.size := by have := hbk.size; omega
    have HCK := Lib.hid (HC8.out.keep HBK.out hzg)
    clear hbk
    by_cases hkl : k < j.blanks.length
    ·have hkli : (k : Int) < (j.blanks.length : Int) := by omega
     have v1k : IntKind.i64.wrap ((k : Int) + 1) = (k : Int) + 1 := IntWalk.i64_in _ (by omega)
     obtain ⟨k0, k1, k2, k3, k4⟩ := HCK.out
     go_wp2_with fail
     clear k0 k1 k2 k3 k4
     go_loopw [13] (fun sv wr => ∃ m : Nat, m ≤ j.blanks.length ∧ sv = .int .i64 m ∧ Hid (∀ q (hq : q < j.blanks.length), q < m → r.y2 - r.y1 < j.blanks[k].width + j.blanks[q].width + j.trim.kerf) ∧ Below wk.heap.size wk wr) (fun sv _ => j.blanks.length - (intOf sv).toNat)
     case atStart => exact ⟨0, Nat.zero_le _, rfl, Lib.hid (fun m _ h => by omega), Below.refl _ _⟩
     case round =>
      obtain ⟨m, hm, rfl, HNM, hbm⟩ := hrel
      obtain ⟨wm, rfl⟩ : ∃ wm : World, wm = wr := ⟨_, rfl⟩
      have HBM := Lib.hid (HBK.out.trans (hbm.mono (Nat.le_of_lt hgk)))
      have HBMK := Lib.hid hbm
      have hgm : g9 < wm.heap.size := by have := hbm.size; omega
      have HRM := Lib.hid (HR2.out.keep (HBK2.out.trans (hbm.mono HBK2.out.size)))
      obtain ⟨k0, k1, k2, k3, k4⟩ := HCK.out.keep hbm (by omega)
      clear hbm
      by_cases hml : m < j.blanks.length
      ·have hmi : (m : Int) < (j.blanks.length : Int) := by omega
       have v1m : IntKind.i64.wrap ((m : Int) + 1) = (m : Int) + 1 := IntWalk.i64_in _ (by omega)
       obtain ⟨gl, off', hal, hbk⟩ := (HVB.out.keep (HBL.out _ HBM.out).1).at_ hkl
       obtain ⟨gl2, off2, hal2, hbm2⟩ := (HVB.out.keep (HBL.out _ HBM.out).1).at_ hml
       subst hal
       injection hal2 with hal2
       injection hal2 with e1 e2
       subst e1 e2
       have t1 := hbk.2.2.2.1
       have t2 := hbm2.2.2.2.1
       have hwk := HJO.out.want _ (List.getElem_mem hkl)
       have hwm := HJO.out.want _ (List.getElem_mem hml)
       have HNX := Lib.hid (show r.y2 - r.y1 < j.blanks[k].width + j.blanks[m].width + j.trim.kerf → ∀ q (hq : q < j.blanks.length), q < m + 1 → r.y2 - r.y1 < j.blanks[k].width + j.blanks[q].width + j.trim.kerf from fun h q hq hqm => by
        by_cases e : q = m
        ·subst e; exact h
        ·exact HNM.out q hq (by omega))
       generalize hxk : j.blanks[k].width = xk at *
       generalize hxm : j.blanks[m].width = xm at *
       obtain ⟨r0, r1, r2, r3⟩ := HRM.out
       have a1 : IntKind.i64.wrap (xk + xm) = xk + xm := IntWalk.i64_in _ (by omega)
       have a2 : IntKind.i64.wrap (xk + xm + j.trim.kerf) = xk + xm + j.trim.kerf := IntWalk.i64_in _ (by omega)
       clear hbk hbm2 hwk hwm HNM
       by_cases hle : xk + xm + j.trim.kerf ≤ r.y2 - r.y1
       ·go_upto_region 24 with fail
        go_quiet (fail)
        rename_i nq
        go_wp2_with fail
        go_ret
        exact ⟨rfl, (HBL.out _ (below_drewN HBM.out nq)).1⟩
       ·have HNN := Lib.hid (HNX.out (by omega))
        go_upto_region 24 with fail
        go_quiet (fail)
        rename_i nq
        go_wp2_with fail
        go_roundw
        case rel => exact ⟨m + 1, by omega, by go_num, HNN, below_drewN HBMK.out nq⟩
        case measure => first | (simp [intOf]; done) | (simp [intOf]; omega)
      ·have hmf : ¬ (m : Int) < (j.blanks.length : Int) := by omega
       obtain rfl : m = j.blanks.length := by omega
       go_wp2_with fail
       go_roundw
       case rel => exact ⟨k + 1, by omega, by go_num, Lib.hid (fun q hq hqk y hy => by
        by_cases e : q = k
        ·subst e
         obtain ⟨t, ht, rfl⟩ := List.getElem_of_mem hy
         exact HNM.out t ht ht
        ·exact HNK.out q hq (by omega) y hy), HBK2.out.trans (HBMK.out.mono HBK2.out.size)⟩
       case measure => first | (simp [intOf]; done) | (simp [intOf]; omega)
    ·have hkf : ¬ (k : Int) < (j.blanks.length : Int) := by omega
     obtain rfl : k = j.blanks.length := by omega
     have HDK := Lib.hid (HD2.out.keep HBK2.out)
     obtain ⟨r0, r1, r2, r3⟩ := HR2.out.keep HBK2.out
     obtain ⟨k0, k1, k2, k3, k4⟩ := HCK.out
     obtain ⟨v, n, hv, hvf, hvo, -⟩ := HDK.out.row (i := 0) rfl rfl
     have hnx : n = i := by have h := hvo.1; simp at h; omega
     subst hnx
     obtain ⟨av, cv, rfl, -, -⟩ := own_slice hvo
     have HVO := Lib.hid hvo
     have HV := Lib.hid hv
     obtain ⟨i0, hi0, hz0, hz1, hz2⟩ := info_parts int_info
     have hlim : n ≤ 100 := by omega
     clear hvo
     go_upto_region 14 with (at_builtin; refine wpList_append_here _ rfl _ _ 44 rfl g9 3 i0 (.int .i64 0) 1 8 Tryz.underlying44 hi0 hz0 hz1 hz2 rfl (by decide) _ n _ rfl (own_keep HVO.out ((Below.refl _ _).alloc (Nat.le_refl _) _)) ⟨wk.heap.size, 0, none⟩ 1 1 [.int .i64 (r.x2 - r.x1)] rfl rfl (news_of [.int .i64 (r.x2 - r.x1)] _ _ _ rfl) (by intro u hu; rw [List.mem_singleton.1 hu]; rfl) (by decide) (by simp only [maxLen]; omega) (by omega) (by simp; omega) ?_; intro v8 w8 ho8 hg8 hv8; obtain ⟨a8, cc8, rfl, -, -⟩ := own_slice ho8; have HO8 := Lib.hid ho8; have HG8 := Lib.hid hg8; have HV8 := Lib.hid hv8; clear ho8 hg8 hv8; obtain ⟨c8, f8, hD8⟩ := (HDK.out.keep ((Below.refl _ _).alloc (Nat.le_refl _) _)).append1 (i := 0) (v := .slice av n cv) rfl rfl (cell_keep ((Below.refl _ _).alloc (Nat.le_refl _) _) HV.out) (by have h := HO8.out; simpa using h) HG8.out HV8.out; have HD8 := Lib.hid hD8; clear hD8)
     have hbw8 := (HBK.out.alloc (by omega) _).grown HG8.out (by simp; omega) (fun k hk => own_base HVO.out hk)
     have HBW8 := Lib.hid hbw8
     clear hbw8
     refine gen_world (fun WX => Hid (Desk WX g9 [slotI ⟨g9, 0, none⟩ ((j.stock.take (n + 1)).map (useL j)), slotI ⟨g9, 1, none⟩ []] (KerfSt g9 j.trim.kerf)) ∧ Below g9 W8 WX) ⟨Lib.hid ?_, HBW8.out.setCell (Nat.le_refl _) _⟩ ?_
     ·have h2 := HD8.out
      rw [HTK.out, show useL j b = r.x2 - r.x1 by unfold useL; rw [HUR.out]]
      simpa [slotI] using h2
     clear HD8 HBW8 HO8 HG8 HV8 c8 f8 HDK HV HVO hv hvf r0 r1 r2 r3 k0 k1 k2 k3 k4 HR2 HBK2 HBK HCK HD2 HB2
     rintro WX ⟨HDX, hbX⟩
     have HBX := Lib.hid hbX
     clear hbX
     have HG := Lib.hid (HGN.out ⟨by rw [HUR.out]; exact HRE.out, fun x hx y hy => by
      obtain ⟨t, ht, rfl⟩ := List.getElem_of_mem hx
      rw [HUR.out]
      exact HNK.out t ht ht y hy⟩)
     clear HNK HGN HTK HUR HRE
     go_wp2_with fail
     go_roundw
     case rel => exact ⟨n + 1, by omega, by go_num, HG, HDX, HBX.out⟩
     case measure => first | (simp [intOf]; done) | (simp [intOf]; omega)
  ·obtain rfl : i = j.stock.length := by omega
   have hif : ¬ (j.stock.length : Int) < (j.stock.length : Int) := by omega
   have HGA := Lib.hid (show ∀ b ∈ j.stock, GoodT j b from fun b hb => by obtain ⟨t, ht, rfl⟩ := List.getElem_of_mem hb; exact HGT.out t ht ht)
   have HDA := Lib.hid (show Desk wo g9 [slotI ⟨g9, 0, none⟩ (j.stock.map (useL j)), slotI ⟨g9, 1, none⟩ []] (KerfSt g9 j.trim.kerf) by have h := HD.out; rw [List.take_length] at h; exact h)
   have HPP := Lib.hid (rows_right HZ.out HGA.out (by have := HP5.out; omega) (by omega))
   have hcu : ∀ l ∈ plan2, l.cuts.length ≤ 100000 := fun l hl => by
    obtain ⟨hej, hlay, -⟩ := plan_parts HZ.out
    have h := layGo_ok hlay l hl
    have h2 := (lay_okR HE.out h.1 h.2).2.1
    omega
   have HQ2 := Lib.hid (fun w9 hs hb hp => placesR_any j plan2 ja1 jc1 ja2 jc2 ap2 cp2 w9 hs LSj hb LBj hp hpl2 hcu)
   rw [HZ.out] at HQ2
   generalize placesM j plan2 = P at *
   clear hcu HGT HD HGA
   obtain ⟨k0, k1, k2, k3, k4⟩ := HCO.out
   go_upto_region 28 with (go_at_call 13; refine (HQ2.out _ (HVS.out.keep (HBL.out _ HBO.out).1) (HVB.out.keep (HBL.out _ HBO.out).1) (HPV8.out.keep (HBL.out _ HBO.out).2)).mono ?_; rintro e w2 ⟨a6, n6, c6, rfl, hb, -, h7, h8⟩; have HB2 := Lib.hid (HBO.out.trans (hb.mono (Nat.le_of_lt hgo))); have HC2 := Lib.hid (HCO.out.keep hb (by omega)); have HD2 := Lib.hid (HDA.out.keep hb); have hz2 := hb.size; have HE7 := Lib.hid h7; have HGP := Lib.hid h8; have HBP := Lib.hid hb; clear hb h7 h8)
   obtain ⟨hn6, hv6⟩ := HE7.out (by first | trivial | rfl)
   subst hn6
   have HV2 := Lib.hid hv6
   have hg2 : g9 < w2.heap.size := by omega
   clear k0 k1 k2 k3 k4 hv6 HE7 HQ2
   obtain ⟨k0, k1, k2, k3, k4⟩ := HC2.out
   have hmr := fun W => make_lists W j.stock.length (by omega)
   go_upto_region 31 with fail
   obtain ⟨gR, hgR⟩ : ∃ g, g = w2.heap.size := ⟨_, rfl⟩
   obtain ⟨St, hSt⟩ : ∃ St : Addr → Value → Prop, St = fun a v => (KerfSt g9 j.trim.kerf a v ∨ PlSt w2 wo.heap.size a v) ∨ False := ⟨_, rfl⟩
   have HST := Lib.hid hSt
   refine gen_world (fun W3 => Hid (Desk W3 g9 ([slotI ⟨g9, 0, none⟩ (j.stock.map (useL j)), slotI ⟨g9, 1, none⟩ []] ++ slotsN gR 0 (List.replicate j.stock.length [])) St) ∧ Below g9 W8 W3) ⟨Lib.hid ?_, HB2.out.alloc (Nat.le_of_lt hg2) _⟩ ?_
   ·rw [hSt, hgR]
    exact Desk.join (HDA.out.more HBP.out (fun a v h => h)) ((Below.refl _ _).alloc (Nat.le_refl _) _) (desk_none (Nat.le_refl _) (fun i hi => made_none hi)) (Nat.le_of_lt hg2) (fun a v h => h.elim)
   rw [← hgR]
   have HGR := Lib.hid hgR
   clear k0 k1 k2 k3 k4 hmr hSt HD2 HDA HB2 HC2 HCO hgR
   rintro W3 ⟨HD3, hb3⟩
   have HB3 := Lib.hid hb3
   clear hb3
   have HLN := Lib.hid (cross_ok HPP.out.1).2.2.1
   have hLP := HPP.out.2.2.1
   have HBR := Lib.hid HPP.out.2.1
   go_wp2_with fail
   go_loopw [17, 18] (fun uv sv wr => ∃ k : Nat, k ≤ P.length ∧ uv = .int .i64 ((cntR (rowsB j.stock.length ((P.take k).map brdP)) : Nat) : Int) ∧ sv = .int .i64 k ∧ Hid (Desk wr g9 ([slotI ⟨g9, 0, none⟩ (j.stock.map (useL j)), slotI ⟨g9, 1, none⟩ ((P.take k).map lenP)] ++ slotsN gR 0 (rowsB j.stock.length ((P.take k).map brdP))) St) ∧ Below g9 W8 wr) (fun _ sv _ => P.length - (intOf sv).toNat)
   case atStart => exact ⟨0, Nat.zero_le _, by rw [List.take_zero, List.map_nil, rowsB_zero, cntR_none]; rfl, rfl, by rw [List.take_zero, List.map_nil, List.map_nil, rowsB_zero]; exact HD3, HB3.out⟩
   case round =>
    obtain ⟨k, hk, rfl, rfl, HD, hbr⟩ := hrel
    obtain ⟨wk, rfl⟩ : ∃ wk : World, wk = wr := ⟨_, rfl⟩
    have HBK := Lib.hid hbr
    have HCK := Lib.hid (HC8.out.keep hbr hzg)
    clear hbr HD3 HB3
    by_cases hlt : k < P.length
    ·have hki : (k : Int) < (P.length : Int) := by omega
     have v1 : IntKind.i64.wrap ((k : Int) + 1) = (k : Int) + 1 := IntWalk.i64_in _ (by omega)
     have v2 : IntKind.i64.wrap ((j.stock.length : Int) - 1) = (j.stock.length : Int) - 1 := IntWalk.i64_in _ (by omega)
     obtain ⟨gP, offP, haP, ⟨x0, x1⟩, ⟨x2, x3⟩, x4, x5⟩ := HV2.out.at_ hlt
     subst haP
     have hgP : wo.heap.size ≤ gP := HGP.out _ _ rfl
     have HPS := Lib.hid (show ∀ a v, PlSt w2 wo.heap.size a v → St a v from fun a v h => by rw [HST.out]; exact .inl (.inr h))
     have hPm : P[k] ∈ P := List.getElem_mem hlt
     have hbp := HBR.out _ hPm
     have hlnp := HLN.out (lenP P[k]) (List.mem_map.2 ⟨_, hPm, rfl⟩)
     have HT1 := Lib.hid (show (P.take (k + 1)).map lenP = (P.take k).map lenP ++ [lenP P[k]] by rw [List.take_succ_eq_append_getElem hlt, List.map_append]; rfl)
     have HT2 := Lib.hid (show (P.take (k + 1)).map brdP = (P.take k).map brdP ++ [brdP P[k]] by rw [List.take_succ_eq_append_getElem hlt, List.map_append]; rfl)
     have hAL : ((P.take k).map brdP).length = k := by rw [List.length_map, List.length_take]; omega
     have hLL : ((P.take k).map lenP).length = k := by rw [List.length_map, List.length_take]; omega
     obtain ⟨p, hp⟩ : ∃ p, P[k] = p := ⟨_, rfl⟩
     rw [hp] at x0 x1 x2 x3 x4 x5 hbp hlnp HT1 HT2
     obtain ⟨nb, hnb⟩ : ∃ nb : Nat, p.board = nb := ⟨p.board.toNat, by omega⟩
     have hbn : brdP p = nb := by unfold brdP; rw [hnb]; rfl
     rw [hnb] at x0
     rw [hbn] at hbp HT2
     have hnbl : nb < j.stock.length := hbp.2
     have hnbi : (nb : Int) < (j.stock.length : Int) := by omega
     have hW : withinB (nb : Int) 0 ((j.stock.length : Int) - 1) = true := withinB_in (by omega)
     have v5 : IntKind.i64.wrap (p.at_.x2 - p.at_.x1) = lenP p := by unfold lenP at hlnp ⊢; exact IntWalk.i64_in _ (by omega)
     obtain ⟨A, hA⟩ : ∃ A, A = (P.take k).map brdP := ⟨_, rfl⟩
     obtain ⟨LL, hLq⟩ : ∃ LL, LL = (P.take k).map lenP := ⟨_, rfl⟩
     rw [← hA] at HD hAL HT2 ⊢
     rw [← hLq] at HD hLL HT1
     have hsn := rowsB_snoc (asn := A) hnbl
     rw [hAL] at hsn
     have HT3 := Lib.hid (show rowsB j.stock.length ((P.take (k + 1)).map brdP) = (rowsB j.stock.length A).set nb ((rowsB j.stock.length A).getD nb [] ++ [k]) by rw [HT2.out]; exact hsn)
     have hxl : ((rowsB j.stock.length A).getD nb []).length ≤ 5 := by rw [rowsB_get hnbl]; have := itemsL_len (b := nb) (asn := A) (k := 0); omega
     have hRL := rowsB_len j.stock.length A
     clear hsn hA hLq hp hPm hbp HT2 hAL
     generalize rowsB j.stock.length A = R at *
     have hmr : R[nb]? = some (R.getD nb []) := by rw [List.getD_eq_getElem?_getD, List.getElem?_eq_getElem (by omega)]; rfl
     have hcl : cntR R ≤ 4 := by unfold cntR; have := List.countP_le_length (p := fun r : List Nat => !r.isEmpty) (l := R); omega
     obtain ⟨x, hx⟩ : ∃ x, x = R.getD nb [] := ⟨_, rfl⟩
     rw [← hx] at hxl hmr HT3
     have HCN := Lib.hid (show cntR (R.set nb (x ++ [k])) = cntR R + if x.length = 0 then 1 else 0 by rw [hx]; exact cntR_set (by omega) (by simp))
     clear hx
     have v6 : IntKind.i64.wrap (((cntR R : Nat) : Int) + 1) = ((cntR R : Nat) : Int) + 1 := IntWalk.i64_in _ (by omega)
     generalize cntR R = cR at *
     have HSG := Lib.hid (show ([slotI ⟨g9, 0, none⟩ (j.stock.map (useL j)), slotI ⟨g9, 1, none⟩ LL] ++ slotsN gR 0 R)[nb + 2]? = some (slotN ⟨gR, 0 + nb, none⟩ x) from by
      have h := slotsN_get (g := gR) (j := 0) hmr
      rw [List.getElem?_append_right (by simp)]
      simpa using h)
     have hmix2 := hmix
     obtain ⟨k0, k1, k2, k3, k4⟩ := HCK.out
     have y0 := HD.out.cell (HPS.out _ _ ⟨rfl, hgP, x0⟩)
     have kx0 : ∀ y : KW (fun W' => Below wk.heap.size wk W'), y.w.cell? ⟨gj, 0, none⟩ = some (.slice ja1 j.stock.length jc1) ∧ y.w.cell? ⟨gP, offP + k * 6, none⟩ = some (.int .i64 nb) := fun y => ⟨cell_keep y.ok k0, cell_keep y.ok y0⟩
     haveI n1 : Nonempty (KW (fun W' => Below wk.heap.size wk W')) := ⟨⟨wk, Below.refl _ _⟩⟩
     go_upto_region 35 with fail
     clear k0 k1 k2 k3 k4
     refine wp_region_tree (fun w' => ∃ y : KW (fun W => Below wk.heap.size wk W), w' = y.w) 9 (.take 0 (.take 1 (.take 2 (.take 3 (.take 4 (.take 5 (.take 6 (.take 7 (.take 8 .done))))))))) hmix (by kernel_rfl) (KW.mk' (Below.refl _ _).drew) ?_
     have HB4 := Lib.hid (show Below wk.heap.size wk wk.drew from (Below.refl _ _).drew)
     generalize wk.drew = w4 at *
     repeat (refine wpTree_take ?_; simp only [nthOp]; (first | go_big_quiet_step (fail) | quiet_step (fail)); refine wpQuiet_nil ?_)
     refine wpTree_done ?_
     simp only [List.drop_succ_cons, List.drop_zero]
     go_wp2_with (go_at_call 14; refine (baseWithin_is _ _ _ _ hW).mono ?_; rintro e w' ⟨rfl, rfl⟩)
     refine NP_mk ?_
     have HD4 := Lib.hid (HD.out.keep HB4.out)
     have HBK4 := Lib.hid (HBK.out.trans (HB4.out.mono (by have := HBK.out.size; have := HD.out.lt2; omega)))
     clear kx0 n1 y0
     have y0 := HD4.out.cell (HPS.out _ _ ⟨rfl, hgP, x0⟩)
     clear HD HBK HB4 HCK
     obtain ⟨v, n, hv, hvf, hvo, -⟩ := HD4.out.row HSG.out rfl
     have hnx : n = x.length := by have := hvo.1; simpa using this.symm
     subst hnx
     obtain ⟨av, cv, rfl, -, -⟩ := own_slice hvo
     have HVO := Lib.hid hvo
     rw [Nat.zero_add] at hv hvf
     clear hvo
     obtain ⟨tb, hcb⟩ : ∃ tb : Bool, (((x.length : Nat) : Int) == 0) = tb := ⟨_, rfl⟩
     obtain ⟨cN, hcN⟩ : ∃ cN, cN = cntR (R.set nb (x ++ [k])) := ⟨_, rfl⟩
     rw [← hcN] at HCN
     have HN := Lib.hid (show (cN : Int) = if tb = true then (cR : Int) + 1 else cR by
      rw [HCN.out]
      by_cases e : x.length = 0
      ·rw [if_pos e, if_pos (by rw [← hcb, e]; rfl)]; rfl
      ·rw [if_neg e, if_neg (by rw [← hcb, beq_iff_eq]; omega)]; rfl)
     have HCQ := Lib.hid hcN
     clear hcN
     go_upto_if 176 with fail
     clear hcb
     refine wp_cut_slots [17, 177, 178] (CutT w4 (cN : Int)) ?_ ?_
     ·cases tb
      ·have HE2 := Lib.hid (HN.out.trans (if_neg (by simp)))
       go_wp2_with fail
       exact cut_meet (by simp [forget]) ⟨congrArg (Value.int .i64) HE2.out.symm, rfl⟩
      ·have HE2 := Lib.hid (HN.out.trans (if_pos rfl))
       go_wp2_with fail
       exact cut_meet (by simp [forget]) ⟨congrArg (Value.int .i64) HE2.out.symm, rfl⟩
     rintro u W4' ⟨hu17, rfl⟩
     simp only [forget, List.foldl_cons, List.foldl_nil, hu17, List.setIfInBounds_toArray, List.set_cons_succ, List.set_cons_zero]
     clear hu17 HN HCN v6 hcl
     obtain ⟨wf, rfl⟩ : ∃ wf : World, wf = W4' := ⟨_, rfl⟩
     have hgw := block_lt_of_cell hv
     have hg4 := HD4.out.lt2
     have hsep : (⟨gR, nb, none⟩ : Addr) ≠ ⟨gP, offP + k * 6, none⟩ := fun e => by rw [e, y0] at hv; cases hv
     have HV := Lib.hid hv
     have HCC := Lib.hid (And.intro hv y0)
     obtain ⟨i0, hi0, hz0, hz1, hz2⟩ := info_parts int_info
     have kx : ∀ y : KW (fun W => W.cell? ⟨gR, nb, none⟩ = some (.slice av x.length cv) ∧ W.cell? ⟨gP, offP + k * 6, none⟩ = some (.int .i64 nb)), y.w.cell? ⟨gR, nb, none⟩ = some (.slice av x.length cv) ∧ y.w.cell? ⟨gP, offP + k * 6, none⟩ = some (.int .i64 nb) := fun y => y.ok
     haveI n1 : Nonempty (KW (fun W => W.cell? ⟨gR, nb, none⟩ = some (.slice av x.length cv) ∧ W.cell? ⟨gP, offP + k * 6, none⟩ = some (.int .i64 nb))) := ⟨⟨wf, hv, y0⟩⟩
     go_upto_region 39 with fail
     refine wp_region_tree (fun w' => ∃ y : KW (fun W => W.cell? ⟨gR, nb, none⟩ = some (.slice av x.length cv) ∧ W.cell? ⟨gP, offP + k * 6, none⟩ = some (.int .i64 nb)), w' = y.w) 17 (.take 0 (.take 1 (.take 2 (.take 3 (.take 4 (.take 5 (.take 6 (.take 7 (.take 8 (.take 9 (.take 10 (.take 11 (.take 12 (.take 13 (.take 14 (.one 15 (.one 16 .done))))))))))))))))) hmix (by kernel_rfl) (KW.mk' ⟨hv, y0⟩) ?_
     have HB5 := Lib.hid (show Below wf.heap.size wf wf.drew from (Below.refl _ _).drew)
     generalize wf.drew = w5 at *
     have hz5 := HB5.out.size
     repeat (refine wpTree_take ?_; simp only [nthOp]; (first | go_big_quiet_step (fail) | quiet_step (fail)); refine wpQuiet_nil ?_)
     refine wpTree_one ?_
     simp only [nthOp]
     go_wp2_with fail
     refine One_mk (KW.mk' ⟨cell_keep (HB5.out.alloc hz5 _) HCC.out.1, cell_keep (HB5.out.alloc hz5 _) HCC.out.2⟩) ?_
     refine wpTree_one ?_
     simp only [nthOp]
     go_wp2_with (at_builtin; refine wpList_append_here _ rfl _ _ 44 rfl g9 3 i0 (.int .i64 0) 1 8 Tryz.underlying44 hi0 hz0 hz1 hz2 rfl (by decide) _ x.length _ rfl (own_keep HVO.out (HB5.out.alloc hz5 _)) ⟨w5.heap.size, 0, none⟩ 1 1 [.int .i64 (k : Int)] rfl rfl (news_of [.int .i64 (k : Int)] _ _ _ rfl) (by intro u hu; rw [List.mem_singleton.1 hu]; rfl) (by decide) (by simp only [maxLen]; omega) (by omega) (by simp; omega) ?_; intro v8 w8 ho8 hg8 hv8; obtain ⟨a8, cc8, rfl, -, -⟩ := own_slice ho8; have HO8 := Lib.hid ho8; have HG8 := Lib.hid hg8; have HV8 := Lib.hid hv8; clear ho8 hg8 hv8)
     have hbw8 : Below g9 W8 w8 := ((HBK4.out.trans (HB5.out.mono (Nat.le_of_lt hg4))).alloc (by omega) _).grown HG8.out (by simp; omega) (fun k hk => own_base HVO.out hk)
     obtain ⟨c8, f8, hD8⟩ := (HD4.out.keep (HB5.out.alloc hz5 _)).append1 (v := .slice av x.length cv) HSG.out rfl (by rw [Nat.zero_add]; exact cell_keep (HB5.out.alloc hz5 _) HCC.out.1) (by have h := HO8.out; simpa using h) HG8.out HV8.out
     rw [Nat.zero_add] at c8 f8 hD8
     have y8 := hD8.cell (HPS.out _ _ ⟨rfl, hgP, x0⟩)
     rw [World.cell?_setCell_other (h := hsep)] at y8
     have HBW8 := Lib.hid hbw8
     have HDN := Lib.hid hD8
     clear hbw8 hD8
     refine One_mk (KW.mk' ⟨c8, y8⟩) ?_
     refine wpTree_done ?_
     simp only [List.drop_succ_cons, List.drop_zero]
     have hgw8 := block_lt_of_cell c8
     go_wp2_with fail
     refine NP_mk ?_
     go_upto_region 40 with fail
     refine gen_world (fun WX => Hid (Desk WX g9 ([slotI ⟨g9, 0, none⟩ (j.stock.map (useL j)), slotI ⟨g9, 1, none⟩ LL] ++ slotsN gR 0 (R.set nb (x ++ [k]))) St) ∧ Below g9 W8 WX) ⟨Lib.hid ?_, HBW8.out.setCell ?_ _⟩ ?_
     ·have h2 := HDN.out
      have h3 := slotsN_set (g := gR) (rows := R) (j := 0) (i := nb) (x := x ++ [k])
      rw [Nat.zero_add] at h3
      rw [← h3, show slotN ⟨gR, nb, none⟩ (x ++ [k]) = { a := some ⟨gR, nb, none⟩, e := 3, k := 1, xs := (x.map fun i : Nat => (i : Int)).map (Value.int .i64) ++ [.int .i64 (k : Int)] } by simp [slotN]]
      exact h2
     ·have := HGR.out; simp only; omega
     clear HDN HBW8 HO8 HG8 HV8 c8 f8 y8 hgw8 kx n1 HCC HB5 hz5 HV hv hvf HVO HD4 HBK4 HSG hgw hg4 y0 hsep
     rintro WX ⟨HDX, hbX⟩
     have HBX := Lib.hid hbX
     clear hbX
     have hg5 := HDX.out.lt2
     obtain ⟨v, n, hv, hvf, hvo, -⟩ := HDX.out.row (i := 1) rfl rfl
     have hnx : k = n := by have h := hvo.1; simp at h; omega
     subst hnx
     obtain ⟨al, cl, rfl, -, -⟩ := own_slice hvo
     have HVO := Lib.hid hvo
     have HV := Lib.hid hv
     clear hvo
     have y2 := HDX.out.cell (HPS.out _ _ ⟨rfl, hgP, x2⟩)
     have y4 := HDX.out.cell (HPS.out _ _ ⟨rfl, hgP, x4⟩)
     have HCC := Lib.hid (And.intro (And.intro hv y2) y4)
     have kx : ∀ y : KW (fun W => (W.cell? ⟨g9, 1, none⟩ = some (.slice al k cl) ∧ W.cell? ⟨gP, offP + k * 6 + 2, none⟩ = some (.int .i64 p.at_.x1)) ∧ W.cell? ⟨gP, offP + k * 6 + 4, none⟩ = some (.int .i64 p.at_.x2)), (y.w.cell? ⟨g9, 1, none⟩ = some (.slice al k cl) ∧ y.w.cell? ⟨gP, offP + k * 6 + 2, none⟩ = some (.int .i64 p.at_.x1)) ∧ y.w.cell? ⟨gP, offP + k * 6 + 4, none⟩ = some (.int .i64 p.at_.x2) := fun y => y.ok
     haveI n1 : Nonempty (KW (fun W => (W.cell? ⟨g9, 1, none⟩ = some (.slice al k cl) ∧ W.cell? ⟨gP, offP + k * 6 + 2, none⟩ = some (.int .i64 p.at_.x1)) ∧ W.cell? ⟨gP, offP + k * 6 + 4, none⟩ = some (.int .i64 p.at_.x2))) := ⟨⟨WX, ⟨hv, y2⟩, y4⟩⟩
     refine wp_region_tree (fun w' => ∃ y : KW (fun W => (W.cell? ⟨g9, 1, none⟩ = some (.slice al k cl) ∧ W.cell? ⟨gP, offP + k * 6 + 2, none⟩ = some (.int .i64 p.at_.x1)) ∧ W.cell? ⟨gP, offP + k * 6 + 4, none⟩ = some (.int .i64 p.at_.x2)), w' = y.w) 16 (.take 0 (.take 1 (.take 2 (.take 3 (.take 4 (.take 5 (.take 6 (.take 7 (.take 8 (.take 9 (.take 10 (.take 11 (.take 12 (.take 13 (.take 14 (.one 15 .done)))))))))))))))) hmix (by kernel_rfl) (KW.mk' ⟨⟨hv, y2⟩, y4⟩) ?_
     have HB5 := Lib.hid (show Below WX.heap.size WX WX.drew from (Below.refl _ _).drew)
     generalize WX.drew = w5 at *
     have hz5 := HB5.out.size
     repeat (refine wpTree_take ?_; simp only [nthOp]; (first | go_big_quiet_step (fail) | quiet_step (fail)); refine wpQuiet_nil ?_)
     refine wpTree_one ?_
     simp only [nthOp]
     go_wp2_with fail
     refine One_mk (KW.mk' ⟨⟨cell_keep (HB5.out.alloc hz5 _) HCC.out.1.1, cell_keep (HB5.out.alloc hz5 _) HCC.out.1.2⟩, cell_keep (HB5.out.alloc hz5 _) HCC.out.2⟩) ?_
     refine wpTree_done ?_
     simp only [List.drop_succ_cons, List.drop_zero]
     go_wp2_with (at_builtin; refine wpList_append_here _ rfl _ _ 44 rfl g9 3 i0 (.int .i64 0) 1 8 Tryz.underlying44 hi0 hz0 hz1 hz2 rfl (by decide) _ k _ rfl (own_keep HVO.out (HB5.out.alloc hz5 _)) ⟨w5.heap.size, 0, none⟩ 1 1 [.int .i64 (lenP p)] rfl rfl (news_of [.int .i64 (lenP p)] _ _ _ rfl) (by intro u hu; rw [List.mem_singleton.1 hu]; rfl) (by decide) (by simp only [maxLen]; omega) (by omega) (by simp; omega) ?_; intro v8 w8 ho8 hg8 hv8; obtain ⟨a8, cc8, rfl, -, -⟩ := own_slice ho8; have HO8 := Lib.hid ho8; have HG8 := Lib.hid hg8; have HV8 := Lib.hid hv8; clear ho8 hg8 hv8; obtain ⟨c8, f8, hD8⟩ := (HDX.out.keep (HB5.out.alloc hz5 _)).append1 (i := 1) (v := .slice al k cl) rfl rfl (cell_keep (HB5.out.alloc hz5 _) HV.out) (by have h := HO8.out; simpa using h) HG8.out HV8.out; have HDN := Lib.hid hD8; have hgw8 := block_lt_of_cell c8; clear hD8)
     refine NP_mk ?_
     have hbw8 : Below g9 W8 w8 := ((HBX.out.trans (HB5.out.mono (Nat.le_of_lt hg5))).alloc (by omega) _).grown HG8.out (by simp; omega) (fun k hk => own_base HVO.out hk)
     have HBW8 := Lib.hid hbw8
     clear hbw8
     go_upto_region 34 with fail
     refine gen_world (fun WY => Hid (Desk WY g9 ([slotI ⟨g9, 0, none⟩ (j.stock.map (useL j)), slotI ⟨g9, 1, none⟩ (LL ++ [lenP p])] ++ slotsN gR 0 (R.set nb (x ++ [k]))) St) ∧ Below g9 W8 WY) ⟨Lib.hid ?_, HBW8.out.setCell ?_ _⟩ ?_
     ·have h2 := HDN.out
      simpa [slotI] using h2
     ·exact Nat.le_refl _
     clear HDN HBW8 HO8 HG8 HV8 c8 f8 hgw8 kx n1 HCC HB5 hz5 HV hv hvf HVO HDX HBX hg5 y2 y4
     rintro WY ⟨HDY, hbY⟩
     have HBY := Lib.hid hbY
     clear hbY
     go_wp2_with fail
     go_roundw
     case rel => exact ⟨k + 1, by omega, by rw [HT3.out, ← HCQ.out], by go_num, by rw [HT1.out, HT3.out]; exact HDY, HBY.out⟩
     case measure => first | (simp [intOf]; done) | (simp [intOf]; omega)
    ·obtain rfl : k = P.length := by omega
     have hkf : ¬ (P.length : Int) < (P.length : Int) := by omega
     simp only [List.take_length] at HD ⊢
     obtain ⟨a0, a1, c0, c1, m, hm, h0, h1, h2, hchk, hbest⟩ := fin_facts HD.out (by rw [HST.out]; exact .inl (.inl ⟨rfl, rfl⟩)) (by rw [List.length_map]) hLS (by rw [List.length_map]; omega) HPP.out.1 (by rw [List.length_map, List.length_map]) (fun a ha => by obtain ⟨p, hp, rfl⟩ := List.mem_map.1 ha; exact (HBR.out p hp).2) HPP.out.2.2.2
     rw [List.length_map] at h1 hchk hbest
     have HCHK := Lib.hid hchk
     have HBEST := Lib.hid hbest
     generalize cntR (rowsB j.stock.length (P.map brdP)) = c at *
     have hmc : (m : Int) ≤ (c : Int) := by omega
     have hcc : ((c : Int) != (c : Int)) = false := by simp
     have hgk := HD.out.lt2
     clear hchk hbest HCK
     go_upto_region 42 with (go_at_call 15; refine (HCHK.out _ (Below.refl _ _)).mono ?_; rintro e w4 ⟨rfl, hb⟩; have HB4 := Lib.hid hb; clear hb)
     have h0 := cell_keep HB4.out h0
     have h1 := cell_keep HB4.out h1
     have h2 := cell_keep HB4.out h2
     go_upto_region 43 with (go_at_call 16; refine (HBEST.out _ HB4.out).mono ?_; rintro e w5 ⟨av, cv, rfl, hb, hn⟩; have HB5 := Lib.hid hb; have HN5 := Lib.hid hn; clear hb hn)
     have h0 := cell_keep HB5.out h0
     have h1 := cell_keep HB5.out h1
     have h2 := cell_keep HB5.out h2
     go_wp2_with (go_at_call 15; refine (HN5.out _ (Below.refl _ _)).mono ?_; rintro e w6 ⟨rfl, hb⟩; have HB6 := Lib.hid hb; clear hb)
     go_ret
     exact ⟨rfl, (HBL.out _ (HBK.out.trans ((HB4.out.trans ((HB5.out.trans (HB6.out.mono HB5.out.size)).mono HB4.out.size)).mono (Nat.le_of_lt hgk)))).1⟩
set_option maxRecDepth 100000 in
theorem topRowsAreBars_walks : Walks 3 Tryz.f3 := by
 intro H enc W base args ds p hval hA hlt
 rw [Tryz.params3] at hA hval
 obtain ⟨v0, vs0, d0, ds0, p0, q0, hargs, rfl, rfl, ⟨fu0, hf0⟩, r0⟩ := trodAll_cons hA
 obtain ⟨v1, vs1, d1, ds1, p1, q1, rfl, rfl, rfl, ⟨fu1, hf1⟩, r1⟩ := trodAll_cons r0
 obtain ⟨rfl, rfl, rfl⟩ := trodAll_nil r1
 obtain rfl : args = #[v0, v1] := by cases args; simp_all
 obtain ⟨cs0, rfl, -⟩ := okWide_struct Tryz.underlying27 (hval 0 27 v0 rfl rfl)
 obtain ⟨j0, a0, c0, b0, d0, hc0, ⟨V0, C0, M0⟩, ⟨U0, D0, N0⟩, W0⟩ := Job.open_ hf0
 have hd0 : cs0 = #[.slice a0 j0.stock.length c0, .slice b0 j0.blanks.length d0, .int .i64 j0.trim.kerf, .int .i64 j0.trim.ends, .int .i64 j0.trim.sides] := by
  cases cs0; simpa [Value.cells] using hc0
 subst hd0
 obtain ⟨_, _, _, rfl⟩ := okWide_slice Tryz.underlying28 (hval 1 28 v1 rfl rfl)
 obtain ⟨a1, plan, c1, e1, V1, C1, M1⟩ := Layouts.open_ hf1
 rw [e1]
 exact walkTopRowsAreBars j0 a0 c0 b0 d0 a1 plan c1 W V0 (by unfold maxLen at M0; omega) C0 U0 (by unfold maxLen at N0; omega) D0 W0 V1 (by unfold maxLen at M1; omega) C1

set_option maxRecDepth 100000 in
theorem topRowsAreBars_holds : Rows.TopRowsAreBarsSaid :=
 law_holds (s := Rows.topRowsAreBarsSpec) (c := Rows.topRowsAreBarsRow) 3 Tryz.f3 rfl
  (fun H ds h => by match ds, h with | [_, _], _ => rfl) (by kernel_rfl) (by kernel_rfl)
  rfl rfl rfl rfl rfl rfl rfl ⟨rfl, rfl, rfl, rfl, rfl⟩ rfl rfl rfl rfl rfl rfl rfl rfl rfl rfl (fun _ _ => rfl) (by kernel_rfl) Tryz.func3
  topRowsAreBars_closed (of_decide_eq_true (by kernel_rfl)) (by unfold Func.isWrapper; first | (rw [if_pos (by decide +kernel)]; kernel_rfl) | (rw [if_neg (by decide +kernel)]; exact ⟨rfl, rfl⟩)) (by kernel_rfl)
  (fun H enc os => ChangeSpec.witness6 (enc := enc) (C := Tryz.checked) false ⟨#[], #[.agg #[.slice none 0 0, .slice none 0 0, .int .i64 0, .int .i64 0, .int .i64 0], .slice none 0 0], []⟩ 8 (by kernel_rfl) (by kernel_rfl) (by kernel_rfl) (by kernel_rfl))
  topRowsAreBars_walks
end Go.Proofs.YtoelfalmmaddlaaGreat
