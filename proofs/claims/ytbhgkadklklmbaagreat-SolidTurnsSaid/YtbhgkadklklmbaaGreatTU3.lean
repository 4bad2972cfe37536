/- Turns of the document: which numbers are turns, which vectors are too far. -/
import Derived.Test.YtbhgkadklklmbaaGreatQM
import Derived.Test.YtbhgkadklklmbaaGreatQN
import Derived.Test.YtbhgkadklklmbaaGreatTU1
import Derived.Test.YtbhgkadklklmbaaGreatQC
import Derived.Test.YtbhgkadklklmbaaGreatQF
import Derived.Test.YtbhgkadklklmbaaGreatTU2
import Derived.ChangeKeysEq
set_option linter.unusedVariables false
set_option linter.unusedSimpArgs false
namespace Go.Proofs.YtbhgkadklklmbaaGreat
open Go Go.RowKit Go.Sort Go.Lib

set_option maxRecDepth 100000 in
theorem isTurnR_any (t : Int) (w : World) : Calls Tryz.prog 66 #[.int .i64 t] w fun e w' => e = .returned (.bool (withinB t 0 47)) ∧ Below w.heap.size w w' := by
 have H := Lib.hid (fun W => withinR_any t 0 47 W)
 generalize withinB t 0 47 = S at *
 go_enter Tryz.func66, Tryz.ntmps66
 go_wp2_with (go_at_call 82; refine (H.out _).mono ?_; rintro e w1 ⟨rfl, rfl⟩)
 go_ret
 exact ⟨rfl, by repeat (first | (with_reducible assumption) | exact Below.refl _ _ | (refine Below.setCell ?_ (by first | omega | (simp; omega) | (simp; done)) _) | (refine Below.alloc ?_ (by first | omega | (simp; omega) | (simp; done)) _) | (refine Below.drew ?_))⟩
def outF (z : Int) : Bool := !withinB z (-600000) 600000
set_option maxRecDepth 100000 in
set_option maxHeartbeats 2000000 in
theorem farR_any (x y z : Int) (w : World) : Calls Tryz.prog 68 #[.agg #[.int .i64 x, .int .i64 y, .int .i64 z]] w fun e w' => e = .returned (.bool ([x, y, z].any outF)) ∧ Below w.heap.size w w' := by
 have HW := Lib.hid (fun z W => withinR_any z (-600000) 600000 W)
 obtain ⟨l, hl⟩ : ∃ l, l = [x, y, z] := ⟨_, rfl⟩
 have hl3 : l.length = 3 := by rw [hl]; rfl
 rw [← hl]
 have HL := Lib.hid hl
 go_enter Tryz.func68, Tryz.ntmps68
 go_upto_region 1 with fail
 refine gen_world (fun W => IntsV W (some ⟨w.heap.size, 0, none⟩) [x, y, z] ∧ Below w.heap.size w W) ⟨fun _ => ⟨_, 0, rfl, fun k u hk => ?_⟩, by repeat (first | (with_reducible assumption) | exact Below.refl _ _ | (refine Below.setCell ?_ (by first | omega | (simp; omega) | (simp; done)) _) | (refine Below.alloc ?_ (by first | omega | (simp; omega) | (simp; done)) _) | (refine Below.drew ?_))⟩ ?_
 ·match k, hk with
  | 0, hk => simp at hk; subst hk; simp [go_sem]
  | 1, hk => simp at hk; subst hk; simp [go_sem]
  | 2, hk => simp at hk; subst hk; simp [go_sem]
  | k + 3, hk => simp at hk
 rintro W ⟨hv, hb⟩
 rw [← hl] at hv
 have HV := Lib.hid hv
 have HB := Lib.hid hb
 clear hv hb hl
 obtain ⟨gw, hgw⟩ : ∃ g, g = w.heap.size := ⟨_, rfl⟩
 rw [← hgw] at HV ⊢
 clear hgw
 go_wp2_with fail
 go_loopw [3] (fun i wr => ∃ k : Nat, k ≤ 3 ∧ i = .int .i64 k ∧ Hid (∀ j (hj : j < l.length), j < k → outF l[j] = false) ∧ Below W.heap.size W wr) (fun i _ => 3 - (intOf i).toNat)
 case atStart => exact ⟨0, Nat.zero_le _, rfl, Lib.hid (fun j _ h => by omega), Below.refl _ _⟩
 case round =>
  obtain ⟨k, hk, rfl, HK, hbw⟩ := hrel
  by_cases hlt : k < 3
  ·obtain ⟨b, off, e, hat⟩ := (HV.out.keep hbw) (fun e => by rw [e] at hl3; simp at hl3)
   injection e with e
   injection e with e1 e2
   subst e1 e2
   have c0 := hat k l[k] (List.getElem?_eq_getElem (by omega))
   rw [Nat.zero_add] at c0
   clear hat
   have hkl : k < l.length := by omega
   have HN := Lib.hid (fun h => none_step (p := outF) HK.out hkl h)
   have HY := Lib.hid (show outF l[k] = true → l.any outF = true from fun h => List.any_eq_true.2 ⟨l[k], List.getElem_mem (by omega), h⟩)
   have HF := Lib.hid (HW.out l[k] wr)
   rw [show withinB l[k] (-600000) 600000 = !outF l[k] by unfold outF; simp] at HF
   generalize l[k] = d at *
   have hki : (k : Int) < 3 := by omega
   cases hq : outF d
   ·rw [hq] at HF
    go_wp2_with (go_at_call 82; refine HF.out.mono ?_; rintro e w1 ⟨rfl, rfl⟩)
    go_round
    case rel => exact ⟨k + 1, by omega, by go_num, Lib.hid (HN.out hq), hbw⟩
    case measure => simp [intOf]; omega
   ·rw [hq] at HF
    have hA := HY.out hq
    go_wp2_with (go_at_call 82; refine HF.out.mono ?_; rintro e w1 ⟨rfl, rfl⟩)
    go_ret
    exact ⟨ret_bool hA.symm, HB.out.trans (hbw.mono HB.out.size)⟩
  ·have hki : ¬ (k : Int) < 3 := by omega
   have hm := Lib.hid (show l.any outF = false from List.any_eq_false.2 fun x hx => by obtain ⟨j, hj, rfl⟩ := List.mem_iff_getElem.1 hx; rw [HK.out j hj (by omega)]; simp)
   clear HK
   go_wp2_with fail
   go_ret
   exact ⟨ret_bool hm.out.symm, HB.out.trans (hbw.mono HB.out.size)⟩
end Go.Proofs.YtbhgkadklklmbaaGreat
/- The image of a vector under a turn. -/
set_option linter.unusedVariables false
set_option linter.unusedSimpArgs false
namespace Go.Proofs.YtbhgkadklklmbaaGreat
open Go Go.RowKit Go.Sort Go.Lib

/-- A turn and a vector, in boxes. -/
structure TrBx (w : World) (g : Nat) (t : Trn) : Prop where
 a : w.cell? ⟨g, 0, none⟩ = some (.int .i64 t.p0) ∧ w.cell? ⟨g, 1, none⟩ = some (.int .i64 t.p1) ∧ w.cell? ⟨g, 2, none⟩ = some (.int .i64 t.p2)
 b : w.cell? ⟨g, 3, none⟩ = some (.int .i64 t.s0) ∧ w.cell? ⟨g, 4, none⟩ = some (.int .i64 t.s1) ∧ w.cell? ⟨g, 5, none⟩ = some (.int .i64 t.s2)
theorem TrBx.keep {w w' : World} {g : Nat} {t : Trn} (h : TrBx w g t) (hb : Below w.heap.size w w') : TrBx w' g t :=
 ⟨⟨cell_keep hb h.a.1, cell_keep hb h.a.2.1, cell_keep hb h.a.2.2⟩, ⟨cell_keep hb h.b.1, cell_keep hb h.b.2.1, cell_keep hb h.b.2.2⟩⟩
theorem VecV.but {w w' : World} {g k : Nat} {f : Nat → Int} (h : VecV w g f) (hb : But k w w') (hn : g ≠ k) : ∀ t, t < 3 → w'.cell? ⟨g, t, none⟩ = some (.int .i64 (f t)) := fun t ht => hb.get (h t ht).1 hn
theorem sgn_in {s x B : Int} (hs : s = 1 ∨ s = -1) (hx : -B ≤ x ∧ x ≤ B) : -B ≤ s * x ∧ s * x ≤ B := by
 rcases hs with rfl | rfl
 ·rw [Int.one_mul]; exact hx
 ·rw [Int.neg_mul, Int.one_mul]; omega
theorem vecV_at {W : World} {g : Nat} {v : Vec} (h0 : W.cell? ⟨g, 0, none⟩ = some (.int .i64 v.x) ∧ W.frozen? ⟨g, 0, none⟩ = false) (h1 : W.cell? ⟨g, 1, none⟩ = some (.int .i64 v.y) ∧ W.frozen? ⟨g, 1, none⟩ = false) (h2 : W.cell? ⟨g, 2, none⟩ = some (.int .i64 v.z) ∧ W.frozen? ⟨g, 2, none⟩ = false) : VecV W g v.at_ := fun t ht => by
 match t, ht with
 | 0, _ => exact h0
 | 1, _ => exact h1
 | 2, _ => exact h2
set_option maxRecDepth 100000 in
set_option maxHeartbeats 4000000 in
theorem of_any (t : Trn) (v : Vec) (ht : t.wf) (hv : v.in_ 1000000000000) (w : World) : Calls Tryz.prog 128 #[.agg #[.int .i64 t.p0, .int .i64 t.p1, .int .i64 t.p2, .int .i64 t.s0, .int .i64 t.s1, .int .i64 t.s2], .agg #[.int .i64 v.x, .int .i64 v.y, .int .i64 v.z]] w fun e w' => e = .returned (.agg #[.int .i64 (ofT t v).x, .int .i64 (ofT t v).y, .int .i64 (ofT t v).z]) ∧ Below w.heap.size w w' := by
 have hmix : Tryz.prog.follows .mixedOrders = true := by kernel_rfl
 have HVI := Lib.hid hv
 have HTW := Lib.hid ht
 clear hv ht
 obtain ⟨N, hN⟩ : ∃ N, N = ofT t v := ⟨_, rfl⟩
 have HN := Lib.hid (show N.x = t.s0 * v.at_ t.p0 ∧ N.y = t.s1 * v.at_ t.p1 ∧ N.z = t.s2 * v.at_ t.p2 by rw [hN]; exact ⟨rfl, rfl, rfl⟩)
 rw [← hN]
 clear hN
 go_enter Tryz.func128, Tryz.ntmps128
 go_upto_region 2 with fail
 refine gen_world (fun W => TrBx W w.heap.size t ∧ VecV W (w.heap.size + 1) v.at_ ∧ ZBx W (w.heap.size + 2) ∧ VecV W (w.heap.size + 3) (fun _ => 0) ∧ Below w.heap.size w W) ⟨⟨⟨?_, ?_, ?_⟩, ⟨?_, ?_, ?_⟩⟩, vecV_at ⟨?_, ?_⟩ ⟨?_, ?_⟩ ⟨?_, ?_⟩, ⟨⟨?_, ?_⟩, ⟨?_, ?_⟩, ?_, ?_⟩, fun k hk => ?_, ?_⟩ ?_
 any_goals (simp [go_sem]; done)
 ·match k, hk with
  | 0, _ => exact ⟨by simp [go_sem], by simp [go_sem]⟩
  | 1, _ => exact ⟨by simp [go_sem], by simp [go_sem]⟩
  | 2, _ => exact ⟨by simp [go_sem], by simp [go_sem]⟩
 ·repeat (first | (with_reducible assumption) | exact Below.refl _ _ | (refine Below.setCell ?_ (by first | omega | (simp; omega) | (simp; done)) _) | (refine Below.alloc ?_ (by first | omega | (simp; omega) | (simp; done)) _) | (refine Below.drew ?_))
 rintro W ⟨htb, hvb, hzb, hob, hb⟩
 have HTB := Lib.hid htb
 have HVB := Lib.hid hvb
 have HZB := Lib.hid hzb
 have HOB := Lib.hid hob
 have HB0 := Lib.hid hb
 clear htb hvb hzb hob hb
 obtain ⟨gp, hgp⟩ : ∃ g, g = w.heap.size := ⟨_, rfl⟩
 have HGP := Lib.hid hgp
 rw [← hgp] at HTB HVB HZB HOB
 rw [show w.heap.size = gp from hgp.symm]
 clear hgp
 simp only [Nat.add_assoc, Nat.reduceAdd]
 go_wp2_with fail
 go_loopw [7] (fun iv wr => ∃ (i : Nat) (u : Int), i ≤ 3 ∧ u = (i : Int) ∧ iv = .int .i64 u ∧ Hid (VecV wr (gp + 3) (fun k => if k < i then N.at_ k else 0)) ∧ But (gp + 3) W wr ∧ Below w.heap.size w wr) (fun iv _ => 3 - (intOf iv).toNat)
 case atStart => exact ⟨0, 0, Nat.zero_le _, rfl, rfl, Lib.hid (fun k hk => by have := HOB.out k hk; match k, hk with | 0, _ => exact this | 1, _ => exact this | 2, _ => exact this), But.refl _ _, HB0.out⟩
 case round =>
  obtain ⟨i, u, hi, hui, rfl, HOW, hbr, hbw⟩ := hrel
  have HBR := Lib.hid hbr
  have HBW := Lib.hid hbw
  clear hbr hbw
  have h4 : i = 0 ∨ i = 1 ∨ i = 2 ∨ i = 3 := by omega
  rcases h4 with rfl | rfl | rfl | rfl
  ·obtain rfl : u = 0 := by simpa using hui
   clear hui
   have hp := HTW.out.a0
   have hin := Vec.in_at HVI.out t.p0
   have hsg := sgn_in HTW.out.b0 hin
   have hNc := HN.out.1
   have q0 := HBR.out.get HTB.out.a.1 (by omega)
   have q1 := HBR.out.get HTB.out.b.1 (by omega)
   have q2 := HVB.out.but HBR.out (by omega) t.p0 hp
   obtain ⟨v3, f3⟩ := HOW.out 0 (by decide)
   generalize t.p0 = k at *
   generalize t.s0 = s at *
   generalize v.at_ k = x at *
   have e1 : IntKind.i64.wrap (s * x) = N.x := by rw [hNc]; exact IntWalk.i64_in _ (by omega)
   have hki : (k : Int) < 3 := by omega
   have hs0 := block_lt_of_cell v3
   simp only at hs0
   clear hin hsg hNc
   go_upto_region 5 with fail
   have kx0 : ∀ y : KW (fun W' => Below wr.heap.size wr W'), (y.w.cell? ⟨gp, 0, none⟩ = some (.int .i64 (k : Int)) ∧ y.w.cell? ⟨gp, 3, none⟩ = some (.int .i64 s) ∧ y.w.cell? ⟨gp + 1, k, none⟩ = some (.int .i64 x)) := fun y => ⟨cell_keep y.ok q0, cell_keep y.ok q1, cell_keep y.ok q2⟩
   haveI n1 : Nonempty (KW (fun W' => Below wr.heap.size wr W')) := ⟨⟨wr, Below.refl _ _⟩⟩
   refine wp_region_tree (fun w' => ∃ y : KW (fun W' => Below wr.heap.size wr W'), w' = y.w) 12 (.take 0 (.take 1 (.take 2 (.take 3 (.take 4 (.take 5 (.take 6 (.take 7 (.take 8 (.take 9 (.take 10 (.take 11 .done)))))))))))) hmix (by kernel_rfl) (KW.mk' (Below.refl _ _).drew) ?_
   have HC0 := Lib.hid (show Below wr.heap.size wr wr.drew from (Below.refl _ _).drew)
   generalize wr.drew = wv at *
   repeat (refine wpTree_take ?_; simp only [nthOp]; (first | go_big_quiet_step (fail) | quiet_step (fail)); refine wpQuiet_nil ?_)
   have v3 := cell_keep HC0.out v3
   have f3 := frozen_keep HC0.out hs0 f3
   have HVK := Lib.hid (HOW.out.keep HC0.out)
   clear kx0 n1 q0 q1 q2 e1
   refine wpTree_done ?_
   simp only [List.drop_succ_cons, List.drop_zero]
   go_wp2_with fail
   refine NP_mk ?_
   go_wp2_with fail
   go_roundw
   case rel => exact ⟨1, 1, by decide, rfl, by first | rfl | go_num, Lib.hid (VecV.set (k := 0) (f' := fun t => if t < 1 then N.at_ t else 0) HVK.out (by decide) (fun t ht => by by_cases h : t < 0 <;> simp [h] <;> first | omega | (split <;> first | omega | rfl))), (HBR.out.trans (But.of HC0.out)).set _ _, (HBW.out.trans (HC0.out.mono HBW.out.size)).setCell (by have := HGP.out; simp only; omega) _⟩
   case measure => first | (simp [intOf]; done) | (simp [intOf]; omega)
  ·obtain rfl : u = 1 := by simpa using hui
   clear hui
   have hp := HTW.out.a1
   have hin := Vec.in_at HVI.out t.p1
   have hsg := sgn_in HTW.out.b1 hin
   have hNc := HN.out.2.1
   have q0 := HBR.out.get HTB.out.a.2.1 (by omega)
   have q1 := HBR.out.get HTB.out.b.2.1 (by omega)
   have q2 := HVB.out.but HBR.out (by omega) t.p1 hp
   obtain ⟨v3, f3⟩ := HOW.out 1 (by decide)
   generalize t.p1 = k at *
   generalize t.s1 = s at *
   generalize v.at_ k = x at *
   have e1 : IntKind.i64.wrap (s * x) = N.y := by rw [hNc]; exact IntWalk.i64_in _ (by omega)
   have hki : (k : Int) < 3 := by omega
   have hs0 := block_lt_of_cell v3
   simp only at hs0
   clear hin hsg hNc
   go_upto_region 5 with fail
   have kx0 : ∀ y : KW (fun W' => Below wr.heap.size wr W'), (y.w.cell? ⟨gp, 1, none⟩ = some (.int .i64 (k : Int)) ∧ y.w.cell? ⟨gp, 4, none⟩ = some (.int .i64 s) ∧ y.w.cell? ⟨gp + 1, k, none⟩ = some (.int .i64 x)) := fun y => ⟨cell_keep y.ok q0, cell_keep y.ok q1, cell_keep y.ok q2⟩
   haveI n1 : Nonempty (KW (fun W' => Below wr.heap.size wr W')) := ⟨⟨wr, Below.refl _ _⟩⟩
   refine wp_region_tree (fun w' => ∃ y : KW (fun W' => Below wr.heap.size wr W'), w' = y.w) 12 (.take 0 (.take 1 (.take 2 (.take 3 (.take 4 (.take 5 (.take 6 (.take 7 (.take 8 (.take 9 (.take 10 (.take 11 .done)))))))))))) hmix (by kernel_rfl) (KW.mk' (Below.refl _ _).drew) ?_
   have HC0 := Lib.hid (show Below wr.heap.size wr wr.drew from (Below.refl _ _).drew)
   generalize wr.drew = wv at *
   repeat (refine wpTree_take ?_; simp only [nthOp]; (first | go_big_quiet_step (fail) | quiet_step (fail)); refine wpQuiet_nil ?_)
   have v3 := cell_keep HC0.out v3
   have f3 := frozen_keep HC0.out hs0 f3
   have HVK := Lib.hid (HOW.out.keep HC0.out)
   clear kx0 n1 q0 q1 q2 e1
   refine wpTree_done ?_
   simp only [List.drop_succ_cons, List.drop_zero]
   go_wp2_with fail
   refine NP_mk ?_
   go_wp2_with fail
   go_roundw
   case rel => exact ⟨2, 2, by decide, rfl, by first | rfl | go_num, Lib.hid (VecV.set (k := 1) (f' := fun t => if t < 2 then N.at_ t else 0) HVK.out (by decide) (fun t ht => by by_cases h : t < 1 <;> simp [h] <;> first | omega | (split <;> first | omega | rfl))), (HBR.out.trans (But.of HC0.out)).set _ _, (HBW.out.trans (HC0.out.mono HBW.out.size)).setCell (by have := HGP.out; simp only; omega) _⟩
   case measure => first | (simp [intOf]; done) | (simp [intOf]; omega)
  ·obtain rfl : u = 2 := by simpa using hui
   clear hui
   have hp := HTW.out.a2
   have hin := Vec.in_at HVI.out t.p2
   have hsg := sgn_in HTW.out.b2 hin
   have hNc := HN.out.2.2
   have q0 := HBR.out.get HTB.out.a.2.2 (by omega)
   have q1 := HBR.out.get HTB.out.b.2.2 (by omega)
   have q2 := HVB.out.but HBR.out (by omega) t.p2 hp
   obtain ⟨v3, f3⟩ := HOW.out 2 (by decide)
   generalize t.p2 = k at *
   generalize t.s2 = s at *
   generalize v.at_ k = x at *
   have e1 : IntKind.i64.wrap (s * x) = N.z := by rw [hNc]; exact IntWalk.i64_in _ (by omega)
   have hki : (k : Int) < 3 := by omega
   have hs0 := block_lt_of_cell v3
   simp only at hs0
   clear hin hsg hNc
   go_upto_region 5 with fail
   have kx0 : ∀ y : KW (fun W' => Below wr.heap.size wr W'), (y.w.cell? ⟨gp, 2, none⟩ = some (.int .i64 (k : Int)) ∧ y.w.cell? ⟨gp, 5, none⟩ = some (.int .i64 s) ∧ y.w.cell? ⟨gp + 1, k, none⟩ = some (.int .i64 x)) := fun y => ⟨cell_keep y.ok q0, cell_keep y.ok q1, cell_keep y.ok q2⟩
   haveI n1 : Nonempty (KW (fun W' => Below wr.heap.size wr W')) := ⟨⟨wr, Below.refl _ _⟩⟩
   refine wp_region_tree (fun w' => ∃ y : KW (fun W' => Below wr.heap.size wr W'), w' = y.w) 12 (.take 0 (.take 1 (.take 2 (.take 3 (.take 4 (.take 5 (.take 6 (.take 7 (.take 8 (.take 9 (.take 10 (.take 11 .done)))))))))))) hmix (by kernel_rfl) (KW.mk' (Below.refl _ _).drew) ?_
   have HC0 := Lib.hid (show Below wr.heap.size wr wr.drew from (Below.refl _ _).drew)
   generalize wr.drew = wv at *
   repeat (refine wpTree_take ?_; simp only [nthOp]; (first | go_big_quiet_step (fail) | quiet_step (fail)); refine wpQuiet_nil ?_)
   have v3 := cell_keep HC0.out v3
   have f3 := frozen_keep HC0.out hs0 f3
   have HVK := Lib.hid (HOW.out.keep HC0.out)
   clear kx0 n1 q0 q1 q2 e1
   refine wpTree_done ?_
   simp only [List.drop_succ_cons, List.drop_zero]
   go_wp2_with fail
   refine NP_mk ?_
   go_wp2_with fail
   go_roundw
   case rel => exact ⟨3, 3, by decide, rfl, by first | rfl | go_num, Lib.hid (VecV.set (k := 2) (f' := fun t => if t < 3 then N.at_ t else 0) HVK.out (by decide) (fun t ht => by by_cases h : t < 2 <;> simp [h] <;> first | omega | (split <;> first | omega | rfl))), (HBR.out.trans (But.of HC0.out)).set _ _, (HBW.out.trans (HC0.out.mono HBW.out.size)).setCell (by have := HGP.out; simp only; omega) _⟩
   case measure => first | (simp [intOf]; done) | (simp [intOf]; omega)
  ·obtain rfl : u = 3 := by simpa using hui
   clear hui
   obtain ⟨o0, o1, o2⟩ : (wr.cell? ⟨gp + 3, 0, none⟩ = some (.int .i64 N.x) ∧ wr.cell? ⟨gp + 3, 1, none⟩ = some (.int .i64 N.y) ∧ wr.cell? ⟨gp + 3, 2, none⟩ = some (.int .i64 N.z)) := ⟨(HOW.out 0 (by decide)).1, (HOW.out 1 (by decide)).1, (HOW.out 2 (by decide)).1⟩
   have z0 := HBR.out.get HZB.out.a.1 (by omega)
   have z1 := HBR.out.get HZB.out.b.1 (by omega)
   have z2 := HBR.out.get HZB.out.c.1 (by omega)
   have y0 := (HBR.out.froz _ (block_lt_of_cell HZB.out.a.1) (by simp only; omega)).trans HZB.out.a.2
   have y1 := (HBR.out.froz _ (block_lt_of_cell HZB.out.b.1) (by simp only; omega)).trans HZB.out.b.2
   have y2 := (HBR.out.froz _ (block_lt_of_cell HZB.out.c.1) (by simp only; omega)).trans HZB.out.c.2
   have HZP := Lib.hid (ZBx.put (w := wr) (g := gp + 2) ⟨⟨z0, y0⟩, ⟨z1, y1⟩, z2, y2⟩ N)
   have HBX := Lib.hid (show Below w.heap.size w (((wr.setCell ⟨gp + 2, 0, none⟩ (.int .i64 N.x)).setCell ⟨gp + 2, 1, none⟩ (.int .i64 N.y)).setCell ⟨gp + 2, 2, none⟩ (.int .i64 N.z)) from ((HBW.out.setCell (by have := HGP.out; simp only; omega) _).setCell (by have := HGP.out; simp only; omega) _).setCell (by have := HGP.out; simp only; omega) _)
   go_wp2_with fail
   generalize (((wr.setCell ⟨gp + 2, 0, none⟩ (.int .i64 N.x)).setCell ⟨gp + 2, 1, none⟩ (.int .i64 N.y)).setCell ⟨gp + 2, 2, none⟩ (.int .i64 N.z)) = WZ at *
   obtain ⟨k0, k1, k2⟩ := HZP.out
   exact bodyPost_ret (v := .agg #[.int .i64 N.x, .int .i64 N.y, .int .i64 N.z]) (by simp [results, Tryz.results128, go_sem, k0, k1, k2]) rfl ⟨rfl, HBX.out⟩
set_option maxRecDepth 100000 in
set_option maxHeartbeats 4000000 in
theorem image_any (t : Trn) (v : Vec) (ht : t.wf) (hv : v.in_ 1000000000000) (w : World) : Calls Tryz.prog 135 #[.agg #[.int .i64 t.p0, .int .i64 t.p1, .int .i64 t.p2, .int .i64 t.s0, .int .i64 t.s1, .int .i64 t.s2], .agg #[.int .i64 v.x, .int .i64 v.y, .int .i64 v.z]] w fun e w' => e = .returned (.agg #[.int .i64 (ofT t v).x, .int .i64 (ofT t v).y, .int .i64 (ofT t v).z]) ∧ Below w.heap.size w w' := by
 have hmix : Tryz.prog.follows .mixedOrders = true := by kernel_rfl
 have HVI := Lib.hid hv
 have HTW := Lib.hid ht
 clear hv ht
 obtain ⟨N, hN⟩ : ∃ N, N = ofT t v := ⟨_, rfl⟩
 have HN := Lib.hid (show N.x = t.s0 * v.at_ t.p0 ∧ N.y = t.s1 * v.at_ t.p1 ∧ N.z = t.s2 * v.at_ t.p2 by rw [hN]; exact ⟨rfl, rfl, rfl⟩)
 rw [← hN]
 clear hN
 go_enter Tryz.func135, Tryz.ntmps135
 go_upto_region 1 with fail
 refine gen_world (fun W => TrBx W w.heap.size t ∧ VecV W (w.heap.size + 1) v.at_ ∧ ZBx W (w.heap.size + 2) ∧ Below w.heap.size w W) ⟨⟨⟨?_, ?_, ?_⟩, ⟨?_, ?_, ?_⟩⟩, vecV_at ⟨?_, ?_⟩ ⟨?_, ?_⟩ ⟨?_, ?_⟩, ⟨⟨?_, ?_⟩, ⟨?_, ?_⟩, ?_, ?_⟩, ?_⟩ ?_
 any_goals (simp [go_sem]; done)
 ·repeat (first | (with_reducible assumption) | exact Below.refl _ _ | (refine Below.setCell ?_ (by first | omega | (simp; omega) | (simp; done)) _) | (refine Below.alloc ?_ (by first | omega | (simp; omega) | (simp; done)) _) | (refine Below.drew ?_))
 rintro W ⟨htb, hvb, hzb, hb⟩
 have HZB := Lib.hid hzb
 have HB0 := Lib.hid hb
 obtain ⟨gp, hgp⟩ : ∃ g, g = w.heap.size := ⟨_, rfl⟩
 have HGP := Lib.hid hgp
 rw [← hgp] at htb hvb HZB
 rw [show w.heap.size = gp from hgp.symm]
 clear hgp
 simp only [Nat.add_assoc, Nat.reduceAdd]
 have h0 := HTW.out.a0
 have h1 := HTW.out.a1
 have h2 := HTW.out.a2
 have m0 := sgn_in HTW.out.b0 (Vec.in_at HVI.out t.p0)
 have m1 := sgn_in HTW.out.b1 (Vec.in_at HVI.out t.p1)
 have m2 := sgn_in HTW.out.b2 (Vec.in_at HVI.out t.p2)
 obtain ⟨n0, n1, n2⟩ := HN.out
 have c0 := (hvb _ h0).1
 have c1 := (hvb _ h1).1
 have c2 := (hvb _ h2).1
 obtain ⟨⟨a0, a1, a2⟩, b0, b1, b2⟩ := htb
 clear hvb hzb hb HTW
 generalize v.at_ t.p0 = x0 at *
 generalize v.at_ t.p1 = x1 at *
 generalize v.at_ t.p2 = x2 at *
 obtain ⟨p0, p1, p2, s0, s1, s2⟩ := t
 simp only at *
 have e0 : IntKind.i64.wrap (s0 * x0) = N.x := by rw [n0]; exact IntWalk.i64_in _ (by omega)
 have e1 : IntKind.i64.wrap (s1 * x1) = N.y := by rw [n1]; exact IntWalk.i64_in _ (by omega)
 have e2 : IntKind.i64.wrap (s2 * x2) = N.z := by rw [n2]; exact IntWalk.i64_in _ (by omega)
 have i0 : (p0 : Int) < 3 := by omega
 have i1 : (p1 : Int) < 3 := by omega
 have i2 : (p2 : Int) < 3 := by omega
 clear m0 m1 m2 n0 n1 n2 HN
 have kx0 : ∀ y : KW (fun W' => Below W.heap.size W W'), ((y.w.cell? ⟨gp, 0, none⟩ = some (.int .i64 (p0 : Int)) ∧ y.w.cell? ⟨gp, 1, none⟩ = some (.int .i64 (p1 : Int)) ∧ y.w.cell? ⟨gp, 2, none⟩ = some (.int .i64 (p2 : Int)))) := fun y => ⟨cell_keep y.ok a0, cell_keep y.ok a1, cell_keep y.ok a2⟩
 have kx1 : ∀ y : KW (fun W' => Below W.heap.size W W'), (y.w.cell? ⟨gp, 3, none⟩ = some (.int .i64 s0) ∧ y.w.cell? ⟨gp, 4, none⟩ = some (.int .i64 s1) ∧ y.w.cell? ⟨gp, 5, none⟩ = some (.int .i64 s2)) := fun y => ⟨cell_keep y.ok b0, cell_keep y.ok b1, cell_keep y.ok b2⟩
 have kx2 : ∀ y : KW (fun W' => Below W.heap.size W W'), (y.w.cell? ⟨gp + 1, p0, none⟩ = some (.int .i64 x0) ∧ y.w.cell? ⟨gp + 1, p1, none⟩ = some (.int .i64 x1) ∧ y.w.cell? ⟨gp + 1, p2, none⟩ = some (.int .i64 x2)) := fun y => ⟨cell_keep y.ok c0, cell_keep y.ok c1, cell_keep y.ok c2⟩
 haveI nn1 : Nonempty (KW (fun W' => Below W.heap.size W W')) := ⟨⟨W, Below.refl _ _⟩⟩
 refine wp_region_tree (fun w' => ∃ y : KW (fun W' => Below W.heap.size W W'), w' = y.w) 27 (.take 0 (.take 1 (.take 2 (.take 3 (.take 4 (.take 5 (.take 6 (.take 7 (.take 8 (.take 9 (.take 10 (.take 11 (.take 12 (.take 13 (.take 14 (.take 15 (.take 16 (.take 17 (.take 18 (.take 19 (.take 20 (.take 21 (.take 22 (.take 23 (.take 24 (.take 25 (.take 26 .done))))))))))))))))))))))))))) hmix (by kernel_rfl) (KW.mk' (Below.refl _ _).drew) ?_
 have HC0 := Lib.hid (show Below W.heap.size W W.drew from (Below.refl _ _).drew)
 generalize W.drew = wv at *
 repeat (refine wpTree_take ?_; simp only [nthOp]; (first | go_big_quiet_step (fail) | quiet_step (fail)); refine wpQuiet_nil ?_)
 have HZV := Lib.hid (HZB.out.keep HC0.out)
 have HZP := Lib.hid (ZBx.put HZV.out N)
 have HBX := Lib.hid (show Below w.heap.size w (((wv.setCell ⟨gp + 2, 0, none⟩ (.int .i64 N.x)).setCell ⟨gp + 2, 1, none⟩ (.int .i64 N.y)).setCell ⟨gp + 2, 2, none⟩ (.int .i64 N.z)) from (((HB0.out.trans (HC0.out.mono HB0.out.size)).setCell (by have := HGP.out; simp only; omega) _).setCell (by have := HGP.out; simp only; omega) _).setCell (by have := HGP.out; simp only; omega) _)
 obtain ⟨⟨z0, y0⟩, ⟨z1, y1⟩, z2, y2⟩ := HZV.out
 clear kx0 kx1 kx2 nn1 a0 a1 a2 b0 b1 b2 c0 c1 c2 e0 e1 e2
 refine wpTree_done ?_
 simp only [List.drop_succ_cons, List.drop_zero]
 go_wp2_with fail
 refine NP_mk ?_
 go_wp2_with fail
 generalize (((wv.setCell ⟨gp + 2, 0, none⟩ (.int .i64 N.x)).setCell ⟨gp + 2, 1, none⟩ (.int .i64 N.y)).setCell ⟨gp + 2, 2, none⟩ (.int .i64 N.z)) = WZ at *
 obtain ⟨k0, k1, k2⟩ := HZP.out
 exact bodyPost_ret (v := .agg #[.int .i64 N.x, .int .i64 N.y, .int .i64 N.z]) (by simp [results, Tryz.results135, go_sem, k0, k1, k2]) rfl ⟨rfl, HBX.out⟩
end Go.Proofs.YtbhgkadklklmbaaGreat
/- Whether a turn is a mirror image; the program's turns, one by one. -/
set_option linter.unusedVariables false
set_option linter.unusedSimpArgs false
namespace Go.Proofs.YtbhgkadklklmbaaGreat
open Go Go.RowKit Go.Sort Go.Lib Go.Shelf
attribute [local go_sem] Oper.semAt_some

theorem arr_eq (T : TypeId) (hu : Tryz.prog.underlying T = some (.array 3 3)) (q r : Vec) (w : World) : (Op.equalIn 10000 T (.agg #[.int .i64 q.x, .int .i64 q.y, .int .i64 q.z]) (.agg #[.int .i64 r.x, .int .i64 r.y, .int .i64 r.z])).run Tryz.prog w = .ok (decide (q = r)) w := by
 obtain ⟨i1, hi1, -⟩ := info_parts int_info
 rw [Vec_dec, run_equalIn_array w 9999 _ _ hu hi1, show Tryz.prog.cellsOf 3 = 1 by kernel_rfl, show List.range 3 = [0, 1, 2] from rfl]
 simp [Op.eqItems, go_sem]
 by_cases h1 : q.x = r.x <;> by_cases h2 : q.y = r.y <;> by_cases h3 : q.z = r.z <;> simp [h1, h2, h3, go_sem]
theorem Vec_neq (q r : Vec) (w : World) : (binOp .neq 127 (.agg #[.int .i64 q.x, .int .i64 q.y, .int .i64 q.z]) (.agg #[.int .i64 r.x, .int .i64 r.y, .int .i64 r.z])).run Tryz.prog w = .ok (.bool (!decide (q = r))) w := by
 simp only [go_sem]
 rw [arr_eq _ Tryz.underlying127]
 rfl
theorem Arr_neq (q r : Vec) (w : World) : (binOp .neq 105 (.agg #[.int .i64 q.x, .int .i64 q.y, .int .i64 q.z]) (.agg #[.int .i64 r.x, .int .i64 r.y, .int .i64 r.z])).run Tryz.prog w = .ok (.bool (!decide (q = r))) w := by
 simp only [go_sem]
 rw [arr_eq _ Tryz.underlying105]
 rfl
set_option maxRecDepth 100000 in
set_option maxHeartbeats 2000000 in
theorem mirrors_any (t : Trn) (ht : t.wf) (w : World) : Calls Tryz.prog 172 #[.agg #[.int .i64 t.p0, .int .i64 t.p1, .int .i64 t.p2, .int .i64 t.s0, .int .i64 t.s1, .int .i64 t.s2]] w fun e w' => e = .returned (.bool (mirB t)) ∧ Below w.heap.size w w' := by
 have HOF := Lib.hid (fun (x y z : Int) (h : Vec.in_ 1 ⟨x, y, z⟩) W => of_any t ⟨x, y, z⟩ ht (h.mono (by decide)) W)
 have HI := Lib.hid (fun v (h : Vec.in_ 1 v) => ofT_in ht h)
 have HCR := Lib.hid (fun W => cross_any (ofT t ⟨1, 0, 0⟩) (ofT t ⟨0, 1, 0⟩) ((HI.out _ (by unfold Vec.in_; decide)).mono (by decide)) ((HI.out _ (by unfold Vec.in_; decide)).mono (by decide)) W)
 have HNE := Vec_neq (crs (ofT t ⟨1, 0, 0⟩) (ofT t ⟨0, 1, 0⟩)) (ofT t ⟨0, 0, 1⟩)
 have HMB := Lib.hid (show mirB t = !decide (crs (ofT t ⟨1, 0, 0⟩) (ofT t ⟨0, 1, 0⟩) = ofT t ⟨0, 0, 1⟩) by unfold mirB; simp)
 have HX := Lib.hid (fun W => HOF.out 1 0 0 (by unfold Vec.in_; decide) W)
 have HY := Lib.hid (fun W => HOF.out 0 1 0 (by unfold Vec.in_; decide) W)
 have HZ := Lib.hid (fun W => HOF.out 0 0 1 (by unfold Vec.in_; decide) W)
 clear HOF HI
 generalize ofT t ⟨1, 0, 0⟩ = X at *
 generalize ofT t ⟨0, 1, 0⟩ = Y at *
 generalize ofT t ⟨0, 0, 1⟩ = Z at *
 generalize crs X Y = C at *
 generalize mirB t = M at *
 generalize decide (C = Z) = D at *
 obtain ⟨p0, p1, p2, s0, s1, s2⟩ := t
 simp only at HX HY HZ
 clear ht
 go_enter Tryz.func172, Tryz.ntmps172
 go_upto_region 1 with fail
 refine gen_world (fun W => TrBx W w.heap.size ⟨p0, p1, p2, s0, s1, s2⟩ ∧ Below w.heap.size w W ∧ w.heap.size < W.heap.size) ⟨⟨⟨?_, ?_, ?_⟩, ⟨?_, ?_, ?_⟩⟩, ?_, ?_⟩ ?_
 any_goals (simp [go_sem]; done)
 ·repeat (first | (with_reducible assumption) | exact Below.refl _ _ | (refine Below.setCell ?_ (by first | omega | (simp; omega) | (simp; done)) _) | (refine Below.alloc ?_ (by first | omega | (simp; omega) | (simp; done)) _) | (refine Below.drew ?_))
 rintro W ⟨⟨⟨a0, a1, a2⟩, b0, b1, b2⟩, hb, hz⟩
 have HB0 := Lib.hid hb
 obtain ⟨gp, hgp⟩ : ∃ g, g = w.heap.size := ⟨_, rfl⟩
 rw [← hgp] at a0 a1 a2 b0 b1 b2 hz ⊢
 clear hgp hb
 simp only at a0 a1 a2 b0 b1 b2
 refine wp_region_grew (by kernel_rfl) (by kernel_rfl) ?_
 (first | go_big_quiet_step (fail) | quiet_step (fail))
 (first | go_big_quiet_step (fail) | quiet_step (fail))
 (first | go_big_quiet_step ((go_at_call 128; exact grew_of (HX.out _))) | quiet_step ((go_at_call 128; exact grew_of (HX.out _))))
 (first | go_big_quiet_step (fail) | quiet_step (fail))
 (first | go_big_quiet_step (fail) | quiet_step (fail))
 (first | go_big_quiet_step ((go_at_call 128; exact grew_of (HY.out _))) | quiet_step ((go_at_call 128; exact grew_of (HY.out _))))
 (first | go_big_quiet_step ((go_at_call 174; exact grew_of (HCR.out _))) | quiet_step ((go_at_call 174; exact grew_of (HCR.out _))))
 (first | go_big_quiet_step (fail) | quiet_step (fail))
 (first | go_big_quiet_step (fail) | quiet_step (fail))
 (first | go_big_quiet_step ((go_at_call 128; exact grew_of (HZ.out _))) | quiet_step ((go_at_call 128; exact grew_of (HZ.out _))))
 repeat (first | go_big_quiet_step (fail) | quiet_step (fail))
 refine wpQuiet_nil ?_
 rintro _ ⟨gg, rfl⟩
 have HB2 := Lib.hid (grewB (Below.refl W.heap.size W) (Nat.le_refl _) gg)
 go_wp2_with fail
 go_ret
 exact ⟨ret_bool HMB.out.symm, HB0.out.trans (HB2.out.mono HB0.out.size)⟩
end Go.Proofs.YtbhgkadklklmbaaGreat
/- The program's turns, one by one: the iterator. -/
set_option linter.unusedVariables false
set_option linter.unusedSimpArgs false
namespace Go.Proofs.YtbhgkadklklmbaaGreat
open Go Go.RowKit Go.Shelf Go.Lib
attribute [local go_sem] Oper.semAt_some

abbrev TrnW := { t : Trn // t.wf }
def encTrn (x : TrnW) : Array Value := #[.agg #[.int .i64 x.1.p0, .int .i64 x.1.p1, .int .i64 x.1.p2, .int .i64 x.1.s0, .int .i64 x.1.s1, .int .i64 x.1.s2]]
/-- The turns before a place. -/
def trnTo (p s : Nat) : List Trn := (List.range p).flatMap trnP ++ (List.range s).map (mkT p)
theorem trnTo_succ (p s : Nat) : trnTo p (s + 1) = trnTo p s ++ [mkT p s] := by unfold trnTo; rw [List.range_succ, List.map_append, List.append_assoc]; rfl
theorem trnTo_next {p : Nat} (h : (frm p).1 ≠ (frm p).2.1) : trnTo (p + 1) 0 = trnTo p 8 := by
 unfold trnTo
 rw [List.range_succ, List.flatMap_append, List.flatMap_cons, List.flatMap_nil, List.range_zero, List.map_nil, List.append_nil, List.append_nil]
 rw [show trnP p = (List.range 8).map (mkT p) by unfold trnP; rw [if_neg h]]
theorem trnTo_skip {p : Nat} (h : (frm p).1 = (frm p).2.1) : trnTo (p + 1) 0 = trnTo p 0 := by
 unfold trnTo
 rw [List.range_succ, List.flatMap_append, List.flatMap_cons, List.flatMap_nil, show trnP p = [] by unfold trnP; rw [if_pos h]]
 simp
theorem trnTo_len {p s : Nat} (hp : p < 9) (hs : s < 8) (h : (frm p).1 ≠ (frm p).2.1) : (trnTo p s).length < 48 := by
 have h9 : p = 0 ∨ p = 1 ∨ p = 2 ∨ p = 3 ∨ p = 4 ∨ p = 5 ∨ p = 6 ∨ p = 7 ∨ p = 8 := by omega
 unfold trnTo
 rw [List.length_append, List.length_map, List.length_range]
 rcases h9 with rfl | rfl | rfl | rfl | rfl | rfl | rfl | rfl | rfl
 ·exact absurd rfl h
 ·rw [show ((List.range 1).flatMap trnP).length = 0 from rfl]; omega
 ·rw [show ((List.range 2).flatMap trnP).length = 8 from rfl]; omega
 ·rw [show ((List.range 3).flatMap trnP).length = 16 from rfl]; omega
 ·exact absurd rfl h
 ·rw [show ((List.range 5).flatMap trnP).length = 24 from rfl]; omega
 ·rw [show ((List.range 6).flatMap trnP).length = 32 from rfl]; omega
 ·rw [show ((List.range 7).flatMap trnP).length = 40 from rfl]; omega
 ·exact absurd rfl h
theorem mkT_wf {p s : Nat} (hp : p < 9) (hs : s < 8) (h : (frm p).1 ≠ (frm p).2.1) : (mkT p s).wf := by
 refine trnA_wf _ ?_
 unfold trnA
 rw [List.mem_flatMap]
 refine ⟨p, List.mem_range.2 hp, ?_⟩
 unfold trnP
 rw [if_neg h]
 exact List.mem_map.2 ⟨s, List.mem_range.2 hs, rfl⟩
set_option maxRecDepth 100000 in
set_option maxHeartbeats 4000000 in
theorem turns_gives (gs : List Nat) (n : Nat) (hn : 1 ≤ n) (w : World) (hv : ∀ g ∈ gs, Valid g w) :
    GivesB Fence.wide n Tryz.prog 171 #[] encTrn (KeepsL gs) (fun xs => xs.map (·.1) = trnA) (fun _ => True) 48 w := fun l J Jx W hW hJ hJx hY h0 => by
 have HJ := Lib.hid hJ
 have HY := Lib.hid hY
 have H0 := Lib.hid h0
 have HVW := Lib.hid (((KeepsL.of_below hW) hv).valid)
 clear hJ hY hW hJx h0 hv
 refine callsIn_of_wp Tryz.func171 rfl trivial ?_ rfl
 simp only [Tryz.ntmps171, List.size_toArray, List.length_cons, List.length_nil, Nat.reduceAdd, Nat.reduceSub, Array.replicate_succ, Array.replicate_zero, List.push_toArray, List.append_toArray, List.nil_append, List.cons_append]
 gi_wp2
 gi_loopw [6] (fun iv wr => ∃ (p : Nat) (pre : List TrnW), p ≤ 9 ∧ iv = .int .i64 p ∧ Hid (pre.map (·.1) = trnTo p 0) ∧ Hid (J pre wr) ∧ Hid (KeepsM gs W wr)) (fun iv _ => 9 - (intOf iv).toNat)
 case atStart => exact ⟨0, [], Nat.zero_le _, rfl, Lib.hid rfl, H0, Lib.hid (KeepsL.refl HVW.out)⟩
 case round =>
  obtain ⟨p, pre, hp, rfl, HPR, HJW, HKC⟩ := hrel
  by_cases hlt : p < 9
  ·have hpi : (p : Int) < 9 := by omega
   have v1 : IntKind.i64.wrap ((p : Int) + 1) = (p : Int) + 1 := IntWalk.i64_in _ (by omega)
   obtain ⟨f0, hf0⟩ : ∃ f : Nat, f = (frm p).1 := ⟨_, rfl⟩
   obtain ⟨f1, hf1⟩ : ∃ f : Nat, f = (frm p).2.1 := ⟨_, rfl⟩
   have q0 : f0 = p / 3 := hf0
   have q1 : f1 = p % 3 := hf1
   have e1 : (p : Int) / 3 = (f0 : Int) := by omega
   have e2 : (p : Int) % 3 = (f1 : Int) := by omega
   have e3 : IntKind.i64.wrap (3 - (f0 : Int)) = 3 - (f0 : Int) := IntWalk.i64_in _ (by omega)
   have e4 : IntKind.i64.wrap (3 - (f0 : Int) - (f1 : Int)) = 3 - (f0 : Int) - (f1 : Int) := IntWalk.i64_in _ (by omega)
   by_cases hf : f0 = f1
   ·have hfi : ((f0 : Int) == (f1 : Int)) = true := by subst hf; simp
    have HSK := Lib.hid (trnTo_skip (p := p) (by rw [← hf0, ← hf1]; exact hf))
    clear hf hf0 hf1 q0 q1
    gi_wp2
    refine ⟨⟨p + 1, pre, by omega, by go_num, Lib.hid (by rw [HSK.out]; exact HPR.out), Lib.hid (HJ.out pre wr _ none HJW.out (grownBy_below ((Below.refl wr.heap.size wr).alloc (Nat.le_refl _) _) none) (fun r e => by cases e)), Lib.hid (HKC.out.trans (KeepsL.of_below ((Below.refl wr.heap.size wr).alloc (Nat.le_refl _) _)))⟩, ?_⟩
    first | (simp [intOf]; done) | (simp [intOf]; omega)
   ·have hfi : ((f0 : Int) == (f1 : Int)) = false := by simp; omega
    have hne : (frm p).1 ≠ (frm p).2.1 := by rw [← hf0, ← hf1]; exact hf
    have HNX := Lib.hid (trnTo_next hne)
    obtain ⟨f2, hf2⟩ : ∃ f : Nat, f = (frm p).2.2 := ⟨_, rfl⟩
    have q2 : f2 = 3 - p / 3 - p % 3 := hf2
    have e5 : (3 - (f0 : Int) - (f1 : Int)) = (f2 : Int) := by omega
    rw [e5] at e4
    have HFR := Lib.hid (And.intro hf0 (And.intro hf1 hf2))
    have HLEN := Lib.hid (fun (s : Nat) (hs : s < 8) => trnTo_len hlt hs hne)
    have HWF := Lib.hid (fun (s : Nat) (hs : s < 8) => mkT_wf hlt hs hne)
    clear hf0 hf1 hf2 q0 q1 q2 hf hne
    gi_wp2
    obtain ⟨W3, hW3⟩ : ∃ W3, wr.alloc (.cells #[.int .i64 (f0 : Int), .int .i64 (f1 : Int), .int .i64 (f2 : Int)] 127) = W3 := ⟨_, rfl⟩
    obtain ⟨gF, hgF⟩ : ∃ g, g = wr.heap.size := ⟨_, rfl⟩
    rw [hW3, ← hgF]
    have hb3 : Below wr.heap.size wr W3 := by rw [← hW3]; exact (Below.refl _ _).alloc (Nat.le_refl _) _
    have HX := Lib.hid (show W3.cell? ⟨gF, 0, none⟩ = some (.int .i64 (f0 : Int)) ∧ W3.cell? ⟨gF, 1, none⟩ = some (.int .i64 (f1 : Int)) ∧ W3.cell? ⟨gF, 2, none⟩ = some (.int .i64 (f2 : Int)) by rw [← hW3, hgF]; exact ⟨by simp [go_sem], by simp [go_sem], by simp [go_sem]⟩)
    have HK3 := Lib.hid (HKC.out.trans (KeepsL.of_below hb3))
    have HNB := Lib.hid (show ¬ Bad gs W3 gF from fun e => by
     rcases e with h1 | ⟨g, h1, h2⟩
     ·have := (HKC.out.valid gF h1).1; omega
     ·have h3 := HKC.out.valid g h1
      rw [ownAt_below h3.1 hb3] at h2
      have := h3.2 _ h2
      omega)
    have HJ3 := Lib.hid (HJ.out pre wr W3 none HJW.out (grownBy_below hb3 none) (fun r e => by cases e))
    clear hW3 hgF hb3 HJW HKC
    simp only [e2]
    gi_loopw [25] (fun iv wr => ∃ (s : Nat) (pre : List TrnW), s ≤ 8 ∧ iv = .int .i64 s ∧ Hid (pre.map (·.1) = trnTo p s) ∧ Hid (J pre wr) ∧ Hid (KeepsM gs W3 wr)) (fun iv _ => 8 - (intOf iv).toNat)
    case atStart => exact ⟨0, pre, Nat.zero_le _, rfl, HPR, HJ3, Lib.hid (KeepsL.refl HK3.out.valid)⟩
    case round =>
     obtain ⟨s, pre, hs, rfl, HPR, HJW, HKC⟩ := hrel
     by_cases hls : s < 8
     ·have hsi : (s : Int) < 8 := by omega
      have v2 : IntKind.i64.wrap ((s : Int) + 1) = (s : Int) + 1 := IntWalk.i64_in _ (by omega)
      obtain ⟨a, ha⟩ : ∃ a : Nat, a = s / 4 := ⟨_, rfl⟩
      obtain ⟨b, hb⟩ : ∃ b : Nat, b = s / 2 := ⟨_, rfl⟩
      obtain ⟨c, hc⟩ : ∃ c : Nat, c = b % 2 := ⟨_, rfl⟩
      obtain ⟨d, hd⟩ : ∃ d : Nat, d = s % 2 := ⟨_, rfl⟩
      have r1 : (s : Int) / 4 = (a : Int) := by omega
      have r2 : (s : Int) / 2 = (b : Int) := by omega
      have r3 : (b : Int) % 2 = (c : Int) := by omega
      have r4 : (s : Int) % 2 = (d : Int) := by omega
      obtain ⟨s0, hs0⟩ : ∃ x : Int, x = 1 - (a : Int) * 2 := ⟨_, rfl⟩
      obtain ⟨s1, hs1⟩ : ∃ x : Int, x = 1 - (c : Int) * 2 := ⟨_, rfl⟩
      obtain ⟨s2, hs2⟩ : ∃ x : Int, x = 1 - (d : Int) * 2 := ⟨_, rfl⟩
      have m1 : IntKind.i64.wrap ((a : Int) * 2) = (a : Int) * 2 := IntWalk.i64_in _ (by omega)
      have m2 : IntKind.i64.wrap ((c : Int) * 2) = (c : Int) * 2 := IntWalk.i64_in _ (by omega)
      have m3 : IntKind.i64.wrap ((d : Int) * 2) = (d : Int) * 2 := IntWalk.i64_in _ (by omega)
      have n1 : IntKind.i64.wrap (1 - (a : Int) * 2) = s0 := by rw [hs0]; exact IntWalk.i64_in _ (by omega)
      have n2 : IntKind.i64.wrap (1 - (c : Int) * 2) = s1 := by rw [hs1]; exact IntWalk.i64_in _ (by omega)
      have n3 : IntKind.i64.wrap (1 - (d : Int) * 2) = s2 := by rw [hs2]; exact IntWalk.i64_in _ (by omega)
      have HT := Lib.hid (show mkT p s = ⟨f0, f1, f2, s0, s1, s2⟩ by
       unfold mkT sgns
       rw [← HFR.out.1, ← HFR.out.2.1, ← HFR.out.2.2, hs0, hs1, hs2, r1, r2, r3, r4])
      have HSU := Lib.hid (show trnTo p (s + 1) = trnTo p s ++ [⟨f0, f1, f2, s0, s1, s2⟩] by rw [trnTo_succ, HT.out])
      have HW2 := Lib.hid (show (⟨f0, f1, f2, s0, s1, s2⟩ : Trn).wf by rw [← HT.out]; exact HWF.out s hls)
      have x0 := HKC.out.cell HX.out.1 HNB.out
      have x1 := HKC.out.cell HX.out.2.1 HNB.out
      have x2 := HKC.out.cell HX.out.2.2 HNB.out
      clear ha hb hc hd hs0 hs1 hs2
      have HBA := Lib.hid ((Below.refl wr.heap.size wr).alloc (Nat.le_refl _) (.cells #[.int .i64 s0, .int .i64 s1, .int .i64 s2] 127))
      have y0 := cell_keep HBA.out x0
      have y1 := cell_keep HBA.out x1
      have y2 := cell_keep HBA.out x2
      obtain ⟨fn, tmps, assign, body, hy, hR⟩ := HY.out pre ⟨⟨f0, f1, f2, s0, s1, s2⟩, HW2.out⟩ (wr.alloc (.cells #[.int .i64 s0, .int .i64 s1, .int .i64 s2] 127)) (HJ.out pre wr _ none HJW.out (grownBy_below HBA.out none) (fun r e => by cases e)) (by
       have h1 := congrArg List.length HPR.out
       rw [List.length_map] at h1
       rw [h1]
       exact HLEN.out s hls)
      simp only [encTrn] at hy
      have HR := Lib.hid hR
      clear hR x0 x1 x2
      gi_wp2
      refine HR.out.mono ?_
      have HX2 := Lib.hid (show (pre ++ [(⟨⟨f0, f1, f2, s0, s1, s2⟩, HW2.out⟩ : TrnW)]).map (·.1) = trnTo p (s + 1) by rw [HSU.out, List.map_append, HPR.out]; rfl)
      clear hy y0 y1 y2
      rintro e W6 (⟨rfl, hJ6, hk6⟩ | ⟨rfl, hJ6⟩)
      ·have HJ6 := Lib.hid hJ6
       have HK6 := Lib.hid ((HKC.out.trans (KeepsL.of_below HBA.out)).trans hk6)
       clear hJ6 hk6
       gi_wp2
       go_roundw
       case rel => exact ⟨s + 1, _, by omega, by go_num, HX2, HJ6, HK6⟩
       case measure => first | (simp [intOf]; done) | (simp [intOf]; omega)
      ·have HJ6 := Lib.hid hJ6
       clear hJ6
       gi_wp2
       refine bodyPost_ret (results_none rfl _ _ _) rfl ?_
       exact ⟨⟨_, rfl⟩, .inr ⟨_, trivial, HJ6.out⟩⟩
     ·obtain rfl : s = 8 := by omega
      have hsi : ¬ ((8 : Nat) : Int) < 8 := by omega
      gi_wp2
      go_roundw
      case rel => exact ⟨p + 1, pre, by omega, by go_num, Lib.hid (by rw [HNX.out]; exact HPR.out), HJW, Lib.hid (HK3.out.trans fun _ => HKC.out)⟩
      case measure => first | (simp [intOf]; done) | (simp [intOf]; omega)
  ·obtain rfl : p = 9 := by omega
   have hpi : ¬ ((9 : Nat) : Int) < 9 := by omega
   gi_wp2
   go_end0
   exact ⟨⟨_, rfl⟩, .inl ⟨pre, HPR.out, HJW.out⟩⟩
end Go.Proofs.YtbhgkadklklmbaaGreat
