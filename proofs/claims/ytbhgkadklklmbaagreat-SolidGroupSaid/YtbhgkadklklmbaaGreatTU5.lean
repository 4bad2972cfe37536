/- Which vectors and turns the program takes; the turned vector. -/
import Derived.Test.YtbhgkadklklmbaaGreatTU4
import Derived.Test.YtbhgkadklklmbaaGreatQM
import Derived.Test.YtbhgkadklklmbaaGreatQG
import Derived.Test.YtbhgkadklklmbaaGreatQE
import Derived.Test.YtbhgkadklklmbaaGreatQF
import Derived.Test.YtbhgkadklklmbaaGreatQA
import Derived.Test.YtbhgkadklklmbaaGreatQD
import Derived.OpenShut
set_option linter.unusedVariables false
set_option linter.unusedSimpArgs false
namespace Go.Proofs.YtbhgkadklklmbaaGreat
open Go Go.RowKit Go.Sort Go.Lib

def outR (z : Int) : Bool := decide (z < -600000) || decide (600000 < z)
theorem outR_eq (z : Int) : outR z = outB z := by
 unfold outR outB withinB
 by_cases h1 : -600000 ≤ z <;> by_cases h2 : z ≤ 600000 <;> simp [h1, h2] <;> omega
set_option maxRecDepth 100000 in
set_option maxHeartbeats 1000000 in
theorem reach1_any (z : Int) (w : World) : Calls Tryz.prog 173 #[.int .i64 z] w fun e w' => e = .returned (.bool (outR z)) ∧ Below w.heap.size w w' := by
 obtain ⟨S, hS⟩ : ∃ S, S = outR z := ⟨_, rfl⟩
 rw [← hS]
 have HS := Lib.hid hS
 clear hS
 go_enter Tryz.func173, Tryz.ntmps173
 go_wp2
 all_goals go_ret
 ·exact ⟨by rw [HS.out]; rfl, Below.refl _ _⟩
 ·rename_i h
  have h2 : S = true := by rw [HS.out]; unfold outR; rw [decide_eq_true h]; rfl
  exact ⟨by rw [h2]; rfl, Below.refl _ _⟩
set_option maxHeartbeats 1000000 in
theorem idx_reach1 (a : Option Addr) (l : List Int) (c : Nat) (w : World) (hv : IntsV w a l) (hl : l.length ≤ 1000000) :
    Calls Tryz.prog 189 #[.slice a l.length c, .func (.func 173) #[] #[]] w fun e w' => e = .returned (.int .i64 (idxOf outR l)) ∧ Below w.heap.size w w' := by
 go_enter Tryz.func189, Tryz.ntmps189
 go_wp2
 go_loopw [8] (fun i wr => ∃ k : Nat, k ≤ l.length ∧ i = .int .i64 k ∧ Hid (∀ j (hj : j < l.length), j < k → outR l[j] = false) ∧ Below w.heap.size w wr) (fun i _ => l.length - (intOf i).toNat)
 case atStart => exact ⟨0, Nat.zero_le _, rfl, Lib.hid (fun j _ h => by omega), Below.refl _ _⟩
 case round =>
  obtain ⟨k, hk, rfl, HK, hbw⟩ := hrel
  have hsz := hbw.size
  by_cases hlt : k < l.length
  ·obtain ⟨b, off, rfl, hat⟩ := (hv.keep hbw) (fun e => by rw [e] at hlt; simp at hlt)
   have c0 := hat k l[k] (List.getElem?_eq_getElem hlt)
   clear hat
   have HH := Lib.hid (fun h => idxOf_hit (p := outR) hlt HK.out h)
   have HN := Lib.hid (fun h => none_step (p := outR) HK.out hlt h)
   have HF := Lib.hid (reach1_any l[k] wr)
   generalize l[k] = d at *
   cases hq : outR d
   ·rw [hq] at HF
    go_wp2_with (go_at_call 173; refine HF.out.mono ?_; rintro e w1 ⟨rfl, hb⟩)
    go_round
    case rel => exact ⟨k + 1, by omega, by go_num, Lib.hid (HN.out hq), hbw.trans (hb.mono hsz)⟩
    case measure => simp [intOf]; omega
   ·rw [hq] at HF
    go_wp2_with (go_at_call 173; refine HF.out.mono ?_; rintro e w1 ⟨rfl, hb⟩)
    go_ret
    exact ⟨ret_int (HH.out hq).symm, hbw.trans (hb.mono hsz)⟩
  ·have hm := Lib.hid (idxOf_miss (p := outR) (l := l) (fun j hj => HK.out j hj (by omega)))
   clear HK
   go_wp2
   go_ret
   exact ⟨ret_int hm.out.symm, hbw⟩
theorem has_reach1 (a : Option Addr) (l : List Int) (c : Nat) (w : World) (hv : IntsV w a l) (hl : l.length ≤ 1000000) :
    Calls Tryz.prog 166 #[.slice a l.length c, .func (.func 173) #[] #[]] w fun e w' => e = .returned (.bool (l.any outR)) ∧ Below w.heap.size w w' := by
 have hi := Lib.hid (idxOf_bool outR l)
 go_enter Tryz.func166, Tryz.ntmps166
 go_wp2_with (go_at_call 189; refine (idx_reach1 a l c _ hv hl).mono ?_; rintro e w1 ⟨rfl, hb⟩)
 go_ret
 exact ⟨ret_bool (by rw [← hi.out]), hb⟩
theorem farB_reach (v : Vec) : [v.x, v.y, v.z].any outR = farB v := by unfold farB; simp [outR_eq]
theorem vec_ints {W : World} {g : Nat} {v : Vec} (h0 : W.cell? ⟨g, 0, none⟩ = some (.int .i64 v.x)) (h1 : W.cell? ⟨g, 1, none⟩ = some (.int .i64 v.y)) (h2 : W.cell? ⟨g, 2, none⟩ = some (.int .i64 v.z)) : IntsV W (some ⟨g, 0, none⟩) [v.x, v.y, v.z] := fun _ => ⟨_, 0, rfl, fun k u hk => by
 match k, hk with
 | 0, hk => simp at hk; subst hk; exact h0
 | 1, hk => simp at hk; subst hk; exact h1
 | 2, hk => simp at hk; subst hk; exact h2
 | k + 3, hk => simp at hk⟩
set_option maxRecDepth 100000 in
set_option maxHeartbeats 1000000 in
theorem reach_any (v : Vec) (w : World) : Calls Tryz.prog 131 #[.agg #[.int .i64 v.x, .int .i64 v.y, .int .i64 v.z]] w fun e w' => e = .returned (.bool (!farB v)) ∧ Below w.heap.size w w' := by
 have HH := Lib.hid (fun W g h0 h1 h2 => has_reach1 (some ⟨g, 0, none⟩) [v.x, v.y, v.z] 3 W (vec_ints h0 h1 h2) (by simp))
 rw [farB_reach] at HH
 generalize farB v = B at *
 go_enter Tryz.func131, Tryz.ntmps131
 go_upto_region 1 with fail
 refine gen_world (fun W => (W.cell? ⟨w.heap.size, 0, none⟩ = some (.int .i64 v.x) ∧ W.cell? ⟨w.heap.size, 1, none⟩ = some (.int .i64 v.y) ∧ W.cell? ⟨w.heap.size, 2, none⟩ = some (.int .i64 v.z)) ∧ Below w.heap.size w W) ⟨⟨by simp [go_sem], by simp [go_sem], by simp [go_sem]⟩, by repeat (first | (with_reducible assumption) | exact Below.refl _ _ | (refine Below.setCell ?_ (by first | omega | (simp; omega) | (simp; done)) _) | (refine Below.alloc ?_ (by first | omega | (simp; omega) | (simp; done)) _) | (refine Below.drew ?_))⟩ ?_
 rintro W ⟨⟨c0, c1, c2⟩, hb⟩
 have HF := Lib.hid (HH.out W w.heap.size c0 c1 c2)
 have HB := Lib.hid hb
 obtain ⟨gp, hgp⟩ : ∃ g, g = w.heap.size := ⟨_, rfl⟩
 rw [← hgp] at HF c0 c1 c2 ⊢
 clear hgp hb HH
 go_wp2_with (go_at_call 166; refine HF.out.mono ?_; rintro e w1 ⟨rfl, hb⟩; have HB1 := Lib.hid hb; clear hb)
 go_ret
 exact ⟨rfl, HB.out.trans (HB1.out.mono HB.out.size)⟩
set_option maxRecDepth 100000 in
theorem isTurn_any (n : Int) (w : World) : Calls Tryz.prog 125 #[.int .i64 n] w fun e w' => e = .returned (.bool (withinB n 0 47)) ∧ Below w.heap.size w w' := by
 obtain ⟨S, hS⟩ : ∃ S, S = withinB n 0 47 := ⟨_, rfl⟩
 rw [← hS]
 have HS := Lib.hid hS
 clear hS
 by_cases h0 : 0 ≤ n
 ·by_cases h1 : n < 48
  ·have HE := Lib.hid (show S = true by rw [HS.out]; unfold withinB; simp; omega)
   go_enter Tryz.func125, Tryz.ntmps125
   go_wp2
   go_ret
   exact ⟨ret_bool HE.out.symm, Below.refl _ _⟩
  ·have HE := Lib.hid (show S = false by rw [HS.out]; unfold withinB; simp; omega)
   go_enter Tryz.func125, Tryz.ntmps125
   go_wp2
   go_ret
   exact ⟨ret_bool HE.out.symm, Below.refl _ _⟩
 ·have HE := Lib.hid (show S = false by rw [HS.out]; unfold withinB; simp; omega)
  go_enter Tryz.func125, Tryz.ntmps125
  go_wp2
  go_ret
  exact ⟨ret_bool HE.out.symm, Below.refl _ _⟩
end Go.Proofs.YtbhgkadklklmbaaGreat
/- The turned vector, program and document. -/
set_option linter.unusedVariables false
set_option linter.unusedSimpArgs false
namespace Go.Proofs.YtbhgkadklklmbaaGreat
open Go Go.RowKit Go.Sort Go.Lib

def tuE (v : Vec) (n : Int) : Int := if withinB n 0 47 && !farB v then 0 else 2
def tuV (v : Vec) (n : Int) : Vec := if tuE v n = 0 then ofT (trnN n) v else v0
theorem trsV_at {w : World} {a : Option Addr} {n : Int} (h : TrsV w a trnL) (hn : 0 ≤ n ∧ n ≤ 47) : ∃ b off, a = some ⟨b, off, none⟩ ∧
    (w.cell? ⟨b, off + n.toNat * 6, none⟩ = some (.int .i64 ((trnN n).p0 : Int)) ∧ w.cell? ⟨b, off + n.toNat * 6 + 1, none⟩ = some (.int .i64 ((trnN n).p1 : Int)) ∧ w.cell? ⟨b, off + n.toNat * 6 + 2, none⟩ = some (.int .i64 ((trnN n).p2 : Int))) ∧
    (w.cell? ⟨b, off + n.toNat * 6 + 3, none⟩ = some (.int .i64 (trnN n).s0) ∧ w.cell? ⟨b, off + n.toNat * 6 + 4, none⟩ = some (.int .i64 (trnN n).s1) ∧ w.cell? ⟨b, off + n.toNat * 6 + 5, none⟩ = some (.int .i64 (trnN n).s2)) := by
 obtain ⟨b, off, ha, h⟩ := h
 have hl : n.toNat < trnL.length := by rw [trnL_len]; omega
 have e : trnN n = trnL[n.toNat] := by unfold trnN; simp [List.getD, hl]
 rw [e]
 exact ⟨b, off, ha, h _ hl⟩
set_option maxRecDepth 100000 in
set_option maxHeartbeats 4000000 in
theorem turned_any (v : Vec) (n : Int) (w : World) : Calls Tryz.prog 69 #[.agg #[.int .i64 v.x, .int .i64 v.y, .int .i64 v.z], .int .i64 n] w fun e w' => e = .returned (.tuple #[.agg #[.int .i64 (tuV v n).x, .int .i64 (tuV v n).y, .int .i64 (tuV v n).z], .int .i64 (tuE v n)]) ∧ Below w.heap.size w w' := by
 have hmix : Tryz.prog.follows .mixedOrders = true := by kernel_rfl
 have HIT := Lib.hid (fun W => isTurn_any n W)
 have HRE := Lib.hid (fun W => reach_any v W)
 obtain ⟨E, hE⟩ : ∃ E, E = tuE v n := ⟨_, rfl⟩
 obtain ⟨V, hV⟩ : ∃ V, V = tuV v n := ⟨_, rfl⟩
 rw [← hE, ← hV]
 go_enter Tryz.func69, Tryz.ntmps69
 go_upto_region 1 with fail
 refine gen_world (fun W => VecV W w.heap.size v.at_ ∧ ZBx W (w.heap.size + 1) ∧ Below w.heap.size w W) ⟨vecV_at ⟨?_, ?_⟩ ⟨?_, ?_⟩ ⟨?_, ?_⟩, ⟨⟨?_, ?_⟩, ⟨?_, ?_⟩, ?_, ?_⟩, ?_⟩ ?_
 any_goals (simp [go_sem]; done)
 ·repeat (first | (with_reducible assumption) | exact Below.refl _ _ | (refine Below.setCell ?_ (by first | omega | (simp; omega) | (simp; done)) _) | (refine Below.alloc ?_ (by first | omega | (simp; omega) | (simp; done)) _) | (refine Below.drew ?_))
 rintro W ⟨hvb, hzb, hb⟩
 have HVB := Lib.hid hvb
 have HZB := Lib.hid hzb
 have HB0 := Lib.hid hb
 obtain ⟨gp, hgp⟩ : ∃ g, g = w.heap.size := ⟨_, rfl⟩
 have HGP := Lib.hid hgp
 rw [← hgp] at HVB HZB
 rw [show w.heap.size = gp from hgp.symm]
 try simp only [Nat.add_assoc, Nat.reduceAdd]
 clear hvb hzb hb hgp
 obtain ⟨c0, c1, c2⟩ : (W.cell? ⟨gp, 0, none⟩ = some (.int .i64 v.x) ∧ W.cell? ⟨gp, 1, none⟩ = some (.int .i64 v.y) ∧ W.cell? ⟨gp, 2, none⟩ = some (.int .i64 v.z)) := ⟨(HVB.out 0 (by decide)).1, (HVB.out 1 (by decide)).1, (HVB.out 2 (by decide)).1⟩
 cases hq : withinB n 0 47 with
 | false =>
  rw [hq] at HIT
  have HE := Lib.hid (show E = 2 by rw [hE]; unfold tuE; rw [hq]; rfl)
  have HV := Lib.hid (show V = v0 by rw [hV]; unfold tuV; rw [← hE, HE.out]; rfl)
  clear hE hV hq
  go_wp2_with (go_at_call 125; refine (HIT.out _).mono ?_; rintro e w1 ⟨rfl, hb⟩; have HBE := Lib.hid hb; obtain ⟨⟨z0, y0⟩, ⟨z1, y1⟩, z2, y2⟩ := HZB.out.keep hb; clear hb)
  have HZP := Lib.hid (show VcBx (((w1.setCell ⟨gp + 1, 0, none⟩ (.int .i64 0)).setCell ⟨gp + 1, 1, none⟩ (.int .i64 0)).setCell ⟨gp + 1, 2, none⟩ (.int .i64 0)) (gp + 1) v0 from ZBx.put ⟨⟨z0, y0⟩, ⟨z1, y1⟩, z2, y2⟩ v0)
  have HBX := Lib.hid (show Below w.heap.size w (((w1.setCell ⟨gp + 1, 0, none⟩ (.int .i64 0)).setCell ⟨gp + 1, 1, none⟩ (.int .i64 0)).setCell ⟨gp + 1, 2, none⟩ (.int .i64 0)) from (((HB0.out.trans (HBE.out.mono HB0.out.size)).setCell (by have := HGP.out; simp only; omega) _).setCell (by have := HGP.out; simp only; omega) _).setCell (by have := HGP.out; simp only; omega) _)
  generalize (((w1.setCell ⟨gp + 1, 0, none⟩ (.int .i64 0)).setCell ⟨gp + 1, 1, none⟩ (.int .i64 0)).setCell ⟨gp + 1, 2, none⟩ (.int .i64 0)) = WZ at *
  obtain ⟨k0, k1, k2⟩ := HZP.out
  simp only [v0] at k0 k1 k2
  exact bodyPost_ret (v := .tuple #[.agg #[.int .i64 0, .int .i64 0, .int .i64 0], .int .i64 2]) (by simp [results, Tryz.results69, go_sem, k0, k1, k2]) rfl ⟨by rw [HE.out, HV.out]; rfl, HBX.out⟩
 | true =>
  rw [hq] at HIT
  have hn := withinB_true hq
  cases hf : farB v with
  | true =>
   rw [hf] at HRE
   have HE := Lib.hid (show E = 2 by rw [hE]; unfold tuE; rw [hq, hf]; rfl)
   have HV := Lib.hid (show V = v0 by rw [hV]; unfold tuV; rw [← hE, HE.out]; rfl)
   clear hE hV hq hf
   go_wp2_with (first | (go_at_call 125; refine (HIT.out _).mono ?_; rintro e w1 ⟨rfl, hb⟩; have HB1 := Lib.hid hb; have c0 := cell_keep hb c0; have c1 := cell_keep hb c1; have c2 := cell_keep hb c2; clear hb) | (go_at_call 131; refine (HRE.out _).mono ?_; rintro e w2 ⟨rfl, hb⟩; have HBE := Lib.hid (HB1.out.trans (hb.mono HB1.out.size)); obtain ⟨⟨z0, y0⟩, ⟨z1, y1⟩, z2, y2⟩ := HZB.out.keep HBE.out; clear hb))
   have HZP := Lib.hid (show VcBx (((w2.setCell ⟨gp + 1, 0, none⟩ (.int .i64 0)).setCell ⟨gp + 1, 1, none⟩ (.int .i64 0)).setCell ⟨gp + 1, 2, none⟩ (.int .i64 0)) (gp + 1) v0 from ZBx.put ⟨⟨z0, y0⟩, ⟨z1, y1⟩, z2, y2⟩ v0)
   have HBX := Lib.hid (show Below w.heap.size w (((w2.setCell ⟨gp + 1, 0, none⟩ (.int .i64 0)).setCell ⟨gp + 1, 1, none⟩ (.int .i64 0)).setCell ⟨gp + 1, 2, none⟩ (.int .i64 0)) from (((HB0.out.trans (HBE.out.mono HB0.out.size)).setCell (by have := HGP.out; simp only; omega) _).setCell (by have := HGP.out; simp only; omega) _).setCell (by have := HGP.out; simp only; omega) _)
   generalize (((w2.setCell ⟨gp + 1, 0, none⟩ (.int .i64 0)).setCell ⟨gp + 1, 1, none⟩ (.int .i64 0)).setCell ⟨gp + 1, 2, none⟩ (.int .i64 0)) = WZ at *
   obtain ⟨k0, k1, k2⟩ := HZP.out
   simp only [v0] at k0 k1 k2
   exact bodyPost_ret (v := .tuple #[.agg #[.int .i64 0, .int .i64 0, .int .i64 0], .int .i64 2]) (by simp [results, Tryz.results69, go_sem, k0, k1, k2]) rfl ⟨by rw [HE.out, HV.out]; rfl, HBX.out⟩
  | false =>
   rw [hf] at HRE
   have HE := Lib.hid (show E = 0 by rw [hE]; unfold tuE; rw [hq, hf]; rfl)
   have HV := Lib.hid (show V = ofT (trnN n) v by rw [hV]; unfold tuV; rw [← hE, HE.out]; rfl)
   have HOF := Lib.hid (fun W => of_any (trnN n) v (trnN_wf hn) ((farB_in.1 hf).mono (by decide)) W)
   rw [← HV.out] at HOF
   clear hE hV hq hf
   go_upto_region 3 with (first | (go_at_call 125; refine (HIT.out _).mono ?_; rintro e w1 ⟨rfl, hb⟩; have HB1 := Lib.hid hb; have c0 := cell_keep hb c0; have c1 := cell_keep hb c1; have c2 := cell_keep hb c2; clear hb) | (go_at_call 131; refine (HRE.out _).mono ?_; rintro e w2 ⟨rfl, hb⟩; have HB2 := Lib.hid (HB1.out.trans (hb.mono HB1.out.size)); have c0 := cell_keep hb c0; have c1 := cell_keep hb c1; have c2 := cell_keep hb c2; clear hb))
   have kx0 : ∀ y : KW (fun W' => Below w2.heap.size w2 W'), (y.w.cell? ⟨gp, 0, none⟩ = some (.int .i64 v.x) ∧ y.w.cell? ⟨gp, 1, none⟩ = some (.int .i64 v.y) ∧ y.w.cell? ⟨gp, 2, none⟩ = some (.int .i64 v.z)) := fun y => ⟨cell_keep y.ok c0, cell_keep y.ok c1, cell_keep y.ok c2⟩
   haveI nn1 : Nonempty (KW (fun W' => Below w2.heap.size w2 W')) := ⟨⟨w2, Below.refl _ _⟩⟩
   refine wp_region_tree (fun w' => ∃ y : KW (fun W' => Below w2.heap.size w2 W'), w' = y.w) 5 (.take 1 (.take 4 (.one 0 (.take 2 (.one 3 .done))))) hmix (by kernel_rfl) (KW.mk' (Below.refl _ _).drew) ?_
   have HC0 := Lib.hid (show Below w2.heap.size w2 w2.drew from (Below.refl _ _).drew)
   generalize w2.drew = wv at *
   repeat (refine wpTree_take ?_; simp only [nthOp]; (first | go_big_quiet_step (fail) | quiet_step (fail)); refine wpQuiet_nil ?_)
   refine wpTree_one ?_
   simp only [nthOp]
   go_wp2_with (go_at_call 126; refine (all_any _).mono ?_; rintro e w3 ⟨ta, tc, rfl, htv, hb⟩; have HTV := Lib.hid htv; have HC1 := Lib.hid (HC0.out.trans (hb.mono HC0.out.size)); clear htv hb)
   refine One_mk (KW.mk' HC1.out) ?_
   obtain ⟨tb, off, rfl, ⟨x0, x1, x2⟩, x3, x4, x5⟩ := trsV_at HTV.out hn
   have hn1 : n < 48 := by omega
   have hn0 : 0 ≤ n := hn.1
   (refine wpTree_take ?_; simp only [nthOp]; (first | go_big_quiet_step (fail) | quiet_step (fail)); refine wpQuiet_nil ?_)
   refine wpTree_one ?_
   simp only [nthOp]
   go_wp2_with fail
   refine One_mk (KW.mk' HC1.out) ?_
   clear kx0 nn1
   refine wpTree_done ?_
   simp only [List.drop_succ_cons, List.drop_zero]
   have HB3 := Lib.hid (HB2.out.trans (HC1.out.mono HB2.out.size))
   go_wp2_with (go_at_call 128; refine (HOF.out _).mono ?_; rintro e w4 ⟨rfl, hb⟩; have HB4 := Lib.hid (HB3.out.trans (hb.mono HB3.out.size)); clear hb; obtain ⟨⟨z0, y0⟩, ⟨z1, y1⟩, z2, y2⟩ := HZB.out.keep HB4.out; have HZP := Lib.hid (ZBx.put (HZB.out.keep HB4.out) V))
   refine NP_mk ?_
   have HBX := Lib.hid (show Below w.heap.size w (((w4.setCell ⟨gp + 1, 0, none⟩ (.int .i64 V.x)).setCell ⟨gp + 1, 1, none⟩ (.int .i64 V.y)).setCell ⟨gp + 1, 2, none⟩ (.int .i64 V.z)) from (((HB0.out.trans (HB4.out.mono HB0.out.size)).setCell (by have := HGP.out; simp only; omega) _).setCell (by have := HGP.out; simp only; omega) _).setCell (by have := HGP.out; simp only; omega) _)
   go_wp2_with fail
   generalize (((w4.setCell ⟨gp + 1, 0, none⟩ (.int .i64 V.x)).setCell ⟨gp + 1, 1, none⟩ (.int .i64 V.y)).setCell ⟨gp + 1, 2, none⟩ (.int .i64 V.z)) = WZ at *
   obtain ⟨k0, k1, k2⟩ := HZP.out
   exact bodyPost_ret (v := .tuple #[.agg #[.int .i64 V.x, .int .i64 V.y, .int .i64 V.z], .int .i64 0]) (by simp [results, Tryz.results69, go_sem, k0, k1, k2]) rfl ⟨by rw [HE.out], HBX.out⟩
end Go.Proofs.YtbhgkadklklmbaaGreat
/- The document's turned vector; the turn that does two turns. -/
set_option linter.unusedVariables false
set_option linter.unusedSimpArgs false
namespace Go.Proofs.YtbhgkadklklmbaaGreat
open Go Go.RowKit Go.Sort Go.Lib

/-! Both. -/
set_option maxRecDepth 100000 in
set_option maxHeartbeats 2000000 in
theorem image1_any (t : Trn) (ht : t.wf) (w : World) : Calls Tryz.prog 127 #[.agg #[.int .i64 t.p0, .int .i64 t.p1, .int .i64 t.p2, .int .i64 t.s0, .int .i64 t.s1, .int .i64 t.s2]] w fun e w' => e = .returned (.agg #[.int .i64 (imgT t).x, .int .i64 (imgT t).y, .int .i64 (imgT t).z]) ∧ Below w.heap.size w w' := by
 have HOF := Lib.hid (fun W => of_any t ⟨1, 2, 3⟩ ht (by unfold Vec.in_; decide) W)
 obtain ⟨V, hV⟩ : ∃ V, V = imgT t := ⟨_, rfl⟩
 rw [show ofT t ⟨1, 2, 3⟩ = V by rw [hV]; rfl] at HOF
 rw [← hV]
 clear hV
 obtain ⟨p0, p1, p2, s0, s1, s2⟩ := t
 simp only at HOF
 clear ht
 go_enter Tryz.func127, Tryz.ntmps127
 go_upto_region 1 with fail
 refine gen_world (fun W => TrBx W w.heap.size ⟨p0, p1, p2, s0, s1, s2⟩ ∧ ZBx W (w.heap.size + 1) ∧ Below w.heap.size w W) ⟨⟨⟨?_, ?_, ?_⟩, ⟨?_, ?_, ?_⟩⟩, ⟨⟨?_, ?_⟩, ⟨?_, ?_⟩, ?_, ?_⟩, ?_⟩ ?_
 any_goals (simp [go_sem]; done)
 ·repeat (first | (with_reducible assumption) | exact Below.refl _ _ | (refine Below.setCell ?_ (by first | omega | (simp; omega) | (simp; done)) _) | (refine Below.alloc ?_ (by first | omega | (simp; omega) | (simp; done)) _) | (refine Below.drew ?_))
 rintro W ⟨⟨⟨a0, a1, a2⟩, b0, b1, b2⟩, hzb, hb⟩
 have HZB := Lib.hid hzb
 have HB0 := Lib.hid hb
 obtain ⟨gp, hgp⟩ : ∃ g, g = w.heap.size := ⟨_, rfl⟩
 have HGP := Lib.hid hgp
 rw [← hgp] at a0 a1 a2 b0 b1 b2 HZB
 rw [show w.heap.size = gp from hgp.symm]
 clear hgp hb hzb
 simp only at a0 a1 a2 b0 b1 b2
 go_wp2_with (go_at_call 128; refine (HOF.out _).mono ?_; rintro e w4 ⟨rfl, hb⟩; have HB4 := Lib.hid hb; obtain ⟨⟨z0, y0⟩, ⟨z1, y1⟩, z2, y2⟩ := HZB.out.keep hb; have HZP := Lib.hid (ZBx.put (HZB.out.keep hb) V); clear hb)
 have HBX := Lib.hid (show Below w.heap.size w (((w4.setCell ⟨gp + 1, 0, none⟩ (.int .i64 V.x)).setCell ⟨gp + 1, 1, none⟩ (.int .i64 V.y)).setCell ⟨gp + 1, 2, none⟩ (.int .i64 V.z)) from (((HB0.out.trans (HB4.out.mono HB0.out.size)).setCell (by have := HGP.out; simp only; omega) _).setCell (by have := HGP.out; simp only; omega) _).setCell (by have := HGP.out; simp only; omega) _)
 generalize (((w4.setCell ⟨gp + 1, 0, none⟩ (.int .i64 V.x)).setCell ⟨gp + 1, 1, none⟩ (.int .i64 V.y)).setCell ⟨gp + 1, 2, none⟩ (.int .i64 V.z)) = WZ at *
 obtain ⟨k0, k1, k2⟩ := HZP.out
 exact bodyPost_ret (v := .agg #[.int .i64 V.x, .int .i64 V.y, .int .i64 V.z]) (by simp [results, Tryz.results127, go_sem, k0, k1, k2]) rfl ⟨rfl, HBX.out⟩
/-- The closure's boxes: the function and the vector that is looked for. -/
def BoBx (w : World) (g h : Nat) (v : Vec) : Prop := w.cell? ⟨g, 0, none⟩ = some (.func (.func 127) #[] #[]) ∧ VcBx w h v
theorem BoBx.keep {w w' : World} {g h : Nat} {v : Vec} (hh : BoBx w g h v) (hb : Below w.heap.size w w') : BoBx w' g h v := ⟨cell_keep hb hh.1, hh.2.keep hb⟩
set_option maxRecDepth 100000 in
set_option maxHeartbeats 2000000 in
theorem want_any (t : Trn) (ht : t.wf) (g h : Nat) (v : Vec) (w : World) (hw : BoBx w g h v) : Calls Tryz.prog 130 #[.agg #[.int .i64 t.p0, .int .i64 t.p1, .int .i64 t.p2, .int .i64 t.s0, .int .i64 t.s1, .int .i64 t.s2], .pointer (some ⟨g, 0, none⟩), .pointer (some ⟨h, 0, none⟩)] w fun e w' => e = .returned (.bool (decide (imgT t = v))) ∧ Below w.heap.size w w' := by
 have HIM := Lib.hid (fun W => image1_any t ht W)
 have HEQ := Vec_eql (imgT t) v
 obtain ⟨V, hV⟩ : ∃ V, V = imgT t := ⟨_, rfl⟩
 rw [← hV] at HIM HEQ ⊢
 clear hV
 generalize decide (V = v) = D at *
 obtain ⟨p0, p1, p2, s0, s1, s2⟩ := t
 simp only at HIM
 clear ht
 have HW := Lib.hid hw
 clear hw
 go_enter Tryz.func130, Tryz.ntmps130
 go_upto_region 1 with fail
 refine gen_world (fun W => TrBx W w.heap.size ⟨p0, p1, p2, s0, s1, s2⟩ ∧ Below w.heap.size w W) ⟨⟨⟨?_, ?_, ?_⟩, ⟨?_, ?_, ?_⟩⟩, ?_⟩ ?_
 any_goals (simp [go_sem]; done)
 ·repeat (first | (with_reducible assumption) | exact Below.refl _ _ | (refine Below.setCell ?_ (by first | omega | (simp; omega) | (simp; done)) _) | (refine Below.alloc ?_ (by first | omega | (simp; omega) | (simp; done)) _) | (refine Below.drew ?_))
 rintro W ⟨⟨⟨a0, a1, a2⟩, b0, b1, b2⟩, hb⟩
 obtain ⟨c0, d0, d1, d2⟩ := HW.out.keep hb
 have HB0 := Lib.hid hb
 obtain ⟨gp, hgp⟩ : ∃ g, g = w.heap.size := ⟨_, rfl⟩
 have HGP := Lib.hid hgp
 rw [← hgp] at a0 a1 a2 b0 b1 b2
 rw [show w.heap.size = gp from hgp.symm]
 clear hgp hb
 simp only at a0 a1 a2 b0 b1 b2
 have e0 := block_lt_of_cell a0
 have e1 := block_lt_of_cell c0
 have e2 := block_lt_of_cell d0
 simp only at e0 e1 e2
 refine wp_region_grew (by kernel_rfl) (by kernel_rfl) ?_
 (first | go_big_quiet_step (fail) | quiet_step (fail))
 (first | go_big_quiet_step (fail) | quiet_step (fail))
 (first | go_big_quiet_step ((go_at_call 127; exact grew_of (HIM.out _))) | quiet_step ((go_at_call 127; exact grew_of (HIM.out _))))
 repeat (first | go_big_quiet_step (fail) | quiet_step (fail))
 refine wpQuiet_nil ?_
 rintro _ ⟨gg, rfl⟩
 have HB2 := Lib.hid (grewB (Below.refl W.heap.size W) (Nat.le_refl _) gg)
 go_wp2_with fail
 go_ret
 exact ⟨rfl, HB0.out.trans (HB2.out.mono HB0.out.size)⟩
end Go.Proofs.YtbhgkadklklmbaaGreat
/- The turn that does two turns. -/
set_option linter.unusedVariables false
set_option linter.unusedSimpArgs false
namespace Go.Proofs.YtbhgkadklklmbaaGreat
open Go Go.RowKit Go.Sort Go.Lib

set_option maxRecDepth 100000 in
set_option maxHeartbeats 2000000 in
theorem idx_want (g h : Nat) (v : Vec) (a : Option Addr) (c : Nat) (w : World) (hw : BoBx w g h v) (hv : TrsV w a trnL) :
    Calls Tryz.prog 129 #[.slice a 48 c, .func (.func 130) #[] #[.pointer (some ⟨g, 0, none⟩), .pointer (some ⟨h, 0, none⟩)]] w fun e w' => e = .returned (.int .i64 (idxOf (fun t => decide (imgT t = v)) trnL)) ∧ Below w.heap.size w w' := by
 obtain ⟨P, hP⟩ : ∃ P : Trn → Bool, P = fun t => decide (imgT t = v) := ⟨_, rfl⟩
 have HP := Lib.hid (fun t => congrFun hP t)
 rw [← hP]
 clear hP
 have HW := Lib.hid hw
 have HV := Lib.hid hv
 clear hw hv
 have hL := trnL_len
 go_enter Tryz.func129, Tryz.ntmps129
 go_wp2
 go_loopw [8] (fun i wr => ∃ k : Nat, k ≤ 48 ∧ i = .int .i64 k ∧ Hid (∀ j (hj : j < trnL.length), j < k → P trnL[j] = false) ∧ Below w.heap.size w wr) (fun i _ => 48 - (intOf i).toNat)
 case atStart => exact ⟨0, Nat.zero_le _, rfl, Lib.hid (fun j _ h => by omega), Below.refl _ _⟩
 case round =>
  obtain ⟨k, hk, rfl, HK, hbw⟩ := hrel
  have hsz := hbw.size
  by_cases hlt : k < 48
  ·have hltL : k < trnL.length := by rw [hL]; exact hlt
   have hki : (k : Int) < 48 := by omega
   obtain ⟨b, off, rfl, hat⟩ := HV.out.keep hbw
   obtain ⟨⟨x0, x1, x2⟩, x3, x4, x5⟩ := hat k hltL
   clear hat
   have HH := Lib.hid (fun h => idxOf_hit (p := P) hltL HK.out h)
   have HN := Lib.hid (fun h => none_step (p := P) HK.out hltL h)
   have HF := Lib.hid (want_any trnL[k] (trnL_wf _ (List.getElem_mem hltL)) g h v wr (HW.out.keep hbw))
   rw [← HP.out] at HF
   generalize trnL[k] = d at *
   cases hq : P d
   ·rw [hq] at HF
    go_wp2_with (go_at_call 130; refine HF.out.mono ?_; rintro e w1 ⟨rfl, hb⟩)
    go_round
    case rel => exact ⟨k + 1, by omega, by go_num, Lib.hid (HN.out hq), hbw.trans (hb.mono hsz)⟩
    case measure => simp [intOf]; omega
   ·rw [hq] at HF
    go_wp2_with (go_at_call 130; refine HF.out.mono ?_; rintro e w1 ⟨rfl, hb⟩)
    go_ret
    exact ⟨ret_int (HH.out hq).symm, hbw.trans (hb.mono hsz)⟩
  ·have hki : ¬ (k : Int) < 48 := by omega
   have hm := Lib.hid (idxOf_miss (p := P) (l := trnL) (fun j hj => HK.out j hj (by omega)))
   clear HK
   go_wp2
   go_ret
   exact ⟨ret_int hm.out.symm, hbw⟩
def boE (a b : Int) : Int := if withinB a 0 47 && withinB b 0 47 then 0 else 2
def boV (a b : Int) : Int := if boE a b = 0 then bothM a b else 0
set_option maxRecDepth 100000 in
set_option maxHeartbeats 4000000 in
theorem both_any (m n : Int) (w : World) : Calls Tryz.prog 67 #[.int .i64 m, .int .i64 n] w fun e w' => e = .returned (.tuple #[.int .i64 (boV m n), .int .i64 (boE m n)]) ∧ Below w.heap.size w w' := by
 have hmix : Tryz.prog.follows .mixedOrders = true := by kernel_rfl
 have HI1 := Lib.hid (fun W => isTurn_any m W)
 have HI2 := Lib.hid (fun W => isTurn_any n W)
 obtain ⟨E, hE⟩ : ∃ E, E = boE m n := ⟨_, rfl⟩
 obtain ⟨V, hV⟩ : ∃ V, V = boV m n := ⟨_, rfl⟩
 rw [← hE, ← hV]
 cases hq : withinB m 0 47 with
 | false =>
  rw [hq] at HI1
  have HE := Lib.hid (show E = 2 by rw [hE]; unfold boE; rw [hq]; rfl)
  have HV := Lib.hid (show V = 0 by rw [hV]; unfold boV; rw [← hE, HE.out]; rfl)
  clear hE hV hq HI2
  go_enter Tryz.func67, Tryz.ntmps67
  go_wp2_with (go_at_call 125; refine (HI1.out _).mono ?_; rintro e w1 ⟨rfl, hb⟩; have HB1 := Lib.hid hb; clear hb)
  exact bodyPost_ret (v := .tuple #[.int .i64 0, .int .i64 2]) (by simp [results, Tryz.results67, go_sem]) rfl ⟨by rw [HE.out, HV.out], HB1.out⟩
 | true =>
  rw [hq] at HI1
  have hm := withinB_true hq
  cases hf : withinB n 0 47 with
  | false =>
   rw [hf] at HI2
   have HE := Lib.hid (show E = 2 by rw [hE]; unfold boE; rw [hq, hf]; rfl)
   have HV := Lib.hid (show V = 0 by rw [hV]; unfold boV; rw [← hE, HE.out]; rfl)
   clear hE hV hq hf
   go_enter Tryz.func67, Tryz.ntmps67
   go_wp2_with ((first | (have h := HI1.out; clear HI1; go_at_call 125; refine (h _).mono ?_; clear h; rintro e w1 ⟨rfl, hb⟩; have HB1 := Lib.hid hb; clear hb) | (go_at_call 125; refine (HI2.out _).mono ?_; rintro e w2 ⟨rfl, hb⟩; have HB2 := Lib.hid (HB1.out.trans (hb.mono HB1.out.size)); clear hb)))
   exact bodyPost_ret (v := .tuple #[.int .i64 0, .int .i64 2]) (by simp [results, Tryz.results67, go_sem]) rfl ⟨by rw [HE.out, HV.out], HB2.out⟩
  | true =>
   rw [hf] at HI2
   have hn := withinB_true hf
   have HE := Lib.hid (show E = 0 by rw [hE]; unfold boE; rw [hq, hf]; rfl)
   have HV := Lib.hid (show V = idxOf (fun t => decide (imgT t = ofT (trnN n) (imgT (trnN m)))) trnL by rw [hV]; unfold boV; rw [← hE, HE.out]; rfl)
   clear hE hV hq hf
   have HIM := Lib.hid (fun W => image1_any (trnN m) (trnN_wf hm) W)
   have HOF := Lib.hid (fun W => of_any (trnN n) (imgT (trnN m)) (trnN_wf hn) (by
    have h := ofT_in (trnN_wf hm) (B := 3) (v := ⟨1, 2, 3⟩) (by unfold Vec.in_; decide)
    exact Vec.in_.mono h (by decide)) W)
   obtain ⟨X, hX⟩ : ∃ X, X = imgT (trnN m) := ⟨_, rfl⟩
   rw [← hX] at HIM HOF HV
   obtain ⟨Y, hY⟩ : ∃ Y, Y = ofT (trnN n) X := ⟨_, rfl⟩
   rw [← hY] at HOF HV
   clear hX hY
   have m0 : 0 ≤ m := hm.1
   have m1 : m < 48 := by omega
   have n0 : 0 ≤ n := hn.1
   have n1 : n < 48 := by omega
   go_enter Tryz.func67, Tryz.ntmps67
   go_upto_region 5 with ((first | (have h := HI1.out; clear HI1; go_at_call 125; refine (h _).mono ?_; clear h; rintro e w1 ⟨rfl, hb⟩; have HB1 := Lib.hid hb; clear hb) | (go_at_call 125; refine (HI2.out _).mono ?_; rintro e w2 ⟨rfl, hb⟩; have HB2 := Lib.hid (HB1.out.trans (hb.mono HB1.out.size)); clear hb) | (go_at_call 126; refine (all_any _).mono ?_; rintro e w3 ⟨ta, tc, rfl, htv, hb⟩; have HTV := Lib.hid htv; have HB3 := Lib.hid (HB2.out.trans (hb.mono HB2.out.size)); clear htv hb)))
   refine gen_world (fun W => W.cell? ⟨w3.heap.size, 0, none⟩ = some (.func (.func 127) #[] #[]) ∧ Below w3.heap.size w3 W) ⟨by simp [go_sem], by repeat (first | (with_reducible assumption) | exact Below.refl _ _ | (refine Below.setCell ?_ (by first | omega | (simp; omega) | (simp; done)) _) | (refine Below.alloc ?_ (by first | omega | (simp; omega) | (simp; done)) _) | (refine Below.drew ?_))⟩ ?_
   rintro W ⟨fc, hb⟩
   have HTW := Lib.hid (HTV.out.keep hb)
   have HB4 := Lib.hid (HB3.out.trans (hb.mono HB3.out.size))
   obtain ⟨gI, hgI⟩ : ∃ g, g = w3.heap.size := ⟨_, rfl⟩
   rw [← hgI] at fc ⊢
   clear hgI hb
   have htw := HTW.out
   obtain ⟨tb, off, rfl, ⟨x0, x1, x2⟩, x3, x4, x5⟩ := trsV_at htw hm
   obtain ⟨tb', off', he, ⟨y0, y1, y2⟩, y3, y4, y5⟩ := trsV_at htw hn
   injection he with he
   injection he with he1 he2
   subst he1 he2
   clear htw
   have kx0 : ∀ y : KW (fun W' => Below W.heap.size W W'), (y.w.cell? ⟨tb, off + m.toNat * 6, none⟩ = some (.int .i64 ((trnN m).p0 : Int)) ∧ y.w.cell? ⟨tb, off + m.toNat * 6 + 1, none⟩ = some (.int .i64 ((trnN m).p1 : Int)) ∧ y.w.cell? ⟨tb, off + m.toNat * 6 + 2, none⟩ = some (.int .i64 ((trnN m).p2 : Int))) := fun y => ⟨cell_keep y.ok x0, cell_keep y.ok x1, cell_keep y.ok x2⟩
   have kx1 : ∀ y : KW (fun W' => Below W.heap.size W W'), (y.w.cell? ⟨tb, off + m.toNat * 6 + 3, none⟩ = some (.int .i64 (trnN m).s0) ∧ y.w.cell? ⟨tb, off + m.toNat * 6 + 4, none⟩ = some (.int .i64 (trnN m).s1) ∧ y.w.cell? ⟨tb, off + m.toNat * 6 + 5, none⟩ = some (.int .i64 (trnN m).s2)) := fun y => ⟨cell_keep y.ok x3, cell_keep y.ok x4, cell_keep y.ok x5⟩
   have kx2 : ∀ y : KW (fun W' => Below W.heap.size W W'), (y.w.cell? ⟨tb, off + n.toNat * 6, none⟩ = some (.int .i64 ((trnN n).p0 : Int)) ∧ y.w.cell? ⟨tb, off + n.toNat * 6 + 1, none⟩ = some (.int .i64 ((trnN n).p1 : Int)) ∧ y.w.cell? ⟨tb, off + n.toNat * 6 + 2, none⟩ = some (.int .i64 ((trnN n).p2 : Int))) := fun y => ⟨cell_keep y.ok y0, cell_keep y.ok y1, cell_keep y.ok y2⟩
   have kx3 : ∀ y : KW (fun W' => Below W.heap.size W W'), (y.w.cell? ⟨tb, off + n.toNat * 6 + 3, none⟩ = some (.int .i64 (trnN n).s0) ∧ y.w.cell? ⟨tb, off + n.toNat * 6 + 4, none⟩ = some (.int .i64 (trnN n).s1) ∧ y.w.cell? ⟨tb, off + n.toNat * 6 + 5, none⟩ = some (.int .i64 (trnN n).s2)) := fun y => ⟨cell_keep y.ok y3, cell_keep y.ok y4, cell_keep y.ok y5⟩
   have kx4 : ∀ y : KW (fun W' => Below W.heap.size W W'), y.w.cell? ⟨gI, 0, none⟩ = some (.func (.func 127) #[] #[]) := fun y => cell_keep y.ok fc
   haveI nn1 : Nonempty (KW (fun W' => Below W.heap.size W W')) := ⟨⟨W, Below.refl _ _⟩⟩
   refine wp_region_gro (fun w' => ∃ y : KW (fun W' => Below W.heap.size W W'), w' = y.w) 12 (.take 0 (.take 1 (.take 2 (.take 3 (.take 4 (.take 5 (.take 6 (.take 7 (.take 8 (.call 9 (.call 10 (.one 11 .done)))))))))))) hmix (by kernel_rfl) kw_grew (KW.mk' (Below.refl _ _).drew) ?_
   have HC0 := Lib.hid (show Below W.heap.size W W.drew from (Below.refl _ _).drew)
   generalize W.drew = ww0 at *
   repeat (refine wpGro_take ?_; simp only [nthOp]; (first | go_big_quiet_step (fail) | quiet_step (fail)); refine wpQuiet_nil ?_)
   apply wpGro_call
   ·intro w1 h1
    simp only [nthOp]
    (first | go_big_quiet_step ((go_at_call 127; exact grew_of (HIM.out _))) | quiet_step ((go_at_call 127; exact grew_of (HIM.out _))))
    exact wpQuiet_nil rfl
   apply wpGro_call
   ·intro w1 h1
    simp only [nthOp]
    (first | go_big_quiet_step ((go_at_call 128; exact grew_of (HOF.out _))) | quiet_step ((go_at_call 128; exact grew_of (HOF.out _))))
    exact wpQuiet_nil rfl
   clear kx0 kx1 kx2 kx3 kx4 nn1 x0 x1 x2 x3 x4 x5 y0 y1 y2 y3 y4 y5
   refine wpGro_one ?_
   ·intro wa ha
    simp only [nthOp]
    go_wp2_with fail
    have HA := Lib.hid (HC0.out.trans (ha.mono HC0.out.size))
    have HC1 := Lib.hid (HA.out.alloc HA.out.size (.cells #[.int .i64 0, .int .i64 0, .int .i64 0] 127))
    have HZ1 := Lib.hid (ZBx.new wa 127)
    have HG1 := Lib.hid HA.out.size
    refine One_mk (KW.mk' HC1.out) ?_
    generalize (wa.alloc (.cells #[.int .i64 0, .int .i64 0, .int .i64 0] 127)) = wb at *
    generalize wa.heap.size = gV at *
    refine wpGro_done (fun wd hd => ?_)
    have HCD := Lib.hid (HC1.out.trans (hd.mono HC1.out.size))
    have HZD := Lib.hid (HZ1.out.keep hd)
    simp only [List.drop_succ_cons, List.drop_zero]
    obtain ⟨⟨z0, q0⟩, ⟨z1, q1⟩, z2, q2⟩ := HZD.out
    have HZP := Lib.hid (ZBx.put HZD.out Y)
    have HBX := Lib.hid (show Below W.heap.size W (((wd.setCell ⟨gV, 0, none⟩ (.int .i64 Y.x)).setCell ⟨gV, 1, none⟩ (.int .i64 Y.y)).setCell ⟨gV, 2, none⟩ (.int .i64 Y.z)) from ((HCD.out.setCell HG1.out _).setCell HG1.out _).setCell HG1.out _)
    go_wp2_with fail
    refine NP_mk ?_
    generalize (((wd.setCell ⟨gV, 0, none⟩ (.int .i64 Y.x)).setCell ⟨gV, 1, none⟩ (.int .i64 Y.y)).setCell ⟨gV, 2, none⟩ (.int .i64 Y.z)) = WZ at *
    have HIX := Lib.hid (idx_want gI gV Y _ tc WZ ⟨cell_keep HBX.out fc, HZP.out⟩ (HTW.out.keep HBX.out))
    rw [← HV.out] at HIX
    clear z0 q0 z1 q1 z2 q2 hd ha fc
    go_wp2_with (go_at_call 129; refine HIX.out.mono ?_; rintro e w9 ⟨rfl, hb⟩; have HB9 := Lib.hid (HB4.out.trans ((HBX.out.trans (hb.mono HBX.out.size)).mono HB4.out.size)); clear hb)
    exact bodyPost_ret (v := .tuple #[.int .i64 V, .int .i64 0]) (by simp [results, Tryz.results67, go_sem]) rfl ⟨by rw [HE.out], HB9.out⟩
end Go.Proofs.YtbhgkadklklmbaaGreat
/- A triple of numbers as an argument; turns that are right, and what the calls answer. -/
set_option linter.unusedVariables false
set_option linter.unusedSimpArgs false
namespace Go.Proofs.YtbhgkadklklmbaaGreat
open Go Go.ChangeShapes Go.WideShapes Go.ChangeAt Go.RowKit Go.Lib

theorem okWide_arr {P : Program} {w : World} {r : Reach} {base : Nat} {t e : TypeId} {n : Nat} {v : Value} (ht : P.underlying t = some (.array n e)) (h : Value.okWide P w r base t v) : ∃ cs, v = .agg cs ∧ cs.size = P.cellsOf t := by
 simp only [Value.okWide, ht] at h
 obtain ⟨cs, h1, h2, _⟩ := h
 exact ⟨cs, h1, h2⟩
theorem triple_open {H : Type} {enc : TypeId × Value → H} {w : World} {spare : Nat → Bool} {held : Bool} {fuel : Nat} {cs : List Value} {y : DataW H × List MemPlace} (h : DataW.trod enc Tryz.prog w 0 spare held fuel 105 cs = some y) :
    ∃ p q r : Int, cs = [.int .i64 p, .int .i64 q, .int .i64 r] ∧ ((-9223372036854775808 ≤ p ∧ p ≤ 9223372036854775807) ∧ (-9223372036854775808 ≤ q ∧ q ≤ 9223372036854775807) ∧ (-9223372036854775808 ≤ r ∧ r ≤ 9223372036854775807)) := by
 obtain ⟨xs, m, -, -, hl, hx, hi⟩ := DataW.trod_array Tryz.underlying105 h
 have hl2 : cs.length = 3 := hl.trans (by kernel_rfl)
 have h1 : Tryz.prog.cellsOf 3 = 1 := by kernel_rfl
 rw [h1] at hi
 match cs, hl2, xs, hx with
 | [c0, c1, c2], _, [y0, y1, y2], _ =>
  have t0 := hi 0 (by decide)
  have t1 := hi 1 (by decide)
  have t2 := hi 2 (by decide)
  simp at t0 t1 t2
  obtain ⟨n0, g0, -, q0⟩ := DataW.trod_int Tryz.underlying3 t0
  obtain ⟨n1, g1, -, q1⟩ := DataW.trod_int Tryz.underlying3 t1
  obtain ⟨n2, g2, -, q2⟩ := DataW.trod_int Tryz.underlying3 t2
  simp only [List.cons.injEq, and_true] at g0 g1 g2
  exact ⟨n0, n1, n2, by rw [g0, g1, g2], int_wf q0, int_wf q1, int_wf q2⟩
theorem both_ok {a b : Int} (ha : 0 ≤ a ∧ a ≤ 47) (hb : 0 ≤ b ∧ b ≤ 47) (w : World) : Calls Tryz.prog 67 #[.int .i64 a, .int .i64 b] w fun e w' => e = .returned (.tuple #[.int .i64 (bothM a b), .int .i64 0]) ∧ Below w.heap.size w w' := by
 have h := both_any a b w
 have hE : boE a b = 0 := by unfold boE withinB; simp [ha.1, ha.2, hb.1, hb.2]
 rw [show boV a b = bothM a b by unfold boV; rw [if_pos hE], hE] at h
 exact h
theorem both_bad {a b : Int} (h : withinB a 0 47 = false ∨ withinB b 0 47 = false) (w : World) : Calls Tryz.prog 67 #[.int .i64 a, .int .i64 b] w fun e w' => e = .returned (.tuple #[.int .i64 0, .int .i64 2]) ∧ Below w.heap.size w w' := by
 have h1 := both_any a b w
 have hE : boE a b = 2 := by unfold boE; rcases h with h | h <;> rw [h] <;> simp
 rw [show boV a b = 0 by unfold boV; rw [if_neg (by rw [hE]; decide)], hE] at h1
 exact h1
theorem turned_ok {v : Vec} {n : Int} (hn : 0 ≤ n ∧ n ≤ 47) (hv : farB v = false) (w : World) : Calls Tryz.prog 69 #[.agg #[.int .i64 v.x, .int .i64 v.y, .int .i64 v.z], .int .i64 n] w fun e w' => e = .returned (.tuple #[.agg #[.int .i64 (ofT (trnN n) v).x, .int .i64 (ofT (trnN n) v).y, .int .i64 (ofT (trnN n) v).z], .int .i64 0]) ∧ Below w.heap.size w w' := by
 have h := turned_any v n w
 have hE : tuE v n = 0 := by unfold tuE withinB; rw [hv]; simp [hn.1, hn.2]
 rw [show tuV v n = ofT (trnN n) v by unfold tuV; rw [if_pos hE], hE] at h
 exact h
theorem farR_vec (v : Vec) (w : World) : Calls Tryz.prog 68 #[.agg #[.int .i64 v.x, .int .i64 v.y, .int .i64 v.z]] w fun e w' => e = .returned (.bool (farB v)) ∧ Below w.heap.size w w' := farR_any v.x v.y v.z w
end Go.Proofs.YtbhgkadklklmbaaGreat
