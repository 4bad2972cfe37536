/- Which vectors and turns the program takes; the turned vector. -/
import Derived.Test.YtbhgkadklklmbaaGreatTU4
import Derived.Test.YtbhgkadklklmbaaGreatQM
import Derived.Test.YtbhgkadklklmbaaGreatQG
import Derived.Test.YtbhgkadklklmbaaGreatQE
import Derived.Test.YtbhgkadklklmbaaGreatQF
import Derived.Test.YtbhgkadklklmbaaGreatQA
import Derived.Test.YtbhgkadklklmbaaGreatQD
import Derived.OpenShut
set_option linter.unusedVariables false
set_option linter.unusedSimpArgs false
namespace Go.Proofs.YtbhgkadklklmbaaGreat
open Go Go.RowKit Go.Sort Go.Lib

def outR (z : Int) : Bool := decide (z < -600000) || decide (600000 < z)
theorem outR_eq (z : Int) : outR z = outB z := by
 unfold outR outB withinB
 by_cases h1 : -600000 ≤ z <;> by_cases h2 : z ≤ 600000 <;> simp [h1, h2] <;> omega
set_option maxRecDepth 100000 in
set_option maxHeartbeats 1000000 in
theorem reach1_any (z : Int) (w : World) : Calls Tryz.prog 173 #[.int .i64 z] w fun e w' => e = .returned (.bool (outR z)) ∧ Below w.heap.size w w' := by
 obtain ⟨S, hS⟩ : ∃ S, S = outR z := ⟨_, rfl⟩
 rw [← hS]
 have HS := Lib.hid hS
 clear hS
 go_enter Tryz.func173, Tryz.ntmps173
 go_wp2
 all_goals go_ret
 ·exact ⟨by rw [HS.out]; rfl, Below.refl _ _⟩
 ·rename_i h
  have h2 : S = true := by rw [HS.out]; unfold outR; rw [decide_eq_true h]; rfl
  exact ⟨by rw [h2]; rfl, Below.refl _ _⟩
set_option maxHeartbeats 1000000 in
theorem idx_reach1 (a : Option Addr) (l : List Int) (c : Nat) (w : World) (hv : IntsV w a l) (hl : l.length ≤ 1000000) :
    Calls Tryz.prog 189 #[.slice a l.length c, .func (.func 173) #[] #[]] w fun e w' => e = .returned (.int .i64 (idxOf outR l)) ∧ Below w.heap.size w w' := by
 go_enter Tryz.func189, Tryz.ntmps189
 go_wp2
 go_loopw [8] (fun i wr => ∃ k : Nat, k ≤ l.length ∧ i = .int .i64 k ∧ Hid (∀ j (hj : j < l.length), j < k → outR l[j] = false) ∧ Below w.heap.size w wr) (fun i _ => l.length - (intOf i).toNat)
 case atStart => exact ⟨0, Nat.zero_le _, rfl, Lib.hid (fun j _ h => by omega), Below.refl _ _⟩
 case round =>
  obtain ⟨k, hk, rfl, HK, hbw⟩ := hrel
  have hsz := hbw.size
  by_cases hlt : k < l.length
  ·obtain ⟨b, off, rfl, hat⟩ := (hv.keep hbw) (fun e => by rw [e] at hlt; simp at hlt)
   have c0 := hat k l[k] (List.getElem?_eq_getElem hlt)
   clear hat
   have HH := Lib.hid (fun h => idxOf_hit (p := outR) hlt HK.out h)
   have HN := Lib.hid (fun h => none_step (p := outR) HK.out hlt h)
   have HF := Lib.hid (reach1_any l[k] wr)
   generalize l[k] = d at *
   cases hq : outR d
   ·rw [hq] at HF
    go_wp2_with (go_at_call 173; refine HF.out.mono ?_; rintro e w1 ⟨rfl, hb⟩)
    go_round
    case rel => exact ⟨k + 1, by omega, by go_num, Lib.hid (HN.out hq), hbw.trans (hb.mono hsz)⟩
    case measure => simp [intOf]; omega
   ·rw [hq] at HF
    go_wp2_with (go_at_call 173; refine HF.out.mono ?_; rintro e w1 ⟨rfl, hb⟩)
    go_ret
    exact ⟨ret_int (HH.out hq).symm, hbw.trans (hb.mono hsz)⟩
  ·have hm := Lib.hid (idxOf_miss (p := outR) (l := l) (fun j hj => HK.out j hj (by omega)))
   clear HK
   go_wp2
   go_ret
   exact ⟨ret_int hm.out.symm, hbw⟩
theorem has_reach1 (a : Option Addr) (l : List Int) (c : Nat) (w : World) (hv : IntsV w a l) (hl : l.length ≤ 1000000) :
    Calls Tryz.prog 166 #[.slice a l.length c, .func (.func 173) #[] #[]] w fun e w' => e = .returned (.bool (l.any outR)) ∧ Below w.heap.size w w' := by
 have hi := Lib.hid (idxOf_bool outR l)
 go_enter Tryz.func166, Tryz.ntmps166
 go_wp2_with (go_at_call 189; refine (idx_reach1 a l c _ hv hl).mono ?_; rintro e w1 ⟨rfl, hb⟩)
 go_ret
 exact ⟨ret_bool (by rw [← hi.out]), hb⟩
theorem farB_reach (v : Vec) : [v.x, v.y, v.z].any outR = farB v := by unfold farB; simp [outR_eq]
theorem vec_ints {W : World} {g : Nat} {v : Vec} (h0 : W.cell? ⟨g, 0, none⟩ = some (.int .i64 v.x)) (h1 : W.cell? ⟨g, 1, none⟩ = some (.int .i64 v.y)) (h2 : W.cell? ⟨g, 2, none⟩ = some (.int .i64 v.z)) : IntsV W (some ⟨g, 0, none⟩) [v.x, v.y, v.z] := fun _ => ⟨_, 0, rfl, fun k u hk => by
 match k, hk with
 | 0, hk => simp at hk; subst hk; exact h0
 | 1, hk => simp at hk; subst hk; exact h1
 | 2, hk => simp at hk; subst hk; exact h2
 | k + 3, hk => simp at hk⟩
set_option maxRecDepth 100000 in
set_option maxHeartbeats 1000000 in
theorem reach_any (v : Vec) (w : World) : Calls Tryz.prog 131 #[.agg #[.int .i64 v.x, .int .i64 v.y, .int .i64 v.z]] w fun e w' => e = .returned (.bool (!farB v)) ∧ Below w.heap.size w w' := by
 have HH := Lib.hid (fun W g h0 h1 h2 => has_reach1 (some ⟨g, 0, none⟩) [v.x, v.y, v.z] 3 W (vec_ints h0 h1 h2) (by simp))
 rw [farB_reach] at HH
 generalize farB v = B at *
 go_enter Tryz.func131, Tryz.ntmps131
 go_upto_region 1 with fail
 refine gen_world (fun W => (W.cell? ⟨w.heap.size, 0, none⟩ = some (.int .i64 v.x) ∧ W.cell? ⟨w.heap.size, 1, none⟩ = some (.int .i64 v.y) ∧ W.cell? ⟨w.heap.size, 2, none⟩ = some (.int .i64 v.z)) ∧ Below w.heap.size w W) ⟨⟨by simp [go_sem], by simp [go_sem], by simp [go_sem]⟩, by repeat (first | (with_reducible assumption) | exact Below.refl _ _ | (refine Below.setCell ?_ (by first | omega | (simp; omega) | (simp; done)) _) | (refine Below.alloc ?_ (by first | omega | (simp; omega) | (simp; done)) _) | (refine Below.drew ?_))⟩ ?_
 rintro W ⟨⟨c0, c1, c2⟩, hb⟩
 have HF := Lib.hid (HH.out W w.heap.size c0 c1 c2)
 have HB := Lib.hid hb
 obtain ⟨gp, hgp⟩ : ∃ g, g = w.heap.size := ⟨_, rfl⟩
 rw [← hgp] at HF c0 c1 c2 ⊢
 clear hgp hb HH
 go_wp2_with (go_at_call 166; refine HF.out.mono ?_; rintro e w1 ⟨rfl, hb⟩; have HB1 := Lib.hid hb; clear hb)
 go_ret
 exact ⟨rfl, HB.out.trans (HB1.out.mono HB.out.size)⟩
set_option maxRecDepth 100000 in
theorem isTurn_any (n : Int) (w : World) : Calls Tryz.prog 125 #[.int .i64 n] w fun e w' => e = .returned (.bool (withinB n 0 47)) ∧ Below w.heap.size w w' := by
 obtain ⟨S, hS⟩ : ∃ S, S = withinB n 0 47 := ⟨_, rfl⟩
 rw [← hS]
 have HS := Lib.hid hS
 clear hS
 by_cases h0 : 0 ≤ n
 ·by_cases h1 : n < 48
  ·have HE := Lib.hid (show S = true by rw [HS.out]; unfold withinB; simp; omega)
   go_enter Tryz.func125, Tryz.ntmps125
   go_wp2
   go_ret
   exact ⟨ret_bool HE.out.symm, Below.refl _ _⟩
  ·have HE := Lib.hid (show S = false by rw [HS.out]; unfold withinB; simp; omega)
   go_enter Tryz.func125, Tryz.ntmps125
   go_wp2
   go_ret
   exact ⟨ret_bool HE.out.symm, Below.refl _ _⟩
 ·have HE := Lib.hid (show S = false by rw [HS.out]; unfold withinB; simp; omega)
  go_enter Tryz.func125, Tryz.ntmps125
  go_wp2
  go_ret
  exact ⟨ret_bool HE.out.symm, Below.refl _ _⟩
end Go.Proofs.YtbhgkadklklmbaaGreat
/- The turned vector, program and document. -/
set_option linter.unusedVariables false
set_option linter.unusedSimpArgs false
namespace Go.Proofs.YtbhgkadklklmbaaGreat
open Go Go.RowKit Go.Sort Go.Lib

def tuE (v : Vec) (n : Int) : Int := if withinB n 0 47 && !farB v then 0 else 2
def tuV (v : Vec) (n : Int) : Vec := if tuE v n = 0 then ofT (trnN n) v else v0
theorem trsV_at {w : World} {a : Option Addr} {n : Int} (h : TrsV w a trnL) (hn : 0 ≤ n ∧ n ≤ 47) : ∃ b off, a = some ⟨b, off, none⟩ ∧
    (w.cell? ⟨b, off + n.toNat * 6, none⟩ = some (.int .i64 ((trnN n).p0 : Int)) ∧ w.cell? ⟨b, off + n.toNat * 6 + 1, none⟩ = some (.int .i64 ((trnN n).p1 : Int)) ∧ w.cell? ⟨b, off + n.toNat * 6 + 2, none⟩ = some (.int .i64 ((trnN n).p2 : Int))) ∧
    (w.cell? ⟨b, off + n.toNat * 6 + 3, none⟩ = some (.int .i64 (trnN n).s0) ∧ w.cell? ⟨b, off + n.toNat * 6 + 4, none⟩ = some (.int .i64 (trnN n).s1) ∧ w.cell? ⟨b, off + n.toNat * 6 + 5, none⟩ = some (.int .i64 (trnN n).s2)) := by
 obtain ⟨b, off, ha, h⟩ := h
 have hl : n.toNat < trnL.length := by rw [trnL_len]; omega
 have e : trnN n = trnL[n.toNat] := by unfold trnN; simp [List.getD, hl]
 rw [e]
 exact ⟨b, off, ha, h _ hl⟩
set_option maxRecDepth 100000 in
set_option maxHeartbeats 4000000 in
theorem turned_any (v : Vec) (n : Int) (w : World) : Calls Tryz.prog 69 #[.agg #[.int .i64 v.x, .int .i64 v.y, .int .i64 v.z], .int .i64 n] w fun e w' => e = .returned (.tuple #[.agg #[.int .i64 (tuV v n).x, .int .i64 (tuV v n).y, .int .i64 (tuV v n).z], .int .i64 (tuE v n)]) ∧ Below w.heap.size w w' := by
 have hmix : Tryz.prog.follows .mixedOrders = true := by kernel_rfl
 have HIT := Lib.hid (fun W => isTurn_any n W)
 have HRE := Lib.hid (fun W => reach_any v W)
 obtain ⟨E, hE⟩ : ∃ E, E = tuE v n := ⟨_, rfl⟩
 obtain ⟨V, hV⟩ : ∃ V, V = tuV v n := ⟨_, rfl⟩
 rw [← hE, ← hV]
 go_enter Tryz.func69, Tryz.ntmps69
 go_upto_region 1 with fail
 refine gen_world (fun W => VecV W w.heap.size v.at_ ∧ ZBx W (w.heap.size + 1) ∧ Below w.heap.size w W) ⟨vecV_at ⟨?_, ?_⟩ ⟨?_, ?_⟩ ⟨?_, ?_⟩, ⟨⟨?_, ?_⟩, ⟨?_, ?_⟩, ?_, ?_⟩, ?_⟩ ?_
 any_goals (simp [go_sem]; done)
 ·repeat (first | (with_reducible assumption) | exact Below.refl _ _ | (refine Below.setCell ?_ (by first | omega | (simp; omega) | (simp; done)) _) | (refine Below.alloc ?_ (by first | omega | (simp; omega) | (simp; done)) _) | (refine Below.drew ?_))
 rintro W ⟨hvb, hzb, hb⟩
 have HVB := Lib.hid hvb
 have HZB := Lib.hid hzb
 have HB0 := Lib.hid hb
 obtain ⟨gp, hgp⟩ : ∃ g, g = w.heap.size := ⟨_, rfl⟩
 have HGP := Lib.hid hgp
 rw [← hgp] at HVB HZB
 rw [show w.heap.size = gp from hgp.symm]
 try simp only [Nat.add_assoc, Nat.reduceAdd]
 clear hvb hzb hb hgp
 obtain ⟨c0, c1, c2⟩ : (W.cell? ⟨gp, 0, none⟩ = some (.int .i64 v.x) ∧ W.cell? ⟨gp, 1, none⟩ = some (.int .i64 v.y) ∧ W.cell? ⟨gp, 2, none⟩ = some (.int .i64 v.z)) := ⟨(HVB.out 0 (by decide)).1, (HVB.out 1 (by decide)).1, (HVB.out 2 (by decide)).1⟩
 cases hq : withinB n 0 47 with
 | false =>
  rw [hq] at HIT
  have HE := Lib.hid (show E = 2 by rw [hE]; unfold tuE; rw [hq]; rfl)
  have HV := Lib.hid (show V = v0 by rw [hV]; unfold tuV; rw [← hE, HE.out]; rfl)
  clear hE hV hq
  go_wp2_with (go_at_call 125; refine (HIT.out _).mono ?_; rintro e w1 ⟨rfl, hb⟩; have HBE := Lib.hid hb; obtain ⟨⟨z0, y0⟩, ⟨z1, y1⟩, z2, y2⟩ := HZB.out.keep hb; clear hb)
  have HZP := Lib.hid (show VcBx (((w1.setCell ⟨gp + 1, 0, none⟩ (.int .i64 0)).setCell ⟨gp + 1, 1, none⟩ (.int .i64 0)).setCell ⟨gp + 1, 2, none⟩ (.int .i64 0)) (gp + 1) v0 from ZBx.put ⟨⟨z0, y0⟩, ⟨z1, y1⟩, z2, y2⟩ v0)
  have HBX := Lib.hid (show Below w.heap.size w (((w1.setCell ⟨gp + 1, 0, none⟩ (.int .i64 0)).setCell ⟨gp + 1, 1, none⟩ (.int .i64 0)).setCell ⟨gp + 1, 2, none⟩ (.int .i64 0)) from (((HB0.out.trans (HBE.out.mono HB0.out.size)).setCell (by have := HGP.out; simp only; omega) _).setCell (by have := HGP.out; simp only; omega) _).setCell (by have := HGP.out; simp only; omega) _)
  generalize (((w1.setCell ⟨gp + 1, 0, none⟩ (.int .i64 0)).setCell ⟨gp + 1, 1, none⟩ (.int .i64 0)).setCell ⟨gp + 1, 2, none⟩ (.int .i64 0)) = WZ at *
  obtain ⟨k0, k1, k2⟩ := HZP.out
  simp only [v0] at k0 k1 k2
  exact bodyPost_ret (v := .tuple #[.agg #[.int .i64 0, .int .i64 0, .int .i64 0], .int .i64 2]) (by simp [results, Tryz.results69, go_sem, k0, k1, k2]) rfl ⟨by rw [HE.out, HV.out]; rfl, HBX.out⟩
 | true =>
  rw [hq] at HIT
  have hn := withinB_true hq
  cases hf : farB v with
  | true =>
   rw [hf] at HRE
   have HE := Lib.hid (show E = 2 by rw [hE]; unfold tuE; rw [hq, hf]; rfl)
   have HV := Lib.hid (show V = v0 by rw [hV]; unfold tuV; rw [← hE, HE.out]; rfl)
   clear hE hV hq hf
   go_wp2_with (first | (go_at_call 125; refine (HIT.out _).mono ?_; rintro e w1 ⟨rfl, hb⟩; have HB1 := Lib.hid hb; have c0 := cell_keep hb c0; have c1 := cell_keep hb c1; have c2 := cell_keep hb c2; clear hb) | (go_at_call 131; refine (HRE.out _).mono ?_; rintro e w2 ⟨rfl, hb⟩; have HBE := Lib.hid (HB1.out.trans (hb.mono HB1.out.size)); obtain ⟨⟨z0, y0⟩, ⟨z1, y1⟩, z2, y2⟩ := HZB.out.keep HBE.out; clear hb))
   have HZP := Lib.hid (show VcBx (((w2.setCell ⟨gp + 1, 0, none⟩ (.int .i64 0)).setCell ⟨gp + 1, 1, none⟩ (.int .i64 0)).setCell ⟨gp + 1, 2, none⟩ (.int .i64 0)) (gp + 1) v0 from ZBx.put ⟨⟨z0, y0⟩, ⟨z1, y1⟩, z2, y2⟩ v0)
   have HBX := Lib.hid (show Below w.heap.size w (((w2.setCell ⟨gp + 1, 0, none⟩ (.int .i64 0)).setCell ⟨gp + 1, 1, none⟩ (.int .i64 0)).setCell ⟨gp + 1, 2, none⟩ (.int .i64 0)) from (((HB0.out.trans (HBE.out.mono HB0.out.size)).setCell (by have := HGP.out; simp only; omega) _).setCell (by have := HGP.out; simp only; omega) _).setCell (by have := HGP.out; simp only; omega) _)
   generalize (((w2.setCell ⟨gp + 1, 0, none⟩ (.int .i64 0)).setCell ⟨gp + 1, 1, none⟩ (.int .i64 0)).setCell ⟨gp + 1, 2, none⟩ (.int .i64 0)) = WZ at *
   obtain ⟨k0, k1, k2⟩ := HZP.out
   simp only [v0] at k0 k1 k2
   exact bodyPost_ret (v := .tuple #[.agg #[.int .i64 0, .int .i64 0, .int .i64 0], .int .i64 2]) (by simp [results, Tryz.results69, go_sem, k0, k1, k2]) rfl ⟨by rw [HE.out, HV.out]; rfl, HBX.out⟩
  | false =>
   rw [hf] at HRE
   have HE := Lib.hid (show E = 0 by rw [hE]; unfold tuE; rw [hq, hf]; rfl)
   have HV := Lib.hid (show V = ofT (trnN n) v by rw [hV]; unfold tuV; rw [← hE, HE.out]; rfl)
   have HOF := Lib.hid (fun W => of_any (trnN n) v (trnN_wf hn) ((farB_in.1 hf).mono (by decide)) W)
   rw [← HV.out] at HOF
   clear hE hV hq hf
   go_upto_region 3 with (first | (go_at_call 125; refine (HIT.out _).mono ?_; rintro e w1 ⟨rfl, hb⟩; have HB1 := Lib.hid hb; have c0 := cell_keep hb c0; have c1 := cell_keep hb c1; have c2 := cell_keep hb c2; clear hb) | (go_at_call 131; refine (HRE.out _).mono ?_; rintro e w2 ⟨rfl, hb⟩; have HB2 := Lib.hid (HB1.out.trans (hb.mono HB1.out.size)); have c0 := cell_keep hb c0; have c1 := cell_keep hb c1; have c2 := cell_keep hb c2; clear hb))
   have kx0 : ∀ y : KW (fun W' => Below w2.heap.size w2 W'), (y.w.cell? ⟨gp, 0, none⟩ = some (.int .i64 v.x) ∧ y.w.cell? ⟨gp, 1, none⟩ = some (.int .i64 v.y) ∧ y.w.cell? ⟨gp, 2, none⟩ = some (.int .i64 v.z)) := fun y => ⟨cell_keep y.ok c0, cell_keep y.ok c1, cell_keep y.ok c2⟩
   haveI nn1 : Nonempty (KW (fun W' => Below w2.heap.size w2 W')) := ⟨⟨w2, Below.refl _ _⟩⟩
   refine wp_region_tree (fun w' => ∃ y : KW (fun W' => Below w2.heap.size w2 W'), w' = y.w) 5 (.take 1 (.take 4 (.one 0 (.take 2 (.one 3 .done))))) hmix (by kernel_rfl) (KW.mk' (Below.refl _ _).drew) ?_
   have HC0 := Lib.hid (show Below w2.heap.size w2 w2.drew from (Below.refl _ _).drew)
   generalize w2.drew = wv at *
   repeat (refine wpTree_take ?_; simp only [nthOp]; (first | go_big_quiet_step (fail) | quiet_step (fail)); refine wpQuiet_nil ?_)
   refine wpTree_one ?_
   simp only [nthOp]
   go_wp2_with (go_at_call 126; refine (all_any _).mono ?_; rintro e w3 ⟨ta, tc, rfl, htv, hb⟩; have HTV := Lib.hid htv; have HC1 := Lib.hid (HC0.out.trans (hb.mono HC0.out.size)); clear htv hb)
   refine One_mk (KW.mk' HC1.out) ?_
   obtain ⟨tb, off, rfl, ⟨x0, x1, x2⟩, x3, x4, x5⟩ := trsV_at HTV.out hn
   have hn1 : n < 48 := by omega
   have hn0 : 0 ≤ n := hn.1
   (refine wpTree_take ?_; simp only [nthOp]; (first | go_big_quiet_step (fail) | quiet_step (fail)); refine wpQuiet_nil ?_)
   refine wpTree_one ?_
   simp only [nthOp]
   go_wp2_with fail
   refine One_mk (KW.mk' HC1.out) ?_
   clear kx0 nn1
   refine wpTree_done ?_
   simp only [List.drop_succ_cons, List.drop_zero]
   have HB3 := Lib.hid (HB2.out.trans (HC1.out.mono HB2.out.size))
   go_wp2_with (go_at_call 128; refine (HOF.out _).mono ?_; rintro e w4 ⟨rfl, hb⟩; have HB4 := Lib.hid (HB3.out.trans (hb.mono HB3.out.size)); clear hb; obtain ⟨⟨z0, y0⟩, ⟨z1, y1⟩, z2, y2⟩ := HZB.out.keep HB4.out; have HZP := Lib.hid (ZBx.put (HZB.out.keep HB4.out) V))
   refine NP_mk ?_
   have HBX := Lib.hid (show Below w.heap.size w (((w4.setCell ⟨gp + 1, 0, none⟩ (.int .i64 V.x)).setCell ⟨gp + 1, 1, none⟩ (.int .i64 V.y)).setCell ⟨gp + 1, 2, none⟩ (.int .i64 V.z)) from (((HB0.out.trans (HB4.out.mono HB0.out.size)).setCell (by have := HGP.out; simp only; omega) _).setCell (by have := HGP.out; simp only; omega) _).setCell (by have := HGP.out; simp only; omega) _)
   go_wp2_with fail
   generalize (((w4.setCell ⟨gp + 1, 0, none⟩ (.int .i64 V.x)).setCell ⟨gp + 1, 1, none⟩ (.int .i64 V.y)).setCell ⟨gp + 1, 2, none⟩ (.int .i64 V.z)) = WZ at *
   obtain ⟨k0, k1, k2⟩ := HZP.out
   exact bodyPost_ret (v := .tuple #[.agg #[.int .i64 V.x, .int .i64 V.y, .int .i64 V.z], .int .i64 0]) (by simp [results, Tryz.results69, go_sem, k0, k1, k2]) rfl ⟨by rw [HE.out], HBX.out⟩
end Go.Proofs.YtbhgkadklklmbaaGreat
/- The document's turned vector; the turn that does two turns. -/
set_option linter.unusedVariables false
set_option linter.unusedSimpArgs false
namespace Go.Proofs.YtbhgkadklklmbaaGreat
open Go Go.RowKit Go.Sort Go.Lib

set_option maxRecDepth 100000 in
set_option maxHeartbeats 4000000 in
theorem turnedR_any (v : Vec) (n : Int) (hn : 0 ≤ n ∧ n ≤ 47) (hv : v.in_ 1000000000000) (w : World) : Calls Tryz.prog 72 #[.agg #[.int .i64 v.x, .int .i64 v.y, .int .i64 v.z], .int .i64 n] w fun e w' => e = .returned (.agg #[.int .i64 (ofT (trnN n) v).x, .int .i64 (ofT (trnN n) v).y, .int .i64 (ofT (trnN n) v).z]) ∧ Below w.heap.size w w' := by
 have hmix : Tryz.prog.follows .mixedOrders = true := by kernel_rfl
 obtain ⟨V, hV⟩ : ∃ V, V = ofT (trnN n) v := ⟨_, rfl⟩
 have HOF := Lib.hid (fun W => image_any (trnN n) v (trnN_wf hn) hv W)
 rw [← hV] at HOF ⊢
 clear hV
 have hn1 : n < 48 := by omega
 have hn0 : 0 ≤ n := hn.1
 go_enter Tryz.func72, Tryz.ntmps72
 go_upto_region 1 with fail
 refine gen_world (fun W => VecV W w.heap.size v.at_ ∧ ZBx W (w.heap.size + 1) ∧ Below w.heap.size w W) ⟨vecV_at ⟨?_, ?_⟩ ⟨?_, ?_⟩ ⟨?_, ?_⟩, ⟨⟨?_, ?_⟩, ⟨?_, ?_⟩, ?_, ?_⟩, ?_⟩ ?_
 any_goals (simp [go_sem]; done)
 ·repeat (first | (with_reducible assumption) | exact Below.refl _ _ | (refine Below.setCell ?_ (by first | omega | (simp; omega) | (simp; done)) _) | (refine Below.alloc ?_ (by first | omega | (simp; omega) | (simp; done)) _) | (refine Below.drew ?_))
 rintro w2 ⟨hvb, hzb, hb⟩
 have HVB := Lib.hid hvb
 have HZB := Lib.hid hzb
 have HB0 := Lib.hid hb
 obtain ⟨gp, hgp⟩ : ∃ g, g = w.heap.size := ⟨_, rfl⟩
 have HGP := Lib.hid hgp
 rw [← hgp] at HVB HZB
 rw [show w.heap.size = gp from hgp.symm]
 try simp only [Nat.add_assoc, Nat.reduceAdd]
 clear hvb hzb hb hgp
 obtain ⟨c0, c1, c2⟩ : (w2.cell? ⟨gp, 0, none⟩ = some (.int .i64 v.x) ∧ w2.cell? ⟨gp, 1, none⟩ = some (.int .i64 v.y) ∧ w2.cell? ⟨gp, 2, none⟩ = some (.int .i64 v.z)) := ⟨(HVB.out 0 (by decide)).1, (HVB.out 1 (by decide)).1, (HVB.out 2 (by decide)).1⟩
 have kx0 : ∀ y : KW (fun W' => Below w2.heap.size w2 W'), (y.w.cell? ⟨gp, 0, none⟩ = some (.int .i64 v.x) ∧ y.w.cell? ⟨gp, 1, none⟩ = some (.int .i64 v.y) ∧ y.w.cell? ⟨gp, 2, none⟩ = some (.int .i64 v.z)) := fun y => ⟨cell_keep y.ok c0, cell_keep y.ok c1, cell_keep y.ok c2⟩
 haveI nn1 : Nonempty (KW (fun W' => Below w2.heap.size w2 W')) := ⟨⟨w2, Below.refl _ _⟩⟩
 refine wp_region_tree (fun w' => ∃ y : KW (fun W' => Below w2.heap.size w2 W'), w' = y.w) 5 (.take 1 (.take 4 (.one 0 (.take 2 (.one 3 .done))))) hmix (by kernel_rfl) (KW.mk' (Below.refl _ _).drew) ?_
 have HC0 := Lib.hid (show Below w2.heap.size w2 w2.drew from (Below.refl _ _).drew)
 generalize w2.drew = wv at *
 repeat (refine wpTree_take ?_; simp only [nthOp]; (first | go_big_quiet_step (fail) | quiet_step (fail)); refine wpQuiet_nil ?_)
 refine wpTree_one ?_
 simp only [nthOp]
 go_wp2_with (go_at_call 134; refine (turnsR_any _).mono ?_; rintro e w3 ⟨ta, tc, rfl, htv, hb⟩; have HTV := Lib.hid htv; have HC1 := Lib.hid (HC0.out.trans (hb.mono HC0.out.size)); clear htv hb)
 refine One_mk (KW.mk' HC1.out) ?_
 obtain ⟨tb, off, rfl, ⟨x0, x1, x2⟩, x3, x4, x5⟩ := trsV_at HTV.out hn
 (refine wpTree_take ?_; simp only [nthOp]; (first | go_big_quiet_step (fail) | quiet_step (fail)); refine wpQuiet_nil ?_)
 refine wpTree_one ?_
 simp only [nthOp]
 go_wp2_with fail
 refine One_mk (KW.mk' HC1.out) ?_
 clear kx0 nn1
 refine wpTree_done ?_
 simp only [List.drop_succ_cons, List.drop_zero]
 go_wp2_with (go_at_call 135; refine (HOF.out _).mono ?_; rintro e w4 ⟨rfl, hb⟩; have HB4 := Lib.hid (HC1.out.trans (hb.mono HC1.out.size)); clear hb; obtain ⟨⟨z0, y0⟩, ⟨z1, y1⟩, z2, y2⟩ := HZB.out.keep HB4.out; have HZP := Lib.hid (ZBx.put (HZB.out.keep HB4.out) V))
 refine NP_mk ?_
 have HBX := Lib.hid (show Below w.heap.size w (((w4.setCell ⟨gp + 1, 0, none⟩ (.int .i64 V.x)).setCell ⟨gp + 1, 1, none⟩ (.int .i64 V.y)).setCell ⟨gp + 1, 2, none⟩ (.int .i64 V.z)) from (((HB0.out.trans (HB4.out.mono HB0.out.size)).setCell (by have := HGP.out; simp only; omega) _).setCell (by have := HGP.out; simp only; omega) _).setCell (by have := HGP.out; simp only; omega) _)
 go_wp2_with fail
 generalize (((w4.setCell ⟨gp + 1, 0, none⟩ (.int .i64 V.x)).setCell ⟨gp + 1, 1, none⟩ (.int .i64 V.y)).setCell ⟨gp + 1, 2, none⟩ (.int .i64 V.z)) = WZ at *
 obtain ⟨k0, k1, k2⟩ := HZP.out
 exact bodyPost_ret (v := .agg #[.int .i64 V.x, .int .i64 V.y, .int .i64 V.z]) (by simp [results, Tryz.results72, go_sem, k0, k1, k2]) rfl ⟨rfl, HBX.out⟩

/-! Both. -/
end Go.Proofs.YtbhgkadklklmbaaGreat
/- A triple of numbers as an argument; turns that are right, and what the calls answer. -/
set_option linter.unusedVariables false
set_option linter.unusedSimpArgs false
namespace Go.Proofs.YtbhgkadklklmbaaGreat
open Go Go.ChangeShapes Go.WideShapes Go.ChangeAt Go.RowKit Go.Lib

theorem okWide_arr {P : Program} {w : World} {r : Reach} {base : Nat} {t e : TypeId} {n : Nat} {v : Value} (ht : P.underlying t = some (.array n e)) (h : Value.okWide P w r base t v) : ∃ cs, v = .agg cs ∧ cs.size = P.cellsOf t := by
 simp only [Value.okWide, ht] at h
 obtain ⟨cs, h1, h2, _⟩ := h
 exact ⟨cs, h1, h2⟩
theorem triple_open {H : Type} {enc : TypeId × Value → H} {w : World} {spare : Nat → Bool} {held : Bool} {fuel : Nat} {cs : List Value} {y : DataW H × List MemPlace} (h : DataW.trod enc Tryz.prog w 0 spare held fuel 105 cs = some y) :
    ∃ p q r : Int, cs = [.int .i64 p, .int .i64 q, .int .i64 r] ∧ ((-9223372036854775808 ≤ p ∧ p ≤ 9223372036854775807) ∧ (-9223372036854775808 ≤ q ∧ q ≤ 9223372036854775807) ∧ (-9223372036854775808 ≤ r ∧ r ≤ 9223372036854775807)) := by
 obtain ⟨xs, m, -, -, hl, hx, hi⟩ := DataW.trod_array Tryz.underlying105 h
 have hl2 : cs.length = 3 := hl.trans (by kernel_rfl)
 have h1 : Tryz.prog.cellsOf 3 = 1 := by kernel_rfl
 rw [h1] at hi
 match cs, hl2, xs, hx with
 | [c0, c1, c2], _, [y0, y1, y2], _ =>
  have t0 := hi 0 (by decide)
  have t1 := hi 1 (by decide)
  have t2 := hi 2 (by decide)
  simp at t0 t1 t2
  obtain ⟨n0, g0, -, q0⟩ := DataW.trod_int Tryz.underlying3 t0
  obtain ⟨n1, g1, -, q1⟩ := DataW.trod_int Tryz.underlying3 t1
  obtain ⟨n2, g2, -, q2⟩ := DataW.trod_int Tryz.underlying3 t2
  simp only [List.cons.injEq, and_true] at g0 g1 g2
  exact ⟨n0, n1, n2, by rw [g0, g1, g2], int_wf q0, int_wf q1, int_wf q2⟩
theorem farR_vec (v : Vec) (w : World) : Calls Tryz.prog 68 #[.agg #[.int .i64 v.x, .int .i64 v.y, .int .i64 v.z]] w fun e w' => e = .returned (.bool (farB v)) ∧ Below w.heap.size w w' := farR_any v.x v.y v.z w
end Go.Proofs.YtbhgkadklklmbaaGreat
