import Derived.Test.YtjmgboipbhddlaaGreatDoorAA3
set_option linter.unusedVariables false
set_option linter.unusedSimpArgs false
namespace Go.Proofs.YtjmgboipbhddlaaGreatDoor
open Go Go.RowKit Go.Sort Go.Lib

structure LyB (W : World) (g : Nat) (b : Int) (al : Option Addr) (n cl : Nat) : Prop where
 c0 : W.cell? ⟨g, 0, none⟩ = some (.int .i64 b)
 c1 : W.cell? ⟨g, 1, none⟩ = some (.slice al n cl)
theorem LyB.keep {W W' : World} {g : Nat} {b : Int} {al : Option Addr} {n cl : Nat} (h : LyB W g b al n cl) (hb : Below W.heap.size W W') : LyB W' g b al n cl := ⟨cell_keep hb h.c0, cell_keep hb h.c1⟩
theorem LyB.off {W : World} {g : Nat} {b : Int} {al : Option Addr} {n cl : Nat} (h : LyB W g b al n cl) {p : Addr} (hp : p.block ≠ g) {u : Value} : LyB (W.setCell p u) g b al n cl := by
 have hn : ∀ o, p ≠ (⟨g, o, none⟩ : Addr) := fun o e => hp (by rw [e])
 exact ⟨by rw [World.cell?_setCell_other (h := hn _)]; exact h.c0, by rw [World.cell?_setCell_other (h := hn _)]; exact h.c1⟩
theorem reg_nn {u : Rect} {kerf : Int} {l : List Cut} (h : (regM u kerf l).2 = 0) : ∀ j (hj : j < l.length), ¬ l[j].low = 0 → l[j].low = (lowN l j : Nat) ∧ l[j].high = (highN l j : Nat) := by
 obtain ⟨o, ho, hI⟩ := reg_inv (l := l) (u := u) (kerf := kerf) (fun i o r => ∀ j (hj : j < l.length), j < i → ¬ l[j].low = 0 → 0 ≤ l[j].low ∧ 0 ≤ l[j].high) h
  (fun j hj hj0 => by omega)
  (fun i o r hi h0 _ a j hj hji hc => by
   by_cases e : j = i
   ·subst e; exact absurd h0 hc
   ·exact a j hj (by omega) hc)
  (fun i o r lo hi hlt h1 h2 _ _ _ _ _ _ _ _ _ a j hj hji hc => by
   by_cases e : j = i
   ·subst e; rw [h1, h2]; exact ⟨by omega, by omega⟩
   ·exact a j hj (by omega) hc)
 intro j hj hc
 obtain ⟨h1, h2⟩ := hI j hj hj hc
 unfold lowN highN
 rw [cutF_get hj]
 exact ⟨by omega, by omega⟩
set_option maxRecDepth 100000 in
set_option maxHeartbeats 16000000 in
theorem areasR_any (j : Job) (plan : List Layout) (a1 : Option Addr) (c1 : Nat) (a2 : Option Addr) (c2 : Nat) (ap : Option Addr) (cp : Nat) (w : World) (hs : Boards.V w a1 j.stock) (hp : Layouts.V w ap plan) (hE : jobE j = 0) (hok : PlanOk j plan) (hpl : plan.length ≤ 1000) :
    Calls Tryz.prog 12 #[.agg #[.slice a1 j.stock.length c1, .slice a2 j.blanks.length c2, .int .i64 j.trim.kerf, .int .i64 j.trim.ends, .int .i64 j.trim.sides], .slice ap plan.length cp] w fun e w' => e = .returned (arsV (areasM j plan)) ∧ Below w.heap.size w w' := by
 have hmix : Tryz.prog.follows .mixedOrders = true := by kernel_rfl
 obtain ⟨AD, CD, hSC⟩ := stock_ch hs
 have HSC := Lib.hid hSC
 have HPV := Lib.hid hp
 have HJE := Lib.hid hE
 have HOK := Lib.hid hok
 clear hSC hs hp hE hok
 go_enter Tryz.func12, Tryz.ntmps12
 go_upto_region 1 with fail
 refine gen_world (fun W => JB W w.heap.size j a1 c1 a2 c2 ∧ ArsO W (w.heap.size + 1) ⟨0, 0, 0, 0⟩ ∧ Below w.heap.size w W ∧ w.heap.size + 1 < W.heap.size) ⟨⟨by simp [go_sem], by simp [go_sem], by simp [go_sem], by simp [go_sem], by simp [go_sem]⟩, ⟨by simp [go_sem], by simp [go_sem], by simp [go_sem], by simp [go_sem], by simp [go_sem], by simp [go_sem], by simp [go_sem], by simp [go_sem]⟩, by repeat (first | (with_reducible assumption) | exact Below.refl _ _ | (refine Below.setCell ?_ (by first | omega | (simp; omega) | (simp; done)) _) | (refine Below.alloc ?_ (by first | omega | (simp; omega) | (simp; done)) _) | (refine Below.drew ?_)), by simp⟩ ?_
 rintro W2 ⟨hC, hZ, hb, hz⟩
 obtain ⟨gj, hgj⟩ : ∃ g, g = w.heap.size := ⟨_, rfl⟩
 obtain ⟨g4, hg4⟩ : ∃ g, g = w.heap.size + 1 := ⟨_, rfl⟩
 rw [← hg4] at hZ hz
 rw [← hgj] at hC
 rw [← hg4, ← hgj]
 have HB2 := Lib.hid hb
 have HZ2 := Lib.hid hZ
 have HC2 := Lib.hid hC
 have HG := Lib.hid (show w.heap.size ≤ g4 from by omega)
 have HGW := Lib.hid (show gj < W2.heap.size from by omega)
 clear hb hZ hgj hg4 hz hC
 go_upto_region 2 with fail
 refine gen_world (fun W4 => ArSt W2 W4 W2.heap.size ⟨0, 0, 0, 0⟩) ⟨⟨by simp [go_sem], by simp [go_sem], by simp [go_sem], by simp [go_sem], by simp [go_sem], by simp [go_sem], by simp [go_sem], by simp [go_sem]⟩, by repeat (first | (with_reducible assumption) | exact Below.refl _ _ | (refine Below.setCell ?_ (by first | omega | (simp; omega) | (simp; done)) _) | (refine Below.alloc ?_ (by first | omega | (simp; omega) | (simp; done)) _) | (refine Below.drew ?_))⟩ ?_
 rintro W4 h4
 have H4 := Lib.hid h4
 obtain ⟨g5, hg5⟩ : ∃ g, g = W2.heap.size := ⟨_, rfl⟩
 rw [← hg5]
 have H4 := Lib.hid (show ArSt W2 W4 g5 ⟨0, 0, 0, 0⟩ from by rw [hg5]; exact H4.out)
 have HHOLD := Lib.hid (fun (w' : World) (h : Below g5 W2 w') => show JB w' gj j a1 c1 a2 c2 ∧ (ArsO w' g4 ⟨0, 0, 0, 0⟩ ∧ Below w.heap.size w w') from by
  rw [hg5] at h
  exact ⟨HC2.out.keep h HGW.out, HZ2.out.keep h, HB2.out.trans (h.mono HB2.out.size)⟩)
 clear hg5 h4
 go_wp2_with fail
 go_loopw [6] (fun iv wr => ∃ k : Nat, k ≤ plan.length ∧ iv = .int .i64 k ∧ Hid (ArSt W2 wr g5 (arPlan j plan k))) (fun iv _ => plan.length - (intOf iv).toNat)
 case atStart => exact ⟨0, Nat.zero_le _, rfl, H4⟩
 case round =>
  obtain ⟨k, hk, rfl, HP⟩ := hrel
  obtain ⟨wo, rfl⟩ : ∃ wo : World, wo = wr := ⟨_, rfl⟩
  by_cases hlt : k < plan.length
  ·have hki : (k : Int) < (plan.length : Int) := by omega
   have v1 : IntKind.i64.wrap ((k : Int) + 1) = (k : Int) + 1 := IntWalk.i64_in _ (by omega)
   obtain ⟨⟨q0, q1, q2, q3, q4⟩, -, hbw⟩ := HHOLD.out wo HP.out.b
   have HST := Lib.hid (arPlan_step (j := j) hlt)
   have hbd := arPlan_bd HJE.out HOK.out k hk
   have HPB := Lib.hid (show (arPlan j plan k).bd 1000000000000000000 from hbd.mono (by omega))
   obtain ⟨⟨hb0, hb1⟩, hl0⟩ := HOK.out _ (List.getElem_mem hlt)
   have hst := (jobOk_of HJE.out).lenS
   obtain ⟨gp, offp, hap, al, cl, m0, m1, hcv, hcl, -, hwf⟩ := HPV.out.at_ hlt
   subst hap
   obtain ⟨L, hL⟩ : ∃ L, L = plan[k] := ⟨_, rfl⟩
   have HEQ := Lib.hid (show plan[k] = L from hL.symm)
   rw [← hL] at hb0 hb1 hl0 HST m0 m1 hcv hcl hwf
   clear hL hwf hbd
   obtain ⟨lb, cs⟩ := L
   simp only at hb0 hb1 hl0 m0 m1 hcv hcl HST
   obtain ⟨hlr, hl4, hall⟩ := lay_okR (l := ⟨lb, cs⟩) HJE.out ⟨hb0, hb1⟩ hl0
   obtain ⟨nb, hnb⟩ : ∃ nb : Nat, lb = nb := ⟨lb.toNat, by omega⟩
   subst hnb
   have hnbs : nb < j.stock.length := by omega
   obtain ⟨R, hRq⟩ : ∃ R, (layOf j ⟨(nb : Int), cs⟩).1 = R := ⟨_, rfl⟩
   rw [hRq] at hlr hall HST
   simp only at hlr hl4
   have hne := lay_some (l := ⟨(nb : Int), cs⟩) (rs := R) (by rw [← hRq, ← hl0])
   obtain ⟨⟨gs, off, has, hcb⟩, hrvb, -⟩ := HSC.out.ch nb _ (List.getElem?_eq_getElem hnbs)
   subst has
   have HCE := Lib.hid (job_cut HJE.out (List.getElem_mem hnbs))
   have HLY := Lib.hid (show regM (usableR j.stock[nb] j.trim) j.trim.kerf cs = (R, 0) by
    rw [← hRq, ← hl0]; unfold layOf; simp only [Int.toNat_natCast]; rw [List.getD_eq_getElem?_getD, List.getElem?_eq_getElem hnbs]; rfl)
   have HBA := Lib.hid (bdA_bd (jobOk_of HJE.out) (l := ⟨(nb : Int), cs⟩) ⟨hb0, hb1⟩)
   have HBQ := Lib.hid (show bdA j ⟨(nb : Int), cs⟩ = j.stock[nb].length * j.stock[nb].width by unfold bdA; simp only [Int.toNat_natCast]; rw [List.getD_eq_getElem?_getD, List.getElem?_eq_getElem hnbs]; rfl)
   obtain ⟨s0, s1, s2, s3, s4, s5, s6, s7⟩ := hcb.keep hbw
   generalize AD nb = ad at *
   generalize CD nb = cd at *
   generalize j.stock[nb] = b at *
   have hbi : (nb : Int) < (j.stock.length : Int) := by omega
   have HCVw := Lib.hid (show Cuts.V w al cs from hcv)
   have HRL := Lib.hid hlr
   have HAL := Lib.hid hall
   have HRQ := Lib.hid hRq
   have m0 := cell_keep hbw m0
   have m1 := cell_keep hbw m1
   clear hcb hrvb hl0 hb0 hb1 hcv hall hlr hRq
   go_upto_region 6 with fail
   refine gen_world (fun W5 => LyB W5 wo.heap.size (nb : Int) al cs.length cl ∧ Below wo.heap.size wo W5 ∧ wo.heap.size < W5.heap.size) ⟨⟨by simp [go_sem], by simp [go_sem]⟩, by repeat (first | (with_reducible assumption) | exact Below.refl _ _ | (refine Below.setCell ?_ (by first | omega | (simp; omega) | (simp; done)) _) | (refine Below.alloc ?_ (by first | omega | (simp; omega) | (simp; done)) _) | (refine Below.drew ?_)), by simp⟩ ?_
   rintro W6 ⟨hld, hb6, hz6⟩
   obtain ⟨g7, hg7⟩ : ∃ g, g = wo.heap.size := ⟨_, rfl⟩
   rw [← hg7] at hld hz6 ⊢
   have HLDa := Lib.hid hld
   have HG7 := Lib.hid hg7
   clear hg7
   obtain ⟨e0, e1⟩ := hld
   have q0 := cell_keep hb6 q0
   have q2 := cell_keep hb6 q2
   have q3 := cell_keep hb6 q3
   have q4 := cell_keep hb6 q4
   have s0 := cell_keep hb6 s0
   have s1 := cell_keep hb6 s1
   have s2 := cell_keep hb6 s2
   have s3 := cell_keep hb6 s3
   have s4 := cell_keep hb6 s4
   have s5 := cell_keep hb6 s5
   have s6 := cell_keep hb6 s6
   have s7 := cell_keep hb6 s7
   go_upto_region 7 with fail
   refine gen_world (fun W5 => CellsBd W5 W6.heap.size 0 b ad cd ∧ Below W6.heap.size W6 W5) ⟨⟨by simp [go_sem], by simp [go_sem], by simp [go_sem], by simp [go_sem], by simp [go_sem], by simp [go_sem], by simp [go_sem], by simp [go_sem]⟩, by repeat (first | (with_reducible assumption) | exact Below.refl _ _ | (refine Below.setCell ?_ (by first | omega | (simp; omega) | (simp; done)) _) | (refine Below.alloc ?_ (by first | omega | (simp; omega) | (simp; done)) _) | (refine Below.drew ?_))⟩ ?_
   rintro W5 ⟨hcb, hb56⟩
   have hb5 := hb6.trans (hb56.mono hb6.size)
   have hld := HLDa.out.keep hb56
   have hz5 : g7 < W5.heap.size := Nat.lt_of_lt_of_le hz6 hb56.size
   obtain ⟨g8, hg8⟩ : ∃ g, g = W6.heap.size := ⟨_, rfl⟩
   rw [← hg8] at hcb ⊢
   have q2 := cell_keep hb56 q2
   have q3 := cell_keep hb56 q3
   have q4 := cell_keep hb56 q4
   clear e0 e1 hg8 hb6 hb56 hz6 HLDa q0 q1 s0 s1 s2 s3 s4 s5 s6 s7 m0 m1
   have HLD := Lib.hid hld
   have HP5 := Lib.hid (HP.out.keep hb5)
   have HN5 := Lib.hid (show g5 ≠ g7 from by have h1 := HP.out.o.lt; have h2 := HG7.out; omega)
   have HZ5 := Lib.hid (show g5 < W5.heap.size from HP5.out.o.lt)
   have HCB := Lib.hid hcb
   obtain ⟨e0, e1⟩ := hld
   obtain ⟨d0, d1, d2, d3, d4, d5, d6, d7⟩ := hcb
   simp only [Nat.zero_add] at d0 d1 d2 d3 d4 d5 d6 d7
   have HCU := Lib.hid ((HCVw.out.keep hbw).keep hb5)
   have hl5 : cs.length ≤ 100000 := by omega
   have HRGN := Lib.hid (fun w9 h => refRegions_any b j.trim cs ad al cd cl w9 HCE.out h hl5)
   rw [HLY.out] at HRGN
   go_upto_region 8 with (go_at_call 33; refine (HRGN.out _ HCU.out).mono ?_; rintro e W7 ⟨ar, cr, rfl, hv, hb7, hnw⟩; have HNW := Lib.hid hnw; have HRV := Lib.hid hv; have HB7 := Lib.hid hb7; clear hnw hv hb7)
   have HNE := Lib.hid (show ∀ x, ar = some x → some g5 ≠ some x.block from fun x hx e => by have h1 := HNW.out x hx; have h2 := HZ5.out; injection e with e; omega)
   have HP7 := Lib.hid (HP5.out.keep HB7.out)
   have HLD7 := Lib.hid (HLD.out.keep HB7.out)
   obtain ⟨-, -, d2, d3, -, -, -, -⟩ := HCB.out.keep HB7.out
   simp only [Nat.zero_add] at d2 d3
   have hRn : 0 < R.length := List.length_pos_iff.2 hne
   obtain ⟨rb, ro, har, r0, r1, r2, r3, -⟩ := HRV.out.at_ hRn
   subst har
   simp only [Nat.zero_mul, Nat.add_zero] at r0 r1 r2 r3
   have HR0 := Lib.hid (show R[0] = rectF R 0 from by unfold rectF; rw [List.getD_eq_getElem?_getD, List.getElem?_eq_getElem hRn]; rfl)
   obtain ⟨A0, hA0⟩ : ∃ A, areaK R[0] = A := ⟨_, rfl⟩
   have hokr := HAL.out _ (List.getElem_mem hRn)
   have HAK := Lib.hid (fun w9 => areaF_is R[0] A0 w9 hokr hA0)
   have hkb := areaK_bd hokr
   rw [hA0] at hkb
   have HA0 := Lib.hid (show areaK (rectF R 0) = A0 by rw [← HR0.out]; exact hA0)
   obtain ⟨LW, hLW⟩ : ∃ q, b.length * b.width = q := ⟨_, rfl⟩
   have hlw := HBA.out
   rw [HBQ.out, hLW] at hlw
   have HLW := Lib.hid (show bdA j ⟨(nb : Int), cs⟩ = LW by rw [HBQ.out, hLW])
   obtain ⟨⟨hp1, hp2⟩, ⟨hp3, hp4⟩, ⟨hp5, hp6⟩, hp7, hp8⟩ := HPB.out
   obtain ⟨a, ha⟩ : ∃ a, arPlan j plan k = a := ⟨_, rfl⟩
   rw [ha] at HP7 HST hp7 hp8
   have w1 : IntKind.i64.wrap (b.length * b.width) = LW := by rw [hLW]; exact IntWalk.i64_in _ (by omega)
   have w2 : IntKind.i64.wrap (a.trim + LW) = a.trim + LW := IntWalk.i64_in _ (by omega)
   have w3 : IntKind.i64.wrap (a.trim + LW - A0) = a.trim + LW - A0 := IntWalk.i64_in _ (by omega)
   have HBG := Lib.hid (show a.put 3 (a.trim + LW - A0) = arBegin j ⟨(nb : Int), cs⟩ R a by unfold arBegin Ars.put; rw [HLW.out, HA0.out]; simp; omega)
   have hab := (arPlan_bd HJE.out HOK.out k hk)
   rw [ha] at hab
   have HAB := Lib.hid (show (arBegin j ⟨(nb : Int), cs⟩ R a).bd (1000000000000000 * k + 1000000000000) from by
    have hpo := HOK.out _ (List.getElem_mem hlt)
    rw [HEQ.out] at hpo
    exact arBegin_bd (jobOk_of HJE.out) hpo.1 HAL.out hab)
   have HNR := Lib.hid (fun m (hm : m < cs.length) (hlo : ¬ (cutF cs m).low = 0) => show NodeR cs j.trim.kerf (rectF R) m from by
    have hpo := HOK.out _ (List.getElem_mem hlt)
    rw [HEQ.out] at hpo
    rw [← HRQ.out]
    exact (reg_struct (show (regM (usableR (j.stock.getD (nb : Int).toNat default) j.trim) j.trim.kerf cs).2 = 0 from hpo.2)).2 m hm hlo)
   have HNN0 := Lib.hid (show ∀ m (hm : m < cs.length), ¬ cs[m].low = 0 → cs[m].low = (lowN cs m : Nat) ∧ cs[m].high = (highN cs m : Nat) from by
    have hpo := HOK.out _ (List.getElem_mem hlt)
    rw [HEQ.out] at hpo
    exact reg_nn (show (regM (usableR (j.stock.getD (nb : Int).toNat default) j.trim) j.trim.kerf cs).2 = 0 from hpo.2))
   generalize R[0] = rr0 at *
   clear hp1 hp2 hp3 hp4 hp5 hp6 hp7 hp8 ha hab hLW hlw hkb hA0 hokr q2 q3 q4 hb5 hbw e0 e1 d0 d1 d4 d5 d6 d7 HCU HRGN
   obtain ⟨m0, m1, m2, m3, mf0, mf1, mf2, mf3⟩ := HP7.out.o
   have kx0 : ∀ u : KW (fun W' => Below W7.heap.size W7 W'), (u.w.cell? ⟨g5, 3, none⟩ = some (.int .i64 a.trim) ∧ u.w.cell? ⟨g8, 2, none⟩ = some (.int .i64 b.length) ∧ u.w.cell? ⟨g8, 3, none⟩ = some (.int .i64 b.width)) ∧ u.w.cell? ⟨rb, ro, none⟩ = some (.int .i64 rr0.x1) ∧ u.w.cell? ⟨rb, ro + 1, none⟩ = some (.int .i64 rr0.y1) ∧ u.w.cell? ⟨rb, ro + 2, none⟩ = some (.int .i64 rr0.x2) ∧ u.w.cell? ⟨rb, ro + 3, none⟩ = some (.int .i64 rr0.y2) := fun u => ⟨⟨cell_keep u.ok m3, cell_keep u.ok d2, cell_keep u.ok d3⟩, cell_keep u.ok r0, cell_keep u.ok r1, cell_keep u.ok r2, cell_keep u.ok r3⟩
   have hR0 : (0 : Int) < (R.length : Int) := by omega
   haveI nn1 : Nonempty (KW (fun W' => Below W7.heap.size W7 W')) := ⟨⟨W7, Below.refl _ _⟩⟩
   refine wp_region_tree (fun w' => ∃ u : KW (fun W' => Below W7.heap.size W7 W'), w' = u.w) 12 (.take 0 (.take 1 (.take 2 (.take 3 (.take 4 (.take 5 (.take 6 (.take 7 (.take 8 (.take 9 (.take 10 (.one 11 .done)))))))))))) hmix (by kernel_rfl) (KW.mk' (Below.refl _ _).drew) ?_
   have HCz := Lib.hid (show Below W7.heap.size W7 W7.drew from (Below.refl _ _).drew)
   clear m0 m1 m2 m3 mf0 mf1 mf2 mf3 d2 d3 r0 r1 r2 r3
   generalize W7.drew = wz at *
   repeat (refine wpTree_take ?_; simp only [nthOp]; (first | go_big_quiet_step (fail) | quiet_step (fail)); refine wpQuiet_nil ?_)
   refine wpTree_one ?_
   simp only [nthOp]
   go_wp2_with (go_at_call 38; refine (HAK.out _).mono ?_; rintro e wa ⟨rfl, hb⟩; have HCa := Lib.hid (HCz.out.trans (hb.mono HCz.out.size)); clear hb)
   refine One_mk (KW.mk' HCa.out) ?_
   refine wpTree_done ?_
   simp only [List.drop_succ_cons, List.drop_zero]
   have HP6 := Lib.hid (HP7.out.keep HCa.out)
   have HLD6 := Lib.hid (HLD7.out.keep HCa.out)
   have HRV6 := Lib.hid (HRV.out.keep HCa.out)
   clear kx0 nn1 HCz HCa
   obtain ⟨m0, m1, m2, m3, mf0, mf1, mf2, mf3⟩ := HP6.out.o
   go_wp2_with fail
   refine NP_mk ?_
   go_upto_region 9 with fail
   refine gen_world (fun W9 => ArSt W2 W9 g5 (arBegin j ⟨(nb : Int), cs⟩ R a) ∧ LyB W9 g7 (nb : Int) al cs.length cl ∧ Rects.V W9 (some ⟨rb, ro, none⟩) R) ⟨by rw [← HBG.out]; exact HP6.out.set 3 _, HLD6.out.off (p := ⟨g5, 3, none⟩) HN5.out, HRV6.out.far (grownBy_set (a := ⟨g5, 3, none⟩)) HNE.out⟩ ?_
   rintro W9 ⟨h7, l7, rv9⟩
   have HP9 := Lib.hid h7
   have HLD9 := Lib.hid l7
   have HRV9 := Lib.hid rv9
   obtain ⟨A1, hA1⟩ : ∃ A, arBegin j ⟨(nb : Int), cs⟩ R a = A := ⟨_, rfl⟩
   rw [hA1] at HP9 HAB HST
   clear m0 m1 m2 m3 mf0 mf1 mf2 mf3 hA1 h7 l7 rv9 HBG HP6 HLD6 HRV6 w1 w2 w3 HAK HR0 HA0
   go_wp2_with fail
   go_loopw [11] (fun iv wr => ∃ m : Nat, m ≤ cs.length ∧ iv = .int .i64 m ∧ Hid (ArSt W2 wr g5 (arTo ⟨(nb : Int), cs⟩ R A1 m)) ∧ Hid (LyB wr g7 (nb : Int) al cs.length cl) ∧ Hid (Rects.V wr (some ⟨rb, ro, none⟩) R)) (fun iv _ => cs.length - (intOf iv).toNat)
   case atStart => exact ⟨0, Nat.zero_le _, rfl, HP9, HLD9, HRV9⟩
   case round =>
    obtain ⟨m, hm, rfl, HQ, HL, HRW⟩ := hrel
    obtain ⟨wi, rfl⟩ : ∃ wi : World, wi = wr := ⟨_, rfl⟩
    obtain ⟨e0, e1⟩ := HL.out
    by_cases hmlt : m < cs.length
    ·have hmi : (m : Int) < (cs.length : Int) := by omega
     have v2 : IntKind.i64.wrap ((m : Int) + 1) = (m : Int) + 1 := IntWalk.i64_in _ (by omega)
     have hbz := (HHOLD.out wi HQ.out.b).2.2
     obtain ⟨gc, oc, hac, x0, x1, x2, x3, x4, -⟩ := (HCVw.out.keep hbz).at_ hmlt
     subst hac
     have hmR : m < R.length := by rw [HRL.out]; exact hmlt
     have hmRi : (m : Int) < (R.length : Int) := by omega
     obtain ⟨rb2, ro2, har2, r0, r1, r2, r3, -⟩ := HRW.out.at_ hmR
     injection har2 with har2
     injection har2 with hb1 hb2 _
     subst hb1 hb2
     have HCF := Lib.hid (show cutF cs m = cs[m] from cutF_get hmlt)
     have HRF := Lib.hid (show rectF R m = R[m] from by unfold rectF; rw [List.getD_eq_getElem?_getD, List.getElem?_eq_getElem hmR]; rfl)
     have HSP := Lib.hid (show arTo ⟨(nb : Int), cs⟩ R A1 (m + 1) = arStep ⟨(nb : Int), cs⟩ R m (arTo ⟨(nb : Int), cs⟩ R A1 m) from rfl)
     have hqb := (arTo_bd (l := ⟨(nb : Int), cs⟩) HAL.out HAB.out m).mono (show 1000000000000000 * (k : Int) + 1000000000000 + 1000000000000 * m ≤ 3000000000000000000 by omega)
     have hokr := HAL.out _ (List.getElem_mem hmR)
     have HND := Lib.hid (HNR.out m hmlt)
     have HNN := Lib.hid (HNN0.out m hmlt)
     obtain ⟨aq, haq⟩ : ∃ q, arTo ⟨(nb : Int), cs⟩ R A1 m = q := ⟨_, rfl⟩
     rw [haq] at HQ HSP hqb
     rw [HCF.out] at HND
     obtain ⟨AM, hAM⟩ : ∃ A, areaK R[m] = A := ⟨_, rfl⟩
     have hamb := areaK_bd hokr
     rw [hAM] at hamb
     have HAM := Lib.hid (show areaK (rectF R m) = AM by rw [HRF.out]; exact hAM)
     have HAK := Lib.hid (fun w9 => areaF_is R[m] AM w9 hokr hAM)
     have HOKR := Lib.hid hokr
     generalize R[m] = rm at *
     generalize cs[m] = c at *
     obtain ⟨⟨hp1, hp2⟩, ⟨hp3, hp4⟩, ⟨hp5, hp6⟩, hp7, hp8⟩ := hqb
     clear haq hAM hokr hbz
     go_upto_region 14 with fail
     refine gen_world (fun W8 => CellsX W8 wi.heap.size c ∧ Below wi.heap.size wi W8) ⟨⟨by simp [go_sem], by simp [go_sem], by simp [go_sem], by simp [go_sem], by simp [go_sem]⟩, by repeat (first | (with_reducible assumption) | exact Below.refl _ _ | (refine Below.setCell ?_ (by first | omega | (simp; omega) | (simp; done)) _) | (refine Below.alloc ?_ (by first | omega | (simp; omega) | (simp; done)) _) | (refine Below.drew ?_))⟩ ?_
     rintro W8 ⟨⟨y0, y1, y2, y3, y4⟩, hb8⟩
     obtain ⟨g12, hg12⟩ : ∃ g, g = wi.heap.size := ⟨_, rfl⟩
     rw [← hg12] at y0 y1 y2 y3 y4 ⊢
     have HQ8 := Lib.hid (HQ.out.keep hb8)
     have HL8 := Lib.hid (HL.out.keep hb8)
     have HR8 := Lib.hid (HRW.out.keep hb8)
     have r0 := cell_keep hb8 r0
     have r1 := cell_keep hb8 r1
     have r2 := cell_keep hb8 r2
     have r3 := cell_keep hb8 r3
     clear hb8 hg12 x0 x1 x2 x3 x4 e0 e1
     by_cases hlo : c.low = 0
     ·have k1 : IntKind.i64.wrap (aq.waste + AM) = aq.waste + AM := IntWalk.i64_in _ (by omega)
      have k0 : IntKind.i64.wrap (aq.pieces + AM) = aq.pieces + AM := IntWalk.i64_in _ (by omega)
      by_cases hbk : 0 ≤ c.blank
      ·have hbk2 : c.blank ≥ 0 := hbk
       have HW := Lib.hid (show arTo ⟨(nb : Int), cs⟩ R A1 (m + 1) = aq.put 0 (aq.pieces + AM) from by
        rw [HSP.out]; unfold arStep Ars.put
        simp only [HCF.out]
        rw [if_neg (fun h => h hlo), if_pos hbk, HAM.out]
        simp)
       go_upto_region 17 with fail
       obtain ⟨m0, m1, m2, m3, -, -, -, -⟩ := HQ8.out.o
       have kx0 : ∀ u : KW (fun W' => Below W8.heap.size W8 W'), u.w.cell? ⟨g5, 0, none⟩ = some (.int .i64 aq.pieces) ∧ u.w.cell? ⟨rb, ro + m * 4, none⟩ = some (.int .i64 rm.x1) ∧ u.w.cell? ⟨rb, ro + m * 4 + 1, none⟩ = some (.int .i64 rm.y1) ∧ u.w.cell? ⟨rb, ro + m * 4 + 2, none⟩ = some (.int .i64 rm.x2) ∧ u.w.cell? ⟨rb, ro + m * 4 + 3, none⟩ = some (.int .i64 rm.y2) := fun u => ⟨cell_keep u.ok m0, cell_keep u.ok r0, cell_keep u.ok r1, cell_keep u.ok r2, cell_keep u.ok r3⟩
       haveI nn2 : Nonempty (KW (fun W' => Below W8.heap.size W8 W')) := ⟨⟨W8, Below.refl _ _⟩⟩
       clear y0 y1 y2 y3 y4 r0 r1 r2 r3 m0 m1 m2 m3
       refine wp_region_tree (fun w' => ∃ u : KW (fun W' => Below W8.heap.size W8 W'), w' = u.w) 7 (.take 0 (.take 1 (.take 2 (.take 3 (.take 4 (.take 5 (.one 6 .done))))))) hmix (by kernel_rfl) (KW.mk' (Below.refl _ _).drew) ?_
       have HCz := Lib.hid (show Below W8.heap.size W8 W8.drew from (Below.refl _ _).drew)
       generalize W8.drew = wz at *
       repeat (refine wpTree_take ?_; simp only [nthOp]; (first | go_big_quiet_step (fail) | quiet_step (fail)); refine wpQuiet_nil ?_)
       refine wpTree_one ?_
       simp only [nthOp]
       go_wp2_with (go_at_call 38; refine (HAK.out _).mono ?_; rintro e wa ⟨rfl, hb⟩; have HCa := Lib.hid (HCz.out.trans (hb.mono HCz.out.size)); clear hb)
       refine One_mk (KW.mk' HCa.out) ?_
       refine wpTree_done ?_
       simp only [List.drop_succ_cons, List.drop_zero]
       (have HQA := Lib.hid (HQ8.out.keep HCa.out); have HLA := Lib.hid (HL8.out.keep HCa.out); have HRA := Lib.hid (HR8.out.keep HCa.out))
       clear kx0 nn2 HCz HCa
       obtain ⟨m0, m1, m2, m3, mf0, mf1, mf2, mf3⟩ := HQA.out.o
       go_wp2_with fail
       refine NP_mk ?_
       go_wp2_with fail
       go_roundw
       case rel => exact ⟨m + 1, by omega, by go_num, by rw [HW.out]; exact Lib.hid (HQA.out.set 0 _), Lib.hid (HLA.out.off (p := ⟨g5, 0, none⟩) HN5.out), Lib.hid (HRA.out.far (grownBy_set (a := ⟨g5, 0, none⟩)) HNE.out)⟩
       case measure => first | (simp [intOf]; done) | (simp [intOf]; omega)
      ·have hbk2 : ¬ c.blank ≥ 0 := hbk
       have HW := Lib.hid (show arTo ⟨(nb : Int), cs⟩ R A1 (m + 1) = aq.put 1 (aq.waste + AM) from by
        rw [HSP.out]; unfold arStep Ars.put
        simp only [HCF.out]
        rw [if_neg (fun h => h hlo), if_neg hbk, HAM.out]
        simp)
       go_upto_region 13 with fail
       obtain ⟨m0, m1, m2, m3, -, -, -, -⟩ := HQ8.out.o
       have kx0 : ∀ u : KW (fun W' => Below W8.heap.size W8 W'), u.w.cell? ⟨g5, 1, none⟩ = some (.int .i64 aq.waste) ∧ u.w.cell? ⟨rb, ro + m * 4, none⟩ = some (.int .i64 rm.x1) ∧ u.w.cell? ⟨rb, ro + m * 4 + 1, none⟩ = some (.int .i64 rm.y1) ∧ u.w.cell? ⟨rb, ro + m * 4 + 2, none⟩ = some (.int .i64 rm.x2) ∧ u.w.cell? ⟨rb, ro + m * 4 + 3, none⟩ = some (.int .i64 rm.y2) := fun u => ⟨cell_keep u.ok m1, cell_keep u.ok r0, cell_keep u.ok r1, cell_keep u.ok r2, cell_keep u.ok r3⟩
       haveI nn2 : Nonempty (KW (fun W' => Below W8.heap.size W8 W')) := ⟨⟨W8, Below.refl _ _⟩⟩
       clear y0 y1 y2 y3 y4 r0 r1 r2 r3 m0 m1 m2 m3
       refine wp_region_tree (fun w' => ∃ u : KW (fun W' => Below W8.heap.size W8 W'), w' = u.w) 7 (.take 0 (.take 1 (.take 2 (.take 3 (.take 4 (.take 5 (.one 6 .done))))))) hmix (by kernel_rfl) (KW.mk' (Below.refl _ _).drew) ?_
       have HCz := Lib.hid (show Below W8.heap.size W8 W8.drew from (Below.refl _ _).drew)
       generalize W8.drew = wz at *
       repeat (refine wpTree_take ?_; simp only [nthOp]; (first | go_big_quiet_step (fail) | quiet_step (fail)); refine wpQuiet_nil ?_)
       refine wpTree_one ?_
       simp only [nthOp]
       go_wp2_with (go_at_call 38; refine (HAK.out _).mono ?_; rintro e wa ⟨rfl, hb⟩; have HCa := Lib.hid (HCz.out.trans (hb.mono HCz.out.size)); clear hb)
       refine One_mk (KW.mk' HCa.out) ?_
       refine wpTree_done ?_
       simp only [List.drop_succ_cons, List.drop_zero]
       (have HQA := Lib.hid (HQ8.out.keep HCa.out); have HLA := Lib.hid (HL8.out.keep HCa.out); have HRA := Lib.hid (HR8.out.keep HCa.out))
       clear kx0 nn2 HCz HCa
       obtain ⟨m0, m1, m2, m3, mf0, mf1, mf2, mf3⟩ := HQA.out.o
       go_wp2_with fail
       refine NP_mk ?_
       go_wp2_with fail
       go_roundw
       case rel => exact ⟨m + 1, by omega, by go_num, by rw [HW.out]; exact Lib.hid (HQA.out.set 1 _), Lib.hid (HLA.out.off (p := ⟨g5, 1, none⟩) HN5.out), Lib.hid (HRA.out.far (grownBy_set (a := ⟨g5, 1, none⟩)) HNE.out)⟩
       case measure => first | (simp [intOf]; done) | (simp [intOf]; omega)
     ·have HN := HND.out hlo
      obtain ⟨hcl1, hcl2⟩ := HNN.out hlo
      obtain ⟨nl, hnl⟩ : ∃ n : Nat, lowN cs m = n := ⟨_, rfl⟩
      obtain ⟨nh, hnh⟩ : ∃ n : Nat, highN cs m = n := ⟨_, rfl⟩
      have hlo3 := HN.lo
      have hhi3 := HN.hi
      rw [hnl] at hlo3 hcl1
      rw [hnh] at hhi3 hcl2
      have hlR : nl < R.length := by rw [HRL.out]; exact hlo3
      have hhR : nh < R.length := by rw [HRL.out]; exact hhi3
      have hlRi : (nl : Int) < (R.length : Int) := by omega
      have hhRi : (nh : Int) < (R.length : Int) := by omega
      have hln : ¬ ((nl : Int)) = 0 := by rw [← hcl1]; exact hlo
      have hlq : (((nl : Int)) != 0) = true := by simpa using hln
      obtain ⟨rb3, ro3, har3, s0, s1, s2, s3, -⟩ := HR8.out.at_ hlR
      injection har3 with har3
      injection har3 with hb1 hb2 _
      subst hb1 hb2
      obtain ⟨rb4, ro4, har4, t0, t1, t2, t3, -⟩ := HR8.out.at_ hhR
      injection har4 with har4
      injection har4 with hb1 hb2 _
      subst hb1 hb2
      have HLF := Lib.hid (show rectF R nl = R[nl] from by unfold rectF; rw [List.getD_eq_getElem?_getD, List.getElem?_eq_getElem hlR]; rfl)
      have HHF := Lib.hid (show rectF R nh = R[nh] from by unfold rectF; rw [List.getD_eq_getElem?_getD, List.getElem?_eq_getElem hhR]; rfl)
      obtain ⟨AL, hAL⟩ : ∃ A, areaK R[nl] = A := ⟨_, rfl⟩
      obtain ⟨AH, hAH⟩ : ∃ A, areaK R[nh] = A := ⟨_, rfl⟩
      have hkl := HAL.out _ (List.getElem_mem hlR)
      have hkh := HAL.out _ (List.getElem_mem hhR)
      have hlb := areaK_bd hkl
      have hhb := areaK_bd hkh
      rw [hAL] at hlb
      rw [hAH] at hhb
      have HKL := Lib.hid (fun w9 => areaF_is R[nl] AL w9 hkl hAL)
      have HKH := Lib.hid (fun w9 => areaF_is R[nh] AH w9 hkh hAH)
      have HW := Lib.hid (show arTo ⟨(nb : Int), cs⟩ R A1 (m + 1) = aq.put 2 (aq.kerf + AM - AL - AH) from by
       rw [HSP.out]; unfold arStep Ars.put cutA
       simp only [HCF.out]
       rw [if_pos hlo, HAM.out, hnl, hnh, HLF.out, HHF.out, hAL, hAH]
       simp; omega)
      have k2 : IntKind.i64.wrap (aq.kerf + AM) = aq.kerf + AM := IntWalk.i64_in _ (by omega)
      have k3 : IntKind.i64.wrap (aq.kerf + AM - AL) = aq.kerf + AM - AL := IntWalk.i64_in _ (by omega)
      have k4 : IntKind.i64.wrap (aq.kerf + AM - AL - AH) = aq.kerf + AM - AL - AH := IntWalk.i64_in _ (by omega)
      generalize R[nl] = rl at *
      generalize R[nh] = rh at *
      rw [hcl1] at y2
      rw [hcl2] at y3
      clear hcl1 hcl2 hnl hnh hlo3 hhi3 hAL hAH hkl hkh hlb hhb HN hlo
      go_upto_region 15 with fail
      obtain ⟨m0, m1, m2, m3, -, -, -, -⟩ := HQ8.out.o
      have kx0 : ∀ u : KW (fun W' => Below W8.heap.size W8 W'), (u.w.cell? ⟨g5, 2, none⟩ = some (.int .i64 aq.kerf) ∧ u.w.cell? ⟨rb, ro + m * 4, none⟩ = some (.int .i64 rm.x1) ∧ u.w.cell? ⟨rb, ro + m * 4 + 1, none⟩ = some (.int .i64 rm.y1) ∧ u.w.cell? ⟨rb, ro + m * 4 + 2, none⟩ = some (.int .i64 rm.x2)) ∧ u.w.cell? ⟨rb, ro + m * 4 + 3, none⟩ = some (.int .i64 rm.y2) := fun u => ⟨⟨cell_keep u.ok m2, cell_keep u.ok r0, cell_keep u.ok r1, cell_keep u.ok r2⟩, cell_keep u.ok r3⟩
      have kx1 : ∀ u : KW (fun W' => Below W8.heap.size W8 W'), (u.w.cell? ⟨g12, 2, none⟩ = some (.int .i64 (nl : Int)) ∧ u.w.cell? ⟨rb, ro + nl * 4, none⟩ = some (.int .i64 rl.x1) ∧ u.w.cell? ⟨rb, ro + nl * 4 + 1, none⟩ = some (.int .i64 rl.y1) ∧ u.w.cell? ⟨rb, ro + nl * 4 + 2, none⟩ = some (.int .i64 rl.x2)) ∧ u.w.cell? ⟨rb, ro + nl * 4 + 3, none⟩ = some (.int .i64 rl.y2) := fun u => ⟨⟨cell_keep u.ok y2, cell_keep u.ok s0, cell_keep u.ok s1, cell_keep u.ok s2⟩, cell_keep u.ok s3⟩
      have kx2 : ∀ u : KW (fun W' => Below W8.heap.size W8 W'), (u.w.cell? ⟨g12, 3, none⟩ = some (.int .i64 (nh : Int)) ∧ u.w.cell? ⟨rb, ro + nh * 4, none⟩ = some (.int .i64 rh.x1) ∧ u.w.cell? ⟨rb, ro + nh * 4 + 1, none⟩ = some (.int .i64 rh.y1) ∧ u.w.cell? ⟨rb, ro + nh * 4 + 2, none⟩ = some (.int .i64 rh.x2)) ∧ u.w.cell? ⟨rb, ro + nh * 4 + 3, none⟩ = some (.int .i64 rh.y2) := fun u => ⟨⟨cell_keep u.ok y3, cell_keep u.ok t0, cell_keep u.ok t1, cell_keep u.ok t2⟩, cell_keep u.ok t3⟩
      haveI nn2 : Nonempty (KW (fun W' => Below W8.heap.size W8 W')) := ⟨⟨W8, Below.refl _ _⟩⟩
      clear y0 y1 y2 y3 y4 r0 r1 r2 r3 m0 m1 m2 m3 s0 s1 s2 s3 t0 t1 t2 t3
      refine wp_region_tree (fun w' => ∃ u : KW (fun W' => Below W8.heap.size W8 W'), w' = u.w) 21 (.take 0 (.take 1 (.take 2 (.take 3 (.take 4 (.take 5 (.take 8 (.take 9 (.take 10 (.take 11 (.take 12 (.take 15 (.take 16 (.take 17 (.take 18 (.take 19 (.one 6 (.take 7 (.one 13 (.take 14 (.one 20 .done))))))))))))))))))))) hmix (by kernel_rfl) (KW.mk' (Below.refl _ _).drew) ?_
      have HCz := Lib.hid (show Below W8.heap.size W8 W8.drew from (Below.refl _ _).drew)
      generalize W8.drew = wz at *
      repeat (refine wpTree_take ?_; simp only [nthOp]; (first | go_big_quiet_step (fail) | quiet_step (fail)); refine wpQuiet_nil ?_)
      refine wpTree_one ?_
      simp only [nthOp]
      go_wp2_with (go_at_call 38; refine (HAK.out _).mono ?_; rintro e wa ⟨rfl, hb⟩; have HCa := Lib.hid (HCz.out.trans (hb.mono HCz.out.size)); clear hb)
      refine One_mk (KW.mk' HCa.out) ?_
      repeat (refine wpTree_take ?_; simp only [nthOp]; (first | go_big_quiet_step (fail) | quiet_step (fail)); refine wpQuiet_nil ?_)
      refine wpTree_one ?_
      simp only [nthOp]
      go_wp2_with (go_at_call 38; refine (HKL.out _).mono ?_; rintro e wb ⟨rfl, hb⟩; have HCb := Lib.hid (HCa.out.trans (hb.mono HCa.out.size)); clear hb)
      refine One_mk (KW.mk' HCb.out) ?_
      repeat (refine wpTree_take ?_; simp only [nthOp]; (first | go_big_quiet_step (fail) | quiet_step (fail)); refine wpQuiet_nil ?_)
      refine wpTree_one ?_
      simp only [nthOp]
      go_wp2_with (go_at_call 38; refine (HKH.out _).mono ?_; rintro e wc ⟨rfl, hb⟩; have HCc := Lib.hid (HCb.out.trans (hb.mono HCb.out.size)); clear hb)
      refine One_mk (KW.mk' HCc.out) ?_
      refine wpTree_done ?_
      simp only [List.drop_succ_cons, List.drop_zero]
      have HQA := Lib.hid (HQ8.out.keep HCc.out)
      have HLA := Lib.hid (HL8.out.keep HCc.out)
      have HRA := Lib.hid (HR8.out.keep HCc.out)
      clear kx0 kx1 kx2 nn2 HCz HCa HCb HCc
      obtain ⟨m0, m1, m2, m3, mf0, mf1, mf2, mf3⟩ := HQA.out.o
      go_wp2_with fail
      refine NP_mk ?_
      go_wp2_with fail
      go_roundw
      case rel => exact ⟨m + 1, by omega, by go_num, by rw [HW.out]; exact Lib.hid (HQA.out.set 2 _), Lib.hid (HLA.out.off (p := ⟨g5, 2, none⟩) HN5.out), Lib.hid (HRA.out.far (grownBy_set (a := ⟨g5, 2, none⟩)) HNE.out)⟩
      case measure => first | (simp [intOf]; done) | (simp [intOf]; omega)
    ·obtain rfl : m = cs.length := by omega
     have hmi : ¬ ((cs.length : Nat) : Int) < ((cs.length : Nat) : Int) := by omega
     go_wp2_with fail
     go_roundw
     case rel => exact ⟨k + 1, by omega, by go_num, by rw [HST.out]; exact HQ⟩
     case measure => first | (simp [intOf]; done) | (simp [intOf]; omega)
  ·obtain rfl : k = plan.length := by omega
   have hki : ¬ ((plan.length : Nat) : Int) < ((plan.length : Nat) : Int) := by omega
   have HAM := Lib.hid (show areasM j plan = arPlan j plan plan.length from rfl)
   obtain ⟨z0, z1, z2, z3, f0, f1, f2, f3⟩ := (HHOLD.out wo HP.out.b).2.1
   have HBE := Lib.hid (HHOLD.out wo HP.out.b).2.2
   obtain ⟨a, ha⟩ : ∃ a, arPlan j plan plan.length = a := ⟨_, rfl⟩
   rw [ha] at HP HAM
   obtain ⟨m0, m1, m2, m3, -, -, -, -⟩ := HP.out.o
   clear ha
   go_wp2_with fail
   refine bodyPost_ret (v := arsV a) (by simp [results, Tryz.results12, go_sem, arsV, *]) rfl ?_
   exact ⟨by rw [HAM.out], by
    have h1 := HBE.out
    have h2 := HG.out
    repeat (first | exact h1 | (refine Below.setCell ?_ (by first | exact h2 | omega) _))⟩
end Go.Proofs.YtjmgboipbhddlaaGreatDoor
