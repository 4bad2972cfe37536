/- What the document leaves of a cell outside of another one. -/
import Derived.Test.YtbhgkadklklmbaaGreatQY
import Derived.Test.YtbhgkadklklmbaaGreatQP
import Derived.Test.YtbhgkadklklmbaaGreatQU
import Derived.Test.YtbhgkadklklmbaaGreatQW
import Derived.Test.YtbhgkadklklmbaaGreatQT2
set_option linter.unusedVariables false
set_option linter.unusedSimpArgs false
namespace Go.Proofs.YtbhgkadklklmbaaGreat
open Go Go.RowKit Go.Sort Go.Lib

theorem cutRK_succ (l ds : List Pl) (n : Nat) : cutRK l ds (n + 1) = cutRK l ds n ++ (if insid (partM l ds n) (corn (partM l ds n)) = true then [nf (partM l ds n)] else []) := by
 unfold cutRK; rw [List.range_succ, List.flatMap_append]; simp
theorem cutRK_len (l ds : List Pl) : ∀ n, (cutRK l ds n).length ≤ n := by
 intro n
 induction n with
 | zero => simp [cutRK]
 | succ n ih =>
  rw [cutRK_succ, List.length_append]
  split <;> simp <;> omega
/-- New planes of a cell: their place beside a row, how old they are. -/
structure PRn (w : World) (v : Value) (z : Nat) (q : PR) : Prop where
 ok : PRok w v q
 nw : ∀ b, blk q.pa = some b → z ≤ b
 g : Good q.ps
theorem PRn.keep {w w' : World} {v : Value} {z : Nat} {q : PR} (h : PRn w v z q) (hb : Below w.heap.size w w') : PRn w' v z q := ⟨h.ok.keep hb, h.nw, h.g⟩
theorem PRn.grown {w w' : World} {v v' : Value} {z : Nat} {q : PR} (h : PRn w v z q) (hg : w.grownBy w' v.ownBlock) (hv : v'.ownBlock = v.ownBlock ∨ v'.ownBlock = some w.heap.size) : PRn w' v' z q := ⟨h.ok.grown hg hv, h.nw, h.g⟩
theorem PRn.mono {w : World} {v : Value} {z z' : Nat} {q : PR} (h : PRn w v z q) (hz : z' ≤ z) : PRn w v z' q := ⟨h.ok, fun b e => Nat.le_trans hz (h.nw b e), h.g⟩
theorem PRn.to {w : World} {v v' : Value} {z : Nat} {q : PR} (h : PRn w v z q) (hn : ∀ b, blk q.pa = some b → v'.ownBlock ≠ some b) : PRn w v' z q := ⟨⟨h.ok.pls, h.ok.len, h.ok.cap, fun b e => ⟨(h.ok.pb b e).1, hn b e⟩⟩, h.nw, h.g⟩
set_option maxRecDepth 100000 in
set_option maxHeartbeats 16000000 in
theorem cutR_any (ps qs : List Pl) (pa qa : Option Addr) (pc qc : Nat) (w : World) (hv : Pls.V w pa ps) (hu : Pls.V w qa qs) (hg : Good ps) (hh : Good qs) (hl : ps.length ≤ 16) (hm : qs.length ≤ 20) :
    Calls Tryz.prog 124 #[.agg #[.slice pa ps.length pc], .agg #[.slice qa qs.length qc]] w fun e w' => ∃ (v : Value) (L : List PR), e = .returned v ∧ L.map (·.ps) = cutRK ps (nf qs) (nf qs).length ∧ (∀ q ∈ L, PRn w' v w.heap.size q) ∧ w'.ownsRow w.heap.size 24 1 v L.length (L.flatMap cellsPR) ∧ Below w.heap.size w w' := by
 have hmix : Tryz.prog.follows .mixedOrders = true := by kernel_rfl
 obtain ⟨i0, hi0, hz0, hz1, hz2⟩ := info_parts cellInfo
 obtain ⟨i1, hi1, hy0, hy1, hy2⟩ := info_parts infoPl
 have HV := Lib.hid hv
 have HNR := Lib.hid (fun W (h : Below w.heap.size w W) => normalR2_any qs qa qc W hh (by omega) (hu.keep h))
 have HND := Lib.hid (show Good (nf qs) from hh.nor _)
 have HNL := Lib.hid (show (nf qs).length ≤ 20 from Nat.le_trans (nor_len _ _) hm)
 have HPG := Lib.hid hg
 have hnl20 := HNL.out
 generalize nf qs = ds at *
 clear hv hu hg hh
 go_enter Tryz.func124, Tryz.ntmps124
 go_upto_region 2 with fail
 refine gen_world (fun W => W.cell? ⟨w.heap.size, 0, none⟩ = some (.slice pa ps.length pc) ∧ W.cell? ⟨w.heap.size + 1, 0, none⟩ = some (.slice qa qs.length qc) ∧ Below w.heap.size w W) ⟨by simp [go_sem], by simp [go_sem], by repeat (first | (with_reducible assumption) | exact Below.refl _ _ | (refine Below.setCell ?_ (by first | omega | (simp; omega) | (simp; done)) _) | (refine Below.alloc ?_ (by first | omega | (simp; omega) | (simp; done)) _) | (refine Below.drew ?_))⟩ ?_
 rintro W ⟨a0, b0, hb⟩
 have HB0 := Lib.hid hb
 obtain ⟨gw, hgw⟩ : ∃ g, g = w.heap.size := ⟨_, rfl⟩
 rw [← hgw] at a0 b0 ⊢
 have HN0 := Lib.hid (HNR.out W hb)
 clear hgw hb HNR
 go_upto_region 3 with (go_at_call 28; refine HN0.out.mono ?_; rintro e w1 ⟨na, nc, rfl, ho, hb⟩; have a0 := cell_keep hb a0; have HB1 := Lib.hid (HB0.out.trans (hb.mono HB0.out.size)); have HDV := Lib.hid (show Pls.V w1 na ds from ownPlV (fun p hp => Pl.in_.wf (HND.out p hp).1) ho); have HDC := Lib.hid (own_len_le ho).2; clear ho hb)
 have HA0 := Lib.hid a0
 have HPV := Lib.hid (HV.out.keep HB1.out)
 clear a0 b0 HN0
 go_wp2_with fail
 go_loopw [5, 7] (fun ov iv wr => ∃ (i : Nat) (L : List PR), i ≤ ds.length ∧ iv = .int .i64 (i : Int) ∧ Hid (L.map (·.ps) = cutRK ps ds i) ∧ Hid (∀ q ∈ L, PRn wr ov w.heap.size q) ∧ Hid (L.length ≤ i) ∧ wr.ownsRow w1.heap.size 24 1 ov L.length (L.flatMap cellsPR) ∧ Below w1.heap.size w1 wr) (fun _ iv _ => ds.length - (intOf iv).toNat)
 case atStart => exact ⟨0, [], Nat.zero_le _, rfl, Lib.hid (by simp [cutRK]), Lib.hid (fun q hq => absurd hq (by simp)), Lib.hid (by simp), ⟨rfl, .inl ⟨rfl, rfl⟩⟩, Below.refl _ _⟩
 case round =>
  obtain ⟨i, L, hi, rfl, HL, HLP, HLL, hown, hb⟩ := hrel
  obtain ⟨W2, rfl⟩ : ∃ W2 : World, W2 = wr := ⟨_, rfl⟩
  have HO := Lib.hid hown
  have HB2 := Lib.hid hb
  obtain ⟨oa, oc, rfl, -, -⟩ := own_slice hown
  have a0 := cell_keep hb HA0.out
  have hz2' := hb.size
  by_cases hlt : i < ds.length
  ·have hki : (i : Int) < (ds.length : Int) := by omega
   obtain ⟨nb, noff, rfl, hat⟩ := (HDV.out.keep hb).at_ hlt
   have HDI := Lib.hid (HND.out _ (List.getElem_mem hlt))
   have HPM := Lib.hid (show partM ps ds i = ps ++ ds.take i ++ [opp ds[i]] by unfold partM; rw [getD_at hlt])
   have HCS := Lib.hid (cutRK_succ ps ds i)
   have HTV := Lib.hid (show Pls.V W2 (some ⟨nb, noff, none⟩) (ds.take i) from RowV.take (HDV.out.keep hb) i)
   have HTG := Lib.hid (show Good (ds.take i) from HND.out.take i)
   have HTL := Lib.hid (show (ds.take i).length = i by rw [List.length_take]; omega)
   generalize ds[i] = d at *
   generalize ds.take i = T at *
   obtain ⟨d0, d1, d2, d3, -⟩ := hat
   obtain ⟨J, hJ⟩ : ∃ J, J = ps ++ T := ⟨_, rfl⟩
   have HJG := Lib.hid (show Good J by rw [hJ]; exact HPG.out.append HTG.out)
   have HJL := Lib.hid (show J.length ≤ 36 by have := HNL.out; have := HTL.out; rw [hJ, List.length_append]; omega)
   obtain ⟨x, hx⟩ : ∃ x, x = opp d := ⟨_, rfl⟩
   have HXG := Lib.hid (show x.in_ ∧ nrm x ≠ v0 by rw [hx]; exact Good.opp HDI.out)
   obtain ⟨K, hK⟩ : ∃ K, K = J ++ [x] := ⟨_, rfl⟩
   have HKG := Lib.hid (show Good K by rw [hK]; exact HJG.out.append (fun p hp => by rw [List.mem_singleton] at hp; subst hp; exact HXG.out))
   have HKL := Lib.hid (show K.length = J.length + 1 by rw [hK]; simp)
   rw [← hJ, ← hx, ← hK] at HPM
   rw [HPM.out] at HCS
   have HKE := Lib.hid hK
   have HJN := Lib.hid (fun W (h : Below W2.heap.size W2 W) => joined_any ps T pa (some ⟨nb, noff, none⟩) pc nc W ((HPV.out.keep HB2.out).keep h) (HTV.out.keep h) (by omega) (by have := HTL.out; have := HNL.out; omega))
   rw [← hJ, HTL.out] at HJN
   have HOP := Lib.hid (fun W => oppositeR_any d (by have h := HDI.out.1; unfold Pl.in_ Vec.in_ nrm at h; simp only at h; omega) W)
   rw [← hx] at HOP
   have hnc : i ≤ nc := by have := HDC.out; omega
   clear hb hown hJ hx hK
   go_upto_region 6 with fail
   have kx0 : ∀ u : KW (fun W' => Below W2.heap.size W2 W'), u.w.cell? ⟨gw, 0, none⟩ = some (.slice pa ps.length pc) ∧ (u.w.cell? ⟨nb, noff + i * 4, none⟩ = some (.int .i64 d.a) ∧ u.w.cell? ⟨nb, noff + i * 4 + 1, none⟩ = some (.int .i64 d.b) ∧ u.w.cell? ⟨nb, noff + i * 4 + 2, none⟩ = some (.int .i64 d.c) ∧ u.w.cell? ⟨nb, noff + i * 4 + 3, none⟩ = some (.int .i64 d.d)) := fun u => ⟨cell_keep u.ok a0, cell_keep u.ok d0, cell_keep u.ok d1, cell_keep u.ok d2, cell_keep u.ok d3⟩
   haveI nn1 : Nonempty (KW (fun W' => Below W2.heap.size W2 W')) := ⟨⟨W2, Below.refl _ _⟩⟩
   refine wp_region_tree (fun w' => ∃ u : KW (fun W' => Below W2.heap.size W2 W'), w' = u.w) 10 (.take 0 (.take 1 (.take 2 (.take 3 (.take 4 (.take 6 (.take 7 (.take 8 (.take 9 (.one 5 .done)))))))))) hmix (by kernel_rfl) (KW.mk' (Below.refl _ _).drew) ?_
   have HC := Lib.hid (show Below W2.heap.size W2 W2.drew from (Below.refl _ _).drew)
   generalize W2.drew = wz at *
   (refine wpTree_take ?_; simp only [nthOp]; (first | go_big_quiet_step (fail) | quiet_step (fail)); refine wpQuiet_nil ?_)
   (refine wpTree_take ?_; simp only [nthOp]; (first | go_big_quiet_step (fail) | quiet_step (fail)); refine wpQuiet_nil ?_)
   (refine wpTree_take ?_; simp only [nthOp]; (first | go_big_quiet_step (fail) | quiet_step (fail)); refine wpQuiet_nil ?_)
   (refine wpTree_take ?_; simp only [nthOp]; (first | go_big_quiet_step (fail) | quiet_step (fail)); refine wpQuiet_nil ?_)
   (refine wpTree_take ?_; simp only [nthOp]; (first | go_big_quiet_step (fail) | quiet_step (fail)); refine wpQuiet_nil ?_)
   (refine wpTree_take ?_; simp only [nthOp]; (first | go_big_quiet_step (fail) | quiet_step (fail)); refine wpQuiet_nil ?_)
   (refine wpTree_take ?_; simp only [nthOp]; (first | go_big_quiet_step (fail) | quiet_step (fail)); refine wpQuiet_nil ?_)
   (refine wpTree_take ?_; simp only [nthOp]; (first | go_big_quiet_step (fail) | quiet_step (fail)); refine wpQuiet_nil ?_)
   (refine wpTree_take ?_; simp only [nthOp]; (first | go_big_quiet_step (fail) | quiet_step (fail)); refine wpQuiet_nil ?_)
   refine wpTree_one ?_
   simp only [nthOp]
   have HQ := Lib.hid (HJN.out wz HC.out)
   go_wp2_with (go_at_call 97; refine HQ.out.mono ?_; rintro e wa ⟨ja, jc, rfl, ho, hb⟩; have HJO := Lib.hid (own_mono ho HC.out.size); have HC := Lib.hid (HC.out.trans (hb.mono HC.out.size)); clear ho hb)
   refine One_mk (KW.mk' HC.out) ?_
   refine wpTree_done ?_
   simp only [List.drop_succ_cons, List.drop_zero]
   clear kx0 nn1 HQ HJN
   go_wp2_with (first
    | (go_at_call 41; refine (HOP.out _).mono ?_; rintro e wb ⟨rfl, hb⟩; have HJO := Lib.hid (own_keep HJO.out hb); have HC := Lib.hid (HC.out.trans (hb.mono HC.out.size)); have HAL := Lib.hid ((Below.refl wb.heap.size wb).alloc (Nat.le_refl _) (.cells #[.int .i64 x.a, .int .i64 x.b, .int .i64 x.c, .int .i64 x.d] 26)); have HNW := Lib.hid (show ∀ j u, (cellsPl x)[j]? = some u → (wb.alloc (.cells #[.int .i64 x.a, .int .i64 x.b, .int .i64 x.c, .int .i64 x.d] 26)).cell? ((⟨wb.heap.size, 0, none⟩ : Addr).add j) = some u from news_of (cellsPl x) 26 wb _ rfl); have HJO2 := Lib.hid (own_keep HJO.out HAL.out); have HC2 := Lib.hid (HC.out.trans (HAL.out.mono HC.out.size)); clear hb)
    | (at_builtin; refine wpList_append_here _ rfl _ _ 22 rfl W2.heap.size 26 i1 (.agg #[.int .i64 0, .int .i64 0, .int .i64 0, .int .i64 0]) 4 32 Tryz.underlying22 hi1 hy0 hy1 hy2 rfl (by decide) (.slice ja J.length jc) J.length (J.flatMap cellsPl) rfl HJO2.out ⟨wb.heap.size, 0, none⟩ 1 1 (cellsPl x) rfl rfl HNW.out (cellsPl_one x) (by decide) (by have := HJL.out; simp only [maxLen]; omega) (by have := HJL.out; omega) HC2.out.size ?_; intro v' wd ho hg ha; obtain ⟨ka, kc, rfl, -, -⟩ := own_slice ho; have HKO := Lib.hid (show wd.ownsRow W2.heap.size 26 4 (.slice ka (J.length + 1) kc) (J.length + 1) (K.flatMap cellsPl) by rw [HKE.out, List.flatMap_append]; simpa using ho); have HC3 := Lib.hid (below_grown HC2.out hg HC2.out.size fun k hk => (own_lt HJO2.out hk).1); clear ho hg ha))
   refine NP_mk ?_
   rw [← HKL.out] at HKO ⊢
   have HKV := Lib.hid (show Pls.V wd ka K from ownPlV (fun p hp => Pl.in_.wf (HKG.out p hp).1) HKO.out)
   have HRI := Lib.hid (show ∀ c ∈ refP K, c.in_ from fun c hc => corn_in HKG.out c (mem_refP.1 hc))
   have HRL := Lib.hid (show (refP K).length ≤ 1000000 by rw [(perm_refP K).length_eq]; have := corn_len (l := K) (n := 40) (by have := HKL.out; have := HJL.out; omega); omega)
   have HSE := Lib.hid (insid_refP K K)
   have HKB := Lib.hid (show K.length ≤ 40 by have := HKL.out; have := HJL.out; omega)
   have HPT := Lib.hid (pointsR_any K ka kc wd HKG.out HKB.out HKV.out)
   have HNK := Lib.hid (fun W (h : Pls.V W ka K) => normalR2_any K ka kc W HKG.out HKB.out h)
   have HNG := Lib.hid (show Good (nf K) from HKG.out.nor _)
   generalize refP K = RP at *
   have HIN := Lib.hid (fun ra rc W (h1 : Pls.V W ka K) (h2 : Cos.V W ra RP) => inside_any K ka kc RP ra rc W h1 (by have := HKB.out; omega) (fun p hp => (HKG.out p hp).1) h2 HRL.out HRI.out)
   rw [HSE.out] at HIN
   have HBW := Lib.hid (show Below w1.heap.size w1 wd from HB2.out.trans (HC3.out.mono HB2.out.size))
   generalize nf K = N at *
   cases hin : insid K (corn K) with
   | false =>
    rw [hin] at HIN HCS
    have HLN := Lib.hid (show L.map (·.ps) = cutRK ps ds (i + 1) by rw [HCS.out, HL.out]; simp)
    go_wp2_with (first
     | (go_at_call 31; refine HPT.out.mono ?_; rintro e we ⟨ra, rc, rfl, ho, hb⟩; have HB4 := Lib.hid (HC3.out.trans (hb.mono HC3.out.size)); have HRV := Lib.hid (ownCoV (fun c hc => Co.in_.wf (HRI.out c hc)) ho); have HKV2 := Lib.hid (HKV.out.keep hb); clear ho hb)
     | (go_at_call 79; refine (HIN.out ra rc _ HKV2.out HRV.out).mono ?_; rintro e wf ⟨rfl, hb⟩; have HB5 := Lib.hid (HB4.out.trans (hb.mono HB4.out.size)); clear hb))
    go_roundw
    case rel => exact ⟨i + 1, L, by omega, by go_num, HLN, Lib.hid (fun q hq => (HLP.out q hq).keep HB5.out), Lib.hid (by have := HLL.out; omega), own_keep HO.out HB5.out, HB2.out.trans (HB5.out.mono HB2.out.size)⟩
    case measure => first | (simp [intOf]; done) | (simp [intOf]; omega)
   | true =>
    rw [hin] at HIN HCS
    go_wp2_with (first
     | (go_at_call 31; refine HPT.out.mono ?_; rintro e we ⟨ra, rc, rfl, ho, hb⟩; have HB4 := Lib.hid (HC3.out.trans (hb.mono HC3.out.size)); have HRV := Lib.hid (ownCoV (fun c hc => Co.in_.wf (HRI.out c hc)) ho); have HKV2 := Lib.hid (HKV.out.keep hb); clear ho hb)
     | (go_at_call 79; refine (HIN.out ra rc _ HKV2.out HRV.out).mono ?_; rintro e wf ⟨rfl, hb⟩; have HB5 := Lib.hid (HB4.out.trans (hb.mono HB4.out.size)); have HKV3 := Lib.hid (HKV2.out.keep hb); clear hb)
     | (go_at_call 28; refine (HNK.out _ HKV3.out).mono ?_; rintro e wg ⟨ga, gc, rfl, ho, hb⟩; have HG6 := Lib.hid ho; have HZ5 := Lib.hid HB5.out.size; have HB6 := Lib.hid (HB5.out.trans (hb.mono HB5.out.size)); have HAL6 := Lib.hid ((Below.refl wg.heap.size wg).alloc (Nat.le_refl _) (.cells #[.slice ga N.length gc] 24)); have HB7 := Lib.hid (HB6.out.trans (HAL6.out.mono HB6.out.size)); have HO7 := Lib.hid (own_keep HO.out HB7.out); have HNW7 := Lib.hid (show ∀ j u, (cellsPR ⟨N, ga, gc⟩)[j]? = some u → (wg.alloc (.cells #[.slice ga N.length gc] 24)).cell? ((⟨wg.heap.size, 0, none⟩ : Addr).add j) = some u from news_of (cellsPR ⟨N, ga, gc⟩) 24 wg _ rfl); have HG7 := Lib.hid (own_keep HG6.out HAL6.out); clear ho hb)
     | (at_builtin; refine wpList_append_here _ rfl _ _ 46 rfl w1.heap.size 24 i0 (.agg #[.slice none 0 0]) 1 24 Tryz.underlying46 hi0 hz0 hz1 hz2 rfl (by decide) (.slice oa L.length oc) L.length (L.flatMap cellsPR) rfl HO7.out ⟨wg.heap.size, 0, none⟩ 1 1 (cellsPR ⟨N, ga, gc⟩) rfl rfl HNW7.out (cellsPR_one _) (by decide) (by have := HLL.out; have := HNL.out; simp only [maxLen]; omega) (by have := HLL.out; have := HNL.out; omega) (by have := HB7.out.size; have := HB2.out.size; omega) ?_; intro v' wh ho hg ha; obtain ⟨va, vc, rfl, -, -⟩ := own_slice ho; have HO8 := Lib.hid (show wh.ownsRow w1.heap.size 24 1 (.slice va (L.length + 1) vc) (L ++ [(⟨N, ga, gc⟩ : PR)]).length ((L ++ [(⟨N, ga, gc⟩ : PR)]).flatMap cellsPR) by rw [List.flatMap_append, List.length_append]; simpa using ho); have HG8 := Lib.hid hg; have HA8 := Lib.hid ha; clear ho hg ha))
    have HLN := Lib.hid (show (L ++ [(⟨N, ga, gc⟩ : PR)]).map (·.ps) = cutRK ps ds (i + 1) by rw [List.map_append, HL.out, HCS.out]; simp)
    have HQB := Lib.hid (show ∀ b, blk ga = some b → W2.heap.size ≤ b ∧ b < (wg.alloc (.cells #[.slice ga N.length gc] 24)).heap.size from fun b e => ⟨Nat.le_trans HZ5.out (own_blk_lt HG7.out b e).1, (own_blk_lt HG7.out b e).2⟩)
    have HPR := Lib.hid (show PRn (wg.alloc (.cells #[.slice ga N.length gc] 24)) (.slice oa L.length oc) w.heap.size ⟨N, ga, gc⟩ from ⟨⟨ownPlV (fun y hy => Pl.in_.wf (HNG.out y hy).1) HG7.out, (own_len_le HG7.out).2, by obtain ⟨a1, c1, e1, -, h1⟩ := own_slice HG7.out; injection e1 with e2 e3 e4; rw [e4]; exact h1, fun b e => ⟨(HQB.out b e).2, fun e' => by have h1 := (own_lt HO.out e').2; have h2 := (HQB.out b e).1; omega⟩⟩, fun b e => by have h2 := (HQB.out b e).1; have := HB1.out.size; omega, HNG.out⟩)
    have HFIN := Lib.hid (show ∀ q ∈ L ++ [(⟨N, ga, gc⟩ : PR)], PRn wh (.slice va (L.length + 1) vc) w.heap.size q from fun q hq => by
     rcases List.mem_append.1 hq with hq | hq
     ·exact ((HLP.out q hq).keep HB7.out).grown HG8.out HA8.out
     ·simp only [List.mem_singleton] at hq; subst hq; exact HPR.out.grown HG8.out HA8.out)
    go_roundw
    case rel => exact ⟨i + 1, _, by omega, by go_num, HLN, HFIN, Lib.hid (by have := HLL.out; simp; omega), HO8.out, below_grown (HB2.out.trans (HB7.out.mono HB2.out.size)) HG8.out (by have := HB7.out.size; omega) fun k hk => (own_lt HO7.out hk).1⟩
    case measure => first | (simp [intOf]; done) | (simp [intOf]; omega)
  ·obtain rfl : i = ds.length := by omega
   have hki : ¬ ((ds.length : Nat) : Int) < ((ds.length : Nat) : Int) := by omega
   clear hb hown
   go_wp2_with fail
   go_ret
   exact ⟨_, rfl, L, HL.out, HLP.out, own_mono HO.out HB1.out.size, HB1.out.trans (HB2.out.mono HB1.out.size)⟩
end Go.Proofs.YtbhgkadklklmbaaGreat
/- What the document leaves of a solid without another one. -/
set_option linter.unusedVariables false
set_option linter.unusedSimpArgs false
namespace Go.Proofs.YtbhgkadklklmbaaGreat
open Go Go.RowKit Go.Sort Go.Lib

def PR.at (w : World) (b o : Nat) (r : PR) : Prop := w.cell? ⟨b, o, none⟩ = some (.slice r.pa r.ps.length r.pc)
def PRs.V (w : World) (a : Option Addr) (l : List PR) : Prop := RowV 1 PR.at w a l
theorem PRs.V.keep {w w' : World} {a : Option Addr} {l : List PR} (h : PRs.V w a l) (hb : Below w.heap.size w w') : PRs.V w' a l := RowV.keep (fun _ _ _ h => cell_keep hb h) h
theorem ownPRV {w : World} {base n c : Nat} {a : Option Addr} {l : List PR} (h : w.ownsRow base 24 1 (.slice a n c) n (l.flatMap cellsPR)) : PRs.V w a l :=
 own_rowV cellsPR_len (by decide) (fun b o x hx h => h 0 _ rfl) h
theorem prsNews {w : World} {a : Option Addr} {l : List PR} (h : PRs.V w a l) : l ≠ [] → ∃ ad, a = some ad ∧ ∀ j u, (l.flatMap cellsPR)[j]? = some u → w.cell? (ad.add j) = some u := fun hne => by
 obtain ⟨b, off, rfl, _⟩ := h hne
 refine ⟨_, rfl, row_news cellsPR_len (by decide) (fun _ _ _ h c u hc => ?_) h⟩
 match c, hc with
 | 0, hc => simp [cellsPR] at hc; subst hc; exact h
 | c + 1, hc => simp [cellsPR] at hc
theorem CpSt.putAll {g : Nat} {w w' : World} {v v' : Value} {L M : List PR} (h : CpSt g w v L) (hg : w.grownBy w' v.ownBlock) (hv : v'.ownBlock = v.ownBlock ∨ v'.ownBlock = some w.heap.size) (hq : ∀ q ∈ M, PRok w v q) (hq1 : ∀ q ∈ M, ∀ b, blk q.pa = some b → b ≠ g) (hL : ∀ r ∈ L, ∀ b, blk r.pa = some b → b ≠ g)
    (ho : w'.ownsRow (g + 1) 24 1 v' (L ++ M).length ((L ++ M).flatMap cellsPR)) : CpSt g (w'.setCell ⟨g, 0, none⟩ v') v' (L ++ M) := by
 have hne : v.ownBlock ≠ some g := fun e => by have := (own_lt h.o e).1; omega
 have hne' : v'.ownBlock ≠ some g := fun e => by have := (own_lt ho e).1; omega
 have hc' : w'.cell? ⟨g, 0, none⟩ = some v := grown_cell hg h.c hne
 have hf' : w'.frozen? ⟨g, 0, none⟩ = false := (grown_frozen hg h.c hne).trans h.f
 have key : ∀ r : PR, PRok w v r → (∀ b, blk r.pa = some b → b ≠ g) → PRok (w'.setCell ⟨g, 0, none⟩ v') v' r := fun r hr h1 => by
  have h2 := hr.grown hg hv
  exact ⟨h2.pls.grown (grownBy_set (a := ⟨g, 0, none⟩)) fun b e e' => by injection e' with e'; exact h1 b e e'.symm, h2.len, h2.cap, fun b e => ⟨by rw [size_set]; exact (h2.pb b e).1, (h2.pb b e).2⟩⟩
 refine ⟨cell_set_same (by rw [hc']; rfl), by rw [frozen_set]; exact hf', ho.kept (grownBy_set (a := ⟨g, 0, none⟩)) (.inr hne'), fun r hr => ?_⟩
 rcases List.mem_append.1 hr with hr | hr
 ·exact key r (h.p r hr) (hL r hr)
 ·exact key r (hq r hr) (hq1 r hr)
theorem stepR_succ {d : List Pl} {ps : List (List Pl)} {k : Nat} (hk : k < ps.length) : stepR d (ps.take (k + 1)) = stepR d (ps.take k) ++ step1R d ps[k] := by
 unfold stepR; rw [List.take_succ_eq_append_getElem hk, List.flatMap_append]; simp
/-- What is left, step by step. -/
def leftT (n : Nat) (out : List (List Pl)) (ps : List (List Pl)) (y Y : List (List Pl)) (x : List (List Pl)) : Option (List (List Pl)) := match piecesR n ps y with | none => none | some r => leftR Y (out ++ r) x
theorem leftT_nil {n : Nat} {out ps Y x : List (List Pl)} : leftT n out ps [] Y x = leftR Y (out ++ ps) x := rfl
theorem leftT_cons {n : Nat} {out ps : List (List Pl)} {d : List Pl} {y Y x : List (List Pl)} : leftT n out ps (d :: y) Y x = if tooMany n (stepR d ps) = true then none else leftT n out (stepR d ps) y Y x := by
 unfold leftT
 rw [piecesR]
 by_cases h : tooMany n (stepR d ps) = true
 ·rw [if_pos h, if_pos h]
 ·rw [if_neg h, if_neg h]
def MiCut (W : World) (S : Bool) (u : Nat → Value) (W' : World) : Prop := u 13 = .bool S ∧ Below W.heap.size W W'
def leftRE (X Y : List (List Pl)) : Int := match leftR Y [] X with | none => 8 | some _ => 0
def leftRV (X Y : List (List Pl)) : List (List Pl) := (leftR Y [] X).getD []
set_option maxRecDepth 100000 in
set_option maxHeartbeats 32000000 in
theorem minusR_any (A B : List Cell) (aa ba : Option Addr) (an bn : Nat) (w : World) (hv : Cells.V w aa A) (hu : Cells.V w ba B) (hla : A.length ≤ 100) (hlb : B.length ≤ 100) (hA : ∀ x ∈ A, readE x.planes = 0) (hB : ∀ x ∈ B, readE x.planes = 0) :
    Calls Tryz.prog 63 #[.agg #[.slice aa A.length an], .agg #[.slice ba B.length bn]] w fun e w' => ∃ va vc, e = .returned (.tuple #[.agg #[.slice va (leftRV (A.map (·.planes)) (B.map (·.planes))).length vc], .int .i64 (leftRE (A.map (·.planes)) (B.map (·.planes)))]) ∧ Cells.V w' va ((leftRV (A.map (·.planes)) (B.map (·.planes))).map Cell.mk) ∧ Below w.heap.size w w' := by
 have hmix : Tryz.prog.follows .mixedOrders = true := by kernel_rfl
 obtain ⟨i0, hi0, hz0, hz1, hz2⟩ := info_parts cellInfo
 have HVA := Lib.hid hv
 have HVB := Lib.hid hu
 have HPA := Lib.hid hA
 have HPB := Lib.hid hB
 obtain ⟨X, hX⟩ : ∃ X, X = A.map (·.planes) := ⟨_, rfl⟩
 obtain ⟨Y, hY⟩ : ∃ Y, Y = B.map (·.planes) := ⟨_, rfl⟩
 rw [← hX, ← hY]
 have HX := Lib.hid hX
 have HY := Lib.hid hY
 obtain ⟨M, hM⟩ : ∃ M, M = leftRE X Y := ⟨_, rfl⟩
 obtain ⟨V0, hV0⟩ : ∃ V, V = leftRV X Y := ⟨_, rfl⟩
 rw [← hM, ← hV0]
 have HM := Lib.hid (show M = match leftR Y [] X with | none => 8 | some _ => 0 from hM)
 have HV0 := Lib.hid (show V0 = (leftR Y [] X).getD [] from hV0)
 have hla100 := hla
 have hlb100 := hlb
 clear hv hu hA hB hX hY hM hV0
 go_enter Tryz.func63, Tryz.ntmps63
 go_upto_region 1 with fail
 refine gen_world (fun W => W.cell? ⟨w.heap.size, 0, none⟩ = some (.slice aa A.length an) ∧ W.cell? ⟨w.heap.size + 1, 0, none⟩ = some (.slice ba B.length bn) ∧ (W.cell? ⟨w.heap.size + 2, 0, none⟩ = some (.slice none 0 0) ∧ W.frozen? ⟨w.heap.size + 2, 0, none⟩ = false) ∧ Below w.heap.size w W) ⟨by simp [go_sem], by simp [go_sem], ⟨by simp [go_sem], by simp [go_sem]⟩, by repeat (first | (with_reducible assumption) | exact Below.refl _ _ | (refine Below.setCell ?_ (by first | omega | (simp; omega) | (simp; done)) _) | (refine Below.alloc ?_ (by first | omega | (simp; omega) | (simp; done)) _) | (refine Below.drew ?_))⟩ ?_
 rintro W1 ⟨a0, b0, ⟨r0, rf0⟩, hb⟩
 have HB1 := Lib.hid hb
 obtain ⟨gw, hgw⟩ : ∃ g, g = w.heap.size := ⟨_, rfl⟩
 have HGW := Lib.hid hgw
 rw [← hgw] at a0 b0 r0 rf0 ⊢
 simp only [Nat.add_assoc, Nat.reduceAdd]
 have HA0 := Lib.hid a0
 have HB0 := Lib.hid b0
 have HR0 := Lib.hid (And.intro r0 rf0)
 have HG1 := Lib.hid (show gw + 2 < W1.heap.size from block_lt_of_cell r0)
 clear hgw hb a0 b0 r0 rf0
 go_upto_region 2 with fail
 refine gen_world (fun W => CpSt W1.heap.size W (.slice none 0 0) [] ∧ Below W1.heap.size W1 W) ⟨⟨by simp [go_sem], by simp [go_sem], ⟨rfl, .inl ⟨rfl, rfl⟩⟩, fun q hq => absurd hq (by simp)⟩, by repeat (first | (with_reducible assumption) | exact Below.refl _ _ | (refine Below.setCell ?_ (by first | omega | (simp; omega) | (simp; done)) _) | (refine Below.alloc ?_ (by first | omega | (simp; omega) | (simp; done)) _) | (refine Below.drew ?_))⟩ ?_
 rintro W2 ⟨hst, hb⟩
 have HST := Lib.hid hst
 have HB2 := Lib.hid hb
 obtain ⟨g9, hg9⟩ : ∃ g, g = W1.heap.size := ⟨_, rfl⟩
 rw [← hg9] at HST HB2 HG1 ⊢
 have HAK := Lib.hid (show ∀ W', Below g9 W1 W' → W'.cell? ⟨gw, 0, none⟩ = some (.slice aa A.length an) from fun W' h => (h.cell (by have := HG1.out; simp only; omega)).trans HA0.out)
 have HBK := Lib.hid (show ∀ W', Below g9 W1 W' → W'.cell? ⟨gw + 1, 0, none⟩ = some (.slice ba B.length bn) from fun W' h => (h.cell (by have := HG1.out; simp only; omega)).trans HB0.out)
 have HRK := Lib.hid (show ∀ W', Below g9 W1 W' → W'.cell? ⟨gw + 2, 0, none⟩ = some (.slice none 0 0) ∧ W'.frozen? ⟨gw + 2, 0, none⟩ = false from fun W' h => ⟨(h.cell HG1.out).trans HR0.out.1, (h.frozen HG1.out).trans HR0.out.2⟩)
 have HBF := Lib.hid (show ∀ W', Below g9 W1 W' → Below w.heap.size w W' from fun W' h => HB1.out.trans (h.mono (by rw [hg9]; exact HB1.out.size)))
 clear hst hb hg9 HA0 HB0 HR0
 go_wp2_with fail
 go_loopw [7] (fun iv wr => ∃ (i : Nat) (v : Value) (O : List PR), i ≤ A.length ∧ iv = .int .i64 (i : Int) ∧ CpSt g9 wr v O ∧ Hid (leftR Y [] X = leftR Y (O.map (·.ps)) (X.drop i)) ∧ Hid (∀ r ∈ O, ∀ b, blk r.pa = some b → g9 < b) ∧ Hid (O.length ≤ 100 + i) ∧ Below g9 W1 wr) (fun iv _ => A.length - (intOf iv).toNat)
 case atStart => exact ⟨0, _, [], Nat.zero_le _, rfl, HST.out, Lib.hid rfl, Lib.hid (fun r hr => absurd hr (by simp)), Lib.hid (by simp), HB2.out⟩
 case round =>
  obtain ⟨i, v, O, hi, rfl, hst, HMM, HOF, HOL, hb⟩ := hrel
  obtain ⟨W3, rfl⟩ : ∃ W3 : World, W3 = wr := ⟨_, rfl⟩
  have HB3 := Lib.hid hb
  have HS3 := Lib.hid hst
  have hg93 := hst.lt
  have a3 := HAK.out _ hb
  by_cases hlt : i < A.length
  ·have hki : (i : Int) < (A.length : Int) := by omega
   have HXD := Lib.hid (show X.drop i = A[i].planes :: X.drop (i + 1) by rw [HX.out, List.drop_eq_getElem_cons (by simpa using hlt)]; simp)
   have hrx := HPA.out _ (List.getElem_mem hlt)
   have HPX := Lib.hid (And.intro (good_of (readE_zero.1 hrx).2.1) (readE_zero.1 hrx).1)
   obtain ⟨ab, ao, rfl, hat⟩ := (HVA.out.keep (HBF.out _ hb)).at_ hlt
   obtain ⟨xa, xc, x0, xv, -⟩ := hat
   rw [Nat.mul_one] at x0
   generalize A[i].planes = cs at *
   have HXV := Lib.hid xv
   have HNO := Lib.hid (normalR2_any cs xa xc W3 HPX.out.1 (by have := HPX.out.2; omega) xv)
   have HMT := Lib.hid (show leftR Y [] X = leftT (O.map (·.ps)).length (O.map (·.ps)) [nf cs] Y Y (X.drop (i + 1)) by rw [HMM.out, HXD.out]; rfl)
   have HNG := Lib.hid (show Good (nf cs) from HPX.out.1.nor _)
   have HNL := Lib.hid (show (nf cs).length ≤ 16 from Nat.le_trans (nor_len _ _) HPX.out.2)
   rw [List.length_map] at HMT
   generalize nf cs = N at *
   clear hb hst xv hrx
   go_upto_region 6 with (go_at_call 28; refine HNO.out.mono ?_; rintro e w5 ⟨na, nc, rfl, ho, hb⟩; have HN5 := Lib.hid ho; have HB5 := Lib.hid hb; clear ho hb)
   refine gen_world (fun W6 => Below w5.heap.size w5 W6 ∧ PRs.V W6 (some ⟨w5.heap.size, 0, none⟩) [⟨N, na, nc⟩]) ⟨(Below.refl _ _).alloc (Nat.le_refl _) _, fun _ => ⟨w5.heap.size, 0, rfl, fun k x hk => by
    match k, hk with
    | 0, hk => simp at hk; subst hk; show (w5.alloc _).cell? _ = _; simp [go_sem]
    | k + 1, hk => simp at hk⟩⟩ ?_
   rintro W6 ⟨hb6, hpv⟩
   have HPV6 := Lib.hid hpv
   have HB36 := Lib.hid (HB5.out.trans (hb6.mono HB5.out.size))
   have HB6 := Lib.hid (show Below g9 W1 W6 from HB3.out.trans (HB36.out.mono (Nat.le_of_lt hg93)))
   have HS6 := Lib.hid (HS3.out.keep HB36.out)
   have HN6 := Lib.hid (own_keep HN5.out hb6)
   have HP0 := Lib.hid (show ∀ q ∈ [(⟨N, na, nc⟩ : PR)], PRn W6 (.slice none 0 0) W3.heap.size q ∧ q.ps.length ≤ 16 from fun q hq => by
    simp only [List.mem_singleton] at hq; subst hq
    exact ⟨⟨⟨ownPlV (fun y hy => Pl.in_.wf (HNG.out y hy).1) HN6.out, (own_len_le HN6.out).2, by obtain ⟨a1, c1, e1, -, h1⟩ := own_slice HN6.out; injection e1 with e2 e3 e4; rw [e4]; exact h1, fun b e => ⟨(own_blk_lt HN6.out b e).2, fun e' => by cases e'⟩⟩, fun b e => (own_blk_lt HN6.out b e).1, HNG.out⟩, HNL.out⟩)
   generalize w5.heap.size = g8 at hpv HPV6 ⊢
   clear hb6 hpv x0 a3
   go_wp2_with fail
   go_loopw [8, 9] (fun pv kv wq => ∃ (k : Nat) (pa : Option Addr) (pc : Nat) (P : List PR), pv = .slice pa P.length pc ∧ k ≤ B.length ∧ kv = .int .i64 (k : Int) ∧ PRs.V wq pa P ∧ Hid (∀ q ∈ P, PRn wq (.slice none 0 0) W3.heap.size q ∧ q.ps.length ≤ 16) ∧ Hid (leftR Y [] X = leftT O.length (O.map (·.ps)) (P.map (·.ps)) (Y.drop k) Y (X.drop (i + 1))) ∧ Hid (P.length ≤ 100 ∧ O.length + P.length ≤ 100 + (i + 1)) ∧ Below W6.heap.size W6 wq) (fun _ kv _ => B.length - (intOf kv).toNat)
   case atStart => exact ⟨0, _, 1, [⟨N, na, nc⟩], rfl, Nat.zero_le _, rfl, HPV6.out, HP0, HMT, Lib.hid ⟨by simp, by have := HOL.out; simp; omega⟩, Below.refl _ _⟩
   case round =>
    obtain ⟨k, pa, pc, P, rfl, hk, rfl, hpv, HPO, HPM, HPL, hb⟩ := hrel
    obtain ⟨W7, rfl⟩ : ∃ W7 : World, W7 = wr := ⟨_, rfl⟩
    have hpl100 := HPL.out.1
    have HB7 := Lib.hid hb
    have HPV7 := Lib.hid hpv
    have HBW7 := Lib.hid (show Below g9 W1 W7 from HB6.out.trans (hb.mono (Nat.le_of_lt HS6.out.lt)))
    have HS7 := Lib.hid (HS6.out.keep hb)
    have b7 := HBK.out _ HBW7.out
    have o7 := HS7.out.c
    obtain ⟨oa, oc, rfl, -, -⟩ := own_slice HS7.out.o
    clear hb hpv
    by_cases hlt2 : k < B.length
    ·have hkj : (k : Int) < (B.length : Int) := by omega
     obtain ⟨bb, bo, hbe, hat⟩ := (HVB.out.keep (HBF.out _ HBW7.out)).at_ hlt2
     have hry := HPB.out _ (List.getElem_mem hlt2)
     have HPY := Lib.hid (And.intro (good_of (readE_zero.1 hry).2.1) (readE_zero.1 hry).1)
     have HYD := Lib.hid (show Y.drop k = B[k].planes :: Y.drop (k + 1) by rw [HY.out, List.drop_eq_getElem_cons (by simpa using hlt2)]; simp)
     obtain ⟨ya, yc, y0, yv, -⟩ := hat
     rw [Nat.mul_one] at y0
     generalize B[k].planes = qs at *
     have HYV := Lib.hid yv
     have HY0 := Lib.hid y0
     have HLT := Lib.hid (leftT_cons (n := O.length) (out := O.map (·.ps)) (ps := P.map (·.ps)) (d := qs) (y := Y.drop (k + 1)) (Y := Y) (x := X.drop (i + 1)))
     rw [← HYD.out] at HLT
     subst hbe
     clear hry yv
     go_wp2_with fail
     go_loopw [10, 11] (fun rv mv wq => ∃ (m : Nat) (R : List PR), m ≤ P.length ∧ mv = .int .i64 (m : Int) ∧ wq.ownsRow W7.heap.size 24 1 rv R.length (R.flatMap cellsPR) ∧ Hid (R.map (·.ps) = stepR qs ((P.map (·.ps)).take m)) ∧ Hid (∀ q ∈ R, PRn wq rv W3.heap.size q) ∧ Hid (R.length ≤ m * 20) ∧ Below W7.heap.size W7 wq) (fun _ mv _ => P.length - (intOf mv).toNat)
     case atStart => exact ⟨0, [], Nat.zero_le _, rfl, ⟨rfl, .inl ⟨rfl, rfl⟩⟩, Lib.hid rfl, Lib.hid (fun q hq => absurd hq (by simp)), Lib.hid (by simp), Below.refl _ _⟩
     case round =>
      obtain ⟨m, R, hm, rfl, hown, HRM, HRO, HRL, hb⟩ := hrel
      obtain ⟨W9, rfl⟩ : ∃ W9 : World, W9 = wr := ⟨_, rfl⟩
      have HB9 := Lib.hid hb
      have HO9 := Lib.hid hown
      have hz9 := hb.size
      have b9 := cell_keep hb b7
      have y9 := cell_keep hb HY0.out
      obtain ⟨ra, rc, rfl, -, -⟩ := own_slice hown
      by_cases hlt3 : m < P.length
      ·have hkm : (m : Int) < (P.length : Int) := by omega
       obtain ⟨pb, poff, hpe, hat⟩ := (HPV7.out.keep hb).at_ hlt3
       have HPK := Lib.hid (HPO.out _ (List.getElem_mem hlt3))
       have HSM := Lib.hid (show stepR qs ((P.map (·.ps)).take (m + 1)) = stepR qs ((P.map (·.ps)).take m) ++ step1R qs P[m].ps by rw [stepR_succ (by simpa using hlt3)]; simp)
       generalize P[m] = p at *
       obtain ⟨pp, ppa, ppc⟩ := p
       have p0 : W9.cell? ⟨pb, poff + m, none⟩ = some (.slice ppa pp.length ppc) := by have h := hat; unfold PR.at at h; rw [Nat.mul_one] at h; exact h
       have HPVK := Lib.hid (HPK.out.1.keep hb)
       simp only at HSM
       subst hpe
       have n1' : (0 : Int) ≤ (m : Int) := by omega
       have n2' : (0 : Int) ≤ (k : Int) := by omega
       have HYV9 := Lib.hid (HYV.out.keep hb)
       have HPG := Lib.hid HPK.out.1.g
       have HP16 := Lib.hid HPK.out.2
       have HPP := Lib.hid (show Pls.V W9 ppa pp from HPVK.out.ok.pls)
       simp only at HPG HP16
       have HCM := Lib.hid (fun W (h : Below W9.heap.size W9 W) => commonR_any pp qs ppa ya ppc yc W (HPP.out.keep h) (HYV9.out.keep h) HPG.out HPY.out.1 (by have := HP16.out; have := HPY.out.2; omega))
       have HCU := Lib.hid (fun W (h : Below W9.heap.size W9 W) => cutR_any pp qs ppa ya ppc yc W (HPP.out.keep h) (HYV9.out.keep h) HPG.out HPY.out.1 HP16.out (by have := HPY.out.2; omega))
       have HS1 := Lib.hid (show step1R qs pp = if comR pp qs = true then cutRK pp (nf qs) (nf qs).length else [pp] from rfl)
       have HCL := Lib.hid (show (cutRK pp (nf qs) (nf qs).length).length ≤ 16 from Nat.le_trans (cutRK_len _ _ _) (Nat.le_trans (nor_len _ _) HPY.out.2))
       generalize comV pp qs = V at *
       generalize comR pp qs = S at *
       generalize cutRK pp (nf qs) (nf qs).length = CU at *
       clear hb hown hat
       go_upto_region 13 with fail
       have kx0 : ∀ u : KW (fun W' => Below W9.heap.size W9 W'), u.w.cell? ⟨gw + 1, 0, none⟩ = some (.slice (some ⟨bb, bo, none⟩) B.length bn) ∧ u.w.cell? ⟨pb, poff + m, none⟩ = some (.slice ppa pp.length ppc) ∧ u.w.cell? ⟨bb, bo + k, none⟩ = some (.slice ya qs.length yc) := fun u => ⟨cell_keep u.ok b9, cell_keep u.ok p0, cell_keep u.ok y9⟩
       haveI nn1 : Nonempty (KW (fun W' => Below W9.heap.size W9 W')) := ⟨⟨W9, Below.refl _ _⟩⟩
       refine wp_cut_slots [45, 46, 47, 48, 49, 50, 51, 52, 53, 54, 44, 55, 56, 12, 13] (MiCut W9 S) ?_ ?_
       ·refine wp_region_tree (fun w' => ∃ u : KW (fun W' => Below W9.heap.size W9 W'), w' = u.w) 15 (.take 0 (.take 1 (.take 2 (.take 3 (.take 4 (.take 5 (.take 6 (.take 7 (.take 8 (.two 9 (.take 10 (.take 11 (.take 12 (.one 13 (.one 14 .done))))) 13 (.one 9 (.take 10 (.take 11 (.take 12 (.one 14 .done))))))))))))))) hmix (by kernel_rfl) (KW.mk' (Below.refl _ _).drew) ?_
        have HC := Lib.hid (show Below W9.heap.size W9 W9.drew from (Below.refl _ _).drew)
        generalize W9.drew = wz at *
        (refine wpTree_take ?_; simp only [nthOp]; (first | go_big_quiet_step (fail) | quiet_step (fail)); refine wpQuiet_nil ?_)
        (refine wpTree_take ?_; simp only [nthOp]; (first | go_big_quiet_step (fail) | quiet_step (fail)); refine wpQuiet_nil ?_)
        (refine wpTree_take ?_; simp only [nthOp]; (first | go_big_quiet_step (fail) | quiet_step (fail)); refine wpQuiet_nil ?_)
        (refine wpTree_take ?_; simp only [nthOp]; (first | go_big_quiet_step (fail) | quiet_step (fail)); refine wpQuiet_nil ?_)
        (refine wpTree_take ?_; simp only [nthOp]; (first | go_big_quiet_step (fail) | quiet_step (fail)); refine wpQuiet_nil ?_)
        (refine wpTree_take ?_; simp only [nthOp]; (first | go_big_quiet_step (fail) | quiet_step (fail)); refine wpQuiet_nil ?_)
        (refine wpTree_take ?_; simp only [nthOp]; (first | go_big_quiet_step (fail) | quiet_step (fail)); refine wpQuiet_nil ?_)
        (refine wpTree_take ?_; simp only [nthOp]; (first | go_big_quiet_step (fail) | quiet_step (fail)); refine wpQuiet_nil ?_)
        (refine wpTree_take ?_; simp only [nthOp]; (first | go_big_quiet_step (fail) | quiet_step (fail)); refine wpQuiet_nil ?_)
        refine wpTree_two ?_ ?_
        ·skip
         simp only [nthOp]
         have HQ := Lib.hid (HCM.out wz HC.out)
         go_wp2_with (go_at_call 123; refine HQ.out.mono ?_; rintro e wt1 ⟨va, vc, rfl, -, hb⟩; have HC := Lib.hid (HC.out.trans (hb.mono HC.out.size)); clear hb)
         refine One_mk (KW.mk' HC.out) ?_
         clear HQ
         (refine wpTree_take ?_; simp only [nthOp]; (first | go_big_quiet_step (fail) | quiet_step (fail)); refine wpQuiet_nil ?_)
         (refine wpTree_take ?_; simp only [nthOp]; (first | go_big_quiet_step (fail) | quiet_step (fail)); refine wpQuiet_nil ?_)
         (refine wpTree_take ?_; simp only [nthOp]; (first | go_big_quiet_step (fail) | quiet_step (fail)); refine wpQuiet_nil ?_)
         refine wpTree_one ?_
         simp only [nthOp]
         go_wp2_with fail
         have HZ := Lib.hid (show (wt1.alloc (.cells #[.slice none 0 0] 24)).cell? ⟨wt1.heap.size, 0, none⟩ = some (.slice none 0 0) ∧ (wt1.alloc (.cells #[.slice none 0 0] 24)).frozen? ⟨wt1.heap.size, 0, none⟩ = false from ⟨by simp [go_sem], by simp [go_sem]⟩)
         have HGZ := Lib.hid HC.out.size
         have HC := Lib.hid (HC.out.alloc HC.out.size (.cells #[.slice none 0 0] 24))
         refine One_mk (KW.mk' HC.out) ?_
         generalize (wt1.alloc (.cells #[.slice none 0 0] 24)) = wt2 at *
         generalize wt1.heap.size = gz at *
         refine wpTree_one ?_
         simp only [nthOp]
         obtain ⟨z0, zf0⟩ := HZ.out
         go_wp2_with fail
         have HC := Lib.hid (HC.out.setCell (p := ⟨gz, 0, none⟩) HGZ.out (.slice va V.length vc))
         clear z0 zf0
         refine One_mk (KW.mk' HC.out) ?_
         generalize (wt2.setCell ⟨gz, 0, none⟩ (.slice va V.length vc)) = wt3 at *
         refine wpTree_done ?_
         simp only [List.drop_succ_cons, List.drop_zero]
         go_wp2_with fail
         refine NP_mk ?_
         exact cut_meet (by simp [forget]) ⟨rfl, HC.out⟩
        ·skip
         simp only [nthOp]
         go_wp2_with fail
         have HZ := Lib.hid (show (wz.alloc (.cells #[.slice none 0 0] 24)).cell? ⟨wz.heap.size, 0, none⟩ = some (.slice none 0 0) ∧ (wz.alloc (.cells #[.slice none 0 0] 24)).frozen? ⟨wz.heap.size, 0, none⟩ = false from ⟨by simp [go_sem], by simp [go_sem]⟩)
         have HGZ := Lib.hid HC.out.size
         have HC := Lib.hid (HC.out.alloc HC.out.size (.cells #[.slice none 0 0] 24))
         refine One_mk (KW.mk' HC.out) ?_
         generalize (wz.alloc (.cells #[.slice none 0 0] 24)) = wt4 at *
         generalize wz.heap.size = gz at *
         refine wpTree_one ?_
         simp only [nthOp]
         have HQ := Lib.hid (HCM.out wt4 HC.out)
         go_wp2_with (go_at_call 123; refine HQ.out.mono ?_; rintro e wt5 ⟨va, vc, rfl, -, hb⟩; have HZ := Lib.hid (And.intro (cell_keep hb HZ.out.1) (frozen_keep hb (block_lt_of_cell HZ.out.1) HZ.out.2)); have HC := Lib.hid (HC.out.trans (hb.mono HC.out.size)); clear hb)
         refine One_mk (KW.mk' HC.out) ?_
         clear HQ
         (refine wpTree_take ?_; simp only [nthOp]; (first | go_big_quiet_step (fail) | quiet_step (fail)); refine wpQuiet_nil ?_)
         (refine wpTree_take ?_; simp only [nthOp]; (first | go_big_quiet_step (fail) | quiet_step (fail)); refine wpQuiet_nil ?_)
         (refine wpTree_take ?_; simp only [nthOp]; (first | go_big_quiet_step (fail) | quiet_step (fail)); refine wpQuiet_nil ?_)
         refine wpTree_one ?_
         simp only [nthOp]
         obtain ⟨z0, zf0⟩ := HZ.out
         go_wp2_with fail
         have HC := Lib.hid (HC.out.setCell (p := ⟨gz, 0, none⟩) HGZ.out (.slice va V.length vc))
         clear z0 zf0
         refine One_mk (KW.mk' HC.out) ?_
         generalize (wt5.setCell ⟨gz, 0, none⟩ (.slice va V.length vc)) = wt6 at *
         refine wpTree_done ?_
         simp only [List.drop_succ_cons, List.drop_zero]
         go_wp2_with fail
         refine NP_mk ?_
         exact cut_meet (by simp [forget]) ⟨rfl, HC.out⟩
       clear kx0 nn1
       rintro u WA ⟨hu13, hb⟩
       simp only [forget, List.foldl_cons, List.foldl_nil, hu13, List.setIfInBounds_toArray, List.set_cons_succ, List.set_cons_zero]
       have HBA := Lib.hid hb
       have HB7A := Lib.hid (show Below W7.heap.size W7 WA from HB9.out.trans (hb.mono hz9))
       have HOA := Lib.hid (own_keep HO9.out hb)
       have HROA := Lib.hid (show ∀ q ∈ R, PRn WA (.slice ra R.length rc) W3.heap.size q from fun q hq => (HRO.out q hq).keep hb)
       have bA := cell_keep hb b9
       have pA := cell_keep hb p0
       have yA := cell_keep hb y9
       clear hu13 hb b9 p0 y9
       cases S with
       | false =>
        have HS2 := Lib.hid (show step1R qs pp = [pp] by rw [HS1.out]; rfl)
        have hal := (Below.refl WA.heap.size WA).alloc (Nat.le_refl _) (.cells #[.slice ppa pp.length ppc] 24)
        have HOB := Lib.hid (own_keep HOA.out hal)
        have HNW := Lib.hid (show ∀ j u, (cellsPR ⟨pp, ppa, ppc⟩)[j]? = some u → (WA.alloc (.cells #[.slice ppa pp.length ppc] 24)).cell? ((⟨WA.heap.size, 0, none⟩ : Addr).add j) = some u from news_of (cellsPR ⟨pp, ppa, ppc⟩) 24 WA _ rfl)
        have HBB := Lib.hid (show Below W7.heap.size W7 (WA.alloc (.cells #[.slice ppa pp.length ppc] 24)) from HB7A.out.trans (hal.mono HB7A.out.size))
        have HPB2 := Lib.hid (show PRn (WA.alloc (.cells #[.slice ppa pp.length ppc] 24)) (.slice ra R.length rc) W3.heap.size ⟨pp, ppa, ppc⟩ from ((HPVK.out.keep HBA.out).keep hal).to (fun b e e' => by have h1 := (own_lt HO9.out e').1; have h2 := (HPK.out.1.ok.pb b e).1; omega))
        go_wp2_with (at_builtin; refine wpList_append_here _ rfl _ _ 46 rfl W7.heap.size 24 i0 (.agg #[.slice none 0 0]) 1 24 Tryz.underlying46 hi0 hz0 hz1 hz2 rfl (by decide) (.slice ra R.length rc) R.length (R.flatMap cellsPR) rfl HOB.out ⟨WA.heap.size, 0, none⟩ 1 1 (cellsPR ⟨pp, ppa, ppc⟩) rfl rfl HNW.out (cellsPR_one _) (by decide) (by have := HRL.out; have := HPL.out.1; simp only [maxLen]; omega) (by have := HRL.out; have := HPL.out.1; omega) (by have := HBB.out.size; omega) ?_; intro v' wD hownD hgrD hatD; have HGD := Lib.hid hgrD; have HAD := Lib.hid hatD; have HOD := Lib.hid (show wD.ownsRow W7.heap.size 24 1 v' (R ++ [(⟨pp, ppa, ppc⟩ : PR)]).length ((R ++ [(⟨pp, ppa, ppc⟩ : PR)]).flatMap cellsPR) by rw [List.flatMap_append, List.length_append]; simpa using hownD); clear hownD hgrD hatD)
        have HFIN := Lib.hid (show ∀ q ∈ R ++ [(⟨pp, ppa, ppc⟩ : PR)], PRn wD v' W3.heap.size q from fun q hq => by
         rcases List.mem_append.1 hq with hq | hq
         ·exact ((HROA.out q hq).keep hal).grown HGD.out HAD.out
         ·simp only [List.mem_singleton] at hq; subst hq; exact HPB2.out.grown HGD.out HAD.out)
        go_roundw
        case rel => exact ⟨m + 1, _, by omega, by go_num, HOD.out, Lib.hid (by rw [List.map_append, HRM.out, HSM.out, HS2.out]; rfl), HFIN, Lib.hid (by have := HRL.out; simp; omega), below_grown HBB.out HGD.out HBB.out.size fun g hg => (own_lt HOB.out hg).1⟩
        case measure => first | (simp [intOf]; done) | (simp [intOf]; omega)
       | true =>
        have HS2 := Lib.hid (show step1R qs pp = CU by rw [HS1.out]; rfl)
        go_upto_region 15 with fail
        have kx0 : ∀ u : KW (fun W' => Below WA.heap.size WA W'), u.w.cell? ⟨gw + 1, 0, none⟩ = some (.slice (some ⟨bb, bo, none⟩) B.length bn) ∧ u.w.cell? ⟨pb, poff + m, none⟩ = some (.slice ppa pp.length ppc) ∧ u.w.cell? ⟨bb, bo + k, none⟩ = some (.slice ya qs.length yc) := fun u => ⟨cell_keep u.ok bA, cell_keep u.ok pA, cell_keep u.ok yA⟩
        haveI nn1 : Nonempty (KW (fun W' => Below WA.heap.size WA W')) := ⟨⟨WA, Below.refl _ _⟩⟩
        refine wp_region_tree (fun w' => ∃ u : KW (fun W' => Below WA.heap.size WA W'), w' = u.w) 11 (.take 0 (.take 1 (.take 2 (.take 3 (.take 4 (.take 5 (.take 6 (.take 7 (.take 8 (.take 9 (.one 10 .done))))))))))) hmix (by kernel_rfl) (KW.mk' (Below.refl _ _).drew) ?_
        have HC := Lib.hid (show Below WA.heap.size WA WA.drew from (Below.refl _ _).drew)
        generalize WA.drew = wz at *
        repeat (refine wpTree_take ?_; simp only [nthOp]; (first | go_big_quiet_step (fail) | quiet_step (fail)); refine wpQuiet_nil ?_)
        refine wpTree_one ?_
        simp only [nthOp]
        have HQ := Lib.hid (HCU.out wz (HBA.out.trans (HC.out.mono HBA.out.size)))
        go_wp2_with (go_at_call 124; refine HQ.out.mono ?_; rintro e wC ⟨v2, L2, rfl, hl2, hp2, ho2, hb⟩; obtain ⟨v2a, v2c, rfl, -, -⟩ := own_slice ho2; have HL2 := Lib.hid hl2; have HP2 := Lib.hid hp2; have HO2 := Lib.hid ho2; have HZC := Lib.hid HC.out.size; have HC := Lib.hid (HC.out.trans (hb.mono HC.out.size)); clear hl2 hp2 ho2 hb)
        refine One_mk (KW.mk' HC.out) ?_
        refine wpTree_done ?_
        simp only [List.drop_succ_cons, List.drop_zero]
        have H2L := Lib.hid (show L2.length ≤ 16 by have h1 := congrArg List.length HL2.out; have h3 := HCL.out; simp only [List.length_map] at h1; omega)
        have HOC := Lib.hid (own_keep HOA.out HC.out)
        have HBC := Lib.hid (show Below W7.heap.size W7 wC from HB7A.out.trans (HC.out.mono HB7A.out.size))
        have HNC := Lib.hid (prsNews (ownPRV HO2.out))
        clear kx0 nn1 HQ
        go_wp2_with (at_builtin; refine wpList_append_rows cellsPR_len cellsPR_one (by decide) rfl _ _ 46 rfl W7.heap.size 24 i0 (.agg #[.slice none 0 0]) 24 Tryz.underlying46 hi0 hz0 hz1 hz2 rfl (by decide) (.slice ra R.length rc) R.length (R.flatMap cellsPR) rfl HOC.out v2a L2 v2c rfl HNC.out (by have := HRL.out; have := HPL.out.1; have := H2L.out; omega) HBC.out.size ?_; intro v' wD hownD hgrD hatD; have HGD := Lib.hid hgrD; have HAD := Lib.hid hatD; have HOD := Lib.hid (show wD.ownsRow W7.heap.size 24 1 v' (R ++ L2).length ((R ++ L2).flatMap cellsPR) by rw [List.flatMap_append, List.length_append]; exact hownD); clear hownD hgrD hatD)
        refine NP_mk ?_
        have HFIN := Lib.hid (show ∀ q ∈ R ++ L2, PRn wD v' W3.heap.size q from fun q hq => by
         rcases List.mem_append.1 hq with hq | hq
         ·exact ((HROA.out q hq).keep HC.out).grown HGD.out HAD.out
         ·have h2 := HP2.out q hq
          refine PRn.mono ((h2.to (fun b e e' => ?_)).grown HGD.out HAD.out) ?_
          ·have h3 := h2.nw b e; have h4 := (own_lt HOA.out e').2; have := HZC.out; omega
          ·have := HZC.out; have := HB7A.out.size; have := HB7.out.size; have := HB36.out.size; omega)
        go_wp2_with fail
        go_roundw
        case rel => exact ⟨m + 1, _, by omega, by go_num, HOD.out, Lib.hid (by rw [List.map_append, HRM.out, HSM.out, HS2.out, HL2.out]), HFIN, Lib.hid (by have := HRL.out; have := H2L.out; simp; omega), below_grown HBC.out HGD.out HBC.out.size fun g hg => (own_lt HOC.out hg).1⟩
        case measure => first | (simp [intOf]; done) | (simp [intOf]; omega)
      ·obtain rfl : m = P.length := by omega
       have hkm : ¬ ((P.length : Nat) : Int) < ((P.length : Nat) : Int) := by omega
       have HRF := Lib.hid (show R.map (·.ps) = stepR qs (P.map (·.ps)) by rw [HRM.out, show (P.map (·.ps)).take P.length = P.map (·.ps) from by rw [← List.length_map (f := fun r : PR => r.ps), List.take_length]])
       have o9 := cell_keep hb o7
       have HRV := Lib.hid (ownPRV HO9.out)
       have HRPN := Lib.hid (show ∀ q ∈ R, PRn W9 (.slice none 0 0) W3.heap.size q from fun q hq => (HRO.out q hq).to (fun b e e' => by cases e'))
       rw [← HRF.out] at HLT
       have HB69 := Lib.hid (show Below W6.heap.size W6 W9 from HB7.out.trans (hb.mono HB7.out.size))
       have HBW9 := Lib.hid (show Below g9 W1 W9 from HBW7.out.trans (hb.mono (Nat.le_of_lt HS7.out.lt)))
       have hrl20 : R.length ≤ 2000 := by have := HRL.out; omega
       have hol := HOL.out
       have vs : IntKind.i64.wrap ((O.length : Int) + (R.length : Int)) = (O.length : Int) + (R.length : Int) := IntWalk.i64_in _ (by omega)
       obtain ⟨r9, rf9⟩ := HRK.out _ HBW9.out
       clear hb hown b9 y9
       by_cases h100 : 100 < O.length + R.length
       ·have h100i : (100 : Int) < (O.length : Int) + (R.length : Int) := by omega
        have HNO2 := Lib.hid (show leftR Y [] X = none by rw [HPM.out, HLT.out, if_pos (by unfold tooMany; simp [h100])])
        have HM3 := Lib.hid (show M = 8 by rw [HM.out, HNO2.out])
        have HV3 := Lib.hid (show V0 = [] by rw [HV0.out, HNO2.out]; rfl)
        go_wp2_with fail
        refine bodyPost_ret (v := .tuple #[.agg #[.slice none 0 0], .int .i64 8]) ?_ ?_ ?_
        ·simp [results, Tryz.results63, go_sem, got1 r9]
        ·rfl
        ·rw [HM3.out, HV3.out]
         first | exact ⟨none, 0, rfl, fun hne => absurd rfl hne, (HBF.out _ HBW9.out).setCell (by have := HGW.out; simp only; omega) _⟩ | exact ⟨none, ⟨0, rfl⟩, fun hne => absurd rfl hne, (HBF.out _ HBW9.out).setCell (by have := HGW.out; simp only; omega) _⟩
       ·have h100i : ¬ (100 : Int) < (O.length : Int) + (R.length : Int) := by omega
        go_wp2_with fail
        go_loopw [14] (fun jv wq => ∃ j : Nat, j ≤ R.length ∧ jv = .int .i64 (j : Int) ∧ Hid (∀ q ∈ R.take j, q.ps.length ≤ 16) ∧ wq = W9) (fun jv _ => R.length - (intOf jv).toNat)
        case atStart => exact ⟨0, Nat.zero_le _, rfl, Lib.hid (fun q hq => absurd hq (by simp)), rfl⟩
        case round =>
         obtain ⟨j, hj, rfl, HJ, rfl⟩ := hrel
         by_cases hlt4 : j < R.length
         ·have hkj4 : (j : Int) < (R.length : Int) := by omega
          obtain ⟨rb, roff, hre, hat⟩ := HRV.out.at_ hlt4
          have HTK := Lib.hid (List.take_succ_eq_append_getElem hlt4)
          have HMEM := Lib.hid (List.getElem_mem hlt4)
          generalize R[j] = q at *
          obtain ⟨qp, qa, qc⟩ := q
          unfold PR.at at hat
          rw [Nat.mul_one] at hat
          simp only at hat
          subst hre
          have n1' : (0 : Int) ≤ (j : Int) := by omega
          by_cases h16 : 16 < qp.length
          ·have h16i : (16 : Int) < (qp.length : Int) := by omega
           have HNO2 := Lib.hid (show leftR Y [] X = none by
            rw [HPM.out, HLT.out, if_pos]
            unfold tooMany
            rw [Bool.or_eq_true]
            exact .inr (List.any_eq_true.2 ⟨qp, List.mem_map.2 ⟨_, HMEM.out, rfl⟩, by simpa using h16⟩))
           have HM3 := Lib.hid (show M = 8 by rw [HM.out, HNO2.out])
           have HV3 := Lib.hid (show V0 = [] by rw [HV0.out, HNO2.out]; rfl)
           go_wp2_with fail
           refine bodyPost_ret (v := .tuple #[.agg #[.slice none 0 0], .int .i64 8]) ?_ ?_ ?_
           ·simp [results, Tryz.results63, go_sem, got1 r9]
           ·rfl
           ·rw [HM3.out, HV3.out]
            first | exact ⟨none, 0, rfl, fun hne => absurd rfl hne, (HBF.out _ HBW9.out).setCell (by have := HGW.out; simp only; omega) _⟩ | exact ⟨none, ⟨0, rfl⟩, fun hne => absurd rfl hne, (HBF.out _ HBW9.out).setCell (by have := HGW.out; simp only; omega) _⟩
          ·have h16i : ¬ (16 : Int) < (qp.length : Int) := by omega
           have HJ2 := Lib.hid (show ∀ q ∈ R.take (j + 1), q.ps.length ≤ 16 from fun q hq => by
            rw [HTK.out] at hq
            rcases List.mem_append.1 hq with hq | hq
            ·exact HJ.out q hq
            ·rw [List.mem_singleton] at hq; subst hq; simp only; omega)
           go_wp2_with fail
           go_roundw
           case rel => exact ⟨j + 1, by omega, by go_num, HJ2, by first | trivial | rfl⟩
           case measure => first | (simp [intOf]; done) | (simp [intOf]; omega)
         ·obtain rfl : j = R.length := by omega
          have hkj4 : ¬ ((R.length : Nat) : Int) < ((R.length : Nat) : Int) := by omega
          rw [List.take_length] at HJ
          have HNX := Lib.hid (show leftR Y [] X = leftT O.length (O.map (·.ps)) (R.map (·.ps)) (Y.drop (k + 1)) Y (X.drop (i + 1)) by
           rw [HPM.out, HLT.out, if_neg]
           unfold tooMany
           rw [Bool.or_eq_true, not_or]
           refine ⟨by simp only [List.length_map, decide_eq_true_eq]; omega, fun h => ?_⟩
           obtain ⟨q, hq, h1⟩ := List.any_eq_true.1 h
           obtain ⟨r, hr, rfl⟩ := List.mem_map.1 hq
           have := HJ.out r hr
           simp only [decide_eq_true_eq] at h1; omega)
          go_wp2_with fail
          go_roundw
          case rel => exact ⟨k + 1, ra, rc, R, rfl, by omega, by go_num, HRV.out, Lib.hid (fun q hq => ⟨HRPN.out q hq, HJ.out q hq⟩), HNX, Lib.hid ⟨by omega, by omega⟩, HB69.out⟩
          case measure => first | (simp [intOf]; done) | (simp [intOf]; omega)
    ·obtain rfl : k = B.length := by omega
     have hkj : ¬ ((B.length : Nat) : Int) < ((B.length : Nat) : Int) := by omega
     have HNX := Lib.hid (show leftR Y [] X = leftR Y ((O ++ P).map (·.ps)) (X.drop (i + 1)) by rw [HPM.out, show Y.drop B.length = [] from by rw [HY.out]; simp, leftT_nil, List.map_append])
     have f7 := HS7.out.f
     have HNP := Lib.hid (prsNews HPV7.out)
     have HOFS := Lib.hid (show (Value.slice oa O.length oc).ownBlock ≠ some g9 from fun e => by have := (own_lt HS7.out.o e).1; omega)
     go_wp2_with (at_builtin; refine wpList_append_rows cellsPR_len cellsPR_one (by decide) rfl _ _ 46 rfl (g9 + 1) 24 i0 (.agg #[.slice none 0 0]) 24 Tryz.underlying46 hi0 hz0 hz1 hz2 rfl (by decide) (.slice oa O.length oc) O.length (O.flatMap cellsPR) rfl HS7.out.o pa P pc rfl HNP.out (by have := HOL.out; have := HPL.out; omega) (by have := HS7.out.lt; omega) ?_; intro v' wD hownD hgrD hatD; obtain ⟨va', vc', rfl, -, -⟩ := own_slice hownD; have HGD := Lib.hid hgrD; have HAD := Lib.hid hatD; have HOD := Lib.hid (show wD.ownsRow (g9 + 1) 24 1 (.slice va' (O.length + P.length) vc') (O ++ P).length ((O ++ P).flatMap cellsPR) by rw [List.flatMap_append, List.length_append]; exact hownD); have m0 := grown_cell hgrD HS7.out.c HOFS.out; have mf := (grown_frozen hgrD HS7.out.c HOFS.out).trans HS7.out.f; clear hownD hgrD hatD)
     have HSD := Lib.hid (HS7.out.putAll HGD.out HAD.out (fun q hq => ((HPO.out q hq).1.to (fun b e e' => by have h1 := (HPO.out q hq).1.nw b e; have h2 := (own_lt HS3.out.o e').2; omega)).ok) (fun q hq b e => by have h1 := (HPO.out q hq).1.nw b e; omega) (fun r hr b e => by have := HOF.out r hr b e; omega) HOD.out)
     have HOF2 := Lib.hid (show ∀ r ∈ O ++ P, ∀ b, blk r.pa = some b → g9 < b from fun r hr b e => by
      rcases List.mem_append.1 hr with hr | hr
      ·exact HOF.out r hr b e
      ·have h1 := (HPO.out r hr).1.nw b e; omega)
     have HBD := Lib.hid ((below_grown HBW7.out HGD.out (Nat.le_of_lt HS7.out.lt) fun j hj => Nat.le_of_succ_le (own_lt HS7.out.o hj).1).setCell (Nat.le_refl _) (.slice va' (O.length + P.length) vc') (p := ⟨g9, 0, none⟩))
     go_wp2_with fail
     go_roundw
     case rel => exact ⟨i + 1, _, O ++ P, by omega, by go_num, HSD.out, HNX, HOF2, Lib.hid (by have := HPL.out.2; simp; omega), HBD.out⟩
     case measure => first | (simp [intOf]; done) | (simp [intOf]; omega)
  ·obtain rfl : i = A.length := by omega
   have hki : ¬ ((A.length : Nat) : Int) < ((A.length : Nat) : Int) := by omega
   have HNO := Lib.hid (show leftR Y [] X = some (O.map (·.ps)) by rw [HMM.out, show X.drop A.length = [] from by rw [HX.out]; simp]; rfl)
   have HM3 := Lib.hid (show M = 0 by rw [HM.out, HNO.out])
   have HV3 := Lib.hid (show V0 = O.map (·.ps) by rw [HV0.out, HNO.out]; rfl)
   obtain ⟨r3, rf3⟩ := HRK.out _ hb
   have o3 := hst.c
   obtain ⟨va, vc, rfl, -, -⟩ := own_slice hst.o
   clear hst hb
   go_wp2_with fail
   refine bodyPost_ret (v := .tuple #[.agg #[.slice va O.length vc], .int .i64 0]) ?_ ?_ ?_
   ·simp [results, Tryz.results63, go_sem, got1 r3]
   ·rfl
   ·rw [HM3.out, HV3.out]
    have hg := HG1.out
    have ho := HS3.out.o.kept (grownBy_set (a := ⟨gw + 2, 0, none⟩) (u := .slice va O.length vc)) (.inr fun e => by have := (own_lt HS3.out.o e).1; simp only at this; omega)
    have hcv := prs_cells ho (v := .slice none 0 0) fun q hq => by
     have h := HS3.out.p q hq
     exact ⟨h.pls.grown (grownBy_set (a := ⟨gw + 2, 0, none⟩)) fun b e e' => by injection e' with e'; have := HOF.out q hq b e; simp only at e'; omega, h.len, h.cap, fun b e => ⟨by rw [size_set]; exact (h.pb b e).1, fun e' => by cases e'⟩⟩
    have hcv2 : Cells.V (W3.setCell ⟨gw + 2, 0, none⟩ (.slice va O.length vc)) va ((O.map (·.ps)).map Cell.mk) := by simpa [List.map_map, Function.comp_def] using hcv
    have hbf := (HBF.out _ HB3.out).setCell (p := ⟨gw + 2, 0, none⟩) (by have := HGW.out; simp only; omega) (.slice va O.length vc)
    first
     | exact ⟨va, vc, by simp, hcv2, hbf⟩
     | exact ⟨va, ⟨vc, by simp⟩, hcv2, hbf⟩
end Go.Proofs.YtbhgkadklklmbaaGreat
/- Cells through a store into a box beside them; rows of cells put together. -/
set_option linter.unusedVariables false
set_option linter.unusedSimpArgs false
namespace Go.Proofs.YtbhgkadklklmbaaGreat
open Go Go.RowKit Go.Sort Go.Lib

/-- A store into the box of a solid leaves the cells of another one alone. -/
theorem cells_set {w : World} {a wa : Option Addr} {l V : List Cell} {g wc : Nat} (h : Cells.V w a l) (hne : ∀ x ∈ l, x.planes ≠ []) (hbox : w.cell? ⟨g, 0, none⟩ = some (.slice wa V.length wc)) (hV : Cells.V w wa V) (u : Value) : Cells.V (w.setCell ⟨g, 0, none⟩ u) a l := fun hl => by
 obtain ⟨b, off, rfl, hx⟩ := h hl
 refine ⟨b, off, rfl, fun k x hk => ?_⟩
 obtain ⟨pa, pc, h1, h2, h3, h4, h5⟩ := hx k x hk
 have hxn := hne x (List.mem_of_getElem? hk)
 obtain ⟨pb, poff, rfl, hp⟩ := h2 hxn
 have n1 : (⟨g, 0, none⟩ : Addr) ≠ ⟨b, off + k * 1, none⟩ := fun e => by
  rw [← e, hbox] at h1
  injection h1 with h1
  injection h1 with e1 e2 e3
  have hVn : V ≠ [] := fun e => by rw [e] at e2; exact hxn (List.length_eq_zero_iff.1 e2.symm)
  obtain ⟨vb, voff, e4, hv⟩ := hV hVn
  rw [e4] at e1
  injection e1 with e1
  injection e1 with e5 e6
  subst e5 e6
  cases hxp : x.planes with
  | nil => exact hxn hxp
  | cons p ps =>
   cases hvp : V with
   | nil => exact hVn hvp
   | cons y ys =>
    have c1 := (hp 0 p (by rw [hxp]; rfl)).1
    obtain ⟨qa, qc, c2, -⟩ := hv 0 y (by rw [hvp]; rfl)
    rw [Nat.zero_mul, Nat.add_zero] at c1 c2
    rw [c1] at c2
    cases c2
 refine ⟨some ⟨pb, poff, none⟩, pc, by rw [cell_set_ne n1 rfl rfl]; exact h1, fun _ => ⟨pb, poff, rfl, fun j p hj => ?_⟩, h3, h4, h5⟩
 obtain ⟨c0, c1, c2, c3, hw⟩ := hp j p hj
 have key : ∀ o z, w.cell? ⟨pb, o, none⟩ = some (.int .i64 z) → (w.setCell ⟨g, 0, none⟩ u).cell? ⟨pb, o, none⟩ = some (.int .i64 z) := fun o z hz => by
  rw [cell_set_ne (fun e => by rw [← e, hbox] at hz; injection hz with hz; cases hz) rfl rfl]; exact hz
 exact ⟨key _ _ c0, key _ _ c1, key _ _ c2, key _ _ c3, hw⟩
/-- The cells of a solid as planes in memory. -/
theorem cells_prs {w : World} {a : Option Addr} {l : List Cell} (h : Cells.V w a l) : ∃ L : List PR, L.map (fun r => (⟨r.ps⟩ : Cell)) = l ∧ PRs.V w a L ∧ ∀ q ∈ L, Pls.V w q.pa q.ps ∧ q.ps.length ≤ q.pc ∧ q.pc ≤ 9223372036854775807 := by
 by_cases hl : l = []
 ·subst hl; exact ⟨[], rfl, fun hn => absurd rfl hn, fun q hq => absurd hq (by simp)⟩
 obtain ⟨b, off, rfl, hx⟩ := h hl
 clear h hl
 have key : ∀ n, n ≤ l.length → ∃ L : List PR, L.map (fun r => (⟨r.ps⟩ : Cell)) = l.take n ∧ (∀ k r, L[k]? = some r → w.cell? ⟨b, off + k * 1, none⟩ = some (.slice r.pa r.ps.length r.pc)) ∧ ∀ q ∈ L, Pls.V w q.pa q.ps ∧ q.ps.length ≤ q.pc ∧ q.pc ≤ 9223372036854775807 := by
  intro n
  induction n with
  | zero => exact fun _ => ⟨[], rfl, fun k r hr => by simp at hr, fun q hq => absurd hq (by simp)⟩
  | succ n ih =>
   intro hn
   obtain ⟨L, h1, h2, h3⟩ := ih (by omega)
   have hlen : L.length = n := by have := congrArg List.length h1; rw [List.length_map, List.length_take] at this; omega
   obtain ⟨pa, pc, c1, c2, c3, c4, -⟩ := hx n l[n] (List.getElem?_eq_getElem (by omega))
   refine ⟨L ++ [⟨l[n].planes, pa, pc⟩], ?_, fun k r hr => ?_, fun q hq => ?_⟩
   ·rw [List.map_append, h1, List.take_succ_eq_append_getElem (by omega)]; rfl
   ·by_cases hk : k < L.length
    ·rw [List.getElem?_append_left hk] at hr; exact h2 k r hr
    ·rw [List.getElem?_append_right (by omega)] at hr
     have hk0 : k - L.length = 0 := by
      cases hc : k - L.length with
      | zero => rfl
      | succ c => rw [hc] at hr; simp at hr
     rw [hk0] at hr
     simp at hr
     subst hr
     have : k = n := by omega
     subst this
     exact c1
   ·rcases List.mem_append.1 hq with hq | hq
    ·exact h3 q hq
    ·rw [List.mem_singleton] at hq; subst hq; exact ⟨c2, c3, c4⟩
 obtain ⟨L, h1, h2, h3⟩ := key l.length (Nat.le_refl _)
 rw [List.take_length] at h1
 exact ⟨L, h1, fun _ => ⟨b, off, rfl, fun k r hr => h2 k r hr⟩, h3⟩
theorem prs_cells2 {w : World} {base n c : Nat} {a : Option Addr} {L : List PR} (ho : w.ownsRow base 24 1 (.slice a n c) n (L.flatMap cellsPR)) (hp : ∀ q ∈ L, Pls.V w q.pa q.ps ∧ q.ps.length ≤ q.pc ∧ q.pc ≤ 9223372036854775807) : Cells.V w a (L.map fun r => ⟨r.ps⟩) := fun hne => by
 have hne' : L ≠ [] := fun e => hne (by rw [e]; rfl)
 obtain ⟨g, cap, e, -, -, -, -, -, hc⟩ := own_cells cellsPR_len ho hne' (by decide)
 injection e with e1 e2 e3
 subst e1
 refine ⟨g, 0, rfl, fun k x hk => ?_⟩
 rw [List.getElem?_map] at hk
 obtain ⟨r, hr, rfl⟩ := Option.map_eq_some_iff.1 hk
 obtain ⟨hkl, rfl⟩ := List.getElem?_eq_some_iff.1 hr
 have h1 := (hc k hkl 0 (by decide)).1
 have h2 := hp _ (List.getElem_mem hkl)
 rw [Nat.add_zero] at h1
 rw [Nat.zero_add]
 exact ⟨L[k].pa, L[k].pc, h1, h2.1, h2.2.1, h2.2.2, trivial⟩
theorem val_ne {l : List (List Pl)} (h : ∀ q ∈ l, readE q = 0) : ∀ x ∈ l.map Cell.mk, x.planes ≠ [] := fun x hx => by
 obtain ⟨q, hq, rfl⟩ := List.mem_map.1 hx
 exact (sol_of (h q hq)).ne
/-- What the calls of the law answer. -/
theorem both_same {A B : List Cell} (h0 : twoE A B = 0) : bothE A B = bothRE (A.map (·.planes)) (B.map (·.planes)) ∧ bothV A B = bothRV (A.map (·.planes)) (B.map (·.planes)) := by
 obtain ⟨ha, hb⟩ := twoE_zero.1 h0
 obtain ⟨e1, e2⟩ := bothE_val h0
 rw [e1, e2, meet_same (solX hb) (solX ha)]
 exact ⟨rfl, rfl⟩
theorem min_same {A B : List Cell} (h0 : twoE A B = 0) : minE A B = leftRE (A.map (·.planes)) (B.map (·.planes)) ∧ leftV A B = leftRV (A.map (·.planes)) (B.map (·.planes)) := by
 obtain ⟨ha, hb⟩ := twoE_zero.1 h0
 obtain ⟨e1, e2⟩ := minE_val h0
 rw [e1, e2, left_same (solX hb) (solX ha)]
 exact ⟨rfl, rfl⟩
theorem both_val {A B : List Cell} : ∀ q ∈ bothV A B, readE q = 0 := fun q hq => by
 unfold bothV at hq
 split at hq
 ·cases hq
 ·rename_i h0
  have h0' : twoE A B = 0 := by simpa using h0
  obtain ⟨ha, hb⟩ := twoE_zero.1 h0'
  cases hm : meetM (B.map (·.planes)) [] (A.map (·.planes)) with
  | none => rw [hm] at hq; cases hq
  | some l => rw [hm] at hq; rw [meet_same (solX hb) (solX ha)] at hm; exact (meet_val (readX ha) (readX hb) hm).1 q hq
theorem left_valid {A B : List Cell} : ∀ q ∈ leftV A B, readE q = 0 := fun q hq => by
 unfold leftV at hq
 split at hq
 ·cases hq
 ·rename_i h0
  have h0' : twoE A B = 0 := by simpa using h0
  obtain ⟨ha, hb⟩ := twoE_zero.1 h0'
  cases hm : leftM (B.map (·.planes)) [] (A.map (·.planes)) with
  | none => rw [hm] at hq; cases hq
  | some l => rw [hm] at hq; rw [left_same (solX hb) (solX ha)] at hm; exact left_val (readX ha) (readX hb) hm q hq
theorem join_ne {A B : List Cell} : ∀ x ∈ joinV A B, x.planes ≠ [] := fun x hx => by
 unfold joinV at hx
 split at hx
 ·rename_i h0
  have ht : twoE A B = 0 := by
   unfold joinE at h0
   split at h0
   ·rename_i h1; exact absurd h0 h1
   ·rename_i h1; simpa using h1
  obtain ⟨ha, hb⟩ := twoE_zero.1 ht
  rcases List.mem_append.1 hx with h | h
  ·exact (sol_of ((solE_zero.1 ha).2 x h)).ne
  ·exact (sol_of ((solE_zero.1 hb).2 x h)).ne
 ·cases hx
end Go.Proofs.YtbhgkadklklmbaaGreat
