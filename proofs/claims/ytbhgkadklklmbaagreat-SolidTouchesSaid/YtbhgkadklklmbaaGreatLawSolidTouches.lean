/- SolidTouches returns true for every input: the contacts of two solids are those of the document, and the other way round the same. No condition. -/
import Derived.Test.YtbhgkadklklmbaaGreatQC2
import Derived.Test.YtbhgkadklklmbaaGreatQP
import Derived.Test.YtbhgkadklklmbaaGreatQS
import Derived.Test.YtbhgkadklklmbaaGreatQO
import Derived.Test.YtbhgkadklklmbaaGreatQM
import Derived.Test.YtbhgkadklklmbaaGreatFactsSolidTouches
set_option linter.unusedVariables false
set_option linter.unusedSimpArgs false
namespace Go.Proofs.YtbhgkadklklmbaaGreat
open Go Go.ChangeShapes Go.WideShapes Go.ChangeAt Go.RowKit Go.Sort Go.Lib

set_option maxRecDepth 100000 in
set_option maxHeartbeats 16000000 in
theorem walkSolidTouches (a : Solid) (aa : Option Addr) (ac : Nat) (b : Solid) (ba : Option Addr) (bc : Nat) (w : World) (Va : Cells.V w aa a.cells) (La : a.cells.length ≤ 9223372036854775807) (Ca : a.cells.length ≤ ac) (Vb : Cells.V w ba b.cells) (Lb : b.cells.length ≤ 9223372036854775807) (Cb : b.cells.length ≤ bc) :
    Calls Tryz.prog 6 #[.agg #[.slice aa a.cells.length ac], .agg #[.slice ba b.cells.length bc]] w fun e w' => e = .returned (.bool true) ∧ Below w.heap.size w w' := by
 have hmix : Tryz.prog.follows .mixedOrders = true := by kernel_rfl
 obtain ⟨A, hA⟩ : ∃ cs, cs = a.cells := ⟨_, rfl⟩
 obtain ⟨B, hB⟩ : ∃ cs, cs = b.cells := ⟨_, rfl⟩
 rw [← hA] at Va La Ca ⊢
 rw [← hB] at Vb Lb Cb ⊢
 clear hA hB
 have HVA := Lib.hid Va
 have HVB := Lib.hid Vb
 have HAW := Lib.hid awake_any
 have HF1 := Lib.hid (fun W (h : Below w.heap.size w W) => few_any A aa ac 3 W La (Va.keep h) (cells_len Va))
 have HF2 := Lib.hid (fun W (h : Below w.heap.size w W) => few_any B ba bc 3 W Lb (Vb.keep h) (cells_len Vb))
 clear Va Vb
 go_enter Tryz.func6, Tryz.ntmps6
 go_upto_region 1 with fail
 refine gen_world (fun W => W.cell? ⟨w.heap.size, 0, none⟩ = some (.slice aa A.length ac) ∧ W.cell? ⟨w.heap.size + 1, 0, none⟩ = some (.slice ba B.length bc) ∧ Below w.heap.size w W) ⟨by simp [go_sem], by simp [go_sem], by repeat (first | (with_reducible assumption) | exact Below.refl _ _ | (refine Below.setCell ?_ (by first | omega | (simp; omega) | (simp; done)) _) | (refine Below.alloc ?_ (by first | omega | (simp; omega) | (simp; done)) _) | (refine Below.drew ?_))⟩ ?_
 rintro W ⟨a0, b0, hb⟩
 have HB0 := Lib.hid hb
 clear hb
 obtain ⟨gw, hgw⟩ : ∃ g, g = w.heap.size := ⟨_, rfl⟩
 rw [← hgw] at a0 b0 ⊢
 clear hgw
 go_upto_region 3 with (go_at_call 18; refine (HAW.out _).mono ?_; rintro e w1 ⟨rfl, hb⟩; (have a0 := cell_keep hb a0; have b0 := cell_keep hb b0); have HB1 := Lib.hid (HB0.out.trans (hb.mono HB0.out.size)); clear hb)
 by_cases h1 : fewB A 3 = true
 ·have hla := few_len (by decide) h1
  have HPA := Lib.hid (few_pl h1)
  rw [h1] at HF1
  clear h1
  by_cases h2 : fewB B 3 = true
  ·have hlb := few_len (by decide) h2
   have HPB := Lib.hid (few_pl h2)
   rw [h2] at HF2
   clear h2
   have HCT := Lib.hid (fun W (h : Below w.heap.size w W) => checkTwoR_any A B aa ac ba bc W La (HVA.out.keep h) (fun x hx => by have := HPA.out x hx; omega) Lb (HVB.out.keep h) (fun x hx => by have := HPB.out x hx; omega))
   have HTC := Lib.hid (fun W ua un va vn (h1 : Cells.V W ua A) (h2 : Cells.V W va B) => touches_any A B ua un va vn W (by omega) h1 (fun x hx => by have := HPA.out x hx; omega) (by omega) h2 (fun x hx => by have := HPB.out x hx; omega))
   have HTD := Lib.hid (fun W (h : Below w.heap.size w W) => touches_any B A ba bc aa ac W (by omega) (HVB.out.keep h) (fun x hx => by have := HPB.out x hx; omega) (by omega) (HVA.out.keep h) (fun x hx => by have := HPA.out x hx; omega))
   have HC1 := Lib.hid (fun W (h : Below w.heap.size w W) => copySolid_any A aa ac W (by omega) (HVA.out.keep h) (fun x hx => by have := HPA.out x hx; omega))
   have HC3 := Lib.hid (fun W (h : Below w.heap.size w W) => copySolid_any B ba bc W (by omega) (HVB.out.keep h) (fun x hx => by have := HPB.out x hx; omega))
   obtain ⟨E, hE⟩ : ∃ x, x = twoE A B := ⟨_, rfl⟩
   rw [← hE] at HTC HCT
   have HE := Lib.hid hE
   clear hE
   go_upto_region 5 with (first | (have h := HF1.out; clear HF1; go_at_call 32; refine (h _ HB1.out).mono ?_; clear h; rintro e w2 ⟨rfl, hb⟩; (have a0 := cell_keep hb a0; have b0 := cell_keep hb b0); have HB2 := Lib.hid (HB1.out.trans (hb.mono HB1.out.size)); clear hb) | (have h := HF2.out; clear HF2; go_at_call 32; refine (h _ HB2.out).mono ?_; clear h; rintro e w3 ⟨rfl, hb⟩; (have a0 := cell_keep hb a0; have b0 := cell_keep hb b0); have HB3 := Lib.hid (HB2.out.trans (hb.mono HB2.out.size)); clear hb))
   obtain ⟨W5, hW5⟩ : ∃ W5, W5 = w3 := ⟨_, rfl⟩
   subst hW5
   have HB5 := HB3
   have kx0 : ∀ y : KW (fun W' => Below W5.heap.size W5 W'), (y.w.cell? ⟨gw, 0, none⟩ = some (.slice aa A.length ac) ∧ y.w.cell? ⟨gw + 1, 0, none⟩ = some (.slice ba B.length bc)) := fun y => ⟨cell_keep y.ok a0, cell_keep y.ok b0⟩
   haveI n1 : Nonempty (KW (fun W' => Below W5.heap.size W5 W')) := ⟨⟨W5, Below.refl _ _⟩⟩
   refine wp_region_tree (fun w' => ∃ y : KW (fun W' => Below W5.heap.size W5 W'), w' = y.w) 9 (.take 0 (.take 2 (.one 1 (.one 3 (.one 4 (.take 5 (.take 6 (.take 7 (.take 8 .done))))))))) hmix (by kernel_rfl) (KW.mk' (Below.refl _ _).drew) ?_
   have HC := Lib.hid (show Below W5.heap.size W5 W5.drew from (Below.refl _ _).drew)
   generalize W5.drew = wz at *
   (refine wpTree_take ?_; simp only [nthOp]; (first | go_big_quiet_step (fail) | quiet_step (fail)); refine wpQuiet_nil ?_)
   (refine wpTree_take ?_; simp only [nthOp]; (first | go_big_quiet_step (fail) | quiet_step (fail)); refine wpQuiet_nil ?_)
   refine wpTree_one ?_
   simp only [nthOp]
   go_wp2_with (go_at_call 34; refine (HC1.out _ (HB5.out.trans (HC.out.mono HB5.out.size))).mono ?_; rintro e wt1 ⟨ua, un, rfl, hcv, -, hb⟩; have HXA := Lib.hid hcv; have HC := Lib.hid (HC.out.trans (hb.mono HC.out.size)); clear hcv hb)
   refine One_mk (KW.mk' HC.out) ?_
   refine wpTree_one ?_
   simp only [nthOp]
   go_wp2_with (go_at_call 34; refine (HC3.out _ (HB5.out.trans (HC.out.mono HB5.out.size))).mono ?_; rintro e wt2 ⟨va, vn, rfl, hcv, -, hb⟩; have HXA := Lib.hid (HXA.out.keep hb); have HXB := Lib.hid hcv; have HC := Lib.hid (HC.out.trans (hb.mono HC.out.size)); clear hcv hb)
   refine One_mk (KW.mk' HC.out) ?_
   refine wpTree_one ?_
   simp only [nthOp]
   have HQ := Lib.hid (HTC.out wt2 ua un va vn HXA.out HXB.out)
   go_wp2_with (go_at_call 39; refine HQ.out.mono ?_; rintro e wt3 ⟨ka, kc, G, rfl, hg, hst, hb⟩; have HGM := hg; have HGV := Lib.hid hst.toV; have HC := Lib.hid (HC.out.trans (hb.mono HC.out.size)); clear hst hb)
   refine One_mk (KW.mk' HC.out) ?_
   clear HQ
   repeat (refine wpTree_take ?_; simp only [nthOp]; (first | go_big_quiet_step (fail) | quiet_step (fail)); refine wpQuiet_nil ?_)
   refine wpTree_done ?_
   simp only [List.drop_succ_cons, List.drop_zero]
   go_wp2_with fail
   refine NP_mk ?_
   have a0 := cell_keep HC.out a0
   have b0 := cell_keep HC.out b0
   have HB6 := Lib.hid (HB5.out.trans (HC.out.mono HB5.out.size))
   have HCT6 := Lib.hid (HCT.out wt3 HB6.out)
   clear HCT HC1 HC3 HTC kx0 n1
   by_cases ht : E = 0
   ·subst ht
    have ht : twoE A B = 0 := HE.out.symm
    obtain ⟨okX, okY, eAB, eBA, e2⟩ := tchE_ok ht
    have HOX := Lib.hid okX
    have HOY := Lib.hid okY
    have HGA := Lib.hid (fun x hx => valid_good ((solE_zero.1 (twoE_zero.1 ht).1).2 x hx))
    have HGB := Lib.hid (fun x hx => valid_good ((solE_zero.1 (twoE_zero.1 ht).2).2 x hx))
    have HRC := Lib.hid (fun W (h : Below w.heap.size w W) => touchesR_any A B aa ba ac bc W (HVA.out.keep h) (HVB.out.keep h) (by omega) (by omega) HGA.out HGB.out _ (refI_eq okX okY).symm)
    rw [e2] at HTD
    rw [eBA] at HTD
    rw [eAB] at HGM
    have HGX := Lib.hid (show ∀ c ∈ A.map (·.planes), Good c from fun c hc => by
     obtain ⟨x, hx, rfl⟩ := List.mem_map.1 hc
     exact (HGA.out x hx).g)
    obtain ⟨X, hX⟩ : ∃ X, X = A.map (·.planes) := ⟨_, rfl⟩
    obtain ⟨Y, hY⟩ : ∃ Y, Y = B.map (·.planes) := ⟨_, rfl⟩
    rw [← hX] at HOX HGX HGM HRC HTD
    rw [← hY] at HOY HGM HRC HTD
    have hxl : X.length ≤ 1000 := by rw [hX]; simp; omega
    have hyl : Y.length ≤ 1000 := by rw [hY]; simp; omega
    have HTL := Lib.hid (tchM_le HOX.out HOY.out hxl hyl)
    clear hX hY okX okY eAB eBA e2 ht hxl hyl
    have hgl : G.length = (tchM X Y).length := by have := congrArg List.length HGM.out; simpa using this
    have HGL := Lib.hid hgl
    clear hgl
    go_upto_region 9 with (go_at_call 36; refine HCT6.out.mono ?_; rintro e w7 ⟨rfl, hb⟩; (have a0 := cell_keep hb a0; have b0 := cell_keep hb b0); have HGV := Lib.hid (HGV.out.keep hb); have HB7 := Lib.hid (HB6.out.trans (hb.mono HB6.out.size)); have HRC7 := Lib.hid (HRC.out w7 HB7.out); clear hb)
    clear HRC HCT6
    go_upto_region 10 with (go_at_call 40; refine HRC7.out.mono ?_; rintro e w8 ⟨ha, hc, H, rfl, hh, hst, hb⟩; (have a0 := cell_keep hb a0; have b0 := cell_keep hb b0); have HHM := hh; have HHV := Lib.hid hst.toV; have HGV := Lib.hid (HGV.out.keep hb); have HB8 := Lib.hid (HB7.out.trans (hb.mono HB7.out.size)); have HTD8 := Lib.hid (HTD.out w8 HB8.out); have HHL := Lib.hid (show H.length = G.length by rw [HGL.out]; have := congrArg List.length HHM.out; simpa using this); rw [HHL.out]; clear hb hst hh)
    clear HTD
    go_upto_region 11 with (go_at_call 39; refine HTD8.out.mono ?_; rintro e w9 ⟨za, zc, U, rfl, hz, hst, hb⟩; have HUM := hz; have HUV := Lib.hid hst.toV; have HHV := Lib.hid (HHV.out.keep hb); have HGV := Lib.hid (HGV.out.keep hb); have HB9 := Lib.hid (HB8.out.trans (hb.mono HB8.out.size)); have HUL := Lib.hid (show U.length = G.length by rw [HGL.out]; have := congrArg List.length HUM.out; rw [tch_len HOX.out HOY.out] at this; simpa using this); rw [HUL.out]; clear hb hst hz)
    have HGI := Lib.hid (show G.length ≤ 1000000 by rw [HGL.out]; exact HTL.out)
    have hgi := HGI.out
    clear a0 b0
    go_wp2_with fail
    go_loopw [11] (fun iv wr => ∃ i : Nat, i ≤ G.length ∧ iv = .int .i64 (i : Int) ∧ Below w9.heap.size w9 wr) (fun iv _ => G.length - (intOf iv).toNat)
    case atStart => exact ⟨0, Nat.zero_le _, rfl, Below.refl _ _⟩
    case round =>
     obtain ⟨i, hi, rfl, hb⟩ := hrel
     obtain ⟨WA, rfl⟩ : ∃ WA : World, WA = wr := ⟨_, rfl⟩
     have HB10 := Lib.hid hb
     by_cases hlt : i < G.length
     ·have hki : (i : Int) < (G.length : Int) := by omega
      have n1' : (0 : Int) ≤ (i : Int) := by omega
      have hlth : i < H.length := by rw [HHL.out]; exact hlt
      have HEQ := Lib.hid (map_at (L := H) (M := G) (by rw [HHM.out, HGM.out]) hlth hlt)
      have HTM := Lib.hid (show G[i].t ∈ tchM X Y by rw [← HGM.out]; exact List.mem_map.2 ⟨_, List.getElem_mem hlt, rfl⟩)
      obtain ⟨gb, go, rfl, gat⟩ := (HGV.out.keep hb).v.at_ hlt
      obtain ⟨hb2, ho2, rfl, hat2⟩ := (HHV.out.keep hb).v.at_ hlth
      have HGC := Lib.hid ((HGV.out.keep hb).c _ (List.getElem_mem hlt))
      have HHC := Lib.hid ((HHV.out.keep hb).c _ (List.getElem_mem hlth))
      obtain ⟨r, hr⟩ : ∃ r, r = G[i] := ⟨_, rfl⟩
      obtain ⟨s, hs⟩ : ∃ s, s = H[i] := ⟨_, rfl⟩
      rw [← hr] at HEQ HTM gat HGC
      rw [← hs] at HEQ hat2 HHC
      obtain ⟨t, ra, rc⟩ := r
      obtain ⟨t', sa, sc⟩ := s
      obtain rfl : t' = t := HEQ.out
      have HBD := Lib.hid (tch_bd HGX.out HTM.out)
      have HBK := Lib.hid (any_back HOX.out HOY.out HUM.out HTM.out)
      obtain ⟨ta, tb, tp, tcs⟩ := t'
      obtain ⟨g0, g1, g2, g3, g4, g5, g6⟩ := gat
      obtain ⟨k0, k1, k2, k3, k4, k5, k6⟩ := hat2
      simp only at g0 g1 g2 g3 g4 g5 g6 k0 k1 k2 k3 k4 k5 k6 HGC HHC HBD HBK
      have hlg := block_lt_of_cell g0
      have hlh := block_lt_of_cell k0
      simp only at hlg hlh
      have hpn := Pl_neq tp tp
      have HCS := Lib.hid (fun W (h : Below WA.heap.size WA W) => corners_same tcs ra rc tcs sa sc W (by have := HGC.out.2; omega) (by have := HGC.out.2; omega) (HGC.out.1.keep h) (HHC.out.1.keep h))
      rw [show decide (tcs = tcs) = true from decide_eq_true rfl] at HCS
      have HRG := Lib.hid (And.intro g0 (And.intro g1 (And.intro g2 (And.intro g3 (And.intro g4 (And.intro g5 g6))))))
      clear hr hs hb
      go_upto_region 16 with fail
      refine wp_region_grew (by kernel_rfl) (by kernel_rfl) ?_
      repeat (first
       | go_big_quiet_step (first | (go_at_call 29; exact grew_of (HCS.out _ (grew_below _ _))))
       | quiet_step (first | (go_at_call 29; exact grew_of (HCS.out _ (grew_below _ _)))))
      refine wpQuiet_nil ?_
      rintro _ ⟨gg, rfl⟩
      have HB11 := Lib.hid (show Below w9.heap.size w9 (grew WA gg) from grewB HB10.out HB10.out.size _)
      have HBG := Lib.hid (show Below WA.heap.size WA (grew WA gg) from grew_below _ _)
      generalize grew WA gg = WB at *
      clear g0 g1 g2 g3 g4 g5 g6 k0 k1 k2 k3 k4 k5 k6
      clear hlg hlh hpn
      go_wp2_with fail
      go_loopw [12, 13] (fun qv kv wq => ∃ (k : Nat) (q : Bool), k ≤ G.length ∧ kv = .int .i64 (k : Int) ∧ qv = .bool q ∧ Hid (q = (U.take k).any fun u => matB u.t ⟨ta, tb, tp, tcs⟩) ∧ Below WB.heap.size WB wq) (fun _ kv _ => G.length - (intOf kv).toNat)
      case atStart => exact ⟨0, false, Nat.zero_le _, rfl, rfl, Lib.hid rfl, Below.refl _ _⟩
      case round =>
       obtain ⟨k, q, hk, rfl, rfl, HQ, hb⟩ := hrel
       obtain ⟨WC, rfl⟩ : ∃ WC : World, WC = wr := ⟨_, rfl⟩
       have HB12 := Lib.hid hb
       have HB13 := Lib.hid (HB11.out.trans (hb.mono HB11.out.size))
       by_cases hlt2 : k < G.length
       ·have hkj : (k : Int) < (G.length : Int) := by omega
        have n2' : (0 : Int) ≤ (k : Int) := by omega
        have hltu : k < U.length := by rw [HUL.out]; exact hlt2
        have HMS := Lib.hid (any_take (f := fun u : TR => matB u.t ⟨ta, tb, tp, tcs⟩) hltu)
        obtain ⟨ub0, uo0, rfl, uat⟩ := (HUV.out.keep HB13.out).v.at_ hltu
        have HUC := Lib.hid ((HUV.out.keep HB13.out).c _ (List.getElem_mem hltu))
        obtain ⟨x, hx⟩ : ∃ x, x = U[k] := ⟨_, rfl⟩
        rw [← hx] at uat HUC HMS
        obtain ⟨⟨ua, ub, up, ucs⟩, xa, xc⟩ := x
        obtain ⟨e0, e1, e2, e3, e4, e5, e6⟩ := uat
        obtain ⟨r0, r1, r2, r3, r4, r5, r6⟩ := HRG.out
        have hbb := HBG.out.trans (hb.mono HBG.out.size)
        have HCR := Lib.hid (HGC.out.1.keep hbb)
        have f0 := cell_keep hbb r0
        have f1 := cell_keep hbb r1
        have f2 := cell_keep hbb r2
        have f3 := cell_keep hbb r3
        have f4 := cell_keep hbb r4
        have f5 := cell_keep hbb r5
        have f6 := cell_keep hbb r6
        simp only at e0 e1 e2 e3 e4 e5 e6 HUC HMS
        have hle := block_lt_of_cell e0
        have hlf := block_lt_of_cell f0
        simp only at hle hlf
        clear hx hb hbb r0 r1 r2 r3 r4 r5 r6
        have HMD := Lib.hid (show matB ⟨ua, ub, up, ucs⟩ ⟨ta, tb, tp, tcs⟩ = (decide (ua = tb) && (decide (ub = ta) && (decide (up = opp tp) && decide (ucs = tcs)))) from rfl)
        have HOP := Lib.hid (fun W => oppositeR_any tp HBD.out W)
        have HCS2 := Lib.hid (fun W (h : Below WC.heap.size WC W) => corners_same ucs xa xc tcs ra rc W (by have := HUC.out.2; omega) (by have := HGC.out.2; omega) (HUC.out.1.keep h) (HCR.out.keep h))
        rw [HMD.out] at HMS
        generalize opp tp = tq at *
        cases q with
        | true =>
         have HE := Lib.hid (show true = (U.take (k + 1)).any fun u => matB u.t ⟨ta, tb, tp, tcs⟩ by rw [HMS.out, ← HQ.out]; rfl)
         go_upto_region 22 with fail
         refine wp_region_grew (by kernel_rfl) (by kernel_rfl) ?_
         repeat (first
          | go_big_quiet_step (first | (go_at_call 29; exact grew_of (HCS2.out _ (grew_below _ _))) | (go_at_call 41; exact grew_of (HOP.out _)))
          | quiet_step (first | (go_at_call 29; exact grew_of (HCS2.out _ (grew_below _ _))) | (go_at_call 41; exact grew_of (HOP.out _))))
         refine wpQuiet_nil ?_
         rintro _ ⟨gg, rfl⟩
         have HFB := Lib.hid (show Below WB.heap.size WB (grew WC gg) from grewB HB12.out HB12.out.size _)
         go_wp2_with fail
         go_roundw
         case rel => exact ⟨k + 1, true, by omega, by go_num, rfl, HE, HFB.out⟩
         case measure => first | (simp [intOf]; done) | (simp [intOf]; omega)
        | false =>
         by_cases h1 : ua = tb
         ·subst h1
          by_cases h2 : ub = ta
          ·subst h2
           have hpe := Pl_eql up tq
           by_cases h3 : up = tq
           ·subst h3
            have HE := Lib.hid (show decide (ucs = tcs) = (U.take (k + 1)).any fun u => matB u.t ⟨ub, ua, tp, tcs⟩ by rw [HMS.out, ← HQ.out]; simp)
            generalize decide (ucs = tcs) = D at *
            cases D with
            | true =>
             go_upto_region 22 with fail
             refine wp_region_grew (by kernel_rfl) (by kernel_rfl) ?_
             repeat (first
              | go_big_quiet_step (first | (go_at_call 29; exact grew_of (HCS2.out _ (grew_below _ _))) | (go_at_call 41; exact grew_of (HOP.out _)))
              | quiet_step (first | (go_at_call 29; exact grew_of (HCS2.out _ (grew_below _ _))) | (go_at_call 41; exact grew_of (HOP.out _))))
             refine wpQuiet_nil ?_
             rintro _ ⟨gg, rfl⟩
             have HFB := Lib.hid (show Below WB.heap.size WB (grew WC gg) from grewB HB12.out HB12.out.size _)
             go_wp2_with fail
             go_roundw
             case rel => exact ⟨k + 1, true, by omega, by go_num, rfl, HE, HFB.out⟩
             case measure => first | (simp [intOf]; done) | (simp [intOf]; omega)
            | false =>
             go_upto_region 22 with fail
             refine wp_region_grew (by kernel_rfl) (by kernel_rfl) ?_
             repeat (first
              | go_big_quiet_step (first | (go_at_call 29; exact grew_of (HCS2.out _ (grew_below _ _))) | (go_at_call 41; exact grew_of (HOP.out _)))
              | quiet_step (first | (go_at_call 29; exact grew_of (HCS2.out _ (grew_below _ _))) | (go_at_call 41; exact grew_of (HOP.out _))))
             refine wpQuiet_nil ?_
             rintro _ ⟨gg, rfl⟩
             have HFB := Lib.hid (show Below WB.heap.size WB (grew WC gg) from grewB HB12.out HB12.out.size _)
             go_wp2_with fail
             go_roundw
             case rel => exact ⟨k + 1, false, by omega, by go_num, rfl, HE, HFB.out⟩
             case measure => first | (simp [intOf]; done) | (simp [intOf]; omega)
           ·have HE := Lib.hid (show false = (U.take (k + 1)).any fun u => matB u.t ⟨ub, ua, tp, tcs⟩ by rw [HMS.out, ← HQ.out]; simp [h3])
            rw [decide_eq_false h3] at hpe
            go_upto_region 22 with fail
            refine wp_region_grew (by kernel_rfl) (by kernel_rfl) ?_
            repeat (first
             | go_big_quiet_step (first | (go_at_call 29; exact grew_of (HCS2.out _ (grew_below _ _))) | (go_at_call 41; exact grew_of (HOP.out _)))
             | quiet_step (first | (go_at_call 29; exact grew_of (HCS2.out _ (grew_below _ _))) | (go_at_call 41; exact grew_of (HOP.out _))))
            refine wpQuiet_nil ?_
            rintro _ ⟨gg, rfl⟩
            have HFB := Lib.hid (show Below WB.heap.size WB (grew WC gg) from grewB HB12.out HB12.out.size _)
            go_wp2_with fail
            go_roundw
            case rel => exact ⟨k + 1, false, by omega, by go_num, rfl, HE, HFB.out⟩
            case measure => first | (simp [intOf]; done) | (simp [intOf]; omega)
          ·have hne : ¬ (ub : Int) = (ta : Int) := by omega
           have hnb : ((ub : Int) == (ta : Int)) = false := by simpa using hne
           have HE := Lib.hid (show false = (U.take (k + 1)).any fun u => matB u.t ⟨ta, ua, tp, tcs⟩ by rw [HMS.out, ← HQ.out]; simp [h2])
           go_upto_region 22 with fail
           refine wp_region_grew (by kernel_rfl) (by kernel_rfl) ?_
           repeat (first
            | go_big_quiet_step (first | (go_at_call 29; exact grew_of (HCS2.out _ (grew_below _ _))) | (go_at_call 41; exact grew_of (HOP.out _)))
            | quiet_step (first | (go_at_call 29; exact grew_of (HCS2.out _ (grew_below _ _))) | (go_at_call 41; exact grew_of (HOP.out _))))
           refine wpQuiet_nil ?_
           rintro _ ⟨gg, rfl⟩
           have HFB := Lib.hid (show Below WB.heap.size WB (grew WC gg) from grewB HB12.out HB12.out.size _)
           go_wp2_with fail
           go_roundw
           case rel => exact ⟨k + 1, false, by omega, by go_num, rfl, HE, HFB.out⟩
           case measure => first | (simp [intOf]; done) | (simp [intOf]; omega)
         ·have hne : ¬ (ua : Int) = (tb : Int) := by omega
          have hnb : ((ua : Int) == (tb : Int)) = false := by simpa using hne
          have HE := Lib.hid (show false = (U.take (k + 1)).any fun u => matB u.t ⟨ta, tb, tp, tcs⟩ by rw [HMS.out, ← HQ.out]; simp [h1])
          go_upto_region 22 with fail
          refine wp_region_grew (by kernel_rfl) (by kernel_rfl) ?_
          repeat (first
           | go_big_quiet_step (first | (go_at_call 29; exact grew_of (HCS2.out _ (grew_below _ _))) | (go_at_call 41; exact grew_of (HOP.out _)))
           | quiet_step (first | (go_at_call 29; exact grew_of (HCS2.out _ (grew_below _ _))) | (go_at_call 41; exact grew_of (HOP.out _))))
          refine wpQuiet_nil ?_
          rintro _ ⟨gg, rfl⟩
          have HFB := Lib.hid (show Below WB.heap.size WB (grew WC gg) from grewB HB12.out HB12.out.size _)
          go_wp2_with fail
          go_roundw
          case rel => exact ⟨k + 1, false, by omega, by go_num, rfl, HE, HFB.out⟩
          case measure => first | (simp [intOf]; done) | (simp [intOf]; omega)
       ·obtain rfl : k = G.length := by omega
        have hkj : ¬ ((G.length : Nat) : Int) < ((G.length : Nat) : Int) := by omega
        obtain rfl : q = true := by rw [HQ.out, show U.take G.length = U from by rw [← HUL.out, List.take_length]]; exact HBK.out
        clear hb
        go_wp2_with fail
        go_roundw
        case rel => exact ⟨i + 1, by omega, by go_num, HB10.out.trans ((HBG.out.trans (HB12.out.mono HBG.out.size)).mono HB10.out.size)⟩
        case measure => first | (simp [intOf]; done) | (simp [intOf]; omega)
     ·obtain rfl : i = G.length := by omega
      have hki : ¬ ((G.length : Nat) : Int) < ((G.length : Nat) : Int) := by omega
      clear hb
      go_wp2_with fail
      go_ret
      exact ⟨rfl, HB9.out.trans (HB10.out.mono HB9.out.size)⟩
   ·have hgm : G = [] := by
      have h := HGM.out
      unfold tchE at h
      rw [if_pos (by rw [← HE.out]; exact ht)] at h
      simpa using h
    subst hgm
    have htb : (E != 0) = true := by simpa using ht
    have hte : (E == E) = true := by simp
    clear ht
    go_wp2_with (go_at_call 36; refine HCT6.out.mono ?_; rintro e w7 ⟨rfl, hb⟩; have HB7 := Lib.hid (HB6.out.trans (hb.mono HB6.out.size)); clear hb)
    go_ret
    exact ⟨rfl, HB7.out⟩
  ·have h2' : fewB B 3 = false := by simpa using h2
   rw [h2'] at HF2
   clear h2 h2'
   go_wp2_with (first | (have h := HF1.out; clear HF1; go_at_call 32; refine (h _ HB1.out).mono ?_; clear h; rintro e w2 ⟨rfl, hb⟩; (have a0 := cell_keep hb a0; have b0 := cell_keep hb b0); have HB2 := Lib.hid (HB1.out.trans (hb.mono HB1.out.size)); clear hb) | (have h := HF2.out; clear HF2; go_at_call 32; refine (h _ HB2.out).mono ?_; clear h; rintro e w3 ⟨rfl, hb⟩; (have a0 := cell_keep hb a0; have b0 := cell_keep hb b0); have HB3 := Lib.hid (HB2.out.trans (hb.mono HB2.out.size)); clear hb))
   go_ret
   exact ⟨rfl, HB3.out⟩
 ·have h1' : fewB A 3 = false := by simpa using h1
  rw [h1'] at HF1
  clear h1 h1'
  go_wp2_with (have h := HF1.out; clear HF1; go_at_call 32; refine (h _ HB1.out).mono ?_; clear h; rintro e w2 ⟨rfl, hb⟩; (have a0 := cell_keep hb a0; have b0 := cell_keep hb b0); have HB2 := Lib.hid (HB1.out.trans (hb.mono HB1.out.size)); clear hb)
  go_ret
  exact ⟨rfl, HB2.out⟩
set_option maxRecDepth 100000 in
theorem solidTouches_walks : Walks 6 Tryz.f6 := by
 intro H enc W base args ds p hval hA hlt
 rw [Tryz.params6] at hA hval
 obtain ⟨v0, vs0, d0, ds0, p0, q0, hargs, rfl, rfl, ⟨fu0, hf0⟩, r0⟩ := trodAll_cons hA
 obtain ⟨v1, vs1, d1, ds1, p1, q1, rfl, rfl, rfl, ⟨fu1, hf1⟩, r1⟩ := trodAll_cons r0
 obtain ⟨rfl, rfl, rfl⟩ := trodAll_nil r1
 obtain rfl : args = #[v0, v1] := by cases args; simp_all
 obtain ⟨cs0, rfl, -⟩ := okWide_struct Tryz.underlying48 (hval 0 48 v0 rfl rfl)
 obtain ⟨x0, a0, c0, hc0, V0, C0, M0, -⟩ := Solid.open_ hf0
 have hd0 : cs0 = #[.slice a0 x0.cells.length c0] := by
  cases cs0; simpa [Value.cells] using hc0
 subst hd0
 obtain ⟨cs1, rfl, -⟩ := okWide_struct Tryz.underlying48 (hval 1 48 v1 rfl rfl)
 obtain ⟨x1, a1, c1, hc1, V1, C1, M1, -⟩ := Solid.open_ hf1
 have hd1 : cs1 = #[.slice a1 x1.cells.length c1] := by
  cases cs1; simpa [Value.cells] using hc1
 subst hd1
 exact walkSolidTouches x0 a0 c0 x1 a1 c1 W V0 (by unfold maxLen at M0; omega) C0 V1 (by unfold maxLen at M1; omega) C1

set_option maxRecDepth 100000 in
theorem solidTouches_holds : Rows.SolidTouchesSaid :=
 law_holds (s := Rows.solidTouchesSpec) (c := Rows.solidTouchesRow) 6 Tryz.f6 rfl
  (fun H ds h => by match ds, h with | [_, _], _ => rfl) (by kernel_rfl) (by kernel_rfl)
  rfl rfl rfl rfl rfl rfl rfl ⟨rfl, rfl, rfl, rfl, rfl⟩ rfl rfl rfl rfl rfl rfl rfl rfl rfl rfl (fun _ _ => rfl) (by kernel_rfl) Tryz.func6
  solidTouches_closed (of_decide_eq_true (by kernel_rfl)) (by unfold Func.isWrapper; first | (rw [if_pos (by decide +kernel)]; kernel_rfl) | (rw [if_neg (by decide +kernel)]; exact ⟨rfl, rfl⟩)) (by kernel_rfl)
  (fun H enc os => ChangeSpec.witness6 (enc := enc) (C := Tryz.checked) false ⟨#[], #[.agg #[.slice none 0 0], .agg #[.slice none 0 0]], []⟩ 8 (by kernel_rfl) (by kernel_rfl) (by kernel_rfl) (by kernel_rfl))
  solidTouches_walks
end Go.Proofs.YtbhgkadklklmbaaGreat
