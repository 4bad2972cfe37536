/- SolidWitnesses returns true for every input: the check of a proof of an overlap is that of the document. No condition. -/
import Derived.Test.YtbhgkadklklmbaaGreatQP
import Derived.Test.YtbhgkadklklmbaaGreatQS
import Derived.Test.YtbhgkadklklmbaaGreatQM
import Derived.Test.YtbhgkadklklmbaaGreatFactsSolidWitnesses
set_option linter.unusedVariables false
set_option linter.unusedSimpArgs false
namespace Go.Proofs.YtbhgkadklklmbaaGreat
open Go Go.ChangeShapes Go.WideShapes Go.ChangeAt Go.RowKit Go.Sort Go.Lib

set_option maxRecDepth 100000 in
set_option maxHeartbeats 16000000 in
theorem walkSolidWitnesses (a : Solid) (aa : Option Addr) (ac : Nat) (b : Solid) (ba : Option Addr) (bc : Nat) (o : Lap) (oa : Option Addr) (oc : Nat) (w : World) (Va : Cells.V w aa a.cells) (La : a.cells.length ≤ 9223372036854775807) (Ca : a.cells.length ≤ ac) (Vb : Cells.V w ba b.cells) (Lb : b.cells.length ≤ 9223372036854775807) (Cb : b.cells.length ≤ bc) (Vo : Cos.V w oa o.corners) (Lo : o.corners.length ≤ 9223372036854775807) (Co : o.corners.length ≤ oc) (Wo : o.wf) :
    Calls Tryz.prog 10 #[.agg #[.slice aa a.cells.length ac], .agg #[.slice ba b.cells.length bc], .agg #[.int .i64 o.a, .int .i64 o.b, .slice oa o.corners.length oc]] w fun e w' => e = .returned (.bool true) ∧ Below w.heap.size w w' := by
 have hmix : Tryz.prog.follows .mixedOrders = true := by kernel_rfl
 obtain ⟨i0, hi0, hz0, hz1, hz2⟩ := info_parts coInfo
 obtain ⟨A, hA⟩ : ∃ cs, cs = a.cells := ⟨_, rfl⟩
 obtain ⟨B, hB⟩ : ∃ cs, cs = b.cells := ⟨_, rfl⟩
 rw [← hA] at Va La Ca ⊢
 rw [← hB] at Vb Lb Cb ⊢
 clear hA hB
 obtain ⟨oi, oj, cs⟩ := o
 simp only at Vo Lo Co ⊢
 have HVA := Lib.hid Va
 have HVB := Lib.hid Vb
 have HVO := Lib.hid Vo
 have HAW := Lib.hid awake_any
 have HF1 := Lib.hid (fun W (h : Below w.heap.size w W) => few_any A aa ac 3 W La (Va.keep h) (cells_len Va))
 have HF2 := Lib.hid (fun W (h : Below w.heap.size w W) => few_any B ba bc 3 W Lb (Vb.keep h) (cells_len Vb))
 clear Va Vb Vo
 go_enter Tryz.func10, Tryz.ntmps10
 go_upto_region 1 with fail
 refine gen_world (fun W => W.cell? ⟨w.heap.size, 0, none⟩ = some (.slice aa A.length ac) ∧ W.cell? ⟨w.heap.size + 1, 0, none⟩ = some (.slice ba B.length bc) ∧ (W.cell? ⟨w.heap.size + 2, 0, none⟩ = some (.int .i64 oi) ∧ W.cell? ⟨w.heap.size + 2, 1, none⟩ = some (.int .i64 oj) ∧ W.cell? ⟨w.heap.size + 2, 2, none⟩ = some (.slice oa cs.length oc)) ∧ Below w.heap.size w W) ⟨by simp [go_sem], by simp [go_sem], ⟨by simp [go_sem], by simp [go_sem], by simp [go_sem]⟩, by repeat (first | (with_reducible assumption) | exact Below.refl _ _ | (refine Below.setCell ?_ (by first | omega | (simp; omega) | (simp; done)) _) | (refine Below.alloc ?_ (by first | omega | (simp; omega) | (simp; done)) _) | (refine Below.drew ?_))⟩ ?_
 rintro W ⟨a0, b0, ⟨o0, o1, o2⟩, hb⟩
 have HB0 := Lib.hid hb
 clear hb
 obtain ⟨gw, hgw⟩ : ∃ g, g = w.heap.size := ⟨_, rfl⟩
 have HGW := Lib.hid hgw
 rw [← hgw] at a0 b0 o0 o1 o2 ⊢
 clear hgw
 go_upto_region 3 with (go_at_call 18; refine (HAW.out _).mono ?_; rintro e w1 ⟨rfl, hb⟩; (have a0 := cell_keep hb a0; have b0 := cell_keep hb b0; have o0 := cell_keep hb o0; have o1 := cell_keep hb o1; have o2 := cell_keep hb o2); have HB1 := Lib.hid (HB0.out.trans (hb.mono HB0.out.size)); clear hb)
 by_cases h1 : fewB A 3 = true
 ·have hla := few_len (by decide) h1
  have HPA := Lib.hid (few_pl h1)
  rw [h1] at HF1
  clear h1
  by_cases h2 : fewB B 3 = true
  ·have hlb := few_len (by decide) h2
   have HPB := Lib.hid (few_pl h2)
   rw [h2] at HF2
   clear h2
   by_cases h3 : 40 < cs.length ∧ cs.length ≤ 1000
   ·have h3a : (40 : Int) < (cs.length : Int) := by omega
    have h3b : (cs.length : Int) ≤ 1000 := by omega
    clear h3
    go_wp2_with (first | (have h := HF1.out; clear HF1; go_at_call 32; refine (h _ HB1.out).mono ?_; clear h; rintro e w2 ⟨rfl, hb⟩; (have a0 := cell_keep hb a0; have b0 := cell_keep hb b0; have o0 := cell_keep hb o0; have o1 := cell_keep hb o1; have o2 := cell_keep hb o2); have HB2 := Lib.hid (HB1.out.trans (hb.mono HB1.out.size)); clear hb) | (have h := HF2.out; clear HF2; go_at_call 32; refine (h _ HB2.out).mono ?_; clear h; rintro e w3 ⟨rfl, hb⟩; (have a0 := cell_keep hb a0; have b0 := cell_keep hb b0; have o0 := cell_keep hb o0; have o1 := cell_keep hb o1; have o2 := cell_keep hb o2); have HB3 := Lib.hid (HB2.out.trans (hb.mono HB2.out.size)); clear hb))
    go_ret
    exact ⟨rfl, HB3.out⟩
   ·by_cases h4 : 1005 < cs.length
    ·have h4a : (1005 : Int) < (cs.length : Int) := by omega
     have h4b : ¬ (cs.length : Int) ≤ 1000 := by omega
     have h4c : (40 : Int) < (cs.length : Int) := by omega
     clear h3 h4
     go_wp2_with (first | (have h := HF1.out; clear HF1; go_at_call 32; refine (h _ HB1.out).mono ?_; clear h; rintro e w2 ⟨rfl, hb⟩; (have a0 := cell_keep hb a0; have b0 := cell_keep hb b0; have o0 := cell_keep hb o0; have o1 := cell_keep hb o1; have o2 := cell_keep hb o2); have HB2 := Lib.hid (HB1.out.trans (hb.mono HB1.out.size)); clear hb) | (have h := HF2.out; clear HF2; go_at_call 32; refine (h _ HB2.out).mono ?_; clear h; rintro e w3 ⟨rfl, hb⟩; (have a0 := cell_keep hb a0; have b0 := cell_keep hb b0; have o0 := cell_keep hb o0; have o1 := cell_keep hb o1; have o2 := cell_keep hb o2); have HB3 := Lib.hid (HB2.out.trans (hb.mono HB2.out.size)); clear hb))
     go_ret
     exact ⟨rfl, HB3.out⟩
    ·have hn : cs.length ≤ 1005 := by omega
     have h4a : ¬ (1005 : Int) < (cs.length : Int) := by omega
     have h3a : (40 : Int) < (cs.length : Int) → ¬ (cs.length : Int) ≤ 1000 := by omega
     have HCT := Lib.hid (fun W (h : Below w.heap.size w W) => checkTwoR_any A B aa ac ba bc W La (HVA.out.keep h) (fun x hx => by have := HPA.out x hx; omega) Lb (HVB.out.keep h) (fun x hx => by have := HPB.out x hx; omega))
     have HCP := Lib.hid (fun ua un va vn xa xn W (h1 : Cells.V W ua A) (h2 : Cells.V W va B) (h3 : Cos.V W xa cs) => checkOverlap_any A B ua va un vn ⟨oi, oj, cs⟩ xa xn W h1 h2 h3 (by omega) (by omega) Lo (fun x hx => by have := HPA.out x hx; omega) (fun x hx => by have := HPB.out x hx; omega))
     have HC1 := Lib.hid (fun W (h : Below w.heap.size w W) => copySolid_any A aa ac W (by omega) (HVA.out.keep h) (fun x hx => by have := HPA.out x hx; omega))
     have HC3 := Lib.hid (fun W (h : Below w.heap.size w W) => copySolid_any B ba bc W (by omega) (HVB.out.keep h) (fun x hx => by have := HPB.out x hx; omega))
     by_cases ht : twoE A B = 0
     ·have hg : (∀ x ∈ A, Good x.planes) ∧ (∀ x ∈ B, Good x.planes) := by
        obtain ⟨e1, e2⟩ := twoE_zero.1 ht
        have f1 : chkCs A = 0 := by unfold solE at e1; split at e1 <;> first | exact e1 | omega
        have f2 : chkCs B = 0 := by unfold solE at e2; split at e2 <;> first | exact e2 | omega
        exact ⟨fun x hx => good_of (readE_zero.1 (chkCs_all.1 f1 x hx)).2.1, fun x hx => good_of (readE_zero.1 (chkCs_all.1 f2 x hx)).2.1⟩
      have HCO := Lib.hid (fun W (h : Below w.heap.size w W) => checkOverlapR_any A B aa ba ac bc ⟨oi, oj, cs⟩ oa oc W (HVA.out.keep h) (HVB.out.keep h) (HVO.out.keep h) (by omega) (by omega) Lo (fun x hx => ⟨by have := HPA.out x hx; omega, hg.1 x hx⟩) (fun x hx => ⟨by have := HPB.out x hx; omega, hg.2 x hx⟩))
      have e1 : lapPE A B ⟨oi, oj, cs⟩ = lapE A B ⟨oi, oj, cs⟩ := by unfold lapPE; rw [if_neg (by simpa using ht)]
      rw [e1] at HCP
      rw [ht] at HCT
      clear ht hg e1
      generalize lapE A B ⟨oi, oj, cs⟩ = E at *
      by_cases h5 : (40 : Int) < (cs.length : Int)
      ·have h6 := h3a h5
       clear h3a h3 h4
       go_upto_region 8 with (first | (have h := HF1.out; clear HF1; go_at_call 32; refine (h _ HB1.out).mono ?_; clear h; rintro e w2 ⟨rfl, hb⟩; (have a0 := cell_keep hb a0; have b0 := cell_keep hb b0; have o0 := cell_keep hb o0; have o1 := cell_keep hb o1; have o2 := cell_keep hb o2); have HB2 := Lib.hid (HB1.out.trans (hb.mono HB1.out.size)); clear hb) | (have h := HF2.out; clear HF2; go_at_call 32; refine (h _ HB2.out).mono ?_; clear h; rintro e w3 ⟨rfl, hb⟩; (have a0 := cell_keep hb a0; have b0 := cell_keep hb b0; have o0 := cell_keep hb o0; have o1 := cell_keep hb o1; have o2 := cell_keep hb o2); have HB3 := Lib.hid (HB2.out.trans (hb.mono HB2.out.size)); clear hb) | (have h := HCT.out; clear HCT; go_at_call 36; refine (h _ HB3.out).mono ?_; clear h; rintro e w4 ⟨rfl, hb⟩; (have a0 := cell_keep hb a0; have b0 := cell_keep hb b0; have o0 := cell_keep hb o0; have o1 := cell_keep hb o1; have o2 := cell_keep hb o2); have HB4 := Lib.hid (HB3.out.trans (hb.mono HB3.out.size)); clear hb) | (have h := HCO.out; clear HCO; go_at_call 54; refine (h _ HB4.out).mono ?_; clear h; rintro e w5 ⟨rfl, hb⟩; (have a0 := cell_keep hb a0; have b0 := cell_keep hb b0; have o0 := cell_keep hb o0; have o1 := cell_keep hb o1; have o2 := cell_keep hb o2); have HB5 := Lib.hid (HB4.out.trans (hb.mono HB4.out.size)); clear hb))
       have HB8 := HB5
       obtain ⟨W8, hW8⟩ : ∃ W8, W8 = w5 := ⟨_, rfl⟩
       subst hW8
       have kx0 : ∀ y : KW (fun W' => Below W8.heap.size W8 W'), y.w.cell? ⟨gw, 0, none⟩ = some (.slice aa A.length ac) ∧ y.w.cell? ⟨gw + 1, 0, none⟩ = some (.slice ba B.length bc) ∧ y.w.cell? ⟨gw + 2, 0, none⟩ = some (.int .i64 oi) ∧ y.w.cell? ⟨gw + 2, 1, none⟩ = some (.int .i64 oj) ∧ y.w.cell? ⟨gw + 2, 2, none⟩ = some (.slice oa cs.length oc) := fun y => ⟨cell_keep y.ok a0, cell_keep y.ok b0, cell_keep y.ok o0, cell_keep y.ok o1, cell_keep y.ok o2⟩
       haveI n1 : Nonempty (KW (fun W' => Below W8.heap.size W8 W')) := ⟨⟨W8, Below.refl _ _⟩⟩
       refine wp_region_tree (fun w' => ∃ y : KW (fun W' => Below W8.heap.size W8 W'), w' = y.w) 15 (.take 0 (.take 2 (.take 4 (.take 5 (.take 6 (.take 7 (.take 9 (.take 10 (.take 14 (.two 1 (.two 3 (.one 8 (.one 11 (.take 12 (.one 13 .done)))) 8 (.one 3 (.one 11 (.take 12 (.one 13 .done))))) 8 (.one 1 (.one 3 (.one 11 (.take 12 (.one 13 .done))))))))))))))) hmix (by kernel_rfl) (KW.mk' (Below.refl _ _).drew) ?_
       have HC := Lib.hid (show Below W8.heap.size W8 W8.drew from (Below.refl _ _).drew)
       generalize W8.drew = wz at *
       repeat (refine wpTree_take ?_; simp only [nthOp]; (first | go_big_quiet_step (fail) | quiet_step (fail)); refine wpQuiet_nil ?_)
       refine wpTree_two ?_ ?_
       ·skip
        simp only [nthOp]
        go_wp2_with (go_at_call 34; refine (HC1.out _ (HB8.out.trans (HC.out.mono HB8.out.size))).mono ?_; rintro e wa ⟨ua, un, rfl, hcv, -, hb⟩; have HXA := Lib.hid hcv; (try have HXB := Lib.hid (HXB.out.keep hb)); (try have HMR := Lib.hid (own_keep HMR.out hb)); (try have HBR := Lib.hid (HBR.out.keep HGL.out hb)); (try have HGL := Lib.hid (Nat.lt_of_lt_of_le HGL.out hb.size)); have HC := Lib.hid (HC.out.trans (hb.mono HC.out.size)); clear hcv hb)
        refine One_mk (KW.mk' HC.out) ?_
        refine wpTree_two ?_ ?_
        ·skip
         simp only [nthOp]
         go_wp2_with (go_at_call 34; refine (HC3.out _ (HB8.out.trans (HC.out.mono HB8.out.size))).mono ?_; rintro e wb ⟨va, vn, rfl, hcv, -, hb⟩; have HXB := Lib.hid hcv; (try have HXA := Lib.hid (HXA.out.keep hb)); (try have HMR := Lib.hid (own_keep HMR.out hb)); (try have HBR := Lib.hid (HBR.out.keep HGL.out hb)); (try have HGL := Lib.hid (Nat.lt_of_lt_of_le HGL.out hb.size)); have HC := Lib.hid (HC.out.trans (hb.mono HC.out.size)); clear hcv hb)
         refine One_mk (KW.mk' HC.out) ?_
         refine wpTree_one ?_
         simp only [nthOp]
         go_wp2_with fail
         have hal := (Below.refl wb.heap.size wb).alloc (Nat.le_refl _) (.cells #[] 60)
         have HMR := Lib.hid (World.ownsRow_made (e := 60) (base := W8.heap.size) (size := 4) wb #[] 0 HC.out.size (by decide) (by simp))
         have HBR := Lib.hid (Bare.new wb 60)
         have HGL := Lib.hid (show wb.heap.size < (wb.alloc (.cells #[] 60)).heap.size by simp)
         try have HXA := Lib.hid (HXA.out.keep hal)
         try have HXB := Lib.hid (HXB.out.keep hal)
         have HC := Lib.hid (HC.out.alloc HC.out.size (.cells #[] 60))
         refine One_mk (KW.mk' HC.out) ?_
         clear hal
         generalize (wb.alloc (.cells #[] 60)) = wc at *
         obtain ⟨gr, hgr⟩ : ∃ g, g = wb.heap.size := ⟨_, rfl⟩
         rw [← hgr] at HMR HBR HGL ⊢
         clear hgr
         refine wpTree_one ?_
         simp only [nthOp]
         have HCN := Lib.hid (cosNews (HVO.out.keep (HB8.out.trans (HC.out.mono HB8.out.size))))
         go_wp2_with (at_builtin; refine wpList_append_rows cellsCo_len cellsCo_one (by decide) rfl _ _ 33 rfl W8.heap.size 60 i0 _ 32 Tryz.underlying33 hi0 hz0 hz1 hz2 rfl (by decide) (.slice (some ⟨gr, 0, none⟩) 0 0) 0 [] rfl HMR.out oa cs oc rfl HCN.out (by omega) HC.out.size ?_; intro v' wd ho hg ha; obtain ⟨xa, xn, rfl, -, -⟩ := own_slice ho; have HOX := Lib.hid (show wd.ownsRow W8.heap.size 60 4 (.slice xa cs.length xn) cs.length (cs.flatMap cellsCo) by simpa using ho); have HXA := Lib.hid (cellsV_grown HBR.out hg HXA.out); have HXB := Lib.hid (cellsV_grown HBR.out hg HXB.out); have HCX := Lib.hid (ownCoV (cos_wf HVO.out) HOX.out); have HC := Lib.hid (below_grown HC.out hg HC.out.size fun k hk => (own_lt HMR.out hk).1); clear ho hg ha)
         refine One_mk (KW.mk' HC.out) ?_
         repeat (refine wpTree_take ?_; simp only [nthOp]; (first | go_big_quiet_step (fail) | quiet_step (fail)); refine wpQuiet_nil ?_)
         refine wpTree_one ?_
         simp only [nthOp]
         go_wp2_with (go_at_call 55; refine (HCP.out ua un va vn xa xn _ HXA.out HXB.out HCX.out).mono ?_; rintro e we ⟨rfl, hb⟩; have HC := Lib.hid (HC.out.trans (hb.mono HC.out.size)); clear hb)
         refine One_mk (KW.mk' HC.out) ?_
         refine wpTree_done ?_
         simp only [List.drop_succ_cons, List.drop_zero]
         go_wp2_with fail
         refine NP_mk ?_
         go_wp2_with fail
         go_ret
         exact ⟨rfl, HB8.out.trans (HC.out.mono HB8.out.size)⟩
        ·skip
         simp only [nthOp]
         go_wp2_with fail
         have hal := (Below.refl wa.heap.size wa).alloc (Nat.le_refl _) (.cells #[] 60)
         have HMR := Lib.hid (World.ownsRow_made (e := 60) (base := W8.heap.size) (size := 4) wa #[] 0 HC.out.size (by decide) (by simp))
         have HBR := Lib.hid (Bare.new wa 60)
         have HGL := Lib.hid (show wa.heap.size < (wa.alloc (.cells #[] 60)).heap.size by simp)
         try have HXA := Lib.hid (HXA.out.keep hal)
         try have HXB := Lib.hid (HXB.out.keep hal)
         have HC := Lib.hid (HC.out.alloc HC.out.size (.cells #[] 60))
         refine One_mk (KW.mk' HC.out) ?_
         clear hal
         generalize (wa.alloc (.cells #[] 60)) = wc at *
         obtain ⟨gr, hgr⟩ : ∃ g, g = wa.heap.size := ⟨_, rfl⟩
         rw [← hgr] at HMR HBR HGL ⊢
         clear hgr
         refine wpTree_one ?_
         simp only [nthOp]
         go_wp2_with (go_at_call 34; refine (HC3.out _ (HB8.out.trans (HC.out.mono HB8.out.size))).mono ?_; rintro e wb ⟨va, vn, rfl, hcv, -, hb⟩; have HXB := Lib.hid hcv; (try have HXA := Lib.hid (HXA.out.keep hb)); (try have HMR := Lib.hid (own_keep HMR.out hb)); (try have HBR := Lib.hid (HBR.out.keep HGL.out hb)); (try have HGL := Lib.hid (Nat.lt_of_lt_of_le HGL.out hb.size)); have HC := Lib.hid (HC.out.trans (hb.mono HC.out.size)); clear hcv hb)
         refine One_mk (KW.mk' HC.out) ?_
         refine wpTree_one ?_
         simp only [nthOp]
         have HCN := Lib.hid (cosNews (HVO.out.keep (HB8.out.trans (HC.out.mono HB8.out.size))))
         go_wp2_with (at_builtin; refine wpList_append_rows cellsCo_len cellsCo_one (by decide) rfl _ _ 33 rfl W8.heap.size 60 i0 _ 32 Tryz.underlying33 hi0 hz0 hz1 hz2 rfl (by decide) (.slice (some ⟨gr, 0, none⟩) 0 0) 0 [] rfl HMR.out oa cs oc rfl HCN.out (by omega) HC.out.size ?_; intro v' wd ho hg ha; obtain ⟨xa, xn, rfl, -, -⟩ := own_slice ho; have HOX := Lib.hid (show wd.ownsRow W8.heap.size 60 4 (.slice xa cs.length xn) cs.length (cs.flatMap cellsCo) by simpa using ho); have HXA := Lib.hid (cellsV_grown HBR.out hg HXA.out); have HXB := Lib.hid (cellsV_grown HBR.out hg HXB.out); have HCX := Lib.hid (ownCoV (cos_wf HVO.out) HOX.out); have HC := Lib.hid (below_grown HC.out hg HC.out.size fun k hk => (own_lt HMR.out hk).1); clear ho hg ha)
         refine One_mk (KW.mk' HC.out) ?_
         repeat (refine wpTree_take ?_; simp only [nthOp]; (first | go_big_quiet_step (fail) | quiet_step (fail)); refine wpQuiet_nil ?_)
         refine wpTree_one ?_
         simp only [nthOp]
         go_wp2_with (go_at_call 55; refine (HCP.out ua un va vn xa xn _ HXA.out HXB.out HCX.out).mono ?_; rintro e we ⟨rfl, hb⟩; have HC := Lib.hid (HC.out.trans (hb.mono HC.out.size)); clear hb)
         refine One_mk (KW.mk' HC.out) ?_
         refine wpTree_done ?_
         simp only [List.drop_succ_cons, List.drop_zero]
         go_wp2_with fail
         refine NP_mk ?_
         go_wp2_with fail
         go_ret
         exact ⟨rfl, HB8.out.trans (HC.out.mono HB8.out.size)⟩
       ·skip
        simp only [nthOp]
        go_wp2_with fail
        have hal := (Below.refl wz.heap.size wz).alloc (Nat.le_refl _) (.cells #[] 60)
        have HMR := Lib.hid (World.ownsRow_made (e := 60) (base := W8.heap.size) (size := 4) wz #[] 0 HC.out.size (by decide) (by simp))
        have HBR := Lib.hid (Bare.new wz 60)
        have HGL := Lib.hid (show wz.heap.size < (wz.alloc (.cells #[] 60)).heap.size by simp)
        try have HXA := Lib.hid (HXA.out.keep hal)
        try have HXB := Lib.hid (HXB.out.keep hal)
        have HC := Lib.hid (HC.out.alloc HC.out.size (.cells #[] 60))
        refine One_mk (KW.mk' HC.out) ?_
        clear hal
        generalize (wz.alloc (.cells #[] 60)) = wc at *
        obtain ⟨gr, hgr⟩ : ∃ g, g = wz.heap.size := ⟨_, rfl⟩
        rw [← hgr] at HMR HBR HGL ⊢
        clear hgr
        refine wpTree_one ?_
        simp only [nthOp]
        go_wp2_with (go_at_call 34; refine (HC1.out _ (HB8.out.trans (HC.out.mono HB8.out.size))).mono ?_; rintro e wa ⟨ua, un, rfl, hcv, -, hb⟩; have HXA := Lib.hid hcv; (try have HXB := Lib.hid (HXB.out.keep hb)); (try have HMR := Lib.hid (own_keep HMR.out hb)); (try have HBR := Lib.hid (HBR.out.keep HGL.out hb)); (try have HGL := Lib.hid (Nat.lt_of_lt_of_le HGL.out hb.size)); have HC := Lib.hid (HC.out.trans (hb.mono HC.out.size)); clear hcv hb)
        refine One_mk (KW.mk' HC.out) ?_
        refine wpTree_one ?_
        simp only [nthOp]
        go_wp2_with (go_at_call 34; refine (HC3.out _ (HB8.out.trans (HC.out.mono HB8.out.size))).mono ?_; rintro e wb ⟨va, vn, rfl, hcv, -, hb⟩; have HXB := Lib.hid hcv; (try have HXA := Lib.hid (HXA.out.keep hb)); (try have HMR := Lib.hid (own_keep HMR.out hb)); (try have HBR := Lib.hid (HBR.out.keep HGL.out hb)); (try have HGL := Lib.hid (Nat.lt_of_lt_of_le HGL.out hb.size)); have HC := Lib.hid (HC.out.trans (hb.mono HC.out.size)); clear hcv hb)
        refine One_mk (KW.mk' HC.out) ?_
        refine wpTree_one ?_
        simp only [nthOp]
        have HCN := Lib.hid (cosNews (HVO.out.keep (HB8.out.trans (HC.out.mono HB8.out.size))))
        go_wp2_with (at_builtin; refine wpList_append_rows cellsCo_len cellsCo_one (by decide) rfl _ _ 33 rfl W8.heap.size 60 i0 _ 32 Tryz.underlying33 hi0 hz0 hz1 hz2 rfl (by decide) (.slice (some ⟨gr, 0, none⟩) 0 0) 0 [] rfl HMR.out oa cs oc rfl HCN.out (by omega) HC.out.size ?_; intro v' wd ho hg ha; obtain ⟨xa, xn, rfl, -, -⟩ := own_slice ho; have HOX := Lib.hid (show wd.ownsRow W8.heap.size 60 4 (.slice xa cs.length xn) cs.length (cs.flatMap cellsCo) by simpa using ho); have HXA := Lib.hid (cellsV_grown HBR.out hg HXA.out); have HXB := Lib.hid (cellsV_grown HBR.out hg HXB.out); have HCX := Lib.hid (ownCoV (cos_wf HVO.out) HOX.out); have HC := Lib.hid (below_grown HC.out hg HC.out.size fun k hk => (own_lt HMR.out hk).1); clear ho hg ha)
        refine One_mk (KW.mk' HC.out) ?_
        repeat (refine wpTree_take ?_; simp only [nthOp]; (first | go_big_quiet_step (fail) | quiet_step (fail)); refine wpQuiet_nil ?_)
        refine wpTree_one ?_
        simp only [nthOp]
        go_wp2_with (go_at_call 55; refine (HCP.out ua un va vn xa xn _ HXA.out HXB.out HCX.out).mono ?_; rintro e we ⟨rfl, hb⟩; have HC := Lib.hid (HC.out.trans (hb.mono HC.out.size)); clear hb)
        refine One_mk (KW.mk' HC.out) ?_
        refine wpTree_done ?_
        simp only [List.drop_succ_cons, List.drop_zero]
        go_wp2_with fail
        refine NP_mk ?_
        go_wp2_with fail
        go_ret
        exact ⟨rfl, HB8.out.trans (HC.out.mono HB8.out.size)⟩
      ·clear h3a h3 h4
       go_upto_region 8 with (first | (have h := HF1.out; clear HF1; go_at_call 32; refine (h _ HB1.out).mono ?_; clear h; rintro e w2 ⟨rfl, hb⟩; (have a0 := cell_keep hb a0; have b0 := cell_keep hb b0; have o0 := cell_keep hb o0; have o1 := cell_keep hb o1; have o2 := cell_keep hb o2); have HB2 := Lib.hid (HB1.out.trans (hb.mono HB1.out.size)); clear hb) | (have h := HF2.out; clear HF2; go_at_call 32; refine (h _ HB2.out).mono ?_; clear h; rintro e w3 ⟨rfl, hb⟩; (have a0 := cell_keep hb a0; have b0 := cell_keep hb b0; have o0 := cell_keep hb o0; have o1 := cell_keep hb o1; have o2 := cell_keep hb o2); have HB3 := Lib.hid (HB2.out.trans (hb.mono HB2.out.size)); clear hb) | (have h := HCT.out; clear HCT; go_at_call 36; refine (h _ HB3.out).mono ?_; clear h; rintro e w4 ⟨rfl, hb⟩; (have a0 := cell_keep hb a0; have b0 := cell_keep hb b0; have o0 := cell_keep hb o0; have o1 := cell_keep hb o1; have o2 := cell_keep hb o2); have HB4 := Lib.hid (HB3.out.trans (hb.mono HB3.out.size)); clear hb) | (have h := HCO.out; clear HCO; go_at_call 54; refine (h _ HB4.out).mono ?_; clear h; rintro e w5 ⟨rfl, hb⟩; (have a0 := cell_keep hb a0; have b0 := cell_keep hb b0; have o0 := cell_keep hb o0; have o1 := cell_keep hb o1; have o2 := cell_keep hb o2); have HB5 := Lib.hid (HB4.out.trans (hb.mono HB4.out.size)); clear hb))
       have HB8 := HB5
       obtain ⟨W8, hW8⟩ : ∃ W8, W8 = w5 := ⟨_, rfl⟩
       subst hW8
       have kx0 : ∀ y : KW (fun W' => Below W8.heap.size W8 W'), y.w.cell? ⟨gw, 0, none⟩ = some (.slice aa A.length ac) ∧ y.w.cell? ⟨gw + 1, 0, none⟩ = some (.slice ba B.length bc) ∧ y.w.cell? ⟨gw + 2, 0, none⟩ = some (.int .i64 oi) ∧ y.w.cell? ⟨gw + 2, 1, none⟩ = some (.int .i64 oj) ∧ y.w.cell? ⟨gw + 2, 2, none⟩ = some (.slice oa cs.length oc) := fun y => ⟨cell_keep y.ok a0, cell_keep y.ok b0, cell_keep y.ok o0, cell_keep y.ok o1, cell_keep y.ok o2⟩
       haveI n1 : Nonempty (KW (fun W' => Below W8.heap.size W8 W')) := ⟨⟨W8, Below.refl _ _⟩⟩
       refine wp_region_tree (fun w' => ∃ y : KW (fun W' => Below W8.heap.size W8 W'), w' = y.w) 15 (.take 0 (.take 2 (.take 4 (.take 5 (.take 6 (.take 7 (.take 9 (.take 10 (.take 14 (.two 1 (.two 3 (.one 8 (.one 11 (.take 12 (.one 13 .done)))) 8 (.one 3 (.one 11 (.take 12 (.one 13 .done))))) 8 (.one 1 (.one 3 (.one 11 (.take 12 (.one 13 .done))))))))))))))) hmix (by kernel_rfl) (KW.mk' (Below.refl _ _).drew) ?_
       have HC := Lib.hid (show Below W8.heap.size W8 W8.drew from (Below.refl _ _).drew)
       generalize W8.drew = wz at *
       repeat (refine wpTree_take ?_; simp only [nthOp]; (first | go_big_quiet_step (fail) | quiet_step (fail)); refine wpQuiet_nil ?_)
       refine wpTree_two ?_ ?_
       ·skip
        simp only [nthOp]
        go_wp2_with (go_at_call 34; refine (HC1.out _ (HB8.out.trans (HC.out.mono HB8.out.size))).mono ?_; rintro e wa ⟨ua, un, rfl, hcv, -, hb⟩; have HXA := Lib.hid hcv; (try have HXB := Lib.hid (HXB.out.keep hb)); (try have HMR := Lib.hid (own_keep HMR.out hb)); (try have HBR := Lib.hid (HBR.out.keep HGL.out hb)); (try have HGL := Lib.hid (Nat.lt_of_lt_of_le HGL.out hb.size)); have HC := Lib.hid (HC.out.trans (hb.mono HC.out.size)); clear hcv hb)
        refine One_mk (KW.mk' HC.out) ?_
        refine wpTree_two ?_ ?_
        ·skip
         simp only [nthOp]
         go_wp2_with (go_at_call 34; refine (HC3.out _ (HB8.out.trans (HC.out.mono HB8.out.size))).mono ?_; rintro e wb ⟨va, vn, rfl, hcv, -, hb⟩; have HXB := Lib.hid hcv; (try have HXA := Lib.hid (HXA.out.keep hb)); (try have HMR := Lib.hid (own_keep HMR.out hb)); (try have HBR := Lib.hid (HBR.out.keep HGL.out hb)); (try have HGL := Lib.hid (Nat.lt_of_lt_of_le HGL.out hb.size)); have HC := Lib.hid (HC.out.trans (hb.mono HC.out.size)); clear hcv hb)
         refine One_mk (KW.mk' HC.out) ?_
         refine wpTree_one ?_
         simp only [nthOp]
         go_wp2_with fail
         have hal := (Below.refl wb.heap.size wb).alloc (Nat.le_refl _) (.cells #[] 60)
         have HMR := Lib.hid (World.ownsRow_made (e := 60) (base := W8.heap.size) (size := 4) wb #[] 0 HC.out.size (by decide) (by simp))
         have HBR := Lib.hid (Bare.new wb 60)
         have HGL := Lib.hid (show wb.heap.size < (wb.alloc (.cells #[] 60)).heap.size by simp)
         try have HXA := Lib.hid (HXA.out.keep hal)
         try have HXB := Lib.hid (HXB.out.keep hal)
         have HC := Lib.hid (HC.out.alloc HC.out.size (.cells #[] 60))
         refine One_mk (KW.mk' HC.out) ?_
         clear hal
         generalize (wb.alloc (.cells #[] 60)) = wc at *
         obtain ⟨gr, hgr⟩ : ∃ g, g = wb.heap.size := ⟨_, rfl⟩
         rw [← hgr] at HMR HBR HGL ⊢
         clear hgr
         refine wpTree_one ?_
         simp only [nthOp]
         have HCN := Lib.hid (cosNews (HVO.out.keep (HB8.out.trans (HC.out.mono HB8.out.size))))
         go_wp2_with (at_builtin; refine wpList_append_rows cellsCo_len cellsCo_one (by decide) rfl _ _ 33 rfl W8.heap.size 60 i0 _ 32 Tryz.underlying33 hi0 hz0 hz1 hz2 rfl (by decide) (.slice (some ⟨gr, 0, none⟩) 0 0) 0 [] rfl HMR.out oa cs oc rfl HCN.out (by omega) HC.out.size ?_; intro v' wd ho hg ha; obtain ⟨xa, xn, rfl, -, -⟩ := own_slice ho; have HOX := Lib.hid (show wd.ownsRow W8.heap.size 60 4 (.slice xa cs.length xn) cs.length (cs.flatMap cellsCo) by simpa using ho); have HXA := Lib.hid (cellsV_grown HBR.out hg HXA.out); have HXB := Lib.hid (cellsV_grown HBR.out hg HXB.out); have HCX := Lib.hid (ownCoV (cos_wf HVO.out) HOX.out); have HC := Lib.hid (below_grown HC.out hg HC.out.size fun k hk => (own_lt HMR.out hk).1); clear ho hg ha)
         refine One_mk (KW.mk' HC.out) ?_
         repeat (refine wpTree_take ?_; simp only [nthOp]; (first | go_big_quiet_step (fail) | quiet_step (fail)); refine wpQuiet_nil ?_)
         refine wpTree_one ?_
         simp only [nthOp]
         go_wp2_with (go_at_call 55; refine (HCP.out ua un va vn xa xn _ HXA.out HXB.out HCX.out).mono ?_; rintro e we ⟨rfl, hb⟩; have HC := Lib.hid (HC.out.trans (hb.mono HC.out.size)); clear hb)
         refine One_mk (KW.mk' HC.out) ?_
         refine wpTree_done ?_
         simp only [List.drop_succ_cons, List.drop_zero]
         go_wp2_with fail
         refine NP_mk ?_
         go_wp2_with fail
         go_ret
         exact ⟨rfl, HB8.out.trans (HC.out.mono HB8.out.size)⟩
        ·skip
         simp only [nthOp]
         go_wp2_with fail
         have hal := (Below.refl wa.heap.size wa).alloc (Nat.le_refl _) (.cells #[] 60)
         have HMR := Lib.hid (World.ownsRow_made (e := 60) (base := W8.heap.size) (size := 4) wa #[] 0 HC.out.size (by decide) (by simp))
         have HBR := Lib.hid (Bare.new wa 60)
         have HGL := Lib.hid (show wa.heap.size < (wa.alloc (.cells #[] 60)).heap.size by simp)
         try have HXA := Lib.hid (HXA.out.keep hal)
         try have HXB := Lib.hid (HXB.out.keep hal)
         have HC := Lib.hid (HC.out.alloc HC.out.size (.cells #[] 60))
         refine One_mk (KW.mk' HC.out) ?_
         clear hal
         generalize (wa.alloc (.cells #[] 60)) = wc at *
         obtain ⟨gr, hgr⟩ : ∃ g, g = wa.heap.size := ⟨_, rfl⟩
         rw [← hgr] at HMR HBR HGL ⊢
         clear hgr
         refine wpTree_one ?_
         simp only [nthOp]
         go_wp2_with (go_at_call 34; refine (HC3.out _ (HB8.out.trans (HC.out.mono HB8.out.size))).mono ?_; rintro e wb ⟨va, vn, rfl, hcv, -, hb⟩; have HXB := Lib.hid hcv; (try have HXA := Lib.hid (HXA.out.keep hb)); (try have HMR := Lib.hid (own_keep HMR.out hb)); (try have HBR := Lib.hid (HBR.out.keep HGL.out hb)); (try have HGL := Lib.hid (Nat.lt_of_lt_of_le HGL.out hb.size)); have HC := Lib.hid (HC.out.trans (hb.mono HC.out.size)); clear hcv hb)
         refine One_mk (KW.mk' HC.out) ?_
         refine wpTree_one ?_
         simp only [nthOp]
         have HCN := Lib.hid (cosNews (HVO.out.keep (HB8.out.trans (HC.out.mono HB8.out.size))))
         go_wp2_with (at_builtin; refine wpList_append_rows cellsCo_len cellsCo_one (by decide) rfl _ _ 33 rfl W8.heap.size 60 i0 _ 32 Tryz.underlying33 hi0 hz0 hz1 hz2 rfl (by decide) (.slice (some ⟨gr, 0, none⟩) 0 0) 0 [] rfl HMR.out oa cs oc rfl HCN.out (by omega) HC.out.size ?_; intro v' wd ho hg ha; obtain ⟨xa, xn, rfl, -, -⟩ := own_slice ho; have HOX := Lib.hid (show wd.ownsRow W8.heap.size 60 4 (.slice xa cs.length xn) cs.length (cs.flatMap cellsCo) by simpa using ho); have HXA := Lib.hid (cellsV_grown HBR.out hg HXA.out); have HXB := Lib.hid (cellsV_grown HBR.out hg HXB.out); have HCX := Lib.hid (ownCoV (cos_wf HVO.out) HOX.out); have HC := Lib.hid (below_grown HC.out hg HC.out.size fun k hk => (own_lt HMR.out hk).1); clear ho hg ha)
         refine One_mk (KW.mk' HC.out) ?_
         repeat (refine wpTree_take ?_; simp only [nthOp]; (first | go_big_quiet_step (fail) | quiet_step (fail)); refine wpQuiet_nil ?_)
         refine wpTree_one ?_
         simp only [nthOp]
         go_wp2_with (go_at_call 55; refine (HCP.out ua un va vn xa xn _ HXA.out HXB.out HCX.out).mono ?_; rintro e we ⟨rfl, hb⟩; have HC := Lib.hid (HC.out.trans (hb.mono HC.out.size)); clear hb)
         refine One_mk (KW.mk' HC.out) ?_
         refine wpTree_done ?_
         simp only [List.drop_succ_cons, List.drop_zero]
         go_wp2_with fail
         refine NP_mk ?_
         go_wp2_with fail
         go_ret
         exact ⟨rfl, HB8.out.trans (HC.out.mono HB8.out.size)⟩
       ·skip
        simp only [nthOp]
        go_wp2_with fail
        have hal := (Below.refl wz.heap.size wz).alloc (Nat.le_refl _) (.cells #[] 60)
        have HMR := Lib.hid (World.ownsRow_made (e := 60) (base := W8.heap.size) (size := 4) wz #[] 0 HC.out.size (by decide) (by simp))
        have HBR := Lib.hid (Bare.new wz 60)
        have HGL := Lib.hid (show wz.heap.size < (wz.alloc (.cells #[] 60)).heap.size by simp)
        try have HXA := Lib.hid (HXA.out.keep hal)
        try have HXB := Lib.hid (HXB.out.keep hal)
        have HC := Lib.hid (HC.out.alloc HC.out.size (.cells #[] 60))
        refine One_mk (KW.mk' HC.out) ?_
        clear hal
        generalize (wz.alloc (.cells #[] 60)) = wc at *
        obtain ⟨gr, hgr⟩ : ∃ g, g = wz.heap.size := ⟨_, rfl⟩
        rw [← hgr] at HMR HBR HGL ⊢
        clear hgr
        refine wpTree_one ?_
        simp only [nthOp]
        go_wp2_with (go_at_call 34; refine (HC1.out _ (HB8.out.trans (HC.out.mono HB8.out.size))).mono ?_; rintro e wa ⟨ua, un, rfl, hcv, -, hb⟩; have HXA := Lib.hid hcv; (try have HXB := Lib.hid (HXB.out.keep hb)); (try have HMR := Lib.hid (own_keep HMR.out hb)); (try have HBR := Lib.hid (HBR.out.keep HGL.out hb)); (try have HGL := Lib.hid (Nat.lt_of_lt_of_le HGL.out hb.size)); have HC := Lib.hid (HC.out.trans (hb.mono HC.out.size)); clear hcv hb)
        refine One_mk (KW.mk' HC.out) ?_
        refine wpTree_one ?_
        simp only [nthOp]
        go_wp2_with (go_at_call 34; refine (HC3.out _ (HB8.out.trans (HC.out.mono HB8.out.size))).mono ?_; rintro e wb ⟨va, vn, rfl, hcv, -, hb⟩; have HXB := Lib.hid hcv; (try have HXA := Lib.hid (HXA.out.keep hb)); (try have HMR := Lib.hid (own_keep HMR.out hb)); (try have HBR := Lib.hid (HBR.out.keep HGL.out hb)); (try have HGL := Lib.hid (Nat.lt_of_lt_of_le HGL.out hb.size)); have HC := Lib.hid (HC.out.trans (hb.mono HC.out.size)); clear hcv hb)
        refine One_mk (KW.mk' HC.out) ?_
        refine wpTree_one ?_
        simp only [nthOp]
        have HCN := Lib.hid (cosNews (HVO.out.keep (HB8.out.trans (HC.out.mono HB8.out.size))))
        go_wp2_with (at_builtin; refine wpList_append_rows cellsCo_len cellsCo_one (by decide) rfl _ _ 33 rfl W8.heap.size 60 i0 _ 32 Tryz.underlying33 hi0 hz0 hz1 hz2 rfl (by decide) (.slice (some ⟨gr, 0, none⟩) 0 0) 0 [] rfl HMR.out oa cs oc rfl HCN.out (by omega) HC.out.size ?_; intro v' wd ho hg ha; obtain ⟨xa, xn, rfl, -, -⟩ := own_slice ho; have HOX := Lib.hid (show wd.ownsRow W8.heap.size 60 4 (.slice xa cs.length xn) cs.length (cs.flatMap cellsCo) by simpa using ho); have HXA := Lib.hid (cellsV_grown HBR.out hg HXA.out); have HXB := Lib.hid (cellsV_grown HBR.out hg HXB.out); have HCX := Lib.hid (ownCoV (cos_wf HVO.out) HOX.out); have HC := Lib.hid (below_grown HC.out hg HC.out.size fun k hk => (own_lt HMR.out hk).1); clear ho hg ha)
        refine One_mk (KW.mk' HC.out) ?_
        repeat (refine wpTree_take ?_; simp only [nthOp]; (first | go_big_quiet_step (fail) | quiet_step (fail)); refine wpQuiet_nil ?_)
        refine wpTree_one ?_
        simp only [nthOp]
        go_wp2_with (go_at_call 55; refine (HCP.out ua un va vn xa xn _ HXA.out HXB.out HCX.out).mono ?_; rintro e we ⟨rfl, hb⟩; have HC := Lib.hid (HC.out.trans (hb.mono HC.out.size)); clear hb)
        refine One_mk (KW.mk' HC.out) ?_
        refine wpTree_done ?_
        simp only [List.drop_succ_cons, List.drop_zero]
        go_wp2_with fail
        refine NP_mk ?_
        go_wp2_with fail
        go_ret
        exact ⟨rfl, HB8.out.trans (HC.out.mono HB8.out.size)⟩
     ·have e1 : lapPE A B ⟨oi, oj, cs⟩ = twoE A B := by unfold lapPE; rw [if_pos ht]
      rw [e1] at HCP
      clear e1
      generalize twoE A B = E at *
      by_cases h5 : (40 : Int) < (cs.length : Int)
      ·have h6 := h3a h5
       clear h3a h3 h4
       go_upto_region 8 with (first | (have h := HF1.out; clear HF1; go_at_call 32; refine (h _ HB1.out).mono ?_; clear h; rintro e w2 ⟨rfl, hb⟩; (have a0 := cell_keep hb a0; have b0 := cell_keep hb b0; have o0 := cell_keep hb o0; have o1 := cell_keep hb o1; have o2 := cell_keep hb o2); have HB2 := Lib.hid (HB1.out.trans (hb.mono HB1.out.size)); clear hb) | (have h := HF2.out; clear HF2; go_at_call 32; refine (h _ HB2.out).mono ?_; clear h; rintro e w3 ⟨rfl, hb⟩; (have a0 := cell_keep hb a0; have b0 := cell_keep hb b0; have o0 := cell_keep hb o0; have o1 := cell_keep hb o1; have o2 := cell_keep hb o2); have HB3 := Lib.hid (HB2.out.trans (hb.mono HB2.out.size)); clear hb) | (have h := HCT.out; clear HCT; go_at_call 36; refine (h _ HB3.out).mono ?_; clear h; rintro e w4 ⟨rfl, hb⟩; (have a0 := cell_keep hb a0; have b0 := cell_keep hb b0; have o0 := cell_keep hb o0; have o1 := cell_keep hb o1; have o2 := cell_keep hb o2); have HB4 := Lib.hid (HB3.out.trans (hb.mono HB3.out.size)); clear hb))
       have HB8 := HB4
       obtain ⟨W8, hW8⟩ : ∃ W8, W8 = w4 := ⟨_, rfl⟩
       subst hW8
       have kx0 : ∀ y : KW (fun W' => Below W8.heap.size W8 W'), y.w.cell? ⟨gw, 0, none⟩ = some (.slice aa A.length ac) ∧ y.w.cell? ⟨gw + 1, 0, none⟩ = some (.slice ba B.length bc) ∧ y.w.cell? ⟨gw + 2, 0, none⟩ = some (.int .i64 oi) ∧ y.w.cell? ⟨gw + 2, 1, none⟩ = some (.int .i64 oj) ∧ y.w.cell? ⟨gw + 2, 2, none⟩ = some (.slice oa cs.length oc) := fun y => ⟨cell_keep y.ok a0, cell_keep y.ok b0, cell_keep y.ok o0, cell_keep y.ok o1, cell_keep y.ok o2⟩
       haveI n1 : Nonempty (KW (fun W' => Below W8.heap.size W8 W')) := ⟨⟨W8, Below.refl _ _⟩⟩
       refine wp_region_tree (fun w' => ∃ y : KW (fun W' => Below W8.heap.size W8 W'), w' = y.w) 15 (.take 0 (.take 2 (.take 4 (.take 5 (.take 6 (.take 7 (.take 9 (.take 10 (.take 14 (.two 1 (.two 3 (.one 8 (.one 11 (.take 12 (.one 13 .done)))) 8 (.one 3 (.one 11 (.take 12 (.one 13 .done))))) 8 (.one 1 (.one 3 (.one 11 (.take 12 (.one 13 .done))))))))))))))) hmix (by kernel_rfl) (KW.mk' (Below.refl _ _).drew) ?_
       have HC := Lib.hid (show Below W8.heap.size W8 W8.drew from (Below.refl _ _).drew)
       generalize W8.drew = wz at *
       repeat (refine wpTree_take ?_; simp only [nthOp]; (first | go_big_quiet_step (fail) | quiet_step (fail)); refine wpQuiet_nil ?_)
       refine wpTree_two ?_ ?_
       ·skip
        simp only [nthOp]
        go_wp2_with (go_at_call 34; refine (HC1.out _ (HB8.out.trans (HC.out.mono HB8.out.size))).mono ?_; rintro e wa ⟨ua, un, rfl, hcv, -, hb⟩; have HXA := Lib.hid hcv; (try have HXB := Lib.hid (HXB.out.keep hb)); (try have HMR := Lib.hid (own_keep HMR.out hb)); (try have HBR := Lib.hid (HBR.out.keep HGL.out hb)); (try have HGL := Lib.hid (Nat.lt_of_lt_of_le HGL.out hb.size)); have HC := Lib.hid (HC.out.trans (hb.mono HC.out.size)); clear hcv hb)
        refine One_mk (KW.mk' HC.out) ?_
        refine wpTree_two ?_ ?_
        ·skip
         simp only [nthOp]
         go_wp2_with (go_at_call 34; refine (HC3.out _ (HB8.out.trans (HC.out.mono HB8.out.size))).mono ?_; rintro e wb ⟨va, vn, rfl, hcv, -, hb⟩; have HXB := Lib.hid hcv; (try have HXA := Lib.hid (HXA.out.keep hb)); (try have HMR := Lib.hid (own_keep HMR.out hb)); (try have HBR := Lib.hid (HBR.out.keep HGL.out hb)); (try have HGL := Lib.hid (Nat.lt_of_lt_of_le HGL.out hb.size)); have HC := Lib.hid (HC.out.trans (hb.mono HC.out.size)); clear hcv hb)
         refine One_mk (KW.mk' HC.out) ?_
         refine wpTree_one ?_
         simp only [nthOp]
         go_wp2_with fail
         have hal := (Below.refl wb.heap.size wb).alloc (Nat.le_refl _) (.cells #[] 60)
         have HMR := Lib.hid (World.ownsRow_made (e := 60) (base := W8.heap.size) (size := 4) wb #[] 0 HC.out.size (by decide) (by simp))
         have HBR := Lib.hid (Bare.new wb 60)
         have HGL := Lib.hid (show wb.heap.size < (wb.alloc (.cells #[] 60)).heap.size by simp)
         try have HXA := Lib.hid (HXA.out.keep hal)
         try have HXB := Lib.hid (HXB.out.keep hal)
         have HC := Lib.hid (HC.out.alloc HC.out.size (.cells #[] 60))
         refine One_mk (KW.mk' HC.out) ?_
         clear hal
         generalize (wb.alloc (.cells #[] 60)) = wc at *
         obtain ⟨gr, hgr⟩ : ∃ g, g = wb.heap.size := ⟨_, rfl⟩
         rw [← hgr] at HMR HBR HGL ⊢
         clear hgr
         refine wpTree_one ?_
         simp only [nthOp]
         have HCN := Lib.hid (cosNews (HVO.out.keep (HB8.out.trans (HC.out.mono HB8.out.size))))
         go_wp2_with (at_builtin; refine wpList_append_rows cellsCo_len cellsCo_one (by decide) rfl _ _ 33 rfl W8.heap.size 60 i0 _ 32 Tryz.underlying33 hi0 hz0 hz1 hz2 rfl (by decide) (.slice (some ⟨gr, 0, none⟩) 0 0) 0 [] rfl HMR.out oa cs oc rfl HCN.out (by omega) HC.out.size ?_; intro v' wd ho hg ha; obtain ⟨xa, xn, rfl, -, -⟩ := own_slice ho; have HOX := Lib.hid (show wd.ownsRow W8.heap.size 60 4 (.slice xa cs.length xn) cs.length (cs.flatMap cellsCo) by simpa using ho); have HXA := Lib.hid (cellsV_grown HBR.out hg HXA.out); have HXB := Lib.hid (cellsV_grown HBR.out hg HXB.out); have HCX := Lib.hid (ownCoV (cos_wf HVO.out) HOX.out); have HC := Lib.hid (below_grown HC.out hg HC.out.size fun k hk => (own_lt HMR.out hk).1); clear ho hg ha)
         refine One_mk (KW.mk' HC.out) ?_
         repeat (refine wpTree_take ?_; simp only [nthOp]; (first | go_big_quiet_step (fail) | quiet_step (fail)); refine wpQuiet_nil ?_)
         refine wpTree_one ?_
         simp only [nthOp]
         go_wp2_with (go_at_call 55; refine (HCP.out ua un va vn xa xn _ HXA.out HXB.out HCX.out).mono ?_; rintro e we ⟨rfl, hb⟩; have HC := Lib.hid (HC.out.trans (hb.mono HC.out.size)); clear hb)
         refine One_mk (KW.mk' HC.out) ?_
         refine wpTree_done ?_
         simp only [List.drop_succ_cons, List.drop_zero]
         go_wp2_with fail
         refine NP_mk ?_
         go_wp2_with fail
         go_ret
         exact ⟨rfl, HB8.out.trans (HC.out.mono HB8.out.size)⟩
        ·skip
         simp only [nthOp]
         go_wp2_with fail
         have hal := (Below.refl wa.heap.size wa).alloc (Nat.le_refl _) (.cells #[] 60)
         have HMR := Lib.hid (World.ownsRow_made (e := 60) (base := W8.heap.size) (size := 4) wa #[] 0 HC.out.size (by decide) (by simp))
         have HBR := Lib.hid (Bare.new wa 60)
         have HGL := Lib.hid (show wa.heap.size < (wa.alloc (.cells #[] 60)).heap.size by simp)
         try have HXA := Lib.hid (HXA.out.keep hal)
         try have HXB := Lib.hid (HXB.out.keep hal)
         have HC := Lib.hid (HC.out.alloc HC.out.size (.cells #[] 60))
         refine One_mk (KW.mk' HC.out) ?_
         clear hal
         generalize (wa.alloc (.cells #[] 60)) = wc at *
         obtain ⟨gr, hgr⟩ : ∃ g, g = wa.heap.size := ⟨_, rfl⟩
         rw [← hgr] at HMR HBR HGL ⊢
         clear hgr
         refine wpTree_one ?_
         simp only [nthOp]
         go_wp2_with (go_at_call 34; refine (HC3.out _ (HB8.out.trans (HC.out.mono HB8.out.size))).mono ?_; rintro e wb ⟨va, vn, rfl, hcv, -, hb⟩; have HXB := Lib.hid hcv; (try have HXA := Lib.hid (HXA.out.keep hb)); (try have HMR := Lib.hid (own_keep HMR.out hb)); (try have HBR := Lib.hid (HBR.out.keep HGL.out hb)); (try have HGL := Lib.hid (Nat.lt_of_lt_of_le HGL.out hb.size)); have HC := Lib.hid (HC.out.trans (hb.mono HC.out.size)); clear hcv hb)
         refine One_mk (KW.mk' HC.out) ?_
         refine wpTree_one ?_
         simp only [nthOp]
         have HCN := Lib.hid (cosNews (HVO.out.keep (HB8.out.trans (HC.out.mono HB8.out.size))))
         go_wp2_with (at_builtin; refine wpList_append_rows cellsCo_len cellsCo_one (by decide) rfl _ _ 33 rfl W8.heap.size 60 i0 _ 32 Tryz.underlying33 hi0 hz0 hz1 hz2 rfl (by decide) (.slice (some ⟨gr, 0, none⟩) 0 0) 0 [] rfl HMR.out oa cs oc rfl HCN.out (by omega) HC.out.size ?_; intro v' wd ho hg ha; obtain ⟨xa, xn, rfl, -, -⟩ := own_slice ho; have HOX := Lib.hid (show wd.ownsRow W8.heap.size 60 4 (.slice xa cs.length xn) cs.length (cs.flatMap cellsCo) by simpa using ho); have HXA := Lib.hid (cellsV_grown HBR.out hg HXA.out); have HXB := Lib.hid (cellsV_grown HBR.out hg HXB.out); have HCX := Lib.hid (ownCoV (cos_wf HVO.out) HOX.out); have HC := Lib.hid (below_grown HC.out hg HC.out.size fun k hk => (own_lt HMR.out hk).1); clear ho hg ha)
         refine One_mk (KW.mk' HC.out) ?_
         repeat (refine wpTree_take ?_; simp only [nthOp]; (first | go_big_quiet_step (fail) | quiet_step (fail)); refine wpQuiet_nil ?_)
         refine wpTree_one ?_
         simp only [nthOp]
         go_wp2_with (go_at_call 55; refine (HCP.out ua un va vn xa xn _ HXA.out HXB.out HCX.out).mono ?_; rintro e we ⟨rfl, hb⟩; have HC := Lib.hid (HC.out.trans (hb.mono HC.out.size)); clear hb)
         refine One_mk (KW.mk' HC.out) ?_
         refine wpTree_done ?_
         simp only [List.drop_succ_cons, List.drop_zero]
         go_wp2_with fail
         refine NP_mk ?_
         go_wp2_with fail
         go_ret
         exact ⟨rfl, HB8.out.trans (HC.out.mono HB8.out.size)⟩
       ·skip
        simp only [nthOp]
        go_wp2_with fail
        have hal := (Below.refl wz.heap.size wz).alloc (Nat.le_refl _) (.cells #[] 60)
        have HMR := Lib.hid (World.ownsRow_made (e := 60) (base := W8.heap.size) (size := 4) wz #[] 0 HC.out.size (by decide) (by simp))
        have HBR := Lib.hid (Bare.new wz 60)
        have HGL := Lib.hid (show wz.heap.size < (wz.alloc (.cells #[] 60)).heap.size by simp)
        try have HXA := Lib.hid (HXA.out.keep hal)
        try have HXB := Lib.hid (HXB.out.keep hal)
        have HC := Lib.hid (HC.out.alloc HC.out.size (.cells #[] 60))
        refine One_mk (KW.mk' HC.out) ?_
        clear hal
        generalize (wz.alloc (.cells #[] 60)) = wc at *
        obtain ⟨gr, hgr⟩ : ∃ g, g = wz.heap.size := ⟨_, rfl⟩
        rw [← hgr] at HMR HBR HGL ⊢
        clear hgr
        refine wpTree_one ?_
        simp only [nthOp]
        go_wp2_with (go_at_call 34; refine (HC1.out _ (HB8.out.trans (HC.out.mono HB8.out.size))).mono ?_; rintro e wa ⟨ua, un, rfl, hcv, -, hb⟩; have HXA := Lib.hid hcv; (try have HXB := Lib.hid (HXB.out.keep hb)); (try have HMR := Lib.hid (own_keep HMR.out hb)); (try have HBR := Lib.hid (HBR.out.keep HGL.out hb)); (try have HGL := Lib.hid (Nat.lt_of_lt_of_le HGL.out hb.size)); have HC := Lib.hid (HC.out.trans (hb.mono HC.out.size)); clear hcv hb)
        refine One_mk (KW.mk' HC.out) ?_
        refine wpTree_one ?_
        simp only [nthOp]
        go_wp2_with (go_at_call 34; refine (HC3.out _ (HB8.out.trans (HC.out.mono HB8.out.size))).mono ?_; rintro e wb ⟨va, vn, rfl, hcv, -, hb⟩; have HXB := Lib.hid hcv; (try have HXA := Lib.hid (HXA.out.keep hb)); (try have HMR := Lib.hid (own_keep HMR.out hb)); (try have HBR := Lib.hid (HBR.out.keep HGL.out hb)); (try have HGL := Lib.hid (Nat.lt_of_lt_of_le HGL.out hb.size)); have HC := Lib.hid (HC.out.trans (hb.mono HC.out.size)); clear hcv hb)
        refine One_mk (KW.mk' HC.out) ?_
        refine wpTree_one ?_
        simp only [nthOp]
        have HCN := Lib.hid (cosNews (HVO.out.keep (HB8.out.trans (HC.out.mono HB8.out.size))))
        go_wp2_with (at_builtin; refine wpList_append_rows cellsCo_len cellsCo_one (by decide) rfl _ _ 33 rfl W8.heap.size 60 i0 _ 32 Tryz.underlying33 hi0 hz0 hz1 hz2 rfl (by decide) (.slice (some ⟨gr, 0, none⟩) 0 0) 0 [] rfl HMR.out oa cs oc rfl HCN.out (by omega) HC.out.size ?_; intro v' wd ho hg ha; obtain ⟨xa, xn, rfl, -, -⟩ := own_slice ho; have HOX := Lib.hid (show wd.ownsRow W8.heap.size 60 4 (.slice xa cs.length xn) cs.length (cs.flatMap cellsCo) by simpa using ho); have HXA := Lib.hid (cellsV_grown HBR.out hg HXA.out); have HXB := Lib.hid (cellsV_grown HBR.out hg HXB.out); have HCX := Lib.hid (ownCoV (cos_wf HVO.out) HOX.out); have HC := Lib.hid (below_grown HC.out hg HC.out.size fun k hk => (own_lt HMR.out hk).1); clear ho hg ha)
        refine One_mk (KW.mk' HC.out) ?_
        repeat (refine wpTree_take ?_; simp only [nthOp]; (first | go_big_quiet_step (fail) | quiet_step (fail)); refine wpQuiet_nil ?_)
        refine wpTree_one ?_
        simp only [nthOp]
        go_wp2_with (go_at_call 55; refine (HCP.out ua un va vn xa xn _ HXA.out HXB.out HCX.out).mono ?_; rintro e we ⟨rfl, hb⟩; have HC := Lib.hid (HC.out.trans (hb.mono HC.out.size)); clear hb)
        refine One_mk (KW.mk' HC.out) ?_
        refine wpTree_done ?_
        simp only [List.drop_succ_cons, List.drop_zero]
        go_wp2_with fail
        refine NP_mk ?_
        go_wp2_with fail
        go_ret
        exact ⟨rfl, HB8.out.trans (HC.out.mono HB8.out.size)⟩
      ·clear h3a h3 h4
       go_upto_region 8 with (first | (have h := HF1.out; clear HF1; go_at_call 32; refine (h _ HB1.out).mono ?_; clear h; rintro e w2 ⟨rfl, hb⟩; (have a0 := cell_keep hb a0; have b0 := cell_keep hb b0; have o0 := cell_keep hb o0; have o1 := cell_keep hb o1; have o2 := cell_keep hb o2); have HB2 := Lib.hid (HB1.out.trans (hb.mono HB1.out.size)); clear hb) | (have h := HF2.out; clear HF2; go_at_call 32; refine (h _ HB2.out).mono ?_; clear h; rintro e w3 ⟨rfl, hb⟩; (have a0 := cell_keep hb a0; have b0 := cell_keep hb b0; have o0 := cell_keep hb o0; have o1 := cell_keep hb o1; have o2 := cell_keep hb o2); have HB3 := Lib.hid (HB2.out.trans (hb.mono HB2.out.size)); clear hb) | (have h := HCT.out; clear HCT; go_at_call 36; refine (h _ HB3.out).mono ?_; clear h; rintro e w4 ⟨rfl, hb⟩; (have a0 := cell_keep hb a0; have b0 := cell_keep hb b0; have o0 := cell_keep hb o0; have o1 := cell_keep hb o1; have o2 := cell_keep hb o2); have HB4 := Lib.hid (HB3.out.trans (hb.mono HB3.out.size)); clear hb))
       have HB8 := HB4
       obtain ⟨W8, hW8⟩ : ∃ W8, W8 = w4 := ⟨_, rfl⟩
       subst hW8
       have kx0 : ∀ y : KW (fun W' => Below W8.heap.size W8 W'), y.w.cell? ⟨gw, 0, none⟩ = some (.slice aa A.length ac) ∧ y.w.cell? ⟨gw + 1, 0, none⟩ = some (.slice ba B.length bc) ∧ y.w.cell? ⟨gw + 2, 0, none⟩ = some (.int .i64 oi) ∧ y.w.cell? ⟨gw + 2, 1, none⟩ = some (.int .i64 oj) ∧ y.w.cell? ⟨gw + 2, 2, none⟩ = some (.slice oa cs.length oc) := fun y => ⟨cell_keep y.ok a0, cell_keep y.ok b0, cell_keep y.ok o0, cell_keep y.ok o1, cell_keep y.ok o2⟩
       haveI n1 : Nonempty (KW (fun W' => Below W8.heap.size W8 W')) := ⟨⟨W8, Below.refl _ _⟩⟩
       refine wp_region_tree (fun w' => ∃ y : KW (fun W' => Below W8.heap.size W8 W'), w' = y.w) 15 (.take 0 (.take 2 (.take 4 (.take 5 (.take 6 (.take 7 (.take 9 (.take 10 (.take 14 (.two 1 (.two 3 (.one 8 (.one 11 (.take 12 (.one 13 .done)))) 8 (.one 3 (.one 11 (.take 12 (.one 13 .done))))) 8 (.one 1 (.one 3 (.one 11 (.take 12 (.one 13 .done))))))))))))))) hmix (by kernel_rfl) (KW.mk' (Below.refl _ _).drew) ?_
       have HC := Lib.hid (show Below W8.heap.size W8 W8.drew from (Below.refl _ _).drew)
       generalize W8.drew = wz at *
       repeat (refine wpTree_take ?_; simp only [nthOp]; (first | go_big_quiet_step (fail) | quiet_step (fail)); refine wpQuiet_nil ?_)
       refine wpTree_two ?_ ?_
       ·skip
        simp only [nthOp]
        go_wp2_with (go_at_call 34; refine (HC1.out _ (HB8.out.trans (HC.out.mono HB8.out.size))).mono ?_; rintro e wa ⟨ua, un, rfl, hcv, -, hb⟩; have HXA := Lib.hid hcv; (try have HXB := Lib.hid (HXB.out.keep hb)); (try have HMR := Lib.hid (own_keep HMR.out hb)); (try have HBR := Lib.hid (HBR.out.keep HGL.out hb)); (try have HGL := Lib.hid (Nat.lt_of_lt_of_le HGL.out hb.size)); have HC := Lib.hid (HC.out.trans (hb.mono HC.out.size)); clear hcv hb)
        refine One_mk (KW.mk' HC.out) ?_
        refine wpTree_two ?_ ?_
        ·skip
         simp only [nthOp]
         go_wp2_with (go_at_call 34; refine (HC3.out _ (HB8.out.trans (HC.out.mono HB8.out.size))).mono ?_; rintro e wb ⟨va, vn, rfl, hcv, -, hb⟩; have HXB := Lib.hid hcv; (try have HXA := Lib.hid (HXA.out.keep hb)); (try have HMR := Lib.hid (own_keep HMR.out hb)); (try have HBR := Lib.hid (HBR.out.keep HGL.out hb)); (try have HGL := Lib.hid (Nat.lt_of_lt_of_le HGL.out hb.size)); have HC := Lib.hid (HC.out.trans (hb.mono HC.out.size)); clear hcv hb)
         refine One_mk (KW.mk' HC.out) ?_
         refine wpTree_one ?_
         simp only [nthOp]
         go_wp2_with fail
         have hal := (Below.refl wb.heap.size wb).alloc (Nat.le_refl _) (.cells #[] 60)
         have HMR := Lib.hid (World.ownsRow_made (e := 60) (base := W8.heap.size) (size := 4) wb #[] 0 HC.out.size (by decide) (by simp))
         have HBR := Lib.hid (Bare.new wb 60)
         have HGL := Lib.hid (show wb.heap.size < (wb.alloc (.cells #[] 60)).heap.size by simp)
         try have HXA := Lib.hid (HXA.out.keep hal)
         try have HXB := Lib.hid (HXB.out.keep hal)
         have HC := Lib.hid (HC.out.alloc HC.out.size (.cells #[] 60))
         refine One_mk (KW.mk' HC.out) ?_
         clear hal
         generalize (wb.alloc (.cells #[] 60)) = wc at *
         obtain ⟨gr, hgr⟩ : ∃ g, g = wb.heap.size := ⟨_, rfl⟩
         rw [← hgr] at HMR HBR HGL ⊢
         clear hgr
         refine wpTree_one ?_
         simp only [nthOp]
         have HCN := Lib.hid (cosNews (HVO.out.keep (HB8.out.trans (HC.out.mono HB8.out.size))))
         go_wp2_with (at_builtin; refine wpList_append_rows cellsCo_len cellsCo_one (by decide) rfl _ _ 33 rfl W8.heap.size 60 i0 _ 32 Tryz.underlying33 hi0 hz0 hz1 hz2 rfl (by decide) (.slice (some ⟨gr, 0, none⟩) 0 0) 0 [] rfl HMR.out oa cs oc rfl HCN.out (by omega) HC.out.size ?_; intro v' wd ho hg ha; obtain ⟨xa, xn, rfl, -, -⟩ := own_slice ho; have HOX := Lib.hid (show wd.ownsRow W8.heap.size 60 4 (.slice xa cs.length xn) cs.length (cs.flatMap cellsCo) by simpa using ho); have HXA := Lib.hid (cellsV_grown HBR.out hg HXA.out); have HXB := Lib.hid (cellsV_grown HBR.out hg HXB.out); have HCX := Lib.hid (ownCoV (cos_wf HVO.out) HOX.out); have HC := Lib.hid (below_grown HC.out hg HC.out.size fun k hk => (own_lt HMR.out hk).1); clear ho hg ha)
         refine One_mk (KW.mk' HC.out) ?_
         repeat (refine wpTree_take ?_; simp only [nthOp]; (first | go_big_quiet_step (fail) | quiet_step (fail)); refine wpQuiet_nil ?_)
         refine wpTree_one ?_
         simp only [nthOp]
         go_wp2_with (go_at_call 55; refine (HCP.out ua un va vn xa xn _ HXA.out HXB.out HCX.out).mono ?_; rintro e we ⟨rfl, hb⟩; have HC := Lib.hid (HC.out.trans (hb.mono HC.out.size)); clear hb)
         refine One_mk (KW.mk' HC.out) ?_
         refine wpTree_done ?_
         simp only [List.drop_succ_cons, List.drop_zero]
         go_wp2_with fail
         refine NP_mk ?_
         go_wp2_with fail
         go_ret
         exact ⟨rfl, HB8.out.trans (HC.out.mono HB8.out.size)⟩
        ·skip
         simp only [nthOp]
         go_wp2_with fail
         have hal := (Below.refl wa.heap.size wa).alloc (Nat.le_refl _) (.cells #[] 60)
         have HMR := Lib.hid (World.ownsRow_made (e := 60) (base := W8.heap.size) (size := 4) wa #[] 0 HC.out.size (by decide) (by simp))
         have HBR := Lib.hid (Bare.new wa 60)
         have HGL := Lib.hid (show wa.heap.size < (wa.alloc (.cells #[] 60)).heap.size by simp)
         try have HXA := Lib.hid (HXA.out.keep hal)
         try have HXB := Lib.hid (HXB.out.keep hal)
         have HC := Lib.hid (HC.out.alloc HC.out.size (.cells #[] 60))
         refine One_mk (KW.mk' HC.out) ?_
         clear hal
         generalize (wa.alloc (.cells #[] 60)) = wc at *
         obtain ⟨gr, hgr⟩ : ∃ g, g = wa.heap.size := ⟨_, rfl⟩
         rw [← hgr] at HMR HBR HGL ⊢
         clear hgr
         refine wpTree_one ?_
         simp only [nthOp]
         go_wp2_with (go_at_call 34; refine (HC3.out _ (HB8.out.trans (HC.out.mono HB8.out.size))).mono ?_; rintro e wb ⟨va, vn, rfl, hcv, -, hb⟩; have HXB := Lib.hid hcv; (try have HXA := Lib.hid (HXA.out.keep hb)); (try have HMR := Lib.hid (own_keep HMR.out hb)); (try have HBR := Lib.hid (HBR.out.keep HGL.out hb)); (try have HGL := Lib.hid (Nat.lt_of_lt_of_le HGL.out hb.size)); have HC := Lib.hid (HC.out.trans (hb.mono HC.out.size)); clear hcv hb)
         refine One_mk (KW.mk' HC.out) ?_
         refine wpTree_one ?_
         simp only [nthOp]
         have HCN := Lib.hid (cosNews (HVO.out.keep (HB8.out.trans (HC.out.mono HB8.out.size))))
         go_wp2_with (at_builtin; refine wpList_append_rows cellsCo_len cellsCo_one (by decide) rfl _ _ 33 rfl W8.heap.size 60 i0 _ 32 Tryz.underlying33 hi0 hz0 hz1 hz2 rfl (by decide) (.slice (some ⟨gr, 0, none⟩) 0 0) 0 [] rfl HMR.out oa cs oc rfl HCN.out (by omega) HC.out.size ?_; intro v' wd ho hg ha; obtain ⟨xa, xn, rfl, -, -⟩ := own_slice ho; have HOX := Lib.hid (show wd.ownsRow W8.heap.size 60 4 (.slice xa cs.length xn) cs.length (cs.flatMap cellsCo) by simpa using ho); have HXA := Lib.hid (cellsV_grown HBR.out hg HXA.out); have HXB := Lib.hid (cellsV_grown HBR.out hg HXB.out); have HCX := Lib.hid (ownCoV (cos_wf HVO.out) HOX.out); have HC := Lib.hid (below_grown HC.out hg HC.out.size fun k hk => (own_lt HMR.out hk).1); clear ho hg ha)
         refine One_mk (KW.mk' HC.out) ?_
         repeat (refine wpTree_take ?_; simp only [nthOp]; (first | go_big_quiet_step (fail) | quiet_step (fail)); refine wpQuiet_nil ?_)
         refine wpTree_one ?_
         simp only [nthOp]
         go_wp2_with (go_at_call 55; refine (HCP.out ua un va vn xa xn _ HXA.out HXB.out HCX.out).mono ?_; rintro e we ⟨rfl, hb⟩; have HC := Lib.hid (HC.out.trans (hb.mono HC.out.size)); clear hb)
         refine One_mk (KW.mk' HC.out) ?_
         refine wpTree_done ?_
         simp only [List.drop_succ_cons, List.drop_zero]
         go_wp2_with fail
         refine NP_mk ?_
         go_wp2_with fail
         go_ret
         exact ⟨rfl, HB8.out.trans (HC.out.mono HB8.out.size)⟩
       ·skip
        simp only [nthOp]
        go_wp2_with fail
        have hal := (Below.refl wz.heap.size wz).alloc (Nat.le_refl _) (.cells #[] 60)
        have HMR := Lib.hid (World.ownsRow_made (e := 60) (base := W8.heap.size) (size := 4) wz #[] 0 HC.out.size (by decide) (by simp))
        have HBR := Lib.hid (Bare.new wz 60)
        have HGL := Lib.hid (show wz.heap.size < (wz.alloc (.cells #[] 60)).heap.size by simp)
        try have HXA := Lib.hid (HXA.out.keep hal)
        try have HXB := Lib.hid (HXB.out.keep hal)
        have HC := Lib.hid (HC.out.alloc HC.out.size (.cells #[] 60))
        refine One_mk (KW.mk' HC.out) ?_
        clear hal
        generalize (wz.alloc (.cells #[] 60)) = wc at *
        obtain ⟨gr, hgr⟩ : ∃ g, g = wz.heap.size := ⟨_, rfl⟩
        rw [← hgr] at HMR HBR HGL ⊢
        clear hgr
        refine wpTree_one ?_
        simp only [nthOp]
        go_wp2_with (go_at_call 34; refine (HC1.out _ (HB8.out.trans (HC.out.mono HB8.out.size))).mono ?_; rintro e wa ⟨ua, un, rfl, hcv, -, hb⟩; have HXA := Lib.hid hcv; (try have HXB := Lib.hid (HXB.out.keep hb)); (try have HMR := Lib.hid (own_keep HMR.out hb)); (try have HBR := Lib.hid (HBR.out.keep HGL.out hb)); (try have HGL := Lib.hid (Nat.lt_of_lt_of_le HGL.out hb.size)); have HC := Lib.hid (HC.out.trans (hb.mono HC.out.size)); clear hcv hb)
        refine One_mk (KW.mk' HC.out) ?_
        refine wpTree_one ?_
        simp only [nthOp]
        go_wp2_with (go_at_call 34; refine (HC3.out _ (HB8.out.trans (HC.out.mono HB8.out.size))).mono ?_; rintro e wb ⟨va, vn, rfl, hcv, -, hb⟩; have HXB := Lib.hid hcv; (try have HXA := Lib.hid (HXA.out.keep hb)); (try have HMR := Lib.hid (own_keep HMR.out hb)); (try have HBR := Lib.hid (HBR.out.keep HGL.out hb)); (try have HGL := Lib.hid (Nat.lt_of_lt_of_le HGL.out hb.size)); have HC := Lib.hid (HC.out.trans (hb.mono HC.out.size)); clear hcv hb)
        refine One_mk (KW.mk' HC.out) ?_
        refine wpTree_one ?_
        simp only [nthOp]
        have HCN := Lib.hid (cosNews (HVO.out.keep (HB8.out.trans (HC.out.mono HB8.out.size))))
        go_wp2_with (at_builtin; refine wpList_append_rows cellsCo_len cellsCo_one (by decide) rfl _ _ 33 rfl W8.heap.size 60 i0 _ 32 Tryz.underlying33 hi0 hz0 hz1 hz2 rfl (by decide) (.slice (some ⟨gr, 0, none⟩) 0 0) 0 [] rfl HMR.out oa cs oc rfl HCN.out (by omega) HC.out.size ?_; intro v' wd ho hg ha; obtain ⟨xa, xn, rfl, -, -⟩ := own_slice ho; have HOX := Lib.hid (show wd.ownsRow W8.heap.size 60 4 (.slice xa cs.length xn) cs.length (cs.flatMap cellsCo) by simpa using ho); have HXA := Lib.hid (cellsV_grown HBR.out hg HXA.out); have HXB := Lib.hid (cellsV_grown HBR.out hg HXB.out); have HCX := Lib.hid (ownCoV (cos_wf HVO.out) HOX.out); have HC := Lib.hid (below_grown HC.out hg HC.out.size fun k hk => (own_lt HMR.out hk).1); clear ho hg ha)
        refine One_mk (KW.mk' HC.out) ?_
        repeat (refine wpTree_take ?_; simp only [nthOp]; (first | go_big_quiet_step (fail) | quiet_step (fail)); refine wpQuiet_nil ?_)
        refine wpTree_one ?_
        simp only [nthOp]
        go_wp2_with (go_at_call 55; refine (HCP.out ua un va vn xa xn _ HXA.out HXB.out HCX.out).mono ?_; rintro e we ⟨rfl, hb⟩; have HC := Lib.hid (HC.out.trans (hb.mono HC.out.size)); clear hb)
        refine One_mk (KW.mk' HC.out) ?_
        refine wpTree_done ?_
        simp only [List.drop_succ_cons, List.drop_zero]
        go_wp2_with fail
        refine NP_mk ?_
        go_wp2_with fail
        go_ret
        exact ⟨rfl, HB8.out.trans (HC.out.mono HB8.out.size)⟩
  ·have h2' : fewB B 3 = false := by simpa using h2
   rw [h2'] at HF2
   clear h2 h2'
   go_wp2_with (first | (have h := HF1.out; clear HF1; go_at_call 32; refine (h _ HB1.out).mono ?_; clear h; rintro e w2 ⟨rfl, hb⟩; (have a0 := cell_keep hb a0; have b0 := cell_keep hb b0; have o0 := cell_keep hb o0; have o1 := cell_keep hb o1; have o2 := cell_keep hb o2); have HB2 := Lib.hid (HB1.out.trans (hb.mono HB1.out.size)); clear hb) | (have h := HF2.out; clear HF2; go_at_call 32; refine (h _ HB2.out).mono ?_; clear h; rintro e w3 ⟨rfl, hb⟩; (have a0 := cell_keep hb a0; have b0 := cell_keep hb b0; have o0 := cell_keep hb o0; have o1 := cell_keep hb o1; have o2 := cell_keep hb o2); have HB3 := Lib.hid (HB2.out.trans (hb.mono HB2.out.size)); clear hb))
   go_ret
   exact ⟨rfl, HB3.out⟩
 ·have h1' : fewB A 3 = false := by simpa using h1
  rw [h1'] at HF1
  clear h1 h1'
  go_wp2_with (have h := HF1.out; clear HF1; go_at_call 32; refine (h _ HB1.out).mono ?_; clear h; rintro e w2 ⟨rfl, hb⟩; (have a0 := cell_keep hb a0; have b0 := cell_keep hb b0; have o0 := cell_keep hb o0; have o1 := cell_keep hb o1; have o2 := cell_keep hb o2); have HB2 := Lib.hid (HB1.out.trans (hb.mono HB1.out.size)); clear hb)
  go_ret
  exact ⟨rfl, HB2.out⟩
set_option maxRecDepth 100000 in
theorem solidWitnesses_walks : Walks 10 Tryz.f10 := by
 intro H enc W base args ds p hval hA hlt
 rw [Tryz.params10] at hA hval
 obtain ⟨v0, vs0, d0, ds0, p0, q0, hargs, rfl, rfl, ⟨fu0, hf0⟩, r0⟩ := trodAll_cons hA
 obtain ⟨v1, vs1, d1, ds1, p1, q1, rfl, rfl, rfl, ⟨fu1, hf1⟩, r1⟩ := trodAll_cons r0
 obtain ⟨v2, vs2, d2, ds2, p2, q2, rfl, rfl, rfl, ⟨fu2, hf2⟩, r2⟩ := trodAll_cons r1
 obtain ⟨rfl, rfl, rfl⟩ := trodAll_nil r2
 obtain rfl : args = #[v0, v1, v2] := by cases args; simp_all
 obtain ⟨cs0, rfl, -⟩ := okWide_struct Tryz.underlying48 (hval 0 48 v0 rfl rfl)
 obtain ⟨x0, a0, c0, hc0, V0, C0, M0, -⟩ := Solid.open_ hf0
 have hd0 : cs0 = #[.slice a0 x0.cells.length c0] := by
  cases cs0; simpa [Value.cells] using hc0
 subst hd0
 obtain ⟨cs1, rfl, -⟩ := okWide_struct Tryz.underlying48 (hval 1 48 v1 rfl rfl)
 obtain ⟨x1, a1, c1, hc1, V1, C1, M1, -⟩ := Solid.open_ hf1
 have hd1 : cs1 = #[.slice a1 x1.cells.length c1] := by
  cases cs1; simpa [Value.cells] using hc1
 subst hd1
 obtain ⟨cs2, rfl, -⟩ := okWide_struct Tryz.underlying87 (hval 2 87 v2 rfl rfl)
 obtain ⟨x2, a2, c2, hc2, V2, C2, M2, W2⟩ := Lap.open_ hf2
 have hd2 : cs2 = #[.int .i64 x2.a, .int .i64 x2.b, .slice a2 x2.corners.length c2] := by
  cases cs2; simpa [Value.cells] using hc2
 subst hd2
 exact walkSolidWitnesses x0 a0 c0 x1 a1 c1 x2 a2 c2 W V0 (by unfold maxLen at M0; omega) C0 V1 (by unfold maxLen at M1; omega) C1 V2 (by unfold maxLen at M2; omega) C2 W2

set_option maxRecDepth 100000 in
theorem solidWitnesses_holds : Rows.SolidWitnessesSaid :=
 law_holds (s := Rows.solidWitnessesSpec) (c := Rows.solidWitnessesRow) 10 Tryz.f10 rfl
  (fun H ds h => by match ds, h with | [_, _, _], _ => rfl) (by kernel_rfl) (by kernel_rfl)
  rfl rfl rfl rfl rfl rfl rfl ⟨rfl, rfl, rfl, rfl, rfl⟩ rfl rfl rfl rfl rfl rfl rfl rfl rfl rfl (fun _ _ => rfl) (by kernel_rfl) Tryz.func10
  solidWitnesses_closed (of_decide_eq_true (by kernel_rfl)) (by unfold Func.isWrapper; first | (rw [if_pos (by decide +kernel)]; kernel_rfl) | (rw [if_neg (by decide +kernel)]; exact ⟨rfl, rfl⟩)) (by kernel_rfl)
  (fun H enc os => ChangeSpec.witness6 (enc := enc) (C := Tryz.checked) false ⟨#[], #[.agg #[.slice none 0 0], .agg #[.slice none 0 0], .agg #[.int .i64 0, .int .i64 0, .slice none 0 0]], []⟩ 8 (by kernel_rfl) (by kernel_rfl) (by kernel_rfl) (by kernel_rfl))
  solidWitnesses_walks
end Go.Proofs.YtbhgkadklklmbaaGreat
