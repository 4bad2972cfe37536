/- SolidCovers returns true for every input: whether a solid covers another one, and whether they are the same, are as the document says. No condition. -/
import Derived.Test.YtbhgkadklklmbaaGreatQZ
import Derived.Test.YtbhgkadklklmbaaGreatQP
import Derived.Test.YtbhgkadklklmbaaGreatQS
import Derived.Test.YtbhgkadklklmbaaGreatQO
import Derived.Test.YtbhgkadklklmbaaGreatQM
import Derived.Test.YtbhgkadklklmbaaGreatFactsSolidCovers
set_option linter.unusedVariables false
set_option linter.unusedSimpArgs false
namespace Go.Proofs.YtbhgkadklklmbaaGreat
open Go Go.ChangeShapes Go.WideShapes Go.ChangeAt Go.RowKit Go.Sort Go.Lib

set_option maxRecDepth 100000 in
set_option maxHeartbeats 16000000 in
theorem walkSolidCovers (a : Solid) (aa : Option Addr) (ac : Nat) (b : Solid) (ba : Option Addr) (bc : Nat) (w : World) (Va : Cells.V w aa a.cells) (La : a.cells.length ≤ 9223372036854775807) (Ca : a.cells.length ≤ ac) (Vb : Cells.V w ba b.cells) (Lb : b.cells.length ≤ 9223372036854775807) (Cb : b.cells.length ≤ bc) :
    Calls Tryz.prog 4 #[.agg #[.slice aa a.cells.length ac], .agg #[.slice ba b.cells.length bc]] w fun e w' => e = .returned (.bool true) ∧ Below w.heap.size w w' := by
 have hmix : Tryz.prog.follows .mixedOrders = true := by kernel_rfl
 obtain ⟨A, hA⟩ : ∃ cs, cs = a.cells := ⟨_, rfl⟩
 obtain ⟨B, hB⟩ : ∃ cs, cs = b.cells := ⟨_, rfl⟩
 rw [← hA] at Va La Ca ⊢
 rw [← hB] at Vb Lb Cb ⊢
 clear hA hB
 have HVA := Lib.hid Va
 have HVB := Lib.hid Vb
 have HAW := Lib.hid awake_any
 have HF1 := Lib.hid (fun W (h : Below w.heap.size w W) => few_any A aa ac 3 W La (Va.keep h) (cells_len Va))
 have HF2 := Lib.hid (fun W (h : Below w.heap.size w W) => few_any B ba bc 3 W Lb (Vb.keep h) (cells_len Vb))
 clear Va Vb
 go_enter Tryz.func4, Tryz.ntmps4
 go_upto_region 1 with fail
 refine gen_world (fun W => W.cell? ⟨w.heap.size, 0, none⟩ = some (.slice aa A.length ac) ∧ W.cell? ⟨w.heap.size + 1, 0, none⟩ = some (.slice ba B.length bc) ∧ Below w.heap.size w W) ⟨by simp [go_sem], by simp [go_sem], by repeat (first | (with_reducible assumption) | exact Below.refl _ _ | (refine Below.setCell ?_ (by first | omega | (simp; omega) | (simp; done)) _) | (refine Below.alloc ?_ (by first | omega | (simp; omega) | (simp; done)) _) | (refine Below.drew ?_))⟩ ?_
 rintro W ⟨a0, b0, hb⟩
 have HB0 := Lib.hid hb
 clear hb
 obtain ⟨gw, hgw⟩ : ∃ g, g = w.heap.size := ⟨_, rfl⟩
 rw [← hgw] at a0 b0 ⊢
 clear hgw
 go_upto_region 3 with (go_at_call 18; refine (HAW.out _).mono ?_; rintro e w1 ⟨rfl, hb⟩; (have a0 := cell_keep hb a0; have b0 := cell_keep hb b0); have HB1 := Lib.hid (HB0.out.trans (hb.mono HB0.out.size)); clear hb)
 by_cases h1 : fewB A 3 = true
 ·have hla := few_len (by decide) h1
  have HPA := Lib.hid (few_pl h1)
  rw [h1] at HF1
  clear h1
  by_cases h2 : fewB B 3 = true
  ·have hlb := few_len (by decide) h2
   have HPB := Lib.hid (few_pl h2)
   rw [h2] at HF2
   clear h2
   have HCT := Lib.hid (fun W (h : Below w.heap.size w W) => checkTwoR_any A B aa ac ba bc W La (HVA.out.keep h) (fun x hx => by have := HPA.out x hx; omega) Lb (HVB.out.keep h) (fun x hx => by have := HPB.out x hx; omega))
   have HCF1 := Lib.hid (fun W ua un va vn (h1 : Cells.V W ua A) (h2 : Cells.V W va B) => covers_any A B ua un va vn W (by omega) h1 (fun x hx => by have := HPA.out x hx; omega) (by omega) h2 (fun x hx => by have := HPB.out x hx; omega))
   have HCF2 := Lib.hid (fun W ua un va vn (h1 : Cells.V W ua A) (h2 : Cells.V W va B) => same_any A B ua un va vn W (by omega) h1 (fun x hx => by have := HPA.out x hx; omega) (by omega) h2 (fun x hx => by have := HPB.out x hx; omega))
   have HC1 := Lib.hid (fun W (h : Below w.heap.size w W) => copySolid_any A aa ac W (by omega) (HVA.out.keep h) (fun x hx => by have := HPA.out x hx; omega))
   have HC3 := Lib.hid (fun W (h : Below w.heap.size w W) => copySolid_any B ba bc W (by omega) (HVB.out.keep h) (fun x hx => by have := HPB.out x hx; omega))
   obtain ⟨E1, hE1⟩ : ∃ x, x = covE A B := ⟨_, rfl⟩
   obtain ⟨V1, hV1⟩ : ∃ x, x = covV A B := ⟨_, rfl⟩
   obtain ⟨E2, hE2⟩ : ∃ x, x = sameE A B := ⟨_, rfl⟩
   obtain ⟨V2, hV2⟩ : ∃ x, x = sameV A B := ⟨_, rfl⟩
   obtain ⟨D, hD⟩ : ∃ x, x = twoE A B := ⟨_, rfl⟩
   rw [← hE1, ← hV1] at HCF1
   rw [← hE2, ← hV2] at HCF2
   rw [← hD] at HCT
   have HE1 := Lib.hid hE1
   have HV1 := Lib.hid hV1
   have HE2 := Lib.hid hE2
   have HV2 := Lib.hid hV2
   have HD := Lib.hid hD
   clear hE1 hV1 hE2 hV2 hD
   go_upto_region 5 with (first | (have h := HF1.out; clear HF1; go_at_call 32; refine (h _ HB1.out).mono ?_; clear h; rintro e w2 ⟨rfl, hb⟩; (have a0 := cell_keep hb a0; have b0 := cell_keep hb b0); have HB2 := Lib.hid (HB1.out.trans (hb.mono HB1.out.size)); clear hb) | (have h := HF2.out; clear HF2; go_at_call 32; refine (h _ HB2.out).mono ?_; clear h; rintro e w3 ⟨rfl, hb⟩; (have a0 := cell_keep hb a0; have b0 := cell_keep hb b0); have HB3 := Lib.hid (HB2.out.trans (hb.mono HB2.out.size)); clear hb))
   have HCF := HCF1
   have HB5 := HB3
   obtain ⟨W5, hW5⟩ : ∃ W5, W5 = w3 := ⟨_, rfl⟩
   subst hW5
   have kx0 : ∀ y : KW (fun W' => Below W5.heap.size W5 W'), (y.w.cell? ⟨gw, 0, none⟩ = some (.slice aa A.length ac) ∧ y.w.cell? ⟨gw + 1, 0, none⟩ = some (.slice ba B.length bc)) := fun y => ⟨cell_keep y.ok a0, cell_keep y.ok b0⟩
   haveI n1 : Nonempty (KW (fun W' => Below W5.heap.size W5 W')) := ⟨⟨W5, Below.refl _ _⟩⟩
   refine wp_region_tree (fun w' => ∃ y : KW (fun W' => Below W5.heap.size W5 W'), w' = y.w) 9 (.take 0 (.take 2 (.one 1 (.one 3 (.one 4 (.take 5 (.take 6 (.take 7 (.take 8 .done))))))))) hmix (by kernel_rfl) (KW.mk' (Below.refl _ _).drew) ?_
   have HC := Lib.hid (show Below W5.heap.size W5 W5.drew from (Below.refl _ _).drew)
   generalize W5.drew = wz at *
   (refine wpTree_take ?_; simp only [nthOp]; (first | go_big_quiet_step (fail) | quiet_step (fail)); refine wpQuiet_nil ?_)
   (refine wpTree_take ?_; simp only [nthOp]; (first | go_big_quiet_step (fail) | quiet_step (fail)); refine wpQuiet_nil ?_)
   refine wpTree_one ?_
   simp only [nthOp]
   go_wp2_with (go_at_call 34; refine (HC1.out _ (HB5.out.trans (HC.out.mono HB5.out.size))).mono ?_; rintro e wa ⟨ua, un, rfl, hcv, -, hb⟩; have HXA := Lib.hid hcv; have HC := Lib.hid (HC.out.trans (hb.mono HC.out.size)); clear hcv hb)
   refine One_mk (KW.mk' HC.out) ?_
   refine wpTree_one ?_
   simp only [nthOp]
   go_wp2_with (go_at_call 34; refine (HC3.out _ (HB5.out.trans (HC.out.mono HB5.out.size))).mono ?_; rintro e wb ⟨va, vn, rfl, hcv, -, hb⟩; have HXA := Lib.hid (HXA.out.keep hb); have HXB := Lib.hid hcv; have HC := Lib.hid (HC.out.trans (hb.mono HC.out.size)); clear hcv hb)
   refine One_mk (KW.mk' HC.out) ?_
   refine wpTree_one ?_
   simp only [nthOp]
   have HQ := Lib.hid (HCF.out wb ua un va vn HXA.out HXB.out)
   go_wp2_with (first
    | (go_at_call 33; refine HQ.out.mono ?_; rintro e wc ⟨rfl, hb⟩; have HC := Lib.hid (HC.out.trans (hb.mono HC.out.size)); clear hb)
    | (go_at_call 35; refine HQ.out.mono ?_; rintro e wc ⟨rfl, hb⟩; have HC := Lib.hid (HC.out.trans (hb.mono HC.out.size)); clear hb))
   refine One_mk (KW.mk' HC.out) ?_
   (refine wpTree_take ?_; simp only [nthOp]; (first | go_big_quiet_step (fail) | quiet_step (fail)); refine wpQuiet_nil ?_)
   (refine wpTree_take ?_; simp only [nthOp]; (first | go_big_quiet_step (fail) | quiet_step (fail)); refine wpQuiet_nil ?_)
   (refine wpTree_take ?_; simp only [nthOp]; (first | go_big_quiet_step (fail) | quiet_step (fail)); refine wpQuiet_nil ?_)
   (refine wpTree_take ?_; simp only [nthOp]; (first | go_big_quiet_step (fail) | quiet_step (fail)); refine wpQuiet_nil ?_)
   refine wpTree_done ?_
   simp only [List.drop_succ_cons, List.drop_zero]
   go_wp2_with fail
   refine NP_mk ?_
   have a0 := cell_keep HC.out a0
   have b0 := cell_keep HC.out b0
   clear kx0 n1 HQ HXA HXB
   have HB6 := Lib.hid (HB5.out.trans (HC.out.mono HB5.out.size))
   clear HC HB5 HB3 HCF HCF1
   obtain ⟨w6, hw6⟩ : ∃ w6, w6 = wc := ⟨_, rfl⟩
   subst hw6
   go_upto_region 6 with fail
   have HCF := HCF2
   have HB5 := HB6
   obtain ⟨W5, hW5⟩ : ∃ W5, W5 = w6 := ⟨_, rfl⟩
   subst hW5
   have kx0 : ∀ y : KW (fun W' => Below W5.heap.size W5 W'), (y.w.cell? ⟨gw, 0, none⟩ = some (.slice aa A.length ac) ∧ y.w.cell? ⟨gw + 1, 0, none⟩ = some (.slice ba B.length bc)) := fun y => ⟨cell_keep y.ok a0, cell_keep y.ok b0⟩
   haveI n1 : Nonempty (KW (fun W' => Below W5.heap.size W5 W')) := ⟨⟨W5, Below.refl _ _⟩⟩
   refine wp_region_tree (fun w' => ∃ y : KW (fun W' => Below W5.heap.size W5 W'), w' = y.w) 9 (.take 0 (.take 2 (.one 1 (.one 3 (.one 4 (.take 5 (.take 6 (.take 7 (.take 8 .done))))))))) hmix (by kernel_rfl) (KW.mk' (Below.refl _ _).drew) ?_
   have HC := Lib.hid (show Below W5.heap.size W5 W5.drew from (Below.refl _ _).drew)
   generalize W5.drew = wz at *
   (refine wpTree_take ?_; simp only [nthOp]; (first | go_big_quiet_step (fail) | quiet_step (fail)); refine wpQuiet_nil ?_)
   (refine wpTree_take ?_; simp only [nthOp]; (first | go_big_quiet_step (fail) | quiet_step (fail)); refine wpQuiet_nil ?_)
   refine wpTree_one ?_
   simp only [nthOp]
   go_wp2_with (go_at_call 34; refine (HC1.out _ (HB5.out.trans (HC.out.mono HB5.out.size))).mono ?_; rintro e wa ⟨ua, un, rfl, hcv, -, hb⟩; have HXA := Lib.hid hcv; have HC := Lib.hid (HC.out.trans (hb.mono HC.out.size)); clear hcv hb)
   refine One_mk (KW.mk' HC.out) ?_
   refine wpTree_one ?_
   simp only [nthOp]
   go_wp2_with (go_at_call 34; refine (HC3.out _ (HB5.out.trans (HC.out.mono HB5.out.size))).mono ?_; rintro e wb ⟨va, vn, rfl, hcv, -, hb⟩; have HXA := Lib.hid (HXA.out.keep hb); have HXB := Lib.hid hcv; have HC := Lib.hid (HC.out.trans (hb.mono HC.out.size)); clear hcv hb)
   refine One_mk (KW.mk' HC.out) ?_
   refine wpTree_one ?_
   simp only [nthOp]
   have HQ := Lib.hid (HCF.out wb ua un va vn HXA.out HXB.out)
   go_wp2_with (first
    | (go_at_call 33; refine HQ.out.mono ?_; rintro e wc ⟨rfl, hb⟩; have HC := Lib.hid (HC.out.trans (hb.mono HC.out.size)); clear hb)
    | (go_at_call 35; refine HQ.out.mono ?_; rintro e wc ⟨rfl, hb⟩; have HC := Lib.hid (HC.out.trans (hb.mono HC.out.size)); clear hb))
   refine One_mk (KW.mk' HC.out) ?_
   (refine wpTree_take ?_; simp only [nthOp]; (first | go_big_quiet_step (fail) | quiet_step (fail)); refine wpQuiet_nil ?_)
   (refine wpTree_take ?_; simp only [nthOp]; (first | go_big_quiet_step (fail) | quiet_step (fail)); refine wpQuiet_nil ?_)
   (refine wpTree_take ?_; simp only [nthOp]; (first | go_big_quiet_step (fail) | quiet_step (fail)); refine wpQuiet_nil ?_)
   (refine wpTree_take ?_; simp only [nthOp]; (first | go_big_quiet_step (fail) | quiet_step (fail)); refine wpQuiet_nil ?_)
   refine wpTree_done ?_
   simp only [List.drop_succ_cons, List.drop_zero]
   go_wp2_with fail
   refine NP_mk ?_
   have a0 := cell_keep HC.out a0
   have b0 := cell_keep HC.out b0
   clear kx0 n1 HQ HXA HXB
   have HB7 := Lib.hid (HB5.out.trans (HC.out.mono HB5.out.size))
   clear HC HB5 HB6 HCF HCF2
   have HCT7 := Lib.hid (HCT.out wc HB7.out)
   clear HCT HC1 HC3
   by_cases ht : D = 0
   ·subst ht
    have ht : twoE A B = 0 := HD.out.symm
    have ht' : twoE B A = 0 := twoE_zero.2 ⟨(twoE_zero.1 ht).2, (twoE_zero.1 ht).1⟩
    have hva := (solE_zero.1 (twoE_zero.1 ht).1)
    have hvb := (solE_zero.1 (twoE_zero.1 ht).2)
    have HR1 := Lib.hid (fun W (h : Below w.heap.size w W) => coversR_any A B aa ba ac bc W (HVA.out.keep h) (HVB.out.keep h) hva.1 hvb.1 hva.2 hvb.2)
    have HR2 := Lib.hid (fun W (h : Below w.heap.size w W) => coversR_any B A ba aa bc ac W (HVB.out.keep h) (HVA.out.keep h) hvb.1 hva.1 hvb.2 hva.2)
    obtain ⟨c1, c2⟩ := cov_same ht
    obtain ⟨c3, c4⟩ := cov_same ht'
    have hE2 : E2 = if E1 ≠ 0 then E1 else covRE B A := by rw [HE2.out, HE1.out]; unfold sameE; rw [c3]
    have hV2 : V2 = (decide (E1 = 0) && (V1 && covRV B A)) := by rw [HV2.out, HE1.out, HV1.out]; unfold sameV; rw [c4]
    have HVE := Lib.hid (covRV_E (A := B) (B := A))
    rw [← c1, ← c2, ← HE1.out, ← HV1.out] at HR1
    generalize covRE B A = E3 at *
    generalize covRV B A = V3 at *
    clear hva hvb c1 c2 c3 c4 ht ht'
    go_upto_region 8 with (go_at_call 36; refine HCT7.out.mono ?_; rintro e w8 ⟨rfl, hb⟩; (have a0 := cell_keep hb a0; have b0 := cell_keep hb b0); have HB8 := Lib.hid (HB7.out.trans (hb.mono HB7.out.size)); clear hb)
    have HR1W := Lib.hid (HR1.out w8 HB8.out)
    clear HR1 HCT7
    go_upto_region 11 with (go_at_call 37; refine HR1W.out.mono ?_; rintro e w10 ⟨rfl, hb⟩; (have a0 := cell_keep hb a0; have b0 := cell_keep hb b0); have HB10 := Lib.hid (HB8.out.trans (hb.mono HB8.out.size)); clear hb)
    have HR2W := Lib.hid (HR2.out w10 HB10.out)
    clear HR2 HR1W
    by_cases he : E1 = 0
    ·subst he
     rw [if_neg (by simp)] at hE2
     simp only [decide_true, Bool.true_and] at hV2
     subst hE2 hV2
     by_cases h3 : E2 = 0
     ·subst h3
      cases V1 with
      | true =>
       cases V3 with
       | true =>
        go_wp2_with (go_at_call 37; refine HR2W.out.mono ?_; rintro e w13 ⟨rfl, hb⟩; have HB13 := Lib.hid (HB10.out.trans (hb.mono HB10.out.size)); clear hb)
        go_ret
        exact ⟨rfl, HB13.out⟩
       | false =>
        go_wp2_with (go_at_call 37; refine HR2W.out.mono ?_; rintro e w13 ⟨rfl, hb⟩; have HB13 := Lib.hid (HB10.out.trans (hb.mono HB10.out.size)); clear hb)
        go_ret
        exact ⟨rfl, HB13.out⟩
      | false =>
       cases V3 with
       | true =>
        go_wp2_with (go_at_call 37; refine HR2W.out.mono ?_; rintro e w13 ⟨rfl, hb⟩; have HB13 := Lib.hid (HB10.out.trans (hb.mono HB10.out.size)); clear hb)
        go_ret
        exact ⟨rfl, HB13.out⟩
       | false =>
        go_wp2_with (go_at_call 37; refine HR2W.out.mono ?_; rintro e w13 ⟨rfl, hb⟩; have HB13 := Lib.hid (HB10.out.trans (hb.mono HB10.out.size)); clear hb)
        go_ret
        exact ⟨rfl, HB13.out⟩
     ·have hv3 : V3 = false := by
        cases V3 with
        | false => rfl
        | true => exact absurd (HVE.out rfl) h3
      subst hv3
      have h3b : (E2 == 0) = false := by simpa using h3
      have h3c : (E2 != 0) = true := by simpa using h3
      cases V1 with
      | true =>
       go_wp2_with (go_at_call 37; refine HR2W.out.mono ?_; rintro e w13 ⟨rfl, hb⟩; have HB13 := Lib.hid (HB10.out.trans (hb.mono HB10.out.size)); clear hb)
       go_ret
       exact ⟨rfl, HB13.out⟩
      | false =>
       go_wp2_with (go_at_call 37; refine HR2W.out.mono ?_; rintro e w13 ⟨rfl, hb⟩; have HB13 := Lib.hid (HB10.out.trans (hb.mono HB10.out.size)); clear hb)
       go_ret
       exact ⟨rfl, HB13.out⟩
    ·rw [if_pos he] at hE2
     have hV2f : V2 = false := by rw [hV2]; simp [he]
     subst hE2 hV2f
     clear hV2
     have heb : (E2 == 0) = false := by simpa using he
     have hec : (E2 != 0) = true := by simpa using he
     cases V1 with
     | true =>
      go_wp2_with (go_at_call 37; refine HR2W.out.mono ?_; rintro e w13 ⟨rfl, hb⟩; have HB13 := Lib.hid (HB10.out.trans (hb.mono HB10.out.size)); clear hb)
      go_ret
      exact ⟨rfl, HB13.out⟩
     | false =>
      go_wp2_with (go_at_call 37; refine HR2W.out.mono ?_; rintro e w13 ⟨rfl, hb⟩; have HB13 := Lib.hid (HB10.out.trans (hb.mono HB10.out.size)); clear hb)
      go_ret
      exact ⟨rfl, HB13.out⟩
   ·have hne : twoE A B ≠ 0 := by rw [← HD.out]; exact ht
    have he1 : E1 = D := by rw [HE1.out, HD.out]; unfold covE; rw [if_pos hne]
    have hv1 : V1 = false := by rw [HV1.out]; unfold covV; simp [hne]
    have he2 : E2 = D := by rw [HE2.out]; unfold sameE; rw [← HE1.out, if_pos (by rw [he1]; exact ht)]; exact he1
    have hv2 : V2 = false := by rw [HV2.out]; unfold sameV; rw [← HE1.out, he1]; simp [ht]
    subst he1 hv1 he2 hv2
    have htb : (E2 != 0) = true := by simpa using ht
    have hte : (E2 == E2) = true := by simp
    clear ht hne
    go_wp2_with (go_at_call 36; refine HCT7.out.mono ?_; rintro e w8 ⟨rfl, hb⟩; have HB8 := Lib.hid (HB7.out.trans (hb.mono HB7.out.size)); clear hb)
    go_ret
    exact ⟨rfl, HB8.out⟩
  ·have h2' : fewB B 3 = false := by simpa using h2
   rw [h2'] at HF2
   clear h2 h2'
   go_wp2_with (first | (have h := HF1.out; clear HF1; go_at_call 32; refine (h _ HB1.out).mono ?_; clear h; rintro e w2 ⟨rfl, hb⟩; (have a0 := cell_keep hb a0; have b0 := cell_keep hb b0); have HB2 := Lib.hid (HB1.out.trans (hb.mono HB1.out.size)); clear hb) | (have h := HF2.out; clear HF2; go_at_call 32; refine (h _ HB2.out).mono ?_; clear h; rintro e w3 ⟨rfl, hb⟩; (have a0 := cell_keep hb a0; have b0 := cell_keep hb b0); have HB3 := Lib.hid (HB2.out.trans (hb.mono HB2.out.size)); clear hb))
   go_ret
   exact ⟨rfl, HB3.out⟩
 ·have h1' : fewB A 3 = false := by simpa using h1
  rw [h1'] at HF1
  clear h1 h1'
  go_wp2_with (have h := HF1.out; clear HF1; go_at_call 32; refine (h _ HB1.out).mono ?_; clear h; rintro e w2 ⟨rfl, hb⟩; (have a0 := cell_keep hb a0; have b0 := cell_keep hb b0); have HB2 := Lib.hid (HB1.out.trans (hb.mono HB1.out.size)); clear hb)
  go_ret
  exact ⟨rfl, HB2.out⟩
set_option maxRecDepth 100000 in
theorem solidCovers_walks : Walks 4 Tryz.f4 := by
 intro H enc W base args ds p hval hA hlt
 rw [Tryz.params4] at hA hval
 obtain ⟨v0, vs0, d0, ds0, p0, q0, hargs, rfl, rfl, ⟨fu0, hf0⟩, r0⟩ := trodAll_cons hA
 obtain ⟨v1, vs1, d1, ds1, p1, q1, rfl, rfl, rfl, ⟨fu1, hf1⟩, r1⟩ := trodAll_cons r0
 obtain ⟨rfl, rfl, rfl⟩ := trodAll_nil r1
 obtain rfl : args = #[v0, v1] := by cases args; simp_all
 obtain ⟨cs0, rfl, -⟩ := okWide_struct Tryz.underlying48 (hval 0 48 v0 rfl rfl)
 obtain ⟨x0, a0, c0, hc0, V0, C0, M0, -⟩ := Solid.open_ hf0
 have hd0 : cs0 = #[.slice a0 x0.cells.length c0] := by
  cases cs0; simpa [Value.cells] using hc0
 subst hd0
 obtain ⟨cs1, rfl, -⟩ := okWide_struct Tryz.underlying48 (hval 1 48 v1 rfl rfl)
 obtain ⟨x1, a1, c1, hc1, V1, C1, M1, -⟩ := Solid.open_ hf1
 have hd1 : cs1 = #[.slice a1 x1.cells.length c1] := by
  cases cs1; simpa [Value.cells] using hc1
 subst hd1
 exact walkSolidCovers x0 a0 c0 x1 a1 c1 W V0 (by unfold maxLen at M0; omega) C0 V1 (by unfold maxLen at M1; omega) C1

set_option maxRecDepth 100000 in
theorem solidCovers_holds : Rows.SolidCoversSaid :=
 law_holds (s := Rows.solidCoversSpec) (c := Rows.solidCoversRow) 4 Tryz.f4 rfl
  (fun H ds h => by match ds, h with | [_, _], _ => rfl) (by kernel_rfl) (by kernel_rfl)
  rfl rfl rfl rfl rfl rfl rfl ⟨rfl, rfl, rfl, rfl, rfl⟩ rfl rfl rfl rfl rfl rfl rfl rfl rfl rfl (fun _ _ => rfl) (by kernel_rfl) Tryz.func4
  solidCovers_closed (of_decide_eq_true (by kernel_rfl)) (by unfold Func.isWrapper; first | (rw [if_pos (by decide +kernel)]; kernel_rfl) | (rw [if_neg (by decide +kernel)]; exact ⟨rfl, rfl⟩)) (by kernel_rfl)
  (fun H enc os => ChangeSpec.witness6 (enc := enc) (C := Tryz.checked) false ⟨#[], #[.agg #[.slice none 0 0], .agg #[.slice none 0 0]], []⟩ 8 (by kernel_rfl) (by kernel_rfl) (by kernel_rfl) (by kernel_rfl))
  solidCovers_walks
end Go.Proofs.YtbhgkadklklmbaaGreat
