/- SolidClashes returns true for every input: the first overlap of two solids is that of the document, and is accepted as a witness. No condition. -/
import Derived.Test.YtbhgkadklklmbaaGreatQW
import Derived.Test.YtbhgkadklklmbaaGreatQM
import Derived.Test.YtbhgkadklklmbaaGreatFactsSolidClashes
set_option linter.unusedVariables false
set_option linter.unusedSimpArgs false
namespace Go.Proofs.YtbhgkadklklmbaaGreat
open Go Go.ChangeShapes Go.WideShapes Go.ChangeAt Go.RowKit Go.Sort Go.Lib

theorem cos_put3 {w : World} {g : Nat} {a : Option Addr} {l : List Co} (h : Cos.V w a l) (hn : ∀ b, blk a = some b → b ≠ g) (A B C : Value) : Cos.V (put3 w g A B C) a l :=
 ((h.grown (grownBy_set (a := ⟨g, 0, none⟩)) fun b e e' => by injection e' with e'; exact hn b e e'.symm).grown (grownBy_set (a := ⟨g, 1, none⟩)) fun b e e' => by injection e' with e'; exact hn b e e'.symm).grown (grownBy_set (a := ⟨g, 2, none⟩)) fun b e e' => by injection e' with e'; exact hn b e e'.symm
/-- What stands behind the first call. -/
def ClCut (W : World) (OI OJ : Int) (OC : List Co) (b : Bool) (E : Int) (u : Nat → Value) (W' : World) : Prop :=
 ∃ (g5 : Nat) (ka : Option Addr) (kc : Nat), u 5 = .pointer (some ⟨g5, 0, none⟩) ∧ u 6 = .bool b ∧ u 7 = .int .i64 E ∧ W'.cell? ⟨g5, 0, none⟩ = some (.int .i64 OI) ∧ W'.cell? ⟨g5, 1, none⟩ = some (.int .i64 OJ) ∧ W'.cell? ⟨g5, 2, none⟩ = some (.slice ka OC.length kc) ∧ Cos.V W' ka OC ∧ Below W.heap.size W W'
set_option maxRecDepth 100000 in
set_option maxHeartbeats 16000000 in
theorem walkSolidClashes (a : Solid) (aa : Option Addr) (ac : Nat) (b : Solid) (ba : Option Addr) (bc : Nat) (w : World) (Va : Cells.V w aa a.cells) (La : a.cells.length ≤ 9223372036854775807) (Ca : a.cells.length ≤ ac) (Vb : Cells.V w ba b.cells) (Lb : b.cells.length ≤ 9223372036854775807) (Cb : b.cells.length ≤ bc) :
    Calls Tryz.prog 14 #[.agg #[.slice aa a.cells.length ac], .agg #[.slice ba b.cells.length bc]] w fun e w' => e = .returned (.bool true) ∧ Below w.heap.size w w' := by
 have hmix : Tryz.prog.follows .mixedOrders = true := by kernel_rfl
 obtain ⟨A, hA⟩ : ∃ cs, cs = a.cells := ⟨_, rfl⟩
 obtain ⟨B, hB⟩ : ∃ cs, cs = b.cells := ⟨_, rfl⟩
 rw [← hA] at Va La Ca ⊢
 rw [← hB] at Vb Lb Cb ⊢
 clear hA hB
 have HVA := Lib.hid Va
 have HVB := Lib.hid Vb
 have HAW := Lib.hid awake_any
 have HF1 := Lib.hid (fun W (h : Below w.heap.size w W) => few_any A aa ac 3 W La (Va.keep h) (cells_len Va))
 have HF2 := Lib.hid (fun W (h : Below w.heap.size w W) => few_any B ba bc 3 W Lb (Vb.keep h) (cells_len Vb))
 clear Va Vb
 go_enter Tryz.func14, Tryz.ntmps14
 go_upto_region 1 with fail
 refine gen_world (fun W => W.cell? ⟨w.heap.size, 0, none⟩ = some (.slice aa A.length ac) ∧ W.cell? ⟨w.heap.size + 1, 0, none⟩ = some (.slice ba B.length bc) ∧ Below w.heap.size w W) ⟨by simp [go_sem], by simp [go_sem], by repeat (first | (with_reducible assumption) | exact Below.refl _ _ | (refine Below.setCell ?_ (by first | omega | (simp; omega) | (simp; done)) _) | (refine Below.alloc ?_ (by first | omega | (simp; omega) | (simp; done)) _) | (refine Below.drew ?_))⟩ ?_
 rintro W ⟨a0, b0, hb⟩
 have HB0 := Lib.hid hb
 clear hb
 obtain ⟨gw, hgw⟩ : ∃ g, g = w.heap.size := ⟨_, rfl⟩
 rw [← hgw] at a0 b0 ⊢
 clear hgw
 go_upto_region 3 with (go_at_call 18; refine (HAW.out _).mono ?_; rintro e w1 ⟨rfl, hb⟩; (have a0 := cell_keep hb a0; have b0 := cell_keep hb b0); have HB1 := Lib.hid (HB0.out.trans (hb.mono HB0.out.size)); clear hb)
 by_cases h1 : fewB A 3 = true
 ·have hla := few_len (by decide) h1
  have HPA := Lib.hid (few_pl h1)
  have HSA := Lib.hid (few_slim h1)
  rw [h1] at HF1
  clear h1
  by_cases h2 : fewB B 3 = true
  ·have hlb := few_len (by decide) h2
   have HPB := Lib.hid (few_pl h2)
   have HSB := Lib.hid (few_slim h2)
   rw [h2] at HF2
   clear h2
   have HCT := Lib.hid (fun W (h : Below w.heap.size w W) => checkTwoR_any A B aa ac ba bc W La (HVA.out.keep h) (fun x hx => by have := HPA.out x hx; omega) Lb (HVB.out.keep h) (fun x hx => by have := HPB.out x hx; omega))
   have HCF := Lib.hid (fun W ua un va vn (h1 : Cells.V W ua A) (h2 : Cells.V W va B) => clashes_any A B ua un va vn W (by omega) h1 (fun x hx => by have := HPA.out x hx; omega) (by omega) h2 (fun x hx => by have := HPB.out x hx; omega))
   have HC1 := Lib.hid (fun W (h : Below w.heap.size w W) => copySolid_any A aa ac W (by omega) (HVA.out.keep h) (fun x hx => by have := HPA.out x hx; omega))
   have HC3 := Lib.hid (fun W (h : Below w.heap.size w W) => copySolid_any B ba bc W (by omega) (HVB.out.keep h) (fun x hx => by have := HPB.out x hx; omega))
   have HCI := Lib.hid (lap_in (A := A) (B := B))
   obtain ⟨O, hO⟩ : ∃ O, O = lapO A B := ⟨_, rfl⟩
   rw [← hO] at HCF HCI
   obtain ⟨OI, hOI⟩ : ∃ x, x = lapI O := ⟨_, rfl⟩
   obtain ⟨OJ, hOJ⟩ : ∃ x, x = lapJ O := ⟨_, rfl⟩
   obtain ⟨OC, hOC⟩ : ∃ x, x = lapC O := ⟨_, rfl⟩
   obtain ⟨OB, hOB⟩ : ∃ x, x = O.isSome := ⟨_, rfl⟩
   obtain ⟨E, hE⟩ : ∃ x, x = twoE A B := ⟨_, rfl⟩
   rw [← hOI, ← hOJ, ← hOC, ← hOB, ← hE] at HCF
   rw [← hOC] at HCI
   rw [← hE] at HCT
   have HO := Lib.hid hO
   have HOI := Lib.hid hOI
   have HOJ := Lib.hid hOJ
   have HOC := Lib.hid hOC
   have HOB := Lib.hid hOB
   have HE := Lib.hid hE
   clear hO hOI hOJ hOC hOB hE
   go_upto_region 5 with (first | (have h := HF1.out; clear HF1; go_at_call 32; refine (h _ HB1.out).mono ?_; clear h; rintro e w2 ⟨rfl, hb⟩; (have a0 := cell_keep hb a0; have b0 := cell_keep hb b0); have HB2 := Lib.hid (HB1.out.trans (hb.mono HB1.out.size)); clear hb) | (have h := HF2.out; clear HF2; go_at_call 32; refine (h _ HB2.out).mono ?_; clear h; rintro e w3 ⟨rfl, hb⟩; (have a0 := cell_keep hb a0; have b0 := cell_keep hb b0); have HB3 := Lib.hid (HB2.out.trans (hb.mono HB2.out.size)); clear hb))
   obtain ⟨W5, hW5⟩ : ∃ W5, W5 = w3 := ⟨_, rfl⟩
   subst hW5
   have HB5 := HB3
   have HA5 := Lib.hid a0
   have HB50 := Lib.hid b0
   refine wp_cut_slots [22, 23, 24, 25, 26, 21, 27, 28, 29, 5, 6, 7] (ClCut W5 OI OJ OC OB E) ?_ ?_
   ·have kx0 : ∀ y : KW (fun W' => Below W5.heap.size W5 W'), (y.w.cell? ⟨gw, 0, none⟩ = some (.slice aa A.length ac) ∧ y.w.cell? ⟨gw + 1, 0, none⟩ = some (.slice ba B.length bc)) := fun y => ⟨cell_keep y.ok a0, cell_keep y.ok b0⟩
    haveI n1 : Nonempty (KW (fun W' => Below W5.heap.size W5 W')) := ⟨⟨W5, Below.refl _ _⟩⟩
    refine wp_region_tree (fun w' => ∃ y : KW (fun W' => Below W5.heap.size W5 W'), w' = y.w) 12 (.take 0 (.take 2 (.two 1 (.two 3 (.two 4 (.take 5 (.take 6 (.take 7 (.take 8 (.one 9 (.one 10 (.take 11 .done))))))) 9 (.one 4 (.take 5 (.take 6 (.take 7 (.take 8 (.one 10 (.take 11 .done)))))))) 9 (.one 3 (.one 4 (.take 5 (.take 6 (.take 7 (.take 8 (.one 10 (.take 11 .done))))))))) 9 (.one 1 (.one 3 (.one 4 (.take 5 (.take 6 (.take 7 (.take 8 (.one 10 (.take 11 .done)))))))))))) hmix (by kernel_rfl) (KW.mk' (Below.refl _ _).drew) ?_
    have HC := Lib.hid (show Below W5.heap.size W5 W5.drew from (Below.refl _ _).drew)
    generalize W5.drew = wz at *
    (refine wpTree_take ?_; simp only [nthOp]; (first | go_big_quiet_step (fail) | quiet_step (fail)); refine wpQuiet_nil ?_)
    (refine wpTree_take ?_; simp only [nthOp]; (first | go_big_quiet_step (fail) | quiet_step (fail)); refine wpQuiet_nil ?_)
    refine wpTree_two ?_ ?_
    ·skip
     simp only [nthOp]
     go_wp2_with (go_at_call 34; refine (HC1.out _ (HB5.out.trans (HC.out.mono HB5.out.size))).mono ?_; rintro e wt1 ⟨ua, un, rfl, hcv, -, hb⟩; have HXA := Lib.hid hcv; have HC := Lib.hid (HC.out.trans (hb.mono HC.out.size)); clear hcv hb)
     refine One_mk (KW.mk' HC.out) ?_
     refine wpTree_two ?_ ?_
     ·skip
      simp only [nthOp]
      go_wp2_with (go_at_call 34; refine (HC3.out _ (HB5.out.trans (HC.out.mono HB5.out.size))).mono ?_; rintro e wt2 ⟨va, vn, rfl, hcv, -, hb⟩; have HXA := Lib.hid (HXA.out.keep hb); have HXB := Lib.hid hcv; have HC := Lib.hid (HC.out.trans (hb.mono HC.out.size)); clear hcv hb)
      refine One_mk (KW.mk' HC.out) ?_
      refine wpTree_two ?_ ?_
      ·skip
       simp only [nthOp]
       have HQ := Lib.hid (HCF.out wt2 ua un va vn HXA.out HXB.out)
       go_wp2_with (go_at_call 64; refine HQ.out.mono ?_; rintro e wt3 ⟨ka, kc, rfl, ho, hb⟩; have HXA := Lib.hid (HXA.out.keep hb); have HXB := Lib.hid (HXB.out.keep hb); have HKV := Lib.hid (ownCoV (fun c hc => Co.in_.wf (HCI.out c hc)) ho); have HKU := Lib.hid (fun b e => own_blk_lt ho b e); have HC := Lib.hid (HC.out.trans (hb.mono HC.out.size)); clear ho hb)
       refine One_mk (KW.mk' HC.out) ?_
       clear HQ
       (refine wpTree_take ?_; simp only [nthOp]; (first | go_big_quiet_step (fail) | quiet_step (fail)); refine wpQuiet_nil ?_)
       (refine wpTree_take ?_; simp only [nthOp]; (first | go_big_quiet_step (fail) | quiet_step (fail)); refine wpQuiet_nil ?_)
       (refine wpTree_take ?_; simp only [nthOp]; (first | go_big_quiet_step (fail) | quiet_step (fail)); refine wpQuiet_nil ?_)
       (refine wpTree_take ?_; simp only [nthOp]; (first | go_big_quiet_step (fail) | quiet_step (fail)); refine wpQuiet_nil ?_)
       refine wpTree_one ?_
       simp only [nthOp]
       go_wp2_with fail
       have hal := (Below.refl wt3.heap.size wt3).alloc (Nat.le_refl _) (.cells #[.int .i64 0, .int .i64 0, .slice none 0 0] 87)
       have HXA := Lib.hid (HXA.out.keep hal)
       have HXB := Lib.hid (HXB.out.keep hal)
       have HKV := Lib.hid (HKV.out.keep hal)
       have HZ := Lib.hid (show R3 wt3.heap.size (wt3.alloc (.cells #[.int .i64 0, .int .i64 0, .slice none 0 0] 87)) from ⟨⟨.int .i64 0, by simp [go_sem], by simp [go_sem]⟩, ⟨.int .i64 0, by simp [go_sem], by simp [go_sem]⟩, .slice none 0 0, by simp [go_sem], by simp [go_sem]⟩)
       have HKB := Lib.hid (show ∀ b, blk ka = some b → b ≠ wt3.heap.size from fun b e => by have h1 := (HKU.out b e).2; omega)
       have HGZ := Lib.hid HC.out.size
       have HC := Lib.hid (HC.out.alloc HC.out.size (.cells #[.int .i64 0, .int .i64 0, .slice none 0 0] 87))
       refine One_mk (KW.mk' HC.out) ?_
       clear hal
       generalize (wt3.alloc (.cells #[.int .i64 0, .int .i64 0, .slice none 0 0] 87)) = wt4 at *
       generalize wt3.heap.size = gz at *
       refine wpTree_one ?_
       simp only [nthOp]
       obtain ⟨⟨q0, e0, f0⟩, ⟨q1, e1, f1⟩, q2, e2, f2⟩ := HZ.out
       go_wp2_with fail
       have HK3 := Lib.hid (HZ.out.got (.int .i64 OI) (.int .i64 OJ) (.slice ka OC.length kc))
       have HC := Lib.hid (put3_below HC.out HGZ.out (.int .i64 OI) (.int .i64 OJ) (.slice ka OC.length kc))
       have HKV := Lib.hid (cos_put3 HKV.out HKB.out (.int .i64 OI) (.int .i64 OJ) (.slice ka OC.length kc))
       unfold put3 at HK3 HC HKV
       clear e0 f0 e1 f1 e2 f2
       refine One_mk (KW.mk' HC.out) ?_
       generalize (((wt4.setCell ⟨gz, 0, none⟩ (.int .i64 OI)).setCell ⟨gz, 1, none⟩ (.int .i64 OJ)).setCell ⟨gz, 2, none⟩ (.slice ka OC.length kc)) = wt5 at *
       (refine wpTree_take ?_; simp only [nthOp]; (first | go_big_quiet_step (fail) | quiet_step (fail)); refine wpQuiet_nil ?_)
       refine wpTree_done ?_
       simp only [List.drop_succ_cons, List.drop_zero]
       go_wp2_with fail
       refine NP_mk ?_
       exact cut_meet (by simp [forget]) ⟨gz, ka, kc, rfl, rfl, rfl, HK3.out.1, HK3.out.2.1, HK3.out.2.2, HKV.out, HC.out⟩
      ·skip
       simp only [nthOp]
       go_wp2_with fail
       have hal := (Below.refl wt2.heap.size wt2).alloc (Nat.le_refl _) (.cells #[.int .i64 0, .int .i64 0, .slice none 0 0] 87)
       have HXA := Lib.hid (HXA.out.keep hal)
       have HXB := Lib.hid (HXB.out.keep hal)
       have HZ := Lib.hid (show R3 wt2.heap.size (wt2.alloc (.cells #[.int .i64 0, .int .i64 0, .slice none 0 0] 87)) from ⟨⟨.int .i64 0, by simp [go_sem], by simp [go_sem]⟩, ⟨.int .i64 0, by simp [go_sem], by simp [go_sem]⟩, .slice none 0 0, by simp [go_sem], by simp [go_sem]⟩)
       have HGZ := Lib.hid HC.out.size
       have HC := Lib.hid (HC.out.alloc HC.out.size (.cells #[.int .i64 0, .int .i64 0, .slice none 0 0] 87))
       refine One_mk (KW.mk' HC.out) ?_
       clear hal
       generalize (wt2.alloc (.cells #[.int .i64 0, .int .i64 0, .slice none 0 0] 87)) = wt6 at *
       generalize wt2.heap.size = gz at *
       refine wpTree_one ?_
       simp only [nthOp]
       have HQ := Lib.hid (HCF.out wt6 ua un va vn HXA.out HXB.out)
       have HZL := Lib.hid (show gz < wt6.heap.size from block_lt_of_cell HZ.out.a.choose_spec.1)
       go_wp2_with (go_at_call 64; refine HQ.out.mono ?_; rintro e wt7 ⟨ka, kc, rfl, ho, hb⟩; have HXA := Lib.hid (HXA.out.keep hb); have HXB := Lib.hid (HXB.out.keep hb); have HZ := Lib.hid (HZ.out.keep hb); have HKV := Lib.hid (ownCoV (fun c hc => Co.in_.wf (HCI.out c hc)) ho); have HKU := Lib.hid (fun b e => own_blk_lt ho b e); have HC := Lib.hid (HC.out.trans (hb.mono HC.out.size)); clear ho hb)
       refine One_mk (KW.mk' HC.out) ?_
       clear HQ
       have HKB := Lib.hid (show ∀ b, blk ka = some b → b ≠ gz from fun b e => by have h1 := (HKU.out b e).1; have h2 := HZL.out; omega)
       (refine wpTree_take ?_; simp only [nthOp]; (first | go_big_quiet_step (fail) | quiet_step (fail)); refine wpQuiet_nil ?_)
       (refine wpTree_take ?_; simp only [nthOp]; (first | go_big_quiet_step (fail) | quiet_step (fail)); refine wpQuiet_nil ?_)
       (refine wpTree_take ?_; simp only [nthOp]; (first | go_big_quiet_step (fail) | quiet_step (fail)); refine wpQuiet_nil ?_)
       (refine wpTree_take ?_; simp only [nthOp]; (first | go_big_quiet_step (fail) | quiet_step (fail)); refine wpQuiet_nil ?_)
       refine wpTree_one ?_
       simp only [nthOp]
       obtain ⟨⟨q0, e0, f0⟩, ⟨q1, e1, f1⟩, q2, e2, f2⟩ := HZ.out
       go_wp2_with fail
       have HK3 := Lib.hid (HZ.out.got (.int .i64 OI) (.int .i64 OJ) (.slice ka OC.length kc))
       have HC := Lib.hid (put3_below HC.out HGZ.out (.int .i64 OI) (.int .i64 OJ) (.slice ka OC.length kc))
       have HKV := Lib.hid (cos_put3 HKV.out HKB.out (.int .i64 OI) (.int .i64 OJ) (.slice ka OC.length kc))
       unfold put3 at HK3 HC HKV
       clear e0 f0 e1 f1 e2 f2
       refine One_mk (KW.mk' HC.out) ?_
       generalize (((wt7.setCell ⟨gz, 0, none⟩ (.int .i64 OI)).setCell ⟨gz, 1, none⟩ (.int .i64 OJ)).setCell ⟨gz, 2, none⟩ (.slice ka OC.length kc)) = wt8 at *
       (refine wpTree_take ?_; simp only [nthOp]; (first | go_big_quiet_step (fail) | quiet_step (fail)); refine wpQuiet_nil ?_)
       refine wpTree_done ?_
       simp only [List.drop_succ_cons, List.drop_zero]
       go_wp2_with fail
       refine NP_mk ?_
       exact cut_meet (by simp [forget]) ⟨gz, ka, kc, rfl, rfl, rfl, HK3.out.1, HK3.out.2.1, HK3.out.2.2, HKV.out, HC.out⟩
     ·skip
      simp only [nthOp]
      go_wp2_with fail
      have hal := (Below.refl wt1.heap.size wt1).alloc (Nat.le_refl _) (.cells #[.int .i64 0, .int .i64 0, .slice none 0 0] 87)
      have HXA := Lib.hid (HXA.out.keep hal)
      have HZ := Lib.hid (show R3 wt1.heap.size (wt1.alloc (.cells #[.int .i64 0, .int .i64 0, .slice none 0 0] 87)) from ⟨⟨.int .i64 0, by simp [go_sem], by simp [go_sem]⟩, ⟨.int .i64 0, by simp [go_sem], by simp [go_sem]⟩, .slice none 0 0, by simp [go_sem], by simp [go_sem]⟩)
      have HGZ := Lib.hid HC.out.size
      have HC := Lib.hid (HC.out.alloc HC.out.size (.cells #[.int .i64 0, .int .i64 0, .slice none 0 0] 87))
      refine One_mk (KW.mk' HC.out) ?_
      clear hal
      generalize (wt1.alloc (.cells #[.int .i64 0, .int .i64 0, .slice none 0 0] 87)) = wt9 at *
      generalize wt1.heap.size = gz at *
      refine wpTree_one ?_
      simp only [nthOp]
      go_wp2_with (go_at_call 34; refine (HC3.out _ (HB5.out.trans (HC.out.mono HB5.out.size))).mono ?_; rintro e wt10 ⟨va, vn, rfl, hcv, -, hb⟩; have HXA := Lib.hid (HXA.out.keep hb); have HZ := Lib.hid (HZ.out.keep hb); have HXB := Lib.hid hcv; have HC := Lib.hid (HC.out.trans (hb.mono HC.out.size)); clear hcv hb)
      refine One_mk (KW.mk' HC.out) ?_
      refine wpTree_one ?_
      simp only [nthOp]
      have HQ := Lib.hid (HCF.out wt10 ua un va vn HXA.out HXB.out)
      have HZL := Lib.hid (show gz < wt10.heap.size from block_lt_of_cell HZ.out.a.choose_spec.1)
      go_wp2_with (go_at_call 64; refine HQ.out.mono ?_; rintro e wt11 ⟨ka, kc, rfl, ho, hb⟩; have HXA := Lib.hid (HXA.out.keep hb); have HXB := Lib.hid (HXB.out.keep hb); have HZ := Lib.hid (HZ.out.keep hb); have HKV := Lib.hid (ownCoV (fun c hc => Co.in_.wf (HCI.out c hc)) ho); have HKU := Lib.hid (fun b e => own_blk_lt ho b e); have HC := Lib.hid (HC.out.trans (hb.mono HC.out.size)); clear ho hb)
      refine One_mk (KW.mk' HC.out) ?_
      clear HQ
      have HKB := Lib.hid (show ∀ b, blk ka = some b → b ≠ gz from fun b e => by have h1 := (HKU.out b e).1; have h2 := HZL.out; omega)
      (refine wpTree_take ?_; simp only [nthOp]; (first | go_big_quiet_step (fail) | quiet_step (fail)); refine wpQuiet_nil ?_)
      (refine wpTree_take ?_; simp only [nthOp]; (first | go_big_quiet_step (fail) | quiet_step (fail)); refine wpQuiet_nil ?_)
      (refine wpTree_take ?_; simp only [nthOp]; (first | go_big_quiet_step (fail) | quiet_step (fail)); refine wpQuiet_nil ?_)
      (refine wpTree_take ?_; simp only [nthOp]; (first | go_big_quiet_step (fail) | quiet_step (fail)); refine wpQuiet_nil ?_)
      refine wpTree_one ?_
      simp only [nthOp]
      obtain ⟨⟨q0, e0, f0⟩, ⟨q1, e1, f1⟩, q2, e2, f2⟩ := HZ.out
      go_wp2_with fail
      have HK3 := Lib.hid (HZ.out.got (.int .i64 OI) (.int .i64 OJ) (.slice ka OC.length kc))
      have HC := Lib.hid (put3_below HC.out HGZ.out (.int .i64 OI) (.int .i64 OJ) (.slice ka OC.length kc))
      have HKV := Lib.hid (cos_put3 HKV.out HKB.out (.int .i64 OI) (.int .i64 OJ) (.slice ka OC.length kc))
      unfold put3 at HK3 HC HKV
      clear e0 f0 e1 f1 e2 f2
      refine One_mk (KW.mk' HC.out) ?_
      generalize (((wt11.setCell ⟨gz, 0, none⟩ (.int .i64 OI)).setCell ⟨gz, 1, none⟩ (.int .i64 OJ)).setCell ⟨gz, 2, none⟩ (.slice ka OC.length kc)) = wt12 at *
      (refine wpTree_take ?_; simp only [nthOp]; (first | go_big_quiet_step (fail) | quiet_step (fail)); refine wpQuiet_nil ?_)
      refine wpTree_done ?_
      simp only [List.drop_succ_cons, List.drop_zero]
      go_wp2_with fail
      refine NP_mk ?_
      exact cut_meet (by simp [forget]) ⟨gz, ka, kc, rfl, rfl, rfl, HK3.out.1, HK3.out.2.1, HK3.out.2.2, HKV.out, HC.out⟩
    ·skip
     simp only [nthOp]
     go_wp2_with fail
     have hal := (Below.refl wz.heap.size wz).alloc (Nat.le_refl _) (.cells #[.int .i64 0, .int .i64 0, .slice none 0 0] 87)
     have HZ := Lib.hid (show R3 wz.heap.size (wz.alloc (.cells #[.int .i64 0, .int .i64 0, .slice none 0 0] 87)) from ⟨⟨.int .i64 0, by simp [go_sem], by simp [go_sem]⟩, ⟨.int .i64 0, by simp [go_sem], by simp [go_sem]⟩, .slice none 0 0, by simp [go_sem], by simp [go_sem]⟩)
     have HGZ := Lib.hid HC.out.size
     have HC := Lib.hid (HC.out.alloc HC.out.size (.cells #[.int .i64 0, .int .i64 0, .slice none 0 0] 87))
     refine One_mk (KW.mk' HC.out) ?_
     clear hal
     generalize (wz.alloc (.cells #[.int .i64 0, .int .i64 0, .slice none 0 0] 87)) = wt13 at *
     generalize wz.heap.size = gz at *
     refine wpTree_one ?_
     simp only [nthOp]
     go_wp2_with (go_at_call 34; refine (HC1.out _ (HB5.out.trans (HC.out.mono HB5.out.size))).mono ?_; rintro e wt14 ⟨ua, un, rfl, hcv, -, hb⟩; have HZ := Lib.hid (HZ.out.keep hb); have HXA := Lib.hid hcv; have HC := Lib.hid (HC.out.trans (hb.mono HC.out.size)); clear hcv hb)
     refine One_mk (KW.mk' HC.out) ?_
     refine wpTree_one ?_
     simp only [nthOp]
     go_wp2_with (go_at_call 34; refine (HC3.out _ (HB5.out.trans (HC.out.mono HB5.out.size))).mono ?_; rintro e wt15 ⟨va, vn, rfl, hcv, -, hb⟩; have HXA := Lib.hid (HXA.out.keep hb); have HZ := Lib.hid (HZ.out.keep hb); have HXB := Lib.hid hcv; have HC := Lib.hid (HC.out.trans (hb.mono HC.out.size)); clear hcv hb)
     refine One_mk (KW.mk' HC.out) ?_
     refine wpTree_one ?_
     simp only [nthOp]
     have HQ := Lib.hid (HCF.out wt15 ua un va vn HXA.out HXB.out)
     have HZL := Lib.hid (show gz < wt15.heap.size from block_lt_of_cell HZ.out.a.choose_spec.1)
     go_wp2_with (go_at_call 64; refine HQ.out.mono ?_; rintro e wt16 ⟨ka, kc, rfl, ho, hb⟩; have HXA := Lib.hid (HXA.out.keep hb); have HXB := Lib.hid (HXB.out.keep hb); have HZ := Lib.hid (HZ.out.keep hb); have HKV := Lib.hid (ownCoV (fun c hc => Co.in_.wf (HCI.out c hc)) ho); have HKU := Lib.hid (fun b e => own_blk_lt ho b e); have HC := Lib.hid (HC.out.trans (hb.mono HC.out.size)); clear ho hb)
     refine One_mk (KW.mk' HC.out) ?_
     clear HQ
     have HKB := Lib.hid (show ∀ b, blk ka = some b → b ≠ gz from fun b e => by have h1 := (HKU.out b e).1; have h2 := HZL.out; omega)
     (refine wpTree_take ?_; simp only [nthOp]; (first | go_big_quiet_step (fail) | quiet_step (fail)); refine wpQuiet_nil ?_)
     (refine wpTree_take ?_; simp only [nthOp]; (first | go_big_quiet_step (fail) | quiet_step (fail)); refine wpQuiet_nil ?_)
     (refine wpTree_take ?_; simp only [nthOp]; (first | go_big_quiet_step (fail) | quiet_step (fail)); refine wpQuiet_nil ?_)
     (refine wpTree_take ?_; simp only [nthOp]; (first | go_big_quiet_step (fail) | quiet_step (fail)); refine wpQuiet_nil ?_)
     refine wpTree_one ?_
     simp only [nthOp]
     obtain ⟨⟨q0, e0, f0⟩, ⟨q1, e1, f1⟩, q2, e2, f2⟩ := HZ.out
     go_wp2_with fail
     have HK3 := Lib.hid (HZ.out.got (.int .i64 OI) (.int .i64 OJ) (.slice ka OC.length kc))
     have HC := Lib.hid (put3_below HC.out HGZ.out (.int .i64 OI) (.int .i64 OJ) (.slice ka OC.length kc))
     have HKV := Lib.hid (cos_put3 HKV.out HKB.out (.int .i64 OI) (.int .i64 OJ) (.slice ka OC.length kc))
     unfold put3 at HK3 HC HKV
     clear e0 f0 e1 f1 e2 f2
     refine One_mk (KW.mk' HC.out) ?_
     generalize (((wt16.setCell ⟨gz, 0, none⟩ (.int .i64 OI)).setCell ⟨gz, 1, none⟩ (.int .i64 OJ)).setCell ⟨gz, 2, none⟩ (.slice ka OC.length kc)) = wt17 at *
     (refine wpTree_take ?_; simp only [nthOp]; (first | go_big_quiet_step (fail) | quiet_step (fail)); refine wpQuiet_nil ?_)
     refine wpTree_done ?_
     simp only [List.drop_succ_cons, List.drop_zero]
     go_wp2_with fail
     refine NP_mk ?_
     exact cut_meet (by simp [forget]) ⟨gz, ka, kc, rfl, rfl, rfl, HK3.out.1, HK3.out.2.1, HK3.out.2.2, HKV.out, HC.out⟩
   rintro u W6 ⟨g5, ka, kc, hu5, hu6, hu7, o0, o1, o2, hkv, hb⟩
   simp only [forget, List.foldl_cons, List.foldl_nil, hu5, hu6, hu7, List.setIfInBounds_toArray, List.set_cons_succ, List.set_cons_zero]
   (have a0 := cell_keep hb a0; have b0 := cell_keep hb b0)
   have HKV := Lib.hid hkv
   have HB6 := Lib.hid (HB5.out.trans (hb.mono HB5.out.size))
   clear hb hu5 hu6 hu7 hkv
   have HCT6 := Lib.hid (HCT.out W6 HB6.out)
   clear HCT HC1 HC3 HCF
   by_cases ht : E = 0
   ·subst ht
    have ht : twoE A B = 0 := HE.out.symm
    have HGA := Lib.hid (fun x hx => valid_good ((solE_zero.1 (twoE_zero.1 ht).1).2 x hx))
    have HGB := Lib.hid (fun x hx => valid_good ((solE_zero.1 (twoE_zero.1 ht).2).2 x hx))
    have HA8 := Lib.hid (fun x hx => valid_8 (HSA.out x hx) ((solE_zero.1 (twoE_zero.1 ht).1).2 x hx))
    have HB8 := Lib.hid (fun x hx => valid_8 (HSB.out x hx) ((solE_zero.1 (twoE_zero.1 ht).2).2 x hx))
    have HRC := Lib.hid (fun W (h : Below w.heap.size w W) => clashesR_any A B aa ba ac bc W (HVA.out.keep h) (HVB.out.keep h) (by omega) (by omega) HGA.out HGB.out O (HO.out.trans (lapO_R ht)))
    rw [← HOI.out, ← HOJ.out, ← HOC.out, ← HOB.out] at HRC
    have HOK := Lib.hid (fun i k cs (h : O = some (i, k, cs)) => overlap_ok ht HA8.out HB8.out (HO.out.symm.trans h))
    have HCL : Hid (OC.length ≤ 560) := Lib.hid (by
     rw [HOC.out]
     cases hOO : O with
     | none => simp [lapC]
     | some o => obtain ⟨i, k, cs⟩ := o; exact (HOK.out i k cs hOO).2)
    clear ht
    go_upto_region 7 with (go_at_call 36; refine HCT6.out.mono ?_; rintro e w7 ⟨rfl, hb⟩; (have a0 := cell_keep hb a0; have b0 := cell_keep hb b0); (have o0 := cell_keep hb o0; have o1 := cell_keep hb o1; have o2 := cell_keep hb o2); have HKV := Lib.hid (HKV.out.keep hb); have HB7 := Lib.hid (HB6.out.trans (hb.mono HB6.out.size)); clear hb)
    have HRC7 := Lib.hid (HRC.out w7 HB7.out)
    clear HRC HCT6
    go_upto_region 10 with (go_at_call 65; refine HRC7.out.mono ?_; rintro e w9 ⟨ja, jc, rfl, ho, hb⟩; (have a0 := cell_keep hb a0; have b0 := cell_keep hb b0); (have o0 := cell_keep hb o0; have o1 := cell_keep hb o1; have o2 := cell_keep hb o2); have HKV := Lib.hid (HKV.out.keep hb); have HJV := Lib.hid (ownCoV (fun c hc => Co.in_.wf (HCI.out c hc)) ho); have HB9 := Lib.hid (HB7.out.trans (hb.mono HB7.out.size)); clear hb ho)
    refine gen_world (fun W => Below w9.heap.size w9 W ∧ W.cell? ⟨w9.heap.size, 0, none⟩ = some (.int .i64 OI) ∧ W.cell? ⟨w9.heap.size, 1, none⟩ = some (.int .i64 OJ) ∧ W.cell? ⟨w9.heap.size, 2, none⟩ = some (.slice ja OC.length jc)) ⟨(Below.refl _ _).alloc (Nat.le_refl _) _, by simp [go_sem], by simp [go_sem], by simp [go_sem]⟩ ?_
    rintro W10 ⟨hb, p0, p1, p2⟩
    (have a0 := cell_keep hb a0; have b0 := cell_keep hb b0)
    (have o0 := cell_keep hb o0; have o1 := cell_keep hb o1; have o2 := cell_keep hb o2)
    have HKV := Lib.hid (HKV.out.keep hb)
    have HJV := Lib.hid (HJV.out.keep hb)
    have HB10 := Lib.hid (HB9.out.trans (hb.mono HB9.out.size))
    obtain ⟨g9, hg9⟩ : ∃ g, g = w9.heap.size := ⟨_, rfl⟩
    rw [← hg9] at p0 p1 p2 ⊢
    clear hb hg9 HRC7
    have HCS := Lib.hid (fun W (h : Below W10.heap.size W10 W) => corners_same OC ka kc OC ja jc W (by have := HCL.out; omega) (by have := HCL.out; omega) (HKV.out.keep h) (HJV.out.keep h))
    rw [show decide (OC = OC) = true from decide_eq_true rfl] at HCS
    cases O with
    | none =>
     have hob : OB = false := HOB.out
     subst hob
     go_wp2_with (go_at_call 29; refine (HCS.out _ (Below.refl _ _)).mono ?_; rintro e w11 ⟨rfl, hb⟩; have HB11 := Lib.hid (HB10.out.trans (hb.mono HB10.out.size)); clear hb)
     go_ret
     exact ⟨rfl, HB11.out⟩
    | some o =>
     obtain ⟨i, k, cs⟩ := o
     have hob : OB = true := HOB.out
     subst hob
     have hoi : OI = (i : Int) := HOI.out
     have hoj : OJ = (k : Int) := HOJ.out
     have hoc : OC = cs := HOC.out
     subst hoc
     obtain ⟨hov, hcl⟩ := HOK.out i k OC rfl
     have HPO := Lib.hid (fun W (h : Below W10.heap.size W10 W) => checkOverlap_any A B aa ba ac bc ⟨OI, OJ, OC⟩ ka kc W (HVA.out.keep (HB10.out.trans (h.mono HB10.out.size))) (HVB.out.keep (HB10.out.trans (h.mono HB10.out.size))) (HKV.out.keep h) (by omega) (by omega) (by simp only; omega) (fun x hx => by have := HPA.out x hx; omega) (fun x hx => by have := HPB.out x hx; omega))
     rw [hoi, hoj, hov, ← hoi, ← hoj] at HPO
     simp only at HPO
     clear hov hcl hoi hoj
     go_wp2_with (first
      | (go_at_call 29; refine (HCS.out _ (Below.refl _ _)).mono ?_; rintro e w11 ⟨rfl, hb⟩; (have a0 := cell_keep hb a0; have b0 := cell_keep hb b0); (have o0 := cell_keep hb o0; have o1 := cell_keep hb o1; have o2 := cell_keep hb o2); have HPO11 := Lib.hid (HPO.out _ hb); have HB11 := Lib.hid (HB10.out.trans (hb.mono HB10.out.size)); clear hb)
      | (go_at_call 55; refine HPO11.out.mono ?_; rintro e w12 ⟨rfl, hb⟩; have HB12 := Lib.hid (HB11.out.trans (hb.mono HB11.out.size)); clear hb))
     go_ret
     exact ⟨rfl, HB12.out⟩
   ·have hO : lapO A B = none := by unfold lapO; rw [if_pos (by rw [← HE.out]; exact ht)]
    have hOn : O = none := HO.out.trans hO
    subst hOn
    have hoi : OI = 0 := HOI.out
    have hoj : OJ = 0 := HOJ.out
    have hoc : OC = [] := HOC.out
    have hob : OB = false := HOB.out
    subst hoi hoj hoc hob
    have htb : (E != 0) = true := by simpa using ht
    have hte : (E == E) = true := by simp
    clear ht hO
    go_wp2_with (go_at_call 36; refine HCT6.out.mono ?_; rintro e w7 ⟨rfl, hb⟩; (have a0 := cell_keep hb a0; have b0 := cell_keep hb b0); (have o0 := cell_keep hb o0; have o1 := cell_keep hb o1; have o2 := cell_keep hb o2); have HB7 := Lib.hid (HB6.out.trans (hb.mono HB6.out.size)); clear hb)
    go_ret
    exact ⟨rfl, HB7.out⟩
  ·have h2' : fewB B 3 = false := by simpa using h2
   rw [h2'] at HF2
   clear h2 h2'
   go_wp2_with (first | (have h := HF1.out; clear HF1; go_at_call 32; refine (h _ HB1.out).mono ?_; clear h; rintro e w2 ⟨rfl, hb⟩; (have a0 := cell_keep hb a0; have b0 := cell_keep hb b0); have HB2 := Lib.hid (HB1.out.trans (hb.mono HB1.out.size)); clear hb) | (have h := HF2.out; clear HF2; go_at_call 32; refine (h _ HB2.out).mono ?_; clear h; rintro e w3 ⟨rfl, hb⟩; (have a0 := cell_keep hb a0; have b0 := cell_keep hb b0); have HB3 := Lib.hid (HB2.out.trans (hb.mono HB2.out.size)); clear hb))
   go_ret
   exact ⟨rfl, HB3.out⟩
 ·have h1' : fewB A 3 = false := by simpa using h1
  rw [h1'] at HF1
  clear h1 h1'
  go_wp2_with (have h := HF1.out; clear HF1; go_at_call 32; refine (h _ HB1.out).mono ?_; clear h; rintro e w2 ⟨rfl, hb⟩; (have a0 := cell_keep hb a0; have b0 := cell_keep hb b0); have HB2 := Lib.hid (HB1.out.trans (hb.mono HB1.out.size)); clear hb)
  go_ret
  exact ⟨rfl, HB2.out⟩
set_option maxRecDepth 100000 in
theorem solidClashes_walks : Walks 14 Tryz.f14 := by
 intro H enc W base args ds p hval hA hlt
 rw [Tryz.params14] at hA hval
 obtain ⟨v0, vs0, d0, ds0, p0, q0, hargs, rfl, rfl, ⟨fu0, hf0⟩, r0⟩ := trodAll_cons hA
 obtain ⟨v1, vs1, d1, ds1, p1, q1, rfl, rfl, rfl, ⟨fu1, hf1⟩, r1⟩ := trodAll_cons r0
 obtain ⟨rfl, rfl, rfl⟩ := trodAll_nil r1
 obtain rfl : args = #[v0, v1] := by cases args; simp_all
 obtain ⟨cs0, rfl, -⟩ := okWide_struct Tryz.underlying48 (hval 0 48 v0 rfl rfl)
 obtain ⟨x0, a0, c0, hc0, V0, C0, M0, -⟩ := Solid.open_ hf0
 have hd0 : cs0 = #[.slice a0 x0.cells.length c0] := by
  cases cs0; simpa [Value.cells] using hc0
 subst hd0
 obtain ⟨cs1, rfl, -⟩ := okWide_struct Tryz.underlying48 (hval 1 48 v1 rfl rfl)
 obtain ⟨x1, a1, c1, hc1, V1, C1, M1, -⟩ := Solid.open_ hf1
 have hd1 : cs1 = #[.slice a1 x1.cells.length c1] := by
  cases cs1; simpa [Value.cells] using hc1
 subst hd1
 exact walkSolidClashes x0 a0 c0 x1 a1 c1 W V0 (by unfold maxLen at M0; omega) C0 V1 (by unfold maxLen at M1; omega) C1

set_option maxRecDepth 100000 in
theorem solidClashes_holds : Rows.SolidClashesSaid :=
 law_holds (s := Rows.solidClashesSpec) (c := Rows.solidClashesRow) 14 Tryz.f14 rfl
  (fun H ds h => by match ds, h with | [_, _], _ => rfl) (by kernel_rfl) (by kernel_rfl)
  rfl rfl rfl rfl rfl rfl rfl ⟨rfl, rfl, rfl, rfl, rfl⟩ rfl rfl rfl rfl rfl rfl rfl rfl rfl rfl (fun _ _ => rfl) (by kernel_rfl) Tryz.func14
  solidClashes_closed (of_decide_eq_true (by kernel_rfl)) (by unfold Func.isWrapper; first | (rw [if_pos (by decide +kernel)]; kernel_rfl) | (rw [if_neg (by decide +kernel)]; exact ⟨rfl, rfl⟩)) (by kernel_rfl)
  (fun H enc os => ChangeSpec.witness6 (enc := enc) (C := Tryz.checked) false ⟨#[], #[.agg #[.slice none 0 0], .agg #[.slice none 0 0]], []⟩ 8 (by kernel_rfl) (by kernel_rfl) (by kernel_rfl) (by kernel_rfl))
  solidClashes_walks
end Go.Proofs.YtbhgkadklklmbaaGreat
