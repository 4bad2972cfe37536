/- SolidCells returns true for every input: whether planes and cells are valid, normal forms and corners are those of the document. No condition. -/
import Derived.Test.YtbhgkadklklmbaaGreatQX
import Derived.Test.YtbhgkadklklmbaaGreatQV
import Derived.Test.YtbhgkadklklmbaaGreatQO
import Derived.Test.YtbhgkadklklmbaaGreatQS
import Derived.Test.YtbhgkadklklmbaaGreatQP
import Derived.Test.YtbhgkadklklmbaaGreatQM
import Derived.Test.YtbhgkadklklmbaaGreatFactsSolidCells
set_option linter.unusedVariables false
set_option linter.unusedSimpArgs false
namespace Go.Proofs.YtbhgkadklklmbaaGreat
open Go Go.ChangeShapes Go.WideShapes Go.ChangeAt Go.RowKit Go.Sort Go.Lib

set_option maxRecDepth 100000 in
set_option maxHeartbeats 16000000 in
theorem walkSolidCells (c : Cell) (ca : Option Addr) (cc : Nat) (p : Pl) (w : World) (Vc : Pls.V w ca c.planes) (Lc : c.planes.length ≤ 9223372036854775807) (Cc : c.planes.length ≤ cc) (Wp : p.wf) :
    Calls Tryz.prog 3 #[.agg #[.slice ca c.planes.length cc], .agg #[.int .i64 p.a, .int .i64 p.b, .int .i64 p.c, .int .i64 p.d]] w fun e w' => e = .returned (.bool true) ∧ Below w.heap.size w w' := by
 have hmix : Tryz.prog.follows .mixedOrders = true := by kernel_rfl
 obtain ⟨ps, hps⟩ : ∃ ps, ps = c.planes := ⟨_, rfl⟩
 rw [← hps] at Vc Lc Cc ⊢
 clear hps
 have HV := Lib.hid Vc
 have HCC := Lib.hid Cc
 have HAW := Lib.hid awake_any
 have HSL := Lib.hid (fun W => slim_any ca ps.length cc Lc W)
 have HP1 := Lib.hid (fun W => checkPlane_any p W)
 have HP2 := Lib.hid (fun W => checkPlaneR_any p W)
 clear Vc Cc
 generalize chkP p = CP at *
 go_enter Tryz.func3, Tryz.ntmps3
 go_upto_region 1 with fail
 refine gen_world (fun W => W.cell? ⟨w.heap.size, 0, none⟩ = some (.slice ca ps.length cc) ∧ (W.cell? ⟨w.heap.size + 1, 0, none⟩ = some (.int .i64 p.a) ∧ W.cell? ⟨w.heap.size + 1, 1, none⟩ = some (.int .i64 p.b) ∧ W.cell? ⟨w.heap.size + 1, 2, none⟩ = some (.int .i64 p.c) ∧ W.cell? ⟨w.heap.size + 1, 3, none⟩ = some (.int .i64 p.d)) ∧ Below w.heap.size w W) ⟨by simp [go_sem], ⟨by simp [go_sem], by simp [go_sem], by simp [go_sem], by simp [go_sem]⟩, by repeat (first | (with_reducible assumption) | exact Below.refl _ _ | (refine Below.setCell ?_ (by first | omega | (simp; omega) | (simp; done)) _) | (refine Below.alloc ?_ (by first | omega | (simp; omega) | (simp; done)) _) | (refine Below.drew ?_))⟩ ?_
 rintro W ⟨b0, ⟨p0, p1, p2, p3⟩, hb⟩
 have HB0 := Lib.hid hb
 clear hb
 obtain ⟨gw, hgw⟩ : ∃ g, g = w.heap.size := ⟨_, rfl⟩
 rw [← hgw] at b0 p0 p1 p2 p3 ⊢
 clear hgw
 go_upto_region 3 with (go_at_call 18; refine (HAW.out _).mono ?_; rintro e w1 ⟨rfl, hb⟩; (have b0 := cell_keep hb b0; have p0 := cell_keep hb p0; have p1 := cell_keep hb p1; have p2 := cell_keep hb p2; have p3 := cell_keep hb p3); have HB1 := Lib.hid (HB0.out.trans (hb.mono HB0.out.size)); clear hb)
 by_cases hsl : slimB ps.length = true
 ·have hl20 : ps.length ≤ 20 := by unfold slimB at hsl; simp only [Bool.or_eq_true, Bool.and_eq_true, decide_eq_true_eq] at hsl; omega
  rw [hsl] at HSL
  clear hsl
  have HCE1 := Lib.hid (fun W (h : Below w.heap.size w W) => cell_any ps ca cc W (HV.out.keep h) (by omega))
  have HCE2 := HCE1
  have HCE3 := HCE1
  have HNO := Lib.hid (fun W qa qc (h : Pls.V W qa ps) (hc : ps.length ≤ qc) => normal2_any ps qa qc W (by omega) h hc)
  have HCO := Lib.hid (fun W qa qc (h : Pls.V W qa ps) (hc : ps.length ≤ qc) => corners_any ps qa qc W (by omega) h hc)
  have HCR := Lib.hid (fun W (h : Below w.heap.size w W) => checkCellR_any ps ca cc W (by omega) (HV.out.keep h))
  have HCK := Lib.hid (fun W qa qc (h : Pls.V W qa ps) (hc : ps.length ≤ qc) => checkCell_any ps qa qc W (by omega) h hc)
  have HWF := Lib.hid (pls_wf HV.out)
  obtain ⟨N, hN⟩ : ∃ N, N = norE ps := ⟨_, rfl⟩
  obtain ⟨C, hC⟩ : ∃ C, C = cornE ps := ⟨_, rfl⟩
  obtain ⟨E, hE⟩ : ∃ E, E = readE ps := ⟨_, rfl⟩
  rw [← hN, ← hE] at HNO
  rw [← hC, ← hE] at HCO
  rw [← hE] at HCR HCK
  have HN := Lib.hid hN
  have HC0 := Lib.hid hC
  have HE := Lib.hid hE
  clear hN hC hE
  go_upto_region 6 with (first
   | (have h := HSL.out; clear HSL; go_at_call 19; refine (h _).mono ?_; clear h; rintro e w2 ⟨rfl, hb⟩; (have b0 := cell_keep hb b0; have p0 := cell_keep hb p0; have p1 := cell_keep hb p1; have p2 := cell_keep hb p2; have p3 := cell_keep hb p3); have HB2 := Lib.hid (HB1.out.trans (hb.mono HB1.out.size)); clear hb)
   | (have h := HCE1.out; clear HCE1; go_at_call 21; refine (h _ HB2.out).mono ?_; clear h; rintro e w3 ⟨qa, qc, rfl, ho, hb⟩; (have b0 := cell_keep hb b0; have p0 := cell_keep hb p0; have p1 := cell_keep hb p1; have p2 := cell_keep hb p2; have p3 := cell_keep hb p3); have HB3 := Lib.hid (HB2.out.trans (hb.mono HB2.out.size)); have HQ3 := Lib.hid (And.intro (ownPlV HWF.out ho) (own_len_le ho).2); clear hb ho)
   | (have h := HNO.out; clear HNO; go_at_call 20; refine (h _ _ _ HQ3.out.1 HQ3.out.2).mono ?_; clear h; rintro e w4 ⟨na, nc, rfl, ho, hb⟩; (have b0 := cell_keep hb b0; have p0 := cell_keep hb p0; have p1 := cell_keep hb p1; have p2 := cell_keep hb p2; have p3 := cell_keep hb p3); have HB4 := Lib.hid (HB3.out.trans (hb.mono HB3.out.size)); have HO4 := Lib.hid ho; clear hb ho))
  refine gen_world (fun W5 => W5.cell? ⟨w4.heap.size, 0, none⟩ = some (.slice na N.length nc) ∧ Below w4.heap.size w4 W5) ⟨by simp [go_sem], by repeat (first | (with_reducible assumption) | exact Below.refl _ _ | (refine Below.setCell ?_ (by first | omega | (simp; omega) | (simp; done)) _) | (refine Below.alloc ?_ (by first | omega | (simp; omega) | (simp; done)) _) | (refine Below.drew ?_))⟩ ?_
  rintro W5 ⟨d0, hb⟩
  (have b0 := cell_keep hb b0; have p0 := cell_keep hb p0; have p1 := cell_keep hb p1; have p2 := cell_keep hb p2; have p3 := cell_keep hb p3)
  obtain ⟨g5, hg5⟩ : ∃ g, g = w4.heap.size := ⟨_, rfl⟩
  rw [← hg5] at d0 ⊢
  have HB5 := Lib.hid (HB4.out.trans (hb.mono HB4.out.size))
  have HO5 := Lib.hid (own_keep HO4.out hb)
  clear hg5 hb
  go_upto_region 8 with (first
   | (have h := HCE2.out; clear HCE2; go_at_call 21; refine (h _ HB5.out).mono ?_; clear h; rintro e w6 ⟨ra, rc, rfl, ho, hb⟩; (have b0 := cell_keep hb b0; have p0 := cell_keep hb p0; have p1 := cell_keep hb p1; have p2 := cell_keep hb p2; have p3 := cell_keep hb p3); have d0 := cell_keep hb d0; have HB6 := Lib.hid (HB5.out.trans (hb.mono HB5.out.size)); have HQ6 := Lib.hid (And.intro (ownPlV HWF.out ho) (own_len_le ho).2); have HO6 := Lib.hid (own_keep HO5.out hb); clear hb ho)
   | (have h := HCO.out; clear HCO; go_at_call 22; refine (h _ _ _ HQ6.out.1 HQ6.out.2).mono ?_; clear h; rintro e w7 ⟨la, lc, rfl, ho, hb⟩; (have b0 := cell_keep hb b0; have p0 := cell_keep hb p0; have p1 := cell_keep hb p1; have p2 := cell_keep hb p2; have p3 := cell_keep hb p3); have d0 := cell_keep hb d0; have HB7 := Lib.hid (HB6.out.trans (hb.mono HB6.out.size)); have HL7 := Lib.hid ho; have HO7 := Lib.hid (own_keep HO6.out hb); clear hb ho)
   | (have h := HCR.out; clear HCR; go_at_call 23; refine (h _ HB7.out).mono ?_; clear h; rintro e w8 ⟨rfl, hb⟩; (have b0 := cell_keep hb b0; have p0 := cell_keep hb p0; have p1 := cell_keep hb p1; have p2 := cell_keep hb p2; have p3 := cell_keep hb p3); have d0 := cell_keep hb d0; have HB8 := Lib.hid (HB7.out.trans (hb.mono HB7.out.size)); have HL8 := Lib.hid (own_keep HL7.out hb); have HO8 := Lib.hid (own_keep HO7.out hb); clear hb))
  have kx0 : ∀ y : KW (fun W' => Below w8.heap.size w8 W'), y.w.cell? ⟨gw, 0, none⟩ = some (.slice ca ps.length cc) ∧ (y.w.cell? ⟨gw + 1, 0, none⟩ = some (.int .i64 p.a) ∧ y.w.cell? ⟨gw + 1, 1, none⟩ = some (.int .i64 p.b) ∧ y.w.cell? ⟨gw + 1, 2, none⟩ = some (.int .i64 p.c) ∧ y.w.cell? ⟨gw + 1, 3, none⟩ = some (.int .i64 p.d)) := fun y => ⟨cell_keep y.ok b0, cell_keep y.ok p0, cell_keep y.ok p1, cell_keep y.ok p2, cell_keep y.ok p3⟩
  haveI n1 : Nonempty (KW (fun W' => Below w8.heap.size w8 W')) := ⟨⟨w8, Below.refl _ _⟩⟩
  refine wp_region_tree (fun w' => ∃ y : KW (fun W' => Below w8.heap.size w8 W'), w' = y.w) 10 (.take 0 (.take 2 (.one 1 (.one 3 (.take 4 (.take 5 (.take 6 (.take 9 (.one 7 (.one 8 .done)))))))))) hmix (by kernel_rfl) (KW.mk' (Below.refl _ _).drew) ?_
  have HC := Lib.hid (show Below w8.heap.size w8 w8.drew from (Below.refl _ _).drew)
  generalize w8.drew = wz at *
  (refine wpTree_take ?_; simp only [nthOp]; (first | go_big_quiet_step (fail) | quiet_step (fail)); refine wpQuiet_nil ?_)
  (refine wpTree_take ?_; simp only [nthOp]; (first | go_big_quiet_step (fail) | quiet_step (fail)); refine wpQuiet_nil ?_)
  refine wpTree_one ?_
  simp only [nthOp]
  go_wp2_with (go_at_call 24; refine (HP1.out _).mono ?_; rintro e wa ⟨rfl, hb⟩; have HC := Lib.hid (HC.out.trans (hb.mono HC.out.size)); clear hb)
  refine One_mk (KW.mk' HC.out) ?_
  refine wpTree_one ?_
  simp only [nthOp]
  go_wp2_with (go_at_call 25; refine (HP2.out _).mono ?_; rintro e wb ⟨rfl, hb⟩; have HC := Lib.hid (HC.out.trans (hb.mono HC.out.size)); clear hb)
  refine One_mk (KW.mk' HC.out) ?_
  (refine wpTree_take ?_; simp only [nthOp]; (first | go_big_quiet_step (fail) | quiet_step (fail)); refine wpQuiet_nil ?_)
  (refine wpTree_take ?_; simp only [nthOp]; (first | go_big_quiet_step (fail) | quiet_step (fail)); refine wpQuiet_nil ?_)
  (refine wpTree_take ?_; simp only [nthOp]; (first | go_big_quiet_step (fail) | quiet_step (fail)); refine wpQuiet_nil ?_)
  (refine wpTree_take ?_; simp only [nthOp]; (first | go_big_quiet_step (fail) | quiet_step (fail)); refine wpQuiet_nil ?_)
  refine wpTree_one ?_
  simp only [nthOp]
  go_wp2_with (have h := HCE3.out; clear HCE3; go_at_call 21; refine (h _ (HB8.out.trans (HC.out.mono HB8.out.size))).mono ?_; clear h; rintro e wc ⟨ta, tc, rfl, ho, hb⟩; have HQC := Lib.hid (And.intro (ownPlV HWF.out ho) (own_len_le ho).2); have HC := Lib.hid (HC.out.trans (hb.mono HC.out.size)); clear hb ho)
  refine One_mk (KW.mk' HC.out) ?_
  refine wpTree_one ?_
  simp only [nthOp]
  go_wp2_with (go_at_call 26; refine (HCK.out _ _ _ HQC.out.1 HQC.out.2).mono ?_; rintro e wd ⟨rfl, hb⟩; have HC := Lib.hid (HC.out.trans (hb.mono HC.out.size)); clear hb)
  refine One_mk (KW.mk' HC.out) ?_
  refine wpTree_done ?_
  simp only [List.drop_succ_cons, List.drop_zero]
  go_wp2_with fail
  refine NP_mk ?_
  have b0 := cell_keep HC.out b0
  have d0 := cell_keep HC.out d0
  have HO9 := Lib.hid (own_keep HO8.out HC.out)
  have HL9 := Lib.hid (own_keep HL8.out HC.out)
  have HB9 := Lib.hid (HB8.out.trans (HC.out.mono HB8.out.size))
  clear kx0 n1 HC p0 p1 p2 p3
  by_cases h0 : E = 0
  ·subst h0
   have hr : readE ps = 0 := HE.out.symm
   have hNf : N = nf ps := by rw [HN.out]; unfold norE; rw [if_pos hr]
   have hCf : C = corn ps := by rw [HC0.out]; unfold cornE; rw [if_pos hr]
   have HNF := Lib.hid hNf
   have HCF := Lib.hid hCf
   have hgd := good_of (readE_zero.1 hr).2.1
   have HGD := Lib.hid hgd
   have HPT := Lib.hid (fun W (h : Below wd.heap.size wd W) => pointsR_any ps ca cc W hgd (by omega) (HV.out.keep (HB9.out.trans (h.mono HB9.out.size))))
   have HNR := Lib.hid (fun W (h : Below wd.heap.size wd W) => normalR2_any ps ca cc W hgd (by omega) (HV.out.keep (HB9.out.trans (h.mono HB9.out.size))))
   have HRI := Lib.hid (show ∀ c ∈ refP ps, c.in_ from fun c hc => corn_in hgd c (mem_refP.1 hc))
   have HRL := Lib.hid (show (refP ps).length ≤ 500000 by rw [(perm_refP ps).length_eq]; have := corn_len (l := ps) (n := 20) hl20; omega)
   have HSR := Lib.hid (fun W ra rc (h : Cos.V W ra (refP ps)) => sortedR_any (refP ps) ra rc W h HRI.out HRL.out)
   rw [refP_sorted, ← hCf] at HSR
   rw [← hNf] at HNR
   have HNL := Lib.hid (show N.length ≤ 20 by rw [hNf]; exact Nat.le_trans (nor_len _ _) hl20)
   have HCL := Lib.hid (show C.length ≤ 500000 by rw [hCf]; have := corn_len (l := ps) (n := 20) hl20; omega)
   have HNI := Lib.hid (show ∀ q ∈ N, q.wf from fun q hq => by rw [hNf] at hq; exact Pl.in_.wf ((hgd.nor _) q hq).1)
   have HCI := Lib.hid (show ∀ c ∈ C, c.wf from fun c hc => by rw [hCf] at hc; exact Co.in_.wf (corn_in hgd c hc))
   have HNV := Lib.hid (ownPlV HNI.out HO9.out)
   have HCV := Lib.hid (ownCoV HCI.out HL9.out)
   generalize refP ps = RP at *
   clear hr hNf hCf hgd
   go_upto_region 12 with fail
   have kx0 : ∀ y : KW (fun W' => Below wd.heap.size wd W'), y.w.cell? ⟨gw, 0, none⟩ = some (.slice ca ps.length cc) ∧ y.w.cell? ⟨g5, 0, none⟩ = some (.slice na N.length nc) := fun y => ⟨cell_keep y.ok b0, cell_keep y.ok d0⟩
   haveI n1 : Nonempty (KW (fun W' => Below wd.heap.size wd W')) := ⟨⟨wd, Below.refl _ _⟩⟩
   refine wp_region_tree (fun w' => ∃ y : KW (fun W' => Below wd.heap.size wd W'), w' = y.w) 20 (.take 0 (.take 1 (.take 2 (.take 3 (.take 4 (.take 5 (.take 6 (.take 7 (.take 8 (.take 9 (.one 10 (.take 11 (.one 12 (.take 13 (.take 14 (.take 15 (.take 16 (.take 17 (.one 18 (.one 19 .done)))))))))))))))))))) hmix (by kernel_rfl) (KW.mk' (Below.refl _ _).drew) ?_
   have HC := Lib.hid (show Below wd.heap.size wd wd.drew from (Below.refl _ _).drew)
   generalize wd.drew = wz2 at *
   (refine wpTree_take ?_; simp only [nthOp]; (first | go_big_quiet_step (fail) | quiet_step (fail)); refine wpQuiet_nil ?_)
   (refine wpTree_take ?_; simp only [nthOp]; (first | go_big_quiet_step (fail) | quiet_step (fail)); refine wpQuiet_nil ?_)
   (refine wpTree_take ?_; simp only [nthOp]; (first | go_big_quiet_step (fail) | quiet_step (fail)); refine wpQuiet_nil ?_)
   (refine wpTree_take ?_; simp only [nthOp]; (first | go_big_quiet_step (fail) | quiet_step (fail)); refine wpQuiet_nil ?_)
   (refine wpTree_take ?_; simp only [nthOp]; (first | go_big_quiet_step (fail) | quiet_step (fail)); refine wpQuiet_nil ?_)
   (refine wpTree_take ?_; simp only [nthOp]; (first | go_big_quiet_step (fail) | quiet_step (fail)); refine wpQuiet_nil ?_)
   (refine wpTree_take ?_; simp only [nthOp]; (first | go_big_quiet_step (fail) | quiet_step (fail)); refine wpQuiet_nil ?_)
   (refine wpTree_take ?_; simp only [nthOp]; (first | go_big_quiet_step (fail) | quiet_step (fail)); refine wpQuiet_nil ?_)
   (refine wpTree_take ?_; simp only [nthOp]; (first | go_big_quiet_step (fail) | quiet_step (fail)); refine wpQuiet_nil ?_)
   (refine wpTree_take ?_; simp only [nthOp]; (first | go_big_quiet_step (fail) | quiet_step (fail)); refine wpQuiet_nil ?_)
   refine wpTree_one ?_
   simp only [nthOp]
   go_wp2_with (go_at_call 28; refine (HNR.out _ HC.out).mono ?_; rintro e we ⟨xa, xc, rfl, ho, hb⟩; have HXV := Lib.hid (ownPlV HNI.out ho); have HC := Lib.hid (HC.out.trans (hb.mono HC.out.size)); clear hb ho)
   refine One_mk (KW.mk' HC.out) ?_
   (refine wpTree_take ?_; simp only [nthOp]; (first | go_big_quiet_step (fail) | quiet_step (fail)); refine wpQuiet_nil ?_)
   refine wpTree_one ?_
   simp only [nthOp]
   have HSM := Lib.hid (sameCell_any N na nc N xa xc we (by have := HNL.out; omega) (by have := HNL.out; omega) (HNV.out.keep HC.out) HXV.out)
   rw [show decide (N = N) = true from decide_eq_true rfl] at HSM
   go_wp2_with (go_at_call 27; refine HSM.out.mono ?_; rintro e wf ⟨rfl, hb⟩; have HC := Lib.hid (HC.out.trans (hb.mono HC.out.size)); clear hb)
   refine One_mk (KW.mk' HC.out) ?_
   (refine wpTree_take ?_; simp only [nthOp]; (first | go_big_quiet_step (fail) | quiet_step (fail)); refine wpQuiet_nil ?_)
   (refine wpTree_take ?_; simp only [nthOp]; (first | go_big_quiet_step (fail) | quiet_step (fail)); refine wpQuiet_nil ?_)
   (refine wpTree_take ?_; simp only [nthOp]; (first | go_big_quiet_step (fail) | quiet_step (fail)); refine wpQuiet_nil ?_)
   (refine wpTree_take ?_; simp only [nthOp]; (first | go_big_quiet_step (fail) | quiet_step (fail)); refine wpQuiet_nil ?_)
   (refine wpTree_take ?_; simp only [nthOp]; (first | go_big_quiet_step (fail) | quiet_step (fail)); refine wpQuiet_nil ?_)
   refine wpTree_one ?_
   simp only [nthOp]
   go_wp2_with (go_at_call 31; refine (HPT.out _ HC.out).mono ?_; rintro e wg ⟨ya, yc, rfl, ho, hb⟩; have HYV := Lib.hid (ownCoV (fun c hc => Co.in_.wf (HRI.out c hc)) ho); have HC := Lib.hid (HC.out.trans (hb.mono HC.out.size)); clear hb ho)
   refine One_mk (KW.mk' HC.out) ?_
   refine wpTree_one ?_
   simp only [nthOp]
   go_wp2_with (go_at_call 30; refine (HSR.out _ _ _ HYV.out).mono ?_; rintro e wh ⟨za, zc, rfl, ho, hb⟩; have HZV := Lib.hid (ownCoV HCI.out ho); have HC := Lib.hid (HC.out.trans (hb.mono HC.out.size)); clear hb ho)
   refine One_mk (KW.mk' HC.out) ?_
   refine wpTree_done ?_
   simp only [List.drop_succ_cons, List.drop_zero]
   have HCS := Lib.hid (corners_same C la lc C za zc wh (by have := HCL.out; omega) (by have := HCL.out; omega) (HCV.out.keep HC.out) HZV.out)
   rw [show decide (C = C) = true from decide_eq_true rfl] at HCS
   go_wp2_with (go_at_call 29; refine HCS.out.mono ?_; rintro e wi ⟨rfl, hb⟩; have HC := Lib.hid (HC.out.trans (hb.mono HC.out.size)); clear hb)
   refine NP_mk ?_
   go_wp2_with fail
   go_ret
   exact ⟨rfl, HB9.out.trans (HC.out.mono HB9.out.size)⟩
  ·have hr : readE ps ≠ 0 := by rw [← HE.out]; exact h0
   have hNf : N = [] := by rw [HN.out]; unfold norE; rw [if_neg hr]
   have hCf : C = [] := by rw [HC0.out]; unfold cornE; rw [if_neg hr]
   subst hNf hCf
   have h1 : (E != 0) = true := by simpa using h0
   clear h0 hr
   go_wp2_with fail
   go_ret
   exact ⟨rfl, HB9.out⟩
 ·have hsl' : slimB ps.length = false := by simpa using hsl
  rw [hsl'] at HSL
  clear hsl hsl'
  go_wp2_with (have h := HSL.out; clear HSL; go_at_call 19; refine (h _).mono ?_; clear h; rintro e w2 ⟨rfl, hb⟩; have HB2 := Lib.hid (HB1.out.trans (hb.mono HB1.out.size)); clear hb)
  go_ret
  exact ⟨rfl, HB2.out⟩
set_option maxRecDepth 100000 in
theorem solidCells_walks : Walks 3 Tryz.f3 := by
 intro H enc W base args ds p hval hA hlt
 rw [Tryz.params3] at hA hval
 obtain ⟨v0, vs0, d0, ds0, p0, q0, hargs, rfl, rfl, ⟨fu0, hf0⟩, r0⟩ := trodAll_cons hA
 obtain ⟨v1, vs1, d1, ds1, p1, q1, rfl, rfl, rfl, ⟨fu1, hf1⟩, r1⟩ := trodAll_cons r0
 obtain ⟨rfl, rfl, rfl⟩ := trodAll_nil r1
 obtain rfl : args = #[v0, v1] := by cases args; simp_all
 obtain ⟨cs0, rfl, -⟩ := okWide_struct Tryz.underlying24 (hval 0 24 v0 rfl rfl)
 obtain ⟨x0, a0, c0, hc0, V0, C0, M0, -⟩ := Cell.open_ hf0
 have hd0 : cs0 = #[.slice a0 x0.planes.length c0] := by
  cases cs0; simpa [Value.cells] using hc0
 subst hd0
 obtain ⟨cs1, rfl, -⟩ := okWide_struct Tryz.underlying26 (hval 1 26 v1 rfl rfl)
 obtain ⟨x1, hc1, W1⟩ := Pl.open_ hf1
 have hd1 : cs1 = #[.int .i64 x1.a, .int .i64 x1.b, .int .i64 x1.c, .int .i64 x1.d] := by
  cases cs1; simpa [Value.cells] using hc1
 subst hd1
 exact walkSolidCells x0 a0 c0 x1 W V0 (by unfold maxLen at M0; omega) C0 W1

set_option maxRecDepth 100000 in
theorem solidCells_holds : Rows.SolidCellsSaid :=
 law_holds (s := Rows.solidCellsSpec) (c := Rows.solidCellsRow) 3 Tryz.f3 rfl
  (fun H ds h => by match ds, h with | [_, _], _ => rfl) (by kernel_rfl) (by kernel_rfl)
  rfl rfl rfl rfl rfl rfl rfl ⟨rfl, rfl, rfl, rfl, rfl⟩ rfl rfl rfl rfl rfl rfl rfl rfl rfl rfl (fun _ _ => rfl) (by kernel_rfl) Tryz.func3
  solidCells_closed (of_decide_eq_true (by kernel_rfl)) (by unfold Func.isWrapper; first | (rw [if_pos (by decide +kernel)]; kernel_rfl) | (rw [if_neg (by decide +kernel)]; exact ⟨rfl, rfl⟩)) (by kernel_rfl)
  (fun H enc os => ChangeSpec.witness6 (enc := enc) (C := Tryz.checked) false ⟨#[], #[.agg #[.slice none 0 0], .agg #[.int .i64 0, .int .i64 0, .int .i64 0, .int .i64 0]], []⟩ 8 (by kernel_rfl) (by kernel_rfl) (by kernel_rfl) (by kernel_rfl))
  solidCells_walks
end Go.Proofs.YtbhgkadklklmbaaGreat
