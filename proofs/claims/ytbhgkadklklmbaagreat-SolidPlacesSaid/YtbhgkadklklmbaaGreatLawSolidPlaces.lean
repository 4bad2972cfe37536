/- SolidPlaces returns true for every input: sides and places are those of the document. No condition. -/
import Derived.Test.YtbhgkadklklmbaaGreatQP
import Derived.Test.YtbhgkadklklmbaaGreatQM
import Derived.Test.YtbhgkadklklmbaaGreatFactsSolidPlaces
set_option linter.unusedVariables false
set_option linter.unusedSimpArgs false
namespace Go.Proofs.YtbhgkadklklmbaaGreat
open Go Go.ChangeShapes Go.WideShapes Go.ChangeAt Go.RowKit Go.Sort Go.Lib

theorem cells_len {w : World} {a : Option Addr} {l : List Cell} (h : Cells.V w a l) : ∀ x ∈ l, x.planes.length ≤ 9223372036854775807 := fun x hx => by
  obtain ⟨b, off, rfl, hz⟩ := h (List.ne_nil_of_mem hx)
  obtain ⟨k, hk, rfl⟩ := List.mem_iff_getElem.1 hx
  obtain ⟨pa, pc, -, -, h1, h2, -⟩ := hz k _ (List.getElem?_eq_getElem hk)
  simp only [maxLen] at h2
  omega
theorem few_len {cs : List Cell} {m : Int} (hm : m ≤ 4) (h : fewB cs m = true) : cs.length ≤ 105 := by
  unfold fewB at h
  simp only [Bool.and_eq_true, Bool.not_eq_true', Bool.or_eq_false_iff, decide_eq_false_iff_not] at h
  omega
theorem few_pl {cs : List Cell} {m : Int} (h : fewB cs m = true) : ∀ x ∈ cs, x.planes.length ≤ 20 := fun x hx => by
  unfold fewB at h
  rw [Bool.and_eq_true] at h
  have := List.all_eq_true.1 h.2 x hx
  unfold slimB at this
  simp only [Bool.or_eq_true, Bool.and_eq_true, decide_eq_true_eq] at this
  omega
theorem solE_good {cells : List Cell} (h : solE cells = 0) : ∀ x ∈ cells, Good x.planes := fun x hx => by
  have h1 : chkCs cells = 0 := by unfold solE at h; split at h <;> first | exact h | omega
  exact good_of (readE_zero.1 (chkCs_all.1 h1 x hx)).2.1
set_option maxRecDepth 100000 in
set_option maxHeartbeats 16000000 in
theorem walkSolidPlaces (s : Solid) (sa : Option Addr) (sc : Nat) (p : Pl) (c : Co) (w : World) (Vs : Cells.V w sa s.cells) (Ls : s.cells.length ≤ 9223372036854775807) (Cs : s.cells.length ≤ sc) (Wp : p.wf) (Wc : c.wf) :
    Calls Tryz.prog 9 #[.agg #[.slice sa s.cells.length sc], .agg #[.int .i64 p.a, .int .i64 p.b, .int .i64 p.c, .int .i64 p.d], .agg #[.int .i64 c.x, .int .i64 c.y, .int .i64 c.z, .int .i64 c.n]] w fun e w' => e = .returned (.bool true) ∧ Below w.heap.size w w' := by
  have hmix : Tryz.prog.follows .mixedOrders = true := by kernel_rfl
  obtain ⟨cells, hcs⟩ : ∃ cs, cs = s.cells := ⟨_, rfl⟩
  rw [← hcs] at Vs Ls Cs ⊢
  clear hcs
  have HV := Lib.hid Vs
  have HAW := Lib.hid awake_any
  have HFW := Lib.hid (fun W (h : Below w.heap.size w W) => few_any cells sa sc 4 W Ls (Vs.keep h) (cells_len Vs))
  clear Vs
  go_enter Tryz.func9, Tryz.ntmps9
  go_upto_region 1 with fail
  refine gen_world (fun W => W.cell? ⟨w.heap.size, 0, none⟩ = some (.slice sa cells.length sc) ∧ PlBx W (w.heap.size + 1) p ∧ CoBx W (w.heap.size + 2) c ∧ Below w.heap.size w W) ⟨by simp [go_sem], ⟨by simp [go_sem], by simp [go_sem], by simp [go_sem], by simp [go_sem]⟩, ⟨by simp [go_sem], by simp [go_sem], by simp [go_sem], by simp [go_sem]⟩, by repeat (first | (with_reducible assumption) | exact Below.refl _ _ | (refine Below.setCell ?_ (by first | omega | (simp; omega) | (simp; done)) _) | (refine Below.alloc ?_ (by first | omega | (simp; omega) | (simp; done)) _) | (refine Below.drew ?_))⟩ ?_
  rintro W ⟨b0, ⟨p0, p1, p2, p3⟩, ⟨q0, q1, q2, q3⟩, hb⟩
  have HB0 := Lib.hid hb
  clear hb
  obtain ⟨gw, hgw⟩ : ∃ g, g = w.heap.size := ⟨_, rfl⟩
  have HGW := Lib.hid hgw
  rw [← hgw] at b0 p0 p1 p2 p3 q0 q1 q2 q3 ⊢
  clear hgw
  go_upto_region 3 with (go_at_call 18; refine (HAW.out _).mono ?_; rintro e w1 ⟨rfl, hb⟩; (have b0 := cell_keep hb b0; have p0 := cell_keep hb p0; have p1 := cell_keep hb p1; have p2 := cell_keep hb p2; have p3 := cell_keep hb p3; have q0 := cell_keep hb q0; have q1 := cell_keep hb q1; have q2 := cell_keep hb q2; have q3 := cell_keep hb q3); have HB1 := Lib.hid (HB0.out.trans (hb.mono HB0.out.size)); clear hb)
  by_cases hfw : fewB cells 4 = true
  · have hl := few_len (by decide) hfw
    have HP := Lib.hid (few_pl hfw)
    rw [hfw] at HFW
    clear hfw
    have HSD := Lib.hid (fun W => sideP_any p c W)
    have HCPL := Lib.hid (fun W => checkPlaneR_any p W)
    have HCE := Lib.hid (fun W => cornerErr_any c W)
    have HCE2 := Lib.hid (fun W => cornerErr_any c W)
    have HSR := Lib.hid (fun (h1 : chkP p = 0) (h2 : coE c = 0) W => sideR_any p c (good_of (l := [p]) (chkPs_zero.2 (by simpa using h1)) p (by simp)).1 (coE_in h2) W)
    have HCP := Lib.hid (fun W (h : Below w.heap.size w W) => copySolid_any cells sa sc W (by omega) (HV.out.keep h) (fun x hx => by have := HP.out x hx; omega))
    have HCK := Lib.hid (fun W (h : Below w.heap.size w W) => checkR_any cells sa sc W Ls (HV.out.keep h) (fun x hx => by have := HP.out x hx; omega))
    have HWH := Lib.hid (fun a n W (h : Cells.V W a cells) => where_any cells a n c W Ls h (fun x hx => by have := HP.out x hx; omega))
    have HWR := Lib.hid (fun (h1 : solE cells = 0) (h2 : coE c = 0) W (h : Below w.heap.size w W) => whereR_any cells sa sc c W Ls (HV.out.keep h) (fun x hx => by have := HP.out x hx; omega) (fun x hx q hq => (solE_good h1 x hx q hq).1) (coE_in h2))
    by_cases hp : chkP p = 0
    · rw [hp] at HCPL
      by_cases hc : coE c = 0
      · have HKC := Lib.hid hc
        have HSR2 := Lib.hid (HSR.out hp hc)
        have e1 : sidE p c = 0 := by unfold sidE; rw [if_neg (by simpa using hp)]; exact hc
        have e2 : sidV p c = sd p c := by unfold sidV; rw [if_pos e1]
        rw [e2, e1] at HSD
        rw [hc] at HCE HCE2
        clear hp hc e1 e2
        generalize sd p c = D at *
        go_upto_region 11 with (first | (have h := HFW.out; clear HFW; go_at_call 32; refine (h _ HB1.out).mono ?_; clear h; rintro e w2 ⟨rfl, hb⟩; (have b0 := cell_keep hb b0; have p0 := cell_keep hb p0; have p1 := cell_keep hb p1; have p2 := cell_keep hb p2; have p3 := cell_keep hb p3; have q0 := cell_keep hb q0; have q1 := cell_keep hb q1; have q2 := cell_keep hb q2; have q3 := cell_keep hb q3); have HB2 := Lib.hid (HB1.out.trans (hb.mono HB1.out.size)); clear hb) | (have h := HSD.out; clear HSD; go_at_call 38; refine (h _).mono ?_; clear h; rintro e w3 ⟨rfl, hb⟩; (have b0 := cell_keep hb b0; have p0 := cell_keep hb p0; have p1 := cell_keep hb p1; have p2 := cell_keep hb p2; have p3 := cell_keep hb p3; have q0 := cell_keep hb q0; have q1 := cell_keep hb q1; have q2 := cell_keep hb q2; have q3 := cell_keep hb q3); have HB3 := Lib.hid (HB2.out.trans (hb.mono HB2.out.size)); clear hb) | (have h := HCPL.out; clear HCPL; go_at_call 25; refine (h _).mono ?_; clear h; rintro e w4 ⟨rfl, hb⟩; (have b0 := cell_keep hb b0; have p0 := cell_keep hb p0; have p1 := cell_keep hb p1; have p2 := cell_keep hb p2; have p3 := cell_keep hb p3; have q0 := cell_keep hb q0; have q1 := cell_keep hb q1; have q2 := cell_keep hb q2; have q3 := cell_keep hb q3); have HB4 := Lib.hid (HB3.out.trans (hb.mono HB3.out.size)); clear hb) | (have h := HCE.out; clear HCE; go_at_call 50; refine (h _).mono ?_; clear h; rintro e w5 ⟨rfl, hb⟩; (have b0 := cell_keep hb b0; have p0 := cell_keep hb p0; have p1 := cell_keep hb p1; have p2 := cell_keep hb p2; have p3 := cell_keep hb p3; have q0 := cell_keep hb q0; have q1 := cell_keep hb q1; have q2 := cell_keep hb q2; have q3 := cell_keep hb q3); have HB5 := Lib.hid (HB4.out.trans (hb.mono HB4.out.size)); clear hb) | (have h := HSR2.out; clear HSR2; go_at_call 51; refine (h _).mono ?_; clear h; rintro e w6 ⟨rfl, hb⟩; (have b0 := cell_keep hb b0; have p0 := cell_keep hb p0; have p1 := cell_keep hb p1; have p2 := cell_keep hb p2; have p3 := cell_keep hb p3; have q0 := cell_keep hb q0; have q1 := cell_keep hb q1; have q2 := cell_keep hb q2; have q3 := cell_keep hb q3); have HB6 := Lib.hid (HB5.out.trans (hb.mono HB5.out.size)); clear hb))
        have HB9 := HB6
        obtain ⟨W9, hW9⟩ : ∃ W9, W9 = w6 := ⟨_, rfl⟩
        subst hW9
        by_cases h1 : solE cells = 0
        · have e1 : wheE cells c = 0 := by unfold wheE; rw [if_neg (by simpa using h1)]; exact HKC.out
          have e2 : wheV cells c = whr c (-1) cells := by unfold wheV; rw [if_pos e1]
          rw [e2, e1] at HWH
          rw [h1] at HCK
          have HWR2 := Lib.hid (HWR.out h1 HKC.out)
          clear h1 e1 e2 HWR
          generalize whr c (-1) cells = V at *
          have kx0 : ∀ y : KW (fun W' => Below W9.heap.size W9 W'), y.w.cell? ⟨gw, 0, none⟩ = some (.slice sa cells.length sc) ∧ y.w.cell? ⟨gw + 2, 0, none⟩ = some (.int .i64 c.x) ∧ y.w.cell? ⟨gw + 2, 1, none⟩ = some (.int .i64 c.y) ∧ y.w.cell? ⟨gw + 2, 2, none⟩ = some (.int .i64 c.z) ∧ y.w.cell? ⟨gw + 2, 3, none⟩ = some (.int .i64 c.n) := fun y => ⟨cell_keep y.ok b0, cell_keep y.ok q0, cell_keep y.ok q1, cell_keep y.ok q2, cell_keep y.ok q3⟩
          haveI n1 : Nonempty (KW (fun W' => Below W9.heap.size W9 W')) := ⟨⟨W9, Below.refl _ _⟩⟩
          refine wp_region_tree (fun w' => ∃ y : KW (fun W' => Below W9.heap.size W9 W'), w' = y.w) 8 (.take 0 (.take 2 (.one 1 (.one 3 (.take 4 (.take 5 (.take 6 (.take 7 .done)))))))) hmix (by kernel_rfl) (KW.mk' (Below.refl _ _).drew) ?_
          have HC0 := Lib.hid (show Below W9.heap.size W9 W9.drew from (Below.refl _ _).drew)
          generalize W9.drew = ww0 at *
          repeat (refine wpTree_take ?_; simp only [nthOp]; (first | go_big_quiet_step (fail) | quiet_step (fail)); refine wpQuiet_nil ?_)
          refine wpTree_one ?_
          simp only [nthOp]
          go_wp2_with (go_at_call 34; refine (HCP.out _ (HB9.out.trans (HC0.out.mono HB9.out.size))).mono ?_; rintro e w10 ⟨va, vc, rfl, hcv, -, hb⟩; have HCV := Lib.hid hcv; have HC1 := Lib.hid (HC0.out.trans (hb.mono HC0.out.size)); clear hcv hb)
          refine One_mk (KW.mk' HC1.out) ?_
          refine wpTree_one ?_
          simp only [nthOp]
          have HWQ := Lib.hid (HWH.out va vc w10 HCV.out)
          go_wp2_with (go_at_call 52; refine HWQ.out.mono ?_; rintro e w11 ⟨rfl, hb⟩; have HC2 := Lib.hid (HC1.out.trans (hb.mono HC1.out.size)); clear hb)
          refine One_mk (KW.mk' HC2.out) ?_
          repeat (refine wpTree_take ?_; simp only [nthOp]; (first | go_big_quiet_step (fail) | quiet_step (fail)); refine wpQuiet_nil ?_)
          have b0 := cell_keep HC2.out b0
          have q0 := cell_keep HC2.out q0
          have q1 := cell_keep HC2.out q1
          have q2 := cell_keep HC2.out q2
          have q3 := cell_keep HC2.out q3
          have HB11 := Lib.hid (HB9.out.trans (HC2.out.mono HB9.out.size))
          refine wpTree_done ?_
          simp only [List.drop_succ_cons, List.drop_zero]
          go_wp2_with fail
          refine NP_mk ?_
          go_wp2_with (first | (have h := HCK.out; clear HCK; go_at_call 43; refine (h _ HB11.out).mono ?_; clear h; rintro e w12 ⟨rfl, hb⟩; (have b0 := cell_keep hb b0; have q0 := cell_keep hb q0; have q1 := cell_keep hb q1; have q2 := cell_keep hb q2; have q3 := cell_keep hb q3); have HB12 := Lib.hid (HB11.out.trans (hb.mono HB11.out.size)); clear hb) | (have h := HCE2.out; clear HCE2; go_at_call 50; refine (h _).mono ?_; clear h; rintro e w13 ⟨rfl, hb⟩; (have b0 := cell_keep hb b0; have q0 := cell_keep hb q0; have q1 := cell_keep hb q1; have q2 := cell_keep hb q2; have q3 := cell_keep hb q3); have HB13 := Lib.hid (HB12.out.trans (hb.mono HB12.out.size)); clear hb) | (have h := HWR2.out; clear HWR2; go_at_call 53; refine (h _ HB13.out).mono ?_; clear h; rintro e w14 ⟨rfl, hb⟩; have HB14 := Lib.hid (HB13.out.trans (hb.mono HB13.out.size)); clear hb))
          go_ret
          exact ⟨rfl, HB14.out⟩
        · have e1 : wheE cells c = solE cells := by unfold wheE; rw [if_pos h1]
          have e2 : wheV cells c = 0 := by unfold wheV; rw [e1, if_neg h1]
          rw [e2, e1] at HWH
          clear e1 e2 HWR
          generalize solE cells = Y at *
          have kx0 : ∀ y : KW (fun W' => Below W9.heap.size W9 W'), y.w.cell? ⟨gw, 0, none⟩ = some (.slice sa cells.length sc) ∧ y.w.cell? ⟨gw + 2, 0, none⟩ = some (.int .i64 c.x) ∧ y.w.cell? ⟨gw + 2, 1, none⟩ = some (.int .i64 c.y) ∧ y.w.cell? ⟨gw + 2, 2, none⟩ = some (.int .i64 c.z) ∧ y.w.cell? ⟨gw + 2, 3, none⟩ = some (.int .i64 c.n) := fun y => ⟨cell_keep y.ok b0, cell_keep y.ok q0, cell_keep y.ok q1, cell_keep y.ok q2, cell_keep y.ok q3⟩
          haveI n1 : Nonempty (KW (fun W' => Below W9.heap.size W9 W')) := ⟨⟨W9, Below.refl _ _⟩⟩
          refine wp_region_tree (fun w' => ∃ y : KW (fun W' => Below W9.heap.size W9 W'), w' = y.w) 8 (.take 0 (.take 2 (.one 1 (.one 3 (.take 4 (.take 5 (.take 6 (.take 7 .done)))))))) hmix (by kernel_rfl) (KW.mk' (Below.refl _ _).drew) ?_
          have HC0 := Lib.hid (show Below W9.heap.size W9 W9.drew from (Below.refl _ _).drew)
          generalize W9.drew = ww0 at *
          repeat (refine wpTree_take ?_; simp only [nthOp]; (first | go_big_quiet_step (fail) | quiet_step (fail)); refine wpQuiet_nil ?_)
          refine wpTree_one ?_
          simp only [nthOp]
          go_wp2_with (go_at_call 34; refine (HCP.out _ (HB9.out.trans (HC0.out.mono HB9.out.size))).mono ?_; rintro e w10 ⟨va, vc, rfl, hcv, -, hb⟩; have HCV := Lib.hid hcv; have HC1 := Lib.hid (HC0.out.trans (hb.mono HC0.out.size)); clear hcv hb)
          refine One_mk (KW.mk' HC1.out) ?_
          refine wpTree_one ?_
          simp only [nthOp]
          have HWQ := Lib.hid (HWH.out va vc w10 HCV.out)
          go_wp2_with (go_at_call 52; refine HWQ.out.mono ?_; rintro e w11 ⟨rfl, hb⟩; have HC2 := Lib.hid (HC1.out.trans (hb.mono HC1.out.size)); clear hb)
          refine One_mk (KW.mk' HC2.out) ?_
          repeat (refine wpTree_take ?_; simp only [nthOp]; (first | go_big_quiet_step (fail) | quiet_step (fail)); refine wpQuiet_nil ?_)
          have b0 := cell_keep HC2.out b0
          have q0 := cell_keep HC2.out q0
          have q1 := cell_keep HC2.out q1
          have q2 := cell_keep HC2.out q2
          have q3 := cell_keep HC2.out q3
          have HB11 := Lib.hid (HB9.out.trans (HC2.out.mono HB9.out.size))
          refine wpTree_done ?_
          simp only [List.drop_succ_cons, List.drop_zero]
          go_wp2_with fail
          refine NP_mk ?_
          go_wp2_with (have h := HCK.out; clear HCK; go_at_call 43; refine (h _ HB11.out).mono ?_; clear h; rintro e w12 ⟨rfl, hb⟩; (have b0 := cell_keep hb b0; have q0 := cell_keep hb q0; have q1 := cell_keep hb q1; have q2 := cell_keep hb q2; have q3 := cell_keep hb q3); have HB12 := Lib.hid (HB11.out.trans (hb.mono HB11.out.size)); clear hb)
          go_ret
          exact ⟨rfl, HB12.out⟩
      · have HX := Lib.hid hc
        have e1 : sidE p c = coE c := by unfold sidE; rw [if_neg (by simpa using hp)]
        have e2 : sidV p c = 0 := by unfold sidV; rw [e1, if_neg hc]
        rw [e2, e1] at HSD
        obtain ⟨X, hXe⟩ : ∃ X, X = coE c := ⟨_, rfl⟩
        have HKX := Lib.hid hXe.symm
        rw [← hXe] at HSD HCE HCE2
        have hX : X ≠ 0 := by rw [hXe]; exact hc
        clear hp hc e1 e2 hXe
        go_upto_region 11 with (first | (have h := HFW.out; clear HFW; go_at_call 32; refine (h _ HB1.out).mono ?_; clear h; rintro e w2 ⟨rfl, hb⟩; (have b0 := cell_keep hb b0; have p0 := cell_keep hb p0; have p1 := cell_keep hb p1; have p2 := cell_keep hb p2; have p3 := cell_keep hb p3; have q0 := cell_keep hb q0; have q1 := cell_keep hb q1; have q2 := cell_keep hb q2; have q3 := cell_keep hb q3); have HB2 := Lib.hid (HB1.out.trans (hb.mono HB1.out.size)); clear hb) | (have h := HSD.out; clear HSD; go_at_call 38; refine (h _).mono ?_; clear h; rintro e w3 ⟨rfl, hb⟩; (have b0 := cell_keep hb b0; have p0 := cell_keep hb p0; have p1 := cell_keep hb p1; have p2 := cell_keep hb p2; have p3 := cell_keep hb p3; have q0 := cell_keep hb q0; have q1 := cell_keep hb q1; have q2 := cell_keep hb q2; have q3 := cell_keep hb q3); have HB3 := Lib.hid (HB2.out.trans (hb.mono HB2.out.size)); clear hb) | (have h := HCPL.out; clear HCPL; go_at_call 25; refine (h _).mono ?_; clear h; rintro e w4 ⟨rfl, hb⟩; (have b0 := cell_keep hb b0; have p0 := cell_keep hb p0; have p1 := cell_keep hb p1; have p2 := cell_keep hb p2; have p3 := cell_keep hb p3; have q0 := cell_keep hb q0; have q1 := cell_keep hb q1; have q2 := cell_keep hb q2; have q3 := cell_keep hb q3); have HB4 := Lib.hid (HB3.out.trans (hb.mono HB3.out.size)); clear hb) | (have h := HCE.out; clear HCE; go_at_call 50; refine (h _).mono ?_; clear h; rintro e w5 ⟨rfl, hb⟩; (have b0 := cell_keep hb b0; have p0 := cell_keep hb p0; have p1 := cell_keep hb p1; have p2 := cell_keep hb p2; have p3 := cell_keep hb p3; have q0 := cell_keep hb q0; have q1 := cell_keep hb q1; have q2 := cell_keep hb q2; have q3 := cell_keep hb q3); have HB5 := Lib.hid (HB4.out.trans (hb.mono HB4.out.size)); clear hb))
        have HB9 := HB5
        obtain ⟨W9, hW9⟩ : ∃ W9, W9 = w5 := ⟨_, rfl⟩
        subst hW9
        by_cases h1 : solE cells = 0
        · have e1 : wheE cells c = X := by unfold wheE; rw [if_neg (by simpa using h1)]; exact HKX.out
          have e2 : wheV cells c = 0 := by unfold wheV; rw [e1, if_neg hX]
          rw [e2, e1] at HWH
          rw [h1] at HCK
          clear h1 e1 e2 HWR
          have kx0 : ∀ y : KW (fun W' => Below W9.heap.size W9 W'), y.w.cell? ⟨gw, 0, none⟩ = some (.slice sa cells.length sc) ∧ y.w.cell? ⟨gw + 2, 0, none⟩ = some (.int .i64 c.x) ∧ y.w.cell? ⟨gw + 2, 1, none⟩ = some (.int .i64 c.y) ∧ y.w.cell? ⟨gw + 2, 2, none⟩ = some (.int .i64 c.z) ∧ y.w.cell? ⟨gw + 2, 3, none⟩ = some (.int .i64 c.n) := fun y => ⟨cell_keep y.ok b0, cell_keep y.ok q0, cell_keep y.ok q1, cell_keep y.ok q2, cell_keep y.ok q3⟩
          haveI n1 : Nonempty (KW (fun W' => Below W9.heap.size W9 W')) := ⟨⟨W9, Below.refl _ _⟩⟩
          refine wp_region_tree (fun w' => ∃ y : KW (fun W' => Below W9.heap.size W9 W'), w' = y.w) 8 (.take 0 (.take 2 (.one 1 (.one 3 (.take 4 (.take 5 (.take 6 (.take 7 .done)))))))) hmix (by kernel_rfl) (KW.mk' (Below.refl _ _).drew) ?_
          have HC0 := Lib.hid (show Below W9.heap.size W9 W9.drew from (Below.refl _ _).drew)
          generalize W9.drew = ww0 at *
          repeat (refine wpTree_take ?_; simp only [nthOp]; (first | go_big_quiet_step (fail) | quiet_step (fail)); refine wpQuiet_nil ?_)
          refine wpTree_one ?_
          simp only [nthOp]
          go_wp2_with (go_at_call 34; refine (HCP.out _ (HB9.out.trans (HC0.out.mono HB9.out.size))).mono ?_; rintro e w10 ⟨va, vc, rfl, hcv, -, hb⟩; have HCV := Lib.hid hcv; have HC1 := Lib.hid (HC0.out.trans (hb.mono HC0.out.size)); clear hcv hb)
          refine One_mk (KW.mk' HC1.out) ?_
          refine wpTree_one ?_
          simp only [nthOp]
          have HWQ := Lib.hid (HWH.out va vc w10 HCV.out)
          go_wp2_with (go_at_call 52; refine HWQ.out.mono ?_; rintro e w11 ⟨rfl, hb⟩; have HC2 := Lib.hid (HC1.out.trans (hb.mono HC1.out.size)); clear hb)
          refine One_mk (KW.mk' HC2.out) ?_
          repeat (refine wpTree_take ?_; simp only [nthOp]; (first | go_big_quiet_step (fail) | quiet_step (fail)); refine wpQuiet_nil ?_)
          have b0 := cell_keep HC2.out b0
          have q0 := cell_keep HC2.out q0
          have q1 := cell_keep HC2.out q1
          have q2 := cell_keep HC2.out q2
          have q3 := cell_keep HC2.out q3
          have HB11 := Lib.hid (HB9.out.trans (HC2.out.mono HB9.out.size))
          refine wpTree_done ?_
          simp only [List.drop_succ_cons, List.drop_zero]
          go_wp2_with fail
          refine NP_mk ?_
          go_wp2_with (first | (have h := HCK.out; clear HCK; go_at_call 43; refine (h _ HB11.out).mono ?_; clear h; rintro e w12 ⟨rfl, hb⟩; (have b0 := cell_keep hb b0; have q0 := cell_keep hb q0; have q1 := cell_keep hb q1; have q2 := cell_keep hb q2; have q3 := cell_keep hb q3); have HB12 := Lib.hid (HB11.out.trans (hb.mono HB11.out.size)); clear hb) | (have h := HCE2.out; clear HCE2; go_at_call 50; refine (h _).mono ?_; clear h; rintro e w13 ⟨rfl, hb⟩; (have b0 := cell_keep hb b0; have q0 := cell_keep hb q0; have q1 := cell_keep hb q1; have q2 := cell_keep hb q2; have q3 := cell_keep hb q3); have HB13 := Lib.hid (HB12.out.trans (hb.mono HB12.out.size)); clear hb))
          go_ret
          exact ⟨rfl, HB13.out⟩
        · have e1 : wheE cells c = solE cells := by unfold wheE; rw [if_pos h1]
          have e2 : wheV cells c = 0 := by unfold wheV; rw [e1, if_neg h1]
          rw [e2, e1] at HWH
          clear e1 e2 HWR
          generalize solE cells = Y at *
          have kx0 : ∀ y : KW (fun W' => Below W9.heap.size W9 W'), y.w.cell? ⟨gw, 0, none⟩ = some (.slice sa cells.length sc) ∧ y.w.cell? ⟨gw + 2, 0, none⟩ = some (.int .i64 c.x) ∧ y.w.cell? ⟨gw + 2, 1, none⟩ = some (.int .i64 c.y) ∧ y.w.cell? ⟨gw + 2, 2, none⟩ = some (.int .i64 c.z) ∧ y.w.cell? ⟨gw + 2, 3, none⟩ = some (.int .i64 c.n) := fun y => ⟨cell_keep y.ok b0, cell_keep y.ok q0, cell_keep y.ok q1, cell_keep y.ok q2, cell_keep y.ok q3⟩
          haveI n1 : Nonempty (KW (fun W' => Below W9.heap.size W9 W')) := ⟨⟨W9, Below.refl _ _⟩⟩
          refine wp_region_tree (fun w' => ∃ y : KW (fun W' => Below W9.heap.size W9 W'), w' = y.w) 8 (.take 0 (.take 2 (.one 1 (.one 3 (.take 4 (.take 5 (.take 6 (.take 7 .done)))))))) hmix (by kernel_rfl) (KW.mk' (Below.refl _ _).drew) ?_
          have HC0 := Lib.hid (show Below W9.heap.size W9 W9.drew from (Below.refl _ _).drew)
          generalize W9.drew = ww0 at *
          repeat (refine wpTree_take ?_; simp only [nthOp]; (first | go_big_quiet_step (fail) | quiet_step (fail)); refine wpQuiet_nil ?_)
          refine wpTree_one ?_
          simp only [nthOp]
          go_wp2_with (go_at_call 34; refine (HCP.out _ (HB9.out.trans (HC0.out.mono HB9.out.size))).mono ?_; rintro e w10 ⟨va, vc, rfl, hcv, -, hb⟩; have HCV := Lib.hid hcv; have HC1 := Lib.hid (HC0.out.trans (hb.mono HC0.out.size)); clear hcv hb)
          refine One_mk (KW.mk' HC1.out) ?_
          refine wpTree_one ?_
          simp only [nthOp]
          have HWQ := Lib.hid (HWH.out va vc w10 HCV.out)
          go_wp2_with (go_at_call 52; refine HWQ.out.mono ?_; rintro e w11 ⟨rfl, hb⟩; have HC2 := Lib.hid (HC1.out.trans (hb.mono HC1.out.size)); clear hb)
          refine One_mk (KW.mk' HC2.out) ?_
          repeat (refine wpTree_take ?_; simp only [nthOp]; (first | go_big_quiet_step (fail) | quiet_step (fail)); refine wpQuiet_nil ?_)
          have b0 := cell_keep HC2.out b0
          have q0 := cell_keep HC2.out q0
          have q1 := cell_keep HC2.out q1
          have q2 := cell_keep HC2.out q2
          have q3 := cell_keep HC2.out q3
          have HB11 := Lib.hid (HB9.out.trans (HC2.out.mono HB9.out.size))
          refine wpTree_done ?_
          simp only [List.drop_succ_cons, List.drop_zero]
          go_wp2_with fail
          refine NP_mk ?_
          go_wp2_with (have h := HCK.out; clear HCK; go_at_call 43; refine (h _ HB11.out).mono ?_; clear h; rintro e w12 ⟨rfl, hb⟩; (have b0 := cell_keep hb b0; have q0 := cell_keep hb q0; have q1 := cell_keep hb q1; have q2 := cell_keep hb q2; have q3 := cell_keep hb q3); have HB12 := Lib.hid (HB11.out.trans (hb.mono HB11.out.size)); clear hb)
          go_ret
          exact ⟨rfl, HB12.out⟩
    · have e1 : sidE p c = chkP p := by unfold sidE; rw [if_pos hp]
      have e2 : sidV p c = 0 := by unfold sidV; rw [e1, if_neg hp]
      rw [e2, e1] at HSD
      clear e1 e2 HSR
      have HSR := True.intro
      generalize chkP p = E at *
      go_upto_region 11 with (first | (have h := HFW.out; clear HFW; go_at_call 32; refine (h _ HB1.out).mono ?_; clear h; rintro e w2 ⟨rfl, hb⟩; (have b0 := cell_keep hb b0; have p0 := cell_keep hb p0; have p1 := cell_keep hb p1; have p2 := cell_keep hb p2; have p3 := cell_keep hb p3; have q0 := cell_keep hb q0; have q1 := cell_keep hb q1; have q2 := cell_keep hb q2; have q3 := cell_keep hb q3); have HB2 := Lib.hid (HB1.out.trans (hb.mono HB1.out.size)); clear hb) | (have h := HSD.out; clear HSD; go_at_call 38; refine (h _).mono ?_; clear h; rintro e w3 ⟨rfl, hb⟩; (have b0 := cell_keep hb b0; have p0 := cell_keep hb p0; have p1 := cell_keep hb p1; have p2 := cell_keep hb p2; have p3 := cell_keep hb p3; have q0 := cell_keep hb q0; have q1 := cell_keep hb q1; have q2 := cell_keep hb q2; have q3 := cell_keep hb q3); have HB3 := Lib.hid (HB2.out.trans (hb.mono HB2.out.size)); clear hb) | (have h := HCPL.out; clear HCPL; go_at_call 25; refine (h _).mono ?_; clear h; rintro e w4 ⟨rfl, hb⟩; (have b0 := cell_keep hb b0; have p0 := cell_keep hb p0; have p1 := cell_keep hb p1; have p2 := cell_keep hb p2; have p3 := cell_keep hb p3; have q0 := cell_keep hb q0; have q1 := cell_keep hb q1; have q2 := cell_keep hb q2; have q3 := cell_keep hb q3); have HB4 := Lib.hid (HB3.out.trans (hb.mono HB3.out.size)); clear hb))
      have HB9 := HB4
      obtain ⟨W9, hW9⟩ : ∃ W9, W9 = w4 := ⟨_, rfl⟩
      subst hW9
      by_cases hc : coE c = 0
      · have HKC := Lib.hid hc
        rw [hc] at HCE HCE2
        clear hc
        by_cases h1 : solE cells = 0
        · have e1 : wheE cells c = 0 := by unfold wheE; rw [if_neg (by simpa using h1)]; exact HKC.out
          have e2 : wheV cells c = whr c (-1) cells := by unfold wheV; rw [if_pos e1]
          rw [e2, e1] at HWH
          rw [h1] at HCK
          have HWR2 := Lib.hid (HWR.out h1 HKC.out)
          clear h1 e1 e2 HWR
          generalize whr c (-1) cells = V at *
          have kx0 : ∀ y : KW (fun W' => Below W9.heap.size W9 W'), y.w.cell? ⟨gw, 0, none⟩ = some (.slice sa cells.length sc) ∧ y.w.cell? ⟨gw + 2, 0, none⟩ = some (.int .i64 c.x) ∧ y.w.cell? ⟨gw + 2, 1, none⟩ = some (.int .i64 c.y) ∧ y.w.cell? ⟨gw + 2, 2, none⟩ = some (.int .i64 c.z) ∧ y.w.cell? ⟨gw + 2, 3, none⟩ = some (.int .i64 c.n) := fun y => ⟨cell_keep y.ok b0, cell_keep y.ok q0, cell_keep y.ok q1, cell_keep y.ok q2, cell_keep y.ok q3⟩
          haveI n1 : Nonempty (KW (fun W' => Below W9.heap.size W9 W')) := ⟨⟨W9, Below.refl _ _⟩⟩
          refine wp_region_tree (fun w' => ∃ y : KW (fun W' => Below W9.heap.size W9 W'), w' = y.w) 8 (.take 0 (.take 2 (.one 1 (.one 3 (.take 4 (.take 5 (.take 6 (.take 7 .done)))))))) hmix (by kernel_rfl) (KW.mk' (Below.refl _ _).drew) ?_
          have HC0 := Lib.hid (show Below W9.heap.size W9 W9.drew from (Below.refl _ _).drew)
          generalize W9.drew = ww0 at *
          repeat (refine wpTree_take ?_; simp only [nthOp]; (first | go_big_quiet_step (fail) | quiet_step (fail)); refine wpQuiet_nil ?_)
          refine wpTree_one ?_
          simp only [nthOp]
          go_wp2_with (go_at_call 34; refine (HCP.out _ (HB9.out.trans (HC0.out.mono HB9.out.size))).mono ?_; rintro e w10 ⟨va, vc, rfl, hcv, -, hb⟩; have HCV := Lib.hid hcv; have HC1 := Lib.hid (HC0.out.trans (hb.mono HC0.out.size)); clear hcv hb)
          refine One_mk (KW.mk' HC1.out) ?_
          refine wpTree_one ?_
          simp only [nthOp]
          have HWQ := Lib.hid (HWH.out va vc w10 HCV.out)
          go_wp2_with (go_at_call 52; refine HWQ.out.mono ?_; rintro e w11 ⟨rfl, hb⟩; have HC2 := Lib.hid (HC1.out.trans (hb.mono HC1.out.size)); clear hb)
          refine One_mk (KW.mk' HC2.out) ?_
          repeat (refine wpTree_take ?_; simp only [nthOp]; (first | go_big_quiet_step (fail) | quiet_step (fail)); refine wpQuiet_nil ?_)
          have b0 := cell_keep HC2.out b0
          have q0 := cell_keep HC2.out q0
          have q1 := cell_keep HC2.out q1
          have q2 := cell_keep HC2.out q2
          have q3 := cell_keep HC2.out q3
          have HB11 := Lib.hid (HB9.out.trans (HC2.out.mono HB9.out.size))
          refine wpTree_done ?_
          simp only [List.drop_succ_cons, List.drop_zero]
          go_wp2_with fail
          refine NP_mk ?_
          go_wp2_with (first | (have h := HCK.out; clear HCK; go_at_call 43; refine (h _ HB11.out).mono ?_; clear h; rintro e w12 ⟨rfl, hb⟩; (have b0 := cell_keep hb b0; have q0 := cell_keep hb q0; have q1 := cell_keep hb q1; have q2 := cell_keep hb q2; have q3 := cell_keep hb q3); have HB12 := Lib.hid (HB11.out.trans (hb.mono HB11.out.size)); clear hb) | (have h := HCE2.out; clear HCE2; go_at_call 50; refine (h _).mono ?_; clear h; rintro e w13 ⟨rfl, hb⟩; (have b0 := cell_keep hb b0; have q0 := cell_keep hb q0; have q1 := cell_keep hb q1; have q2 := cell_keep hb q2; have q3 := cell_keep hb q3); have HB13 := Lib.hid (HB12.out.trans (hb.mono HB12.out.size)); clear hb) | (have h := HWR2.out; clear HWR2; go_at_call 53; refine (h _ HB13.out).mono ?_; clear h; rintro e w14 ⟨rfl, hb⟩; have HB14 := Lib.hid (HB13.out.trans (hb.mono HB13.out.size)); clear hb))
          go_ret
          exact ⟨rfl, HB14.out⟩
        · have e1 : wheE cells c = solE cells := by unfold wheE; rw [if_pos h1]
          have e2 : wheV cells c = 0 := by unfold wheV; rw [e1, if_neg h1]
          rw [e2, e1] at HWH
          clear e1 e2 HWR
          generalize solE cells = Y at *
          have kx0 : ∀ y : KW (fun W' => Below W9.heap.size W9 W'), y.w.cell? ⟨gw, 0, none⟩ = some (.slice sa cells.length sc) ∧ y.w.cell? ⟨gw + 2, 0, none⟩ = some (.int .i64 c.x) ∧ y.w.cell? ⟨gw + 2, 1, none⟩ = some (.int .i64 c.y) ∧ y.w.cell? ⟨gw + 2, 2, none⟩ = some (.int .i64 c.z) ∧ y.w.cell? ⟨gw + 2, 3, none⟩ = some (.int .i64 c.n) := fun y => ⟨cell_keep y.ok b0, cell_keep y.ok q0, cell_keep y.ok q1, cell_keep y.ok q2, cell_keep y.ok q3⟩
          haveI n1 : Nonempty (KW (fun W' => Below W9.heap.size W9 W')) := ⟨⟨W9, Below.refl _ _⟩⟩
          refine wp_region_tree (fun w' => ∃ y : KW (fun W' => Below W9.heap.size W9 W'), w' = y.w) 8 (.take 0 (.take 2 (.one 1 (.one 3 (.take 4 (.take 5 (.take 6 (.take 7 .done)))))))) hmix (by kernel_rfl) (KW.mk' (Below.refl _ _).drew) ?_
          have HC0 := Lib.hid (show Below W9.heap.size W9 W9.drew from (Below.refl _ _).drew)
          generalize W9.drew = ww0 at *
          repeat (refine wpTree_take ?_; simp only [nthOp]; (first | go_big_quiet_step (fail) | quiet_step (fail)); refine wpQuiet_nil ?_)
          refine wpTree_one ?_
          simp only [nthOp]
          go_wp2_with (go_at_call 34; refine (HCP.out _ (HB9.out.trans (HC0.out.mono HB9.out.size))).mono ?_; rintro e w10 ⟨va, vc, rfl, hcv, -, hb⟩; have HCV := Lib.hid hcv; have HC1 := Lib.hid (HC0.out.trans (hb.mono HC0.out.size)); clear hcv hb)
          refine One_mk (KW.mk' HC1.out) ?_
          refine wpTree_one ?_
          simp only [nthOp]
          have HWQ := Lib.hid (HWH.out va vc w10 HCV.out)
          go_wp2_with (go_at_call 52; refine HWQ.out.mono ?_; rintro e w11 ⟨rfl, hb⟩; have HC2 := Lib.hid (HC1.out.trans (hb.mono HC1.out.size)); clear hb)
          refine One_mk (KW.mk' HC2.out) ?_
          repeat (refine wpTree_take ?_; simp only [nthOp]; (first | go_big_quiet_step (fail) | quiet_step (fail)); refine wpQuiet_nil ?_)
          have b0 := cell_keep HC2.out b0
          have q0 := cell_keep HC2.out q0
          have q1 := cell_keep HC2.out q1
          have q2 := cell_keep HC2.out q2
          have q3 := cell_keep HC2.out q3
          have HB11 := Lib.hid (HB9.out.trans (HC2.out.mono HB9.out.size))
          refine wpTree_done ?_
          simp only [List.drop_succ_cons, List.drop_zero]
          go_wp2_with fail
          refine NP_mk ?_
          go_wp2_with (have h := HCK.out; clear HCK; go_at_call 43; refine (h _ HB11.out).mono ?_; clear h; rintro e w12 ⟨rfl, hb⟩; (have b0 := cell_keep hb b0; have q0 := cell_keep hb q0; have q1 := cell_keep hb q1; have q2 := cell_keep hb q2; have q3 := cell_keep hb q3); have HB12 := Lib.hid (HB11.out.trans (hb.mono HB11.out.size)); clear hb)
          go_ret
          exact ⟨rfl, HB12.out⟩
      · obtain ⟨X, hXe⟩ : ∃ X, X = coE c := ⟨_, rfl⟩
        have HKX := Lib.hid hXe.symm
        rw [← hXe] at HCE HCE2
        have hX : X ≠ 0 := by rw [hXe]; exact hc
        clear hc hXe
        by_cases h1 : solE cells = 0
        · have e1 : wheE cells c = X := by unfold wheE; rw [if_neg (by simpa using h1)]; exact HKX.out
          have e2 : wheV cells c = 0 := by unfold wheV; rw [e1, if_neg hX]
          rw [e2, e1] at HWH
          rw [h1] at HCK
          clear h1 e1 e2 HWR
          have kx0 : ∀ y : KW (fun W' => Below W9.heap.size W9 W'), y.w.cell? ⟨gw, 0, none⟩ = some (.slice sa cells.length sc) ∧ y.w.cell? ⟨gw + 2, 0, none⟩ = some (.int .i64 c.x) ∧ y.w.cell? ⟨gw + 2, 1, none⟩ = some (.int .i64 c.y) ∧ y.w.cell? ⟨gw + 2, 2, none⟩ = some (.int .i64 c.z) ∧ y.w.cell? ⟨gw + 2, 3, none⟩ = some (.int .i64 c.n) := fun y => ⟨cell_keep y.ok b0, cell_keep y.ok q0, cell_keep y.ok q1, cell_keep y.ok q2, cell_keep y.ok q3⟩
          haveI n1 : Nonempty (KW (fun W' => Below W9.heap.size W9 W')) := ⟨⟨W9, Below.refl _ _⟩⟩
          refine wp_region_tree (fun w' => ∃ y : KW (fun W' => Below W9.heap.size W9 W'), w' = y.w) 8 (.take 0 (.take 2 (.one 1 (.one 3 (.take 4 (.take 5 (.take 6 (.take 7 .done)))))))) hmix (by kernel_rfl) (KW.mk' (Below.refl _ _).drew) ?_
          have HC0 := Lib.hid (show Below W9.heap.size W9 W9.drew from (Below.refl _ _).drew)
          generalize W9.drew = ww0 at *
          repeat (refine wpTree_take ?_; simp only [nthOp]; (first | go_big_quiet_step (fail) | quiet_step (fail)); refine wpQuiet_nil ?_)
          refine wpTree_one ?_
          simp only [nthOp]
          go_wp2_with (go_at_call 34; refine (HCP.out _ (HB9.out.trans (HC0.out.mono HB9.out.size))).mono ?_; rintro e w10 ⟨va, vc, rfl, hcv, -, hb⟩; have HCV := Lib.hid hcv; have HC1 := Lib.hid (HC0.out.trans (hb.mono HC0.out.size)); clear hcv hb)
          refine One_mk (KW.mk' HC1.out) ?_
          refine wpTree_one ?_
          simp only [nthOp]
          have HWQ := Lib.hid (HWH.out va vc w10 HCV.out)
          go_wp2_with (go_at_call 52; refine HWQ.out.mono ?_; rintro e w11 ⟨rfl, hb⟩; have HC2 := Lib.hid (HC1.out.trans (hb.mono HC1.out.size)); clear hb)
          refine One_mk (KW.mk' HC2.out) ?_
          repeat (refine wpTree_take ?_; simp only [nthOp]; (first | go_big_quiet_step (fail) | quiet_step (fail)); refine wpQuiet_nil ?_)
          have b0 := cell_keep HC2.out b0
          have q0 := cell_keep HC2.out q0
          have q1 := cell_keep HC2.out q1
          have q2 := cell_keep HC2.out q2
          have q3 := cell_keep HC2.out q3
          have HB11 := Lib.hid (HB9.out.trans (HC2.out.mono HB9.out.size))
          refine wpTree_done ?_
          simp only [List.drop_succ_cons, List.drop_zero]
          go_wp2_with fail
          refine NP_mk ?_
          go_wp2_with (first | (have h := HCK.out; clear HCK; go_at_call 43; refine (h _ HB11.out).mono ?_; clear h; rintro e w12 ⟨rfl, hb⟩; (have b0 := cell_keep hb b0; have q0 := cell_keep hb q0; have q1 := cell_keep hb q1; have q2 := cell_keep hb q2; have q3 := cell_keep hb q3); have HB12 := Lib.hid (HB11.out.trans (hb.mono HB11.out.size)); clear hb) | (have h := HCE2.out; clear HCE2; go_at_call 50; refine (h _).mono ?_; clear h; rintro e w13 ⟨rfl, hb⟩; (have b0 := cell_keep hb b0; have q0 := cell_keep hb q0; have q1 := cell_keep hb q1; have q2 := cell_keep hb q2; have q3 := cell_keep hb q3); have HB13 := Lib.hid (HB12.out.trans (hb.mono HB12.out.size)); clear hb))
          go_ret
          exact ⟨rfl, HB13.out⟩
        · have e1 : wheE cells c = solE cells := by unfold wheE; rw [if_pos h1]
          have e2 : wheV cells c = 0 := by unfold wheV; rw [e1, if_neg h1]
          rw [e2, e1] at HWH
          clear e1 e2 HWR
          generalize solE cells = Y at *
          have kx0 : ∀ y : KW (fun W' => Below W9.heap.size W9 W'), y.w.cell? ⟨gw, 0, none⟩ = some (.slice sa cells.length sc) ∧ y.w.cell? ⟨gw + 2, 0, none⟩ = some (.int .i64 c.x) ∧ y.w.cell? ⟨gw + 2, 1, none⟩ = some (.int .i64 c.y) ∧ y.w.cell? ⟨gw + 2, 2, none⟩ = some (.int .i64 c.z) ∧ y.w.cell? ⟨gw + 2, 3, none⟩ = some (.int .i64 c.n) := fun y => ⟨cell_keep y.ok b0, cell_keep y.ok q0, cell_keep y.ok q1, cell_keep y.ok q2, cell_keep y.ok q3⟩
          haveI n1 : Nonempty (KW (fun W' => Below W9.heap.size W9 W')) := ⟨⟨W9, Below.refl _ _⟩⟩
          refine wp_region_tree (fun w' => ∃ y : KW (fun W' => Below W9.heap.size W9 W'), w' = y.w) 8 (.take 0 (.take 2 (.one 1 (.one 3 (.take 4 (.take 5 (.take 6 (.take 7 .done)))))))) hmix (by kernel_rfl) (KW.mk' (Below.refl _ _).drew) ?_
          have HC0 := Lib.hid (show Below W9.heap.size W9 W9.drew from (Below.refl _ _).drew)
          generalize W9.drew = ww0 at *
          repeat (refine wpTree_take ?_; simp only [nthOp]; (first | go_big_quiet_step (fail) | quiet_step (fail)); refine wpQuiet_nil ?_)
          refine wpTree_one ?_
          simp only [nthOp]
          go_wp2_with (go_at_call 34; refine (HCP.out _ (HB9.out.trans (HC0.out.mono HB9.out.size))).mono ?_; rintro e w10 ⟨va, vc, rfl, hcv, -, hb⟩; have HCV := Lib.hid hcv; have HC1 := Lib.hid (HC0.out.trans (hb.mono HC0.out.size)); clear hcv hb)
          refine One_mk (KW.mk' HC1.out) ?_
          refine wpTree_one ?_
          simp only [nthOp]
          have HWQ := Lib.hid (HWH.out va vc w10 HCV.out)
          go_wp2_with (go_at_call 52; refine HWQ.out.mono ?_; rintro e w11 ⟨rfl, hb⟩; have HC2 := Lib.hid (HC1.out.trans (hb.mono HC1.out.size)); clear hb)
          refine One_mk (KW.mk' HC2.out) ?_
          repeat (refine wpTree_take ?_; simp only [nthOp]; (first | go_big_quiet_step (fail) | quiet_step (fail)); refine wpQuiet_nil ?_)
          have b0 := cell_keep HC2.out b0
          have q0 := cell_keep HC2.out q0
          have q1 := cell_keep HC2.out q1
          have q2 := cell_keep HC2.out q2
          have q3 := cell_keep HC2.out q3
          have HB11 := Lib.hid (HB9.out.trans (HC2.out.mono HB9.out.size))
          refine wpTree_done ?_
          simp only [List.drop_succ_cons, List.drop_zero]
          go_wp2_with fail
          refine NP_mk ?_
          go_wp2_with (have h := HCK.out; clear HCK; go_at_call 43; refine (h _ HB11.out).mono ?_; clear h; rintro e w12 ⟨rfl, hb⟩; (have b0 := cell_keep hb b0; have q0 := cell_keep hb q0; have q1 := cell_keep hb q1; have q2 := cell_keep hb q2; have q3 := cell_keep hb q3); have HB12 := Lib.hid (HB11.out.trans (hb.mono HB11.out.size)); clear hb)
          go_ret
          exact ⟨rfl, HB12.out⟩
  · have hfw0 : fewB cells 4 = false := by simpa using hfw
    rw [hfw0] at HFW
    clear hfw hfw0
    go_wp2_with (have h := HFW.out; clear HFW; go_at_call 32; refine (h _ HB1.out).mono ?_; clear h; rintro e w2 ⟨rfl, hb⟩; (have b0 := cell_keep hb b0; have p0 := cell_keep hb p0; have p1 := cell_keep hb p1; have p2 := cell_keep hb p2; have p3 := cell_keep hb p3; have q0 := cell_keep hb q0; have q1 := cell_keep hb q1; have q2 := cell_keep hb q2; have q3 := cell_keep hb q3); have HB2 := Lib.hid (HB1.out.trans (hb.mono HB1.out.size)); clear hb)
    go_ret
    exact ⟨rfl, HB2.out⟩
set_option maxRecDepth 100000 in
theorem solidPlaces_walks : Walks 9 Tryz.f9 := by
  intro H enc W base args ds p hval hA hlt
  rw [Tryz.params9] at hA hval
  obtain ⟨v0, vs0, d0, ds0, p0, q0, hargs, rfl, rfl, ⟨fu0, hf0⟩, r0⟩ := trodAll_cons hA
  obtain ⟨v1, vs1, d1, ds1, p1, q1, rfl, rfl, rfl, ⟨fu1, hf1⟩, r1⟩ := trodAll_cons r0
  obtain ⟨v2, vs2, d2, ds2, p2, q2, rfl, rfl, rfl, ⟨fu2, hf2⟩, r2⟩ := trodAll_cons r1
  obtain ⟨rfl, rfl, rfl⟩ := trodAll_nil r2
  obtain rfl : args = #[v0, v1, v2] := by cases args; simp_all
  obtain ⟨cs0, rfl, -⟩ := okWide_struct Tryz.underlying48 (hval 0 48 v0 rfl rfl)
  obtain ⟨x0, a0, c0, hc0, V0, C0, M0, -⟩ := Solid.open_ hf0
  have hd0 : cs0 = #[.slice a0 x0.cells.length c0] := by
    cases cs0; simpa [Value.cells] using hc0
  subst hd0
  obtain ⟨cs1, rfl, -⟩ := okWide_struct Tryz.underlying26 (hval 1 26 v1 rfl rfl)
  obtain ⟨x1, hc1, W1⟩ := Pl.open_ hf1
  have hd1 : cs1 = #[.int .i64 x1.a, .int .i64 x1.b, .int .i64 x1.c, .int .i64 x1.d] := by
    cases cs1; simpa [Value.cells] using hc1
  subst hd1
  obtain ⟨cs2, rfl, -⟩ := okWide_struct Tryz.underlying60 (hval 2 60 v2 rfl rfl)
  obtain ⟨x2, hc2, W2⟩ := Co.open_ hf2
  have hd2 : cs2 = #[.int .i64 x2.x, .int .i64 x2.y, .int .i64 x2.z, .int .i64 x2.n] := by
    cases cs2; simpa [Value.cells] using hc2
  subst hd2
  exact walkSolidPlaces x0 a0 c0 x1 x2 W V0 (by unfold maxLen at M0; omega) C0 W1 W2

set_option maxRecDepth 100000 in
theorem solidPlaces_holds : Rows.SolidPlacesSaid :=
  law_holds (s := Rows.solidPlacesSpec) (c := Rows.solidPlacesRow) 9 Tryz.f9 rfl
    (fun H ds h => by match ds, h with | [_, _, _], _ => rfl) (by kernel_rfl) (by kernel_rfl)
    rfl rfl rfl rfl rfl rfl rfl ⟨rfl, rfl, rfl, rfl, rfl⟩ rfl rfl rfl rfl rfl rfl rfl rfl rfl rfl (fun _ _ => rfl) (by kernel_rfl) Tryz.func9
    solidPlaces_closed (of_decide_eq_true (by kernel_rfl)) (by unfold Func.isWrapper; first | (rw [if_pos (by decide +kernel)]; kernel_rfl) | (rw [if_neg (by decide +kernel)]; exact ⟨rfl, rfl⟩)) (by kernel_rfl)
    (fun H enc os => ChangeSpec.witness6 (enc := enc) (C := Tryz.checked) false ⟨#[], #[.agg #[.slice none 0 0], .agg #[.int .i64 0, .int .i64 0, .int .i64 0, .int .i64 0], .agg #[.int .i64 0, .int .i64 0, .int .i64 0, .int .i64 0]], []⟩ 8 (by kernel_rfl) (by kernel_rfl) (by kernel_rfl) (by kernel_rfl))
    solidPlaces_walks
end Go.Proofs.YtbhgkadklklmbaaGreat
