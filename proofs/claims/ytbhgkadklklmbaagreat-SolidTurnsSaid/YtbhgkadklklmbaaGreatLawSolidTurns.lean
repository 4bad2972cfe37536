/- SolidTurns returns true for every input: moved and turned solids are those of the document. No condition. -/
import Derived.Test.YtbhgkadklklmbaaGreatTV3
import Derived.Test.YtbhgkadklklmbaaGreatQM
import Derived.Test.YtbhgkadklklmbaaGreatFactsSolidTurns
set_option linter.unusedVariables false
set_option linter.unusedSimpArgs false
namespace Go.Proofs.YtbhgkadklklmbaaGreat
open Go Go.ChangeShapes Go.WideShapes Go.ChangeAt Go.RowKit Go.Sort Go.Lib

set_option maxRecDepth 100000 in
set_option maxHeartbeats 32000000 in
theorem walkSolidTurns (s : Solid) (sa : Option Addr) (sc : Nat) (y0 y1 y2 : Int) (t : Int) (w : World) (Vs : Cells.V w sa s.cells) (Ls : s.cells.length ≤ 9223372036854775807) (Cs : s.cells.length ≤ sc) (Wy : (-9223372036854775808 ≤ y0 ∧ y0 ≤ 9223372036854775807) ∧ (-9223372036854775808 ≤ y1 ∧ y1 ≤ 9223372036854775807) ∧ (-9223372036854775808 ≤ y2 ∧ y2 ≤ 9223372036854775807)) (Wt : -9223372036854775808 ≤ t ∧ t ≤ 9223372036854775807) :
    Calls Tryz.prog 17 #[.agg #[.slice sa s.cells.length sc], .agg #[.int .i64 y0, .int .i64 y1, .int .i64 y2], .int .i64 t] w fun e w' => e = .returned (.bool true) ∧ Below w.heap.size w w' := by
 have hmix : Tryz.prog.follows .mixedOrders = true := by kernel_rfl
 obtain ⟨cells, hcs⟩ : ∃ cs, cs = s.cells := ⟨_, rfl⟩
 rw [← hcs] at Vs Ls Cs ⊢
 clear hcs
 have HV := Lib.hid Vs
 have HAW := Lib.hid awake_any
 have HFW := Lib.hid (fun W (h : Below w.heap.size w W) => few_any cells sa sc 4 W Ls (Vs.keep h) (cells_len Vs))
 have hfs := fldSol
 clear Vs
 go_enter Tryz.func17, Tryz.ntmps17
 go_upto_region 1 with fail
 refine gen_world (fun W => (W.cell? ⟨w.heap.size, 0, none⟩ = some (.slice sa cells.length sc) ∧ W.cell? ⟨w.heap.size + 1, 0, none⟩ = some (.int .i64 y0) ∧ W.cell? ⟨w.heap.size + 1, 1, none⟩ = some (.int .i64 y1) ∧ W.cell? ⟨w.heap.size + 1, 2, none⟩ = some (.int .i64 y2)) ∧ Below w.heap.size w W) ⟨⟨by simp [go_sem], by simp [go_sem], by simp [go_sem], by simp [go_sem]⟩, by repeat (first | (with_reducible assumption) | exact Below.refl _ _ | (refine Below.setCell ?_ (by first | omega | (simp; omega) | (simp; done)) _) | (refine Below.alloc ?_ (by first | omega | (simp; omega) | (simp; done)) _) | (refine Below.drew ?_))⟩ ?_
 rintro W ⟨⟨b0, d0, d1, d2⟩, hb⟩
 have HB0 := Lib.hid hb
 clear hb
 obtain ⟨gw, hgw⟩ : ∃ g, g = w.heap.size := ⟨_, rfl⟩
 have HGW := Lib.hid hgw
 rw [← hgw] at b0 d0 d1 d2 ⊢
 clear hgw
 try simp only [Nat.add_assoc, Nat.reduceAdd]
 go_upto_region 3 with (have h := HAW.out; clear HAW; go_at_call 18; refine (h _).mono ?_; clear h; rintro e w1 ⟨rfl, hb⟩; have b0 := cell_keep hb b0; have d0 := cell_keep hb d0; have d1 := cell_keep hb d1; have d2 := cell_keep hb d2; have HB1 := Lib.hid (HB0.out.trans (hb.mono HB0.out.size)); clear hb)
 by_cases hfw : fewB cells 4 = true
 ·have hl := few_len (by decide) hfw
  have HP := Lib.hid (few_pl hfw)
  rw [hfw] at HFW
  clear hfw
  have HC1 := Lib.hid (fun W (h : Below w.heap.size w W) => copySolid_any cells sa sc W (by omega) (HV.out.keep h) (fun x hx => by have := HP.out x hx; omega))
  have HC2 := Lib.hid (fun W (h : Below w.heap.size w W) => copySolid_any cells sa sc W (by omega) (HV.out.keep h) (fun x hx => by have := HP.out x hx; omega))
  have HCK := Lib.hid (fun W (h : Below w.heap.size w W) => checkR_any cells sa sc W Ls (HV.out.keep h) (fun x hx => by have := HP.out x hx; omega))
  have HMV := Lib.hid (fun W a n (h : Cells.V W a cells) => move_any cells a n ⟨y0, y1, y2⟩ W Ls h (fun x hx => by have := HP.out x hx; omega))
  have HTN := Lib.hid (fun W a n (h : Cells.V W a cells) => turn_any cells a n t W Ls h (fun x hx => by have := HP.out x hx; omega))
  have HUN := Lib.hid (fun W => turned_any ⟨y0, y1, y2⟩ t W)
  have HIT1 := Lib.hid (fun W => isTurnR_any t W)
  have HIT2 := Lib.hid (fun W => isTurnR_any t W)
  have HFA := Lib.hid (fun W => farR_vec ⟨y0, y1, y2⟩ W)
  simp only at HMV HUN HFA
  obtain ⟨MX, hMX⟩ : ∃ V, V = moV cells ⟨y0, y1, y2⟩ := ⟨_, rfl⟩
  obtain ⟨EX, hEX⟩ : ∃ V, V = moE cells ⟨y0, y1, y2⟩ := ⟨_, rfl⟩
  obtain ⟨TX, hTX⟩ : ∃ V, V = turV cells t := ⟨_, rfl⟩
  obtain ⟨FX, hFX⟩ : ∃ V, V = turE cells t := ⟨_, rfl⟩
  obtain ⟨UX, hUX⟩ : ∃ V, V = tuV ⟨y0, y1, y2⟩ t := ⟨_, rfl⟩
  obtain ⟨GX, hGX⟩ : ∃ V, V = tuE ⟨y0, y1, y2⟩ t := ⟨_, rfl⟩
  have HNE := Lib.hid (show ∀ x ∈ MX, x.planes ≠ [] by rw [hMX]; exact moV_ne _ _)
  have HML := Lib.hid (show MX.length ≤ 1000 by have := (moV_len cells ⟨y0, y1, y2⟩).1; rw [hMX]; omega)
  have HMP := Lib.hid (show ∀ x ∈ MX, x.planes.length ≤ 100000 by rw [hMX]; exact (moV_len cells ⟨y0, y1, y2⟩).2 fun x hx => by have := HP.out x hx; omega)
  have HTL := Lib.hid (show TX.length ≤ 1000 by have := (turV_len cells t).1; rw [hTX]; omega)
  have HTP := Lib.hid (show ∀ x ∈ TX, x.planes.length ≤ 100000 by rw [hTX]; exact (turV_len cells t).2 fun x hx => by have := HP.out x hx; omega)
  rw [← hMX, ← hEX] at HMV
  rw [← hTX, ← hFX] at HTN
  rw [← hUX, ← hGX] at HUN
  have HEQ := Lib.hid (And.intro hMX (And.intro hEX (And.intro hTX (And.intro hFX (And.intro hUX hGX)))))
  clear hMX hEX hTX hFX hUX hGX
  go_upto_region 5 with (have h := HFW.out; clear HFW; go_at_call 32; refine (h _ HB1.out).mono ?_; clear h; rintro e w2 ⟨rfl, hb⟩; have b0 := cell_keep hb b0; have d0 := cell_keep hb d0; have d1 := cell_keep hb d1; have d2 := cell_keep hb d2; have HB2 := Lib.hid (HB1.out.trans (hb.mono HB1.out.size)); clear hb)
  refine wp_cut_slots [22, 23, 24, 25, 21, 26, 27, 7, 8] (TnCut w2 MX EX) ?_ ?_
  ·obtain ⟨V, hV⟩ : ∃ V, V = MX := ⟨_, rfl⟩
   rw [← hV] at HMV HNE ⊢
   clear hV HML HMP HTL HTP HEQ
   have kx0 : ∀ y : KW (fun W' => Below w2.heap.size w2 W'), (y.w.cell? ⟨gw, 0, none⟩ = some (.slice sa cells.length sc) ∧ y.w.cell? ⟨gw + 1, 0, none⟩ = some (.int .i64 y0) ∧ y.w.cell? ⟨gw + 1, 1, none⟩ = some (.int .i64 y1) ∧ y.w.cell? ⟨gw + 1, 2, none⟩ = some (.int .i64 y2)) := fun y => ⟨cell_keep y.ok b0, cell_keep y.ok d0, cell_keep y.ok d1, cell_keep y.ok d2⟩
   haveI n1 : Nonempty (KW (fun W' => Below w2.heap.size w2 W')) := ⟨⟨w2, Below.refl _ _⟩⟩
   refine wp_region_tree (fun w' => ∃ y : KW (fun W' => Below w2.heap.size w2 W'), w' = y.w) 9 (.take 0 (.take 2 (.two 1 (.two 3 (.take 4 (.take 5 (.take 6 (.one 7 (.one 8 .done))))) 7 (.one 3 (.take 4 (.take 5 (.take 6 (.one 8 .done)))))) 7 (.one 1 (.one 3 (.take 4 (.take 5 (.take 6 (.one 8 .done))))))))) hmix (by kernel_rfl) (KW.mk' (Below.refl _ _).drew) ?_
   have HC := Lib.hid (show Below w2.heap.size w2 w2.drew from (Below.refl _ _).drew)
   generalize w2.drew = wz at *
   (refine wpTree_take ?_; simp only [nthOp]; (first | go_big_quiet_step (fail) | quiet_step (fail)); refine wpQuiet_nil ?_)
   (refine wpTree_take ?_; simp only [nthOp]; (first | go_big_quiet_step (fail) | quiet_step (fail)); refine wpQuiet_nil ?_)
   refine wpTree_two ?_ ?_
   ·skip
    simp only [nthOp]
    go_wp2_with (go_at_call 34; refine (HC1.out _ (HB2.out.trans (HC.out.mono HB2.out.size))).mono ?_; rintro e wt1 ⟨ua, un, rfl, hcv, -, hb⟩; have HXA := Lib.hid hcv; have HC := Lib.hid (HC.out.trans (hb.mono HC.out.size)); clear hcv hb)
    refine One_mk (KW.mk' HC.out) ?_
    refine wpTree_two ?_ ?_
    ·skip
     simp only [nthOp]
     have HQ := Lib.hid (HMV.out wt1 ua un HXA.out)
     go_wp2_with (go_at_call 70; refine HQ.out.mono ?_; rintro e wt2 ⟨ka, kc, rfl, hkv, hb⟩; have HXA := Lib.hid (HXA.out.keep hb); have HKV := Lib.hid hkv; have HC := Lib.hid (HC.out.trans (hb.mono HC.out.size)); clear hkv hb)
     refine One_mk (KW.mk' HC.out) ?_
     clear HQ
     (refine wpTree_take ?_; simp only [nthOp]; (first | go_big_quiet_step (fail) | quiet_step (fail)); refine wpQuiet_nil ?_)
     (refine wpTree_take ?_; simp only [nthOp]; (first | go_big_quiet_step (fail) | quiet_step (fail)); refine wpQuiet_nil ?_)
     (refine wpTree_take ?_; simp only [nthOp]; (first | go_big_quiet_step (fail) | quiet_step (fail)); refine wpQuiet_nil ?_)
     refine wpTree_one ?_
     simp only [nthOp]
     go_wp2_with fail
     have hal := (Below.refl wt2.heap.size wt2).alloc (Nat.le_refl _) (.cells #[.slice none 0 0] 48)
     have HXA := Lib.hid (HXA.out.keep hal)
     have HKV := Lib.hid (HKV.out.keep hal)
     have HZ := Lib.hid (show (wt2.alloc (.cells #[.slice none 0 0] 48)).cell? ⟨wt2.heap.size, 0, none⟩ = some (.slice none ([] : List Cell).length 0) ∧ (wt2.alloc (.cells #[.slice none 0 0] 48)).frozen? ⟨wt2.heap.size, 0, none⟩ = false from ⟨by simp [go_sem], by simp [go_sem]⟩)
     have HGZ := Lib.hid HC.out.size
     have HC := Lib.hid (HC.out.alloc HC.out.size (.cells #[.slice none 0 0] 48))
     refine One_mk (KW.mk' HC.out) ?_
     clear hal
     generalize (wt2.alloc (.cells #[.slice none 0 0] 48)) = wt3 at *
     generalize wt2.heap.size = gz at *
     refine wpTree_one ?_
     simp only [nthOp]
     obtain ⟨z0, zf0⟩ := HZ.out
     have z0' := z0
     simp only [List.length_nil] at z0'
     go_wp2_with fail
     have HK := Lib.hid (got1 z0 (.slice ka V.length kc))
     have HKF := Lib.hid (show (wt3.setCell ⟨gz, 0, none⟩ (.slice ka V.length kc)).frozen? ⟨gz, 0, none⟩ = false by rw [frozen_set]; exact zf0)
     have HKV := Lib.hid (cells_set HKV.out HNE.out z0 (fun hn => absurd rfl hn) (.slice ka V.length kc))
     have HC := Lib.hid (HC.out.setCell (p := ⟨gz, 0, none⟩) HGZ.out (.slice ka V.length kc))
     clear z0 z0' zf0
     refine One_mk (KW.mk' HC.out) ?_
     generalize (wt3.setCell ⟨gz, 0, none⟩ (.slice ka V.length kc)) = wt4 at *
     refine wpTree_done ?_
     simp only [List.drop_succ_cons, List.drop_zero]
     go_wp2_with fail
     refine NP_mk ?_
     exact cut_meet (by simp [forget]) ⟨gz, ka, kc, rfl, rfl, HK.out, HKV.out, HC.out⟩
    ·skip
     simp only [nthOp]
     go_wp2_with fail
     have hal := (Below.refl wt1.heap.size wt1).alloc (Nat.le_refl _) (.cells #[.slice none 0 0] 48)
     have HXA := Lib.hid (HXA.out.keep hal)
     have HZ := Lib.hid (show (wt1.alloc (.cells #[.slice none 0 0] 48)).cell? ⟨wt1.heap.size, 0, none⟩ = some (.slice none ([] : List Cell).length 0) ∧ (wt1.alloc (.cells #[.slice none 0 0] 48)).frozen? ⟨wt1.heap.size, 0, none⟩ = false from ⟨by simp [go_sem], by simp [go_sem]⟩)
     have HGZ := Lib.hid HC.out.size
     have HC := Lib.hid (HC.out.alloc HC.out.size (.cells #[.slice none 0 0] 48))
     refine One_mk (KW.mk' HC.out) ?_
     clear hal
     generalize (wt1.alloc (.cells #[.slice none 0 0] 48)) = wt5 at *
     generalize wt1.heap.size = gz at *
     refine wpTree_one ?_
     simp only [nthOp]
     have HQ := Lib.hid (HMV.out wt5 ua un HXA.out)
     go_wp2_with (go_at_call 70; refine HQ.out.mono ?_; rintro e wt6 ⟨ka, kc, rfl, hkv, hb⟩; have HXA := Lib.hid (HXA.out.keep hb); have HZ := Lib.hid (And.intro (cell_keep hb HZ.out.1) (frozen_keep hb (block_lt_of_cell HZ.out.1) HZ.out.2)); have HKV := Lib.hid hkv; have HC := Lib.hid (HC.out.trans (hb.mono HC.out.size)); clear hkv hb)
     refine One_mk (KW.mk' HC.out) ?_
     clear HQ
     (refine wpTree_take ?_; simp only [nthOp]; (first | go_big_quiet_step (fail) | quiet_step (fail)); refine wpQuiet_nil ?_)
     (refine wpTree_take ?_; simp only [nthOp]; (first | go_big_quiet_step (fail) | quiet_step (fail)); refine wpQuiet_nil ?_)
     (refine wpTree_take ?_; simp only [nthOp]; (first | go_big_quiet_step (fail) | quiet_step (fail)); refine wpQuiet_nil ?_)
     refine wpTree_one ?_
     simp only [nthOp]
     obtain ⟨z0, zf0⟩ := HZ.out
     have z0' := z0
     simp only [List.length_nil] at z0'
     go_wp2_with fail
     have HK := Lib.hid (got1 z0 (.slice ka V.length kc))
     have HKF := Lib.hid (show (wt6.setCell ⟨gz, 0, none⟩ (.slice ka V.length kc)).frozen? ⟨gz, 0, none⟩ = false by rw [frozen_set]; exact zf0)
     have HKV := Lib.hid (cells_set HKV.out HNE.out z0 (fun hn => absurd rfl hn) (.slice ka V.length kc))
     have HC := Lib.hid (HC.out.setCell (p := ⟨gz, 0, none⟩) HGZ.out (.slice ka V.length kc))
     clear z0 z0' zf0
     refine One_mk (KW.mk' HC.out) ?_
     generalize (wt6.setCell ⟨gz, 0, none⟩ (.slice ka V.length kc)) = wt7 at *
     refine wpTree_done ?_
     simp only [List.drop_succ_cons, List.drop_zero]
     go_wp2_with fail
     refine NP_mk ?_
     exact cut_meet (by simp [forget]) ⟨gz, ka, kc, rfl, rfl, HK.out, HKV.out, HC.out⟩
   ·skip
    simp only [nthOp]
    go_wp2_with fail
    have hal := (Below.refl wz.heap.size wz).alloc (Nat.le_refl _) (.cells #[.slice none 0 0] 48)
    have HZ := Lib.hid (show (wz.alloc (.cells #[.slice none 0 0] 48)).cell? ⟨wz.heap.size, 0, none⟩ = some (.slice none ([] : List Cell).length 0) ∧ (wz.alloc (.cells #[.slice none 0 0] 48)).frozen? ⟨wz.heap.size, 0, none⟩ = false from ⟨by simp [go_sem], by simp [go_sem]⟩)
    have HGZ := Lib.hid HC.out.size
    have HC := Lib.hid (HC.out.alloc HC.out.size (.cells #[.slice none 0 0] 48))
    refine One_mk (KW.mk' HC.out) ?_
    clear hal
    generalize (wz.alloc (.cells #[.slice none 0 0] 48)) = wt8 at *
    generalize wz.heap.size = gz at *
    refine wpTree_one ?_
    simp only [nthOp]
    go_wp2_with (go_at_call 34; refine (HC1.out _ (HB2.out.trans (HC.out.mono HB2.out.size))).mono ?_; rintro e wt9 ⟨ua, un, rfl, hcv, -, hb⟩; have HZ := Lib.hid (And.intro (cell_keep hb HZ.out.1) (frozen_keep hb (block_lt_of_cell HZ.out.1) HZ.out.2)); have HXA := Lib.hid hcv; have HC := Lib.hid (HC.out.trans (hb.mono HC.out.size)); clear hcv hb)
    refine One_mk (KW.mk' HC.out) ?_
    refine wpTree_one ?_
    simp only [nthOp]
    have HQ := Lib.hid (HMV.out wt9 ua un HXA.out)
    go_wp2_with (go_at_call 70; refine HQ.out.mono ?_; rintro e wt10 ⟨ka, kc, rfl, hkv, hb⟩; have HXA := Lib.hid (HXA.out.keep hb); have HZ := Lib.hid (And.intro (cell_keep hb HZ.out.1) (frozen_keep hb (block_lt_of_cell HZ.out.1) HZ.out.2)); have HKV := Lib.hid hkv; have HC := Lib.hid (HC.out.trans (hb.mono HC.out.size)); clear hkv hb)
    refine One_mk (KW.mk' HC.out) ?_
    clear HQ
    (refine wpTree_take ?_; simp only [nthOp]; (first | go_big_quiet_step (fail) | quiet_step (fail)); refine wpQuiet_nil ?_)
    (refine wpTree_take ?_; simp only [nthOp]; (first | go_big_quiet_step (fail) | quiet_step (fail)); refine wpQuiet_nil ?_)
    (refine wpTree_take ?_; simp only [nthOp]; (first | go_big_quiet_step (fail) | quiet_step (fail)); refine wpQuiet_nil ?_)
    refine wpTree_one ?_
    simp only [nthOp]
    obtain ⟨z0, zf0⟩ := HZ.out
    have z0' := z0
    simp only [List.length_nil] at z0'
    go_wp2_with fail
    have HK := Lib.hid (got1 z0 (.slice ka V.length kc))
    have HKF := Lib.hid (show (wt10.setCell ⟨gz, 0, none⟩ (.slice ka V.length kc)).frozen? ⟨gz, 0, none⟩ = false by rw [frozen_set]; exact zf0)
    have HKV := Lib.hid (cells_set HKV.out HNE.out z0 (fun hn => absurd rfl hn) (.slice ka V.length kc))
    have HC := Lib.hid (HC.out.setCell (p := ⟨gz, 0, none⟩) HGZ.out (.slice ka V.length kc))
    clear z0 z0' zf0
    refine One_mk (KW.mk' HC.out) ?_
    generalize (wt10.setCell ⟨gz, 0, none⟩ (.slice ka V.length kc)) = wt11 at *
    refine wpTree_done ?_
    simp only [List.drop_succ_cons, List.drop_zero]
    go_wp2_with fail
    refine NP_mk ?_
    exact cut_meet (by simp [forget]) ⟨gz, ka, kc, rfl, rfl, HK.out, HKV.out, HC.out⟩
  rintro u W5 ⟨g7, ma, mc, hu7, hu8, m0, hmv, hb⟩
  have HMA := Lib.hid hmv
  have b0 := cell_keep hb b0
  have d0 := cell_keep hb d0
  have d1 := cell_keep hb d1
  have d2 := cell_keep hb d2
  have HB5 := Lib.hid (HB2.out.trans (hb.mono HB2.out.size))
  simp only [forget, List.foldl_cons, List.foldl_nil, hu7, hu8, List.setIfInBounds_toArray, List.set_cons_succ, List.set_cons_zero]
  clear hu7 hu8 hmv hb HC1 HMV
  go_upto_region 7 with (first | (have h := HC2.out; clear HC2; go_at_call 34; refine (h _ HB5.out).mono ?_; clear h; rintro e w6 ⟨xa, xc, rfl, hcv, -, hb⟩; have b0 := cell_keep hb b0; have d0 := cell_keep hb d0; have d1 := cell_keep hb d1; have d2 := cell_keep hb d2; have m0 := cell_keep hb m0; have HMA := Lib.hid (HMA.out.keep hb); have HB6 := Lib.hid (HB5.out.trans (hb.mono HB5.out.size)); have HXA := Lib.hid hcv; clear hcv; clear hb) | (have h := HTN.out; clear HTN; go_at_call 71; refine (h _ _ _ HXA.out).mono ?_; clear h; rintro e w7 ⟨ta, tc, rfl, htv, hb⟩; have b0 := cell_keep hb b0; have d0 := cell_keep hb d0; have d1 := cell_keep hb d1; have d2 := cell_keep hb d2; have m0 := cell_keep hb m0; have HMA := Lib.hid (HMA.out.keep hb); have HB7 := Lib.hid (HB6.out.trans (hb.mono HB6.out.size)); have HTA := Lib.hid htv; clear htv; clear hb))
  refine gen_world (fun W => W.cell? ⟨w7.heap.size, 0, none⟩ = some (.slice ta TX.length tc) ∧ Below w7.heap.size w7 W) ⟨by simp [go_sem], by repeat (first | (with_reducible assumption) | exact Below.refl _ _ | (refine Below.setCell ?_ (by first | omega | (simp; omega) | (simp; done)) _) | (refine Below.alloc ?_ (by first | omega | (simp; omega) | (simp; done)) _) | (refine Below.drew ?_))⟩ ?_
  rintro W7 ⟨t0, hb⟩
  have b0 := cell_keep hb b0
  have d0 := cell_keep hb d0
  have d1 := cell_keep hb d1
  have d2 := cell_keep hb d2
  have m0 := cell_keep hb m0
  have HMA := Lib.hid (HMA.out.keep hb)
  have HTA := Lib.hid (HTA.out.keep hb)
  have HB8 := Lib.hid (HB7.out.trans (hb.mono HB7.out.size))
  obtain ⟨g9, hg9⟩ : ∃ g, g = w7.heap.size := ⟨_, rfl⟩
  rw [← hg9] at t0 ⊢
  clear hb hg9
  go_upto_region 8 with (have h := HUN.out; clear HUN; go_at_call 69; refine (h _).mono ?_; clear h; rintro e w8 ⟨rfl, hb⟩; have b0 := cell_keep hb b0; have d0 := cell_keep hb d0; have d1 := cell_keep hb d1; have d2 := cell_keep hb d2; have m0 := cell_keep hb m0; have HMA := Lib.hid (HMA.out.keep hb); have t0 := cell_keep hb t0; have HTA := Lib.hid (HTA.out.keep hb); have HB9 := Lib.hid (HB8.out.trans (hb.mono HB8.out.size)); clear hb)
  refine gen_world (fun W => (W.cell? ⟨w8.heap.size, 0, none⟩ = some (.int .i64 UX.x) ∧ W.cell? ⟨w8.heap.size, 1, none⟩ = some (.int .i64 UX.y) ∧ W.cell? ⟨w8.heap.size, 2, none⟩ = some (.int .i64 UX.z)) ∧ Below w8.heap.size w8 W) ⟨⟨by simp [go_sem], by simp [go_sem], by simp [go_sem]⟩, by repeat (first | (with_reducible assumption) | exact Below.refl _ _ | (refine Below.setCell ?_ (by first | omega | (simp; omega) | (simp; done)) _) | (refine Below.alloc ?_ (by first | omega | (simp; omega) | (simp; done)) _) | (refine Below.drew ?_))⟩ ?_
  rintro W9 ⟨⟨u0, u1, u2⟩, hb⟩
  have b0 := cell_keep hb b0
  have d0 := cell_keep hb d0
  have d1 := cell_keep hb d1
  have d2 := cell_keep hb d2
  have m0 := cell_keep hb m0
  have HMA := Lib.hid (HMA.out.keep hb)
  have t0 := cell_keep hb t0
  have HTA := Lib.hid (HTA.out.keep hb)
  have HB10 := Lib.hid (HB9.out.trans (hb.mono HB9.out.size))
  obtain ⟨g11, hg11⟩ : ∃ g, g = w8.heap.size := ⟨_, rfl⟩
  rw [← hg11] at u0 u1 u2 ⊢
  clear hb hg11
  rcases Bool.eq_false_or_eq_true (withinB t 0 47) with hit | hit
  ·rw [hit] at HIT1 HIT2
   rcases Bool.eq_false_or_eq_true (farB ⟨y0, y1, y2⟩) with hf | hf
   ·rw [hf] at HFA
    obtain ⟨-, -, -, -, hUX, hGX⟩ := HEQ.out
    have e1 : GX = 2 := by rw [hGX]; unfold tuE; rw [hit, hf]; rfl
    have e2 : UX = v0 := by rw [hUX]; unfold tuV; rw [← hGX, e1]; rfl
    clear hUX hGX hf
    subst e1
    subst e2
    simp only [v0] at u0 u1 u2
    have hNZ := Arr_neq ⟨0, 0, 0⟩ ⟨0, 0, 0⟩
    simp only [decide_true, Bool.not_true] at hNZ
    go_upto_region 13 with (first | (have h := HIT1.out; clear HIT1; go_at_call 66; refine (h _).mono ?_; clear h; rintro e w11 ⟨rfl, hb⟩; have b0 := cell_keep hb b0; have d0 := cell_keep hb d0; have d1 := cell_keep hb d1; have d2 := cell_keep hb d2; have m0 := cell_keep hb m0; have HMA := Lib.hid (HMA.out.keep hb); have t0 := cell_keep hb t0; have HTA := Lib.hid (HTA.out.keep hb); have u0 := cell_keep hb u0; have u1 := cell_keep hb u1; have u2 := cell_keep hb u2; have HB11 := Lib.hid (HB10.out.trans (hb.mono HB10.out.size)); clear hb) | (have h := HFA.out; clear HFA; go_at_call 68; refine (h _).mono ?_; clear h; rintro e w12 ⟨rfl, hb⟩; have b0 := cell_keep hb b0; have d0 := cell_keep hb d0; have d1 := cell_keep hb d1; have d2 := cell_keep hb d2; have m0 := cell_keep hb m0; have HMA := Lib.hid (HMA.out.keep hb); have t0 := cell_keep hb t0; have HTA := Lib.hid (HTA.out.keep hb); have u0 := cell_keep hb u0; have u1 := cell_keep hb u1; have u2 := cell_keep hb u2; have HB12 := Lib.hid (HB11.out.trans (hb.mono HB11.out.size)); clear hb))
    clear u0 u1 u2 hNZ
    obtain ⟨hMX, hEX, hTX, hFX, -, -⟩ := HEQ.out
    by_cases h0 : solE cells = 0
    ·rw [h0] at HCK
     obtain ⟨ev, ee⟩ := moV_sol (b := ⟨y0, y1, y2⟩) h0
     have HRM := Lib.hid (fun W (h : Below w.heap.size w W) => moveR_any cells sa sc ⟨y0, y1, y2⟩ W (HV.out.keep h) h0)
     rw [← ev, ← ee, ← hMX, ← hEX] at HRM
     simp only at HRM
     have HRT := Lib.hid (fun W (h : Below w.heap.size w W) => turnR_any cells sa sc t W (HV.out.keep h) h0 (withinB_true hit))
     have e2 : turE cells t = 0 := by unfold turE; rw [if_neg (by simpa using h0), if_pos hit]
     have e1 : turV cells t = trX (trnN t) cells := by unfold turV; rw [if_pos e2]
     rw [← e1, ← hTX] at HRT
     rw [← hFX] at e2
     subst e2
     clear ev ee h0 hMX hEX hTX hFX e1
     go_upto_region 16 with (have h := HCK.out; clear HCK; go_at_call 43; refine (h _ HB12.out).mono ?_; clear h; rintro e w13 ⟨rfl, hb⟩; have b0 := cell_keep hb b0; have d0 := cell_keep hb d0; have d1 := cell_keep hb d1; have d2 := cell_keep hb d2; have m0 := cell_keep hb m0; have HMA := Lib.hid (HMA.out.keep hb); have t0 := cell_keep hb t0; have HTA := Lib.hid (HTA.out.keep hb); have HB13 := Lib.hid (HB12.out.trans (hb.mono HB12.out.size)); clear hb)
     go_upto_region 17 with (have h := HRM.out; clear HRM; go_at_call 73; refine (h _ HB13.out).mono ?_; clear h; rintro e w16 ⟨na, nc, rfl, hnv, hb⟩; have b0 := cell_keep hb b0; have d0 := cell_keep hb d0; have d1 := cell_keep hb d1; have d2 := cell_keep hb d2; have m0 := cell_keep hb m0; have HMA := Lib.hid (HMA.out.keep hb); have t0 := cell_keep hb t0; have HTA := Lib.hid (HTA.out.keep hb); have HB16 := Lib.hid (HB13.out.trans (hb.mono HB13.out.size)); have HNA := Lib.hid hnv; clear hnv; clear hb)
     refine gen_world (fun W => W.cell? ⟨w16.heap.size, 0, none⟩ = some (.slice na MX.length nc) ∧ Below w16.heap.size w16 W) ⟨by simp [go_sem], by repeat (first | (with_reducible assumption) | exact Below.refl _ _ | (refine Below.setCell ?_ (by first | omega | (simp; omega) | (simp; done)) _) | (refine Below.alloc ?_ (by first | omega | (simp; omega) | (simp; done)) _) | (refine Below.drew ?_))⟩ ?_
     rintro W17 ⟨n0, hb⟩
     have b0 := cell_keep hb b0
     have d0 := cell_keep hb d0
     have d1 := cell_keep hb d1
     have d2 := cell_keep hb d2
     have m0 := cell_keep hb m0
     have HMA := Lib.hid (HMA.out.keep hb)
     have t0 := cell_keep hb t0
     have HTA := Lib.hid (HTA.out.keep hb)
     have HNA := Lib.hid (HNA.out.keep hb)
     have HB17 := Lib.hid (HB16.out.trans (hb.mono HB16.out.size))
     obtain ⟨g14, hg14⟩ : ∃ g, g = w16.heap.size := ⟨_, rfl⟩
     rw [← hg14] at n0 ⊢
     clear hb hg14
     have HSM := Lib.hid (fun W (h : Below W17.heap.size W17 W) => sameSelf MX ma na mc nc W HML.out HMP.out (HMA.out.keep h) (HNA.out.keep h))
     have hee : (EX != EX) = false := by simp
     have hee2 : (EX == EX) = true := by simp
     go_upto_region 19 with (have h := HSM.out; clear HSM; go_at_call 58; refine (h _ (Below.refl _ _)).mono ?_; clear h; rintro e w18 ⟨rfl, hb⟩; have b0 := cell_keep hb b0; have d0 := cell_keep hb d0; have d1 := cell_keep hb d1; have d2 := cell_keep hb d2; have m0 := cell_keep hb m0; have HMA := Lib.hid (HMA.out.keep hb); have t0 := cell_keep hb t0; have HTA := Lib.hid (HTA.out.keep hb); have HB18 := Lib.hid (HB17.out.trans (hb.mono HB17.out.size)); clear hb)
     go_upto_region 21 with (have h := HIT2.out; clear HIT2; go_at_call 66; refine (h _).mono ?_; clear h; rintro e w19 ⟨rfl, hb⟩; have b0 := cell_keep hb b0; have d0 := cell_keep hb d0; have d1 := cell_keep hb d1; have d2 := cell_keep hb d2; have m0 := cell_keep hb m0; have HMA := Lib.hid (HMA.out.keep hb); have t0 := cell_keep hb t0; have HTA := Lib.hid (HTA.out.keep hb); have HB19 := Lib.hid (HB18.out.trans (hb.mono HB18.out.size)); clear hb)
     have kx0 : ∀ y : KW (fun W' => Below w19.heap.size w19 W'), (y.w.cell? ⟨gw, 0, none⟩ = some (.slice sa cells.length sc) ∧ y.w.cell? ⟨g9, 0, none⟩ = some (.slice ta TX.length tc)) := fun y => ⟨cell_keep y.ok b0, cell_keep y.ok t0⟩
     haveI n1 : Nonempty (KW (fun W' => Below w19.heap.size w19 W')) := ⟨⟨w19, Below.refl _ _⟩⟩
     refine wp_region_tree (fun w' => ∃ y : KW (fun W' => Below w19.heap.size w19 W'), w' = y.w) 7 (.take 0 (.take 1 (.take 2 (.take 3 (.take 4 (.take 5 (.one 6 .done))))))) hmix (by kernel_rfl) (KW.mk' (Below.refl _ _).drew) ?_
     have HC := Lib.hid (show Below w19.heap.size w19 w19.drew from (Below.refl _ _).drew)
     generalize w19.drew = wz at *
     repeat (refine wpTree_take ?_; simp only [nthOp]; (first | go_big_quiet_step (fail) | quiet_step (fail)); refine wpQuiet_nil ?_)
     refine wpTree_one ?_
     simp only [nthOp]
     go_wp2_with (go_at_call 74; refine (HRT.out _ (HB19.out.trans (HC.out.mono HB19.out.size))).mono ?_; rintro e w20 ⟨pa, pc, rfl, hpv, hb⟩; have HPV := Lib.hid hpv; have HC := Lib.hid (HC.out.trans (hb.mono HC.out.size)); clear hb hpv)
     refine One_mk (KW.mk' HC.out) ?_
     have HST := Lib.hid (sameSelf TX ta pa tc pc w20 HTL.out HTP.out (HTA.out.keep HC.out) HPV.out)
     clear kx0 n1
     refine wpTree_done ?_
     simp only [List.drop_succ_cons, List.drop_zero]
     go_wp2_with (go_at_call 58; refine HST.out.mono ?_; rintro e w21 ⟨rfl, hb⟩; have HC := Lib.hid (HC.out.trans (hb.mono HC.out.size)); clear hb)
     refine NP_mk ?_
     go_wp2_with fail
     go_ret
     exact ⟨rfl, HB19.out.trans (HC.out.mono HB19.out.size)⟩
    ·have e1 : moE cells ⟨y0, y1, y2⟩ = solE cells := by unfold moE; rw [if_pos h0]
     have e2 : moV cells ⟨y0, y1, y2⟩ = [] := by unfold moV; rw [if_neg (by rw [e1]; exact h0)]
     have e3 : turE cells t = solE cells := by unfold turE; rw [if_pos h0]
     have e4 : turV cells t = [] := by unfold turV; rw [if_neg (by rw [e3]; exact h0)]
     rw [← hEX] at e1
     rw [← hMX] at e2
     rw [← hFX] at e3
     rw [← hTX] at e4
     clear hMX hEX hTX hFX
     subst e2 e4
     have hd1 : (solE cells != 0) = true := by simpa using h0
     have hd2 : (solE cells == 0) = false := by simpa using h0
     generalize solE cells = D at *
     subst e1 e3
     have hdd : (FX == FX) = true := by simp
     simp only [List.length_nil] at m0 t0
     go_wp2_with (have h := HCK.out; clear HCK; go_at_call 43; refine (h _ HB12.out).mono ?_; clear h; rintro e w13 ⟨rfl, hb⟩; have b0 := cell_keep hb b0; have d0 := cell_keep hb d0; have d1 := cell_keep hb d1; have d2 := cell_keep hb d2; have m0 := cell_keep hb m0; have HMA := Lib.hid (HMA.out.keep hb); have t0 := cell_keep hb t0; have HTA := Lib.hid (HTA.out.keep hb); have HB13 := Lib.hid (HB12.out.trans (hb.mono HB12.out.size)); clear hb)
     go_ret
     exact ⟨rfl, HB13.out⟩
   ·rw [hf] at HFA
    obtain ⟨-, -, -, -, hUX, hGX⟩ := HEQ.out
    have e1 : GX = 0 := by rw [hGX]; unfold tuE; rw [hit, hf]; rfl
    have e2 : UX = ofT (trnN t) ⟨y0, y1, y2⟩ := by rw [hUX]; unfold tuV; rw [← hGX, e1]; rfl
    have HRN := Lib.hid (fun W => turnedR_any ⟨y0, y1, y2⟩ t (withinB_true hit) ((farB_in.1 hf).mono (by decide)) W)
    rw [← e2] at HRN
    simp only at HRN
    clear hUX hGX hf e2
    subst e1
    have hNZ := Arr_neq UX UX
    simp only [decide_true, Bool.not_true] at hNZ
    go_upto_region 11 with (first | (have h := HIT1.out; clear HIT1; go_at_call 66; refine (h _).mono ?_; clear h; rintro e w11 ⟨rfl, hb⟩; have b0 := cell_keep hb b0; have d0 := cell_keep hb d0; have d1 := cell_keep hb d1; have d2 := cell_keep hb d2; have m0 := cell_keep hb m0; have HMA := Lib.hid (HMA.out.keep hb); have t0 := cell_keep hb t0; have HTA := Lib.hid (HTA.out.keep hb); have u0 := cell_keep hb u0; have u1 := cell_keep hb u1; have u2 := cell_keep hb u2; have HB11 := Lib.hid (HB10.out.trans (hb.mono HB10.out.size)); clear hb) | (have h := HFA.out; clear HFA; go_at_call 68; refine (h _).mono ?_; clear h; rintro e wB ⟨rfl, hb⟩; have b0 := cell_keep hb b0; have d0 := cell_keep hb d0; have d1 := cell_keep hb d1; have d2 := cell_keep hb d2; have m0 := cell_keep hb m0; have HMA := Lib.hid (HMA.out.keep hb); have t0 := cell_keep hb t0; have HTA := Lib.hid (HTA.out.keep hb); have u0 := cell_keep hb u0; have u1 := cell_keep hb u1; have u2 := cell_keep hb u2; have HBB := Lib.hid (HB11.out.trans (hb.mono HB11.out.size)); clear hb))
    have kx0 : ∀ y : KW (fun W' => Below wB.heap.size wB W'), (y.w.cell? ⟨g11, 0, none⟩ = some (.int .i64 UX.x) ∧ y.w.cell? ⟨g11, 1, none⟩ = some (.int .i64 UX.y) ∧ y.w.cell? ⟨g11, 2, none⟩ = some (.int .i64 UX.z)) := fun y => ⟨cell_keep y.ok u0, cell_keep y.ok u1, cell_keep y.ok u2⟩
    have kx1 : ∀ y : KW (fun W' => Below wB.heap.size wB W'), (y.w.cell? ⟨gw + 1, 0, none⟩ = some (.int .i64 y0) ∧ y.w.cell? ⟨gw + 1, 1, none⟩ = some (.int .i64 y1) ∧ y.w.cell? ⟨gw + 1, 2, none⟩ = some (.int .i64 y2)) := fun y => ⟨cell_keep y.ok d0, cell_keep y.ok d1, cell_keep y.ok d2⟩
    haveI n1 : Nonempty (KW (fun W' => Below wB.heap.size wB W')) := ⟨⟨wB, Below.refl _ _⟩⟩
    refine wp_region_tree (fun w' => ∃ y : KW (fun W' => Below wB.heap.size wB W'), w' = y.w) 7 (.take 0 (.take 1 (.take 2 (.take 3 (.take 4 (.take 5 (.one 6 .done))))))) hmix (by kernel_rfl) (KW.mk' (Below.refl _ _).drew) ?_
    have HC := Lib.hid (show Below wB.heap.size wB wB.drew from (Below.refl _ _).drew)
    generalize wB.drew = wz at *
    repeat (refine wpTree_take ?_; simp only [nthOp]; (first | go_big_quiet_step (fail) | quiet_step (fail)); refine wpQuiet_nil ?_)
    refine wpTree_one ?_
    simp only [nthOp]
    go_wp2_with (go_at_call 72; refine (HRN.out _).mono ?_; rintro e w12 ⟨rfl, hb⟩; have HC := Lib.hid (HC.out.trans (hb.mono HC.out.size)); clear hb)
    refine One_mk (KW.mk' HC.out) ?_
    have hb := HC.out
    have b0 := cell_keep hb b0
    have d0 := cell_keep hb d0
    have d1 := cell_keep hb d1
    have d2 := cell_keep hb d2
    have m0 := cell_keep hb m0
    have HMA := Lib.hid (HMA.out.keep hb)
    have t0 := cell_keep hb t0
    have HTA := Lib.hid (HTA.out.keep hb)
    have HB12 := Lib.hid (HBB.out.trans (hb.mono HBB.out.size))
    clear kx0 kx1 n1 hb u0 u1 u2
    refine wpTree_done ?_
    simp only [List.drop_succ_cons, List.drop_zero]
    go_wp2_with fail
    refine NP_mk ?_
    go_upto_region 13 with fail
    clear hNZ
    obtain ⟨hMX, hEX, hTX, hFX, -, -⟩ := HEQ.out
    by_cases h0 : solE cells = 0
    ·rw [h0] at HCK
     obtain ⟨ev, ee⟩ := moV_sol (b := ⟨y0, y1, y2⟩) h0
     have HRM := Lib.hid (fun W (h : Below w.heap.size w W) => moveR_any cells sa sc ⟨y0, y1, y2⟩ W (HV.out.keep h) h0)
     rw [← ev, ← ee, ← hMX, ← hEX] at HRM
     simp only at HRM
     have HRT := Lib.hid (fun W (h : Below w.heap.size w W) => turnR_any cells sa sc t W (HV.out.keep h) h0 (withinB_true hit))
     have e2 : turE cells t = 0 := by unfold turE; rw [if_neg (by simpa using h0), if_pos hit]
     have e1 : turV cells t = trX (trnN t) cells := by unfold turV; rw [if_pos e2]
     rw [← e1, ← hTX] at HRT
     rw [← hFX] at e2
     subst e2
     clear ev ee h0 hMX hEX hTX hFX e1
     go_upto_region 16 with (have h := HCK.out; clear HCK; go_at_call 43; refine (h _ HB12.out).mono ?_; clear h; rintro e w13 ⟨rfl, hb⟩; have b0 := cell_keep hb b0; have d0 := cell_keep hb d0; have d1 := cell_keep hb d1; have d2 := cell_keep hb d2; have m0 := cell_keep hb m0; have HMA := Lib.hid (HMA.out.keep hb); have t0 := cell_keep hb t0; have HTA := Lib.hid (HTA.out.keep hb); have HB13 := Lib.hid (HB12.out.trans (hb.mono HB12.out.size)); clear hb)
     go_upto_region 17 with (have h := HRM.out; clear HRM; go_at_call 73; refine (h _ HB13.out).mono ?_; clear h; rintro e w16 ⟨na, nc, rfl, hnv, hb⟩; have b0 := cell_keep hb b0; have d0 := cell_keep hb d0; have d1 := cell_keep hb d1; have d2 := cell_keep hb d2; have m0 := cell_keep hb m0; have HMA := Lib.hid (HMA.out.keep hb); have t0 := cell_keep hb t0; have HTA := Lib.hid (HTA.out.keep hb); have HB16 := Lib.hid (HB13.out.trans (hb.mono HB13.out.size)); have HNA := Lib.hid hnv; clear hnv; clear hb)
     refine gen_world (fun W => W.cell? ⟨w16.heap.size, 0, none⟩ = some (.slice na MX.length nc) ∧ Below w16.heap.size w16 W) ⟨by simp [go_sem], by repeat (first | (with_reducible assumption) | exact Below.refl _ _ | (refine Below.setCell ?_ (by first | omega | (simp; omega) | (simp; done)) _) | (refine Below.alloc ?_ (by first | omega | (simp; omega) | (simp; done)) _) | (refine Below.drew ?_))⟩ ?_
     rintro W17 ⟨n0, hb⟩
     have b0 := cell_keep hb b0
     have d0 := cell_keep hb d0
     have d1 := cell_keep hb d1
     have d2 := cell_keep hb d2
     have m0 := cell_keep hb m0
     have HMA := Lib.hid (HMA.out.keep hb)
     have t0 := cell_keep hb t0
     have HTA := Lib.hid (HTA.out.keep hb)
     have HNA := Lib.hid (HNA.out.keep hb)
     have HB17 := Lib.hid (HB16.out.trans (hb.mono HB16.out.size))
     obtain ⟨g14, hg14⟩ : ∃ g, g = w16.heap.size := ⟨_, rfl⟩
     rw [← hg14] at n0 ⊢
     clear hb hg14
     have HSM := Lib.hid (fun W (h : Below W17.heap.size W17 W) => sameSelf MX ma na mc nc W HML.out HMP.out (HMA.out.keep h) (HNA.out.keep h))
     have hee : (EX != EX) = false := by simp
     have hee2 : (EX == EX) = true := by simp
     go_upto_region 19 with (have h := HSM.out; clear HSM; go_at_call 58; refine (h _ (Below.refl _ _)).mono ?_; clear h; rintro e w18 ⟨rfl, hb⟩; have b0 := cell_keep hb b0; have d0 := cell_keep hb d0; have d1 := cell_keep hb d1; have d2 := cell_keep hb d2; have m0 := cell_keep hb m0; have HMA := Lib.hid (HMA.out.keep hb); have t0 := cell_keep hb t0; have HTA := Lib.hid (HTA.out.keep hb); have HB18 := Lib.hid (HB17.out.trans (hb.mono HB17.out.size)); clear hb)
     go_upto_region 21 with (have h := HIT2.out; clear HIT2; go_at_call 66; refine (h _).mono ?_; clear h; rintro e w19 ⟨rfl, hb⟩; have b0 := cell_keep hb b0; have d0 := cell_keep hb d0; have d1 := cell_keep hb d1; have d2 := cell_keep hb d2; have m0 := cell_keep hb m0; have HMA := Lib.hid (HMA.out.keep hb); have t0 := cell_keep hb t0; have HTA := Lib.hid (HTA.out.keep hb); have HB19 := Lib.hid (HB18.out.trans (hb.mono HB18.out.size)); clear hb)
     have kx0 : ∀ y : KW (fun W' => Below w19.heap.size w19 W'), (y.w.cell? ⟨gw, 0, none⟩ = some (.slice sa cells.length sc) ∧ y.w.cell? ⟨g9, 0, none⟩ = some (.slice ta TX.length tc)) := fun y => ⟨cell_keep y.ok b0, cell_keep y.ok t0⟩
     haveI n1 : Nonempty (KW (fun W' => Below w19.heap.size w19 W')) := ⟨⟨w19, Below.refl _ _⟩⟩
     refine wp_region_tree (fun w' => ∃ y : KW (fun W' => Below w19.heap.size w19 W'), w' = y.w) 7 (.take 0 (.take 1 (.take 2 (.take 3 (.take 4 (.take 5 (.one 6 .done))))))) hmix (by kernel_rfl) (KW.mk' (Below.refl _ _).drew) ?_
     have HC := Lib.hid (show Below w19.heap.size w19 w19.drew from (Below.refl _ _).drew)
     generalize w19.drew = wz at *
     repeat (refine wpTree_take ?_; simp only [nthOp]; (first | go_big_quiet_step (fail) | quiet_step (fail)); refine wpQuiet_nil ?_)
     refine wpTree_one ?_
     simp only [nthOp]
     go_wp2_with (go_at_call 74; refine (HRT.out _ (HB19.out.trans (HC.out.mono HB19.out.size))).mono ?_; rintro e w20 ⟨pa, pc, rfl, hpv, hb⟩; have HPV := Lib.hid hpv; have HC := Lib.hid (HC.out.trans (hb.mono HC.out.size)); clear hb hpv)
     refine One_mk (KW.mk' HC.out) ?_
     have HST := Lib.hid (sameSelf TX ta pa tc pc w20 HTL.out HTP.out (HTA.out.keep HC.out) HPV.out)
     clear kx0 n1
     refine wpTree_done ?_
     simp only [List.drop_succ_cons, List.drop_zero]
     go_wp2_with (go_at_call 58; refine HST.out.mono ?_; rintro e w21 ⟨rfl, hb⟩; have HC := Lib.hid (HC.out.trans (hb.mono HC.out.size)); clear hb)
     refine NP_mk ?_
     go_wp2_with fail
     go_ret
     exact ⟨rfl, HB19.out.trans (HC.out.mono HB19.out.size)⟩
    ·have e1 : moE cells ⟨y0, y1, y2⟩ = solE cells := by unfold moE; rw [if_pos h0]
     have e2 : moV cells ⟨y0, y1, y2⟩ = [] := by unfold moV; rw [if_neg (by rw [e1]; exact h0)]
     have e3 : turE cells t = solE cells := by unfold turE; rw [if_pos h0]
     have e4 : turV cells t = [] := by unfold turV; rw [if_neg (by rw [e3]; exact h0)]
     rw [← hEX] at e1
     rw [← hMX] at e2
     rw [← hFX] at e3
     rw [← hTX] at e4
     clear hMX hEX hTX hFX
     subst e2 e4
     have hd1 : (solE cells != 0) = true := by simpa using h0
     have hd2 : (solE cells == 0) = false := by simpa using h0
     generalize solE cells = D at *
     subst e1 e3
     have hdd : (FX == FX) = true := by simp
     simp only [List.length_nil] at m0 t0
     go_wp2_with (have h := HCK.out; clear HCK; go_at_call 43; refine (h _ HB12.out).mono ?_; clear h; rintro e w13 ⟨rfl, hb⟩; have b0 := cell_keep hb b0; have d0 := cell_keep hb d0; have d1 := cell_keep hb d1; have d2 := cell_keep hb d2; have m0 := cell_keep hb m0; have HMA := Lib.hid (HMA.out.keep hb); have t0 := cell_keep hb t0; have HTA := Lib.hid (HTA.out.keep hb); have HB13 := Lib.hid (HB12.out.trans (hb.mono HB12.out.size)); clear hb)
     go_ret
     exact ⟨rfl, HB13.out⟩
  ·rw [hit] at HIT1 HIT2
   obtain ⟨-, -, -, -, hUX, hGX⟩ := HEQ.out
   have e1 : GX = 2 := by rw [hGX]; unfold tuE; rw [hit]; rfl
   have e2 : UX = v0 := by rw [hUX]; unfold tuV; rw [← hGX, e1]; rfl
   clear hUX hGX
   subst e1
   subst e2
   simp only [v0] at u0 u1 u2
   have hNZ := Arr_neq ⟨0, 0, 0⟩ ⟨0, 0, 0⟩
   simp only [decide_true, Bool.not_true] at hNZ
   go_upto_region 13 with (have h := HIT1.out; clear HIT1; go_at_call 66; refine (h _).mono ?_; clear h; rintro e w12 ⟨rfl, hb⟩; have b0 := cell_keep hb b0; have d0 := cell_keep hb d0; have d1 := cell_keep hb d1; have d2 := cell_keep hb d2; have m0 := cell_keep hb m0; have HMA := Lib.hid (HMA.out.keep hb); have t0 := cell_keep hb t0; have HTA := Lib.hid (HTA.out.keep hb); have u0 := cell_keep hb u0; have u1 := cell_keep hb u1; have u2 := cell_keep hb u2; have HB12 := Lib.hid (HB10.out.trans (hb.mono HB10.out.size)); clear hb)
   clear u0 u1 u2 hNZ
   obtain ⟨hMX, hEX, hTX, hFX, -, -⟩ := HEQ.out
   by_cases h0 : solE cells = 0
   ·rw [h0] at HCK
    obtain ⟨ev, ee⟩ := moV_sol (b := ⟨y0, y1, y2⟩) h0
    have HRM := Lib.hid (fun W (h : Below w.heap.size w W) => moveR_any cells sa sc ⟨y0, y1, y2⟩ W (HV.out.keep h) h0)
    rw [← ev, ← ee, ← hMX, ← hEX] at HRM
    simp only at HRM
    have e2 : turE cells t = 2 := by unfold turE; rw [if_neg (by simpa using h0), if_neg (by rw [hit]; decide)]
    have e1 : turV cells t = [] := by unfold turV; rw [if_neg (by rw [e2]; decide)]
    rw [← hTX] at e1
    rw [← hFX] at e2
    subst e1
    subst e2
    simp only [List.length_nil] at t0
    clear ev ee h0 hMX hEX hTX hFX
    go_upto_region 16 with (have h := HCK.out; clear HCK; go_at_call 43; refine (h _ HB12.out).mono ?_; clear h; rintro e w13 ⟨rfl, hb⟩; have b0 := cell_keep hb b0; have d0 := cell_keep hb d0; have d1 := cell_keep hb d1; have d2 := cell_keep hb d2; have m0 := cell_keep hb m0; have HMA := Lib.hid (HMA.out.keep hb); have t0 := cell_keep hb t0; have HTA := Lib.hid (HTA.out.keep hb); have HB13 := Lib.hid (HB12.out.trans (hb.mono HB12.out.size)); clear hb)
    go_upto_region 17 with (have h := HRM.out; clear HRM; go_at_call 73; refine (h _ HB13.out).mono ?_; clear h; rintro e w16 ⟨na, nc, rfl, hnv, hb⟩; have b0 := cell_keep hb b0; have d0 := cell_keep hb d0; have d1 := cell_keep hb d1; have d2 := cell_keep hb d2; have m0 := cell_keep hb m0; have HMA := Lib.hid (HMA.out.keep hb); have t0 := cell_keep hb t0; have HTA := Lib.hid (HTA.out.keep hb); have HB16 := Lib.hid (HB13.out.trans (hb.mono HB13.out.size)); have HNA := Lib.hid hnv; clear hnv; clear hb)
    refine gen_world (fun W => W.cell? ⟨w16.heap.size, 0, none⟩ = some (.slice na MX.length nc) ∧ Below w16.heap.size w16 W) ⟨by simp [go_sem], by repeat (first | (with_reducible assumption) | exact Below.refl _ _ | (refine Below.setCell ?_ (by first | omega | (simp; omega) | (simp; done)) _) | (refine Below.alloc ?_ (by first | omega | (simp; omega) | (simp; done)) _) | (refine Below.drew ?_))⟩ ?_
    rintro W17 ⟨n0, hb⟩
    have b0 := cell_keep hb b0
    have d0 := cell_keep hb d0
    have d1 := cell_keep hb d1
    have d2 := cell_keep hb d2
    have m0 := cell_keep hb m0
    have HMA := Lib.hid (HMA.out.keep hb)
    have t0 := cell_keep hb t0
    have HTA := Lib.hid (HTA.out.keep hb)
    have HNA := Lib.hid (HNA.out.keep hb)
    have HB17 := Lib.hid (HB16.out.trans (hb.mono HB16.out.size))
    obtain ⟨g14, hg14⟩ : ∃ g, g = w16.heap.size := ⟨_, rfl⟩
    rw [← hg14] at n0 ⊢
    clear hb hg14
    have HSM := Lib.hid (fun W (h : Below W17.heap.size W17 W) => sameSelf MX ma na mc nc W HML.out HMP.out (HMA.out.keep h) (HNA.out.keep h))
    have hee : (EX != EX) = false := by simp
    have hee2 : (EX == EX) = true := by simp
    go_upto_region 19 with (have h := HSM.out; clear HSM; go_at_call 58; refine (h _ (Below.refl _ _)).mono ?_; clear h; rintro e w18 ⟨rfl, hb⟩; have b0 := cell_keep hb b0; have d0 := cell_keep hb d0; have d1 := cell_keep hb d1; have d2 := cell_keep hb d2; have m0 := cell_keep hb m0; have HMA := Lib.hid (HMA.out.keep hb); have t0 := cell_keep hb t0; have HTA := Lib.hid (HTA.out.keep hb); have HB18 := Lib.hid (HB17.out.trans (hb.mono HB17.out.size)); clear hb)
    go_wp2_with (have h := HIT2.out; clear HIT2; go_at_call 66; refine (h _).mono ?_; clear h; rintro e w19 ⟨rfl, hb⟩; have b0 := cell_keep hb b0; have d0 := cell_keep hb d0; have d1 := cell_keep hb d1; have d2 := cell_keep hb d2; have m0 := cell_keep hb m0; have HMA := Lib.hid (HMA.out.keep hb); have t0 := cell_keep hb t0; have HTA := Lib.hid (HTA.out.keep hb); have HB19 := Lib.hid (HB18.out.trans (hb.mono HB18.out.size)); clear hb)
    go_ret
    exact ⟨rfl, HB19.out⟩
   ·have e1 : moE cells ⟨y0, y1, y2⟩ = solE cells := by unfold moE; rw [if_pos h0]
    have e2 : moV cells ⟨y0, y1, y2⟩ = [] := by unfold moV; rw [if_neg (by rw [e1]; exact h0)]
    have e3 : turE cells t = solE cells := by unfold turE; rw [if_pos h0]
    have e4 : turV cells t = [] := by unfold turV; rw [if_neg (by rw [e3]; exact h0)]
    rw [← hEX] at e1
    rw [← hMX] at e2
    rw [← hFX] at e3
    rw [← hTX] at e4
    clear hMX hEX hTX hFX
    subst e2 e4
    have hd1 : (solE cells != 0) = true := by simpa using h0
    have hd2 : (solE cells == 0) = false := by simpa using h0
    generalize solE cells = D at *
    subst e1 e3
    have hdd : (FX == FX) = true := by simp
    simp only [List.length_nil] at m0 t0
    go_wp2_with (have h := HCK.out; clear HCK; go_at_call 43; refine (h _ HB12.out).mono ?_; clear h; rintro e w13 ⟨rfl, hb⟩; have b0 := cell_keep hb b0; have d0 := cell_keep hb d0; have d1 := cell_keep hb d1; have d2 := cell_keep hb d2; have m0 := cell_keep hb m0; have HMA := Lib.hid (HMA.out.keep hb); have t0 := cell_keep hb t0; have HTA := Lib.hid (HTA.out.keep hb); have HB13 := Lib.hid (HB12.out.trans (hb.mono HB12.out.size)); clear hb)
    go_ret
    exact ⟨rfl, HB13.out⟩
 ·have hfw0 : fewB cells 4 = false := by simpa using hfw
  rw [hfw0] at HFW
  clear hfw hfw0
  go_wp2_with (have h := HFW.out; clear HFW; go_at_call 32; refine (h _ HB1.out).mono ?_; clear h; rintro e w2 ⟨rfl, hb⟩; have b0 := cell_keep hb b0; have d0 := cell_keep hb d0; have d1 := cell_keep hb d1; have d2 := cell_keep hb d2; have HB2 := Lib.hid (HB1.out.trans (hb.mono HB1.out.size)); clear hb)
  go_ret
  exact ⟨rfl, HB2.out⟩
set_option maxRecDepth 100000 in
theorem solidTurns_walks : Walks 17 Tryz.f17 := by
 intro H enc W base args ds p hval hA hlt
 rw [Tryz.params17] at hA hval
 obtain ⟨v0, vs0, d0, ds0, p0, q0, hargs, rfl, rfl, ⟨fu0, hf0⟩, r0⟩ := trodAll_cons hA
 obtain ⟨v1, vs1, d1, ds1, p1, q1, rfl, rfl, rfl, ⟨fu1, hf1⟩, r1⟩ := trodAll_cons r0
 obtain ⟨v2, vs2, d2, ds2, p2, q2, rfl, rfl, rfl, ⟨fu2, hf2⟩, r2⟩ := trodAll_cons r1
 obtain ⟨rfl, rfl, rfl⟩ := trodAll_nil r2
 obtain rfl : args = #[v0, v1, v2] := by cases args; simp_all
 obtain ⟨cs0, rfl, -⟩ := okWide_struct Tryz.underlying48 (hval 0 48 v0 rfl rfl)
 obtain ⟨x0, a0, c0, hc0, V0, C0, M0, -⟩ := Solid.open_ hf0
 have hd0 : cs0 = #[.slice a0 x0.cells.length c0] := by
  cases cs0; simpa [Value.cells] using hc0
 subst hd0
 obtain ⟨cs1, rfl, -⟩ := okWide_arr Tryz.underlying105 (hval 1 105 v1 rfl rfl)
 obtain ⟨p1, q1, o1, hc1, W1⟩ := triple_open hf1
 have hd1 : cs1 = #[.int .i64 p1, .int .i64 q1, .int .i64 o1] := by
  cases cs1; simpa [Value.cells] using hc1
 subst hd1
 obtain ⟨t, rfl⟩ := okWide_int Tryz.underlying3 (hval 2 3 v2 rfl rfl)
 obtain ⟨s2, g2, -, q2⟩ := DataW.trod_int Tryz.underlying3 hf2
 obtain rfl : s2 = t := by simpa [Value.cells] using g2.symm
 exact walkSolidTurns x0 a0 c0 p1 q1 o1 s2 W V0 (by unfold maxLen at M0; omega) C0 W1 (int_wf q2)

set_option maxRecDepth 100000 in
theorem solidTurns_holds : Rows.SolidTurnsSaid :=
 law_holds (s := Rows.solidTurnsSpec) (c := Rows.solidTurnsRow) 17 Tryz.f17 rfl
  (fun H ds h => by match ds, h with | [_, _, _], _ => rfl) (by kernel_rfl) (by kernel_rfl)
  rfl rfl rfl rfl rfl rfl rfl ⟨rfl, rfl, rfl, rfl, rfl⟩ rfl rfl rfl rfl rfl rfl rfl rfl rfl rfl (fun _ _ => rfl) (by kernel_rfl) Tryz.func17
  solidTurns_closed (of_decide_eq_true (by kernel_rfl)) (by unfold Func.isWrapper; first | (rw [if_pos (by decide +kernel)]; kernel_rfl) | (rw [if_neg (by decide +kernel)]; exact ⟨rfl, rfl⟩)) (by kernel_rfl)
  (fun H enc os => ChangeSpec.witness6 (enc := enc) (C := Tryz.checked) false ⟨#[], #[.agg #[.slice none 0 0], .agg #[.int .i64 0, .int .i64 0, .int .i64 0], .int .i64 0], []⟩ 8 (by kernel_rfl) (by kernel_rfl) (by kernel_rfl) (by kernel_rfl))
  solidTurns_walks
end Go.Proofs.YtbhgkadklklmbaaGreat
