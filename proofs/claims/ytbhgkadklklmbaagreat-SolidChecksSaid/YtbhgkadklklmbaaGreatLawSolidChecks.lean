/- SolidChecks returns true for every input: the check of a solid and its bounds are those of the document. No condition. -/
import Derived.Test.YtbhgkadklklmbaaGreatQP
import Derived.Test.YtbhgkadklklmbaaGreatQR
import Derived.Test.YtbhgkadklklmbaaGreatQO
import Derived.Test.YtbhgkadklklmbaaGreatQM
import Derived.Test.YtbhgkadklklmbaaGreatFactsSolidChecks
set_option linter.unusedVariables false
set_option linter.unusedSimpArgs false
namespace Go.Proofs.YtbhgkadklklmbaaGreat
open Go Go.ChangeShapes Go.WideShapes Go.ChangeAt Go.RowKit Go.Sort Go.Lib

theorem cells_len {w : World} {a : Option Addr} {l : List Cell} (h : Cells.V w a l) : ∀ x ∈ l, x.planes.length ≤ 9223372036854775807 := fun x hx => by
  obtain ⟨b, off, rfl, hz⟩ := h (List.ne_nil_of_mem hx)
  obtain ⟨k, hk, rfl⟩ := List.mem_iff_getElem.1 hx
  obtain ⟨pa, pc, -, -, h1, h2, -⟩ := hz k _ (List.getElem?_eq_getElem hk)
  simp only [maxLen] at h2
  omega
theorem few_len {cs : List Cell} {m : Int} (hm : m ≤ 4) (h : fewB cs m = true) : cs.length ≤ 105 := by
  unfold fewB at h
  simp only [Bool.and_eq_true, Bool.not_eq_true', Bool.or_eq_false_iff, decide_eq_false_iff_not] at h
  omega
theorem few_pl {cs : List Cell} {m : Int} (h : fewB cs m = true) : ∀ x ∈ cs, x.planes.length ≤ 20 := fun x hx => by
  unfold fewB at h
  rw [Bool.and_eq_true] at h
  have := List.all_eq_true.1 h.2 x hx
  unfold slimB at this
  simp only [Bool.or_eq_true, Bool.and_eq_true, decide_eq_true_eq] at this
  omega
theorem bd_same {cells : List Cell} (h : solE cells = 0) (hn : cells.length ≠ 0) : (bndO none (refs cells)).getD box0 = bdV cells := by
  have e : bdE cells = 0 := by unfold bdE; rw [if_neg (by simpa using h), if_neg hn]
  unfold bdV
  rw [if_pos e, bnd_same (l := crns cells) (m := refs cells)]
  · rfl
  · obtain ⟨x, hx⟩ : ∃ x, x ∈ cells := List.exists_mem_of_ne_nil _ (fun e => hn (by rw [e]; rfl))
    have hs := sol_of (solE_ps h x hx)
    obtain ⟨p, hp⟩ := List.exists_mem_of_ne_nil _ hs.ne
    obtain ⟨c, hc, -⟩ := insid_iff.1 hs.ins p hp
    exact List.ne_nil_of_mem (List.mem_flatMap.2 ⟨x, hx, hc⟩)
  · intro c hc
    obtain ⟨x, hx, hc⟩ := List.mem_flatMap.1 hc
    exact (corn_coRm (solE_ps h x hx) c hc).r
  · intro c
    unfold crns refs
    simp only [List.mem_flatMap, mem_refP]
set_option maxRecDepth 100000 in
set_option maxHeartbeats 16000000 in
theorem walkSolidChecks (s : Solid) (sa : Option Addr) (sc : Nat) (w : World) (Vs : Cells.V w sa s.cells) (Ls : s.cells.length ≤ 9223372036854775807) (Cs : s.cells.length ≤ sc) :
    Calls Tryz.prog 8 #[.agg #[.slice sa s.cells.length sc]] w fun e w' => e = .returned (.bool true) ∧ Below w.heap.size w w' := by
  have hmix : Tryz.prog.follows .mixedOrders = true := by kernel_rfl
  obtain ⟨cells, hcs⟩ : ∃ cs, cs = s.cells := ⟨_, rfl⟩
  rw [← hcs] at Vs Ls Cs ⊢
  clear hcs
  have HV := Lib.hid Vs
  have HAW := Lib.hid awake_any
  have HFW := Lib.hid (fun W (h : Below w.heap.size w W) => few_any cells sa sc 4 W Ls (Vs.keep h) (cells_len Vs))
  clear Vs
  go_enter Tryz.func8, Tryz.ntmps8
  go_upto_region 1 with fail
  refine gen_world (fun W => W.cell? ⟨w.heap.size, 0, none⟩ = some (.slice sa cells.length sc) ∧ Below w.heap.size w W) ⟨by simp [go_sem], by repeat (first | (with_reducible assumption) | exact Below.refl _ _ | (refine Below.setCell ?_ (by first | omega | (simp; omega) | (simp; done)) _) | (refine Below.alloc ?_ (by first | omega | (simp; omega) | (simp; done)) _) | (refine Below.drew ?_))⟩ ?_
  rintro W ⟨b0, hb⟩
  have HB0 := Lib.hid hb
  clear hb
  obtain ⟨gw, hgw⟩ : ∃ g, g = w.heap.size := ⟨_, rfl⟩
  have HGW := Lib.hid hgw
  rw [← hgw] at b0 ⊢
  clear hgw
  go_upto_region 3 with (go_at_call 18; refine (HAW.out _).mono ?_; rintro e w1 ⟨rfl, hb⟩; have b0 := cell_keep hb b0; have HB1 := Lib.hid (HB0.out.trans (hb.mono HB0.out.size)); clear hb)
  by_cases hfw : fewB cells 4 = true
  · have hl := few_len (by decide) hfw
    have HP := Lib.hid (few_pl hfw)
    rw [hfw] at HFW
    clear hfw
    have HC1 := Lib.hid (fun W (h : Below w.heap.size w W) => copySolid_any cells sa sc W (by omega) (HV.out.keep h) (fun x hx => by have := HP.out x hx; omega))
    have HC2 := Lib.hid (fun W (h : Below w.heap.size w W) => copySolid_any cells sa sc W (by omega) (HV.out.keep h) (fun x hx => by have := HP.out x hx; omega))
    have HCK := Lib.hid (fun W (h : Below w.heap.size w W) => checkR_any cells sa sc W Ls (HV.out.keep h) (fun x hx => by have := HP.out x hx; omega))
    have HCP := Lib.hid (fun a n W (h : Cells.V W a cells) => check_any cells a n W Ls h (fun x hx => by have := HP.out x hx; omega))
    have HBD := Lib.hid (fun a n W (h : Cells.V W a cells) => bounds_any cells a n W Ls h (fun x hx => by have := HP.out x hx; omega))
    have HBR := Lib.hid (fun (h0 : solE cells = 0) W (h : Below w.heap.size w W) => boundsR_any cells sa sc W Ls (HV.out.keep h) h0)
    by_cases h0 : solE cells = 0
    · have HBR2 := Lib.hid (HBR.out h0)
      rw [h0] at HCK HCP
      by_cases hn : cells.length = 0
      · have e1 : bdE cells = 12 := by unfold bdE; rw [if_neg (by simpa using h0), if_pos hn]
        have e2 : bdV cells = box0 := by unfold bdV; rw [e1, if_neg (by decide)]
        rw [e1, e2] at HBD
        have HN := Lib.hid hn
        rw [hn] at HFW HC1 HC2 HCK HCP HBD b0 ⊢
        clear h0 e1 e2 HBR HBR2 hn
        go_upto_region 6 with (first | (have h := HFW.out; clear HFW; go_at_call 32; refine (h _ HB1.out).mono ?_; clear h; rintro e w2 ⟨rfl, hb⟩; have b0 := cell_keep hb b0; have HB2 := Lib.hid (HB1.out.trans (hb.mono HB1.out.size)); clear hb) | (have h := HC1.out; clear HC1; go_at_call 34; refine (h _ HB2.out).mono ?_; clear h; rintro e w3 ⟨va, vc, rfl, hcv, -, hb⟩; have b0 := cell_keep hb b0; have HB3 := Lib.hid (HB2.out.trans (hb.mono HB2.out.size)); have HBX := Lib.hid (HBD.out va vc w3 hcv); clear hb hcv) | (have h := HBX.out; clear HBX; go_at_call 47; refine h.mono ?_; clear h; rintro e w4 ⟨rfl, hb⟩; have b0 := cell_keep hb b0; have HB4 := Lib.hid (HB3.out.trans (hb.mono HB3.out.size)); clear hb))
        refine gen_world (fun W' => W'.cell? ⟨gw, 0, none⟩ = some (.slice sa 0 sc) ∧ BxC W' w4.heap.size box0.at_ ∧ Below w4.heap.size w4 W') ⟨by simpa [go_sem] using cell_keep ((Below.refl w4.heap.size w4).alloc (Nat.le_refl _) _) b0, fun t ht => ?_, by repeat (first | (with_reducible assumption) | exact Below.refl _ _ | (refine Below.setCell ?_ (by first | omega | (simp; omega) | (simp; done)) _) | (refine Below.alloc ?_ (by first | omega | (simp; omega) | (simp; done)) _) | (refine Below.drew ?_))⟩ ?_
        · match t, ht with
          | 0, _ | 1, _ | 2, _ | 3, _ | 4, _ | 5, _ => exact ⟨by simp [go_sem, Box6.at_, box0], by simp [go_sem]⟩
        rintro W5 ⟨b0', hbx5, hb5⟩
        have HB5 := Lib.hid (HB4.out.trans (hb5.mono HB4.out.size))
        have HBX5 := Lib.hid hbx5
        obtain ⟨gb, hgb⟩ : ∃ g, g = w4.heap.size := ⟨_, rfl⟩
        rw [← hgb] at HBX5 ⊢
        clear b0 hgb hb5 hbx5
        have b0 := b0'
        clear b0'
        go_upto_region 9 with (first | (have h := HCK.out; clear HCK; go_at_call 43; refine (h _ HB5.out).mono ?_; clear h; rintro e w6 ⟨rfl, hb⟩; have b0 := cell_keep hb b0; have HBX6 := Lib.hid (HBX5.out.keep hb); have HB6 := Lib.hid (HB5.out.trans (hb.mono HB5.out.size)); clear hb) | (have h := HC2.out; clear HC2; go_at_call 34; refine (h _ HB6.out).mono ?_; clear h; rintro e w7 ⟨ua, uc, rfl, hcv, -, hb⟩; have b0 := cell_keep hb b0; have HBX7 := Lib.hid (HBX6.out.keep hb); have HB7 := Lib.hid (HB6.out.trans (hb.mono HB6.out.size)); have HCX := Lib.hid (HCP.out ua uc w7 hcv); clear hb hcv) | (have h := HCX.out; clear HCX; go_at_call 48; refine h.mono ?_; clear h; rintro e w8 ⟨rfl, hb⟩; have b0 := cell_keep hb b0; have HBX8 := Lib.hid (HBX7.out.keep hb); have HB8 := Lib.hid (HB7.out.trans (hb.mono HB7.out.size)); clear hb))
        obtain ⟨y0, -⟩ := HBX8.out 0 (by decide)
        obtain ⟨y1, -⟩ := HBX8.out 1 (by decide)
        obtain ⟨y2, -⟩ := HBX8.out 2 (by decide)
        obtain ⟨y3, -⟩ := HBX8.out 3 (by decide)
        obtain ⟨y4, -⟩ := HBX8.out 4 (by decide)
        obtain ⟨y5, -⟩ := HBX8.out 5 (by decide)
        simp only [Box6.at_, box0] at y0 y1 y2 y3 y4 y5
        go_wp2_with fail
        go_ret
        exact ⟨rfl, HB8.out⟩
      · have e1 : bdE cells = 0 := by unfold bdE; rw [if_neg (by simpa using h0), if_neg hn]
        rw [e1] at HBD
        rw [bd_same h0 hn] at HBR2
        have hn0 : ¬ (cells.length : Int) = 0 := by omega
        clear h0 e1 HBR
        generalize bdV cells = B at *
        go_upto_region 6 with (first | (have h := HFW.out; clear HFW; go_at_call 32; refine (h _ HB1.out).mono ?_; clear h; rintro e w2 ⟨rfl, hb⟩; have b0 := cell_keep hb b0; have HB2 := Lib.hid (HB1.out.trans (hb.mono HB1.out.size)); clear hb) | (have h := HC1.out; clear HC1; go_at_call 34; refine (h _ HB2.out).mono ?_; clear h; rintro e w3 ⟨va, vc, rfl, hcv, -, hb⟩; have b0 := cell_keep hb b0; have HB3 := Lib.hid (HB2.out.trans (hb.mono HB2.out.size)); have HBX := Lib.hid (HBD.out va vc w3 hcv); clear hb hcv) | (have h := HBX.out; clear HBX; go_at_call 47; refine h.mono ?_; clear h; rintro e w4 ⟨rfl, hb⟩; have b0 := cell_keep hb b0; have HB4 := Lib.hid (HB3.out.trans (hb.mono HB3.out.size)); clear hb))
        refine gen_world (fun W' => W'.cell? ⟨gw, 0, none⟩ = some (.slice sa cells.length sc) ∧ BxC W' w4.heap.size B.at_ ∧ Below w4.heap.size w4 W') ⟨by simpa [go_sem] using cell_keep ((Below.refl w4.heap.size w4).alloc (Nat.le_refl _) _) b0, fun t ht => ?_, by repeat (first | (with_reducible assumption) | exact Below.refl _ _ | (refine Below.setCell ?_ (by first | omega | (simp; omega) | (simp; done)) _) | (refine Below.alloc ?_ (by first | omega | (simp; omega) | (simp; done)) _) | (refine Below.drew ?_))⟩ ?_
        · match t, ht with
          | 0, _ | 1, _ | 2, _ | 3, _ | 4, _ | 5, _ => exact ⟨by simp [go_sem, Box6.at_], by simp [go_sem]⟩
        rintro W5 ⟨b0', hbx5, hb5⟩
        have HB5 := Lib.hid (HB4.out.trans (hb5.mono HB4.out.size))
        have HBX5 := Lib.hid hbx5
        obtain ⟨gb, hgb⟩ : ∃ g, g = w4.heap.size := ⟨_, rfl⟩
        rw [← hgb] at HBX5 ⊢
        clear b0 hgb hb5 hbx5
        have b0 := b0'
        clear b0'
        go_upto_region 9 with (first | (have h := HCK.out; clear HCK; go_at_call 43; refine (h _ HB5.out).mono ?_; clear h; rintro e w6 ⟨rfl, hb⟩; have b0 := cell_keep hb b0; have HBX6 := Lib.hid (HBX5.out.keep hb); have HB6 := Lib.hid (HB5.out.trans (hb.mono HB5.out.size)); clear hb) | (have h := HC2.out; clear HC2; go_at_call 34; refine (h _ HB6.out).mono ?_; clear h; rintro e w7 ⟨ua, uc, rfl, hcv, -, hb⟩; have b0 := cell_keep hb b0; have HBX7 := Lib.hid (HBX6.out.keep hb); have HB7 := Lib.hid (HB6.out.trans (hb.mono HB6.out.size)); have HCX := Lib.hid (HCP.out ua uc w7 hcv); clear hb hcv) | (have h := HCX.out; clear HCX; go_at_call 48; refine h.mono ?_; clear h; rintro e w8 ⟨rfl, hb⟩; have b0 := cell_keep hb b0; have HBX8 := Lib.hid (HBX7.out.keep hb); have HB8 := Lib.hid (HB7.out.trans (hb.mono HB7.out.size)); clear hb))
        obtain ⟨y0, -⟩ := HBX8.out 0 (by decide)
        obtain ⟨y1, -⟩ := HBX8.out 1 (by decide)
        obtain ⟨y2, -⟩ := HBX8.out 2 (by decide)
        obtain ⟨y3, -⟩ := HBX8.out 3 (by decide)
        obtain ⟨y4, -⟩ := HBX8.out 4 (by decide)
        obtain ⟨y5, -⟩ := HBX8.out 5 (by decide)
        simp only [Box6.at_, box0] at y0 y1 y2 y3 y4 y5
        go_upto_region 13 with fail
        have kx0 : ∀ y : KW (fun W' => Below w8.heap.size w8 W'), y.w.cell? ⟨gw, 0, none⟩ = some (.slice sa cells.length sc) ∧ y.w.cell? ⟨gb, 0, none⟩ = some (.int .i64 B.x1) ∧ y.w.cell? ⟨gb, 1, none⟩ = some (.int .i64 B.y1) ∧ y.w.cell? ⟨gb, 2, none⟩ = some (.int .i64 B.z1) ∧ y.w.cell? ⟨gb, 3, none⟩ = some (.int .i64 B.x2) ∧ y.w.cell? ⟨gb, 4, none⟩ = some (.int .i64 B.y2) ∧ y.w.cell? ⟨gb, 5, none⟩ = some (.int .i64 B.z2) := fun y => ⟨cell_keep y.ok b0, cell_keep y.ok y0, cell_keep y.ok y1, cell_keep y.ok y2, cell_keep y.ok y3, cell_keep y.ok y4, cell_keep y.ok y5⟩
        haveI n1 : Nonempty (KW (fun W' => Below w8.heap.size w8 W')) := ⟨⟨w8, Below.refl _ _⟩⟩
        refine wp_region_tree (fun w' => ∃ y : KW (fun W' => Below w8.heap.size w8 W'), w' = y.w) 6 (.take 0 (.take 1 (.take 2 (.take 3 (.take 4 (.one 5 .done)))))) hmix (by kernel_rfl) (KW.mk' (Below.refl _ _).drew) ?_
        have HD0 := Lib.hid (show Below w8.heap.size w8 w8.drew from (Below.refl _ _).drew)
        generalize w8.drew = ww0 at *
        repeat (refine wpTree_take ?_; simp only [nthOp]; (first | go_big_quiet_step (fail) | quiet_step (fail)); refine wpQuiet_nil ?_)
        refine wpTree_one ?_
        simp only [nthOp]
        go_wp2_with (go_at_call 49; refine (HBR2.out _ (HB8.out.trans (HD0.out.mono HB8.out.size))).mono ?_; rintro e w9 ⟨rfl, hb⟩; have HD1 := Lib.hid (HD0.out.trans (hb.mono HD0.out.size)); clear hb)
        refine One_mk (KW.mk' HD1.out) ?_
        refine wpTree_done ?_
        simp only [List.drop_succ_cons, List.drop_zero]
        go_wp2_with fail
        refine NP_mk ?_
        go_wp2_with fail
        go_ret
        exact ⟨rfl, HB8.out.trans (HD1.out.mono HB8.out.size)⟩
    · have e1 : bdE cells = solE cells := by unfold bdE; rw [if_pos h0]
      have e2 : bdV cells = box0 := by unfold bdV; rw [e1, if_neg h0]
      rw [e1, e2] at HBD
      clear e1 e2 HBR
      generalize solE cells = E at *
      go_upto_region 6 with (first | (have h := HFW.out; clear HFW; go_at_call 32; refine (h _ HB1.out).mono ?_; clear h; rintro e w2 ⟨rfl, hb⟩; have b0 := cell_keep hb b0; have HB2 := Lib.hid (HB1.out.trans (hb.mono HB1.out.size)); clear hb) | (have h := HC1.out; clear HC1; go_at_call 34; refine (h _ HB2.out).mono ?_; clear h; rintro e w3 ⟨va, vc, rfl, hcv, -, hb⟩; have b0 := cell_keep hb b0; have HB3 := Lib.hid (HB2.out.trans (hb.mono HB2.out.size)); have HBX := Lib.hid (HBD.out va vc w3 hcv); clear hb hcv) | (have h := HBX.out; clear HBX; go_at_call 47; refine h.mono ?_; clear h; rintro e w4 ⟨rfl, hb⟩; have b0 := cell_keep hb b0; have HB4 := Lib.hid (HB3.out.trans (hb.mono HB3.out.size)); clear hb))
      refine gen_world (fun W' => W'.cell? ⟨gw, 0, none⟩ = some (.slice sa cells.length sc) ∧ BxC W' w4.heap.size box0.at_ ∧ Below w4.heap.size w4 W') ⟨by simpa [go_sem] using cell_keep ((Below.refl w4.heap.size w4).alloc (Nat.le_refl _) _) b0, fun t ht => ?_, by repeat (first | (with_reducible assumption) | exact Below.refl _ _ | (refine Below.setCell ?_ (by first | omega | (simp; omega) | (simp; done)) _) | (refine Below.alloc ?_ (by first | omega | (simp; omega) | (simp; done)) _) | (refine Below.drew ?_))⟩ ?_
      · match t, ht with
        | 0, _ | 1, _ | 2, _ | 3, _ | 4, _ | 5, _ => exact ⟨by simp [go_sem, Box6.at_, box0], by simp [go_sem]⟩
      rintro W5 ⟨b0', hbx5, hb5⟩
      have HB5 := Lib.hid (HB4.out.trans (hb5.mono HB4.out.size))
      have HBX5 := Lib.hid hbx5
      obtain ⟨gb, hgb⟩ : ∃ g, g = w4.heap.size := ⟨_, rfl⟩
      rw [← hgb] at HBX5 ⊢
      clear b0 hgb hb5 hbx5
      have b0 := b0'
      clear b0'
      go_upto_region 9 with (first | (have h := HCK.out; clear HCK; go_at_call 43; refine (h _ HB5.out).mono ?_; clear h; rintro e w6 ⟨rfl, hb⟩; have b0 := cell_keep hb b0; have HBX6 := Lib.hid (HBX5.out.keep hb); have HB6 := Lib.hid (HB5.out.trans (hb.mono HB5.out.size)); clear hb) | (have h := HC2.out; clear HC2; go_at_call 34; refine (h _ HB6.out).mono ?_; clear h; rintro e w7 ⟨ua, uc, rfl, hcv, -, hb⟩; have b0 := cell_keep hb b0; have HBX7 := Lib.hid (HBX6.out.keep hb); have HB7 := Lib.hid (HB6.out.trans (hb.mono HB6.out.size)); have HCX := Lib.hid (HCP.out ua uc w7 hcv); clear hb hcv) | (have h := HCX.out; clear HCX; go_at_call 48; refine h.mono ?_; clear h; rintro e w8 ⟨rfl, hb⟩; have b0 := cell_keep hb b0; have HBX8 := Lib.hid (HBX7.out.keep hb); have HB8 := Lib.hid (HB7.out.trans (hb.mono HB7.out.size)); clear hb))
      obtain ⟨y0, -⟩ := HBX8.out 0 (by decide)
      obtain ⟨y1, -⟩ := HBX8.out 1 (by decide)
      obtain ⟨y2, -⟩ := HBX8.out 2 (by decide)
      obtain ⟨y3, -⟩ := HBX8.out 3 (by decide)
      obtain ⟨y4, -⟩ := HBX8.out 4 (by decide)
      obtain ⟨y5, -⟩ := HBX8.out 5 (by decide)
      simp only [Box6.at_, box0] at y0 y1 y2 y3 y4 y5
      go_wp2_with fail
      go_ret
      exact ⟨rfl, HB8.out⟩
  · have hfw0 : fewB cells 4 = false := by simpa using hfw
    rw [hfw0] at HFW
    clear hfw hfw0
    go_wp2_with (have h := HFW.out; clear HFW; go_at_call 32; refine (h _ HB1.out).mono ?_; clear h; rintro e w2 ⟨rfl, hb⟩; have b0 := cell_keep hb b0; have HB2 := Lib.hid (HB1.out.trans (hb.mono HB1.out.size)); clear hb)
    go_ret
    exact ⟨rfl, HB2.out⟩
set_option maxRecDepth 100000 in
theorem solidChecks_walks : Walks 8 Tryz.f8 := by
  intro H enc W base args ds p hval hA hlt
  rw [Tryz.params8] at hA hval
  obtain ⟨v0, vs0, d0, ds0, p0, q0, hargs, rfl, rfl, ⟨fu0, hf0⟩, r0⟩ := trodAll_cons hA
  obtain ⟨rfl, rfl, rfl⟩ := trodAll_nil r0
  obtain rfl : args = #[v0] := by cases args; simp_all
  obtain ⟨cs0, rfl, -⟩ := okWide_struct Tryz.underlying48 (hval 0 48 v0 rfl rfl)
  obtain ⟨x0, a0, c0, hc0, V0, C0, M0, -⟩ := Solid.open_ hf0
  have hd0 : cs0 = #[.slice a0 x0.cells.length c0] := by
    cases cs0; simpa [Value.cells] using hc0
  subst hd0
  exact walkSolidChecks x0 a0 c0 W V0 (by unfold maxLen at M0; omega) C0

set_option maxRecDepth 100000 in
theorem solidChecks_holds : Rows.SolidChecksSaid :=
  law_holds (s := Rows.solidChecksSpec) (c := Rows.solidChecksRow) 8 Tryz.f8 rfl
    (fun H ds h => by match ds, h with | [_], _ => rfl) (by kernel_rfl) (by kernel_rfl)
    rfl rfl rfl rfl rfl rfl rfl ⟨rfl, rfl, rfl, rfl, rfl⟩ rfl rfl rfl rfl rfl rfl rfl rfl rfl rfl (fun _ _ => rfl) (by kernel_rfl) Tryz.func8
    solidChecks_closed (of_decide_eq_true (by kernel_rfl)) (by unfold Func.isWrapper; first | (rw [if_pos (by decide +kernel)]; kernel_rfl) | (rw [if_neg (by decide +kernel)]; exact ⟨rfl, rfl⟩)) (by kernel_rfl)
    (fun H enc os => ChangeSpec.witness6 (enc := enc) (C := Tryz.checked) false ⟨#[], #[.agg #[.slice none 0 0]], []⟩ 8 (by kernel_rfl) (by kernel_rfl) (by kernel_rfl) (by kernel_rfl))
    solidChecks_walks
end Go.Proofs.YtbhgkadklklmbaaGreat
