/- The points on three planes, as the document finds them. -/
import Derived.Test.YtgjmfdhgeahdcaaGreatQN
import Derived.Test.YtgjmfdhgeahdcaaGreatQG
import Derived.Test.YtgjmfdhgeahdcaaGreatQL
import Derived.Test.YtgjmfdhgeahdcaaGreatQF
set_option linter.unusedVariables false
set_option linter.unusedSimpArgs false
namespace Go.Proofs.YtgjmfdhgeahdcaaGreat
open Go Go.RowKit Go.Sort Go.Lib

theorem coInfo : (Tryz.prog.info? 48).map (fun i => (i.zero, i.size, i.bytes)) = some (some (.agg #[.int .i64 0, .int .i64 0, .int .i64 0, .int .i64 0]), 4, 32) := infoCo
/-- A point in a box of its own. -/
structure CoBx (w : World) (g : Nat) (p : Co) : Prop where
 a : w.cell? ⟨g, 0, none⟩ = some (.int .i64 p.x)
 b : w.cell? ⟨g, 1, none⟩ = some (.int .i64 p.y)
 c : w.cell? ⟨g, 2, none⟩ = some (.int .i64 p.z)
 d : w.cell? ⟨g, 3, none⟩ = some (.int .i64 p.n)
theorem CoBx.keep {w w' : World} {g : Nat} {p : Co} (h : CoBx w g p) (hb : Below w.heap.size w w') : CoBx w' g p := ⟨cell_keep hb h.a, cell_keep hb h.b, cell_keep hb h.c, cell_keep hb h.d⟩
/-- A new point's box. -/
structure ZBc (w : World) (g : Nat) : Prop where
 a : w.cell? ⟨g, 0, none⟩ = some (.int .i64 0) ∧ w.frozen? ⟨g, 0, none⟩ = false
 b : w.cell? ⟨g, 1, none⟩ = some (.int .i64 0) ∧ w.frozen? ⟨g, 1, none⟩ = false
 c : w.cell? ⟨g, 2, none⟩ = some (.int .i64 0) ∧ w.frozen? ⟨g, 2, none⟩ = false
 d : w.cell? ⟨g, 3, none⟩ = some (.int .i64 0) ∧ w.frozen? ⟨g, 3, none⟩ = false
theorem ZBc.new (w : World) (T : TypeId) : ZBc (w.alloc (.cells #[.int .i64 0, .int .i64 0, .int .i64 0, .int .i64 0] T)) w.heap.size := ⟨⟨by simp [go_sem], by simp [go_sem]⟩, ⟨by simp [go_sem], by simp [go_sem]⟩, ⟨by simp [go_sem], by simp [go_sem]⟩, by simp [go_sem], by simp [go_sem]⟩
theorem ZBc.keep {w w' : World} {g : Nat} (h : ZBc w g) (hb : Below w.heap.size w w') : ZBc w' g :=
 ⟨⟨cell_keep hb h.a.1, frozen_keep hb (block_lt_of_cell h.a.1) h.a.2⟩, ⟨cell_keep hb h.b.1, frozen_keep hb (block_lt_of_cell h.b.1) h.b.2⟩, ⟨cell_keep hb h.c.1, frozen_keep hb (block_lt_of_cell h.c.1) h.c.2⟩, cell_keep hb h.d.1, frozen_keep hb (block_lt_of_cell h.d.1) h.d.2⟩
theorem ZBc.put {w : World} {g : Nat} (h : ZBc w g) (L : Co) : CoBx ((((w.setCell ⟨g, 0, none⟩ (.int .i64 L.x)).setCell ⟨g, 1, none⟩ (.int .i64 L.y)).setCell ⟨g, 2, none⟩ (.int .i64 L.z)).setCell ⟨g, 3, none⟩ (.int .i64 L.n)) g L := by
 refine ⟨?_, ?_, ?_, ?_⟩
 ·rw [cell_set_ne (by simp) rfl rfl, cell_set_ne (by simp) rfl rfl, cell_set_ne (by simp) rfl rfl]; exact cell_set_same (by rw [h.a.1]; rfl)
 ·rw [cell_set_ne (by simp) rfl rfl, cell_set_ne (by simp) rfl rfl]; exact cell_set_same (by rw [cell_set_ne (by simp) rfl rfl, h.b.1]; rfl)
 ·rw [cell_set_ne (by simp) rfl rfl]; exact cell_set_same (by rw [cell_set_ne (by simp) rfl rfl, cell_set_ne (by simp) rfl rfl, h.c.1]; rfl)
 ·exact cell_set_same (by rw [cell_set_ne (by simp) rfl rfl, cell_set_ne (by simp) rfl rfl, cell_set_ne (by simp) rfl rfl, h.d.1]; rfl)
def PtsC (W : World) (C : Co) (b : Bool) (u : Nat → Value) (W' : World) : Prop := ∃ g7, u 7 = .pointer (some ⟨g7, 0, none⟩) ∧ u 8 = .bool b ∧ W.heap.size ≤ g7 ∧ CoBx W' g7 C ∧ Below W.heap.size W W'
theorem ptsR_none {l : List Pl} {p q r : Pl} (h : ¬ (det p q r ≠ 0 ∧ alw l (mt p q r) = true)) : ptsR l p q r = [] := by unfold ptsR; rw [if_neg h]
theorem ptsR_some {l : List Pl} {p q r : Pl} (h : det p q r ≠ 0) (h2 : alw l (mt p q r) = true) : ptsR l p q r = [mt p q r] := by unfold ptsR; rw [if_pos ⟨h, h2⟩]
theorem hasC_mem (cs : List Co) (c : Co) : hasC cs c = decide (c ∈ cs) := by
 unfold hasC
 rw [Bool.eq_iff_iff, List.any_eq_true, decide_eq_true_eq]
 constructor
 ·rintro ⟨d, hd, h⟩; rw [decide_eq_true_eq] at h; subst h; exact hd
 ·intro h; exact ⟨c, h, by simp⟩
set_option maxRecDepth 100000 in
set_option maxHeartbeats 16000000 in
theorem pointsR_any (ps : List Pl) (pa : Option Addr) (pc : Nat) (w : World) (hps : Good ps) (hpl : ps.length ≤ 40) (hv : Pls.V w pa ps) :
    Calls Tryz.prog 39 #[.slice pa ps.length pc] w fun e w' => ∃ a c, e = .returned (.slice a (refP ps).length c) ∧ w'.ownsRow w.heap.size 48 4 (.slice a (refP ps).length c) (refP ps).length ((refP ps).flatMap cellsCo) ∧ Below w.heap.size w w' := by
 have hmix : Tryz.prog.follows .mixedOrders = true := by kernel_rfl
 obtain ⟨i0, hi0, hz0, hz1, hz2⟩ := info_parts coInfo
 have HG := Lib.hid hps
 have HV := Lib.hid hv
 have HAL := Lib.hid (fun (c : Co) (hc : c.in_) W (h : Below w.heap.size w W) => allowed_any ps pa pc c W (hv.keep h) (by omega) (fun p hp => (hps p hp).1) hc)
 have HRI := Lib.hid (fun n (h : n ≤ ps.length) => Nat.le_trans (rawI_len ps ps.length n h) (Nat.mul_le_mul h (Nat.le_refl _)))
 clear hv hps
 go_enter Tryz.func39, Tryz.ntmps39
 go_wp2_with fail
 go_loopw [3, 4] (fun ov iv wr => ∃ (i : Nat) (L : List Co), i ≤ ps.length ∧ iv = .int .i64 (i : Int) ∧ Hid (L = ddp (rawI ps i)) ∧ wr.ownsRow w.heap.size 48 4 ov L.length (L.flatMap cellsCo) ∧ Below w.heap.size w wr) (fun _ iv _ => ps.length - (intOf iv).toNat)
 case atStart => exact ⟨0, [], Nat.zero_le _, rfl, Lib.hid rfl, ⟨rfl, .inl ⟨rfl, rfl⟩⟩, Below.refl _ _⟩
 case round =>
  obtain ⟨i, L, hi, rfl, HL, hown, hb⟩ := hrel
  have HO := Lib.hid hown
  have HB := Lib.hid hb
  obtain ⟨oa, oc, rfl, -, -⟩ := own_slice hown
  clear hown hb
  by_cases hlt : i < ps.length
  ·have hki : (i : Int) < (ps.length : Int) := by omega
   have HGD := Lib.hid (getD_at hlt)
   have HPI := Lib.hid (HG.out _ (List.getElem_mem hlt))
   have HRS := Lib.hid (rawI_succ ps i)
   rw [HGD.out] at HRS
   obtain ⟨b0, off0, ha, hat⟩ := HV.out.at_ hlt
   have HAT := Lib.hid hat
   generalize ps[i] = p at *
   clear hat
   subst ha
   go_wp2_with fail
   go_loopw [3, 5] (fun ov kv wr => ∃ (k : Nat) (L : List Co), k ≤ i ∧ kv = .int .i64 (k : Int) ∧ Hid (L = ddp (rawI ps i ++ rawK ps p k)) ∧ wr.ownsRow w.heap.size 48 4 ov L.length (L.flatMap cellsCo) ∧ Below w.heap.size w wr) (fun _ kv _ => i - (intOf kv).toNat)
   case atStart => exact ⟨0, L, Nat.zero_le _, rfl, Lib.hid (by rw [HL.out]; simp [rawK]), HO.out, HB.out⟩
   case round =>
    obtain ⟨k, L2, hk, rfl, HL2, hown, hb⟩ := hrel
    have HO2 := Lib.hid hown
    have HB2 := Lib.hid hb
    obtain ⟨oa2, oc2, rfl, -, -⟩ := own_slice hown
    clear hown hb
    by_cases hlt2 : k < i
    ·have hki2 : (k : Int) < (i : Int) := by omega
     have hkl : k < ps.length := by omega
     have HGD2 := Lib.hid (getD_at hkl)
     have HQI := Lib.hid (HG.out _ (List.getElem_mem hkl))
     have HRK := Lib.hid (rawK_succ ps p k)
     rw [HGD2.out] at HRK
     obtain ⟨b', off', ha, hat⟩ := HV.out.at_ hkl
     obtain ⟨rfl, rfl⟩ : b0 = b' ∧ off0 = off' := by injection ha with h; injection h with h1 h2; exact ⟨h1, h2⟩
     have HAT2 := Lib.hid hat
     clear ha hat
     generalize ps[k] = q at *
     go_wp2_with fail
     go_loopw [3, 6] (fun ov mv wr => ∃ (m : Nat) (L : List Co), m ≤ k ∧ mv = .int .i64 (m : Int) ∧ Hid (L = ddp (rawI ps i ++ rawK ps p k ++ rawR ps p q m)) ∧ wr.ownsRow w.heap.size 48 4 ov L.length (L.flatMap cellsCo) ∧ Below w.heap.size w wr) (fun _ mv _ => k - (intOf mv).toNat)
     case atStart => exact ⟨0, L2, Nat.zero_le _, rfl, Lib.hid (by rw [HL2.out]; simp [rawR]), HO2.out, HB2.out⟩
     case round =>
      obtain ⟨m, L3, hm, rfl, HL3, hown, hb⟩ := hrel
      have HO3 := Lib.hid hown
      have HB3 := Lib.hid hb
      obtain ⟨oa3, oc3, rfl, -, -⟩ := own_slice hown
      clear hown
      by_cases hlt3 : m < k
      ·have hki3 : (m : Int) < (k : Int) := by omega
       have hml : m < ps.length := by omega
       have HRI2 := Lib.hid (HG.out _ (List.getElem_mem hml))
       have HRR := Lib.hid (rawR_succ (l := ps) (p := p) (q := q) hml)
       obtain ⟨b', off', ha, hat⟩ := HV.out.at_ hml
       obtain ⟨rfl, rfl⟩ : b0 = b' ∧ off0 = off' := by injection ha with h; injection h with h1 h2; exact ⟨h1, h2⟩
       clear ha
       generalize ps[m] = r at *
       obtain ⟨x0, x1, x2, x3, -⟩ := HAT.out
       obtain ⟨y0, y1, y2, y3, -⟩ := HAT2.out
       obtain ⟨t0, t1, t2, t3, -⟩ := hat
       have HPT := Lib.hid (fun W => pointR_any p q r HPI.out.1 HQI.out.1 HRI2.out.1 W)
       obtain ⟨C, hC⟩ : ∃ C, C = ptR p q r := ⟨_, rfl⟩
       rw [← hC] at HPT
       obtain ⟨d, hd⟩ : ∃ d, d = decide (det p q r ≠ 0) := ⟨_, rfl⟩
       rw [← hd] at HPT
       have HCD := Lib.hid (And.intro hC hd)
       clear hC hd
       go_upto_region 11 with fail
       have kx0 : ∀ y : KW (fun W' => Below wr.heap.size wr W'), (y.w.cell? ⟨b0, off0 + i * 4, none⟩ = some (.int .i64 p.a) ∧ y.w.cell? ⟨b0, off0 + i * 4 + 1, none⟩ = some (.int .i64 p.b) ∧ y.w.cell? ⟨b0, off0 + i * 4 + 2, none⟩ = some (.int .i64 p.c) ∧ y.w.cell? ⟨b0, off0 + i * 4 + 3, none⟩ = some (.int .i64 p.d)) := fun y => ⟨cell_keep y.ok (cell_keep hb x0), cell_keep y.ok (cell_keep hb x1), cell_keep y.ok (cell_keep hb x2), cell_keep y.ok (cell_keep hb x3)⟩
       have kx1 : ∀ y : KW (fun W' => Below wr.heap.size wr W'), (y.w.cell? ⟨b0, off0 + k * 4, none⟩ = some (.int .i64 q.a) ∧ y.w.cell? ⟨b0, off0 + k * 4 + 1, none⟩ = some (.int .i64 q.b) ∧ y.w.cell? ⟨b0, off0 + k * 4 + 2, none⟩ = some (.int .i64 q.c) ∧ y.w.cell? ⟨b0, off0 + k * 4 + 3, none⟩ = some (.int .i64 q.d)) := fun y => ⟨cell_keep y.ok (cell_keep hb y0), cell_keep y.ok (cell_keep hb y1), cell_keep y.ok (cell_keep hb y2), cell_keep y.ok (cell_keep hb y3)⟩
       have kx2 : ∀ y : KW (fun W' => Below wr.heap.size wr W'), (y.w.cell? ⟨b0, off0 + m * 4, none⟩ = some (.int .i64 r.a) ∧ y.w.cell? ⟨b0, off0 + m * 4 + 1, none⟩ = some (.int .i64 r.b) ∧ y.w.cell? ⟨b0, off0 + m * 4 + 2, none⟩ = some (.int .i64 r.c) ∧ y.w.cell? ⟨b0, off0 + m * 4 + 3, none⟩ = some (.int .i64 r.d)) := fun y => ⟨cell_keep y.ok (cell_keep hb t0), cell_keep y.ok (cell_keep hb t1), cell_keep y.ok (cell_keep hb t2), cell_keep y.ok (cell_keep hb t3)⟩
       haveI n1 : Nonempty (KW (fun W' => Below wr.heap.size wr W')) := ⟨⟨wr, Below.refl _ _⟩⟩
       refine wp_cut_slots [25, 26, 27, 28, 29, 30, 31, 32, 33, 34, 35, 36, 37, 38, 39, 40, 7, 8] (PtsC wr C d) ?_ ?_
       ·refine wp_region_gro (fun w' => ∃ y : KW (fun W' => Below wr.heap.size wr W'), w' = y.w) 18 (.take 0 (.take 1 (.take 2 (.take 3 (.take 4 (.take 5 (.take 6 (.take 7 (.take 8 (.take 9 (.take 10 (.take 11 (.call 12 (.take 13 (.take 14 (.take 15 (.one 16 (.one 17 .done)))))))))))))))))) hmix (by kernel_rfl) kw_grew (KW.mk' (Below.refl _ _).drew) ?_
        have HC0 := Lib.hid (show Below wr.heap.size wr wr.drew from (Below.refl _ _).drew)
        generalize wr.drew = ww0 at *
        repeat (refine wpGro_take ?_; simp only [nthOp]; (first | go_big_quiet_step (fail) | quiet_step (fail)); refine wpQuiet_nil ?_)
        apply wpGro_call
        ·intro w1 h1
         simp only [nthOp]
         (first | go_big_quiet_step ((go_at_call 72; exact grew_of (HPT.out _))) | quiet_step ((go_at_call 72; exact grew_of (HPT.out _))))
         exact wpQuiet_nil rfl
        repeat (refine wpGro_take ?_; simp only [nthOp]; (first | go_big_quiet_step (fail) | quiet_step (fail)); refine wpQuiet_nil ?_)
        apply wpGro_one
        intro wa ha
        simp only [nthOp]
        go_wp2_with fail
        have HA := Lib.hid (HC0.out.trans (ha.mono HC0.out.size))
        have HC := Lib.hid (HA.out.alloc HA.out.size (.cells #[.int .i64 0, .int .i64 0, .int .i64 0, .int .i64 0] 48))
        have HZ := Lib.hid (ZBc.new wa 48)
        have HGG := Lib.hid HA.out.size
        refine One_mk (KW.mk' HC.out) ?_
        generalize (wa.alloc (.cells #[.int .i64 0, .int .i64 0, .int .i64 0, .int .i64 0] 48)) = wb at *
        generalize wa.heap.size = g7 at *
        apply wpGro_one
        intro wc hc
        simp only [nthOp]
        have HCC := Lib.hid (HC.out.trans (hc.mono HC.out.size))
        have HZ2 := Lib.hid (HZ.out.keep hc)
        obtain ⟨⟨z0, f0⟩, ⟨z1, f1⟩, ⟨z2, f2⟩, z3, f3⟩ := HZ2.out
        go_wp2_with fail
        have HZP := Lib.hid (HZ2.out.put C)
        refine One_mk (KW.mk' ((((HCC.out.setCell HGG.out _).setCell HGG.out _).setCell HGG.out _).setCell HGG.out _)) ?_
        apply wpGro_done
        intro wd hd
        have HCE := Lib.hid (((((HCC.out.setCell HGG.out _).setCell HGG.out _).setCell HGG.out _).setCell HGG.out _).trans (hd.mono (by simp only [size_set]; exact HCC.out.size)))
        have HZE := Lib.hid (HZP.out.keep hd)
        simp only [List.drop_succ_cons, List.drop_zero]
        go_wp2_with fail
        refine NP_mk ?_
        exact cut_meet (by simp [forget]) ⟨_, rfl, rfl, HGG.out, HZE.out, HCE.out⟩
       rintro u W5 ⟨g7, hu7, hu8, hg7, hc7, hb5⟩
       simp only [forget, List.foldl_cons, List.foldl_nil, hu7, hu8, List.setIfInBounds_toArray, List.set_cons_succ, List.set_cons_zero]
       have HO5 := Lib.hid (own_keep HO3.out hb5)
       have HBW5 := Lib.hid (hb.trans (hb5.mono hb.size))
       obtain ⟨s0, s1, s2, s3⟩ := hc7
       have HLI := Lib.hid (show ∀ c ∈ L3, c.in_ from fun c hc => by
        rw [HL3.out, ddp_mem] at hc
        have hmr : c ∈ raw ps := by
         unfold raw rawI
         rcases List.mem_append.1 hc with hc | hc
         ·rcases List.mem_append.1 hc with hc | hc
          ·unfold rawI at hc
           obtain ⟨x, hx, hc⟩ := List.mem_flatMap.1 hc
           exact List.mem_flatMap.2 ⟨x, by simp at hx ⊢; omega, hc⟩
          ·unfold rawK at hc
           obtain ⟨x, hx, hc⟩ := List.mem_flatMap.1 hc
           refine List.mem_flatMap.2 ⟨i, by simp; omega, ?_⟩
           rw [HGD.out]
           exact List.mem_flatMap.2 ⟨x, by simp at hx ⊢; omega, hc⟩
         ·refine List.mem_flatMap.2 ⟨i, by simp; omega, ?_⟩
          rw [HGD.out]
          refine List.mem_flatMap.2 ⟨k, by simp; omega, ?_⟩
          rw [HGD2.out]
          unfold rawR at hc ⊢
          obtain ⟨x, hx, hc⟩ := List.mem_flatMap.1 hc
          exact List.mem_flatMap.2 ⟨x, List.mem_of_mem_take (by rw [List.take_take, Nat.min_eq_left (by omega)]; exact hx : x ∈ (ps.take k).take m), hc⟩
        exact raw_in HG.out c hmr)
       have HLL := Lib.hid (show L3.length ≤ 64000 by
        rw [HL3.out]
        refine Nat.le_trans (ddp_len _) ?_
        rw [List.length_append, List.length_append]
        have h1 := rawI_len ps ps.length i (by omega)
        have h2 := rawK_len ps p i k (by omega)
        have h3 := rawR_len ps p q m
        have h4 : i * (ps.length * ps.length) + (ps.length * ps.length) ≤ ps.length * (ps.length * ps.length) := by
         have := Nat.mul_le_mul_right (ps.length * ps.length) (show i + 1 ≤ ps.length by omega)
         rwa [Nat.add_mul, Nat.one_mul] at this
        have h5 : k * i + i ≤ ps.length * ps.length := by
         have := Nat.mul_le_mul (show k + 1 ≤ ps.length by omega) (show i ≤ ps.length by omega)
         rw [Nat.add_mul, Nat.one_mul] at this; exact this
        have h6 : ps.length * (ps.length * ps.length) ≤ 64000 := by
         have := Nat.mul_le_mul hpl (Nat.mul_le_mul hpl hpl); omega
        omega)
       clear kx0 kx1 kx2 n1 hu7 hu8 hb5 hb x0 x1 x2 x3 y0 y1 y2 y3 t0 t1 t2 t3 hg7
       by_cases hd0 : det p q r = 0
       ·obtain rfl : d = false := by rw [HCD.out.2]; simp [hd0]
        have HN := Lib.hid (show L3 = ddp (rawI ps i ++ rawK ps p k ++ rawR ps p q (m + 1)) by rw [HRR.out, ptsR_none (fun h => h.1 hd0), List.append_nil]; exact HL3.out)
        go_wp2_with fail
        go_roundw
        case rel => exact ⟨m + 1, L3, by omega, by go_num, HN, HO5.out, HBW5.out⟩
        case measure => first | (simp [intOf]; done) | (simp [intOf]; omega)
       ·obtain rfl : d = true := by rw [HCD.out.2]; simp [hd0]
        have HCM := Lib.hid (show C = mt p q r by rw [HCD.out.1]; unfold ptR; rw [if_neg hd0])
        have HA := Lib.hid (HAL.out C (by rw [HCM.out]; exact mt_in HPI.out.1 HQI.out.1 HRI2.out.1))
        rw [alwR_eq] at HA
        by_cases hal : alw ps C = true
        ·rw [hal] at HA
         have HPS := Lib.hid (show ptsR ps p q r = [C] by rw [HCM.out]; exact ptsR_some hd0 (by rw [← HCM.out]; exact hal))
         by_cases hmem : C ∈ L3
         ·have HHQ := Lib.hid (fun W (hW : Cos.V W oa3 L3) => hasCorner_any L3 oa3 oc3 C W hW (by have := HLL.out; omega))
          rw [hasC_mem, decide_eq_true hmem] at HHQ
          have HN := Lib.hid (show L3 = ddp (rawI ps i ++ rawK ps p k ++ rawR ps p q (m + 1)) by rw [HRR.out, HPS.out, ← List.append_assoc, ddp_snoc, ← HL3.out]; unfold addN; rw [if_pos hmem])
          clear hmem hal hd0
          go_wp2_with (first
         | (have h := HA.out; clear HA; go_at_call 73; refine (h W5 HBW5.out).mono ?_; clear h; rintro e w6 ⟨rfl, hb6⟩; have HB6 := Lib.hid hb6; have HBW6 := Lib.hid (HBW5.out.trans (hb6.mono HBW5.out.size)); have HO6 := Lib.hid (own_keep HO5.out hb6); have s0 := cell_keep hb6 s0; have s1 := cell_keep hb6 s1; have s2 := cell_keep hb6 s2; have s3 := cell_keep hb6 s3; have HHC := Lib.hid (HHQ.out w6 (ownCoV (fun c hc => Co.in_.wf (HLI.out c hc)) HO6.out)); clear hb6)
         | (have h := HHC.out; clear HHC; go_at_call 74; refine h.mono ?_; clear h; rintro e w7 ⟨rfl, hb7⟩; have HB7 := Lib.hid hb7; have HBW7 := Lib.hid (HBW6.out.trans (hb7.mono HBW6.out.size)); have HO7 := Lib.hid (own_keep HO6.out hb7); have s0 := cell_keep hb7 s0; have s1 := cell_keep hb7 s1; have s2 := cell_keep hb7 s2; have s3 := cell_keep hb7 s3; clear hb7))
          go_roundw
          case rel => exact ⟨m + 1, L3, by omega, by go_num, HN, HO7.out, HBW7.out⟩
          case measure => first | (simp [intOf]; done) | (simp [intOf]; omega)
         ·have HHQ := Lib.hid (fun W (hW : Cos.V W oa3 L3) => hasCorner_any L3 oa3 oc3 C W hW (by have := HLL.out; omega))
          rw [hasC_mem, decide_eq_false hmem] at HHQ
          have HN := Lib.hid (show L3 ++ [C] = ddp (rawI ps i ++ rawK ps p k ++ rawR ps p q (m + 1)) by rw [HRR.out, HPS.out, ← List.append_assoc, ddp_snoc, ← HL3.out]; unfold addN; rw [if_neg hmem])
          clear hmem hal hd0
          go_upto_region 13 with (first
         | (have h := HA.out; clear HA; go_at_call 73; refine (h W5 HBW5.out).mono ?_; clear h; rintro e w6 ⟨rfl, hb6⟩; have HB6 := Lib.hid hb6; have HBW6 := Lib.hid (HBW5.out.trans (hb6.mono HBW5.out.size)); have HO6 := Lib.hid (own_keep HO5.out hb6); have s0 := cell_keep hb6 s0; have s1 := cell_keep hb6 s1; have s2 := cell_keep hb6 s2; have s3 := cell_keep hb6 s3; have HHC := Lib.hid (HHQ.out w6 (ownCoV (fun c hc => Co.in_.wf (HLI.out c hc)) HO6.out)); clear hb6)
         | (have h := HHC.out; clear HHC; go_at_call 74; refine h.mono ?_; clear h; rintro e w7 ⟨rfl, hb7⟩; have HB7 := Lib.hid hb7; have HBW7 := Lib.hid (HBW6.out.trans (hb7.mono HBW6.out.size)); have HO7 := Lib.hid (own_keep HO6.out hb7); have s0 := cell_keep hb7 s0; have s1 := cell_keep hb7 s1; have s2 := cell_keep hb7 s2; have s3 := cell_keep hb7 s3; clear hb7))
          have HOA := Lib.hid (own_keep HO7.out ((Below.refl w7.heap.size w7).alloc (Nat.le_refl _) (.cells #[.int .i64 C.x, .int .i64 C.y, .int .i64 C.z, .int .i64 C.n] 48)))
          have HNW := Lib.hid (show ∀ j u, (cellsCo C)[j]? = some u → (w7.alloc (.cells #[.int .i64 C.x, .int .i64 C.y, .int .i64 C.z, .int .i64 C.n] 48)).cell? ((⟨w7.heap.size, 0, none⟩ : Addr).add j) = some u from news_of (cellsCo C) 48 w7 _ rfl)
          have HZW := HBW7.out.size
          go_wp2_with (at_builtin; refine wpList_append_here _ rfl _ _ 39 rfl w.heap.size 48 i0 (.agg #[.int .i64 0, .int .i64 0, .int .i64 0, .int .i64 0]) 4 32 Tryz.underlying39 hi0 hz0 hz1 hz2 rfl (by decide) (.slice oa3 L3.length oc3) L3.length (L3.flatMap cellsCo) rfl HOA.out ⟨w7.heap.size, 0, none⟩ 1 1 (cellsCo C) rfl rfl HNW.out (cellsCo_one C) (by decide) (by have := HLL.out; simp only [maxLen]; omega) (by have := HLL.out; omega) (by simp; omega) ?_; intro v' w8 ho hg hat; obtain ⟨oa', oc', rfl, -, -⟩ := own_slice ho; have HO8 := Lib.hid (show w8.ownsRow w.heap.size 48 4 (.slice oa' (L3.length + 1) oc') (L3 ++ [C]).length ((L3 ++ [C]).flatMap cellsCo) by rw [List.flatMap_append, List.length_append]; simpa using ho); have HB8 := Lib.hid (below_grown (HBW7.out.alloc HZW (.cells #[.int .i64 C.x, .int .i64 C.y, .int .i64 C.z, .int .i64 C.n] 48)) hg (by simp; omega) fun k hk => (own_lt HO7.out hk).1); clear ho hg hat)
          go_roundw
          case rel => exact ⟨m + 1, L3 ++ [C], by omega, by go_num, HN, HO8.out, HB8.out⟩
          case measure => first | (simp [intOf]; done) | (simp [intOf]; omega)
        ·have hal0 : alw ps C = false := by simpa using hal
         rw [hal0] at HA
         have HN := Lib.hid (show L3 = ddp (rawI ps i ++ rawK ps p k ++ rawR ps p q (m + 1)) by rw [HRR.out, ptsR_none (fun h => hal (by rw [HCM.out]; exact h.2)), List.append_nil]; exact HL3.out)
         clear hal hal0 hd0
         go_wp2_with (have h := HA.out; clear HA; go_at_call 73; refine (h W5 HBW5.out).mono ?_; clear h; rintro e w6 ⟨rfl, hb6⟩; have HBW6 := Lib.hid (HBW5.out.trans (hb6.mono HBW5.out.size)); have HO6 := Lib.hid (own_keep HO5.out hb6); clear hb6)
         go_roundw
         case rel => exact ⟨m + 1, L3, by omega, by go_num, HN, HO6.out, HBW6.out⟩
         case measure => first | (simp [intOf]; done) | (simp [intOf]; omega)
      ·obtain rfl : m = k := by omega
       have hki3 : ¬ ((m : Nat) : Int) < ((m : Nat) : Int) := by omega
       have HN := Lib.hid (show L3 = ddp (rawI ps i ++ rawK ps p (m + 1)) by rw [HRK.out, ← List.append_assoc]; exact HL3.out)
       clear hb
       go_wp2_with fail
       go_roundw
       case rel => exact ⟨m + 1, L3, by omega, by go_num, HN, HO3.out, HB3.out⟩
       case measure => first | (simp [intOf]; done) | (simp [intOf]; omega)
    ·obtain rfl : k = i := by omega
     have hki2 : ¬ ((k : Nat) : Int) < ((k : Nat) : Int) := by omega
     have HN := Lib.hid (show L2 = ddp (rawI ps (k + 1)) by rw [HRS.out]; exact HL2.out)
     go_wp2_with fail
     go_roundw
     case rel => exact ⟨k + 1, L2, by omega, by go_num, HN, HO2.out, HB2.out⟩
     case measure => first | (simp [intOf]; done) | (simp [intOf]; omega)
  ·obtain rfl : i = ps.length := by omega
   have hki : ¬ ((ps.length : Nat) : Int) < ((ps.length : Nat) : Int) := by omega
   have HN := Lib.hid (show refP ps = L from HL.out.symm)
   go_wp2_with fail
   go_ret
   rw [HN.out]
   exact ⟨oa, oc, rfl, HO.out, HB.out⟩
end Go.Proofs.YtgjmfdhgeahdcaaGreat
/- Equality of lists of planes and of points, as the document's helpers say it. -/
set_option linter.unusedVariables false
set_option linter.unusedSimpArgs false
namespace Go.Proofs.YtgjmfdhgeahdcaaGreat
open Go Go.RowKit Go.Sort Go.Lib

theorem eq_drop {α : Type} [DecidableEq α] {l m : List α} {k : Nat} (hk : k < l.length) (hm : k < m.length) : decide (l.drop k = m.drop k) = (decide (l[k] = m[k]) && decide (l.drop (k + 1) = m.drop (k + 1))) := by
 rw [Bool.eq_iff_iff]
 simp only [Bool.and_eq_true, decide_eq_true_eq]
 rw [List.drop_eq_getElem_cons hk, List.drop_eq_getElem_cons hm, List.cons.injEq]
theorem eq_end {α : Type} [DecidableEq α] {l m : List α} {k : Nat} (hk : l.length ≤ k) (hm : m.length ≤ k) : decide (l.drop k = m.drop k) = true := by rw [List.drop_eq_nil_of_le hk, List.drop_eq_nil_of_le hm]; simp
theorem eq_len {α : Type} [DecidableEq α] {l m : List α} (h : l.length ≠ m.length) : decide (l = m) = false := decide_eq_false fun e => h (by rw [e])
set_option maxRecDepth 100000 in
set_option maxHeartbeats 4000000 in
theorem sameCell_any (l : List Pl) (a : Option Addr) (c : Nat) (m : List Pl) (b : Option Addr) (d : Nat) (w : World) (hl : l.length ≤ 9223372036854775807) (hm : m.length ≤ 9223372036854775807) (hv : Pls.V w a l) (hu : Pls.V w b m) :
    Calls Tryz.prog 25 #[.agg #[.slice a l.length c], .agg #[.slice b m.length d]] w fun e w' => e = .returned (.bool (decide (l = m))) ∧ Below w.heap.size w w' := by
 obtain ⟨S, hS⟩ : ∃ S, S = decide (l = m) := ⟨_, rfl⟩
 have HS := Lib.hid hS
 have HV := Lib.hid hv
 have HU := Lib.hid hu
 rw [← hS]
 clear hS hv hu
 go_enter Tryz.func25, Tryz.ntmps25
 go_upto_region 1 with fail
 refine gen_world (fun W => W.cell? ⟨w.heap.size, 0, none⟩ = some (.slice a l.length c) ∧ W.cell? ⟨w.heap.size + 1, 0, none⟩ = some (.slice b m.length d) ∧ Below w.heap.size w W) ⟨by simp [go_sem], by simp [go_sem], by repeat (first | (with_reducible assumption) | exact Below.refl _ _ | (refine Below.setCell ?_ (by first | omega | (simp; omega) | (simp; done)) _) | (refine Below.alloc ?_ (by first | omega | (simp; omega) | (simp; done)) _) | (refine Below.drew ?_))⟩ ?_
 rintro W ⟨b0, b1, hb⟩
 obtain ⟨gw, hgw⟩ : ∃ g, g = w.heap.size := ⟨_, rfl⟩
 have HGW := Lib.hid hgw
 rw [← hgw] at b0 b1 ⊢
 clear hgw
 have HB0 := Lib.hid hb
 clear hb
 by_cases hlen : l.length = m.length
 ·have hne : ¬ ((l.length : Int) ≠ (m.length : Int)) := by omega
  have hli : ((l.length : Nat) : Int) = ((m.length : Nat) : Int) := by omega
  have HLEN := Lib.hid hlen
  have HST := Lib.hid (show S = decide (l.drop 0 = m.drop 0) from HS.out)
  clear hlen hne
  go_wp2_with fail
  go_loopw [5] (fun iv wr => ∃ k : Nat, k ≤ l.length ∧ iv = .int .i64 (k : Int) ∧ Hid (S = decide (l.drop k = m.drop k)) ∧ Below W.heap.size W wr) (fun iv _ => l.length - (intOf iv).toNat)
  case atStart => exact ⟨0, Nat.zero_le _, rfl, HST, Below.refl _ _⟩
  case round =>
   obtain ⟨k, hk, rfl, HK, hb⟩ := hrel
   have HB1 := Lib.hid hb
   have HBW := Lib.hid (HB0.out.trans (hb.mono HB0.out.size))
   have c0 := cell_keep hb b0
   have c1 := cell_keep hb b1
   by_cases hlt : k < l.length
   ·have hki : (k : Int) < (l.length : Int) := by omega
    have hlt2 : k < m.length := by have := HLEN.out; omega
    have hki2 : (k : Int) < (m.length : Int) := by omega
    obtain ⟨p, off, rfl, hat⟩ := (HV.out.keep HBW.out).at_ hlt
    obtain ⟨q, off2, rfl, hat2⟩ := (HU.out.keep HBW.out).at_ hlt2
    have HD := Lib.hid (eq_drop hlt hlt2)
    generalize l[k] = x at *
    generalize m[k] = y at *
    obtain ⟨x0, x1, x2, x3, -⟩ := hat
    obtain ⟨y0, y1, y2, y3, -⟩ := hat2
    have hl0 := block_lt_of_cell x0
    have hl1 := block_lt_of_cell y0
    have hl2 := block_lt_of_cell c0
    have hl3 := block_lt_of_cell c1
    simp only at hl0 hl1 hl2 hl3
    have heq := Pl_neq x y
    clear hb b0 b1
    go_upto_region 6 with fail
    refine wp_region_grew (by kernel_rfl) (by kernel_rfl) ?_
    repeat (first | go_big_quiet_step (fail) | quiet_step (fail))
    refine wpQuiet_nil ?_
    rintro _ ⟨gg, rfl⟩
    have HFB := Lib.hid (show Below W.heap.size W (grew wr gg) from grewB HB1.out HB1.out.size _)
    have HFW := Lib.hid (HB0.out.trans (HFB.out.mono HB0.out.size))
    cases hq : decide (x = y) with
    | true =>
     have HE := Lib.hid (show S = decide (l.drop (k + 1) = m.drop (k + 1)) by rw [HK.out, HD.out, hq]; rfl)
     go_wp2_with fail
     go_roundw
     case rel => exact ⟨k + 1, by omega, by go_num, HE, HFB.out⟩
     case measure => first | (simp [intOf]; done) | (simp [intOf]; omega)
    | false =>
     have HE := Lib.hid (show S = false by rw [HK.out, HD.out, hq]; rfl)
     go_wp2_with fail
     go_ret
     exact ⟨ret_bool HE.out.symm, HFW.out⟩
   ·obtain rfl : k = l.length := by omega
    have hki : ¬ ((l.length : Nat) : Int) < ((l.length : Nat) : Int) := by omega
    have HE := Lib.hid (show S = true by rw [HK.out]; exact eq_end (Nat.le_refl _) (Nat.le_of_eq HLEN.out.symm))
    clear hb
    go_wp2_with fail
    go_ret
    exact ⟨ret_bool HE.out.symm, HBW.out⟩
 ·have hne : ¬ (l.length : Int) = (m.length : Int) := by omega
  have HE := Lib.hid (show S = false by rw [HS.out]; exact eq_len hlen)
  go_wp2_with fail
  go_ret
  exact ⟨ret_bool HE.out.symm, HB0.out⟩
end Go.Proofs.YtgjmfdhgeahdcaaGreat
