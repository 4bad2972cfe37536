/- Whether planes bound, as the program finds it. -/
import Derived.Test.YtgjmfdhgeahdcaaGreatQF
set_option linter.unusedVariables false
set_option linter.unusedSimpArgs false
namespace Go.Proofs.YtgjmfdhgeahdcaaGreat
open Go Go.RowKit Go.Sort Go.Lib

theorem abov_step {l : List Pl} {v : Vec} {m : Nat} (hm : m < l.length) : abov (l.take (m + 1)) v = (abov (l.take m) v || decide (0 < dt v (nrm l[m]))) := by
 unfold abov; rw [List.take_succ_eq_append_getElem hm, List.any_append]; simp
theorem belo_step {l : List Pl} {v : Vec} {m : Nat} (hm : m < l.length) : belo (l.take (m + 1)) v = (belo (l.take m) v || decide (dt v (nrm l[m]) < 0)) := by
 unfold belo; rw [List.take_succ_eq_append_getElem hm, List.any_append]; simp
def neB (vs : List Vec) : Bool := !vs.isEmpty
theorem neB_iff (vs : List Vec) : neB vs = decide (vs ≠ []) := by cases vs <;> rfl
/-- The pairs so far: none has a free direction. -/
def pairOK (l : List Pl) (vs : List Vec) : Bool := vs.all fun v => abov l v && belo l v
theorem crsK_mem {l : List Pl} {i k : Nat} (hi : i < l.length) (hk : k < i) {v : Vec} (hv : v = crs (nrm l[i]) (nrm l[k])) (h0 : v ≠ v0) : v ∈ crsI l l.length := by
 subst hv; exact mem_crsI.2 ⟨i, k, hi, hk, h0, rfl⟩
theorem bounM_bad {l : List Pl} {v : Vec} (hv : v ∈ crsI l l.length) (h : (abov l v && belo l v) = false) : bounM l = false := by
 cases hb : bounM l with
 | false => rfl
 | true =>
  unfold bounM at hb
  rw [Bool.and_eq_true, List.all_eq_true] at hb
  have := hb.1 v hv
  rw [h] at this; cases this
theorem bounM_end {l : List Pl} (h : pairOK l (crsI l l.length) = true) : bounM l = neB (crsI l l.length) := by
 rw [neB_iff]; unfold bounM; unfold pairOK at h; rw [h, Bool.true_and]
set_option maxRecDepth 100000 in
set_option maxHeartbeats 8000000 in
theorem bounded_any (ps : List Pl) (pa : Option Addr) (pc : Nat) (w : World) (hps : Good ps) (hpl : ps.length ≤ 40) (hv : Pls.V w pa ps) (hpc : ps.length ≤ pc) :
    Calls Tryz.prog 54 #[.slice pa ps.length pc] w fun e w' => e = .returned (.bool (bounM ps)) ∧ Below w.heap.size w w' := by
 have hmix : Tryz.prog.follows .mixedOrders = true := by kernel_rfl
 have HG := Lib.hid hps
 have HV := Lib.hid hv
 clear hps hv
 go_enter Tryz.func54, Tryz.ntmps54
 go_wp2_with fail
 go_loopw [3, 16] (fun fv iv wr => ∃ (i : Nat), i ≤ ps.length ∧ iv = .int .i64 (i : Int) ∧ fv = .bool (neB (crsI ps i)) ∧ Hid (pairOK ps (crsI ps i) = true) ∧ Below w.heap.size w wr) (fun _ iv _ => ps.length - (intOf iv).toNat)
 case atStart => exact ⟨0, Nat.zero_le _, rfl, rfl, Lib.hid rfl, Below.refl _ _⟩
 case round =>
  obtain ⟨i, hi, rfl, rfl, HP, hb⟩ := hrel
  have HB1 := Lib.hid hb
  have HVR := Lib.hid (HV.out.keep hb)
  have hz1 := hb.size
  clear hb
  by_cases hlt : i < ps.length
  ·have hki : (i : Int) < (ps.length : Int) := by omega
   obtain ⟨b, off, ha, hat⟩ := HVR.out.at_ hlt
   have HGD := Lib.hid (getD_at hlt)
   have HPI := Lib.hid (HG.out _ (List.getElem_mem hlt)).1
   have HMEM := Lib.hid (fun (k : Nat) (hk : k < i) (v : Vec) (hv : v = crs (nrm ps[i]) (nrm ps[k])) (h0 : v ≠ v0) => crsK_mem hlt hk hv h0)
   obtain ⟨c0, c1, c2, c3, -⟩ := hat
   have HRS := Lib.hid (crsI_succ ps i)
   rw [HGD.out] at HRS
   generalize ps[i] = p at *
   subst ha
   go_upto_region 5 with fail
   refine gen_world (fun W2 => Below wr.heap.size wr W2 ∧ PlBx W2 wr.heap.size p) ⟨(Below.refl _ _).alloc (Nat.le_refl _) _, ⟨by simp [go_sem], by simp [go_sem], by simp [go_sem], by simp [go_sem]⟩⟩ ?_
   rintro W2 ⟨hw2, hp2⟩
   generalize hg5 : wr.heap.size = g5 at *
   have HW2 := Lib.hid hw2
   have HP2 := Lib.hid hp2
   have HBW2 := Lib.hid (HB1.out.trans (hw2.mono hz1))
   clear hw2 hp2 c0 c1 c2 c3 hg5
   go_wp2_with fail
   go_loopw [3, 25] (fun fv kv wr => ∃ (k : Nat), k ≤ i ∧ kv = .int .i64 (k : Int) ∧ fv = .bool (neB (crsI ps i ++ crsK ps p k)) ∧ Hid (pairOK ps (crsI ps i ++ crsK ps p k) = true) ∧ Below w.heap.size w wr ∧ PlBx wr g5 p) (fun _ kv _ => i - (intOf kv).toNat)
   case atStart => exact ⟨0, Nat.zero_le _, rfl, by simp [crsK], Lib.hid (by simpa [crsK] using HP.out), HBW2.out, HP2.out⟩
   case round =>
    obtain ⟨k, hk, rfl, rfl, HP3, hb, hp⟩ := hrel
    have HB3 := Lib.hid hb
    have HPB3 := Lib.hid hp
    have HVR3 := Lib.hid (HV.out.keep hb)
    have hz3 := hb.size
    clear hb
    by_cases hlt2 : k < i
    ·have hki2 : (k : Int) < (i : Int) := by omega
     have hkl : k < ps.length := by omega
     obtain ⟨b', off', ha, hat⟩ := HVR3.out.at_ hkl
     obtain ⟨rfl, rfl⟩ : b = b' ∧ off = off' := by injection ha with h; injection h with h1 h2; exact ⟨h1, h2⟩
     clear ha
     have HGD2 := Lib.hid (getD_at hkl)
     have HQI := Lib.hid (HG.out _ (List.getElem_mem hkl)).1
     have HME := Lib.hid (HMEM.out k hlt2)
     obtain ⟨c0, c1, c2, c3, -⟩ := hat
     have HRS2 := Lib.hid (crsK_succ ps p k)
     rw [HGD2.out] at HRS2
     generalize ps[k] = q at *
     go_upto_region 8 with fail
     refine gen_world (fun W3 => Below wr.heap.size wr W3 ∧ PlBx W3 g5 p ∧ PlBx W3 wr.heap.size q) ⟨(Below.refl _ _).alloc (Nat.le_refl _) _, hp.keep ((Below.refl _ _).alloc (Nat.le_refl _) _), ⟨by simp [go_sem], by simp [go_sem], by simp [go_sem], by simp [go_sem]⟩⟩ ?_
     rintro W3 ⟨hw4, hp4, hq4⟩
     have HBW4 := Lib.hid (HB3.out.trans (hw4.mono hz3))
     generalize wr.heap.size = g7 at *
     have HP4 := Lib.hid hp4
     have HQ4 := Lib.hid hq4
     obtain ⟨pc0, pc1, pc2, pc3⟩ := hp4
     obtain ⟨qc0, qc1, qc2, qc3⟩ := hq4
     have hz5 := HP4.out.lt
     have hz7 := HQ4.out.lt
     have HCR := Lib.hid (cross_any (nrm p) (nrm q) (Vec.in_.mono HPI.out.1 (by decide)) (Vec.in_.mono HQI.out.1 (by decide)))
     obtain ⟨L, hL⟩ : ∃ L, L = crs (nrm p) (nrm q) := ⟨_, rfl⟩
     have HLV := Lib.hid hL
     rw [← hL] at HCR
     clear hL hw4 c0 c1 c2 c3 hp
     refine wp_cut_slots [29, 30, 31, 32, 33, 8] (fun u W5 => ∃ g8, u 8 = .pointer (some ⟨g8, 0, none⟩) ∧ W3.heap.size ≤ g8 ∧ VcBx W5 g8 L ∧ Below W3.heap.size W3 W5) ?_ ?_
     ·have kx0 : ∀ y : KW (fun W' => Below W3.heap.size W3 W'), (y.w.cell? ⟨g5, 0, none⟩ = some (.int .i64 p.a) ∧ y.w.cell? ⟨g5, 1, none⟩ = some (.int .i64 p.b) ∧ y.w.cell? ⟨g5, 2, none⟩ = some (.int .i64 p.c) ∧ y.w.cell? ⟨g5, 3, none⟩ = some (.int .i64 p.d)) := fun y => ⟨cell_keep y.ok HP4.out.a, cell_keep y.ok HP4.out.b, cell_keep y.ok HP4.out.c, cell_keep y.ok HP4.out.d⟩
      have kx1 : ∀ y : KW (fun W' => Below W3.heap.size W3 W'), (y.w.cell? ⟨g7, 0, none⟩ = some (.int .i64 q.a) ∧ y.w.cell? ⟨g7, 1, none⟩ = some (.int .i64 q.b) ∧ y.w.cell? ⟨g7, 2, none⟩ = some (.int .i64 q.c) ∧ y.w.cell? ⟨g7, 3, none⟩ = some (.int .i64 q.d)) := fun y => ⟨cell_keep y.ok HQ4.out.a, cell_keep y.ok HQ4.out.b, cell_keep y.ok HQ4.out.c, cell_keep y.ok HQ4.out.d⟩
      haveI n1 : Nonempty (KW (fun W' => Below W3.heap.size W3 W')) := ⟨⟨W3, Below.refl _ _⟩⟩
      refine wp_region_tree (fun w' => ∃ y : KW (fun W' => Below W3.heap.size W3 W'), w' = y.w) 6 (.take 0 (.take 2 (.two 1 (.two 3 (.two 4 (.one 5 .done) 5 (.one 4 .done)) 5 (.one 3 (.one 4 .done))) 5 (.one 1 (.one 3 (.one 4 .done)))))) hmix (by kernel_rfl) (KW.mk' (Below.refl _ _).drew) ?_
      have HC0 := Lib.hid (show Below W3.heap.size W3 W3.drew from (Below.refl _ _).drew)
      generalize W3.drew = ww0 at *
      (refine wpTree_take ?_; simp only [nthOp]; (first | go_big_quiet_step (fail) | quiet_step (fail)); refine wpQuiet_nil ?_)
      (refine wpTree_take ?_; simp only [nthOp]; (first | go_big_quiet_step (fail) | quiet_step (fail)); refine wpQuiet_nil ?_)
      refine wpTree_two ?_ ?_
      ·simp only [nthOp]
       go_wp2_with (go_at_call 43; refine (normal_any p _).mono ?_; rintro e ww1 ⟨rfl, hb⟩; have HB1 := Lib.hid hb; clear hb)
       have HC1 := Lib.hid (HC0.out.trans (HB1.out.mono HC0.out.size))
       refine One_mk (KW.mk' HC1.out) ?_
       refine wpTree_two ?_ ?_
       ·simp only [nthOp]
        go_wp2_with (go_at_call 43; refine (normal_any q _).mono ?_; rintro e ww2 ⟨rfl, hb⟩; have HB2 := Lib.hid hb; clear hb)
        have HC2 := Lib.hid (HC1.out.trans (HB2.out.mono HC1.out.size))
        refine One_mk (KW.mk' HC2.out) ?_
        refine wpTree_two ?_ ?_
        ·simp only [nthOp]
         go_wp2_with (go_at_call 60; refine (HCR.out _).mono ?_; rintro e ww3 ⟨rfl, hb⟩; have HB3 := Lib.hid hb; clear hb)
         have HC3 := Lib.hid (HC2.out.trans (HB3.out.mono HC2.out.size))
         refine One_mk (KW.mk' HC3.out) ?_
         refine wpTree_one ?_
         simp only [nthOp]
         go_wp2_with fail
         have HC4 := Lib.hid (HC3.out.alloc HC3.out.size (.cells #[.int .i64 0, .int .i64 0, .int .i64 0] 56))
         have HZ4 := Lib.hid (ZBx.new ww3 56)
         have HG4 := Lib.hid HC3.out.size
         refine One_mk (KW.mk' HC4.out) ?_
         generalize (ww3.alloc (.cells #[.int .i64 0, .int .i64 0, .int .i64 0] 56)) = ww4 at *
         generalize ww3.heap.size = g8 at *
         obtain ⟨⟨z0, f0⟩, ⟨z1, f1⟩, z2, f2⟩ := HZ4.out
         refine wpTree_done ?_
         simp only [List.drop_succ_cons, List.drop_zero]
         go_wp2_with fail
         refine NP_mk ?_
         exact cut_meet (by simp [forget]) ⟨_, rfl, HG4.out, ZBx.put HZ4.out L, ((HC4.out.setCell HG4.out _).setCell HG4.out _).setCell HG4.out _⟩
        ·simp only [nthOp]
         go_wp2_with fail
         have HC5 := Lib.hid (HC2.out.alloc HC2.out.size (.cells #[.int .i64 0, .int .i64 0, .int .i64 0] 56))
         have HZ5 := Lib.hid (ZBx.new ww2 56)
         have HG5 := Lib.hid HC2.out.size
         refine One_mk (KW.mk' HC5.out) ?_
         generalize (ww2.alloc (.cells #[.int .i64 0, .int .i64 0, .int .i64 0] 56)) = ww5 at *
         generalize ww2.heap.size = g8 at *
         refine wpTree_one ?_
         simp only [nthOp]
         go_wp2_with (go_at_call 60; refine (HCR.out _).mono ?_; rintro e ww6 ⟨rfl, hb⟩; have HB6 := Lib.hid hb; clear hb)
         have HC6 := Lib.hid (HC5.out.trans (HB6.out.mono HC5.out.size))
         have HZ6 := Lib.hid (HZ5.out.keep HB6.out)
         refine One_mk (KW.mk' HC6.out) ?_
         obtain ⟨⟨z0, f0⟩, ⟨z1, f1⟩, z2, f2⟩ := HZ6.out
         refine wpTree_done ?_
         simp only [List.drop_succ_cons, List.drop_zero]
         go_wp2_with fail
         refine NP_mk ?_
         exact cut_meet (by simp [forget]) ⟨_, rfl, HG5.out, ZBx.put HZ6.out L, ((HC6.out.setCell HG5.out _).setCell HG5.out _).setCell HG5.out _⟩
       ·simp only [nthOp]
        go_wp2_with fail
        have HC7 := Lib.hid (HC1.out.alloc HC1.out.size (.cells #[.int .i64 0, .int .i64 0, .int .i64 0] 56))
        have HZ7 := Lib.hid (ZBx.new ww1 56)
        have HG7 := Lib.hid HC1.out.size
        refine One_mk (KW.mk' HC7.out) ?_
        generalize (ww1.alloc (.cells #[.int .i64 0, .int .i64 0, .int .i64 0] 56)) = ww7 at *
        generalize ww1.heap.size = g8 at *
        refine wpTree_one ?_
        simp only [nthOp]
        go_wp2_with (go_at_call 43; refine (normal_any q _).mono ?_; rintro e ww8 ⟨rfl, hb⟩; have HB8 := Lib.hid hb; clear hb)
        have HC8 := Lib.hid (HC7.out.trans (HB8.out.mono HC7.out.size))
        have HZ8 := Lib.hid (HZ7.out.keep HB8.out)
        refine One_mk (KW.mk' HC8.out) ?_
        refine wpTree_one ?_
        simp only [nthOp]
        go_wp2_with (go_at_call 60; refine (HCR.out _).mono ?_; rintro e ww9 ⟨rfl, hb⟩; have HB9 := Lib.hid hb; clear hb)
        have HC9 := Lib.hid (HC8.out.trans (HB9.out.mono HC8.out.size))
        have HZ9 := Lib.hid (HZ8.out.keep HB9.out)
        refine One_mk (KW.mk' HC9.out) ?_
        obtain ⟨⟨z0, f0⟩, ⟨z1, f1⟩, z2, f2⟩ := HZ9.out
        refine wpTree_done ?_
        simp only [List.drop_succ_cons, List.drop_zero]
        go_wp2_with fail
        refine NP_mk ?_
        exact cut_meet (by simp [forget]) ⟨_, rfl, HG7.out, ZBx.put HZ9.out L, ((HC9.out.setCell HG7.out _).setCell HG7.out _).setCell HG7.out _⟩
      ·simp only [nthOp]
       go_wp2_with fail
       have HC10 := Lib.hid (HC0.out.alloc HC0.out.size (.cells #[.int .i64 0, .int .i64 0, .int .i64 0] 56))
       have HZ10 := Lib.hid (ZBx.new ww0 56)
       have HG10 := Lib.hid HC0.out.size
       refine One_mk (KW.mk' HC10.out) ?_
       generalize (ww0.alloc (.cells #[.int .i64 0, .int .i64 0, .int .i64 0] 56)) = ww10 at *
       generalize ww0.heap.size = g8 at *
       refine wpTree_one ?_
       simp only [nthOp]
       go_wp2_with (go_at_call 43; refine (normal_any p _).mono ?_; rintro e ww11 ⟨rfl, hb⟩; have HB11 := Lib.hid hb; clear hb)
       have HC11 := Lib.hid (HC10.out.trans (HB11.out.mono HC10.out.size))
       have HZ11 := Lib.hid (HZ10.out.keep HB11.out)
       refine One_mk (KW.mk' HC11.out) ?_
       refine wpTree_one ?_
       simp only [nthOp]
       go_wp2_with (go_at_call 43; refine (normal_any q _).mono ?_; rintro e ww12 ⟨rfl, hb⟩; have HB12 := Lib.hid hb; clear hb)
       have HC12 := Lib.hid (HC11.out.trans (HB12.out.mono HC11.out.size))
       have HZ12 := Lib.hid (HZ11.out.keep HB12.out)
       refine One_mk (KW.mk' HC12.out) ?_
       refine wpTree_one ?_
       simp only [nthOp]
       go_wp2_with (go_at_call 60; refine (HCR.out _).mono ?_; rintro e ww13 ⟨rfl, hb⟩; have HB13 := Lib.hid hb; clear hb)
       have HC13 := Lib.hid (HC12.out.trans (HB13.out.mono HC12.out.size))
       have HZ13 := Lib.hid (HZ12.out.keep HB13.out)
       refine One_mk (KW.mk' HC13.out) ?_
       obtain ⟨⟨z0, f0⟩, ⟨z1, f1⟩, z2, f2⟩ := HZ13.out
       refine wpTree_done ?_
       simp only [List.drop_succ_cons, List.drop_zero]
       go_wp2_with fail
       refine NP_mk ?_
       exact cut_meet (by simp [forget]) ⟨_, rfl, HG10.out, ZBx.put HZ13.out L, ((HC13.out.setCell HG10.out _).setCell HG10.out _).setCell HG10.out _⟩
     rintro u W5 ⟨g8, hu8, hg8, hv6, hb6⟩
     have HB6 := Lib.hid hb6
     have HP6 := Lib.hid (HP4.out.keep HB6.out)
     have HQ6 := Lib.hid (HQ4.out.keep HB6.out)
     have HV6 := Lib.hid hv6
     have HBW6 := Lib.hid (HBW4.out.trans (HB6.out.mono HBW4.out.size))
     simp only [forget, List.foldl_cons, List.foldl_nil, hu8]
     clear hu8 hb6
     obtain ⟨vc0, vc1, vc2⟩ := hv6
     have hz8 := HV6.out.lt
     clear pc0 pc1 pc2 pc3 qc0 qc1 qc2 qc3
     have heq := Vec_eql0 L
     by_cases hl0 : L = v0
     ·have HRZ := Lib.hid (show crsK ps p (k + 1) = crsK ps p k by rw [HRS2.out, if_pos (HLV.out.symm.trans hl0), List.append_nil])
      have hd0 : decide (L = v0) = true := decide_eq_true hl0
      clear hl0
      go_wp2_with fail
      go_roundw
      case rel => exact ⟨k + 1, by omega, by go_num, by rw [HRZ.out], by rw [HRZ.out]; exact HP3, HBW6.out, HP6.out⟩
      case measure => first | (simp [intOf]; done) | (simp [intOf]; omega)
     ·have hd0 : decide (L = v0) = false := decide_eq_false hl0
      have HRN := Lib.hid (show crsK ps p (k + 1) = crsK ps p k ++ [L] by rw [HRS2.out, ← HLV.out, if_neg hl0])
      have HIN := Lib.hid (HME.out L HLV.out hl0)
      clear hl0
      go_wp2_with fail
      go_loopw [9, 10, 39] (fun av bv mv wr => ∃ (m : Nat), m ≤ ps.length ∧ mv = .int .i64 (m : Int) ∧ av = .bool (abov (ps.take m) L) ∧ bv = .bool (belo (ps.take m) L) ∧ Below w.heap.size w wr ∧ PlBx wr g5 p ∧ VcBx wr g8 L) (fun _ _ mv _ => ps.length - (intOf mv).toNat)
      case atStart => exact ⟨0, Nat.zero_le _, rfl, rfl, rfl, HBW6.out, HP6.out, HV6.out⟩
      case round =>
       obtain ⟨m, hm, rfl, rfl, rfl, hb, hp, hvb⟩ := hrel
       have HB7 := Lib.hid hb
       have HP7 := Lib.hid hp
       have HV7 := Lib.hid hvb
       have HVR7 := Lib.hid (HV.out.keep hb)
       have hz70 := hb.size
       clear hb
       by_cases hlt3 : m < ps.length
       ·have hki3 : (m : Int) < (ps.length : Int) := by omega
        obtain ⟨b', off', ha, hat⟩ := HVR7.out.at_ hlt3
        obtain ⟨rfl, rfl⟩ : b = b' ∧ off = off' := by injection ha with h; injection h with h1 h2; exact ⟨h1, h2⟩
        clear ha
        have HRI := Lib.hid (HG.out _ (List.getElem_mem hlt3)).1
        obtain ⟨c0, c1, c2, c3, -⟩ := hat
        have HAS := Lib.hid (abov_step (v := L) hlt3)
        have HBS := Lib.hid (belo_step (v := L) hlt3)
        generalize ps[m] = r at *
        go_upto_region 14 with fail
        refine gen_world (fun W8 => Below wr.heap.size wr W8 ∧ PlBx W8 g5 p ∧ VcBx W8 g8 L ∧ PlBx W8 wr.heap.size r) ?_ ?_
        ·have hk := (Below.refl wr.heap.size wr).alloc (Nat.le_refl _) (.cells #[.int .i64 r.a, .int .i64 r.b, .int .i64 r.c, .int .i64 r.d] 43)
         exact ⟨hk, hp.keep hk, hvb.keep hk, ⟨by simp [go_sem], by simp [go_sem], by simp [go_sem], by simp [go_sem]⟩⟩
        rintro W8 ⟨hw8, hp8, hv8, hr8⟩
        have HBW8 := Lib.hid (HB7.out.trans (hw8.mono hz70))
        generalize wr.heap.size = g10 at *
        have HP8 := Lib.hid hp8
        have HV8 := Lib.hid hv8
        have HR8 := Lib.hid hr8
        have hz10 := HR8.out.lt
        have hz8' := HV8.out.lt
        obtain ⟨w0, w1, w2⟩ := hv8
        obtain ⟨r0, r1, r2, r3⟩ := hr8
        have HDT := Lib.hid (dot_any L (nrm r) 128 8 (by rw [HLV.out]; exact crs_in HPI.out.1 HQI.out.1) HRI.out.1 (by decide))
        obtain ⟨D, hD⟩ : ∃ D, D = dt L (nrm r) := ⟨_, rfl⟩
        rw [← hD] at HDT HAS HBS
        clear hw8 hp8 hp hvb hD c0 c1 c2 c3
        refine wp_region_grew (by kernel_rfl) (by kernel_rfl) ?_
        repeat (first | go_big_quiet_step (fail) | quiet_step (fail))
        (first | go_big_quiet_step ((go_at_call 43; exact grew_of (normal_any r _))) | quiet_step ((go_at_call 43; exact grew_of (normal_any r _))))
        repeat (first | go_big_quiet_step (fail) | quiet_step (fail))
        (first | go_big_quiet_step ((go_at_call 61; exact grew_of (HDT.out _))) | quiet_step ((go_at_call 61; exact grew_of (HDT.out _))))
        repeat (first | go_big_quiet_step (fail) | quiet_step (fail))
        refine wpQuiet_nil ?_
        rintro _ ⟨gg, rfl⟩
        have HB9 := Lib.hid (grewB (Below.refl W8.heap.size W8) (Nat.le_refl _) gg)
        generalize grew W8 gg = W9 at *
        have HBW9 := Lib.hid (HBW8.out.trans (HB9.out.mono HBW8.out.size))
        have HP9 := Lib.hid (HP8.out.keep HB9.out)
        have HV9 := Lib.hid (HV8.out.keep HB9.out)
        clear w0 w1 w2 r0 r1 r2 r3
        generalize abov (ps.take m) L = A at *
        generalize belo (ps.take m) L = B at *
        go_upto_region 15 with fail
        refine wp_cut_slots [47, 48, 49, 50, 51, 52, 53, 54, 55, 56, 9, 10] (fun u W => u 9 = .bool (A || decide (0 < D)) ∧ u 10 = .bool (B || decide (D < 0)) ∧ W = W9) ?_ ?_
        ·cases A <;> cases B <;> (go_wp2_with fail) <;> exact cut_meet (by simp [forget]) ⟨by simp, by simp, rfl⟩
        rintro u W ⟨hu9, hu10, rfl⟩
        rw [← HAS.out] at hu9
        rw [← HBS.out] at hu10
        simp only [forget, List.foldl_cons, List.foldl_nil, hu9, hu10]
        clear hu9 hu10
        go_wp2_with fail
        go_roundw
        case rel => exact ⟨m + 1, by omega, by go_num, rfl, rfl, HBW9.out, HP9.out, HV9.out⟩
        case measure => first | (simp [intOf]; done) | (simp [intOf]; omega)
       ·obtain rfl : m = ps.length := by omega
        have hki3 : ¬ ((ps.length : Nat) : Int) < ((ps.length : Nat) : Int) := by omega
        clear hp hvb
        rw [List.take_length]
        have HBAD := Lib.hid (fun h => bounM_bad HIN.out h)
        have HNE := Lib.hid (show neB (crsI ps i ++ crsK ps p (k + 1)) = true by rw [HRN.out, neB_iff]; simp)
        have HOK := Lib.hid (fun (h : (abov ps L && belo ps L) = true) => show pairOK ps (crsI ps i ++ crsK ps p (k + 1)) = true by
         rw [HRN.out, ← List.append_assoc]; unfold pairOK; rw [List.all_append]; have := HP3.out; unfold pairOK at this; rw [this]; simp [h])
        generalize neB (crsI ps i ++ crsK ps p k) = F at *
        generalize abov ps L = A at *
        generalize belo ps L = B at *
        cases A with
        | false =>
         have HR := Lib.hid (HBAD.out rfl)
         cases B <;> cases F <;> (go_wp2_with fail) <;> go_ret <;> exact ⟨ret_bool HR.out.symm, HB7.out⟩
        | true =>
         cases B with
         | false =>
          have HR := Lib.hid (HBAD.out rfl)
          cases F <;> (go_wp2_with fail) <;> go_ret <;> exact ⟨ret_bool HR.out.symm, HB7.out⟩
         | true =>
          have HR := Lib.hid (HOK.out rfl)
          cases F
          ·go_wp2_with fail
           go_roundw
           case rel => exact ⟨k + 1, by omega, by go_num, by rw [HNE.out], HR, HB7.out, HP7.out⟩
           case measure => first | (simp [intOf]; done) | (simp [intOf]; omega)
          ·go_wp2_with fail
           go_roundw
           case rel => exact ⟨k + 1, by omega, by go_num, by rw [HNE.out], HR, HB7.out, HP7.out⟩
           case measure => first | (simp [intOf]; done) | (simp [intOf]; omega)
    ·obtain rfl : k = i := by omega
     have hki2 : ¬ ((k : Nat) : Int) < ((k : Nat) : Int) := by omega
     clear hp
     go_wp2_with fail
     go_roundw
     case rel => exact ⟨k + 1, by omega, by go_num, by rw [HRS.out], by rw [HRS.out]; exact HP3, HB3.out⟩
     case measure => first | (simp [intOf]; done) | (simp [intOf]; omega)
  ·obtain rfl : i = ps.length := by omega
   have hki : ¬ ((ps.length : Nat) : Int) < ((ps.length : Nat) : Int) := by omega
   have HE := Lib.hid (bounM_end HP.out)
   go_wp2_with fail
   go_ret
   exact ⟨ret_bool HE.out.symm, HB1.out⟩
end Go.Proofs.YtgjmfdhgeahdcaaGreat
/- The normal form of a body, as the program finds it. -/
set_option linter.unusedVariables false
set_option linter.unusedSimpArgs false
namespace Go.Proofs.YtgjmfdhgeahdcaaGreat
open Go Go.RowKit Go.Sort Go.Lib

theorem norL_step {ps : List Pl} {cs : List Co} {k : Nat} (hk : k < ps.length) : norL (ps.take (k + 1)) cs = norL (ps.take k) cs ++ (if 3 ≤ onN ps[k] cs then [lowL ps[k]] else []) := by
 unfold norL
 rw [List.take_succ_eq_append_getElem hk, List.filter_append, List.map_append]
 congr 1
 by_cases h : 3 ≤ onN ps[k] cs
 ·rw [if_pos h, List.filter_cons_of_pos (by simpa using h)]; rfl
 ·rw [if_neg h, List.filter_cons_of_neg (by simpa using h)]; rfl
theorem onN_step {p : Pl} {cs : List Co} {m : Nat} (hm : m < cs.length) : onN p (cs.take (m + 1)) = onN p (cs.take m) + (if sd p cs[m] = 0 then 1 else 0) := by
 unfold onN
 rw [List.take_succ_eq_append_getElem hm, List.filter_append, List.length_append]
 congr 1
 by_cases h : sd p cs[m] = 0
 ·rw [if_pos h, List.filter_cons_of_pos (by simpa using h)]; rfl
 ·rw [if_neg h, List.filter_cons_of_neg (by simpa using h)]; rfl
/-- The normal form under way: the row, the body's box, the result's cell. -/
structure NfSt (gb : Nat) (pv cv : Value) (w0 : World) (l : List Pl) (w : World) (v : Value) : Prop where
 own : w.ownsRow gb 43 4 v l.length (l.flatMap cellsPl)
 c0 : w.cell? ⟨gb, 0, none⟩ = some pv
 c1 : w.cell? ⟨gb, 1, none⟩ = some cv
 r : ∃ u, w.cell? ⟨gb + 1, 0, none⟩ = some u ∧ w.frozen? ⟨gb + 1, 0, none⟩ = false
 o0 : v.ownBlock ≠ some gb
 o1 : v.ownBlock ≠ some (gb + 1)
 b : Below gb w0 w
theorem NfSt.lt {gb : Nat} {pv cv : Value} {w0 : World} {l : List Pl} {w : World} {v : Value} (h : NfSt gb pv cv w0 l w v) : gb + 1 < w.heap.size := by
 obtain ⟨u, h1, _⟩ := h.r
 have := block_lt_of_cell h1; simpa using this
theorem NfSt.keep {gb : Nat} {pv cv : Value} {w0 : World} {l : List Pl} {w w' : World} {v : Value} (h : NfSt gb pv cv w0 l w v) (hb : Below w.heap.size w w') : NfSt gb pv cv w0 l w' v := by
 obtain ⟨u, h1, h2⟩ := h.r
 exact ⟨own_keep h.own hb, cell_keep hb h.c0, cell_keep hb h.c1, ⟨u, cell_keep hb h1, by rw [hb.frozen (block_lt_of_cell h1)]; exact h2⟩, h.o0, h.o1, h.b.trans (hb.mono (by have := h.lt; omega))⟩
theorem NfSt.grown {gb : Nat} {pv cv : Value} {w0 : World} {l l' : List Pl} {w w' : World} {v v' : Value} (h : NfSt gb pv cv w0 l w v) (hg : w.grownBy w' v.ownBlock) (ho : w'.ownsRow gb 43 4 v' l'.length (l'.flatMap cellsPl)) (hv : v'.ownBlock = v.ownBlock ∨ v'.ownBlock = some w.heap.size) : NfSt gb pv cv w0 l' w' v' := by
 obtain ⟨u, h1, h2⟩ := h.r
 have hl := h.lt
 have f : ∀ k, k < w.heap.size → v.ownBlock ≠ some k → v'.ownBlock ≠ some k := fun k hk h3 => by
  rcases hv with e | e
  ·rw [e]; exact h3
  ·rw [e]; intro h; injection h with h; omega
 exact ⟨ho, grown_cell hg h.c0 h.o0, grown_cell hg h.c1 h.o0, ⟨u, grown_cell hg h1 h.o1, by rw [grown_frozen hg h1 h.o1]; exact h2⟩, f _ (by omega) h.o0, f _ hl h.o1, below_grown h.b hg (by omega) fun k hk => (own_lt h.own hk).1⟩
theorem lowL_wf {p : Pl} (h : p.in_) : (lowL p).in_ := by
 obtain ⟨⟨h1, h2, h3⟩, h4⟩ := h
 exact ⟨⟨tdiv_in h1, tdiv_in h2, tdiv_in h3⟩, tdiv_in h4⟩
set_option maxRecDepth 100000 in
set_option maxHeartbeats 8000000 in
theorem normalForm_any (ps : List Pl) (pa : Option Addr) (pc : Nat) (cs : List Co) (ca : Option Addr) (cc : Nat) (w : World) (hps : Good ps) (hcs : ∀ c ∈ cs, c.in_) (hpl : ps.length ≤ 40) (hcl : cs.length ≤ 1000000) (hv : Pls.V w pa ps) (hc : Cos.V w ca cs) :
    Calls Tryz.prog 37 #[.agg #[.slice pa ps.length pc, .slice ca cs.length cc]] w fun e w' => ∃ a c, e = .returned (.agg #[.slice a (nor ps cs).length c]) ∧
     w'.ownsRow w.heap.size 43 4 (.slice a (nor ps cs).length c) (nor ps cs).length ((nor ps cs).flatMap cellsPl) ∧ Below w.heap.size w w' := by
 obtain ⟨i0, hi0, hz0, hz1, hz2⟩ := info_parts infoPl
 have HG := Lib.hid hps
 have HCI := Lib.hid hcs
 obtain ⟨gb, hgb⟩ : ∃ g, g = w.heap.size := ⟨_, rfl⟩
 have HGB := Lib.hid hgb
 have HVK : Hid (∀ W', Below gb w W' → Pls.V W' pa ps) := Lib.hid fun W' h => hv.keep (by rw [← hgb]; exact h)
 have HCK : Hid (∀ W', Below gb w W' → Cos.V W' ca cs) := Lib.hid fun W' h => hc.keep (by rw [← hgb]; exact h)
 clear hv hc hps hcs
 go_enter Tryz.func37, Tryz.ntmps37
 go_upto_region 2 with fail
 refine gen_world (fun W => NfSt w.heap.size (.slice pa ps.length pc) (.slice ca cs.length cc) w [] W (.slice none 0 0)) ⟨⟨rfl, .inl ⟨rfl, rfl⟩⟩, by simp [go_sem], by simp [go_sem], ⟨.slice none 0 0, by simp [go_sem], by simp [go_sem]⟩, by simp [Value.ownBlock], by simp [Value.ownBlock], by repeat (first | (with_reducible assumption) | exact Below.refl _ _ | (refine Below.setCell ?_ (by first | omega | (simp; omega) | (simp; done)) _) | (refine Below.alloc ?_ (by first | omega | (simp; omega) | (simp; done)) _) | (refine Below.drew ?_))⟩ ?_
 intro W hs
 rw [← hgb] at hs
 rw [show w.heap.size = gb from hgb.symm]
 have HS := Lib.hid hs
 have b0 := hs.c0
 have b1 := hs.c1
 have hbl := hs.lt
 clear hs hgb
 go_wp2_with fail
 go_loopw [3, 12] (fun v iv wr => ∃ k : Nat, k ≤ ps.length ∧ iv = .int .i64 (k : Int) ∧ NfSt gb (.slice pa ps.length pc) (.slice ca cs.length cc) w (norL (ps.take k) cs) wr v) (fun _ iv _ => ps.length - (intOf iv).toNat)
 case atStart => exact ⟨0, Nat.zero_le _, rfl, HS.out⟩
 case round =>
  obtain ⟨k, hk, rfl, hs⟩ := hrel
  have HS1 := Lib.hid hs
  have b0 := hs.c0
  have b1 := hs.c1
  have hbl := hs.lt
  have hbl0 : gb < wr.heap.size := by omega
  have HB1 := Lib.hid hs.b
  obtain ⟨va, vc, rfl, -, -⟩ := own_slice hs.own
  clear hs
  by_cases hlt : k < ps.length
  ·have hki : (k : Int) < (ps.length : Int) := by omega
   obtain ⟨b, off, rfl, hat⟩ := (HVK.out wr HB1.out).at_ hlt
   obtain ⟨c0, c1, c2, c3, -⟩ := hat
   have HST := Lib.hid (norL_step (cs := cs) hlt)
   have HPI := Lib.hid (HG.out _ (List.getElem_mem hlt)).1
   have HG4 := Lib.hid (HG.out.g4 (List.getElem_mem hlt))
   generalize ps[k] = p at *
   go_upto_region 6 with fail
   refine gen_world (fun W2 => NfSt gb (.slice (some ⟨b, off, none⟩) ps.length pc) (.slice ca cs.length cc) w (norL (ps.take k) cs) W2 (.slice va (norL (ps.take k) cs).length vc) ∧ PlBx W2 wr.heap.size p) ⟨HS1.out.keep ((Below.refl _ _).alloc (Nat.le_refl _) _), ⟨by simp [go_sem], by simp [go_sem], by simp [go_sem], by simp [go_sem]⟩⟩ ?_
   rintro W2 ⟨hs2, hp2⟩
   have HFR := Lib.hid (show ∀ g, (Value.slice va (norL (ps.take k) cs).length vc).ownBlock = some g → g < wr.heap.size from fun g hg => (own_lt HS1.out.own hg).2)
   generalize wr.heap.size = g5 at *
   have HS2 := Lib.hid hs2
   have HP2 := Lib.hid hp2
   have b0 := hs2.c0
   have b1 := hs2.c1
   have hbl2 := hs2.lt
   have hbl02 : gb < W2.heap.size := by omega
   clear hs2 hp2 c0 c1 c2 c3
   go_wp2_with fail
   go_loopw [6, 19] (fun nv mv wr => ∃ m : Nat, m ≤ cs.length ∧ mv = .int .i64 (m : Int) ∧ nv = .int .i64 ((onN p (cs.take m) : Nat) : Int) ∧ Below W2.heap.size W2 wr) (fun _ mv _ => cs.length - (intOf mv).toNat)
   case atStart => exact ⟨0, Nat.zero_le _, rfl, rfl, Below.refl _ _⟩
   case round =>
    obtain ⟨m, hm, rfl, rfl, hb⟩ := hrel
    have HB3 := Lib.hid hb
    have HS3 := Lib.hid (HS2.out.keep hb)
    have HP3 := Lib.hid (HP2.out.keep hb)
    have hz3 := hb.size
    clear hb
    by_cases hlt2 : m < cs.length
    ·have hki2 : (m : Int) < (cs.length : Int) := by omega
     obtain ⟨b', off', rfl, hat⟩ := (HCK.out wr HS3.out.b).at_ hlt2
     obtain ⟨d0, d1, d2, d3, -⟩ := hat
     have HON := Lib.hid (onN_step (p := p) hlt2)
     have HCC := Lib.hid (HCI.out _ (List.getElem_mem hlt2))
     have hnl : onN p (cs.take m) ≤ 1000000 := by
      have h1 : onN p (cs.take m) ≤ (cs.take m).length := List.length_filter_le _ _
      rw [List.length_take] at h1; omega
     generalize cs[m] = c at *
     obtain ⟨p0, p1, p2, p3⟩ := HP3.out
     have hg5l := HP3.out.lt
     have HSD := Lib.hid (fun w => side_any p c HPI.out HCC.out w)
     by_cases hz : sd p c = 0
     ·have HON2 := Lib.hid (show onN p (cs.take (m + 1)) = onN p (cs.take m) + 1 by rw [HON.out, if_pos hz])
      rw [hz] at HSD
      clear hz
      generalize onN p (cs.take m) = n at *
      have v1 : IntKind.i64.wrap ((n : Int) + 1) = (n : Int) + 1 := IntWalk.i64_in _ (by omega)
      go_wp2_with (go_at_call 67; refine (HSD.out _).mono ?_; rintro e w9 ⟨rfl, hb⟩; have HB9 := Lib.hid (((Below.refl wr.heap.size wr).alloc (Nat.le_refl _) _).trans (hb.mono (by simp))); clear hb)
      go_roundw
      case rel => exact ⟨m + 1, by omega, by go_num, by rw [HON2.out]; go_num, HB3.out.trans (HB9.out.mono hz3)⟩
      case measure => first | (simp [intOf]; done) | (simp [intOf]; omega)
     ·have HON2 := Lib.hid (show onN p (cs.take (m + 1)) = onN p (cs.take m) by rw [HON.out, if_neg hz, Nat.add_zero])
      have hz' : (sd p c == 0) = false := by simpa using hz
      generalize sd p c = s at *
      go_wp2_with (go_at_call 67; refine (HSD.out _).mono ?_; rintro e w9 ⟨rfl, hb⟩; have HB9 := Lib.hid (((Below.refl wr.heap.size wr).alloc (Nat.le_refl _) _).trans (hb.mono (by simp))); clear hb)
      go_roundw
      case rel => exact ⟨m + 1, by omega, by go_num, by rw [HON2.out], HB3.out.trans (HB9.out.mono hz3)⟩
      case measure => first | (simp [intOf]; done) | (simp [intOf]; omega)
    ·obtain rfl : m = cs.length := by omega
     have hki2 : ¬ ((cs.length : Nat) : Int) < ((cs.length : Nat) : Int) := by omega
     rw [List.take_length]
     obtain ⟨p0, p1, p2, p3⟩ := HP3.out
     by_cases h3 : 3 ≤ onN p cs
     ·have hn3 : (3 : Int) ≤ (onN p cs : Int) := by omega
      have HST2 := Lib.hid (show norL (ps.take (k + 1)) cs = norL (ps.take k) cs ++ [lowL p] by rw [HST.out, if_pos h3])
      have HNL := Lib.hid (show (norL (ps.take k) cs).length ≤ 40 by have := norL_len (ps.take k) cs; rw [List.length_take] at this; omega)
      clear h3
      generalize onN p cs = n at *
      generalize norL (ps.take k) cs = l at *
      have HLO := Lib.hid (fun w => lowest_any p HPI.out HG4.out w)
      generalize lowL p = q at *
      go_wp2_with (first
       | (go_at_call 68; refine (HLO.out _).mono ?_; rintro e w9 ⟨rfl, hb⟩; have HB9 := Lib.hid hb; have HS9 := Lib.hid (HS3.out.keep hb); clear hb)
       | (at_builtin; refine wpList_append_here _ rfl _ _ 44 rfl gb 43 i0 (.agg #[.int .i64 0, .int .i64 0, .int .i64 0, .int .i64 0]) 4 32 Tryz.underlying44 hi0 hz0 hz1 hz2 rfl (by decide) (.slice va l.length vc) l.length (l.flatMap cellsPl) rfl (own_keep HS9.out.own ((Below.refl _ _).alloc (Nat.le_refl _) (.cells #[.int .i64 q.a, .int .i64 q.b, .int .i64 q.c, .int .i64 q.d] 43))) ⟨w9.heap.size, 0, none⟩ 1 1 (cellsPl q) rfl rfl (news_of (cellsPl q) _ _ _ rfl) (cellsPl_one q) (by decide) (by have := HNL.out; simp only [maxLen]; omega) (by have := HNL.out; omega) (by have := HS9.out.lt; simp; omega) ?_; intro v' w10 hown10 hgr10 hat10
          have HN10 := Lib.hid ((HS9.out.keep ((Below.refl _ _).alloc (Nat.le_refl _) (.cells #[.int .i64 q.a, .int .i64 q.b, .int .i64 q.c, .int .i64 q.d] 43))).grown hgr10 (l' := l ++ [q]) (by rw [List.flatMap_append, List.length_append]; simpa using hown10) hat10); clear hown10 hgr10 hat10))
      go_roundw
      case rel => exact ⟨k + 1, by omega, by go_num, by rw [HST2.out]; exact HN10.out⟩
      case measure => first | (simp [intOf]; done) | (simp [intOf]; omega)
     ·have hn3 : ¬ (3 : Int) ≤ (onN p cs : Int) := by omega
      have HST2 := Lib.hid (show norL (ps.take (k + 1)) cs = norL (ps.take k) cs by rw [HST.out, if_neg h3, List.append_nil])
      clear h3
      generalize onN p cs = n at *
      go_wp2_with fail
      go_roundw
      case rel => exact ⟨k + 1, by omega, by go_num, by rw [HST2.out]; exact HS3.out⟩
      case measure => first | (simp [intOf]; done) | (simp [intOf]; omega)
  ·obtain rfl : k = ps.length := by omega
   have hki : ¬ ((ps.length : Nat) : Int) < ((ps.length : Nat) : Int) := by omega
   rw [List.take_length] at *
   have HNL := Lib.hid (show (norL ps cs).length ≤ 1000000 by have := norL_len ps cs; omega)
   go_upto_region 16 with (go_at_call 69; refine (sortAllPl gb _ _ (norL ps cs) _ HS1.out.own HNL.out (by omega)).mono ?_; rintro e w2 ⟨rfl, r, hr1, hr2, hr3, hr4⟩; have HR1 := Lib.hid (And.intro hr1 (And.intro hr2 (And.intro hr3 hr4))); clear hr1 hr2 hr3 hr4)
   have hrl : r.length = (norL ps cs).length := HR1.out.1.length_eq
   have HW2 := Lib.hid (HS1.out.grown HR1.out.2.2.2 (l' := r) (by rw [hrl]; exact HR1.out.2.2.1) (.inl rfl))
   obtain ⟨NL, hNL⟩ : ∃ NL, NL = nor ps cs := ⟨_, rfl⟩
   have HDR := Lib.hid (show dedup r = NL by rw [hNL]; exact sort_comp_pl HR1.out.1 HR1.out.2.1)
   have HNV := Lib.hid hNL
   clear hNL
   obtain ⟨u0, r0, rf0⟩ := HW2.out.r
   go_wp2_with (go_at_call 71; refine (compAllPl gb _ _ r _ HR1.out.2.2.1 (by have := HNL.out; omega)).mono ?_; rintro e w3 ⟨v3, rfl, hv1, hv2, hv3⟩; obtain ⟨a3, k3, rfl, -, -⟩ := own_slice hv1; have HV3 := Lib.hid (HW2.out.grown hv3 (l' := dedup r) hv1 (.inl hv2)); obtain ⟨u3, c3, f3⟩ := HV3.out.r; clear hv1 hv2 hv3)
   refine bodyPost_ret (v := .agg #[.slice a3 (dedup r).length k3]) ?_ ?_ ?_
   ·simp [results, Tryz.results37, go_sem, cell_set_same (u := .slice a3 (dedup r).length k3) (show (w3.cell? ⟨gb + 1, 0, none⟩).isSome = true by rw [c3]; rfl)]
   ·rfl
   ·rw [show w.heap.size = gb from HGB.out.symm, ← HNV.out]
    have h1 := HV3.out
    rw [HDR.out] at h1 ⊢
    exact ⟨a3, k3, rfl, h1.own.kept (grownBy_set (a := ⟨gb + 1, 0, none⟩)) (.inr h1.o1), h1.b.setCell (Nat.le_succ _) _⟩
end Go.Proofs.YtgjmfdhgeahdcaaGreat
/- Whether a point lies in the room; a cell read as a body, or its error. -/
set_option linter.unusedVariables false
set_option linter.unusedSimpArgs false
namespace Go.Proofs.YtgjmfdhgeahdcaaGreat
open Go Go.RowKit Go.Sort Go.Lib

theorem rngN (x M : Int) : (¬ x < -M ∧ ¬ M < x) ∨ x < -M ∨ (¬ x < -M ∧ M < x) := by omega
theorem inRoom_all {c : Co} {M : Int} (hM : M = 300000 * c.n) (h : ¬ (c.x < -M ∨ M < c.x ∨ c.y < -M ∨ M < c.y ∨ c.z < -M ∨ M < c.z)) : inRoomB c = true := by
 unfold inRoomB withinB
 simp only [Bool.and_eq_true, decide_eq_true_eq]
 omega
theorem inRoom_not {c : Co} {M : Int} (hM : M = 300000 * c.n) (h : c.x < -M ∨ M < c.x ∨ c.y < -M ∨ M < c.y ∨ c.z < -M ∨ M < c.z) : inRoomB c = false := by
 rw [Bool.eq_false_iff]
 unfold inRoomB withinB
 simp only [ne_eq, Bool.and_eq_true, decide_eq_true_eq]
 omega
set_option maxRecDepth 100000 in
set_option maxHeartbeats 4000000 in
theorem inRoom_any (c : Co) (hc : -5000 ≤ c.n ∧ c.n ≤ 5000) (w : World) : Calls Tryz.prog 58 #[.agg #[.int .i64 c.x, .int .i64 c.y, .int .i64 c.z, .int .i64 c.n]] w fun e w' => e = .returned (.bool (inRoomB c)) ∧ Below w.heap.size w w' := by
 obtain ⟨M, hM⟩ : ∃ M, M = 300000 * c.n := ⟨_, rfl⟩
 have HOUT := Lib.hid (inRoom_not hM)
 have HALL := Lib.hid (inRoom_all hM)
 have v1 : IntKind.i64.wrap (300000 * c.n) = M := by rw [← hM]; exact IntWalk.i64_in _ (by omega)
 have v2 : IntKind.i64.wrap (-300000 * c.n) = -M := by rw [show -300000 * c.n = -M by omega]; exact IntWalk.i64_in _ (by omega)
 clear hM hc
 go_enter Tryz.func58, Tryz.ntmps58
 go_wp2_with fail
 go_loopw [12] (fun iv wr => ∃ i : Nat, i ≤ 3 ∧ iv = .int .i64 (i : Int) ∧ Hid ((0 < i → ¬ c.x < -M ∧ ¬ M < c.x) ∧ (1 < i → ¬ c.y < -M ∧ ¬ M < c.y) ∧ (2 < i → ¬ c.z < -M ∧ ¬ M < c.z)) ∧ wr.cell? ⟨w.heap.size, 0, none⟩ = some (.int .i64 c.x) ∧ wr.cell? ⟨w.heap.size, 1, none⟩ = some (.int .i64 c.y) ∧ wr.cell? ⟨w.heap.size, 2, none⟩ = some (.int .i64 c.z) ∧ wr.cell? ⟨w.heap.size, 3, none⟩ = some (.int .i64 c.n) ∧ Below w.heap.size w wr) (fun iv _ => 3 - (intOf iv).toNat)
 case atStart => exact ⟨0, by omega, rfl, Lib.hid ⟨fun h => by omega, fun h => by omega, fun h => by omega⟩, by simp [go_sem], by simp [go_sem], by simp [go_sem], by simp [go_sem], by repeat (first | (with_reducible assumption) | exact Below.refl _ _ | (refine Below.setCell ?_ (by first | omega | (simp; omega) | (simp; done)) _) | (refine Below.alloc ?_ (by first | omega | (simp; omega) | (simp; done)) _) | (refine Below.drew ?_))⟩
 case round =>
  obtain ⟨i, hi, rfl, HR, b0, b1, b2, b3, hb⟩ := hrel
  have HB := Lib.hid hb
  clear hb
  have h4 : i = 0 ∨ i = 1 ∨ i = 2 ∨ i = 3 := by omega
  rcases h4 with rfl | rfl | rfl | rfl
  ·have hx := idxI0 c.x c.y c.z
   have hii : (0 : Int) < 3 := by decide
   rcases rngN c.x M with ⟨r1, r2⟩ | r1 | ⟨r1, r2⟩
   ·go_wp2_with fail
    go_roundw
    case rel => exact ⟨1, by omega, by go_num, Lib.hid (by have := HR.out; simp only [Nat.reduceLT, Nat.reduceLeDiff] at this ⊢; simp_all), b0, b1, b2, b3, HB.out⟩
    case measure => first | (simp [intOf]; done) | (simp [intOf]; omega)
   ·have HBAD := Lib.hid (HOUT.out (by have := r1; omega))
    clear HR
    go_wp2_with fail
    go_ret
    exact ⟨ret_bool (by rw [HBAD.out]), HB.out⟩
   ·have HBAD := Lib.hid (HOUT.out (by have := r2; omega))
    clear HR
    go_wp2_with fail
    go_ret
    exact ⟨ret_bool (by rw [HBAD.out]), HB.out⟩
  ·have hx := idxI1 c.x c.y c.z
   have hii : (1 : Int) < 3 := by decide
   rcases rngN c.y M with ⟨r1, r2⟩ | r1 | ⟨r1, r2⟩
   ·go_wp2_with fail
    go_roundw
    case rel => exact ⟨2, by omega, by go_num, Lib.hid (by have := HR.out; simp only [Nat.reduceLT, Nat.reduceLeDiff] at this ⊢; simp_all), b0, b1, b2, b3, HB.out⟩
    case measure => first | (simp [intOf]; done) | (simp [intOf]; omega)
   ·have HBAD := Lib.hid (HOUT.out (by have := r1; omega))
    clear HR
    go_wp2_with fail
    go_ret
    exact ⟨ret_bool (by rw [HBAD.out]), HB.out⟩
   ·have HBAD := Lib.hid (HOUT.out (by have := r2; omega))
    clear HR
    go_wp2_with fail
    go_ret
    exact ⟨ret_bool (by rw [HBAD.out]), HB.out⟩
  ·have hx := idxI2 c.x c.y c.z
   have hii : (2 : Int) < 3 := by decide
   rcases rngN c.z M with ⟨r1, r2⟩ | r1 | ⟨r1, r2⟩
   ·go_wp2_with fail
    go_roundw
    case rel => exact ⟨3, by omega, by go_num, Lib.hid (by have := HR.out; simp only [Nat.reduceLT, Nat.reduceLeDiff] at this ⊢; simp_all), b0, b1, b2, b3, HB.out⟩
    case measure => first | (simp [intOf]; done) | (simp [intOf]; omega)
   ·have HBAD := Lib.hid (HOUT.out (by have := r1; omega))
    clear HR
    go_wp2_with fail
    go_ret
    exact ⟨ret_bool (by rw [HBAD.out]), HB.out⟩
   ·have HBAD := Lib.hid (HOUT.out (by have := r2; omega))
    clear HR
    go_wp2_with fail
    go_ret
    exact ⟨ret_bool (by rw [HBAD.out]), HB.out⟩
  ·have hii : ¬ (3 : Int) < 3 := by decide
   obtain ⟨k1, k2, k3⟩ := HR.out
   have k1 := k1 (by omega)
   have k2 := k2 (by omega)
   have k3 := k3 (by omega)
   have HBAD := Lib.hid (HALL.out (by omega))
   clear k1 k2 k3 HR
   go_wp2_with fail
   go_ret
   exact ⟨ret_bool (by rw [HBAD.out]), HB.out⟩
/-! The error of planes, one by one. -/
theorem chkPs_drop {l : List Pl} {k : Nat} (hk : k < l.length) : chkPs (l.drop k) = if chkP l[k] ≠ 0 then chkP l[k] else chkPs (l.drop (k + 1)) := by
 rw [List.drop_eq_getElem_cons hk, chkPs]
set_option maxHeartbeats 1000000 in
theorem rea1_any (c : Co) (hc : c.in_) (w : World) : Calls Tryz.prog 57 #[.agg #[.int .i64 c.x, .int .i64 c.y, .int .i64 c.z, .int .i64 c.n]] w fun e w' => e = .returned (.bool (!inRoomB c)) ∧ Below w.heap.size w w' := by
 go_enter Tryz.func57, Tryz.ntmps57
 go_wp2_with (go_at_call 58; refine (inRoom_any c hc.2 _).mono ?_; rintro e w1 ⟨rfl, hb⟩)
 go_ret
 exact ⟨rfl, ((Below.refl _ _).alloc (Nat.le_refl _) _).trans (hb.mono (by simp))⟩
/-- What read gives: the body of a valid cell, nothing of another one. -/
def ReadP (ps : List Pl) (pa : Option Addr) (pc : Nat) (w w' : World) (A B : Value) : Prop :=
 (readE ps ≠ 0 → A = .slice none 0 0 ∧ B = .slice none 0 0) ∧
 (readE ps = 0 → A = .slice pa ps.length pc ∧ ∃ ca cc, B = .slice ca (corn ps).length cc ∧ w'.ownsRow w.heap.size 48 4 (.slice ca (corn ps).length cc) (corn ps).length ((corn ps).flatMap cellsCo))
theorem ReadP.bad {ps : List Pl} {pa : Option Addr} {pc : Nat} {w w' : World} {e : Int} (h : readE ps = e) (h0 : e ≠ 0) : ReadP ps pa pc w w' (.slice none 0 0) (.slice none 0 0) :=
 ⟨fun _ => ⟨rfl, rfl⟩, fun h1 => absurd (h.symm.trans h1) h0⟩
theorem any_room (cs : List Co) : (cs.any fun c => !inRoomB c) = !cs.all inRoomB := by rw [List.not_all_eq_any_not]
theorem Co.in_.wf {c : Co} (h : c.in_) : c.wf := by
 obtain ⟨⟨h1, h2, h3⟩, h4⟩ := h
 simp only [vec] at h1 h2 h3
 unfold Co.wf; omega
/-- The cells of the result's place. -/
structure R2 (g : Nat) (w : World) : Prop where
 a : ∃ u, w.cell? ⟨g, 0, none⟩ = some u ∧ w.frozen? ⟨g, 0, none⟩ = false
 b : ∃ u, w.cell? ⟨g, 1, none⟩ = some u ∧ w.frozen? ⟨g, 1, none⟩ = false
theorem R2.keep {g : Nat} {w w' : World} (h : R2 g w) (hb : Below w.heap.size w w') : R2 g w' := by
 obtain ⟨⟨u, h1, h2⟩, u', h3, h4⟩ := h
 exact ⟨⟨u, cell_keep hb h1, by rw [hb.frozen (block_lt_of_cell h1)]; exact h2⟩, u', cell_keep hb h3, by rw [hb.frozen (block_lt_of_cell h3)]; exact h4⟩
theorem R2.got {g : Nat} {w : World} (h : R2 g w) (A B : Value) : ((w.setCell ⟨g, 0, none⟩ A).setCell ⟨g, 1, none⟩ B).cell? ⟨g, 0, none⟩ = some A ∧ ((w.setCell ⟨g, 0, none⟩ A).setCell ⟨g, 1, none⟩ B).cell? ⟨g, 1, none⟩ = some B := by
 obtain ⟨⟨u, h1, h2⟩, u', h3, h4⟩ := h
 exact ⟨by rw [cell_set_ne (by simp) rfl rfl]; exact cell_set_same (by rw [h1]; rfl), cell_set_same (by rw [cell_set_ne (by simp) rfl rfl, h3]; rfl)⟩
set_option maxRecDepth 100000 in
set_option maxHeartbeats 8000000 in
theorem read_any (ps : List Pl) (pa : Option Addr) (pc : Nat) (w : World) (hpl : ps.length ≤ 1000000) (hv : Pls.V w pa ps) (hpc : ps.length ≤ pc) :
    Calls Tryz.prog 32 #[.agg #[.slice pa ps.length pc]] w fun e w' => ∃ A B, e = .returned (.tuple #[.agg #[A, B], .int .i64 (readE ps)]) ∧ Below w.heap.size w w' ∧ ReadP ps pa pc w w' A B := by
 have HV := Lib.hid hv
 clear hv
 go_enter Tryz.func32, Tryz.ntmps32
 go_upto_region 1 with fail
 refine gen_world (fun W => W.cell? ⟨w.heap.size, 0, none⟩ = some (.slice pa ps.length pc) ∧ R2 (w.heap.size + 1) W ∧ Below w.heap.size w W) ⟨by simp [go_sem], ⟨⟨.slice none 0 0, by simp [go_sem], by simp [go_sem]⟩, ⟨.slice none 0 0, by simp [go_sem], by simp [go_sem]⟩⟩, by repeat (first | (with_reducible assumption) | exact Below.refl _ _ | (refine Below.setCell ?_ (by first | omega | (simp; omega) | (simp; done)) _) | (refine Below.alloc ?_ (by first | omega | (simp; omega) | (simp; done)) _) | (refine Below.drew ?_))⟩ ?_
 rintro W ⟨b0, hr, hb⟩
 have HR0 := Lib.hid hr
 have HB0 := Lib.hid hb
 obtain ⟨⟨ru0, r0, rf0⟩, ru1, r1, rf1⟩ := hr
 clear hb
 by_cases hl : 16 < ps.length
 ·have hli : (16 : Int) < (ps.length : Int) := by omega
  have HE := Lib.hid (show readE ps = 8 by unfold readE; rw [if_pos hl])
  go_wp2_with fail
  refine bodyPost_ret (v := .tuple #[.agg #[.slice none 0 0, .slice none 0 0], .int .i64 8]) ?_ ?_ ?_
  ·simp [results, Tryz.results32, go_sem, (HR0.out.got (.slice none 0 0) (.slice none 0 0)).1, (HR0.out.got (.slice none 0 0) (.slice none 0 0)).2]
  ·rfl
  ·exact ⟨_, _, by rw [HE.out], (HB0.out.setCell (by simp) _).setCell (by simp) _, ReadP.bad HE.out (by decide)⟩
 ·have hli : ¬ (16 : Int) < (ps.length : Int) := by omega
  have hl16 : ps.length ≤ 16 := by omega
  clear r0 r1 rf0 rf1
  go_wp2_with fail
  go_loopw [16] (fun iv wr => ∃ k : Nat, k ≤ ps.length ∧ iv = .int .i64 (k : Int) ∧ Hid (chkPs ps = chkPs (ps.drop k)) ∧ wr.cell? ⟨w.heap.size, 0, none⟩ = some (.slice pa ps.length pc) ∧ R2 (w.heap.size + 1) wr ∧ Below w.heap.size w wr) (fun iv _ => ps.length - (intOf iv).toNat)
  case atStart => exact ⟨0, Nat.zero_le _, rfl, Lib.hid rfl, b0, HR0.out, HB0.out⟩
  case round =>
   obtain ⟨k, hk, rfl, HC, b0, hr, hb⟩ := hrel
   have HRR := Lib.hid hr
   have HB := Lib.hid hb
   have HVR := Lib.hid (HV.out.keep hb)
   have hz := hb.size
   clear hb
   by_cases hlt : k < ps.length
   ·have hki : (k : Int) < (ps.length : Int) := by omega
    obtain ⟨b, off, rfl, hat⟩ := HVR.out.at_ hlt
    obtain ⟨c0, c1, c2, c3, -⟩ := hat
    have HD := Lib.hid (chkPs_drop hlt)
    generalize ps[k] = p at *
    have HCP := Lib.hid (fun w => checkPlane_any p w)
    by_cases h0 : chkP p = 0
    ·have HN := Lib.hid (show chkPs ps = chkPs (ps.drop (k + 1)) by rw [HC.out, HD.out, if_neg (by simpa using h0)])
     rw [h0] at HCP
     clear h0 hr
     go_wp2_with (go_at_call 53; refine (HCP.out _).mono ?_; rintro e w9 ⟨rfl, hb⟩; have HB9 := Lib.hid (((Below.refl wr.heap.size wr).alloc (Nat.le_refl _) _).trans (hb.mono (by simp))); clear hb)
     go_roundw
     case rel => exact ⟨k + 1, by omega, by go_num, HN, cell_keep HB9.out b0, HRR.out.keep HB9.out, HB.out.trans (HB9.out.mono hz)⟩
     case measure => first | (simp [intOf]; done) | (simp [intOf]; omega)
    ·have HE := Lib.hid (show readE ps = chkP p by
       have h1 : chkPs ps = chkP p := by rw [HC.out, HD.out, if_pos h0]
       unfold readE; rw [if_neg hl, h1, if_pos h0])
     have HNE := Lib.hid h0
     have h1 : (chkP p != 0) = true := by simpa using h0
     generalize chkP p = E at *
     clear h0 hr
     go_upto_region 8 with (go_at_call 53; refine (HCP.out _).mono ?_; rintro e w9 ⟨rfl, hb⟩; have HB9 := Lib.hid (((Below.refl wr.heap.size wr).alloc (Nat.le_refl _) _).trans (hb.mono (by simp))); clear hb)
     have HR9 := Lib.hid (HRR.out.keep HB9.out)
     have HBW := Lib.hid (HB.out.trans (HB9.out.mono hz))
     obtain ⟨⟨ru0, r0, rf0⟩, ru1, r1, rf1⟩ := HR9.out
     go_wp2_with fail
     refine bodyPost_ret (v := .tuple #[.agg #[.slice none 0 0, .slice none 0 0], .int .i64 E]) ?_ ?_ ?_
     ·simp [results, Tryz.results32, go_sem, (HR9.out.got (.slice none 0 0) (.slice none 0 0)).1, (HR9.out.got (.slice none 0 0) (.slice none 0 0)).2]
     ·rfl
     ·exact ⟨_, _, by rw [HE.out], (HBW.out.setCell (by simp) _).setCell (by simp) _, ReadP.bad HE.out (HNE.out)⟩
   ·obtain rfl : k = ps.length := by omega
    have hki : ¬ ((ps.length : Nat) : Int) < ((ps.length : Nat) : Int) := by omega
    have HC0 := Lib.hid (show chkPs ps = 0 by rw [HC.out, List.drop_length]; rfl)
    have HGD := Lib.hid (good_of HC0.out)
    have HRE := Lib.hid (show readE ps = if bounM ps = false then 14 else if insid ps (corn ps) = false then 13 else if (corn ps).all inRoomB = false then 2 else 0 by
     unfold readE; rw [if_neg hl, HC0.out, if_neg (by simp)])
    clear hr
    have HBO := Lib.hid (bounded_any ps pa pc _ HGD.out (by omega) HVR.out hpc)
    cases hbo : bounM ps with
    | false =>
     have HE := Lib.hid (show readE ps = 14 by rw [HRE.out, if_pos hbo])
     rw [hbo] at HBO
     go_upto_region 11 with (go_at_call 54; refine HBO.out.mono ?_; rintro e w9 ⟨rfl, hb⟩; have HB9 := Lib.hid hb; clear hb)
     have HR9 := Lib.hid (HRR.out.keep HB9.out)
     have HBW := Lib.hid (HB.out.trans (HB9.out.mono hz))
     obtain ⟨⟨ru0, r0, rf0⟩, ru1, r1, rf1⟩ := HR9.out
     go_wp2_with fail
     refine bodyPost_ret (v := .tuple #[.agg #[.slice none 0 0, .slice none 0 0], .int .i64 14]) ?_ ?_ ?_
     ·simp [results, Tryz.results32, go_sem, (HR9.out.got (.slice none 0 0) (.slice none 0 0)).1, (HR9.out.got (.slice none 0 0) (.slice none 0 0)).2]
     ·rfl
     ·exact ⟨_, _, by rw [HE.out], (HBW.out.setCell (by simp) _).setCell (by simp) _, ReadP.bad HE.out (by decide)⟩
    | true =>
     rw [hbo] at HBO
     have HNB := Lib.hid (bounM_ne hbo)
     have HCL := Lib.hid (show (corn ps).length ≤ 1000000 by have := corn_len (l := ps) hl16; omega)
     go_upto_region 13 with (first
      | (go_at_call 54; refine HBO.out.mono ?_; rintro e w9 ⟨rfl, hb⟩; have HB9 := Lib.hid hb; have b09 := cell_keep HB9.out b0; clear hb)
      | (go_at_call 36; refine (bodyOf_any ps pa pc _ HGD.out (by omega) (HVR.out.keep HB9.out) hpc).mono ?_; rintro e w10 ⟨ca, cc, rfl, hown, hb⟩; have HO10 := Lib.hid hown; have HB10 := Lib.hid hb; clear hown hb))
     refine gen_world (fun W2 => Below w10.heap.size w10 W2 ∧ W2.cell? ⟨w10.heap.size, 0, none⟩ = some (.slice pa ps.length pc) ∧ W2.cell? ⟨w10.heap.size, 1, none⟩ = some (.slice ca (corn ps).length cc)) ⟨(Below.refl _ _).alloc (Nat.le_refl _) _, by simp [go_sem], by simp [go_sem]⟩ ?_
     rintro W2 ⟨hb2, x0, x1⟩
     have HX2 := Lib.hid hb2
     have hg7 : w10.heap.size ≤ w10.heap.size := Nat.le_refl _
     generalize hg7e : w10.heap.size = g7 at x0 x1 ⊢
     have HX1 := Lib.hid (hb2.mono (Nat.le_refl _))
     have HB12 := Lib.hid (show Below w9.heap.size w9 W2 from HB10.out.trans (hb2.mono (by have := HB10.out.size; have := hb2.size; omega)))
     have HO2 := Lib.hid (show W2.ownsRow w9.heap.size 48 4 (.slice ca (corn ps).length cc) (corn ps).length ((corn ps).flatMap cellsCo) from own_keep HO10.out hb2)
     have HBW2 := Lib.hid (show Below w.heap.size w W2 from (HB.out.trans (HB9.out.mono hz)).trans (HB12.out.mono (by have := HB9.out.size; omega)))
     have HR2 := Lib.hid (show R2 (w.heap.size + 1) W2 from (HRR.out.keep HB9.out).keep HB12.out)
     have HVP := Lib.hid (HV.out.keep HBW2.out)
     have HVC := Lib.hid (show Cos.V W2 ca (corn ps) from ownCoV (fun c hc => Co.in_.wf (corn_in HGD.out c hc)) HO2.out)
     have HSO := Lib.hid (fun w' (hw : Below W2.heap.size W2 w') => solidly_any ps pa pc (corn ps) ca cc w' HGD.out (corn_in HGD.out) (by omega) HCL.out (HVP.out.keep hw) (HVC.out.keep hw))
     have HAN := Lib.hid (fun w' (hw : Below W2.heap.size W2 w') => has_rea1 (fun c => !inRoomB c) ca (corn ps) cc w' (HVC.out.keep hw) HCL.out (fun x hx w1 hb1 => rea1_any x (corn_in HGD.out x hx) w1))
     clear hb2 hg7 hg7e
     cases hin : insid ps (corn ps) with
     | false =>
      have HE := Lib.hid (show readE ps = 13 by rw [HRE.out, if_neg (by rw [hbo]; simp), if_pos hin])
      rw [show solB ps (corn ps) = false by unfold solB; rw [hin]; rfl] at HSO
      go_upto_region 14 with (go_at_call 55; refine (HSO.out _ (Below.refl _ _)).mono ?_; rintro e w13 ⟨rfl, hb⟩; have HB13 := Lib.hid hb; clear hb)
      have HR13 := Lib.hid (HR2.out.keep HB13.out)
      have HBW13 := Lib.hid (HBW2.out.trans (HB13.out.mono HBW2.out.size))
      obtain ⟨⟨ru0, r0, rf0⟩, ru1, r1, rf1⟩ := HR13.out
      go_wp2_with fail
      refine bodyPost_ret (v := .tuple #[.agg #[.slice none 0 0, .slice none 0 0], .int .i64 13]) ?_ ?_ ?_
      ·simp [results, Tryz.results32, go_sem, (HR13.out.got (.slice none 0 0) (.slice none 0 0)).1, (HR13.out.got (.slice none 0 0) (.slice none 0 0)).2]
      ·rfl
      ·exact ⟨_, _, by rw [HE.out], (HBW13.out.setCell (by simp) _).setCell (by simp) _, ReadP.bad HE.out (by decide)⟩
     | true =>
      rw [show solB ps (corn ps) = true by unfold solB; rw [hin]; simp [HNB.out]] at HSO
      cases hrm : (corn ps).all inRoomB with
      | false =>
       have HE := Lib.hid (show readE ps = 2 by rw [HRE.out, if_neg (by rw [hbo]; simp), if_neg (by rw [hin]; simp), if_pos hrm])
       rw [any_room, hrm] at HAN
       go_upto_region 16 with (first
        | (go_at_call 55; refine (HSO.out _ (Below.refl _ _)).mono ?_; rintro e w13 ⟨rfl, hb⟩; have HB13 := Lib.hid hb; have x13 := cell_keep HB13.out x1; clear hb)
        | (go_at_call 56; refine (HAN.out _ HB13.out).mono ?_; rintro e w14 ⟨rfl, hb⟩; have HB14 := Lib.hid (HB13.out.trans (hb.mono HB13.out.size)); clear hb))
       have HR13 := Lib.hid (HR2.out.keep HB14.out)
       have HBW13 := Lib.hid (HBW2.out.trans (HB14.out.mono HBW2.out.size))
       obtain ⟨⟨ru0, r0, rf0⟩, ru1, r1, rf1⟩ := HR13.out
       go_wp2_with fail
       refine bodyPost_ret (v := .tuple #[.agg #[.slice none 0 0, .slice none 0 0], .int .i64 2]) ?_ ?_ ?_
       ·simp [results, Tryz.results32, go_sem, (HR13.out.got (.slice none 0 0) (.slice none 0 0)).1, (HR13.out.got (.slice none 0 0) (.slice none 0 0)).2]
       ·rfl
       ·exact ⟨_, _, by rw [HE.out], (HBW13.out.setCell (by simp) _).setCell (by simp) _, ReadP.bad HE.out (by decide)⟩
      | true =>
       have HE := Lib.hid (show readE ps = 0 by rw [HRE.out, if_neg (by rw [hbo]; simp), if_neg (by rw [hin]; simp), if_neg (by rw [hrm]; simp)])
       rw [any_room, hrm] at HAN
       go_upto_region 17 with (first
        | (go_at_call 55; refine (HSO.out _ (Below.refl _ _)).mono ?_; rintro e w13 ⟨rfl, hb⟩; have HB13 := Lib.hid hb; have x13 := cell_keep HB13.out x1; clear hb)
        | (go_at_call 56; refine (HAN.out _ HB13.out).mono ?_; rintro e w14 ⟨rfl, hb⟩; have HB14 := Lib.hid (HB13.out.trans (hb.mono HB13.out.size)); clear hb))
       have HR13 := Lib.hid (HR2.out.keep HB14.out)
       have HBW13 := Lib.hid (HBW2.out.trans (HB14.out.mono HBW2.out.size))
       have HO14 := Lib.hid (own_keep HO2.out HB14.out)
       have x014 := cell_keep HB14.out x0
       have x114 := cell_keep HB14.out x1
       have HOFF := Lib.hid (show (Value.slice ca (corn ps).length cc).ownBlock ≠ some (w.heap.size + 1) from fun e => by
        have h1 := (own_lt HO10.out e).1
        obtain ⟨u, h2, _⟩ := (HRR.out.keep HB9.out).a
        have h3 := block_lt_of_cell h2
        simp only at h3; omega)
       obtain ⟨⟨ru0, r0, rf0⟩, ru1, r1, rf1⟩ := HR13.out
       go_wp2_with fail
       refine bodyPost_ret (v := .tuple #[.agg #[.slice pa ps.length pc, .slice ca (corn ps).length cc], .int .i64 0]) ?_ ?_ ?_
       ·simp [results, Tryz.results32, go_sem, (HR13.out.got (.slice pa ps.length pc) (.slice ca (corn ps).length cc)).1, (HR13.out.got (.slice pa ps.length pc) (.slice ca (corn ps).length cc)).2]
       ·rfl
       ·refine ⟨_, _, by rw [HE.out], (HBW13.out.setCell (by simp) _).setCell (by simp) _, fun h => absurd HE.out h, fun _ => ⟨rfl, ca, cc, rfl, ?_⟩⟩
        exact own_mono ((HO14.out.kept (grownBy_set (a := ⟨w.heap.size + 1, 0, none⟩)) (.inr HOFF.out)).kept (grownBy_set (a := ⟨w.heap.size + 1, 1, none⟩)) (.inr HOFF.out)) (by have := HB9.out.size; omega)
end Go.Proofs.YtgjmfdhgeahdcaaGreat
/- The program's checks of cells and solids; the bodies of a solid. -/
set_option linter.unusedVariables false
set_option linter.unusedSimpArgs false
namespace Go.Proofs.YtgjmfdhgeahdcaaGreat
open Go Go.RowKit Go.Sort Go.Lib

theorem ReadP.shape {ps : List Pl} {pa : Option Addr} {pc : Nat} {w w' : World} {A B : Value} (h : ReadP ps pa pc w w' A B) : ∃ a n c a' n' c', A = .slice a n c ∧ B = .slice a' n' c' := by
 by_cases h0 : readE ps = 0
 ·obtain ⟨h1, ca, cc, h2, _⟩ := h.2 h0
  exact ⟨_, _, _, _, _, _, h1, h2⟩
 ·obtain ⟨h1, h2⟩ := h.1 h0
  exact ⟨_, _, _, _, _, _, h1, h2⟩
/-- The corners of a valid cell, or nothing. -/
def cornE (ps : List Pl) : List Co := if readE ps = 0 then corn ps else []
set_option maxHeartbeats 2000000 in
theorem corners_any (ps : List Pl) (pa : Option Addr) (pc : Nat) (w : World) (hpl : ps.length ≤ 1000000) (hv : Pls.V w pa ps) (hpc : ps.length ≤ pc) :
    Calls Tryz.prog 11 #[.agg #[.slice pa ps.length pc]] w fun e w' => ∃ ca cc, e = .returned (.tuple #[.slice ca (cornE ps).length cc, .int .i64 (readE ps)]) ∧ w'.ownsRow w.heap.size 48 4 (.slice ca (cornE ps).length cc) (cornE ps).length ((cornE ps).flatMap cellsCo) ∧ Below w.heap.size w w' := by
 go_enter Tryz.func11, Tryz.ntmps11
 go_upto_region 2 with (go_at_call 32; refine (read_any ps pa pc _ hpl (hv.keep ((Below.refl _ _).alloc (Nat.le_refl _) _)) hpc).mono ?_; rintro e w1 ⟨A, B, rfl, hb, hr⟩; have HB1 := Lib.hid (((Below.refl w.heap.size w).alloc (Nat.le_refl _) _).trans (hb.mono (by simp))); have HSZ := Lib.hid hb.size; obtain ⟨a1, n1, k1, a2, n2, k2, rfl, rfl⟩ := hr.shape; have HR := Lib.hid hr; clear hb hr)
 have hsz := HB1.out.size
 refine gen_world (fun W => Below w1.heap.size w1 W ∧ W.cell? ⟨w1.heap.size, 1, none⟩ = some (.slice a2 n2 k2)) ⟨by repeat (first | exact (Below.refl _ _) | (refine Below.setCell ?_ (by simp) _) | (refine Below.alloc ?_ (by simp) _)), by simp [go_sem]⟩ ?_
 rintro W ⟨hb, x1⟩
 have HBK := Lib.hid hb
 have HBW := Lib.hid (HB1.out.trans (hb.mono HB1.out.size))
 clear hb
 go_wp2_with fail
 refine bodyPost_ret (v := .tuple #[.slice a2 n2 k2, .int .i64 (readE ps)]) (by simp [results, Tryz.results11, go_sem]) rfl ?_
 by_cases h0 : readE ps = 0
 ·obtain ⟨-, ca, cc, h2, hown⟩ := HR.out.2 h0
  injection h2 with e1 e2 e3
  subst e1 e2 e3
  have HC : cornE ps = corn ps := by unfold cornE; rw [if_pos h0]
  rw [HC]
  exact ⟨a2, k2, rfl, own_mono (own_keep hown HBK.out) (by simp), HBW.out⟩
 ·obtain ⟨-, h2⟩ := HR.out.1 h0
  injection h2 with e1 e2 e3
  subst e1 e2 e3
  have HC : cornE ps = [] := by unfold cornE; rw [if_neg h0]
  rw [HC]
  exact ⟨none, 0, rfl, ⟨rfl, .inl ⟨rfl, rfl⟩⟩, HBW.out⟩
/-- One cell of the result's place. -/
theorem got1 {g : Nat} {w : World} {u : Value} (h : w.cell? ⟨g, 0, none⟩ = some u) (A : Value) : (w.setCell ⟨g, 0, none⟩ A).cell? ⟨g, 0, none⟩ = some A := cell_set_same (by rw [h]; rfl)
/-! Rows of bodies. -/
structure BR where
 ps : List Pl
 pa : Option Addr
 pc : Nat
 ca : Option Addr
 cc : Nat
def cellsBR (r : BR) : List Value := [.slice r.pa r.ps.length r.pc, .slice r.ca (corn r.ps).length r.cc]
theorem cellsBR_len (r : BR) : (cellsBR r).length = 2 := rfl
theorem cellsBR_one (r : BR) : ∀ v ∈ cellsBR r, v.oneCell' = true := by
 intro v hv
 simp only [cellsBR, List.mem_cons, List.not_mem_nil, or_false] at hv
 rcases hv with rfl | rfl <;> rfl
def blk (a : Option Addr) : Option Nat := a.map (·.block)
/-- The body lies in memory, apart from a row that grows. -/
structure BRok (w : World) (v : Value) (r : BR) : Prop where
 pls : Pls.V w r.pa r.ps
 cos : Cos.V w r.ca (corn r.ps)
 len : r.ps.length ≤ r.pc
 pb : ∀ b, blk r.pa = some b → b < w.heap.size ∧ v.ownBlock ≠ some b
 cb : ∀ b, blk r.ca = some b → b < w.heap.size ∧ v.ownBlock ≠ some b
theorem Pls.V.grown {w w' : World} {a : Option Addr} {l : List Pl} {row : Option Nat} (h : Pls.V w a l) (hg : w.grownBy w' row) (ho : ∀ b, blk a = some b → row ≠ some b) : Pls.V w' a l := fun hl => by
 obtain ⟨b, off, rfl, hx⟩ := h hl
 have hb := ho b rfl
 refine ⟨b, off, rfl, fun k x hk => ?_⟩
 obtain ⟨h0, h1, h2, h3, hw⟩ := hx k x hk
 exact ⟨grown_cell hg h0 hb, grown_cell hg h1 hb, grown_cell hg h2 hb, grown_cell hg h3 hb, hw⟩
theorem Cos.V.grown {w w' : World} {a : Option Addr} {l : List Co} {row : Option Nat} (h : Cos.V w a l) (hg : w.grownBy w' row) (ho : ∀ b, blk a = some b → row ≠ some b) : Cos.V w' a l := fun hl => by
 obtain ⟨b, off, rfl, hx⟩ := h hl
 have hb := ho b rfl
 refine ⟨b, off, rfl, fun k x hk => ?_⟩
 obtain ⟨h0, h1, h2, h3, hw⟩ := hx k x hk
 exact ⟨grown_cell hg h0 hb, grown_cell hg h1 hb, grown_cell hg h2 hb, grown_cell hg h3 hb, hw⟩
theorem BRok.keep {w w' : World} {v : Value} {r : BR} (h : BRok w v r) (hb : Below w.heap.size w w') : BRok w' v r :=
 ⟨h.pls.keep hb, h.cos.keep hb, h.len, fun b e => ⟨Nat.lt_of_lt_of_le (h.pb b e).1 hb.size, (h.pb b e).2⟩, fun b e => ⟨Nat.lt_of_lt_of_le (h.cb b e).1 hb.size, (h.cb b e).2⟩⟩
theorem BRok.grown {w w' : World} {v v' : Value} {r : BR} (h : BRok w v r) (hg : w.grownBy w' v.ownBlock) (hv : v'.ownBlock = v.ownBlock ∨ v'.ownBlock = some w.heap.size) : BRok w' v' r := by
 have f : ∀ b, b < w.heap.size → v.ownBlock ≠ some b → b < w'.heap.size ∧ v'.ownBlock ≠ some b := fun b h1 h2 => by
  refine ⟨Nat.lt_of_lt_of_le h1 hg.size, ?_⟩
  rcases hv with e | e
  ·rw [e]; exact h2
  ·rw [e]; intro h; injection h with h; omega
 exact ⟨h.pls.grown hg fun b e => (h.pb b e).2, h.cos.grown hg fun b e => (h.cb b e).2, h.len, fun b e => f b (h.pb b e).1 (h.pb b e).2, fun b e => f b (h.cb b e).1 (h.cb b e).2⟩
/-- Apart from another row as well. -/
theorem BRok.to {w : World} {v v' : Value} {r : BR} (h : BRok w v r) (hp : ∀ b, blk r.pa = some b → v'.ownBlock ≠ some b) (hc : ∀ b, blk r.ca = some b → v'.ownBlock ≠ some b) : BRok w v' r :=
 ⟨h.pls, h.cos, h.len, fun b e => ⟨(h.pb b e).1, hp b e⟩, fun b e => ⟨(h.cb b e).1, hc b e⟩⟩
theorem Pls.V.blk {w : World} {a : Option Addr} {l : List Pl} (h : Pls.V w a l) (hne : l ≠ []) : ∃ b, blk a = some b ∧ b < w.heap.size := by
 obtain ⟨b, off, rfl, hx⟩ := h hne
 cases l with
 | nil => exact absurd rfl hne
 | cons x l =>
  have h0 := block_lt_of_cell (hx 0 x rfl).1
  exact ⟨b, rfl, h0⟩
theorem own_blk_lt {w : World} {base e k n : Nat} {a : Option Addr} {m c : Nat} {xs : List Value} (h : w.ownsRow base e k (.slice a m c) n xs) : ∀ b, blk a = some b → base ≤ b ∧ b < w.heap.size := by
 intro b hb
 rcases h.2 with ⟨e0, _⟩ | ⟨g, cap, cur, e0, h1, h2, _⟩
 ·injection e0 with e1 _ _; subst e1; cases hb
 ·injection e0 with e1 _ _; subst e1
  injection hb with hb; subst hb
  exact ⟨h1, (Array.getElem?_eq_some_iff.1 h2).1⟩
theorem bodyInfo : (Tryz.prog.info? 73).map (fun i => (i.zero, i.size, i.bytes)) = some (some (.agg #[.slice none 0 0, .slice none 0 0]), 2, 48) := by kernel_rfl
/-- The bodies of cells. -/
structure BsOK (w : World) (v : Value) (cs : List (List Pl)) (L : List BR) : Prop where
 ps : L.map (·.ps) = cs
 ok : ∀ r ∈ L, BRok w v r
def BodsP (cells : List Cell) (w w' : World) (v : Value) : Prop :=
 (solE cells ≠ 0 → v = .slice none 0 0) ∧
 (solE cells = 0 → ∃ L : List BR, BsOK w' v (cells.map (·.planes)) L ∧ w'.ownsRow w.heap.size 73 2 v L.length (L.flatMap cellsBR))
theorem chkCs_drop {l : List Cell} {k : Nat} (hk : k < l.length) : chkCs (l.drop k) = if readE l[k].planes ≠ 0 then readE l[k].planes else chkCs (l.drop (k + 1)) := by
 rw [List.drop_eq_getElem_cons hk, chkCs]
end Go.Proofs.YtgjmfdhgeahdcaaGreat
/- The bodies of a solid. -/
set_option linter.unusedVariables false
set_option linter.unusedSimpArgs false
namespace Go.Proofs.YtgjmfdhgeahdcaaGreat
open Go Go.RowKit Go.Sort Go.Lib

theorem chkCs_all : ∀ {l : List Cell}, chkCs l = 0 ↔ ∀ c ∈ l, readE c.planes = 0
 | [] => by simp [chkCs]
 | c :: l => by
  unfold chkCs
  split
  ·rename_i h; simp [h]
  ·rename_i h
   rw [chkCs_all]
   have : readE c.planes = 0 := by omega
   simp [this]
set_option maxRecDepth 100000 in
set_option maxHeartbeats 8000000 in
theorem bodies_any (cells : List Cell) (a : Option Addr) (c : Nat) (w : World) (hcl : cells.length ≤ 9223372036854775807) (hv : Cells.V w a cells) (hpl : ∀ x ∈ cells, x.planes.length ≤ 1000000) :
    Calls Tryz.prog 26 #[.agg #[.slice a cells.length c]] w fun e w' => ∃ v, e = .returned (.tuple #[v, .int .i64 (solE cells)]) ∧ Below w.heap.size w w' ∧ BodsP cells w w' v := by
 obtain ⟨i0, hi0, hz0, hz1, hz2⟩ := info_parts bodyInfo
 have HV := Lib.hid hv
 have HPL := Lib.hid hpl
 clear hv hpl
 go_enter Tryz.func26, Tryz.ntmps26
 by_cases hl : 100 < cells.length
 ·have hli : (100 : Int) < (cells.length : Int) := by omega
  have HE := Lib.hid (show solE cells = 8 by unfold solE; rw [if_pos hl])
  go_wp2_with fail
  refine bodyPost_ret (v := .tuple #[.slice none 0 0, .int .i64 8]) (by simp [results, Tryz.results26, go_sem]) rfl ⟨_, by rw [HE.out], by repeat (first | (with_reducible assumption) | exact Below.refl _ _ | (refine Below.setCell ?_ (by first | omega | (simp; omega) | (simp; done)) _) | (refine Below.alloc ?_ (by first | omega | (simp; omega) | (simp; done)) _) | (refine Below.drew ?_)), fun _ => rfl, fun h => absurd (HE.out.symm.trans h) (by decide)⟩
 ·have hli : ¬ (100 : Int) < (cells.length : Int) := by omega
  have hl100 : cells.length ≤ 100 := by omega
  have HSO := Lib.hid (show solE cells = chkCs cells by unfold solE; rw [if_neg hl])
  go_wp2_with fail
  go_loopw [4, 16] (fun v iv wr => ∃ (k : Nat) (L : List BR), k ≤ cells.length ∧ iv = .int .i64 (k : Int) ∧ Hid (chkCs cells = chkCs (cells.drop k)) ∧ Hid (BsOK wr v ((cells.take k).map (·.planes)) L) ∧ wr.ownsRow w.heap.size 73 2 v L.length (L.flatMap cellsBR) ∧ Below w.heap.size w wr) (fun _ iv _ => cells.length - (intOf iv).toNat)
  case atStart => exact ⟨0, [], Nat.zero_le _, rfl, Lib.hid rfl, Lib.hid ⟨rfl, fun r hr => absurd hr (by simp)⟩, ⟨rfl, .inl ⟨rfl, rfl⟩⟩, by repeat (first | (with_reducible assumption) | exact Below.refl _ _ | (refine Below.setCell ?_ (by first | omega | (simp; omega) | (simp; done)) _) | (refine Below.alloc ?_ (by first | omega | (simp; omega) | (simp; done)) _) | (refine Below.drew ?_))⟩
  case round =>
   obtain ⟨k, L, hk, rfl, HC, HBS, hown, hb⟩ := hrel
   have HO := Lib.hid hown
   have HB := Lib.hid hb
   have hz := hb.size
   have HLK : Hid (L.length = k) := Lib.hid (by have := congrArg List.length HBS.out.ps; simp at this; omega)
   obtain ⟨va, vc, rfl, -, -⟩ := own_slice hown
   by_cases hlt : k < cells.length
   ·have hki : (k : Int) < (cells.length : Int) := by omega
    obtain ⟨b, off, ha, hat⟩ := (HV.out.keep hb).at_ hlt
    obtain ⟨b', off', ha', hat0⟩ := HV.out.at_ hlt
    obtain ⟨rfl, rfl⟩ : b = b' ∧ off = off' := by rw [ha] at ha'; injection ha' with h; injection h with h1 h2; exact ⟨h1, h2⟩
    obtain ⟨pa, pc, x0, hpv, hpc, -, -⟩ := hat
    obtain ⟨pa', pc', x0', hpv0, -, -, -⟩ := hat0
    have hx : (Value.slice pa cells[k].planes.length pc) = .slice pa' cells[k].planes.length pc' := by
     have h1 := cell_keep hb x0'
     rw [Nat.mul_one] at x0 h1
     rw [x0] at h1; injection h1
    rw [Nat.mul_one] at x0
    injection hx with hx1 _ hx3
    subst hx1 hx3
    have HPV0 := Lib.hid hpv0
    have HPV := Lib.hid hpv
    have HD := Lib.hid (chkCs_drop hlt)
    have HTK := Lib.hid (show (cells.take (k + 1)).map (·.planes) = (cells.take k).map (·.planes) ++ [cells[k].planes] by rw [List.take_succ_eq_append_getElem hlt, List.map_append]; rfl)
    have HPL1 := Lib.hid (HPL.out _ (List.getElem_mem hlt))
    generalize cells[k].planes = ps at *
    subst ha
    clear hb hown hpv hpv0 x0' ha'
    go_upto_region 8 with (go_at_call 32; refine (read_any ps pa pc _ HPL1.out (HPV.out.keep ((Below.refl _ _).alloc (Nat.le_refl _) _)) hpc).mono ?_; rintro e w1 ⟨A, B, rfl, hb, hr⟩; have HB1 := Lib.hid (((Below.refl wr.heap.size wr).alloc (Nat.le_refl _) _).trans (hb.mono (by simp))); obtain ⟨a1, n1, k1, a2, n2, k2, rfl, rfl⟩ := hr.shape; have HR := Lib.hid hr; clear hb hr)
    refine gen_world (fun W2 => Below w1.heap.size w1 W2 ∧ W2.cell? ⟨w1.heap.size, 0, none⟩ = some (.slice a1 n1 k1) ∧ W2.cell? ⟨w1.heap.size, 1, none⟩ = some (.slice a2 n2 k2)) ⟨by repeat (first | exact (Below.refl _ _) | (refine Below.setCell ?_ (by simp) _) | (refine Below.alloc ?_ (by simp) _)), by simp [go_sem], by simp [go_sem]⟩ ?_
    rintro W2 ⟨hb, y0, y1⟩
    have HBK := Lib.hid hb
    have HB12 := Lib.hid (show Below wr.heap.size wr W2 from HB1.out.trans (hb.mono HB1.out.size))
    generalize w1.heap.size = g7 at y0 y1 ⊢
    clear hb x0
    have HBW := Lib.hid (show Below w.heap.size w W2 from HB.out.trans (HB12.out.mono hz))
    have HO2 := Lib.hid (own_keep HO.out HB12.out)
    by_cases h0 : readE ps = 0
    ·obtain ⟨h1, ca, cc, h2, hown⟩ := HR.out.2 h0
     injection h1 with e1 e2 e3
     injection h2 with e4 e5 e6
     subst e1 e2 e3 e4 e5 e6
     have HN := Lib.hid (show chkCs cells = chkCs (cells.drop (k + 1)) by rw [HC.out, HD.out, if_neg (by simpa using h0)])
     have hE : (readE ps != 0) = false := by rw [h0]; rfl
     have HE0 := Lib.hid h0
     have HON := Lib.hid (own_keep hown HBK.out)
     have HGD := Lib.hid (good_of (readE_zero.1 h0).2.1)
     obtain ⟨r, hr⟩ : ∃ r : BR, r = ⟨ps, a1, k1, a2, k2⟩ := ⟨_, rfl⟩
     have HRB := Lib.hid (show BRok W2 (.slice va L.length vc) r by
      subst hr
      refine ⟨HPV.out.keep HB12.out, ownCoV (fun c hc => Co.in_.wf (corn_in HGD.out c hc)) HON.out, hpc, fun b e => ?_, fun b e => ?_⟩
      ·obtain ⟨b', hb', hlt'⟩ := HPV0.out.blk (bounM_ne (readE_zero.1 HE0.out).2.2.1)
       have : b' = b := by rw [hb'] at e; injection e
       subst this
       refine ⟨Nat.lt_of_lt_of_le hlt' HBW.out.size, fun e' => ?_⟩
       have := (own_lt HO.out e').1; omega
      ·have h3 := own_blk_lt HON.out b e
       refine ⟨h3.2, fun e' => ?_⟩
       have h4 := (own_lt HO.out e').2
       have h5 := h3.1
       simp at h5; omega)
     have HRV := Lib.hid (show cellsBR r = [.slice a1 ps.length k1, .slice a2 (corn ps).length k2] by subst hr; rfl)
     have HRP := Lib.hid (show r.ps = ps by subst hr; rfl)
     clear hown hr
     rw [h0] at *
     generalize corn ps = CS at *
     go_wp2_with (at_builtin; refine wpList_append_here _ rfl _ _ 68 rfl w.heap.size 73 i0 (.agg #[.slice none 0 0, .slice none 0 0]) 2 48 Tryz.underlying68 hi0 hz0 hz1 hz2 rfl (by decide) (.slice va L.length vc) L.length (L.flatMap cellsBR) rfl (own_keep HO2.out ((Below.refl _ _).alloc (Nat.le_refl _) (.cells #[.slice a1 ps.length k1, .slice a2 CS.length k2] 73))) ⟨W2.heap.size, 0, none⟩ 1 1 (cellsBR r) rfl rfl (by rw [HRV.out]; exact news_of _ _ _ _ rfl) (cellsBR_one r) (by decide) (by have := HLK.out; simp only [maxLen]; omega) (by have := HLK.out; omega) (by have := HBW.out.size; simp; omega) ?_; intro v' w10 hown10 hgr10 hat10; have HBS10 := Lib.hid (show BsOK w10 v' ((cells.take (k + 1)).map (·.planes)) (L ++ [r]) from ⟨by rw [HTK.out, List.map_append, HBS.out.ps]; simp [HRP.out], fun x hx => by
          have hk := (Below.refl W2.heap.size W2).alloc (Nat.le_refl _) (.cells #[.slice a1 ps.length k1, .slice a2 CS.length k2] 73)
          rcases List.mem_append.1 hx with hx | hx
          ·exact (((HBS.out.ok x hx).keep HB12.out).keep hk).grown hgr10 hat10
          ·simp only [List.mem_singleton] at hx; subst hx; exact (HRB.out.keep hk).grown hgr10 hat10⟩); have HO10 := Lib.hid (show w10.ownsRow w.heap.size 73 2 v' (L ++ [r]).length ((L ++ [r]).flatMap cellsBR) by rw [List.flatMap_append, List.length_append]; simpa using hown10); have HB10 := Lib.hid (below_grown (HBW.out.trans (((Below.refl W2.heap.size W2).alloc (Nat.le_refl _) (.cells #[.slice a1 ps.length k1, .slice a2 CS.length k2] 73)).mono HBW.out.size)) hgr10 (by have := HBW.out.size; simp; omega) fun k hk => (own_lt HO2.out hk).1); clear hown10 hgr10 hat10)
     go_roundw
     case rel => exact ⟨k + 1, L ++ [r], by omega, by go_num, HN, HBS10, HO10.out, HB10.out⟩
     case measure => first | (simp [intOf]; done) | (simp [intOf]; omega)
    ·have HE := Lib.hid (show solE cells = readE ps by rw [HSO.out, HC.out, HD.out, if_pos h0])
     have hE1 : (readE ps != 0) = true := by simpa using h0
     have HNE := Lib.hid h0
     clear h0 y0 y1
     go_wp2_with fail
     refine bodyPost_ret (v := .tuple #[.slice none 0 0, .int .i64 (readE ps)]) (by simp [results, Tryz.results26, go_sem]) rfl ⟨_, by rw [HE.out], HBW.out, fun _ => rfl, fun h => absurd (HE.out.symm.trans h) HNE.out⟩
   ·obtain rfl : k = cells.length := by omega
    have hki : ¬ ((cells.length : Nat) : Int) < ((cells.length : Nat) : Int) := by omega
    have HE := Lib.hid (show solE cells = 0 by rw [HSO.out, HC.out, List.drop_length]; rfl)
    rw [List.take_length] at HBS
    clear hb hown
    go_wp2_with fail
    refine bodyPost_ret (v := .tuple #[.slice va L.length vc, .int .i64 0]) (by simp [results, Tryz.results26, go_sem]) rfl ⟨_, by rw [HE.out], HB.out, fun h => absurd HE.out h, fun _ => ⟨L, HBS.out, HO.out⟩⟩
theorem BodsP.shape {cells : List Cell} {w w' : World} {v : Value} (h : BodsP cells w w' v) : ∃ a n c, v = .slice a n c := by
 by_cases h0 : solE cells = 0
 ·obtain ⟨L, _, h2⟩ := h.2 h0
  obtain ⟨a, c, rfl, _⟩ := own_slice h2
  exact ⟨_, _, _, rfl⟩
 ·exact ⟨_, _, _, h.1 h0⟩
def twoE (a b : List Cell) : Int := if solE a ≠ 0 then solE a else solE b
/-- The bodies of two solids, or nothing. -/
def TwoP (ca cb : List Cell) (w w' : World) (x y : Value) : Prop :=
 (twoE ca cb ≠ 0 → x = .slice none 0 0 ∧ y = .slice none 0 0) ∧
 (twoE ca cb = 0 → (∃ L : List BR, BsOK w' x (ca.map (·.planes)) L ∧ w'.ownsRow w.heap.size 73 2 x L.length (L.flatMap cellsBR)) ∧
  ∃ M : List BR, BsOK w' y (cb.map (·.planes)) M ∧ w'.ownsRow w.heap.size 73 2 y M.length (M.flatMap cellsBR))
theorem twoE_zero {a b : List Cell} : twoE a b = 0 ↔ solE a = 0 ∧ solE b = 0 := by
 unfold twoE
 by_cases h : solE a = 0
 ·simp [h]
 ·simp [h]
theorem BsOK.keep {w w' : World} {v : Value} {cs : List (List Pl)} {L : List BR} (h : BsOK w v cs L) (hb : Below w.heap.size w w') : BsOK w' v cs L := ⟨h.ps, fun r hr => (h.ok r hr).keep hb⟩
theorem TwoP.shape {ca cb : List Cell} {w w' : World} {x y : Value} (h : TwoP ca cb w w' x y) : ∃ a n c a' n' c', x = .slice a n c ∧ y = .slice a' n' c' := by
 by_cases h0 : twoE ca cb = 0
 ·obtain ⟨⟨L, _, h2⟩, M, _, h3⟩ := h.2 h0
  obtain ⟨a, c, rfl, _⟩ := own_slice h2
  obtain ⟨a', c', rfl, _⟩ := own_slice h3
  exact ⟨_, _, _, _, _, _, rfl, rfl⟩
 ·obtain ⟨h1, h2⟩ := h.1 h0
  exact ⟨_, _, _, _, _, _, h1, h2⟩
set_option maxHeartbeats 2000000 in
theorem two_any (ca cb : List Cell) (a : Option Addr) (c : Nat) (b : Option Addr) (d : Nat) (w : World) (hcl : ca.length ≤ 9223372036854775807) (hv : Cells.V w a ca) (hpl : ∀ x ∈ ca, x.planes.length ≤ 1000000)
    (hdl : cb.length ≤ 9223372036854775807) (hu : Cells.V w b cb) (hql : ∀ x ∈ cb, x.planes.length ≤ 1000000) :
    Calls Tryz.prog 30 #[.agg #[.slice a ca.length c], .agg #[.slice b cb.length d]] w fun e w' => ∃ x y, e = .returned (.tuple #[x, y, .int .i64 (twoE ca cb)]) ∧ Below w.heap.size w w' ∧ TwoP ca cb w w' x y := by
 have HU := Lib.hid hu
 go_enter Tryz.func30, Tryz.ntmps30
 go_upto_region 1 with fail
 refine gen_world (fun W => W.cell? ⟨w.heap.size, 0, none⟩ = some (.slice a ca.length c) ∧ W.cell? ⟨w.heap.size + 1, 0, none⟩ = some (.slice b cb.length d) ∧ Below w.heap.size w W) ⟨by simp [go_sem], by simp [go_sem], by repeat (first | (with_reducible assumption) | exact Below.refl _ _ | (refine Below.setCell ?_ (by first | omega | (simp; omega) | (simp; done)) _) | (refine Below.alloc ?_ (by first | omega | (simp; omega) | (simp; done)) _) | (refine Below.drew ?_))⟩ ?_
 rintro W ⟨b0, b1, hb⟩
 have HB0 := Lib.hid hb
 have HVW := Lib.hid (hv.keep hb)
 clear hb hv
 go_upto_region 2 with (go_at_call 26; refine (bodies_any ca a c _ hcl HVW.out hpl).mono ?_; rintro e w1 ⟨x, rfl, hb, hr⟩; have HB1 := Lib.hid hb; obtain ⟨xa, xn, xc, rfl⟩ := hr.shape; have HX := Lib.hid hr; have b1' := cell_keep hb b1; clear hb hr)
 have HBW1 := Lib.hid (HB0.out.trans (HB1.out.mono HB0.out.size))
 by_cases h0 : solE ca = 0
 ·have hE : (solE ca != 0) = false := by rw [h0]; rfl
  have HT := Lib.hid (show twoE ca cb = solE cb by unfold twoE; rw [if_neg (by simpa using h0)])
  have HE0 := Lib.hid h0
  go_upto_region 5 with (go_at_call 26; refine (bodies_any cb b d _ hdl (HU.out.keep HBW1.out) hql).mono ?_; rintro e w2 ⟨y, rfl, hb, hr⟩; have HB2 := Lib.hid hb; obtain ⟨ya, yn, yc, rfl⟩ := hr.shape; have HY := Lib.hid hr; clear hb hr)
  have HBW2 := Lib.hid (HBW1.out.trans (HB2.out.mono HBW1.out.size))
  clear h0
  by_cases h1 : solE cb = 0
  ·have hE1 : (solE cb != 0) = false := by rw [h1]; rfl
   have HE1 := Lib.hid h1
   clear h1
   go_wp2_with fail
   refine bodyPost_ret (v := .tuple #[.slice xa xn xc, .slice ya yn yc, .int .i64 0]) (by simp [results, Tryz.results30, go_sem]) rfl ⟨_, _, by rw [HT.out, HE1.out], HBW2.out, fun h => absurd (HT.out.trans HE1.out) h, fun _ => ?_⟩
   obtain ⟨L, h2, h3⟩ := HX.out.2 HE0.out
   obtain ⟨M, h4, h5⟩ := HY.out.2 HE1.out
   exact ⟨⟨L, h2.keep HB2.out, own_mono (own_keep h3 HB2.out) HB0.out.size⟩, M, h4, own_mono h5 HBW1.out.size⟩
  ·have hE1 : (solE cb != 0) = true := by simpa using h1
   have HNE := Lib.hid h1
   clear h1
   go_wp2_with fail
   refine bodyPost_ret (v := .tuple #[.slice none 0 0, .slice none 0 0, .int .i64 (solE cb)]) (by simp [results, Tryz.results30, go_sem]) rfl ⟨_, _, by rw [HT.out], HBW2.out, fun _ => ⟨rfl, rfl⟩, fun h => absurd (HT.out.symm.trans h) HNE.out⟩
 ·have hE : (solE ca != 0) = true := by simpa using h0
  have HT := Lib.hid (show twoE ca cb = solE ca by unfold twoE; rw [if_pos h0])
  have HNE := Lib.hid h0
  clear h0
  go_wp2_with fail
  refine bodyPost_ret (v := .tuple #[.slice none 0 0, .slice none 0 0, .int .i64 (solE ca)]) (by simp [results, Tryz.results30, go_sem]) rfl ⟨_, _, by rw [HT.out], HBW1.out, fun _ => ⟨rfl, rfl⟩, fun h => absurd (HT.out.symm.trans h) HNE.out⟩
end Go.Proofs.YtgjmfdhgeahdcaaGreat
