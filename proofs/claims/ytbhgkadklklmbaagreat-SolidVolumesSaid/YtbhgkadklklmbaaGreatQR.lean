/- Division rounded, of the program and of the document. -/
import Derived.Test.YtbhgkadklklmbaaGreatQB
import Derived.Test.YtbhgkadklklmbaaGreatQK
import Derived.Test.YtbhgkadklklmbaaGreatQM
import Derived.Test.YtbhgkadklklmbaaGreatQG
import Derived.Test.YtbhgkadklklmbaaGreatQF
import Derived.Test.YtbhgkadklklmbaaGreatQO
set_option linter.unusedVariables false
set_option linter.unusedSimpArgs false
namespace Go.Proofs.YtbhgkadklklmbaaGreat
open Go Go.RowKit

theorem tdiv_bd {a b : Int} (hb : 1 ≤ b) (h : -4611686018427387904 ≤ a ∧ a ≤ 4611686018427387904) : -4611686018427387904 ≤ a.tdiv b ∧ a.tdiv b ≤ 4611686018427387904 := by
 have h1 := Int.natAbs_tdiv_le_natAbs a b
 omega
theorem tmod_bd {a b : Int} (hb : 1 ≤ b) : -b < a.tmod b ∧ a.tmod b < b := ⟨Int.lt_tmod_of_pos a hb, Int.tmod_lt_of_pos a hb⟩
set_option maxHeartbeats 1000000 in
theorem floorP_any (n d : Int) (w : World) (hd : 1 ≤ d ∧ d ≤ 1000000) (h : -3000000000000 ≤ n ∧ n ≤ 3000000000000) :
    Calls Tryz.prog 105 #[.int .i64 n, .int .i64 d] w fun e w' => e = .returned (.int .i64 (n / d)) ∧ w = w' := by
 have hf := flrM_eq (a := n) (b := d) (by omega)
 unfold flrM at hf
 obtain ⟨Z, hZ⟩ : ∃ Z, Z = n / d := ⟨_, rfl⟩
 rw [← hZ] at hf ⊢
 clear hZ
 have hd0 : ¬ d = 0 := by omega
 by_cases hn : n < 0
 ·rw [if_pos hn] at hf
  have hb := tdiv_bd (a := -n + d - 1) hd.1 (by omega)
  have v1 : IntKind.i64.wrap (-n) = -n := IntWalk.i64_in _ (by omega)
  have v2 : IntKind.i64.wrap (-n + d) = -n + d := IntWalk.i64_in _ (by omega)
  have v3 : IntKind.i64.wrap (-n + d - 1) = -n + d - 1 := IntWalk.i64_in _ (by omega)
  have v4 : IntKind.i64.wrap ((-n + d - 1).tdiv d) = (-n + d - 1).tdiv d := IntWalk.i64_in _ (by omega)
  have v5 : IntKind.i64.wrap (-((-n + d - 1).tdiv d)) = -((-n + d - 1).tdiv d) := IntWalk.i64_in _ (by omega)
  have HF := Lib.hid hf
  clear hf hb
  go_enter Tryz.func105, Tryz.ntmps105
  go_wp2_with fail
  go_ret
  exact ⟨by rw [← HF.out]; first | rfl | simp [v1, v2, v3, v4, v5], rfl⟩
 ·rw [if_neg hn] at hf
  have hb := tdiv_bd (a := n) hd.1 (by omega)
  have v4 : IntKind.i64.wrap (n.tdiv d) = n.tdiv d := IntWalk.i64_in _ (by omega)
  have HF := Lib.hid hf
  clear hf hb
  go_enter Tryz.func105, Tryz.ntmps105
  go_wp2_with fail
  go_ret
  exact ⟨by rw [← HF.out]; first | rfl | simp [v4], rfl⟩
set_option maxHeartbeats 1000000 in
theorem modR_any (n d : Int) (w : World) (hd : 1 ≤ d ∧ d ≤ 1000000) (h : -3000000000000 ≤ n ∧ n ≤ 3000000000000) :
    Calls Tryz.prog 164 #[.int .i64 n, .int .i64 d] w fun e w' => e = .returned (.int .i64 (n % d)) ∧ w = w' := by
 have hf := modM_eq (n := n) (m := d) (by omega)
 unfold modM at hf
 obtain ⟨Z, hZ⟩ : ∃ Z, Z = n % d := ⟨_, rfl⟩
 rw [← hZ] at hf ⊢
 clear hZ
 have hd0 : ¬ d = 0 := by omega
 have hb := tmod_bd (a := n) hd.1
 have v1 : IntKind.i64.wrap (n.tmod d) = n.tmod d := IntWalk.i64_in _ (by omega)
 by_cases hn : n.tmod d < 0
 ·rw [if_pos hn] at hf
  have v2 : IntKind.i64.wrap (n.tmod d + d) = n.tmod d + d := IntWalk.i64_in _ (by omega)
  have HF := Lib.hid hf
  clear hf hb
  go_enter Tryz.func164, Tryz.ntmps164
  go_wp2_with fail
  go_ret
  exact ⟨by rw [← HF.out]; first | rfl | simp [v1, v2], rfl⟩
 ·rw [if_neg hn] at hf
  have HF := Lib.hid hf
  clear hf hb
  go_enter Tryz.func164, Tryz.ntmps164
  go_wp2_with fail
  go_ret
  exact ⟨by rw [← HF.out]; first | rfl | simp [v1], rfl⟩
set_option maxHeartbeats 1000000 in
theorem floorR_any (n d : Int) (w : World) (hd : 1 ≤ d ∧ d ≤ 1000000) (h : -2000000000000 ≤ n ∧ n ≤ 2000000000000) :
    Calls Tryz.prog 106 #[.int .i64 n, .int .i64 d] w fun e w' => e = .returned (.int .i64 (n / d)) ∧ w = w' := by
 have HM := Lib.hid (modR_any n d w hd (by omega))
 have hf := floorM_eq (a := n) (b := d) (by omega)
 have h1 := Int.emod_nonneg n (show d ≠ 0 by omega)
 have h2 := Int.emod_lt_of_pos n (show 0 < d by omega)
 obtain ⟨Z, hZ⟩ : ∃ Z, Z = n / d := ⟨_, rfl⟩
 obtain ⟨R, hR⟩ : ∃ R, R = n % d := ⟨_, rfl⟩
 rw [← hR] at HM hf h1 h2
 rw [← hZ] at hf ⊢
 clear hZ hR
 have hd0 : ¬ d = 0 := by omega
 have hb := tdiv_bd (a := n - R) hd.1 (by omega)
 have v1 : IntKind.i64.wrap (n - R) = n - R := IntWalk.i64_in _ (by omega)
 have v4 : IntKind.i64.wrap ((n - R).tdiv d) = (n - R).tdiv d := IntWalk.i64_in _ (by omega)
 have HF := Lib.hid hf
 clear hf hb
 go_enter Tryz.func106, Tryz.ntmps106
 go_wp2_with (go_at_call 164; refine HM.out.mono ?_; rintro e w' ⟨rfl, rfl⟩)
 go_ret
 exact ⟨by rw [← HF.out]; first | rfl | simp [v1, v4], rfl⟩
set_option maxHeartbeats 1000000 in
theorem ceilR_any (n d : Int) (w : World) (hd : 1 ≤ d ∧ d ≤ 1000000) (h : -2000000000000 ≤ n ∧ n ≤ 2000000000000) :
    Calls Tryz.prog 107 #[.int .i64 n, .int .i64 d] w fun e w' => e = .returned (.int .i64 (-(-n / d))) ∧ w = w' := by
 have HM := Lib.hid (floorR_any (-n) d w hd (by omega))
 have hb : -2000000000000 ≤ -n / d ∧ -n / d ≤ 2000000000000 := by
  have h1 : -n / d ≤ 2000000000000 := by
   rcases Int.le_total 0 (-n) with h0 | h0
   ·have := Int.ediv_le_self d h0; omega
   ·have := Int.ediv_le_ediv (show 0 < d by omega) h0; rw [Int.zero_ediv] at this; omega
  have h2 : -2000000000000 ≤ -n / d := by
   refine (Int.le_ediv_iff_mul_le (by omega)).2 ?_
   have : (2000000000000 : Int) * 1 ≤ 2000000000000 * d := Int.mul_le_mul_of_nonneg_left hd.1 (by omega)
   omega
  exact ⟨h2, h1⟩
 obtain ⟨Z, hZ⟩ : ∃ Z, Z = -n / d := ⟨_, rfl⟩
 rw [← hZ] at HM hb ⊢
 clear hZ
 have v1 : IntKind.i64.wrap (-n) = -n := IntWalk.i64_in _ (by omega)
 have v2 : IntKind.i64.wrap (-Z) = -Z := IntWalk.i64_in _ (by omega)
 go_enter Tryz.func107, Tryz.ntmps107
 go_wp2_with (go_at_call 106; refine HM.out.mono ?_; rintro e w' ⟨rfl, rfl⟩)
 go_ret
 exact ⟨by first | rfl | simp [v1, v2], rfl⟩
end Go.Proofs.YtbhgkadklklmbaaGreat
/- The least box about a solid, as the program says it. -/
set_option linter.unusedVariables false
set_option linter.unusedSimpArgs false
namespace Go.Proofs.YtbhgkadklklmbaaGreat
open Go Go.RowKit Go.Sort Go.Lib

/-- A corner of a good solid: its coordinates, its box. -/
structure CoRm (c : Co) : Prop where
 n : 1 ≤ c.n ∧ c.n ≤ 5000
 x : -1500000000 ≤ c.x ∧ c.x ≤ 1500000000
 y : -1500000000 ≤ c.y ∧ c.y ≤ 1500000000
 z : -1500000000 ≤ c.z ∧ c.z ≤ 1500000000
 r : Rm c
theorem corn_coRm {l : List Pl} (h : readE l = 0) : ∀ c ∈ corn l, CoRm c := fun c hc => by
 have hr := List.all_eq_true.1 (readE_zero.1 h).2.2.2.2 c hc
 have hg := good_of (readE_zero.1 h).2.1
 have hn := (corn_low c hc).pos
 have hi := (corn_in hg c hc).2
 have hm := room_rm hn hr
 unfold inRoomB withinB at hr
 simp only [Bool.and_eq_true, decide_eq_true_eq] at hr
 have hl : c.n ≤ 5000 := by omega
 exact ⟨by omega, by omega, by omega, by omega, hm⟩
end Go.Proofs.YtbhgkadklklmbaaGreat
/- The least box about a solid, as the document says it. -/
set_option linter.unusedVariables false
set_option linter.unusedSimpArgs false
namespace Go.Proofs.YtbhgkadklklmbaaGreat
open Go Go.RowKit Go.Sort Go.Lib

theorem belowC {P : Program} {f : FuncId} {vs : Array Value} {w : World} {R : Ending → Prop} (h : Calls P f vs w fun e w' => R e ∧ w = w') : Calls P f vs w fun e w' => R e ∧ Below w.heap.size w w' := h.mono fun e w' ⟨h1, h2⟩ => ⟨h1, h2 ▸ Below.refl _ _⟩
theorem bndO_take {o : Option Box6} {l : List Co} {k : Nat} (hk : k < l.length) : bndO o (l.take (k + 1)) = some (joinB ((bndO o (l.take k)).getD (boxC l[k])) (boxC l[k])) := by
 rw [List.take_succ_eq_append_getElem hk, bndO_append]; rfl
def refs (cells : List Cell) : List Co := cells.flatMap fun x => refP x.planes
theorem refs_take {o : Option Box6} {l : List Cell} {k : Nat} (hk : k < l.length) : bndO o (refs (l.take (k + 1))) = bndO (bndO o (refs (l.take k))) (refP l[k].planes) := by
 unfold refs
 rw [List.take_succ_eq_append_getElem hk, List.flatMap_append, bndO_append]; simp
/-- The boxes of the walk. -/
structure BoSt (gw : Nat) (v0 : Value) (w0 W : World) (A : Box6) : Prop where
 s : W.cell? ⟨gw, 0, none⟩ = some v0
 z : BxC W (gw + 1) box0.at_
 b : BxC W (gw + 2) A.at_
 w : Below w0.heap.size w0 W
 g : w0.heap.size = gw
theorem BoSt.keep {gw : Nat} {v0 : Value} {w0 W W' : World} {A : Box6} (h : BoSt gw v0 w0 W A) (hb : Below W.heap.size W W') : BoSt gw v0 w0 W' A := ⟨cell_keep hb h.s, h.z.keep hb, h.b.keep hb, h.w.trans (hb.mono h.w.size), h.g⟩
theorem set6_off {W : World} {r : Nat} {B : Box6} {b o : Nat} (h : ¬ b = r) : (set6 W r B).cell? ⟨b, o, none⟩ = W.cell? ⟨b, o, none⟩ := by
 unfold set6; rw [cell_set_blk h, cell_set_blk h, cell_set_blk h, cell_set_blk h, cell_set_blk h, cell_set_blk h]
theorem set6_froz {W : World} {r : Nat} {B : Box6} {b o : Nat} : (set6 W r B).frozen? ⟨b, o, none⟩ = W.frozen? ⟨b, o, none⟩ := by
 unfold set6; rw [frozen_set, frozen_set, frozen_set, frozen_set, frozen_set, frozen_set]
theorem BxC.off6 {W : World} {g r : Nat} {f : Nat → Int} (h : BxC W g f) (hn : ¬ g = r) (B : Box6) : BxC (set6 W r B) g f := fun t ht => ⟨by rw [set6_off hn]; exact (h t ht).1, by rw [set6_froz]; exact (h t ht).2⟩
theorem BoSt.put {gw : Nat} {v0 : Value} {w0 W : World} {A : Box6} (h : BoSt gw v0 w0 W A) (B : Box6) : BoSt gw v0 w0 (set6 W (gw + 2) B) B :=
 ⟨by rw [set6_off (by omega)]; exact h.s, h.z.off6 (by omega) B, h.b.put6 B, set6_below h.w (by have := h.g; omega) B, h.g⟩
theorem BoSt.off6 {gw g : Nat} {v0 : Value} {w0 W : World} {A : Box6} (h : BoSt gw v0 w0 W A) (hg : gw + 2 < g) (B : Box6) : BoSt gw v0 w0 (set6 W g B) A :=
 ⟨by rw [set6_off (by omega)]; exact h.s, h.z.off6 (by omega) B, h.b.off6 (by omega) B, set6_below h.w (by have := h.g; omega) B, h.g⟩
theorem cos_set6 {W : World} {r : Nat} {B : Box6} {a : Option Addr} {l : List Co} (h : Cos.V W a l) (hn : ∀ b, blk a = some b → b ≠ r) : Cos.V (set6 W r B) a l := by
 unfold set6
 have key : ∀ (W : World) (t : Nat) (v : Value), Cos.V W a l → Cos.V (W.setCell ⟨r, t, none⟩ v) a l := fun W t v h => h.grown (grownBy_set (a := ⟨r, t, none⟩)) fun b e e' => by injection e' with e'; exact hn b e e'.symm
 exact key _ _ _ (key _ _ _ (key _ _ _ (key _ _ _ (key _ _ _ (key _ _ _ h)))))
theorem solE_ps {cells : List Cell} (h : solE cells = 0) : ∀ x ∈ cells, readE x.planes = 0 := fun x hx => by
 have h1 : chkCs cells = 0 := by unfold solE at h; split at h <;> first | exact h | omega
 exact chkCs_all.1 h1 x hx
set_option maxRecDepth 100000 in
set_option maxHeartbeats 16000000 in
theorem boundsR_any (cells : List Cell) (a : Option Addr) (n : Nat) (w : World) (hcl : cells.length ≤ 9223372036854775807) (hv : Cells.V w a cells) (hso : solE cells = 0) :
    Calls Tryz.prog 49 #[.agg #[.slice a cells.length n]] w fun e w' => e = .returned (.agg #[.int .i64 ((bndO none (refs cells)).getD box0).x1, .int .i64 ((bndO none (refs cells)).getD box0).y1, .int .i64 ((bndO none (refs cells)).getD box0).z1, .int .i64 ((bndO none (refs cells)).getD box0).x2, .int .i64 ((bndO none (refs cells)).getD box0).y2, .int .i64 ((bndO none (refs cells)).getD box0).z2]) ∧ Below w.heap.size w w' := by
 have hmix : Tryz.prog.follows .mixedOrders = true := by kernel_rfl
 have HV := Lib.hid hv
 have HE := Lib.hid (solE_ps hso)
 obtain ⟨T, hT⟩ : ∃ T, T = bndO none (refs cells) := ⟨_, rfl⟩
 have HT := Lib.hid hT
 rw [← hT]
 clear hv hso hT
 go_enter Tryz.func49, Tryz.ntmps49
 go_upto_region 2 with fail
 refine gen_world (fun W => BoSt w.heap.size (.slice a cells.length n) w W box0) ⟨by simp [go_sem], fun t ht => ?_, fun t ht => ?_, by repeat (first | (with_reducible assumption) | exact Below.refl _ _ | (refine Below.setCell ?_ (by first | omega | (simp; omega) | (simp; done)) _) | (refine Below.alloc ?_ (by first | omega | (simp; omega) | (simp; done)) _) | (refine Below.drew ?_)), rfl⟩ ?_
 ·match t, ht with
  | 0, _ | 1, _ | 2, _ | 3, _ | 4, _ | 5, _ => exact ⟨by simp [go_sem]; rfl, by simp [go_sem]⟩
 ·match t, ht with
  | 0, _ | 1, _ | 2, _ | 3, _ | 4, _ | 5, _ => exact ⟨by simp [go_sem]; rfl, by simp [go_sem]⟩
 rintro W hst
 have HS0 := Lib.hid hst
 clear hst
 obtain ⟨gw, hgw⟩ : ∃ g, g = w.heap.size := ⟨_, rfl⟩
 have HGW := Lib.hid hgw
 rw [← hgw] at HS0 ⊢
 clear hgw
 simp only [Nat.add_assoc, Nat.reduceAdd]
 go_wp2_with fail
 go_loopw [4, 5] (fun fv iv wr => ∃ (k : Nat) (o : Option Box6), k ≤ cells.length ∧ fv = .bool o.isNone ∧ iv = .int .i64 (k : Int) ∧ BoSt gw (.slice a cells.length n) w wr (o.getD box0) ∧ Hid (o = bndO none (refs (cells.take k)))) (fun _ iv _ => cells.length - (intOf iv).toNat)
 case atStart => exact ⟨0, none, Nat.zero_le _, rfl, rfl, HS0.out, Lib.hid rfl⟩
 case round =>
  obtain ⟨k, o0, hk, rfl, rfl, hst, HO⟩ := hrel
  have HST := Lib.hid hst
  have b0 := hst.s
  by_cases hlt : k < cells.length
  ·have hki : (k : Int) < (cells.length : Int) := by omega
   obtain ⟨bb, off, rfl, hat⟩ := (HV.out.keep hst.w).at_ hlt
   have HTK := Lib.hid (refs_take (o := none) hlt)
   have HRE := Lib.hid (HE.out _ (List.getElem_mem hlt))
   generalize cells[k] = x at *
   obtain ⟨xa, xc, x0, xv, -⟩ := hat
   rw [Nat.mul_one] at x0
   obtain ⟨ps, hps⟩ : ∃ ps, ps = x.planes := ⟨_, rfl⟩
   rw [← hps] at HTK HRE x0 xv
   have hl16 := (readE_zero.1 HRE.out).1
   have HPT := Lib.hid (pointsR_any ps xa xc wr (good_of (readE_zero.1 HRE.out).2.1) (by omega) xv)
   have HCM := Lib.hid (fun c (hc : c ∈ refP ps) => corn_coRm HRE.out c (mem_refP.1 hc))
   have HCI := Lib.hid (fun c (hc : c ∈ refP ps) => Co.in_.wf (corn_in (good_of (readE_zero.1 HRE.out).2.1) c (mem_refP.1 hc)))
   have hcn : (refP ps).length ≤ 1000000 := by
    rw [(perm_refP ps).length_eq]
    have := corn_len (l := ps) (by omega); omega
   generalize refP ps = cs at *
   clear hst hps xv hl16
   go_upto_region 7 with (go_at_call 31; refine HPT.out.mono ?_; rintro e w1 ⟨ra, rc, rfl, ho, hb⟩; have HO1 := Lib.hid ho; have HS1 := Lib.hid (HST.out.keep hb); have HSZ := Lib.hid hb.size; clear ho hb)
   have HNB := Lib.hid (show ∀ b, blk ra = some b → b ≠ gw + 2 from fun b e => by have h1 := (own_blk_lt HO1.out b e).1; have h2 := HST.out.b.lt; omega)
   have HCV := Lib.hid (show Cos.V w1 ra cs from ownCoV HCI.out HO1.out)
   clear b0 x0
   go_wp2_with fail
   go_loopw [4, 7] (fun fv jv wq => ∃ (j : Nat) (o : Option Box6), j ≤ cs.length ∧ fv = .bool o.isNone ∧ jv = .int .i64 (j : Int) ∧ BoSt gw (.slice (some ⟨bb, off, none⟩) cells.length n) w wq (o.getD box0) ∧ Cos.V wq ra cs ∧ Hid (o = bndO o0 (cs.take j))) (fun _ jv _ => cs.length - (intOf jv).toNat)
   case atStart => exact ⟨0, o0, Nat.zero_le _, rfl, rfl, HS1.out, HCV.out, Lib.hid rfl⟩
   case round =>
    obtain ⟨j, o, hj, rfl, rfl, hst, hcv, HA⟩ := hrel
    have HSA := Lib.hid hst
    have HCA := Lib.hid hcv
    by_cases hjt : j < cs.length
    ·have hji : (j : Int) < (cs.length : Int) := by omega
     obtain ⟨cb, coff, rfl, hcat⟩ := hcv.at_ hjt
     have HTJ := Lib.hid (bndO_take (o := o0) hjt)
     have HCR := Lib.hid (HCM.out _ (List.getElem_mem hjt))
     generalize cs[j] = c at *
     obtain ⟨d0, d1, d2, d3, -⟩ := hcat
     have HTN := Lib.hid (show bndO o0 (cs.take (j + 1)) = some (joinB (o.getD (boxC c)) (boxC c)) by rw [HTJ.out, HA.out])
     obtain ⟨B, hB⟩ : ∃ B, B = boxC c := ⟨_, rfl⟩
     rw [← hB] at HTN
     have HFx := Lib.hid (fun W => belowC (floorR_any c.x c.n W (by have := HCR.out.n; omega) (by have := HCR.out.x; omega)))
     have HGx := Lib.hid (fun W => belowC (ceilR_any c.x c.n W (by have := HCR.out.n; omega) (by have := HCR.out.x; omega)))
     rw [show c.x / c.n = B.x1 from by rw [hB]; rfl] at HFx
     rw [show -(-c.x / c.n) = B.x2 from by rw [hB]; rfl] at HGx
     have HFy := Lib.hid (fun W => belowC (floorR_any c.y c.n W (by have := HCR.out.n; omega) (by have := HCR.out.y; omega)))
     have HGy := Lib.hid (fun W => belowC (ceilR_any c.y c.n W (by have := HCR.out.n; omega) (by have := HCR.out.y; omega)))
     rw [show c.y / c.n = B.y1 from by rw [hB]; rfl] at HFy
     rw [show -(-c.y / c.n) = B.y2 from by rw [hB]; rfl] at HGy
     have HFz := Lib.hid (fun W => belowC (floorR_any c.z c.n W (by have := HCR.out.n; omega) (by have := HCR.out.z; omega)))
     have HGz := Lib.hid (fun W => belowC (ceilR_any c.z c.n W (by have := HCR.out.n; omega) (by have := HCR.out.z; omega)))
     rw [show c.z / c.n = B.z1 from by rw [hB]; rfl] at HFz
     rw [show -(-c.z / c.n) = B.z2 from by rw [hB]; rfl] at HGz
     have hcb := block_lt_of_cell d0
     simp only at hcb
     have HCB := Lib.hid hcb
     clear hB hst hcv hcb
     go_upto_region 11 with fail
     refine gen_world (fun W3 => CoBx W3 wr.heap.size c ∧ Below wr.heap.size wr W3) ⟨⟨by simp [go_sem], by simp [go_sem], by simp [go_sem], by simp [go_sem]⟩, by repeat (first | (with_reducible assumption) | exact Below.refl _ _ | (refine Below.setCell ?_ (by first | omega | (simp; omega) | (simp; done)) _) | (refine Below.alloc ?_ (by first | omega | (simp; omega) | (simp; done)) _) | (refine Below.drew ?_))⟩ ?_
     rintro W3 ⟨⟨q0, q1, q2, q3⟩, hb3⟩
     have HS3 := Lib.hid (HSA.out.keep hb3)
     have HS3SZ := Lib.hid hb3.size
     have HCV3 := Lib.hid (HCA.out.keep hb3)
     generalize wr.heap.size = g10 at *
     clear hb3 d0 d1 d2 d3
     have kx0 : ∀ y : KW (fun W' => Below W3.heap.size W3 W'), (y.w.cell? ⟨g10, 0, none⟩ = some (.int .i64 c.x) ∧ y.w.cell? ⟨g10, 1, none⟩ = some (.int .i64 c.y) ∧ y.w.cell? ⟨g10, 2, none⟩ = some (.int .i64 c.z) ∧ y.w.cell? ⟨g10, 3, none⟩ = some (.int .i64 c.n)) := fun y => ⟨cell_keep y.ok q0, cell_keep y.ok q1, cell_keep y.ok q2, cell_keep y.ok q3⟩
     haveI n1 : Nonempty (KW (fun W' => Below W3.heap.size W3 W')) := ⟨⟨W3, Below.refl _ _⟩⟩
     refine wp_region_gro (fun w' => ∃ y : KW (fun W' => Below W3.heap.size W3 W'), w' = y.w) 32 (.take 0 (.take 1 (.take 2 (.take 3 (.call 4 (.take 5 (.take 6 (.take 7 (.take 8 (.call 9 (.take 10 (.take 11 (.take 12 (.take 13 (.call 14 (.take 15 (.take 16 (.take 17 (.take 18 (.call 19 (.take 20 (.take 21 (.take 22 (.take 23 (.call 24 (.take 25 (.take 26 (.take 27 (.take 28 (.call 29 (.take 30 (.one 31 .done)))))))))))))))))))))))))))))))) hmix (by kernel_rfl) kw_grew (KW.mk' (Below.refl _ _).drew) ?_
     have HC0 := Lib.hid (show Below W3.heap.size W3 W3.drew from (Below.refl _ _).drew)
     generalize W3.drew = ww0 at *
     (refine wpGro_take ?_; simp only [nthOp]; (first | go_big_quiet_step (fail) | quiet_step (fail)); refine wpQuiet_nil ?_)
     (refine wpGro_take ?_; simp only [nthOp]; (first | go_big_quiet_step (fail) | quiet_step (fail)); refine wpQuiet_nil ?_)
     (refine wpGro_take ?_; simp only [nthOp]; (first | go_big_quiet_step (fail) | quiet_step (fail)); refine wpQuiet_nil ?_)
     (refine wpGro_take ?_; simp only [nthOp]; (first | go_big_quiet_step (fail) | quiet_step (fail)); refine wpQuiet_nil ?_)
     apply wpGro_call
     ·intro w1 h1
      simp only [nthOp]
      (first | go_big_quiet_step ((go_at_call 106; exact grew_of (HFx.out _))) | quiet_step ((go_at_call 106; exact grew_of (HFx.out _))))
      exact wpQuiet_nil rfl
     (refine wpGro_take ?_; simp only [nthOp]; (first | go_big_quiet_step (fail) | quiet_step (fail)); refine wpQuiet_nil ?_)
     (refine wpGro_take ?_; simp only [nthOp]; (first | go_big_quiet_step (fail) | quiet_step (fail)); refine wpQuiet_nil ?_)
     (refine wpGro_take ?_; simp only [nthOp]; (first | go_big_quiet_step (fail) | quiet_step (fail)); refine wpQuiet_nil ?_)
     (refine wpGro_take ?_; simp only [nthOp]; (first | go_big_quiet_step (fail) | quiet_step (fail)); refine wpQuiet_nil ?_)
     apply wpGro_call
     ·intro w1 h1
      simp only [nthOp]
      (first | go_big_quiet_step ((go_at_call 106; exact grew_of (HFy.out _))) | quiet_step ((go_at_call 106; exact grew_of (HFy.out _))))
      exact wpQuiet_nil rfl
     (refine wpGro_take ?_; simp only [nthOp]; (first | go_big_quiet_step (fail) | quiet_step (fail)); refine wpQuiet_nil ?_)
     (refine wpGro_take ?_; simp only [nthOp]; (first | go_big_quiet_step (fail) | quiet_step (fail)); refine wpQuiet_nil ?_)
     (refine wpGro_take ?_; simp only [nthOp]; (first | go_big_quiet_step (fail) | quiet_step (fail)); refine wpQuiet_nil ?_)
     (refine wpGro_take ?_; simp only [nthOp]; (first | go_big_quiet_step (fail) | quiet_step (fail)); refine wpQuiet_nil ?_)
     apply wpGro_call
     ·intro w1 h1
      simp only [nthOp]
      (first | go_big_quiet_step ((go_at_call 106; exact grew_of (HFz.out _))) | quiet_step ((go_at_call 106; exact grew_of (HFz.out _))))
      exact wpQuiet_nil rfl
     (refine wpGro_take ?_; simp only [nthOp]; (first | go_big_quiet_step (fail) | quiet_step (fail)); refine wpQuiet_nil ?_)
     (refine wpGro_take ?_; simp only [nthOp]; (first | go_big_quiet_step (fail) | quiet_step (fail)); refine wpQuiet_nil ?_)
     (refine wpGro_take ?_; simp only [nthOp]; (first | go_big_quiet_step (fail) | quiet_step (fail)); refine wpQuiet_nil ?_)
     (refine wpGro_take ?_; simp only [nthOp]; (first | go_big_quiet_step (fail) | quiet_step (fail)); refine wpQuiet_nil ?_)
     apply wpGro_call
     ·intro w1 h1
      simp only [nthOp]
      (first | go_big_quiet_step ((go_at_call 107; exact grew_of (HGx.out _))) | quiet_step ((go_at_call 107; exact grew_of (HGx.out _))))
      exact wpQuiet_nil rfl
     (refine wpGro_take ?_; simp only [nthOp]; (first | go_big_quiet_step (fail) | quiet_step (fail)); refine wpQuiet_nil ?_)
     (refine wpGro_take ?_; simp only [nthOp]; (first | go_big_quiet_step (fail) | quiet_step (fail)); refine wpQuiet_nil ?_)
     (refine wpGro_take ?_; simp only [nthOp]; (first | go_big_quiet_step (fail) | quiet_step (fail)); refine wpQuiet_nil ?_)
     (refine wpGro_take ?_; simp only [nthOp]; (first | go_big_quiet_step (fail) | quiet_step (fail)); refine wpQuiet_nil ?_)
     apply wpGro_call
     ·intro w1 h1
      simp only [nthOp]
      (first | go_big_quiet_step ((go_at_call 107; exact grew_of (HGy.out _))) | quiet_step ((go_at_call 107; exact grew_of (HGy.out _))))
      exact wpQuiet_nil rfl
     (refine wpGro_take ?_; simp only [nthOp]; (first | go_big_quiet_step (fail) | quiet_step (fail)); refine wpQuiet_nil ?_)
     (refine wpGro_take ?_; simp only [nthOp]; (first | go_big_quiet_step (fail) | quiet_step (fail)); refine wpQuiet_nil ?_)
     (refine wpGro_take ?_; simp only [nthOp]; (first | go_big_quiet_step (fail) | quiet_step (fail)); refine wpQuiet_nil ?_)
     (refine wpGro_take ?_; simp only [nthOp]; (first | go_big_quiet_step (fail) | quiet_step (fail)); refine wpQuiet_nil ?_)
     apply wpGro_call
     ·intro w1 h1
      simp only [nthOp]
      (first | go_big_quiet_step ((go_at_call 107; exact grew_of (HGz.out _))) | quiet_step ((go_at_call 107; exact grew_of (HGz.out _))))
      exact wpQuiet_nil rfl
     (refine wpGro_take ?_; simp only [nthOp]; (first | go_big_quiet_step (fail) | quiet_step (fail)); refine wpQuiet_nil ?_)
     apply wpGro_one
     intro wa ha
     simp only [nthOp]
     go_wp2_with fail
     have HA1 := Lib.hid (HC0.out.trans (ha.mono HC0.out.size))
     have HC1 := Lib.hid (HA1.out.alloc HA1.out.size (.cells #[.int .i64 0, .int .i64 0, .int .i64 0, .int .i64 0, .int .i64 0, .int .i64 0] 75))
     have HZ9 := Lib.hid (show BxC (wa.alloc (.cells #[.int .i64 0, .int .i64 0, .int .i64 0, .int .i64 0, .int .i64 0, .int .i64 0] 75)) wa.heap.size box0.at_ from fun t ht => by
      match t, ht with
      | 0, _ | 1, _ | 2, _ | 3, _ | 4, _ | 5, _ => exact ⟨by simp [go_sem]; rfl, by simp [go_sem]⟩)
     have HN9 := Lib.hid (show ¬ wa.heap.size = gw + 2 by have h1 := HA1.out.size; have h2 := HS3.out.b.lt; omega)
     have HN8 := Lib.hid (show cb < wa.heap.size by have h1 := HCB.out; have h2 := HS3SZ.out; have h3 := HA1.out.size; omega)
     have HN7 := Lib.hid (show gw + 2 < wa.heap.size by have h1 := HA1.out.size; have h2 := HS3.out.b.lt; omega)
     refine One_mk (KW.mk' HC1.out) ?_
     generalize (wa.alloc (.cells #[.int .i64 0, .int .i64 0, .int .i64 0, .int .i64 0, .int .i64 0, .int .i64 0] 75)) = wb at *
     generalize wa.heap.size = g9 at *
     clear kx0 n1 q0 q1 q2 q3
     apply wpGro_done
     intro we he
     simp only [List.drop_succ_cons, List.drop_zero]
     have HZE := Lib.hid (HZ9.out.keep he)
     have HSE := Lib.hid ((HS3.out.keep HC1.out).keep he)
     have HCE := Lib.hid ((HCV3.out.keep HC1.out).keep he)
     obtain ⟨z0, zf0⟩ := HZE.out 0 (by decide)
     obtain ⟨z1, zf1⟩ := HZE.out 1 (by decide)
     obtain ⟨z2, zf2⟩ := HZE.out 2 (by decide)
     obtain ⟨z3, zf3⟩ := HZE.out 3 (by decide)
     obtain ⟨z4, zf4⟩ := HZE.out 4 (by decide)
     obtain ⟨z5, zf5⟩ := HZE.out 5 (by decide)
     simp only [Box6.at_, box0] at z0 z1 z2 z3 z4 z5
     go_wp2_with fail
     refine NP_mk ?_
     go_upto_region 12 with fail
     refine gen_world (fun W4 => BxC W4 g9 B.at_ ∧ BoSt gw (.slice (some ⟨bb, off, none⟩) cells.length n) w W4 (o.getD box0) ∧ Cos.V W4 (some ⟨cb, coff, none⟩) cs) ?_ ?_
     ·have h1 := HZE.out.put6 B
      have h2 := HSE.out.off6 HN7.out B
      have h3 := cos_set6 (r := g9) (B := B) HCE.out (fun b e => by cases e; have := HN8.out; simp only; omega)
      unfold set6 at h1 h2 h3
      exact ⟨h1, h2, h3⟩
     rintro W4 ⟨hz, hs, hc4⟩
     have HZ4 := Lib.hid hz
     have HS4 := Lib.hid hs
     have HC4 := Lib.hid hc4
     clear hz hs hc4 z0 zf0 z1 zf1 z2 zf2 z3 zf3 z4 zf4 z5 zf5
     have HGC := Lib.hid (show cb ≠ gw + 2 from HNB.out cb rfl)
     cases o with
     | none =>
      obtain ⟨z0, zf0⟩ := HZ4.out 0 (by decide)
      obtain ⟨z1, zf1⟩ := HZ4.out 1 (by decide)
      obtain ⟨z2, zf2⟩ := HZ4.out 2 (by decide)
      obtain ⟨z3, zf3⟩ := HZ4.out 3 (by decide)
      obtain ⟨z4, zf4⟩ := HZ4.out 4 (by decide)
      obtain ⟨z5, zf5⟩ := HZ4.out 5 (by decide)
      simp only [Box6.at_, box0] at z0 z1 z2 z3 z4 z5
      obtain ⟨a0, af0⟩ := HS4.out.b 0 (by decide)
      obtain ⟨a1, af1⟩ := HS4.out.b 1 (by decide)
      obtain ⟨a2, af2⟩ := HS4.out.b 2 (by decide)
      obtain ⟨a3, af3⟩ := HS4.out.b 3 (by decide)
      obtain ⟨a4, af4⟩ := HS4.out.b 4 (by decide)
      obtain ⟨a5, af5⟩ := HS4.out.b 5 (by decide)
      simp only [Box6.at_, box0] at a0 a1 a2 a3 a4 a5
      go_upto_region 14 with fail
      refine gen_world (fun W5 => BxC W5 g9 B.at_ ∧ BoSt gw (.slice (some ⟨bb, off, none⟩) cells.length n) w W5 B ∧ Cos.V W5 (some ⟨cb, coff, none⟩) cs) ?_ ?_
      ·have h1 := HZ4.out.off6 (r := gw + 2) (fun e => by have := HN7.out; omega) B
       have h2 := HS4.out.put B
       have h3 := cos_set6 (r := gw + 2) (B := B) HC4.out (fun b e => by cases e; exact HGC.out)
       unfold set6 at h1 h2 h3
       exact ⟨h1, h2, h3⟩
      clear z0 zf0 a0 af0 z1 zf1 a1 af1 z2 zf2 a2 af2 z3 zf3 a3 af3 z4 zf4 a4 af4 z5 zf5 a5 af5
      rintro W5 ⟨hz, hs, hc5⟩
      have HZ5 := Lib.hid hz
      have HS5 := Lib.hid hs
      have HC5 := Lib.hid hc5
      clear hz hs hc5
      have HTF := Lib.hid (show some B = bndO o0 (cs.take (j + 1)) by rw [HTN.out]; show some B = some (joinB B B); rw [joinB_self])
      obtain ⟨z0, zf0⟩ := HZ5.out 0 (by decide)
      obtain ⟨z1, zf1⟩ := HZ5.out 1 (by decide)
      obtain ⟨z2, zf2⟩ := HZ5.out 2 (by decide)
      obtain ⟨z3, zf3⟩ := HZ5.out 3 (by decide)
      obtain ⟨z4, zf4⟩ := HZ5.out 4 (by decide)
      obtain ⟨z5, zf5⟩ := HZ5.out 5 (by decide)
      simp only [Box6.at_, box0] at z0 z1 z2 z3 z4 z5
      obtain ⟨a0, af0⟩ := HS5.out.b 0 (by decide)
      obtain ⟨a1, af1⟩ := HS5.out.b 1 (by decide)
      obtain ⟨a2, af2⟩ := HS5.out.b 2 (by decide)
      obtain ⟨a3, af3⟩ := HS5.out.b 3 (by decide)
      obtain ⟨a4, af4⟩ := HS5.out.b 4 (by decide)
      obtain ⟨a5, af5⟩ := HS5.out.b 5 (by decide)
      simp only [Box6.at_, box0] at a0 a1 a2 a3 a4 a5
      skip
      have HBP := Lib.hid (HS5.out.put B)
      have HCP := Lib.hid (cos_set6 (r := gw + 2) (B := B) HC5.out (fun b e => by cases e; exact HGC.out))
      go_wp2_with fail
      have h2 := HBP.out
      have h3 := HCP.out
      unfold set6 at h2 h3
      go_roundw
      case rel => exact ⟨j + 1, some B, by omega, rfl, by go_num, h2, h3, HTF⟩
      case measure => first | (simp [intOf]; done) | (simp [intOf]; omega)
     | some A =>
      go_upto_region 14 with fail
      have HZ5 := HZ4
      have HS5 := HS4
      have HC5 := HC4
      obtain ⟨W5, hW5⟩ : ∃ W5, W5 = W4 := ⟨_, rfl⟩
      subst hW5
      have HTF := Lib.hid (show some (joinB A B) = bndO o0 (cs.take (j + 1)) by rw [HTN.out]; rfl)
      obtain ⟨z0, zf0⟩ := HZ5.out 0 (by decide)
      obtain ⟨z1, zf1⟩ := HZ5.out 1 (by decide)
      obtain ⟨z2, zf2⟩ := HZ5.out 2 (by decide)
      obtain ⟨z3, zf3⟩ := HZ5.out 3 (by decide)
      obtain ⟨z4, zf4⟩ := HZ5.out 4 (by decide)
      obtain ⟨z5, zf5⟩ := HZ5.out 5 (by decide)
      simp only [Box6.at_, box0] at z0 z1 z2 z3 z4 z5
      obtain ⟨a0, af0⟩ := HS5.out.b 0 (by decide)
      obtain ⟨a1, af1⟩ := HS5.out.b 1 (by decide)
      obtain ⟨a2, af2⟩ := HS5.out.b 2 (by decide)
      obtain ⟨a3, af3⟩ := HS5.out.b 3 (by decide)
      obtain ⟨a4, af4⟩ := HS5.out.b 4 (by decide)
      obtain ⟨a5, af5⟩ := HS5.out.b 5 (by decide)
      simp only [Box6.at_, box0] at a0 a1 a2 a3 a4 a5
      simp only [Option.getD_some] at a0 a1 a2 a3 a4 a5
      have HBP := Lib.hid (HS5.out.put (joinB A B))
      have HCP := Lib.hid (cos_set6 (r := gw + 2) (B := (joinB A B)) HC5.out (fun b e => by cases e; exact HGC.out))
      go_wp2_with fail
      have h2 := HBP.out
      have h3 := HCP.out
      unfold set6 at h2 h3
      simp only [joinB] at h2 h3
      go_roundw
      case rel => exact ⟨j + 1, some (joinB A B), by omega, rfl, by go_num, h2, h3, HTF⟩
      case measure => first | (simp [intOf]; done) | (simp [intOf]; omega)
    ·obtain rfl : j = cs.length := by omega
     have hji : ¬ ((cs.length : Nat) : Int) < ((cs.length : Nat) : Int) := by omega
     have HAE := Lib.hid (show o = bndO none (refs (cells.take (k + 1))) by rw [HA.out, List.take_length, HO.out, HTK.out])
     clear hst hcv
     go_wp2_with fail
     go_roundw
     case rel => exact ⟨k + 1, o, by omega, rfl, by go_num, HSA.out, HAE⟩
     case measure => first | (simp [intOf]; done) | (simp [intOf]; omega)
  ·obtain rfl : k = cells.length := by omega
   have hki : ¬ ((cells.length : Nat) : Int) < ((cells.length : Nat) : Int) := by omega
   have HAE := Lib.hid (show T = o0 by rw [HT.out, HO.out, List.take_length])
   obtain ⟨A, hA⟩ : ∃ A, A = o0.getD box0 := ⟨_, rfl⟩
   rw [← hA] at HST
   have HAV := Lib.hid hA
   clear hst hA
   obtain ⟨a0, af0⟩ := HST.out.b 0 (by decide)
   obtain ⟨a1, af1⟩ := HST.out.b 1 (by decide)
   obtain ⟨a2, af2⟩ := HST.out.b 2 (by decide)
   obtain ⟨a3, af3⟩ := HST.out.b 3 (by decide)
   obtain ⟨a4, af4⟩ := HST.out.b 4 (by decide)
   obtain ⟨a5, af5⟩ := HST.out.b 5 (by decide)
   simp only [Box6.at_, box0] at a0 a1 a2 a3 a4 a5
   obtain ⟨z0, zf0⟩ := HST.out.z 0 (by decide)
   obtain ⟨z1, zf1⟩ := HST.out.z 1 (by decide)
   obtain ⟨z2, zf2⟩ := HST.out.z 2 (by decide)
   obtain ⟨z3, zf3⟩ := HST.out.z 3 (by decide)
   obtain ⟨z4, zf4⟩ := HST.out.z 4 (by decide)
   obtain ⟨z5, zf5⟩ := HST.out.z 5 (by decide)
   simp only [Box6.at_, box0] at z0 z1 z2 z3 z4 z5
   go_wp2_with fail
   obtain ⟨s0, s1, s2, s3, s4, s5⟩ := HST.out.z.six A
   have hb := set6_below HST.out.w (r := gw + 1) (by have := HST.out.g; omega) A
   unfold set6 at s0 s1 s2 s3 s4 s5 hb
   generalize ((((((wr.setCell ⟨gw + 1, 0, none⟩ (.int .i64 A.x1)).setCell ⟨gw + 1, 1, none⟩ (.int .i64 A.y1)).setCell ⟨gw + 1, 2, none⟩ (.int .i64 A.z1)).setCell ⟨gw + 1, 3, none⟩ (.int .i64 A.x2)).setCell ⟨gw + 1, 4, none⟩ (.int .i64 A.y2)).setCell ⟨gw + 1, 5, none⟩ (.int .i64 A.z2)) = WF at s0 s1 s2 s3 s4 s5 hb ⊢
   refine bodyPost_ret (v := .agg #[.int .i64 A.x1, .int .i64 A.y1, .int .i64 A.z1, .int .i64 A.x2, .int .i64 A.y2, .int .i64 A.z2]) ?_ ?_ ?_
   ·simp [results, Tryz.results49, go_sem, s0, s1, s2, s3, s4, s5]
   ·rfl
   ·exact ⟨by rw [HAE.out, ← HAV.out], hb⟩
end Go.Proofs.YtbhgkadklklmbaaGreat
