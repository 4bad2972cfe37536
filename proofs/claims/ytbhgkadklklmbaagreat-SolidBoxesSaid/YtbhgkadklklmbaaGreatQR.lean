/- Division rounded, of the program and of the document. -/
import Derived.Test.YtbhgkadklklmbaaGreatQB
import Derived.Test.YtbhgkadklklmbaaGreatQK
import Derived.Test.YtbhgkadklklmbaaGreatQM
import Derived.Test.YtbhgkadklklmbaaGreatQG
import Derived.Test.YtbhgkadklklmbaaGreatQF
import Derived.Test.YtbhgkadklklmbaaGreatQN
import Derived.Test.YtbhgkadklklmbaaGreatQO
set_option linter.unusedVariables false
set_option linter.unusedSimpArgs false
namespace Go.Proofs.YtbhgkadklklmbaaGreat
open Go Go.RowKit

theorem tdiv_bd {a b : Int} (hb : 1 ≤ b) (h : -4611686018427387904 ≤ a ∧ a ≤ 4611686018427387904) : -4611686018427387904 ≤ a.tdiv b ∧ a.tdiv b ≤ 4611686018427387904 := by
 have h1 := Int.natAbs_tdiv_le_natAbs a b
 omega
set_option maxHeartbeats 1000000 in
theorem floorP_any (n d : Int) (w : World) (hd : 1 ≤ d ∧ d ≤ 1000000) (h : -3000000000000 ≤ n ∧ n ≤ 3000000000000) :
    Calls Tryz.prog 105 #[.int .i64 n, .int .i64 d] w fun e w' => e = .returned (.int .i64 (n / d)) ∧ w = w' := by
 have hf := flrM_eq (a := n) (b := d) (by omega)
 unfold flrM at hf
 obtain ⟨Z, hZ⟩ : ∃ Z, Z = n / d := ⟨_, rfl⟩
 rw [← hZ] at hf ⊢
 clear hZ
 have hd0 : ¬ d = 0 := by omega
 by_cases hn : n < 0
 ·rw [if_pos hn] at hf
  have hb := tdiv_bd (a := -n + d - 1) hd.1 (by omega)
  have v1 : IntKind.i64.wrap (-n) = -n := IntWalk.i64_in _ (by omega)
  have v2 : IntKind.i64.wrap (-n + d) = -n + d := IntWalk.i64_in _ (by omega)
  have v3 : IntKind.i64.wrap (-n + d - 1) = -n + d - 1 := IntWalk.i64_in _ (by omega)
  have v4 : IntKind.i64.wrap ((-n + d - 1).tdiv d) = (-n + d - 1).tdiv d := IntWalk.i64_in _ (by omega)
  have v5 : IntKind.i64.wrap (-((-n + d - 1).tdiv d)) = -((-n + d - 1).tdiv d) := IntWalk.i64_in _ (by omega)
  have HF := Lib.hid hf
  clear hf hb
  go_enter Tryz.func105, Tryz.ntmps105
  go_wp2_with fail
  go_ret
  exact ⟨by rw [← HF.out]; first | rfl | simp [v1, v2, v3, v4, v5], rfl⟩
 ·rw [if_neg hn] at hf
  have hb := tdiv_bd (a := n) hd.1 (by omega)
  have v4 : IntKind.i64.wrap (n.tdiv d) = n.tdiv d := IntWalk.i64_in _ (by omega)
  have HF := Lib.hid hf
  clear hf hb
  go_enter Tryz.func105, Tryz.ntmps105
  go_wp2_with fail
  go_ret
  exact ⟨by rw [← HF.out]; first | rfl | simp [v4], rfl⟩
end Go.Proofs.YtbhgkadklklmbaaGreat
/- The least box about a solid, as the program says it. -/
set_option linter.unusedVariables false
set_option linter.unusedSimpArgs false
namespace Go.Proofs.YtbhgkadklklmbaaGreat
open Go Go.RowKit Go.Sort Go.Lib

/-- A corner of a good solid: its coordinates, its box. -/
structure CoRm (c : Co) : Prop where
 n : 1 ≤ c.n ∧ c.n ≤ 5000
 x : -1500000000 ≤ c.x ∧ c.x ≤ 1500000000
 y : -1500000000 ≤ c.y ∧ c.y ≤ 1500000000
 z : -1500000000 ≤ c.z ∧ c.z ≤ 1500000000
 r : Rm c
theorem corn_coRm {l : List Pl} (h : readE l = 0) : ∀ c ∈ corn l, CoRm c := fun c hc => by
 have hr := List.all_eq_true.1 (readE_zero.1 h).2.2.2.2 c hc
 have hg := good_of (readE_zero.1 h).2.1
 have hn := (corn_low c hc).pos
 have hi := (corn_in hg c hc).2
 have hm := room_rm hn hr
 unfold inRoomB withinB at hr
 simp only [Bool.and_eq_true, decide_eq_true_eq] at hr
 have hl : c.n ≤ 5000 := by omega
 exact ⟨by omega, by omega, by omega, by omega, hm⟩
def bdE (cells : List Cell) : Int := if solE cells ≠ 0 then solE cells else if cells.length = 0 then 12 else 0
def crns (cells : List Cell) : List Co := cells.flatMap fun x => corn x.planes
def bdV (cells : List Cell) : Box6 := if bdE cells = 0 then bndF far6 (crns cells) else box0
theorem CoBx.off {W : World} {g r k : Nat} {c : Co} (h : CoBx W r c) (hg : r ≠ g) (v : Value) : CoBx (W.setCell ⟨g, k, none⟩ v) r c :=
 ⟨by rw [cell_set_other (by simpa using hg.symm)]; exact h.a, by rw [cell_set_other (by simpa using hg.symm)]; exact h.b, by rw [cell_set_other (by simpa using hg.symm)]; exact h.c, by rw [cell_set_other (by simpa using hg.symm)]; exact h.d⟩
/-- The box under way. -/
structure BdSt (g : Nat) (w0 W : World) (B : Box6) : Prop where
 b : BxC W g B.at_
 w : Below w0.heap.size w0 W
 g : w0.heap.size ≤ g
theorem BdSt.keep {g : Nat} {w0 W W' : World} {B : Box6} (h : BdSt g w0 W B) (hb : Below W.heap.size W W') : BdSt g w0 W' B := ⟨h.b.keep hb, h.w.trans (hb.mono h.w.size), h.g⟩
theorem BdSt.set {g k : Nat} {w0 W : World} {B B' : Box6} (h : BdSt g w0 W B) (hk : k < 6) (hf : ∀ t, t < 6 → t ≠ k → B'.at_ t = B.at_ t) : BdSt g w0 (W.setCell ⟨g, k, none⟩ (.int .i64 (B'.at_ k))) B' :=
 ⟨h.b.set hk hf, h.w.setCell h.g _, h.g⟩
theorem bndF_take {A : Box6} {l : List Co} {k : Nat} (hk : k < l.length) : bndF A (l.take (k + 1)) = joinB (bndF A (l.take k)) (boxC l[k]) := by
 rw [List.take_succ_eq_append_getElem hk, bndF_append]; rfl
theorem crn_take {A : Box6} {l : List BR} {k : Nat} (hk : k < l.length) : bndF A ((l.take (k + 1)).flatMap fun r => corn r.ps) = bndF (bndF A ((l.take k).flatMap fun r => corn r.ps)) (corn l[k].ps) := by
 rw [List.take_succ_eq_append_getElem hk, List.flatMap_append, bndF_append]; simp
set_option maxRecDepth 100000 in
set_option maxHeartbeats 16000000 in
theorem bounds_any (cells : List Cell) (a : Option Addr) (c : Nat) (w : World) (hcl : cells.length ≤ 9223372036854775807) (hv : Cells.V w a cells) (hpl : ∀ x ∈ cells, x.planes.length ≤ 1000000) :
    Calls Tryz.prog 47 #[.agg #[.slice a cells.length c]] w fun e w' => e = .returned (.tuple #[.agg #[.int .i64 (bdV cells).x1, .int .i64 (bdV cells).y1, .int .i64 (bdV cells).z1, .int .i64 (bdV cells).x2, .int .i64 (bdV cells).y2, .int .i64 (bdV cells).z2], .int .i64 (bdE cells)]) ∧ Below w.heap.size w w' := by
 have hmix : Tryz.prog.follows .mixedOrders = true := by kernel_rfl
 have HT := Lib.hid (fun W (h : Below w.heap.size w W) => bodies_any cells a c W hcl (hv.keep h) hpl)
 obtain ⟨M, hM⟩ : ∃ M, M = bdE cells := ⟨_, rfl⟩
 obtain ⟨T, hT⟩ : ∃ T, T = bdV cells := ⟨_, rfl⟩
 rw [← hM, ← hT]
 have HM := Lib.hid (show M = if solE cells ≠ 0 then solE cells else if cells.length = 0 then 12 else 0 from hM)
 have HTV := Lib.hid (show T = if M = 0 then bndF far6 (crns cells) else box0 by rw [hT, hM]; rfl)
 have HCA := Lib.hid (chkCs_all (l := cells))
 have HSO := Lib.hid (show solE cells = 0 → chkCs cells = 0 from fun h => by unfold solE at h; split at h <;> first | exact h | omega)
 clear hv hpl hcl hM hT
 go_enter Tryz.func47, Tryz.ntmps47
 go_upto_region 1 with fail
 refine gen_world (fun W => W.cell? ⟨w.heap.size, 0, none⟩ = some (.slice a cells.length c) ∧ BxC W (w.heap.size + 1) box0.at_ ∧ Below w.heap.size w W) ⟨by simp [go_sem], fun t ht => ?_, by repeat (first | (with_reducible assumption) | exact Below.refl _ _ | (refine Below.setCell ?_ (by first | omega | (simp; omega) | (simp; done)) _) | (refine Below.alloc ?_ (by first | omega | (simp; omega) | (simp; done)) _) | (refine Below.drew ?_))⟩ ?_
 ·match t, ht with
  | 0, _ | 1, _ | 2, _ | 3, _ | 4, _ | 5, _ => exact ⟨by simp [go_sem]; rfl, by simp [go_sem]⟩
 rintro W ⟨b0, hz, hb⟩
 have HB0 := Lib.hid hb
 have HZ0 := Lib.hid hz
 have HTW := Lib.hid (HT.out W hb)
 clear hb hz
 go_upto_region 2 with (go_at_call 98; refine HTW.out.mono ?_; rintro e w2 ⟨v, rfl, hb, hr⟩; have HB1 := Lib.hid hb; obtain ⟨va, vn, vc, rfl⟩ := hr.shape; have HP := Lib.hid hr; clear hb hr)
 have HBW1 := Lib.hid (HB0.out.trans (HB1.out.mono HB0.out.size))
 have HZ2 := Lib.hid (HZ0.out.keep HB1.out)
 clear b0
 by_cases h0 : solE cells = 0
 ·obtain ⟨L, hL1, hL2⟩ := HP.out.2 h0
  obtain ⟨e1, hbx⟩ := bods_of h0 hL1 hL2
  subst e1
  have HX := Lib.hid (show L.map (·.ps) = cells.map (·.planes) from hL1.ps)
  have HRE := Lib.hid (show ∀ r ∈ L, ∀ c ∈ corn r.ps, CoRm c from fun r hr => by
   have : r.ps ∈ cells.map (·.planes) := by rw [← HX.out]; exact List.mem_map.2 ⟨r, hr, rfl⟩
   obtain ⟨x, hx, e⟩ := List.mem_map.1 this
   rw [← e]; exact corn_coRm (HCA.out.1 (HSO.out h0) x hx))
  have HBX := Lib.hid hbx
  have hll := hbx.l
  have HLC := Lib.hid (show L.length = cells.length by have := congrArg List.length HX.out; simpa using this)
  have HCR := Lib.hid (show crns cells = L.flatMap fun r => corn r.ps by
   have : crns cells = (cells.map (·.planes)).flatMap corn := by unfold crns; rw [List.flatMap_map]
   rw [this, ← HX.out, List.flatMap_map])
  have HM2 := Lib.hid (show M = if L.length = 0 then 12 else 0 by rw [HM.out, if_neg (by simpa using h0), HLC.out])
  rw [h0]
  clear hL1 hL2 h0 HP HT HTW HM HCA HSO hbx
  by_cases hne : L.length = 0
  ·have HM3 := Lib.hid (show M = 12 by rw [HM2.out, if_pos hne])
   have HT3 := Lib.hid (show T = box0 by rw [HTV.out, HM3.out, if_neg (by decide)])
   obtain ⟨z0, f0⟩ := HZ2.out 0 (by decide)
   obtain ⟨z1, f1⟩ := HZ2.out 1 (by decide)
   obtain ⟨z2, f2⟩ := HZ2.out 2 (by decide)
   obtain ⟨z3, f3⟩ := HZ2.out 3 (by decide)
   obtain ⟨z4, f4⟩ := HZ2.out 4 (by decide)
   obtain ⟨z5, f5⟩ := HZ2.out 5 (by decide)
   simp only [Box6.at_, box0] at z0 z1 z2 z3 z4 z5
   rw [hne]
   go_wp2_with fail
   obtain ⟨s0, s1, s2, s3, s4, s5⟩ := HZ2.out.six box0
   have hb := set6_below HBW1.out (r := w.heap.size + 1) (Nat.le_succ _) box0
   unfold set6 at s0 s1 s2 s3 s4 s5 hb
   simp only [box0] at s0 s1 s2 s3 s4 s5 hb
   generalize ((((((w2.setCell ⟨w.heap.size + 1, 0, none⟩ (.int .i64 0)).setCell ⟨w.heap.size + 1, 1, none⟩ (.int .i64 0)).setCell ⟨w.heap.size + 1, 2, none⟩ (.int .i64 0)).setCell ⟨w.heap.size + 1, 3, none⟩ (.int .i64 0)).setCell ⟨w.heap.size + 1, 4, none⟩ (.int .i64 0)).setCell ⟨w.heap.size + 1, 5, none⟩ (.int .i64 0)) = WF at s0 s1 s2 s3 s4 s5 hb ⊢
   refine bodyPost_ret (v := .tuple #[.agg #[.int .i64 0, .int .i64 0, .int .i64 0, .int .i64 0, .int .i64 0, .int .i64 0], .int .i64 12]) ?_ ?_ ?_
   ·simp [results, Tryz.results47, go_sem, s0, s1, s2, s3, s4, s5]
   ·rfl
   ·exact ⟨by rw [HM3.out, HT3.out]; rfl, hb⟩
  ·have HM3 := Lib.hid (show M = 0 by rw [HM2.out, if_neg hne])
   have HT3 := Lib.hid (show T = bndF far6 (L.flatMap fun r => corn r.ps) by rw [HTV.out, if_pos HM3.out, HCR.out])
   clear HTV HM2 HCR
   have hz9 : ((L.length : Int) == 0) = false := by simpa using hne
   go_upto_region 7 with fail
   have HSt := Lib.hid (show BdSt w2.heap.size w2 (w2.alloc (.cells #[.int .i64 300000, .int .i64 300000, .int .i64 300000, .int .i64 (-300000), .int .i64 (-300000), .int .i64 (-300000)] 75)) far6 from
    ⟨fun t ht => by
     match t, ht with
     | 0, _ | 1, _ | 2, _ | 3, _ | 4, _ | 5, _ => exact ⟨by simp [go_sem]; rfl, by simp [go_sem]⟩, (Below.refl _ _).alloc (Nat.le_refl _) _, Nat.le_refl _⟩)
   refine gen_world (fun W => BdSt w2.heap.size w2 W far6) HSt.out ?_
   rintro W6 hs6
   have HS6 := Lib.hid hs6
   clear hs6 HSt
   obtain ⟨g6, hg6⟩ : ∃ g, g = w2.heap.size := ⟨_, rfl⟩
   rw [← hg6] at HS6 ⊢
   have HG6 := Lib.hid hg6
   clear hg6
   go_wp2_with fail
   go_loopw [29] (fun iv wr => ∃ (k : Nat) (A : Box6), k ≤ L.length ∧ iv = .int .i64 (k : Int) ∧ BdSt g6 w2 wr A ∧ Hid (A = bndF far6 ((L.take k).flatMap fun r => corn r.ps))) (fun iv _ => L.length - (intOf iv).toNat)
   case atStart => exact ⟨0, far6, Nat.zero_le _, rfl, HS6.out, Lib.hid rfl⟩
   case round =>
    obtain ⟨k, A0, hk, rfl, hst, HA0⟩ := hrel
    have HST := Lib.hid hst
    by_cases hlt : k < L.length
    ·have hki : (k : Int) < (L.length : Int) := by omega
     obtain ⟨b1, off, rfl, hat⟩ := (HBX.out.v.keep hst.w).at_ hlt
     have HBG := Lib.hid (HBX.out.b _ (List.getElem_mem hlt)).1
     have HTK := Lib.hid (crn_take (A := far6) hlt)
     have HRM := Lib.hid (HRE.out _ (List.getElem_mem hlt))
     generalize L[k] = r at *
     obtain ⟨c0, c1⟩ := hat
     have HCV := Lib.hid HBG.out.cos
     have hcl := HBG.out.cl
     generalize corn r.ps = cs at *
     obtain ⟨rca, hrca⟩ : ∃ x, x = r.ca := ⟨_, rfl⟩
     rw [← hrca] at HCV c1
     clear hst hrca
     go_upto_region 10 with fail
     refine gen_world (fun W2 => W2.cell? ⟨wr.heap.size, 1, none⟩ = some (.slice rca cs.length r.cc) ∧ Below wr.heap.size wr W2) ⟨by simp [go_sem], by repeat (first | (with_reducible assumption) | exact Below.refl _ _ | (refine Below.setCell ?_ (by first | omega | (simp; omega) | (simp; done)) _) | (refine Below.alloc ?_ (by first | omega | (simp; omega) | (simp; done)) _) | (refine Below.drew ?_))⟩ ?_
     rintro W8 ⟨x1, hb8⟩
     have HS8 := Lib.hid (HST.out.keep hb8)
     clear hb8 c0 c1
     go_wp2_with fail
     go_loopw [36] (fun jv wq => ∃ (j : Nat) (A : Box6), j ≤ cs.length ∧ jv = .int .i64 (j : Int) ∧ BdSt g6 w2 wq A ∧ Hid (A = bndF A0 (cs.take j))) (fun jv _ => cs.length - (intOf jv).toNat)
     case atStart => exact ⟨0, A0, Nat.zero_le _, rfl, HS8.out, Lib.hid rfl⟩
     case round =>
      obtain ⟨j, A, hj, rfl, hst, HA⟩ := hrel
      have HSA := Lib.hid hst
      have hcv := HCV.out.keep hst.w
      by_cases hjt : j < cs.length
      ·have hji : (j : Int) < (cs.length : Int) := by omega
       obtain ⟨cb, coff, rfl, hcat⟩ := hcv.at_ hjt
       have HTJ := Lib.hid (bndF_take (A := A0) hjt)
       have HCR := Lib.hid (HRM.out _ (List.getElem_mem hjt))
       generalize cs[j] = c at *
       obtain ⟨d0, d1, d2, d3, -⟩ := hcat
       have HFx := Lib.hid (fun W => floorP_any c.x c.n W (by have := HCR.out.n; omega) (by have := HCR.out.x; omega))
       have HGx := Lib.hid (fun W => floorP_any (-c.x) c.n W (by have := HCR.out.n; omega) (by have := HCR.out.x; omega))
       have HFy := Lib.hid (fun W => floorP_any c.y c.n W (by have := HCR.out.n; omega) (by have := HCR.out.y; omega))
       have HGy := Lib.hid (fun W => floorP_any (-c.y) c.n W (by have := HCR.out.n; omega) (by have := HCR.out.y; omega))
       have HFz := Lib.hid (fun W => floorP_any c.z c.n W (by have := HCR.out.n; omega) (by have := HCR.out.z; omega))
       have HGz := Lib.hid (fun W => floorP_any (-c.z) c.n W (by have := HCR.out.n; omega) (by have := HCR.out.z; omega))
       have HJB := Lib.hid (show boxC c = ⟨c.x / c.n, c.y / c.n, c.z / c.n, -(-c.x / c.n), -(-c.y / c.n), -(-c.z / c.n)⟩ from rfl)
       obtain ⟨rx, ry, rz⟩ := HCR.out.r
       unfold boxC at rx ry rz
       simp only at rx ry rz
       have hcx := HCR.out.x
       have hcy := HCR.out.y
       have hcz := HCR.out.z
       generalize c.x / c.n = Zx at *
       generalize c.y / c.n = Zy at *
       generalize c.z / c.n = Zz at *
       generalize -c.x / c.n = Yx at *
       generalize -c.y / c.n = Yy at *
       generalize -c.z / c.n = Yz at *
       have vx1 : IntKind.i64.wrap (-c.x) = -c.x := IntWalk.i64_in _ (by omega)
       have vy1 : IntKind.i64.wrap (-c.y) = -c.y := IntWalk.i64_in _ (by omega)
       have vz1 : IntKind.i64.wrap (-c.z) = -c.z := IntWalk.i64_in _ (by omega)
       have vx2 : IntKind.i64.wrap (-Yx) = -Yx := IntWalk.i64_in _ (by omega)
       have vy2 : IntKind.i64.wrap (-Yy) = -Yy := IntWalk.i64_in _ (by omega)
       have vz2 : IntKind.i64.wrap (-Yz) = -Yz := IntWalk.i64_in _ (by omega)
       clear hst hcv hcx hcy hcz rx ry rz
       have HLT := HSA.out.b.lt
       go_upto_region 13 with fail
       refine gen_world (fun W3 => CoBx W3 wr.heap.size c ∧ Below wr.heap.size wr W3) ⟨⟨by simp [go_sem], by simp [go_sem], by simp [go_sem], by simp [go_sem]⟩, by repeat (first | (with_reducible assumption) | exact Below.refl _ _ | (refine Below.setCell ?_ (by first | omega | (simp; omega) | (simp; done)) _) | (refine Below.alloc ?_ (by first | omega | (simp; omega) | (simp; done)) _) | (refine Below.drew ?_))⟩ ?_
       rintro W3 ⟨hcx3, hb3⟩
       have HCX3 := Lib.hid hcx3
       have HS3 := Lib.hid (HSA.out.keep hb3)
       have HNG := Lib.hid (show wr.heap.size ≠ g6 by omega)
       generalize wr.heap.size = g10 at *
       clear hcx3 hb3 d0 d1 d2 d3 x1
       go_upto_region 13 with fail
       have kx1 : ∀ y : KW (fun W' => BxC W' g6 A.at_ ∧ CoBx W' g10 c), y.w.cell? ⟨g6, 0, none⟩ = some (.int .i64 A.x1) ∧ y.w.cell? ⟨g6, 3, none⟩ = some (.int .i64 A.x2) ∧ y.w.cell? ⟨g10, 0, none⟩ = some (.int .i64 c.x) ∧ y.w.cell? ⟨g10, 3, none⟩ = some (.int .i64 c.n) := fun y => ⟨(y.ok.1 0 (by decide)).1, (y.ok.1 3 (by decide)).1, y.ok.2.a, y.ok.2.d⟩
       have kx2 : ∀ y : KW (fun W' => CoBx W' g10 c), y.w.cell? ⟨g10, 0, none⟩ = some (.int .i64 c.x) ∧ y.w.cell? ⟨g10, 3, none⟩ = some (.int .i64 c.n) := fun y => ⟨y.ok.a, y.ok.d⟩
       haveI n1 : Nonempty (KW (fun W' => BxC W' g6 A.at_ ∧ CoBx W' g10 c)) := ⟨⟨W3, HS3.out.b, HCX3.out⟩⟩
       haveI n2 : Nonempty (KW (fun W' => CoBx W' g10 c)) := ⟨⟨W3, HCX3.out⟩⟩
       refine wp_region_odr [(1, (fun w' => ∃ y : KW (fun W' => BxC W' g6 A.at_ ∧ CoBx W' g10 c), w' = y.w)), (3, (fun w' => ∃ y : KW (fun W' => BxC W' g6 A.at_ ∧ CoBx W' g10 c), w' = y.w)), (5, (fun w' => ∃ y : KW (fun W' => BxC W' g6 A.at_ ∧ CoBx W' g10 c), w' = y.w)), (9, (fun w' => ∃ y : KW (fun W' => BxC W' g6 A.at_ ∧ CoBx W' g10 c), w' = y.w)), (11, (fun w' => ∃ y : KW (fun W' => CoBx W' g10 c), w' = y.w)), (14, (fun w' => ∃ y : KW (fun W' => CoBx W' g10 c), w' = y.w))] [1, 3, 5, 9, 11, 14] 20 (.take 0 (.take 1 (.take 2 (.take 3 (.take 4 (.take 5 (.take 8 (.take 9 (.take 10 (.take 11 (.take 12 (.take 13 (.take 14 (.one 6 [1, 9, 11, 14] (.take 7 (.take 18 (.one 15 [1, 3, 5, 9, 11] (.take 16 (.take 17 (.one 19 [11, 14] .done)))))))))))))))))))) rfl hmix (by kernel_rfl) ?_
       have HS4 := Lib.hid (HS3.out.keep (Below.refl _ _).drew)
       have HK1 := Lib.hid (show BxC W3.drew g6 A.at_ ∧ CoBx W3.drew g10 c from ⟨HS4.out.b, HCX3.out.keep (Below.refl _ _).drew⟩)
       have HK2 := Lib.hid (show CoBx W3.drew g10 c from HK1.out.2)
       generalize W3.drew = W4 at *
       repeat (refine wpOdr_take (by first | exact trivial | exact KW.mk' HK1.out | exact KW.mk' HK2.out) ?_; simp only [nthOp]; (first | go_big_quiet_step (fail) | quiet_step (fail)); refine wpQuiet_nil ?_)
       refine wpOdr_one ?_
       simp only [nthOp]
       go_wp2_with (go_at_call 105; refine (HFx.out _).mono ?_; rintro e w' ⟨rfl, rfl⟩)
       refine One_odr (by repeat (first | exact Obl.nil | (refine Obl.out rfl ?_) | (refine Obl.in (KW.mk' HK1.out) ?_) | (refine Obl.in (KW.mk' HK2.out) ?_))) ?_
       repeat (refine wpOdr_take (by first | exact trivial | exact KW.mk' HK1.out | exact KW.mk' HK2.out) ?_; simp only [nthOp]; (first | go_big_quiet_step (fail) | quiet_step (fail)); refine wpQuiet_nil ?_)
       refine wpOdr_one ?_
       simp only [nthOp]
       go_wp2_with (go_at_call 105; refine (HGx.out _).mono ?_; rintro e w' ⟨rfl, rfl⟩)
       refine One_odr (by repeat (first | exact Obl.nil | (refine Obl.out rfl ?_) | (refine Obl.in (KW.mk' HK1.out) ?_) | (refine Obl.in (KW.mk' HK2.out) ?_))) ?_
       repeat (refine wpOdr_take (by first | exact trivial | exact KW.mk' HK1.out | exact KW.mk' HK2.out) ?_; simp only [nthOp]; (first | go_big_quiet_step (fail) | quiet_step (fail)); refine wpQuiet_nil ?_)
       refine wpOdr_one ?_
       simp only [nthOp]
       obtain ⟨y0, f0⟩ := HS4.out.b 0 (by decide)
       obtain ⟨y1, f1⟩ := HS4.out.b 3 (by decide)
       simp only [Box6.at_] at y0 y1
       go_wp2_with fail
       have HSX := Lib.hid (HS4.out.set (k := 0) (B' := { A with x1 := min A.x1 Zx }) (by decide) (fun t ht e => by match t, ht, e with | 0, _, e | 1, _, e | 2, _, e | 3, _, e | 4, _, e | 5, _, e => first | rfl | exact absurd rfl e))
       have HKX := Lib.hid (HK2.out.off (k := 0) HNG.out (.int .i64 (min A.x1 Zx)))
       have HK2 := HKX
       refine One_odr (by repeat (first | exact Obl.nil | (refine Obl.out rfl ?_) | (refine Obl.in (KW.mk' HK1.out) ?_) | (refine Obl.in (KW.mk' HK2.out) ?_))) ?_
       refine wpOdr_done ?_
       simp only [List.drop_succ_cons, List.drop_zero]
       have HSY := Lib.hid (HSX.out.set (k := 3) (B' := { A with x1 := min A.x1 Zx, x2 := max A.x2 (-Yx) }) (by decide) (fun t ht e => by match t, ht, e with | 0, _, e | 1, _, e | 2, _, e | 3, _, e | 4, _, e | 5, _, e => first | rfl | exact absurd rfl e))
       have HKY := Lib.hid (HKX.out.off (k := 3) HNG.out (.int .i64 (max A.x2 (-Yx))))
       go_wp2_with fail
       refine NP_mk ?_
       obtain ⟨A1, hA1⟩ : ∃ B : Box6, B = { A with x1 := min A.x1 Zx, x2 := max A.x2 (-Yx) } := ⟨_, rfl⟩
       go_upto_region 14 with fail
       refine gen_world (fun W' => BdSt g6 w2 W' A1 ∧ CoBx W' g10 c) ⟨by rw [hA1]; exact HSY.out, HKY.out⟩ ?_
       rintro W13 ⟨hs, hk⟩
       have HSa := Lib.hid hs
       have HCXa := Lib.hid hk
       have HA1 := Lib.hid hA1
       clear hs hk hA1 HSX HSY HKX HKY HK1 HK2 HS4 kx1 kx2 n1 n2 y0 y1 f0 f1
       have kx1 : ∀ y : KW (fun W' => BxC W' g6 A1.at_ ∧ CoBx W' g10 c), y.w.cell? ⟨g6, 1, none⟩ = some (.int .i64 A1.y1) ∧ y.w.cell? ⟨g6, 4, none⟩ = some (.int .i64 A1.y2) ∧ y.w.cell? ⟨g10, 1, none⟩ = some (.int .i64 c.y) ∧ y.w.cell? ⟨g10, 3, none⟩ = some (.int .i64 c.n) := fun y => ⟨(y.ok.1 1 (by decide)).1, (y.ok.1 4 (by decide)).1, y.ok.2.b, y.ok.2.d⟩
       have kx2 : ∀ y : KW (fun W' => CoBx W' g10 c), y.w.cell? ⟨g10, 1, none⟩ = some (.int .i64 c.y) ∧ y.w.cell? ⟨g10, 3, none⟩ = some (.int .i64 c.n) := fun y => ⟨y.ok.b, y.ok.d⟩
       haveI n1 : Nonempty (KW (fun W' => BxC W' g6 A1.at_ ∧ CoBx W' g10 c)) := ⟨⟨W13, HSa.out.b, HCXa.out⟩⟩
       haveI n2 : Nonempty (KW (fun W' => CoBx W' g10 c)) := ⟨⟨W13, HCXa.out⟩⟩
       refine wp_region_odr [(1, (fun w' => ∃ y : KW (fun W' => BxC W' g6 A1.at_ ∧ CoBx W' g10 c), w' = y.w)), (3, (fun w' => ∃ y : KW (fun W' => BxC W' g6 A1.at_ ∧ CoBx W' g10 c), w' = y.w)), (5, (fun w' => ∃ y : KW (fun W' => BxC W' g6 A1.at_ ∧ CoBx W' g10 c), w' = y.w)), (9, (fun w' => ∃ y : KW (fun W' => BxC W' g6 A1.at_ ∧ CoBx W' g10 c), w' = y.w)), (11, (fun w' => ∃ y : KW (fun W' => CoBx W' g10 c), w' = y.w)), (14, (fun w' => ∃ y : KW (fun W' => CoBx W' g10 c), w' = y.w))] [1, 3, 5, 9, 11, 14] 20 (.take 0 (.take 1 (.take 2 (.take 3 (.take 4 (.take 5 (.take 8 (.take 9 (.take 10 (.take 11 (.take 12 (.take 13 (.take 14 (.one 6 [1, 9, 11, 14] (.take 7 (.take 18 (.one 15 [1, 3, 5, 9, 11] (.take 16 (.take 17 (.one 19 [11, 14] .done)))))))))))))))))))) rfl hmix (by kernel_rfl) ?_
       have HS4 := Lib.hid (HSa.out.keep (Below.refl _ _).drew)
       have HK1 := Lib.hid (show BxC W13.drew g6 A1.at_ ∧ CoBx W13.drew g10 c from ⟨HS4.out.b, HCXa.out.keep (Below.refl _ _).drew⟩)
       have HK2 := Lib.hid (show CoBx W13.drew g10 c from HK1.out.2)
       generalize W13.drew = W4 at *
       repeat (refine wpOdr_take (by first | exact trivial | exact KW.mk' HK1.out | exact KW.mk' HK2.out) ?_; simp only [nthOp]; (first | go_big_quiet_step (fail) | quiet_step (fail)); refine wpQuiet_nil ?_)
       refine wpOdr_one ?_
       simp only [nthOp]
       go_wp2_with (go_at_call 105; refine (HFy.out _).mono ?_; rintro e w' ⟨rfl, rfl⟩)
       refine One_odr (by repeat (first | exact Obl.nil | (refine Obl.out rfl ?_) | (refine Obl.in (KW.mk' HK1.out) ?_) | (refine Obl.in (KW.mk' HK2.out) ?_))) ?_
       repeat (refine wpOdr_take (by first | exact trivial | exact KW.mk' HK1.out | exact KW.mk' HK2.out) ?_; simp only [nthOp]; (first | go_big_quiet_step (fail) | quiet_step (fail)); refine wpQuiet_nil ?_)
       refine wpOdr_one ?_
       simp only [nthOp]
       go_wp2_with (go_at_call 105; refine (HGy.out _).mono ?_; rintro e w' ⟨rfl, rfl⟩)
       refine One_odr (by repeat (first | exact Obl.nil | (refine Obl.out rfl ?_) | (refine Obl.in (KW.mk' HK1.out) ?_) | (refine Obl.in (KW.mk' HK2.out) ?_))) ?_
       repeat (refine wpOdr_take (by first | exact trivial | exact KW.mk' HK1.out | exact KW.mk' HK2.out) ?_; simp only [nthOp]; (first | go_big_quiet_step (fail) | quiet_step (fail)); refine wpQuiet_nil ?_)
       refine wpOdr_one ?_
       simp only [nthOp]
       obtain ⟨y0, f0⟩ := HS4.out.b 1 (by decide)
       obtain ⟨y1, f1⟩ := HS4.out.b 4 (by decide)
       simp only [Box6.at_] at y0 y1
       go_wp2_with fail
       have HSX := Lib.hid (HS4.out.set (k := 1) (B' := { A1 with y1 := min A1.y1 Zy }) (by decide) (fun t ht e => by match t, ht, e with | 0, _, e | 1, _, e | 2, _, e | 3, _, e | 4, _, e | 5, _, e => first | rfl | exact absurd rfl e))
       have HKX := Lib.hid (HK2.out.off (k := 1) HNG.out (.int .i64 (min A1.y1 Zy)))
       have HK2 := HKX
       refine One_odr (by repeat (first | exact Obl.nil | (refine Obl.out rfl ?_) | (refine Obl.in (KW.mk' HK1.out) ?_) | (refine Obl.in (KW.mk' HK2.out) ?_))) ?_
       refine wpOdr_done ?_
       simp only [List.drop_succ_cons, List.drop_zero]
       have HSY := Lib.hid (HSX.out.set (k := 4) (B' := { A1 with y1 := min A1.y1 Zy, y2 := max A1.y2 (-Yy) }) (by decide) (fun t ht e => by match t, ht, e with | 0, _, e | 1, _, e | 2, _, e | 3, _, e | 4, _, e | 5, _, e => first | rfl | exact absurd rfl e))
       have HKY := Lib.hid (HKX.out.off (k := 4) HNG.out (.int .i64 (max A1.y2 (-Yy))))
       go_wp2_with fail
       refine NP_mk ?_
       obtain ⟨A2, hA2⟩ : ∃ B : Box6, B = { A1 with y1 := min A1.y1 Zy, y2 := max A1.y2 (-Yy) } := ⟨_, rfl⟩
       go_upto_region 15 with fail
       refine gen_world (fun W' => BdSt g6 w2 W' A2 ∧ CoBx W' g10 c) ⟨by rw [hA2]; exact HSY.out, HKY.out⟩ ?_
       rintro W14 ⟨hs, hk⟩
       have HSb := Lib.hid hs
       have HCXb := Lib.hid hk
       have HA2 := Lib.hid hA2
       clear hs hk hA2 HSX HSY HKX HKY HK1 HK2 HS4 kx1 kx2 n1 n2 y0 y1 f0 f1
       have kx1 : ∀ y : KW (fun W' => BxC W' g6 A2.at_ ∧ CoBx W' g10 c), y.w.cell? ⟨g6, 2, none⟩ = some (.int .i64 A2.z1) ∧ y.w.cell? ⟨g6, 5, none⟩ = some (.int .i64 A2.z2) ∧ y.w.cell? ⟨g10, 2, none⟩ = some (.int .i64 c.z) ∧ y.w.cell? ⟨g10, 3, none⟩ = some (.int .i64 c.n) := fun y => ⟨(y.ok.1 2 (by decide)).1, (y.ok.1 5 (by decide)).1, y.ok.2.c, y.ok.2.d⟩
       have kx2 : ∀ y : KW (fun W' => CoBx W' g10 c), y.w.cell? ⟨g10, 2, none⟩ = some (.int .i64 c.z) ∧ y.w.cell? ⟨g10, 3, none⟩ = some (.int .i64 c.n) := fun y => ⟨y.ok.c, y.ok.d⟩
       haveI n1 : Nonempty (KW (fun W' => BxC W' g6 A2.at_ ∧ CoBx W' g10 c)) := ⟨⟨W14, HSb.out.b, HCXb.out⟩⟩
       haveI n2 : Nonempty (KW (fun W' => CoBx W' g10 c)) := ⟨⟨W14, HCXb.out⟩⟩
       refine wp_region_odr [(1, (fun w' => ∃ y : KW (fun W' => BxC W' g6 A2.at_ ∧ CoBx W' g10 c), w' = y.w)), (3, (fun w' => ∃ y : KW (fun W' => BxC W' g6 A2.at_ ∧ CoBx W' g10 c), w' = y.w)), (5, (fun w' => ∃ y : KW (fun W' => BxC W' g6 A2.at_ ∧ CoBx W' g10 c), w' = y.w)), (9, (fun w' => ∃ y : KW (fun W' => BxC W' g6 A2.at_ ∧ CoBx W' g10 c), w' = y.w)), (11, (fun w' => ∃ y : KW (fun W' => CoBx W' g10 c), w' = y.w)), (14, (fun w' => ∃ y : KW (fun W' => CoBx W' g10 c), w' = y.w))] [1, 3, 5, 9, 11, 14] 20 (.take 0 (.take 1 (.take 2 (.take 3 (.take 4 (.take 5 (.take 8 (.take 9 (.take 10 (.take 11 (.take 12 (.take 13 (.take 14 (.one 6 [1, 9, 11, 14] (.take 7 (.take 18 (.one 15 [1, 3, 5, 9, 11] (.take 16 (.take 17 (.one 19 [11, 14] .done)))))))))))))))))))) rfl hmix (by kernel_rfl) ?_
       have HS4 := Lib.hid (HSb.out.keep (Below.refl _ _).drew)
       have HK1 := Lib.hid (show BxC W14.drew g6 A2.at_ ∧ CoBx W14.drew g10 c from ⟨HS4.out.b, HCXb.out.keep (Below.refl _ _).drew⟩)
       have HK2 := Lib.hid (show CoBx W14.drew g10 c from HK1.out.2)
       generalize W14.drew = W4 at *
       repeat (refine wpOdr_take (by first | exact trivial | exact KW.mk' HK1.out | exact KW.mk' HK2.out) ?_; simp only [nthOp]; (first | go_big_quiet_step (fail) | quiet_step (fail)); refine wpQuiet_nil ?_)
       refine wpOdr_one ?_
       simp only [nthOp]
       go_wp2_with (go_at_call 105; refine (HFz.out _).mono ?_; rintro e w' ⟨rfl, rfl⟩)
       refine One_odr (by repeat (first | exact Obl.nil | (refine Obl.out rfl ?_) | (refine Obl.in (KW.mk' HK1.out) ?_) | (refine Obl.in (KW.mk' HK2.out) ?_))) ?_
       repeat (refine wpOdr_take (by first | exact trivial | exact KW.mk' HK1.out | exact KW.mk' HK2.out) ?_; simp only [nthOp]; (first | go_big_quiet_step (fail) | quiet_step (fail)); refine wpQuiet_nil ?_)
       refine wpOdr_one ?_
       simp only [nthOp]
       go_wp2_with (go_at_call 105; refine (HGz.out _).mono ?_; rintro e w' ⟨rfl, rfl⟩)
       refine One_odr (by repeat (first | exact Obl.nil | (refine Obl.out rfl ?_) | (refine Obl.in (KW.mk' HK1.out) ?_) | (refine Obl.in (KW.mk' HK2.out) ?_))) ?_
       repeat (refine wpOdr_take (by first | exact trivial | exact KW.mk' HK1.out | exact KW.mk' HK2.out) ?_; simp only [nthOp]; (first | go_big_quiet_step (fail) | quiet_step (fail)); refine wpQuiet_nil ?_)
       refine wpOdr_one ?_
       simp only [nthOp]
       obtain ⟨y0, f0⟩ := HS4.out.b 2 (by decide)
       obtain ⟨y1, f1⟩ := HS4.out.b 5 (by decide)
       simp only [Box6.at_] at y0 y1
       go_wp2_with fail
       have HSX := Lib.hid (HS4.out.set (k := 2) (B' := { A2 with z1 := min A2.z1 Zz }) (by decide) (fun t ht e => by match t, ht, e with | 0, _, e | 1, _, e | 2, _, e | 3, _, e | 4, _, e | 5, _, e => first | rfl | exact absurd rfl e))
       have HKX := Lib.hid (HK2.out.off (k := 2) HNG.out (.int .i64 (min A2.z1 Zz)))
       have HK2 := HKX
       refine One_odr (by repeat (first | exact Obl.nil | (refine Obl.out rfl ?_) | (refine Obl.in (KW.mk' HK1.out) ?_) | (refine Obl.in (KW.mk' HK2.out) ?_))) ?_
       refine wpOdr_done ?_
       simp only [List.drop_succ_cons, List.drop_zero]
       have HSY := Lib.hid (HSX.out.set (k := 5) (B' := { A2 with z1 := min A2.z1 Zz, z2 := max A2.z2 (-Yz) }) (by decide) (fun t ht e => by match t, ht, e with | 0, _, e | 1, _, e | 2, _, e | 3, _, e | 4, _, e | 5, _, e => first | rfl | exact absurd rfl e))
       have HKY := Lib.hid (HKX.out.off (k := 5) HNG.out (.int .i64 (max A2.z2 (-Yz))))
       go_wp2_with fail
       refine NP_mk ?_
       obtain ⟨A3, hA3⟩ : ∃ B : Box6, B = { A2 with z1 := min A2.z1 Zz, z2 := max A2.z2 (-Yz) } := ⟨_, rfl⟩
       have HA3 := Lib.hid hA3
       have HSc := Lib.hid (show BdSt g6 w2 _ A3 by rw [hA3]; exact HSY.out)
       clear hA3 HSX HKX HKY HK1 HK2 HS4 kx1 kx2 n1 n2 y0 y1 f0 f1
       have HAE := Lib.hid (show A3 = bndF A0 (cs.take (j + 1)) by
        rw [HTJ.out, ← HA.out, HJB.out, HA3.out, HA2.out, HA1.out]; rfl)
       go_wp2_with fail
       go_roundw
       case rel => exact ⟨j + 1, A3, by omega, by go_num, HSc.out, HAE⟩
       case measure => first | (simp [intOf]; done) | (simp [intOf]; omega)
      ·obtain rfl : j = cs.length := by omega
       have hji : ¬ ((cs.length : Nat) : Int) < ((cs.length : Nat) : Int) := by omega
       have HAE := Lib.hid (show A = bndF far6 ((L.take (k + 1)).flatMap fun r => corn r.ps) by
        rw [HA.out, List.take_length, HA0.out, HTK.out])
       clear hst hcv
       go_wp2_with fail
       go_roundw
       case rel => exact ⟨k + 1, A, by omega, by go_num, HSA.out, HAE⟩
       case measure => first | (simp [intOf]; done) | (simp [intOf]; omega)
    ·obtain rfl : k = L.length := by omega
     have hki : ¬ ((L.length : Nat) : Int) < ((L.length : Nat) : Int) := by omega
     have HAE := Lib.hid (show T = A0 by rw [HT3.out, HA0.out, List.take_length])
     clear hst
     have HZR := Lib.hid (HZ2.out.keep HST.out.w)
     obtain ⟨y0, -⟩ := HST.out.b 0 (by decide)
     obtain ⟨y1, -⟩ := HST.out.b 1 (by decide)
     obtain ⟨y2, -⟩ := HST.out.b 2 (by decide)
     obtain ⟨y3, -⟩ := HST.out.b 3 (by decide)
     obtain ⟨y4, -⟩ := HST.out.b 4 (by decide)
     obtain ⟨y5, -⟩ := HST.out.b 5 (by decide)
     obtain ⟨z0, f0⟩ := HZR.out 0 (by decide)
     obtain ⟨z1, f1⟩ := HZR.out 1 (by decide)
     obtain ⟨z2, f2⟩ := HZR.out 2 (by decide)
     obtain ⟨z3, f3⟩ := HZR.out 3 (by decide)
     obtain ⟨z4, f4⟩ := HZR.out 4 (by decide)
     obtain ⟨z5, f5⟩ := HZR.out 5 (by decide)
     simp only [Box6.at_, box0] at y0 y1 y2 y3 y4 y5 z0 z1 z2 z3 z4 z5
     go_wp2_with fail
     obtain ⟨s0, s1, s2, s3, s4, s5⟩ := HZR.out.six A0
     have hb := set6_below (HBW1.out.trans (HST.out.w.mono HBW1.out.size)) (r := w.heap.size + 1) (Nat.le_succ _) A0
     unfold set6 at s0 s1 s2 s3 s4 s5 hb
     generalize ((((((wr.setCell ⟨w.heap.size + 1, 0, none⟩ (.int .i64 A0.x1)).setCell ⟨w.heap.size + 1, 1, none⟩ (.int .i64 A0.y1)).setCell ⟨w.heap.size + 1, 2, none⟩ (.int .i64 A0.z1)).setCell ⟨w.heap.size + 1, 3, none⟩ (.int .i64 A0.x2)).setCell ⟨w.heap.size + 1, 4, none⟩ (.int .i64 A0.y2)).setCell ⟨w.heap.size + 1, 5, none⟩ (.int .i64 A0.z2)) = WF at s0 s1 s2 s3 s4 s5 hb ⊢
     refine bodyPost_ret (v := .tuple #[.agg #[.int .i64 A0.x1, .int .i64 A0.y1, .int .i64 A0.z1, .int .i64 A0.x2, .int .i64 A0.y2, .int .i64 A0.z2], .int .i64 0]) ?_ ?_ ?_
     ·simp [results, Tryz.results47, go_sem, s0, s1, s2, s3, s4, s5]
     ·rfl
     ·exact ⟨by rw [HM3.out, HAE.out], hb⟩
 ·have HM2 := Lib.hid (show M = solE cells by rw [HM.out, if_pos h0])
  have HT2 := Lib.hid (show T = box0 by rw [HTV.out, HM2.out, if_neg h0])
  have e1 := HP.out.1 h0
  injection e1 with e1 e2 e3
  subst e1 e2 e3
  obtain ⟨z0, f0⟩ := HZ2.out 0 (by decide)
  obtain ⟨z1, f1⟩ := HZ2.out 1 (by decide)
  obtain ⟨z2, f2⟩ := HZ2.out 2 (by decide)
  obtain ⟨z3, f3⟩ := HZ2.out 3 (by decide)
  obtain ⟨z4, f4⟩ := HZ2.out 4 (by decide)
  obtain ⟨z5, f5⟩ := HZ2.out 5 (by decide)
  simp only [Box6.at_, box0] at z0 z1 z2 z3 z4 z5
  clear HP HCA HSO HT HTW
  generalize solE cells = E at *
  go_wp2_with fail
  obtain ⟨s0, s1, s2, s3, s4, s5⟩ := HZ2.out.six box0
  have hb := set6_below HBW1.out (r := w.heap.size + 1) (Nat.le_succ _) box0
  unfold set6 at s0 s1 s2 s3 s4 s5 hb
  simp only [box0] at s0 s1 s2 s3 s4 s5 hb
  generalize ((((((w2.setCell ⟨w.heap.size + 1, 0, none⟩ (.int .i64 0)).setCell ⟨w.heap.size + 1, 1, none⟩ (.int .i64 0)).setCell ⟨w.heap.size + 1, 2, none⟩ (.int .i64 0)).setCell ⟨w.heap.size + 1, 3, none⟩ (.int .i64 0)).setCell ⟨w.heap.size + 1, 4, none⟩ (.int .i64 0)).setCell ⟨w.heap.size + 1, 5, none⟩ (.int .i64 0)) = WF at s0 s1 s2 s3 s4 s5 hb ⊢
  refine bodyPost_ret (v := .tuple #[.agg #[.int .i64 0, .int .i64 0, .int .i64 0, .int .i64 0, .int .i64 0, .int .i64 0], .int .i64 E]) ?_ ?_ ?_
  ·simp [results, Tryz.results47, go_sem, s0, s1, s2, s3, s4, s5]
  ·rfl
  ·exact ⟨by rw [HM2.out, HT2.out]; rfl, hb⟩
end Go.Proofs.YtbhgkadklklmbaaGreat
