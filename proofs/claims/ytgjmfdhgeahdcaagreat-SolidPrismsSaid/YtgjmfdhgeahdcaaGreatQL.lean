/- The document's vectors. -/
import Derived.Test.YtgjmfdhgeahdcaaGreatQC
import Derived.Test.YtgjmfdhgeahdcaaGreatQE
set_option linter.unusedVariables false
set_option linter.unusedSimpArgs false
namespace Go.Proofs.YtgjmfdhgeahdcaaGreat
open Go Go.RowKit Go.Sort Go.Lib

set_option maxHeartbeats 1000000 in
theorem normalR_any (p : Pl) (w : World) : Calls Tryz.prog 92 #[.agg #[.int .i64 p.a, .int .i64 p.b, .int .i64 p.c, .int .i64 p.d]] w fun e w' => e = .returned (.agg #[.int .i64 (nrm p).x, .int .i64 (nrm p).y, .int .i64 (nrm p).z]) ∧ Below w.heap.size w w' := by
 go_enter Tryz.func92, Tryz.ntmps92
 go_wp2_with fail
 exact bodyPost_ret (v := .agg #[.int .i64 p.a, .int .i64 p.b, .int .i64 p.c]) (by simp [results, Tryz.results92, go_sem]) rfl ⟨rfl, by repeat (first | (with_reducible assumption) | exact Below.refl _ _ | (refine Below.setCell ?_ (by first | omega | (simp; omega) | (simp; done)) _) | (refine Below.alloc ?_ (by first | omega | (simp; omega) | (simp; done)) _) | (refine Below.drew ?_))⟩
/-- The cross product of two vectors of small numbers. -/
theorem crossR_any (v u : Vec) (hv : v.in_ 100000) (hu : u.in_ 100000) (w : World) : Calls Tryz.prog 94 #[.agg #[.int .i64 v.x, .int .i64 v.y, .int .i64 v.z], .agg #[.int .i64 u.x, .int .i64 u.y, .int .i64 u.z]] w fun e w' => e = .returned (.agg #[.int .i64 (crs v u).x, .int .i64 (crs v u).y, .int .i64 (crs v u).z]) ∧ Below w.heap.size w w' := by
 obtain ⟨a1, a2, a3⟩ := hv
 obtain ⟨b1, b2, b3⟩ := hu
 obtain ⟨p1, hp1⟩ : ∃ p, p = v.y * u.z := ⟨_, rfl⟩
 obtain ⟨p2, hp2⟩ : ∃ p, p = v.z * u.y := ⟨_, rfl⟩
 obtain ⟨p3, hp3⟩ : ∃ p, p = v.z * u.x := ⟨_, rfl⟩
 obtain ⟨p4, hp4⟩ : ∃ p, p = v.x * u.z := ⟨_, rfl⟩
 obtain ⟨p5, hp5⟩ : ∃ p, p = v.x * u.y := ⟨_, rfl⟩
 obtain ⟨p6, hp6⟩ : ∃ p, p = v.y * u.x := ⟨_, rfl⟩
 have i1 := mul_in a2 b3
 have i2 := mul_in a3 b2
 have i3 := mul_in a3 b1
 have i4 := mul_in a1 b3
 have i5 := mul_in a1 b2
 have i6 := mul_in a2 b1
 have HV := Lib.hid (show crs v u = ⟨p1 - p2, p3 - p4, p5 - p6⟩ by rw [hp1, hp2, hp3, hp4, hp5, hp6]; rfl)
 rw [← hp1] at i1; rw [← hp2] at i2; rw [← hp3] at i3; rw [← hp4] at i4; rw [← hp5] at i5; rw [← hp6] at i6
 have w1 : IntKind.i64.wrap (v.y * u.z) = p1 := by rw [← hp1]; exact IntWalk.i64_in _ (by omega)
 have w2 : IntKind.i64.wrap (v.z * u.y) = p2 := by rw [← hp2]; exact IntWalk.i64_in _ (by omega)
 have w3 : IntKind.i64.wrap (v.z * u.x) = p3 := by rw [← hp3]; exact IntWalk.i64_in _ (by omega)
 have w4 : IntKind.i64.wrap (v.x * u.z) = p4 := by rw [← hp4]; exact IntWalk.i64_in _ (by omega)
 have w5 : IntKind.i64.wrap (v.x * u.y) = p5 := by rw [← hp5]; exact IntWalk.i64_in _ (by omega)
 have w6 : IntKind.i64.wrap (v.y * u.x) = p6 := by rw [← hp6]; exact IntWalk.i64_in _ (by omega)
 have d1 : IntKind.i64.wrap (p1 - p2) = p1 - p2 := IntWalk.i64_in _ (by omega)
 have d2 : IntKind.i64.wrap (p3 - p4) = p3 - p4 := IntWalk.i64_in _ (by omega)
 have d3 : IntKind.i64.wrap (p5 - p6) = p5 - p6 := IntWalk.i64_in _ (by omega)
 clear hp1 hp2 hp3 hp4 hp5 hp6 i1 i2 i3 i4 i5 i6 a1 a2 a3 b1 b2 b3
 rw [HV.out]
 go_enter Tryz.func94, Tryz.ntmps94
 go_wp2_with fail
 exact bodyPost_ret (v := .agg #[.int .i64 (p1 - p2), .int .i64 (p3 - p4), .int .i64 (p5 - p6)]) (by simp [results, Tryz.results94, go_sem]) rfl ⟨rfl, by repeat (first | (with_reducible assumption) | exact Below.refl _ _ | (refine Below.setCell ?_ (by first | omega | (simp; omega) | (simp; done)) _) | (refine Below.alloc ?_ (by first | omega | (simp; omega) | (simp; done)) _) | (refine Below.drew ?_))⟩
theorem dotR_any (v u : Vec) (A B : Int) (hv : v.in_ A) (hu : u.in_ B) (hAB : A * B ≤ 1000000000000000) (w : World) : Calls Tryz.prog 93 #[.agg #[.int .i64 v.x, .int .i64 v.y, .int .i64 v.z], .agg #[.int .i64 u.x, .int .i64 u.y, .int .i64 u.z]] w fun e w' => e = .returned (.int .i64 (dt v u)) ∧ Below w.heap.size w w' := by
 obtain ⟨a1, a2, a3⟩ := hv
 obtain ⟨b1, b2, b3⟩ := hu
 have i1 := mul_in a1 b1
 have i2 := mul_in a2 b2
 have i3 := mul_in a3 b3
 generalize A * B = M at *
 obtain ⟨p1, hp1⟩ : ∃ p, p = v.x * u.x := ⟨_, rfl⟩
 obtain ⟨p2, hp2⟩ : ∃ p, p = v.y * u.y := ⟨_, rfl⟩
 obtain ⟨p3, hp3⟩ : ∃ p, p = v.z * u.z := ⟨_, rfl⟩
 have HV := Lib.hid (show dt v u = p1 + p2 + p3 by rw [hp1, hp2, hp3]; rfl)
 rw [← hp1] at i1; rw [← hp2] at i2; rw [← hp3] at i3
 have w1 : IntKind.i64.wrap (v.x * u.x) = p1 := by rw [← hp1]; exact IntWalk.i64_in _ (by omega)
 have w2 : IntKind.i64.wrap (v.y * u.y) = p2 := by rw [← hp2]; exact IntWalk.i64_in _ (by omega)
 have w3 : IntKind.i64.wrap (v.z * u.z) = p3 := by rw [← hp3]; exact IntWalk.i64_in _ (by omega)
 have d1 : IntKind.i64.wrap (p1 + p2) = p1 + p2 := IntWalk.i64_in _ (by omega)
 have d2 : IntKind.i64.wrap (p1 + p2 + p3) = p1 + p2 + p3 := IntWalk.i64_in _ (by omega)
 clear hp1 hp2 hp3 i1 i2 i3 a1 a2 a3 b1 b2 b3
 rw [HV.out]
 go_enter Tryz.func93, Tryz.ntmps93
 go_wp2_with fail
 go_ret
 exact ⟨rfl, by repeat (first | (with_reducible assumption) | exact Below.refl _ _ | (refine Below.setCell ?_ (by first | omega | (simp; omega) | (simp; done)) _) | (refine Below.alloc ?_ (by first | omega | (simp; omega) | (simp; done)) _) | (refine Below.drew ?_))⟩
end Go.Proofs.YtgjmfdhgeahdcaaGreat
/- Where a point lies at a plane, as the document says it. -/
set_option linter.unusedVariables false
set_option linter.unusedSimpArgs false
namespace Go.Proofs.YtgjmfdhgeahdcaaGreat
open Go Go.RowKit Go.Sort Go.Lib

set_option maxRecDepth 100000 in
set_option maxHeartbeats 2000000 in
theorem sideR_any (p : Pl) (c : Co) (hp : p.in_) (hc : c.in_) (w : World) : Calls Tryz.prog 41 #[.agg #[.int .i64 p.a, .int .i64 p.b, .int .i64 p.c, .int .i64 p.d], .agg #[.int .i64 c.x, .int .i64 c.y, .int .i64 c.z, .int .i64 c.n]] w fun e w' => e = .returned (.int .i64 (sd p c)) ∧ Below w.heap.size w w' := by
 obtain ⟨⟨a1, a2, a3⟩, hd⟩ := hp
 obtain ⟨⟨b1, b2, b3⟩, hcn⟩ := hc
 have hdn := mul_in hd hcn
 have i1 := mul_in a1 b1
 have i2 := mul_in a2 b2
 have i3 := mul_in a3 b3
 simp only [nrm, vec] at i1 i2 i3
 obtain ⟨m, hm⟩ : ∃ m, m = p.d * c.n := ⟨_, rfl⟩
 obtain ⟨p1, hp1⟩ : ∃ q, q = p.a * c.x := ⟨_, rfl⟩
 obtain ⟨p2, hp2⟩ : ∃ q, q = p.b * c.y := ⟨_, rfl⟩
 obtain ⟨p3, hp3⟩ : ∃ q, q = p.c * c.z := ⟨_, rfl⟩
 rw [← hm] at hdn
 rw [← hp1] at i1; rw [← hp2] at i2; rw [← hp3] at i3
 have w0 : IntKind.i64.wrap (p.d * c.n) = m := by rw [← hm]; exact IntWalk.i64_in _ (by omega)
 have w1 : IntKind.i64.wrap (p.a * c.x) = p1 := by rw [← hp1]; exact IntWalk.i64_in _ (by omega)
 have w2 : IntKind.i64.wrap (p.b * c.y) = p2 := by rw [← hp2]; exact IntWalk.i64_in _ (by omega)
 have w3 : IntKind.i64.wrap (p.c * c.z) = p3 := by rw [← hp3]; exact IntWalk.i64_in _ (by omega)
 have d1 : IntKind.i64.wrap (p1 + p2) = p1 + p2 := IntWalk.i64_in _ (by omega)
 have d2 : IntKind.i64.wrap (p1 + p2 + p3) = p1 + p2 + p3 := IntWalk.i64_in _ (by omega)
 have HS := Lib.hid (show sd p c = cmpI (p1 + p2 + p3) m by unfold sd dt; rw [hm, hp1, hp2, hp3]; rfl)
 rw [HS.out]
 clear hm hp1 hp2 hp3 hdn i1 i2 i3 a1 a2 a3 b1 b2 b3 hd hcn HS
 obtain ⟨X, hX⟩ : ∃ X, X = p1 + p2 + p3 := ⟨_, rfl⟩
 replace d2 : IntKind.i64.wrap (p1 + p2 + p3) = X := by rw [d2, hX]
 rw [← hX]
 clear hX
 obtain ⟨pa, pb, pc, pd⟩ := p
 obtain ⟨cx, cy, cz, cn⟩ := c
 simp only at w0 w1 w2 w3
 have HC := Lib.hid (show cmpI X m = if X < m then -1 else if m < X then 1 else 0 by unfold cmpI; rfl)
 go_enter Tryz.func41, Tryz.ntmps41
 go_upto_region 1 with fail
 refine gen_world (fun W => ((W.cell? ⟨w.heap.size, 0, none⟩ = some (.int .i64 pa) ∧ W.cell? ⟨w.heap.size, 1, none⟩ = some (.int .i64 pb) ∧ W.cell? ⟨w.heap.size, 2, none⟩ = some (.int .i64 pc) ∧ W.cell? ⟨w.heap.size, 3, none⟩ = some (.int .i64 pd)) ∧
  (W.cell? ⟨w.heap.size + 1, 0, none⟩ = some (.int .i64 cx) ∧ W.cell? ⟨w.heap.size + 1, 1, none⟩ = some (.int .i64 cy) ∧ W.cell? ⟨w.heap.size + 1, 2, none⟩ = some (.int .i64 cz) ∧ W.cell? ⟨w.heap.size + 1, 3, none⟩ = some (.int .i64 cn))) ∧ Below w.heap.size w W ∧ w.heap.size + 1 < W.heap.size) ⟨⟨by simp [go_sem], by simp [go_sem]⟩, by repeat (first | (with_reducible assumption) | exact Below.refl _ _ | (refine Below.setCell ?_ (by first | omega | (simp; omega) | (simp; done)) _) | (refine Below.alloc ?_ (by first | omega | (simp; omega) | (simp; done)) _) | (refine Below.drew ?_)), by simp⟩ ?_
 rintro W ⟨⟨⟨p0, p1, p2, p3⟩, c0, c1, c2, c3⟩, hb, hz⟩
 have HB := Lib.hid hb
 clear hb
 obtain ⟨gp, hgp⟩ : ∃ g, g = w.heap.size := ⟨_, rfl⟩
 have HGP := Lib.hid hgp
 rw [← hgp] at p0 p1 p2 p3 c0 c1 c2 c3 hz HB ⊢
 clear hgp
 have hz0 : gp < W.heap.size := by omega
 refine wp_region_grew (by kernel_rfl) (by kernel_rfl) ?_
 repeat (first | go_big_quiet_step (fail) | quiet_step (fail))
 refine wpQuiet_nil ?_
 rintro _ ⟨gg, rfl⟩
 have HFB := Lib.hid (show Below w.heap.size w (grew W gg) by rw [← HGP.out]; exact grewB HB.out (by omega) _)
 by_cases h1 : X < m
 ·have HE := Lib.hid (show cmpI X m = -1 by rw [HC.out, if_pos h1])
  have h2 : ¬ m < X := by omega
  go_wp2_with fail
  go_ret
  exact ⟨ret_int HE.out.symm, HFB.out⟩
 ·by_cases h2 : m < X
  ·have HE := Lib.hid (show cmpI X m = 1 by rw [HC.out, if_neg h1, if_pos h2])
   go_wp2_with fail
   go_ret
   exact ⟨ret_int HE.out.symm, HFB.out⟩
  ·have HE := Lib.hid (show cmpI X m = 0 by rw [HC.out, if_neg h1, if_neg h2])
   go_wp2_with fail
   go_ret
   exact ⟨ret_int HE.out.symm, HFB.out⟩
end Go.Proofs.YtgjmfdhgeahdcaaGreat
/- Whether planes allow a point, as the document says it. -/
set_option linter.unusedVariables false
set_option linter.unusedSimpArgs false
namespace Go.Proofs.YtgjmfdhgeahdcaaGreat
open Go Go.RowKit Go.Sort Go.Lib

def alwR (ps : List Pl) (c : Co) : Bool := ps.all fun p => !decide (0 < sd p c)
theorem alwR_drop {ps : List Pl} {c : Co} {k : Nat} (hk : k < ps.length) : alwR (ps.drop k) c = (!decide (0 < sd ps[k] c) && alwR (ps.drop (k + 1)) c) := by unfold alwR; rw [List.drop_eq_getElem_cons hk, List.all_cons]
set_option maxRecDepth 100000 in
set_option maxHeartbeats 4000000 in
theorem allowed_any (ps : List Pl) (pa : Option Addr) (pc : Nat) (c : Co) (w : World) (hv : Pls.V w pa ps) (hl : ps.length ≤ 1000000) (hg : ∀ p ∈ ps, p.in_) (hc : c.in_) :
    Calls Tryz.prog 73 #[.slice pa ps.length pc, .agg #[.int .i64 c.x, .int .i64 c.y, .int .i64 c.z, .int .i64 c.n]] w fun e w' => e = .returned (.bool (alwR ps c)) ∧ Below w.heap.size w w' := by
 obtain ⟨S, hS⟩ : ∃ S, S = alwR ps c := ⟨_, rfl⟩
 have HS := Lib.hid hS
 have HV := Lib.hid hv
 have HG := Lib.hid hg
 have HC := Lib.hid (fun p (hp : Pl.in_ p) W => sideR_any p c hp hc W)
 have HD := Lib.hid (fun k (hk : k < ps.length) => alwR_drop (c := c) hk)
 have HN := Lib.hid (show alwR [] c = true from rfl)
 rw [← hS]
 clear hS hv hg hc
 go_enter Tryz.func73, Tryz.ntmps73
 go_upto_region 1 with fail
 refine gen_world (fun W => (W.cell? ⟨w.heap.size, 0, none⟩ = some (.int .i64 c.x) ∧ W.cell? ⟨w.heap.size, 1, none⟩ = some (.int .i64 c.y) ∧ W.cell? ⟨w.heap.size, 2, none⟩ = some (.int .i64 c.z) ∧ W.cell? ⟨w.heap.size, 3, none⟩ = some (.int .i64 c.n)) ∧ Below w.heap.size w W) ⟨⟨by simp [go_sem], by simp [go_sem], by simp [go_sem], by simp [go_sem]⟩, by repeat (first | (with_reducible assumption) | exact Below.refl _ _ | (refine Below.setCell ?_ (by first | omega | (simp; omega) | (simp; done)) _) | (refine Below.alloc ?_ (by first | omega | (simp; omega) | (simp; done)) _) | (refine Below.drew ?_))⟩ ?_
 rintro W ⟨⟨b0, b1, b2, b3⟩, hb⟩
 have HB := Lib.hid hb
 clear hb
 go_wp2_with fail
 go_loopw [5] (fun iv wr => ∃ k : Nat, k ≤ ps.length ∧ iv = .int .i64 (k : Int) ∧ Hid (S = alwR (ps.drop k) c) ∧ Below W.heap.size W wr) (fun iv _ => ps.length - (intOf iv).toNat)
 case atStart => exact ⟨0, Nat.zero_le _, rfl, Lib.hid HS.out, Below.refl _ _⟩
 case round =>
  obtain ⟨k, hk, rfl, HK, hb⟩ := hrel
  have HBR := Lib.hid hb
  have e0 := cell_keep hb b0
  have e1 := cell_keep hb b1
  have e2 := cell_keep hb b2
  have e3 := cell_keep hb b3
  have HBW := Lib.hid (HB.out.trans (hb.mono HB.out.size))
  by_cases hlt : k < ps.length
  ·have hki : (k : Int) < (ps.length : Int) := by omega
   obtain ⟨bb, off, rfl, hat⟩ := (HV.out.keep HBW.out).at_ hlt
   have HDK := Lib.hid (HD.out k hlt)
   have HPK := Lib.hid (HC.out _ (HG.out _ (List.getElem_mem hlt)))
   generalize ps[k] = p at *
   obtain ⟨c0, c1, c2, c3, -⟩ := hat
   have hz := HBR.out.size
   obtain ⟨gw, hgw⟩ : ∃ g, g = w.heap.size := ⟨_, rfl⟩
   have HGW := Lib.hid hgw
   have hl0 := block_lt_of_cell e0
   have hl1 := block_lt_of_cell c0
   simp only at hl0 hl1
   rw [← hgw] at e0 e1 e2 e3 hl0 ⊢
   clear hgw hb b0 b1 b2 b3
   go_upto_region 4 with fail
   refine wp_region_grew (by kernel_rfl) (by kernel_rfl) ?_
   repeat (first
    | go_big_quiet_step (first | (go_at_call 41; exact grew_of (HPK.out _)))
    | quiet_step (first | (go_at_call 41; exact grew_of (HPK.out _))))
   refine wpQuiet_nil ?_
   rintro _ ⟨gg, rfl⟩
   have HFB := Lib.hid (show Below W.heap.size W (grew wr gg) from grewB HBR.out HBR.out.size _)
   by_cases h1 : 0 < sd p c
   ·have HE := Lib.hid (show S = false by rw [HK.out, HDK.out, decide_eq_true h1]; rfl)
    generalize sd p c = X at *
    go_wp2_with fail
    go_ret
    exact ⟨ret_bool HE.out.symm, HB.out.trans (HFB.out.mono HB.out.size)⟩
   ·have HE := Lib.hid (show S = alwR (ps.drop (k + 1)) c by rw [HK.out, HDK.out, decide_eq_false h1]; rfl)
    generalize sd p c = X at *
    go_wp2_with fail
    go_roundw
    case rel => exact ⟨k + 1, by omega, by go_num, HE, HFB.out⟩
    case measure => first | (simp [intOf]; done) | (simp [intOf]; omega)
  ·obtain rfl : k = ps.length := by omega
   have hki : ¬ ((ps.length : Nat) : Int) < ((ps.length : Nat) : Int) := by omega
   have HE := Lib.hid (show S = true by rw [HK.out, List.drop_length]; exact HN.out)
   clear hb
   go_wp2_with fail
   go_ret
   exact ⟨ret_bool HE.out.symm, HBW.out⟩
end Go.Proofs.YtgjmfdhgeahdcaaGreat
/- Whether a point is among others, as the document says it. -/
set_option linter.unusedVariables false
set_option linter.unusedSimpArgs false
namespace Go.Proofs.YtgjmfdhgeahdcaaGreat
open Go Go.RowKit Go.Sort Go.Lib

def hasC (cs : List Co) (c : Co) : Bool := cs.any fun d => decide (d = c)
theorem hasC_drop {cs : List Co} {c : Co} {k : Nat} (hk : k < cs.length) : hasC (cs.drop k) c = (decide (cs[k] = c) || hasC (cs.drop (k + 1)) c) := by unfold hasC; rw [List.drop_eq_getElem_cons hk, List.any_cons]
set_option maxRecDepth 100000 in
set_option maxHeartbeats 4000000 in
theorem hasCorner_any (cs : List Co) (pa : Option Addr) (pc : Nat) (c : Co) (w : World) (hv : Cos.V w pa cs) (hl : cs.length ≤ 1000000) :
    Calls Tryz.prog 74 #[.slice pa cs.length pc, .agg #[.int .i64 c.x, .int .i64 c.y, .int .i64 c.z, .int .i64 c.n]] w fun e w' => e = .returned (.bool (hasC cs c)) ∧ Below w.heap.size w w' := by
 obtain ⟨S, hS⟩ : ∃ S, S = hasC cs c := ⟨_, rfl⟩
 have HS := Lib.hid hS
 have HV := Lib.hid hv
 have HD := Lib.hid (fun k (hk : k < cs.length) => hasC_drop (c := c) hk)
 have HN := Lib.hid (show hasC [] c = false from rfl)
 rw [← hS]
 clear hS hv
 go_enter Tryz.func74, Tryz.ntmps74
 go_upto_region 1 with fail
 refine gen_world (fun W => (W.cell? ⟨w.heap.size, 0, none⟩ = some (.int .i64 c.x) ∧ W.cell? ⟨w.heap.size, 1, none⟩ = some (.int .i64 c.y) ∧ W.cell? ⟨w.heap.size, 2, none⟩ = some (.int .i64 c.z) ∧ W.cell? ⟨w.heap.size, 3, none⟩ = some (.int .i64 c.n)) ∧ Below w.heap.size w W) ⟨⟨by simp [go_sem], by simp [go_sem], by simp [go_sem], by simp [go_sem]⟩, by repeat (first | (with_reducible assumption) | exact Below.refl _ _ | (refine Below.setCell ?_ (by first | omega | (simp; omega) | (simp; done)) _) | (refine Below.alloc ?_ (by first | omega | (simp; omega) | (simp; done)) _) | (refine Below.drew ?_))⟩ ?_
 rintro W ⟨⟨b0, b1, b2, b3⟩, hb⟩
 have HB := Lib.hid hb
 clear hb
 go_wp2_with fail
 go_loopw [5] (fun iv wr => ∃ k : Nat, k ≤ cs.length ∧ iv = .int .i64 (k : Int) ∧ Hid (S = hasC (cs.drop k) c) ∧ Below W.heap.size W wr) (fun iv _ => cs.length - (intOf iv).toNat)
 case atStart => exact ⟨0, Nat.zero_le _, rfl, Lib.hid HS.out, Below.refl _ _⟩
 case round =>
  obtain ⟨k, hk, rfl, HK, hb⟩ := hrel
  have HBR := Lib.hid hb
  have e0 := cell_keep hb b0
  have e1 := cell_keep hb b1
  have e2 := cell_keep hb b2
  have e3 := cell_keep hb b3
  have HBW := Lib.hid (HB.out.trans (hb.mono HB.out.size))
  by_cases hlt : k < cs.length
  ·have hki : (k : Int) < (cs.length : Int) := by omega
   obtain ⟨bb, off, rfl, hat⟩ := (HV.out.keep HBW.out).at_ hlt
   have HDK := Lib.hid (HD.out k hlt)
   generalize cs[k] = p at *
   obtain ⟨c0, c1, c2, c3, -⟩ := hat
   have hz := HBR.out.size
   obtain ⟨gw, hgw⟩ : ∃ g, g = w.heap.size := ⟨_, rfl⟩
   have HGW := Lib.hid hgw
   have hl0 := block_lt_of_cell e0
   have hl1 := block_lt_of_cell c0
   simp only at hl0 hl1
   rw [← hgw] at e0 e1 e2 e3 hl0 ⊢
   clear hgw hb b0 b1 b2 b3
   have heq := Co_eql p c
   go_upto_region 4 with fail
   refine wp_region_grew (by kernel_rfl) (by kernel_rfl) ?_
   repeat (first | go_big_quiet_step (fail) | quiet_step (fail))
   refine wpQuiet_nil ?_
   rintro _ ⟨gg, rfl⟩
   have HFB := Lib.hid (show Below W.heap.size W (grew wr gg) from grewB HBR.out HBR.out.size _)
   cases hq : decide (p = c) with
   | true =>
    have HE := Lib.hid (show S = true by rw [HK.out, HDK.out, hq]; rfl)
    go_wp2_with fail
    go_ret
    exact ⟨ret_bool HE.out.symm, HB.out.trans (HFB.out.mono HB.out.size)⟩
   | false =>
    have HE := Lib.hid (show S = hasC (cs.drop (k + 1)) c by rw [HK.out, HDK.out, hq]; rfl)
    go_wp2_with fail
    go_roundw
    case rel => exact ⟨k + 1, by omega, by go_num, HE, HFB.out⟩
    case measure => first | (simp [intOf]; done) | (simp [intOf]; omega)
  ·obtain rfl : k = cs.length := by omega
   have hki : ¬ ((cs.length : Nat) : Int) < ((cs.length : Nat) : Int) := by omega
   have HE := Lib.hid (show S = false by rw [HK.out, List.drop_length]; exact HN.out)
   clear hb
   go_wp2_with fail
   go_ret
   exact ⟨ret_bool HE.out.symm, HBW.out⟩
end Go.Proofs.YtgjmfdhgeahdcaaGreat
/- Whether points lie within each plane, as the document says it. -/
set_option linter.unusedVariables false
set_option linter.unusedSimpArgs false
namespace Go.Proofs.YtgjmfdhgeahdcaaGreat
open Go Go.RowKit Go.Sort Go.Lib

theorem alwR_eq (l : List Pl) (c : Co) : alwR l c = alw l c := by unfold alwR alw; congr 1; funext p; rw [decide_not]
end Go.Proofs.YtgjmfdhgeahdcaaGreat
