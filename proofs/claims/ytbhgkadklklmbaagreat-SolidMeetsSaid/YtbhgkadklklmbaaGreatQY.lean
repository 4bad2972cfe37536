/- Whether two solids are cell by cell the same. -/
import Derived.Test.YtbhgkadklklmbaaGreatQO
import Derived.Test.YtbhgkadklklmbaaGreatQS
import Derived.Test.YtbhgkadklklmbaaGreatQX
import Derived.Test.YtbhgkadklklmbaaGreatQG
import Derived.Test.YtbhgkadklklmbaaGreatQD
import Derived.Test.YtbhgkadklklmbaaGreatQU
import Derived.Test.YtbhgkadklklmbaaGreatQW
set_option linter.unusedVariables false
set_option linter.unusedSimpArgs false
namespace Go.Proofs.YtbhgkadklklmbaaGreat
open Go Go.RowKit Go.Sort Go.Lib

set_option maxRecDepth 100000 in
set_option maxHeartbeats 8000000 in
theorem sameSolid_any (A B : List Cell) (aa ba : Option Addr) (an bn : Nat) (w : World) (hla : A.length ≤ 1000) (hlb : B.length ≤ 1000) (hv : Cells.V w aa A) (hu : Cells.V w ba B) (hpa : ∀ x ∈ A, x.planes.length ≤ 100000) (hpb : ∀ x ∈ B, x.planes.length ≤ 100000) :
    Calls Tryz.prog 58 #[.agg #[.slice aa A.length an], .agg #[.slice ba B.length bn]] w fun e w' => e = .returned (.bool (decide (A.map (·.planes) = B.map (·.planes)))) ∧ Below w.heap.size w w' := by
 have hmix : Tryz.prog.follows .mixedOrders = true := by kernel_rfl
 obtain ⟨X, hX⟩ : ∃ X, X = A.map (·.planes) := ⟨_, rfl⟩
 obtain ⟨Y, hY⟩ : ∃ Y, Y = B.map (·.planes) := ⟨_, rfl⟩
 obtain ⟨S, hS⟩ : ∃ S, S = decide (X = Y) := ⟨_, rfl⟩
 rw [← hX, ← hY, ← hS]
 have HS := Lib.hid hS
 have HX := Lib.hid hX
 have HY := Lib.hid hY
 have HXL := Lib.hid (show X.length = A.length by rw [hX]; simp)
 have HYL := Lib.hid (show Y.length = B.length by rw [hY]; simp)
 have HV := Lib.hid hv
 have HU := Lib.hid hu
 have HPA := Lib.hid hpa
 have HPB := Lib.hid hpb
 clear hS hX hY hv hu hpa hpb
 go_enter Tryz.func58, Tryz.ntmps58
 go_upto_region 1 with fail
 refine gen_world (fun W => W.cell? ⟨w.heap.size, 0, none⟩ = some (.slice aa A.length an) ∧ W.cell? ⟨w.heap.size + 1, 0, none⟩ = some (.slice ba B.length bn) ∧ Below w.heap.size w W) ⟨by simp [go_sem], by simp [go_sem], by repeat (first | (with_reducible assumption) | exact Below.refl _ _ | (refine Below.setCell ?_ (by first | omega | (simp; omega) | (simp; done)) _) | (refine Below.alloc ?_ (by first | omega | (simp; omega) | (simp; done)) _) | (refine Below.drew ?_))⟩ ?_
 rintro W ⟨b0, b1, hb⟩
 have HB0 := Lib.hid hb
 clear hb
 obtain ⟨gw, hgw⟩ : ∃ g, g = w.heap.size := ⟨_, rfl⟩
 rw [← hgw] at b0 b1 ⊢
 clear hgw
 by_cases hlen : A.length = B.length
 ·have hli : (A.length : Int) = (B.length : Int) := by omega
  have hli2 : ((A.length : Int) != (B.length : Int)) = false := by simpa using hli
  have HLEN := Lib.hid hlen
  have HST := Lib.hid (show S = decide (X.drop 0 = Y.drop 0) from HS.out)
  clear hlen
  go_wp2_with fail
  go_loopw [5] (fun iv wr => ∃ k : Nat, k ≤ A.length ∧ iv = .int .i64 (k : Int) ∧ Hid (S = decide (X.drop k = Y.drop k)) ∧ Below W.heap.size W wr) (fun iv _ => A.length - (intOf iv).toNat)
  case atStart => exact ⟨0, Nat.zero_le _, rfl, HST, Below.refl _ _⟩
  case round =>
   obtain ⟨k, hk, rfl, HK, hb⟩ := hrel
   obtain ⟨W1, rfl⟩ : ∃ W1 : World, W1 = wr := ⟨_, rfl⟩
   have HB1 := Lib.hid hb
   have HBW := Lib.hid (HB0.out.trans (hb.mono HB0.out.size))
   have c0 := cell_keep hb b0
   have c1 := cell_keep hb b1
   by_cases hlt : k < A.length
   ·have hki : (k : Int) < (A.length : Int) := by omega
    have hlt2 : k < B.length := by have := HLEN.out; omega
    have hki2 : (k : Int) < (B.length : Int) := by omega
    obtain ⟨p, off, rfl, hat⟩ := (HV.out.keep HBW.out).at_ hlt
    obtain ⟨q, off2, rfl, hat2⟩ := (HU.out.keep HBW.out).at_ hlt2
    have hx1 : k < X.length := by rw [HXL.out]; exact hlt
    have hy1 : k < Y.length := by rw [HYL.out]; exact hlt2
    have HD := Lib.hid (eq_drop hx1 hy1)
    rw [show X[k] = A[k].planes by simp [HX.out], show Y[k] = B[k].planes by simp [HY.out]] at HD
    have HP1 := Lib.hid (HPA.out _ (List.getElem_mem hlt))
    have HP2 := Lib.hid (HPB.out _ (List.getElem_mem hlt2))
    generalize A[k] = x at *
    generalize B[k] = y at *
    obtain ⟨xa, xc, x0, xv, -⟩ := hat
    obtain ⟨ya, yc, y0, yv, -⟩ := hat2
    rw [Nat.mul_one] at x0 y0
    have HXV := Lib.hid xv
    have HYV := Lib.hid yv
    have hk0 : (0 : Int) ≤ (k : Int) := by omega
    clear hb b0 b1 xv yv hx1 hy1
    go_upto_region 6 with fail
    have kx0 : ∀ u : KW (fun W' => Below W1.heap.size W1 W'), u.w.cell? ⟨gw, 0, none⟩ = some (.slice (some ⟨p, off, none⟩) A.length an) ∧ u.w.cell? ⟨gw + 1, 0, none⟩ = some (.slice (some ⟨q, off2, none⟩) B.length bn) ∧ u.w.cell? ⟨p, off + k, none⟩ = some (.slice xa x.planes.length xc) ∧ u.w.cell? ⟨q, off2 + k, none⟩ = some (.slice ya y.planes.length yc) := fun u => ⟨cell_keep u.ok c0, cell_keep u.ok c1, cell_keep u.ok x0, cell_keep u.ok y0⟩
    haveI nn1 : Nonempty (KW (fun W' => Below W1.heap.size W1 W')) := ⟨⟨W1, Below.refl _ _⟩⟩
    refine wp_region_tree (fun w' => ∃ u : KW (fun W' => Below W1.heap.size W1 W'), w' = u.w) 10 (.take 0 (.take 1 (.take 2 (.take 3 (.take 4 (.take 5 (.take 6 (.take 7 (.take 8 (.take 9 .done)))))))))) hmix (by kernel_rfl) (KW.mk' (Below.refl _ _).drew) ?_
    have HC0 := Lib.hid (show Below W1.heap.size W1 W1.drew from (Below.refl _ _).drew)
    generalize W1.drew = ww0 at *
    repeat (refine wpTree_take ?_; simp only [nthOp]; (first | go_big_quiet_step (fail) | quiet_step (fail)); refine wpQuiet_nil ?_)
    refine wpTree_done ?_
    simp only [List.drop_succ_cons, List.drop_zero]
    have HSC := Lib.hid (sameCell_any x.planes xa xc y.planes ya yc ww0 (by have := HP1.out; omega) (by have := HP2.out; omega) (HXV.out.keep HC0.out) (HYV.out.keep HC0.out))
    generalize hq : decide (x.planes = y.planes) = Q at *
    have HQ := Lib.hid hq
    clear kx0 nn1 x0 y0 c0 c1 hq
    go_wp2_with (go_at_call 27; refine HSC.out.mono ?_; rintro e w3 ⟨rfl, hb3⟩; have HB3 := Lib.hid (HB1.out.trans ((HC0.out.trans (hb3.mono HC0.out.size)).mono HB1.out.size)); clear hb3)
    refine NP_mk ?_
    cases Q with
    | true =>
     have HE := Lib.hid (show S = decide (X.drop (k + 1) = Y.drop (k + 1)) by rw [HK.out, HD.out]; simp)
     go_wp2_with fail
     go_roundw
     case rel => exact ⟨k + 1, by omega, by go_num, HE, HB3.out⟩
     case measure => first | (simp [intOf]; done) | (simp [intOf]; omega)
    | false =>
     have HE := Lib.hid (show S = false by rw [HK.out, HD.out]; simp)
     go_wp2_with fail
     go_ret
     exact ⟨ret_bool HE.out.symm, HB0.out.trans (HB3.out.mono HB0.out.size)⟩
   ·obtain rfl : k = A.length := by omega
    have hki : ¬ ((A.length : Nat) : Int) < ((A.length : Nat) : Int) := by omega
    have HE := Lib.hid (show S = true by rw [HK.out]; exact eq_end (by rw [HXL.out]; exact Nat.le_refl _) (by rw [HYL.out]; exact Nat.le_of_eq HLEN.out.symm))
    clear hb
    go_wp2_with fail
    go_ret
    exact ⟨ret_bool HE.out.symm, HBW.out⟩
 ·have hne : ¬ (A.length : Int) = (B.length : Int) := by omega
  have HE := Lib.hid (show S = false by rw [HS.out]; exact eq_len (by rw [HXL.out, HYL.out]; exact hlen))
  have hne2 : ((A.length : Int) != (B.length : Int)) = true := by simpa using hne
  go_wp2_with fail
  go_ret
  exact ⟨ret_bool HE.out.symm, HB0.out⟩
end Go.Proofs.YtbhgkadklklmbaaGreat
/- The document's common cell of two. -/
set_option linter.unusedVariables false
set_option linter.unusedSimpArgs false
namespace Go.Proofs.YtbhgkadklklmbaaGreat
open Go Go.RowKit Go.Sort Go.Lib

def comV (l m : List Pl) : List Pl := if comR l m = true then nf (l ++ m) else []
set_option maxRecDepth 100000 in
set_option maxHeartbeats 8000000 in
theorem commonR_any (ps qs : List Pl) (pa qa : Option Addr) (pc qc : Nat) (w : World) (hv : Pls.V w pa ps) (hu : Pls.V w qa qs) (hg : Good ps) (hh : Good qs) (hl : ps.length + qs.length ≤ 40) :
    Calls Tryz.prog 123 #[.agg #[.slice pa ps.length pc], .agg #[.slice qa qs.length qc]] w fun e w' => ∃ va vc, e = .returned (.tuple #[.agg #[.slice va (comV ps qs).length vc], .bool (comR ps qs)]) ∧ w'.ownsRow w.heap.size 26 4 (.slice va (comV ps qs).length vc) (comV ps qs).length ((comV ps qs).flatMap cellsPl) ∧ Below w.heap.size w w' := by
 obtain ⟨J, hJ⟩ : ∃ J, J = ps ++ qs := ⟨_, rfl⟩
 obtain ⟨V, hV⟩ : ∃ V, V = comV ps qs := ⟨_, rfl⟩
 obtain ⟨S, hS⟩ : ∃ S, S = comR ps qs := ⟨_, rfl⟩
 rw [← hV, ← hS]
 have HVE := Lib.hid (show V = if S = true then nf J else [] by rw [hV, hS, hJ]; rfl)
 have HSE := Lib.hid (show S = insid J (refP J) by rw [hS, hJ, insid_refP]; rfl)
 have HGJ := Lib.hid (show Good J by rw [hJ]; exact hg.append hh)
 have HLJ := Lib.hid (show J.length ≤ 40 by rw [hJ, List.length_append]; exact hl)
 have HJN := Lib.hid (fun W (h : Below w.heap.size w W) => joined_any ps qs pa qa pc qc W (hv.keep h) (hu.keep h) (by omega) (by omega))
 rw [← hJ] at HJN
 have HRI := Lib.hid (show ∀ c ∈ refP J, c.in_ from fun c hc => corn_in HGJ.out c (mem_refP.1 hc))
 have HRL := Lib.hid (show (refP J).length ≤ 1000000 by rw [(perm_refP J).length_eq]; have := corn_len (l := J) HLJ.out; omega)
 have HPT := Lib.hid (fun W ja jc (h : Pls.V W ja J) => pointsR_any J ja jc W HGJ.out HLJ.out h)
 generalize refP J = RP at *
 clear hv hu hg hh hl hV hS hJ
 go_enter Tryz.func123, Tryz.ntmps123
 go_upto_region 1 with fail
 refine gen_world (fun W => W.cell? ⟨w.heap.size, 0, none⟩ = some (.slice pa ps.length pc) ∧ W.cell? ⟨w.heap.size + 1, 0, none⟩ = some (.slice qa qs.length qc) ∧ (W.cell? ⟨w.heap.size + 2, 0, none⟩ = some (.slice none 0 0) ∧ W.frozen? ⟨w.heap.size + 2, 0, none⟩ = false) ∧ Below w.heap.size w W) ⟨by simp [go_sem], by simp [go_sem], ⟨by simp [go_sem], by simp [go_sem]⟩, by repeat (first | (with_reducible assumption) | exact Below.refl _ _ | (refine Below.setCell ?_ (by first | omega | (simp; omega) | (simp; done)) _) | (refine Below.alloc ?_ (by first | omega | (simp; omega) | (simp; done)) _) | (refine Below.drew ?_))⟩ ?_
 rintro W ⟨b0, b1, ⟨r0, rf0⟩, hb⟩
 have HB0 := Lib.hid hb
 obtain ⟨gw, hgw⟩ : ∃ g, g = w.heap.size := ⟨_, rfl⟩
 have HGW := Lib.hid hgw
 rw [← hgw] at b0 b1 r0 rf0 ⊢
 simp only [Nat.add_assoc, Nat.reduceAdd]
 have HJW := Lib.hid (HJN.out W hb)
 clear hgw hb HJN
 go_upto_region 2 with (go_at_call 97; refine HJW.out.mono ?_; rintro e w1 ⟨ja, jc, rfl, ho, hb⟩; have rf0 := frozen_keep hb (block_lt_of_cell r0) rf0; have r0 := cell_keep hb r0; have HB1 := Lib.hid (HB0.out.trans (hb.mono HB0.out.size)); have HJV := Lib.hid (show Pls.V w1 ja J from ownPlV (fun p hp => Pl.in_.wf (HGJ.out p hp).1) ho); clear ho hb)
 have HP1 := Lib.hid (HPT.out w1 ja jc HJV.out)
 have HIN := Lib.hid (fun ra rc W (h1 : Pls.V W ja J) (h2 : Cos.V W ra RP) => inside_any J ja jc RP ra rc W h1 (by have := HLJ.out; omega) (fun p hp => (HGJ.out p hp).1) h2 HRL.out HRI.out)
 rw [← HSE.out] at HIN
 have HNO := Lib.hid (fun W (h : Pls.V W ja J) => normalR2_any J ja jc W HGJ.out HLJ.out h)
 clear b0 b1
 cases S with
 | true =>
  have HV3 := Lib.hid (show V = nf J by rw [HVE.out]; rfl)
  rw [← HV3.out] at HNO
  go_wp2_with (first
   | (go_at_call 31; refine HP1.out.mono ?_; rintro e w2 ⟨ra, rc, rfl, ho, hb⟩; have rf0 := frozen_keep hb (block_lt_of_cell r0) rf0; have r0 := cell_keep hb r0; have HB2 := Lib.hid (HB1.out.trans (hb.mono HB1.out.size)); have HRV := Lib.hid (ownCoV (fun c hc => Co.in_.wf (HRI.out c hc)) ho); have HJV2 := Lib.hid (HJV.out.keep hb); clear ho hb)
   | (go_at_call 79; refine (HIN.out ra rc _ HJV2.out HRV.out).mono ?_; rintro e w3 ⟨rfl, hb⟩; have rf0 := frozen_keep hb (block_lt_of_cell r0) rf0; have r0 := cell_keep hb r0; have HB3 := Lib.hid (HB2.out.trans (hb.mono HB2.out.size)); have HJV3 := Lib.hid (HJV2.out.keep hb); clear hb)
   | (go_at_call 28; refine (HNO.out _ HJV3.out).mono ?_; rintro e w4 ⟨na, nc, rfl, ho, hb⟩; have HO4 := Lib.hid ho; have HBL := Lib.hid (block_lt_of_cell r0); have rf0 := frozen_keep hb (block_lt_of_cell r0) rf0; have r0 := cell_keep hb r0; have HB4 := Lib.hid (HB3.out.trans (hb.mono HB3.out.size)); clear ho hb))
  refine bodyPost_ret (v := .tuple #[.agg #[.slice na V.length nc], .bool true]) ?_ ?_ ?_
  ·simp [results, Tryz.results123, go_sem, got1 r0]
  ·rfl
  ·have hbl := HBL.out
   refine ⟨na, nc, rfl, own_mono (HO4.out.kept (grownBy_set (a := ⟨gw + 2, 0, none⟩)) (.inr fun e => ?_)) (by have := HB3.out.size; omega), HB4.out.setCell (by have := HGW.out; simp only; omega) _⟩
   have h1 := (own_lt HO4.out e).1
   simp only at h1
   omega
 | false =>
  have HV3 := Lib.hid (show V = [] by rw [HVE.out]; rfl)
  go_wp2_with (first
   | (go_at_call 31; refine HP1.out.mono ?_; rintro e w2 ⟨ra, rc, rfl, ho, hb⟩; have rf0 := frozen_keep hb (block_lt_of_cell r0) rf0; have r0 := cell_keep hb r0; have HB2 := Lib.hid (HB1.out.trans (hb.mono HB1.out.size)); have HRV := Lib.hid (ownCoV (fun c hc => Co.in_.wf (HRI.out c hc)) ho); have HJV2 := Lib.hid (HJV.out.keep hb); clear ho hb)
   | (go_at_call 79; refine (HIN.out ra rc _ HJV2.out HRV.out).mono ?_; rintro e w3 ⟨rfl, hb⟩; have rf0 := frozen_keep hb (block_lt_of_cell r0) rf0; have r0 := cell_keep hb r0; have HB3 := Lib.hid (HB2.out.trans (hb.mono HB2.out.size)); have HJV3 := Lib.hid (HJV2.out.keep hb); clear hb))
  refine bodyPost_ret (v := .tuple #[.agg #[.slice none 0 0], .bool false]) ?_ ?_ ?_
  ·simp [results, Tryz.results123, go_sem, got1 r0]
  ·rfl
  ·rw [HV3.out]
   exact ⟨none, 0, rfl, ⟨rfl, .inl ⟨rfl, rfl⟩⟩, HB3.out.setCell (by have := HGW.out; simp only; omega) _⟩
end Go.Proofs.YtbhgkadklklmbaaGreat
/- The document's common cells of two solids. -/
set_option linter.unusedVariables false
set_option linter.unusedSimpArgs false
namespace Go.Proofs.YtbhgkadklklmbaaGreat
open Go Go.RowKit Go.Sort Go.Lib

def meetRT (c : List Pl) (out : List (List Pl)) (y Y : List (List Pl)) (x : List (List Pl)) : Option (List (List Pl)) := match meetRK c out y with | none => none | some r => meetR Y r x
theorem meetRT_nil {c : List Pl} {out Y x : List (List Pl)} : meetRT c out [] Y x = meetR Y out x := rfl
theorem meetRT_cons {c d : List Pl} {out y Y x : List (List Pl)} : meetRT c out (d :: y) Y x = if comR c d = true then (if 16 < (nf (c ++ d)).length ∨ 100 < out.length + 1 then none else meetRT c (out ++ [nf (c ++ d)]) y Y x) else meetRT c out y Y x := by
 unfold meetRT
 rw [meetRK]
 by_cases h : comR c d = true
 ·rw [if_pos h, if_pos h]
  by_cases h2 : 16 < (nf (c ++ d)).length ∨ 100 < out.length + 1
  ·rw [if_pos h2, if_pos h2]
  ·rw [if_neg h2, if_neg h2]
 ·rw [if_neg h, if_neg h]
/-- What stands behind the call of Common. -/
def MeCut (W : World) (V : List Pl) (S : Bool) (u : Nat → Value) (W' : World) : Prop :=
 ∃ (gb : Nat) (va : Option Addr) (vc : Nat), u 9 = .pointer (some ⟨gb, 0, none⟩) ∧ u 10 = .bool S ∧ W'.cell? ⟨gb, 0, none⟩ = some (.slice va V.length vc) ∧ W.heap.size ≤ gb ∧ W'.ownsRow W.heap.size 26 4 (.slice va V.length vc) V.length (V.flatMap cellsPl) ∧ Below W.heap.size W W'
def bothRE (X Y : List (List Pl)) : Int := match meetR Y [] X with | none => 8 | some _ => 0
def bothRV (X Y : List (List Pl)) : List (List Pl) := (meetR Y [] X).getD []
set_option maxRecDepth 100000 in
set_option maxHeartbeats 16000000 in
theorem meetR_any (A B : List Cell) (aa ba : Option Addr) (an bn : Nat) (w : World) (hv : Cells.V w aa A) (hu : Cells.V w ba B) (hla : A.length ≤ 1000) (hlb : B.length ≤ 1000) (hA : ∀ x ∈ A, GoodP x.planes) (hB : ∀ x ∈ B, GoodP x.planes) :
    Calls Tryz.prog 62 #[.agg #[.slice aa A.length an], .agg #[.slice ba B.length bn]] w fun e w' => ∃ va vc, e = .returned (.tuple #[.agg #[.slice va (bothRV (A.map (·.planes)) (B.map (·.planes))).length vc], .int .i64 (bothRE (A.map (·.planes)) (B.map (·.planes)))]) ∧ Cells.V w' va ((bothRV (A.map (·.planes)) (B.map (·.planes))).map Cell.mk) ∧ Below w.heap.size w w' := by
 have hmix : Tryz.prog.follows .mixedOrders = true := by kernel_rfl
 obtain ⟨i0, hi0, hz0, hz1, hz2⟩ := info_parts cellInfo
 have HVA := Lib.hid hv
 have HVB := Lib.hid hu
 have HPA := Lib.hid hA
 have HPB := Lib.hid hB
 obtain ⟨X, hX⟩ : ∃ X, X = A.map (·.planes) := ⟨_, rfl⟩
 obtain ⟨Y, hY⟩ : ∃ Y, Y = B.map (·.planes) := ⟨_, rfl⟩
 rw [← hX, ← hY]
 have HX := Lib.hid hX
 have HY := Lib.hid hY
 obtain ⟨M, hM⟩ : ∃ M, M = bothRE X Y := ⟨_, rfl⟩
 obtain ⟨V0, hV0⟩ : ∃ V, V = bothRV X Y := ⟨_, rfl⟩
 rw [← hM, ← hV0]
 have HM := Lib.hid (show M = match meetR Y [] X with | none => 8 | some _ => 0 from hM)
 have HV0 := Lib.hid (show V0 = (meetR Y [] X).getD [] from hV0)
 clear hv hu hA hB hX hY hM hV0
 go_enter Tryz.func62, Tryz.ntmps62
 go_upto_region 1 with fail
 refine gen_world (fun W => W.cell? ⟨w.heap.size, 0, none⟩ = some (.slice aa A.length an) ∧ W.cell? ⟨w.heap.size + 1, 0, none⟩ = some (.slice ba B.length bn) ∧ (W.cell? ⟨w.heap.size + 2, 0, none⟩ = some (.slice none 0 0) ∧ W.frozen? ⟨w.heap.size + 2, 0, none⟩ = false) ∧ Below w.heap.size w W) ⟨by simp [go_sem], by simp [go_sem], ⟨by simp [go_sem], by simp [go_sem]⟩, by repeat (first | (with_reducible assumption) | exact Below.refl _ _ | (refine Below.setCell ?_ (by first | omega | (simp; omega) | (simp; done)) _) | (refine Below.alloc ?_ (by first | omega | (simp; omega) | (simp; done)) _) | (refine Below.drew ?_))⟩ ?_
 rintro W1 ⟨a0, b0, ⟨r0, rf0⟩, hb⟩
 have HB1 := Lib.hid hb
 obtain ⟨gw, hgw⟩ : ∃ g, g = w.heap.size := ⟨_, rfl⟩
 have HGW := Lib.hid hgw
 rw [← hgw] at a0 b0 r0 rf0 ⊢
 simp only [Nat.add_assoc, Nat.reduceAdd]
 have HA0 := Lib.hid a0
 have HB0 := Lib.hid b0
 have HR0 := Lib.hid (And.intro r0 rf0)
 have HG1 := Lib.hid (show gw + 2 < W1.heap.size from block_lt_of_cell r0)
 clear hgw hb a0 b0 r0 rf0
 go_upto_region 2 with fail
 refine gen_world (fun W => CpSt W1.heap.size W (.slice none 0 0) [] ∧ Below W1.heap.size W1 W) ⟨⟨by simp [go_sem], by simp [go_sem], ⟨rfl, .inl ⟨rfl, rfl⟩⟩, fun q hq => absurd hq (by simp)⟩, by repeat (first | (with_reducible assumption) | exact Below.refl _ _ | (refine Below.setCell ?_ (by first | omega | (simp; omega) | (simp; done)) _) | (refine Below.alloc ?_ (by first | omega | (simp; omega) | (simp; done)) _) | (refine Below.drew ?_))⟩ ?_
 rintro W2 ⟨hst, hb⟩
 have HST := Lib.hid hst
 have HB2 := Lib.hid hb
 obtain ⟨g9, hg9⟩ : ∃ g, g = W1.heap.size := ⟨_, rfl⟩
 rw [← hg9] at HST HB2 HG1 ⊢
 have HAK := Lib.hid (show ∀ W', Below g9 W1 W' → W'.cell? ⟨gw, 0, none⟩ = some (.slice aa A.length an) from fun W' h => (h.cell (by have := HG1.out; simp only; omega)).trans HA0.out)
 have HBK := Lib.hid (show ∀ W', Below g9 W1 W' → W'.cell? ⟨gw + 1, 0, none⟩ = some (.slice ba B.length bn) from fun W' h => (h.cell (by have := HG1.out; simp only; omega)).trans HB0.out)
 have HRK := Lib.hid (show ∀ W', Below g9 W1 W' → W'.cell? ⟨gw + 2, 0, none⟩ = some (.slice none 0 0) ∧ W'.frozen? ⟨gw + 2, 0, none⟩ = false from fun W' h => ⟨(h.cell HG1.out).trans HR0.out.1, (h.frozen HG1.out).trans HR0.out.2⟩)
 have HBF := Lib.hid (show ∀ W', Below g9 W1 W' → Below w.heap.size w W' from fun W' h => HB1.out.trans (h.mono (by rw [hg9]; exact HB1.out.size)))
 clear hst hb hg9 HA0 HB0 HR0
 go_wp2_with fail
 go_loopw [7] (fun iv wr => ∃ (i : Nat) (v : Value) (L : List PR), i ≤ A.length ∧ iv = .int .i64 (i : Int) ∧ CpSt g9 wr v L ∧ Hid (meetR Y [] X = meetR Y (L.map (·.ps)) (X.drop i)) ∧ Hid (∀ r ∈ L, ∀ b, blk r.pa = some b → g9 < b) ∧ Hid (L.length ≤ 100) ∧ Below g9 W1 wr) (fun iv _ => A.length - (intOf iv).toNat)
 case atStart => exact ⟨0, _, [], Nat.zero_le _, rfl, HST.out, Lib.hid rfl, Lib.hid (fun r hr => absurd hr (by simp)), Lib.hid (by simp), HB2.out⟩
 case round =>
  obtain ⟨i, v, L, hi, rfl, hst, HMM, HOF, HLL, hb⟩ := hrel
  obtain ⟨W3, rfl⟩ : ∃ W3 : World, W3 = wr := ⟨_, rfl⟩
  have HB3 := Lib.hid hb
  have HS3 := Lib.hid hst
  have a3 := HAK.out _ hb
  by_cases hlt : i < A.length
  ·have hki : (i : Int) < (A.length : Int) := by omega
   have HXD := Lib.hid (show X.drop i = A[i].planes :: X.drop (i + 1) by rw [HX.out, List.drop_eq_getElem_cons (by simpa using hlt)]; simp)
   have HPX := Lib.hid (HPA.out _ (List.getElem_mem hlt))
   have HAT := Lib.hid (show ∀ W', Below g9 W1 W' → ∃ ab ao, aa = some ⟨ab, ao, none⟩ ∧ ∃ xa xc, W'.cell? ⟨ab, ao + i, none⟩ = some (.slice xa A[i].planes.length xc) ∧ Pls.V W' xa A[i].planes from fun W' h => by
    obtain ⟨ab, ao, ha, hat⟩ := (HVA.out.keep (HBF.out W' h)).at_ hlt
    obtain ⟨xa, xc, x0, xv, -⟩ := hat
    rw [Nat.mul_one] at x0
    exact ⟨ab, ao, ha, xa, xc, x0, xv⟩)
   generalize A[i].planes = ps at *
   have HMT := Lib.hid (show meetR Y [] X = meetRT ps (L.map (·.ps)) Y Y (X.drop (i + 1)) by rw [HMM.out, HXD.out]; rfl)
   clear hb
   go_wp2_with fail
   go_loopw [8] (fun kv wq => ∃ (k : Nat) (v : Value) (L : List PR), k ≤ B.length ∧ kv = .int .i64 (k : Int) ∧ CpSt g9 wq v L ∧ Hid (meetR Y [] X = meetRT ps (L.map (·.ps)) (Y.drop k) Y (X.drop (i + 1))) ∧ Hid (∀ r ∈ L, ∀ b, blk r.pa = some b → g9 < b) ∧ Hid (L.length ≤ 100) ∧ Below g9 W1 wq) (fun kv _ => B.length - (intOf kv).toNat)
   case atStart => exact ⟨0, v, L, Nat.zero_le _, rfl, HS3.out, HMT, HOF, HLL, HB3.out⟩
   case round =>
    clear HS3 HB3 HMM HOF HLL HMT hst a3
    clear v L
    obtain ⟨k, v, L, hk, rfl, hst, HMT, HOF, HLL, hb⟩ := hrel
    obtain ⟨W5, rfl⟩ : ∃ W5 : World, W5 = wr := ⟨_, rfl⟩
    have HS5 := Lib.hid hst
    have HB5 := Lib.hid hb
    have hg95 := hst.lt
    have a5 := HAK.out _ hb
    have b5 := HBK.out _ hb
    obtain ⟨va0, vc0, rfl, -, -⟩ := own_slice hst.o
    by_cases hlt2 : k < B.length
    ·have hkj : (k : Int) < (B.length : Int) := by omega
     obtain ⟨ab, ao, ha, xa, xc, x0, xv⟩ := HAT.out _ hb
     obtain ⟨bb, bo, hbe, hat⟩ := (HVB.out.keep (HBF.out _ hb)).at_ hlt2
     have HPY := Lib.hid (HPB.out _ (List.getElem_mem hlt2))
     have HYD := Lib.hid (show Y.drop k = B[k].planes :: Y.drop (k + 1) by rw [HY.out, List.drop_eq_getElem_cons (by simpa using hlt2)]; simp)
     obtain ⟨ya, yc, y0, yv, -⟩ := hat
     rw [Nat.mul_one] at y0
     generalize B[k].planes = qs at *
     have HXV := Lib.hid xv
     have HYV := Lib.hid yv
     subst ha hbe
     have n1' : (0 : Int) ≤ (i : Int) := by omega
     have n2' : (0 : Int) ≤ (k : Int) := by omega
     have HCM := Lib.hid (fun W (h : Below W5.heap.size W5 W) => commonR_any ps qs xa ya xc yc W (HXV.out.keep h) (HYV.out.keep h) HPX.out.g HPY.out.g (by have := HPX.out.l; have := HPY.out.l; omega))
     have HCV := Lib.hid (show comV ps qs = if comR ps qs = true then nf (ps ++ qs) else [] from rfl)
     have HST2 := Lib.hid (meetRT_cons (c := ps) (d := qs) (out := L.map (·.ps)) (y := Y.drop (k + 1)) (Y := Y) (x := X.drop (i + 1)))
     rw [← HYD.out] at HST2
     have HCG := Lib.hid (show comR ps qs = true → Good (nf (ps ++ qs)) ∧ (nf (ps ++ qs)).length ≤ 40 from fun _ => ⟨(HPX.out.g.append HPY.out.g).nor _, Nat.le_trans (nor_len _ _) (by have := HPX.out.l; have := HPY.out.l; rw [List.length_append]; omega)⟩)
     generalize comV ps qs = V at *
     generalize comR ps qs = S at *
     generalize nf (ps ++ qs) = N at *
     clear hst hb xv yv
     go_upto_region 8 with fail
     have kx0 : ∀ u : KW (fun W' => Below W5.heap.size W5 W'), u.w.cell? ⟨gw, 0, none⟩ = some (.slice (some ⟨ab, ao, none⟩) A.length an) ∧ u.w.cell? ⟨gw + 1, 0, none⟩ = some (.slice (some ⟨bb, bo, none⟩) B.length bn) ∧ u.w.cell? ⟨ab, ao + i, none⟩ = some (.slice xa ps.length xc) ∧ u.w.cell? ⟨bb, bo + k, none⟩ = some (.slice ya qs.length yc) := fun u => ⟨cell_keep u.ok a5, cell_keep u.ok b5, cell_keep u.ok x0, cell_keep u.ok y0⟩
     haveI nn1 : Nonempty (KW (fun W' => Below W5.heap.size W5 W')) := ⟨⟨W5, Below.refl _ _⟩⟩
     refine wp_cut_slots [26, 27, 28, 29, 30, 31, 32, 33, 34, 35, 36, 25, 37, 38, 9, 10] (MeCut W5 V S) ?_ ?_
     ·refine wp_region_tree (fun w' => ∃ u : KW (fun W' => Below W5.heap.size W5 W'), w' = u.w) 16 (.take 0 (.take 1 (.take 2 (.take 3 (.take 4 (.take 5 (.take 6 (.take 7 (.take 8 (.take 9 (.two 10 (.take 11 (.take 12 (.take 13 (.one 14 (.one 15 .done))))) 14 (.one 10 (.take 11 (.take 12 (.take 13 (.one 15 .done)))))))))))))))) hmix (by kernel_rfl) (KW.mk' (Below.refl _ _).drew) ?_
      have HC := Lib.hid (show Below W5.heap.size W5 W5.drew from (Below.refl _ _).drew)
      generalize W5.drew = wz at *
      (refine wpTree_take ?_; simp only [nthOp]; (first | go_big_quiet_step (fail) | quiet_step (fail)); refine wpQuiet_nil ?_)
      (refine wpTree_take ?_; simp only [nthOp]; (first | go_big_quiet_step (fail) | quiet_step (fail)); refine wpQuiet_nil ?_)
      (refine wpTree_take ?_; simp only [nthOp]; (first | go_big_quiet_step (fail) | quiet_step (fail)); refine wpQuiet_nil ?_)
      (refine wpTree_take ?_; simp only [nthOp]; (first | go_big_quiet_step (fail) | quiet_step (fail)); refine wpQuiet_nil ?_)
      (refine wpTree_take ?_; simp only [nthOp]; (first | go_big_quiet_step (fail) | quiet_step (fail)); refine wpQuiet_nil ?_)
      (refine wpTree_take ?_; simp only [nthOp]; (first | go_big_quiet_step (fail) | quiet_step (fail)); refine wpQuiet_nil ?_)
      (refine wpTree_take ?_; simp only [nthOp]; (first | go_big_quiet_step (fail) | quiet_step (fail)); refine wpQuiet_nil ?_)
      (refine wpTree_take ?_; simp only [nthOp]; (first | go_big_quiet_step (fail) | quiet_step (fail)); refine wpQuiet_nil ?_)
      (refine wpTree_take ?_; simp only [nthOp]; (first | go_big_quiet_step (fail) | quiet_step (fail)); refine wpQuiet_nil ?_)
      (refine wpTree_take ?_; simp only [nthOp]; (first | go_big_quiet_step (fail) | quiet_step (fail)); refine wpQuiet_nil ?_)
      refine wpTree_two ?_ ?_
      ·skip
       simp only [nthOp]
       have HQ := Lib.hid (HCM.out wz HC.out)
       go_wp2_with (go_at_call 123; refine HQ.out.mono ?_; rintro e wt1 ⟨va, vc, rfl, ho, hb⟩; have HO := Lib.hid ho; have HC0 := HC; have HC := Lib.hid (HC.out.trans (hb.mono HC.out.size)); clear ho hb)
       refine One_mk (KW.mk' HC.out) ?_
       have HO := Lib.hid (own_mono HO.out HC0.out.size)
       clear HQ HC0
       (refine wpTree_take ?_; simp only [nthOp]; (first | go_big_quiet_step (fail) | quiet_step (fail)); refine wpQuiet_nil ?_)
       (refine wpTree_take ?_; simp only [nthOp]; (first | go_big_quiet_step (fail) | quiet_step (fail)); refine wpQuiet_nil ?_)
       (refine wpTree_take ?_; simp only [nthOp]; (first | go_big_quiet_step (fail) | quiet_step (fail)); refine wpQuiet_nil ?_)
       refine wpTree_one ?_
       simp only [nthOp]
       go_wp2_with fail
       have hal := (Below.refl wt1.heap.size wt1).alloc (Nat.le_refl _) (.cells #[.slice none 0 0] 24)
       have HNE := Lib.hid (show ∀ b, (Value.slice va V.length vc).ownBlock = some b → b ≠ wt1.heap.size from fun b e => by have h1 := (own_lt HO.out e).2; omega)
       have HO := Lib.hid (own_keep HO.out hal)
       have HZ := Lib.hid (show (wt1.alloc (.cells #[.slice none 0 0] 24)).cell? ⟨wt1.heap.size, 0, none⟩ = some (.slice none 0 0) ∧ (wt1.alloc (.cells #[.slice none 0 0] 24)).frozen? ⟨wt1.heap.size, 0, none⟩ = false from ⟨by simp [go_sem], by simp [go_sem]⟩)
       have HGZ := Lib.hid HC.out.size
       have HC := Lib.hid (HC.out.alloc HC.out.size (.cells #[.slice none 0 0] 24))
       refine One_mk (KW.mk' HC.out) ?_
       clear hal
       generalize (wt1.alloc (.cells #[.slice none 0 0] 24)) = wt2 at *
       generalize wt1.heap.size = gz at *
       refine wpTree_one ?_
       simp only [nthOp]
       obtain ⟨z0, zf0⟩ := HZ.out
       go_wp2_with fail
       have HK := Lib.hid (got1 z0 (.slice va V.length vc))
       have HO := Lib.hid (HO.out.kept (grownBy_set (a := ⟨gz, 0, none⟩) (u := .slice va V.length vc)) (.inr fun e => HNE.out _ e rfl))
       have HC := Lib.hid (HC.out.setCell (p := ⟨gz, 0, none⟩) HGZ.out (.slice va V.length vc))
       clear z0 zf0
       refine One_mk (KW.mk' HC.out) ?_
       generalize (wt2.setCell ⟨gz, 0, none⟩ (.slice va V.length vc)) = wt3 at *
       refine wpTree_done ?_
       simp only [List.drop_succ_cons, List.drop_zero]
       go_wp2_with fail
       refine NP_mk ?_
       exact cut_meet (by simp [forget]) ⟨gz, va, vc, rfl, rfl, HK.out, HGZ.out, HO.out, HC.out⟩
      ·skip
       simp only [nthOp]
       go_wp2_with fail
       have hal := (Below.refl wz.heap.size wz).alloc (Nat.le_refl _) (.cells #[.slice none 0 0] 24)
       have HZ := Lib.hid (show (wz.alloc (.cells #[.slice none 0 0] 24)).cell? ⟨wz.heap.size, 0, none⟩ = some (.slice none 0 0) ∧ (wz.alloc (.cells #[.slice none 0 0] 24)).frozen? ⟨wz.heap.size, 0, none⟩ = false from ⟨by simp [go_sem], by simp [go_sem]⟩)
       have HGZ := Lib.hid HC.out.size
       have HC := Lib.hid (HC.out.alloc HC.out.size (.cells #[.slice none 0 0] 24))
       refine One_mk (KW.mk' HC.out) ?_
       clear hal
       generalize (wz.alloc (.cells #[.slice none 0 0] 24)) = wt4 at *
       generalize wz.heap.size = gz at *
       refine wpTree_one ?_
       simp only [nthOp]
       have HQ := Lib.hid (HCM.out wt4 HC.out)
       have HZL := Lib.hid (show gz < wt4.heap.size from block_lt_of_cell HZ.out.1)
       go_wp2_with (go_at_call 123; refine HQ.out.mono ?_; rintro e wt5 ⟨va, vc, rfl, ho, hb⟩; have HZ := Lib.hid (And.intro (cell_keep hb HZ.out.1) (frozen_keep hb (block_lt_of_cell HZ.out.1) HZ.out.2)); have HO := Lib.hid ho; have HC0 := HC; have HC := Lib.hid (HC.out.trans (hb.mono HC.out.size)); clear ho hb)
       refine One_mk (KW.mk' HC.out) ?_
       have HNE := Lib.hid (show ∀ b, (Value.slice va V.length vc).ownBlock = some b → b ≠ gz from fun b e => by have h1 := (own_lt HO.out e).1; have h2 := HZL.out; omega)
       have HO := Lib.hid (own_mono HO.out HC0.out.size)
       clear HQ HC0
       (refine wpTree_take ?_; simp only [nthOp]; (first | go_big_quiet_step (fail) | quiet_step (fail)); refine wpQuiet_nil ?_)
       (refine wpTree_take ?_; simp only [nthOp]; (first | go_big_quiet_step (fail) | quiet_step (fail)); refine wpQuiet_nil ?_)
       (refine wpTree_take ?_; simp only [nthOp]; (first | go_big_quiet_step (fail) | quiet_step (fail)); refine wpQuiet_nil ?_)
       refine wpTree_one ?_
       simp only [nthOp]
       obtain ⟨z0, zf0⟩ := HZ.out
       go_wp2_with fail
       have HK := Lib.hid (got1 z0 (.slice va V.length vc))
       have HO := Lib.hid (HO.out.kept (grownBy_set (a := ⟨gz, 0, none⟩) (u := .slice va V.length vc)) (.inr fun e => HNE.out _ e rfl))
       have HC := Lib.hid (HC.out.setCell (p := ⟨gz, 0, none⟩) HGZ.out (.slice va V.length vc))
       clear z0 zf0
       refine One_mk (KW.mk' HC.out) ?_
       generalize (wt5.setCell ⟨gz, 0, none⟩ (.slice va V.length vc)) = wt6 at *
       refine wpTree_done ?_
       simp only [List.drop_succ_cons, List.drop_zero]
       go_wp2_with fail
       refine NP_mk ?_
       exact cut_meet (by simp [forget]) ⟨gz, va, vc, rfl, rfl, HK.out, HGZ.out, HO.out, HC.out⟩
     clear kx0 nn1
     rintro u W6 ⟨gb, va, vc, hu9, hu10, c0, hgb, ho, hb⟩
     simp only [forget, List.foldl_cons, List.foldl_nil, hu9, hu10, List.setIfInBounds_toArray, List.set_cons_succ, List.set_cons_zero]
     have HB6 := Lib.hid (HB5.out.trans (hb.mono (Nat.le_of_lt HS5.out.lt)))
     have HS6 := Lib.hid (HS5.out.keep hb)
     have HO6 := Lib.hid ho
     have HGB := Lib.hid hgb
     have HC6 := Lib.hid c0
     clear hu9 hu10 hb ho a5 b5 x0 y0 hgb
     cases S with
     | false =>
      have HNX := Lib.hid (show meetR Y [] X = meetRT ps (L.map (·.ps)) (Y.drop (k + 1)) Y (X.drop (i + 1)) by rw [HMT.out, HST2.out]; rfl)
      go_wp2_with fail
      go_roundw
      case rel => exact ⟨k + 1, _, L, by omega, by go_num, HS6.out, HNX, HOF, HLL, HB6.out⟩
      case measure => first | (simp [intOf]; done) | (simp [intOf]; omega)
     | true =>
      have hVN : V = N := by rw [HCV.out]; rfl
      subst hVN
      obtain ⟨hng, hnl⟩ := HCG.out rfl
      have HNG := Lib.hid hng
      clear hng
      have n0 := c0
      have HV15 := Lib.hid (show (Value.slice va0 L.length vc0).ownBlock ≠ some gb from fun e => by have := (own_lt HS5.out.o e).2; have := HGB.out; omega)
      have HE15 := Lib.hid (show g9 ≠ gb by have := HS5.out.lt; have := HGB.out; omega)
      have hal := (Below.refl W6.heap.size W6).alloc (Nat.le_refl _) (.cells #[.slice va V.length vc] 24)
      have HS13 := Lib.hid (HS6.out.keep hal)
      have HN13 := Lib.hid (cell_keep hal n0)
      have HO13 := Lib.hid (own_keep HO6.out hal)
      have HNW := Lib.hid (show ∀ j u, (cellsPR ⟨V, va, vc⟩)[j]? = some u → (W6.alloc (.cells #[.slice va V.length vc] 24)).cell? ((⟨W6.heap.size, 0, none⟩ : Addr).add j) = some u from news_of (cellsPR ⟨V, va, vc⟩) 24 W6 _ rfl)
      have HB13 := Lib.hid (show Below g9 W1 (W6.alloc (.cells #[.slice va V.length vc] 24)) from HB6.out.trans (hal.mono (Nat.le_of_lt HS6.out.lt)))
      have HQB := Lib.hid (show ∀ b, blk va = some b → W5.heap.size ≤ b ∧ b < (W6.alloc (.cells #[.slice va V.length vc] 24)).heap.size from fun b e => own_blk_lt HO13.out b e)
      have HPR := Lib.hid (show PRok (W6.alloc (.cells #[.slice va V.length vc] 24)) (.slice va0 L.length vc0) ⟨V, va, vc⟩ from ⟨ownPlV (fun x hx => Pl.in_.wf (HNG.out x hx).1) HO13.out, (own_len_le HO13.out).2, by obtain ⟨a1, c1, e1, -, h1⟩ := own_slice HO13.out; injection e1 with e2 e3 e4; rw [e4]; exact h1, fun b e => ⟨(HQB.out b e).2, fun e' => by have h1 := (own_lt HS5.out.o e').2; have h2 := (HQB.out b e).1; omega⟩⟩)
      have HNE := Lib.hid (show ∀ b, blk va = some b → g9 < b from fun b e => by have h2 := (HQB.out b e).1; have := HS5.out.lt; omega)
      have HOFS := Lib.hid (show (Value.slice va0 L.length vc0).ownBlock ≠ some g9 from fun e => by have := (own_lt HS6.out.o e).1; omega)
      have o12 := HS6.out.c
      have f12 := HS6.out.f
      go_upto_region 11 with (at_builtin; refine wpList_append_here _ rfl _ _ 46 rfl (g9 + 1) 24 i0 (.agg #[.slice none 0 0]) 1 24 Tryz.underlying46 hi0 hz0 hz1 hz2 rfl (by decide) (.slice va0 L.length vc0) L.length (L.flatMap cellsPR) rfl HS13.out.o ⟨W6.heap.size, 0, none⟩ 1 1 (cellsPR ⟨V, va, vc⟩) rfl rfl HNW.out (cellsPR_one _) (by decide) (by have := HLL.out; simp only [maxLen]; omega) (by have := HLL.out; omega) (by have := HS6.out.lt; simp; omega) ?_; intro v' w14 ho hg hat; obtain ⟨va', vc', rfl, -, -⟩ := own_slice ho; have HO14 := Lib.hid (show w14.ownsRow (g9 + 1) 24 1 (.slice va' (L.length + 1) vc') (L ++ [(⟨V, va, vc⟩ : PR)]).length ((L ++ [(⟨V, va, vc⟩ : PR)]).flatMap cellsPR) by rw [List.flatMap_append, List.length_append]; simpa using ho); have HGR14 := Lib.hid hg; have HAT2 := Lib.hid hat; have m0 := grown_cell hg HS13.out.c HOFS.out; have mf := (grown_frozen hg HS13.out.c HOFS.out).trans HS13.out.f; clear ho hg hat)
      have HS15 := Lib.hid (HS13.out.put HGR14.out HAT2.out HPR.out (fun b e => by have := HNE.out b e; omega) (fun r hr b e => by have := HOF.out r hr b e; omega) HO14.out)
      have HN15 := Lib.hid (show (w14.setCell ⟨g9, 0, none⟩ (.slice va' (L.length + 1) vc')).cell? ⟨gb, 0, none⟩ = some (.slice va V.length vc) by rw [cell_set_other (by simpa using HE15.out)]; exact grown_cell HGR14.out HN13.out HV15.out)
      have HB15 := Lib.hid ((below_grown HB13.out HGR14.out (Nat.le_of_lt HS13.out.lt) fun j hj => Nat.le_of_succ_le (own_lt HS13.out.o hj).1).setCell (Nat.le_refl _) (.slice va' (L.length + 1) vc') (p := ⟨g9, 0, none⟩))
      have HOF15 := Lib.hid (show ∀ r ∈ L ++ [(⟨V, va, vc⟩ : PR)], ∀ b, blk r.pa = some b → g9 < b from fun r hr b e => by
       rcases List.mem_append.1 hr with hr | hr
       ·exact HOF.out r hr b e
       ·simp only [List.mem_singleton] at hr; subst hr; exact HNE.out b e)
      have HLP := Lib.hid (show (L ++ [(⟨V, va, vc⟩ : PR)]).map (·.ps) = L.map (·.ps) ++ [V] by rw [List.map_append]; rfl)
      have HLE := Lib.hid (show (L ++ [(⟨V, va, vc⟩ : PR)]).length = L.length + 1 by simp)
      generalize (w14.setCell ⟨g9, 0, none⟩ (.slice va' (L.length + 1) vc')) = W15 at HS15 HN15 HB15 ⊢
      clear m0 mf o12 f12 hal n0 c0
      have n15 := HN15.out
      have o15 := HS15.out.c
      obtain ⟨r15, rf15⟩ := HRK.out _ HB15.out
      by_cases h16 : 16 < V.length
      ·have h16i : (16 : Int) < (V.length : Int) := by omega
       have HNO := Lib.hid (show meetR Y [] X = none by rw [HMT.out, HST2.out]; simp [h16])
       have HM3 := Lib.hid (show M = 8 by rw [HM.out, HNO.out])
       have HV3 := Lib.hid (show V0 = [] by rw [HV0.out, HNO.out]; rfl)
       go_wp2_with fail
       refine bodyPost_ret (v := .tuple #[.agg #[.slice none 0 0], .int .i64 8]) ?_ ?_ ?_
       ·simp [results, Tryz.results62, go_sem, got1 r15]
       ·rfl
       ·rw [HM3.out, HV3.out]
        first | exact ⟨none, 0, rfl, fun hne => absurd rfl hne, (HBF.out _ HB15.out).setCell (by have := HGW.out; simp only; omega) _⟩ | exact ⟨none, ⟨0, rfl⟩, fun hne => absurd rfl hne, (HBF.out _ HB15.out).setCell (by have := HGW.out; simp only; omega) _⟩
      ·have h16i : ¬ (16 : Int) < (V.length : Int) := by omega
       by_cases h100 : 100 < L.length + 1
       ·have h100i : (100 : Int) < ((L.length : Int) + 1) := by omega
        have HNO := Lib.hid (show meetR Y [] X = none by rw [HMT.out, HST2.out]; simp [h100])
        have HM3 := Lib.hid (show M = 8 by rw [HM.out, HNO.out])
        have HV3 := Lib.hid (show V0 = [] by rw [HV0.out, HNO.out]; rfl)
        go_wp2_with fail
        refine bodyPost_ret (v := .tuple #[.agg #[.slice none 0 0], .int .i64 8]) ?_ ?_ ?_
        ·simp [results, Tryz.results62, go_sem, got1 r15]
        ·rfl
        ·rw [HM3.out, HV3.out]
         first | exact ⟨none, 0, rfl, fun hne => absurd rfl hne, (HBF.out _ HB15.out).setCell (by have := HGW.out; simp only; omega) _⟩ | exact ⟨none, ⟨0, rfl⟩, fun hne => absurd rfl hne, (HBF.out _ HB15.out).setCell (by have := HGW.out; simp only; omega) _⟩
       ·have h100i : ¬ (100 : Int) < ((L.length : Int) + 1) := by omega
        have HNX := Lib.hid (show meetR Y [] X = meetRT ps ((L ++ [(⟨V, va, vc⟩ : PR)]).map (·.ps)) (Y.drop (k + 1)) Y (X.drop (i + 1)) by rw [HMT.out, HST2.out, HLP.out]; simp [h16, h100])
        go_wp2_with fail
        go_roundw
        case rel => exact ⟨k + 1, _, _, by omega, by go_num, HS15.out, HNX, HOF15, Lib.hid (by have := HLE.out; omega), HB15.out⟩
        case measure => first | (simp [intOf]; done) | (simp [intOf]; omega)
    ·obtain rfl : k = B.length := by omega
     have hkj : ¬ ((B.length : Nat) : Int) < ((B.length : Nat) : Int) := by omega
     have HNX := Lib.hid (show meetR Y [] X = meetR Y (L.map (·.ps)) (X.drop (i + 1)) by rw [HMT.out, show Y.drop B.length = [] from by rw [HY.out]; simp]; exact meetRT_nil)
     clear hst hb
     go_wp2_with fail
     go_roundw
     case rel => exact ⟨i + 1, _, L, by omega, by go_num, HS5.out, HNX, HOF, HLL, HB5.out⟩
     case measure => first | (simp [intOf]; done) | (simp [intOf]; omega)
  ·obtain rfl : i = A.length := by omega
   have hki : ¬ ((A.length : Nat) : Int) < ((A.length : Nat) : Int) := by omega
   have HNO := Lib.hid (show meetR Y [] X = some (L.map (·.ps)) by rw [HMM.out, show X.drop A.length = [] from by rw [HX.out]; simp]; rfl)
   have HM3 := Lib.hid (show M = 0 by rw [HM.out, HNO.out])
   have HV3 := Lib.hid (show V0 = L.map (·.ps) by rw [HV0.out, HNO.out]; rfl)
   obtain ⟨r3, rf3⟩ := HRK.out _ hb
   have o3 := hst.c
   obtain ⟨va, vc, rfl, -, -⟩ := own_slice hst.o
   clear hst hb
   go_wp2_with fail
   refine bodyPost_ret (v := .tuple #[.agg #[.slice va L.length vc], .int .i64 0]) ?_ ?_ ?_
   ·simp [results, Tryz.results62, go_sem, got1 r3]
   ·rfl
   ·rw [HM3.out, HV3.out]
    have hg := HG1.out
    have ho := HS3.out.o.kept (grownBy_set (a := ⟨gw + 2, 0, none⟩) (u := .slice va L.length vc)) (.inr fun e => by have := (own_lt HS3.out.o e).1; simp only at this; omega)
    have hcv := prs_cells ho (v := .slice none 0 0) fun q hq => by
     have h := HS3.out.p q hq
     exact ⟨h.pls.grown (grownBy_set (a := ⟨gw + 2, 0, none⟩)) fun b e e' => by injection e' with e'; have := HOF.out q hq b e; simp only at e'; omega, h.len, h.cap, fun b e => ⟨by rw [size_set]; exact (h.pb b e).1, fun e' => by cases e'⟩⟩
    have hcv2 : Cells.V (W3.setCell ⟨gw + 2, 0, none⟩ (.slice va L.length vc)) va ((L.map (·.ps)).map Cell.mk) := by simpa [List.map_map, Function.comp_def] using hcv
    have hbf := (HBF.out _ HB3.out).setCell (p := ⟨gw + 2, 0, none⟩) (by have := HGW.out; simp only; omega) (.slice va L.length vc)
    first
     | exact ⟨va, vc, by simp, hcv2, hbf⟩
     | exact ⟨va, ⟨vc, by simp⟩, hcv2, hbf⟩
end Go.Proofs.YtbhgkadklklmbaaGreat
