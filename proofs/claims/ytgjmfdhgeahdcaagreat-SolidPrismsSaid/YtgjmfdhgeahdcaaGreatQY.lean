/- Whether two solids are cell by cell the same. -/
import Derived.Test.YtgjmfdhgeahdcaaGreatQO
set_option linter.unusedVariables false
set_option linter.unusedSimpArgs false
namespace Go.Proofs.YtgjmfdhgeahdcaaGreat
open Go Go.RowKit Go.Sort Go.Lib

set_option maxRecDepth 100000 in
set_option maxHeartbeats 8000000 in
theorem sameSolid_any (A B : List Cell) (aa ba : Option Addr) (an bn : Nat) (w : World) (hla : A.length ≤ 1000) (hlb : B.length ≤ 1000) (hv : Cells.V w aa A) (hu : Cells.V w ba B) (hpa : ∀ x ∈ A, x.planes.length ≤ 100000) (hpb : ∀ x ∈ B, x.planes.length ≤ 100000) :
    Calls Tryz.prog 7 #[.agg #[.slice aa A.length an], .agg #[.slice ba B.length bn]] w fun e w' => e = .returned (.bool (decide (A.map (·.planes) = B.map (·.planes)))) ∧ Below w.heap.size w w' := by
 have hmix : Tryz.prog.follows .mixedOrders = true := by kernel_rfl
 obtain ⟨X, hX⟩ : ∃ X, X = A.map (·.planes) := ⟨_, rfl⟩
 obtain ⟨Y, hY⟩ : ∃ Y, Y = B.map (·.planes) := ⟨_, rfl⟩
 obtain ⟨S, hS⟩ : ∃ S, S = decide (X = Y) := ⟨_, rfl⟩
 rw [← hX, ← hY, ← hS]
 have HS := Lib.hid hS
 have HX := Lib.hid hX
 have HY := Lib.hid hY
 have HXL := Lib.hid (show X.length = A.length by rw [hX]; simp)
 have HYL := Lib.hid (show Y.length = B.length by rw [hY]; simp)
 have HV := Lib.hid hv
 have HU := Lib.hid hu
 have HPA := Lib.hid hpa
 have HPB := Lib.hid hpb
 clear hS hX hY hv hu hpa hpb
 go_enter Tryz.func7, Tryz.ntmps7
 go_upto_region 1 with fail
 refine gen_world (fun W => W.cell? ⟨w.heap.size, 0, none⟩ = some (.slice aa A.length an) ∧ W.cell? ⟨w.heap.size + 1, 0, none⟩ = some (.slice ba B.length bn) ∧ Below w.heap.size w W) ⟨by simp [go_sem], by simp [go_sem], by repeat (first | (with_reducible assumption) | exact Below.refl _ _ | (refine Below.setCell ?_ (by first | omega | (simp; omega) | (simp; done)) _) | (refine Below.alloc ?_ (by first | omega | (simp; omega) | (simp; done)) _) | (refine Below.drew ?_))⟩ ?_
 rintro W ⟨b0, b1, hb⟩
 have HB0 := Lib.hid hb
 clear hb
 obtain ⟨gw, hgw⟩ : ∃ g, g = w.heap.size := ⟨_, rfl⟩
 rw [← hgw] at b0 b1 ⊢
 clear hgw
 by_cases hlen : A.length = B.length
 ·have hli : (A.length : Int) = (B.length : Int) := by omega
  have hli2 : ((A.length : Int) != (B.length : Int)) = false := by simpa using hli
  have HLEN := Lib.hid hlen
  have HST := Lib.hid (show S = decide (X.drop 0 = Y.drop 0) from HS.out)
  clear hlen
  go_wp2_with fail
  go_loopw [5] (fun iv wr => ∃ k : Nat, k ≤ A.length ∧ iv = .int .i64 (k : Int) ∧ Hid (S = decide (X.drop k = Y.drop k)) ∧ Below W.heap.size W wr) (fun iv _ => A.length - (intOf iv).toNat)
  case atStart => exact ⟨0, Nat.zero_le _, rfl, HST, Below.refl _ _⟩
  case round =>
   obtain ⟨k, hk, rfl, HK, hb⟩ := hrel
   obtain ⟨W1, rfl⟩ : ∃ W1 : World, W1 = wr := ⟨_, rfl⟩
   have HB1 := Lib.hid hb
   have HBW := Lib.hid (HB0.out.trans (hb.mono HB0.out.size))
   have c0 := cell_keep hb b0
   have c1 := cell_keep hb b1
   by_cases hlt : k < A.length
   ·have hki : (k : Int) < (A.length : Int) := by omega
    have hlt2 : k < B.length := by have := HLEN.out; omega
    have hki2 : (k : Int) < (B.length : Int) := by omega
    obtain ⟨p, off, rfl, hat⟩ := (HV.out.keep HBW.out).at_ hlt
    obtain ⟨q, off2, rfl, hat2⟩ := (HU.out.keep HBW.out).at_ hlt2
    have hx1 : k < X.length := by rw [HXL.out]; exact hlt
    have hy1 : k < Y.length := by rw [HYL.out]; exact hlt2
    have HD := Lib.hid (eq_drop hx1 hy1)
    rw [show X[k] = A[k].planes by simp [HX.out], show Y[k] = B[k].planes by simp [HY.out]] at HD
    have HP1 := Lib.hid (HPA.out _ (List.getElem_mem hlt))
    have HP2 := Lib.hid (HPB.out _ (List.getElem_mem hlt2))
    generalize A[k] = x at *
    generalize B[k] = y at *
    obtain ⟨xa, xc, x0, xv, -⟩ := hat
    obtain ⟨ya, yc, y0, yv, -⟩ := hat2
    rw [Nat.mul_one] at x0 y0
    have HXV := Lib.hid xv
    have HYV := Lib.hid yv
    have hk0 : (0 : Int) ≤ (k : Int) := by omega
    clear hb b0 b1 xv yv hx1 hy1
    go_upto_region 6 with fail
    have kx0 : ∀ u : KW (fun W' => Below W1.heap.size W1 W'), u.w.cell? ⟨gw, 0, none⟩ = some (.slice (some ⟨p, off, none⟩) A.length an) ∧ u.w.cell? ⟨gw + 1, 0, none⟩ = some (.slice (some ⟨q, off2, none⟩) B.length bn) ∧ u.w.cell? ⟨p, off + k, none⟩ = some (.slice xa x.planes.length xc) ∧ u.w.cell? ⟨q, off2 + k, none⟩ = some (.slice ya y.planes.length yc) := fun u => ⟨cell_keep u.ok c0, cell_keep u.ok c1, cell_keep u.ok x0, cell_keep u.ok y0⟩
    haveI nn1 : Nonempty (KW (fun W' => Below W1.heap.size W1 W')) := ⟨⟨W1, Below.refl _ _⟩⟩
    refine wp_region_tree (fun w' => ∃ u : KW (fun W' => Below W1.heap.size W1 W'), w' = u.w) 10 (.take 0 (.take 1 (.take 2 (.take 3 (.take 4 (.take 5 (.take 6 (.take 7 (.take 8 (.take 9 .done)))))))))) hmix (by kernel_rfl) (KW.mk' (Below.refl _ _).drew) ?_
    have HC0 := Lib.hid (show Below W1.heap.size W1 W1.drew from (Below.refl _ _).drew)
    generalize W1.drew = ww0 at *
    repeat (refine wpTree_take ?_; simp only [nthOp]; (first | go_big_quiet_step (fail) | quiet_step (fail)); refine wpQuiet_nil ?_)
    refine wpTree_done ?_
    simp only [List.drop_succ_cons, List.drop_zero]
    have HSC := Lib.hid (sameCell_any x.planes xa xc y.planes ya yc ww0 (by have := HP1.out; omega) (by have := HP2.out; omega) (HXV.out.keep HC0.out) (HYV.out.keep HC0.out))
    generalize hq : decide (x.planes = y.planes) = Q at *
    have HQ := Lib.hid hq
    clear kx0 nn1 x0 y0 c0 c1 hq
    go_wp2_with (go_at_call 25; refine HSC.out.mono ?_; rintro e w3 ⟨rfl, hb3⟩; have HB3 := Lib.hid (HB1.out.trans ((HC0.out.trans (hb3.mono HC0.out.size)).mono HB1.out.size)); clear hb3)
    refine NP_mk ?_
    cases Q with
    | true =>
     have HE := Lib.hid (show S = decide (X.drop (k + 1) = Y.drop (k + 1)) by rw [HK.out, HD.out]; simp)
     go_wp2_with fail
     go_roundw
     case rel => exact ⟨k + 1, by omega, by go_num, HE, HB3.out⟩
     case measure => first | (simp [intOf]; done) | (simp [intOf]; omega)
    | false =>
     have HE := Lib.hid (show S = false by rw [HK.out, HD.out]; simp)
     go_wp2_with fail
     go_ret
     exact ⟨ret_bool HE.out.symm, HB0.out.trans (HB3.out.mono HB0.out.size)⟩
   ·obtain rfl : k = A.length := by omega
    have hki : ¬ ((A.length : Nat) : Int) < ((A.length : Nat) : Int) := by omega
    have HE := Lib.hid (show S = true by rw [HK.out]; exact eq_end (by rw [HXL.out]; exact Nat.le_refl _) (by rw [HYL.out]; exact Nat.le_of_eq HLEN.out.symm))
    clear hb
    go_wp2_with fail
    go_ret
    exact ⟨ret_bool HE.out.symm, HBW.out⟩
 ·have hne : ¬ (A.length : Int) = (B.length : Int) := by omega
  have HE := Lib.hid (show S = false by rw [HS.out]; exact eq_len (by rw [HXL.out, HYL.out]; exact hlen))
  have hne2 : ((A.length : Int) != (B.length : Int)) = true := by simpa using hne
  go_wp2_with fail
  go_ret
  exact ⟨ret_bool HE.out.symm, HB0.out⟩
end Go.Proofs.YtgjmfdhgeahdcaaGreat
