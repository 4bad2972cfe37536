/- The document's first overlap of two solids. -/
import Derived.Test.YtbhgkadklklmbaaGreatQS
import Derived.Test.YtbhgkadklklmbaaGreatQV
import Derived.Test.YtbhgkadklklmbaaGreatQO
import Derived.Test.YtbhgkadklklmbaaGreatQU
set_option linter.unusedVariables false
set_option linter.unusedSimpArgs false
namespace Go.Proofs.YtbhgkadklklmbaaGreat
open Go Go.RowKit Go.Sort Go.Lib

theorem clashRK_step {c d : List Pl} {y : List (List Pl)} {k : Nat} : clashRK c k (d :: y) = if comR c d = true then some (k, corn (c ++ d)) else clashRK c (k + 1) y := rfl
theorem clashR_hit {c : List Pl} {x y : List (List Pl)} {i k : Nat} {cs : List Co} (h : clashRK c 0 y = some (k, cs)) : clashR y i (c :: x) = some (i, k, cs) := by rw [clashR, h]
theorem clashR_miss {c : List Pl} {x y : List (List Pl)} {i : Nat} (h : clashRK c 0 y = none) : clashR y i (c :: x) = clashR y (i + 1) x := by rw [clashR, h]
theorem refP_len {l : List Pl} (h : l.length ≤ 40) : (refP l).length = (corn l).length := (perm_refP l).length_eq
/-- What the document's functions tell of good planes in memory. -/
structure GoodP (l : List Pl) : Prop where
 g : Good l
 l : l.length ≤ 20
set_option maxRecDepth 100000 in
set_option maxHeartbeats 16000000 in
theorem clashesR_any (A B : List Cell) (aa ba : Option Addr) (an bn : Nat) (w : World) (hv : Cells.V w aa A) (hu : Cells.V w ba B) (hla : A.length ≤ 1000) (hlb : B.length ≤ 1000) (hA : ∀ x ∈ A, GoodP x.planes) (hB : ∀ x ∈ B, GoodP x.planes) (O : Option (Nat × Nat × List Co)) (hO : O = clashR (B.map (·.planes)) 0 (A.map (·.planes))) :
    Calls Tryz.prog 65 #[.agg #[.slice aa A.length an], .agg #[.slice ba B.length bn]] w fun e w' => ∃ va vc, e = .returned (.tuple #[.agg #[.int .i64 (lapI O), .int .i64 (lapJ O), .slice va (lapC O).length vc], .bool O.isSome]) ∧ w'.ownsRow w.heap.size 60 4 (.slice va (lapC O).length vc) (lapC O).length ((lapC O).flatMap cellsCo) ∧ Below w.heap.size w w' := by
 have hmix : Tryz.prog.follows .mixedOrders = true := by kernel_rfl
 have HVA := Lib.hid hv
 have HVB := Lib.hid hu
 have HPA := Lib.hid hA
 have HPB := Lib.hid hB
 obtain ⟨X, hX⟩ : ∃ X, X = A.map (·.planes) := ⟨_, rfl⟩
 obtain ⟨Y, hY⟩ : ∃ Y, Y = B.map (·.planes) := ⟨_, rfl⟩
 rw [← hX, ← hY] at hO
 have HO := Lib.hid hO
 have HX := Lib.hid hX
 have HY := Lib.hid hY
 clear hv hu hA hB hO hX hY
 go_enter Tryz.func65, Tryz.ntmps65
 go_upto_region 1 with fail
 refine gen_world (fun W => W.cell? ⟨w.heap.size, 0, none⟩ = some (.slice aa A.length an) ∧ W.cell? ⟨w.heap.size + 1, 0, none⟩ = some (.slice ba B.length bn) ∧ R3 (w.heap.size + 2) W ∧ Below w.heap.size w W) ⟨by simp [go_sem], by simp [go_sem], ⟨⟨.int .i64 0, by simp [go_sem], by simp [go_sem]⟩, ⟨.int .i64 0, by simp [go_sem], by simp [go_sem]⟩, .slice none 0 0, by simp [go_sem], by simp [go_sem]⟩, by repeat (first | (with_reducible assumption) | exact Below.refl _ _ | (refine Below.setCell ?_ (by first | omega | (simp; omega) | (simp; done)) _) | (refine Below.alloc ?_ (by first | omega | (simp; omega) | (simp; done)) _) | (refine Below.drew ?_))⟩ ?_
 rintro W ⟨a0, b0, hr3, hb⟩
 have HB0 := Lib.hid hb
 have HR0 := Lib.hid hr3
 have HA0 := Lib.hid a0
 have HB00 := Lib.hid b0
 clear hb hr3
 obtain ⟨gw, hgw⟩ : ∃ g, g = w.heap.size := ⟨_, rfl⟩
 have HGW := Lib.hid hgw
 rw [← hgw] at HA0 HB00 HR0 a0 b0 ⊢
 clear hgw
 simp only [Nat.add_assoc, Nat.reduceAdd]
 go_wp2_with fail
 go_loopw [6] (fun iv wr => ∃ i : Nat, i ≤ A.length ∧ iv = .int .i64 (i : Int) ∧ Hid (O = clashR Y i (X.drop i)) ∧ Below W.heap.size W wr) (fun iv _ => A.length - (intOf iv).toNat)
 case atStart => exact ⟨0, Nat.zero_le _, rfl, Lib.hid (by rw [HO.out]; rfl), Below.refl _ _⟩
 case round =>
  obtain ⟨i, hi, rfl, HCI, hb⟩ := hrel
  obtain ⟨W1, rfl⟩ : ∃ W1 : World, W1 = wr := ⟨_, rfl⟩
  have HB1 := Lib.hid hb
  have a1 := cell_keep hb HA0.out
  have HA1 := Lib.hid a1
  have HB11 := Lib.hid (cell_keep hb HB00.out)
  have b1 := HB11.out
  have HBW1 := Lib.hid (HB0.out.trans (hb.mono HB0.out.size))
  clear hb
  by_cases hlt : i < A.length
  ·have hki : (i : Int) < (A.length : Int) := by omega
   obtain ⟨ab, ao, ha, hat⟩ := (HVA.out.keep HBW1.out).at_ hlt
   have HPX := Lib.hid (HPA.out _ (List.getElem_mem hlt))
   have HXD := Lib.hid (show X.drop i = A[i].planes :: X.drop (i + 1) by rw [HX.out, List.drop_eq_getElem_cons (by simpa using hlt)]; simp)
   obtain ⟨ps, hps⟩ : ∃ ps, ps = A[i].planes := ⟨_, rfl⟩
   rw [← hps] at HPX HXD
   obtain ⟨xa, xc, x0, xv, -⟩ := hat
   rw [Nat.mul_one, ← hps] at x0
   rw [← hps] at xv
   have HXV := Lib.hid xv
   have HX0 := Lib.hid x0
   subst ha
   clear hps xv x0
   go_wp2_with fail
   go_loopw [7] (fun kv wq => ∃ k : Nat, k ≤ B.length ∧ kv = .int .i64 (k : Int) ∧ Hid (clashRK ps 0 Y = clashRK ps k (Y.drop k)) ∧ Below W1.heap.size W1 wq) (fun kv _ => B.length - (intOf kv).toNat)
   case atStart => exact ⟨0, Nat.zero_le _, rfl, Lib.hid rfl, Below.refl _ _⟩
   case round =>
    obtain ⟨k, hk, rfl, HCK, hb⟩ := hrel
    obtain ⟨W2, rfl⟩ : ∃ W2 : World, W2 = wr := ⟨_, rfl⟩
    have HB2 := Lib.hid hb
    have a2 := cell_keep hb HA1.out
    have b2 := cell_keep hb HB11.out
    have x2 := cell_keep hb HX0.out
    have HBW2 := Lib.hid (HBW1.out.trans (hb.mono HBW1.out.size))
    have HR2 := Lib.hid (HR0.out.keep (HB1.out.trans (hb.mono HB1.out.size)))
    by_cases hlt2 : k < B.length
    ·have hkj : (k : Int) < (B.length : Int) := by omega
     obtain ⟨bb, bo, hbe, hat⟩ := (HVB.out.keep HBW2.out).at_ hlt2
     have HPY := Lib.hid (HPB.out _ (List.getElem_mem hlt2))
     have HYD := Lib.hid (show Y.drop k = B[k].planes :: Y.drop (k + 1) by rw [HY.out, List.drop_eq_getElem_cons (by simpa using hlt2)]; simp)
     obtain ⟨qs, hqs⟩ : ∃ qs, qs = B[k].planes := ⟨_, rfl⟩
     rw [← hqs] at HPY HYD
     obtain ⟨ya, yc, y0, yv, -⟩ := hat
     rw [Nat.mul_one, ← hqs] at y0
     rw [← hqs] at yv
     have HYV := Lib.hid yv
     have HXV2 := Lib.hid (HXV.out.keep hb)
     subst hbe
     have n1' : (0 : Int) ≤ (i : Int) := by omega
     have n2' : (0 : Int) ≤ (k : Int) := by omega
     obtain ⟨J, hJ⟩ : ∃ J, J = ps ++ qs := ⟨_, rfl⟩
     have HJE := Lib.hid hJ
     have HGJ := Lib.hid (show Good J by rw [hJ]; exact HPX.out.g.append HPY.out.g)
     have HLJ := Lib.hid (show J.length ≤ 40 by have h1 := HPX.out.l; have h2 := HPY.out.l; rw [hJ, List.length_append]; omega)
     have HST := Lib.hid (clashRK_step (c := ps) (d := qs) (y := Y.drop (k + 1)) (k := k))
     rw [← HYD.out, ← hJ, show comR ps qs = insid J (corn J) by rw [hJ]; rfl] at HST
     clear hqs yv hb hJ
     go_upto_region 7 with fail
     have kx0 : ∀ u : KW (fun W' => Below W2.heap.size W2 W'), u.w.cell? ⟨gw, 0, none⟩ = some (.slice (some ⟨ab, ao, none⟩) A.length an) ∧ u.w.cell? ⟨gw + 1, 0, none⟩ = some (.slice (some ⟨bb, bo, none⟩) B.length bn) ∧ u.w.cell? ⟨ab, ao + i, none⟩ = some (.slice xa ps.length xc) ∧ u.w.cell? ⟨bb, bo + k, none⟩ = some (.slice ya qs.length yc) := fun u => ⟨cell_keep u.ok a2, cell_keep u.ok b2, cell_keep u.ok x2, cell_keep u.ok y0⟩
     haveI nn1 : Nonempty (KW (fun W' => Below W2.heap.size W2 W')) := ⟨⟨W2, Below.refl _ _⟩⟩
     refine wp_region_tree (fun w' => ∃ u : KW (fun W' => Below W2.heap.size W2 W'), w' = u.w) 12 (.take 0 (.take 1 (.take 2 (.take 3 (.take 4 (.take 5 (.take 6 (.take 7 (.take 8 (.take 9 (.take 10 (.take 11 .done)))))))))))) hmix (by kernel_rfl) (KW.mk' (Below.refl _ _).drew) ?_
     have HC0 := Lib.hid (show Below W2.heap.size W2 W2.drew from (Below.refl _ _).drew)
     generalize W2.drew = ww0 at *
     repeat (refine wpTree_take ?_; simp only [nthOp]; (first | go_big_quiet_step (fail) | quiet_step (fail)); refine wpQuiet_nil ?_)
     refine wpTree_done ?_
     simp only [List.drop_succ_cons, List.drop_zero]
     have HJ := Lib.hid (joined_any ps qs xa ya xc yc ww0 (HXV2.out.keep HC0.out) (HYV.out.keep HC0.out) (by have := HPX.out.l; omega) (by have := HPY.out.l; omega))
     rw [← HJE.out] at HJ
     clear kx0 nn1 x2 y0
     go_wp2_with (go_at_call 97; refine HJ.out.mono ?_; rintro e w3 ⟨ja, jc, rfl, ho, hb3⟩; have HB3 := Lib.hid (HC0.out.trans (hb3.mono HC0.out.size)); have HJV := Lib.hid (show Pls.V w3 ja J from ownPlV (fun p hp => Pl.in_.wf (HGJ.out p hp).1) ho); clear ho hb3)
     refine NP_mk ?_
     have HPT := Lib.hid (pointsR_any J ja jc w3 HGJ.out HLJ.out HJV.out)
     have HRE := Lib.hid (insid_refP J J)
     have HSO := Lib.hid (refP_sorted J)
     have HRI := Lib.hid (show ∀ c ∈ refP J, c.in_ from fun c hc => corn_in HGJ.out c (mem_refP.1 hc))
     have HRL := Lib.hid (show (refP J).length ≤ 500000 by rw [refP_len HLJ.out]; have := corn_len (l := J) HLJ.out; omega)
     generalize refP J = RP at *
     go_upto_region 9 with (go_at_call 31; refine HPT.out.mono ?_; rintro e w4 ⟨ra, rc, rfl, ho, hb⟩; have HB4 := Lib.hid (HB3.out.trans (hb.mono HB3.out.size)); have HRV := Lib.hid (ownCoV (fun c hc => Co.in_.wf (HRI.out c hc)) ho); have HJV4 := Lib.hid (HJV.out.keep hb); clear ho hb)
     have HIN := Lib.hid (inside_any J ja jc RP ra rc w4 HJV4.out (by have := HLJ.out; omega) (fun p hp => (HGJ.out p hp).1) HRV.out (by have := HRL.out; omega) HRI.out)
     rw [HRE.out] at HIN
     cases hin : insid J (corn J) with
     | false =>
      rw [hin] at HIN HST
      have HNX := Lib.hid (show clashRK ps 0 Y = clashRK ps (k + 1) (Y.drop (k + 1)) by rw [HCK.out, HST.out]; rfl)
      go_wp2_with (go_at_call 79; refine HIN.out.mono ?_; rintro e w5 ⟨rfl, hb⟩; have HB5 := Lib.hid (HB4.out.trans (hb.mono HB4.out.size)); clear hb)
      go_roundw
      case rel => exact ⟨k + 1, by omega, by go_num, HNX, HB2.out.trans (HB5.out.mono HB2.out.size)⟩
      case measure => first | (simp [intOf]; done) | (simp [intOf]; omega)
     | true =>
      rw [hin] at HIN HST
      have HNX := Lib.hid (show clashRK ps 0 Y = some (k, corn J) by rw [HCK.out, HST.out]; rfl)
      have HOV := Lib.hid (show O = some (i, k, corn J) by rw [HCI.out, HXD.out, clashR_hit HNX.out])
      have HSR := Lib.hid (fun W (h : Below w4.heap.size w4 W) => sortedR_any RP ra rc W (HRV.out.keep h) HRI.out HRL.out)
      rw [HSO.out] at HSR
      generalize corn J = CJ at *
      have HRS := Lib.hid (fun W (h : Below W2.heap.size W2 W) => HR2.out.keep h)
      go_wp2_with (first
       | (go_at_call 79; refine HIN.out.mono ?_; rintro e w5 ⟨rfl, hb⟩; have HB5 := Lib.hid (HB4.out.trans (hb.mono HB4.out.size)); have HSR5 := Lib.hid (HSR.out w5 hb); clear hb)
       | (go_at_call 30; refine HSR5.out.mono ?_; rintro e w6 ⟨sa, sc, rfl, ho, hb⟩; have HO6 := Lib.hid ho; have HB6 := Lib.hid (HB5.out.trans (hb.mono HB5.out.size)); have HR6 := Lib.hid (HRS.out _ HB6.out); obtain ⟨⟨q0, e0, f0⟩, ⟨q1, e1, f1⟩, q2, e2, f2⟩ := HR6.out; clear ho hb))
      have HBF := Lib.hid (show Below w.heap.size w w6 from HBW2.out.trans (HB6.out.mono HBW2.out.size))
      obtain ⟨k0, k1, k2⟩ := HR6.out.got (.int .i64 (i : Int)) (.int .i64 (k : Int)) (.slice sa CJ.length sc)
      have hbF := put3_below HBF.out (show w.heap.size ≤ gw + 2 by have := HGW.out; omega) (.int .i64 (i : Int)) (.int .i64 (k : Int)) (.slice sa CJ.length sc)
      have hoF := put3_own (g := gw + 2) HO6.out (fun e => by have h1 := (own_lt HO6.out e).1; have h2 := block_lt_of_cell HR2.out.a.choose_spec.1; simp only at h2; have h3 := HB5.out.size; omega) (.int .i64 (i : Int)) (.int .i64 (k : Int)) (.slice sa CJ.length sc)
      unfold put3 at k0 k1 k2 hbF hoF
      generalize (((w6.setCell ⟨gw + 2, 0, none⟩ (.int .i64 (i : Int))).setCell ⟨gw + 2, 1, none⟩ (.int .i64 (k : Int))).setCell ⟨gw + 2, 2, none⟩ (.slice sa CJ.length sc)) = WF at k0 k1 k2 hbF hoF ⊢
      refine bodyPost_ret (v := .tuple #[.agg #[.int .i64 (i : Int), .int .i64 (k : Int), .slice sa CJ.length sc], .bool true]) ?_ ?_ ?_
      ·simp [results, Tryz.results65, go_sem, k0, k1, k2]
      ·rfl
      ·rw [HOV.out]
       exact ⟨sa, sc, rfl, own_mono hoF (by have := HBW2.out.size; have := HB5.out.size; omega), hbF⟩
    ·obtain rfl : k = B.length := by omega
     have hkj : ¬ ((B.length : Nat) : Int) < ((B.length : Nat) : Int) := by omega
     have HNX := Lib.hid (show O = clashR Y (i + 1) (X.drop (i + 1)) by rw [HCI.out, HXD.out]; exact clashR_miss (by rw [HCK.out, show Y.drop B.length = [] from by rw [HY.out]; simp]; rfl))
     clear hb
     go_wp2_with fail
     go_roundw
     case rel => exact ⟨i + 1, by omega, by go_num, HNX, HB1.out.trans (HB2.out.mono HB1.out.size)⟩
     case measure => first | (simp [intOf]; done) | (simp [intOf]; omega)
  ·obtain rfl : i = A.length := by omega
   have hki : ¬ ((A.length : Nat) : Int) < ((A.length : Nat) : Int) := by omega
   have HOV := Lib.hid (show O = none by rw [HCI.out, show X.drop A.length = [] from by rw [HX.out]; simp]; rfl)
   have HR1 := Lib.hid (HR0.out.keep HB1.out)
   obtain ⟨⟨q0, e0, f0⟩, ⟨q1, e1, f1⟩, q2, e2, f2⟩ := HR1.out
   go_wp2_with fail
   obtain ⟨k0, k1, k2⟩ := HR1.out.got (.int .i64 0) (.int .i64 0) (.slice none 0 0)
   have hbF := put3_below HBW1.out (show w.heap.size ≤ gw + 2 by have := HGW.out; omega) (.int .i64 0) (.int .i64 0) (.slice none 0 0)
   unfold put3 at k0 k1 k2 hbF
   generalize (((W1.setCell ⟨gw + 2, 0, none⟩ (.int .i64 0)).setCell ⟨gw + 2, 1, none⟩ (.int .i64 0)).setCell ⟨gw + 2, 2, none⟩ (.slice none 0 0)) = WF at k0 k1 k2 hbF ⊢
   refine bodyPost_ret (v := .tuple #[.agg #[.int .i64 0, .int .i64 0, .slice none 0 0], .bool false]) ?_ ?_ ?_
   ·simp [results, Tryz.results65, go_sem, k0, k1, k2]
   ·rfl
   ·rw [HOV.out]
    exact ⟨none, 0, rfl, ⟨rfl, .inl ⟨rfl, rfl⟩⟩, hbF⟩
end Go.Proofs.YtbhgkadklklmbaaGreat
/- The first overlap is accepted as a witness (plain). -/
set_option linter.unusedVariables false
set_option linter.unusedSimpArgs false
namespace Go.Proofs.YtbhgkadklklmbaaGreat

def tri2 : Nat → Nat
 | 0 => 0
 | n + 1 => tri2 n + n
def tri3 : Nat → Nat
 | 0 => 0
 | n + 1 => tri3 n + tri2 n
theorem rawK_tri (l : List Pl) (p : Pl) : ∀ k, (rawK l p k).length ≤ tri2 k
 | 0 => by simp [rawK, tri2]
 | k + 1 => by
  rw [rawK_succ, List.length_append, tri2]
  have := rawK_tri l p k
  have := rawR_len l p (l.getD k p0) k
  omega
theorem rawI_tri (l : List Pl) : ∀ n, (rawI l n).length ≤ tri3 n
 | 0 => by simp [rawI, tri3]
 | n + 1 => by
  rw [rawI_succ, List.length_append, tri3]
  have := rawI_tri l n
  have := rawK_tri l (l.getD n p0) n
  omega
theorem tri3_16 : ∀ n, n ≤ 16 → tri3 n ≤ 560 := by decide
theorem corn_560 {l : List Pl} (h : l.length ≤ 16) : (corn l).length ≤ 560 := Nat.le_trans (srt_len _) (Nat.le_trans (rawI_tri l l.length) (tri3_16 _ h))
theorem clashRK_some {c : List Pl} : ∀ {y : List (List Pl)} {k0 k : Nat} {cs : List Co}, clashRK c k0 y = some (k, cs) → ∃ j, k = k0 + j ∧ ∃ hj : j < y.length, comR c y[j] = true ∧ cs = corn (c ++ y[j])
 | [], k0, k, cs, h => by simp [clashRK] at h
 | d :: y, k0, k, cs, h => by
  unfold clashRK at h
  split at h
  ·rename_i hc
   injection h with h
   injection h with h1 h2
   subst h1 h2
   exact ⟨0, rfl, by simp, hc, rfl⟩
  ·obtain ⟨j, h1, h2, h3, h4⟩ := clashRK_some h
   exact ⟨j + 1, by omega, by simp; omega, h3, h4⟩
theorem clashR_some {y : List (List Pl)} : ∀ {x : List (List Pl)} {i a k : Nat} {cs : List Co}, clashR y i x = some (a, k, cs) → ∃ j, a = i + j ∧ ∃ (hj : j < x.length) (hk : k < y.length), comR x[j] y[k] = true ∧ cs = corn (x[j] ++ y[k])
 | [], i, a, k, cs, h => by simp [clashR] at h
 | c :: x, i, a, k, cs, h => by
  unfold clashR at h
  split at h
  ·rename_i k' cs' hc
   injection h with h
   injection h with h1 h2
   injection h2 with h2 h3
   subst h1 h2 h3
   obtain ⟨j, h1, h2, h3, h4⟩ := clashRK_some hc
   rw [Nat.zero_add] at h1
   subst h1
   exact ⟨0, rfl, by simp, h2, h3, h4⟩
  ·obtain ⟨j, h1, h2, h3, h4⟩ := clashR_some h
   exact ⟨j + 1, by omega, by simp; omega, h3, h4⟩
theorem firE_zero {l : List Co} (h : ∀ c ∈ l, coE c = 0) : firE l = 0 := by
 induction l with
 | nil => rfl
 | cons x l ih =>
  rw [firE, if_neg (by simpa using h x List.mem_cons_self)]
  exact ih fun c hc => h c (List.mem_cons_of_mem _ hc)
theorem lapO_R {A B : List Cell} (h0 : twoE A B = 0) : lapO A B = clashR (B.map (·.planes)) 0 (A.map (·.planes)) := by
 obtain ⟨ha, hb⟩ := twoE_zero.1 h0
 unfold lapO
 rw [if_neg (by simpa using h0), clash_same (solX hb) (solX ha)]
/-- The first overlap is accepted. -/
theorem overlap_ok {A B : List Cell} (h0 : twoE A B = 0) (hA : ∀ x ∈ A, x.planes.length ≤ 8) (hB : ∀ x ∈ B, x.planes.length ≤ 8) {i k : Nat} {cs : List Co} (h : lapO A B = some (i, k, cs)) : lapPE A B ⟨i, k, cs⟩ = 0 ∧ cs.length ≤ 560 := by
 obtain ⟨ha, hb⟩ := twoE_zero.1 h0
 rw [lapO_R h0] at h
 obtain ⟨j, hj, h1, h2, h3, h4⟩ := clashR_some h
 rw [Nat.zero_add] at hj
 subst hj
 have hi : i < A.length := by simpa using h1
 have hk : k < B.length := by simpa using h2
 rw [List.getElem_map, List.getElem_map] at h3 h4
 have rx : readE A[i].planes = 0 := (solE_zero.1 ha).2 _ (List.getElem_mem hi)
 have ry : readE B[k].planes = 0 := (solE_zero.1 hb).2 _ (List.getElem_mem hk)
 have hg : Good (A[i].planes ++ B[k].planes) := (good_of (readE_zero.1 rx).2.1).append (good_of (readE_zero.1 ry).2.1)
 have hl : (A[i].planes ++ B[k].planes).length ≤ 16 := by
  have := hA _ (List.getElem_mem hi); have := hB _ (List.getElem_mem hk); rw [List.length_append]; omega
 have hlen : cs.length ≤ 560 := by rw [h4]; exact corn_560 hl
 refine ⟨?_, hlen⟩
 unfold lapPE lapE
 have hL : lapL A B ⟨(i : Int), (k : Int), cs⟩ = A[i].planes ++ B[k].planes := by
  unfold lapL; simp [hi, hk]
 have hin : lapIn A B ⟨(i : Int), (k : Int), cs⟩ := by unfold lapIn; simp only; omega
 rw [if_neg (by simpa using h0), if_neg (by simpa using hin), if_neg (by simp only; omega), hL]
 have hco : ∀ c ∈ cs, coE c = 0 := fun c hc => by
  rw [h4] at hc
  have hib := corn_inB hc
  have hr := room_pts rx ⟨hib.1, fun p hp => hib.2 p (List.mem_append.2 (.inl hp))⟩
  have hn := (corn_in hg c hc).2
  unfold coE
  rw [if_pos ⟨by unfold withinB; have := hib.1; simp; omega, hr⟩]
 rw [if_neg (by simp only; rw [firE_zero hco]; simp), if_pos]
 refine ⟨?_, ?_⟩
 ·unfold alwAll
  rw [List.all_eq_true]
  intro c hc
  simp only at hc
  rw [h4] at hc
  rw [alwR_eq, alw_iff]
  exact (corn_inB hc).2
 ·rw [h4]; exact h3
theorem few_slim {cs : List Cell} {m : Int} (h : fewB cs m = true) : ∀ x ∈ cs, slimB x.planes.length = true := fun x hx => by
 unfold fewB at h
 rw [Bool.and_eq_true] at h
 exact List.all_eq_true.1 h.2 x hx
theorem valid_good {x : Cell} (h : readE x.planes = 0) : GoodP x.planes := ⟨good_of (readE_zero.1 h).2.1, by have := (readE_zero.1 h).1; omega⟩
theorem valid_8 {x : Cell} (h : slimB x.planes.length = true) (h0 : readE x.planes = 0) : x.planes.length ≤ 8 := by
 have := (readE_zero.1 h0).1
 unfold slimB at h
 simp only [Bool.or_eq_true, Bool.and_eq_true, decide_eq_true_eq] at h
 omega
theorem lap_in {A B : List Cell} : ∀ c ∈ lapC (lapO A B), c.in_ := fun c hc => by
 by_cases h0 : twoE A B = 0
 ·cases h : lapO A B with
  | none => rw [h] at hc; cases hc
  | some o =>
   obtain ⟨i, k, cs⟩ := o
   rw [h] at hc
   rw [lapO_R h0] at h
   obtain ⟨ha, hb⟩ := twoE_zero.1 h0
   obtain ⟨j, hj, h1, h2, h3, h4⟩ := clashR_some h
   have rx := readX ha _ (List.getElem_mem h1)
   have ry := readX hb _ (List.getElem_mem h2)
   simp only [lapC] at hc
   rw [h4] at hc
   exact corn_in ((good_of (readE_zero.1 rx).2.1).append (good_of (readE_zero.1 ry).2.1)) c hc
 ·have : lapO A B = none := by unfold lapO; rw [if_pos h0]
  rw [this] at hc; cases hc
end Go.Proofs.YtbhgkadklklmbaaGreat
