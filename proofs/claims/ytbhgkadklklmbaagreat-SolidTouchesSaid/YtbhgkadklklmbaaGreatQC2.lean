/- The document's contacts of two solids. -/
import Derived.Test.YtbhgkadklklmbaaGreatQC1
import Derived.Test.YtbhgkadklklmbaaGreatQW
import Derived.Test.YtbhgkadklklmbaaGreatQX
set_option linter.unusedVariables false
set_option linter.unusedSimpArgs false
namespace Go.Proofs.YtbhgkadklklmbaaGreat
open Go Go.RowKit Go.Sort Go.Lib

/-- A contact in a box. -/
structure XAt (g : Nat) (r : TR) (W : World) : Prop where
 c0 : W.cell? ⟨g, 0, none⟩ = some (.int .i64 (r.t.a : Int))
 c1 : W.cell? ⟨g, 1, none⟩ = some (.int .i64 (r.t.b : Int))
 c2 : W.cell? ⟨g, 2, none⟩ = some (.int .i64 r.t.p.a)
 c3 : W.cell? ⟨g, 3, none⟩ = some (.int .i64 r.t.p.b)
 c4 : W.cell? ⟨g, 4, none⟩ = some (.int .i64 r.t.p.c)
 c5 : W.cell? ⟨g, 5, none⟩ = some (.int .i64 r.t.p.d)
 c6 : W.cell? ⟨g, 6, none⟩ = some (.slice r.ca r.t.cs.length r.cc)
 f : ∀ t, t < 7 → W.frozen? ⟨g, t, none⟩ = false
theorem XAt.lt {g : Nat} {r : TR} {W : World} (h : XAt g r W) : g < W.heap.size := by have := block_lt_of_cell h.c0; simpa using this
theorem XAt.keep {g : Nat} {r : TR} {W W' : World} (h : XAt g r W) (hb : Below W.heap.size W W') : XAt g r W' :=
 ⟨cell_keep hb h.c0, cell_keep hb h.c1, cell_keep hb h.c2, cell_keep hb h.c3, cell_keep hb h.c4, cell_keep hb h.c5, cell_keep hb h.c6, fun t ht => frozen_keep hb h.lt (h.f t ht)⟩
def putP (W : World) (g : Nat) (p : Pl) : World := (((W.setCell ⟨g, 2, none⟩ (.int .i64 p.a)).setCell ⟨g, 3, none⟩ (.int .i64 p.b)).setCell ⟨g, 4, none⟩ (.int .i64 p.c)).setCell ⟨g, 5, none⟩ (.int .i64 p.d)
theorem putP_below {n g : Nat} {w W : World} (h : Below n w W) (hg : n ≤ g) (p : Pl) : Below n w (putP W g p) := (((h.setCell hg _).setCell hg _).setCell hg _).setCell hg _
theorem XAt.put {g i k : Nat} {p : Pl} {cs : List Co} {ca : Option Addr} {cc : Nat} {W : World} (h : XAt g ⟨⟨i, k, p, cs⟩, ca, cc⟩ W) (x : Pl) : XAt g ⟨⟨i, k, x, cs⟩, ca, cc⟩ (putP W g x) := by
 obtain ⟨c0, c1, c2, c3, c4, c5, c6, f⟩ := h
 simp only at c0 c1 c2 c3 c4 c5 c6
 unfold putP
 refine ⟨?_, ?_, ?_, ?_, ?_, ?_, ?_, fun t ht => ?_⟩
 ·rw [cell_set_ne (by simp) rfl rfl, cell_set_ne (by simp) rfl rfl, cell_set_ne (by simp) rfl rfl, cell_set_ne (by simp) rfl rfl]; exact c0
 ·rw [cell_set_ne (by simp) rfl rfl, cell_set_ne (by simp) rfl rfl, cell_set_ne (by simp) rfl rfl, cell_set_ne (by simp) rfl rfl]; exact c1
 ·rw [cell_set_ne (by simp) rfl rfl, cell_set_ne (by simp) rfl rfl, cell_set_ne (by simp) rfl rfl]; exact cell_set_same (by rw [c2]; rfl)
 ·rw [cell_set_ne (by simp) rfl rfl, cell_set_ne (by simp) rfl rfl]; exact cell_set_same (by rw [cell_set_ne (by simp) rfl rfl, c3]; rfl)
 ·rw [cell_set_ne (by simp) rfl rfl]; exact cell_set_same (by rw [cell_set_ne (by simp) rfl rfl, cell_set_ne (by simp) rfl rfl, c4]; rfl)
 ·exact cell_set_same (by rw [cell_set_ne (by simp) rfl rfl, cell_set_ne (by simp) rfl rfl, cell_set_ne (by simp) rfl rfl, c5]; rfl)
 ·rw [cell_set_ne (by simp) rfl rfl, cell_set_ne (by simp) rfl rfl, cell_set_ne (by simp) rfl rfl, cell_set_ne (by simp) rfl rfl]; exact c6
 ·rw [frozen_set, frozen_set, frozen_set, frozen_set]; exact f t ht
/-- What the loop over the other cells keeps: the planes of the normal form. -/
structure TdK (na : Option Addr) (N : List Pl) (v : Value) (W : World) : Prop where
 n : Pls.V W na N
 o3 : ∀ b, blk na = some b → b < W.heap.size ∧ v.ownBlock ≠ some b
theorem TdK.keep {na : Option Addr} {N : List Pl} {v : Value} {W W' : World} (h : TdK na N v W) (hb : Below W.heap.size W W') : TdK na N v W' :=
 ⟨h.n.keep hb, fun b e => ⟨Nat.lt_of_lt_of_le (h.o3 b e).1 hb.size, (h.o3 b e).2⟩⟩
theorem TdK.grown {na : Option Addr} {N : List Pl} {v v' : Value} {W W' : World} (h : TdK na N v W) (hg : W.grownBy W' v.ownBlock) (hv : v'.ownBlock = v.ownBlock ∨ v'.ownBlock = some W.heap.size) : TdK na N v' W' := by
 have f : ∀ b, b < W.heap.size → v.ownBlock ≠ some b → v'.ownBlock ≠ some b := fun b hb hn => by
  rcases hv with e | e
  ·rw [e]; exact hn
  ·rw [e]; intro h; injection h with h; omega
 exact ⟨h.n.grown hg fun b e => (h.o3 b e).2, fun b e => ⟨Nat.lt_of_lt_of_le (h.o3 b e).1 hg.size, f b (h.o3 b e).1 (h.o3 b e).2⟩⟩
theorem onP_refP (J : List Pl) (p : Pl) : onP (refP J) p = onP (corn J) p := by
 rw [Bool.eq_iff_iff, onP_iff, onP_iff]
 exact forall_congr' fun x => imp_congr_left mem_refP
theorem onP_succ {RP : List Co} {p : Pl} {n : Nat} (h : n < RP.length) : onP (RP.take (n + 1)) p = (onP (RP.take n) p && decide (sd p RP[n] = 0)) := by
 rw [List.take_succ_eq_append_getElem h]
 unfold onP
 rw [List.all_append]
 simp
theorem tchL_succ {cs : List Co} {N : List Pl} {m : Nat} (h : m < N.length) : tchL cs (N.take (m + 1)) = if onP cs N[m] = true then N[m] else tchL cs (N.take m) := by
 unfold tchL
 rw [List.take_succ_eq_append_getElem h, List.foldl_append]
 rfl
theorem tchR_no {i k : Nat} {c d : List Pl} (h : tchB c d = false) : tchR i k c d = [] := by unfold tchR; rw [h]; rfl
theorem tchR_yes {i k : Nat} {c d : List Pl} (h : tchB c d = true) : tchR i k c d = [⟨i, k, tchL (corn (c ++ d)) (nf c), corn (c ++ d)⟩] := by unfold tchR; rw [if_pos h]
set_option maxRecDepth 100000 in
set_option maxHeartbeats 16000000 in
theorem touchesR_any (A B : List Cell) (aa ba : Option Addr) (an bn : Nat) (w : World) (hv : Cells.V w aa A) (hu : Cells.V w ba B) (hla : A.length ≤ 1000) (hlb : B.length ≤ 1000) (hA : ∀ x ∈ A, GoodP x.planes) (hB : ∀ x ∈ B, GoodP x.planes) (O : List Tch) (hO : O = refI (A.map (·.planes)) (B.map (·.planes)) (A.map (·.planes)).length) :
    Calls Tryz.prog 40 #[.agg #[.slice aa A.length an], .agg #[.slice ba B.length bn]] w fun e w' => ∃ va vc L, e = .returned (.slice va L.length vc) ∧ Hid (L.map (·.t) = O) ∧ TcSt w.heap.size w' (.slice va L.length vc) L ∧ Below w.heap.size w w' := by
 have hmix : Tryz.prog.follows .mixedOrders = true := by kernel_rfl
 obtain ⟨i0, hi0, hz0, hz1, hzb⟩ := info_parts contactInfo
 have HVA := Lib.hid hv
 have HVB := Lib.hid hu
 have HPA := Lib.hid hA
 have HPB := Lib.hid hB
 obtain ⟨X, hX⟩ : ∃ X, X = A.map (·.planes) := ⟨_, rfl⟩
 obtain ⟨Y, hY⟩ : ∃ Y, Y = B.map (·.planes) := ⟨_, rfl⟩
 rw [← hX, ← hY] at hO
 have HO := Lib.hid hO
 have HX := Lib.hid hX
 have HY := Lib.hid hY
 have HXL := Lib.hid (show X.length = A.length by rw [hX]; simp)
 have HYL := Lib.hid (show Y.length = B.length by rw [hY]; simp)
 clear hv hu hA hB hO hX hY
 go_enter Tryz.func40, Tryz.ntmps40
 go_upto_region 1 with fail
 refine gen_world (fun W => W.cell? ⟨w.heap.size, 0, none⟩ = some (.slice aa A.length an) ∧ W.cell? ⟨w.heap.size + 1, 0, none⟩ = some (.slice ba B.length bn) ∧ Below w.heap.size w W) ⟨by simp [go_sem], by simp [go_sem], by repeat (first | (with_reducible assumption) | exact Below.refl _ _ | (refine Below.setCell ?_ (by first | omega | (simp; omega) | (simp; done)) _) | (refine Below.alloc ?_ (by first | omega | (simp; omega) | (simp; done)) _) | (refine Below.drew ?_))⟩ ?_
 rintro W ⟨a0, b0, hb⟩
 have HB0 := Lib.hid hb
 have HA0 := Lib.hid a0
 have HB00 := Lib.hid b0
 clear hb
 obtain ⟨gw, hgw⟩ : ∃ g, g = w.heap.size := ⟨_, rfl⟩
 rw [← hgw] at HA0 HB00 a0 b0 ⊢
 have HGW := Lib.hid hgw
 clear hgw
 obtain ⟨gb, hgb⟩ : ∃ g, g = W.heap.size := ⟨_, rfl⟩
 have HGB := Lib.hid hgb
 clear hgb
 go_wp2_with fail
 go_loopw [5, 6] (fun v iv wr => ∃ (i : Nat) (L : List TR), i ≤ A.length ∧ iv = .int .i64 (i : Int) ∧ Hid (L.map (·.t) = refI X Y i) ∧ Hid (L.length ≤ i * 1000) ∧ TcSt gb wr v L ∧ Below W.heap.size W wr) (fun _ iv _ => A.length - (intOf iv).toNat)
 case atStart => exact ⟨0, [], Nat.zero_le _, rfl, Lib.hid rfl, Lib.hid (by simp), TcSt.nil, Below.refl _ _⟩
 case round =>
  obtain ⟨i, L, hi, rfl, HLI, HLL, hst, hb⟩ := hrel
  obtain ⟨W1, rfl⟩ : ∃ W1 : World, W1 = wr := ⟨_, rfl⟩
  have HB1 := Lib.hid hb
  have HS1 := Lib.hid hst
  obtain ⟨va, vc, rfl, -, -⟩ := own_slice hst.o
  have a1 := cell_keep hb HA0.out
  have HBW1 := Lib.hid (HB0.out.trans (hb.mono HB0.out.size))
  clear hb hst
  by_cases hlt : i < A.length
  ·have hki : (i : Int) < (A.length : Int) := by omega
   obtain ⟨ab, ao, ha, hat⟩ := (HVA.out.keep HBW1.out).at_ hlt
   have HPX := Lib.hid (HPA.out _ (List.getElem_mem hlt))
   have HXD := Lib.hid (show X.getD i [] = A[i].planes by rw [HX.out]; simp [List.getD, hlt])
   have HAT := Lib.hid (show ∀ W', Below W.heap.size W W' → ∃ ab' ao', aa = some ⟨ab', ao', none⟩ ∧ ∃ xa xc, W'.cell? ⟨ab', ao' + i, none⟩ = some (.slice xa A[i].planes.length xc) ∧ Pls.V W' xa A[i].planes from fun W' h => by
    obtain ⟨ab', ao', ha', hat'⟩ := (HVA.out.keep (HB0.out.trans (h.mono HB0.out.size))).at_ hlt
    obtain ⟨xa, xc, x0, xv, -⟩ := hat'
    rw [Nat.mul_one] at x0
    exact ⟨ab', ao', ha', xa, xc, x0, xv⟩)
   obtain ⟨ps, hps⟩ : ∃ ps, ps = A[i].planes := ⟨_, rfl⟩
   rw [← hps] at HPX HXD HAT
   obtain ⟨xa, xc, x0, xv, -⟩ := hat
   rw [Nat.mul_one, ← hps] at x0
   rw [← hps] at xv
   have HNM := Lib.hid (normalR2_any ps xa xc W1 HPX.out.g (by have := HPX.out.l; omega) xv)
   have HGN := Lib.hid (show Good (nf ps) from HPX.out.g.nor _)
   have HLN := Lib.hid (show (nf ps).length ≤ 40 from Nat.le_trans (nor_len _ _) (by have := HPX.out.l; omega))
   obtain ⟨N, hN⟩ : ∃ N, N = nf ps := ⟨_, rfl⟩
   rw [← hN] at HNM HGN HLN
   have HNE := Lib.hid hN
   have n1' : (0 : Int) ≤ (i : Int) := by omega
   subst ha
   clear hps xv hN
   go_upto_region 6 with (go_at_call 28; refine HNM.out.mono ?_; rintro e w2 ⟨na, nc, rfl, ho, hb⟩; have HB2 := Lib.hid (HB1.out.trans (hb.mono HB1.out.size)); have HS2 := Lib.hid (HS1.out.keep hb); have HTD := Lib.hid (show TdK na N (.slice va L.length vc) w2 from ⟨ownPlV (fun q hq => Pl.in_.wf (HGN.out q hq).1) ho, fun b e => ⟨(own_blk_lt ho b e).2, fun e' => by have h1 := (own_lt HS1.out.o e').2; have h2 := (own_blk_lt ho b e).1; omega⟩⟩); clear ho hb)
   clear a1 x0
   go_wp2_with fail
   go_loopw [5, 8] (fun v kv wq => ∃ (k : Nat) (M : List TR), k ≤ B.length ∧ kv = .int .i64 (k : Int) ∧ Hid (M.map (·.t) = refI X Y i ++ refJ X Y i k) ∧ Hid (M.length ≤ i * 1000 + k) ∧ TcSt gb wq v M ∧ TdK na N v wq ∧ Below W.heap.size W wq) (fun _ kv _ => B.length - (intOf kv).toNat)
   case atStart => exact ⟨0, L, Nat.zero_le _, rfl, Lib.hid (by rw [HLI.out]; simp [refJ]), Lib.hid (by have := HLL.out; omega), HS2.out, HTD.out, HB2.out⟩
   case round =>
    obtain ⟨k, M, hk, rfl, HMI, HML, hst, htd, hb⟩ := hrel
    obtain ⟨W2, rfl⟩ : ∃ W2 : World, W2 = wr := ⟨_, rfl⟩
    have HB2' := Lib.hid hb
    have HS6 := Lib.hid hst
    have HC6 := Lib.hid htd
    obtain ⟨ma, mc, rfl, -, -⟩ := own_slice hst.o
    have a2 := cell_keep hb HA0.out
    have b2 := cell_keep hb HB00.out
    have HBW2 := Lib.hid (HB0.out.trans (hb.mono HB0.out.size))
    by_cases hlt2 : k < B.length
    ·have hkj : (k : Int) < (B.length : Int) := by omega
     obtain ⟨ab', ao', ha', xa', xc', x2, xv2⟩ := HAT.out W2 hb
     obtain ⟨rfl, rfl⟩ : ab = ab' ∧ ao = ao' := by injection ha' with h; injection h with h1 h2; exact ⟨h1, h2⟩
     obtain ⟨bb, bo, hbe, hat⟩ := (HVB.out.keep HBW2.out).at_ hlt2
     have HPY := Lib.hid (HPB.out _ (List.getElem_mem hlt2))
     have HYD := Lib.hid (show Y.getD k [] = B[k].planes by rw [HY.out]; simp [List.getD, hlt2])
     obtain ⟨qs, hqs⟩ : ∃ qs, qs = B[k].planes := ⟨_, rfl⟩
     rw [← hqs] at HPY HYD
     obtain ⟨ya, yc, y0, yv, -⟩ := hat
     rw [Nat.mul_one, ← hqs] at y0
     rw [← hqs] at yv
     have HYV := Lib.hid yv
     have HXV2 := Lib.hid xv2
     subst hbe
     have n2' : (0 : Int) ≤ (k : Int) := by omega
     obtain ⟨J, hJ⟩ : ∃ J, J = ps ++ qs := ⟨_, rfl⟩
     have HJE := Lib.hid hJ
     have HGJ := Lib.hid (show Good J by rw [hJ]; exact HPX.out.g.append HPY.out.g)
     have HLJ := Lib.hid (show J.length ≤ 40 by have h1 := HPX.out.l; have h2 := HPY.out.l; rw [hJ, List.length_append]; omega)
     have HST := Lib.hid (refJ_succ X Y i k)
     rw [HXD.out, HYD.out] at HST
     have HTB := Lib.hid (show tchB ps qs = (decide (3 ≤ (refP J).length) && !insid J (corn J)) by rw [refP_len HLJ.out, hJ]; rfl)
     have HNO := Lib.hid (fun h : tchB ps qs = false => show M.map (·.t) = refI X Y i ++ refJ X Y i (k + 1) by rw [HMI.out, HST.out, tchR_no h, List.append_nil])
     have HYE := Lib.hid (fun h : tchB ps qs = true => show refJ X Y i (k + 1) = refJ X Y i k ++ [⟨i, k, tchL (corn J) N, corn J⟩] by rw [HST.out, tchR_yes h, HNE.out, hJ])
     have HON := Lib.hid (onP_refP J)
     clear hqs yv hb hJ xv2 ha' hst htd HST
     go_upto_region 9 with fail
     have kx0 : ∀ u : KW (fun W' => Below W2.heap.size W2 W'), u.w.cell? ⟨gw, 0, none⟩ = some (.slice (some ⟨ab, ao, none⟩) A.length an) ∧ u.w.cell? ⟨gw + 1, 0, none⟩ = some (.slice (some ⟨bb, bo, none⟩) B.length bn) ∧ u.w.cell? ⟨ab, ao + i, none⟩ = some (.slice xa' ps.length xc') ∧ u.w.cell? ⟨bb, bo + k, none⟩ = some (.slice ya qs.length yc) := fun u => ⟨cell_keep u.ok a2, cell_keep u.ok b2, cell_keep u.ok x2, cell_keep u.ok y0⟩
     haveI nn1 : Nonempty (KW (fun W' => Below W2.heap.size W2 W')) := ⟨⟨W2, Below.refl _ _⟩⟩
     refine wp_region_tree (fun w' => ∃ u : KW (fun W' => Below W2.heap.size W2 W'), w' = u.w) 12 (.take 0 (.take 1 (.take 2 (.take 3 (.take 4 (.take 5 (.take 6 (.take 7 (.take 8 (.take 9 (.take 10 (.take 11 .done)))))))))))) hmix (by kernel_rfl) (KW.mk' (Below.refl _ _).drew) ?_
     have HC0 := Lib.hid (show Below W2.heap.size W2 W2.drew from (Below.refl _ _).drew)
     generalize W2.drew = ww0 at *
     repeat (refine wpTree_take ?_; simp only [nthOp]; (first | go_big_quiet_step (fail) | quiet_step (fail)); refine wpQuiet_nil ?_)
     refine wpTree_done ?_
     simp only [List.drop_succ_cons, List.drop_zero]
     have HJ := Lib.hid (joined_any ps qs xa' ya xc' yc ww0 (HXV2.out.keep HC0.out) (HYV.out.keep HC0.out) (by have := HPX.out.l; omega) (by have := HPY.out.l; omega))
     rw [← HJE.out] at HJ
     clear kx0 nn1 x2 y0
     go_wp2_with (go_at_call 97; refine HJ.out.mono ?_; rintro e w3 ⟨ja, jc, rfl, ho, hb3⟩; have HB3 := Lib.hid (HC0.out.trans (hb3.mono HC0.out.size)); have HJV := Lib.hid (show Pls.V w3 ja J from ownPlV (fun p hp => Pl.in_.wf (HGJ.out p hp).1) ho); clear ho hb3)
     refine NP_mk ?_
     have HPT := Lib.hid (pointsR_any J ja jc w3 HGJ.out HLJ.out HJV.out)
     have HRE := Lib.hid (insid_refP J J)
     have HSO := Lib.hid (refP_sorted J)
     have HRI := Lib.hid (show ∀ c ∈ refP J, c.in_ from fun c hc => corn_in HGJ.out c (mem_refP.1 hc))
     have HRL := Lib.hid (show (refP J).length ≤ 500000 by rw [refP_len HLJ.out]; have := corn_len (l := J) HLJ.out; omega)
     have HCL := Lib.hid (show (corn J).length ≤ 500000 by have := corn_len (l := J) HLJ.out; omega)
     have HCI := Lib.hid (show ∀ c ∈ corn J, c.in_ from corn_in HGJ.out)
     generalize refP J = RP at *
     go_upto_region 11 with (go_at_call 31; refine HPT.out.mono ?_; rintro e w4 ⟨ra, rc, rfl, ho, hb⟩; have HB4 := Lib.hid (HB3.out.trans (hb.mono HB3.out.size)); have HRV := Lib.hid (ownCoV (fun c hc => Co.in_.wf (HRI.out c hc)) ho); have HJV4 := Lib.hid (HJV.out.keep hb); clear ho hb)
     have HIN := Lib.hid (inside_any J ja jc RP ra rc w4 HJV4.out (by have := HLJ.out; omega) (fun p hp => (HGJ.out p hp).1) HRV.out (by have := HRL.out; omega) HRI.out)
     rw [HRE.out] at HIN
     have hrl := HRL.out
     by_cases h3 : RP.length < 3
     ·have hli : (RP.length : Int) < 3 := by omega
      have HNX := Lib.hid (HNO.out (by rw [HTB.out]; simp; omega))
      go_wp2_with fail
      go_roundw
      case rel => exact ⟨k + 1, M, by omega, by go_num, HNX, Lib.hid (by have := HML.out; omega), HS6.out.keep HB4.out, HC6.out.keep HB4.out, HB2'.out.trans (HB4.out.mono HB2'.out.size)⟩
      case measure => first | (simp [intOf]; done) | (simp [intOf]; omega)
     ·have hli : ¬ (RP.length : Int) < 3 := by omega
      cases hin : insid J (corn J) with
      | true =>
       rw [hin] at HIN HTB
       have HNX := Lib.hid (HNO.out (by rw [HTB.out]; simp))
       go_wp2_with (go_at_call 79; refine HIN.out.mono ?_; rintro e w5 ⟨rfl, hb⟩; have HB5 := Lib.hid (HB4.out.trans (hb.mono HB4.out.size)); clear hb)
       go_roundw
       case rel => exact ⟨k + 1, M, by omega, by go_num, HNX, Lib.hid (by have := HML.out; omega), HS6.out.keep HB5.out, HC6.out.keep HB5.out, HB2'.out.trans (HB5.out.mono HB2'.out.size)⟩
       case measure => first | (simp [intOf]; done) | (simp [intOf]; omega)
      | false =>
       rw [hin] at HIN HTB
       have HYX := Lib.hid (HYE.out (by rw [HTB.out]; simp; omega))
       have HSR := Lib.hid (fun W (h : Below w4.heap.size w4 W) => sortedR_any RP ra rc W (HRV.out.keep h) HRI.out HRL.out)
       rw [HSO.out] at HSR
       generalize corn J = CJ at *
       go_upto_region 13 with (first
        | (go_at_call 79; refine HIN.out.mono ?_; rintro e w5 ⟨rfl, hb⟩; have HB5 := Lib.hid (HB4.out.trans (hb.mono HB4.out.size)); have HSR5 := Lib.hid (HSR.out w5 hb); have HRV5 := Lib.hid (HRV.out.keep hb); clear hb)
        | (go_at_call 30; refine HSR5.out.mono ?_; rintro e w6 ⟨sa, sc, rfl, ho, hb⟩; have HRV6 := Lib.hid (HRV5.out.keep hb); have HSV := Lib.hid (ownCoV (fun c hc => Co.in_.wf (HCI.out c hc)) ho); have HSB := Lib.hid (fun b e => own_blk_lt ho b e); have HB6 := Lib.hid (HB5.out.trans (hb.mono HB5.out.size)); clear ho hb))
       refine gen_world (fun W7 => XAt w6.heap.size ⟨⟨i, k, p0, CJ⟩, sa, sc⟩ W7 ∧ Below w6.heap.size w6 W7) ⟨⟨by simp [go_sem], by simp [go_sem], by simp [go_sem, p0], by simp [go_sem, p0], by simp [go_sem, p0], by simp [go_sem, p0], by simp [go_sem], fun t ht => by match t, ht with | 0, _ => simp [go_sem] | 1, _ => simp [go_sem] | 2, _ => simp [go_sem] | 3, _ => simp [go_sem] | 4, _ => simp [go_sem] | 5, _ => simp [go_sem] | 6, _ => simp [go_sem]⟩, by repeat (first | (with_reducible assumption) | exact Below.refl _ _ | (refine Below.setCell ?_ (by first | omega | (simp; omega) | (simp; done)) _) | (refine Below.alloc ?_ (by first | omega | (simp; omega) | (simp; done)) _) | (refine Below.drew ?_))⟩ ?_
       rintro W7 ⟨hx, hb⟩
       have HX7 := Lib.hid hx
       have HB7 := Lib.hid hb
       have hgx := hx.lt
       have HC66 := Lib.hid (HC6.out.keep HB6.out)
       have HGX := Lib.hid (Nat.le_refl w6.heap.size)
       obtain ⟨gx, hgxe⟩ : ∃ g, g = w6.heap.size := ⟨_, rfl⟩
       rw [← hgxe] at HX7 hgx ⊢
       have HGXE := Lib.hid hgxe
       clear hx hb hgxe a2 b2
       have hn40 := HLN.out
       go_wp2_with fail
       go_loopw [12] (fun jv wj => ∃ (m : Nat) (Q : Pl), m ≤ N.length ∧ jv = .int .i64 (m : Int) ∧ Hid (Q = tchL CJ (N.take m)) ∧ XAt gx ⟨⟨i, k, Q, CJ⟩, sa, sc⟩ wj ∧ Below w6.heap.size w6 wj) (fun jv _ => N.length - (intOf jv).toNat)
       case atStart => exact ⟨0, p0, Nat.zero_le _, rfl, Lib.hid rfl, HX7.out, HB7.out⟩
       case round =>
        obtain ⟨m, Q, hm, rfl, HQ, hx, hb⟩ := hrel
        obtain ⟨W8, rfl⟩ : ∃ W8 : World, W8 = wr := ⟨_, rfl⟩
        have HX8 := Lib.hid hx
        have HB8 := Lib.hid hb
        have HN8 := Lib.hid (HC66.out.n.keep hb)
        have hgx8 := hx.lt
        by_cases hlt3 : m < N.length
        ·have hmj : (m : Int) < (N.length : Int) := by omega
         have HPI := Lib.hid (HGN.out _ (List.getElem_mem hlt3)).1
         have HTS := Lib.hid (tchL_succ (cs := CJ) hlt3)
         obtain ⟨nb, noff, rfl, hat⟩ := HN8.out.at_ hlt3
         generalize N[m] = x at *
         have HAT8 := Lib.hid hat
         clear hx hb hat
         go_wp2_with fail
         go_loopw [13, 14] (fun qv nv wq => ∃ (n : Nat) (q : Bool), n ≤ RP.length ∧ nv = .int .i64 (n : Int) ∧ qv = .bool q ∧ Hid (q = onP (RP.take n) x) ∧ Below W8.heap.size W8 wq) (fun _ nv _ => RP.length - (intOf nv).toNat)
         case atStart => exact ⟨0, true, Nat.zero_le _, rfl, rfl, Lib.hid rfl, Below.refl _ _⟩
         case round =>
          obtain ⟨n, q, hn, rfl, rfl, HQN, hbq⟩ := hrel
          have HBQ := Lib.hid hbq
          have HBO := Lib.hid (HB8.out.trans (hbq.mono HB8.out.size))
          obtain ⟨d0, d1, d2, d3, -⟩ := HAT8.out
          have e0 := cell_keep hbq d0
          have e1 := cell_keep hbq d1
          have e2 := cell_keep hbq d2
          have e3 := cell_keep hbq d3
          have hz := HBQ.out.size
          have hl0 := block_lt_of_cell e0
          simp only at hl0
          clear d0 d1 d2 d3
          by_cases hnt : n < RP.length
          ·have hni : (n : Int) < (RP.length : Int) := by omega
           obtain ⟨cb, coff, rfl, hcat⟩ := (HRV6.out.keep HBO.out).at_ hnt
           have HQS := Lib.hid (onP_succ (p := x) hnt)
           have HCS := Lib.hid (fun W => sideR_any x RP[n] HPI.out (HRI.out _ (List.getElem_mem hnt)) W)
           generalize RP[n] = c at *
           obtain ⟨c0, c1, c2, c3, -⟩ := hcat
           have hl1 := block_lt_of_cell c0
           simp only at hl1
           clear hbq
           cases q with
           | false =>
            have HE := Lib.hid (show false = onP (RP.take (n + 1)) x by rw [HQS.out, ← HQN.out]; rfl)
            go_upto_region 20 with fail
            refine wp_region_grew (by kernel_rfl) (by kernel_rfl) ?_
            repeat (first | go_big_quiet_step (fail) | quiet_step (fail))
            refine wpQuiet_nil ?_
            rintro _ ⟨gg, rfl⟩
            have HFB := Lib.hid (show Below W8.heap.size W8 (grew wr gg) from grewB HBQ.out HBQ.out.size _)
            go_wp2_with fail
            go_roundw
            case rel => exact ⟨n + 1, false, by omega, by go_num, rfl, HE, HFB.out⟩
            case measure => first | (simp [intOf]; done) | (simp [intOf]; omega)
           | true =>
            have HE := Lib.hid (show decide (sd x c = 0) = onP (RP.take (n + 1)) x by rw [HQS.out, ← HQN.out]; rfl)
            generalize sd x c = S at *
            go_upto_region 20 with fail
            refine wp_region_grew (by kernel_rfl) (by kernel_rfl) ?_
            repeat (first
             | go_big_quiet_step (first | (go_at_call 51; exact grew_of (HCS.out _)))
             | quiet_step (first | (go_at_call 51; exact grew_of (HCS.out _))))
            refine wpQuiet_nil ?_
            rintro _ ⟨gg, rfl⟩
            have HFB := Lib.hid (show Below W8.heap.size W8 (grew wr gg) from grewB HBQ.out HBQ.out.size _)
            go_wp2_with fail
            go_roundw
            case rel => exact ⟨n + 1, _, by omega, by go_num, rfl, HE, HFB.out⟩
            case measure => first | (simp [intOf]; done) | (simp [intOf]; omega)
          ·obtain rfl : n = RP.length := by omega
           have hni : ¬ ((RP.length : Nat) : Int) < ((RP.length : Nat) : Int) := by omega
           have HQA := Lib.hid (show q = onP CJ x by rw [HQN.out, List.take_length]; exact HON.out x)
           have HXQ := Lib.hid (HX8.out.keep hbq)
           clear hbq
           rcases Bool.eq_false_or_eq_true q with hq | hq
           ·have HE := Lib.hid (show x = tchL CJ (N.take (m + 1)) by rw [HTS.out, ← HQA.out, hq]; rfl)
            subst hq
            obtain ⟨x0, x1, x2, x3, x4, x5, x6, xf⟩ := HXQ.out
            have xf2 := xf 2 (by decide)
            have xf3 := xf 3 (by decide)
            have xf4 := xf 4 (by decide)
            have xf5 := xf 5 (by decide)
            clear xf
            have HFX := Lib.hid (HXQ.out.put x)
            have HFB := Lib.hid (putP_below (g := gx) HBO.out (by rw [HGXE.out]; exact Nat.le_refl _) x)
            go_wp2_with fail
            go_roundw
            case rel => exact ⟨m + 1, x, by omega, by go_num, HE, HFX.out, HFB.out⟩
            case measure => first | (simp [intOf]; done) | (simp [intOf]; omega)
           ·have HE := Lib.hid (show Q = tchL CJ (N.take (m + 1)) by rw [HTS.out, ← HQA.out, hq]; exact HQ.out)
            subst hq
            go_wp2_with fail
            go_roundw
            case rel => exact ⟨m + 1, Q, by omega, by go_num, HE, HXQ.out, HBO.out⟩
            case measure => first | (simp [intOf]; done) | (simp [intOf]; omega)
        ·obtain rfl : m = N.length := by omega
         have hmj : ¬ ((N.length : Nat) : Int) < ((N.length : Nat) : Int) := by omega
         have HQF := Lib.hid (show Q = tchL CJ N by rw [HQ.out, List.take_length])
         have HYZ := Lib.hid (show (M ++ [(⟨⟨i, k, Q, CJ⟩, sa, sc⟩ : TR)]).map (·.t) = refI X Y i ++ refJ X Y i (k + 1) by rw [HYX.out, HQF.out, List.map_append, HMI.out, List.append_assoc]; rfl)
         have HB28 := Lib.hid (HB6.out.trans (HB8.out.mono HB6.out.size))
         have HMLE := Lib.hid (show M.length ≤ 2000000 by have := HML.out; omega)
         obtain ⟨x0, x1, x2, x3, x4, x5, x6, -⟩ := hx
         simp only at x0 x1 x2 x3 x4 x5 x6
         clear hb
         have hal := (Below.refl W8.heap.size W8).alloc (Nat.le_refl _) (.cells #[.int .i64 (i : Int), .int .i64 (k : Int), .int .i64 Q.a, .int .i64 Q.b, .int .i64 Q.c, .int .i64 Q.d, .slice sa CJ.length sc] 66)
         have HNW := Lib.hid (show ∀ j u, (cellsTR ⟨⟨i, k, Q, CJ⟩, sa, sc⟩)[j]? = some u → (W8.alloc (.cells #[.int .i64 (i : Int), .int .i64 (k : Int), .int .i64 Q.a, .int .i64 Q.b, .int .i64 Q.c, .int .i64 Q.d, .slice sa CJ.length sc] 66)).cell? ((⟨W8.heap.size, 0, none⟩ : Addr).add j) = some u from fun j u hj => by
          have := news_of (cellsTR ⟨⟨i, k, Q, CJ⟩, sa, sc⟩) 66 W8 W8.heap.size rfl j u hj
          simpa [cellsTR] using this)
         have HS13 := Lib.hid ((HS6.out.keep HB28.out).keep hal)
         have HC13 := Lib.hid ((HC6.out.keep HB28.out).keep hal)
         have HB14 := Lib.hid (HB2'.out.trans ((HB28.out.trans (hal.mono HB28.out.size)).mono HB2'.out.size))
         have HOKR := Lib.hid (show TRok gb (W8.alloc (.cells #[.int .i64 (i : Int), .int .i64 (k : Int), .int .i64 Q.a, .int .i64 Q.b, .int .i64 Q.c, .int .i64 Q.d, .slice sa CJ.length sc] 66)) (.slice ma M.length mc) ⟨⟨i, k, Q, CJ⟩, sa, sc⟩ from ⟨(HSV.out.keep HB8.out).keep hal, fun b e => ⟨by have h1 := (HSB.out b e).1; have h2 := HB5.out.size; have h3 := HB2'.out.size; have h4 := HGB.out; omega, by have h1 := (HSB.out b e).2; have h2 := HB8.out.size; have h3 := hal.size; omega, fun e' => by have h1 := (HSB.out b e).1; have h2 := HB5.out.size; have h3 := (own_lt HS6.out.o e').2; omega⟩, HCI.out, HCL.out⟩)
         clear hal
         go_wp2_with (at_builtin; refine wpList_append_here _ rfl _ _ 61 rfl gb 66 i0 (.agg #[.int .i64 0, .int .i64 0, .int .i64 0, .int .i64 0, .int .i64 0, .int .i64 0, .slice none 0 0]) 7 72 Tryz.underlying61 hi0 hz0 hz1 hzb rfl (by decide) (.slice ma M.length mc) M.length (M.flatMap cellsTR) rfl HS13.out.o ⟨W8.heap.size, 0, none⟩ 1 1 (cellsTR ⟨⟨i, k, Q, CJ⟩, sa, sc⟩) rfl rfl HNW.out (cellsTR_one ⟨⟨i, k, Q, CJ⟩, sa, sc⟩) (by decide) (by have := HMLE.out; simp only [maxLen]; omega) (by have := HMLE.out; omega) (by have := HGB.out; have := HB14.out.size; omega) ?_; intro v' w15 hown hgr hat; obtain ⟨va', vc', rfl, -, -⟩ := own_slice hown; have HG15 := Lib.hid hgr; have HA15 := Lib.hid hat; have HO15 := Lib.hid hown; clear hown hgr hat)
         go_roundw
         case rel => exact ⟨k + 1, M ++ [⟨⟨i, k, Q, CJ⟩, sa, sc⟩], by omega, by go_num, HYZ, Lib.hid (by have := HML.out; simp; omega), HS13.out.put HG15.out HA15.out HOKR.out (by rw [List.flatMap_append, List.length_append]; simpa using HO15.out), HC13.out.grown HG15.out HA15.out, below_grown HB14.out HG15.out (HB14.out.size) fun j hj => by have := (own_lt HS13.out.o hj).1; have := HGB.out; omega⟩
         case measure => first | (simp [intOf]; done) | (simp [intOf]; omega)
    ·obtain rfl : k = B.length := by omega
     have hkj : ¬ ((B.length : Nat) : Int) < ((B.length : Nat) : Int) := by omega
     have HNX := Lib.hid (show M.map (·.t) = refI X Y (i + 1) by rw [HMI.out, refI_succ, HYL.out])
     clear hb hst htd
     go_wp2_with fail
     go_roundw
     case rel => exact ⟨i + 1, M, by omega, by go_num, HNX, Lib.hid (by have := HML.out; omega), HS6.out, HB2'.out⟩
     case measure => first | (simp [intOf]; done) | (simp [intOf]; omega)
  ·obtain rfl : i = A.length := by omega
   have hki : ¬ ((A.length : Nat) : Int) < ((A.length : Nat) : Int) := by omega
   have HNX := Lib.hid (show L.map (·.t) = O by rw [HO.out, HLI.out, HXL.out])
   go_wp2_with fail
   refine bodyPost_ret (v := .slice va L.length vc) (by simp [results, Tryz.results40, go_sem]) rfl ?_
   exact ⟨va, vc, L, rfl, HNX, HS1.out.mono (by rw [HGB.out]; exact HB0.out.size), HBW1.out⟩
end Go.Proofs.YtbhgkadklklmbaaGreat
/- Contacts: what the law wants beside the walks. -/
set_option linter.unusedVariables false
set_option linter.unusedSimpArgs false
namespace Go.Proofs.YtbhgkadklklmbaaGreat
open Go Go.RowKit Go.Sort Go.Lib

def TR.at7 (w : World) (b o : Nat) (r : TR) : Prop := w.cell? ⟨b, o, none⟩ = some (.int .i64 (r.t.a : Int)) ∧ w.cell? ⟨b, o + 1, none⟩ = some (.int .i64 (r.t.b : Int)) ∧ w.cell? ⟨b, o + 2, none⟩ = some (.int .i64 r.t.p.a) ∧ w.cell? ⟨b, o + 3, none⟩ = some (.int .i64 r.t.p.b) ∧ w.cell? ⟨b, o + 4, none⟩ = some (.int .i64 r.t.p.c) ∧ w.cell? ⟨b, o + 5, none⟩ = some (.int .i64 r.t.p.d) ∧ w.cell? ⟨b, o + 6, none⟩ = some (.slice r.ca r.t.cs.length r.cc)
/-- Contacts that are read. -/
structure TcV (w : World) (a : Option Addr) (L : List TR) : Prop where
 v : RowV 7 TR.at7 w a L
 c : ∀ r ∈ L, Cos.V w r.ca r.t.cs ∧ r.t.cs.length ≤ 500000
theorem TcV.keep {w w' : World} {a : Option Addr} {L : List TR} (h : TcV w a L) (hb : Below w.heap.size w w') : TcV w' a L :=
 ⟨RowV.keep (fun _ _ _ h => ⟨cell_keep hb h.1, cell_keep hb h.2.1, cell_keep hb h.2.2.1, cell_keep hb h.2.2.2.1, cell_keep hb h.2.2.2.2.1, cell_keep hb h.2.2.2.2.2.1, cell_keep hb h.2.2.2.2.2.2⟩) h.v, fun r hr => ⟨(h.c r hr).1.keep hb, (h.c r hr).2⟩⟩
theorem TcSt.toV {base c : Nat} {w : World} {a : Option Addr} {L : List TR} (h : TcSt base w (.slice a L.length c) L) : TcV w a L :=
 ⟨own_rowV cellsTR_len (by decide) (fun b o x hx h => ⟨h 0 _ rfl, h 1 _ rfl, h 2 _ rfl, h 3 _ rfl, h 4 _ rfl, h 5 _ rfl, h 6 _ rfl⟩) h.o, fun r hr => ⟨(h.p r hr).cos, (h.p r hr).n⟩⟩
/-- Two contacts, each the other way round. -/
def matB (u t : Tch) : Bool := decide (u.a = t.b) && (decide (u.b = t.a) && (decide (u.p = opp t.p) && decide (u.cs = t.cs)))
theorem any_take {α : Type} {l : List α} {f : α → Bool} {k : Nat} (h : k < l.length) : (l.take (k + 1)).any f = ((l.take k).any f || f l[k]) := by
 rw [List.take_succ_eq_append_getElem h, List.any_append]
 simp
theorem any_back {X Y : List (List Pl)} (hx : OkX X) (hy : OkX Y) {U : List TR} (hU : U.map (·.t) = tchM Y X) {t : Tch} (ht : t ∈ tchM X Y) : (U.any fun u => matB u.t t) = true := by
 obtain ⟨u, hu, h1, h2, h3, h4⟩ := tch_back hx hy ht
 rw [← hU] at hu
 obtain ⟨r, hr, rfl⟩ := List.mem_map.1 hu
 exact List.any_eq_true.2 ⟨r, hr, by unfold matB; simp [h1, h2, h3, h4]⟩
theorem tch_bd {X Y : List (List Pl)} (hx : ∀ c ∈ X, Good c) {t : Tch} (ht : t ∈ tchM X Y) : (-1000000000000 ≤ t.p.a ∧ t.p.a ≤ 1000000000000) ∧ (-1000000000000 ≤ t.p.b ∧ t.p.b ≤ 1000000000000) ∧ (-1000000000000 ≤ t.p.c ∧ t.p.c ≤ 1000000000000) ∧ (-1000000000000 ≤ t.p.d ∧ t.p.d ≤ 1000000000000) := by
 obtain ⟨i, hi, k, hk, h⟩ := mem_tchM.1 ht
 have hg : Good (X.getD i []) := by rw [show X.getD i [] = X[i] by simp [List.getD, hi]]; exact hx _ (List.getElem_mem hi)
 unfold tchK at h
 split at h
 ·cases hp : tchP (X.getD i []) (Y.getD k []) with
  | none => rw [hp] at h; simp at h
  | some p =>
   rw [hp] at h
   simp only [List.mem_singleton] at h
   subst h
   have h2 := ((hg.nor (corn (X.getD i []))) p (List.mem_of_find?_eq_some hp)).1
   obtain ⟨⟨h1, h2, h3⟩, h4⟩ := h2
   simp only [nrm] at h1 h2 h3
   refine ⟨?_, ?_, ?_, ?_⟩ <;> (simp only; omega)
 ·simp at h
theorem tchE_ok {A B : List Cell} (h : twoE A B = 0) : OkX (A.map (·.planes)) ∧ OkX (B.map (·.planes)) ∧ tchE A B = tchM (A.map (·.planes)) (B.map (·.planes)) ∧ tchE B A = tchM (B.map (·.planes)) (A.map (·.planes)) ∧ twoE B A = 0 := by
 have h1 := twoE_zero.1 h
 have h2 : twoE B A = 0 := twoE_zero.2 ⟨h1.2, h1.1⟩
 have ok : ∀ L : List Cell, solE L = 0 → OkX (L.map (·.planes)) := fun L hL c hc => by
  obtain ⟨x, hx, rfl⟩ := List.mem_map.1 hc
  exact sol_of ((solE_zero.1 hL).2 x hx)
 exact ⟨ok A h1.1, ok B h1.2, by unfold tchE; rw [if_neg (by simpa using h)], by unfold tchE; rw [if_neg (by simpa using h2)], h2⟩
theorem map_at {L M : List TR} (h : L.map (·.t) = M.map (·.t)) {i : Nat} (hi : i < L.length) (hj : i < M.length) : L[i].t = M[i].t := by
 have := congrArg (·[i]?) h
 simpa [hi, hj] using this
theorem sumN_le {n c : Nat} {f : Nat → Nat} (h : ∀ k < n, f k ≤ c) : sumN n f ≤ n * c := by
 induction n with
 | zero => simp [sumN]
 | succ n ih =>
  have h1 := ih fun k hk => h k (by omega)
  have h2 := h n (by omega)
  unfold sumN
  rw [Nat.succ_mul]
  omega
theorem tchM_le {X Y : List (List Pl)} (hx : OkX X) (hy : OkX Y) (h1 : X.length ≤ 1000) (h2 : Y.length ≤ 1000) : (tchM X Y).length ≤ 1000000 := by
 rw [tch_len_at hx hy]
 have h : (sumN X.length fun i => sumN Y.length fun k => if tchB (X.getD i []) (Y.getD k []) = true then 1 else 0) ≤ X.length * 1000 := sumN_le fun i _ => by
  have h3 : (sumN Y.length fun k => if tchB (X.getD i []) (Y.getD k []) = true then 1 else 0) ≤ Y.length * 1 := sumN_le fun k _ => by split <;> omega
  omega
 omega
end Go.Proofs.YtbhgkadklklmbaaGreat
