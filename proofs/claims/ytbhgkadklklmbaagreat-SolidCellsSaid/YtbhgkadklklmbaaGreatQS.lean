/- Two rows of planes joined; what the laws know of few cells. -/
import Derived.Test.YtbhgkadklklmbaaGreatQM
import Derived.Test.YtbhgkadklklmbaaGreatQO
import Derived.Test.YtbhgkadklklmbaaGreatQL
import Derived.Test.YtbhgkadklklmbaaGreatQH
import Derived.Test.YtbhgkadklklmbaaGreatQI
set_option linter.unusedVariables false
set_option linter.unusedSimpArgs false
namespace Go.Proofs.YtbhgkadklklmbaaGreat
open Go Go.RowKit Go.Sort Go.Lib

theorem cells_len {w : World} {a : Option Addr} {l : List Cell} (h : Cells.V w a l) : ∀ x ∈ l, x.planes.length ≤ 9223372036854775807 := fun x hx => by
 obtain ⟨b, off, rfl, hz⟩ := h (List.ne_nil_of_mem hx)
 obtain ⟨k, hk, rfl⟩ := List.mem_iff_getElem.1 hx
 obtain ⟨pa, pc, -, -, h1, h2, -⟩ := hz k _ (List.getElem?_eq_getElem hk)
 simp only [maxLen] at h2
 omega
theorem few_len {cs : List Cell} {m : Int} (hm : m ≤ 4) (h : fewB cs m = true) : cs.length ≤ 105 := by
 unfold fewB at h
 simp only [Bool.and_eq_true, Bool.not_eq_true', Bool.or_eq_false_iff, decide_eq_false_iff_not] at h
 omega
theorem few_pl {cs : List Cell} {m : Int} (h : fewB cs m = true) : ∀ x ∈ cs, x.planes.length ≤ 20 := fun x hx => by
 unfold fewB at h
 rw [Bool.and_eq_true] at h
 have := List.all_eq_true.1 h.2 x hx
 unfold slimB at this
 simp only [Bool.or_eq_true, Bool.and_eq_true, decide_eq_true_eq] at this
 omega
set_option maxRecDepth 100000 in
set_option maxHeartbeats 4000000 in
theorem joined_any (ps qs : List Pl) (pa qa : Option Addr) (pc qc : Nat) (w : World) (hv : Pls.V w pa ps) (hu : Pls.V w qa qs) (hl : ps.length ≤ 100000) (hm : qs.length ≤ 100000) :
    Calls Tryz.prog 97 #[.slice pa ps.length pc, .slice qa qs.length qc] w fun e w' => ∃ a c, e = .returned (.slice a (ps ++ qs).length c) ∧ w'.ownsRow w.heap.size 26 4 (.slice a (ps ++ qs).length c) (ps ++ qs).length ((ps ++ qs).flatMap cellsPl) ∧ Below w.heap.size w w' := by
 obtain ⟨i0, hi0, hz0, hz1, hz2⟩ := info_parts infoPl
 have HB := Lib.hid ((Below.refl w.heap.size w).alloc (Nat.le_refl _) (.cells #[] 26))
 have HOW := Lib.hid (World.ownsRow_made (e := 26) (base := w.heap.size) (size := 4) w #[] 0 (by omega) (by decide) (by simp))
 have HPV := Lib.hid (plsNews (hv.keep HB.out))
 have HQ := Lib.hid hu
 clear hv hu
 go_enter Tryz.func97, Tryz.ntmps97
 go_wp2_with (first
  | (have hpv := HPV.out; clear HPV; at_builtin; refine wpList_append_rows cellsPl_len cellsPl_one (by decide) rfl _ _ 22 rfl w.heap.size 26 i0 _ 32 Tryz.underlying22 hi0 hz0 hz1 hz2 rfl (by decide) (.slice (some ⟨w.heap.size, 0, none⟩) 0 0) 0 [] rfl HOW.out pa ps pc rfl hpv (by omega) (by simp) ?_; clear hpv; intro v' w5 ho5 hg5 ha5; obtain ⟨ra, rc, rfl, -, -⟩ := own_slice ho5; have HO5 := Lib.hid (show w5.ownsRow w.heap.size 26 4 (.slice ra ps.length rc) ps.length (ps.flatMap cellsPl) by simpa using ho5); have HB5 := Lib.hid (below_grown HB.out hg5 HB.out.size fun k hk => by have := (own_lt HOW.out hk).1; omega); have HQN := Lib.hid (plsNews (HQ.out.keep HB5.out)); clear ho5 hg5 ha5)
  | (have hqn := HQN.out; clear HQN; at_builtin; refine wpList_append_rows cellsPl_len cellsPl_one (by decide) rfl _ _ 22 rfl w.heap.size 26 i0 _ 32 Tryz.underlying22 hi0 hz0 hz1 hz2 rfl (by decide) (.slice ra ps.length rc) ps.length (ps.flatMap cellsPl) rfl HO5.out qa qs qc rfl hqn (by omega) HB5.out.size ?_; clear hqn; intro v' w6 ho6 hg6 ha6; obtain ⟨ta, tc, rfl, -, -⟩ := own_slice ho6; have HO6 := Lib.hid (show w6.ownsRow w.heap.size 26 4 (.slice ta (ps.length + qs.length) tc) (ps.length + qs.length) (ps.flatMap cellsPl ++ qs.flatMap cellsPl) from ho6); have HB6 := Lib.hid (below_grown HB5.out hg6 HB5.out.size fun k hk => (own_lt HO5.out hk).1); clear ho6 hg6 ha6))
 go_ret
 exact ⟨ta, tc, by rw [List.length_append]; rfl, by rw [List.length_append, List.flatMap_append]; exact HO6.out, HB6.out⟩
end Go.Proofs.YtbhgkadklklmbaaGreat
/- The check of an overlap's proof, as the document says it. -/
set_option linter.unusedVariables false
set_option linter.unusedSimpArgs false
namespace Go.Proofs.YtbhgkadklklmbaaGreat
open Go Go.RowKit Go.Sort Go.Lib

/-- The first fault of the points. -/
def firE : List Co → Int
 | [] => 0
 | c :: l => if coE c ≠ 0 then coE c else firE l
theorem firE_drop {l : List Co} {k : Nat} (hk : k < l.length) : firE (l.drop k) = if coE l[k] ≠ 0 then coE l[k] else firE (l.drop (k + 1)) := by rw [List.drop_eq_getElem_cons hk, firE]
theorem firE_all {l : List Co} (h : firE l = 0) : ∀ c ∈ l, coE c = 0 := by
 induction l with
 | nil => intro c hc; cases hc
 | cons x l ih =>
  rw [firE] at h
  split at h
  ·rename_i h1; exact absurd h h1
  ·rename_i h1
   intro c hc
   rcases List.mem_cons.1 hc with rfl | hc
   ·simpa using h1
   ·exact ih h c hc
def lapIn (A B : List Cell) (o : Lap) : Prop := (0 ≤ o.a ∧ o.a < A.length) ∧ (0 ≤ o.b ∧ o.b < B.length)
instance (A B : List Cell) (o : Lap) : Decidable (lapIn A B o) := by unfold lapIn; infer_instance
def lapL (A B : List Cell) (o : Lap) : List Pl := (A.getD o.a.toNat ⟨[]⟩).planes ++ (B.getD o.b.toNat ⟨[]⟩).planes
def alwAll (l : List Pl) (cs : List Co) : Bool := cs.all fun c => alwR l c
theorem alwAll_drop {l : List Pl} {cs : List Co} {k : Nat} (hk : k < cs.length) : alwAll l (cs.drop k) = (alwR l cs[k] && alwAll l (cs.drop (k + 1))) := by unfold alwAll; rw [List.drop_eq_getElem_cons hk, List.all_cons]
def lapE (A B : List Cell) (o : Lap) : Int :=
 if ¬ lapIn A B o then 6 else if 1000 < o.corners.length then 8 else if firE o.corners ≠ 0 then firE o.corners else
 if alwAll (lapL A B o) o.corners = true ∧ insid (lapL A B o) o.corners = true then 0 else 26
theorem within_dec {n : Int} {L : Nat} : withinB n 0 ((L : Int) - 1) = decide (0 ≤ n ∧ n < L) := by
 unfold withinB
 rw [Bool.eq_iff_iff]
 simp only [Bool.and_eq_true, decide_eq_true_eq]
 omega
set_option maxRecDepth 100000 in
set_option maxHeartbeats 16000000 in
theorem checkOverlapR_any (A B : List Cell) (aa ba : Option Addr) (an bn : Nat) (o : Lap) (oa : Option Addr) (oc : Nat) (w : World) (hva : Cells.V w aa A) (hvb : Cells.V w ba B) (hvo : Cos.V w oa o.corners) (hla : A.length ≤ 1000) (hlb : B.length ≤ 1000) (hlo : o.corners.length ≤ 9223372036854775807)
    (hpa : ∀ x ∈ A, x.planes.length ≤ 1000 ∧ Good x.planes) (hpb : ∀ x ∈ B, x.planes.length ≤ 1000 ∧ Good x.planes) :
    Calls Tryz.prog 54 #[.agg #[.slice aa A.length an], .agg #[.slice ba B.length bn], .agg #[.int .i64 o.a, .int .i64 o.b, .slice oa o.corners.length oc]] w fun e w' => e = .returned (.int .i64 (lapE A B o)) ∧ Below w.heap.size w w' := by
 have hmix : Tryz.prog.follows .mixedOrders = true := by kernel_rfl
 obtain ⟨oi, oj, cs⟩ := o
 simp only at hvo hlo ⊢
 obtain ⟨R, hR⟩ : ∃ R, R = lapE A B ⟨oi, oj, cs⟩ := ⟨_, rfl⟩
 rw [← hR]
 have HR := Lib.hid (show R = if ¬ lapIn A B ⟨oi, oj, cs⟩ then 6 else if 1000 < cs.length then 8 else if firE cs ≠ 0 then firE cs else if alwAll (lapL A B ⟨oi, oj, cs⟩) cs = true ∧ insid (lapL A B ⟨oi, oj, cs⟩) cs = true then 0 else 26 from hR)
 have HVA := Lib.hid hva
 have HVB := Lib.hid hvb
 have HVO := Lib.hid hvo
 have HPA := Lib.hid hpa
 have HPB := Lib.hid hpb
 have HW1 := Lib.hid (fun W => withinR_any oi 0 ((A.length : Int) - 1) W)
 have HW2 := Lib.hid (fun W => withinR_any oj 0 ((B.length : Int) - 1) W)
 rw [within_dec] at HW1 HW2
 have HCE := Lib.hid (fun (c : Co) W => cornerErr_any c W)
 clear hR hva hvb hvo hpa hpb
 have v1 : IntKind.i64.wrap ((A.length : Int) - 1) = (A.length : Int) - 1 := IntWalk.i64_in _ (by omega)
 have v2 : IntKind.i64.wrap ((B.length : Int) - 1) = (B.length : Int) - 1 := IntWalk.i64_in _ (by omega)
 go_enter Tryz.func54, Tryz.ntmps54
 go_upto_region 1 with fail
 refine gen_world (fun W => W.cell? ⟨w.heap.size, 0, none⟩ = some (.slice aa A.length an) ∧ W.cell? ⟨w.heap.size + 1, 0, none⟩ = some (.slice ba B.length bn) ∧ (W.cell? ⟨w.heap.size + 2, 0, none⟩ = some (.int .i64 oi) ∧ W.cell? ⟨w.heap.size + 2, 1, none⟩ = some (.int .i64 oj) ∧ W.cell? ⟨w.heap.size + 2, 2, none⟩ = some (.slice oa cs.length oc)) ∧ Below w.heap.size w W) ⟨by simp [go_sem], by simp [go_sem], ⟨by simp [go_sem], by simp [go_sem], by simp [go_sem]⟩, by repeat (first | (with_reducible assumption) | exact Below.refl _ _ | (refine Below.setCell ?_ (by first | omega | (simp; omega) | (simp; done)) _) | (refine Below.alloc ?_ (by first | omega | (simp; omega) | (simp; done)) _) | (refine Below.drew ?_))⟩ ?_
 rintro W ⟨a0, b0, ⟨o0, o1, o2⟩, hb⟩
 have HB0 := Lib.hid hb
 clear hb
 obtain ⟨gw, hgw⟩ : ∃ g, g = w.heap.size := ⟨_, rfl⟩
 have HGW := Lib.hid hgw
 rw [← hgw] at a0 b0 o0 o1 o2 ⊢
 clear hgw
 by_cases h1 : 0 ≤ oi ∧ oi < A.length
 ·rw [decide_eq_true h1] at HW1
  by_cases h2 : 0 ≤ oj ∧ oj < B.length
  ·rw [decide_eq_true h2] at HW2
   have HR1 := Lib.hid (show R = if 1000 < cs.length then 8 else if firE cs ≠ 0 then firE cs else if alwAll (lapL A B ⟨oi, oj, cs⟩) cs = true ∧ insid (lapL A B ⟨oi, oj, cs⟩) cs = true then 0 else 26 by rw [HR.out, if_neg (fun h => h ⟨h1, h2⟩)])
   obtain ⟨ia, hia⟩ : ∃ n : Nat, oi = n := ⟨oi.toNat, by omega⟩
   obtain ⟨ib, hib⟩ : ∃ n : Nat, oj = n := ⟨oj.toNat, by omega⟩
   subst hia hib
   have hka : ia < A.length := by omega
   have hkb : ib < B.length := by omega
   have HLL := Lib.hid (show lapL A B ⟨ia, ib, cs⟩ = A[ia].planes ++ B[ib].planes by
    unfold lapL
    simp only [Int.toNat_natCast, List.getD_eq_getElem?_getD, List.getElem?_eq_getElem hka, List.getElem?_eq_getElem hkb, Option.getD_some])
   rw [HLL.out] at HR1
   by_cases hc : 1000 < cs.length
   ·have hci : (1000 : Int) < (cs.length : Int) := by omega
    have HR2 := Lib.hid (show R = 8 by rw [HR1.out, if_pos hc])
    clear h1 h2
    go_wp2_with (first | (have h := HW1.out; clear HW1; go_at_call 82; refine (h _).mono ?_; clear h; rintro e w' ⟨rfl, rfl⟩) | (have h := HW2.out; clear HW2; go_at_call 82; refine (h _).mono ?_; clear h; rintro e w' ⟨rfl, rfl⟩))
    go_ret
    exact ⟨by rw [HR2.out]; rfl, HB0.out⟩
   ·have hci : ¬ (1000 : Int) < (cs.length : Int) := by omega
    have HR2 := Lib.hid (show R = if firE cs ≠ 0 then firE cs else if alwAll (A[ia].planes ++ B[ib].planes) cs = true ∧ insid (A[ia].planes ++ B[ib].planes) cs = true then 0 else 26 by rw [HR1.out, if_neg hc])
    have HO2 := Lib.hid o2
    have HA0 := Lib.hid (And.intro a0 (And.intro b0 (And.intro o0 o1)))
    clear HR HR1 HLL
    go_wp2_with (first | (have h := HW1.out; clear HW1; go_at_call 82; refine (h _).mono ?_; clear h; rintro e w' ⟨rfl, rfl⟩) | (have h := HW2.out; clear HW2; go_at_call 82; refine (h _).mono ?_; clear h; rintro e w' ⟨rfl, rfl⟩))
    go_loopw [7] (fun iv wr => ∃ i : Nat, i ≤ cs.length ∧ iv = .int .i64 (i : Int) ∧ Hid (firE cs = firE (cs.drop i)) ∧ Below W.heap.size W wr) (fun iv _ => cs.length - (intOf iv).toNat)
    case atStart => exact ⟨0, Nat.zero_le _, rfl, Lib.hid rfl, Below.refl _ _⟩
    case round =>
     obtain ⟨i, hi, rfl, HF, hb⟩ := hrel
     have HBI := Lib.hid hb
     have HBW := Lib.hid (HB0.out.trans (hb.mono HB0.out.size))
     obtain ⟨a0, b0, o0, o1⟩ := HA0.out
     have a0 := cell_keep hb a0
     have b0 := cell_keep hb b0
     have o0 := cell_keep hb o0
     have o1 := cell_keep hb o1
     have o2 := cell_keep hb HO2.out
     by_cases hlt : i < cs.length
     ·have hki : (i : Int) < (cs.length : Int) := by omega
      obtain ⟨cb, co, rfl, hat⟩ := (HVO.out.keep HBW.out).at_ hlt
      have HD := Lib.hid (firE_drop hlt)
      have HCC := Lib.hid (fun W => HCE.out cs[i] W)
      generalize cs[i] = c at *
      obtain ⟨c0, c1, c2, c3, -⟩ := hat
      by_cases hz : coE c = 0
      ·have HN := Lib.hid (show firE cs = firE (cs.drop (i + 1)) by rw [HF.out, HD.out, if_neg (by simpa using hz)])
       rw [hz] at HCC
       clear hz hb
       go_wp2_with (go_at_call 50; refine (HCC.out _).mono ?_; rintro e w2 ⟨rfl, hb2⟩; have HB2 := Lib.hid (HBI.out.trans (hb2.mono HBI.out.size)); clear hb2)
       go_roundw
       case rel => exact ⟨i + 1, by omega, by go_num, HN, HB2.out⟩
       case measure => first | (simp [intOf]; done) | (simp [intOf]; omega)
      ·have HN := Lib.hid (show R = coE c by
         have h1 : firE cs = coE c := by rw [HF.out, HD.out, if_pos hz]
         rw [HR2.out, h1, if_pos hz])
       generalize coE c = E at *
       clear hb
       go_wp2_with (go_at_call 50; refine (HCC.out _).mono ?_; rintro e w2 ⟨rfl, hb2⟩; have HB2 := Lib.hid (HBI.out.trans (hb2.mono HBI.out.size)); clear hb2)
       go_ret
       exact ⟨by rw [HN.out]; rfl, HB0.out.trans (HB2.out.mono HB0.out.size)⟩
     ·obtain rfl : i = cs.length := by omega
      have hki : ¬ ((cs.length : Nat) : Int) < ((cs.length : Nat) : Int) := by omega
      have h0 : firE cs = 0 := by rw [HF.out, List.drop_length]; rfl
      have HR3 := Lib.hid (show R = if alwAll (A[ia].planes ++ B[ib].planes) cs = true ∧ insid (A[ia].planes ++ B[ib].planes) cs = true then 0 else 26 by rw [HR2.out, if_neg (by simpa using h0)])
      have HCI := Lib.hid (fun c (hc : c ∈ cs) => coE_in (firE_all h0 c hc))
      clear h0
      have HVAr := Lib.hid (HVA.out.keep HBW.out)
      have HVBr := Lib.hid (HVB.out.keep HBW.out)
      obtain ⟨ab, ao, rfl, hat⟩ := HVAr.out.at_ hka
      obtain ⟨bb, bo, rfl, hbt⟩ := HVBr.out.at_ hkb
      have HPP := Lib.hid (HPA.out _ (List.getElem_mem hka))
      have HPQ := Lib.hid (HPB.out _ (List.getElem_mem hkb))
      generalize A[ia] = x at *
      generalize B[ib] = y at *
      obtain ⟨xa, xc, x0, xv, -⟩ := hat
      obtain ⟨ya, yc, y0, yv, -⟩ := hbt
      rw [Nat.mul_one] at x0 y0
      obtain ⟨ps, hps⟩ : ∃ ps, ps = x.planes := ⟨_, rfl⟩
      obtain ⟨qs, hqs⟩ : ∃ qs, qs = y.planes := ⟨_, rfl⟩
      rw [← hps] at HR3 HPP x0 xv
      rw [← hqs] at HR3 HPQ y0 yv
      have HXV := Lib.hid xv
      have HYV := Lib.hid yv
      have HGJ := Lib.hid (show ∀ p ∈ ps ++ qs, p.in_ from fun p hp => by
       rcases List.mem_append.1 hp with hp | hp
       ·exact (HPP.out.2 p hp).1
       ·exact (HPQ.out.2 p hp).1)
      have HLJ := Lib.hid (show (ps ++ qs).length ≤ 2000 by have h1 := HPP.out.1; have h2 := HPQ.out.1; rw [List.length_append]; omega)
      obtain ⟨J, hJ⟩ : ∃ J, J = ps ++ qs := ⟨_, rfl⟩
      rw [← hJ] at HGJ HLJ HR3
      have HJE := Lib.hid hJ
      clear hJ
      have n1' : (0 : Int) ≤ ia := by omega
      have n2' : (0 : Int) ≤ ib := by omega
      have n3' : (ia : Int) < (A.length : Int) := by omega
      have n4' : (ib : Int) < (B.length : Int) := by omega
      have HO2r := Lib.hid o2
      clear hb hps hqs xv yv h1 h2
      go_upto_region 11 with fail
      have kx0 : ∀ u : KW (fun W' => Below wr.heap.size wr W'), u.w.cell? ⟨gw, 0, none⟩ = some (.slice (some ⟨ab, ao, none⟩) A.length an) ∧ u.w.cell? ⟨gw + 1, 0, none⟩ = some (.slice (some ⟨bb, bo, none⟩) B.length bn) ∧ u.w.cell? ⟨gw + 2, 0, none⟩ = some (.int .i64 ia) ∧ u.w.cell? ⟨gw + 2, 1, none⟩ = some (.int .i64 ib) ∧ u.w.cell? ⟨ab, ao + ia, none⟩ = some (.slice xa ps.length xc) ∧ u.w.cell? ⟨bb, bo + ib, none⟩ = some (.slice ya qs.length yc) := fun u => ⟨cell_keep u.ok a0, cell_keep u.ok b0, cell_keep u.ok o0, cell_keep u.ok o1, cell_keep u.ok x0, cell_keep u.ok y0⟩
      haveI nn1 : Nonempty (KW (fun W' => Below wr.heap.size wr W')) := ⟨⟨wr, Below.refl _ _⟩⟩
      refine wp_region_tree (fun w' => ∃ u : KW (fun W' => Below wr.heap.size wr W'), w' = u.w) 14 (.take 0 (.take 1 (.take 2 (.take 3 (.take 4 (.take 5 (.take 6 (.take 7 (.take 8 (.take 9 (.take 10 (.take 11 (.take 12 (.take 13 .done)))))))))))))) hmix (by kernel_rfl) (KW.mk' (Below.refl _ _).drew) ?_
      have HC0 := Lib.hid (show Below wr.heap.size wr wr.drew from (Below.refl _ _).drew)
      generalize wr.drew = ww0 at *
      repeat (refine wpTree_take ?_; simp only [nthOp]; (first | go_big_quiet_step (fail) | quiet_step (fail)); refine wpQuiet_nil ?_)
      refine wpTree_done ?_
      simp only [List.drop_succ_cons, List.drop_zero]
      have HJ := Lib.hid (joined_any ps qs xa ya xc yc ww0 (HXV.out.keep HC0.out) (HYV.out.keep HC0.out) (by have := HPP.out.1; omega) (by have := HPQ.out.1; omega))
      rw [← HJE.out] at HJ
      clear kx0 nn1 a0 b0 o0 o1 x0 y0
      go_wp2_with (go_at_call 97; refine HJ.out.mono ?_; rintro e w3 ⟨ja, jc, rfl, ho, hb3⟩; have HB3 := Lib.hid (HC0.out.trans (hb3.mono HC0.out.size)); have HJV := Lib.hid (show Pls.V w3 ja J from ownPlV (fun p hp => Pl.in_.wf (HGJ.out p hp)) ho); clear ho hb3)
      refine NP_mk ?_
      have o2 := cell_keep HB3.out HO2r.out
      have HO3 := Lib.hid o2
      have HVO3 := Lib.hid ((HVO.out.keep HBW.out).keep HB3.out)
      have HBW3 := Lib.hid (HBW.out.trans (HB3.out.mono HBW.out.size))
      go_wp2_with fail
      go_loopw [10] (fun iv wq => ∃ i : Nat, i ≤ cs.length ∧ iv = .int .i64 (i : Int) ∧ Hid (alwAll J cs = alwAll J (cs.drop i)) ∧ Below w3.heap.size w3 wq) (fun iv _ => cs.length - (intOf iv).toNat)
      case atStart => exact ⟨0, Nat.zero_le _, rfl, Lib.hid rfl, Below.refl _ _⟩
      case round =>
       obtain ⟨i, hi, rfl, HF, hb⟩ := hrel
       have HBI := Lib.hid hb
       have HB4 := Lib.hid (HBW3.out.trans (hb.mono HBW3.out.size))
       have o2 := cell_keep hb HO3.out
       by_cases hlt : i < cs.length
       ·have hki : (i : Int) < (cs.length : Int) := by omega
        obtain ⟨cb, co, rfl, hat⟩ := (HVO3.out.keep hb).at_ hlt
        have HD := Lib.hid (alwAll_drop (l := J) hlt)
        have HAL := Lib.hid (fun W (h : Below wr.heap.size wr W) => allowed_any J ja jc cs[i] W ((HJV.out.keep hb).keep h) (by have := HLJ.out; omega) HGJ.out (HCI.out _ (List.getElem_mem hlt)))
        generalize cs[i] = c at *
        obtain ⟨c0, c1, c2, c3, -⟩ := hat
        clear hb
        by_cases hz : alwR J c = true
        ·have HN := Lib.hid (show alwAll J cs = alwAll J (cs.drop (i + 1)) by rw [HF.out, HD.out, hz]; rfl)
         rw [hz] at HAL
         clear hz
         go_wp2_with (go_at_call 87; refine (HAL.out _ (Below.refl _ _)).mono ?_; rintro e w5 ⟨rfl, hb5⟩; have HB5 := Lib.hid (HBI.out.trans (hb5.mono HBI.out.size)); clear hb5)
         go_roundw
         case rel => exact ⟨i + 1, by omega, by go_num, HN, HB5.out⟩
         case measure => first | (simp [intOf]; done) | (simp [intOf]; omega)
        ·have hz : alwR J c = false := by simpa using hz
         have HN := Lib.hid (show R = 26 by
          have h1 : alwAll J cs = false := by rw [HF.out, HD.out, hz]; rfl
          rw [HR3.out, h1]; simp)
         rw [hz] at HAL
         clear hz
         go_wp2_with (go_at_call 87; refine (HAL.out _ (Below.refl _ _)).mono ?_; rintro e w5 ⟨rfl, hb5⟩; have HB5 := Lib.hid (HB4.out.trans (hb5.mono HB4.out.size)); clear hb5)
         go_ret
         exact ⟨by rw [HN.out]; rfl, HB5.out⟩
       ·obtain rfl : i = cs.length := by omega
        have hki : ¬ ((cs.length : Nat) : Int) < ((cs.length : Nat) : Int) := by omega
        have h1 : alwAll J cs = true := by rw [HF.out, List.drop_length]; rfl
        have HR4 := Lib.hid (show R = if insid J cs = true then 0 else 26 by rw [HR3.out, h1]; simp)
        have HIN := Lib.hid (inside_any J ja jc cs oa oc wr (HJV.out.keep hb) (by have := HLJ.out; omega) HGJ.out (HVO3.out.keep hb) (by omega) HCI.out)
        clear h1 hb
        by_cases hz : insid J cs = true
        ·have HN := Lib.hid (show R = 0 by rw [HR4.out, if_pos hz])
         rw [hz] at HIN
         clear hz
         go_wp2_with (go_at_call 79; refine HIN.out.mono ?_; rintro e w5 ⟨rfl, hb5⟩; have HB5 := Lib.hid (HB4.out.trans (hb5.mono HB4.out.size)); clear hb5)
         go_ret
         exact ⟨by rw [HN.out]; rfl, HB5.out⟩
        ·have HN := Lib.hid (show R = 26 by rw [HR4.out, if_neg hz])
         have hz : insid J cs = false := by simpa using hz
         rw [hz] at HIN
         clear hz
         go_wp2_with (go_at_call 79; refine HIN.out.mono ?_; rintro e w5 ⟨rfl, hb5⟩; have HB5 := Lib.hid (HB4.out.trans (hb5.mono HB4.out.size)); clear hb5)
         go_ret
         exact ⟨by rw [HN.out]; rfl, HB5.out⟩
  ·rw [decide_eq_false h2] at HW2
   have HR1 := Lib.hid (show R = 6 by rw [HR.out, if_pos (fun h => h2 h.2)])
   clear h1 h2
   go_wp2_with (first | (have h := HW1.out; clear HW1; go_at_call 82; refine (h _).mono ?_; clear h; rintro e w' ⟨rfl, rfl⟩) | (have h := HW2.out; clear HW2; go_at_call 82; refine (h _).mono ?_; clear h; rintro e w' ⟨rfl, rfl⟩))
   go_ret
   exact ⟨by rw [HR1.out]; rfl, HB0.out⟩
 ·rw [decide_eq_false h1] at HW1
  have HR1 := Lib.hid (show R = 6 by rw [HR.out, if_pos (fun h => h1 h.1)])
  clear h1
  go_wp2_with (have h := HW1.out; clear HW1; go_at_call 82; refine (h _).mono ?_; clear h; rintro e w' ⟨rfl, rfl⟩)
  go_ret
  exact ⟨by rw [HR1.out]; rfl, HB0.out⟩
end Go.Proofs.YtbhgkadklklmbaaGreat
/- The check of an overlap's proof, as the program says it. -/
set_option linter.unusedVariables false
set_option linter.unusedSimpArgs false
namespace Go.Proofs.YtbhgkadklklmbaaGreat
open Go Go.RowKit Go.Sort Go.Lib

def okP (cs : List Co) (p : Pl) : Bool := (cs.all fun c => !decide (0 < sd p c)) && cs.any fun c => decide (sd p c < 0)
theorem okP_all {l : List Pl} {cs : List Co} : l.all (okP cs) = (alwAll l cs && insid l cs) := by
 unfold alwAll alwR insid okP
 rw [Bool.eq_iff_iff]
 simp only [List.all_eq_true, Bool.and_eq_true]
 exact ⟨fun h => ⟨fun c hc p hp => (h p hp).1 c hc, fun p hp => (h p hp).2⟩, fun h p hp => ⟨fun c hc => h.1 c hc p hp, h.2 p hp⟩⟩
theorem okP_drop {l : List Pl} {cs : List Co} {k : Nat} (hk : k < l.length) : (l.drop k).all (okP cs) = (okP cs l[k] && (l.drop (k + 1)).all (okP cs)) := by rw [List.drop_eq_getElem_cons hk, List.all_cons]
def posO (p : Pl) (cs : List Co) : Bool := cs.all fun c => !decide (0 < sd p c)
theorem posO_drop {p : Pl} {cs : List Co} {k : Nat} (hk : k < cs.length) : posO p (cs.drop k) = (!decide (0 < sd p cs[k]) && posO p (cs.drop (k + 1))) := by unfold posO; rw [List.drop_eq_getElem_cons hk, List.all_cons]
theorem okP_eq {p : Pl} {cs : List Co} : okP cs p = (posO p cs && negT p cs cs.length) := by unfold okP posO negT; rw [List.take_length]
def lapPE (A B : List Cell) (o : Lap) : Int := if twoE A B ≠ 0 then twoE A B else lapE A B o
set_option maxRecDepth 100000 in
set_option maxHeartbeats 16000000 in
theorem checkOverlap_any (A B : List Cell) (aa ba : Option Addr) (an bn : Nat) (o : Lap) (oa : Option Addr) (oc : Nat) (w : World) (hva : Cells.V w aa A) (hvb : Cells.V w ba B) (hvo : Cos.V w oa o.corners) (hla : A.length ≤ 1000) (hlb : B.length ≤ 1000) (hlo : o.corners.length ≤ 9223372036854775807)
    (hpa : ∀ x ∈ A, x.planes.length ≤ 1000) (hpb : ∀ x ∈ B, x.planes.length ≤ 1000) :
    Calls Tryz.prog 55 #[.agg #[.slice aa A.length an], .agg #[.slice ba B.length bn], .agg #[.int .i64 o.a, .int .i64 o.b, .slice oa o.corners.length oc]] w fun e w' => e = .returned (.int .i64 (lapPE A B o)) ∧ Below w.heap.size w w' := by
 have hmix : Tryz.prog.follows .mixedOrders = true := by kernel_rfl
 obtain ⟨oi, oj, cs⟩ := o
 simp only at hvo hlo ⊢
 obtain ⟨R, hR⟩ : ∃ R, R = lapPE A B ⟨oi, oj, cs⟩ := ⟨_, rfl⟩
 rw [← hR]
 have HR := Lib.hid (show R = if twoE A B ≠ 0 then twoE A B else if ¬ lapIn A B ⟨oi, oj, cs⟩ then 6 else if 1000 < cs.length then 8 else if firE cs ≠ 0 then firE cs else if alwAll (lapL A B ⟨oi, oj, cs⟩) cs = true ∧ insid (lapL A B ⟨oi, oj, cs⟩) cs = true then 0 else 26 from hR)
 have HTW := Lib.hid (fun W (h : Below w.heap.size w W) => two_any A B aa an ba bn W (by omega) (hva.keep h) (fun x hx => by have := hpa x hx; omega) (by omega) (hvb.keep h) (fun x hx => by have := hpb x hx; omega))
 have HVA := Lib.hid hva
 have HVB := Lib.hid hvb
 have HVO := Lib.hid hvo
 have HPA := Lib.hid hpa
 have HPB := Lib.hid hpb
 have HCE := Lib.hid (fun (c : Co) W => checkPoint_any c W)
 have HGD := Lib.hid (fun (h : twoE A B = 0) => And.intro (fun x hx => (good_of (readE_zero.1 (chkCs_all.1 (by have h1 := (twoE_zero.1 h).1; unfold solE at h1; split at h1 <;> first | exact h1 | omega) x hx)).2.1 : Good x.planes)) (fun x hx => (good_of (readE_zero.1 (chkCs_all.1 (by have h1 := (twoE_zero.1 h).2; unfold solE at h1; split at h1 <;> first | exact h1 | omega) x hx)).2.1 : Good x.planes)) : twoE A B = 0 → (∀ x ∈ A, Good x.planes) ∧ (∀ x ∈ B, Good x.planes))
 clear hR hva hvb hvo hpa hpb
 go_enter Tryz.func55, Tryz.ntmps55
 go_upto_region 1 with fail
 refine gen_world (fun W => W.cell? ⟨w.heap.size, 0, none⟩ = some (.slice aa A.length an) ∧ W.cell? ⟨w.heap.size + 1, 0, none⟩ = some (.slice ba B.length bn) ∧ (W.cell? ⟨w.heap.size + 2, 0, none⟩ = some (.int .i64 oi) ∧ W.cell? ⟨w.heap.size + 2, 1, none⟩ = some (.int .i64 oj) ∧ W.cell? ⟨w.heap.size + 2, 2, none⟩ = some (.slice oa cs.length oc)) ∧ Below w.heap.size w W) ⟨by simp [go_sem], by simp [go_sem], ⟨by simp [go_sem], by simp [go_sem], by simp [go_sem]⟩, by repeat (first | (with_reducible assumption) | exact Below.refl _ _ | (refine Below.setCell ?_ (by first | omega | (simp; omega) | (simp; done)) _) | (refine Below.alloc ?_ (by first | omega | (simp; omega) | (simp; done)) _) | (refine Below.drew ?_))⟩ ?_
 rintro W ⟨a0, b0, ⟨o0, o1, o2⟩, hb⟩
 have HB0 := Lib.hid hb
 clear hb
 obtain ⟨gw, hgw⟩ : ∃ g, g = w.heap.size := ⟨_, rfl⟩
 have HGW := Lib.hid hgw
 rw [← hgw] at a0 b0 o0 o1 o2 ⊢
 clear hgw
 by_cases ht : twoE A B = 0
 ·obtain ⟨hga, hgb⟩ := HGD.out ht
  have HGA := Lib.hid hga
  have HGB := Lib.hid hgb
  have HR0 := Lib.hid (show R = if ¬ lapIn A B ⟨oi, oj, cs⟩ then 6 else if 1000 < cs.length then 8 else if firE cs ≠ 0 then firE cs else if alwAll (lapL A B ⟨oi, oj, cs⟩) cs = true ∧ insid (lapL A B ⟨oi, oj, cs⟩) cs = true then 0 else 26 by rw [HR.out, if_neg (by simpa using ht)])
  rw [ht] at HTW
  clear ht hga hgb HGD HR
  by_cases h1 : 0 ≤ oi ∧ oi < A.length
  ·have h1a : ¬ oi < 0 := by omega
   have h1b : ¬ (A.length : Int) ≤ oi := by omega
   by_cases h2 : 0 ≤ oj ∧ oj < B.length
   ·have h2a : ¬ oj < 0 := by omega
    have h2b : ¬ (B.length : Int) ≤ oj := by omega
    have HR1 := Lib.hid (show R = if 1000 < cs.length then 8 else if firE cs ≠ 0 then firE cs else if alwAll (lapL A B ⟨oi, oj, cs⟩) cs = true ∧ insid (lapL A B ⟨oi, oj, cs⟩) cs = true then 0 else 26 by rw [HR0.out, if_neg (fun h => h ⟨h1, h2⟩)])
    obtain ⟨ia, hia⟩ : ∃ n : Nat, oi = n := ⟨oi.toNat, by omega⟩
    obtain ⟨ib, hib⟩ : ∃ n : Nat, oj = n := ⟨oj.toNat, by omega⟩
    subst hia hib
    have hka : ia < A.length := by omega
    have hkb : ib < B.length := by omega
    have HLL := Lib.hid (show lapL A B ⟨ia, ib, cs⟩ = A[ia].planes ++ B[ib].planes by
     unfold lapL
     simp only [Int.toNat_natCast, List.getD_eq_getElem?_getD, List.getElem?_eq_getElem hka, List.getElem?_eq_getElem hkb, Option.getD_some])
    rw [HLL.out] at HR1
    by_cases hc : 1000 < cs.length
    ·have hci : (1000 : Int) < (cs.length : Int) := by omega
     have HR2 := Lib.hid (show R = 8 by rw [HR1.out, if_pos hc])
     clear h1 h2
     go_wp2_with (go_at_call 89; refine (HTW.out _ HB0.out).mono ?_; rintro e w1 ⟨x, y, rfl, hb1, hr⟩; obtain ⟨xa, xn, xc, ya, yn, yc, rfl, rfl⟩ := hr.shape; have a0 := cell_keep hb1 a0; have b0 := cell_keep hb1 b0; have o0 := cell_keep hb1 o0; have o1 := cell_keep hb1 o1; have o2 := cell_keep hb1 o2; have HB1 := Lib.hid (HB0.out.trans (hb1.mono HB0.out.size)); clear hb1 hr)
     go_ret
     exact ⟨by rw [HR2.out]; rfl, HB1.out⟩
    ·have hci : ¬ (1000 : Int) < (cs.length : Int) := by omega
     have HR2 := Lib.hid (show R = if firE cs ≠ 0 then firE cs else if alwAll (A[ia].planes ++ B[ib].planes) cs = true ∧ insid (A[ia].planes ++ B[ib].planes) cs = true then 0 else 26 by rw [HR1.out, if_neg hc])
     clear HR0 HR1 HLL h1 h2 h1a h1b h2a h2b
     have hd1 : decide ((ia : Int) < 0) = false := by simp
     have hd2 : decide (A.length ≤ ia) = false := by simp; omega
     have hd3 : decide ((ib : Int) < 0) = false := by simp
     have hd4 : decide (B.length ≤ ib) = false := by simp; omega
     have hd5 : decide ((1000 : Int) < (cs.length : Int)) = false := by simp; omega
     go_wp2_with (go_at_call 89; refine (HTW.out _ HB0.out).mono ?_; rintro e w1 ⟨x, y, rfl, hb1, hr⟩; obtain ⟨xa, xn, xc, ya, yn, yc, rfl, rfl⟩ := hr.shape; have a0 := cell_keep hb1 a0; have b0 := cell_keep hb1 b0; have o0 := cell_keep hb1 o0; have o1 := cell_keep hb1 o1; have o2 := cell_keep hb1 o2; have HB1 := Lib.hid (HB0.out.trans (hb1.mono HB0.out.size)); clear hb1 hr)
     have HO2 := Lib.hid o2
     have HA0 := Lib.hid (And.intro a0 (And.intro b0 (And.intro o0 o1)))
     clear a0 b0 o0 o1 o2
     go_loopw [62] (fun iv wr => ∃ i : Nat, i ≤ cs.length ∧ iv = .int .i64 (i : Int) ∧ Hid (firE cs = firE (cs.drop i)) ∧ Below w1.heap.size w1 wr) (fun iv _ => cs.length - (intOf iv).toNat)
     case atStart => exact ⟨0, Nat.zero_le _, rfl, Lib.hid rfl, Below.refl _ _⟩
     case round =>
      obtain ⟨i, hi, rfl, HF, hb⟩ := hrel
      have HBI := Lib.hid hb
      have HBW := Lib.hid (HB1.out.trans (hb.mono HB1.out.size))
      obtain ⟨a0, b0, o0, o1⟩ := HA0.out
      have a0 := cell_keep hb a0
      have b0 := cell_keep hb b0
      have o0 := cell_keep hb o0
      have o1 := cell_keep hb o1
      have o2 := cell_keep hb HO2.out
      by_cases hlt : i < cs.length
      ·have hki : (i : Int) < (cs.length : Int) := by omega
       obtain ⟨cb, co, rfl, hat⟩ := (HVO.out.keep HBW.out).at_ hlt
       have HD := Lib.hid (firE_drop hlt)
       have HCC := Lib.hid (fun W => HCE.out cs[i] W)
       generalize cs[i] = c at *
       obtain ⟨c0, c1, c2, c3, -⟩ := hat
       by_cases hz : coE c = 0
       ·have HN := Lib.hid (show firE cs = firE (cs.drop (i + 1)) by rw [HF.out, HD.out, if_neg (by simpa using hz)])
        rw [hz] at HCC
        clear hz hb
        go_wp2_with (go_at_call 91; refine (HCC.out _).mono ?_; rintro e w2 ⟨rfl, hb2⟩; have HB2 := Lib.hid (HBI.out.trans ((((Below.refl wr.heap.size wr).alloc (Nat.le_refl _) _).trans (hb2.mono (by simp))).mono HBI.out.size)); clear hb2)
        go_roundw
        case rel => exact ⟨i + 1, by omega, by go_num, HN, HB2.out⟩
        case measure => first | (simp [intOf]; done) | (simp [intOf]; omega)
       ·have HN := Lib.hid (show R = coE c by
          have h1 : firE cs = coE c := by rw [HF.out, HD.out, if_pos hz]
          rw [HR2.out, h1, if_pos hz])
        generalize coE c = E at *
        clear hb
        go_wp2_with (go_at_call 91; refine (HCC.out _).mono ?_; rintro e w2 ⟨rfl, hb2⟩; have HB2 := Lib.hid (HBI.out.trans ((((Below.refl wr.heap.size wr).alloc (Nat.le_refl _) _).trans (hb2.mono (by simp))).mono HBI.out.size)); clear hb2)
        go_ret
        exact ⟨by rw [HN.out]; rfl, HB1.out.trans (HB2.out.mono HB1.out.size)⟩
      ·obtain rfl : i = cs.length := by omega
       have hki : ¬ ((cs.length : Nat) : Int) < ((cs.length : Nat) : Int) := by omega
       have h0 : firE cs = 0 := by rw [HF.out, List.drop_length]; rfl
       have HR3 := Lib.hid (show R = if alwAll (A[ia].planes ++ B[ib].planes) cs = true ∧ insid (A[ia].planes ++ B[ib].planes) cs = true then 0 else 26 by rw [HR2.out, if_neg (by simpa using h0)])
       have HCI := Lib.hid (fun c (hc : c ∈ cs) => coE_in (firE_all h0 c hc))
       clear h0
       have HVAr := Lib.hid (HVA.out.keep HBW.out)
       have HVBr := Lib.hid (HVB.out.keep HBW.out)
       obtain ⟨ab, ao, rfl, hat⟩ := HVAr.out.at_ hka
       obtain ⟨bb, bo, rfl, hbt⟩ := HVBr.out.at_ hkb
       have HPP := Lib.hid (And.intro (HPA.out _ (List.getElem_mem hka)) (HGA.out _ (List.getElem_mem hka)))
       have HPQ := Lib.hid (And.intro (HPB.out _ (List.getElem_mem hkb)) (HGB.out _ (List.getElem_mem hkb)))
       generalize A[ia] = x at *
       generalize B[ib] = y at *
       obtain ⟨xa, xc, x0, xv, -⟩ := hat
       obtain ⟨ya, yc, y0, yv, -⟩ := hbt
       rw [Nat.mul_one] at x0 y0
       obtain ⟨ps, hps⟩ : ∃ ps, ps = x.planes := ⟨_, rfl⟩
       obtain ⟨qs, hqs⟩ : ∃ qs, qs = y.planes := ⟨_, rfl⟩
       rw [← hps] at HR3 HPP x0 xv
       rw [← hqs] at HR3 HPQ y0 yv
       have HXV := Lib.hid xv
       have HYV := Lib.hid yv
       have HGJ := Lib.hid (show ∀ p ∈ ps ++ qs, p.in_ from fun p hp => by
        rcases List.mem_append.1 hp with hp | hp
        ·exact (HPP.out.2 p hp).1
        ·exact (HPQ.out.2 p hp).1)
       have HLJ := Lib.hid (show (ps ++ qs).length ≤ 2000 by have h1 := HPP.out.1; have h2 := HPQ.out.1; rw [List.length_append]; omega)
       obtain ⟨J, hJ⟩ : ∃ J, J = ps ++ qs := ⟨_, rfl⟩
       rw [← hJ] at HGJ HLJ HR3
       have HJE := Lib.hid hJ
       clear hJ
       have n1' : (0 : Int) ≤ ia := by omega
       have n2' : (0 : Int) ≤ ib := by omega
       have n3' : (ia : Int) < (A.length : Int) := by omega
       have n4' : (ib : Int) < (B.length : Int) := by omega
       have HO2r := Lib.hid o2
       clear hb hps hqs xv yv
       have hpl1 := HPP.out.1
       have hpl2 := HPQ.out.1
       have HCN := Lib.hid (fun W (h : Below wr.heap.size wr W) (h0 : W.cell? ⟨wr.heap.size, 0, none⟩ = some (.slice xa ps.length xc)) (h1 : W.cell? ⟨wr.heap.size, 1, none⟩ = some (.slice ya qs.length yc)) => concat2_any wr.heap.size xa ps xc ya qs yc W h0 h1 (HXV.out.keep h) (HYV.out.keep h) (by omega))
       rw [← HJE.out] at HCN
       go_upto_region 15 with fail
       go_region_held3 (fun w' => w'.cell? ⟨gw, 0, none⟩ = some (.slice (some ⟨ab, ao, none⟩) A.length an) ∧ w'.cell? ⟨gw + 1, 0, none⟩ = some (.slice (some ⟨bb, bo, none⟩) B.length bn) ∧ w'.cell? ⟨gw + 2, 0, none⟩ = some (.int .i64 ia) ∧ w'.cell? ⟨gw + 2, 1, none⟩ = some (.int .i64 ib) ∧ w'.cell? ⟨ab, ao + ia, none⟩ = some (.slice xa ps.length xc) ∧ w'.cell? ⟨bb, bo + ib, none⟩ = some (.slice ya qs.length yc)) (first | (with_reducible exact ⟨cell_keep HB3.out a0, cell_keep HB3.out b0, cell_keep HB3.out o0, cell_keep HB3.out o1, cell_keep HB3.out x0, cell_keep HB3.out y0⟩) | go_keep) ((go_at_call 108; with_reducible refine (HCN.out _ (((Below.refl wr.heap.size wr).alloc (Nat.le_refl _) _).drew) (by first | (simp [go_sem]; done) | (show (World.alloc _ _).cell? _ = _; simp [go_sem])) (by first | (simp [go_sem]; done) | (show (World.alloc _ _).cell? _ = _; simp [go_sem]))).mono ?_; rintro e w3 ⟨ja, jc, rfl, hjc, ho, hb3⟩; have HB3 := Lib.hid ((((Below.refl wr.heap.size wr).alloc (Nat.le_refl _) _).drew).trans (hb3.mono (by simp))); have HJV := Lib.hid (show Pls.V w3 ja J from ownPlV (fun p hp => Pl.in_.wf (HGJ.out p hp)) ho); clear ho hb3 hjc))
       have o2r := cell_keep HB3.out HO2r.out
       have HO3 := Lib.hid o2r
       have HVO3 := Lib.hid ((HVO.out.keep HBW.out).keep HB3.out)
       have HBW3 := Lib.hid (HBW.out.trans (HB3.out.mono HBW.out.size))
       have HRJ := Lib.hid (show R = if J.all (okP cs) = true then 0 else 26 by rw [HR3.out, okP_all]; simp only [Bool.and_eq_true])
       clear a0 b0 o0 o1 o2 x0 y0 hpl1 hpl2 o2r
       go_wp2_with fail
       go_loopw [89] (fun iv wq => ∃ k : Nat, k ≤ J.length ∧ iv = .int .i64 (k : Int) ∧ Hid (J.all (okP cs) = (J.drop k).all (okP cs)) ∧ Below w3.heap.size w3 wq) (fun iv _ => J.length - (intOf iv).toNat)
       case atStart => exact ⟨0, Nat.zero_le _, rfl, Lib.hid rfl, Below.refl _ _⟩
       case round =>
        obtain ⟨k, hk, rfl, HK, hb⟩ := hrel
        have HBK := Lib.hid hb
        have HB4 := Lib.hid (HBW3.out.trans (hb.mono HBW3.out.size))
        by_cases hlt : k < J.length
        ·have hki : (k : Int) < (J.length : Int) := by omega
         obtain ⟨pb, po, rfl, hat⟩ := (HJV.out.keep hb).at_ hlt
         have HD := Lib.hid (okP_drop (cs := cs) hlt)
         have HPI := Lib.hid (HGJ.out _ (List.getElem_mem hlt))
         generalize J[k] = p at *
         obtain ⟨p0, p1, p2, p3, -⟩ := hat
         have HB5' := Lib.hid (HBK.out)
         go_upto_region 18 with fail
         refine gen_world (fun W5 => PlBx W5 wr.heap.size p ∧ Below wr.heap.size wr W5) ⟨⟨by simp [go_sem], by simp [go_sem], by simp [go_sem], by simp [go_sem]⟩, by repeat (first | (with_reducible assumption) | exact Below.refl _ _ | (refine Below.setCell ?_ (by first | omega | (simp; omega) | (simp; done)) _) | (refine Below.alloc ?_ (by first | omega | (simp; omega) | (simp; done)) _) | (refine Below.drew ?_))⟩ ?_
         rintro W5 ⟨hp5, hb5⟩
         have HP5 := Lib.hid hp5
         have HB5 := Lib.hid (HBK.out.trans (hb5.mono HBK.out.size))
         have o2 := cell_keep hb5 (cell_keep hb HO3.out)
         have HVO5 := Lib.hid ((HVO3.out.keep hb).keep hb5)
         obtain ⟨g14, hg14⟩ : ∃ g, g = wr.heap.size := ⟨_, rfl⟩
         rw [← hg14] at HP5 ⊢
         clear hg14 hp5 hb5 hb p0 p1 p2 p3
         go_wp2_with fail
         go_loopw [15, 96] (fun qv jv wq => ∃ (j : Nat) (q : Bool), j ≤ cs.length ∧ jv = .int .i64 (j : Int) ∧ qv = .bool q ∧ Hid (q = negT p cs j) ∧ Hid (posO p cs = posO p (cs.drop j)) ∧ Below W5.heap.size W5 wq) (fun _ jv _ => cs.length - (intOf jv).toNat)
         case atStart => exact ⟨0, false, Nat.zero_le _, rfl, rfl, Lib.hid rfl, Lib.hid rfl, Below.refl _ _⟩
         case round =>
          obtain ⟨j, q, hj, rfl, rfl, HQ, HPO, hb⟩ := hrel
          have HBJ := Lib.hid hb
          have HBO := Lib.hid (HB5.out.trans (hb.mono HB5.out.size))
          have HBT := Lib.hid (HBW3.out.trans (HBO.out.mono HBW3.out.size))
          obtain ⟨e0, e1, e2, e3⟩ := HP5.out.keep hb
          by_cases hjt : j < cs.length
          ·have hji : (j : Int) < (cs.length : Int) := by omega
           obtain ⟨cb, co, rfl, hcat⟩ := (HVO5.out.keep hb).at_ hjt
           have HQS := Lib.hid (negT_succ (p := p) hjt)
           have HPS := Lib.hid (posO_drop (p := p) hjt)
           have HSD := Lib.hid (fun W => side_any p cs[j] HPI.out (HCI.out _ (List.getElem_mem hjt)) W)
           generalize cs[j] = c at *
           obtain ⟨c0, c1, c2, c3, -⟩ := hcat
           have hl0 := block_lt_of_cell e0
           simp only at hl0
           clear hb
           by_cases h1 : 0 < sd p c
           ·have HN := Lib.hid (show R = 26 by
              have h2 : posO p cs = false := by rw [HPO.out, HPS.out, decide_eq_true h1]; rfl
              have h3 : J.all (okP cs) = false := by rw [HK.out, HD.out, okP_eq, h2]; rfl
              rw [HRJ.out, h3]; simp)
            generalize sd p c = X at *
            go_wp2_with (go_at_call 92; refine (HSD.out _).mono ?_; rintro e w6 ⟨rfl, hb6⟩; have HB6 := Lib.hid (HBT.out.trans ((((Below.refl wr.heap.size wr).alloc (Nat.le_refl _) _).trans (hb6.mono (by simp))).mono HBT.out.size)); clear hb6)
            go_ret
            exact ⟨by rw [HN.out]; rfl, HB6.out⟩
           ·have HPN := Lib.hid (show posO p cs = posO p (cs.drop (j + 1)) by rw [HPO.out, HPS.out, decide_eq_false h1]; rfl)
            have HQN := Lib.hid (show (q || decide (sd p c < 0)) = negT p cs (j + 1) by rw [HQS.out, HQ.out])
            generalize sd p c = X at *
            cases q with
            | true =>
             go_wp2_with (go_at_call 92; refine (HSD.out _).mono ?_; rintro e w6 ⟨rfl, hb6⟩; have HB6 := Lib.hid (HBJ.out.trans ((((Below.refl wr.heap.size wr).alloc (Nat.le_refl _) _).trans (hb6.mono (by simp))).mono HBJ.out.size)); clear hb6)
             go_roundw
             case rel => exact ⟨j + 1, true, by omega, by go_num, rfl, HQN, HPN, HB6.out⟩
             case measure => first | (simp [intOf]; done) | (simp [intOf]; omega)
            | false =>
             go_wp2_with (go_at_call 92; refine (HSD.out _).mono ?_; rintro e w6 ⟨rfl, hb6⟩; have HB6 := Lib.hid (HBJ.out.trans ((((Below.refl wr.heap.size wr).alloc (Nat.le_refl _) _).trans (hb6.mono (by simp))).mono HBJ.out.size)); clear hb6)
             go_roundw
             case rel => exact ⟨j + 1, decide (X < 0), by omega, by go_num, rfl, HQN, HPN, HB6.out⟩
             case measure => first | (simp [intOf]; done) | (simp [intOf]; omega)
          ·obtain rfl : j = cs.length := by omega
           have hji : ¬ ((cs.length : Nat) : Int) < ((cs.length : Nat) : Int) := by omega
           have hpo : posO p cs = true := by rw [HPO.out, List.drop_length]; rfl
           clear hb
           cases q with
           | true =>
            have HN := Lib.hid (show J.all (okP cs) = (J.drop (k + 1)).all (okP cs) by rw [HK.out, HD.out, okP_eq, hpo, ← HQ.out]; rfl)
            clear hpo
            have hjl := HLJ.out
            go_wp2_with fail
            go_roundw
            case rel => exact ⟨k + 1, by omega, by go_num, HN, HBO.out⟩
            case measure => first | (simp [intOf]; done) | (simp [intOf]; omega)
           | false =>
            have HN := Lib.hid (show R = 26 by
             have h3 : J.all (okP cs) = false := by rw [HK.out, HD.out, okP_eq, hpo, ← HQ.out]; rfl
             rw [HRJ.out, h3]; simp)
            clear hpo
            go_wp2_with fail
            go_ret
            exact ⟨by rw [HN.out]; rfl, HBT.out⟩
        ·obtain rfl : k = J.length := by omega
         have hki : ¬ ((J.length : Nat) : Int) < ((J.length : Nat) : Int) := by omega
         have HN := Lib.hid (show R = 0 by
          have h3 : J.all (okP cs) = true := by rw [HK.out, List.drop_length]; rfl
          rw [HRJ.out, h3]; simp)
         clear hb
         go_wp2_with fail
         go_ret
         exact ⟨by rw [HN.out]; rfl, HB4.out⟩
   ·have HR1 := Lib.hid (show R = 6 by rw [HR0.out, if_pos (fun h => h2 h.2)])
    clear h1
    by_cases h3 : oj < 0
    ·clear h2
     go_wp2_with (go_at_call 89; refine (HTW.out _ HB0.out).mono ?_; rintro e w1 ⟨x, y, rfl, hb1, hr⟩; obtain ⟨xa, xn, xc, ya, yn, yc, rfl, rfl⟩ := hr.shape; have a0 := cell_keep hb1 a0; have b0 := cell_keep hb1 b0; have o0 := cell_keep hb1 o0; have o1 := cell_keep hb1 o1; have o2 := cell_keep hb1 o2; have HB1 := Lib.hid (HB0.out.trans (hb1.mono HB0.out.size)); clear hb1 hr)
     go_ret
     exact ⟨by rw [HR1.out]; rfl, HB1.out⟩
    ·have h4 : (B.length : Int) ≤ oj := by omega
     clear h2
     go_wp2_with (go_at_call 89; refine (HTW.out _ HB0.out).mono ?_; rintro e w1 ⟨x, y, rfl, hb1, hr⟩; obtain ⟨xa, xn, xc, ya, yn, yc, rfl, rfl⟩ := hr.shape; have a0 := cell_keep hb1 a0; have b0 := cell_keep hb1 b0; have o0 := cell_keep hb1 o0; have o1 := cell_keep hb1 o1; have o2 := cell_keep hb1 o2; have HB1 := Lib.hid (HB0.out.trans (hb1.mono HB0.out.size)); clear hb1 hr)
     go_ret
     exact ⟨by rw [HR1.out]; rfl, HB1.out⟩
  ·have HR1 := Lib.hid (show R = 6 by rw [HR0.out, if_pos (fun h => h1 h.1)])
   by_cases h3 : oi < 0
   ·clear h1
    go_wp2_with (go_at_call 89; refine (HTW.out _ HB0.out).mono ?_; rintro e w1 ⟨x, y, rfl, hb1, hr⟩; obtain ⟨xa, xn, xc, ya, yn, yc, rfl, rfl⟩ := hr.shape; have a0 := cell_keep hb1 a0; have b0 := cell_keep hb1 b0; have o0 := cell_keep hb1 o0; have o1 := cell_keep hb1 o1; have o2 := cell_keep hb1 o2; have HB1 := Lib.hid (HB0.out.trans (hb1.mono HB0.out.size)); clear hb1 hr)
    go_ret
    exact ⟨by rw [HR1.out]; rfl, HB1.out⟩
   ·have h4 : (A.length : Int) ≤ oi := by omega
    clear h1
    go_wp2_with (go_at_call 89; refine (HTW.out _ HB0.out).mono ?_; rintro e w1 ⟨x, y, rfl, hb1, hr⟩; obtain ⟨xa, xn, xc, ya, yn, yc, rfl, rfl⟩ := hr.shape; have a0 := cell_keep hb1 a0; have b0 := cell_keep hb1 b0; have o0 := cell_keep hb1 o0; have o1 := cell_keep hb1 o1; have o2 := cell_keep hb1 o2; have HB1 := Lib.hid (HB0.out.trans (hb1.mono HB0.out.size)); clear hb1 hr)
    go_ret
    exact ⟨by rw [HR1.out]; rfl, HB1.out⟩
 ·have HR1 := Lib.hid (show R = twoE A B by rw [HR.out, if_pos ht])
  generalize twoE A B = E at *
  clear HR HGD
  go_wp2_with (go_at_call 89; refine (HTW.out _ HB0.out).mono ?_; rintro e w1 ⟨x, y, rfl, hb1, hr⟩; obtain ⟨xa, xn, xc, ya, yn, yc, rfl, rfl⟩ := hr.shape; have a0 := cell_keep hb1 a0; have b0 := cell_keep hb1 b0; have o0 := cell_keep hb1 o0; have o1 := cell_keep hb1 o1; have o2 := cell_keep hb1 o2; have HB1 := Lib.hid (HB0.out.trans (hb1.mono HB0.out.size)); clear hb1 hr)
  go_ret
  exact ⟨by rw [HR1.out]; rfl, HB1.out⟩
end Go.Proofs.YtbhgkadklklmbaaGreat
/- Points in memory as the append wants them; cells kept beside an empty block. -/
set_option linter.unusedVariables false
set_option linter.unusedSimpArgs false
namespace Go.Proofs.YtbhgkadklklmbaaGreat
open Go Go.RowKit Go.Sort Go.Lib

theorem cosNews {w : World} {a : Option Addr} {l : List Co} (h : Cos.V w a l) : l ≠ [] → ∃ ad, a = some ad ∧ ∀ j u, (l.flatMap cellsCo)[j]? = some u → w.cell? (ad.add j) = some u := fun hne => by
 obtain ⟨b, off, rfl, _⟩ := h hne
 exact ⟨_, rfl, row_news cellsCo_len (by decide) (fun _ _ _ h => Co_cells h) h⟩
theorem cos_wf {w : World} {a : Option Addr} {l : List Co} (h : Cos.V w a l) : ∀ c ∈ l, c.wf := fun c hc => by
 obtain ⟨b, off, rfl, hx⟩ := h (List.ne_nil_of_mem hc)
 obtain ⟨k, hk, rfl⟩ := List.mem_iff_getElem.1 hc
 exact (hx k _ (List.getElem?_eq_getElem hk)).2.2.2.2
/-- A block with no cell in it. -/
def Bare (w : World) (g : Nat) : Prop := ∀ a v, w.cell? a = some v → a.block ≠ g
theorem Bare.new (w : World) (T : TypeId) : Bare (w.alloc (.cells #[] T)) w.heap.size := fun a v h e => by
 unfold World.cell? at h
 rw [e, show (w.alloc (.cells #[] T)).heap = w.heap.push (.cells #[] T) from rfl, Array.getElem?_push_size] at h
 simp only at h
 split at h <;> simp at h
theorem Bare.keep {w w' : World} {g : Nat} (h : Bare w g) (hl : g < w.heap.size) (hb : Below w.heap.size w w') : Bare w' g := fun a v ha e => by
 refine h a v ?_ e
 have := hb.block g hl
 unfold World.cell? at ha ⊢
 rw [e] at ha ⊢
 rw [← this]
 exact ha
theorem cellsV_grown {w w' : World} {g : Nat} {a : Option Addr} {l : List Cell} (hn : Bare w g) (hg : w.grownBy w' (some g)) (h : Cells.V w a l) : Cells.V w' a l := fun hne => by
 have key : ∀ (x : Addr) (v : Value), w.cell? x = some v → w'.cell? x = some v := fun x v hx => grown_cell hg hx (fun e => by injection e with e; exact hn x v hx e.symm)
 obtain ⟨b, off, rfl, hx⟩ := h hne
 refine ⟨b, off, rfl, fun k x hk => ?_⟩
 obtain ⟨pa, pc, h0, hp, h1, h2, hw⟩ := hx k x hk
 refine ⟨pa, pc, key _ _ h0, fun hne => ?_, h1, h2, hw⟩
 obtain ⟨pb, po, rfl, hy⟩ := hp hne
 refine ⟨pb, po, rfl, fun j y hj => ?_⟩
 obtain ⟨y0, y1, y2, y3, hyw⟩ := hy j y hj
 exact ⟨key _ _ y0, key _ _ y1, key _ _ y2, key _ _ y3, hyw⟩
end Go.Proofs.YtbhgkadklklmbaaGreat
