/- The document's lowest form and order of planes. -/
import Derived.Test.YtgjmfdhgeahdcaaGreatQN
import Derived.Test.YtgjmfdhgeahdcaaGreatQB
import Derived.Test.YtgjmfdhgeahdcaaGreatQC
import Derived.Test.YtgjmfdhgeahdcaaGreatQV
import Derived.Test.YtgjmfdhgeahdcaaGreatQO
import Derived.Test.YtgjmfdhgeahdcaaGreatQE
import Derived.Test.YtgjmfdhgeahdcaaGreatQD
set_option linter.unusedVariables false
set_option linter.unusedSimpArgs false
namespace Go.Proofs.YtgjmfdhgeahdcaaGreat
open Go Go.RowKit Go.Sort Go.Lib

set_option maxRecDepth 100000 in
set_option maxHeartbeats 4000000 in
theorem lowestR_any (p : Pl) (hp : p.in_) (h0 : g4 p.a p.b p.c p.d ≠ 0) (w : World) : Calls Tryz.prog 40 #[.agg #[.int .i64 p.a, .int .i64 p.b, .int .i64 p.c, .int .i64 p.d]] w fun e w' => e = .returned (.agg #[.int .i64 (lowL p).a, .int .i64 (lowL p).b, .int .i64 (lowL p).c, .int .i64 (lowL p).d]) ∧ Below w.heap.size w w' := by
 obtain ⟨⟨h1, h2, h3⟩, h4⟩ := hp
 obtain ⟨G, hG⟩ : ∃ G, G = g4 p.a p.b p.c p.d := ⟨_, rfl⟩
 rw [← hG] at h0
 obtain ⟨pa, pb, pc, pd⟩ := p
 simp only [nrm] at h1 h2 h3 h4 hG
 have HRV := Lib.hid (show (Ending.returned (.agg #[.int .i64 (pa.tdiv (G : Int)), .int .i64 (pb.tdiv (G : Int)), .int .i64 (pc.tdiv (G : Int)), .int .i64 (pd.tdiv (G : Int))])) = .returned (.agg #[.int .i64 (lowL ⟨pa, pb, pc, pd⟩).a, .int .i64 (lowL ⟨pa, pb, pc, pd⟩).b, .int .i64 (lowL ⟨pa, pb, pc, pd⟩).c, .int .i64 (lowL ⟨pa, pb, pc, pd⟩).d]) by unfold lowL; simp only; rw [← hG])
 have e1 := tdiv_in (s := (G : Int)) h1
 have e2 := tdiv_in (s := (G : Int)) h2
 have e3 := tdiv_in (s := (G : Int)) h3
 have e4 := tdiv_in (s := (G : Int)) h4
 have v1 : IntKind.i64.wrap (pa.tdiv (G : Int)) = pa.tdiv (G : Int) := IntWalk.i64_in _ (by omega)
 have v2 : IntKind.i64.wrap (pb.tdiv (G : Int)) = pb.tdiv (G : Int) := IntWalk.i64_in _ (by omega)
 have v3 : IntKind.i64.wrap (pc.tdiv (G : Int)) = pc.tdiv (G : Int) := IntWalk.i64_in _ (by omega)
 have v4 : IntKind.i64.wrap (pd.tdiv (G : Int)) = pd.tdiv (G : Int) := IntWalk.i64_in _ (by omega)
 have hs0 : ¬ (G : Int) = 0 := by omega
 have hs1 : ((G : Int) == 0) = false := by simpa using hs0
 obtain ⟨G1, hG1⟩ : ∃ G1, G1 = Nat.gcd pa.natAbs pb.natAbs := ⟨_, rfl⟩
 obtain ⟨G2, hG2⟩ : ∃ G2, G2 = Nat.gcd pc.natAbs pd.natAbs := ⟨_, rfl⟩
 have l1 : G1 ≤ 100000000 := by
  rw [hG1]
  by_cases hz : pb = 0
  ·rw [hz, Int.natAbs_zero, Nat.gcd_zero_right]; omega
  ·exact Nat.le_trans (Nat.gcd_le_right _ (by omega)) (by omega)
 have l2 : G2 ≤ 100000000 := by
  rw [hG2]
  by_cases hz : pd = 0
  ·rw [hz, Int.natAbs_zero, Nat.gcd_zero_right]; omega
  ·exact Nat.le_trans (Nat.gcd_le_right _ (by omega)) (by omega)
 have HG1 := Lib.hid (fun W => gcdR_any pa pb (by omega) (by omega) W)
 have HG2 := Lib.hid (fun W => gcdR_any pc pd (by omega) (by omega) W)
 have HG3 := Lib.hid (fun W => gcdR_any (G1 : Int) (G2 : Int) (by omega) (by omega) W)
 rw [← hG1] at HG1
 rw [← hG2] at HG2
 rw [show Nat.gcd (G1 : Int).natAbs (G2 : Int).natAbs = G by rw [Int.natAbs_natCast, Int.natAbs_natCast, hG1, hG2, hG, gcd4]] at HG3
 clear e1 e2 e3 e4 h1 h2 h3 h4 hG hG1 hG2 l1 l2
 go_enter Tryz.func40, Tryz.ntmps40
 go_upto_region 1 with fail
 refine gen_world (fun W => (((W.cell? ⟨w.heap.size, 0, none⟩ = some (.int .i64 pa) ∧ W.cell? ⟨w.heap.size, 1, none⟩ = some (.int .i64 pb) ∧ W.cell? ⟨w.heap.size, 2, none⟩ = some (.int .i64 pc) ∧ W.cell? ⟨w.heap.size, 3, none⟩ = some (.int .i64 pd))) ∧ ((W.cell? ⟨w.heap.size + 1, 0, none⟩ = some (.int .i64 0) ∧ W.cell? ⟨w.heap.size + 1, 1, none⟩ = some (.int .i64 0) ∧ W.cell? ⟨w.heap.size + 1, 2, none⟩ = some (.int .i64 0) ∧ W.cell? ⟨w.heap.size + 1, 3, none⟩ = some (.int .i64 0)) ∧ (W.frozen? ⟨w.heap.size + 1, 0, none⟩ = false ∧ W.frozen? ⟨w.heap.size + 1, 1, none⟩ = false ∧ W.frozen? ⟨w.heap.size + 1, 2, none⟩ = false ∧ W.frozen? ⟨w.heap.size + 1, 3, none⟩ = false))) ∧ Below w.heap.size w W ∧ w.heap.size + 1 < W.heap.size) ⟨⟨⟨by simp [go_sem], by simp [go_sem], by simp [go_sem], by simp [go_sem]⟩, ⟨by simp [go_sem], by simp [go_sem], by simp [go_sem], by simp [go_sem]⟩, by simp [go_sem], by simp [go_sem], by simp [go_sem], by simp [go_sem]⟩, by repeat (first | (with_reducible assumption) | exact Below.refl _ _ | (refine Below.setCell ?_ (by first | omega | (simp; omega) | (simp; done)) _) | (refine Below.alloc ?_ (by first | omega | (simp; omega) | (simp; done)) _) | (refine Below.drew ?_)), by simp⟩ ?_
 rintro W ⟨⟨⟨p0, p1, p2, p3⟩, ⟨z0, z1, z2, z3⟩, f0, f1, f2, f3⟩, hb, hz⟩
 have HB := Lib.hid hb
 clear hb
 obtain ⟨gp, hgp⟩ : ∃ g, g = w.heap.size := ⟨_, rfl⟩
 have HGP := Lib.hid hgp
 rw [← hgp] at p0 p1 p2 p3 z0 z1 z2 z3 f0 f1 f2 f3 hz
 rw [show w.heap.size = gp from hgp.symm]
 clear hgp
 have hmix : Tryz.prog.follows .mixedOrders = true := by kernel_rfl
 have hz0 : gp < W.heap.size := by omega
 refine wp_region_grew (by kernel_rfl) (by kernel_rfl) ?_
 repeat (first | go_big_quiet_step (fail) | quiet_step (fail))
 (first | go_big_quiet_step ((go_at_call 23; exact grew_of (HG1.out _))) | quiet_step ((go_at_call 23; exact grew_of (HG1.out _))))
 repeat (first | go_big_quiet_step (fail) | quiet_step (fail))
 (first | go_big_quiet_step ((go_at_call 23; exact grew_of (HG2.out _))) | quiet_step ((go_at_call 23; exact grew_of (HG2.out _))))
 repeat (first | go_big_quiet_step (fail) | quiet_step (fail))
 (first | go_big_quiet_step ((go_at_call 23; exact grew_of (HG3.out _))) | quiet_step ((go_at_call 23; exact grew_of (HG3.out _))))
 repeat (first | go_big_quiet_step (fail) | quiet_step (fail))
 refine wpQuiet_nil ?_
 rintro _ ⟨gg, rfl⟩
 have HB5 := Lib.hid (show Below W.heap.size W (grew W gg) from grewB (Below.refl _ _) (Nat.le_refl _) _)
 generalize grew W gg = w5 at *
 go_upto_region 2 with fail
 have p0 := cell_keep HB5.out p0
 have p1 := cell_keep HB5.out p1
 have p2 := cell_keep HB5.out p2
 have p3 := cell_keep HB5.out p3
 have z0 := cell_keep HB5.out z0
 have z1 := cell_keep HB5.out z1
 have z2 := cell_keep HB5.out z2
 have z3 := cell_keep HB5.out z3
 have f0 := frozen_keep HB5.out (by simp only; omega) f0
 have f1 := frozen_keep HB5.out (by simp only; omega) f1
 have f2 := frozen_keep HB5.out (by simp only; omega) f2
 have f3 := frozen_keep HB5.out (by simp only; omega) f3
 have hz5 := HB5.out.size
 have hz6 : gp + 1 < w5.heap.size := by omega
 have kx0 : ∀ y : KW (fun W' => Below w5.heap.size w5 W'), (y.w.cell? ⟨gp, 0, none⟩ = some (.int .i64 pa) ∧ y.w.cell? ⟨gp, 1, none⟩ = some (.int .i64 pb) ∧ y.w.cell? ⟨gp, 2, none⟩ = some (.int .i64 pc) ∧ y.w.cell? ⟨gp, 3, none⟩ = some (.int .i64 pd)) := fun y => ⟨cell_keep y.ok p0, cell_keep y.ok p1, cell_keep y.ok p2, cell_keep y.ok p3⟩
 haveI n1 : Nonempty (KW (fun W' => Below w5.heap.size w5 W')) := ⟨⟨w5, Below.refl _ _⟩⟩
 clear p0 p1 p2 p3
 refine wp_region_tree (fun w' => ∃ y : KW (fun W' => Below w5.heap.size w5 W'), w' = y.w) 16 (.take 0 (.take 1 (.take 2 (.take 3 (.take 4 (.take 5 (.take 6 (.take 7 (.take 8 (.take 9 (.take 10 (.take 11 (.take 12 (.take 13 (.take 14 (.take 15 .done)))))))))))))))) hmix (by kernel_rfl) (KW.mk' (Below.refl _ _).drew) ?_
 have HB6 := Lib.hid (show Below w5.heap.size w5 w5.drew from (Below.refl _ _).drew)
 generalize w5.drew = w6 at *
 have hz7 := HB6.out.size
 repeat (refine wpTree_take ?_; simp only [nthOp]; (first | go_big_quiet_step (fail) | quiet_step (fail)); refine wpQuiet_nil ?_)
 have z0 := cell_keep HB6.out z0
 have z1 := cell_keep HB6.out z1
 have z2 := cell_keep HB6.out z2
 have z3 := cell_keep HB6.out z3
 have f0 := frozen_keep HB6.out (by simp only; omega) f0
 have f1 := frozen_keep HB6.out (by simp only; omega) f1
 have f2 := frozen_keep HB6.out (by simp only; omega) f2
 have f3 := frozen_keep HB6.out (by simp only; omega) f3
 have HF := Lib.hid (HB.out.trans ((HB5.out.trans (HB6.out.mono HB5.out.size)).mono HB.out.size))
 refine wpTree_done ?_
 simp only [List.drop_succ_cons, List.drop_zero]
 go_wp2_with fail
 refine NP_mk ?_
 go_wp2_with fail
 exact bodyPost_ret (v := .agg #[.int .i64 ((pa).tdiv (G : Int)), .int .i64 ((pb).tdiv (G : Int)), .int .i64 ((pc).tdiv (G : Int)), .int .i64 ((pd).tdiv (G : Int))]) (by simp [results, Tryz.results40, go_sem, z0, z1, z2, z3]) rfl ⟨HRV.out, by repeat (first | exact HF.out | (refine Below.setCell ?_ (by have := HGP.out; simp only; omega) _))⟩
set_option maxHeartbeats 4000000 in
theorem lessPlane_any (p q : Pl) (w : World) : Calls Tryz.prog 42 #[.agg #[.int .i64 p.a, .int .i64 p.b, .int .i64 p.c, .int .i64 p.d], .agg #[.int .i64 q.a, .int .i64 q.b, .int .i64 q.c, .int .i64 q.d]] w fun e w' => e = .returned (.bool (ltL p q)) ∧ Below w.heap.size w w' := by
 obtain ⟨R, hR⟩ : ∃ R, R = ltL p q := ⟨_, rfl⟩
 have HR := Lib.hid (show R = if p.a ≠ q.a then decide (p.a < q.a) else if p.b ≠ q.b then decide (p.b < q.b) else if p.c ≠ q.c then decide (p.c < q.c) else decide (p.d < q.d) from hR)
 rw [← hR]
 clear hR
 obtain ⟨pa, pb, pc, pd⟩ := p
 obtain ⟨qa, qb, qc, qd⟩ := q
 simp only at HR
 go_enter Tryz.func42, Tryz.ntmps42
 by_cases h1 : pa = qa
 ·subst h1
  by_cases h2 : pb = qb
  ·subst h2
   by_cases h3 : pc = qc
   ·subst h3
    have HE := Lib.hid (show R = decide (pd < qd) by rw [HR.out]; simp)
    go_wp2_with fail
    go_ret
    exact ⟨ret_bool HE.out.symm, by repeat (first | (with_reducible assumption) | exact Below.refl _ _ | (refine Below.setCell ?_ (by first | omega | (simp; omega) | (simp; done)) _) | (refine Below.alloc ?_ (by first | omega | (simp; omega) | (simp; done)) _) | (refine Below.drew ?_))⟩
   ·have HE := Lib.hid (show R = decide (pc < qc) by rw [HR.out]; simp [h3])
    have hn : (pc != qc) = true := by simpa using h3
    go_wp2_with fail
    go_ret
    exact ⟨ret_bool HE.out.symm, by repeat (first | (with_reducible assumption) | exact Below.refl _ _ | (refine Below.setCell ?_ (by first | omega | (simp; omega) | (simp; done)) _) | (refine Below.alloc ?_ (by first | omega | (simp; omega) | (simp; done)) _) | (refine Below.drew ?_))⟩
  ·have HE := Lib.hid (show R = decide (pb < qb) by rw [HR.out]; simp [h2])
   have hn : (pb != qb) = true := by simpa using h2
   go_wp2_with fail
   go_ret
   exact ⟨ret_bool HE.out.symm, by repeat (first | (with_reducible assumption) | exact Below.refl _ _ | (refine Below.setCell ?_ (by first | omega | (simp; omega) | (simp; done)) _) | (refine Below.alloc ?_ (by first | omega | (simp; omega) | (simp; done)) _) | (refine Below.drew ?_))⟩
 ·have HE := Lib.hid (show R = decide (pa < qa) by rw [HR.out]; simp [h1])
  have hn : (pa != qa) = true := by simpa using h1
  go_wp2_with fail
  go_ret
  exact ⟨ret_bool HE.out.symm, by repeat (first | (with_reducible assumption) | exact Below.refl _ _ | (refine Below.setCell ?_ (by first | omega | (simp; omega) | (simp; done)) _) | (refine Below.alloc ?_ (by first | omega | (simp; omega) | (simp; done)) _) | (refine Below.drew ?_))⟩
end Go.Proofs.YtgjmfdhgeahdcaaGreat
/- The document's normal form. -/
set_option linter.unusedVariables false
set_option linter.unusedSimpArgs false
namespace Go.Proofs.YtgjmfdhgeahdcaaGreat
open Go Go.RowKit Go.Sort Go.Lib

theorem norL_take {ps : List Pl} {cs : List Co} {i : Nat} (h : i < ps.length) : norL (ps.take (i + 1)) cs = norL (ps.take i) cs ++ (if 3 ≤ onN ps[i] cs then [lowL ps[i]] else []) := by
 unfold norL
 rw [List.take_succ_eq_append_getElem h, List.filter_append, List.map_append]
 congr 1
 by_cases h3 : 3 ≤ onN ps[i] cs
 ·rw [if_pos h3, List.filter_cons_of_pos (by simpa using h3)]; rfl
 ·rw [if_neg h3, List.filter_cons_of_neg (by simpa using h3)]; rfl
theorem fatK_of {lt : Pl → Pl → Bool} {c : Pl} : ∀ {l : List Pl} {a : Nat}, a ≤ l.length → (∀ j (hj : j < l.length), j < a → lt l[j] c = true) → (∀ (ha : a < l.length), lt l[a] c = false) → fatK lt c l = a
 | [], a, ha, _, _ => by simp at ha; subst ha; rfl
 | x :: l, 0, _, _, h2 => by
  have := h2 (by simp)
  simp only [List.getElem_cons_zero] at this
  unfold fatK; rw [List.takeWhile_cons_of_neg (by simp [this])]; rfl
 | x :: l, a + 1, ha, h1, h2 => by
  have hx : lt x c = true := h1 0 (by simp) (by omega)
  have ih := fatK_of (lt := lt) (c := c) (l := l) (a := a) (by simpa using ha) (fun j hj hja => h1 (j + 1) (by simpa using hj) (by omega)) (fun h => h2 (by simpa using h))
  unfold fatK at *
  rw [List.takeWhile_cons, hx]; simp only [if_true, List.length_cons, ih]
/-- One plane more. -/
theorem norm_step {ps : List Pl} {cs : List Co} {i a : Nat} {L : List Pl} {x : Pl} (h : i < ps.length) (hL : L = sortF ltL (norL (ps.take i) cs)) (hx : x = lowL ps[i]) (ha : a ≤ L.length) (h1 : ∀ j (hj : j < L.length), j < a → ltL L[j] x = true) (h2 : ∀ (ha : a < L.length), ltL L[a] x = false) :
    sortF ltL (norL (ps.take (i + 1)) cs) = if 3 ≤ onN ps[i] cs ∧ ¬ L[a]? = some x then L.take a ++ [x] ++ L.drop a else L := by
 rw [norL_take h]
 by_cases h3 : 3 ≤ onN ps[i] cs
 ·rw [if_pos h3, sortF_snoc, ← hL, ← hx]
  have hs : L.Pairwise (fun x y => ltL x y = true) := by
   rw [hL]; exact (foldl_putF ordL (fun _ _ => trivial) (fun _ h => by cases h) List.Pairwise.nil).1
  rw [insO_at ordL trivial (fun _ _ => trivial) hs, fatK_of ha h1 h2]
  by_cases h4 : L[a]? = some x
  ·rw [if_pos h4, if_neg (by simp [h4])]
  ·rw [if_neg h4, if_pos ⟨h3, h4⟩]
 ·rw [if_neg h3, List.append_nil, ← hL, if_neg (by simp [h3])]
def onT (p : Pl) (cs : List Co) (k : Nat) : Nat := onN p (cs.take k)
theorem onT_succ {p : Pl} {cs : List Co} {k : Nat} (h : k < cs.length) : onT p cs (k + 1) = onT p cs k + (if sd p cs[k] = 0 then 1 else 0) := by
 unfold onT onN
 rw [List.take_succ_eq_append_getElem h, List.filter_append, List.length_append]
 by_cases h0 : sd p cs[k] = 0
 ·rw [if_pos h0, List.filter_cons_of_pos (by simpa using h0)]; rfl
 ·rw [if_neg h0, List.filter_cons_of_neg (by simpa using h0)]; rfl
theorem none_step2 {L : List Pl} {x : Pl} {a : Nat} (h : ∀ j (hj : j < L.length), j < a → ltL L[j] x = true) (ha : a < L.length) (h2 : ltL L[a] x = true) : ∀ j (hj : j < L.length), j < a + 1 → ltL L[j] x = true := by
 intro j hj hlt
 rcases Nat.lt_succ_iff_lt_or_eq.1 hlt with h' | rfl
 ·exact h j hj h'
 ·exact h2
set_option maxRecDepth 100000 in
set_option maxHeartbeats 16000000 in
theorem normalR2_any (ps : List Pl) (pa : Option Addr) (pc : Nat) (w : World) (hps : Good ps) (hpl : ps.length ≤ 40) (hv : Pls.V w pa ps) :
    Calls Tryz.prog 24 #[.slice pa ps.length pc] w fun e w' => ∃ a c, e = .returned (.slice a (nf ps).length c) ∧ w'.ownsRow w.heap.size 43 4 (.slice a (nf ps).length c) (nf ps).length ((nf ps).flatMap cellsPl) ∧ Below w.heap.size w w' := by
 have hmix : Tryz.prog.follows .mixedOrders = true := by kernel_rfl
 obtain ⟨i0, hi0, hz0, hz1, hz2⟩ := info_parts infoPl
 obtain ⟨R, hR⟩ : ∃ R, R = nf ps := ⟨_, rfl⟩
 rw [← hR]
 have HR := Lib.hid (show R = sortF ltL (norL ps (refP ps)) by rw [hR, nor_ref]; rfl)
 have HG := Lib.hid hps
 have HV := Lib.hid hv
 have HPT := Lib.hid (fun W (h : Below w.heap.size w W) => pointsR_any ps pa pc W hps hpl (hv.keep h))
 have HCI := Lib.hid (show ∀ c ∈ refP ps, c.in_ from fun c hc => corn_in hps c (mem_refP.1 hc))
 have HCL := Lib.hid (show (refP ps).length ≤ 1000000 by rw [(perm_refP ps).length_eq]; have := corn_len (l := ps) hpl; omega)
 generalize refP ps = cs at *
 clear hv hps hR
 go_enter Tryz.func24, Tryz.ntmps24
 go_upto_region 2 with (go_at_call 39; refine (HPT.out _ (Below.refl _ _)).mono ?_; rintro e w0 ⟨ca, cc, rfl, ho, hb⟩; have HBW0 := Lib.hid hb; have HCV := Lib.hid (ownCoV (fun c hc => Co.in_.wf (HCI.out c hc)) ho); clear ho hb)
 go_wp2_with fail
 go_loopw [4, 5] (fun ov iv wr => ∃ (i : Nat) (L : List Pl), i ≤ ps.length ∧ iv = .int .i64 (i : Int) ∧ Hid (sortF ltL (norL (ps.take i) cs) = L) ∧ Hid (L.length ≤ i) ∧ Hid (∀ c ∈ L, c.in_) ∧ wr.ownsRow w0.heap.size 43 4 ov L.length (L.flatMap cellsPl) ∧ Below w0.heap.size w0 wr) (fun _ iv _ => ps.length - (intOf iv).toNat)
 case atStart => exact ⟨0, [], Nat.zero_le _, rfl, Lib.hid rfl, Lib.hid (Nat.zero_le _), Lib.hid (fun c hc => absurd hc (by simp)), ⟨rfl, .inl ⟨rfl, rfl⟩⟩, Below.refl _ _⟩
 case round =>
  obtain ⟨i, L, hi, rfl, HL, HLL, HLI, hown, hb⟩ := hrel
  obtain ⟨W1, rfl⟩ : ∃ W1 : World, W1 = wr := ⟨_, rfl⟩
  have HO := Lib.hid hown
  have HB := Lib.hid hb
  obtain ⟨oa, oc, rfl, hoc, hom⟩ := own_slice hown
  have HOC := Lib.hid (And.intro hoc hom)
  have HVW := Lib.hid ((HV.out.keep HBW0.out).keep hb)
  have hlb : L.length ≤ 40 := by have := HLL.out; omega
  clear hown hb hoc hom
  by_cases hlt : i < ps.length
  ·have hki : (i : Int) < (ps.length : Int) := by omega
   obtain ⟨bb, off, rfl, hat⟩ := HVW.out.at_ hlt
   have HY := Lib.hid (HG.out _ (List.getElem_mem hlt))
   have HST := Lib.hid (fun a x (hx : x = lowL ps[i]) ha h1 h2 => norm_step (cs := cs) (a := a) hlt HL.out.symm hx ha h1 h2)
   have HON := Lib.hid (onN_low HY.out.2 cs)
   generalize ps[i] = y at *
   obtain ⟨x, hx⟩ : ∃ x, x = lowL y := ⟨_, rfl⟩
   have HXL := Lib.hid hx
   have HLO := Lib.hid (fun W => lowestR_any y HY.out.1 (g4_pos' (nrm_ne HY.out.2)) W)
   have HXI := Lib.hid (show x.in_ by rw [hx]; exact lowL_wf HY.out.1)
   rw [← hx] at HLO HON
   obtain ⟨y0, y1, y2, y3, -⟩ := hat
   have HOV := Lib.hid (ownPlV (fun c hc => Pl.in_.wf (HLI.out c hc)) HO.out)
   clear hx
   go_upto_region 7 with (go_at_call 40; refine (HLO.out _).mono ?_; rintro e w2 ⟨rfl, hb⟩; have HBL := Lib.hid hb; clear hb)
   refine gen_world (fun W => Below w2.heap.size w2 W ∧ (W.cell? ⟨w2.heap.size, 0, none⟩ = some (.int .i64 x.a) ∧ W.cell? ⟨w2.heap.size, 1, none⟩ = some (.int .i64 x.b) ∧ W.cell? ⟨w2.heap.size, 2, none⟩ = some (.int .i64 x.c) ∧ W.cell? ⟨w2.heap.size, 3, none⟩ = some (.int .i64 x.d))) ⟨(Below.refl _ _).alloc (Nat.le_refl _) _, by simp [go_sem], by simp [go_sem], by simp [go_sem], by simp [go_sem]⟩ ?_
   rintro W2 ⟨hb, hx4⟩
   have HX := Lib.hid hx4
   have HB12 := Lib.hid (HBL.out.trans (hb.mono HBL.out.size))
   have HCV2 := Lib.hid ((HCV.out.keep HB.out).keep HB12.out)
   obtain ⟨g6, hg6⟩ : ∃ g, g = w2.heap.size := ⟨_, rfl⟩
   rw [← hg6] at HX ⊢
   clear hb hx4 hg6 y0 y1 y2 y3
   go_wp2_with fail
   go_loopw [7, 8] (fun nv kv wr => ∃ k n : Nat, k ≤ cs.length ∧ kv = .int .i64 (k : Int) ∧ nv = .int .i64 (n : Int) ∧ Hid (onT x cs k = n) ∧ Hid (n ≤ k) ∧ Below W2.heap.size W2 wr) (fun _ kv _ => cs.length - (intOf kv).toNat)
   case atStart => exact ⟨0, 0, Nat.zero_le _, rfl, rfl, Lib.hid (by simp [onT, onN]), Lib.hid (Nat.le_refl _), Below.refl _ _⟩
   case round =>
    obtain ⟨k, n, hk, rfl, rfl, HN, HNK, hb⟩ := hrel
    have HBK := Lib.hid hb
    have hcl := HCL.out
    have hnk := HNK.out
    by_cases hkt : k < cs.length
    ·have hkj : (k : Int) < (cs.length : Int) := by omega
     obtain ⟨cb, coff, rfl, hat⟩ := (HCV2.out.keep hb).at_ hkt
     have HTS := Lib.hid (onT_succ (p := x) hkt)
     have HSD := Lib.hid (fun W => sideR_any x cs[k] HXI.out (HCI.out _ (List.getElem_mem hkt)) W)
     generalize cs[k] = c at *
     obtain ⟨c0, c1, c2, c3, -⟩ := hat
     obtain ⟨d0, d1, d2, d3⟩ := HX.out
     have e0 := cell_keep hb d0
     have e1 := cell_keep hb d1
     have e2 := cell_keep hb d2
     have e3 := cell_keep hb d3
     have hl0 := block_lt_of_cell e0
     have hl1 := block_lt_of_cell c0
     simp only at hl0 hl1
     have v1 : IntKind.i64.wrap ((n : Int) + 1) = ((n + 1 : Nat) : Int) := by rw [show (n : Int) + 1 = ((n + 1 : Nat) : Int) by omega]; exact IntWalk.i64_in _ (by omega)
     clear hb d0 d1 d2 d3
     generalize sd x c = S at *
     go_upto_region 11 with fail
     refine wp_region_grew (by kernel_rfl) (by kernel_rfl) ?_
     repeat (first
      | go_big_quiet_step (first | (go_at_call 41; exact grew_of (HSD.out _)))
      | quiet_step (first | (go_at_call 41; exact grew_of (HSD.out _))))
     refine wpQuiet_nil ?_
     rintro _ ⟨gg, rfl⟩
     have HFB := Lib.hid (show Below W2.heap.size W2 (grew wr gg) from grewB HBK.out HBK.out.size _)
     by_cases hS : S = 0
     ·have hS2 : (S == 0) = true := by simpa using hS
      have HTN := Lib.hid (show onT x cs (k + 1) = n + 1 by rw [HTS.out, HN.out, if_pos hS])
      subst hS
      go_wp2_with fail
      go_roundw
      case rel => exact ⟨k + 1, n + 1, by omega, by go_num, by go_num, HTN, Lib.hid (by omega), HFB.out⟩
      case measure => first | (simp [intOf]; done) | (simp [intOf]; omega)
     ·have hS2 : (S == 0) = false := by simpa using hS
      have HTN := Lib.hid (show onT x cs (k + 1) = n by rw [HTS.out, HN.out, if_neg hS]; rfl)
      clear hS
      go_wp2_with fail
      go_roundw
      case rel => exact ⟨k + 1, n, by omega, by go_num, rfl, HTN, Lib.hid (by omega), HFB.out⟩
      case measure => first | (simp [intOf]; done) | (simp [intOf]; omega)
    ·obtain rfl : k = cs.length := by omega
     have hkj : ¬ ((cs.length : Nat) : Int) < ((cs.length : Nat) : Int) := by omega
     have HNN := Lib.hid (show onN y cs = n by rw [← HON.out, ← HN.out]; unfold onT; rw [List.take_length])
     have HB3 := Lib.hid hb
     obtain ⟨W3, rfl⟩ : ∃ W3 : World, W3 = wr := ⟨_, rfl⟩
     clear hb
     go_wp2_with fail
     go_loopw [9] (fun av wq => ∃ a : Nat, a ≤ L.length ∧ av = .int .i64 (a : Int) ∧ Hid (∀ j (hj : j < L.length), j < a → ltL L[j] x = true) ∧ Below W2.heap.size W2 wq) (fun av _ => L.length - (intOf av).toNat)
     case atStart => exact ⟨0, Nat.zero_le _, rfl, Lib.hid (fun j hj h => by omega), HB3.out⟩
     case round =>
      obtain ⟨a, ha, rfl, HA, hb⟩ := hrel
      obtain ⟨W6, rfl⟩ : ∃ W6 : World, W6 = wr := ⟨_, rfl⟩
      have HB6 := Lib.hid hb
      obtain ⟨d0, d1, d2, d3⟩ := HX.out
      have e0 := cell_keep hb d0
      have e1 := cell_keep hb d1
      have e2 := cell_keep hb d2
      have e3 := cell_keep hb d3
      have hl0 := block_lt_of_cell e0
      simp only at hl0
      clear d0 d1 d2 d3
      have HSA := Lib.hid (HST.out a x HXL.out ha HA.out)
      by_cases hat : a < L.length
      ·have hka : (a : Int) < (L.length : Int) := by omega
       obtain ⟨ob, ooff, rfl, hat2⟩ := ((HOV.out.keep HB12.out).keep hb).at_ hat
       have HNS2 := Lib.hid (fun h => none_step2 (L := L) (x := x) HA.out hat h)
       have HGE := Lib.hid (List.getElem?_eq_getElem hat)
       have HSB := Lib.hid (fun (h : ltL L[a] x = false) => HSA.out (fun _ => h))
       rw [HGE.out] at HSB
       have HLP := Lib.hid (fun W => lessPlane_any L[a] x W)
       generalize hz : L[a] = z at *
       obtain ⟨z0, z1, z2, z3, -⟩ := hat2
       have hl1 := block_lt_of_cell z0
       simp only at hl1
       clear hb hz
       generalize hE : ltL z x = Q at *
       have HE := Lib.hid hE
       clear hE
       go_upto_region 14 with fail
       refine wp_region_grew (by kernel_rfl) (by kernel_rfl) ?_
       repeat (first
        | go_big_quiet_step (first | (go_at_call 42; exact grew_of (HLP.out _)))
        | quiet_step (first | (go_at_call 42; exact grew_of (HLP.out _))))
       refine wpQuiet_nil ?_
       rintro _ ⟨gg, rfl⟩
       have HB7 := Lib.hid (show Below W2.heap.size W2 (grew W6 gg) from grewB HB6.out HB6.out.size _)
       have HB67 := Lib.hid (show Below W6.heap.size W6 (grew W6 gg) from grewB (Below.refl _ _) (Nat.le_refl _) _)
       cases Q with
       | true =>
        have HN3 := Lib.hid (HNS2.out rfl)
        go_wp2_with fail
        go_roundw
        case rel => exact ⟨a + 1, by omega, by go_num, HN3, HB7.out⟩
        case measure => first | (simp [intOf]; done) | (simp [intOf]; omega)
       | false =>
        generalize grew W6 gg = W7 at HB7 HB67 ⊢
        have e0 := cell_keep HB67.out e0
        have e1 := cell_keep HB67.out e1
        have e2 := cell_keep HB67.out e2
        have e3 := cell_keep HB67.out e3
        have z0 := cell_keep HB67.out z0
        have z1 := cell_keep HB67.out z1
        have z2 := cell_keep HB67.out z2
        have z3 := cell_keep HB67.out z3
        have hl0 := block_lt_of_cell e0
        have hl1 := block_lt_of_cell z0
        simp only at hl0 hl1
        have HNS0 := Lib.hid (HSB.out rfl)
        rw [HNN.out] at HNS0
        have hane : ¬ (a : Int) = (L.length : Int) := by omega
        have hane2 : ((a : Int) == (L.length : Int)) = false := by simpa using hane
        have heq := Pl_neq z x
        by_cases h3 : 3 ≤ n
        ·have h3i : (3 : Int) ≤ (n : Int) := by omega
         by_cases hzx : z = x
         ·have HNS := Lib.hid (show sortF ltL (norL (ps.take (i + 1)) cs) = L by rw [HNS0.out, if_neg (by simp [hzx])])
          subst hzx
          have hdz : decide (z = z) = true := decide_eq_true rfl
          rw [hdz] at heq
          clear h3
          go_upto_region 16 with fail
          refine wp_region_grew (by kernel_rfl) (by kernel_rfl) ?_
          repeat (first | go_big_quiet_step (fail) | quiet_step (fail))
          refine wpQuiet_nil ?_
          rintro _ ⟨g2, rfl⟩
          have HB8 := Lib.hid (show Below W2.heap.size W2 (grew W7 g2) from grewB HB7.out HB7.out.size _)
          generalize grew W7 g2 = W8 at HB8 ⊢
          go_wp2_with fail
          go_roundw
          case rel => exact ⟨i + 1, L, by omega, by go_num, HNS, Lib.hid (by have := HLL.out; omega), HLI, own_keep HO.out (HB12.out.trans (HB8.out.mono HB12.out.size)), HB.out.trans ((HB12.out.trans (HB8.out.mono HB12.out.size)).mono HB.out.size)⟩
          case measure => first | (simp [intOf]; done) | (simp [intOf]; omega)
         ·have HNS := Lib.hid (show sortF ltL (norL (ps.take (i + 1)) cs) = L.take a ++ [x] ++ L.drop a by rw [HNS0.out, if_pos ⟨h3, by simpa using hzx⟩])
          have hdz : decide (z = x) = false := decide_eq_false hzx
          rw [hdz] at heq
          clear h3
          go_upto_region 16 with fail
          refine wp_region_grew (by kernel_rfl) (by kernel_rfl) ?_
          repeat (first | go_big_quiet_step (fail) | quiet_step (fail))
          refine wpQuiet_nil ?_
          rintro _ ⟨g2, rfl⟩
          have HB8 := Lib.hid (show Below W2.heap.size W2 (grew W7 g2) from grewB HB7.out HB7.out.size _)
          generalize grew W7 g2 = W8 at HB8 ⊢
          have hml : a ≤ L.length := ha
          clear e0 e1 e2 e3 z0 z1 z2 z3 hl0 hl1 hane hane2 heq hdz h3i hka hat
          generalize a = m at *
          have e0 := cell_keep HB8.out HX.out.1
          have e1 := cell_keep HB8.out HX.out.2.1
          have e2 := cell_keep HB8.out HX.out.2.2.1
          have e3 := cell_keep HB8.out HX.out.2.2.2
          have HBW8 := Lib.hid (HB.out.trans ((HB12.out.trans (HB8.out.mono HB12.out.size)).mono HB.out.size))
          have HOV8 := Lib.hid (HOV.out.keep (HB12.out.trans (HB8.out.mono HB12.out.size)))
          obtain ⟨P, hP⟩ : ∃ P, P = L.take m := ⟨_, rfl⟩
          obtain ⟨D, hD⟩ : ∃ D, D = L.drop m := ⟨_, rfl⟩
          have HPL := Lib.hid (show P.length = m by rw [hP, List.length_take]; omega)
          have HDL := Lib.hid (show D.length = L.length - m by rw [hD, List.length_drop])
          have HTV := Lib.hid (show Pls.V W8 (some ⟨ob, ooff, none⟩) P by rw [hP]; exact RowV.take HOV8.out m)
          have HLN := Lib.hid (show P ++ [x] ++ D = sortF ltL (norL (ps.take (i + 1)) cs) by rw [HNS.out, hP, hD])
          have HLI2 := Lib.hid (show ∀ c ∈ P ++ [x] ++ D, c.in_ from fun c hc => by
           rw [hP, hD] at hc
           rcases List.mem_append.1 hc with hc | hc
           ·rcases List.mem_append.1 hc with hc | hc
            ·exact HLI.out c (List.mem_of_mem_take hc)
            ·rw [List.mem_singleton] at hc; subst hc; exact HXI.out
           ·exact HLI.out c (List.mem_of_mem_drop hc))
          have HDV := Lib.hid (show Pls.V W8 (if oc = m then some ⟨ob, ooff, none⟩ else some ⟨ob, ooff + m * 4, none⟩) D by
           rw [hD]
           split
           ·rename_i hcm
            rw [List.drop_of_length_le (by have := HOC.out.1; omega)]; exact RowV.nil
           ·exact RowV.drop HOV8.out m)
          have hmo : m ≤ oc := by have := HOC.out.1; omega
          have hml2 : m ≤ L.length := hml
          clear hP hD
          have kx0 : ∀ y : KW (fun W' => Below W8.heap.size W8 W'), (y.w.cell? ⟨g6, 0, none⟩ = some (.int .i64 x.a) ∧ y.w.cell? ⟨g6, 1, none⟩ = some (.int .i64 x.b) ∧ y.w.cell? ⟨g6, 2, none⟩ = some (.int .i64 x.c) ∧ y.w.cell? ⟨g6, 3, none⟩ = some (.int .i64 x.d)) := fun y => ⟨cell_keep y.ok e0, cell_keep y.ok e1, cell_keep y.ok e2, cell_keep y.ok e3⟩
          haveI n1 : Nonempty (KW (fun W' => Below W8.heap.size W8 W')) := ⟨⟨W8, Below.refl _ _⟩⟩
          go_upto_region 17 with fail
          refine wp_region_tree (fun w' => ∃ y : KW (fun W' => Below W8.heap.size W8 W'), w' = y.w) 11 (.take 1 (.take 2 (.take 3 (.take 5 (.take 8 (.take 9 (.take 10 (.two 0 (.two 4 (.one 6 (.one 7 .done)) 6 (.one 4 (.one 7 .done))) 6 (.one 0 (.one 4 (.one 7 .done))))))))))) hmix (by kernel_rfl) (KW.mk' (Below.refl _ _).drew) ?_
          have HC := Lib.hid (show Below W8.heap.size W8 W8.drew from (Below.refl _ _).drew)
          generalize W8.drew = wz at *
          repeat (refine wpTree_take ?_; simp only [nthOp]; (first | go_big_quiet_step (fail) | quiet_step (fail)); refine wpQuiet_nil ?_)
          generalize (if oc = m then (some ⟨ob, ooff, none⟩ : Option Addr) else some ⟨ob, ooff + m * 4, none⟩) = A2 at HDV ⊢
          refine wpTree_two ?_ ?_
          ·skip
           simp only [nthOp]
           go_wp2_with fail
           have HAL := Lib.hid ((Below.refl wz.heap.size wz).alloc (Nat.le_refl _) (.cells #[] 43))
           have HO0 := Lib.hid (World.ownsRow_made (e := 43) (base := W8.heap.size) (size := 4) wz #[] 0 HC.out.size (by decide) (by simp))
           have HC := Lib.hid (HC.out.alloc HC.out.size (.cells #[] 43))
           refine One_mk (KW.mk' HC.out) ?_
           clear HAL
           generalize (wz.alloc (.cells #[] 43)) = wa at *
           generalize wz.heap.size = g0 at *
           refine wpTree_two ?_ ?_
           ·skip
            simp only [nthOp]
            have HTN := Lib.hid (plsNews (HTV.out.keep HC.out))
            go_wp2_with (at_builtin; refine wpList_append_rows cellsPl_len cellsPl_one (by decide) rfl _ _ 44 rfl W8.heap.size 43 i0 _ 32 Tryz.underlying44 hi0 hz0 hz1 hz2 rfl (by decide) (.slice (some ⟨g0, 0, none⟩) 0 0) 0 [] rfl HO0.out (some ⟨ob, ooff, none⟩) P oc (by rw [HPL.out]; rfl) HTN.out (by have := HPL.out; omega) HC.out.size ?_; intro v' wb ho hg ha; obtain ⟨a4, c4, rfl, -, -⟩ := own_slice ho; have HO4 := Lib.hid (show wb.ownsRow W8.heap.size 43 4 (.slice a4 P.length c4) P.length (P.flatMap cellsPl) by simpa using ho); have HC := Lib.hid (below_grown HC.out hg HC.out.size fun k hk => (own_lt HO0.out hk).1); clear ho hg ha)
            refine One_mk (KW.mk' HC.out) ?_
            refine wpTree_one ?_
            simp only [nthOp]
            go_wp2_with fail
            have HAL := Lib.hid ((Below.refl wb.heap.size wb).alloc (Nat.le_refl _) (.cells #[.int .i64 x.a, .int .i64 x.b, .int .i64 x.c, .int .i64 x.d] 43))
            have HNX := Lib.hid (show NewX (wb.alloc (.cells #[.int .i64 x.a, .int .i64 x.b, .int .i64 x.c, .int .i64 x.d] 43)) (.slice a4 P.length c4) wb.heap.size (cellsPl x) from NewX.new (cellsPl x) 43 (fun j hj => (own_lt HO4.out hj).2))
            have HO4 := Lib.hid (own_keep HO4.out HAL.out)
            have HC := Lib.hid (HC.out.alloc HC.out.size (.cells #[.int .i64 x.a, .int .i64 x.b, .int .i64 x.c, .int .i64 x.d] 43))
            refine One_mk (KW.mk' HC.out) ?_
            clear HAL
            generalize (wb.alloc (.cells #[.int .i64 x.a, .int .i64 x.b, .int .i64 x.c, .int .i64 x.d] 43)) = wc at *
            generalize wb.heap.size = gx at *
            refine wpTree_one ?_
            simp only [nthOp]
            go_wp2_with (at_builtin; refine wpList_append_here _ rfl _ _ 44 rfl W8.heap.size 43 i0 (.agg #[.int .i64 0, .int .i64 0, .int .i64 0, .int .i64 0]) 4 32 Tryz.underlying44 hi0 hz0 hz1 hz2 rfl (by decide) (.slice a4 P.length c4) P.length (P.flatMap cellsPl) (by rw [HPL.out]; rfl) HO4.out ⟨gx, 0, none⟩ 1 1 (cellsPl x) rfl rfl HNX.out.c (cellsPl_one x) (by decide) (by have := HPL.out; simp only [maxLen]; omega) (by have := HPL.out; omega) HC.out.size ?_; intro v' wd ho hg ha; obtain ⟨a5, c5, rfl, -, -⟩ := own_slice ho; have HO5 := Lib.hid (show wd.ownsRow W8.heap.size 43 4 (.slice a5 (P.length + 1) c5) (P.length + 1) ((P ++ [x]).flatMap cellsPl) by rw [List.flatMap_append]; simpa using ho); have HC := Lib.hid (below_grown HC.out hg HC.out.size fun k hk => (own_lt HO4.out hk).1); clear ho hg ha)
            refine One_mk (KW.mk' HC.out) ?_
            refine wpTree_done ?_
            simp only [List.drop_succ_cons, List.drop_zero]
            have HDN := Lib.hid (plsNews (HDV.out.keep HC.out))
            go_wp2_with (at_builtin; refine wpList_append_rows cellsPl_len cellsPl_one (by decide) rfl _ _ 44 rfl W8.heap.size 43 i0 _ 32 Tryz.underlying44 hi0 hz0 hz1 hz2 rfl (by decide) (.slice a5 (P.length + 1) c5) (P.length + 1) ((P ++ [x]).flatMap cellsPl) rfl HO5.out A2 D (oc - m) (by rw [HDL.out]; rfl) HDN.out (by have := HPL.out; have := HDL.out; omega) HC.out.size ?_; intro v' wg ho hg ha; obtain ⟨a6, c6, rfl, -, -⟩ := own_slice ho; have HO6 := Lib.hid (show wg.ownsRow W8.heap.size 43 4 (.slice a6 (P.length + 1 + D.length) c6) (P.length + 1 + D.length) ((P ++ [x] ++ D).flatMap cellsPl) by rw [List.flatMap_append]; exact ho); have HC := Lib.hid (below_grown HC.out hg HC.out.size fun k hk => (own_lt HO5.out hk).1); clear ho hg ha)
            refine NP_mk ?_
            go_wp2_with fail
            go_roundw
            case rel => exact ⟨i + 1, P ++ [x] ++ D, by omega, by go_num, Lib.hid HLN.out.symm, Lib.hid (by have := HPL.out; have := HDL.out; have := HLL.out; simp; omega), HLI2, by rw [show (P ++ [x] ++ D).length = P.length + 1 + D.length by simp; omega]; exact own_mono HO6.out HBW8.out.size, HBW8.out.trans (HC.out.mono HBW8.out.size)⟩
            case measure => first | (simp [intOf]; done) | (simp [intOf]; omega)
           ·skip
            simp only [nthOp]
            go_wp2_with fail
            have HAL := Lib.hid ((Below.refl wa.heap.size wa).alloc (Nat.le_refl _) (.cells #[.int .i64 x.a, .int .i64 x.b, .int .i64 x.c, .int .i64 x.d] 43))
            have HNX := Lib.hid (show NewX (wa.alloc (.cells #[.int .i64 x.a, .int .i64 x.b, .int .i64 x.c, .int .i64 x.d] 43)) (.slice (some ⟨g0, 0, none⟩) 0 0) wa.heap.size (cellsPl x) from NewX.new (cellsPl x) 43 (fun j hj => (own_lt HO0.out hj).2))
            have HO0 := Lib.hid (own_keep HO0.out HAL.out)
            have HC := Lib.hid (HC.out.alloc HC.out.size (.cells #[.int .i64 x.a, .int .i64 x.b, .int .i64 x.c, .int .i64 x.d] 43))
            refine One_mk (KW.mk' HC.out) ?_
            clear HAL
            generalize (wa.alloc (.cells #[.int .i64 x.a, .int .i64 x.b, .int .i64 x.c, .int .i64 x.d] 43)) = wb at *
            generalize wa.heap.size = gx at *
            refine wpTree_one ?_
            simp only [nthOp]
            have HTN := Lib.hid (plsNews (HTV.out.keep HC.out))
            go_wp2_with (at_builtin; refine wpList_append_rows cellsPl_len cellsPl_one (by decide) rfl _ _ 44 rfl W8.heap.size 43 i0 _ 32 Tryz.underlying44 hi0 hz0 hz1 hz2 rfl (by decide) (.slice (some ⟨g0, 0, none⟩) 0 0) 0 [] rfl HO0.out (some ⟨ob, ooff, none⟩) P oc (by rw [HPL.out]; rfl) HTN.out (by have := HPL.out; omega) HC.out.size ?_; intro v' wc ho hg ha; obtain ⟨a4, c4, rfl, -, -⟩ := own_slice ho; have HO4 := Lib.hid (show wc.ownsRow W8.heap.size 43 4 (.slice a4 P.length c4) P.length (P.flatMap cellsPl) by simpa using ho); have HNX := Lib.hid (HNX.out.grown hg ha); have HC := Lib.hid (below_grown HC.out hg HC.out.size fun k hk => (own_lt HO0.out hk).1); clear ho hg ha)
            refine One_mk (KW.mk' HC.out) ?_
            refine wpTree_one ?_
            simp only [nthOp]
            go_wp2_with (at_builtin; refine wpList_append_here _ rfl _ _ 44 rfl W8.heap.size 43 i0 (.agg #[.int .i64 0, .int .i64 0, .int .i64 0, .int .i64 0]) 4 32 Tryz.underlying44 hi0 hz0 hz1 hz2 rfl (by decide) (.slice a4 P.length c4) P.length (P.flatMap cellsPl) (by rw [HPL.out]; rfl) HO4.out ⟨gx, 0, none⟩ 1 1 (cellsPl x) rfl rfl HNX.out.c (cellsPl_one x) (by decide) (by have := HPL.out; simp only [maxLen]; omega) (by have := HPL.out; omega) HC.out.size ?_; intro v' wd ho hg ha; obtain ⟨a5, c5, rfl, -, -⟩ := own_slice ho; have HO5 := Lib.hid (show wd.ownsRow W8.heap.size 43 4 (.slice a5 (P.length + 1) c5) (P.length + 1) ((P ++ [x]).flatMap cellsPl) by rw [List.flatMap_append]; simpa using ho); have HC := Lib.hid (below_grown HC.out hg HC.out.size fun k hk => (own_lt HO4.out hk).1); clear ho hg ha)
            refine One_mk (KW.mk' HC.out) ?_
            refine wpTree_done ?_
            simp only [List.drop_succ_cons, List.drop_zero]
            have HDN := Lib.hid (plsNews (HDV.out.keep HC.out))
            go_wp2_with (at_builtin; refine wpList_append_rows cellsPl_len cellsPl_one (by decide) rfl _ _ 44 rfl W8.heap.size 43 i0 _ 32 Tryz.underlying44 hi0 hz0 hz1 hz2 rfl (by decide) (.slice a5 (P.length + 1) c5) (P.length + 1) ((P ++ [x]).flatMap cellsPl) rfl HO5.out A2 D (oc - m) (by rw [HDL.out]; rfl) HDN.out (by have := HPL.out; have := HDL.out; omega) HC.out.size ?_; intro v' wg ho hg ha; obtain ⟨a6, c6, rfl, -, -⟩ := own_slice ho; have HO6 := Lib.hid (show wg.ownsRow W8.heap.size 43 4 (.slice a6 (P.length + 1 + D.length) c6) (P.length + 1 + D.length) ((P ++ [x] ++ D).flatMap cellsPl) by rw [List.flatMap_append]; exact ho); have HC := Lib.hid (below_grown HC.out hg HC.out.size fun k hk => (own_lt HO5.out hk).1); clear ho hg ha)
            refine NP_mk ?_
            go_wp2_with fail
            go_roundw
            case rel => exact ⟨i + 1, P ++ [x] ++ D, by omega, by go_num, Lib.hid HLN.out.symm, Lib.hid (by have := HPL.out; have := HDL.out; have := HLL.out; simp; omega), HLI2, by rw [show (P ++ [x] ++ D).length = P.length + 1 + D.length by simp; omega]; exact own_mono HO6.out HBW8.out.size, HBW8.out.trans (HC.out.mono HBW8.out.size)⟩
            case measure => first | (simp [intOf]; done) | (simp [intOf]; omega)
          ·skip
           simp only [nthOp]
           go_wp2_with fail
           have HAL := Lib.hid ((Below.refl wz.heap.size wz).alloc (Nat.le_refl _) (.cells #[.int .i64 x.a, .int .i64 x.b, .int .i64 x.c, .int .i64 x.d] 43))
           have HNX := Lib.hid (show NewX (wz.alloc (.cells #[.int .i64 x.a, .int .i64 x.b, .int .i64 x.c, .int .i64 x.d] 43)) (.slice none 0 0) wz.heap.size (cellsPl x) from NewX.new (cellsPl x) 43 (fun j hj => by cases hj))
           have HC := Lib.hid (HC.out.alloc HC.out.size (.cells #[.int .i64 x.a, .int .i64 x.b, .int .i64 x.c, .int .i64 x.d] 43))
           refine One_mk (KW.mk' HC.out) ?_
           clear HAL
           generalize (wz.alloc (.cells #[.int .i64 x.a, .int .i64 x.b, .int .i64 x.c, .int .i64 x.d] 43)) = wa at *
           generalize wz.heap.size = gx at *
           refine wpTree_one ?_
           simp only [nthOp]
           go_wp2_with fail
           have HAL := Lib.hid ((Below.refl wa.heap.size wa).alloc (Nat.le_refl _) (.cells #[] 43))
           have HO0 := Lib.hid (World.ownsRow_made (e := 43) (base := W8.heap.size) (size := 4) wa #[] 0 HC.out.size (by decide) (by simp))
           have HNX := Lib.hid ((HNX.out.keep HAL.out).row (v' := .slice (some ⟨wa.heap.size, 0, none⟩) 0 0) (fun e => by injection e with e; have := HNX.out.l; simp only at e; omega))
           have HC := Lib.hid (HC.out.alloc HC.out.size (.cells #[] 43))
           refine One_mk (KW.mk' HC.out) ?_
           clear HAL
           generalize (wa.alloc (.cells #[] 43)) = wb at *
           generalize wa.heap.size = g0 at *
           refine wpTree_one ?_
           simp only [nthOp]
           have HTN := Lib.hid (plsNews (HTV.out.keep HC.out))
           go_wp2_with (at_builtin; refine wpList_append_rows cellsPl_len cellsPl_one (by decide) rfl _ _ 44 rfl W8.heap.size 43 i0 _ 32 Tryz.underlying44 hi0 hz0 hz1 hz2 rfl (by decide) (.slice (some ⟨g0, 0, none⟩) 0 0) 0 [] rfl HO0.out (some ⟨ob, ooff, none⟩) P oc (by rw [HPL.out]; rfl) HTN.out (by have := HPL.out; omega) HC.out.size ?_; intro v' wc ho hg ha; obtain ⟨a4, c4, rfl, -, -⟩ := own_slice ho; have HO4 := Lib.hid (show wc.ownsRow W8.heap.size 43 4 (.slice a4 P.length c4) P.length (P.flatMap cellsPl) by simpa using ho); have HNX := Lib.hid (HNX.out.grown hg ha); have HC := Lib.hid (below_grown HC.out hg HC.out.size fun k hk => (own_lt HO0.out hk).1); clear ho hg ha)
           refine One_mk (KW.mk' HC.out) ?_
           refine wpTree_one ?_
           simp only [nthOp]
           go_wp2_with (at_builtin; refine wpList_append_here _ rfl _ _ 44 rfl W8.heap.size 43 i0 (.agg #[.int .i64 0, .int .i64 0, .int .i64 0, .int .i64 0]) 4 32 Tryz.underlying44 hi0 hz0 hz1 hz2 rfl (by decide) (.slice a4 P.length c4) P.length (P.flatMap cellsPl) (by rw [HPL.out]; rfl) HO4.out ⟨gx, 0, none⟩ 1 1 (cellsPl x) rfl rfl HNX.out.c (cellsPl_one x) (by decide) (by have := HPL.out; simp only [maxLen]; omega) (by have := HPL.out; omega) HC.out.size ?_; intro v' wd ho hg ha; obtain ⟨a5, c5, rfl, -, -⟩ := own_slice ho; have HO5 := Lib.hid (show wd.ownsRow W8.heap.size 43 4 (.slice a5 (P.length + 1) c5) (P.length + 1) ((P ++ [x]).flatMap cellsPl) by rw [List.flatMap_append]; simpa using ho); have HC := Lib.hid (below_grown HC.out hg HC.out.size fun k hk => (own_lt HO4.out hk).1); clear ho hg ha)
           refine One_mk (KW.mk' HC.out) ?_
           refine wpTree_done ?_
           simp only [List.drop_succ_cons, List.drop_zero]
           have HDN := Lib.hid (plsNews (HDV.out.keep HC.out))
           go_wp2_with (at_builtin; refine wpList_append_rows cellsPl_len cellsPl_one (by decide) rfl _ _ 44 rfl W8.heap.size 43 i0 _ 32 Tryz.underlying44 hi0 hz0 hz1 hz2 rfl (by decide) (.slice a5 (P.length + 1) c5) (P.length + 1) ((P ++ [x]).flatMap cellsPl) rfl HO5.out A2 D (oc - m) (by rw [HDL.out]; rfl) HDN.out (by have := HPL.out; have := HDL.out; omega) HC.out.size ?_; intro v' wg ho hg ha; obtain ⟨a6, c6, rfl, -, -⟩ := own_slice ho; have HO6 := Lib.hid (show wg.ownsRow W8.heap.size 43 4 (.slice a6 (P.length + 1 + D.length) c6) (P.length + 1 + D.length) ((P ++ [x] ++ D).flatMap cellsPl) by rw [List.flatMap_append]; exact ho); have HC := Lib.hid (below_grown HC.out hg HC.out.size fun k hk => (own_lt HO5.out hk).1); clear ho hg ha)
           refine NP_mk ?_
           go_wp2_with fail
           go_roundw
           case rel => exact ⟨i + 1, P ++ [x] ++ D, by omega, by go_num, Lib.hid HLN.out.symm, Lib.hid (by have := HPL.out; have := HDL.out; have := HLL.out; simp; omega), HLI2, by rw [show (P ++ [x] ++ D).length = P.length + 1 + D.length by simp; omega]; exact own_mono HO6.out HBW8.out.size, HBW8.out.trans (HC.out.mono HBW8.out.size)⟩
           case measure => first | (simp [intOf]; done) | (simp [intOf]; omega)
        ·have h3i : ¬ (3 : Int) ≤ (n : Int) := by omega
         have HNS := Lib.hid (show sortF ltL (norL (ps.take (i + 1)) cs) = L by rw [HNS0.out, if_neg (by simp [h3])])
         clear h3
         go_upto_region 16 with fail
         refine wp_region_grew (by kernel_rfl) (by kernel_rfl) ?_
         repeat (first | go_big_quiet_step (fail) | quiet_step (fail))
         refine wpQuiet_nil ?_
         rintro _ ⟨g2, rfl⟩
         have HB8 := Lib.hid (show Below W2.heap.size W2 (grew W7 g2) from grewB HB7.out HB7.out.size _)
         generalize grew W7 g2 = W8 at HB8 ⊢
         go_wp2_with fail
         go_roundw
         case rel => exact ⟨i + 1, L, by omega, by go_num, HNS, Lib.hid (by have := HLL.out; omega), HLI, own_keep HO.out (HB12.out.trans (HB8.out.mono HB12.out.size)), HB.out.trans ((HB12.out.trans (HB8.out.mono HB12.out.size)).mono HB.out.size)⟩
         case measure => first | (simp [intOf]; done) | (simp [intOf]; omega)
      ·have hka : ¬ (a : Int) < (L.length : Int) := by omega
       obtain ⟨hal, HAL⟩ : ∃ h : a = L.length, True := ⟨by omega, trivial⟩
       have HAE := Lib.hid hal
       have HNS0 := Lib.hid (HSA.out (fun h => absurd h hat))
       rw [HNN.out, List.getElem?_eq_none (by omega)] at HNS0
       have haeq : (a : Int) = (L.length : Int) := by omega
       have haeq2 : ((a : Int) == (L.length : Int)) = true := by simpa using haeq
       clear hb hal HAL
       go_upto_region 14 with fail
       refine wp_region_grew (by kernel_rfl) (by kernel_rfl) ?_
       repeat (first | go_big_quiet_step (fail) | quiet_step (fail))
       refine wpQuiet_nil ?_
       rintro _ ⟨gg, rfl⟩
       have HB7 := Lib.hid (show Below W2.heap.size W2 (grew W6 gg) from grewB HB6.out HB6.out.size _)
       generalize grew W6 gg = W7 at HB7 ⊢
       by_cases h3 : 3 ≤ n
       ·have h3i : (3 : Int) ≤ (n : Int) := by omega
        have HNS := Lib.hid (show sortF ltL (norL (ps.take (i + 1)) cs) = L.take a ++ [x] ++ L.drop a by rw [HNS0.out, if_pos ⟨h3, by simp⟩])
        clear h3
        go_upto_region 16 with fail
        refine wp_region_grew (by kernel_rfl) (by kernel_rfl) ?_
        repeat (first | go_big_quiet_step (fail) | quiet_step (fail))
        refine wpQuiet_nil ?_
        rintro _ ⟨g2, rfl⟩
        have HB8 := Lib.hid (show Below W2.heap.size W2 (grew W7 g2) from grewB HB7.out HB7.out.size _)
        generalize grew W7 g2 = W8 at HB8 ⊢
        have hml : a ≤ L.length := ha
        clear e0 e1 e2 e3 hl0 haeq haeq2 hka hat h3i
        generalize a = m at *
        rcases HO.out.2 with ⟨e0, hn0⟩ | ⟨og, ocap, ocur, e0, -⟩
        ·injection e0 with e1 e2 e3
         subst e1
         clear e2 hn0 e3
         have e0 := cell_keep HB8.out HX.out.1
         have e1 := cell_keep HB8.out HX.out.2.1
         have e2 := cell_keep HB8.out HX.out.2.2.1
         have e3 := cell_keep HB8.out HX.out.2.2.2
         have HBW8 := Lib.hid (HB.out.trans ((HB12.out.trans (HB8.out.mono HB12.out.size)).mono HB.out.size))
         have HOV8 := Lib.hid (HOV.out.keep (HB12.out.trans (HB8.out.mono HB12.out.size)))
         obtain ⟨P, hP⟩ : ∃ P, P = L.take m := ⟨_, rfl⟩
         obtain ⟨D, hD⟩ : ∃ D, D = L.drop m := ⟨_, rfl⟩
         have HPL := Lib.hid (show P.length = m by rw [hP, List.length_take]; omega)
         have HDL := Lib.hid (show D.length = L.length - m by rw [hD, List.length_drop])
         have HTV := Lib.hid (show Pls.V W8 none P by rw [hP]; exact RowV.take HOV8.out m)
         have HLN := Lib.hid (show P ++ [x] ++ D = sortF ltL (norL (ps.take (i + 1)) cs) by rw [HNS.out, hP, hD])
         have HLI2 := Lib.hid (show ∀ c ∈ P ++ [x] ++ D, c.in_ from fun c hc => by
          rw [hP, hD] at hc
          rcases List.mem_append.1 hc with hc | hc
          ·rcases List.mem_append.1 hc with hc | hc
           ·exact HLI.out c (List.mem_of_mem_take hc)
           ·rw [List.mem_singleton] at hc; subst hc; exact HXI.out
          ·exact HLI.out c (List.mem_of_mem_drop hc))
         have HDV := Lib.hid (show Pls.V W8 none D from fun hne => by obtain ⟨b, o, h, _⟩ := HOV8.out (fun e => hne (by rw [hD, e]; simp)); cases h)
         have hmo : m ≤ oc := by have := HOC.out.1; omega
         have hml2 : m ≤ L.length := hml
         clear hP hD
         have kx0 : ∀ y : KW (fun W' => Below W8.heap.size W8 W'), (y.w.cell? ⟨g6, 0, none⟩ = some (.int .i64 x.a) ∧ y.w.cell? ⟨g6, 1, none⟩ = some (.int .i64 x.b) ∧ y.w.cell? ⟨g6, 2, none⟩ = some (.int .i64 x.c) ∧ y.w.cell? ⟨g6, 3, none⟩ = some (.int .i64 x.d)) := fun y => ⟨cell_keep y.ok e0, cell_keep y.ok e1, cell_keep y.ok e2, cell_keep y.ok e3⟩
         haveI n1 : Nonempty (KW (fun W' => Below W8.heap.size W8 W')) := ⟨⟨W8, Below.refl _ _⟩⟩
         go_upto_region 17 with fail
         refine wp_region_tree (fun w' => ∃ y : KW (fun W' => Below W8.heap.size W8 W'), w' = y.w) 11 (.take 1 (.take 2 (.take 3 (.take 5 (.take 8 (.take 9 (.take 10 (.two 0 (.two 4 (.one 6 (.one 7 .done)) 6 (.one 4 (.one 7 .done))) 6 (.one 0 (.one 4 (.one 7 .done))))))))))) hmix (by kernel_rfl) (KW.mk' (Below.refl _ _).drew) ?_
         have HC := Lib.hid (show Below W8.heap.size W8 W8.drew from (Below.refl _ _).drew)
         generalize W8.drew = wz at *
         repeat (refine wpTree_take ?_; simp only [nthOp]; (first | go_big_quiet_step (fail) | quiet_step (fail)); refine wpQuiet_nil ?_)
         refine wpTree_two ?_ ?_
         ·skip
          simp only [nthOp]
          go_wp2_with fail
          have HAL := Lib.hid ((Below.refl wz.heap.size wz).alloc (Nat.le_refl _) (.cells #[] 43))
          have HO0 := Lib.hid (World.ownsRow_made (e := 43) (base := W8.heap.size) (size := 4) wz #[] 0 HC.out.size (by decide) (by simp))
          have HC := Lib.hid (HC.out.alloc HC.out.size (.cells #[] 43))
          refine One_mk (KW.mk' HC.out) ?_
          clear HAL
          generalize (wz.alloc (.cells #[] 43)) = wa at *
          generalize wz.heap.size = g0 at *
          refine wpTree_two ?_ ?_
          ·skip
           simp only [nthOp]
           have HTN := Lib.hid (plsNews (HTV.out.keep HC.out))
           go_wp2_with (at_builtin; refine wpList_append_rows cellsPl_len cellsPl_one (by decide) rfl _ _ 44 rfl W8.heap.size 43 i0 _ 32 Tryz.underlying44 hi0 hz0 hz1 hz2 rfl (by decide) (.slice (some ⟨g0, 0, none⟩) 0 0) 0 [] rfl HO0.out none P oc (by rw [HPL.out]; rfl) HTN.out (by have := HPL.out; omega) HC.out.size ?_; intro v' wb ho hg ha; obtain ⟨a4, c4, rfl, -, -⟩ := own_slice ho; have HO4 := Lib.hid (show wb.ownsRow W8.heap.size 43 4 (.slice a4 P.length c4) P.length (P.flatMap cellsPl) by simpa using ho); have HC := Lib.hid (below_grown HC.out hg HC.out.size fun k hk => (own_lt HO0.out hk).1); clear ho hg ha)
           refine One_mk (KW.mk' HC.out) ?_
           refine wpTree_one ?_
           simp only [nthOp]
           go_wp2_with fail
           have HAL := Lib.hid ((Below.refl wb.heap.size wb).alloc (Nat.le_refl _) (.cells #[.int .i64 x.a, .int .i64 x.b, .int .i64 x.c, .int .i64 x.d] 43))
           have HNX := Lib.hid (show NewX (wb.alloc (.cells #[.int .i64 x.a, .int .i64 x.b, .int .i64 x.c, .int .i64 x.d] 43)) (.slice a4 P.length c4) wb.heap.size (cellsPl x) from NewX.new (cellsPl x) 43 (fun j hj => (own_lt HO4.out hj).2))
           have HO4 := Lib.hid (own_keep HO4.out HAL.out)
           have HC := Lib.hid (HC.out.alloc HC.out.size (.cells #[.int .i64 x.a, .int .i64 x.b, .int .i64 x.c, .int .i64 x.d] 43))
           refine One_mk (KW.mk' HC.out) ?_
           clear HAL
           generalize (wb.alloc (.cells #[.int .i64 x.a, .int .i64 x.b, .int .i64 x.c, .int .i64 x.d] 43)) = wc at *
           generalize wb.heap.size = gx at *
           refine wpTree_one ?_
           simp only [nthOp]
           go_wp2_with (at_builtin; refine wpList_append_here _ rfl _ _ 44 rfl W8.heap.size 43 i0 (.agg #[.int .i64 0, .int .i64 0, .int .i64 0, .int .i64 0]) 4 32 Tryz.underlying44 hi0 hz0 hz1 hz2 rfl (by decide) (.slice a4 P.length c4) P.length (P.flatMap cellsPl) (by rw [HPL.out]; rfl) HO4.out ⟨gx, 0, none⟩ 1 1 (cellsPl x) rfl rfl HNX.out.c (cellsPl_one x) (by decide) (by have := HPL.out; simp only [maxLen]; omega) (by have := HPL.out; omega) HC.out.size ?_; intro v' wd ho hg ha; obtain ⟨a5, c5, rfl, -, -⟩ := own_slice ho; have HO5 := Lib.hid (show wd.ownsRow W8.heap.size 43 4 (.slice a5 (P.length + 1) c5) (P.length + 1) ((P ++ [x]).flatMap cellsPl) by rw [List.flatMap_append]; simpa using ho); have HC := Lib.hid (below_grown HC.out hg HC.out.size fun k hk => (own_lt HO4.out hk).1); clear ho hg ha)
           refine One_mk (KW.mk' HC.out) ?_
           refine wpTree_done ?_
           simp only [List.drop_succ_cons, List.drop_zero]
           have HDN := Lib.hid (plsNews (HDV.out.keep HC.out))
           go_wp2_with (at_builtin; refine wpList_append_rows cellsPl_len cellsPl_one (by decide) rfl _ _ 44 rfl W8.heap.size 43 i0 _ 32 Tryz.underlying44 hi0 hz0 hz1 hz2 rfl (by decide) (.slice a5 (P.length + 1) c5) (P.length + 1) ((P ++ [x]).flatMap cellsPl) rfl HO5.out none D (oc - m) (by rw [HDL.out]; rfl) HDN.out (by have := HPL.out; have := HDL.out; omega) HC.out.size ?_; intro v' wg ho hg ha; obtain ⟨a6, c6, rfl, -, -⟩ := own_slice ho; have HO6 := Lib.hid (show wg.ownsRow W8.heap.size 43 4 (.slice a6 (P.length + 1 + D.length) c6) (P.length + 1 + D.length) ((P ++ [x] ++ D).flatMap cellsPl) by rw [List.flatMap_append]; exact ho); have HC := Lib.hid (below_grown HC.out hg HC.out.size fun k hk => (own_lt HO5.out hk).1); clear ho hg ha)
           refine NP_mk ?_
           go_wp2_with fail
           go_roundw
           case rel => exact ⟨i + 1, P ++ [x] ++ D, by omega, by go_num, Lib.hid HLN.out.symm, Lib.hid (by have := HPL.out; have := HDL.out; have := HLL.out; simp; omega), HLI2, by rw [show (P ++ [x] ++ D).length = P.length + 1 + D.length by simp; omega]; exact own_mono HO6.out HBW8.out.size, HBW8.out.trans (HC.out.mono HBW8.out.size)⟩
           case measure => first | (simp [intOf]; done) | (simp [intOf]; omega)
          ·skip
           simp only [nthOp]
           go_wp2_with fail
           have HAL := Lib.hid ((Below.refl wa.heap.size wa).alloc (Nat.le_refl _) (.cells #[.int .i64 x.a, .int .i64 x.b, .int .i64 x.c, .int .i64 x.d] 43))
           have HNX := Lib.hid (show NewX (wa.alloc (.cells #[.int .i64 x.a, .int .i64 x.b, .int .i64 x.c, .int .i64 x.d] 43)) (.slice (some ⟨g0, 0, none⟩) 0 0) wa.heap.size (cellsPl x) from NewX.new (cellsPl x) 43 (fun j hj => (own_lt HO0.out hj).2))
           have HO0 := Lib.hid (own_keep HO0.out HAL.out)
           have HC := Lib.hid (HC.out.alloc HC.out.size (.cells #[.int .i64 x.a, .int .i64 x.b, .int .i64 x.c, .int .i64 x.d] 43))
           refine One_mk (KW.mk' HC.out) ?_
           clear HAL
           generalize (wa.alloc (.cells #[.int .i64 x.a, .int .i64 x.b, .int .i64 x.c, .int .i64 x.d] 43)) = wb at *
           generalize wa.heap.size = gx at *
           refine wpTree_one ?_
           simp only [nthOp]
           have HTN := Lib.hid (plsNews (HTV.out.keep HC.out))
           go_wp2_with (at_builtin; refine wpList_append_rows cellsPl_len cellsPl_one (by decide) rfl _ _ 44 rfl W8.heap.size 43 i0 _ 32 Tryz.underlying44 hi0 hz0 hz1 hz2 rfl (by decide) (.slice (some ⟨g0, 0, none⟩) 0 0) 0 [] rfl HO0.out none P oc (by rw [HPL.out]; rfl) HTN.out (by have := HPL.out; omega) HC.out.size ?_; intro v' wc ho hg ha; obtain ⟨a4, c4, rfl, -, -⟩ := own_slice ho; have HO4 := Lib.hid (show wc.ownsRow W8.heap.size 43 4 (.slice a4 P.length c4) P.length (P.flatMap cellsPl) by simpa using ho); have HNX := Lib.hid (HNX.out.grown hg ha); have HC := Lib.hid (below_grown HC.out hg HC.out.size fun k hk => (own_lt HO0.out hk).1); clear ho hg ha)
           refine One_mk (KW.mk' HC.out) ?_
           refine wpTree_one ?_
           simp only [nthOp]
           go_wp2_with (at_builtin; refine wpList_append_here _ rfl _ _ 44 rfl W8.heap.size 43 i0 (.agg #[.int .i64 0, .int .i64 0, .int .i64 0, .int .i64 0]) 4 32 Tryz.underlying44 hi0 hz0 hz1 hz2 rfl (by decide) (.slice a4 P.length c4) P.length (P.flatMap cellsPl) (by rw [HPL.out]; rfl) HO4.out ⟨gx, 0, none⟩ 1 1 (cellsPl x) rfl rfl HNX.out.c (cellsPl_one x) (by decide) (by have := HPL.out; simp only [maxLen]; omega) (by have := HPL.out; omega) HC.out.size ?_; intro v' wd ho hg ha; obtain ⟨a5, c5, rfl, -, -⟩ := own_slice ho; have HO5 := Lib.hid (show wd.ownsRow W8.heap.size 43 4 (.slice a5 (P.length + 1) c5) (P.length + 1) ((P ++ [x]).flatMap cellsPl) by rw [List.flatMap_append]; simpa using ho); have HC := Lib.hid (below_grown HC.out hg HC.out.size fun k hk => (own_lt HO4.out hk).1); clear ho hg ha)
           refine One_mk (KW.mk' HC.out) ?_
           refine wpTree_done ?_
           simp only [List.drop_succ_cons, List.drop_zero]
           have HDN := Lib.hid (plsNews (HDV.out.keep HC.out))
           go_wp2_with (at_builtin; refine wpList_append_rows cellsPl_len cellsPl_one (by decide) rfl _ _ 44 rfl W8.heap.size 43 i0 _ 32 Tryz.underlying44 hi0 hz0 hz1 hz2 rfl (by decide) (.slice a5 (P.length + 1) c5) (P.length + 1) ((P ++ [x]).flatMap cellsPl) rfl HO5.out none D (oc - m) (by rw [HDL.out]; rfl) HDN.out (by have := HPL.out; have := HDL.out; omega) HC.out.size ?_; intro v' wg ho hg ha; obtain ⟨a6, c6, rfl, -, -⟩ := own_slice ho; have HO6 := Lib.hid (show wg.ownsRow W8.heap.size 43 4 (.slice a6 (P.length + 1 + D.length) c6) (P.length + 1 + D.length) ((P ++ [x] ++ D).flatMap cellsPl) by rw [List.flatMap_append]; exact ho); have HC := Lib.hid (below_grown HC.out hg HC.out.size fun k hk => (own_lt HO5.out hk).1); clear ho hg ha)
           refine NP_mk ?_
           go_wp2_with fail
           go_roundw
           case rel => exact ⟨i + 1, P ++ [x] ++ D, by omega, by go_num, Lib.hid HLN.out.symm, Lib.hid (by have := HPL.out; have := HDL.out; have := HLL.out; simp; omega), HLI2, by rw [show (P ++ [x] ++ D).length = P.length + 1 + D.length by simp; omega]; exact own_mono HO6.out HBW8.out.size, HBW8.out.trans (HC.out.mono HBW8.out.size)⟩
           case measure => first | (simp [intOf]; done) | (simp [intOf]; omega)
         ·skip
          simp only [nthOp]
          go_wp2_with fail
          have HAL := Lib.hid ((Below.refl wz.heap.size wz).alloc (Nat.le_refl _) (.cells #[.int .i64 x.a, .int .i64 x.b, .int .i64 x.c, .int .i64 x.d] 43))
          have HNX := Lib.hid (show NewX (wz.alloc (.cells #[.int .i64 x.a, .int .i64 x.b, .int .i64 x.c, .int .i64 x.d] 43)) (.slice none 0 0) wz.heap.size (cellsPl x) from NewX.new (cellsPl x) 43 (fun j hj => by cases hj))
          have HC := Lib.hid (HC.out.alloc HC.out.size (.cells #[.int .i64 x.a, .int .i64 x.b, .int .i64 x.c, .int .i64 x.d] 43))
          refine One_mk (KW.mk' HC.out) ?_
          clear HAL
          generalize (wz.alloc (.cells #[.int .i64 x.a, .int .i64 x.b, .int .i64 x.c, .int .i64 x.d] 43)) = wa at *
          generalize wz.heap.size = gx at *
          refine wpTree_one ?_
          simp only [nthOp]
          go_wp2_with fail
          have HAL := Lib.hid ((Below.refl wa.heap.size wa).alloc (Nat.le_refl _) (.cells #[] 43))
          have HO0 := Lib.hid (World.ownsRow_made (e := 43) (base := W8.heap.size) (size := 4) wa #[] 0 HC.out.size (by decide) (by simp))
          have HNX := Lib.hid ((HNX.out.keep HAL.out).row (v' := .slice (some ⟨wa.heap.size, 0, none⟩) 0 0) (fun e => by injection e with e; have := HNX.out.l; simp only at e; omega))
          have HC := Lib.hid (HC.out.alloc HC.out.size (.cells #[] 43))
          refine One_mk (KW.mk' HC.out) ?_
          clear HAL
          generalize (wa.alloc (.cells #[] 43)) = wb at *
          generalize wa.heap.size = g0 at *
          refine wpTree_one ?_
          simp only [nthOp]
          have HTN := Lib.hid (plsNews (HTV.out.keep HC.out))
          go_wp2_with (at_builtin; refine wpList_append_rows cellsPl_len cellsPl_one (by decide) rfl _ _ 44 rfl W8.heap.size 43 i0 _ 32 Tryz.underlying44 hi0 hz0 hz1 hz2 rfl (by decide) (.slice (some ⟨g0, 0, none⟩) 0 0) 0 [] rfl HO0.out none P oc (by rw [HPL.out]; rfl) HTN.out (by have := HPL.out; omega) HC.out.size ?_; intro v' wc ho hg ha; obtain ⟨a4, c4, rfl, -, -⟩ := own_slice ho; have HO4 := Lib.hid (show wc.ownsRow W8.heap.size 43 4 (.slice a4 P.length c4) P.length (P.flatMap cellsPl) by simpa using ho); have HNX := Lib.hid (HNX.out.grown hg ha); have HC := Lib.hid (below_grown HC.out hg HC.out.size fun k hk => (own_lt HO0.out hk).1); clear ho hg ha)
          refine One_mk (KW.mk' HC.out) ?_
          refine wpTree_one ?_
          simp only [nthOp]
          go_wp2_with (at_builtin; refine wpList_append_here _ rfl _ _ 44 rfl W8.heap.size 43 i0 (.agg #[.int .i64 0, .int .i64 0, .int .i64 0, .int .i64 0]) 4 32 Tryz.underlying44 hi0 hz0 hz1 hz2 rfl (by decide) (.slice a4 P.length c4) P.length (P.flatMap cellsPl) (by rw [HPL.out]; rfl) HO4.out ⟨gx, 0, none⟩ 1 1 (cellsPl x) rfl rfl HNX.out.c (cellsPl_one x) (by decide) (by have := HPL.out; simp only [maxLen]; omega) (by have := HPL.out; omega) HC.out.size ?_; intro v' wd ho hg ha; obtain ⟨a5, c5, rfl, -, -⟩ := own_slice ho; have HO5 := Lib.hid (show wd.ownsRow W8.heap.size 43 4 (.slice a5 (P.length + 1) c5) (P.length + 1) ((P ++ [x]).flatMap cellsPl) by rw [List.flatMap_append]; simpa using ho); have HC := Lib.hid (below_grown HC.out hg HC.out.size fun k hk => (own_lt HO4.out hk).1); clear ho hg ha)
          refine One_mk (KW.mk' HC.out) ?_
          refine wpTree_done ?_
          simp only [List.drop_succ_cons, List.drop_zero]
          have HDN := Lib.hid (plsNews (HDV.out.keep HC.out))
          go_wp2_with (at_builtin; refine wpList_append_rows cellsPl_len cellsPl_one (by decide) rfl _ _ 44 rfl W8.heap.size 43 i0 _ 32 Tryz.underlying44 hi0 hz0 hz1 hz2 rfl (by decide) (.slice a5 (P.length + 1) c5) (P.length + 1) ((P ++ [x]).flatMap cellsPl) rfl HO5.out none D (oc - m) (by rw [HDL.out]; rfl) HDN.out (by have := HPL.out; have := HDL.out; omega) HC.out.size ?_; intro v' wg ho hg ha; obtain ⟨a6, c6, rfl, -, -⟩ := own_slice ho; have HO6 := Lib.hid (show wg.ownsRow W8.heap.size 43 4 (.slice a6 (P.length + 1 + D.length) c6) (P.length + 1 + D.length) ((P ++ [x] ++ D).flatMap cellsPl) by rw [List.flatMap_append]; exact ho); have HC := Lib.hid (below_grown HC.out hg HC.out.size fun k hk => (own_lt HO5.out hk).1); clear ho hg ha)
          refine NP_mk ?_
          go_wp2_with fail
          go_roundw
          case rel => exact ⟨i + 1, P ++ [x] ++ D, by omega, by go_num, Lib.hid HLN.out.symm, Lib.hid (by have := HPL.out; have := HDL.out; have := HLL.out; simp; omega), HLI2, by rw [show (P ++ [x] ++ D).length = P.length + 1 + D.length by simp; omega]; exact own_mono HO6.out HBW8.out.size, HBW8.out.trans (HC.out.mono HBW8.out.size)⟩
          case measure => first | (simp [intOf]; done) | (simp [intOf]; omega)
        ·injection e0 with e1 e2 e3
         obtain ⟨ob, hob⟩ : ∃ ob, ob = og := ⟨_, rfl⟩
         obtain ⟨ooff, hoo⟩ : ∃ o : Nat, o = 0 := ⟨_, rfl⟩
         rw [← hoo, ← hob] at e1
         subst e1
         clear hob hoo e2 e3
         have e0 := cell_keep HB8.out HX.out.1
         have e1 := cell_keep HB8.out HX.out.2.1
         have e2 := cell_keep HB8.out HX.out.2.2.1
         have e3 := cell_keep HB8.out HX.out.2.2.2
         have HBW8 := Lib.hid (HB.out.trans ((HB12.out.trans (HB8.out.mono HB12.out.size)).mono HB.out.size))
         have HOV8 := Lib.hid (HOV.out.keep (HB12.out.trans (HB8.out.mono HB12.out.size)))
         obtain ⟨P, hP⟩ : ∃ P, P = L.take m := ⟨_, rfl⟩
         obtain ⟨D, hD⟩ : ∃ D, D = L.drop m := ⟨_, rfl⟩
         have HPL := Lib.hid (show P.length = m by rw [hP, List.length_take]; omega)
         have HDL := Lib.hid (show D.length = L.length - m by rw [hD, List.length_drop])
         have HTV := Lib.hid (show Pls.V W8 (some ⟨ob, ooff, none⟩) P by rw [hP]; exact RowV.take HOV8.out m)
         have HLN := Lib.hid (show P ++ [x] ++ D = sortF ltL (norL (ps.take (i + 1)) cs) by rw [HNS.out, hP, hD])
         have HLI2 := Lib.hid (show ∀ c ∈ P ++ [x] ++ D, c.in_ from fun c hc => by
          rw [hP, hD] at hc
          rcases List.mem_append.1 hc with hc | hc
          ·rcases List.mem_append.1 hc with hc | hc
           ·exact HLI.out c (List.mem_of_mem_take hc)
           ·rw [List.mem_singleton] at hc; subst hc; exact HXI.out
          ·exact HLI.out c (List.mem_of_mem_drop hc))
         have HDV := Lib.hid (show Pls.V W8 (if oc = m then some ⟨ob, ooff, none⟩ else some ⟨ob, ooff + m * 4, none⟩) D by
          rw [hD]
          split
          ·rename_i hcm
           rw [List.drop_of_length_le (by have := HOC.out.1; omega)]; exact RowV.nil
          ·exact RowV.drop HOV8.out m)
         have hmo : m ≤ oc := by have := HOC.out.1; omega
         have hml2 : m ≤ L.length := hml
         clear hP hD
         have kx0 : ∀ y : KW (fun W' => Below W8.heap.size W8 W'), (y.w.cell? ⟨g6, 0, none⟩ = some (.int .i64 x.a) ∧ y.w.cell? ⟨g6, 1, none⟩ = some (.int .i64 x.b) ∧ y.w.cell? ⟨g6, 2, none⟩ = some (.int .i64 x.c) ∧ y.w.cell? ⟨g6, 3, none⟩ = some (.int .i64 x.d)) := fun y => ⟨cell_keep y.ok e0, cell_keep y.ok e1, cell_keep y.ok e2, cell_keep y.ok e3⟩
         haveI n1 : Nonempty (KW (fun W' => Below W8.heap.size W8 W')) := ⟨⟨W8, Below.refl _ _⟩⟩
         go_upto_region 17 with fail
         refine wp_region_tree (fun w' => ∃ y : KW (fun W' => Below W8.heap.size W8 W'), w' = y.w) 11 (.take 1 (.take 2 (.take 3 (.take 5 (.take 8 (.take 9 (.take 10 (.two 0 (.two 4 (.one 6 (.one 7 .done)) 6 (.one 4 (.one 7 .done))) 6 (.one 0 (.one 4 (.one 7 .done))))))))))) hmix (by kernel_rfl) (KW.mk' (Below.refl _ _).drew) ?_
         have HC := Lib.hid (show Below W8.heap.size W8 W8.drew from (Below.refl _ _).drew)
         generalize W8.drew = wz at *
         repeat (refine wpTree_take ?_; simp only [nthOp]; (first | go_big_quiet_step (fail) | quiet_step (fail)); refine wpQuiet_nil ?_)
         generalize (if oc = m then (some ⟨ob, ooff, none⟩ : Option Addr) else some ⟨ob, ooff + m * 4, none⟩) = A2 at HDV ⊢
         refine wpTree_two ?_ ?_
         ·skip
          simp only [nthOp]
          go_wp2_with fail
          have HAL := Lib.hid ((Below.refl wz.heap.size wz).alloc (Nat.le_refl _) (.cells #[] 43))
          have HO0 := Lib.hid (World.ownsRow_made (e := 43) (base := W8.heap.size) (size := 4) wz #[] 0 HC.out.size (by decide) (by simp))
          have HC := Lib.hid (HC.out.alloc HC.out.size (.cells #[] 43))
          refine One_mk (KW.mk' HC.out) ?_
          clear HAL
          generalize (wz.alloc (.cells #[] 43)) = wa at *
          generalize wz.heap.size = g0 at *
          refine wpTree_two ?_ ?_
          ·skip
           simp only [nthOp]
           have HTN := Lib.hid (plsNews (HTV.out.keep HC.out))
           go_wp2_with (at_builtin; refine wpList_append_rows cellsPl_len cellsPl_one (by decide) rfl _ _ 44 rfl W8.heap.size 43 i0 _ 32 Tryz.underlying44 hi0 hz0 hz1 hz2 rfl (by decide) (.slice (some ⟨g0, 0, none⟩) 0 0) 0 [] rfl HO0.out (some ⟨ob, ooff, none⟩) P oc (by rw [HPL.out]; rfl) HTN.out (by have := HPL.out; omega) HC.out.size ?_; intro v' wb ho hg ha; obtain ⟨a4, c4, rfl, -, -⟩ := own_slice ho; have HO4 := Lib.hid (show wb.ownsRow W8.heap.size 43 4 (.slice a4 P.length c4) P.length (P.flatMap cellsPl) by simpa using ho); have HC := Lib.hid (below_grown HC.out hg HC.out.size fun k hk => (own_lt HO0.out hk).1); clear ho hg ha)
           refine One_mk (KW.mk' HC.out) ?_
           refine wpTree_one ?_
           simp only [nthOp]
           go_wp2_with fail
           have HAL := Lib.hid ((Below.refl wb.heap.size wb).alloc (Nat.le_refl _) (.cells #[.int .i64 x.a, .int .i64 x.b, .int .i64 x.c, .int .i64 x.d] 43))
           have HNX := Lib.hid (show NewX (wb.alloc (.cells #[.int .i64 x.a, .int .i64 x.b, .int .i64 x.c, .int .i64 x.d] 43)) (.slice a4 P.length c4) wb.heap.size (cellsPl x) from NewX.new (cellsPl x) 43 (fun j hj => (own_lt HO4.out hj).2))
           have HO4 := Lib.hid (own_keep HO4.out HAL.out)
           have HC := Lib.hid (HC.out.alloc HC.out.size (.cells #[.int .i64 x.a, .int .i64 x.b, .int .i64 x.c, .int .i64 x.d] 43))
           refine One_mk (KW.mk' HC.out) ?_
           clear HAL
           generalize (wb.alloc (.cells #[.int .i64 x.a, .int .i64 x.b, .int .i64 x.c, .int .i64 x.d] 43)) = wc at *
           generalize wb.heap.size = gx at *
           refine wpTree_one ?_
           simp only [nthOp]
           go_wp2_with (at_builtin; refine wpList_append_here _ rfl _ _ 44 rfl W8.heap.size 43 i0 (.agg #[.int .i64 0, .int .i64 0, .int .i64 0, .int .i64 0]) 4 32 Tryz.underlying44 hi0 hz0 hz1 hz2 rfl (by decide) (.slice a4 P.length c4) P.length (P.flatMap cellsPl) (by rw [HPL.out]; rfl) HO4.out ⟨gx, 0, none⟩ 1 1 (cellsPl x) rfl rfl HNX.out.c (cellsPl_one x) (by decide) (by have := HPL.out; simp only [maxLen]; omega) (by have := HPL.out; omega) HC.out.size ?_; intro v' wd ho hg ha; obtain ⟨a5, c5, rfl, -, -⟩ := own_slice ho; have HO5 := Lib.hid (show wd.ownsRow W8.heap.size 43 4 (.slice a5 (P.length + 1) c5) (P.length + 1) ((P ++ [x]).flatMap cellsPl) by rw [List.flatMap_append]; simpa using ho); have HC := Lib.hid (below_grown HC.out hg HC.out.size fun k hk => (own_lt HO4.out hk).1); clear ho hg ha)
           refine One_mk (KW.mk' HC.out) ?_
           refine wpTree_done ?_
           simp only [List.drop_succ_cons, List.drop_zero]
           have HDN := Lib.hid (plsNews (HDV.out.keep HC.out))
           go_wp2_with (at_builtin; refine wpList_append_rows cellsPl_len cellsPl_one (by decide) rfl _ _ 44 rfl W8.heap.size 43 i0 _ 32 Tryz.underlying44 hi0 hz0 hz1 hz2 rfl (by decide) (.slice a5 (P.length + 1) c5) (P.length + 1) ((P ++ [x]).flatMap cellsPl) rfl HO5.out A2 D (oc - m) (by rw [HDL.out]; rfl) HDN.out (by have := HPL.out; have := HDL.out; omega) HC.out.size ?_; intro v' wg ho hg ha; obtain ⟨a6, c6, rfl, -, -⟩ := own_slice ho; have HO6 := Lib.hid (show wg.ownsRow W8.heap.size 43 4 (.slice a6 (P.length + 1 + D.length) c6) (P.length + 1 + D.length) ((P ++ [x] ++ D).flatMap cellsPl) by rw [List.flatMap_append]; exact ho); have HC := Lib.hid (below_grown HC.out hg HC.out.size fun k hk => (own_lt HO5.out hk).1); clear ho hg ha)
           refine NP_mk ?_
           go_wp2_with fail
           go_roundw
           case rel => exact ⟨i + 1, P ++ [x] ++ D, by omega, by go_num, Lib.hid HLN.out.symm, Lib.hid (by have := HPL.out; have := HDL.out; have := HLL.out; simp; omega), HLI2, by rw [show (P ++ [x] ++ D).length = P.length + 1 + D.length by simp; omega]; exact own_mono HO6.out HBW8.out.size, HBW8.out.trans (HC.out.mono HBW8.out.size)⟩
           case measure => first | (simp [intOf]; done) | (simp [intOf]; omega)
          ·skip
           simp only [nthOp]
           go_wp2_with fail
           have HAL := Lib.hid ((Below.refl wa.heap.size wa).alloc (Nat.le_refl _) (.cells #[.int .i64 x.a, .int .i64 x.b, .int .i64 x.c, .int .i64 x.d] 43))
           have HNX := Lib.hid (show NewX (wa.alloc (.cells #[.int .i64 x.a, .int .i64 x.b, .int .i64 x.c, .int .i64 x.d] 43)) (.slice (some ⟨g0, 0, none⟩) 0 0) wa.heap.size (cellsPl x) from NewX.new (cellsPl x) 43 (fun j hj => (own_lt HO0.out hj).2))
           have HO0 := Lib.hid (own_keep HO0.out HAL.out)
           have HC := Lib.hid (HC.out.alloc HC.out.size (.cells #[.int .i64 x.a, .int .i64 x.b, .int .i64 x.c, .int .i64 x.d] 43))
           refine One_mk (KW.mk' HC.out) ?_
           clear HAL
           generalize (wa.alloc (.cells #[.int .i64 x.a, .int .i64 x.b, .int .i64 x.c, .int .i64 x.d] 43)) = wb at *
           generalize wa.heap.size = gx at *
           refine wpTree_one ?_
           simp only [nthOp]
           have HTN := Lib.hid (plsNews (HTV.out.keep HC.out))
           go_wp2_with (at_builtin; refine wpList_append_rows cellsPl_len cellsPl_one (by decide) rfl _ _ 44 rfl W8.heap.size 43 i0 _ 32 Tryz.underlying44 hi0 hz0 hz1 hz2 rfl (by decide) (.slice (some ⟨g0, 0, none⟩) 0 0) 0 [] rfl HO0.out (some ⟨ob, ooff, none⟩) P oc (by rw [HPL.out]; rfl) HTN.out (by have := HPL.out; omega) HC.out.size ?_; intro v' wc ho hg ha; obtain ⟨a4, c4, rfl, -, -⟩ := own_slice ho; have HO4 := Lib.hid (show wc.ownsRow W8.heap.size 43 4 (.slice a4 P.length c4) P.length (P.flatMap cellsPl) by simpa using ho); have HNX := Lib.hid (HNX.out.grown hg ha); have HC := Lib.hid (below_grown HC.out hg HC.out.size fun k hk => (own_lt HO0.out hk).1); clear ho hg ha)
           refine One_mk (KW.mk' HC.out) ?_
           refine wpTree_one ?_
           simp only [nthOp]
           go_wp2_with (at_builtin; refine wpList_append_here _ rfl _ _ 44 rfl W8.heap.size 43 i0 (.agg #[.int .i64 0, .int .i64 0, .int .i64 0, .int .i64 0]) 4 32 Tryz.underlying44 hi0 hz0 hz1 hz2 rfl (by decide) (.slice a4 P.length c4) P.length (P.flatMap cellsPl) (by rw [HPL.out]; rfl) HO4.out ⟨gx, 0, none⟩ 1 1 (cellsPl x) rfl rfl HNX.out.c (cellsPl_one x) (by decide) (by have := HPL.out; simp only [maxLen]; omega) (by have := HPL.out; omega) HC.out.size ?_; intro v' wd ho hg ha; obtain ⟨a5, c5, rfl, -, -⟩ := own_slice ho; have HO5 := Lib.hid (show wd.ownsRow W8.heap.size 43 4 (.slice a5 (P.length + 1) c5) (P.length + 1) ((P ++ [x]).flatMap cellsPl) by rw [List.flatMap_append]; simpa using ho); have HC := Lib.hid (below_grown HC.out hg HC.out.size fun k hk => (own_lt HO4.out hk).1); clear ho hg ha)
           refine One_mk (KW.mk' HC.out) ?_
           refine wpTree_done ?_
           simp only [List.drop_succ_cons, List.drop_zero]
           have HDN := Lib.hid (plsNews (HDV.out.keep HC.out))
           go_wp2_with (at_builtin; refine wpList_append_rows cellsPl_len cellsPl_one (by decide) rfl _ _ 44 rfl W8.heap.size 43 i0 _ 32 Tryz.underlying44 hi0 hz0 hz1 hz2 rfl (by decide) (.slice a5 (P.length + 1) c5) (P.length + 1) ((P ++ [x]).flatMap cellsPl) rfl HO5.out A2 D (oc - m) (by rw [HDL.out]; rfl) HDN.out (by have := HPL.out; have := HDL.out; omega) HC.out.size ?_; intro v' wg ho hg ha; obtain ⟨a6, c6, rfl, -, -⟩ := own_slice ho; have HO6 := Lib.hid (show wg.ownsRow W8.heap.size 43 4 (.slice a6 (P.length + 1 + D.length) c6) (P.length + 1 + D.length) ((P ++ [x] ++ D).flatMap cellsPl) by rw [List.flatMap_append]; exact ho); have HC := Lib.hid (below_grown HC.out hg HC.out.size fun k hk => (own_lt HO5.out hk).1); clear ho hg ha)
           refine NP_mk ?_
           go_wp2_with fail
           go_roundw
           case rel => exact ⟨i + 1, P ++ [x] ++ D, by omega, by go_num, Lib.hid HLN.out.symm, Lib.hid (by have := HPL.out; have := HDL.out; have := HLL.out; simp; omega), HLI2, by rw [show (P ++ [x] ++ D).length = P.length + 1 + D.length by simp; omega]; exact own_mono HO6.out HBW8.out.size, HBW8.out.trans (HC.out.mono HBW8.out.size)⟩
           case measure => first | (simp [intOf]; done) | (simp [intOf]; omega)
         ·skip
          simp only [nthOp]
          go_wp2_with fail
          have HAL := Lib.hid ((Below.refl wz.heap.size wz).alloc (Nat.le_refl _) (.cells #[.int .i64 x.a, .int .i64 x.b, .int .i64 x.c, .int .i64 x.d] 43))
          have HNX := Lib.hid (show NewX (wz.alloc (.cells #[.int .i64 x.a, .int .i64 x.b, .int .i64 x.c, .int .i64 x.d] 43)) (.slice none 0 0) wz.heap.size (cellsPl x) from NewX.new (cellsPl x) 43 (fun j hj => by cases hj))
          have HC := Lib.hid (HC.out.alloc HC.out.size (.cells #[.int .i64 x.a, .int .i64 x.b, .int .i64 x.c, .int .i64 x.d] 43))
          refine One_mk (KW.mk' HC.out) ?_
          clear HAL
          generalize (wz.alloc (.cells #[.int .i64 x.a, .int .i64 x.b, .int .i64 x.c, .int .i64 x.d] 43)) = wa at *
          generalize wz.heap.size = gx at *
          refine wpTree_one ?_
          simp only [nthOp]
          go_wp2_with fail
          have HAL := Lib.hid ((Below.refl wa.heap.size wa).alloc (Nat.le_refl _) (.cells #[] 43))
          have HO0 := Lib.hid (World.ownsRow_made (e := 43) (base := W8.heap.size) (size := 4) wa #[] 0 HC.out.size (by decide) (by simp))
          have HNX := Lib.hid ((HNX.out.keep HAL.out).row (v' := .slice (some ⟨wa.heap.size, 0, none⟩) 0 0) (fun e => by injection e with e; have := HNX.out.l; simp only at e; omega))
          have HC := Lib.hid (HC.out.alloc HC.out.size (.cells #[] 43))
          refine One_mk (KW.mk' HC.out) ?_
          clear HAL
          generalize (wa.alloc (.cells #[] 43)) = wb at *
          generalize wa.heap.size = g0 at *
          refine wpTree_one ?_
          simp only [nthOp]
          have HTN := Lib.hid (plsNews (HTV.out.keep HC.out))
          go_wp2_with (at_builtin; refine wpList_append_rows cellsPl_len cellsPl_one (by decide) rfl _ _ 44 rfl W8.heap.size 43 i0 _ 32 Tryz.underlying44 hi0 hz0 hz1 hz2 rfl (by decide) (.slice (some ⟨g0, 0, none⟩) 0 0) 0 [] rfl HO0.out (some ⟨ob, ooff, none⟩) P oc (by rw [HPL.out]; rfl) HTN.out (by have := HPL.out; omega) HC.out.size ?_; intro v' wc ho hg ha; obtain ⟨a4, c4, rfl, -, -⟩ := own_slice ho; have HO4 := Lib.hid (show wc.ownsRow W8.heap.size 43 4 (.slice a4 P.length c4) P.length (P.flatMap cellsPl) by simpa using ho); have HNX := Lib.hid (HNX.out.grown hg ha); have HC := Lib.hid (below_grown HC.out hg HC.out.size fun k hk => (own_lt HO0.out hk).1); clear ho hg ha)
          refine One_mk (KW.mk' HC.out) ?_
          refine wpTree_one ?_
          simp only [nthOp]
          go_wp2_with (at_builtin; refine wpList_append_here _ rfl _ _ 44 rfl W8.heap.size 43 i0 (.agg #[.int .i64 0, .int .i64 0, .int .i64 0, .int .i64 0]) 4 32 Tryz.underlying44 hi0 hz0 hz1 hz2 rfl (by decide) (.slice a4 P.length c4) P.length (P.flatMap cellsPl) (by rw [HPL.out]; rfl) HO4.out ⟨gx, 0, none⟩ 1 1 (cellsPl x) rfl rfl HNX.out.c (cellsPl_one x) (by decide) (by have := HPL.out; simp only [maxLen]; omega) (by have := HPL.out; omega) HC.out.size ?_; intro v' wd ho hg ha; obtain ⟨a5, c5, rfl, -, -⟩ := own_slice ho; have HO5 := Lib.hid (show wd.ownsRow W8.heap.size 43 4 (.slice a5 (P.length + 1) c5) (P.length + 1) ((P ++ [x]).flatMap cellsPl) by rw [List.flatMap_append]; simpa using ho); have HC := Lib.hid (below_grown HC.out hg HC.out.size fun k hk => (own_lt HO4.out hk).1); clear ho hg ha)
          refine One_mk (KW.mk' HC.out) ?_
          refine wpTree_done ?_
          simp only [List.drop_succ_cons, List.drop_zero]
          have HDN := Lib.hid (plsNews (HDV.out.keep HC.out))
          go_wp2_with (at_builtin; refine wpList_append_rows cellsPl_len cellsPl_one (by decide) rfl _ _ 44 rfl W8.heap.size 43 i0 _ 32 Tryz.underlying44 hi0 hz0 hz1 hz2 rfl (by decide) (.slice a5 (P.length + 1) c5) (P.length + 1) ((P ++ [x]).flatMap cellsPl) rfl HO5.out A2 D (oc - m) (by rw [HDL.out]; rfl) HDN.out (by have := HPL.out; have := HDL.out; omega) HC.out.size ?_; intro v' wg ho hg ha; obtain ⟨a6, c6, rfl, -, -⟩ := own_slice ho; have HO6 := Lib.hid (show wg.ownsRow W8.heap.size 43 4 (.slice a6 (P.length + 1 + D.length) c6) (P.length + 1 + D.length) ((P ++ [x] ++ D).flatMap cellsPl) by rw [List.flatMap_append]; exact ho); have HC := Lib.hid (below_grown HC.out hg HC.out.size fun k hk => (own_lt HO5.out hk).1); clear ho hg ha)
          refine NP_mk ?_
          go_wp2_with fail
          go_roundw
          case rel => exact ⟨i + 1, P ++ [x] ++ D, by omega, by go_num, Lib.hid HLN.out.symm, Lib.hid (by have := HPL.out; have := HDL.out; have := HLL.out; simp; omega), HLI2, by rw [show (P ++ [x] ++ D).length = P.length + 1 + D.length by simp; omega]; exact own_mono HO6.out HBW8.out.size, HBW8.out.trans (HC.out.mono HBW8.out.size)⟩
          case measure => first | (simp [intOf]; done) | (simp [intOf]; omega)
       ·have h3i : ¬ (3 : Int) ≤ (n : Int) := by omega
        have HNS := Lib.hid (show sortF ltL (norL (ps.take (i + 1)) cs) = L by rw [HNS0.out, if_neg (by simp [h3])])
        clear h3
        go_upto_region 16 with fail
        refine wp_region_grew (by kernel_rfl) (by kernel_rfl) ?_
        repeat (first | go_big_quiet_step (fail) | quiet_step (fail))
        refine wpQuiet_nil ?_
        rintro _ ⟨g2, rfl⟩
        have HB8 := Lib.hid (show Below W2.heap.size W2 (grew W7 g2) from grewB HB7.out HB7.out.size _)
        generalize grew W7 g2 = W8 at HB8 ⊢
        go_wp2_with fail
        go_roundw
        case rel => exact ⟨i + 1, L, by omega, by go_num, HNS, Lib.hid (by have := HLL.out; omega), HLI, own_keep HO.out (HB12.out.trans (HB8.out.mono HB12.out.size)), HB.out.trans ((HB12.out.trans (HB8.out.mono HB12.out.size)).mono HB.out.size)⟩
        case measure => first | (simp [intOf]; done) | (simp [intOf]; omega)
  ·obtain rfl : i = ps.length := by omega
   have hki : ¬ ((ps.length : Nat) : Int) < ((ps.length : Nat) : Int) := by omega
   rw [List.take_length, ← HR.out] at HL
   have hL : R = L := HL.out
   subst hL
   go_wp2_with fail
   go_ret
   exact ⟨oa, oc, rfl, own_mono HO.out HBW0.out.size, HBW0.out.trans (HB.out.mono HBW0.out.size)⟩
end Go.Proofs.YtgjmfdhgeahdcaaGreat
