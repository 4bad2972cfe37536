/- The document's lowest form and order of planes. -/
import Derived.Test.YtbhgkadklklmbaaGreatQN
import Derived.Test.YtbhgkadklklmbaaGreatQB
import Derived.Test.YtbhgkadklklmbaaGreatQC
set_option linter.unusedVariables false
set_option linter.unusedSimpArgs false
namespace Go.Proofs.YtbhgkadklklmbaaGreat
open Go Go.RowKit Go.Sort Go.Lib

set_option maxRecDepth 100000 in
set_option maxHeartbeats 4000000 in
theorem lowestR_any (p : Pl) (hp : p.in_) (h0 : g4 p.a p.b p.c p.d ≠ 0) (w : World) : Calls Tryz.prog 83 #[.agg #[.int .i64 p.a, .int .i64 p.b, .int .i64 p.c, .int .i64 p.d]] w fun e w' => e = .returned (.agg #[.int .i64 (lowL p).a, .int .i64 (lowL p).b, .int .i64 (lowL p).c, .int .i64 (lowL p).d]) ∧ Below w.heap.size w w' := by
 obtain ⟨⟨h1, h2, h3⟩, h4⟩ := hp
 obtain ⟨G, hG⟩ : ∃ G, G = g4 p.a p.b p.c p.d := ⟨_, rfl⟩
 rw [← hG] at h0
 obtain ⟨pa, pb, pc, pd⟩ := p
 simp only [nrm] at h1 h2 h3 h4 hG
 have HRV := Lib.hid (show (Ending.returned (.agg #[.int .i64 (pa.tdiv (G : Int)), .int .i64 (pb.tdiv (G : Int)), .int .i64 (pc.tdiv (G : Int)), .int .i64 (pd.tdiv (G : Int))])) = .returned (.agg #[.int .i64 (lowL ⟨pa, pb, pc, pd⟩).a, .int .i64 (lowL ⟨pa, pb, pc, pd⟩).b, .int .i64 (lowL ⟨pa, pb, pc, pd⟩).c, .int .i64 (lowL ⟨pa, pb, pc, pd⟩).d]) by unfold lowL; simp only; rw [← hG])
 have e1 := tdiv_in (s := (G : Int)) h1
 have e2 := tdiv_in (s := (G : Int)) h2
 have e3 := tdiv_in (s := (G : Int)) h3
 have e4 := tdiv_in (s := (G : Int)) h4
 have v1 : IntKind.i64.wrap (pa.tdiv (G : Int)) = pa.tdiv (G : Int) := IntWalk.i64_in _ (by omega)
 have v2 : IntKind.i64.wrap (pb.tdiv (G : Int)) = pb.tdiv (G : Int) := IntWalk.i64_in _ (by omega)
 have v3 : IntKind.i64.wrap (pc.tdiv (G : Int)) = pc.tdiv (G : Int) := IntWalk.i64_in _ (by omega)
 have v4 : IntKind.i64.wrap (pd.tdiv (G : Int)) = pd.tdiv (G : Int) := IntWalk.i64_in _ (by omega)
 have hs0 : ¬ (G : Int) = 0 := by omega
 have hs1 : ((G : Int) == 0) = false := by simpa using hs0
 obtain ⟨G1, hG1⟩ : ∃ G1, G1 = Nat.gcd pa.natAbs pb.natAbs := ⟨_, rfl⟩
 obtain ⟨G2, hG2⟩ : ∃ G2, G2 = Nat.gcd pc.natAbs pd.natAbs := ⟨_, rfl⟩
 have l1 : G1 ≤ 100000000 := by
  rw [hG1]
  by_cases hz : pb = 0
  ·rw [hz, Int.natAbs_zero, Nat.gcd_zero_right]; omega
  ·exact Nat.le_trans (Nat.gcd_le_right _ (by omega)) (by omega)
 have l2 : G2 ≤ 100000000 := by
  rw [hG2]
  by_cases hz : pd = 0
  ·rw [hz, Int.natAbs_zero, Nat.gcd_zero_right]; omega
  ·exact Nat.le_trans (Nat.gcd_le_right _ (by omega)) (by omega)
 have HG1 := Lib.hid (fun W => gcdR_any pa pb (by omega) (by omega) W)
 have HG2 := Lib.hid (fun W => gcdR_any pc pd (by omega) (by omega) W)
 have HG3 := Lib.hid (fun W => gcdR_any (G1 : Int) (G2 : Int) (by omega) (by omega) W)
 rw [← hG1] at HG1
 rw [← hG2] at HG2
 rw [show Nat.gcd (G1 : Int).natAbs (G2 : Int).natAbs = G by rw [Int.natAbs_natCast, Int.natAbs_natCast, hG1, hG2, hG, gcd4]] at HG3
 clear e1 e2 e3 e4 h1 h2 h3 h4 hG hG1 hG2 l1 l2
 go_enter Tryz.func83, Tryz.ntmps83
 go_upto_region 1 with fail
 refine gen_world (fun W => (((W.cell? ⟨w.heap.size, 0, none⟩ = some (.int .i64 pa) ∧ W.cell? ⟨w.heap.size, 1, none⟩ = some (.int .i64 pb) ∧ W.cell? ⟨w.heap.size, 2, none⟩ = some (.int .i64 pc) ∧ W.cell? ⟨w.heap.size, 3, none⟩ = some (.int .i64 pd))) ∧ ((W.cell? ⟨w.heap.size + 1, 0, none⟩ = some (.int .i64 0) ∧ W.cell? ⟨w.heap.size + 1, 1, none⟩ = some (.int .i64 0) ∧ W.cell? ⟨w.heap.size + 1, 2, none⟩ = some (.int .i64 0) ∧ W.cell? ⟨w.heap.size + 1, 3, none⟩ = some (.int .i64 0)) ∧ (W.frozen? ⟨w.heap.size + 1, 0, none⟩ = false ∧ W.frozen? ⟨w.heap.size + 1, 1, none⟩ = false ∧ W.frozen? ⟨w.heap.size + 1, 2, none⟩ = false ∧ W.frozen? ⟨w.heap.size + 1, 3, none⟩ = false))) ∧ Below w.heap.size w W ∧ w.heap.size + 1 < W.heap.size) ⟨⟨⟨by simp [go_sem], by simp [go_sem], by simp [go_sem], by simp [go_sem]⟩, ⟨by simp [go_sem], by simp [go_sem], by simp [go_sem], by simp [go_sem]⟩, by simp [go_sem], by simp [go_sem], by simp [go_sem], by simp [go_sem]⟩, by repeat (first | (with_reducible assumption) | exact Below.refl _ _ | (refine Below.setCell ?_ (by first | omega | (simp; omega) | (simp; done)) _) | (refine Below.alloc ?_ (by first | omega | (simp; omega) | (simp; done)) _) | (refine Below.drew ?_)), by simp⟩ ?_
 rintro W ⟨⟨⟨p0, p1, p2, p3⟩, ⟨z0, z1, z2, z3⟩, f0, f1, f2, f3⟩, hb, hz⟩
 have HB := Lib.hid hb
 clear hb
 obtain ⟨gp, hgp⟩ : ∃ g, g = w.heap.size := ⟨_, rfl⟩
 have HGP := Lib.hid hgp
 rw [← hgp] at p0 p1 p2 p3 z0 z1 z2 z3 f0 f1 f2 f3 hz
 rw [show w.heap.size = gp from hgp.symm]
 clear hgp
 have hmix : Tryz.prog.follows .mixedOrders = true := by kernel_rfl
 have hz0 : gp < W.heap.size := by omega
 refine wp_region_grew (by kernel_rfl) (by kernel_rfl) ?_
 repeat (first | go_big_quiet_step (fail) | quiet_step (fail))
 (first | go_big_quiet_step ((go_at_call 120; exact grew_of (HG1.out _))) | quiet_step ((go_at_call 120; exact grew_of (HG1.out _))))
 repeat (first | go_big_quiet_step (fail) | quiet_step (fail))
 (first | go_big_quiet_step ((go_at_call 120; exact grew_of (HG2.out _))) | quiet_step ((go_at_call 120; exact grew_of (HG2.out _))))
 repeat (first | go_big_quiet_step (fail) | quiet_step (fail))
 (first | go_big_quiet_step ((go_at_call 120; exact grew_of (HG3.out _))) | quiet_step ((go_at_call 120; exact grew_of (HG3.out _))))
 repeat (first | go_big_quiet_step (fail) | quiet_step (fail))
 refine wpQuiet_nil ?_
 rintro _ ⟨gg, rfl⟩
 have HB5 := Lib.hid (show Below W.heap.size W (grew W gg) from grewB (Below.refl _ _) (Nat.le_refl _) _)
 generalize grew W gg = w5 at *
 go_upto_region 2 with fail
 have p0 := cell_keep HB5.out p0
 have p1 := cell_keep HB5.out p1
 have p2 := cell_keep HB5.out p2
 have p3 := cell_keep HB5.out p3
 have z0 := cell_keep HB5.out z0
 have z1 := cell_keep HB5.out z1
 have z2 := cell_keep HB5.out z2
 have z3 := cell_keep HB5.out z3
 have f0 := frozen_keep HB5.out (by simp only; omega) f0
 have f1 := frozen_keep HB5.out (by simp only; omega) f1
 have f2 := frozen_keep HB5.out (by simp only; omega) f2
 have f3 := frozen_keep HB5.out (by simp only; omega) f3
 have hz5 := HB5.out.size
 have hz6 : gp + 1 < w5.heap.size := by omega
 have kx0 : ∀ y : KW (fun W' => Below w5.heap.size w5 W'), (y.w.cell? ⟨gp, 0, none⟩ = some (.int .i64 pa) ∧ y.w.cell? ⟨gp, 1, none⟩ = some (.int .i64 pb) ∧ y.w.cell? ⟨gp, 2, none⟩ = some (.int .i64 pc) ∧ y.w.cell? ⟨gp, 3, none⟩ = some (.int .i64 pd)) := fun y => ⟨cell_keep y.ok p0, cell_keep y.ok p1, cell_keep y.ok p2, cell_keep y.ok p3⟩
 haveI n1 : Nonempty (KW (fun W' => Below w5.heap.size w5 W')) := ⟨⟨w5, Below.refl _ _⟩⟩
 clear p0 p1 p2 p3
 refine wp_region_tree (fun w' => ∃ y : KW (fun W' => Below w5.heap.size w5 W'), w' = y.w) 16 (.take 0 (.take 1 (.take 2 (.take 3 (.take 4 (.take 5 (.take 6 (.take 7 (.take 8 (.take 9 (.take 10 (.take 11 (.take 12 (.take 13 (.take 14 (.take 15 .done)))))))))))))))) hmix (by kernel_rfl) (KW.mk' (Below.refl _ _).drew) ?_
 have HB6 := Lib.hid (show Below w5.heap.size w5 w5.drew from (Below.refl _ _).drew)
 generalize w5.drew = w6 at *
 have hz7 := HB6.out.size
 repeat (refine wpTree_take ?_; simp only [nthOp]; (first | go_big_quiet_step (fail) | quiet_step (fail)); refine wpQuiet_nil ?_)
 have z0 := cell_keep HB6.out z0
 have z1 := cell_keep HB6.out z1
 have z2 := cell_keep HB6.out z2
 have z3 := cell_keep HB6.out z3
 have f0 := frozen_keep HB6.out (by simp only; omega) f0
 have f1 := frozen_keep HB6.out (by simp only; omega) f1
 have f2 := frozen_keep HB6.out (by simp only; omega) f2
 have f3 := frozen_keep HB6.out (by simp only; omega) f3
 have HF := Lib.hid (HB.out.trans ((HB5.out.trans (HB6.out.mono HB5.out.size)).mono HB.out.size))
 refine wpTree_done ?_
 simp only [List.drop_succ_cons, List.drop_zero]
 go_wp2_with fail
 refine NP_mk ?_
 go_wp2_with fail
 exact bodyPost_ret (v := .agg #[.int .i64 ((pa).tdiv (G : Int)), .int .i64 ((pb).tdiv (G : Int)), .int .i64 ((pc).tdiv (G : Int)), .int .i64 ((pd).tdiv (G : Int))]) (by simp [results, Tryz.results83, go_sem, z0, z1, z2, z3]) rfl ⟨HRV.out, by repeat (first | exact HF.out | (refine Below.setCell ?_ (by have := HGP.out; simp only; omega) _))⟩
end Go.Proofs.YtbhgkadklklmbaaGreat
