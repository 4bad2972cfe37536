/- The two regions of a cut. -/
import Derived.Test.YtepiapgcpoifpaaGreatG2
set_option linter.unusedVariables false
set_option linter.unusedSimpArgs false
namespace Go.Proofs.YtepiapgcpoifpaaGreat
open Go Go.RowKit

/-- A rectangle in a block of its own. -/
structure BoxR (W : World) (g : Nat) (r : Rect) : Prop where
  c0 : W.cell? ⟨g, 0, none⟩ = some (.int .i64 r.x1)
  c1 : W.cell? ⟨g, 1, none⟩ = some (.int .i64 r.y1)
  c2 : W.cell? ⟨g, 2, none⟩ = some (.int .i64 r.x2)
  c3 : W.cell? ⟨g, 3, none⟩ = some (.int .i64 r.y2)
  f0 : W.frozen? ⟨g, 0, none⟩ = false
  f1 : W.frozen? ⟨g, 1, none⟩ = false
  f2 : W.frozen? ⟨g, 2, none⟩ = false
  f3 : W.frozen? ⟨g, 3, none⟩ = false
theorem BoxR.lt {W : World} {g : Nat} {r : Rect} (h : BoxR W g r) : g < W.heap.size := by simpa using block_lt_of_cell h.c0
theorem BoxR.keep {W W' : World} {g : Nat} {r : Rect} (h : BoxR W g r) (hb : Below W.heap.size W W') : BoxR W' g r := by
  have hl := h.lt
  have hf := fun o => hb.frozen (p := ⟨g, o, none⟩) hl
  exact ⟨cell_keep hb h.c0, cell_keep hb h.c1, cell_keep hb h.c2, cell_keep hb h.c3, by rw [hf]; exact h.f0, by rw [hf]; exact h.f1, by rw [hf]; exact h.f2, by rw [hf]; exact h.f3⟩
theorem BoxR.drew {W : World} {g : Nat} {r : Rect} (h : BoxR W g r) : BoxR W.drew g r := ⟨h.c0, h.c1, h.c2, h.c3, h.f0, h.f1, h.f2, h.f3⟩
theorem BoxR.set {W : World} {g : Nat} {r : Rect} {a : Addr} {u : Value} (h : BoxR W g r) (hne : a.block ≠ g) (ha : a.spot = none) : BoxR (W.setCell a u) g r := by
  have hn : ∀ o, a ≠ (⟨g, o, none⟩ : Addr) := fun o e => hne (by rw [e])
  exact ⟨by rw [cell_set_ne (hn _) ha rfl]; exact h.c0, by rw [cell_set_ne (hn _) ha rfl]; exact h.c1, by rw [cell_set_ne (hn _) ha rfl]; exact h.c2, by rw [cell_set_ne (hn _) ha rfl]; exact h.c3, by rw [frozen_set]; exact h.f0, by rw [frozen_set]; exact h.f1, by rw [frozen_set]; exact h.f2, by rw [frozen_set]; exact h.f3⟩

theorem gen_any {G : World → Prop} {w : World} (R : World → Prop) (h : R w) (k : ∀ W, R W → G W) : G w := k w h

set_option maxRecDepth 100000 in
set_option maxHeartbeats 4000000 in
theorem parted_is (r low high : Rect) (across : Bool) (a kerf : Int) (w : World) (hl : lowR r across a = low) (hh : highR r across a kerf = high)
    (h1 : 0 ≤ r.x1 ∧ r.x1 ≤ 600000 ∧ 0 ≤ r.y1 ∧ r.y1 ≤ 600000) (h2 : 0 ≤ a ∧ a ≤ 600000) (h3 : 0 ≤ kerf ∧ kerf ≤ 10000) :
    Calls Tryz.prog 133 #[.agg #[.int .i64 r.x1, .int .i64 r.y1, .int .i64 r.x2, .int .i64 r.y2], .bool across, .int .i64 a, .int .i64 kerf] w fun e w' => (∃ n, e = .returned (.tuple #[.agg #[.int .i64 low.x1, .int .i64 low.y1, .int .i64 low.x2, .int .i64 low.y2], .agg #[.int .i64 high.x1, .int .i64 high.y1, .int .i64 high.x2, .int .i64 high.y2], .int .i64 n])) ∧ Below w.heap.size w w' := by
  have kx0 : ∀ x : KW (fun W => BoxR W w.heap.size r), x.w.cell? ⟨w.heap.size, 0, none⟩ = some (.int .i64 r.x1) := fun x => x.ok.c0
  have kx1 : ∀ x : KW (fun W => BoxR W w.heap.size r), x.w.cell? ⟨w.heap.size, 1, none⟩ = some (.int .i64 r.y1) := fun x => x.ok.c1
  have kx2 : ∀ x : KW (fun W => BoxR W w.heap.size r), x.w.cell? ⟨w.heap.size, 2, none⟩ = some (.int .i64 r.x2) := fun x => x.ok.c2
  have kx3 : ∀ x : KW (fun W => BoxR W w.heap.size r), x.w.cell? ⟨w.heap.size, 3, none⟩ = some (.int .i64 r.y2) := fun x => x.ok.c3
  go_enter Tryz.func133, Tryz.ntmps133
  cases across
  · have v1 : IntKind.i64.wrap (r.y1 + a) = r.y1 + a := IntWalk.i64_in _ (by omega)
    have v2 : IntKind.i64.wrap (r.y1 + a + kerf) = r.y1 + a + kerf := IntWalk.i64_in _ (by omega)
    have HL := Lib.hid (show low = ⟨r.x1, r.y1, r.x2, r.y1 + a⟩ by rw [← hl]; rfl)
    have HH := Lib.hid (show wholeR ⟨r.x1, r.y1 + a + kerf, r.x2, r.y2⟩ = high by rw [← hh]; rfl)
    clear h1 h2 h3 hl hh
    go_wp2_with fail
    refine gen_world (fun W => BoxR W w.heap.size r ∧ BoxR W (w.heap.size + 1) ⟨0, 0, 0, 0⟩ ∧ BoxR W (w.heap.size + 2) ⟨0, 0, 0, 0⟩ ∧ Below w.heap.size w W ∧ w.heap.size + 2 < W.heap.size) ?_ ?_
    · refine ⟨?_, ?_, ?_, ?_, by simp⟩
      · exact ⟨by simp [go_sem, *], by simp [go_sem, *], by simp [go_sem, *], by simp [go_sem, *], by simp [go_sem, *], by simp [go_sem, *], by simp [go_sem, *], by simp [go_sem, *]⟩
      · exact ⟨by simp [go_sem, *], by simp [go_sem, *], by simp [go_sem, *], by simp [go_sem, *], by simp [go_sem, *], by simp [go_sem, *], by simp [go_sem, *], by simp [go_sem, *]⟩
      · exact ⟨by simp [go_sem, *], by simp [go_sem, *], by simp [go_sem, *], by simp [go_sem, *], by simp [go_sem, *], by simp [go_sem, *], by simp [go_sem, *], by simp [go_sem, *]⟩
      · exact ((((Below.refl _ _).alloc (Nat.le_refl _) _).alloc (by simp) _).alloc (by simp; omega) _)
    rintro W ⟨b0, b1, b2, hbW, hz⟩
    haveI hne : Nonempty (KW (fun W => BoxR W w.heap.size r)) := ⟨⟨_, b0⟩⟩
    refine wp_region_tree (fun w' => ∃ x : KW (fun W => BoxR W w.heap.size r), w' = x.w) 3 (.take 0 (.take 1 (.one 2 .done))) (by kernel_rfl) (by kernel_rfl) (KW.mk' b0.drew) ?_
    repeat (refine wpTree_take ?_; simp only [nthOp]; (first | go_big_quiet_step (fail) | quiet_step (fail)); refine wpQuiet_nil ?_)
    refine wpTree_one ?_
    simp only [nthOp]
    have b0' := Lib.hid b0
    obtain ⟨c0, c1, c2, c3, f0, f1, f2, f3⟩ := b0
    obtain ⟨d0, d1, d2, d3, g0, g1, g2, g3⟩ := b1
    obtain ⟨e0, e1, e2, e3, h0, h1', h2', h3'⟩ := b2
    go_wp2_with fail
    refine One_mk (KW.mk' (by repeat (first | (with_reducible exact b0'.out) | (with_reducible refine BoxR.drew ?_) | (with_reducible refine BoxR.set ?_ (by first | (simp; done) | (simp; omega)) rfl)))) (wpTree_done ?_)
    simp only [List.drop_succ_cons, List.drop_zero]
    go_wp2_with fail
    refine NP_mk ?_
    go_wp2_with fail
    refine gen_world (fun W => BoxR W w.heap.size r ∧ BoxR W (w.heap.size + 1) r ∧ BoxR W (w.heap.size + 2) r ∧ Below w.heap.size w W ∧ w.heap.size + 2 < W.heap.size) ?_ ?_
    · refine ⟨(by repeat (first | (with_reducible exact b0'.out) | (with_reducible refine BoxR.drew ?_) | (with_reducible refine BoxR.set ?_ (by first | (simp; done) | (simp; omega)) rfl))), ?_, ?_, (by repeat (first | (with_reducible exact hbW) | (with_reducible refine Below.drew ?_) | (with_reducible refine Below.setCell ?_ (by first | (simp; done) | (simp; omega)) _))), by simpa using hz⟩
      · exact ⟨by simp [go_sem, *], by simp [go_sem, *], by simp [go_sem, *], by simp [go_sem, *], by simp [go_sem, *], by simp [go_sem, *], by simp [go_sem, *], by simp [go_sem, *]⟩
      · exact ⟨by simp [go_sem, *], by simp [go_sem, *], by simp [go_sem, *], by simp [go_sem, *], by simp [go_sem, *], by simp [go_sem, *], by simp [go_sem, *], by simp [go_sem, *]⟩
    clear b0' c0 c1 c2 c3 d0 d1 d2 d3 e0 e1 e2 e3 f0 f1 f2 f3 g0 g1 g2 g3 h0 h1' h2' h3' hbW hz
    rintro W2 ⟨b0, b1, b2, hbW, hz⟩
    refine wp_region_tree (fun w' => ∃ x : KW (fun W => BoxR W w.heap.size r), w' = x.w) 12 (.take 0 (.take 1 (.take 2 (.take 3 (.take 4 (.take 5 (.take 6 (.take 7 (.take 8 (.take 9 (.take 10 (.one 11 .done)))))))))))) (by kernel_rfl) (by kernel_rfl) (KW.mk' b0.drew) ?_
    repeat (refine wpTree_take ?_; simp only [nthOp]; (first | go_big_quiet_step (fail) | quiet_step (fail)); refine wpQuiet_nil ?_)
    refine wpTree_one ?_
    simp only [nthOp]
    have b0' := Lib.hid b0
    obtain ⟨c0, c1, c2, c3, f0, f1, f2, f3⟩ := b0
    obtain ⟨d0, d1, d2, d3, g0, g1, g2, g3⟩ := b1
    obtain ⟨e0, e1, e2, e3, h0, h1', h2', h3'⟩ := b2
    go_wp2_with fail
    refine One_mk (KW.mk' (by repeat (first | (with_reducible exact b0'.out) | (with_reducible refine BoxR.drew ?_) | (with_reducible refine BoxR.set ?_ (by first | (simp; done) | (simp; omega)) rfl)))) (wpTree_done ?_)
    simp only [List.drop_succ_cons, List.drop_zero]
    go_wp2_with fail
    refine NP_mk ?_
    go_upto_region 5 with fail
    refine gen_world (fun W => BoxR W w.heap.size r ∧ BoxR W (w.heap.size + 1) low ∧ BoxR W (w.heap.size + 2) ⟨r.x1, r.y1 + a + kerf, r.x2, r.y2⟩ ∧ Below w.heap.size w W ∧ w.heap.size + 2 < W.heap.size) ?_ ?_
    · rw [HL.out]
      refine ⟨(by repeat (first | (with_reducible exact b0'.out) | (with_reducible refine BoxR.drew ?_) | (with_reducible refine BoxR.set ?_ (by first | (simp; done) | (simp; omega)) rfl))), ?_, ?_, (by repeat (first | (with_reducible exact hbW) | (with_reducible refine Below.drew ?_) | (with_reducible refine Below.setCell ?_ (by first | (simp; done) | (simp; omega)) _))), by simpa using hz⟩
      · exact ⟨by simp [go_sem, *], by simp [go_sem, *], by simp [go_sem, *], by simp [go_sem, *], by simp [go_sem, *], by simp [go_sem, *], by simp [go_sem, *], by simp [go_sem, *]⟩
      · exact ⟨by simp [go_sem, *], by simp [go_sem, *], by simp [go_sem, *], by simp [go_sem, *], by simp [go_sem, *], by simp [go_sem, *], by simp [go_sem, *], by simp [go_sem, *]⟩
    clear b0' c0 c1 c2 c3 d0 d1 d2 d3 e0 e1 e2 e3 f0 f1 f2 f3 g0 g1 g2 g3 h0 h1' h2' h3' hbW hz
    rintro W3 ⟨b0, b1, b2, hbW, hz⟩
    have b2' := Lib.hid b2
    obtain ⟨e0, e1, e2, e3, h0, h1', h2', h3'⟩ := b2
    go_wp2_with (go_at_call 121; refine (whole_is ⟨_, _, _, _⟩ high _ HH.out).mono ?_; rintro e w4 ⟨rfl, hb4⟩; have b20 := Lib.hid (b2'.out.keep hb4); obtain ⟨e0', e1', e2', e3', h0'', h1'', h2'', h3''⟩ := b20.out)
    refine gen_world (fun W => BoxR W w.heap.size r ∧ BoxR W (w.heap.size + 1) low ∧ BoxR W (w.heap.size + 2) high ∧ Below w.heap.size w W ∧ w.heap.size + 2 < W.heap.size) ?_ ?_
    · have hz4 := hb4.size
      refine ⟨?_, ?_, ?_, ?_, by simp; omega⟩
      · repeat (first | (with_reducible exact b0.keep hb4) | (with_reducible refine BoxR.drew ?_) | (with_reducible refine BoxR.set ?_ (by first | (simp; done) | (simp; omega)) rfl))
      · repeat (first | (with_reducible exact b1.keep hb4) | (with_reducible refine BoxR.drew ?_) | (with_reducible refine BoxR.set ?_ (by first | (simp; done) | (simp; omega)) rfl))
      · exact ⟨by simp [go_sem, *], by simp [go_sem, *], by simp [go_sem, *], by simp [go_sem, *], by simp [go_sem, *], by simp [go_sem, *], by simp [go_sem, *], by simp [go_sem, *]⟩
      · repeat (first | (with_reducible exact hbW.trans (hb4.mono (by omega))) | (with_reducible refine Below.setCell ?_ (by first | (simp; done) | (simp; omega)) _))
    clear b2' e0 e1 e2 e3 h0 h1' h2' h3' b0 b1 hbW hz b20 e0' e1' e2' e3' h0'' h1'' h2'' h3'' hb4
    rintro W5 ⟨b0, b1, b2, hbW, hz⟩
    haveI hne : Nonempty (KW (fun W => BoxR W w.heap.size r ∧ BoxR W (w.heap.size + 1) low ∧ BoxR W (w.heap.size + 2) high)) := ⟨⟨_, b0, b1, b2⟩⟩
    have ky0 : ∀ x : KW (fun W => BoxR W w.heap.size r ∧ BoxR W (w.heap.size + 1) low ∧ BoxR W (w.heap.size + 2) high), x.w.cell? ⟨w.heap.size, 0, none⟩ = some (.int .i64 r.x1) ∧ x.w.cell? ⟨w.heap.size, 1, none⟩ = some (.int .i64 r.y1) ∧ x.w.cell? ⟨w.heap.size, 2, none⟩ = some (.int .i64 r.x2) ∧ x.w.cell? ⟨w.heap.size, 3, none⟩ = some (.int .i64 r.y2) := fun x => ⟨x.ok.1.c0, x.ok.1.c1, x.ok.1.c2, x.ok.1.c3⟩
    have ky1 : ∀ x : KW (fun W => BoxR W w.heap.size r ∧ BoxR W (w.heap.size + 1) low ∧ BoxR W (w.heap.size + 2) high), x.w.cell? ⟨w.heap.size + 1, 0, none⟩ = some (.int .i64 low.x1) ∧ x.w.cell? ⟨w.heap.size + 1, 1, none⟩ = some (.int .i64 low.y1) ∧ x.w.cell? ⟨w.heap.size + 1, 2, none⟩ = some (.int .i64 low.x2) ∧ x.w.cell? ⟨w.heap.size + 1, 3, none⟩ = some (.int .i64 low.y2) := fun x => ⟨x.ok.2.1.c0, x.ok.2.1.c1, x.ok.2.1.c2, x.ok.2.1.c3⟩
    have ky2 : ∀ x : KW (fun W => BoxR W w.heap.size r ∧ BoxR W (w.heap.size + 1) low ∧ BoxR W (w.heap.size + 2) high), x.w.cell? ⟨w.heap.size + 2, 0, none⟩ = some (.int .i64 high.x1) ∧ x.w.cell? ⟨w.heap.size + 2, 1, none⟩ = some (.int .i64 high.y1) ∧ x.w.cell? ⟨w.heap.size + 2, 2, none⟩ = some (.int .i64 high.x2) ∧ x.w.cell? ⟨w.heap.size + 2, 3, none⟩ = some (.int .i64 high.y2) := fun x => ⟨x.ok.2.2.c0, x.ok.2.2.c1, x.ok.2.2.c2, x.ok.2.2.c3⟩
    refine wp_region_tree (fun w' => ∃ x : KW (fun W => BoxR W w.heap.size r ∧ BoxR W (w.heap.size + 1) low ∧ BoxR W (w.heap.size + 2) high), w' = x.w) 12 (.take 0 (.take 1 (.take 2 (.take 4 (.take 7 (.one 3 (.one 5 (.take 6 (.one 8 (.take 9 (.one 10 (.one 11 .done)))))))))))) (by kernel_rfl) (by kernel_rfl) (KW.mk' ⟨b0.drew, b1.drew, b2.drew⟩) ?_
    repeat (refine wpTree_take ?_; simp only [nthOp]; (first | go_big_quiet_step (fail) | quiet_step (fail)); refine wpQuiet_nil ?_)
    have q0 := b0.drew
    have q1 := b1.drew
    have q2 := b2.drew
    have qb : Below w.heap.size w W5.drew := hbW.drew
    have qz : w.heap.size + 2 < W5.drew.heap.size := by simpa using hz
    generalize W5.drew = W6 at *
    clear b0 b1 b2 hbW hz
    refine wpTree_one ?_
    simp only [nthOp]
    go_wp2_with (go_at_call 104; refine (area_any r _).mono ?_; rintro e w7 ⟨⟨n1, rfl⟩, hb7⟩)
    refine One_mk (KW.mk' ⟨q0.keep hb7, q1.keep hb7, q2.keep hb7⟩) ?_
    refine wpTree_one ?_
    simp only [nthOp]
    go_wp2_with (go_at_call 104; refine (area_any low _).mono ?_; rintro e w8 ⟨⟨n2, rfl⟩, hb8⟩)
    refine One_mk (KW.mk' ⟨(q0.keep hb7).keep hb8, (q1.keep hb7).keep hb8, (q2.keep hb7).keep hb8⟩) ?_
    repeat (refine wpTree_take ?_; simp only [nthOp]; (first | go_big_quiet_step (fail) | quiet_step (fail)); refine wpQuiet_nil ?_)
    refine wpTree_one ?_
    simp only [nthOp]
    go_wp2_with (go_at_call 104; refine (area_any high _).mono ?_; rintro e w9 ⟨⟨n3, rfl⟩, hb9⟩)
    have p0 := Lib.hid (((q0.keep hb7).keep hb8).keep hb9)
    have p1 := Lib.hid (((q1.keep hb7).keep hb8).keep hb9)
    have p2 := Lib.hid (((q2.keep hb7).keep hb8).keep hb9)
    have z7 := hb7.size
    have z8 := hb8.size
    have z9 := hb9.size
    have pb := Lib.hid (((qb.trans (hb7.mono (by omega))).trans (hb8.mono (by omega))).trans (hb9.mono (by omega)))
    clear q0 q1 q2 qb hb7 hb8 hb9
    refine One_mk (KW.mk' ⟨p0.out, p1.out, p2.out⟩) ?_
    repeat (refine wpTree_take ?_; simp only [nthOp]; (first | go_big_quiet_step (fail) | quiet_step (fail)); refine wpQuiet_nil ?_)
    obtain ⟨d0, d1, d2, d3, g0, g1, g2, g3⟩ := p1.out
    obtain ⟨e0, e1, e2, e3, h0, h1', h2', h3'⟩ := p2.out
    refine wpTree_one ?_
    simp only [nthOp]
    go_wp2_with fail
    refine One_mk (KW.mk' ⟨?_, ?_, ?_⟩) ?_
    · (repeat (first | (with_reducible exact p0.out) | (with_reducible refine BoxR.drew ?_) | (with_reducible refine BoxR.set ?_ (by first | (simp; done) | (simp; omega)) rfl)))
    · exact ⟨by simp [go_sem, *], by simp [go_sem, *], by simp [go_sem, *], by simp [go_sem, *], by simp [go_sem, *], by simp [go_sem, *], by simp [go_sem, *], by simp [go_sem, *]⟩
    · (repeat (first | (with_reducible exact p2.out) | (with_reducible refine BoxR.drew ?_) | (with_reducible refine BoxR.set ?_ (by first | (simp; done) | (simp; omega)) rfl)))
    refine wpTree_one ?_
    simp only [nthOp]
    go_wp2_with fail
    refine One_mk (KW.mk' ⟨?_, ?_, ?_⟩) (wpTree_done ?_)
    · (repeat (first | (with_reducible exact p0.out) | (with_reducible refine BoxR.drew ?_) | (with_reducible refine BoxR.set ?_ (by first | (simp; done) | (simp; omega)) rfl)))
    · exact ⟨by simp [go_sem, *], by simp [go_sem, *], by simp [go_sem, *], by simp [go_sem, *], by simp [go_sem, *], by simp [go_sem, *], by simp [go_sem, *], by simp [go_sem, *]⟩
    · exact ⟨by simp [go_sem, *], by simp [go_sem, *], by simp [go_sem, *], by simp [go_sem, *], by simp [go_sem, *], by simp [go_sem, *], by simp [go_sem, *], by simp [go_sem, *]⟩
    simp only [List.drop_succ_cons, List.drop_zero]
    go_wp2_with fail
    refine NP_mk ?_
    go_wp2_with fail
    refine gen_any (G := fun W => bodyPost _ _ _ _ _ W) (fun W => BoxR W (w.heap.size + 1) low ∧ BoxR W (w.heap.size + 2) high ∧ Below w.heap.size w W) ?_ ?_
    · refine ⟨?_, ?_, ?_⟩
      · exact ⟨by simp [go_sem, *], by simp [go_sem, *], by simp [go_sem, *], by simp [go_sem, *], by simp [go_sem, *], by simp [go_sem, *], by simp [go_sem, *], by simp [go_sem, *]⟩
      · exact ⟨by simp [go_sem, *], by simp [go_sem, *], by simp [go_sem, *], by simp [go_sem, *], by simp [go_sem, *], by simp [go_sem, *], by simp [go_sem, *], by simp [go_sem, *]⟩
      · (repeat (first | (with_reducible exact pb.out) | (with_reducible refine Below.setCell ?_ (by first | (simp; done) | (simp; omega)) _)))
    rintro W9 ⟨⟨d0', d1', d2', d3', -, -, -, -⟩, ⟨e0', e1', e2', e3', -, -, -, -⟩, hb⟩
    exact bodyPost_ret (v := .tuple #[.agg #[.int .i64 low.x1, .int .i64 low.y1, .int .i64 low.x2, .int .i64 low.y2], .agg #[.int .i64 high.x1, .int .i64 high.y1, .int .i64 high.x2, .int .i64 high.y2], _]) (by simp [results, Tryz.results133, go_sem, d0', d1', d2', d3', e0', e1', e2', e3']; rfl) rfl ⟨⟨_, rfl⟩, hb⟩
  · have v1 : IntKind.i64.wrap (r.x1 + a) = r.x1 + a := IntWalk.i64_in _ (by omega)
    have v2 : IntKind.i64.wrap (r.x1 + a + kerf) = r.x1 + a + kerf := IntWalk.i64_in _ (by omega)
    have HL := Lib.hid (show low = ⟨r.x1, r.y1, r.x1 + a, r.y2⟩ by rw [← hl]; rfl)
    have HH := Lib.hid (show wholeR ⟨r.x1 + a + kerf, r.y1, r.x2, r.y2⟩ = high by rw [← hh]; rfl)
    clear h1 h2 h3 hl hh
    go_wp2_with fail
    refine gen_world (fun W => BoxR W w.heap.size r ∧ BoxR W (w.heap.size + 1) ⟨0, 0, 0, 0⟩ ∧ BoxR W (w.heap.size + 2) ⟨0, 0, 0, 0⟩ ∧ Below w.heap.size w W ∧ w.heap.size + 2 < W.heap.size) ?_ ?_
    · refine ⟨?_, ?_, ?_, ?_, by simp⟩
      · exact ⟨by simp [go_sem, *], by simp [go_sem, *], by simp [go_sem, *], by simp [go_sem, *], by simp [go_sem, *], by simp [go_sem, *], by simp [go_sem, *], by simp [go_sem, *]⟩
      · exact ⟨by simp [go_sem, *], by simp [go_sem, *], by simp [go_sem, *], by simp [go_sem, *], by simp [go_sem, *], by simp [go_sem, *], by simp [go_sem, *], by simp [go_sem, *]⟩
      · exact ⟨by simp [go_sem, *], by simp [go_sem, *], by simp [go_sem, *], by simp [go_sem, *], by simp [go_sem, *], by simp [go_sem, *], by simp [go_sem, *], by simp [go_sem, *]⟩
      · exact ((((Below.refl _ _).alloc (Nat.le_refl _) _).alloc (by simp) _).alloc (by simp; omega) _)
    rintro W ⟨b0, b1, b2, hbW, hz⟩
    haveI hne : Nonempty (KW (fun W => BoxR W w.heap.size r)) := ⟨⟨_, b0⟩⟩
    refine wp_region_tree (fun w' => ∃ x : KW (fun W => BoxR W w.heap.size r), w' = x.w) 3 (.take 0 (.take 1 (.one 2 .done))) (by kernel_rfl) (by kernel_rfl) (KW.mk' b0.drew) ?_
    repeat (refine wpTree_take ?_; simp only [nthOp]; (first | go_big_quiet_step (fail) | quiet_step (fail)); refine wpQuiet_nil ?_)
    refine wpTree_one ?_
    simp only [nthOp]
    have b0' := Lib.hid b0
    obtain ⟨c0, c1, c2, c3, f0, f1, f2, f3⟩ := b0
    obtain ⟨d0, d1, d2, d3, g0, g1, g2, g3⟩ := b1
    obtain ⟨e0, e1, e2, e3, h0, h1', h2', h3'⟩ := b2
    go_wp2_with fail
    refine One_mk (KW.mk' (by repeat (first | (with_reducible exact b0'.out) | (with_reducible refine BoxR.drew ?_) | (with_reducible refine BoxR.set ?_ (by first | (simp; done) | (simp; omega)) rfl)))) (wpTree_done ?_)
    simp only [List.drop_succ_cons, List.drop_zero]
    go_wp2_with fail
    refine NP_mk ?_
    go_wp2_with fail
    refine gen_world (fun W => BoxR W w.heap.size r ∧ BoxR W (w.heap.size + 1) r ∧ BoxR W (w.heap.size + 2) r ∧ Below w.heap.size w W ∧ w.heap.size + 2 < W.heap.size) ?_ ?_
    · refine ⟨(by repeat (first | (with_reducible exact b0'.out) | (with_reducible refine BoxR.drew ?_) | (with_reducible refine BoxR.set ?_ (by first | (simp; done) | (simp; omega)) rfl))), ?_, ?_, (by repeat (first | (with_reducible exact hbW) | (with_reducible refine Below.drew ?_) | (with_reducible refine Below.setCell ?_ (by first | (simp; done) | (simp; omega)) _))), by simpa using hz⟩
      · exact ⟨by simp [go_sem, *], by simp [go_sem, *], by simp [go_sem, *], by simp [go_sem, *], by simp [go_sem, *], by simp [go_sem, *], by simp [go_sem, *], by simp [go_sem, *]⟩
      · exact ⟨by simp [go_sem, *], by simp [go_sem, *], by simp [go_sem, *], by simp [go_sem, *], by simp [go_sem, *], by simp [go_sem, *], by simp [go_sem, *], by simp [go_sem, *]⟩
    clear b0' c0 c1 c2 c3 d0 d1 d2 d3 e0 e1 e2 e3 f0 f1 f2 f3 g0 g1 g2 g3 h0 h1' h2' h3' hbW hz
    rintro W2 ⟨b0, b1, b2, hbW, hz⟩
    refine wp_region_tree (fun w' => ∃ x : KW (fun W => BoxR W w.heap.size r), w' = x.w) 12 (.take 0 (.take 1 (.take 2 (.take 3 (.take 4 (.take 5 (.take 6 (.take 7 (.take 8 (.take 9 (.take 10 (.one 11 .done)))))))))))) (by kernel_rfl) (by kernel_rfl) (KW.mk' b0.drew) ?_
    repeat (refine wpTree_take ?_; simp only [nthOp]; (first | go_big_quiet_step (fail) | quiet_step (fail)); refine wpQuiet_nil ?_)
    refine wpTree_one ?_
    simp only [nthOp]
    have b0' := Lib.hid b0
    obtain ⟨c0, c1, c2, c3, f0, f1, f2, f3⟩ := b0
    obtain ⟨d0, d1, d2, d3, g0, g1, g2, g3⟩ := b1
    obtain ⟨e0, e1, e2, e3, h0, h1', h2', h3'⟩ := b2
    go_wp2_with fail
    refine One_mk (KW.mk' (by repeat (first | (with_reducible exact b0'.out) | (with_reducible refine BoxR.drew ?_) | (with_reducible refine BoxR.set ?_ (by first | (simp; done) | (simp; omega)) rfl)))) (wpTree_done ?_)
    simp only [List.drop_succ_cons, List.drop_zero]
    go_wp2_with fail
    refine NP_mk ?_
    go_upto_region 5 with fail
    refine gen_world (fun W => BoxR W w.heap.size r ∧ BoxR W (w.heap.size + 1) low ∧ BoxR W (w.heap.size + 2) ⟨r.x1 + a + kerf, r.y1, r.x2, r.y2⟩ ∧ Below w.heap.size w W ∧ w.heap.size + 2 < W.heap.size) ?_ ?_
    · rw [HL.out]
      refine ⟨(by repeat (first | (with_reducible exact b0'.out) | (with_reducible refine BoxR.drew ?_) | (with_reducible refine BoxR.set ?_ (by first | (simp; done) | (simp; omega)) rfl))), ?_, ?_, (by repeat (first | (with_reducible exact hbW) | (with_reducible refine Below.drew ?_) | (with_reducible refine Below.setCell ?_ (by first | (simp; done) | (simp; omega)) _))), by simpa using hz⟩
      · exact ⟨by simp [go_sem, *], by simp [go_sem, *], by simp [go_sem, *], by simp [go_sem, *], by simp [go_sem, *], by simp [go_sem, *], by simp [go_sem, *], by simp [go_sem, *]⟩
      · exact ⟨by simp [go_sem, *], by simp [go_sem, *], by simp [go_sem, *], by simp [go_sem, *], by simp [go_sem, *], by simp [go_sem, *], by simp [go_sem, *], by simp [go_sem, *]⟩
    clear b0' c0 c1 c2 c3 d0 d1 d2 d3 e0 e1 e2 e3 f0 f1 f2 f3 g0 g1 g2 g3 h0 h1' h2' h3' hbW hz
    rintro W3 ⟨b0, b1, b2, hbW, hz⟩
    have b2' := Lib.hid b2
    obtain ⟨e0, e1, e2, e3, h0, h1', h2', h3'⟩ := b2
    go_wp2_with (go_at_call 121; refine (whole_is ⟨_, _, _, _⟩ high _ HH.out).mono ?_; rintro e w4 ⟨rfl, hb4⟩; have b20 := Lib.hid (b2'.out.keep hb4); obtain ⟨e0', e1', e2', e3', h0'', h1'', h2'', h3''⟩ := b20.out)
    refine gen_world (fun W => BoxR W w.heap.size r ∧ BoxR W (w.heap.size + 1) low ∧ BoxR W (w.heap.size + 2) high ∧ Below w.heap.size w W ∧ w.heap.size + 2 < W.heap.size) ?_ ?_
    · have hz4 := hb4.size
      refine ⟨?_, ?_, ?_, ?_, by simp; omega⟩
      · repeat (first | (with_reducible exact b0.keep hb4) | (with_reducible refine BoxR.drew ?_) | (with_reducible refine BoxR.set ?_ (by first | (simp; done) | (simp; omega)) rfl))
      · repeat (first | (with_reducible exact b1.keep hb4) | (with_reducible refine BoxR.drew ?_) | (with_reducible refine BoxR.set ?_ (by first | (simp; done) | (simp; omega)) rfl))
      · exact ⟨by simp [go_sem, *], by simp [go_sem, *], by simp [go_sem, *], by simp [go_sem, *], by simp [go_sem, *], by simp [go_sem, *], by simp [go_sem, *], by simp [go_sem, *]⟩
      · repeat (first | (with_reducible exact hbW.trans (hb4.mono (by omega))) | (with_reducible refine Below.setCell ?_ (by first | (simp; done) | (simp; omega)) _))
    clear b2' e0 e1 e2 e3 h0 h1' h2' h3' b0 b1 hbW hz b20 e0' e1' e2' e3' h0'' h1'' h2'' h3'' hb4
    rintro W5 ⟨b0, b1, b2, hbW, hz⟩
    haveI hne : Nonempty (KW (fun W => BoxR W w.heap.size r ∧ BoxR W (w.heap.size + 1) low ∧ BoxR W (w.heap.size + 2) high)) := ⟨⟨_, b0, b1, b2⟩⟩
    have ky0 : ∀ x : KW (fun W => BoxR W w.heap.size r ∧ BoxR W (w.heap.size + 1) low ∧ BoxR W (w.heap.size + 2) high), x.w.cell? ⟨w.heap.size, 0, none⟩ = some (.int .i64 r.x1) ∧ x.w.cell? ⟨w.heap.size, 1, none⟩ = some (.int .i64 r.y1) ∧ x.w.cell? ⟨w.heap.size, 2, none⟩ = some (.int .i64 r.x2) ∧ x.w.cell? ⟨w.heap.size, 3, none⟩ = some (.int .i64 r.y2) := fun x => ⟨x.ok.1.c0, x.ok.1.c1, x.ok.1.c2, x.ok.1.c3⟩
    have ky1 : ∀ x : KW (fun W => BoxR W w.heap.size r ∧ BoxR W (w.heap.size + 1) low ∧ BoxR W (w.heap.size + 2) high), x.w.cell? ⟨w.heap.size + 1, 0, none⟩ = some (.int .i64 low.x1) ∧ x.w.cell? ⟨w.heap.size + 1, 1, none⟩ = some (.int .i64 low.y1) ∧ x.w.cell? ⟨w.heap.size + 1, 2, none⟩ = some (.int .i64 low.x2) ∧ x.w.cell? ⟨w.heap.size + 1, 3, none⟩ = some (.int .i64 low.y2) := fun x => ⟨x.ok.2.1.c0, x.ok.2.1.c1, x.ok.2.1.c2, x.ok.2.1.c3⟩
    have ky2 : ∀ x : KW (fun W => BoxR W w.heap.size r ∧ BoxR W (w.heap.size + 1) low ∧ BoxR W (w.heap.size + 2) high), x.w.cell? ⟨w.heap.size + 2, 0, none⟩ = some (.int .i64 high.x1) ∧ x.w.cell? ⟨w.heap.size + 2, 1, none⟩ = some (.int .i64 high.y1) ∧ x.w.cell? ⟨w.heap.size + 2, 2, none⟩ = some (.int .i64 high.x2) ∧ x.w.cell? ⟨w.heap.size + 2, 3, none⟩ = some (.int .i64 high.y2) := fun x => ⟨x.ok.2.2.c0, x.ok.2.2.c1, x.ok.2.2.c2, x.ok.2.2.c3⟩
    refine wp_region_tree (fun w' => ∃ x : KW (fun W => BoxR W w.heap.size r ∧ BoxR W (w.heap.size + 1) low ∧ BoxR W (w.heap.size + 2) high), w' = x.w) 12 (.take 0 (.take 1 (.take 2 (.take 4 (.take 7 (.one 3 (.one 5 (.take 6 (.one 8 (.take 9 (.one 10 (.one 11 .done)))))))))))) (by kernel_rfl) (by kernel_rfl) (KW.mk' ⟨b0.drew, b1.drew, b2.drew⟩) ?_
    repeat (refine wpTree_take ?_; simp only [nthOp]; (first | go_big_quiet_step (fail) | quiet_step (fail)); refine wpQuiet_nil ?_)
    have q0 := b0.drew
    have q1 := b1.drew
    have q2 := b2.drew
    have qb : Below w.heap.size w W5.drew := hbW.drew
    have qz : w.heap.size + 2 < W5.drew.heap.size := by simpa using hz
    generalize W5.drew = W6 at *
    clear b0 b1 b2 hbW hz
    refine wpTree_one ?_
    simp only [nthOp]
    go_wp2_with (go_at_call 104; refine (area_any r _).mono ?_; rintro e w7 ⟨⟨n1, rfl⟩, hb7⟩)
    refine One_mk (KW.mk' ⟨q0.keep hb7, q1.keep hb7, q2.keep hb7⟩) ?_
    refine wpTree_one ?_
    simp only [nthOp]
    go_wp2_with (go_at_call 104; refine (area_any low _).mono ?_; rintro e w8 ⟨⟨n2, rfl⟩, hb8⟩)
    refine One_mk (KW.mk' ⟨(q0.keep hb7).keep hb8, (q1.keep hb7).keep hb8, (q2.keep hb7).keep hb8⟩) ?_
    repeat (refine wpTree_take ?_; simp only [nthOp]; (first | go_big_quiet_step (fail) | quiet_step (fail)); refine wpQuiet_nil ?_)
    refine wpTree_one ?_
    simp only [nthOp]
    go_wp2_with (go_at_call 104; refine (area_any high _).mono ?_; rintro e w9 ⟨⟨n3, rfl⟩, hb9⟩)
    have p0 := Lib.hid (((q0.keep hb7).keep hb8).keep hb9)
    have p1 := Lib.hid (((q1.keep hb7).keep hb8).keep hb9)
    have p2 := Lib.hid (((q2.keep hb7).keep hb8).keep hb9)
    have z7 := hb7.size
    have z8 := hb8.size
    have z9 := hb9.size
    have pb := Lib.hid (((qb.trans (hb7.mono (by omega))).trans (hb8.mono (by omega))).trans (hb9.mono (by omega)))
    clear q0 q1 q2 qb hb7 hb8 hb9
    refine One_mk (KW.mk' ⟨p0.out, p1.out, p2.out⟩) ?_
    repeat (refine wpTree_take ?_; simp only [nthOp]; (first | go_big_quiet_step (fail) | quiet_step (fail)); refine wpQuiet_nil ?_)
    obtain ⟨d0, d1, d2, d3, g0, g1, g2, g3⟩ := p1.out
    obtain ⟨e0, e1, e2, e3, h0, h1', h2', h3'⟩ := p2.out
    refine wpTree_one ?_
    simp only [nthOp]
    go_wp2_with fail
    refine One_mk (KW.mk' ⟨?_, ?_, ?_⟩) ?_
    · (repeat (first | (with_reducible exact p0.out) | (with_reducible refine BoxR.drew ?_) | (with_reducible refine BoxR.set ?_ (by first | (simp; done) | (simp; omega)) rfl)))
    · exact ⟨by simp [go_sem, *], by simp [go_sem, *], by simp [go_sem, *], by simp [go_sem, *], by simp [go_sem, *], by simp [go_sem, *], by simp [go_sem, *], by simp [go_sem, *]⟩
    · (repeat (first | (with_reducible exact p2.out) | (with_reducible refine BoxR.drew ?_) | (with_reducible refine BoxR.set ?_ (by first | (simp; done) | (simp; omega)) rfl)))
    refine wpTree_one ?_
    simp only [nthOp]
    go_wp2_with fail
    refine One_mk (KW.mk' ⟨?_, ?_, ?_⟩) (wpTree_done ?_)
    · (repeat (first | (with_reducible exact p0.out) | (with_reducible refine BoxR.drew ?_) | (with_reducible refine BoxR.set ?_ (by first | (simp; done) | (simp; omega)) rfl)))
    · exact ⟨by simp [go_sem, *], by simp [go_sem, *], by simp [go_sem, *], by simp [go_sem, *], by simp [go_sem, *], by simp [go_sem, *], by simp [go_sem, *], by simp [go_sem, *]⟩
    · exact ⟨by simp [go_sem, *], by simp [go_sem, *], by simp [go_sem, *], by simp [go_sem, *], by simp [go_sem, *], by simp [go_sem, *], by simp [go_sem, *], by simp [go_sem, *]⟩
    simp only [List.drop_succ_cons, List.drop_zero]
    go_wp2_with fail
    refine NP_mk ?_
    go_wp2_with fail
    refine gen_any (G := fun W => bodyPost _ _ _ _ _ W) (fun W => BoxR W (w.heap.size + 1) low ∧ BoxR W (w.heap.size + 2) high ∧ Below w.heap.size w W) ?_ ?_
    · refine ⟨?_, ?_, ?_⟩
      · exact ⟨by simp [go_sem, *], by simp [go_sem, *], by simp [go_sem, *], by simp [go_sem, *], by simp [go_sem, *], by simp [go_sem, *], by simp [go_sem, *], by simp [go_sem, *]⟩
      · exact ⟨by simp [go_sem, *], by simp [go_sem, *], by simp [go_sem, *], by simp [go_sem, *], by simp [go_sem, *], by simp [go_sem, *], by simp [go_sem, *], by simp [go_sem, *]⟩
      · (repeat (first | (with_reducible exact pb.out) | (with_reducible refine Below.setCell ?_ (by first | (simp; done) | (simp; omega)) _)))
    rintro W9 ⟨⟨d0', d1', d2', d3', -, -, -, -⟩, ⟨e0', e1', e2', e3', -, -, -, -⟩, hb⟩
    exact bodyPost_ret (v := .tuple #[.agg #[.int .i64 low.x1, .int .i64 low.y1, .int .i64 low.x2, .int .i64 low.y2], .agg #[.int .i64 high.x1, .int .i64 high.y1, .int .i64 high.x2, .int .i64 high.y2], _]) (by simp [results, Tryz.results133, go_sem, d0', d1', d2', d3', e0', e1', e2', e3']; rfl) rfl ⟨⟨_, rfl⟩, hb⟩
end Go.Proofs.YtepiapgcpoifpaaGreat
