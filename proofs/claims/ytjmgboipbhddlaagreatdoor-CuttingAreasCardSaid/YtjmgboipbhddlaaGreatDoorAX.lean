import Derived.Test.YtjmgboipbhddlaaGreatDoorQU
set_option linter.unusedVariables false
set_option linter.unusedSimpArgs false
namespace Go.Proofs.YtjmgboipbhddlaaGreatDoor

def areaK (r : Rect) : Int := (r.x2 - r.x1) * (r.y2 - r.y1)
theorem areaK_bd {r : Rect} (h : okR r) : 0 ≤ areaK r ∧ areaK r ≤ 360000000000 := by
 rcases h with rfl | h
 ·exact ⟨by decide, by decide⟩
 ·unfold proper at h
  unfold areaK
  have h1 : 0 ≤ r.x2 - r.x1 ∧ r.x2 - r.x1 ≤ 600000 := by omega
  have h2 : 0 ≤ r.y2 - r.y1 ∧ r.y2 - r.y1 ≤ 600000 := by omega
  refine ⟨Int.mul_nonneg h1.1 h2.1, ?_⟩
  exact Int.le_trans (Int.mul_le_mul_of_nonneg_right h1.2 h2.1) (by omega)
structure Ars where
 pieces : Int
 waste : Int
 kerf : Int
 trim : Int
def Ars.total (a : Ars) : Int := a.pieces + a.waste + a.kerf + a.trim
def Ars.bd (a : Ars) (n : Int) : Prop := (-n ≤ a.pieces ∧ a.pieces ≤ n) ∧ (-n ≤ a.waste ∧ a.waste ≤ n) ∧ (-n ≤ a.kerf ∧ a.kerf ≤ n) ∧ (-n ≤ a.trim ∧ a.trim ≤ n)
def cutA (l : Layout) (R : List Rect) (k : Nat) : Int := areaK (rectF R k) - areaK (rectF R (lowN l.cuts k)) - areaK (rectF R (highN l.cuts k))
def arStep (l : Layout) (R : List Rect) (k : Nat) (a : Ars) : Ars :=
 if ¬ (cutF l.cuts k).low = 0 then { a with kerf := a.kerf + cutA l R k }
 else if 0 ≤ (cutF l.cuts k).blank then { a with pieces := a.pieces + areaK (rectF R k) }
 else { a with waste := a.waste + areaK (rectF R k) }
def arTo (l : Layout) (R : List Rect) (a : Ars) : Nat → Ars
 | 0 => a
 | k + 1 => arStep l R k (arTo l R a k)
def bdA (j : Job) (l : Layout) : Int := (j.stock.getD l.board.toNat default).length * (j.stock.getD l.board.toNat default).width
def arBegin (j : Job) (l : Layout) (R : List Rect) (a : Ars) : Ars := { a with trim := a.trim + (bdA j l - areaK (rectF R 0)) }
def arPlan (j : Job) (plan : List Layout) : Nat → Ars
 | 0 => ⟨0, 0, 0, 0⟩
 | k + 1 => arTo (plan.getD k default) (layOf j (plan.getD k default)).1 (arBegin j (plan.getD k default) (layOf j (plan.getD k default)).1 (arPlan j plan k)) (plan.getD k default).cuts.length
def areasM (j : Job) (plan : List Layout) : Ars := arPlan j plan plan.length
theorem arTo_total {l : Layout} {R : List Rect} {a : Ars} : ∀ k, (arTo l R a k).total = a.total + sumTo k fun j => if (cutF l.cuts j).low = 0 then areaK (rectF R j) else areaK (rectF R j) - areaK (rectF R (lowN l.cuts j)) - areaK (rectF R (highN l.cuts j))
 | 0 => by simp [arTo, sumTo]
 | k + 1 => by
  have ih := arTo_total (l := l) (R := R) (a := a) k
  rw [arTo, sumTo]
  unfold arStep
  by_cases h : (cutF l.cuts k).low = 0
  ·rw [if_neg (fun h' => h' h), if_pos h]
   split <;> (unfold Ars.total at ih ⊢; simp only; omega)
  ·rw [if_pos h, if_neg h]
   unfold Ars.total cutA at *
   simp only
   omega
theorem plan_total {j : Job} {plan : List Layout} (hok : PlanOk j plan) : ∀ k, k ≤ plan.length → (arPlan j plan k).total = sumTo k fun i => bdA j (plan.getD i default)
 | 0, _ => rfl
 | k + 1, h => by
  have ih := plan_total hok k (by omega)
  have hk : k < plan.length := h
  rw [arPlan, arTo_total, sumTo, ← ih]
  have hg : plan.getD k default = plan[k] := by rw [List.getD_eq_getElem?_getD, List.getElem?_eq_getElem hk]; rfl
  rw [hg]
  have h0 := (hok _ (List.getElem_mem hk)).2
  unfold layOf at h0 ⊢
  rw [reg_leaves h0 fun i => areaK (rectF (regM (usableR (j.stock.getD plan[k].board.toNat default) j.trim) j.trim.kerf plan[k].cuts).1 i)]
  unfold arBegin Ars.total
  simp only
  omega
theorem areas_total {j : Job} {plan : List Layout} (hok : PlanOk j plan) : (areasM j plan).total = sumTo plan.length fun i => bdA j (plan.getD i default) := plan_total hok _ (Nat.le_refl _)
theorem okR_zero : okR zeroR := .inl rfl
theorem okR_rectF {R : List Rect} (h : ∀ r ∈ R, okR r) (k : Nat) : okR (rectF R k) := by
 unfold rectF
 rw [List.getD_eq_getElem?_getD]
 by_cases hk : k < R.length
 ·rw [List.getElem?_eq_getElem hk]; exact h _ (List.getElem_mem hk)
 ·rw [List.getElem?_eq_none (by omega)]; exact okR_zero
theorem Ars.bd.mono {a : Ars} {n m : Int} (h : a.bd n) (hm : n ≤ m) : a.bd m := by unfold Ars.bd at *; omega
theorem arStep_bd {l : Layout} {R : List Rect} {k : Nat} {a : Ars} {n : Int} (hR : ∀ r ∈ R, okR r) (h : a.bd n) : (arStep l R k a).bd (n + 1000000000000) := by
 have h1 := areaK_bd (okR_rectF hR k)
 have h2 := areaK_bd (okR_rectF hR (lowN l.cuts k))
 have h3 := areaK_bd (okR_rectF hR (highN l.cuts k))
 unfold arStep cutA
 unfold Ars.bd at *
 split
 ·simp only; omega
 ·split <;> (simp only; omega)
theorem arTo_bd {l : Layout} {R : List Rect} {a : Ars} {n : Int} (hR : ∀ r ∈ R, okR r) (h : a.bd n) : ∀ k, (arTo l R a k).bd (n + 1000000000000 * k)
 | 0 => by simpa [arTo] using h
 | k + 1 => by
  have := arStep_bd (l := l) (k := k) (a := arTo l R a k) hR (arTo_bd (l := l) hR h k)
  rw [arTo]
  exact this.mono (by omega)
theorem bdA_bd {j : Job} (hJ : JobOk j.stock j.blanks j.trim) {l : Layout} (hb : 0 ≤ l.board ∧ l.board < j.stock.length) : 0 ≤ bdA j l ∧ bdA j l ≤ 60000000000 := by
 have hlt : l.board.toNat < j.stock.length := by omega
 unfold bdA
 rw [List.getD_eq_getElem?_getD, List.getElem?_eq_getElem hlt]
 simp only [Option.getD_some]
 have h := hJ.size _ (List.getElem_mem hlt)
 refine ⟨Int.mul_nonneg (by omega) (by omega), ?_⟩
 exact Int.le_trans (Int.mul_le_mul_of_nonneg_right h.1.2 (by omega)) (by omega)
theorem arBegin_bd {j : Job} (hJ : JobOk j.stock j.blanks j.trim) {l : Layout} {R : List Rect} {a : Ars} {n : Int} (hb : 0 ≤ l.board ∧ l.board < j.stock.length) (hR : ∀ r ∈ R, okR r) (h : a.bd n) : (arBegin j l R a).bd (n + 1000000000000) := by
 have h1 := areaK_bd (okR_rectF hR 0)
 have h2 := bdA_bd hJ hb
 unfold arBegin
 unfold Ars.bd at *
 simp only
 omega
theorem arPlan_bd {j : Job} (hE : jobE j = 0) {plan : List Layout} (hok : PlanOk j plan) : ∀ k, k ≤ plan.length → (arPlan j plan k).bd (1000000000000000 * k)
 | 0, _ => by unfold arPlan Ars.bd; simp
 | k + 1, h => by
  have ih := arPlan_bd hE hok k (by omega)
  have hk : k < plan.length := h
  have hg : plan.getD k default = plan[k] := by rw [List.getD_eq_getElem?_getD, List.getElem?_eq_getElem hk]; rfl
  rw [arPlan, hg]
  have hl := hok _ (List.getElem_mem hk)
  obtain ⟨-, h4, hR⟩ := lay_okR hE hl.1 hl.2
  have := arTo_bd (l := plan[k]) hR (arBegin_bd (jobOk_of hE) hl.1 hR ih) plan[k].cuts.length
  exact this.mono (by omega)
theorem arPlan_step {j : Job} {plan : List Layout} {k : Nat} (hk : k < plan.length) : arPlan j plan (k + 1) = arTo plan[k] (layOf j plan[k]).1 (arBegin j plan[k] (layOf j plan[k]).1 (arPlan j plan k)) plan[k].cuts.length := by
 have hg : plan.getD k default = plan[k] := by rw [List.getD_eq_getElem?_getD, List.getElem?_eq_getElem hk]; rfl
 rw [arPlan, hg]
end Go.Proofs.YtjmgboipbhddlaaGreatDoor
set_option linter.unusedVariables false
set_option linter.unusedSimpArgs false
namespace Go.Proofs.YtjmgboipbhddlaaGreatDoor
open Go Go.RowKit

theorem areaK_wraps {r : Rect} (h : okR r) : IntKind.i64.wrap ((r.x2 - r.x1) * (r.y2 - r.y1)) = areaK r ∧ IntKind.i64.wrap (r.x2 - r.x1) = r.x2 - r.x1 ∧ IntKind.i64.wrap (r.y2 - r.y1) = r.y2 - r.y1 := by
 have h1 := areaK_bd h
 have h2 : (-600000 ≤ r.x2 - r.x1 ∧ r.x2 - r.x1 ≤ 600000) ∧ (-600000 ≤ r.y2 - r.y1 ∧ r.y2 - r.y1 ≤ 600000) := by
  rcases h with rfl | h
  ·simp
  ·unfold proper at h; omega
 refine ⟨?_, IntWalk.i64_in _ (by omega), IntWalk.i64_in _ (by omega)⟩
 rw [show (r.x2 - r.x1) * (r.y2 - r.y1) = areaK r from rfl]
 exact IntWalk.i64_in _ (by omega)
theorem areaK_is (r : Rect) (q : Int) (w : World) (h : okR r) (hq : areaK r = q) : Calls Tryz.prog 27 #[.agg #[.int .i64 r.x1, .int .i64 r.y1, .int .i64 r.x2, .int .i64 r.y2]] w fun e w' => e = .returned (.int .i64 q) ∧ Below w.heap.size w w' := by
 obtain ⟨v1, v2, v3⟩ := areaK_wraps h
 rw [hq] at v1
 clear h hq
 go_enter Tryz.func27, Tryz.ntmps27
 go_wp2_with fail
 go_ret
 exact ⟨rfl, (Below.refl _ _).alloc (Nat.le_refl _) _⟩
theorem areaF_is (r : Rect) (q : Int) (w : World) (h : okR r) (hq : areaK r = q) : Calls Tryz.prog 38 #[.agg #[.int .i64 r.x1, .int .i64 r.y1, .int .i64 r.x2, .int .i64 r.y2]] w fun e w' => e = .returned (.int .i64 q) ∧ Below w.heap.size w w' := by
 obtain ⟨v1, v2, v3⟩ := areaK_wraps h
 rw [hq] at v1
 clear h hq
 go_enter Tryz.func38, Tryz.ntmps38
 go_wp2_with fail
 go_ret
 exact ⟨rfl, (Below.refl _ _).alloc (Nat.le_refl _) _⟩
set_option maxRecDepth 100000 in
set_option maxHeartbeats 4000000 in
theorem parted_full (r low high : Rect) (across : Bool) (a kerf : Int) (w : World) (hl : lowR r across a = low) (hh : highR r across a kerf = high)
    (h1 : 0 ≤ r.x1 ∧ r.x1 ≤ 600000 ∧ 0 ≤ r.y1 ∧ r.y1 ≤ 600000) (h2 : 0 ≤ a ∧ a ≤ 600000) (h3 : 0 ≤ kerf ∧ kerf ≤ 10000) (ho1 : okR r) (ho2 : okR low) (ho3 : okR high) :
    Calls Tryz.prog 29 #[.agg #[.int .i64 r.x1, .int .i64 r.y1, .int .i64 r.x2, .int .i64 r.y2], .bool across, .int .i64 a, .int .i64 kerf] w fun e w' => e = .returned (.tuple #[.agg #[.int .i64 low.x1, .int .i64 low.y1, .int .i64 low.x2, .int .i64 low.y2], .agg #[.int .i64 high.x1, .int .i64 high.y1, .int .i64 high.x2, .int .i64 high.y2], .int .i64 (areaK r - areaK low - areaK high)]) ∧ Below w.heap.size w w' := by
 have b1 := areaK_bd ho1
 have b2 := areaK_bd ho2
 have b3 := areaK_bd ho3
 obtain ⟨AR, hAR⟩ : ∃ A, areaK r = A := ⟨_, rfl⟩
 obtain ⟨AL, hAL⟩ : ∃ A, areaK low = A := ⟨_, rfl⟩
 obtain ⟨AH, hAH⟩ : ∃ A, areaK high = A := ⟨_, rfl⟩
 have HKR := Lib.hid (fun w9 => areaK_is r AR w9 ho1 hAR)
 have HKL := Lib.hid (fun w9 => areaK_is low AL w9 ho2 hAL)
 have HKH := Lib.hid (fun w9 => areaK_is high AH w9 ho3 hAH)
 rw [hAR] at b1
 rw [hAL] at b2
 rw [hAH] at b3
 rw [hAR, hAL, hAH]
 have v8 : IntKind.i64.wrap (AR - AL) = AR - AL := IntWalk.i64_in _ (by omega)
 have v9 : IntKind.i64.wrap (AR - AL - AH) = AR - AL - AH := IntWalk.i64_in _ (by omega)
 clear b1 b2 b3 hAR hAL hAH ho1 ho2 ho3
 have kx0 : ∀ x : KW (fun W => BoxR W w.heap.size r), x.w.cell? ⟨w.heap.size, 0, none⟩ = some (.int .i64 r.x1) := fun x => x.ok.c0
 have kx1 : ∀ x : KW (fun W => BoxR W w.heap.size r), x.w.cell? ⟨w.heap.size, 1, none⟩ = some (.int .i64 r.y1) := fun x => x.ok.c1
 have kx2 : ∀ x : KW (fun W => BoxR W w.heap.size r), x.w.cell? ⟨w.heap.size, 2, none⟩ = some (.int .i64 r.x2) := fun x => x.ok.c2
 have kx3 : ∀ x : KW (fun W => BoxR W w.heap.size r), x.w.cell? ⟨w.heap.size, 3, none⟩ = some (.int .i64 r.y2) := fun x => x.ok.c3
 go_enter Tryz.func29, Tryz.ntmps29
 cases across
 ·have v1 : IntKind.i64.wrap (r.y1 + a) = r.y1 + a := IntWalk.i64_in _ (by omega)
  have v2 : IntKind.i64.wrap (r.y1 + a + kerf) = r.y1 + a + kerf := IntWalk.i64_in _ (by omega)
  have HL := Lib.hid (show low = ⟨r.x1, r.y1, r.x2, r.y1 + a⟩ by rw [← hl]; rfl)
  have HH := Lib.hid (show wholeR ⟨r.x1, r.y1 + a + kerf, r.x2, r.y2⟩ = high by rw [← hh]; rfl)
  clear h1 h2 h3 hl hh
  go_wp2_with fail
  refine gen_world (fun W => BoxR W w.heap.size r ∧ BoxR W (w.heap.size + 1) ⟨0, 0, 0, 0⟩ ∧ BoxR W (w.heap.size + 2) ⟨0, 0, 0, 0⟩ ∧ Below w.heap.size w W ∧ w.heap.size + 2 < W.heap.size) ?_ ?_
  ·refine ⟨?_, ?_, ?_, ?_, by simp⟩
   ·exact ⟨by simp [go_sem, *], by simp [go_sem, *], by simp [go_sem, *], by simp [go_sem, *], by simp [go_sem, *], by simp [go_sem, *], by simp [go_sem, *], by simp [go_sem, *]⟩
   ·exact ⟨by simp [go_sem, *], by simp [go_sem, *], by simp [go_sem, *], by simp [go_sem, *], by simp [go_sem, *], by simp [go_sem, *], by simp [go_sem, *], by simp [go_sem, *]⟩
   ·exact ⟨by simp [go_sem, *], by simp [go_sem, *], by simp [go_sem, *], by simp [go_sem, *], by simp [go_sem, *], by simp [go_sem, *], by simp [go_sem, *], by simp [go_sem, *]⟩
   ·exact ((((Below.refl _ _).alloc (Nat.le_refl _) _).alloc (by simp) _).alloc (by simp; omega) _)
  rintro W ⟨b0, b1, b2, hbW, hz⟩
  haveI hne : Nonempty (KW (fun W => BoxR W w.heap.size r)) := ⟨⟨_, b0⟩⟩
  refine wp_region_tree (fun w' => ∃ x : KW (fun W => BoxR W w.heap.size r), w' = x.w) 3 (.take 0 (.take 1 (.one 2 .done))) (by kernel_rfl) (by kernel_rfl) (KW.mk' b0.drew) ?_
  repeat (refine wpTree_take ?_; simp only [nthOp]; (first | go_big_quiet_step (fail) | quiet_step (fail)); refine wpQuiet_nil ?_)
  refine wpTree_one ?_
  simp only [nthOp]
  have b0' := Lib.hid b0
  obtain ⟨c0, c1, c2, c3, f0, f1, f2, f3⟩ := b0
  obtain ⟨d0, d1, d2, d3, g0, g1, g2, g3⟩ := b1
  obtain ⟨e0, e1, e2, e3, h0, h1', h2', h3'⟩ := b2
  go_wp2_with fail
  refine One_mk (KW.mk' (by repeat (first | (with_reducible exact b0'.out) | (with_reducible refine BoxR.drew ?_) | (with_reducible refine BoxR.set ?_ (by first | (simp; done) | (simp; omega)) rfl)))) (wpTree_done ?_)
  simp only [List.drop_succ_cons, List.drop_zero]
  go_wp2_with fail
  refine NP_mk ?_
  go_wp2_with fail
  refine gen_world (fun W => BoxR W w.heap.size r ∧ BoxR W (w.heap.size + 1) r ∧ BoxR W (w.heap.size + 2) r ∧ Below w.heap.size w W ∧ w.heap.size + 2 < W.heap.size) ?_ ?_
  ·refine ⟨(by repeat (first | (with_reducible exact b0'.out) | (with_reducible refine BoxR.drew ?_) | (with_reducible refine BoxR.set ?_ (by first | (simp; done) | (simp; omega)) rfl))), ?_, ?_, (by repeat (first | (with_reducible exact hbW) | (with_reducible refine Below.drew ?_) | (with_reducible refine Below.setCell ?_ (by first | (simp; done) | (simp; omega)) _))), by simpa using hz⟩
   ·exact ⟨by simp [go_sem, *], by simp [go_sem, *], by simp [go_sem, *], by simp [go_sem, *], by simp [go_sem, *], by simp [go_sem, *], by simp [go_sem, *], by simp [go_sem, *]⟩
   ·exact ⟨by simp [go_sem, *], by simp [go_sem, *], by simp [go_sem, *], by simp [go_sem, *], by simp [go_sem, *], by simp [go_sem, *], by simp [go_sem, *], by simp [go_sem, *]⟩
  clear b0' c0 c1 c2 c3 d0 d1 d2 d3 e0 e1 e2 e3 f0 f1 f2 f3 g0 g1 g2 g3 h0 h1' h2' h3' hbW hz
  rintro W2 ⟨b0, b1, b2, hbW, hz⟩
  refine wp_region_tree (fun w' => ∃ x : KW (fun W => BoxR W w.heap.size r), w' = x.w) 12 (.take 0 (.take 1 (.take 2 (.take 3 (.take 4 (.take 5 (.take 6 (.take 7 (.take 8 (.take 9 (.take 10 (.one 11 .done)))))))))))) (by kernel_rfl) (by kernel_rfl) (KW.mk' b0.drew) ?_
  repeat (refine wpTree_take ?_; simp only [nthOp]; (first | go_big_quiet_step (fail) | quiet_step (fail)); refine wpQuiet_nil ?_)
  refine wpTree_one ?_
  simp only [nthOp]
  have b0' := Lib.hid b0
  obtain ⟨c0, c1, c2, c3, f0, f1, f2, f3⟩ := b0
  obtain ⟨d0, d1, d2, d3, g0, g1, g2, g3⟩ := b1
  obtain ⟨e0, e1, e2, e3, h0, h1', h2', h3'⟩ := b2
  go_wp2_with fail
  refine One_mk (KW.mk' (by repeat (first | (with_reducible exact b0'.out) | (with_reducible refine BoxR.drew ?_) | (with_reducible refine BoxR.set ?_ (by first | (simp; done) | (simp; omega)) rfl)))) (wpTree_done ?_)
  simp only [List.drop_succ_cons, List.drop_zero]
  go_wp2_with fail
  refine NP_mk ?_
  go_upto_region 5 with fail
  refine gen_world (fun W => BoxR W w.heap.size r ∧ BoxR W (w.heap.size + 1) low ∧ BoxR W (w.heap.size + 2) ⟨r.x1, r.y1 + a + kerf, r.x2, r.y2⟩ ∧ Below w.heap.size w W ∧ w.heap.size + 2 < W.heap.size) ?_ ?_
  ·rw [HL.out]
   refine ⟨(by repeat (first | (with_reducible exact b0'.out) | (with_reducible refine BoxR.drew ?_) | (with_reducible refine BoxR.set ?_ (by first | (simp; done) | (simp; omega)) rfl))), ?_, ?_, (by repeat (first | (with_reducible exact hbW) | (with_reducible refine Below.drew ?_) | (with_reducible refine Below.setCell ?_ (by first | (simp; done) | (simp; omega)) _))), by simpa using hz⟩
   ·exact ⟨by simp [go_sem, *], by simp [go_sem, *], by simp [go_sem, *], by simp [go_sem, *], by simp [go_sem, *], by simp [go_sem, *], by simp [go_sem, *], by simp [go_sem, *]⟩
   ·exact ⟨by simp [go_sem, *], by simp [go_sem, *], by simp [go_sem, *], by simp [go_sem, *], by simp [go_sem, *], by simp [go_sem, *], by simp [go_sem, *], by simp [go_sem, *]⟩
  clear b0' c0 c1 c2 c3 d0 d1 d2 d3 e0 e1 e2 e3 f0 f1 f2 f3 g0 g1 g2 g3 h0 h1' h2' h3' hbW hz
  rintro W3 ⟨b0, b1, b2, hbW, hz⟩
  have b2' := Lib.hid b2
  obtain ⟨e0, e1, e2, e3, h0, h1', h2', h3'⟩ := b2
  go_wp2_with (go_at_call 58; refine (whole_is ⟨_, _, _, _⟩ high _ HH.out).mono ?_; rintro e w4 ⟨rfl, hb4⟩; have b20 := Lib.hid (b2'.out.keep hb4); obtain ⟨e0', e1', e2', e3', h0'', h1'', h2'', h3''⟩ := b20.out)
  refine gen_world (fun W => BoxR W w.heap.size r ∧ BoxR W (w.heap.size + 1) low ∧ BoxR W (w.heap.size + 2) high ∧ Below w.heap.size w W ∧ w.heap.size + 2 < W.heap.size) ?_ ?_
  ·have hz4 := hb4.size
   refine ⟨?_, ?_, ?_, ?_, by simp; omega⟩
   ·repeat (first | (with_reducible exact b0.keep hb4) | (with_reducible refine BoxR.drew ?_) | (with_reducible refine BoxR.set ?_ (by first | (simp; done) | (simp; omega)) rfl))
   ·repeat (first | (with_reducible exact b1.keep hb4) | (with_reducible refine BoxR.drew ?_) | (with_reducible refine BoxR.set ?_ (by first | (simp; done) | (simp; omega)) rfl))
   ·exact ⟨by simp [go_sem, *], by simp [go_sem, *], by simp [go_sem, *], by simp [go_sem, *], by simp [go_sem, *], by simp [go_sem, *], by simp [go_sem, *], by simp [go_sem, *]⟩
   ·repeat (first | (with_reducible exact hbW.trans (hb4.mono (by omega))) | (with_reducible refine Below.setCell ?_ (by first | (simp; done) | (simp; omega)) _))
  clear b2' e0 e1 e2 e3 h0 h1' h2' h3' b0 b1 hbW hz b20 e0' e1' e2' e3' h0'' h1'' h2'' h3'' hb4
  rintro W5 ⟨b0, b1, b2, hbW, hz⟩
  haveI hne : Nonempty (KW (fun W => BoxR W w.heap.size r ∧ BoxR W (w.heap.size + 1) low ∧ BoxR W (w.heap.size + 2) high)) := ⟨⟨_, b0, b1, b2⟩⟩
  have ky0 : ∀ x : KW (fun W => BoxR W w.heap.size r ∧ BoxR W (w.heap.size + 1) low ∧ BoxR W (w.heap.size + 2) high), x.w.cell? ⟨w.heap.size, 0, none⟩ = some (.int .i64 r.x1) ∧ x.w.cell? ⟨w.heap.size, 1, none⟩ = some (.int .i64 r.y1) ∧ x.w.cell? ⟨w.heap.size, 2, none⟩ = some (.int .i64 r.x2) ∧ x.w.cell? ⟨w.heap.size, 3, none⟩ = some (.int .i64 r.y2) := fun x => ⟨x.ok.1.c0, x.ok.1.c1, x.ok.1.c2, x.ok.1.c3⟩
  have ky1 : ∀ x : KW (fun W => BoxR W w.heap.size r ∧ BoxR W (w.heap.size + 1) low ∧ BoxR W (w.heap.size + 2) high), x.w.cell? ⟨w.heap.size + 1, 0, none⟩ = some (.int .i64 low.x1) ∧ x.w.cell? ⟨w.heap.size + 1, 1, none⟩ = some (.int .i64 low.y1) ∧ x.w.cell? ⟨w.heap.size + 1, 2, none⟩ = some (.int .i64 low.x2) ∧ x.w.cell? ⟨w.heap.size + 1, 3, none⟩ = some (.int .i64 low.y2) := fun x => ⟨x.ok.2.1.c0, x.ok.2.1.c1, x.ok.2.1.c2, x.ok.2.1.c3⟩
  have ky2 : ∀ x : KW (fun W => BoxR W w.heap.size r ∧ BoxR W (w.heap.size + 1) low ∧ BoxR W (w.heap.size + 2) high), x.w.cell? ⟨w.heap.size + 2, 0, none⟩ = some (.int .i64 high.x1) ∧ x.w.cell? ⟨w.heap.size + 2, 1, none⟩ = some (.int .i64 high.y1) ∧ x.w.cell? ⟨w.heap.size + 2, 2, none⟩ = some (.int .i64 high.x2) ∧ x.w.cell? ⟨w.heap.size + 2, 3, none⟩ = some (.int .i64 high.y2) := fun x => ⟨x.ok.2.2.c0, x.ok.2.2.c1, x.ok.2.2.c2, x.ok.2.2.c3⟩
  refine wp_region_tree (fun w' => ∃ x : KW (fun W => BoxR W w.heap.size r ∧ BoxR W (w.heap.size + 1) low ∧ BoxR W (w.heap.size + 2) high), w' = x.w) 12 (.take 0 (.take 1 (.take 2 (.take 4 (.take 7 (.one 3 (.one 5 (.take 6 (.one 8 (.take 9 (.one 10 (.one 11 .done)))))))))))) (by kernel_rfl) (by kernel_rfl) (KW.mk' ⟨b0.drew, b1.drew, b2.drew⟩) ?_
  repeat (refine wpTree_take ?_; simp only [nthOp]; (first | go_big_quiet_step (fail) | quiet_step (fail)); refine wpQuiet_nil ?_)
  have q0 := b0.drew
  have q1 := b1.drew
  have q2 := b2.drew
  have qb : Below w.heap.size w W5.drew := hbW.drew
  have qz : w.heap.size + 2 < W5.drew.heap.size := by simpa using hz
  generalize W5.drew = W6 at *
  clear b0 b1 b2 hbW hz
  refine wpTree_one ?_
  simp only [nthOp]
  go_wp2_with (go_at_call 27; refine (HKR.out _).mono ?_; rintro e w7 ⟨rfl, hb7⟩)
  refine One_mk (KW.mk' ⟨q0.keep hb7, q1.keep hb7, q2.keep hb7⟩) ?_
  refine wpTree_one ?_
  simp only [nthOp]
  go_wp2_with (go_at_call 27; refine (HKL.out _).mono ?_; rintro e w8 ⟨rfl, hb8⟩)
  refine One_mk (KW.mk' ⟨(q0.keep hb7).keep hb8, (q1.keep hb7).keep hb8, (q2.keep hb7).keep hb8⟩) ?_
  repeat (refine wpTree_take ?_; simp only [nthOp]; (first | go_big_quiet_step (fail) | quiet_step (fail)); refine wpQuiet_nil ?_)
  refine wpTree_one ?_
  simp only [nthOp]
  go_wp2_with (go_at_call 27; refine (HKH.out _).mono ?_; rintro e w9 ⟨rfl, hb9⟩)
  have p0 := Lib.hid (((q0.keep hb7).keep hb8).keep hb9)
  have p1 := Lib.hid (((q1.keep hb7).keep hb8).keep hb9)
  have p2 := Lib.hid (((q2.keep hb7).keep hb8).keep hb9)
  have z7 := hb7.size
  have z8 := hb8.size
  have z9 := hb9.size
  have pb := Lib.hid (((qb.trans (hb7.mono (by omega))).trans (hb8.mono (by omega))).trans (hb9.mono (by omega)))
  clear q0 q1 q2 qb hb7 hb8 hb9
  refine One_mk (KW.mk' ⟨p0.out, p1.out, p2.out⟩) ?_
  repeat (refine wpTree_take ?_; simp only [nthOp]; (first | go_big_quiet_step (fail) | quiet_step (fail)); refine wpQuiet_nil ?_)
  obtain ⟨d0, d1, d2, d3, g0, g1, g2, g3⟩ := p1.out
  obtain ⟨e0, e1, e2, e3, h0, h1', h2', h3'⟩ := p2.out
  refine wpTree_one ?_
  simp only [nthOp]
  go_wp2_with fail
  refine One_mk (KW.mk' ⟨?_, ?_, ?_⟩) ?_
  ·(repeat (first | (with_reducible exact p0.out) | (with_reducible refine BoxR.drew ?_) | (with_reducible refine BoxR.set ?_ (by first | (simp; done) | (simp; omega)) rfl)))
  ·exact ⟨by simp [go_sem, *], by simp [go_sem, *], by simp [go_sem, *], by simp [go_sem, *], by simp [go_sem, *], by simp [go_sem, *], by simp [go_sem, *], by simp [go_sem, *]⟩
  ·(repeat (first | (with_reducible exact p2.out) | (with_reducible refine BoxR.drew ?_) | (with_reducible refine BoxR.set ?_ (by first | (simp; done) | (simp; omega)) rfl)))
  refine wpTree_one ?_
  simp only [nthOp]
  go_wp2_with fail
  refine One_mk (KW.mk' ⟨?_, ?_, ?_⟩) (wpTree_done ?_)
  ·(repeat (first | (with_reducible exact p0.out) | (with_reducible refine BoxR.drew ?_) | (with_reducible refine BoxR.set ?_ (by first | (simp; done) | (simp; omega)) rfl)))
  ·exact ⟨by simp [go_sem, *], by simp [go_sem, *], by simp [go_sem, *], by simp [go_sem, *], by simp [go_sem, *], by simp [go_sem, *], by simp [go_sem, *], by simp [go_sem, *]⟩
  ·exact ⟨by simp [go_sem, *], by simp [go_sem, *], by simp [go_sem, *], by simp [go_sem, *], by simp [go_sem, *], by simp [go_sem, *], by simp [go_sem, *], by simp [go_sem, *]⟩
  simp only [List.drop_succ_cons, List.drop_zero]
  go_wp2_with fail
  refine NP_mk ?_
  go_wp2_with fail
  refine gen_any (G := fun W => bodyPost _ _ _ _ _ W) (fun W => BoxR W (w.heap.size + 1) low ∧ BoxR W (w.heap.size + 2) high ∧ Below w.heap.size w W) ?_ ?_
  ·refine ⟨?_, ?_, ?_⟩
   ·exact ⟨by simp [go_sem, *], by simp [go_sem, *], by simp [go_sem, *], by simp [go_sem, *], by simp [go_sem, *], by simp [go_sem, *], by simp [go_sem, *], by simp [go_sem, *]⟩
   ·exact ⟨by simp [go_sem, *], by simp [go_sem, *], by simp [go_sem, *], by simp [go_sem, *], by simp [go_sem, *], by simp [go_sem, *], by simp [go_sem, *], by simp [go_sem, *]⟩
   ·(repeat (first | (with_reducible exact pb.out) | (with_reducible refine Below.setCell ?_ (by first | (simp; done) | (simp; omega)) _)))
  rintro W9 ⟨⟨d0', d1', d2', d3', -, -, -, -⟩, ⟨e0', e1', e2', e3', -, -, -, -⟩, hb⟩
  exact bodyPost_ret (v := .tuple #[.agg #[.int .i64 low.x1, .int .i64 low.y1, .int .i64 low.x2, .int .i64 low.y2], .agg #[.int .i64 high.x1, .int .i64 high.y1, .int .i64 high.x2, .int .i64 high.y2], .int .i64 (AR - AL - AH)]) (by simp [results, Tryz.results29, go_sem, d0', d1', d2', d3', e0', e1', e2', e3']) rfl ⟨rfl, hb⟩
 ·have v1 : IntKind.i64.wrap (r.x1 + a) = r.x1 + a := IntWalk.i64_in _ (by omega)
  have v2 : IntKind.i64.wrap (r.x1 + a + kerf) = r.x1 + a + kerf := IntWalk.i64_in _ (by omega)
  have HL := Lib.hid (show low = ⟨r.x1, r.y1, r.x1 + a, r.y2⟩ by rw [← hl]; rfl)
  have HH := Lib.hid (show wholeR ⟨r.x1 + a + kerf, r.y1, r.x2, r.y2⟩ = high by rw [← hh]; rfl)
  clear h1 h2 h3 hl hh
  go_wp2_with fail
  refine gen_world (fun W => BoxR W w.heap.size r ∧ BoxR W (w.heap.size + 1) ⟨0, 0, 0, 0⟩ ∧ BoxR W (w.heap.size + 2) ⟨0, 0, 0, 0⟩ ∧ Below w.heap.size w W ∧ w.heap.size + 2 < W.heap.size) ?_ ?_
  ·refine ⟨?_, ?_, ?_, ?_, by simp⟩
   ·exact ⟨by simp [go_sem, *], by simp [go_sem, *], by simp [go_sem, *], by simp [go_sem, *], by simp [go_sem, *], by simp [go_sem, *], by simp [go_sem, *], by simp [go_sem, *]⟩
   ·exact ⟨by simp [go_sem, *], by simp [go_sem, *], by simp [go_sem, *], by simp [go_sem, *], by simp [go_sem, *], by simp [go_sem, *], by simp [go_sem, *], by simp [go_sem, *]⟩
   ·exact ⟨by simp [go_sem, *], by simp [go_sem, *], by simp [go_sem, *], by simp [go_sem, *], by simp [go_sem, *], by simp [go_sem, *], by simp [go_sem, *], by simp [go_sem, *]⟩
   ·exact ((((Below.refl _ _).alloc (Nat.le_refl _) _).alloc (by simp) _).alloc (by simp; omega) _)
  rintro W ⟨b0, b1, b2, hbW, hz⟩
  haveI hne : Nonempty (KW (fun W => BoxR W w.heap.size r)) := ⟨⟨_, b0⟩⟩
  refine wp_region_tree (fun w' => ∃ x : KW (fun W => BoxR W w.heap.size r), w' = x.w) 3 (.take 0 (.take 1 (.one 2 .done))) (by kernel_rfl) (by kernel_rfl) (KW.mk' b0.drew) ?_
  repeat (refine wpTree_take ?_; simp only [nthOp]; (first | go_big_quiet_step (fail) | quiet_step (fail)); refine wpQuiet_nil ?_)
  refine wpTree_one ?_
  simp only [nthOp]
  have b0' := Lib.hid b0
  obtain ⟨c0, c1, c2, c3, f0, f1, f2, f3⟩ := b0
  obtain ⟨d0, d1, d2, d3, g0, g1, g2, g3⟩ := b1
  obtain ⟨e0, e1, e2, e3, h0, h1', h2', h3'⟩ := b2
  go_wp2_with fail
  refine One_mk (KW.mk' (by repeat (first | (with_reducible exact b0'.out) | (with_reducible refine BoxR.drew ?_) | (with_reducible refine BoxR.set ?_ (by first | (simp; done) | (simp; omega)) rfl)))) (wpTree_done ?_)
  simp only [List.drop_succ_cons, List.drop_zero]
  go_wp2_with fail
  refine NP_mk ?_
  go_wp2_with fail
  refine gen_world (fun W => BoxR W w.heap.size r ∧ BoxR W (w.heap.size + 1) r ∧ BoxR W (w.heap.size + 2) r ∧ Below w.heap.size w W ∧ w.heap.size + 2 < W.heap.size) ?_ ?_
  ·refine ⟨(by repeat (first | (with_reducible exact b0'.out) | (with_reducible refine BoxR.drew ?_) | (with_reducible refine BoxR.set ?_ (by first | (simp; done) | (simp; omega)) rfl))), ?_, ?_, (by repeat (first | (with_reducible exact hbW) | (with_reducible refine Below.drew ?_) | (with_reducible refine Below.setCell ?_ (by first | (simp; done) | (simp; omega)) _))), by simpa using hz⟩
   ·exact ⟨by simp [go_sem, *], by simp [go_sem, *], by simp [go_sem, *], by simp [go_sem, *], by simp [go_sem, *], by simp [go_sem, *], by simp [go_sem, *], by simp [go_sem, *]⟩
   ·exact ⟨by simp [go_sem, *], by simp [go_sem, *], by simp [go_sem, *], by simp [go_sem, *], by simp [go_sem, *], by simp [go_sem, *], by simp [go_sem, *], by simp [go_sem, *]⟩
  clear b0' c0 c1 c2 c3 d0 d1 d2 d3 e0 e1 e2 e3 f0 f1 f2 f3 g0 g1 g2 g3 h0 h1' h2' h3' hbW hz
  rintro W2 ⟨b0, b1, b2, hbW, hz⟩
  refine wp_region_tree (fun w' => ∃ x : KW (fun W => BoxR W w.heap.size r), w' = x.w) 12 (.take 0 (.take 1 (.take 2 (.take 3 (.take 4 (.take 5 (.take 6 (.take 7 (.take 8 (.take 9 (.take 10 (.one 11 .done)))))))))))) (by kernel_rfl) (by kernel_rfl) (KW.mk' b0.drew) ?_
  repeat (refine wpTree_take ?_; simp only [nthOp]; (first | go_big_quiet_step (fail) | quiet_step (fail)); refine wpQuiet_nil ?_)
  refine wpTree_one ?_
  simp only [nthOp]
  have b0' := Lib.hid b0
  obtain ⟨c0, c1, c2, c3, f0, f1, f2, f3⟩ := b0
  obtain ⟨d0, d1, d2, d3, g0, g1, g2, g3⟩ := b1
  obtain ⟨e0, e1, e2, e3, h0, h1', h2', h3'⟩ := b2
  go_wp2_with fail
  refine One_mk (KW.mk' (by repeat (first | (with_reducible exact b0'.out) | (with_reducible refine BoxR.drew ?_) | (with_reducible refine BoxR.set ?_ (by first | (simp; done) | (simp; omega)) rfl)))) (wpTree_done ?_)
  simp only [List.drop_succ_cons, List.drop_zero]
  go_wp2_with fail
  refine NP_mk ?_
  go_upto_region 5 with fail
  refine gen_world (fun W => BoxR W w.heap.size r ∧ BoxR W (w.heap.size + 1) low ∧ BoxR W (w.heap.size + 2) ⟨r.x1 + a + kerf, r.y1, r.x2, r.y2⟩ ∧ Below w.heap.size w W ∧ w.heap.size + 2 < W.heap.size) ?_ ?_
  ·rw [HL.out]
   refine ⟨(by repeat (first | (with_reducible exact b0'.out) | (with_reducible refine BoxR.drew ?_) | (with_reducible refine BoxR.set ?_ (by first | (simp; done) | (simp; omega)) rfl))), ?_, ?_, (by repeat (first | (with_reducible exact hbW) | (with_reducible refine Below.drew ?_) | (with_reducible refine Below.setCell ?_ (by first | (simp; done) | (simp; omega)) _))), by simpa using hz⟩
   ·exact ⟨by simp [go_sem, *], by simp [go_sem, *], by simp [go_sem, *], by simp [go_sem, *], by simp [go_sem, *], by simp [go_sem, *], by simp [go_sem, *], by simp [go_sem, *]⟩
   ·exact ⟨by simp [go_sem, *], by simp [go_sem, *], by simp [go_sem, *], by simp [go_sem, *], by simp [go_sem, *], by simp [go_sem, *], by simp [go_sem, *], by simp [go_sem, *]⟩
  clear b0' c0 c1 c2 c3 d0 d1 d2 d3 e0 e1 e2 e3 f0 f1 f2 f3 g0 g1 g2 g3 h0 h1' h2' h3' hbW hz
  rintro W3 ⟨b0, b1, b2, hbW, hz⟩
  have b2' := Lib.hid b2
  obtain ⟨e0, e1, e2, e3, h0, h1', h2', h3'⟩ := b2
  go_wp2_with (go_at_call 58; refine (whole_is ⟨_, _, _, _⟩ high _ HH.out).mono ?_; rintro e w4 ⟨rfl, hb4⟩; have b20 := Lib.hid (b2'.out.keep hb4); obtain ⟨e0', e1', e2', e3', h0'', h1'', h2'', h3''⟩ := b20.out)
  refine gen_world (fun W => BoxR W w.heap.size r ∧ BoxR W (w.heap.size + 1) low ∧ BoxR W (w.heap.size + 2) high ∧ Below w.heap.size w W ∧ w.heap.size + 2 < W.heap.size) ?_ ?_
  ·have hz4 := hb4.size
   refine ⟨?_, ?_, ?_, ?_, by simp; omega⟩
   ·repeat (first | (with_reducible exact b0.keep hb4) | (with_reducible refine BoxR.drew ?_) | (with_reducible refine BoxR.set ?_ (by first | (simp; done) | (simp; omega)) rfl))
   ·repeat (first | (with_reducible exact b1.keep hb4) | (with_reducible refine BoxR.drew ?_) | (with_reducible refine BoxR.set ?_ (by first | (simp; done) | (simp; omega)) rfl))
   ·exact ⟨by simp [go_sem, *], by simp [go_sem, *], by simp [go_sem, *], by simp [go_sem, *], by simp [go_sem, *], by simp [go_sem, *], by simp [go_sem, *], by simp [go_sem, *]⟩
   ·repeat (first | (with_reducible exact hbW.trans (hb4.mono (by omega))) | (with_reducible refine Below.setCell ?_ (by first | (simp; done) | (simp; omega)) _))
  clear b2' e0 e1 e2 e3 h0 h1' h2' h3' b0 b1 hbW hz b20 e0' e1' e2' e3' h0'' h1'' h2'' h3'' hb4
  rintro W5 ⟨b0, b1, b2, hbW, hz⟩
  haveI hne : Nonempty (KW (fun W => BoxR W w.heap.size r ∧ BoxR W (w.heap.size + 1) low ∧ BoxR W (w.heap.size + 2) high)) := ⟨⟨_, b0, b1, b2⟩⟩
  have ky0 : ∀ x : KW (fun W => BoxR W w.heap.size r ∧ BoxR W (w.heap.size + 1) low ∧ BoxR W (w.heap.size + 2) high), x.w.cell? ⟨w.heap.size, 0, none⟩ = some (.int .i64 r.x1) ∧ x.w.cell? ⟨w.heap.size, 1, none⟩ = some (.int .i64 r.y1) ∧ x.w.cell? ⟨w.heap.size, 2, none⟩ = some (.int .i64 r.x2) ∧ x.w.cell? ⟨w.heap.size, 3, none⟩ = some (.int .i64 r.y2) := fun x => ⟨x.ok.1.c0, x.ok.1.c1, x.ok.1.c2, x.ok.1.c3⟩
  have ky1 : ∀ x : KW (fun W => BoxR W w.heap.size r ∧ BoxR W (w.heap.size + 1) low ∧ BoxR W (w.heap.size + 2) high), x.w.cell? ⟨w.heap.size + 1, 0, none⟩ = some (.int .i64 low.x1) ∧ x.w.cell? ⟨w.heap.size + 1, 1, none⟩ = some (.int .i64 low.y1) ∧ x.w.cell? ⟨w.heap.size + 1, 2, none⟩ = some (.int .i64 low.x2) ∧ x.w.cell? ⟨w.heap.size + 1, 3, none⟩ = some (.int .i64 low.y2) := fun x => ⟨x.ok.2.1.c0, x.ok.2.1.c1, x.ok.2.1.c2, x.ok.2.1.c3⟩
  have ky2 : ∀ x : KW (fun W => BoxR W w.heap.size r ∧ BoxR W (w.heap.size + 1) low ∧ BoxR W (w.heap.size + 2) high), x.w.cell? ⟨w.heap.size + 2, 0, none⟩ = some (.int .i64 high.x1) ∧ x.w.cell? ⟨w.heap.size + 2, 1, none⟩ = some (.int .i64 high.y1) ∧ x.w.cell? ⟨w.heap.size + 2, 2, none⟩ = some (.int .i64 high.x2) ∧ x.w.cell? ⟨w.heap.size + 2, 3, none⟩ = some (.int .i64 high.y2) := fun x => ⟨x.ok.2.2.c0, x.ok.2.2.c1, x.ok.2.2.c2, x.ok.2.2.c3⟩
  refine wp_region_tree (fun w' => ∃ x : KW (fun W => BoxR W w.heap.size r ∧ BoxR W (w.heap.size + 1) low ∧ BoxR W (w.heap.size + 2) high), w' = x.w) 12 (.take 0 (.take 1 (.take 2 (.take 4 (.take 7 (.one 3 (.one 5 (.take 6 (.one 8 (.take 9 (.one 10 (.one 11 .done)))))))))))) (by kernel_rfl) (by kernel_rfl) (KW.mk' ⟨b0.drew, b1.drew, b2.drew⟩) ?_
  repeat (refine wpTree_take ?_; simp only [nthOp]; (first | go_big_quiet_step (fail) | quiet_step (fail)); refine wpQuiet_nil ?_)
  have q0 := b0.drew
  have q1 := b1.drew
  have q2 := b2.drew
  have qb : Below w.heap.size w W5.drew := hbW.drew
  have qz : w.heap.size + 2 < W5.drew.heap.size := by simpa using hz
  generalize W5.drew = W6 at *
  clear b0 b1 b2 hbW hz
  refine wpTree_one ?_
  simp only [nthOp]
  go_wp2_with (go_at_call 27; refine (HKR.out _).mono ?_; rintro e w7 ⟨rfl, hb7⟩)
  refine One_mk (KW.mk' ⟨q0.keep hb7, q1.keep hb7, q2.keep hb7⟩) ?_
  refine wpTree_one ?_
  simp only [nthOp]
  go_wp2_with (go_at_call 27; refine (HKL.out _).mono ?_; rintro e w8 ⟨rfl, hb8⟩)
  refine One_mk (KW.mk' ⟨(q0.keep hb7).keep hb8, (q1.keep hb7).keep hb8, (q2.keep hb7).keep hb8⟩) ?_
  repeat (refine wpTree_take ?_; simp only [nthOp]; (first | go_big_quiet_step (fail) | quiet_step (fail)); refine wpQuiet_nil ?_)
  refine wpTree_one ?_
  simp only [nthOp]
  go_wp2_with (go_at_call 27; refine (HKH.out _).mono ?_; rintro e w9 ⟨rfl, hb9⟩)
  have p0 := Lib.hid (((q0.keep hb7).keep hb8).keep hb9)
  have p1 := Lib.hid (((q1.keep hb7).keep hb8).keep hb9)
  have p2 := Lib.hid (((q2.keep hb7).keep hb8).keep hb9)
  have z7 := hb7.size
  have z8 := hb8.size
  have z9 := hb9.size
  have pb := Lib.hid (((qb.trans (hb7.mono (by omega))).trans (hb8.mono (by omega))).trans (hb9.mono (by omega)))
  clear q0 q1 q2 qb hb7 hb8 hb9
  refine One_mk (KW.mk' ⟨p0.out, p1.out, p2.out⟩) ?_
  repeat (refine wpTree_take ?_; simp only [nthOp]; (first | go_big_quiet_step (fail) | quiet_step (fail)); refine wpQuiet_nil ?_)
  obtain ⟨d0, d1, d2, d3, g0, g1, g2, g3⟩ := p1.out
  obtain ⟨e0, e1, e2, e3, h0, h1', h2', h3'⟩ := p2.out
  refine wpTree_one ?_
  simp only [nthOp]
  go_wp2_with fail
  refine One_mk (KW.mk' ⟨?_, ?_, ?_⟩) ?_
  ·(repeat (first | (with_reducible exact p0.out) | (with_reducible refine BoxR.drew ?_) | (with_reducible refine BoxR.set ?_ (by first | (simp; done) | (simp; omega)) rfl)))
  ·exact ⟨by simp [go_sem, *], by simp [go_sem, *], by simp [go_sem, *], by simp [go_sem, *], by simp [go_sem, *], by simp [go_sem, *], by simp [go_sem, *], by simp [go_sem, *]⟩
  ·(repeat (first | (with_reducible exact p2.out) | (with_reducible refine BoxR.drew ?_) | (with_reducible refine BoxR.set ?_ (by first | (simp; done) | (simp; omega)) rfl)))
  refine wpTree_one ?_
  simp only [nthOp]
  go_wp2_with fail
  refine One_mk (KW.mk' ⟨?_, ?_, ?_⟩) (wpTree_done ?_)
  ·(repeat (first | (with_reducible exact p0.out) | (with_reducible refine BoxR.drew ?_) | (with_reducible refine BoxR.set ?_ (by first | (simp; done) | (simp; omega)) rfl)))
  ·exact ⟨by simp [go_sem, *], by simp [go_sem, *], by simp [go_sem, *], by simp [go_sem, *], by simp [go_sem, *], by simp [go_sem, *], by simp [go_sem, *], by simp [go_sem, *]⟩
  ·exact ⟨by simp [go_sem, *], by simp [go_sem, *], by simp [go_sem, *], by simp [go_sem, *], by simp [go_sem, *], by simp [go_sem, *], by simp [go_sem, *], by simp [go_sem, *]⟩
  simp only [List.drop_succ_cons, List.drop_zero]
  go_wp2_with fail
  refine NP_mk ?_
  go_wp2_with fail
  refine gen_any (G := fun W => bodyPost _ _ _ _ _ W) (fun W => BoxR W (w.heap.size + 1) low ∧ BoxR W (w.heap.size + 2) high ∧ Below w.heap.size w W) ?_ ?_
  ·refine ⟨?_, ?_, ?_⟩
   ·exact ⟨by simp [go_sem, *], by simp [go_sem, *], by simp [go_sem, *], by simp [go_sem, *], by simp [go_sem, *], by simp [go_sem, *], by simp [go_sem, *], by simp [go_sem, *]⟩
   ·exact ⟨by simp [go_sem, *], by simp [go_sem, *], by simp [go_sem, *], by simp [go_sem, *], by simp [go_sem, *], by simp [go_sem, *], by simp [go_sem, *], by simp [go_sem, *]⟩
   ·(repeat (first | (with_reducible exact pb.out) | (with_reducible refine Below.setCell ?_ (by first | (simp; done) | (simp; omega)) _)))
  rintro W9 ⟨⟨d0', d1', d2', d3', -, -, -, -⟩, ⟨e0', e1', e2', e3', -, -, -, -⟩, hb⟩
  exact bodyPost_ret (v := .tuple #[.agg #[.int .i64 low.x1, .int .i64 low.y1, .int .i64 low.x2, .int .i64 low.y2], .agg #[.int .i64 high.x1, .int .i64 high.y1, .int .i64 high.x2, .int .i64 high.y2], .int .i64 (AR - AL - AH)]) (by simp [results, Tryz.results29, go_sem, d0', d1', d2', d3', e0', e1', e2', e3']) rfl ⟨rfl, hb⟩
end Go.Proofs.YtjmgboipbhddlaaGreatDoor
