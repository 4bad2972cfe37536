/- The order of the blanks: comparing two of them. -/
import Derived.Test.YtpaindkfbgoogaaGreatG9
set_option linter.unusedVariables false
set_option linter.unusedSimpArgs false
namespace Go.Proofs.YtpaindkfbgoogaaGreat
open Go Go.RowKit

theorem grow_of {w w' : World} (hb : Below w.heap.size w w') (hd : w.drawn ≤ w'.drawn) : ∃ q os', w' = Go.Sort.grow (w.drewN q) os' := by
  refine ⟨w'.drawn - w.drawn, w'.heap.extract w.heap.size w'.heap.size, ?_⟩
  have h1 := hb.size
  have hh : w'.heap = w.heap ++ w'.heap.extract w.heap.size w'.heap.size := by
    apply Array.ext_getElem?
    intro i
    by_cases hi : i < w.heap.size
    · rw [hb.block i hi, Array.getElem?_append_left hi]
    · rw [Array.getElem?_append_right (by omega), Array.getElem?_extract]
      by_cases h2 : i < w'.heap.size
      · rw [if_pos (by omega)]; congr 1; omega
      · rw [if_neg (by omega), Array.getElem?_eq_none (by omega)]
  unfold Go.Sort.grow World.drewN
  cases w' with
  | mk heap tape drawn os output =>
    simp only at *
    have := hb.os; have := hb.tape; have := hb.output
    simp only at *
    subst_vars
    congr 1
    omega
structure G1F (W : World) (gj gb o1 o2 n cb ob : Nat) (x y : Blank) : Prop where
  j : W.cell? ⟨gj, 1, none⟩ = some (.slice (some ⟨gb, ob, none⟩) n cb)
  x : CellsB W gb o1 x
  y : CellsB W gb o2 y
theorem CellsB.keep {W W' : World} {g o : Nat} {x : Blank} (h : CellsB W g o x) (hb : Below W.heap.size W W') : CellsB W' g o x :=
  ⟨cell_keep hb h.c0, cell_keep hb h.c1, cell_keep hb h.c2, cell_keep hb h.c3, cell_keep hb h.c4, cell_keep hb h.c5⟩
theorem G1F.keep {W W' : World} {gj gb o1 o2 n cb ob : Nat} {x y : Blank} (h : G1F W gj gb o1 o2 n cb ob x y) (hb : Below W.heap.size W W') : G1F W' gj gb o1 o2 n cb ob x y :=
  ⟨cell_keep hb h.j, h.x.keep hb, h.y.keep hb⟩
structure C2F (W : World) (g6 g7 : Nat) (x y : Blank) : Prop where
  a : W.cell? ⟨g6, 2, none⟩ = some (.int .i64 x.length)
  b : W.cell? ⟨g6, 3, none⟩ = some (.int .i64 x.width)
  c : W.cell? ⟨g7, 2, none⟩ = some (.int .i64 y.length)
  d : W.cell? ⟨g7, 3, none⟩ = some (.int .i64 y.width)
def cmpB (x y : Blank) : Int := orI (cmpI (y.length * y.width) (x.length * x.width)) (cmpI y.length x.length)

set_option maxRecDepth 100000 in
set_option maxHeartbeats 8000000 in
theorem greedy1_any (gj : Nat) (blanks : List Blank) (ab : Option Addr) (cb a b : Nat) (w : World) (hj : w.cell? ⟨gj, 1, none⟩ = some (.slice ab blanks.length cb)) (hb : Blanks.V w ab blanks) (hl : blanks.length ≤ 30) (ha : a < blanks.length) (hb' : b < blanks.length)
    (hsz : ∀ x ∈ blanks, (1 ≤ x.length ∧ x.length ≤ 600000) ∧ (1 ≤ x.width ∧ x.width ≤ 600000)) :
    Calls Tryz.prog 76 #[.int .i64 a, .int .i64 b, .pointer (some ⟨gj, 0, none⟩)] w fun e w' => e = .returned (.int .i64 (cmpB blanks[a] blanks[b])) ∧ (Below w.heap.size w w' ∧ w.drawn ≤ w'.drawn) := by
  obtain ⟨gb, ob, rfl, hx⟩ := hb.at_ ha
  obtain ⟨gb', ob', he, hy⟩ := hb.at_ hb'
  injection he with he
  injection he with e1 e2
  subst e1 e2
  obtain ⟨hs1, hs2⟩ := hsz _ (List.getElem_mem ha)
  obtain ⟨ht1, ht2⟩ := hsz _ (List.getElem_mem hb')
  have hai : (a : Int) < (blanks.length : Int) := by omega
  have hbi : (b : Int) < (blanks.length : Int) := by omega
  generalize blanks[a] = xa at *
  generalize blanks[b] = xb at *
  clear hsz hb ha hb'
  generalize blanks.length = n at *
  obtain ⟨x0, x1, x2, x3, x4, x5, -⟩ := hx
  obtain ⟨y0, y1, y2, y3, y4, y5, -⟩ := hy
  have hp1 : 0 ≤ xa.length * xa.width ∧ xa.length * xa.width ≤ 360000000000 := ⟨Int.mul_nonneg (by omega) (by omega), by have : xa.length * xa.width ≤ 600000 * 600000 := Int.mul_le_mul (by omega) (by omega) (by omega) (by omega); omega⟩
  have hp2 : 0 ≤ xb.length * xb.width ∧ xb.length * xb.width ≤ 360000000000 := ⟨Int.mul_nonneg (by omega) (by omega), by have : xb.length * xb.width ≤ 600000 * 600000 := Int.mul_le_mul (by omega) (by omega) (by omega) (by omega); omega⟩
  have v1 : IntKind.i64.wrap (xa.length * xa.width) = xa.length * xa.width := IntWalk.i64_in _ (by omega)
  have v2 : IntKind.i64.wrap (xb.length * xb.width) = xb.length * xb.width := IntWalk.i64_in _ (by omega)
  have hG : G1F w gj gb (ob + a * 6) (ob + b * 6) n cb ob xa xb := ⟨hj, ⟨x0, x1, x2, x3, x4, x5⟩, ⟨y0, y1, y2, y3, y4, y5⟩⟩
  clear hj x0 x1 x2 x3 x4 x5 y0 y1 y2 y3 y4 y5
  go_enter Tryz.func76, Tryz.ntmps76
  go_upto_region 1 with fail
  haveI n1 : Nonempty (KW (fun W => G1F W gj gb (ob + a * 6) (ob + b * 6) n cb ob xa xb)) := ⟨⟨w, hG⟩⟩
  have kx : ∀ y : KW (fun W => G1F W gj gb (ob + a * 6) (ob + b * 6) n cb ob xa xb), (y.w.cell? ⟨gj, 1, none⟩ = some (.slice (some ⟨gb, ob, none⟩) n cb)) ∧ (y.w.cell? ⟨gb, ob + a * 6, none⟩ = some (.string xa.name) ∧ y.w.cell? ⟨gb, ob + a * 6 + 1, none⟩ = some (.string xa.species) ∧ y.w.cell? ⟨gb, ob + a * 6 + 2, none⟩ = some (.int .i64 xa.length) ∧
      y.w.cell? ⟨gb, ob + a * 6 + 3, none⟩ = some (.int .i64 xa.width) ∧ y.w.cell? ⟨gb, ob + a * 6 + 4, none⟩ = some (.int .i64 xa.thick) ∧ y.w.cell? ⟨gb, ob + a * 6 + 5, none⟩ = some (.int .i64 xa.count)) ∧
      (y.w.cell? ⟨gb, ob + b * 6, none⟩ = some (.string xb.name) ∧ y.w.cell? ⟨gb, ob + b * 6 + 1, none⟩ = some (.string xb.species) ∧ y.w.cell? ⟨gb, ob + b * 6 + 2, none⟩ = some (.int .i64 xb.length) ∧
      y.w.cell? ⟨gb, ob + b * 6 + 3, none⟩ = some (.int .i64 xb.width) ∧ y.w.cell? ⟨gb, ob + b * 6 + 4, none⟩ = some (.int .i64 xb.thick) ∧ y.w.cell? ⟨gb, ob + b * 6 + 5, none⟩ = some (.int .i64 xb.count)) := fun y => ⟨y.ok.j, ⟨y.ok.x.c0, y.ok.x.c1, y.ok.x.c2, y.ok.x.c3, y.ok.x.c4, y.ok.x.c5⟩, ⟨y.ok.y.c0, y.ok.y.c1, y.ok.y.c2, y.ok.y.c3, y.ok.y.c4, y.ok.y.c5⟩⟩
  have HB0 := Lib.hid ((Below.refl w.heap.size w).drew)
  have HD0 := Lib.hid (show w.drawn ≤ w.drew.drawn from Nat.le_succ _)
  have hG := hG.keep (Below.refl _ _).drew
  refine wp_region_odr [(1, fun w' => ∃ y : KW (fun W => G1F W gj gb (ob + a * 6) (ob + b * 6) n cb ob xa xb), w' = y.w), (4, fun w' => ∃ y : KW (fun W => G1F W gj gb (ob + a * 6) (ob + b * 6) n cb ob xa xb), w' = y.w), (6, fun w' => ∃ y : KW (fun W => G1F W gj gb (ob + a * 6) (ob + b * 6) n cb ob xa xb), w' = y.w), (9, fun w' => ∃ y : KW (fun W => G1F W gj gb (ob + a * 6) (ob + b * 6) n cb ob xa xb), w' = y.w)] [1, 4, 6, 9] 13
    (.take 0 (.take 1 (.take 2 (.take 3 (.take 4 (.take 5 (.take 6 (.take 7 (.take 8 (.take 9 (.two 10 [1, 4, 6, 9] (.one 11 [1, 4, 6, 9] (.one 12 [6, 9] .done)) 11 [1, 4, 6, 9] (.one 10 [1, 4, 6, 9] (.one 12 [6, 9] .done))))))))))))) rfl (by kernel_rfl) (by kernel_rfl) ?_
  generalize w.drew = w1 at *
  repeat (refine wpOdr_take (by first | exact trivial | exact KW.mk' hG) ?_; simp only [nthOp]; (first | go_big_quiet_step (fail) | quiet_step (fail)); refine wpQuiet_nil ?_)
  refine wpOdr_two ?_ ?_
  · obtain ⟨g6, hg6⟩ : ∃ g, g = w1.heap.size := ⟨_, rfl⟩
    obtain ⟨g7, hg7⟩ : ∃ g, g = w1.heap.size + 1 := ⟨_, rfl⟩
    simp only [nthOp]
    go_wp2_with fail
    refine One_odr (by repeat (first | exact Obl.nil | (refine Obl.out rfl ?_) | (refine Obl.in (KW.mk' (hG.keep (Below.alloc (Below.refl _ _) (Nat.le_refl _) _))) ?_))) ?_
    refine wpOdr_one ?_
    simp only [nthOp]
    go_wp2_with fail
    refine One_odr (by repeat (first | exact Obl.nil | (refine Obl.out rfl ?_) | (refine Obl.in (KW.mk' ((hG.keep (Below.alloc (Below.refl _ _) (Nat.le_refl _) _)).keep (Below.alloc (Below.refl _ _) (Nat.le_refl _) _))) ?_))) ?_
    refine wpOdr_one ?_
    simp only [nthOp]
    go_wp2_with fail
    refine One_odr (by repeat (first | exact Obl.nil | (refine Obl.out rfl ?_) | (refine Obl.in (KW.mk' ((hG.keep (Below.alloc (Below.refl _ _) (Nat.le_refl _) _)).keep (Below.alloc (Below.refl _ _) (Nat.le_refl _) _))) ?_))) (wpOdr_done ?_)
    simp only [List.drop_succ_cons, List.drop_zero]
    go_wp2_with fail
    refine NP_mk ?_
    go_upto_region 2 with fail
    refine gen_world (fun W => C2F W g6 g7 xa xb ∧ Below w.heap.size w W ∧ w.drawn ≤ W.drawn) ⟨⟨by simp [hg6, hg7], by simp [hg6, hg7], by simp [hg6, hg7], by simp [hg6, hg7]⟩, (HB0.out.alloc HB0.out.size _).alloc (by have := HB0.out.size; simp; omega) _, HD0.out⟩ ?_
    rintro W ⟨hF, hbW, hdW⟩
    first | rw [← hg6, ← hg7] | rw [← hg7, ← hg6]
    have HB2 := Lib.hid hbW
    have HD2 := Lib.hid hdW
    have hzW := hbW.size
    clear hbW hdW hG HB0 HD0 hg6 hg7 kx n1
    haveI n2 : Nonempty (KW (fun W => C2F W g6 g7 xa xb)) := ⟨⟨W, hF⟩⟩
    have k2 : ∀ y : KW (fun W => C2F W g6 g7 xa xb), (y.w.cell? ⟨g6, 2, none⟩ = some (.int .i64 xa.length) ∧ y.w.cell? ⟨g6, 3, none⟩ = some (.int .i64 xa.width)) ∧ (y.w.cell? ⟨g7, 2, none⟩ = some (.int .i64 xb.length) ∧ y.w.cell? ⟨g7, 3, none⟩ = some (.int .i64 xb.width)) := fun y => ⟨⟨y.ok.a, y.ok.b⟩, y.ok.c, y.ok.d⟩
    have HB3 := Lib.hid (HB2.out.drew)
    have HD3 := Lib.hid (show w.drawn ≤ W.drew.drawn from Nat.le_succ_of_le HD2.out)
    have hG : C2F W.drew g6 g7 xa xb := ⟨hF.a, hF.b, hF.c, hF.d⟩
    refine wp_region_odr [(1, fun w' => ∃ y : KW (fun W => C2F W g6 g7 xa xb), w' = y.w), (3, fun w' => ∃ y : KW (fun W => C2F W g6 g7 xa xb), w' = y.w), (6, fun w' => ∃ y : KW (fun W => C2F W g6 g7 xa xb), w' = y.w), (8, fun w' => ∃ y : KW (fun W => C2F W g6 g7 xa xb), w' = y.w), (12, fun w' => ∃ y : KW (fun W => C2F W g6 g7 xa xb), w' = y.w), (14, fun w' => ∃ y : KW (fun W => C2F W g6 g7 xa xb), w' = y.w)] [1, 3, 6, 8, 12, 14] 15
      (.take 0 (.take 1 (.take 2 (.take 3 (.take 4 (.take 5 (.take 6 (.take 7 (.take 8 (.take 9 (.take 11 (.take 12 (.take 13 (.take 14 (.one 10 [1, 3, 6, 8, 12, 14] .done))))))))))))))) rfl (by kernel_rfl) (by kernel_rfl) ?_
    have hzD : W.heap.size = W.drew.heap.size := rfl
    generalize W.drew = W4 at *
    repeat (refine wpOdr_take (by first | exact trivial | exact KW.mk' hG) ?_; simp only [nthOp]; (first | go_big_quiet_step (fail) | quiet_step (fail)); refine wpQuiet_nil ?_)
    refine wpOdr_one ?_
    simp only [nthOp]
    go_wp2_with (go_at_call 60; refine (compare_any _ _ _).mono ?_; rintro e w' ⟨rfl, rfl⟩)
    refine One_odr (by repeat (first | exact Obl.nil | (refine Obl.out rfl ?_) | (refine Obl.in (KW.mk' hG) ?_))) (wpOdr_done ?_)
    simp only [List.drop_succ_cons, List.drop_zero]
    go_wp2_with (first
      | (go_at_call 60; refine (compare_any _ _ _).mono ?_; rintro e w' ⟨rfl, rfl⟩)
      | (go_at_call 77; refine (or_any (cmpI (xb.length * xb.width) (xa.length * xa.width)) (cmpI xb.length xa.length) _ 0 _ _ (by simp) (by simp)).mono ?_; rintro e w' ⟨rfl, rfl⟩))
    refine NP_mk ?_
    go_wp2_with fail
    go_ret
    exact ⟨rfl, HB3.out.alloc HB3.out.size _, HD3.out⟩
  · obtain ⟨g6, hg6⟩ : ∃ g, g = w1.heap.size + 1 := ⟨_, rfl⟩
    obtain ⟨g7, hg7⟩ : ∃ g, g = w1.heap.size := ⟨_, rfl⟩
    simp only [nthOp]
    go_wp2_with fail
    refine One_odr (by repeat (first | exact Obl.nil | (refine Obl.out rfl ?_) | (refine Obl.in (KW.mk' (hG.keep (Below.alloc (Below.refl _ _) (Nat.le_refl _) _))) ?_))) ?_
    refine wpOdr_one ?_
    simp only [nthOp]
    go_wp2_with fail
    refine One_odr (by repeat (first | exact Obl.nil | (refine Obl.out rfl ?_) | (refine Obl.in (KW.mk' ((hG.keep (Below.alloc (Below.refl _ _) (Nat.le_refl _) _)).keep (Below.alloc (Below.refl _ _) (Nat.le_refl _) _))) ?_))) ?_
    refine wpOdr_one ?_
    simp only [nthOp]
    go_wp2_with fail
    refine One_odr (by repeat (first | exact Obl.nil | (refine Obl.out rfl ?_) | (refine Obl.in (KW.mk' ((hG.keep (Below.alloc (Below.refl _ _) (Nat.le_refl _) _)).keep (Below.alloc (Below.refl _ _) (Nat.le_refl _) _))) ?_))) (wpOdr_done ?_)
    simp only [List.drop_succ_cons, List.drop_zero]
    go_wp2_with fail
    refine NP_mk ?_
    go_upto_region 2 with fail
    refine gen_world (fun W => C2F W g6 g7 xa xb ∧ Below w.heap.size w W ∧ w.drawn ≤ W.drawn) ⟨⟨by simp [hg6, hg7], by simp [hg6, hg7], by simp [hg6, hg7], by simp [hg6, hg7]⟩, (HB0.out.alloc HB0.out.size _).alloc (by have := HB0.out.size; simp; omega) _, HD0.out⟩ ?_
    rintro W ⟨hF, hbW, hdW⟩
    first | rw [← hg6, ← hg7] | rw [← hg7, ← hg6]
    have HB2 := Lib.hid hbW
    have HD2 := Lib.hid hdW
    have hzW := hbW.size
    clear hbW hdW hG HB0 HD0 hg6 hg7 kx n1
    haveI n2 : Nonempty (KW (fun W => C2F W g6 g7 xa xb)) := ⟨⟨W, hF⟩⟩
    have k2 : ∀ y : KW (fun W => C2F W g6 g7 xa xb), (y.w.cell? ⟨g6, 2, none⟩ = some (.int .i64 xa.length) ∧ y.w.cell? ⟨g6, 3, none⟩ = some (.int .i64 xa.width)) ∧ (y.w.cell? ⟨g7, 2, none⟩ = some (.int .i64 xb.length) ∧ y.w.cell? ⟨g7, 3, none⟩ = some (.int .i64 xb.width)) := fun y => ⟨⟨y.ok.a, y.ok.b⟩, y.ok.c, y.ok.d⟩
    have HB3 := Lib.hid (HB2.out.drew)
    have HD3 := Lib.hid (show w.drawn ≤ W.drew.drawn from Nat.le_succ_of_le HD2.out)
    have hG : C2F W.drew g6 g7 xa xb := ⟨hF.a, hF.b, hF.c, hF.d⟩
    refine wp_region_odr [(1, fun w' => ∃ y : KW (fun W => C2F W g6 g7 xa xb), w' = y.w), (3, fun w' => ∃ y : KW (fun W => C2F W g6 g7 xa xb), w' = y.w), (6, fun w' => ∃ y : KW (fun W => C2F W g6 g7 xa xb), w' = y.w), (8, fun w' => ∃ y : KW (fun W => C2F W g6 g7 xa xb), w' = y.w), (12, fun w' => ∃ y : KW (fun W => C2F W g6 g7 xa xb), w' = y.w), (14, fun w' => ∃ y : KW (fun W => C2F W g6 g7 xa xb), w' = y.w)] [1, 3, 6, 8, 12, 14] 15
      (.take 0 (.take 1 (.take 2 (.take 3 (.take 4 (.take 5 (.take 6 (.take 7 (.take 8 (.take 9 (.take 11 (.take 12 (.take 13 (.take 14 (.one 10 [1, 3, 6, 8, 12, 14] .done))))))))))))))) rfl (by kernel_rfl) (by kernel_rfl) ?_
    have hzD : W.heap.size = W.drew.heap.size := rfl
    generalize W.drew = W4 at *
    repeat (refine wpOdr_take (by first | exact trivial | exact KW.mk' hG) ?_; simp only [nthOp]; (first | go_big_quiet_step (fail) | quiet_step (fail)); refine wpQuiet_nil ?_)
    refine wpOdr_one ?_
    simp only [nthOp]
    go_wp2_with (go_at_call 60; refine (compare_any _ _ _).mono ?_; rintro e w' ⟨rfl, rfl⟩)
    refine One_odr (by repeat (first | exact Obl.nil | (refine Obl.out rfl ?_) | (refine Obl.in (KW.mk' hG) ?_))) (wpOdr_done ?_)
    simp only [List.drop_succ_cons, List.drop_zero]
    go_wp2_with (first
      | (go_at_call 60; refine (compare_any _ _ _).mono ?_; rintro e w' ⟨rfl, rfl⟩)
      | (go_at_call 77; refine (or_any (cmpI (xb.length * xb.width) (xa.length * xa.width)) (cmpI xb.length xa.length) _ 0 _ _ (by simp) (by simp)).mono ?_; rintro e w' ⟨rfl, rfl⟩))
    refine NP_mk ?_
    go_wp2_with fail
    go_ret
    exact ⟨rfl, HB3.out.alloc HB3.out.size _, HD3.out⟩
end Go.Proofs.YtpaindkfbgoogaaGreat
