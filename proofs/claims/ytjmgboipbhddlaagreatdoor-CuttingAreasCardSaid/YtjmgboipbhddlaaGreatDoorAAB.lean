import Derived.Test.YtjmgboipbhddlaaGreatDoorAA8
set_option linter.unusedVariables false
set_option linter.unusedSimpArgs false
namespace Go.Proofs.YtjmgboipbhddlaaGreatDoor
open Go Go.RowKit Go.Sort Go.Lib

set_option maxRecDepth 100000 in
set_option maxHeartbeats 8000000 in
theorem sameBoard_same (b : Board) (a1 a2 : Option Addr) (c1 c2 : Nat) (w : World) (h1 : Rects.V w a1 b.defects) (h2 : Rects.V w a2 b.defects) (hl : b.defects.length ≤ 1000000) :
    Calls Tryz.prog 39 #[.agg #[.string b.name, .string b.species, .int .i64 b.length, .int .i64 b.width, .int .i64 b.thick, .int .i64 b.cut, .int .i64 b.moisture, .slice a1 b.defects.length c1], .agg #[.string b.name, .string b.species, .int .i64 b.length, .int .i64 b.width, .int .i64 b.thick, .int .i64 b.cut, .int .i64 b.moisture, .slice a2 b.defects.length c2]] w fun e w' => e = .returned (.bool true) ∧ Below w.heap.size w w' := by
 have H1 := Lib.hid h1
 have H2 := Lib.hid h2
 clear h1 h2
 have hs : ∀ s : ByteArray, (s.toList != s.toList) = false := fun s => by simp
 have hi : ∀ s : Int, (s != s) = false := fun s => by simp
 go_enter Tryz.func39, Tryz.ntmps39
 go_upto_region 1 with fail
 refine gen_world (fun W => CellsBd W w.heap.size 0 b a1 c1 ∧ CellsBd W (w.heap.size + 1) 0 b a2 c2 ∧ Below w.heap.size w W ∧ w.heap.size + 1 < W.heap.size) ⟨⟨by simp [go_sem], by simp [go_sem], by simp [go_sem], by simp [go_sem], by simp [go_sem], by simp [go_sem], by simp [go_sem], by simp [go_sem]⟩, ⟨by simp [go_sem], by simp [go_sem], by simp [go_sem], by simp [go_sem], by simp [go_sem], by simp [go_sem], by simp [go_sem], by simp [go_sem]⟩, by repeat (first | (with_reducible assumption) | exact Below.refl _ _ | (refine Below.setCell ?_ (by first | omega | (simp; omega) | (simp; done)) _) | (refine Below.alloc ?_ (by first | omega | (simp; omega) | (simp; done)) _) | (refine Below.drew ?_)), by simp⟩ ?_
 rintro W ⟨ha, hb, hbW, hz⟩
 obtain ⟨g2, hg2⟩ : ∃ g, g = w.heap.size := ⟨_, rfl⟩
 obtain ⟨g3, hg3⟩ : ∃ g, g = w.heap.size + 1 := ⟨_, rfl⟩
 rw [← hg3] at hb
 rw [← hg2] at ha
 rw [← hg3, ← hg2]
 have HA := Lib.hid ha.c7
 have HB := Lib.hid hb.c7
 have HBW := Lib.hid hbW
 obtain ⟨d0, d1, d2, d3, d4, d5, d6, d7⟩ := ha
 obtain ⟨e0, e1, e2, e3, e4, e5, e6, e7⟩ := hb
 simp only [Nat.zero_add] at d0 d1 d2 d3 d4 d5 d6 d7 e0 e1 e2 e3 e4 e5 e6 e7
 clear hbW hg2 hg3 hz
 go_wp2_with fail
 clear d0 d1 d2 d3 d4 d5 d6 d7 e0 e1 e2 e3 e4 e5 e6 e7
 go_loopw [5] (fun iv wr => ∃ k : Nat, k ≤ b.defects.length ∧ iv = .int .i64 k ∧ Below W.heap.size W wr) (fun iv _ => b.defects.length - (intOf iv).toNat)
 case atStart => exact ⟨0, Nat.zero_le _, rfl, Below.refl _ _⟩
 case round =>
  obtain ⟨k, hk, rfl, hbr⟩ := hrel
  have HR := Lib.hid hbr
  have d7 := cell_keep hbr HA.out
  have e7 := cell_keep hbr HB.out
  simp only [Nat.zero_add] at d7 e7
  by_cases hlt : k < b.defects.length
  ·have hki : (k : Int) < (b.defects.length : Int) := by omega
   have v1 : IntKind.i64.wrap ((k : Int) + 1) = (k : Int) + 1 := IntWalk.i64_in _ (by omega)
   obtain ⟨la, oa, hla, x0, x1, x2, x3, -⟩ := ((H1.out.keep HBW.out).keep hbr).at_ hlt
   obtain ⟨lb, ob, hlb, y0, y1, y2, y3, -⟩ := ((H2.out.keep HBW.out).keep hbr).at_ hlt
   subst hla hlb
   generalize b.defects[k] = d at *
   have hne : ∀ w, (binOp .neq 41 (.agg #[.int .i64 d.x1, .int .i64 d.y1, .int .i64 d.x2, .int .i64 d.y2]) (.agg #[.int .i64 d.x1, .int .i64 d.y1, .int .i64 d.x2, .int .i64 d.y2])).run Tryz.prog w = .ok (.bool false) w := fun w => by rw [rect_neq]; simp
   clear hbr
   go_upto_region 6 with fail
   go_quiet (fail)
   go_wp2_with fail
   go_roundw
   case rel => exact ⟨k + 1, by omega, by go_num, below_drewN HR.out _⟩
   case measure => first | (simp [intOf]; done) | (simp [intOf]; omega)
  ·obtain rfl : k = b.defects.length := by omega
   have hki : ¬ ((b.defects.length : Nat) : Int) < ((b.defects.length : Nat) : Int) := by omega
   clear hbr
   go_wp2_with fail
   go_ret
   exact ⟨rfl, HBW.out.trans (HR.out.mono HBW.out.size)⟩
set_option maxRecDepth 100000 in
set_option maxHeartbeats 8000000 in
theorem sameBoards_same (l : List Board) (a1 a2 : Option Addr) (c1 c2 : Nat) (w : World) (h1 : Boards.V w a1 l) (h2 : Boards.V w a2 l) (hl : l.length ≤ 1000000) (hd : ∀ b ∈ l, b.defects.length ≤ 1000000) :
    Calls Tryz.prog 13 #[.slice a1 l.length c1, .slice a2 l.length c2] w fun e w' => e = .returned (.bool true) ∧ Below w.heap.size w w' := by
 have hmix : Tryz.prog.follows .mixedOrders = true := by kernel_rfl
 have H1 := Lib.hid h1
 have H2 := Lib.hid h2
 have HD := Lib.hid hd
 clear h1 h2 hd
 have hi : ∀ s : Int, (s != s) = false := fun s => by simp
 go_enter Tryz.func13, Tryz.ntmps13
 go_wp2_with fail
 go_loopw [5] (fun iv wr => ∃ k : Nat, k ≤ l.length ∧ iv = .int .i64 k ∧ Below w.heap.size w wr) (fun iv _ => l.length - (intOf iv).toNat)
 case atStart => exact ⟨0, Nat.zero_le _, rfl, Below.refl _ _⟩
 case round =>
  obtain ⟨k, hk, rfl, hbr⟩ := hrel
  have HR := Lib.hid hbr
  obtain ⟨wo, rfl⟩ : ∃ wo : World, wo = wr := ⟨_, rfl⟩
  by_cases hlt : k < l.length
  ·have hki : (k : Int) < (l.length : Int) := by omega
   have v1 : IntKind.i64.wrap ((k : Int) + 1) = (k : Int) + 1 := IntWalk.i64_in _ (by omega)
   obtain ⟨la, oa, hla, ad, cd, x0, x1, x2, x3, x4, x5, x6, x7, hr1, -⟩ := (H1.out.keep hbr).at_ hlt
   obtain ⟨lb, ob, hlb, ad2, cd2, y0, y1, y2, y3, y4, y5, y6, y7, hr2, -⟩ := (H2.out.keep hbr).at_ hlt
   subst hla hlb
   have hdl := HD.out _ (List.getElem_mem hlt)
   generalize l[k] = b at *
   have HSB := Lib.hid (fun (w9 : World) (h : Below wo.heap.size wo w9) => sameBoard_same b ad ad2 cd cd2 w9 (hr1.keep h) (hr2.keep h) hdl)
   have HW0 := Lib.hid (Below.refl wo.heap.size wo)
   clear hbr hr1 hr2
   go_upto_region 6 with fail
   have kx0 : ∀ u : KW (fun W' => Below wo.heap.size wo W'), (u.w.cell? ⟨la, oa + k * 8, none⟩ = some (.string b.name) ∧ u.w.cell? ⟨la, oa + k * 8 + 1, none⟩ = some (.string b.species)) ∧ (u.w.cell? ⟨la, oa + k * 8 + 2, none⟩ = some (.int .i64 b.length) ∧ u.w.cell? ⟨la, oa + k * 8 + 3, none⟩ = some (.int .i64 b.width)) ∧ (u.w.cell? ⟨la, oa + k * 8 + 4, none⟩ = some (.int .i64 b.thick) ∧ u.w.cell? ⟨la, oa + k * 8 + 5, none⟩ = some (.int .i64 b.cut)) ∧ u.w.cell? ⟨la, oa + k * 8 + 6, none⟩ = some (.int .i64 b.moisture) ∧ u.w.cell? ⟨la, oa + k * 8 + 7, none⟩ = some (.slice ad b.defects.length cd) := fun u => ⟨⟨cell_keep u.ok x0, cell_keep u.ok x1⟩, ⟨cell_keep u.ok x2, cell_keep u.ok x3⟩, ⟨cell_keep u.ok x4, cell_keep u.ok x5⟩, cell_keep u.ok x6, cell_keep u.ok x7⟩
   have kx1 : ∀ u : KW (fun W' => Below wo.heap.size wo W'), (u.w.cell? ⟨lb, ob + k * 8, none⟩ = some (.string b.name) ∧ u.w.cell? ⟨lb, ob + k * 8 + 1, none⟩ = some (.string b.species)) ∧ (u.w.cell? ⟨lb, ob + k * 8 + 2, none⟩ = some (.int .i64 b.length) ∧ u.w.cell? ⟨lb, ob + k * 8 + 3, none⟩ = some (.int .i64 b.width)) ∧ (u.w.cell? ⟨lb, ob + k * 8 + 4, none⟩ = some (.int .i64 b.thick) ∧ u.w.cell? ⟨lb, ob + k * 8 + 5, none⟩ = some (.int .i64 b.cut)) ∧ u.w.cell? ⟨lb, ob + k * 8 + 6, none⟩ = some (.int .i64 b.moisture) ∧ u.w.cell? ⟨lb, ob + k * 8 + 7, none⟩ = some (.slice ad2 b.defects.length cd2) := fun u => ⟨⟨cell_keep u.ok y0, cell_keep u.ok y1⟩, ⟨cell_keep u.ok y2, cell_keep u.ok y3⟩, ⟨cell_keep u.ok y4, cell_keep u.ok y5⟩, cell_keep u.ok y6, cell_keep u.ok y7⟩
   haveI nn1 : Nonempty (KW (fun W' => Below wo.heap.size wo W')) := ⟨⟨wo, Below.refl _ _⟩⟩
   clear x0 x1 x2 x3 x4 x5 x6 x7 y0 y1 y2 y3 y4 y5 y6 y7
   refine wp_region_tree (fun w' => ∃ u : KW (fun W' => Below wo.heap.size wo W'), w' = u.w) 8 (.take 0 (.take 1 (.take 2 (.take 3 (.take 4 (.take 5 (.take 6 (.take 7 .done)))))))) hmix (by kernel_rfl) (KW.mk' (Below.refl _ _).drew) ?_
   have HCz := Lib.hid (show Below wo.heap.size wo wo.drew from (Below.refl _ _).drew)
   generalize wo.drew = wz at *
   repeat (refine wpTree_take ?_; simp only [nthOp]; (first | go_big_quiet_step (fail) | quiet_step (fail)); refine wpQuiet_nil ?_)
   refine wpTree_done ?_
   simp only [List.drop_succ_cons, List.drop_zero]
   clear kx0 kx1 nn1
   go_wp2_with (go_at_call 39; refine (HSB.out _ HCz.out).mono ?_; rintro e wa ⟨rfl, hb⟩; have HCa := Lib.hid (HCz.out.trans (hb.mono HCz.out.size)); clear hb)
   refine NP_mk ?_
   go_wp2_with fail
   go_roundw
   case rel => exact ⟨k + 1, by omega, by go_num, HR.out.trans (HCa.out.mono HR.out.size)⟩
   case measure => first | (simp [intOf]; done) | (simp [intOf]; omega)
  ·obtain rfl : k = l.length := by omega
   have hki : ¬ ((l.length : Nat) : Int) < ((l.length : Nat) : Int) := by omega
   clear hbr
   go_wp2_with fail
   go_ret
   exact ⟨rfl, HR.out⟩
end Go.Proofs.YtjmgboipbhddlaaGreatDoor
