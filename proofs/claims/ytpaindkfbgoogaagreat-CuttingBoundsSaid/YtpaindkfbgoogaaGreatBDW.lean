/- Division rounded, of the document: greater numbers. -/
import Derived.Test.YtpaindkfbgoogaaGreatBDY
import Derived.Test.YtpaindkfbgoogaaGreatBDZ
set_option linter.unusedVariables false
set_option linter.unusedSimpArgs false
namespace Go.Proofs.YtpaindkfbgoogaaGreat
open Go Go.RowKit Go.Sort Go.Lib

def modM (n m : Int) : Int := if n.tmod m < 0 then n.tmod m + m else n.tmod m
theorem modM_eq {n m : Int} (hm : 0 < m) : modM n m = n % m := by
  unfold modM
  have h1 := Int.mul_tdiv_add_tmod n m
  have h2 := Int.tmod_lt_of_pos n hm
  have h3 := Int.lt_tmod_of_pos n hm
  split
  · refine (Int.emod_eq_iff (by omega) |>.2 ⟨by omega, by omega, ?_⟩).symm
    exact ⟨1 - n.tdiv m, by generalize n.tmod m = r at *; generalize n.tdiv m = t at *; grind⟩
  · refine (Int.emod_eq_iff (by omega) |>.2 ⟨by omega, by omega, ?_⟩).symm
    exact ⟨-n.tdiv m, by generalize n.tmod m = r at *; generalize n.tdiv m = t at *; grind⟩
theorem floorM_eq {a b : Int} (hb : 0 < b) : (a - a % b).tdiv b = a / b := by
  have h1 := Int.mul_ediv_add_emod a b
  rw [show a - a % b = b * (a / b) by omega, Int.mul_tdiv_cancel_left _ (by omega)]
theorem tdiv_bd {a b : Int} (hb : 1 ≤ b) (h : -4611686018427387904 ≤ a ∧ a ≤ 4611686018427387904) : -4611686018427387904 ≤ a.tdiv b ∧ a.tdiv b ≤ 4611686018427387904 := by
  have h1 := Int.natAbs_tdiv_le_natAbs a b
  omega
theorem tmod_bd {a b : Int} (hb : 1 ≤ b) : -b < a.tmod b ∧ a.tmod b < b := ⟨Int.lt_tmod_of_pos a hb, Int.tmod_lt_of_pos a hb⟩
set_option maxHeartbeats 1000000 in
theorem modR_any (n d : Int) (w : World) (hd : 1 ≤ d ∧ d ≤ 1000000000000) (h : -4000000000000000 ≤ n ∧ n ≤ 4000000000000000) :
    Calls Tryz.prog 105 #[.int .i64 n, .int .i64 d] w fun e w' => e = .returned (.int .i64 (n % d)) ∧ w = w' := by
  have hf := modM_eq (n := n) (m := d) (by omega)
  unfold modM at hf
  obtain ⟨Z, hZ⟩ : ∃ Z, Z = n % d := ⟨_, rfl⟩
  rw [← hZ] at hf ⊢
  clear hZ
  have hd0 : ¬ d = 0 := by omega
  have hb := tmod_bd (a := n) hd.1
  have v1 : IntKind.i64.wrap (n.tmod d) = n.tmod d := IntWalk.i64_in _ (by omega)
  by_cases hn : n.tmod d < 0
  · rw [if_pos hn] at hf
    have v2 : IntKind.i64.wrap (n.tmod d + d) = n.tmod d + d := IntWalk.i64_in _ (by omega)
    have HF := Lib.hid hf
    clear hf hb
    go_enter Tryz.func105, Tryz.ntmps105
    go_wp2_with fail
    go_ret
    exact ⟨by rw [← HF.out]; first | rfl | simp [v1, v2], rfl⟩
  · rw [if_neg hn] at hf
    have HF := Lib.hid hf
    clear hf hb
    go_enter Tryz.func105, Tryz.ntmps105
    go_wp2_with fail
    go_ret
    exact ⟨by rw [← HF.out]; first | rfl | simp [v1], rfl⟩
set_option maxHeartbeats 1000000 in
theorem floorR_any (n d : Int) (w : World) (hd : 1 ≤ d ∧ d ≤ 1000000000000) (h : -3000000000000000 ≤ n ∧ n ≤ 3000000000000000) :
    Calls Tryz.prog 73 #[.int .i64 n, .int .i64 d] w fun e w' => e = .returned (.int .i64 (n / d)) ∧ w = w' := by
  have HM := Lib.hid (modR_any n d w hd (by omega))
  have hf := floorM_eq (a := n) (b := d) (by omega)
  have h1 := Int.emod_nonneg n (show d ≠ 0 by omega)
  have h2 := Int.emod_lt_of_pos n (show 0 < d by omega)
  obtain ⟨Z, hZ⟩ : ∃ Z, Z = n / d := ⟨_, rfl⟩
  obtain ⟨R, hR⟩ : ∃ R, R = n % d := ⟨_, rfl⟩
  rw [← hR] at HM hf h1 h2
  rw [← hZ] at hf ⊢
  clear hZ hR
  have hd0 : ¬ d = 0 := by omega
  have hb := tdiv_bd (a := n - R) hd.1 (by omega)
  have v1 : IntKind.i64.wrap (n - R) = n - R := IntWalk.i64_in _ (by omega)
  have v4 : IntKind.i64.wrap ((n - R).tdiv d) = (n - R).tdiv d := IntWalk.i64_in _ (by omega)
  have HF := Lib.hid hf
  clear hf hb
  go_enter Tryz.func73, Tryz.ntmps73
  go_wp2_with (go_at_call 105; refine HM.out.mono ?_; rintro e w' ⟨rfl, rfl⟩)
  go_ret
  exact ⟨by rw [← HF.out]; first | rfl | simp [v1, v4], rfl⟩
set_option maxHeartbeats 1000000 in
theorem ceilR_any (n d : Int) (w : World) (hd : 1 ≤ d ∧ d ≤ 1000000000000) (h : -3000000000000000 ≤ n ∧ n ≤ 3000000000000000) :
    Calls Tryz.prog 44 #[.int .i64 n, .int .i64 d] w fun e w' => e = .returned (.int .i64 (-(-n / d))) ∧ w = w' := by
  have HM := Lib.hid (floorR_any (-n) d w hd (by omega))
  have hb : -3000000000000000 ≤ -n / d ∧ -n / d ≤ 3000000000000000 := by
    have h1 : -n / d ≤ 3000000000000000 := by
      rcases Int.le_total 0 (-n) with h0 | h0
      · have := Int.ediv_le_self d h0; omega
      · have := Int.ediv_le_ediv (show 0 < d by omega) h0; rw [Int.zero_ediv] at this; omega
    have h2 : -3000000000000000 ≤ -n / d := by
      refine (Int.le_ediv_iff_mul_le (by omega)).2 ?_
      have : (3000000000000000 : Int) * 1 ≤ 3000000000000000 * d := Int.mul_le_mul_of_nonneg_left hd.1 (by omega)
      omega
    exact ⟨h2, h1⟩
  obtain ⟨Z, hZ⟩ : ∃ Z, Z = -n / d := ⟨_, rfl⟩
  rw [← hZ] at HM hb ⊢
  clear hZ
  have v1 : IntKind.i64.wrap (-n) = -n := IntWalk.i64_in _ (by omega)
  have v2 : IntKind.i64.wrap (-Z) = -Z := IntWalk.i64_in _ (by omega)
  go_enter Tryz.func44, Tryz.ntmps44
  go_wp2_with (go_at_call 73; refine HM.out.mono ?_; rintro e w' ⟨rfl, rfl⟩)
  go_ret
  exact ⟨by first | rfl | simp [v1, v2], rfl⟩
theorem ceil_int {n d : Nat} (hd : 1 ≤ d) : -(-(n : Int) / (d : Int)) = ((ceilN n d : Nat) : Int) := by
  unfold ceilN
  rw [Int.natCast_ediv, show ((n + d - 1 : Nat) : Int) = (n : Int) + (d : Int) - 1 by omega]
  have h1 := Int.mul_ediv_add_emod (-(n : Int)) (d : Int)
  have h2 := Int.emod_nonneg (-(n : Int)) (show (d : Int) ≠ 0 by omega)
  have h3 := Int.emod_lt_of_pos (-(n : Int)) (show 0 < (d : Int) by omega)
  symm
  rw [Int.ediv_eq_iff_of_pos (by omega)]
  generalize -(n : Int) / (d : Int) = q at *
  generalize -(n : Int) % (d : Int) = r at *
  constructor
  · have : (d : Int) * q = -(n : Int) - r := by omega
    rw [show -q * (d : Int) = -((d : Int) * q) by grind]
    omega
  · have : (d : Int) * q = -(n : Int) - r := by omega
    rw [show -q * (d : Int) = -((d : Int) * q) by grind]
    omega
theorem ceilN_any (n d : Nat) (w : World) (hd : 1 ≤ d ∧ d ≤ 1000000000000) (h : n ≤ 3000000000000000) :
    Calls Tryz.prog 44 #[.int .i64 (n : Int), .int .i64 (d : Int)] w fun e w' => e = .returned (.int .i64 ((ceilN n d : Nat) : Int)) ∧ w = w' := by
  have h1 := ceilR_any (n : Int) (d : Int) w (by omega) (by omega)
  rw [ceil_int hd.1] at h1
  exact h1
end Go.Proofs.YtpaindkfbgoogaaGreat
/- The greatest sides of a species, of the document. -/
set_option linter.unusedVariables false
set_option linter.unusedSimpArgs false
namespace Go.Proofs.YtpaindkfbgoogaaGreat
open Go Go.RowKit Go.Sort Go.Lib

/-- A rectangle in a box that slot 9 holds. -/
def SdCut (W0 : World) (r : Rect) (u : Nat → Value) (W : World) : Prop := ∃ g : Nat, u 9 = .pointer (some ⟨g, 0, none⟩) ∧ RectC W g r ∧ Below W0.heap.size W0 W
theorem RectC.set4 {w : World} {g : Nat} {q : Rect} (h : RectC w g q) (r : Rect) : RectC ((((w.setCell ⟨g, 0, none⟩ (.int .i64 r.x1)).setCell ⟨g, 1, none⟩ (.int .i64 r.y1)).setCell ⟨g, 2, none⟩ (.int .i64 r.x2)).setCell ⟨g, 3, none⟩ (.int .i64 r.y2)) g r :=
  ⟨(set_cell (set_cell (set_cell (set_cell h.c0)))).trans (by simp), (set_cell (set_cell (set_cell (set_cell h.c1)))).trans (by simp), (set_cell (set_cell (set_cell (set_cell h.c2)))).trans (by simp), (set_cell (set_cell (set_cell (set_cell h.c3)))).trans (by simp)⟩
/-- A rectangle's box, free. -/
structure RcZ (W : World) (g : Nat) (q : Rect) : Prop where
  c : RectC W g q
  f0 : W.frozen? ⟨g, 0, none⟩ = false
  f1 : W.frozen? ⟨g, 1, none⟩ = false
  f2 : W.frozen? ⟨g, 2, none⟩ = false
  f3 : W.frozen? ⟨g, 3, none⟩ = false
theorem RcZ.keep {W W' : World} {g : Nat} {q : Rect} (h : RcZ W g q) (hb : Below W.heap.size W W') : RcZ W' g q := by
  have hl : g < W.heap.size := by have := block_lt_of_cell h.c.c0; simpa using this
  exact ⟨h.c.keep hb, frozen_keep hb hl h.f0, frozen_keep hb hl h.f1, frozen_keep hb hl h.f2, frozen_keep hb hl h.f3⟩
set_option maxRecDepth 100000 in
set_option maxHeartbeats 8000000 in
theorem sidesR_any (j : Job) (a1 : Option Addr) (c1 : Nat) (a2 : Option Addr) (c2 : Nat) (sp : ByteArray) (w : World) (hs : Boards.V w a1 j.stock) (hJ : JobOk j.stock j.blanks j.trim) :
    Calls Tryz.prog 39 #[.agg #[.slice a1 j.stock.length c1, .slice a2 j.blanks.length c2, .int .i64 j.trim.kerf, .int .i64 j.trim.ends, .int .i64 j.trim.sides], .string sp] w fun e w' => e = .returned (.tuple #[.int .i64 (roomM j sp).1, .int .i64 (roomM j sp).2]) ∧ Below w.heap.size w w' := by
  have hmix : Tryz.prog.follows .mixedOrders = true := by kernel_rfl
  obtain ⟨AD, CD, hSC⟩ := stock_ch hs
  have HSC := Lib.hid hSC
  have HJ := Lib.hid hJ
  have hN := hJ.lenS
  clear hs hSC hJ
  go_enter Tryz.func39, Tryz.ntmps39
  go_upto_region 1 with fail
  refine gen_world (fun W => JB W w.heap.size j a1 c1 a2 c2 ∧ Below w.heap.size w W ∧ w.heap.size < W.heap.size) ⟨⟨by simp [go_sem], by simp [go_sem], by simp [go_sem], by simp [go_sem], by simp [go_sem]⟩, by repeat (first | (with_reducible assumption) | exact Below.refl _ _ | (refine Below.setCell ?_ (by first | omega | (simp; omega) | (simp; done)) _) | (refine Below.alloc ?_ (by first | omega | (simp; omega) | (simp; done)) _) | (refine Below.drew ?_)), by simp⟩ ?_
  rintro W ⟨hC, hbW, hz⟩
  obtain ⟨gj, hgj⟩ : ∃ g, g = w.heap.size := ⟨_, rfl⟩
  have hzj : gj < W.heap.size := by omega
  rw [← hgj] at hC ⊢
  have HC := Lib.hid hC
  have HBW := Lib.hid (show Below w.heap.size w W by first | exact hbW | (rw [hgj] at hbW; exact hbW))
  clear hC hbW hz hgj
  go_wp2_with fail
  go_loopw [6, 7, 8] (fun v1 v2 iv wr => ∃ k : Nat, k ≤ j.stock.length ∧ v1 = .int .i64 (roomTo j sp k).1 ∧ v2 = .int .i64 (roomTo j sp k).2 ∧ iv = .int .i64 k ∧ Below W.heap.size W wr) (fun _ _ iv _ => j.stock.length - (intOf iv).toNat)
  case atStart => exact ⟨0, Nat.zero_le _, rfl, rfl, rfl, Below.refl _ _⟩
  case round =>
    obtain ⟨k, hk, rfl, rfl, rfl, hbr⟩ := hrel
    obtain ⟨wo, rfl⟩ : ∃ wo : World, wo = wr := ⟨_, rfl⟩
    have HBO := Lib.hid hbr
    obtain ⟨q0, q1, q2, q3, q4⟩ := HC.out.keep hbr hzj
    have hbw := HBW.out.trans (hbr.mono HBW.out.size)
    clear hbr
    by_cases hlt : k < j.stock.length
    · have hki : (k : Int) < (j.stock.length : Int) := by omega
      have v1 : IntKind.i64.wrap ((k : Int) + 1) = (k : Int) + 1 := IntWalk.i64_in _ (by omega)
      obtain ⟨⟨gs, off, has, hcb⟩, hrv, -⟩ := HSC.out.ch k _ (List.getElem?_eq_getElem hlt)
      subst has
      obtain ⟨s0, s1, s2, s3, s4, s5, s6, s7⟩ := hcb.keep hbw
      have HST := Lib.hid (roomTo_step (j := j) (sp := sp) hlt)
      have hrg := roomTo_rng HJ.out sp k hk
      have hur := usable_rng HJ.out (List.getElem_mem hlt)
      have hbd := HJ.out.size _ (List.getElem_mem hlt)
      have htr := HJ.out.trim
      generalize AD k = ad at *
      generalize CD k = cd at *
      generalize j.stock[k] = b at *
      obtain ⟨r, hr⟩ : ∃ r, usableR b j.trim = r := ⟨_, rfl⟩
      have HUS := Lib.hid (fun w9 => refUsable_is b j.trim r ad cd w9 hr (by omega) (by omega))
      rw [hr] at HST hur
      obtain ⟨q, hq⟩ : ∃ q, roomTo j sp k = q := ⟨_, rfl⟩
      rw [hq] at HST hrg ⊢
      obtain ⟨qa, qb⟩ := q
      simp only at HST hrg ⊢
      have v5 : IntKind.i64.wrap (r.x2 - r.x1) = r.x2 - r.x1 := IntWalk.i64_in _ (by omega)
      have v6 : IntKind.i64.wrap (r.y2 - r.y1) = r.y2 - r.y1 := IntWalk.i64_in _ (by omega)
      clear hcb hrv hq hr hbd htr hbw
      by_cases hsp : (b.species.toList == sp.toList) = true
      · have HS2 := Lib.hid (show roomTo j sp (k + 1) = (max qa (r.x2 - r.x1), max qb (r.y2 - r.y1)) by rw [HST.out, if_pos hsp])
        clear HST
        go_upto_region 6 with fail
        have kx0 : ∀ u : KW (fun W' => Below wo.heap.size wo W'), (u.w.cell? ⟨gs, off + k * 8, none⟩ = some (.string b.name) ∧ u.w.cell? ⟨gs, off + k * 8 + 1, none⟩ = some (.string b.species) ∧ u.w.cell? ⟨gs, off + k * 8 + 2, none⟩ = some (.int .i64 b.length) ∧ u.w.cell? ⟨gs, off + k * 8 + 3, none⟩ = some (.int .i64 b.width) ∧ u.w.cell? ⟨gs, off + k * 8 + 4, none⟩ = some (.int .i64 b.thick) ∧ u.w.cell? ⟨gs, off + k * 8 + 5, none⟩ = some (.int .i64 b.cut) ∧ u.w.cell? ⟨gs, off + k * 8 + 6, none⟩ = some (.int .i64 b.moisture) ∧ u.w.cell? ⟨gs, off + k * 8 + 7, none⟩ = some (.slice ad b.defects.length cd)) ∧ u.w.cell? ⟨gj, 0, none⟩ = some (.slice (some ⟨gs, off, none⟩) j.stock.length c1) ∧ u.w.cell? ⟨gj, 2, none⟩ = some (.int .i64 j.trim.kerf) ∧ u.w.cell? ⟨gj, 3, none⟩ = some (.int .i64 j.trim.ends) ∧ u.w.cell? ⟨gj, 4, none⟩ = some (.int .i64 j.trim.sides) := fun u => ⟨⟨cell_keep u.ok s0, cell_keep u.ok s1, cell_keep u.ok s2, cell_keep u.ok s3, cell_keep u.ok s4, cell_keep u.ok s5, cell_keep u.ok s6, cell_keep u.ok s7⟩, cell_keep u.ok q0, cell_keep u.ok q2, cell_keep u.ok q3, cell_keep u.ok q4⟩
        haveI nn1 : Nonempty (KW (fun W' => Below wo.heap.size wo W')) := ⟨⟨wo, Below.refl _ _⟩⟩
        refine wp_cut_slots [25, 26, 27, 28, 29, 30, 31, 32, 9] (SdCut wo r) ?_ ?_
        · refine wp_region_tree (fun w' => ∃ u : KW (fun W' => Below wo.heap.size wo W'), w' = u.w) 9 (.take 0 (.take 1 (.take 2 (.take 3 (.take 4 (.take 5 (.take 6 (.two 7 (.one 8 .done) 8 (.one 7 .done))))))))) hmix (by kernel_rfl) (KW.mk' (Below.refl _ _).drew) ?_
          have HCz := Lib.hid (show Below wo.heap.size wo wo.drew from (Below.refl _ _).drew)
          generalize wo.drew = wz at *
          repeat (refine wpTree_take ?_; simp only [nthOp]; (first | go_big_quiet_step (fail) | quiet_step (fail)); refine wpQuiet_nil ?_)
          refine wpTree_two ?_ ?_
          · simp only [nthOp]
            go_wp2_with (go_at_call 67; refine (HUS.out _).mono ?_; rintro e wa ⟨rfl, hb⟩; have HCa := Lib.hid (HCz.out.trans (hb.mono HCz.out.size)); clear hb)
            refine One_mk (KW.mk' HCa.out) ?_
            refine wpTree_one ?_
            simp only [nthOp]
            go_wp2_with fail
            refine One_mk (KW.mk' (HCa.out.alloc HCa.out.size (.cells #[.int .i64 0, .int .i64 0, .int .i64 0, .int .i64 0] 57))) ?_
            refine wpTree_done ?_
            simp only [List.drop_succ_cons, List.drop_zero]
            go_wp2_with fail
            refine NP_mk ?_
            exact cut_meet (by simp [forget]) ⟨_, rfl, ⟨by simp [go_sem], by simp [go_sem], by simp [go_sem], by simp [go_sem]⟩, HCa.out.alloc HCa.out.size _⟩
          · simp only [nthOp]
            go_wp2_with fail
            refine One_mk (KW.mk' (HCz.out.alloc HCz.out.size (.cells #[.int .i64 0, .int .i64 0, .int .i64 0, .int .i64 0] 57))) ?_
            refine gen_any (G := fun W' => wpTree _ _ _ _ _ _ _ W') (fun W' => RcZ W' wz.heap.size ⟨0, 0, 0, 0⟩ ∧ Below wz.heap.size wz W') ⟨⟨⟨by simp [go_sem], by simp [go_sem], by simp [go_sem], by simp [go_sem]⟩, by simp [go_sem], by simp [go_sem], by simp [go_sem], by simp [go_sem]⟩, (Below.refl _ _).alloc (Nat.le_refl _) _⟩ ?_
            rintro w1 ⟨hz1, hb1⟩
            have HZ1 := Lib.hid hz1
            have HC1 := Lib.hid (HCz.out.trans (hb1.mono HCz.out.size))
            have HG9 := Lib.hid (show wo.heap.size ≤ wz.heap.size from HCz.out.size)
            obtain ⟨g9, hg9⟩ : ∃ g, g = wz.heap.size := ⟨_, rfl⟩
            rw [← hg9] at HZ1 HG9 ⊢
            clear hz1 hb1 hg9
            refine wpTree_one ?_
            simp only [nthOp]
            go_wp2_with (go_at_call 67; refine (HUS.out _).mono ?_; rintro e wa ⟨rfl, hb⟩; have HCa := Lib.hid (HC1.out.trans (hb.mono HC1.out.size)); have HZa := Lib.hid (HZ1.out.keep hb); clear hb)
            refine One_mk (KW.mk' HCa.out) ?_
            refine wpTree_done ?_
            simp only [List.drop_succ_cons, List.drop_zero]
            obtain ⟨⟨z0, z1, z2, z3⟩, y0, y1, y2, y3⟩ := HZa.out
            go_wp2_with fail
            refine NP_mk ?_
            exact cut_meet (by simp [forget]) ⟨g9, rfl, HZa.out.c.set4 r, (((HCa.out.setCell (p := ⟨g9, 0, none⟩) HG9.out _).setCell (p := ⟨g9, 1, none⟩) HG9.out _).setCell (p := ⟨g9, 2, none⟩) HG9.out _).setCell (p := ⟨g9, 3, none⟩) HG9.out _⟩
        clear kx0 nn1
        rintro u W9 ⟨g9, hu9, hrc, hb9⟩
        simp only [forget, List.foldl_cons, List.foldl_nil, hu9, List.setIfInBounds_toArray, List.set_cons_succ, List.set_cons_zero]
        obtain ⟨r0, r1, r2, r3⟩ := hrc
        have HB9 := Lib.hid (HBO.out.trans (hb9.mono HBO.out.size))
        clear hu9 hb9 q0 q1 q2 q3 q4 s0 s1 s2 s3 s4 s5 s6 s7
        go_upto_region 7 with fail
        go_quiet (fail)
        rename_i nq
        go_wp2_with fail
        go_roundw
        case rel => exact ⟨k + 1, by omega, by rw [HS2.out], by rw [HS2.out], by go_num, below_drewN HB9.out nq⟩
        case measure => first | (simp [intOf]; done) | (simp [intOf]; omega)
      · have hsp2 : (b.species.toList == sp.toList) = false := by simpa using hsp
        have HS2 := Lib.hid (show roomTo j sp (k + 1) = (qa, qb) by rw [HST.out, if_neg hsp])
        clear HST hsp
        go_wp2_with fail
        go_roundw
        case rel => exact ⟨k + 1, by omega, by rw [HS2.out], by rw [HS2.out], by go_num, HBO.out⟩
        case measure => first | (simp [intOf]; done) | (simp [intOf]; omega)
    · obtain rfl : k = j.stock.length := by omega
      have hki : ¬ ((j.stock.length : Nat) : Int) < ((j.stock.length : Nat) : Int) := by omega
      go_wp2_with fail
      refine bodyPost_ret (v := .tuple #[.int .i64 (roomTo j sp j.stock.length).1, .int .i64 (roomTo j sp j.stock.length).2]) (by simp [results, Tryz.results39, go_sem]) rfl ?_
      exact ⟨rfl, hbw⟩
end Go.Proofs.YtpaindkfbgoogaaGreat
/- The weights of all blanks, of the document. -/
set_option linter.unusedVariables false
set_option linter.unusedSimpArgs false
namespace Go.Proofs.YtpaindkfbgoogaaGreat
open Go Go.RowKit Go.Sort Go.Lib

def fitB (j : Job) : Bool := j.blanks.all fun x => decide (fitsP j x)
theorem fitB_true {j : Job} : fitB j = true ↔ ∀ x ∈ j.blanks, fitsP j x := by unfold fitB; simp
theorem fitB_no {j : Job} {x : Blank} (hx : x ∈ j.blanks) (h : ¬ fitsP j x) : fitB j = false := by
  unfold fitB
  rw [List.all_eq_false]
  exact ⟨x, hx, by simp [h]⟩
def WRPost (w : World) (l : List Fr) (b : Bool) (e : Ending) (w' : World) : Prop :=
  ∃ (a : Option Addr) (n c : Nat), e = .returned (.tuple #[.slice a n c, .bool b]) ∧ Below w.heap.size w w' ∧ (b = true → n = l.length ∧ Frs.V w' a l)
set_option maxRecDepth 100000 in
set_option maxHeartbeats 16000000 in
theorem weightsR_any (j : Job) (a1 : Option Addr) (c1 : Nat) (a2 : Option Addr) (c2 : Nat) (n0 n1 : Nat) (h20 : n0 ≤ 20) (h21 : n1 ≤ 20) (w : World) (hs : Boards.V w a1 j.stock) (hb : Blanks.V w a2 j.blanks) (hJ : JobOk j.stock j.blanks j.trim) :
    Calls Tryz.prog 13 #[.agg #[.slice a1 j.stock.length c1, .slice a2 j.blanks.length c2, .int .i64 j.trim.kerf, .int .i64 j.trim.ends, .int .i64 j.trim.sides], .agg #[.int .i64 (n0 : Int), .int .i64 (n1 : Int)]] w (WRPost w (j.blanks.map (wfr j n0 n1)) (fitB j)) := by
  obtain ⟨i0, hi0, hz0, hz1, hz2⟩ := info_parts frac_info
  have HVS := Lib.hid hs
  have HVB := Lib.hid hb
  have HJ := Lib.hid hJ
  have hN := hJ.lenS
  have hNB := hJ.lenB
  have htr := hJ.trim.1
  have HSD := Lib.hid (fun sp w9 hs => sidesR_any j a1 c1 a2 c2 sp w9 hs hJ)
  have HFT := Lib.hid (@fitB_true j)
  have HFN := Lib.hid (fun x hx h => @fitB_no j x hx h)
  obtain ⟨FB, hFB⟩ : ∃ F, fitB j = F := ⟨_, rfl⟩
  rw [hFB] at HFT HFN ⊢
  clear hs hb hJ hFB
  go_enter Tryz.func13, Tryz.ntmps13
  go_upto_region 1 with fail
  refine gen_world (fun W => JB W w.heap.size j a1 c1 a2 c2 ∧ (W.cell? ⟨w.heap.size + 1, 0, none⟩ = some (.int .i64 (n0 : Int)) ∧ W.cell? ⟨w.heap.size + 1, 1, none⟩ = some (.int .i64 (n1 : Int))) ∧ Below w.heap.size w W ∧ w.heap.size + 1 < W.heap.size) ⟨⟨by simp [go_sem], by simp [go_sem], by simp [go_sem], by simp [go_sem], by simp [go_sem]⟩, ⟨by simp [go_sem], by simp [go_sem]⟩, by repeat (first | (with_reducible assumption) | exact Below.refl _ _ | (refine Below.setCell ?_ (by first | omega | (simp; omega) | (simp; done)) _) | (refine Below.alloc ?_ (by first | omega | (simp; omega) | (simp; done)) _) | (refine Below.drew ?_)), by simp⟩ ?_
  rintro W ⟨hC, hY, hbW, hzW⟩
  obtain ⟨gj, hgj⟩ : ∃ g, g = w.heap.size := ⟨_, rfl⟩
  obtain ⟨gk, hgk⟩ : ∃ g, g = w.heap.size + 1 := ⟨_, rfl⟩
  rw [← hgk] at hY hzW
  rw [← hgj] at hC
  rw [← hgk, ← hgj]
  have hzG : gj < W.heap.size := by omega
  have HC := Lib.hid hC
  have HY := Lib.hid hY
  have HBW := Lib.hid (show Below w.heap.size w W from by first | exact hbW | (rw [hgj] at hbW; exact hbW))
  clear hC hY hbW hgj hgk hzW
  go_wp2_with fail
  go_loopw [6, 7] (fun v iv wr => ∃ k : Nat, k ≤ j.blanks.length ∧ iv = .int .i64 k ∧ Hid (wr.ownsRow W.heap.size 50 2 v k (((j.blanks.take k).map (wfr j n0 n1)).flatMap cellsFr)) ∧ Hid (∀ x ∈ j.blanks.take k, fitsP j x) ∧ Below W.heap.size W wr) (fun _ iv _ => j.blanks.length - (intOf iv).toNat)
  case atStart => exact ⟨0, Nat.zero_le _, rfl, Lib.hid (World.ownsRow_nil _ _ _ _), Lib.hid (fun x hx => by simp at hx), Below.refl _ _⟩
  case round =>
    obtain ⟨k, hk, rfl, HOW, HFI, hbr⟩ := hrel
    obtain ⟨av, cv, rfl, -, -⟩ := own_slice HOW.out
    obtain ⟨wo, rfl⟩ : ∃ wo : World, wo = wr := ⟨_, rfl⟩
    have HBO := Lib.hid hbr
    have HCO := Lib.hid (HC.out.keep hbr hzG)
    have HBB := Lib.hid (HBW.out.trans (hbr.mono HBW.out.size))
    have hzo := Nat.lt_of_lt_of_le hzG hbr.size
    have HYO := Lib.hid (And.intro (cell_keep hbr HY.out.1) (cell_keep hbr HY.out.2))
    obtain ⟨q0, q1, q2, q3, q4⟩ := HCO.out
    clear hbr
    by_cases hlt : k < j.blanks.length
    · have hki : (k : Int) < (j.blanks.length : Int) := by omega
      have v1 : IntKind.i64.wrap ((k : Int) + 1) = (k : Int) + 1 := IntWalk.i64_in _ (by omega)
      obtain ⟨gl, off', hal, hcl⟩ := blank_row (HVB.out.keep HBB.out) hlt
      have HTK := Lib.hid (show j.blanks.take (k + 1) = j.blanks.take k ++ [j.blanks[k]] from List.take_succ_eq_append_getElem hlt)
      have HMEM := Lib.hid (List.getElem_mem hlt)
      have hwant := HJ.out.want _ (List.getElem_mem hlt)
      subst hal
      obtain ⟨t0, t1, t2, t3, t4, t5⟩ := hcl
      obtain ⟨x, hx⟩ : ∃ x, j.blanks[k] = x := ⟨_, rfl⟩
      rw [hx] at t0 t1 t2 t3 t4 t5 HTK HMEM hwant
      clear hx
      have hrg : (0 ≤ (roomM j x.species).1 ∧ (roomM j x.species).1 ≤ 600000) ∧ (0 ≤ (roomM j x.species).2 ∧ (roomM j x.species).2 ≤ 600000) := roomTo_rng HJ.out x.species j.stock.length (Nat.le_refl _)
      have HRM := Lib.hid (HSD.out x.species)
      have HFP := Lib.hid (show fitsP j x ↔ x.length ≤ (roomM j x.species).1 ∧ x.width ≤ (roomM j x.species).2 from Iff.rfl)
      have HRA := Lib.hid (show rmA j x = ((roomM j x.species).1 + j.trim.kerf).toNat ∧ rmB j x = ((roomM j x.species).2 + j.trim.kerf).toNat from ⟨rfl, rfl⟩)
      obtain ⟨q, hq⟩ : ∃ q, roomM j x.species = q := ⟨_, rfl⟩
      rw [hq] at HRM HFP HRA hrg
      obtain ⟨la, lb⟩ := q
      simp only at HRM HFP HRA hrg
      clear hq
      go_upto_region 6 with fail
      refine gen_world (fun W1 => CellsB W1 wo.heap.size 0 x ∧ Below wo.heap.size wo W1) ⟨⟨by simp [go_sem], by simp [go_sem], by simp [go_sem], by simp [go_sem], by simp [go_sem], by simp [go_sem]⟩, by repeat (first | (with_reducible assumption) | exact Below.refl _ _ | (refine Below.setCell ?_ (by first | omega | (simp; omega) | (simp; done)) _) | (refine Below.alloc ?_ (by first | omega | (simp; omega) | (simp; done)) _) | (refine Below.drew ?_))⟩ ?_
      rintro W1 ⟨hcx, hb1⟩
      obtain ⟨g8, hg8⟩ : ∃ g, g = wo.heap.size := ⟨_, rfl⟩
      rw [← hg8] at hcx ⊢
      have HB1' := Lib.hid (HBB.out.trans (hb1.mono HBB.out.size))
      have HBx := Lib.hid hb1
      have HCX := Lib.hid hcx
      have HCO1 := Lib.hid (HCO.out.keep hb1 hzo)
      have hz1' : gj < W1.heap.size := Nat.lt_of_lt_of_le hzo hb1.size
      have HYO1 := Lib.hid (And.intro (cell_keep hb1 HYO.out.1) (cell_keep hb1 HYO.out.2))
      obtain ⟨d0, d1, d2, d3, d4, d5⟩ := hcx
      simp only [Nat.zero_add] at d0 d1 d2 d3 d4 d5
      clear t0 t1 t2 t3 t4 t5 hb1 hg8 q0 q1 q2 q3 q4
      obtain ⟨q0, q1, q2, q3, q4⟩ := HCO1.out
      go_upto_region 7 with (go_at_call 39; refine (HRM.out _ (HVS.out.keep HB1'.out)).mono ?_; rintro e w2 ⟨rfl, hb2⟩; have HB2 := Lib.hid (HBx.out.trans (hb2.mono HBx.out.size)); have HCX2 := Lib.hid (HCX.out.keep2 hb2); have HCO2 := Lib.hid (HCO1.out.keep hb2 hz1'); have HYO2 := Lib.hid (And.intro (cell_keep hb2 HYO1.out.1) (cell_keep hb2 HYO1.out.2)); clear hb2)
      clear d0 d1 d2 d3 d4 d5 q0 q1 q2 q3 q4
      obtain ⟨d0, d1, d2, d3, d4, d5⟩ := HCX2.out
      simp only [Nat.zero_add] at d0 d1 d2 d3 d4 d5
      have HB2W := Lib.hid (HBO.out.trans (HB2.out.mono HBO.out.size))
      by_cases hf0 : x.length > la
      · have HE := Lib.hid (show FB = false from HFN.out x HMEM.out (fun h => by have := (HFP.out.1 h).1; omega))
        go_wp2_with fail
        refine bodyPost_ret (v := .tuple #[.slice none 0 0, .bool false]) (by simp [results, Tryz.results13, go_sem]) rfl ?_
        exact ⟨none, 0, 0, by rw [HE.out], HBW.out.trans (HB2W.out.mono HBW.out.size), fun h => by rw [HE.out] at h; cases h⟩
      by_cases hf1 : x.width > lb
      · have HE := Lib.hid (show FB = false from HFN.out x HMEM.out (fun h => by have := (HFP.out.1 h).2; omega))
        go_wp2_with fail
        refine bodyPost_ret (v := .tuple #[.slice none 0 0, .bool false]) (by simp [results, Tryz.results13, go_sem]) rfl ?_
        exact ⟨none, 0, 0, by rw [HE.out], HBW.out.trans (HB2W.out.mono HBW.out.size), fun h => by rw [HE.out] at h; cases h⟩
      have HFX := Lib.hid (HFP.out.2 ⟨by omega, by omega⟩)
      obtain ⟨A, hA⟩ : ∃ A, szA j x = A := ⟨_, rfl⟩
      obtain ⟨B, hB⟩ : ∃ B, szB j x = B := ⟨_, rfl⟩
      obtain ⟨D, hD⟩ : ∃ D, rmA j x = D := ⟨_, rfl⟩
      obtain ⟨G, hG⟩ : ∃ G, rmB j x = G := ⟨_, rfl⟩
      have eA : (A : Int) = x.length + j.trim.kerf := by rw [← hA]; unfold szA; omega
      have eB : (B : Int) = x.width + j.trim.kerf := by rw [← hB]; unfold szB; omega
      have eD : (D : Int) = la + j.trim.kerf := by rw [← hD, HRA.out.1]; omega
      have eG : (G : Int) = lb + j.trim.kerf := by rw [← hG, HRA.out.2]; omega
      have HWA := Lib.hid (fun w9 => refWeight_any n0 A D w9 h20 (by omega) (by omega) (by omega))
      have HWB := Lib.hid (fun w9 => refWeight_any n1 B G w9 h21 (by omega) (by omega) (by omega))
      obtain ⟨ua, ub, uc⟩ := wu_bds (k := n0) (num := A) (den := D) h20 (by omega) (by omega) (by omega)
      obtain ⟨va, vb, vc⟩ := wu_bds (k := n1) (num := B) (den := G) h21 (by omega) (by omega) (by omega)
      have HFR := Lib.hid (show wfN j n0 n1 x = wuN n0 A D * wuN n1 B G ∧ wfD j n0 n1 x = wuD n0 A D * wuD n1 B G by unfold wfN wfD; rw [hA, hB, hD, hG]; exact ⟨rfl, rfl⟩)
      have v5 : IntKind.i64.wrap (x.length + j.trim.kerf) = (A : Int) := by rw [eA]; exact IntWalk.i64_in _ (by omega)
      have v6 : IntKind.i64.wrap (x.width + j.trim.kerf) = (B : Int) := by rw [eB]; exact IntWalk.i64_in _ (by omega)
      have v7 : IntKind.i64.wrap (la + j.trim.kerf) = (D : Int) := by rw [eD]; exact IntWalk.i64_in _ (by omega)
      have v8 : IntKind.i64.wrap (lb + j.trim.kerf) = (G : Int) := by rw [eG]; exact IntWalk.i64_in _ (by omega)
      have hwn : wNum n0 A D = ((wuN n0 A D : Nat) : Int) ∧ wDen n0 A D = ((wuD n0 A D : Nat) : Int) ∧ wNum n1 B G = ((wuN n1 B G : Nat) : Int) ∧ wDen n1 B G = ((wuD n1 B G : Nat) : Int) := ⟨rfl, rfl, rfl, rfl⟩
      rw [hwn.1, hwn.2.1] at HWA
      rw [hwn.2.2.1, hwn.2.2.2] at HWB
      clear hwn eA eB eD eG hA hB hD hG
      generalize wuN n0 A D = un at *
      generalize wuD n0 A D = ud at *
      generalize wuN n1 B G = vn at *
      generalize wuD n1 B G = vd at *
      obtain ⟨q0, q1, q2, q3, q4⟩ := HCO2.out
      obtain ⟨y0, y1⟩ := HYO2.out
      have hgl8 := block_lt_of_cell d0
      have hglj := block_lt_of_cell q2
      have hglk := block_lt_of_cell y0
      simp only at hgl8 hglj hglk
      go_upto_region 10 with (go_at_call 40; refine (HWA.out _).mono ?_; rintro e w3 ⟨rfl, hb3⟩; have HB3 := Lib.hid (HB2.out.trans (hb3.mono HB2.out.size)); have HK3 := Lib.hid hb3; clear hb3)
      refine gen_world (fun W4 => (W4.cell? ⟨w3.heap.size, 0, none⟩ = some (.int .i64 (un : Int)) ∧ W4.cell? ⟨w3.heap.size, 1, none⟩ = some (.int .i64 (ud : Int))) ∧ Below w3.heap.size w3 W4) ⟨⟨by simp [go_sem], by simp [go_sem]⟩, by repeat (first | (with_reducible assumption) | exact Below.refl _ _ | (refine Below.setCell ?_ (by first | omega | (simp; omega) | (simp; done)) _) | (refine Below.alloc ?_ (by first | omega | (simp; omega) | (simp; done)) _) | (refine Below.drew ?_))⟩ ?_
      rintro W4 ⟨⟨e0, e1⟩, hb4⟩
      have HB4 := Lib.hid (HB3.out.trans (hb4.mono HB3.out.size))
      have hk24 := HK3.out.trans (hb4.mono HK3.out.size)
      have d2 := cell_keep hk24 d2
      have d3 := cell_keep hk24 d3
      have q2 := cell_keep hk24 q2
      have y1 := cell_keep hk24 y1
      obtain ⟨g11, hg11⟩ : ∃ g, g = w3.heap.size := ⟨_, rfl⟩
      rw [← hg11] at e0 e1 ⊢
      have HE01 := Lib.hid (And.intro e0 e1)
      clear d0 d1 d4 d5 q0 q1 q3 q4 y0 hb4 hk24 hg11 e0 e1
      go_upto_region 11 with (go_at_call 40; refine (HWB.out _).mono ?_; rintro e w5 ⟨rfl, hb5⟩; have HB5 := Lib.hid (HB4.out.trans (hb5.mono HB4.out.size)); have HE5 := Lib.hid (And.intro (cell_keep hb5 HE01.out.1) (cell_keep hb5 HE01.out.2)); clear hb5)
      refine gen_world (fun W6 => (W6.cell? ⟨w5.heap.size, 0, none⟩ = some (.int .i64 (vn : Int)) ∧ W6.cell? ⟨w5.heap.size, 1, none⟩ = some (.int .i64 (vd : Int))) ∧ Below w5.heap.size w5 W6) ⟨⟨by simp [go_sem], by simp [go_sem]⟩, by repeat (first | (with_reducible assumption) | exact Below.refl _ _ | (refine Below.setCell ?_ (by first | omega | (simp; omega) | (simp; done)) _) | (refine Below.alloc ?_ (by first | omega | (simp; omega) | (simp; done)) _) | (refine Below.drew ?_))⟩ ?_
      rintro W6 ⟨⟨f0, f1⟩, hb6⟩
      have HB6 := Lib.hid (HB5.out.trans (hb6.mono HB5.out.size))
      have e0 := cell_keep hb6 HE5.out.1
      have e1 := cell_keep hb6 HE5.out.2
      obtain ⟨g12, hg12⟩ : ∃ g, g = w5.heap.size := ⟨_, rfl⟩
      rw [← hg12] at f0 f1 ⊢
      clear d2 d3 q2 y1 hb6 hg12
      obtain ⟨N1, hN1⟩ : ∃ N : Nat, un * vn = N := ⟨_, rfl⟩
      obtain ⟨D1, hD1⟩ : ∃ N : Nat, ud * vd = N := ⟨_, rfl⟩
      have bN : N1 ≤ 1000000000000 := by rw [← hN1]; exact Nat.mul_le_mul ua va
      have bD : D1 ≤ 1000000000000 := by rw [← hD1]; exact Nat.mul_le_mul uc vc
      have bD1 : 1 ≤ D1 := by rw [← hD1]; exact Nat.mul_pos ub vb
      have w1' : IntKind.i64.wrap ((un : Int) * (vn : Int)) = (N1 : Int) := by rw [show (un : Int) * (vn : Int) = ((N1 : Nat) : Int) by rw [← hN1]; push_cast; rfl]; exact IntWalk.i64_in _ (by omega)
      have w2' : IntKind.i64.wrap ((ud : Int) * (vd : Int)) = (D1 : Int) := by rw [show (ud : Int) * (vd : Int) = ((D1 : Nat) : Int) by rw [← hD1]; push_cast; rfl]; exact IntWalk.i64_in _ (by omega)
      rw [hN1, hD1] at HFR
      have HLO := Lib.hid (fun w9 => lowest_any N1 D1 w9 bN bD1 bD)
      obtain ⟨fx, hfx⟩ : ∃ f, wfr j n0 n1 x = f := ⟨_, rfl⟩
      have HFQ := Lib.hid hfx
      have HFR2 := Lib.hid (show fx = ⟨lowNum N1 D1, lowDen N1 D1⟩ by rw [← hfx]; unfold wfr; rw [HFR.out.1, HFR.out.2])
      have HLO := Lib.hid (show ∀ w9, Calls Tryz.prog 41 #[.int .i64 (N1 : Int), .int .i64 (D1 : Int)] w9 fun e w' => e = .returned (.agg #[.int .i64 fx.num, .int .i64 fx.den]) ∧ Below w9.heap.size w9 w' by rw [HFR2.out]; exact HLO.out)
      clear hN1 hD1 ua ub uc va vb vc hfx HWA HWB HFR
      have HB6W := Lib.hid (HBO.out.trans (HB6.out.mono HBO.out.size))
      have HOW6 := Lib.hid (own_keep HOW.out HB6.out)
      have hz6 : W.heap.size ≤ W6.heap.size := HB6W.out.size
      go_wp2_with (first
        | (go_at_call 41; refine (HLO.out _).mono ?_; rintro e wl ⟨rfl, hbl⟩; have HBl := Lib.hid (HB6W.out.trans (hbl.mono HB6W.out.size)); have HOWl := Lib.hid (own_keep HOW6.out hbl); have hzl := hbl.size; clear hbl)
        | (at_builtin; refine wpList_append_here _ rfl _ _ 31 rfl W.heap.size 50 i0 (.agg #[.int .i64 0, .int .i64 0]) 2 16 Tryz.underlying31 hi0 hz0 hz1 hz2 rfl (by decide) _ k _ rfl (own_keep HOWl.out ((Below.refl _ _).alloc (Nat.le_refl _) _)) ⟨wl.heap.size, 0, none⟩ 1 1 (cellsFr fx) rfl rfl (news_of (cellsFr fx) _ _ _ rfl) (cellsFr_one _) (by decide) (by simp only [maxLen]; omega) (by omega) (by simp; omega) ?_; intro v9 w9 ho9 hg9 hv9; have HO9 := Lib.hid ho9; have HG9 := Lib.hid hg9; clear ho9 hg9 hv9))
      go_roundw
      case rel =>
        refine ⟨k + 1, by omega, by go_num, Lib.hid ?_, Lib.hid ?_, ?_⟩
        · rw [HTK.out, List.map_append, List.flatMap_append, List.map_cons, List.map_nil, List.flatMap_singleton, HFQ.out]; exact HO9.out
        · intro y hy
          rw [HTK.out] at hy
          rcases List.mem_append.1 hy with hy | hy
          · exact HFI.out y hy
          · rw [List.mem_singleton.1 hy]; exact HFX.out
        · exact (HBl.out.alloc HBl.out.size _).grown HG9.out (by have := HBl.out.size; simp; omega) (fun q hq => own_base HOWl.out hq)
      case measure => first | (simp [intOf]; done) | (simp [intOf]; omega)
    · obtain rfl : k = j.blanks.length := by omega
      have hki : ¬ ((j.blanks.length : Nat) : Int) < ((j.blanks.length : Nat) : Int) := by omega
      have HE := Lib.hid (show FB = true from HFT.out.2 (fun x hx => HFI.out x (by rw [List.take_length]; exact hx)))
      go_wp2_with fail
      refine bodyPost_ret (v := .tuple #[.slice av j.blanks.length cv, .bool true]) (by simp [results, Tryz.results13, go_sem]) rfl ?_
      have hv := own_frs (l := (j.blanks.take j.blanks.length).map (wfr j n0 n1)) HOW.out
      rw [List.take_length] at hv
      exact ⟨av, j.blanks.length, cv, by rw [HE.out], HBB.out, fun _ => ⟨by rw [List.length_map], hv⟩⟩
end Go.Proofs.YtpaindkfbgoogaaGreat
/- The bound of weights, of the document. -/
set_option linter.unusedVariables false
set_option linter.unusedSimpArgs false
namespace Go.Proofs.YtpaindkfbgoogaaGreat
open Go Go.RowKit Go.Sort Go.Lib

theorem commonR_any (k size : Nat) (w : World) (hk : k ≤ 20) (hs : size ≤ 1000000) : Calls Tryz.prog 43 #[.int .i64 (k : Int), .int .i64 (size : Int)] w fun e w' => e = .returned (.int .i64 ((comD k size : Nat) : Int)) ∧ w = w' := by
  have HC := Lib.hid (show comD k size = if k = 0 then size else k * (k + 1) from rfl)
  generalize comD k size = C at *
  by_cases h : k = 0
  · subst h
    have HC2 := Lib.hid (show C = size by rw [HC.out, if_pos rfl])
    go_enter Tryz.func43, Tryz.ntmps43
    go_wp2_with fail
    go_ret
    exact ⟨by rw [HC2.out]; rfl, rfl⟩
  · have hb := Nat.mul_le_mul hk (show k + 1 ≤ 21 by omega)
    have h0 : ¬ (k : Int) = 0 := by omega
    have HC2 := Lib.hid (show C = k * (k + 1) by rw [HC.out, if_neg h])
    obtain ⟨P, hP⟩ : ∃ P, P = k * (k + 1) := ⟨_, rfl⟩
    rw [← hP] at hb HC2
    have w1 : IntKind.i64.wrap ((k : Int) * ((k : Int) + 1)) = (P : Int) := by rw [show (k : Int) * ((k : Int) + 1) = ((P : Nat) : Int) by rw [hP]; push_cast; rfl]; exact IntWalk.i64_in _ (by omega)
    have w2' : IntKind.i64.wrap ((k : Int) + 1) = (k : Int) + 1 := IntWalk.i64_in _ (by omega)
    clear hP HC
    go_enter Tryz.func43, Tryz.ntmps43
    go_wp2_with fail
    go_ret
    exact ⟨by rw [HC2.out]; rfl, rfl⟩
theorem isWeight_any (k : Int) (w : World) : Calls Tryz.prog 15 #[.int .i64 k] w fun e w' => e = .returned (.bool (withinB k 0 20)) ∧ w = w' := by
  have HW := Lib.hid (fun w => baseWithin_any k 0 20 w)
  generalize withinB k 0 20 = b at *
  go_enter Tryz.func15, Tryz.ntmps15
  go_wp2_with (go_at_call 42; refine (HW.out _).mono ?_; rintro e w1 ⟨rfl, rfl⟩)
  go_ret
  exact ⟨rfl, rfl⟩
theorem comS_dvd_pos {j : Job} {n0 n1 : Nat} {sp : ByteArray} (hJ : JobOk j.stock j.blanks j.trim) (hf : ∀ x ∈ j.blanks, fitsP j x) (h : sp ∈ kindsM j.blanks) : 1 ≤ comS j n0 n1 sp := by
  obtain ⟨x, hx, hxs⟩ := kinds_from (l := j.blanks) (Nat.le_refl _) h
  exact comS_pos hJ hx (hf x hx) (by rw [hxs]; simp)
set_option maxRecDepth 100000 in
set_option maxHeartbeats 16000000 in
theorem boundR_any (j : Job) (a1 : Option Addr) (c1 : Nat) (a2 : Option Addr) (c2 : Nat) (n0 n1 : Nat) (h20 : n0 ≤ 20) (h21 : n1 ≤ 20) (w : World) (hs : Boards.V w a1 j.stock) (hb : Blanks.V w a2 j.blanks) (hJ : JobOk j.stock j.blanks j.trim) (hfit : ∀ x ∈ j.blanks, fitsP j x) :
    Calls Tryz.prog 16 #[.agg #[.slice a1 j.stock.length c1, .slice a2 j.blanks.length c2, .int .i64 j.trim.kerf, .int .i64 j.trim.ends, .int .i64 j.trim.sides], .agg #[.int .i64 (n0 : Int), .int .i64 (n1 : Int)]] w fun e w' => e = .returned (.int .i64 ((bndM j n0 n1 : Nat) : Int)) ∧ Below w.heap.size w w' := by
  have hmix : Tryz.prog.follows .mixedOrders = true := by kernel_rfl
  have HVS := Lib.hid hs
  have HVB := Lib.hid hb
  have HJO := Lib.hid hJ
  have HFI := Lib.hid hfit
  have hN := hJ.lenS
  have hNB := hJ.lenB
  have htr := hJ.trim.1
  have HSD := Lib.hid (fun sp w9 hs => sidesR_any j a1 c1 a2 c2 sp w9 hs hJ)
  have HKD := Lib.hid (fun w9 h => kindsR_any a2 j.blanks c2 w9 h (by omega))
  have HBT := Lib.hid (show bndM j n0 n1 = bndTo j n0 n1 (kindsM j.blanks) from rfl)
  have HKL := Lib.hid (kindsTo_len j.blanks j.blanks.length)
  have HCP := Lib.hid (fun sp (h : sp ∈ kindsM j.blanks) => comS_dvd_pos (n0 := n0) (n1 := n1) hJ hfit h)
  have hkl : (kindsM j.blanks).length ≤ 30 := by have := HKL.out; unfold kindsM; omega
  generalize bndM j n0 n1 = BM at *
  generalize kindsM j.blanks = K at *
  clear hs hb hJ hfit HKL
  go_enter Tryz.func16, Tryz.ntmps16
  go_upto_region 1 with fail
  refine gen_world (fun W => JB W w.heap.size j a1 c1 a2 c2 ∧ (W.cell? ⟨w.heap.size + 1, 0, none⟩ = some (.int .i64 (n0 : Int)) ∧ W.cell? ⟨w.heap.size + 1, 1, none⟩ = some (.int .i64 (n1 : Int))) ∧ Below w.heap.size w W ∧ w.heap.size + 1 < W.heap.size) ⟨⟨by simp [go_sem], by simp [go_sem], by simp [go_sem], by simp [go_sem], by simp [go_sem]⟩, ⟨by simp [go_sem], by simp [go_sem]⟩, by repeat (first | (with_reducible assumption) | exact Below.refl _ _ | (refine Below.setCell ?_ (by first | omega | (simp; omega) | (simp; done)) _) | (refine Below.alloc ?_ (by first | omega | (simp; omega) | (simp; done)) _) | (refine Below.drew ?_)), by simp⟩ ?_
  rintro W ⟨hC, hY, hbW, hzW⟩
  obtain ⟨gj, hgj⟩ : ∃ g, g = w.heap.size := ⟨_, rfl⟩
  obtain ⟨gk, hgk⟩ : ∃ g, g = w.heap.size + 1 := ⟨_, rfl⟩
  rw [← hgk] at hY hzW
  rw [← hgj] at hC
  rw [← hgk, ← hgj]
  have hzG : gj < W.heap.size := by omega
  have HC := Lib.hid hC
  have HY := Lib.hid hY
  have HBW := Lib.hid (show Below w.heap.size w W from by first | exact hbW | (rw [hgj] at hbW; exact hbW))
  obtain ⟨q0, q1, q2, q3, q4⟩ := hC
  clear hY hbW hgj hgk hzW
  go_upto_region 3 with (go_at_call 36; refine (HKD.out _ (HVB.out.keep HBW.out)).mono ?_; rintro e w2 ⟨av, cv, rfl, hkv, hb⟩; have HKV := Lib.hid hkv; have HB2 := Lib.hid (HBW.out.trans (hb.mono HBW.out.size)); have HC2 := Lib.hid (HC.out.keep hb hzG); have HY2 := Lib.hid (And.intro (cell_keep hb HY.out.1) (cell_keep hb HY.out.2)); have hz2' := hb.size; clear hb hkv)
  clear q0 q1 q2 q3 q4 HC HBW HKD HY
  have hzg : gj < w2.heap.size := by omega
  clear hz2' hzG
  go_wp2_with fail
  go_loopw [5, 7] (fun sv iv wr => ∃ m : Nat, m ≤ K.length ∧ iv = .int .i64 m ∧ sv = .int .i64 ((bndTo j n0 n1 (K.take m) : Nat) : Int) ∧ Below w2.heap.size w2 wr) (fun _ iv _ => K.length - (intOf iv).toNat)
  case atStart => exact ⟨0, Nat.zero_le _, rfl, rfl, Below.refl _ _⟩
  case round =>
    obtain ⟨m, hm, rfl, rfl, hbr⟩ := hrel
    obtain ⟨wo, rfl⟩ : ∃ wo : World, wo = wr := ⟨_, rfl⟩
    have HBO := Lib.hid hbr
    have HBB := Lib.hid (HB2.out.trans (hbr.mono HB2.out.size))
    have HCO := Lib.hid (HC2.out.keep hbr hzg)
    have HYO := Lib.hid (And.intro (cell_keep hbr HY2.out.1) (cell_keep hbr HY2.out.2))
    have hzo : gj < wo.heap.size := Nat.lt_of_lt_of_le hzg hbr.size
    by_cases hlt : m < K.length
    · have hki : (m : Int) < (K.length : Int) := by omega
      obtain ⟨kb, ko, rfl, kc⟩ := (txV_keep HKV.out hbr).at_ hlt
      have HTK := Lib.hid (show bndTo j n0 n1 (K.take (m + 1)) = bndTo j n0 n1 (K.take m) + bndS j n0 n1 K[m] by rw [List.take_succ_eq_append_getElem hlt, bndTo_app])
      have hcp := HCP.out _ (List.getElem_mem hlt)
      have hbm := bndTo_bd HJO.out HFI.out h20 h21 (K.take m)
      have hbs := bndS_bd (sp := K[m]) HJO.out HFI.out h20 h21
      have htl := List.length_take_le' m K
      generalize K[m] = sp at *
      have HW := Lib.hid (fun k => wtsTo_ok (sp := sp) HJO.out HFI.out h20 h21 k)
      have hc0 := comS_bd (sp := sp) HJO.out h20 h21
      have HSM := Lib.hid (show bndS j n0 n1 sp = ceilN (numR (comS j n0 n1 sp) (wtsM j n0 n1 sp)) (comS j n0 n1 sp) from bound_same hcp fun x hx => ⟨((HW.out _).1 x hx).1, ((HW.out _).1 x hx).2.1, ((HW.out _).1 x hx).2.2.1⟩)
      have HCM := Lib.hid (show comS j n0 n1 sp = comD n0 ((roomM j sp).1 + j.trim.kerf).toNat * comD n1 ((roomM j sp).2 + j.trim.kerf).toNat from rfl)
      have hrg : (0 ≤ (roomM j sp).1 ∧ (roomM j sp).1 ≤ 600000) ∧ (0 ≤ (roomM j sp).2 ∧ (roomM j sp).2 ≤ 600000) := roomTo_rng HJO.out sp j.stock.length (Nat.le_refl _)
      have HRC := Lib.hid (fun (x : Blank) (h : (x.species.toList == sp.toList) = true) => show rmA j x = ((roomM j sp).1 + j.trim.kerf).toNat ∧ rmB j x = ((roomM j sp).2 + j.trim.kerf).toNat from by unfold rmA rmB; rw [roomM_congr (j := j) h]; exact ⟨rfl, rfl⟩)
      have HFC := Lib.hid (fun (x : Blank) (hx : x ∈ j.blanks) (h : (x.species.toList == sp.toList) = true) => show x.length ≤ (roomM j sp).1 ∧ x.width ≤ (roomM j sp).2 from by have := HFI.out x hx; unfold fitsP at this; rw [roomM_congr (j := j) h] at this; exact this)
      have HSDS := Lib.hid (HSD.out sp)
      obtain ⟨S0, hS0⟩ : ∃ S, S = bndTo j n0 n1 (K.take m) := ⟨_, rfl⟩
      rw [← hS0] at HTK hbm ⊢
      obtain ⟨q, hq⟩ : ∃ q, roomM j sp = q := ⟨_, rfl⟩
      rw [hq] at HCM hrg HRC HFC HSDS
      obtain ⟨la, lb⟩ := q
      simp only at HCM hrg HRC HFC HSDS
      obtain ⟨DA, hDA⟩ : ∃ D : Nat, D = (la + j.trim.kerf).toNat := ⟨_, rfl⟩
      obtain ⟨DB, hDB⟩ : ∃ D : Nat, D = (lb + j.trim.kerf).toNat := ⟨_, rfl⟩
      have eDA : (DA : Int) = la + j.trim.kerf := by omega
      have eDB : (DB : Int) = lb + j.trim.kerf := by omega
      rw [← hDA, ← hDB] at HCM
      have HC1 := Lib.hid (fun w9 => commonR_any n0 DA w9 h20 (by omega))
      have HC2' := Lib.hid (fun w9 => commonR_any n1 DB w9 h21 (by omega))
      have hd1 := comD_le (size := DA) h20 (by omega)
      have hd2 := comD_le (size := DB) h21 (by omega)
      obtain ⟨C, hC⟩ : ∃ C, C = comS j n0 n1 sp := ⟨_, rfl⟩
      rw [← hC] at hcp HW hc0 HSM HCM
      generalize comD n0 DA = CA at *
      generalize comD n1 DB = CB at *
      have u1 : IntKind.i64.wrap (la + j.trim.kerf) = (DA : Int) := by rw [eDA]; exact IntWalk.i64_in _ (by omega)
      have u2 : IntKind.i64.wrap (lb + j.trim.kerf) = (DB : Int) := by rw [eDB]; exact IntWalk.i64_in _ (by omega)
      have u3 : IntKind.i64.wrap ((CA : Int) * (CB : Int)) = (C : Int) := by rw [show (CA : Int) * (CB : Int) = ((C : Nat) : Int) by rw [HCM.out]; push_cast; rfl]; exact IntWalk.i64_in _ (by omega)
      clear hS0 hbr hq hDA hDB eDA eDB hC
      obtain ⟨q0, q1, q2, q3, q4⟩ := HCO.out
      obtain ⟨y0, y1⟩ := HYO.out
      go_upto_region 6 with fail
      have kx0 : ∀ u : KW (fun W' => Below wo.heap.size wo W'), (u.w.cell? ⟨gj, 0, none⟩ = some (.slice a1 j.stock.length c1) ∧ u.w.cell? ⟨gj, 1, none⟩ = some (.slice a2 j.blanks.length c2) ∧ u.w.cell? ⟨gj, 2, none⟩ = some (.int .i64 j.trim.kerf) ∧ u.w.cell? ⟨gj, 3, none⟩ = some (.int .i64 j.trim.ends) ∧ u.w.cell? ⟨gj, 4, none⟩ = some (.int .i64 j.trim.sides)) ∧ u.w.cell? ⟨kb, ko + m, none⟩ = some (.string sp) ∧ u.w.cell? ⟨gk, 0, none⟩ = some (.int .i64 (n0 : Int)) ∧ u.w.cell? ⟨gk, 1, none⟩ = some (.int .i64 (n1 : Int)) := fun u => ⟨⟨cell_keep u.ok q0, cell_keep u.ok q1, cell_keep u.ok q2, cell_keep u.ok q3, cell_keep u.ok q4⟩, cell_keep u.ok kc, cell_keep u.ok y0, cell_keep u.ok y1⟩
      haveI nn1 : Nonempty (KW (fun W' => Below wo.heap.size wo W')) := ⟨⟨wo, Below.refl _ _⟩⟩
      refine wp_region_tree (fun w' => ∃ u : KW (fun W' => Below wo.heap.size wo W'), w' = u.w) 10 (.take 0 (.take 1 (.take 2 (.take 3 (.take 4 (.one 5 (.take 6 (.take 7 (.take 8 (.take 9 .done)))))))))) hmix (by kernel_rfl) (KW.mk' (Below.refl _ _).drew) ?_
      have HCz := Lib.hid (show Below wo.heap.size wo wo.drew from (Below.refl _ _).drew)
      generalize wo.drew = wz at *
      repeat (refine wpTree_take ?_; simp only [nthOp]; (first | go_big_quiet_step (fail) | quiet_step (fail)); refine wpQuiet_nil ?_)
      refine wpTree_one ?_
      simp only [nthOp]
      go_wp2_with (go_at_call 39; refine (HSDS.out _ (HVS.out.keep (HBB.out.trans (HCz.out.mono HBB.out.size)))).mono ?_; rintro e wa ⟨rfl, hb⟩; have HCa := Lib.hid (HCz.out.trans (hb.mono HCz.out.size)); clear hb)
      refine One_mk (KW.mk' HCa.out) ?_
      repeat (refine wpTree_take ?_; simp only [nthOp]; (first | go_big_quiet_step (fail) | quiet_step (fail)); refine wpQuiet_nil ?_)
      refine wpTree_done ?_
      simp only [List.drop_succ_cons, List.drop_zero]
      go_wp2_with fail
      refine NP_mk ?_
      go_upto_region 7 with fail
      have q2 := cell_keep HCa.out q2
      refine wp_region_tree (fun w' => ∃ u : KW (fun W' => Below wo.heap.size wo W'), w' = u.w) 18 (.take 0 (.take 1 (.take 2 (.take 3 (.take 4 (.take 5 (.take 6 (.take 8 (.take 9 (.take 10 (.take 11 (.take 12 (.take 13 (.take 14 (.one 7 (.one 15 (.take 16 (.take 17 .done)))))))))))))))))) hmix (by kernel_rfl) (KW.mk' HCa.out.drew) ?_
      have HCy := Lib.hid (show Below wo.heap.size wo wa.drew from HCa.out.drew)
      generalize wa.drew = wy at *
      repeat (refine wpTree_take ?_; simp only [nthOp]; (first | go_big_quiet_step (fail) | quiet_step (fail)); refine wpQuiet_nil ?_)
      refine wpTree_one ?_
      simp only [nthOp]
      go_wp2_with (go_at_call 43; refine (HC1.out _).mono ?_; rintro e wb ⟨rfl, rfl⟩)
      refine One_mk (KW.mk' HCy.out) ?_
      refine wpTree_one ?_
      simp only [nthOp]
      go_wp2_with (go_at_call 43; refine (HC2'.out _).mono ?_; rintro e wc ⟨rfl, rfl⟩)
      refine One_mk (KW.mk' HCy.out) ?_
      repeat (refine wpTree_take ?_; simp only [nthOp]; (first | go_big_quiet_step (fail) | quiet_step (fail)); refine wpQuiet_nil ?_)
      refine wpTree_done ?_
      simp only [List.drop_succ_cons, List.drop_zero]
      go_wp2_with fail
      refine NP_mk ?_
      have HBY := Lib.hid (HBO.out.trans (HCy.out.mono HBO.out.size))
      have HBW2 := Lib.hid (HBB.out.trans (HCy.out.mono HBB.out.size))
      have HCY := Lib.hid (HCO.out.keep HCy.out hzo)
      have HYY := Lib.hid (And.intro (cell_keep HCy.out HYO.out.1) (cell_keep HCy.out HYO.out.2))
      have hzy : gj < wy.heap.size := Nat.lt_of_lt_of_le hzo HCy.out.size
      have HKC := Lib.hid (cell_keep HCy.out kc)
      have HVY := Lib.hid (HVB.out.keep HBW2.out)
      clear kx0 nn1 q0 q1 q2 q3 q4 y0 y1 kc u1 u2 u3 HC1 HC2' hd1 hd2 HCM
      go_upto_region 9 with fail
      go_wp2_with fail
      go_loopw [10, 12] (fun dv iv wr => ∃ k : Nat, k ≤ j.blanks.length ∧ iv = .int .i64 k ∧ dv = .int .i64 ((numR C (wtsTo j n0 n1 sp k) : Nat) : Int) ∧ Below wy.heap.size wy wr) (fun _ iv _ => j.blanks.length - (intOf iv).toNat)
      case atStart => exact ⟨0, Nat.zero_le _, rfl, rfl, Below.refl _ _⟩
      case round =>
        obtain ⟨k, hk, rfl, rfl, hbn⟩ := hrel
        have HBN := Lib.hid hbn
        obtain ⟨wn, rfl⟩ : ∃ wn : World, wn = wr := ⟨_, rfl⟩
        obtain ⟨q0, q1, q2, q3, q4⟩ := HCY.out.keep hbn hzy
        by_cases hlt3 : k < j.blanks.length
        · have hki3 : (k : Int) < (j.blanks.length : Int) := by omega
          obtain ⟨gl, off', hal, hcl⟩ := blank_row (HVY.out.keep hbn) hlt3
          subst hal
          obtain ⟨s0, s1, s2, s3, s4, s5⟩ := hcl
          have HYS := Lib.hid (fun h => wtsTo_yes (n0 := n0) (n1 := n1) (sp := sp) hlt3 h)
          have HNO := Lib.hid (fun h => wtsTo_no (n0 := n0) (n1 := n1) (sp := sp) hlt3 h)
          have HWQ := Lib.hid (HW.out k)
          have HWK := Lib.hid (HW.out (k + 1))
          have HMEM := Lib.hid (List.getElem_mem hlt3)
          have hwant := HJO.out.want _ (List.getElem_mem hlt3)
          have kc := cell_keep hbn HKC.out
          have y0 := cell_keep hbn HYY.out.1
          have y1 := cell_keep hbn HYY.out.2
          obtain ⟨x, hx⟩ : ∃ x, j.blanks[k] = x := ⟨_, rfl⟩
          rw [hx] at s0 s1 s2 s3 s4 s5 HYS HNO HMEM hwant
          clear hx
          go_upto_region 12 with fail
          refine gen_world (fun W1 => CellsB W1 wn.heap.size 0 x ∧ Below wn.heap.size wn W1) ⟨⟨by simp [go_sem], by simp [go_sem], by simp [go_sem], by simp [go_sem], by simp [go_sem], by simp [go_sem]⟩, by repeat (first | (with_reducible assumption) | exact Below.refl _ _ | (refine Below.setCell ?_ (by first | omega | (simp; omega) | (simp; done)) _) | (refine Below.alloc ?_ (by first | omega | (simp; omega) | (simp; done)) _) | (refine Below.drew ?_))⟩ ?_
          rintro W1 ⟨hcx, hb1⟩
          obtain ⟨g13, hg13⟩ : ∃ g, g = wn.heap.size := ⟨_, rfl⟩
          rw [← hg13] at hcx ⊢
          have HBX := Lib.hid (HBN.out.trans (hb1.mono HBN.out.size))
          obtain ⟨d0, d1, d2, d3, d4, d5⟩ := hcx
          simp only [Nat.zero_add] at d0 d1 d2 d3 d4 d5
          have kc := cell_keep hb1 kc
          have y0 := cell_keep hb1 y0
          have y1 := cell_keep hb1 y1
          have q2 := cell_keep hb1 q2
          have l1 := block_lt_of_cell d0
          have l2 := block_lt_of_cell kc
          have l3 := block_lt_of_cell q2
          have l4 := block_lt_of_cell y0
          simp only at l1 l2 l3 l4
          clear s0 s1 s2 s3 s4 s5 hb1 hg13 hbn q0 q1 q3 q4
          cases hsp : (x.species.toList == sp.toList)
          · have HS2 := Lib.hid (HNO.out hsp)
            go_quiet (fail)
            rename_i nq
            go_wp2_with fail
            go_roundw
            case rel => exact ⟨k + 1, by omega, by go_num, by rw [HS2.out], below_drewN HBX.out nq⟩
            case measure => first | (simp [intOf]; done) | (simp [intOf]; omega)
          · have HS2 := Lib.hid (HYS.out hsp)
            have HRA := Lib.hid (HRC.out x hsp)
            have hfx := HFC.out x HMEM.out hsp
            have hmem : wtOf j n0 n1 x ∈ wtsTo j n0 n1 sp (k + 1) := by rw [HS2.out]; simp
            have hwk := HWK.out.1 _ hmem
            have hnb := numR_bd (D := C) (l := wtsTo j n0 n1 sp k) fun y hy => ⟨(HWQ.out.1 y hy).1, (HWQ.out.1 y hy).2.2.1, (HWQ.out.1 y hy).2.2.2⟩
            have hnb2 : numR C (wtsTo j n0 n1 sp k) ≤ 30 * (200 * C) := Nat.le_trans hnb (Nat.mul_le_mul_right _ HWQ.out.2)
            have HNA := Lib.hid (show numR C (wtsTo j n0 n1 sp (k + 1)) = numR C (wtsTo j n0 n1 sp k) + x.count.toNat * wfN j n0 n1 x * (C / wfD j n0 n1 x) by rw [HS2.out, numR_app]; rfl)
            have hV1 : 1 ≤ wfD j n0 n1 x := hwk.1.v
            have hUC : wfN j n0 n1 x * (C / wfD j n0 n1 x) ≤ C := by
              obtain ⟨z, hz⟩ := hwk.2.2.1
              have hz' : C = wfD j n0 n1 x * z := hz
              have e1 : C / wfD j n0 n1 x = z := by rw [hz', Nat.mul_div_cancel_left _ hV1]
              have hle : wfN j n0 n1 x ≤ wfD j n0 n1 x := hwk.1.le
              rw [e1, hz']
              exact Nat.mul_le_mul_right _ hle
            clear hwk hnb hmem
            generalize numR C (wtsTo j n0 n1 sp k) = N0 at *
            obtain ⟨A, hA⟩ : ∃ A, szA j x = A := ⟨_, rfl⟩
            obtain ⟨B, hB⟩ : ∃ B, szB j x = B := ⟨_, rfl⟩
            obtain ⟨D, hD⟩ : ∃ D, rmA j x = D := ⟨_, rfl⟩
            obtain ⟨G, hG⟩ : ∃ G, rmB j x = G := ⟨_, rfl⟩
            have eA : (A : Int) = x.length + j.trim.kerf := by rw [← hA]; unfold szA; omega
            have eB : (B : Int) = x.width + j.trim.kerf := by rw [← hB]; unfold szB; omega
            have eD : (D : Int) = la + j.trim.kerf := by rw [← hD, HRA.out.1]; omega
            have eG : (G : Int) = lb + j.trim.kerf := by rw [← hG, HRA.out.2]; omega
            have HWA := Lib.hid (fun w9 => refWeight_any n0 A D w9 h20 (by omega) (by omega) (by omega))
            have HWB := Lib.hid (fun w9 => refWeight_any n1 B G w9 h21 (by omega) (by omega) (by omega))
            obtain ⟨ua, ub, uc⟩ := wu_bds (k := n0) (num := A) (den := D) h20 (by omega) (by omega) (by omega)
            obtain ⟨va, vb, vc⟩ := wu_bds (k := n1) (num := B) (den := G) h21 (by omega) (by omega) (by omega)
            have HFR := Lib.hid (show wfN j n0 n1 x = wuN n0 A D * wuN n1 B G ∧ wfD j n0 n1 x = wuD n0 A D * wuD n1 B G by unfold wfN wfD; rw [hA, hB, hD, hG]; exact ⟨rfl, rfl⟩)
            have v5 : IntKind.i64.wrap (x.length + j.trim.kerf) = (A : Int) := by rw [eA]; exact IntWalk.i64_in _ (by omega)
            have v6 : IntKind.i64.wrap (x.width + j.trim.kerf) = (B : Int) := by rw [eB]; exact IntWalk.i64_in _ (by omega)
            have v7 : IntKind.i64.wrap (la + j.trim.kerf) = (D : Int) := by rw [eD]; exact IntWalk.i64_in _ (by omega)
            have v8 : IntKind.i64.wrap (lb + j.trim.kerf) = (G : Int) := by rw [eG]; exact IntWalk.i64_in _ (by omega)
            have hwn : wNum n0 A D = ((wuN n0 A D : Nat) : Int) ∧ wDen n0 A D = ((wuD n0 A D : Nat) : Int) ∧ wNum n1 B G = ((wuN n1 B G : Nat) : Int) ∧ wDen n1 B G = ((wuD n1 B G : Nat) : Int) := ⟨rfl, rfl, rfl, rfl⟩
            rw [hwn.1, hwn.2.1] at HWA
            rw [hwn.2.2.1, hwn.2.2.2] at HWB
            clear hwn eA eB eD eG hA hB hD hG
            generalize wuN n0 A D = un at *
            generalize wuD n0 A D = ud at *
            generalize wuN n1 B G = vn at *
            generalize wuD n1 B G = vd at *
            rw [HFR.out.1, HFR.out.2] at HNA hUC
            rw [HFR.out.2] at hV1
            have HD := Lib.hid (And.intro d2 (And.intro d3 (And.intro d5 (And.intro q2 (And.intro y0 y1)))))
            go_quiet (fail)
            rename_i nq
            have hbd := below_drewN (Below.refl W1.heap.size W1) nq
            have HBQ := Lib.hid (HBX.out.trans (hbd.mono HBX.out.size))
            have d2 := cell_keep hbd HD.out.1
            have d3 := cell_keep hbd HD.out.2.1
            have d5 := cell_keep hbd HD.out.2.2.1
            have q2 := cell_keep hbd HD.out.2.2.2.1
            have y0 := cell_keep hbd HD.out.2.2.2.2.1
            have y1 := cell_keep hbd HD.out.2.2.2.2.2
            clear d0 d1 d4 kc l1 l2 l3 l4 HD
            generalize W1.drewN nq = W2 at *
            clear hbd
            go_upto_region 14 with (go_at_call 40; refine (HWA.out _).mono ?_; rintro e w3 ⟨rfl, hb3⟩; have HB3 := Lib.hid (HBQ.out.trans (hb3.mono HBQ.out.size)); have HK3 := Lib.hid hb3; clear hb3)
            refine gen_world (fun W4 => (W4.cell? ⟨w3.heap.size, 0, none⟩ = some (.int .i64 (un : Int)) ∧ W4.cell? ⟨w3.heap.size, 1, none⟩ = some (.int .i64 (ud : Int))) ∧ Below w3.heap.size w3 W4) ⟨⟨by simp [go_sem], by simp [go_sem]⟩, by repeat (first | (with_reducible assumption) | exact Below.refl _ _ | (refine Below.setCell ?_ (by first | omega | (simp; omega) | (simp; done)) _) | (refine Below.alloc ?_ (by first | omega | (simp; omega) | (simp; done)) _) | (refine Below.drew ?_))⟩ ?_
            rintro W4 ⟨⟨e0, e1⟩, hb4⟩
            have HB4 := Lib.hid (HB3.out.trans (hb4.mono HB3.out.size))
            have hk24 := HK3.out.trans (hb4.mono HK3.out.size)
            have d3 := cell_keep hk24 d3
            have d5 := cell_keep hk24 d5
            have q2 := cell_keep hk24 q2
            have y1 := cell_keep hk24 y1
            obtain ⟨g14, hg14⟩ : ∃ g, g = w3.heap.size := ⟨_, rfl⟩
            rw [← hg14] at e0 e1 ⊢
            have HE01 := Lib.hid (And.intro e0 (And.intro e1 d5))
            clear d2 y0 hb4 hk24 hg14 e0 e1 d5
            go_upto_region 15 with (go_at_call 40; refine (HWB.out _).mono ?_; rintro e w5 ⟨rfl, hb5⟩; have HB5 := Lib.hid (HB4.out.trans (hb5.mono HB4.out.size)); have HE5 := Lib.hid (And.intro (cell_keep hb5 HE01.out.1) (And.intro (cell_keep hb5 HE01.out.2.1) (cell_keep hb5 HE01.out.2.2))); clear hb5)
            refine gen_world (fun W6 => (W6.cell? ⟨w5.heap.size, 0, none⟩ = some (.int .i64 (vn : Int)) ∧ W6.cell? ⟨w5.heap.size, 1, none⟩ = some (.int .i64 (vd : Int))) ∧ Below w5.heap.size w5 W6) ⟨⟨by simp [go_sem], by simp [go_sem]⟩, by repeat (first | (with_reducible assumption) | exact Below.refl _ _ | (refine Below.setCell ?_ (by first | omega | (simp; omega) | (simp; done)) _) | (refine Below.alloc ?_ (by first | omega | (simp; omega) | (simp; done)) _) | (refine Below.drew ?_))⟩ ?_
            rintro W6 ⟨⟨f0, f1⟩, hb6⟩
            have HB6 := Lib.hid (HB5.out.trans (hb6.mono HB5.out.size))
            have e0 := cell_keep hb6 HE5.out.1
            have e1 := cell_keep hb6 HE5.out.2.1
            have d5 := cell_keep hb6 HE5.out.2.2
            obtain ⟨g15, hg15⟩ : ∃ g, g = w5.heap.size := ⟨_, rfl⟩
            rw [← hg15] at f0 f1 ⊢
            have l1 := block_lt_of_cell e0
            have l2 := block_lt_of_cell f0
            have l3 := block_lt_of_cell d5
            simp only at l1 l2 l3
            clear d3 q2 y1 hb6 hg15
            obtain ⟨cn, hcn⟩ : ∃ n : Nat, n = x.count.toNat := ⟨_, rfl⟩
            have ecn : x.count = (cn : Int) := by omega
            have bcn : cn ≤ 200 := by omega
            rw [← hcn] at HNA
            rw [ecn] at d5
            clear hcn ecn
            obtain ⟨DV, hDV⟩ : ∃ N : Nat, ud * vd = N := ⟨_, rfl⟩
            have bDV : DV ≤ 1000000000000 := by rw [← hDV]; exact Nat.mul_le_mul uc vc
            rw [hDV] at HNA hUC hV1
            obtain ⟨E, hE⟩ : ∃ E, C / DV = E := ⟨_, rfl⟩
            have hEC : E ≤ C := by rw [← hE]; exact Nat.div_le_self _ _
            have hqd : (C : Int) / (DV : Int) = ((E : Nat) : Int) := by rw [← hE]; exact (Int.natCast_ediv _ _).symm
            rw [hE] at HNA hUC
            obtain ⟨Q1, hQ1⟩ : ∃ N : Nat, cn * un = N := ⟨_, rfl⟩
            have bQ1 : Q1 ≤ 200 * 1000000 := by rw [← hQ1]; exact Nat.mul_le_mul bcn ua
            obtain ⟨Q2, hQ2⟩ : ∃ N : Nat, Q1 * vn = N := ⟨_, rfl⟩
            have bQ2 : Q2 ≤ 200 * 1000000 * 1000000 := by rw [← hQ2]; exact Nat.mul_le_mul bQ1 va
            obtain ⟨T, hT⟩ : ∃ N : Nat, Q2 * E = N := ⟨_, rfl⟩
            have hTe : cn * (un * vn) * E = T := by rw [← hT, ← hQ2, ← hQ1]; ac_rfl
            have bT : T ≤ 200 * C := by
              rw [← hTe, Nat.mul_assoc]
              exact Nat.mul_le_mul bcn hUC
            rw [hTe] at HNA
            have w1' : IntKind.i64.wrap ((cn : Int) * (un : Int)) = (Q1 : Int) := by rw [show (cn : Int) * (un : Int) = ((Q1 : Nat) : Int) by rw [← hQ1]; push_cast; rfl]; exact IntWalk.i64_in _ (by omega)
            have w2' : IntKind.i64.wrap ((Q1 : Int) * (vn : Int)) = (Q2 : Int) := by rw [show (Q1 : Int) * (vn : Int) = ((Q2 : Nat) : Int) by rw [← hQ2]; push_cast; rfl]; exact IntWalk.i64_in _ (by omega)
            have w3' : IntKind.i64.wrap ((ud : Int) * (vd : Int)) = (DV : Int) := by rw [show (ud : Int) * (vd : Int) = ((DV : Nat) : Int) by rw [← hDV]; push_cast; rfl]; exact IntWalk.i64_in _ (by omega)
            have w4' : IntKind.i64.wrap (E : Int) = (E : Int) := IntWalk.i64_in _ (by omega)
            have w5' : IntKind.i64.wrap ((Q2 : Int) * (E : Int)) = (T : Int) := by rw [show (Q2 : Int) * (E : Int) = ((T : Nat) : Int) by rw [← hT]; push_cast; rfl]; exact IntWalk.i64_in _ (by omega)
            have w6' : IntKind.i64.wrap ((N0 : Int) + (T : Int)) = ((N0 + T : Nat) : Int) := by rw [← Int.natCast_add]; exact IntWalk.i64_in _ (by omega)
            have hd0 : ¬ (DV : Int) = 0 := by omega
            have hd0' : ¬ DV = 0 := by omega
            clear hDV hE hQ1 hQ2 hT hTe ua ub uc va vb vc hUC
            go_quiet (fail)

            go_wp2_with fail
            go_roundw
            case rel => exact ⟨k + 1, by omega, by go_num, by rw [HNA.out]; push_cast; rfl, below_drewN HB6.out _⟩
            case measure => first | (simp [intOf]; done) | (simp [intOf]; omega)
        · obtain rfl : k = j.blanks.length := by omega
          have hki3 : ¬ ((j.blanks.length : Nat) : Int) < ((j.blanks.length : Nat) : Int) := by omega
          have hwl := (HW.out j.blanks.length).2
          have hnb := numR_bd (D := C) (l := wtsTo j n0 n1 sp j.blanks.length) fun y hy => ⟨((HW.out _).1 y hy).1, ((HW.out _).1 y hy).2.2.1, ((HW.out _).1 y hy).2.2.2⟩
          have hnb2 : numR C (wtsTo j n0 n1 sp j.blanks.length) ≤ 30 * (200 * C) := Nat.le_trans hnb (Nat.mul_le_mul_right _ hwl)
          have HWM := Lib.hid (show wtsM j n0 n1 sp = wtsTo j n0 n1 sp j.blanks.length from rfl)
          rw [HWM.out] at HSM
          have HBZ := Lib.hid (HBY.out.trans (hbn.mono HBY.out.size))
          clear hnb hbn
          generalize numR C (wtsTo j n0 n1 sp j.blanks.length) = N0 at *
          have HCE := Lib.hid (fun w9 => ceilN_any N0 C w9 (by omega) (by omega))
          rw [← HSM.out] at HCE
          generalize bndS j n0 n1 sp = BS at *
          have w4 : IntKind.i64.wrap ((S0 : Int) + (BS : Int)) = ((S0 + BS : Nat) : Int) := by rw [← Int.natCast_add]; exact IntWalk.i64_in _ (by omega)
          go_wp2_with (go_at_call 44; refine (HCE.out _).mono ?_; rintro e w9 ⟨rfl, rfl⟩)
          go_roundw
          case rel => exact ⟨m + 1, by omega, by go_num, by rw [HTK.out]; push_cast; rfl, HBZ.out⟩
          case measure => first | (simp [intOf]; done) | (simp [intOf]; omega)
    · obtain rfl : m = K.length := by omega
      have hki : ¬ ((K.length : Nat) : Int) < ((K.length : Nat) : Int) := by omega
      have HR := Lib.hid (show BM = bndTo j n0 n1 K by rw [HBT.out])
      go_wp2_with fail
      go_ret
      exact ⟨by rw [HR.out]; rfl, HBB.out⟩
end Go.Proofs.YtpaindkfbgoogaaGreat
/- The best bound, of the document. -/
set_option linter.unusedVariables false
set_option linter.unusedSimpArgs false
namespace Go.Proofs.YtpaindkfbgoogaaGreat
open Go Go.RowKit Go.Sort Go.Lib

set_option maxRecDepth 100000 in
set_option maxHeartbeats 16000000 in
theorem bestR_any (j : Job) (a1 : Option Addr) (c1 : Nat) (a2 : Option Addr) (c2 : Nat) (w : World) (hs : Boards.V w a1 j.stock) (hb : Blanks.V w a2 j.blanks) (hJ : JobOk j.stock j.blanks j.trim) (hfit : ∀ x ∈ j.blanks, fitsP j x) :
    Calls Tryz.prog 14 #[.agg #[.slice a1 j.stock.length c1, .slice a2 j.blanks.length c2, .int .i64 j.trim.kerf, .int .i64 j.trim.ends, .int .i64 j.trim.sides]] w fun e w' => e = .returned (.tuple #[.int .i64 (bestM j).1, .agg #[.int .i64 (((bestM j).2.1 : Nat) : Int), .int .i64 (((bestM j).2.2 : Nat) : Int)]]) ∧ Below w.heap.size w w' := by
  have HVS := Lib.hid hs
  have HVB := Lib.hid hb
  have HBP := Lib.hid (fun (a b : Nat) (ha : a ≤ 20) (hb' : b ≤ 20) w9 hs hb => boundR_any j a1 c1 a2 c2 a b ha hb' w9 hs hb hJ hfit)
  have HBD := Lib.hid (fun (a b : Nat) (ha : a ≤ 20) (hb : b ≤ 20) => show ((bndM j a b : Nat) : Int) ≤ 180000 from by
    have h1 := bndTo_bd hJ hfit ha hb (kindsM j.blanks)
    have h2 := kindsTo_len j.blanks j.blanks.length
    have h3 := hJ.lenB
    unfold kindsM at h1
    unfold bndM kindsM
    omega)
  have HBM := Lib.hid (show bestM j = bbAll j 6 from rfl)
  generalize bestM j = BE at *
  clear hs hb hJ hfit
  go_enter Tryz.func14, Tryz.ntmps14
  go_upto_region 2 with fail
  refine gen_world (fun W => BBox w W w.heap.size (w.heap.size + 1) (w.heap.size + 2) j a1 c1 a2 c2 0 0) ⟨⟨by simp [go_sem], by simp [go_sem], by simp [go_sem], by simp [go_sem], by simp [go_sem]⟩, ⟨by simp [go_sem], by simp [go_sem], by simp [go_sem], by simp [go_sem]⟩, ⟨by simp [go_sem], by simp [go_sem], by simp [go_sem], by simp [go_sem]⟩, by repeat (first | (with_reducible assumption) | exact Below.refl _ _ | (refine Below.setCell ?_ (by first | omega | (simp; omega) | (simp; done)) _) | (refine Below.alloc ?_ (by first | omega | (simp; omega) | (simp; done)) _) | (refine Below.drew ?_))⟩ ?_
  rintro W hBX
  obtain ⟨gj, hgj⟩ : ∃ g, g = w.heap.size := ⟨_, rfl⟩
  obtain ⟨g3, hg3⟩ : ∃ g, g = w.heap.size + 1 := ⟨_, rfl⟩
  obtain ⟨g6, hg6⟩ : ∃ g, g = w.heap.size + 2 := ⟨_, rfl⟩
  have HN := Lib.hid (show g6 ≠ gj ∧ g6 ≠ g3 ∧ w.heap.size ≤ g6 ∧ w.heap.size ≤ g3 by omega)
  rw [← hg6, ← hg3, ← hgj] at hBX
  simp only [Nat.add_assoc, Nat.reduceAdd]
  rw [← hg6, ← hg3, ← hgj]
  have HBX := Lib.hid hBX
  clear hBX hgj hg3 hg6
  go_wp2_with fail
  go_loopw [4, 6] (fun bv iv wr => ∃ a : Nat, a ≤ 6 ∧ iv = .int .i64 a ∧ bv = .int .i64 (bbAll j a).1 ∧ Hid (BBox w wr gj g3 g6 j a1 c1 a2 c2 (((bbAll j a).2.1 : Nat) : Int) (((bbAll j a).2.2 : Nat) : Int))) (fun _ iv _ => 6 - (intOf iv).toNat)
  case atStart => exact ⟨0, Nat.zero_le _, rfl, rfl, HBX⟩
  case round =>
    obtain ⟨a, ha, rfl, rfl, HB⟩ := hrel
    obtain ⟨wo, rfl⟩ : ∃ wo : World, wo = wr := ⟨_, rfl⟩
    by_cases hlt : a < 6
    · have hki : (a : Int) ≤ 5 := by omega
      have hki5 : ¬ 5 < (a : Int) := by omega
      have HAR := Lib.hid (show bbAll j (a + 1) = bbRow j a 6 (bbAll j a) from rfl)
      have HS0 := Lib.hid (show bbAll j a = bbRow j a 0 (bbAll j a) from rfl)
      obtain ⟨s0, hs0⟩ : ∃ s, s = bbAll j a := ⟨_, rfl⟩
      rw [← hs0] at HB HAR HS0 ⊢
      clear hs0
      go_upto_region 6 with fail
      go_wp2_with fail
      go_loopw [4, 7] (fun bv iv wr => ∃ b : Nat, b ≤ 6 ∧ iv = .int .i64 b ∧ bv = .int .i64 (bbRow j a b s0).1 ∧ Hid (BBox w wr gj g3 g6 j a1 c1 a2 c2 (((bbRow j a b s0).2.1 : Nat) : Int) (((bbRow j a b s0).2.2 : Nat) : Int))) (fun _ iv _ => 6 - (intOf iv).toNat)
      case atStart => exact ⟨0, Nat.zero_le _, rfl, by rw [HS0.out]; rfl, HB⟩
      case round =>
        obtain ⟨b, hb, rfl, rfl, HB3⟩ := hrel
        obtain ⟨wi, rfl⟩ : ∃ wi : World, wi = wr := ⟨_, rfl⟩
        by_cases hlt2 : b < 6
        · have hki2 : (b : Int) ≤ 5 := by omega
          have hki25 : ¬ 5 < (b : Int) := by omega
          have HCL := Lib.hid (HBP.out a b (by omega) (by omega))
          obtain ⟨q0, q1, q2, q3, q4⟩ := HB3.out.job
          have HVS3 := Lib.hid (HVS.out.keep HB3.out.b)
          have HVB3 := Lib.hid (HVB.out.keep HB3.out.b)
          have HST := Lib.hid (show bbRow j a (b + 1) s0 = if ((bndM j a b : Nat) : Int) > (bbRow j a b s0).1 then (((bndM j a b : Nat) : Int), a, b) else bbRow j a b s0 from rfl)
          obtain ⟨s1, hs1⟩ : ∃ s, s = bbRow j a b s0 := ⟨_, rfl⟩
          rw [← hs1] at HB3 HST ⊢
          clear hs1
          generalize bndM j a b = BM at *
          go_upto_region 9 with (go_at_call 16; refine (HCL.out _ HVS3.out HVB3.out).mono ?_; rintro e w4 ⟨rfl, hb4⟩; have HB4 := Lib.hid (HB3.out.keep hb4); clear hb4)
          clear q0 q1 q2 q3 q4
          by_cases hgt : ((BM : Nat) : Int) > s1.1
          · have HS2 := Lib.hid (show bbRow j a (b + 1) s0 = (((BM : Nat) : Int), a, b) by rw [HST.out, if_pos hgt])
            obtain ⟨n0, n1, m0, m1⟩ := HB4.out.n
            go_wp2_with fail
            go_roundw
            case rel => exact ⟨b + 1, by omega, by go_num, by rw [HS2.out], by rw [HS2.out]; exact Lib.hid (HB4.out.put HN.out.1 HN.out.2.1 HN.out.2.2.1)⟩
            case measure => first | (simp [intOf]; done) | (simp [intOf]; omega)
          · have HS2 := Lib.hid (show bbRow j a (b + 1) s0 = s1 by rw [HST.out, if_neg hgt])
            go_wp2_with fail
            go_roundw
            case rel => exact ⟨b + 1, by omega, by go_num, by rw [HS2.out], by rw [HS2.out]; exact HB4⟩
            case measure => first | (simp [intOf]; done) | (simp [intOf]; omega)
        · obtain rfl : b = 6 := by omega
          go_wp2_with fail
          go_roundw
          case rel => exact ⟨a + 1, by omega, by go_num, by rw [HAR.out], by rw [HAR.out]; exact HB3⟩
          case measure => first | (simp [intOf]; done) | (simp [intOf]; omega)
    · obtain rfl : a = 6 := by omega
      have HBE := Lib.hid (show BE = bbAll j 6 from HBM.out)
      obtain ⟨s0, hs0⟩ : ∃ s, s = bbAll j 6 := ⟨_, rfl⟩
      rw [← hs0] at HB HBE ⊢
      clear hs0 HBM
      go_upto_region 11 with fail
      obtain ⟨n0, n1, m0, m1⟩ := HB.out.n
      obtain ⟨z0, z1, y0, y1⟩ := HB.out.z
      go_region
      have hz := HB.out.z.set (n' := ((s0.2.1 : Nat) : Int)) (d' := ((s0.2.2 : Nat) : Int))
      have hbz := (HB.out.b.setCell (p := ⟨g3, 0, none⟩) HN.out.2.2.2 (.int .i64 ((s0.2.1 : Nat) : Int))).setCell (p := ⟨g3, 1, none⟩) HN.out.2.2.2 (.int .i64 ((s0.2.2 : Nat) : Int))
      generalize ((wo.setCell ⟨g3, 0, none⟩ (.int .i64 ((s0.2.1 : Nat) : Int))).setCell ⟨g3, 1, none⟩ (.int .i64 ((s0.2.2 : Nat) : Int))) = WZ at *
      have hbd := hbz.drew
      have x0 : WZ.drew.cell? ⟨g3, 0, none⟩ = some (.int .i64 ((s0.2.1 : Nat) : Int)) := hz.c0
      have x1 : WZ.drew.cell? ⟨g3, 1, none⟩ = some (.int .i64 ((s0.2.2 : Nat) : Int)) := hz.c1
      clear hz hbz n0 n1 z0 z1
      generalize WZ.drew = WD at *
      go_wp2_with fail
      refine bodyPost_ret (v := .tuple #[.int .i64 s0.1, .agg #[.int .i64 ((s0.2.1 : Nat) : Int), .int .i64 ((s0.2.2 : Nat) : Int)]]) ?_ ?_ ?_
      · simp [results, Tryz.results14, go_sem, x0, x1]
      · rfl
      · exact ⟨by rw [HBE.out], hbd⟩
end Go.Proofs.YtpaindkfbgoogaaGreat
