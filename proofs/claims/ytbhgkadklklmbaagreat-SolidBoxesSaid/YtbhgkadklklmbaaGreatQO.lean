/- The points on three planes, as the document finds them. -/
import Derived.Test.YtbhgkadklklmbaaGreatQN
import Derived.Test.YtbhgkadklklmbaaGreatQC
import Derived.Test.YtbhgkadklklmbaaGreatQG
import Derived.Test.YtbhgkadklklmbaaGreatQE
import Derived.Test.YtbhgkadklklmbaaGreatQF
set_option linter.unusedVariables false
set_option linter.unusedSimpArgs false
namespace Go.Proofs.YtbhgkadklklmbaaGreat
open Go Go.RowKit Go.Sort Go.Lib

/-- A point in a box of its own. -/
structure CoBx (w : World) (g : Nat) (p : Co) : Prop where
 a : w.cell? ⟨g, 0, none⟩ = some (.int .i64 p.x)
 b : w.cell? ⟨g, 1, none⟩ = some (.int .i64 p.y)
 c : w.cell? ⟨g, 2, none⟩ = some (.int .i64 p.z)
 d : w.cell? ⟨g, 3, none⟩ = some (.int .i64 p.n)
theorem CoBx.keep {w w' : World} {g : Nat} {p : Co} (h : CoBx w g p) (hb : Below w.heap.size w w') : CoBx w' g p := ⟨cell_keep hb h.a, cell_keep hb h.b, cell_keep hb h.c, cell_keep hb h.d⟩
end Go.Proofs.YtbhgkadklklmbaaGreat
/- Equality of lists of planes and of points, as the document's helpers say it. -/
set_option linter.unusedVariables false
set_option linter.unusedSimpArgs false
namespace Go.Proofs.YtbhgkadklklmbaaGreat
open Go Go.RowKit Go.Sort Go.Lib

theorem eq_drop {α : Type} [DecidableEq α] {l m : List α} {k : Nat} (hk : k < l.length) (hm : k < m.length) : decide (l.drop k = m.drop k) = (decide (l[k] = m[k]) && decide (l.drop (k + 1) = m.drop (k + 1))) := by
 rw [Bool.eq_iff_iff]
 simp only [Bool.and_eq_true, decide_eq_true_eq]
 rw [List.drop_eq_getElem_cons hk, List.drop_eq_getElem_cons hm, List.cons.injEq]
theorem eq_end {α : Type} [DecidableEq α] {l m : List α} {k : Nat} (hk : l.length ≤ k) (hm : m.length ≤ k) : decide (l.drop k = m.drop k) = true := by rw [List.drop_eq_nil_of_le hk, List.drop_eq_nil_of_le hm]; simp
theorem eq_len {α : Type} [DecidableEq α] {l m : List α} (h : l.length ≠ m.length) : decide (l = m) = false := decide_eq_false fun e => h (by rw [e])
set_option maxRecDepth 100000 in
set_option maxHeartbeats 4000000 in
theorem sameCell_any (l : List Pl) (a : Option Addr) (c : Nat) (m : List Pl) (b : Option Addr) (d : Nat) (w : World) (hl : l.length ≤ 9223372036854775807) (hm : m.length ≤ 9223372036854775807) (hv : Pls.V w a l) (hu : Pls.V w b m) :
    Calls Tryz.prog 27 #[.agg #[.slice a l.length c], .agg #[.slice b m.length d]] w fun e w' => e = .returned (.bool (decide (l = m))) ∧ Below w.heap.size w w' := by
 obtain ⟨S, hS⟩ : ∃ S, S = decide (l = m) := ⟨_, rfl⟩
 have HS := Lib.hid hS
 have HV := Lib.hid hv
 have HU := Lib.hid hu
 rw [← hS]
 clear hS hv hu
 go_enter Tryz.func27, Tryz.ntmps27
 go_upto_region 1 with fail
 refine gen_world (fun W => W.cell? ⟨w.heap.size, 0, none⟩ = some (.slice a l.length c) ∧ W.cell? ⟨w.heap.size + 1, 0, none⟩ = some (.slice b m.length d) ∧ Below w.heap.size w W) ⟨by simp [go_sem], by simp [go_sem], by repeat (first | (with_reducible assumption) | exact Below.refl _ _ | (refine Below.setCell ?_ (by first | omega | (simp; omega) | (simp; done)) _) | (refine Below.alloc ?_ (by first | omega | (simp; omega) | (simp; done)) _) | (refine Below.drew ?_))⟩ ?_
 rintro W ⟨b0, b1, hb⟩
 obtain ⟨gw, hgw⟩ : ∃ g, g = w.heap.size := ⟨_, rfl⟩
 have HGW := Lib.hid hgw
 rw [← hgw] at b0 b1 ⊢
 clear hgw
 have HB0 := Lib.hid hb
 clear hb
 by_cases hlen : l.length = m.length
 ·have hne : ¬ ((l.length : Int) ≠ (m.length : Int)) := by omega
  have hli : ((l.length : Nat) : Int) = ((m.length : Nat) : Int) := by omega
  have HLEN := Lib.hid hlen
  have HST := Lib.hid (show S = decide (l.drop 0 = m.drop 0) from HS.out)
  clear hlen hne
  go_wp2_with fail
  go_loopw [5] (fun iv wr => ∃ k : Nat, k ≤ l.length ∧ iv = .int .i64 (k : Int) ∧ Hid (S = decide (l.drop k = m.drop k)) ∧ Below W.heap.size W wr) (fun iv _ => l.length - (intOf iv).toNat)
  case atStart => exact ⟨0, Nat.zero_le _, rfl, HST, Below.refl _ _⟩
  case round =>
   obtain ⟨k, hk, rfl, HK, hb⟩ := hrel
   have HB1 := Lib.hid hb
   have HBW := Lib.hid (HB0.out.trans (hb.mono HB0.out.size))
   have c0 := cell_keep hb b0
   have c1 := cell_keep hb b1
   by_cases hlt : k < l.length
   ·have hki : (k : Int) < (l.length : Int) := by omega
    have hlt2 : k < m.length := by have := HLEN.out; omega
    have hki2 : (k : Int) < (m.length : Int) := by omega
    obtain ⟨p, off, rfl, hat⟩ := (HV.out.keep HBW.out).at_ hlt
    obtain ⟨q, off2, rfl, hat2⟩ := (HU.out.keep HBW.out).at_ hlt2
    have HD := Lib.hid (eq_drop hlt hlt2)
    generalize l[k] = x at *
    generalize m[k] = y at *
    obtain ⟨x0, x1, x2, x3, -⟩ := hat
    obtain ⟨y0, y1, y2, y3, -⟩ := hat2
    have hl0 := block_lt_of_cell x0
    have hl1 := block_lt_of_cell y0
    have hl2 := block_lt_of_cell c0
    have hl3 := block_lt_of_cell c1
    simp only at hl0 hl1 hl2 hl3
    have heq := Pl_neq x y
    clear hb b0 b1
    go_upto_region 6 with fail
    refine wp_region_grew (by kernel_rfl) (by kernel_rfl) ?_
    repeat (first | go_big_quiet_step (fail) | quiet_step (fail))
    refine wpQuiet_nil ?_
    rintro _ ⟨gg, rfl⟩
    have HFB := Lib.hid (show Below W.heap.size W (grew wr gg) from grewB HB1.out HB1.out.size _)
    have HFW := Lib.hid (HB0.out.trans (HFB.out.mono HB0.out.size))
    cases hq : decide (x = y) with
    | true =>
     have HE := Lib.hid (show S = decide (l.drop (k + 1) = m.drop (k + 1)) by rw [HK.out, HD.out, hq]; rfl)
     go_wp2_with fail
     go_roundw
     case rel => exact ⟨k + 1, by omega, by go_num, HE, HFB.out⟩
     case measure => first | (simp [intOf]; done) | (simp [intOf]; omega)
    | false =>
     have HE := Lib.hid (show S = false by rw [HK.out, HD.out, hq]; rfl)
     go_wp2_with fail
     go_ret
     exact ⟨ret_bool HE.out.symm, HFW.out⟩
   ·obtain rfl : k = l.length := by omega
    have hki : ¬ ((l.length : Nat) : Int) < ((l.length : Nat) : Int) := by omega
    have HE := Lib.hid (show S = true by rw [HK.out]; exact eq_end (Nat.le_refl _) (Nat.le_of_eq HLEN.out.symm))
    clear hb
    go_wp2_with fail
    go_ret
    exact ⟨ret_bool HE.out.symm, HBW.out⟩
 ·have hne : ¬ (l.length : Int) = (m.length : Int) := by omega
  have HE := Lib.hid (show S = false by rw [HS.out]; exact eq_len hlen)
  go_wp2_with fail
  go_ret
  exact ⟨ret_bool HE.out.symm, HB0.out⟩
end Go.Proofs.YtbhgkadklklmbaaGreat
