/- The common cells of two solids, as the program says it; the cells of a new solid. -/
import Derived.Test.YtbhgkadklklmbaaGreatQP
import Derived.Test.YtbhgkadklklmbaaGreatQI
set_option linter.unusedVariables false
set_option linter.unusedSimpArgs false
namespace Go.Proofs.YtbhgkadklklmbaaGreat
open Go Go.RowKit Go.Sort Go.Lib

/-! The common cells. -/
/-- The two cells of a body's box. -/
structure K2 (g : Nat) (p : BR) (W : World) : Prop where
 a : W.cell? ⟨g, 0, none⟩ = some (.slice p.pa p.ps.length p.pc)
 b : W.cell? ⟨g, 1, none⟩ = some (.slice p.ca (corn p.ps).length p.cc)
end Go.Proofs.YtbhgkadklklmbaaGreat
/- The program's copy of a solid, and two solids joined. -/
set_option linter.unusedVariables false
set_option linter.unusedSimpArgs false
namespace Go.Proofs.YtbhgkadklklmbaaGreat
open Go Go.RowKit Go.Sort Go.Lib

theorem eqNil (n c : Nat) (w : World) : (binOp .eql 22 (.slice none n c) (.slice none 0 0)).run Tryz.prog w = .ok (.bool true) w := by kernel_rfl
theorem eqSome (a : Addr) (n c : Nat) (w : World) : (binOp .eql 22 (.slice (some a) n c) (.slice none 0 0)).run Tryz.prog w = .ok (.bool false) w := by kernel_rfl
set_option maxRecDepth 100000 in
set_option maxHeartbeats 4000000 in
theorem clone_any (ps : List Pl) (pa : Option Addr) (pc : Nat) (w : World) (hl : ps.length ≤ 100000) (hv : Pls.V w pa ps) :
    Calls Tryz.prog 170 #[.slice pa ps.length pc] w fun e w' => ∃ a c, e = .returned (.slice a ps.length c) ∧ w'.ownsRow w.heap.size 26 4 (.slice a ps.length c) ps.length (ps.flatMap cellsPl) ∧ Below w.heap.size w w' := by
 obtain ⟨i0, hi0, hz0, hz1, hz2⟩ := info_parts infoPl
 have hen := eqNil
 have hes := eqSome
 cases pa with
 | none =>
  have hps : ps = [] := by
   cases ps with
   | nil => rfl
   | cons x l => obtain ⟨b, off, h, _⟩ := hv (by simp); cases h
  subst hps
  clear hv
  go_enter Tryz.func170, Tryz.ntmps170
  go_wp2_with fail
  go_ret
  exact ⟨none, 0, rfl, World.ownsRow_nil _ _ _ _, Below.refl _ _⟩
 | some ad =>
  have HB := Lib.hid ((Below.refl w.heap.size w).alloc (Nat.le_refl _) (.cells #[] 26))
  have HOW := Lib.hid (World.ownsRow_made (e := 26) (base := w.heap.size) (size := 4) w #[] 0 (by omega) (by decide) (by simp))
  have HPV := Lib.hid (plsNews (hv.keep HB.out))
  clear hv
  go_enter Tryz.func170, Tryz.ntmps170
  go_wp2_with (at_builtin; refine wpList_append_rows cellsPl_len cellsPl_one (by decide) rfl _ _ 22 rfl w.heap.size 26 i0 _ 32 Tryz.underlying22 hi0 hz0 hz1 hz2 rfl (by decide) (.slice (some ⟨w.heap.size, 0, none⟩) 0 0) 0 [] rfl HOW.out (some ad) ps pc rfl HPV.out (by omega) (by simp) ?_; intro v' w5 ho5 hg5 ha5; obtain ⟨ra, rc, rfl, -, -⟩ := own_slice ho5; have HO5 := Lib.hid (show w5.ownsRow w.heap.size 26 4 (.slice ra ps.length rc) ps.length (ps.flatMap cellsPl) by simpa using ho5); have HB5 := Lib.hid (below_grown HB.out hg5 HB.out.size fun k hk => by have := (own_lt HOW.out hk).1; omega); clear ho5 hg5 ha5)
  go_ret
  exact ⟨ra, rc, by simp, HO5.out, HB5.out⟩
structure RowCe where
 a : Option Addr
 l : List PR
 c : Nat
instance : Inhabited RowCe := ⟨⟨none, [], 0⟩⟩
theorem fldSol (a : Option Addr) (n c : Nat) (w : World) : (Instr.field 48 (.agg #[.slice a n c]) 0).run Tryz.prog w = .ok (.slice a n c) w := by kernel_rfl
end Go.Proofs.YtbhgkadklklmbaaGreat
