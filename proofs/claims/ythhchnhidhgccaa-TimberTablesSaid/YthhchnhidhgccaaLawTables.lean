/- TimberTables returns true for every input: Equilibrium returns the value of a table, or the error that the document specifies. No condition. -/
import Derived.Test.YthhchnhidhgccaaAwake2
import Derived.Test.YthhchnhidhgccaaTable5
import Derived.Test.YthhchnhidhgccaaFactsTables
set_option linter.unusedVariables false
set_option linter.unusedSimpArgs false
namespace Go.Proofs.Ythhchnhidhgccaa
open Go Go.ChangeShapes Go.WideShapes Go.ChangeAt Go.RowKit

theorem timberEq_is (a : Option Addr) (t : List Knot) (c : Nat) (h : Int) (w : World) (hv : Knots.V w a t) (hl : t.length ≤ 9223372036854775807) {v e0 : Int} (h1 : eqV t h = v) (h2 : eqE t h = e0) :
    Calls Try.prog 51 #[.slice a t.length c, .int .i64 h] w fun e w' => e = .returned (.tuple #[.int .i64 v, .int .i64 e0]) ∧ Below w.heap.size w w' := by
  subst h1 h2; exact timberEq_any a t c h w hv hl

set_option maxRecDepth 100000 in
set_option maxHeartbeats 4000000 in
theorem walkTimberTables (ta : Option Addr) (t : List Knot) (tc : Nat) (h : Int) (w : World) (Vt : Knots.V w ta t) (Lt : t.length ≤ 9223372036854775807) (Ct : t.length ≤ tc) (Wh : -9223372036854775808 ≤ h ∧ h ≤ 9223372036854775807) :
    Calls Try.prog 12 #[.slice ta t.length tc, .int .i64 h] w fun e w' => e = .returned (.bool true) ∧ Below w.heap.size w w' := by
  by_cases k0 : tableErr t = 0
  · have HT := Lib.hid k0
    cases k1 : withinB h 0 1000
    · have HE : eqE t h = 2 := by simp [eqE, k0, k1]
      have HV := Lib.hid (show eqE t h = 2 ∧ eqV t h = 0 from ⟨HE, by simp [eqV, HE]⟩)
      clear k0 HE
      go_enter Try.func12, Try.ntmps12
      go_wp2_with (first
        | (go_at_call 18; refine (awake_any _).mono ?_; rintro e w1 ⟨rfl, hb1⟩)
        | (go_at_call 51; refine (timberEq_is _ t _ h _ (Vt.keep hb1) Lt HV.out.2 HV.out.1).mono ?_; rintro e w2 ⟨rfl, hb2'⟩; have hb2 := hb1.trans (hb2'.mono hb1.size))
        | (go_at_call 52; refine (refTable_any _ t _ _ (Vt.keep hb2) Lt).mono ?_; rw [HT.out]; rintro e w3 ⟨rfl, hb3'⟩; have hb3 := hb2.trans (hb3'.mono hb2.size))
        | (go_at_call 28; refine (baseWithin_any _ _ _ _).mono ?_; rintro e w' ⟨rfl, rfl⟩))
      all_goals (go_ret; exact ⟨ret_bool (by go_tidy; first | rfl | (simp; done)), by assumption⟩)
    · have hh := withinB_true k1
      have HE : eqE t h = 0 := by simp [eqE, k0, k1]
      have HV := Lib.hid (show eqE t h = 0 ∧ eqV t h = eqVal t h from ⟨HE, by simp [eqV, HE]⟩)
      clear k0 HE
      go_enter Try.func12, Try.ntmps12
      go_wp2_with (first
        | (go_at_call 18; refine (awake_any _).mono ?_; rintro e w1 ⟨rfl, hb1⟩)
        | (go_at_call 51; refine (timberEq_is _ t _ h _ (Vt.keep hb1) Lt HV.out.2 HV.out.1).mono ?_; rintro e w2 ⟨rfl, hb2'⟩; have hb2 := hb1.trans (hb2'.mono hb1.size))
        | (go_at_call 52; refine (refTable_any _ t _ _ (Vt.keep hb2) Lt).mono ?_; rw [HT.out]; rintro e w3 ⟨rfl, hb3'⟩; have hb3 := hb2.trans (hb3'.mono hb2.size))
        | (go_at_call 28; refine (baseWithin_any _ _ _ _).mono ?_; rintro e w' ⟨rfl, rfl⟩)
        | (go_at_call 53; refine (refEq_any _ t _ h _ (Vt.keep hb3) Lt (tableErr_ok HT.out) hh.1 hh.2).mono ?_; rintro e w4 ⟨rfl, hb4'⟩; have hb4 := hb3.trans (hb4'.mono hb3.size)))
      all_goals (go_ret; exact ⟨ret_bool (by go_tidy; first | rfl | (simp; done)), by assumption⟩)
  · obtain ⟨E, hE⟩ : ∃ E, tableErr t = E := ⟨_, rfl⟩
    have HT := Lib.hid hE
    have HE : eqE t h = E := by unfold eqE; rw [if_pos k0, hE]
    rw [hE] at k0
    have HV := Lib.hid (show eqE t h = E ∧ eqV t h = 0 from ⟨HE, by unfold eqV; rw [HE, if_pos k0]⟩)
    have b0 : (E != 0) = true := by simp [k0]
    have b1 : (E == 0) = false := by simp [k0]
    clear HE hE k0
    go_enter Try.func12, Try.ntmps12
    go_wp2_with (first
      | (go_at_call 18; refine (awake_any _).mono ?_; rintro e w1 ⟨rfl, hb1⟩)
      | (go_at_call 51; refine (timberEq_is _ t _ h _ (Vt.keep hb1) Lt HV.out.2 HV.out.1).mono ?_; rintro e w2 ⟨rfl, hb2'⟩; have hb2 := hb1.trans (hb2'.mono hb1.size))
      | (go_at_call 52; refine (refTable_any _ t _ _ (Vt.keep hb2) Lt).mono ?_; rw [HT.out]; rintro e w3 ⟨rfl, hb3'⟩; have hb3 := hb2.trans (hb3'.mono hb2.size))
      | (go_at_call 28; refine (baseWithin_any _ _ _ _).mono ?_; rintro e w' ⟨rfl, rfl⟩))
    all_goals (go_ret; exact ⟨ret_bool (by go_tidy; first | rfl | (simp; done)), by assumption⟩)
set_option maxRecDepth 100000 in
theorem timberTables_walks : Walks 12 Try.f12 := by
  intro H enc W base args ds p hval hA hlt
  rw [Try.params12] at hA hval
  obtain ⟨v0, vs0, d0, ds0, p0, q0, hargs, rfl, rfl, ⟨fu0, hf0⟩, r0⟩ := trodAll_cons hA
  obtain ⟨v1, vs1, d1, ds1, p1, q1, rfl, rfl, rfl, ⟨fu1, hf1⟩, r1⟩ := trodAll_cons r0
  obtain ⟨rfl, rfl, rfl⟩ := trodAll_nil r1
  obtain rfl : args = #[v0, v1] := by cases args; simp_all
  obtain ⟨_, _, _, rfl⟩ := okWide_slice Try.underlying90 (hval 0 90 v0 rfl rfl)
  obtain ⟨a0, t, c0, e0, V0, C0, M0⟩ := Knots.open_ hf0
  rw [e0]
  obtain ⟨h, rfl⟩ := okWide_int Try.underlying3 (hval 1 3 v1 rfl rfl)
  obtain ⟨s1, g1, -, q1⟩ := DataW.trod_int Try.underlying3 hf1
  obtain rfl : s1 = h := by simpa [Value.cells] using g1.symm
  exact walkTimberTables a0 t c0 s1 W V0 (by unfold maxLen at M0; omega) C0 (int_wf q1)

set_option maxRecDepth 100000 in
theorem timberTables_holds : Rows.TimberTablesSaid :=
  law_holds (s := Rows.timberTablesSpec) (c := Rows.timberTablesRow) 12 Try.f12 rfl
    (fun H ds h => by match ds, h with | [_, _], _ => rfl) (by kernel_rfl) (by kernel_rfl)
    rfl rfl rfl rfl rfl rfl rfl ⟨rfl, rfl, rfl, rfl, rfl⟩ rfl rfl rfl rfl rfl rfl rfl rfl rfl rfl (fun _ _ => rfl) (by kernel_rfl) Try.func12
    timberTables_closed (of_decide_eq_true (by kernel_rfl)) (by unfold Func.isWrapper; first | (rw [if_pos (by decide +kernel)]; kernel_rfl) | (rw [if_neg (by decide +kernel)]; exact ⟨rfl, rfl⟩)) (by kernel_rfl)
    (fun H enc os => ChangeSpec.witness6 (enc := enc) (C := Try.checked) false ⟨#[], #[.slice none 0 0, .int .i64 0], []⟩ 8 (by kernel_rfl) (by kernel_rfl) (by kernel_rfl) (by kernel_rfl))
    timberTables_walks
end Go.Proofs.Ythhchnhidhgccaa
