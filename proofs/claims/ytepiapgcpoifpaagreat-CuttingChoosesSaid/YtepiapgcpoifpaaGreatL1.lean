/- Lists of numbers put together: slices.Grow at nil, slices.Concat of two; crosscuts: their checks. -/
import Derived.Test.YtepiapgcpoifpaaGreatInts
import Derived.Test.YtepiapgcpoifpaaGreatW2
import Derived.Lib.AppendZerosOnto
import Derived.Lib.SliceRun
import Derived.Lib.Walk
set_option linter.unusedVariables false
set_option linter.unusedSimpArgs false
namespace Go.Proofs.YtepiapgcpoifpaaGreat
open Go Go.RowKit

section
variable {w : World}
/-- An append of numbers to a row of the call's own, whether there are some or none. -/
theorem run_append_ints (base : Nat) (i : TypeInfo) (hi : Tryz.prog.info? 3 = some i) (hz : i.zero = some (.int .i64 0)) (h1 : i.size = 1) (h8 : i.bytes = 8) (ty : TypeId) (v : Value) (n : Nat) (xs : List Value) (hown : w.ownsRow base 3 1 v n xs)
    (a : Option Addr) (l : List Int) (c : Nat) (hv : IntsV w a l) (hn : n + l.length ≤ 1000000) (hb : base ≤ w.heap.size) :
    ∃ v' w', (Builtin.append_ #[30, 30] ty #[v, .slice a l.length c]).run Tryz.prog w = .ok v' w' ∧ w'.ownsRow base 3 1 v' (n + l.length) (xs ++ l.map (Value.int .i64)) ∧ w.grownBy w' v.ownBlock := by
  by_cases hl : l = []
  · subst hl
    refine ⟨v, w, ?_, by simpa using hown, ⟨rfl, rfl, rfl, Nat.le_refl _, fun _ _ _ => rfl⟩⟩
    have hf : (Builtin.firstCells 1 0 (.slice a 0 c)).run Tryz.prog w = .ok #[] w := by
      cases a with
      | none => exact run_firstCells_none w 1 0 0 c
      | some a => exact run_firstCells_some w 1 0 a 0 c [] (by simp) (by simp)
    rcases hown.2 with ⟨rfl, rfl⟩ | ⟨g, cap, cur, rfl, _, _, hnc, _⟩
    · simp [Builtin.append_, run_underlying Tryz.underlying30, sizeOf, typeInfo, hi, h1, Builtin.lenOf, hf]
    · simp [Builtin.append_, run_underlying Tryz.underlying30, sizeOf, typeInfo, hi, h1, Builtin.lenOf, hf, hnc, storeCells]
  · obtain ⟨b, off, rfl, hc⟩ := hv hl
    obtain ⟨v', w', h2, h3, h4, -⟩ := run_append_own (P := Tryz.prog) w base 30 ty 3 i (.int .i64 0) 1 8 Tryz.underlying30 hi hz h1 h8 rfl (by decide) v n xs hown ⟨b, off, none⟩ l.length c (l.map (Value.int .i64)) (by simp) (by
      intro j u hj
      rw [List.getElem?_map, Option.map_eq_some_iff] at hj
      obtain ⟨x, hx, rfl⟩ := hj
      rw [addr_add]; exact hc j x hx) (by
      intro u hu
      obtain ⟨x, _, rfl⟩ := List.mem_map.1 hu
      rfl) (by unfold maxLen; omega) (by omega) hb
    exact ⟨v', w', h2, h3, h4⟩
theorem wp_append_ints {o : Oper} {a : Act} {K : Act → World → Prop} {Q : Exit → Act → World → Prop} (s x : Operand) (ho : o.op = .call { callee := .builtin .append, args := #[s, x], argTypes := #[30, 30] })
    (base : Nat) (i : TypeInfo) (hi : Tryz.prog.info? 3 = some i) (hz : i.zero = some (.int .i64 0)) (h1 : i.size = 1) (h8 : i.bytes = 8) (v : Value) (n : Nat) (xs : List Value) (hs : a.eval s = v) (hown : w.ownsRow base 3 1 v n xs)
    (ad : Option Addr) (l : List Int) (c : Nat) (hx : a.eval x = .slice ad l.length c) (hv : IntsV w ad l) (hn : n + l.length ≤ 1000000) (hb : base ≤ w.heap.size)
    (h : ∀ v' w', w'.ownsRow base 3 1 v' (n + l.length) (xs ++ l.map (Value.int .i64)) → w.grownBy w' v.ownBlock → K (a.put o.dst v') w') : o.wp Tryz.prog a w K Q := by
  obtain ⟨v', w', hr, h2, h3⟩ := run_append_ints base i hi hz h1 h8 o.type v n xs hown ad l c hv hn hb
  unfold Oper.wp execOp
  simp only [ho, resolve, invoke, builtin, Sem.run_bind, Sem.run_pure, Result.andThen_ok, List.map_toArray, List.map_cons, List.map_nil, hs, hx, hr]
  exact h v' w' h2 h3
theorem wpList_append_ints {ops : Array Oper} {rest : List Oper} {o : Oper} {a : Act} {Q : Exit → Act → World → Prop} (hgd : o.guard = none) (s x : Operand) (ho : o.op = .call { callee := .builtin .append, args := #[s, x], argTypes := #[30, 30] })
    (base : Nat) (i : TypeInfo) (hi : Tryz.prog.info? 3 = some i) (hz : i.zero = some (.int .i64 0)) (h1 : i.size = 1) (h8 : i.bytes = 8) (v : Value) (n : Nat) (xs : List Value) (hs : a.eval s = v) (hown : w.ownsRow base 3 1 v n xs)
    (ad : Option Addr) (l : List Int) (c : Nat) (hx : a.eval x = .slice ad l.length c) (hv : IntsV w ad l) (hn : n + l.length ≤ 1000000) (hb : base ≤ w.heap.size)
    (h : ∀ v' w', w'.ownsRow base 3 1 v' (n + l.length) (xs ++ l.map (Value.int .i64)) → w.grownBy w' v.ownBlock → wpList Tryz.prog ops Q rest (a.put o.dst v') w') : wpList Tryz.prog ops Q (o :: rest) a w :=
  wpList_plain hgd fun _ hK => wp_append_ints s x ho base i hi hz h1 h8 v n xs hs hown ad l c hx hv hn hb fun v' w' h2 h3 => hK _ _ (h v' w' h2 h3)
end

theorem intsV_keep {w w' : World} {a : Option Addr} {l : List Int} (h : IntsV w a l) (hb : Below w.heap.size w w') : IntsV w' a l := by
  intro hne
  obtain ⟨b, off, ha, hx⟩ := h hne
  exact ⟨b, off, ha, fun k x hk => cell_keep hb (hx k x hk)⟩
/-- An empty row of the call's own. -/
def RowPost (w : World) (xs : List Int) (e : Ending) (w' : World) : Prop := ∃ v, e = .returned v ∧ w'.ownsRow w.heap.size 3 1 v xs.length (xs.map (Value.int .i64)) ∧ Below w.heap.size w w'
set_option maxRecDepth 100000 in
set_option maxHeartbeats 2000000 in
theorem grow_any (n : Nat) (w : World) (hn : n ≤ 1000000) : Calls Tryz.prog 144 #[.slice none 0 0, .int .i64 (n : Int)] w (RowPost w []) := by
  obtain ⟨i0, hi, hz0, hz1, hz2⟩ := info_parts int_info
  by_cases h0 : n = 0
  · subst h0
    go_enter Tryz.func144, Tryz.ntmps144
    go_wp2_with fail
    go_ret
    exact ⟨_, rfl, World.ownsRow_nil _ _ _ _, Below.refl _ _⟩
  · have hn1 : ¬ ((n : Int) < 0) := by omega
    have hn2 : (n : Int) > 0 := by omega
    have v0 : IntKind.i64.wrap (n : Int) = (n : Int) := IntWalk.i64_in _ (by omega)
    have hold : (Builtin.firstCells i0.size 0 (.slice none 0 0)).run Tryz.prog w.drew = .ok ([] : List Value).toArray w.drew := run_firstCells_none w.drew i0.size 0 0 0
    have hrz : ∀ ty, (Builtin.append_ #[30, 3] ty #[.slice none 0 0, .int .i64 (n : Int)]).run Tryz.prog w = .ok (.slice (some ⟨w.heap.size, 0, none⟩) n (grownCap w n 0 3)) (w.drew.alloc (.cells (#[] ++ Builtin.zeroCells (Value.int .i64 0).cells n ++ Builtin.zeroCells (Value.int .i64 0).cells (grownCap w n 0 3 - n)) 3)) := fun ty => by
      have h := Lib.run_append_grow_zeros w 30 3 ty 3 i0 (.int .i64 0) .i64 .i64 Tryz.underlying30 Tryz.underlying3 hi hz0 none 0 0 [] hold n (by omega) (by rw [hz1]; decide) (by omega) (by omega) (by rw [hz2]; omega) (by rw [Nat.zero_add]; exact growslice_fits (by omega) (by rw [hz2]; omega))
      rw [Nat.zero_add] at h
      exact h
    have hG := grownCap_ge w n 0 3
    have hG2 := grownCap_le_maxLen w n 0 3 (by unfold maxLen; omega)
    have HOW := Lib.hid (World.ownsRow_made (e := 3) (base := w.heap.size) (size := 1) w.drew (#[] ++ Builtin.zeroCells (Value.int .i64 0).cells n ++ Builtin.zeroCells (Value.int .i64 0).cells (grownCap w n 0 3 - n)) (grownCap w n 0 3) (Nat.le_refl _) hG2 (by simp [Builtin.zeroCells, Value.cells]; omega))
    have HBE := Lib.hid ((Below.refl w.heap.size w).drew.alloc (Nat.le_refl _) (.cells (#[] ++ Builtin.zeroCells (Value.int .i64 0).cells n ++ Builtin.zeroCells (Value.int .i64 0).cells (grownCap w n 0 3 - n)) 3))
    unfold maxLen at hG2
    generalize grownCap w n 0 3 = G at *
    generalize (#[] ++ Builtin.zeroCells (Value.int .i64 0).cells n ++ Builtin.zeroCells (Value.int .i64 0).cells (G - n)) = cs at *
    clear hold
    go_enter Tryz.func144, Tryz.ntmps144
    go_wp2_with (at_builtin; refine Lib.wpList_append_run _ rfl _ _ _ _ rfl _ _ rfl rfl _ _ (hrz _) ?_)
    all_goals (go_ret; exact ⟨_, rfl, HOW.out, HBE.out⟩)
set_option maxRecDepth 100000 in
set_option maxHeartbeats 2000000 in
theorem concat_any (g : Nat) (a1 a2 : Option Addr) (l1 l2 : List Int) (c1 c2 : Nat) (w : World) (h0 : w.cell? ⟨g, 0, none⟩ = some (.slice a1 l1.length c1)) (h1 : w.cell? ⟨g, 1, none⟩ = some (.slice a2 l2.length c2)) (hv1 : IntsV w a1 l1) (hv2 : IntsV w a2 l2) (hl1 : l1.length ≤ 100000) (hl2 : l2.length ≤ 100000) :
    Calls Tryz.prog 114 #[.slice (some ⟨g, 0, none⟩) 2 2] w (RowPost w (l1 ++ l2)) := by
  obtain ⟨i0, hi, hz0, hz1, hz2⟩ := info_parts int_info
  have n1 : ¬ ((l1.length : Int) < 0) := by omega
  have n2 : ¬ ((l1.length : Int) + (l2.length : Int) < 0) := by omega
  have v1 : IntKind.i64.wrap (l1.length : Int) = (l1.length : Int) := IntWalk.i64_in _ (by omega)
  have v2 : IntKind.i64.wrap ((l1.length : Int) + (l2.length : Int)) = (l1.length : Int) + (l2.length : Int) := IntWalk.i64_in _ (by omega)
  have HG := Lib.hid (show Calls Tryz.prog 144 #[.slice none 0 0, .int .i64 ((l1.length : Int) + (l2.length : Int))] w (RowPost w []) by
    have := grow_any (l1.length + l2.length) w (by omega)
    rwa [Int.natCast_add] at this)
  go_enter Tryz.func114, Tryz.ntmps114
  have H1 := Lib.hid h1
  have tok1 : True := trivial
  go_wp2_with (first
    | (go_at_call 144; refine HG.out.mono ?_; rintro e w1 ⟨v, rfl, ho, hb⟩; have HO1 := Lib.hid ho; have HB1 := Lib.hid hb; have k0 := cell_keep hb h0; have k1 := cell_keep hb h1; clear ho hb h0 h1)
    | (at_builtin; have _t := tok1; refine wpList_append_ints rfl _ _ rfl w.heap.size i0 hi hz0 hz1 hz2 _ _ _ rfl HO1.out a1 l1 c1 rfl (intsV_keep hv1 HB1.out) (by simp; omega) HB1.out.size ?_; intro v2 w2 ho2 hg2; have HO2 := Lib.hid ho2; have HB2 := Lib.hid (HB1.out.grown hg2 HB1.out.size (fun k hk => own_base HO1.out hk)); have k1' := cell_keep HB2.out H1.out; clear ho2 hg2 tok1 _t k0 k1)
    | (at_builtin; refine wpList_append_ints rfl _ _ rfl w.heap.size i0 hi hz0 hz1 hz2 _ _ _ rfl HO2.out a2 l2 c2 rfl (intsV_keep hv2 HB2.out) (by simp; omega) HB2.out.size ?_; intro v3 w3 ho3 hg3; have HO3 := Lib.hid ho3; have HB3 := Lib.hid (HB2.out.grown hg3 HB2.out.size (fun k hk => own_base HO2.out hk)); clear ho3 hg3)
    | (with_reducible refine rounds_step ?_)
    | (with_reducible refine wp_loop_rounds 3 ?_))
  go_ret
  refine ⟨_, rfl, ?_, HB3.out⟩
  have h := HO3.out
  rw [List.length_append, List.map_append]
  simpa using h
end Go.Proofs.YtepiapgcpoifpaaGreat
