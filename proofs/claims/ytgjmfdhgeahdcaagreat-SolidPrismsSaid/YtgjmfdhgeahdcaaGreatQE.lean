/- Rows of planes and of points that the call itself owns: their cells, their equality, slices.Compact. -/
import Derived.Test.YtgjmfdhgeahdcaaGreatQC
import Derived.Lib.SlicesCompact
import Derived.Lib.SliceRun
import Derived.Deep.LoopGhost
set_option linter.unusedVariables false
set_option linter.unusedSimpArgs false
namespace Go.Proofs.YtgjmfdhgeahdcaaGreat
open Go Go.RowKit Go.Sort Go.Lib

instance : Inhabited Pl := ⟨⟨0, 0, 0, 0⟩⟩
instance : Inhabited Co := ⟨⟨0, 0, 0, 0⟩⟩
/-- The head of a row alone. -/
theorem own_head {w : World} {base e k n m g cap : Nat} {xs : List Value} (h : w.ownsRow base e k (.slice (some ⟨g, 0, none⟩) n cap) n xs) (hm : m ≤ n) :
    w.ownsRow base e k (.slice (some ⟨g, 0, none⟩) m cap) m (xs.take (m * k)) := by
 have hk := Nat.mul_le_mul_right k hm
 refine ⟨by rw [List.length_take, h.1]; omega, ?_⟩
 rcases h.2 with ⟨e0, _⟩ | ⟨g', cap', cur, e0, hb, hg, hnc, hcm, hs, ht⟩
 ·cases e0
 ·injection e0 with e1 _ e3
  injection e1 with e1
  injection e1 with e1
  subst e1; subst e3
  exact .inr ⟨g, cap, cur, rfl, hb, hg, by omega, hcm, hs, by rw [← ht, List.take_take, Nat.min_eq_left hk]⟩
theorem own_behind {w : World} {base e k n g cap o : Nat} {u : Value} {xs : List Value} (h : w.ownsRow base e k (.slice (some ⟨g, 0, none⟩) n cap) n xs) (ho : n * k ≤ o) :
    (w.setCell ⟨g, o, none⟩ u).ownsRow base e k (.slice (some ⟨g, 0, none⟩) n cap) n xs := by
 refine ⟨h.1, ?_⟩
 rcases h.2 with ⟨e0, _⟩ | ⟨g', cap', cur, e0, hb, hg, hnc, hcm, hs, ht⟩
 ·cases e0
 ·injection e0 with e1 _ e3
  injection e1 with e1
  injection e1 with e1
  subst e1; subst e3
  refine .inr ⟨g, cap, cur.setIfInBounds o u, rfl, hb, ?_, hnc, hcm, by simpa using hs, ?_⟩
  ·simp [World.setCell, Array.getElem?_modify, hg]
  ·rw [Array.toList_setIfInBounds, List.take_set_of_le ho]; exact ht
theorem own_behinds {base e k n g cap : Nat} {xs : List Value} : ∀ (us : List Value) {o : Nat} {w : World}, w.ownsRow base e k (.slice (some ⟨g, 0, none⟩) n cap) n xs → n * k ≤ o →
    (w.setCells g o us).ownsRow base e k (.slice (some ⟨g, 0, none⟩) n cap) n xs
 | [], _, _, h, _ => h
 | u :: us, o, w, h, ho => own_behinds us (own_behind h ho) (by omega)
theorem own_cell_some {w : World} {base e k n g cap : Nat} {xs : List Value} (h : w.ownsRow base e k (.slice (some ⟨g, 0, none⟩) n cap) n xs) {j : Nat} (hj : j < n * k) : (w.cell? ⟨g, j, none⟩).isSome = true ∧ w.frozen? ⟨g, j, none⟩ = false := by
 rcases h.2 with ⟨e0, _⟩ | ⟨g', cap', cur, e0, hb, hg, hnc, hcm, hs, ht⟩
 ·cases e0
 ·injection e0 with e1 _ e3
  injection e1 with e1
  injection e1 with e1
  subst e1; subst e3
  have := Nat.mul_le_mul_right k hnc
  have hlt : j < cur.size := by omega
  simp [World.cell?, World.frozen?, hg, hlt]
theorem run_clear_k {P : Program} (w : World) (t e : TypeId) (z : Value) (k : Nat) (ht : P.underlying t = some (.slice e)) (hv : ∀ w, (zeroValue e).run P w = .ok z w) (hz : z.cells.size = k) (h1 : ∀ v ∈ z.cells.toList, v.oneCell' = true) (hk0 : 0 < k) (b o n c : Nat) (hn : 0 < n)
    (hc : ∀ j, j < n * k → (w.cell? ⟨b, o + j, none⟩).isSome = true) (hf : ∀ j, j < n * k → w.frozen? ⟨b, o + j, none⟩ = false) :
    ∃ us, ∀ ty, (Builtin.clear_ #[t] ty #[.slice (some ⟨b, o, none⟩) n c]).run P w = .ok (.tuple #[]) (w.setCells b o us) := by
 refine ⟨(Builtin.zeroCells z.cells n).toList, fun ty => ?_⟩
 have hl : (Builtin.zeroCells z.cells n).toList.length = n * k := by simp [Builtin.zeroCells, hz]
 have hst := run_storeCells_cells (P := P) b o (Builtin.zeroCells z.cells n).toList 0 w (by rw [hl]; simpa using hc) (by rw [hl]; simpa using hf) (by
  intro v hv'
  simp only [Builtin.zeroCells, Array.toList_map, List.mem_map] at hv'
  obtain ⟨i, _, rfl⟩ := hv'
  have : i % z.cells.size < z.cells.size := Nat.mod_lt _ (by omega)
  rw [getElem!_pos z.cells _ this]
  exact h1 _ (by simp))
 simp only [Nat.add_zero] at hst
 obtain ⟨m, rfl⟩ : ∃ m, n = m + 1 := ⟨n - 1, by omega⟩
 simp [Builtin.clear_, run_underlying ht, hv, hst]
section
variable {α : Type} [Inhabited α] [DecidableEq α]
theorem compact_dedup (l : List α) : Lib.compact l = dedup l := by
 have key : ∀ n (l : List α), l.length = n → compactUpTo l.toArray l.length = dedup l := by
  intro n
  induction n with
  | zero => intro l h; have := List.length_eq_zero_iff.1 h; subst this; rfl
  | succ n ih =>
   intro l h
   match l, h with
   | [x], _ => simp [compactUpTo, dedup, keeps]
   | x :: y :: l, h =>
    have ih' := ih (y :: l) (by simpa using h)
    have e : compactUpTo (x :: y :: l).toArray (x :: y :: l).length = (if x = y then [] else [x]) ++ compactUpTo (y :: l).toArray (y :: l).length ∨ True := .inr trivial
    clear e
    have hshift : ∀ j, keeps (x :: y :: l).toArray (j + 2) = keeps (y :: l).toArray (j + 1) := fun j => by simp [keeps]
    have hget : ∀ j, (x :: y :: l).toArray[j + 1]! = (y :: l).toArray[j]! := fun j => by simp
    have hr : ∀ m, compactUpTo (x :: y :: l).toArray (m + 2) = x :: ((if x = y then [] else [y]) ++ ((List.range m).filter (fun j => keeps (y :: l).toArray (j + 1))).map (fun j => (y :: l).toArray[j + 1]!)) := by
     intro m
     unfold compactUpTo
     rw [List.range_succ_eq_map, List.range_succ_eq_map]
     simp only [List.map_cons, List.map_map, List.filter_cons, List.filter_map]
     have k0 : keeps (x :: y :: l).toArray 0 = true := by simp [keeps]
     rw [k0]
     have k1 : keeps (x :: y :: l).toArray (Nat.succ 0) = !decide (x = y) := by
      by_cases hxy : x = y
      ·simp [keeps, hxy]
      ·simp [keeps, Ne.symm hxy, hxy]
     rw [k1]
     have e2 : (List.range m).filter ((keeps (x :: y :: l).toArray ∘ Nat.succ) ∘ Nat.succ) = (List.range m).filter (fun j => keeps (y :: l).toArray (j + 1)) := List.filter_congr fun j _ => hshift j
     by_cases hxy : x = y
     ·simp [hxy, Function.comp_def] at e2 ⊢
      rw [e2]
     ·simp [hxy, Function.comp_def] at e2 ⊢
      rw [e2]
    have hr2 : ∀ m, compactUpTo (y :: l).toArray (m + 1) = y :: ((List.range m).filter (fun j => keeps (y :: l).toArray (j + 1))).map (fun j => (y :: l).toArray[j + 1]!) := by
     intro m
     unfold compactUpTo
     rw [List.range_succ_eq_map]
     simp only [List.filter_cons, List.filter_map, List.map_cons]
     have k0 : keeps (y :: l).toArray 0 = true := by simp [keeps]
     rw [k0]
     simp [Function.comp_def]
    have h1 := hr l.length
    have h2 := hr2 l.length
    unfold dedup
    rw [show (x :: y :: l).length = l.length + 2 from rfl, h1]
    rw [show (y :: l).length = l.length + 1 from rfl, h2] at ih'
    by_cases hxy : x = y
    ·rw [if_pos hxy, if_pos hxy, ← ih', hxy]; rfl
    ·rw [if_neg hxy, if_neg hxy, ← ih']; rfl
 exact key l.length l rfl
end

/-! Rows of api.Plane. -/
theorem infoPl : (Tryz.prog.info? 43).map (fun i => (i.zero, i.size, i.bytes)) = some (some (.agg #[.int .i64 0, .int .i64 0, .int .i64 0, .int .i64 0]), 4, 32) := by kernel_rfl
def cellsPl (x : Pl) : List Value := [.int .i64 x.a, .int .i64 x.b, .int .i64 x.c, .int .i64 x.d]
theorem cellsPl_len (x : Pl) : (cellsPl x).length = 4 := rfl
theorem cellsPl_one (x : Pl) : ∀ v ∈ cellsPl x, v.oneCell' = true := by
 intro v hv
 simp only [cellsPl, List.mem_cons, List.not_mem_nil, or_false] at hv
 rcases hv with rfl | rfl | rfl | rfl <;> rfl
theorem Pl_cells {w : World} {b o : Nat} {x : Pl} (h : Pl.at w b o x) : ∀ c u, (cellsPl x)[c]? = some u → w.cell? ⟨b, o + c, none⟩ = some u := by
 obtain ⟨h0, h1, h2, h3, -⟩ := h
 intro c u hc
 match c, hc with
 | 0, hc => simp [cellsPl] at hc; subst hc; simpa using h0
 | 1, hc => simp [cellsPl] at hc; subst hc; exact h1
 | 2, hc => simp [cellsPl] at hc; subst hc; exact h2
 | 3, hc => simp [cellsPl] at hc; subst hc; exact h3
 | c + 4, hc => simp [cellsPl] at hc
theorem PlAt_of {w : World} {b o : Nat} {x : Pl} (hw : x.wf) (h : ∀ c u, (cellsPl x)[c]? = some u → w.cell? ⟨b, o + c, none⟩ = some u) : Pl.at w b o x :=
 ⟨h 0 _ rfl, h 1 _ rfl, h 2 _ rfl, h 3 _ rfl, hw⟩
theorem ownPlV {w : World} {base n c : Nat} {a : Option Addr} {l : List Pl} (hw : ∀ x ∈ l, x.wf) (h : w.ownsRow base 43 4 (.slice a n c) n (l.flatMap cellsPl)) : Pls.V w a l :=
 own_rowV cellsPl_len (by decide) (fun b o x hx h => PlAt_of (hw x hx) h) h
theorem own_getPl {w : World} {base e n g cap : Nat} {l : List Pl} {i : Nat} (h : w.ownsRow base e 4 (.slice (some ⟨g, 0, none⟩) n cap) n (l.flatMap cellsPl)) (hi : i < l.length) :
    (w.cell? ⟨g, i * 4, none⟩ = some (.int .i64 l[i].a) ∧ w.cell? ⟨g, i * 4 + 1, none⟩ = some (.int .i64 l[i].b) ∧ w.cell? ⟨g, i * 4 + 2, none⟩ = some (.int .i64 l[i].c) ∧ w.cell? ⟨g, i * 4 + 3, none⟩ = some (.int .i64 l[i].d)) ∧
     (w.frozen? ⟨g, i * 4, none⟩ = false ∧ w.frozen? ⟨g, i * 4 + 1, none⟩ = false ∧ w.frozen? ⟨g, i * 4 + 2, none⟩ = false ∧ w.frozen? ⟨g, i * 4 + 3, none⟩ = false) := by
 obtain ⟨g', cap', hv, _, _, _, _, _, hc⟩ := own_cells cellsPl_len h (by rintro rfl; simp at hi) (by decide)
 injection hv with ha _ _
 injection ha with ha
 injection ha with ha
 subst ha
 have c0 := hc i hi 0 (by decide)
 have c1 := hc i hi 1 (by decide)
 have c2 := hc i hi 2 (by decide)
 have c3 := hc i hi 3 (by decide)
 exact ⟨⟨c0.1, c1.1, c2.1, c3.1⟩, ⟨c0.2, c1.2, c2.2, c3.2⟩⟩
theorem own_putPl {w : World} {base e n g cap : Nat} {l : List Pl} {i : Nat} (q : Pl) (h : w.ownsRow base e 4 (.slice (some ⟨g, 0, none⟩) n cap) n (l.flatMap cellsPl)) (hi : i < l.length) :
    ((((w.setCell ⟨g, i * 4, none⟩ (.int .i64 q.a)).setCell ⟨g, i * 4 + 1, none⟩ (.int .i64 q.b)).setCell ⟨g, i * 4 + 2, none⟩ (.int .i64 q.c)).setCell ⟨g, i * 4 + 3, none⟩ (.int .i64 q.d)).ownsRow base e 4 (.slice (some ⟨g, 0, none⟩) n cap) n ((l.set i q).flatMap cellsPl) := by
 have h0 := own_setCell (c := 0) (x' := ⟨q.a, l[i].b, l[i].c, l[i].d⟩) (u := .int .i64 q.a) cellsPl_len h (by decide) hi (by decide) rfl
 have h1 := own_setCell (c := 1) (i := i) (x' := ⟨q.a, q.b, l[i].c, l[i].d⟩) (u := .int .i64 q.b) cellsPl_len h0 (by decide) (by simpa using hi) (by decide) (by rw [List.getElem_set_self]; rfl)
 rw [List.set_set] at h1
 have h2 := own_setCell (c := 2) (i := i) (x' := ⟨q.a, q.b, q.c, l[i].d⟩) (u := .int .i64 q.c) cellsPl_len h1 (by decide) (by simpa using hi) (by decide) (by rw [List.getElem_set_self]; rfl)
 rw [List.set_set] at h2
 have h3 := own_setCell (c := 3) (i := i) (x' := ⟨q.a, q.b, q.c, q.d⟩) (u := .int .i64 q.d) cellsPl_len h2 (by decide) (by simpa using hi) (by decide) (by rw [List.getElem_set_self]; rfl)
 rw [List.set_set] at h3
 exact h3
theorem Pl_dec (q r : Pl) : decide (q = r) = (decide (q.a = r.a) && (decide (q.b = r.b) && (decide (q.c = r.c) && decide (q.d = r.d)))) := by
 obtain ⟨a, b, c, d⟩ := q
 obtain ⟨a', b', c', d'⟩ := r
 simp [Bool.eq_iff_iff]
theorem Pl_eql (q r : Pl) (w : World) : (binOp .eql 43 (.agg #[.int .i64 q.a, .int .i64 q.b, .int .i64 q.c, .int .i64 q.d]) (.agg #[.int .i64 r.a, .int .i64 r.b, .int .i64 r.c, .int .i64 r.d])).run Tryz.prog w = .ok (.bool (decide (q = r))) w := by
 rw [Pl_dec]
 simp [go_sem]
 repeat' split
 all_goals simp_all
theorem Pl_neq (q r : Pl) (w : World) : (binOp .neq 43 (.agg #[.int .i64 q.a, .int .i64 q.b, .int .i64 q.c, .int .i64 q.d]) (.agg #[.int .i64 r.a, .int .i64 r.b, .int .i64 r.c, .int .i64 r.d])).run Tryz.prog w = .ok (.bool (!decide (q = r))) w := by
 rw [Pl_dec]
 simp [go_sem]
 repeat' split
 all_goals simp_all

/-! Rows of api.Corner. -/
theorem infoCo : (Tryz.prog.info? 48).map (fun i => (i.zero, i.size, i.bytes)) = some (some (.agg #[.int .i64 0, .int .i64 0, .int .i64 0, .int .i64 0]), 4, 32) := by kernel_rfl
def cellsCo (x : Co) : List Value := [.int .i64 x.x, .int .i64 x.y, .int .i64 x.z, .int .i64 x.n]
theorem cellsCo_len (x : Co) : (cellsCo x).length = 4 := rfl
theorem cellsCo_one (x : Co) : ∀ v ∈ cellsCo x, v.oneCell' = true := by
 intro v hv
 simp only [cellsCo, List.mem_cons, List.not_mem_nil, or_false] at hv
 rcases hv with rfl | rfl | rfl | rfl <;> rfl
theorem CoAt_of {w : World} {b o : Nat} {x : Co} (hw : x.wf) (h : ∀ c u, (cellsCo x)[c]? = some u → w.cell? ⟨b, o + c, none⟩ = some u) : Co.at w b o x :=
 ⟨h 0 _ rfl, h 1 _ rfl, h 2 _ rfl, h 3 _ rfl, hw⟩
theorem ownCoV {w : World} {base n c : Nat} {a : Option Addr} {l : List Co} (hw : ∀ x ∈ l, x.wf) (h : w.ownsRow base 48 4 (.slice a n c) n (l.flatMap cellsCo)) : Cos.V w a l :=
 own_rowV cellsCo_len (by decide) (fun b o x hx h => CoAt_of (hw x hx) h) h
theorem own_getCo {w : World} {base e n g cap : Nat} {l : List Co} {i : Nat} (h : w.ownsRow base e 4 (.slice (some ⟨g, 0, none⟩) n cap) n (l.flatMap cellsCo)) (hi : i < l.length) :
    (w.cell? ⟨g, i * 4, none⟩ = some (.int .i64 l[i].x) ∧ w.cell? ⟨g, i * 4 + 1, none⟩ = some (.int .i64 l[i].y) ∧ w.cell? ⟨g, i * 4 + 2, none⟩ = some (.int .i64 l[i].z) ∧ w.cell? ⟨g, i * 4 + 3, none⟩ = some (.int .i64 l[i].n)) ∧
     (w.frozen? ⟨g, i * 4, none⟩ = false ∧ w.frozen? ⟨g, i * 4 + 1, none⟩ = false ∧ w.frozen? ⟨g, i * 4 + 2, none⟩ = false ∧ w.frozen? ⟨g, i * 4 + 3, none⟩ = false) := by
 obtain ⟨g', cap', hv, _, _, _, _, _, hc⟩ := own_cells cellsCo_len h (by rintro rfl; simp at hi) (by decide)
 injection hv with ha _ _
 injection ha with ha
 injection ha with ha
 subst ha
 have c0 := hc i hi 0 (by decide)
 have c1 := hc i hi 1 (by decide)
 have c2 := hc i hi 2 (by decide)
 have c3 := hc i hi 3 (by decide)
 exact ⟨⟨c0.1, c1.1, c2.1, c3.1⟩, ⟨c0.2, c1.2, c2.2, c3.2⟩⟩
theorem own_putCo {w : World} {base e n g cap : Nat} {l : List Co} {i : Nat} (q : Co) (h : w.ownsRow base e 4 (.slice (some ⟨g, 0, none⟩) n cap) n (l.flatMap cellsCo)) (hi : i < l.length) :
    ((((w.setCell ⟨g, i * 4, none⟩ (.int .i64 q.x)).setCell ⟨g, i * 4 + 1, none⟩ (.int .i64 q.y)).setCell ⟨g, i * 4 + 2, none⟩ (.int .i64 q.z)).setCell ⟨g, i * 4 + 3, none⟩ (.int .i64 q.n)).ownsRow base e 4 (.slice (some ⟨g, 0, none⟩) n cap) n ((l.set i q).flatMap cellsCo) := by
 have h0 := own_setCell (c := 0) (x' := ⟨q.x, l[i].y, l[i].z, l[i].n⟩) (u := .int .i64 q.x) cellsCo_len h (by decide) hi (by decide) rfl
 have h1 := own_setCell (c := 1) (i := i) (x' := ⟨q.x, q.y, l[i].z, l[i].n⟩) (u := .int .i64 q.y) cellsCo_len h0 (by decide) (by simpa using hi) (by decide) (by rw [List.getElem_set_self]; rfl)
 rw [List.set_set] at h1
 have h2 := own_setCell (c := 2) (i := i) (x' := ⟨q.x, q.y, q.z, l[i].n⟩) (u := .int .i64 q.z) cellsCo_len h1 (by decide) (by simpa using hi) (by decide) (by rw [List.getElem_set_self]; rfl)
 rw [List.set_set] at h2
 have h3 := own_setCell (c := 3) (i := i) (x' := ⟨q.x, q.y, q.z, q.n⟩) (u := .int .i64 q.n) cellsCo_len h2 (by decide) (by simpa using hi) (by decide) (by rw [List.getElem_set_self]; rfl)
 rw [List.set_set] at h3
 exact h3
theorem Co_dec (q r : Co) : decide (q = r) = (decide (q.x = r.x) && (decide (q.y = r.y) && (decide (q.z = r.z) && decide (q.n = r.n)))) := by
 obtain ⟨a, b, c, d⟩ := q
 obtain ⟨a', b', c', d'⟩ := r
 simp [Bool.eq_iff_iff]
theorem Co_eql (q r : Co) (w : World) : (binOp .eql 48 (.agg #[.int .i64 q.x, .int .i64 q.y, .int .i64 q.z, .int .i64 q.n]) (.agg #[.int .i64 r.x, .int .i64 r.y, .int .i64 r.z, .int .i64 r.n])).run Tryz.prog w = .ok (.bool (decide (q = r))) w := by
 rw [Co_dec]
 simp [go_sem]
 repeat' split
 all_goals simp_all
theorem Co_neq (q r : Co) (w : World) : (binOp .neq 48 (.agg #[.int .i64 q.x, .int .i64 q.y, .int .i64 q.z, .int .i64 q.n]) (.agg #[.int .i64 r.x, .int .i64 r.y, .int .i64 r.z, .int .i64 r.n])).run Tryz.prog w = .ok (.bool (!decide (q = r))) w := by
 rw [Co_dec]
 simp [go_sem]
 repeat' split
 all_goals simp_all

end Go.Proofs.YtgjmfdhgeahdcaaGreat
/- slices.ContainsFunc at planes and points, for each closure of the program; the closures that ask where a point lies. -/
set_option linter.unusedVariables false
set_option linter.unusedSimpArgs false
namespace Go.Proofs.YtgjmfdhgeahdcaaGreat
open Go Go.RowKit Go.Sort Go.Lib

theorem idxOf_bool {α : Type} (p : α → Bool) (l : List α) : decide (0 ≤ idxOf p l) = l.any p := by
 unfold idxOf
 rw [Bool.eq_iff_iff, decide_eq_true_eq]
 cases h : l.findIdx? p with
 | none =>
  rw [List.findIdx?_eq_none_iff] at h
  simp only [List.any_eq_true]
  exact ⟨fun h' => by omega, fun ⟨x, hx, hp⟩ => by rw [h x hx] at hp; cases hp⟩
 | some i =>
  rw [List.findIdx?_eq_some_iff_getElem] at h
  obtain ⟨hi, hp, -⟩ := h
  simp only [List.any_eq_true]
  exact ⟨fun _ => ⟨_, List.getElem_mem hi, hp⟩, fun _ => by omega⟩

set_option maxHeartbeats 1000000 in
theorem idx_add1 (P : Pl → Bool) (a : Option Addr) (l : List Pl) (c : Nat) (p0 : Value) (w : World) (hv : Pls.V w a l) (hl : l.length ≤ 1000000)
    (hf : ∀ x ∈ l, ∀ w1, Below w.heap.size w w1 → Calls Tryz.prog 86 #[.agg #[.int .i64 x.a, .int .i64 x.b, .int .i64 x.c, .int .i64 x.d], p0] w1 fun e w' => e = .returned (.bool (P x)) ∧ Below w1.heap.size w1 w') :
    Calls Tryz.prog 118 #[.slice a l.length c, .func (.func 86) #[] #[p0]] w fun e w' => e = .returned (.int .i64 (idxOf P l)) ∧ Below w.heap.size w w' := by
 go_enter Tryz.func118, Tryz.ntmps118
 go_wp2
 go_loopw [8] (fun i wr => ∃ k : Nat, k ≤ l.length ∧ i = .int .i64 k ∧ Hid (∀ j (hj : j < l.length), j < k → P l[j] = false) ∧ Below w.heap.size w wr) (fun i _ => l.length - (intOf i).toNat)
 case atStart => exact ⟨0, Nat.zero_le _, rfl, Lib.hid (fun j _ h => by omega), Below.refl _ _⟩
 case round =>
  obtain ⟨k, hk, rfl, HK, hbw⟩ := hrel
  have hsz := hbw.size
  by_cases hlt : k < l.length
  ·obtain ⟨b, off, rfl, hat⟩ := (hv.keep hbw).at_ hlt
   obtain ⟨c0, c1, c2, c3, -⟩ := hat
   have HH := Lib.hid (fun h => idxOf_hit (p := P) hlt HK.out h)
   have HN := Lib.hid (fun h => none_step (p := P) HK.out hlt h)
   have HF := Lib.hid (hf _ (List.getElem_mem hlt) _ hbw)
   generalize l[k] = d at *
   cases hq : P d
   ·go_wp2_with (go_at_call 86; refine HF.out.mono ?_; rw [hq]; rintro e w1 ⟨rfl, hb⟩)
    go_round
    case rel => exact ⟨k + 1, by omega, by go_num, Lib.hid (HN.out hq), hbw.trans (hb.mono hsz)⟩
    case measure => simp [intOf]; omega
   ·go_wp2_with (go_at_call 86; refine HF.out.mono ?_; rw [hq]; rintro e w1 ⟨rfl, hb⟩)
    go_ret
    exact ⟨ret_int (HH.out hq).symm, hbw.trans (hb.mono hsz)⟩
  ·have hm := Lib.hid (idxOf_miss (p := P) (l := l) (fun j hj => HK.out j hj (by omega)))
   clear HK
   go_wp2
   go_ret
   exact ⟨ret_int hm.out.symm, hbw⟩
theorem has_add1 (P : Pl → Bool) (a : Option Addr) (l : List Pl) (c : Nat) (p0 : Value) (w : World) (hv : Pls.V w a l) (hl : l.length ≤ 1000000)
    (hf : ∀ x ∈ l, ∀ w1, Below w.heap.size w w1 → Calls Tryz.prog 86 #[.agg #[.int .i64 x.a, .int .i64 x.b, .int .i64 x.c, .int .i64 x.d], p0] w1 fun e w' => e = .returned (.bool (P x)) ∧ Below w1.heap.size w1 w') :
    Calls Tryz.prog 85 #[.slice a l.length c, .func (.func 86) #[] #[p0]] w fun e w' => e = .returned (.bool (l.any P)) ∧ Below w.heap.size w w' := by
 have hi := Lib.hid (idxOf_bool P l)
 go_enter Tryz.func85, Tryz.ntmps85
 go_wp2_with (go_at_call 118; refine (idx_add1 P a l c p0 _ hv hl hf).mono ?_; rintro e w1 ⟨rfl, hb⟩)
 go_ret
 exact ⟨ret_bool (by rw [← hi.out]), hb⟩

set_option maxHeartbeats 1000000 in
theorem idx_sol1 (P : Co → Bool) (a : Option Addr) (l : List Co) (c : Nat) (p0 : Value) (w : World) (hv : Cos.V w a l) (hl : l.length ≤ 1000000)
    (hf : ∀ x ∈ l, ∀ w1, Below w.heap.size w w1 → Calls Tryz.prog 83 #[.agg #[.int .i64 x.x, .int .i64 x.y, .int .i64 x.z, .int .i64 x.n], p0] w1 fun e w' => e = .returned (.bool (P x)) ∧ Below w1.heap.size w1 w') :
    Calls Tryz.prog 84 #[.slice a l.length c, .func (.func 83) #[] #[p0]] w fun e w' => e = .returned (.int .i64 (idxOf P l)) ∧ Below w.heap.size w w' := by
 go_enter Tryz.func84, Tryz.ntmps84
 go_wp2
 go_loopw [8] (fun i wr => ∃ k : Nat, k ≤ l.length ∧ i = .int .i64 k ∧ Hid (∀ j (hj : j < l.length), j < k → P l[j] = false) ∧ Below w.heap.size w wr) (fun i _ => l.length - (intOf i).toNat)
 case atStart => exact ⟨0, Nat.zero_le _, rfl, Lib.hid (fun j _ h => by omega), Below.refl _ _⟩
 case round =>
  obtain ⟨k, hk, rfl, HK, hbw⟩ := hrel
  have hsz := hbw.size
  by_cases hlt : k < l.length
  ·obtain ⟨b, off, rfl, hat⟩ := (hv.keep hbw).at_ hlt
   obtain ⟨c0, c1, c2, c3, -⟩ := hat
   have HH := Lib.hid (fun h => idxOf_hit (p := P) hlt HK.out h)
   have HN := Lib.hid (fun h => none_step (p := P) HK.out hlt h)
   have HF := Lib.hid (hf _ (List.getElem_mem hlt) _ hbw)
   generalize l[k] = d at *
   cases hq : P d
   ·go_wp2_with (go_at_call 83; refine HF.out.mono ?_; rw [hq]; rintro e w1 ⟨rfl, hb⟩)
    go_round
    case rel => exact ⟨k + 1, by omega, by go_num, Lib.hid (HN.out hq), hbw.trans (hb.mono hsz)⟩
    case measure => simp [intOf]; omega
   ·go_wp2_with (go_at_call 83; refine HF.out.mono ?_; rw [hq]; rintro e w1 ⟨rfl, hb⟩)
    go_ret
    exact ⟨ret_int (HH.out hq).symm, hbw.trans (hb.mono hsz)⟩
  ·have hm := Lib.hid (idxOf_miss (p := P) (l := l) (fun j hj => HK.out j hj (by omega)))
   clear HK
   go_wp2
   go_ret
   exact ⟨ret_int hm.out.symm, hbw⟩
theorem has_sol1 (P : Co → Bool) (a : Option Addr) (l : List Co) (c : Nat) (p0 : Value) (w : World) (hv : Cos.V w a l) (hl : l.length ≤ 1000000)
    (hf : ∀ x ∈ l, ∀ w1, Below w.heap.size w w1 → Calls Tryz.prog 83 #[.agg #[.int .i64 x.x, .int .i64 x.y, .int .i64 x.z, .int .i64 x.n], p0] w1 fun e w' => e = .returned (.bool (P x)) ∧ Below w1.heap.size w1 w') :
    Calls Tryz.prog 56 #[.slice a l.length c, .func (.func 83) #[] #[p0]] w fun e w' => e = .returned (.bool (l.any P)) ∧ Below w.heap.size w w' := by
 have hi := Lib.hid (idxOf_bool P l)
 go_enter Tryz.func56, Tryz.ntmps56
 go_wp2_with (go_at_call 84; refine (idx_sol1 P a l c p0 _ hv hl hf).mono ?_; rintro e w1 ⟨rfl, hb⟩)
 go_ret
 exact ⟨ret_bool (by rw [← hi.out]), hb⟩

set_option maxHeartbeats 1000000 in
theorem idx_apa3 (P : Co → Bool) (a : Option Addr) (l : List Co) (c : Nat) (p0 : Value) (w : World) (hv : Cos.V w a l) (hl : l.length ≤ 1000000)
    (hf : ∀ x ∈ l, ∀ w1, Below w.heap.size w w1 → Calls Tryz.prog 116 #[.agg #[.int .i64 x.x, .int .i64 x.y, .int .i64 x.z, .int .i64 x.n], p0] w1 fun e w' => e = .returned (.bool (P x)) ∧ Below w1.heap.size w1 w') :
    Calls Tryz.prog 84 #[.slice a l.length c, .func (.func 116) #[] #[p0]] w fun e w' => e = .returned (.int .i64 (idxOf P l)) ∧ Below w.heap.size w w' := by
 go_enter Tryz.func84, Tryz.ntmps84
 go_wp2
 go_loopw [8] (fun i wr => ∃ k : Nat, k ≤ l.length ∧ i = .int .i64 k ∧ Hid (∀ j (hj : j < l.length), j < k → P l[j] = false) ∧ Below w.heap.size w wr) (fun i _ => l.length - (intOf i).toNat)
 case atStart => exact ⟨0, Nat.zero_le _, rfl, Lib.hid (fun j _ h => by omega), Below.refl _ _⟩
 case round =>
  obtain ⟨k, hk, rfl, HK, hbw⟩ := hrel
  have hsz := hbw.size
  by_cases hlt : k < l.length
  ·obtain ⟨b, off, rfl, hat⟩ := (hv.keep hbw).at_ hlt
   obtain ⟨c0, c1, c2, c3, -⟩ := hat
   have HH := Lib.hid (fun h => idxOf_hit (p := P) hlt HK.out h)
   have HN := Lib.hid (fun h => none_step (p := P) HK.out hlt h)
   have HF := Lib.hid (hf _ (List.getElem_mem hlt) _ hbw)
   generalize l[k] = d at *
   cases hq : P d
   ·go_wp2_with (go_at_call 116; refine HF.out.mono ?_; rw [hq]; rintro e w1 ⟨rfl, hb⟩)
    go_round
    case rel => exact ⟨k + 1, by omega, by go_num, Lib.hid (HN.out hq), hbw.trans (hb.mono hsz)⟩
    case measure => simp [intOf]; omega
   ·go_wp2_with (go_at_call 116; refine HF.out.mono ?_; rw [hq]; rintro e w1 ⟨rfl, hb⟩)
    go_ret
    exact ⟨ret_int (HH.out hq).symm, hbw.trans (hb.mono hsz)⟩
  ·have hm := Lib.hid (idxOf_miss (p := P) (l := l) (fun j hj => HK.out j hj (by omega)))
   clear HK
   go_wp2
   go_ret
   exact ⟨ret_int hm.out.symm, hbw⟩
theorem has_apa3 (P : Co → Bool) (a : Option Addr) (l : List Co) (c : Nat) (p0 : Value) (w : World) (hv : Cos.V w a l) (hl : l.length ≤ 1000000)
    (hf : ∀ x ∈ l, ∀ w1, Below w.heap.size w w1 → Calls Tryz.prog 116 #[.agg #[.int .i64 x.x, .int .i64 x.y, .int .i64 x.z, .int .i64 x.n], p0] w1 fun e w' => e = .returned (.bool (P x)) ∧ Below w1.heap.size w1 w') :
    Calls Tryz.prog 56 #[.slice a l.length c, .func (.func 116) #[] #[p0]] w fun e w' => e = .returned (.bool (l.any P)) ∧ Below w.heap.size w w' := by
 have hi := Lib.hid (idxOf_bool P l)
 go_enter Tryz.func56, Tryz.ntmps56
 go_wp2_with (go_at_call 84; refine (idx_apa3 P a l c p0 _ hv hl hf).mono ?_; rintro e w1 ⟨rfl, hb⟩)
 go_ret
 exact ⟨ret_bool (by rw [← hi.out]), hb⟩

set_option maxHeartbeats 1000000 in
theorem idx_apa2 (P : Pl → Bool) (a : Option Addr) (l : List Pl) (c : Nat) (p0 : Value) (w : World) (hv : Pls.V w a l) (hl : l.length ≤ 1000000)
    (hf : ∀ x ∈ l, ∀ w1, Below w.heap.size w w1 → Calls Tryz.prog 115 #[.agg #[.int .i64 x.a, .int .i64 x.b, .int .i64 x.c, .int .i64 x.d], p0] w1 fun e w' => e = .returned (.bool (P x)) ∧ Below w1.heap.size w1 w') :
    Calls Tryz.prog 118 #[.slice a l.length c, .func (.func 115) #[] #[p0]] w fun e w' => e = .returned (.int .i64 (idxOf P l)) ∧ Below w.heap.size w w' := by
 go_enter Tryz.func118, Tryz.ntmps118
 go_wp2
 go_loopw [8] (fun i wr => ∃ k : Nat, k ≤ l.length ∧ i = .int .i64 k ∧ Hid (∀ j (hj : j < l.length), j < k → P l[j] = false) ∧ Below w.heap.size w wr) (fun i _ => l.length - (intOf i).toNat)
 case atStart => exact ⟨0, Nat.zero_le _, rfl, Lib.hid (fun j _ h => by omega), Below.refl _ _⟩
 case round =>
  obtain ⟨k, hk, rfl, HK, hbw⟩ := hrel
  have hsz := hbw.size
  by_cases hlt : k < l.length
  ·obtain ⟨b, off, rfl, hat⟩ := (hv.keep hbw).at_ hlt
   obtain ⟨c0, c1, c2, c3, -⟩ := hat
   have HH := Lib.hid (fun h => idxOf_hit (p := P) hlt HK.out h)
   have HN := Lib.hid (fun h => none_step (p := P) HK.out hlt h)
   have HF := Lib.hid (hf _ (List.getElem_mem hlt) _ hbw)
   generalize l[k] = d at *
   cases hq : P d
   ·go_wp2_with (go_at_call 115; refine HF.out.mono ?_; rw [hq]; rintro e w1 ⟨rfl, hb⟩)
    go_round
    case rel => exact ⟨k + 1, by omega, by go_num, Lib.hid (HN.out hq), hbw.trans (hb.mono hsz)⟩
    case measure => simp [intOf]; omega
   ·go_wp2_with (go_at_call 115; refine HF.out.mono ?_; rw [hq]; rintro e w1 ⟨rfl, hb⟩)
    go_ret
    exact ⟨ret_int (HH.out hq).symm, hbw.trans (hb.mono hsz)⟩
  ·have hm := Lib.hid (idxOf_miss (p := P) (l := l) (fun j hj => HK.out j hj (by omega)))
   clear HK
   go_wp2
   go_ret
   exact ⟨ret_int hm.out.symm, hbw⟩
theorem has_apa2 (P : Pl → Bool) (a : Option Addr) (l : List Pl) (c : Nat) (p0 : Value) (w : World) (hv : Pls.V w a l) (hl : l.length ≤ 1000000)
    (hf : ∀ x ∈ l, ∀ w1, Below w.heap.size w w1 → Calls Tryz.prog 115 #[.agg #[.int .i64 x.a, .int .i64 x.b, .int .i64 x.c, .int .i64 x.d], p0] w1 fun e w' => e = .returned (.bool (P x)) ∧ Below w1.heap.size w1 w') :
    Calls Tryz.prog 85 #[.slice a l.length c, .func (.func 115) #[] #[p0]] w fun e w' => e = .returned (.bool (l.any P)) ∧ Below w.heap.size w w' := by
 have hi := Lib.hid (idxOf_bool P l)
 go_enter Tryz.func85, Tryz.ntmps85
 go_wp2_with (go_at_call 118; refine (idx_apa2 P a l c p0 _ hv hl hf).mono ?_; rintro e w1 ⟨rfl, hb⟩)
 go_ret
 exact ⟨ret_bool (by rw [← hi.out]), hb⟩

set_option maxHeartbeats 1000000 in
theorem idx_rea1 (P : Co → Bool) (a : Option Addr) (l : List Co) (c : Nat) (w : World) (hv : Cos.V w a l) (hl : l.length ≤ 1000000)
    (hf : ∀ x ∈ l, ∀ w1, Below w.heap.size w w1 → Calls Tryz.prog 57 #[.agg #[.int .i64 x.x, .int .i64 x.y, .int .i64 x.z, .int .i64 x.n]] w1 fun e w' => e = .returned (.bool (P x)) ∧ Below w1.heap.size w1 w') :
    Calls Tryz.prog 84 #[.slice a l.length c, .func (.func 57) #[] #[]] w fun e w' => e = .returned (.int .i64 (idxOf P l)) ∧ Below w.heap.size w w' := by
 go_enter Tryz.func84, Tryz.ntmps84
 go_wp2
 go_loopw [8] (fun i wr => ∃ k : Nat, k ≤ l.length ∧ i = .int .i64 k ∧ Hid (∀ j (hj : j < l.length), j < k → P l[j] = false) ∧ Below w.heap.size w wr) (fun i _ => l.length - (intOf i).toNat)
 case atStart => exact ⟨0, Nat.zero_le _, rfl, Lib.hid (fun j _ h => by omega), Below.refl _ _⟩
 case round =>
  obtain ⟨k, hk, rfl, HK, hbw⟩ := hrel
  have hsz := hbw.size
  by_cases hlt : k < l.length
  ·obtain ⟨b, off, rfl, hat⟩ := (hv.keep hbw).at_ hlt
   obtain ⟨c0, c1, c2, c3, -⟩ := hat
   have HH := Lib.hid (fun h => idxOf_hit (p := P) hlt HK.out h)
   have HN := Lib.hid (fun h => none_step (p := P) HK.out hlt h)
   have HF := Lib.hid (hf _ (List.getElem_mem hlt) _ hbw)
   generalize l[k] = d at *
   cases hq : P d
   ·go_wp2_with (go_at_call 57; refine HF.out.mono ?_; rw [hq]; rintro e w1 ⟨rfl, hb⟩)
    go_round
    case rel => exact ⟨k + 1, by omega, by go_num, Lib.hid (HN.out hq), hbw.trans (hb.mono hsz)⟩
    case measure => simp [intOf]; omega
   ·go_wp2_with (go_at_call 57; refine HF.out.mono ?_; rw [hq]; rintro e w1 ⟨rfl, hb⟩)
    go_ret
    exact ⟨ret_int (HH.out hq).symm, hbw.trans (hb.mono hsz)⟩
  ·have hm := Lib.hid (idxOf_miss (p := P) (l := l) (fun j hj => HK.out j hj (by omega)))
   clear HK
   go_wp2
   go_ret
   exact ⟨ret_int hm.out.symm, hbw⟩
theorem has_rea1 (P : Co → Bool) (a : Option Addr) (l : List Co) (c : Nat) (w : World) (hv : Cos.V w a l) (hl : l.length ≤ 1000000)
    (hf : ∀ x ∈ l, ∀ w1, Below w.heap.size w w1 → Calls Tryz.prog 57 #[.agg #[.int .i64 x.x, .int .i64 x.y, .int .i64 x.z, .int .i64 x.n]] w1 fun e w' => e = .returned (.bool (P x)) ∧ Below w1.heap.size w1 w') :
    Calls Tryz.prog 56 #[.slice a l.length c, .func (.func 57) #[] #[]] w fun e w' => e = .returned (.bool (l.any P)) ∧ Below w.heap.size w w' := by
 have hi := Lib.hid (idxOf_bool P l)
 go_enter Tryz.func56, Tryz.ntmps56
 go_wp2_with (go_at_call 84; refine (idx_rea1 P a l c _ hv hl hf).mono ?_; rintro e w1 ⟨rfl, hb⟩)
 go_ret
 exact ⟨ret_bool (by rw [← hi.out]), hb⟩

set_option maxHeartbeats 1000000 in
theorem add1_any (p : Pl) (c : Co) (hp : p.in_) (hc : c.in_) (g : Nat) (w : World) (h0 : w.cell? ⟨g, 0, none⟩ = some (.int .i64 c.x)) (h1 : w.cell? ⟨g, 1, none⟩ = some (.int .i64 c.y)) (h2 : w.cell? ⟨g, 2, none⟩ = some (.int .i64 c.z)) (h3 : w.cell? ⟨g, 3, none⟩ = some (.int .i64 c.n)) :
    Calls Tryz.prog 86 #[.agg #[.int .i64 p.a, .int .i64 p.b, .int .i64 p.c, .int .i64 p.d], .pointer (some ⟨g, 0, none⟩)] w fun e w' => e = .returned (.bool (decide (0 < sd p c))) ∧ Below w.heap.size w w' := by
 have hgl := block_lt_of_cell h0
 simp only at hgl
 go_enter Tryz.func86, Tryz.ntmps86
 go_wp2_with (go_at_call 67; refine (side_any p c hp hc _).mono ?_; rintro e w1 ⟨rfl, hb⟩)
 go_ret
 exact ⟨rfl, ((Below.refl _ _).alloc (Nat.le_refl _) _).trans (hb.mono (by simp))⟩

set_option maxHeartbeats 1000000 in
theorem sol1_any (c : Co) (p : Pl) (hp : p.in_) (hc : c.in_) (g : Nat) (w : World) (h0 : w.cell? ⟨g, 0, none⟩ = some (.int .i64 p.a)) (h1 : w.cell? ⟨g, 1, none⟩ = some (.int .i64 p.b)) (h2 : w.cell? ⟨g, 2, none⟩ = some (.int .i64 p.c)) (h3 : w.cell? ⟨g, 3, none⟩ = some (.int .i64 p.d)) :
    Calls Tryz.prog 83 #[.agg #[.int .i64 c.x, .int .i64 c.y, .int .i64 c.z, .int .i64 c.n], .pointer (some ⟨g, 0, none⟩)] w fun e w' => e = .returned (.bool (decide (sd p c < 0))) ∧ Below w.heap.size w w' := by
 have hgl := block_lt_of_cell h0
 simp only at hgl
 go_enter Tryz.func83, Tryz.ntmps83
 go_wp2_with (go_at_call 67; refine (side_any p c hp hc _).mono ?_; rintro e w1 ⟨rfl, hb⟩)
 go_ret
 exact ⟨rfl, ((Below.refl _ _).alloc (Nat.le_refl _) _).trans (hb.mono (by simp))⟩

set_option maxHeartbeats 1000000 in
theorem apa3_any (c : Co) (p : Pl) (hp : p.in_) (hc : c.in_) (g : Nat) (w : World) (h0 : w.cell? ⟨g, 0, none⟩ = some (.int .i64 p.a)) (h1 : w.cell? ⟨g, 1, none⟩ = some (.int .i64 p.b)) (h2 : w.cell? ⟨g, 2, none⟩ = some (.int .i64 p.c)) (h3 : w.cell? ⟨g, 3, none⟩ = some (.int .i64 p.d)) :
    Calls Tryz.prog 116 #[.agg #[.int .i64 c.x, .int .i64 c.y, .int .i64 c.z, .int .i64 c.n], .pointer (some ⟨g, 0, none⟩)] w fun e w' => e = .returned (.bool (decide (sd p c < 0))) ∧ Below w.heap.size w w' := by
 have hgl := block_lt_of_cell h0
 simp only at hgl
 go_enter Tryz.func116, Tryz.ntmps116
 go_wp2_with (go_at_call 67; refine (side_any p c hp hc _).mono ?_; rintro e w1 ⟨rfl, hb⟩)
 go_ret
 exact ⟨rfl, ((Below.refl _ _).alloc (Nat.le_refl _) _).trans (hb.mono (by simp))⟩

end Go.Proofs.YtgjmfdhgeahdcaaGreat
/- slices.Compact at rows of planes and of points that the call itself owns. -/
set_option linter.unusedVariables false
set_option linter.unusedSimpArgs false
namespace Go.Proofs.YtgjmfdhgeahdcaaGreat
open Go Go.RowKit Go.Sort Go.Lib

theorem toA_get {α : Type} [Inhabited α] {l : List α} {i : Nat} (h : i < l.length) : l.toArray[i]! = l[i] := by
 rw [getElem!_pos l.toArray i (by simpa using h)]; simp
theorem arr_get {α : Type} [Inhabited α] {d : Array α} {i : Nat} (h : i < d.toList.length) : d.toList[i] = d[i]! := by
 rw [getElem!_pos d i (by simpa using h)]; simp
theorem arr_set {α : Type} {d : Array α} {i : Nat} {x : α} : (d.setIfInBounds i x).toList = d.toList.set i x := by simp
theorem grown_refl (w : World) (r : Option Nat) : w.grownBy w r := ⟨rfl, rfl, rfl, Nat.le_refl _, fun _ _ _ => rfl⟩
theorem grown_drewN {w w' : World} {r : Option Nat} (h : w.grownBy w' r) (n : Nat) : w.grownBy (w'.drewN n) r := ⟨h.os, h.tape, h.output, h.size, h.block⟩
theorem grown_set' {w w' : World} {g : Nat} (h : w.grownBy w' (some g)) (o : Nat) (u : Value) : w.grownBy (w'.setCell ⟨g, o, none⟩ u) (some g) :=
 ⟨h.os, h.tape, h.output, by simpa [World.setCell] using h.size, fun k hk hne => by
  rw [← h.block k hk hne]
  simp [World.setCell, Array.getElem?_modify, show g ≠ k from fun e => hne (by rw [e])]⟩
theorem grown_sets {w : World} {g : Nat} : ∀ (us : List Value) {o : Nat} {w' : World}, w.grownBy w' (some g) → w.grownBy (w'.setCells g o us) (some g)
 | [], _, _, h => h
 | u :: us, o, w', h => grown_sets us (grown_set' h o u)
theorem take_flat {α : Type} {enc : α → List Value} {k : Nat} (hk : ∀ x, (enc x).length = k) : ∀ (l : List α) (n : Nat), (l.flatMap enc).take (n * k) = (l.take n).flatMap enc
 | [], n => by simp
 | x :: l, 0 => by simp
 | x :: l, n + 1 => by
  rw [List.flatMap_cons, List.take_succ_cons, List.flatMap_cons, Nat.add_mul, Nat.one_mul, Nat.add_comm, List.take_append, hk]
  rw [show k + n * k - k = n * k by omega, List.take_of_length_le (by rw [hk]; omega), take_flat hk l n]

set_option maxRecDepth 100000 in
set_option maxHeartbeats 4000000 in
theorem compactPl_any (base g n cap : Nat) (l : List Pl) (w : World) (h : w.ownsRow base 43 4 (.slice (some ⟨g, 0, none⟩) n cap) n (l.flatMap cellsPl)) (hl : l.length ≤ 1000000) (h2 : 2 ≤ n) :
    Calls Tryz.prog 71 #[.slice (some ⟨g, 0, none⟩) n cap] w fun e w' => ∃ m, e = .returned (.slice (some ⟨g, 0, none⟩) m cap) ∧ w'.ownsRow base 43 4 (.slice (some ⟨g, 0, none⟩) m cap) m ((dedup l).flatMap cellsPl) ∧ w.grownBy w' (some g) := by
 have hnl := own_len cellsPl_len (by decide) h
 subst hnl
 obtain ⟨g', cap', hv', hbg, hgl, -, hnc, hcm, -⟩ := own_cells cellsPl_len h (by rintro rfl; simp at h2) (by decide)
 injection hv' with ha' _ hc'
 injection ha' with ha'
 injection ha' with ha'
 subst ha' hc'
 have hmix : Tryz.prog.follows .mixedOrders = true := by kernel_rfl
 have HO := Lib.hid h
 have hlt0 : ¬ (l.length : Int) < 2 := by omega
 have HE := Lib.hid (show compactUpTo l.toArray l.length = dedup l from compact_dedup l)
 have hq := Pl_eql
 have hq2 := Pl_neq
 clear h
 go_enter Tryz.func71, Tryz.ntmps71
 go_wp2_with fail
 go_loopw [3] (fun s3 wr => ∃ k : Nat, 1 ≤ k ∧ k ≤ l.length ∧ s3 = .int .i64 (k : Int) ∧ Hid (∀ j, j < k → keeps l.toArray j = true) ∧ wr.ownsRow base 43 4 (.slice (some ⟨g, 0, none⟩) l.length cap) l.length (l.flatMap cellsPl) ∧ w.grownBy wr (some g)) (fun s3 _ => l.length - (intOf s3).toNat)
 case atStart => exact ⟨1, Nat.le_refl _, by omega, rfl, Lib.hid (keeps_lt_one _), HO.out, grown_refl w _⟩
 case round =>
  obtain ⟨k, hk1, hk, rfl, HK, ho, hb⟩ := hrel
  have HB := Lib.hid hb
  have HOR := Lib.hid ho
  by_cases hlt : k < l.length
  ·have hkm : k - 1 < l.length := by omega
   obtain ⟨⟨c0, c1, c2, c3⟩, -⟩ := own_getPl ho hlt
   obtain ⟨⟨d0, d1, d2, d3⟩, -⟩ := own_getPl ho hkm
   clear ho hb
   have e1 := toA_get (l := l) hlt
   have e2 := toA_get (l := l) hkm
   have v1 : IntKind.i64.wrap ((k : Int) - 1) = ((k - 1 : Nat) : Int) := by rw [show (k : Int) - 1 = ((k - 1 : Nat) : Int) by omega]; exact IntWalk.i64_in _ (by omega)
   have hki : (k : Int) < (l.length : Int) := by omega
   have hdec : Hid (decide (l[k] = l[k - 1]) = true → keeps l.toArray k = false) := Lib.hid fun h => keeps_neg (by omega) (by rw [e1, e2]; exact of_decide_eq_true h)
   have hdec2 : Hid (decide (l[k] = l[k - 1]) = false → keeps l.toArray k = true) := Lib.hid fun h => keeps_pos (by rw [e1, e2]; exact of_decide_eq_false h)
   clear e1 e2
   generalize l[k] = x at *
   generalize l[k - 1] = y at *
   by_cases hxy : x = y
   ·have HKD := Lib.hid (hdec.out (decide_eq_true hxy))
    subst hxy
    have hdx : decide (x = x) = true := decide_eq_true rfl
    clear hdec hdec2
    go_wp2_with fail
    go_quiet (fail)
    go_wp2_with fail
    go_loopw [3, 5] (fun s3 s5 wq => ∃ (kk k2 : Nat) (dk : Array Pl), s3 = .int .i64 (kk : Int) ∧ s5 = .int .i64 (k2 : Int) ∧ 1 ≤ k2 ∧ k + k2 ≤ l.length ∧ Hid (CompInv l.toArray (k + k2) kk dk) ∧ wq.ownsRow base 43 4 (.slice (some ⟨g, 0, none⟩) l.length cap) l.length (dk.toList.flatMap cellsPl) ∧ w.grownBy wq (some g)) (fun _ s5 _ => l.length - k - (intOf s5).toNat)
    case atStart => exact ⟨k, 1, l.toArray, rfl, rfl, Nat.le_refl _, by omega, Lib.hid (CompInv.start HK.out HKD.out), own_keep HOR.out (below_drewN (Below.refl _ _) _), grown_drewN HB.out _⟩
    case round =>
     obtain ⟨kk, k2, dk, rfl, rfl, hk21, hk2, HI, ho2, hb2⟩ := hrel
     have HB2 := Lib.hid hb2
     have HO2 := Lib.hid ho2
     have hkk := HI.out.lt
     have hds : dk.toList.length = l.length := by have := HI.out.size; simpa using this
     by_cases hlt2 : k + k2 < l.length
     ·have hm1 : k + k2 < dk.toList.length := by omega
      have hm2 : k + k2 - 1 < dk.toList.length := by omega
      have hm3 : kk < dk.toList.length := by omega
      obtain ⟨⟨c0, c1, c2, c3⟩, -⟩ := own_getPl ho2 hm1
      obtain ⟨⟨d0, d1, d2, d3⟩, -⟩ := own_getPl ho2 hm2
      obtain ⟨⟨t0, t1, t2, t3⟩, ⟨f0, f1, f2, f3⟩⟩ := own_getPl ho2 hm3
      have e1 := arr_get hm1
      have e2 := arr_get hm2
      rw [HI.out.high (k + k2) (by omega)] at e1
      rw [HI.out.high (k + k2 - 1) (by omega)] at e2
      have hdec : Hid (decide (dk.toList[k + k2] = dk.toList[k + k2 - 1]) = true → keeps l.toArray (k + k2) = false) := Lib.hid fun h => keeps_neg (by omega) (by rw [← e1, ← e2]; exact of_decide_eq_true h)
      have hdec2 : Hid (decide (dk.toList[k + k2] = dk.toList[k + k2 - 1]) = false → keeps l.toArray (k + k2) = true) := Lib.hid fun h => keeps_pos (by rw [← e1, ← e2]; exact of_decide_eq_false h)
      have HX := Lib.hid e1
      have v1 : IntKind.i64.wrap ((k2 : Int) - 1) = ((k2 - 1 : Nat) : Int) := by rw [show (k2 : Int) - 1 = ((k2 - 1 : Nat) : Int) by omega]; exact IntWalk.i64_in _ (by omega)
      have hki : (k2 : Int) < ((l.length - k : Nat) : Int) := by omega
      have n1 : k * 4 + k2 * 4 = (k + k2) * 4 := by omega
      have n2 : k * 4 + (k2 - 1) * 4 = (k + k2 - 1) * 4 := by omega
      have HP := fun q => Lib.hid (own_putPl q ho2 hm3)
      clear ho2 hb2 e1 e2
      generalize dk.toList[k + k2] = x at *
      generalize dk.toList[k + k2 - 1] = y at *
      by_cases hxy : x = y
      ·have HKD := Lib.hid (hdec.out (decide_eq_true hxy))
       subst hxy
       have hdx : decide (x = x) = true := decide_eq_true rfl
       clear hdec hdec2
       go_wp2_with fail
       go_quiet (fail)
       go_wp2_with fail
       go_roundw
       case rel => exact ⟨kk, k2 + 1, dk, rfl, by go_num, by omega, by omega, Lib.hid (HI.out.skip HKD.out), own_keep HO2.out (below_drewN (Below.refl _ _) _), grown_drewN HB2.out _⟩
       case measure => first | (simp [intOf]; done) | (simp [intOf]; omega)
      ·have HKD := Lib.hid (hdec2.out (decide_eq_false hxy))
       have hdx : decide (x = y) = false := decide_eq_false hxy
       clear hdec hdec2 hxy
       go_wp2_with fail
       go_quiet (fail)
       go_wp2_with fail
       go_roundw
       case rel =>
        refine ⟨kk + 1, k2 + 1, dk.setIfInBounds kk x, by go_num, by go_num, by omega, by omega, Lib.hid (by have := HI.out.keep (by simpa using hlt2) HKD.out; rwa [← HX.out] at this), ?_, ?_⟩
        ·rw [arr_set]; exact own_putPl x (own_keep HO2.out (below_drewN (Below.refl _ _) _)) hm3
        ·repeat (first | exact grown_drewN HB2.out _ | refine grown_set' ?_ _ _)
       case measure => first | (simp [intOf]; done) | (simp [intOf]; omega)
     ·have hend : k + k2 = l.length := by omega
      have hki : ¬ (k2 : Int) < ((l.length - k : Nat) : Int) := by omega
      have HTK := Lib.hid (show dk.toList.take kk = dedup l by
       rw [← HE.out]
       have hI := HI.out
       rw [hend] at hI
       have hlen := hI.len
       apply List.ext_getElem?
       intro j
       rw [List.getElem?_take]
       by_cases hj : j < kk
       ·rw [if_pos hj]
        have := hI.low j hj
        rw [this, List.getElem?_eq_getElem (by omega), arr_get (by omega)]
       ·rw [if_neg hj, List.getElem?_eq_none (by omega)])
      have hsome : ∀ j, j < (l.length - kk) * 4 → (wr.cell? ⟨g, kk * 4 + j, none⟩).isSome = true ∧ wr.frozen? ⟨g, kk * 4 + j, none⟩ = false := fun j hj => own_cell_some ho2 (by omega)
      obtain ⟨us, hcl⟩ := run_clear_k wr 44 43 _ 4 Tryz.underlying44 Tryz.zeroValue43 rfl (by intro v hv; simp [Value.cells] at hv; subst hv; rfl) (by decide) g (kk * 4) (l.length - kk) (cap - kk) (by omega) (fun j hj => (hsome j hj).1) (fun j hj => (hsome j hj).2)
      clear ho2 hb2 hsome
      go_wp2_with fail
      go_ret
      refine ⟨kk, rfl, ?_, grown_sets us HB2.out⟩
      have h1 := own_head HO2.out (m := kk) (by omega)
      rw [take_flat cellsPl_len, HTK.out] at h1
      exact own_behinds us h1 (Nat.le_refl _)
   ·have HKD := Lib.hid (hdec2.out (decide_eq_false hxy))
    have hdx : decide (x = y) = false := decide_eq_false hxy
    clear hdec hdec2 hxy
    go_wp2_with fail
    go_quiet (fail)
    go_wp2_with fail
    go_roundw
    case rel => exact ⟨k + 1, by omega, by omega, by go_num, Lib.hid (fun j hj => by rcases Nat.lt_succ_iff_lt_or_eq.1 hj with h | rfl; exact HK.out j h; exact HKD.out), own_keep HOR.out (below_drewN (Below.refl _ _) _), grown_drewN HB.out _⟩
    case measure => first | (simp [intOf]; done) | (simp [intOf]; omega)
  ·obtain rfl : k = l.length := by omega
   have hki : ¬ ((l.length : Nat) : Int) < ((l.length : Nat) : Int) := by omega
   have HD := Lib.hid (show dedup l = l by rw [← HE.out, compactUpTo_all _ _ HK.out]; have := range_map_get l.toArray; simpa using this)
   clear ho hb
   go_wp2_with fail
   go_ret
   exact ⟨l.length, rfl, by rw [HD.out]; exact HOR.out, HB.out⟩

set_option maxRecDepth 100000 in
set_option maxHeartbeats 4000000 in
theorem compactCo_any (base g n cap : Nat) (l : List Co) (w : World) (h : w.ownsRow base 48 4 (.slice (some ⟨g, 0, none⟩) n cap) n (l.flatMap cellsCo)) (hl : l.length ≤ 1000000) (h2 : 2 ≤ n) :
    Calls Tryz.prog 66 #[.slice (some ⟨g, 0, none⟩) n cap] w fun e w' => ∃ m, e = .returned (.slice (some ⟨g, 0, none⟩) m cap) ∧ w'.ownsRow base 48 4 (.slice (some ⟨g, 0, none⟩) m cap) m ((dedup l).flatMap cellsCo) ∧ w.grownBy w' (some g) := by
 have hnl := own_len cellsCo_len (by decide) h
 subst hnl
 obtain ⟨g', cap', hv', hbg, hgl, -, hnc, hcm, -⟩ := own_cells cellsCo_len h (by rintro rfl; simp at h2) (by decide)
 injection hv' with ha' _ hc'
 injection ha' with ha'
 injection ha' with ha'
 subst ha' hc'
 have hmix : Tryz.prog.follows .mixedOrders = true := by kernel_rfl
 have HO := Lib.hid h
 have hlt0 : ¬ (l.length : Int) < 2 := by omega
 have HE := Lib.hid (show compactUpTo l.toArray l.length = dedup l from compact_dedup l)
 have hq := Co_eql
 have hq2 := Co_neq
 clear h
 go_enter Tryz.func66, Tryz.ntmps66
 go_wp2_with fail
 go_loopw [3] (fun s3 wr => ∃ k : Nat, 1 ≤ k ∧ k ≤ l.length ∧ s3 = .int .i64 (k : Int) ∧ Hid (∀ j, j < k → keeps l.toArray j = true) ∧ wr.ownsRow base 48 4 (.slice (some ⟨g, 0, none⟩) l.length cap) l.length (l.flatMap cellsCo) ∧ w.grownBy wr (some g)) (fun s3 _ => l.length - (intOf s3).toNat)
 case atStart => exact ⟨1, Nat.le_refl _, by omega, rfl, Lib.hid (keeps_lt_one _), HO.out, grown_refl w _⟩
 case round =>
  obtain ⟨k, hk1, hk, rfl, HK, ho, hb⟩ := hrel
  have HB := Lib.hid hb
  have HOR := Lib.hid ho
  by_cases hlt : k < l.length
  ·have hkm : k - 1 < l.length := by omega
   obtain ⟨⟨c0, c1, c2, c3⟩, -⟩ := own_getCo ho hlt
   obtain ⟨⟨d0, d1, d2, d3⟩, -⟩ := own_getCo ho hkm
   clear ho hb
   have e1 := toA_get (l := l) hlt
   have e2 := toA_get (l := l) hkm
   have v1 : IntKind.i64.wrap ((k : Int) - 1) = ((k - 1 : Nat) : Int) := by rw [show (k : Int) - 1 = ((k - 1 : Nat) : Int) by omega]; exact IntWalk.i64_in _ (by omega)
   have hki : (k : Int) < (l.length : Int) := by omega
   have hdec : Hid (decide (l[k] = l[k - 1]) = true → keeps l.toArray k = false) := Lib.hid fun h => keeps_neg (by omega) (by rw [e1, e2]; exact of_decide_eq_true h)
   have hdec2 : Hid (decide (l[k] = l[k - 1]) = false → keeps l.toArray k = true) := Lib.hid fun h => keeps_pos (by rw [e1, e2]; exact of_decide_eq_false h)
   clear e1 e2
   generalize l[k] = x at *
   generalize l[k - 1] = y at *
   by_cases hxy : x = y
   ·have HKD := Lib.hid (hdec.out (decide_eq_true hxy))
    subst hxy
    have hdx : decide (x = x) = true := decide_eq_true rfl
    clear hdec hdec2
    go_wp2_with fail
    go_quiet (fail)
    go_wp2_with fail
    go_loopw [3, 5] (fun s3 s5 wq => ∃ (kk k2 : Nat) (dk : Array Co), s3 = .int .i64 (kk : Int) ∧ s5 = .int .i64 (k2 : Int) ∧ 1 ≤ k2 ∧ k + k2 ≤ l.length ∧ Hid (CompInv l.toArray (k + k2) kk dk) ∧ wq.ownsRow base 48 4 (.slice (some ⟨g, 0, none⟩) l.length cap) l.length (dk.toList.flatMap cellsCo) ∧ w.grownBy wq (some g)) (fun _ s5 _ => l.length - k - (intOf s5).toNat)
    case atStart => exact ⟨k, 1, l.toArray, rfl, rfl, Nat.le_refl _, by omega, Lib.hid (CompInv.start HK.out HKD.out), own_keep HOR.out (below_drewN (Below.refl _ _) _), grown_drewN HB.out _⟩
    case round =>
     obtain ⟨kk, k2, dk, rfl, rfl, hk21, hk2, HI, ho2, hb2⟩ := hrel
     have HB2 := Lib.hid hb2
     have HO2 := Lib.hid ho2
     have hkk := HI.out.lt
     have hds : dk.toList.length = l.length := by have := HI.out.size; simpa using this
     by_cases hlt2 : k + k2 < l.length
     ·have hm1 : k + k2 < dk.toList.length := by omega
      have hm2 : k + k2 - 1 < dk.toList.length := by omega
      have hm3 : kk < dk.toList.length := by omega
      obtain ⟨⟨c0, c1, c2, c3⟩, -⟩ := own_getCo ho2 hm1
      obtain ⟨⟨d0, d1, d2, d3⟩, -⟩ := own_getCo ho2 hm2
      obtain ⟨⟨t0, t1, t2, t3⟩, ⟨f0, f1, f2, f3⟩⟩ := own_getCo ho2 hm3
      have e1 := arr_get hm1
      have e2 := arr_get hm2
      rw [HI.out.high (k + k2) (by omega)] at e1
      rw [HI.out.high (k + k2 - 1) (by omega)] at e2
      have hdec : Hid (decide (dk.toList[k + k2] = dk.toList[k + k2 - 1]) = true → keeps l.toArray (k + k2) = false) := Lib.hid fun h => keeps_neg (by omega) (by rw [← e1, ← e2]; exact of_decide_eq_true h)
      have hdec2 : Hid (decide (dk.toList[k + k2] = dk.toList[k + k2 - 1]) = false → keeps l.toArray (k + k2) = true) := Lib.hid fun h => keeps_pos (by rw [← e1, ← e2]; exact of_decide_eq_false h)
      have HX := Lib.hid e1
      have v1 : IntKind.i64.wrap ((k2 : Int) - 1) = ((k2 - 1 : Nat) : Int) := by rw [show (k2 : Int) - 1 = ((k2 - 1 : Nat) : Int) by omega]; exact IntWalk.i64_in _ (by omega)
      have hki : (k2 : Int) < ((l.length - k : Nat) : Int) := by omega
      have n1 : k * 4 + k2 * 4 = (k + k2) * 4 := by omega
      have n2 : k * 4 + (k2 - 1) * 4 = (k + k2 - 1) * 4 := by omega
      have HP := fun q => Lib.hid (own_putCo q ho2 hm3)
      clear ho2 hb2 e1 e2
      generalize dk.toList[k + k2] = x at *
      generalize dk.toList[k + k2 - 1] = y at *
      by_cases hxy : x = y
      ·have HKD := Lib.hid (hdec.out (decide_eq_true hxy))
       subst hxy
       have hdx : decide (x = x) = true := decide_eq_true rfl
       clear hdec hdec2
       go_wp2_with fail
       go_quiet (fail)
       go_wp2_with fail
       go_roundw
       case rel => exact ⟨kk, k2 + 1, dk, rfl, by go_num, by omega, by omega, Lib.hid (HI.out.skip HKD.out), own_keep HO2.out (below_drewN (Below.refl _ _) _), grown_drewN HB2.out _⟩
       case measure => first | (simp [intOf]; done) | (simp [intOf]; omega)
      ·have HKD := Lib.hid (hdec2.out (decide_eq_false hxy))
       have hdx : decide (x = y) = false := decide_eq_false hxy
       clear hdec hdec2 hxy
       go_wp2_with fail
       go_quiet (fail)
       go_wp2_with fail
       go_roundw
       case rel =>
        refine ⟨kk + 1, k2 + 1, dk.setIfInBounds kk x, by go_num, by go_num, by omega, by omega, Lib.hid (by have := HI.out.keep (by simpa using hlt2) HKD.out; rwa [← HX.out] at this), ?_, ?_⟩
        ·rw [arr_set]; exact own_putCo x (own_keep HO2.out (below_drewN (Below.refl _ _) _)) hm3
        ·repeat (first | exact grown_drewN HB2.out _ | refine grown_set' ?_ _ _)
       case measure => first | (simp [intOf]; done) | (simp [intOf]; omega)
     ·have hend : k + k2 = l.length := by omega
      have hki : ¬ (k2 : Int) < ((l.length - k : Nat) : Int) := by omega
      have HTK := Lib.hid (show dk.toList.take kk = dedup l by
       rw [← HE.out]
       have hI := HI.out
       rw [hend] at hI
       have hlen := hI.len
       apply List.ext_getElem?
       intro j
       rw [List.getElem?_take]
       by_cases hj : j < kk
       ·rw [if_pos hj]
        have := hI.low j hj
        rw [this, List.getElem?_eq_getElem (by omega), arr_get (by omega)]
       ·rw [if_neg hj, List.getElem?_eq_none (by omega)])
      have hsome : ∀ j, j < (l.length - kk) * 4 → (wr.cell? ⟨g, kk * 4 + j, none⟩).isSome = true ∧ wr.frozen? ⟨g, kk * 4 + j, none⟩ = false := fun j hj => own_cell_some ho2 (by omega)
      obtain ⟨us, hcl⟩ := run_clear_k wr 39 48 _ 4 Tryz.underlying39 Tryz.zeroValue48 rfl (by intro v hv; simp [Value.cells] at hv; subst hv; rfl) (by decide) g (kk * 4) (l.length - kk) (cap - kk) (by omega) (fun j hj => (hsome j hj).1) (fun j hj => (hsome j hj).2)
      clear ho2 hb2 hsome
      go_wp2_with fail
      go_ret
      refine ⟨kk, rfl, ?_, grown_sets us HB2.out⟩
      have h1 := own_head HO2.out (m := kk) (by omega)
      rw [take_flat cellsCo_len, HTK.out] at h1
      exact own_behinds us h1 (Nat.le_refl _)
   ·have HKD := Lib.hid (hdec2.out (decide_eq_false hxy))
    have hdx : decide (x = y) = false := decide_eq_false hxy
    clear hdec hdec2 hxy
    go_wp2_with fail
    go_quiet (fail)
    go_wp2_with fail
    go_roundw
    case rel => exact ⟨k + 1, by omega, by omega, by go_num, Lib.hid (fun j hj => by rcases Nat.lt_succ_iff_lt_or_eq.1 hj with h | rfl; exact HK.out j h; exact HKD.out), own_keep HOR.out (below_drewN (Below.refl _ _) _), grown_drewN HB.out _⟩
    case measure => first | (simp [intOf]; done) | (simp [intOf]; omega)
  ·obtain rfl : k = l.length := by omega
   have hki : ¬ ((l.length : Nat) : Int) < ((l.length : Nat) : Int) := by omega
   have HD := Lib.hid (show dedup l = l by rw [← HE.out, compactUpTo_all _ _ HK.out]; have := range_map_get l.toArray; simpa using this)
   clear ho hb
   go_wp2_with fail
   go_ret
   exact ⟨l.length, rfl, by rw [HD.out]; exact HOR.out, HB.out⟩

end Go.Proofs.YtgjmfdhgeahdcaaGreat
