/- Rows of bools, appends at a desk: what other texts of chapter 8 want of those on veneers. -/
import Derived.Test.YtoelfalmmaddlaaGreatInts
import Derived.Deep.QuietTactic
import Derived.BigQuiet
import Derived.Test.YtoelfalmmaddlaaGreatQL
import Derived.Lib.Walk
set_option linter.unusedVariables false
set_option linter.unusedSimpArgs false
namespace Go.Proofs.YtoelfalmmaddlaaGreat
open Go Go.ChangeShapes Go.WideShapes Go.ChangeAt Go.RowKit Go.Deep
theorem idxOf_bool' {α : Type} (p : α → Bool) (l : List α) : decide (0 ≤ idxOf p l) = l.any p := by
 unfold idxOf
 rw [Bool.eq_iff_iff, decide_eq_true_eq]
 cases h : l.findIdx? p with
 | none =>
  rw [List.findIdx?_eq_none_iff] at h
  simp only [List.any_eq_true]
  exact ⟨fun h' => by omega, fun ⟨x, hx, hp⟩ => by rw [h x hx] at hp; cases hp⟩
 | some i =>
  rw [List.findIdx?_eq_some_iff_getElem] at h
  obtain ⟨hi, hp, -⟩ := h
  simp only [List.any_eq_true]
  exact ⟨fun _ => ⟨_, List.getElem_mem hi, hp⟩, fun _ => by omega⟩
theorem ret_two {a b : Int} {q : Int × Int} (h : q = (a, b)) : Ending.returned (.tuple #[.int .i64 a, .int .i64 b]) = .returned (.tuple #[.int .i64 q.1, .int .i64 q.2]) := by rw [h]
theorem bool_info : (Tryz.prog.info? 4).map (fun i => (i.zero, i.size, i.bytes)) = some (some (.bool false), 1, 1) := by kernel_rfl
theorem frozen_keep {w w' : World} {b o : Nat} (hb : Below w.heap.size w w') (hz : b < w.heap.size) (h : w.frozen? ⟨b, o, none⟩ = false) : w'.frozen? ⟨b, o, none⟩ = false := by
 rw [(bcell hb).2 b o hz]; exact h
theorem flat_bools (l : List Bool) : (l.flatMap fun b => [Value.bool b]) = l.map Value.bool := by induction l <;> simp_all
theorem own_bools {w : World} {base e n : Nat} {v : Value} {l : List Bool} (h : w.ownsRow base e 1 v n (l.map Value.bool)) : ∃ a c, v = .slice a l.length c ∧ Bools.V w a l := by
 have hn : n = l.length := by have := h.1; simpa using this.symm
 subst hn
 obtain ⟨a, c, rfl, -, -⟩ := own_slice h
 have h' : w.ownsRow base e 1 (.slice a l.length c) l.length (l.flatMap fun b => [Value.bool b]) := by
  rw [flat_bools]; exact h
 exact ⟨a, c, rfl, own_rowV (fun _ => rfl) (by decide) (fun b o x _ hx => hx 0 _ rfl) h'⟩
/-- A row in a cell is appended to. -/
theorem Desk.append1 {w w1 : World} {base i m : Nat} {L : List Slot} {St : Addr → Value → Prop} {s : Slot} {a : Addr} {v v' : Value} {news : List Value} (h : Desk w base L St) (hi : L[i]? = some s) (ha : s.a = some a) (hv : w.cell? a = some v)
    (ho : w1.ownsRow base s.e s.k v' m (s.xs ++ news)) (hg : w.grownBy w1 v.ownBlock) (hv' : v'.ownBlock = v.ownBlock ∨ v'.ownBlock = some w.heap.size) :
    w1.cell? a = some v ∧ w1.frozen? a = false ∧ Desk (w1.setCell a v') base (L.set i { s with xs := s.xs ++ news }) St := by
 obtain ⟨V, g1, g2⟩ := h.ex
 have hvi := g2 i s a hi ha
 rw [hv] at hvi
 injection hvi with hvi
 subst hvi
 obtain ⟨q1, q2⟩ := g1.append hi ho hg hv'
 have hil : i < L.length := (List.getElem?_eq_some_iff.1 hi).1
 have hi' : (L.set i { s with xs := s.xs ++ news })[i]? = some { s with xs := s.xs ++ news } := by simp [hil]
 obtain ⟨k1, k2, k3⟩ := q1.store (a := a) hi' ha v'
 refine ⟨by rw [q2 i s a hi ha]; exact hv, (q1.slot i _ a hi' ha).2.2.1, upd V i v', k1, fun j t b hj hb => ?_⟩
 by_cases he : j = i
 ·subst he
  rw [hi'] at hj
  injection hj with hj
  subst hj
  simp only at hb
  rw [ha] at hb
  injection hb with hb
  subst hb
  rw [upd_same]; exact k2
 ·rw [k3 j t b hj he hb, upd_ne _ _ he]
  obtain ⟨t0, h0, h1, _, _⟩ := set_get (s' := { s with xs := s.xs ++ news }) hi rfl hj
  rw [h1] at hb
  rw [q2 j t0 b h0 hb]
  exact g2 j t0 b h0 hb
end Go.Proofs.YtoelfalmmaddlaaGreat
