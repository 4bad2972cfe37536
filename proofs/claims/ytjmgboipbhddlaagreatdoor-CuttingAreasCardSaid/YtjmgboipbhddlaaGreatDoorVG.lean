import Derived.Test.YtjmgboipbhddlaaGreatDoorInts
import Derived.Deep.QuietTactic
import Derived.BigQuiet
import Derived.Test.YtjmgboipbhddlaaGreatDoorQL
import Derived.Lib.Walk
set_option linter.unusedVariables false
set_option linter.unusedSimpArgs false
namespace Go.Proofs.YtjmgboipbhddlaaGreatDoor
open Go Go.ChangeShapes Go.WideShapes Go.ChangeAt Go.RowKit Go.Deep
theorem idxOf_bool' {α : Type} (p : α → Bool) (l : List α) : decide (0 ≤ idxOf p l) = l.any p := by
 unfold idxOf
 rw [Bool.eq_iff_iff, decide_eq_true_eq]
 cases h : l.findIdx? p with
 | none =>
  rw [List.findIdx?_eq_none_iff] at h
  simp only [List.any_eq_true]
  exact ⟨fun h' => by omega, fun ⟨x, hx, hp⟩ => by rw [h x hx] at hp; cases hp⟩
 | some i =>
  rw [List.findIdx?_eq_some_iff_getElem] at h
  obtain ⟨hi, hp, -⟩ := h
  simp only [List.any_eq_true]
  exact ⟨fun _ => ⟨_, List.getElem_mem hi, hp⟩, fun _ => by omega⟩
theorem bool_info : (Tryz.prog.info? 4).map (fun i => (i.zero, i.size, i.bytes)) = some (some (.bool false), 1, 1) := by kernel_rfl
theorem frozen_keep {w w' : World} {b o : Nat} (hb : Below w.heap.size w w') (hz : b < w.heap.size) (h : w.frozen? ⟨b, o, none⟩ = false) : w'.frozen? ⟨b, o, none⟩ = false := by
 rw [(bcell hb).2 b o hz]; exact h
theorem flat_bools (l : List Bool) : (l.flatMap fun b => [Value.bool b]) = l.map Value.bool := by induction l <;> simp_all
theorem own_bools {w : World} {base e n : Nat} {v : Value} {l : List Bool} (h : w.ownsRow base e 1 v n (l.map Value.bool)) : ∃ a c, v = .slice a l.length c ∧ Bools.V w a l := by
 have hn : n = l.length := by have := h.1; simpa using this.symm
 subst hn
 obtain ⟨a, c, rfl, -, -⟩ := own_slice h
 have h' : w.ownsRow base e 1 (.slice a l.length c) l.length (l.flatMap fun b => [Value.bool b]) := by
  rw [flat_bools]; exact h
 exact ⟨a, c, rfl, own_rowV (fun _ => rfl) (by decide) (fun b o x _ hx => hx 0 _ rfl) h'⟩
end Go.Proofs.YtjmgboipbhddlaaGreatDoor
