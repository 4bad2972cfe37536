/- New cells beside a row that grows; a row's end. -/
import Derived.Test.YtgjmfdhgeahdcaaGreatQJ
import Derived.Test.YtgjmfdhgeahdcaaGreatQI
set_option linter.unusedVariables false
set_option linter.unusedSimpArgs false
namespace Go.Proofs.YtgjmfdhgeahdcaaGreat
open Go Go.RowKit Go.Sort Go.Lib

/-- Cells that were just made, apart from a row of the call's own. -/
structure NewX (w : World) (v : Value) (gx : Nat) (es : List Value) : Prop where
 c : ∀ j u, es[j]? = some u → w.cell? ((⟨gx, 0, none⟩ : Addr).add j) = some u
 o : v.ownBlock ≠ some gx
 l : gx < w.heap.size
theorem NewX.new {w : World} {v : Value} (es : List Value) (T : TypeId) (h : ∀ j, v.ownBlock = some j → j < w.heap.size) : NewX (w.alloc (.cells es.toArray T)) v w.heap.size es :=
 ⟨news_of es T w _ rfl, fun e => by have := h _ e; omega, by simp⟩
theorem NewX.keep {w w' : World} {v : Value} {gx : Nat} {es : List Value} (h : NewX w v gx es) (hb : Below w.heap.size w w') : NewX w' v gx es :=
 ⟨fun j u hj => cell_keep hb (h.c j u hj), h.o, Nat.lt_of_lt_of_le h.l hb.size⟩
theorem NewX.row {w : World} {v v' : Value} {gx : Nat} {es : List Value} (h : NewX w v gx es) (hv : v'.ownBlock ≠ some gx) : NewX w v' gx es := ⟨h.c, hv, h.l⟩
theorem NewX.grown {w w' : World} {v v' : Value} {gx : Nat} {es : List Value} (h : NewX w v gx es) (hg : w.grownBy w' v.ownBlock) (hv : v'.ownBlock = v.ownBlock ∨ v'.ownBlock = some w.heap.size) : NewX w' v' gx es := by
 have e0 : ∀ j, ((⟨gx, 0, none⟩ : Addr).add j).block = gx := fun j => by rw [addr_add]
 refine ⟨fun j u hj => grown_cell hg (h.c j u hj) (by rw [e0]; exact h.o), ?_, Nat.lt_of_lt_of_le h.l hg.size⟩
 rcases hv with e | e
 ·rw [e]; exact h.o
 ·rw [e]; intro e'; injection e' with e'; have := h.l; omega
theorem RowV.drop {sz : Nat} {α : Type} {R : World → Nat → Nat → α → Prop} {w : World} {b o : Nat} {l : List α} (h : RowV sz R w (some ⟨b, o, none⟩) l) (m : Nat) : RowV sz R w (some ⟨b, o + m * sz, none⟩) (l.drop m) := by
 intro hne
 obtain ⟨b', o', ha, hx⟩ := h (by rintro rfl; simp at hne)
 injection ha with ha
 injection ha with h1 h2
 subst h1 h2
 refine ⟨b, o + m * sz, rfl, fun k x hk => ?_⟩
 rw [List.getElem?_drop] at hk
 have := hx _ x hk
 rw [Nat.add_mul, ← Nat.add_assoc] at this
 exact this
end Go.Proofs.YtgjmfdhgeahdcaaGreat
