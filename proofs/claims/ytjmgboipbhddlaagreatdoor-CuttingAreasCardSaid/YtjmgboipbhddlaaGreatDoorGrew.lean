import Derived.Test.YtjmgboipbhddlaaGreatDoorProg
import Derived.WalkKit
import Derived.Below
import Derived.BigQuiet
import Derived.Deep.QuietTactic
set_option linter.unusedVariables false
namespace Go.Proofs.YtjmgboipbhddlaaGreatDoor
open Go Go.RowKit

structure Gr where
 objs : Array Obj
 n : Nat
instance : Inhabited Gr := ⟨⟨#[], 0⟩⟩

def grew (w : World) (g : Gr) : World := { w with heap := w.heap ++ g.objs, drawn := g.n }

theorem below_grew {w w' : World} (h : Below w.heap.size w w') : ∃ g, w' = grew w g := by
 refine ⟨⟨w'.heap.extract w.heap.size w'.heap.size, w'.drawn⟩, ?_⟩
 obtain ⟨hp, tape, drawn, os, output⟩ := w'
 obtain ⟨h1, h2, h3, h4, h5⟩ := h
 simp only at h1 h2 h3 h4 h5
 subst h1 h2 h3
 simp only [grew, World.mk.injEq, and_true]
 refine Array.ext_getElem? fun i => ?_
 rw [Array.getElem?_append]
 split
 ·rename_i hi; exact h5 i hi
 ·rename_i hi
  rw [Array.getElem?_extract]
  split
  ·congr 1; omega
  ·rw [Array.getElem?_eq_none]; omega

theorem grew_below (w : World) (g : Gr) : Below w.heap.size w (grew w g) :=
 ⟨rfl, rfl, rfl, by simp [grew], fun k hk => by simp [grew, Array.getElem?_append, hk]⟩
theorem grewB {B : Nat} {a w : World} (h : Below B a w) (hB : B ≤ w.heap.size) (g : Gr) : Below B a (grew w g) := h.trans ((grew_below w g).mono hB)

@[simp, go_sem] theorem cell?_grew (w : World) (g : Gr) (b o : Nat) (s : Option Nat) (h : b < w.heap.size) : (grew w g).cell? ⟨b, o, s⟩ = w.cell? ⟨b, o, s⟩ := by
 unfold World.cell?
 simp only [grew, Array.getElem?_append, h, if_true]
@[simp, go_sem] theorem frozen?_grew (w : World) (g : Gr) (b o : Nat) (s : Option Nat) (h : b < w.heap.size) : (grew w g).frozen? ⟨b, o, s⟩ = w.frozen? ⟨b, o, s⟩ := by
 unfold World.frozen?
 simp only [grew, Array.getElem?_append, h, if_true]
@[simp, go_sem] theorem size_grew (w : World) (g : Gr) : (grew w g).heap.size = w.heap.size + g.objs.size := by simp [grew]
@[simp, go_sem] theorem drew_grew (w : World) (g : Gr) : (grew w g).drew = grew w ⟨g.objs, g.n + 1⟩ := rfl
@[simp, go_sem] theorem grew_drew (w : World) (g : Gr) : grew w.drew g = grew w g := rfl
@[simp, go_sem] theorem grew_grew (w : World) (g g' : Gr) : grew (grew w g) g' = grew w ⟨g.objs ++ g'.objs, g'.n⟩ := by simp [grew]

section
variable {P : Program} {f : FuncId} {args : Array Value} {w : World} {g : Gr} {v : Value}
theorem grew_of (h : Calls P f args (grew w g) fun e w' => e = .returned v ∧ Below (grew w g).heap.size (grew w g) w') : Calls P f args (grew w g) fun e w'' => e = .returned v ∧ ∃ m, w'' = grew w m :=
 h.mono fun _ _ ⟨he, hb⟩ => by
  obtain ⟨g', rfl⟩ := below_grew hb
  exact ⟨he, _, grew_grew w g g'⟩
theorem wp_region_grew {id : Nat} {Q : Exit → Act → World → Prop} {a : Act} {l : List Oper} (hm : P.follows .mixedOrders = true) (hB : Region.lexB .any l.toArray = true)
    (h : wpQuiet P l.toArray (fun w' => ∃ g, w' = grew w g) (fun a' => ∀ w', (∃ g, w' = grew w g) → Q .normal a' w') l a) : (Code.region id l.toArray true).wp P Q a w :=
 wp_region_quiet (C := fun w' => ∃ g, w' = grew w g) hm hB ⟨⟨#[], w.drawn + 1⟩, by simp [grew]⟩ (by simpa using h)
end

def forget (S : List Nat) (u : Nat → Value) (t : Array Value) : Array Value := S.foldl (fun t i => t.setIfInBounds i (u i)) t
def CutPost (S : List Nat) (a : Act) (R : (Nat → Value) → World → Prop) (e : Exit) (a' : Act) (w' : World) : Prop := e = .normal ∧ ∃ u, a' = ⟨forget S u a.tmps, a.defers⟩ ∧ R u w'
theorem wp_cut_slots {P : Program} {c : Code} {Q : Exit → Act → World → Prop} {a : Act} {w : World} (S : List Nat) (R : (Nat → Value) → World → Prop) (h : c.wp P (CutPost S a R) a w)
    (k : ∀ u w', R u w' → Q .normal ⟨forget S u a.tmps, a.defers⟩ w') : c.wp P Q a w :=
 Code.wp_mono (fun e a' w' ⟨he, u, ha, hR⟩ => by subst he; subst ha; exact k u w' hR) h
theorem cut_meet {S : List Nat} {a a' : Act} {R : (Nat → Value) → World → Prop} {w' : World} (hd : a' = ⟨forget S (fun i => a'.tmps.getD i undef) a.tmps, a.defers⟩) (hR : R (fun i => a'.tmps.getD i undef) w') : CutPost S a R .normal a' w' :=
 ⟨rfl, _, hd, hR⟩
end Go.Proofs.YtjmgboipbhddlaaGreatDoor
