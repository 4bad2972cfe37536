/- A function that holds ranges over functions: its marks among the deferred calls, a loop that lays one a round, its way out. -/
import Derived.RangeFuncNested
import Derived.RangeFuncLeaves
import Derived.RangeFuncCalls
import Derived.Test.YtdmoiepafkbefaaGreatPL4
import Derived.Test.YtdmoiepafkbefaaGreatTI
set_option linter.unusedVariables false
set_option linter.unusedSimpArgs false
namespace Go.Proofs.YtdmoiepafkbefaaGreat
open Go Go.RowKit

/-- What the body of a loop over pieces keeps: all cells but those of one block. -/
def KeepsCells (gc : Nat) (A B : World) : Prop := A.heap.size ≤ B.heap.size ∧ ∀ k o, A.heap[k]? = some o → o.isCells = true → k ≠ gc → B.heap[k]? = some o
theorem KeepsCells.refl {gc : Nat} {A : World} : KeepsCells gc A A := ⟨Nat.le_refl _, fun _ _ h _ _ => h⟩
theorem KeepsCells.trans {gc : Nat} {A B C : World} (h : KeepsCells gc A B) (h' : KeepsCells gc B C) : KeepsCells gc A C := ⟨Nat.le_trans h.1 h'.1, fun k o h1 h2 h3 => h'.2 k o (h.2 k o h1 h2 h3) h2 h3⟩
theorem KeepsCells.putObj {gc l : Nat} {W : World} {o o' : Obj} (h : W.heap[l]? = some o) (hc : o.isCells = false) : KeepsCells gc W (W.putObj l o') :=
  ⟨by simp, fun k x h1 h2 _ => by
    by_cases hk : l = k
    · subst hk; rw [h] at h1; cases h1; rw [hc] at h2; cases h2
    · rw [World.putObj_heap_other (fun e => hk e.symm)]; exact h1⟩
theorem KeepsCells.cell {gc : Nat} {A B : World} {b o : Nat} {v : Value} (h : KeepsCells gc A B) (hc : A.cell? ⟨b, o, none⟩ = some v) (hb : b ≠ gc) : B.cell? ⟨b, o, none⟩ = some v := by
  have hz := block_lt_of_cell hc
  simp only at hz
  have hg : A.heap[b]? = some A.heap[b] := Array.getElem?_eq_getElem hz
  have hcl : A.heap[b].isCells = true := by
    unfold World.cell? at hc
    simp only [hg] at hc
    cases hb' : A.heap[b] <;> simp_all [Obj.isCells]
  rw [World.cell?_of_block (a := ⟨b, o, none⟩) ((h.2 b _ hg hcl hb).trans hg.symm)]
  exact hc

/-! What the body of a loop over pieces keeps, if it writes one variable that holds a row, and that row. -/
def ownAt (g : Nat) (A : World) : Option Nat := (A.cell? ⟨g, 0, none⟩).bind Value.ownBlock
def Valid (g : Nat) (A : World) : Prop := g < A.heap.size ∧ ∀ k, ownAt g A = some k → k < A.heap.size
structure KeepsR (g : Nat) (A B : World) : Prop where
  valid : Valid g B
  size : A.heap.size ≤ B.heap.size
  same : ∀ k o, A.heap[k]? = some o → o.isCells = true → k ≠ g → ownAt g A ≠ some k → B.heap[k]? = some o
  own : ∀ k, ownAt g B = some k → ownAt g A = some k ∨ A.heap.size ≤ k
def KeepsB (g : Nat) (A B : World) : Prop := Valid g A → KeepsR g A B
theorem KeepsR.trans {g : Nat} {A B C : World} (r : KeepsR g A B) (h' : KeepsB g B C) : KeepsR g A C := by
  have r' := h' r.valid
  refine ⟨r'.valid, Nat.le_trans r.size r'.size, fun k o h1 h2 h3 h4 => r'.same k o (r.same k o h1 h2 h3 h4) h2 h3 fun e => ?_, fun k e => ?_⟩
  · rcases r.own k e with e' | e'
    · exact h4 e'
    · have := (Array.getElem?_eq_some_iff.1 h1).1; omega
  · rcases r'.own k e with e' | e'
    · exact r.own k e'
    · exact .inr (Nat.le_trans r.size e')
theorem KeepsB.trans {g : Nat} {A B C : World} (h : KeepsB g A B) (h' : KeepsB g B C) : KeepsB g A C := fun hv => (h hv).trans h'
theorem ownAt_below {g : Nat} {A B : World} (hg : g < A.heap.size) (h : Below A.heap.size A B) : ownAt g B = ownAt g A := by
  unfold ownAt
  rw [h.cell (p := ⟨g, 0, none⟩) hg]
theorem KeepsB.of_below {g : Nat} {A B : World} (h : Below A.heap.size A B) : KeepsB g A B := fun hv =>
  ⟨⟨Nat.lt_of_lt_of_le hv.1 h.size, fun k e => by rw [ownAt_below hv.1 h] at e; exact Nat.lt_of_lt_of_le (hv.2 k e) h.size⟩, h.size, fun k o h1 _ _ _ => (h.block k (Array.getElem?_eq_some_iff.1 h1).1).trans h1, fun k e => .inl (by rwa [ownAt_below hv.1 h] at e)⟩
theorem KeepsB.refl {g : Nat} {A : World} : KeepsB g A A := KeepsB.of_below (Below.refl _ _)
theorem KeepsB.putObj {g l : Nat} {W : World} {o o' : Obj} (h : W.heap[l]? = some o) (hc : o.isCells = false) (hc' : o'.isCells = false) : KeepsB g W (W.putObj l o') := fun hv => by
  have hown : ownAt g (W.putObj l o') = ownAt g W ∨ ownAt g (W.putObj l o') = none := by
    by_cases hk : g = l
    · subst hk
      right
      unfold ownAt World.cell?
      rw [World.putObj_heap_same hv.1]
      cases o' <;> simp_all [Obj.isCells]
    · left
      unfold ownAt
      rw [World.cell?_of_block (a := ⟨g, 0, none⟩) (World.putObj_heap_other hk)]
  refine ⟨⟨by simpa using hv.1, fun k e => ?_⟩, by simp, fun k x h1 h2 _ _ => ?_, fun k e => ?_⟩
  · rcases hown with e' | e'
    · rw [e'] at e; simpa using hv.2 k e
    · rw [e'] at e; cases e
  · by_cases hk : l = k
    · subst hk; rw [h] at h1; cases h1; rw [hc] at h2; cases h2
    · rw [World.putObj_heap_other (fun e => hk e.symm)]; exact h1
  · rcases hown with e' | e'
    · rw [e'] at e; exact .inl e
    · rw [e'] at e; cases e
theorem KeepsR.block {g : Nat} {A B : World} {b o : Nat} {v : Value} (h : KeepsR g A B) (hc : A.cell? ⟨b, o, none⟩ = some v) (hb : b ≠ g) (ho : ownAt g A ≠ some b) : B.heap[b]? = A.heap[b]? := by
  have hz := block_lt_of_cell hc
  simp only at hz
  have hg : A.heap[b]? = some A.heap[b] := Array.getElem?_eq_getElem hz
  have hcl : A.heap[b].isCells = true := by
    unfold World.cell? at hc
    simp only [hg] at hc
    cases hb' : A.heap[b] <;> simp_all [Obj.isCells]
  exact (h.same b _ hg hcl hb ho).trans hg.symm
theorem KeepsR.cell {g : Nat} {A B : World} {b o : Nat} {v : Value} (h : KeepsR g A B) (hc : A.cell? ⟨b, o, none⟩ = some v) (hb : b ≠ g) (ho : ownAt g A ≠ some b) : B.cell? ⟨b, o, none⟩ = some v := by
  rw [World.cell?_of_block (a := ⟨b, o, none⟩) (h.block hc hb ho)]; exact hc
/-- The marks that ranges over functions have left among the deferred calls. -/
def Marks (B : Nat) : List Deferred → World → Prop
  | [], _ => True
  | d :: ds, W => (∃ D, B ≤ D ∧ d.target = .collected D ∧ W.heap[D]? = some (.deferred (some [])) ∧ ∀ d' ∈ ds, d'.target ≠ .collected D) ∧ Marks B ds W
theorem Marks.keep {B : Nat} : ∀ {ds : List Deferred} {W W' : World}, Marks B ds W → (∀ D : Nat, B ≤ D → W.heap[D]? = some (.deferred (some [])) → (∃ d ∈ ds, d.target = .collected D) → W'.heap[D]? = some (.deferred (some []))) → Marks B ds W'
  | [], _, _, _, _ => trivial
  | d :: ds, _, _, ⟨⟨D, h0, h1, h2, h3⟩, h⟩, hk => ⟨⟨D, h0, h1, hk D h0 h2 ⟨d, List.mem_cons_self, h1⟩, h3⟩, h.keep fun D' h0 h2 ⟨d', hd, ht⟩ => hk D' h0 h2 ⟨d', List.mem_cons_of_mem _ hd, ht⟩⟩
theorem Marks.lt {B : Nat} : ∀ {ds : List Deferred} {W : World}, Marks B ds W → ∀ d ∈ ds, ∃ D, d.target = .collected D ∧ D < W.heap.size
  | _ :: _, _, ⟨⟨D, _, h1, h2, _⟩, h⟩, d, hd => by
    rcases List.mem_cons.1 hd with rfl | hd
    · exact ⟨D, h1, (Array.getElem?_eq_some_iff.1 h2).1⟩
    · exact h.lt d hd
theorem Marks.cons {B D : Nat} {ds : List Deferred} {W0 W : World} (h : Marks B ds W) (h0 : Marks B ds W0) (hB : B ≤ D) (hD : W0.heap.size ≤ D) (hl : W.heap[D]? = some (.deferred (some []))) : Marks B ({ target := .collected D, args := #[] } :: ds) W :=
  ⟨⟨D, hB, rfl, hl, fun d' hd e => by
    obtain ⟨D', h1, h2⟩ := h0.lt d' hd
    rw [h1] at e
    injection e with e
    omega⟩, h⟩

/-- The way out: the marks are taken, cells lie as they lay. -/
theorem leave_marks {B n : Nat} {P : Program} {fn : Func} {tmps : Array Value} {R : Ending → World → Prop} : ∀ (ds : List Deferred) (W : World), Marks B ds W →
    (∀ W', KeepsCells W.heap.size W W' → Below B W W' → ∃ v, (results fn tmps).run P W' = .ok v W' ∧ R (.returned v) W') → LeavesInM Fence.wide n P fn tmps R ds .returning W
  | [], W, _, h => h W KeepsCells.refl (Below.refl _ _)
  | d :: ds, W, ⟨⟨D, h0, h1, h2, h3⟩, hm⟩, h => by
    refine ⟨by simp, .inl ⟨D, W.putObj D (.deferred none), h1, run_takeDeferred h2, leave_marks ds _ (hm.keep fun D' _ hl ⟨d', hd, ht⟩ => ?_) fun W' hk hb => h W' ?_ ?_⟩⟩
    · have hne : D ≠ D' := fun e => h3 d' hd (by rw [ht, e])
      rw [World.putObj_heap_other (fun e => hne e.symm)]; exact hl
    · have hz : (W.putObj D (.deferred none)).heap.size = W.heap.size := by simp
      rw [hz] at hk
      exact (KeepsCells.putObj h2 rfl).trans hk
    · refine Below.trans ?_ hb
      exact ⟨rfl, rfl, rfl, by simp, fun k hk => World.putObj_heap_other (by omega)⟩

/-- A loop whose rounds lay marks: what the rounds hand on, and the marks. -/
theorem wp_loop_slots {P : Program} {c : Code} {Q : Exit → Act → World → Prop} {T0 : Array Value} {d0 : List Deferred} {w : World} (S : List Nat) (R : (Nat → Value) → List Deferred → World → Prop) (mu : Array Value → Nat) (u0 : Nat → Value) (hT : T0 = forget S u0 T0)
    (h0 : R u0 d0 w) (round : ∀ u ds w', R u ds w' → c.wp P (Exit.then (fun a' w'' => ∃ u' ds', a' = ⟨forget S u' T0, ds'⟩ ∧ R u' ds' w'' ∧ mu a'.tmps < mu (forget S u T0)) Q) ⟨forget S u T0, ds⟩ w') : (Code.loop c).wp P Q ⟨T0, d0⟩ w := by
  refine wp_loop (fun a w => ∃ u ds, a = ⟨forget S u T0, ds⟩ ∧ R u ds w) (fun a _ => mu a.tmps) ⟨u0, d0, by rw [← hT], h0⟩ ?_
  rintro a w' ⟨u, ds, rfl, hR⟩
  refine wp_mono (round u ds w' hR) ?_
  intro e a' w'' h
  cases e with
  | normal => obtain ⟨u', ds', h1, h2, h3⟩ := h; exact ⟨⟨u', ds', h1, h2⟩, h3⟩
  | _ => exact h
end Go.Proofs.YtdmoiepafkbefaaGreat
