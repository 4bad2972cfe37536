/- A range over a method of a value ('for p := range l.pieces'): the function value carries its receiver ahead of yield. The body goes on, or returns. -/
import Derived.RangeFuncNested
import Derived.RangeFuncLeaves
import Derived.RangeFuncCalls
import Derived.OrdersIn
import Derived.TacticsIn
import Derived.Test.YtbhgkadklklmbaaGreatQA
import Derived.RangeFuncBound
import Derived.Shelf.Abstract
import Derived.Shelf.RegionOpen
import Derived.WalkKit
import Derived.OwnWalkIn
import Derived.TacticsInMore
import Derived.LoopNIn
import Derived.LoopIn
import Derived.Laws.EntriesVeiled
set_option linter.unusedVariables false
set_option linter.unusedSimpArgs false
namespace Go.Proofs.YtbhgkadklklmbaaGreat
open Go Go.RowKit

/-- The contract of an iterator with arguments ahead of yield (its receiver). -/
def GivesB {α : Type} (F : Fence) (n : Nat) (P : Program) (g : Nat) (first : Array Value) (encs : α → Array Value) (Kp : World → World → Prop) (S Sp : List α → Prop) (N : Nat) (w : World) : Prop :=
 ∀ (l : Nat) (J Jx : List α → World → Prop) (W : World), Below w.heap.size w W → AbidesFrom W.heap.size J → AbidesFrom W.heap.size Jx →
  (∀ pre x W1, J pre W1 → pre.length < N → YieldAt F (n - 1) P l (encs x) W1 fun e W' => (e = .returned (.bool true) ∧ J (pre ++ [x]) W' ∧ Kp W1 W') ∨ (e = .returned (.bool false) ∧ Jx (pre ++ [x]) W')) →
  J [] W → CallsIn F n P g (first ++ #[.func (.yield l) #[] #[]]) W fun e W' => (∃ v, e = .returned v) ∧ ((∃ xs, S xs ∧ J xs W') ∨ (∃ pre, Sp pre ∧ Jx pre W'))
/-- How a round may end: it goes on, or the function returns. -/
def roundB {α : Type} (B : Nat) (Kp : World → World → Prop) (I Ix : List α → World → Prop) (xs : List α) (W : World) : Exit → Act → World → Prop
 | .normal, _, W' => KeepsFrom B W W' ∧ Kp W W' ∧ I xs W'
 | .ret, _, W' => KeepsFrom B W W' ∧ Ix xs W'
 | _, _, _ => False

section
variable {F : Fence} {n : Nat} {P : Program} {w : World}
/-- The two blocks of book-keeping lie. -/
def Booked (w : World) (o : Loop) (W : World) : Prop := W.heap[w.heap.size + 1]? = some (.loop o) ∧ W.heap[w.heap.size]? = some (.deferred (some []))
theorem Booked.keep {o : Loop} {W W' : World} (h : Booked w o W) (hk : KeepsFrom w.heap.size W W') : Booked w o W' := ⟨hk.same _ _ (Nat.le_succ _) h.1 rfl, hk.same _ _ (Nat.le_refl _) h.2 rfl⟩
theorem Booked.abide {o : Loop} {A B : World} {row : Option Nat} (h : Booked w o A) (hg : A.grownBy B row) (hr : ∀ r, row = some r → ∃ o : Obj, A.heap[r]? = some o ∧ o.isWalk = true) : Booked w o B :=
 ⟨(grownBy_keeps hg hr h.1 rfl).trans h.1, (grownBy_keeps hg hr h.2 rfl).trans h.2⟩
theorem Booked.put {o o' : Loop} {W : World} (h : Booked w o W) : Booked w o' (W.putObj (w.heap.size + 1) (.loop o')) :=
 ⟨World.putObj_heap_same (Array.getElem?_eq_some_iff.1 h.1).1, (World.putObj_heap_other (by omega)).trans h.2⟩

set_option maxHeartbeats 400000 in
theorem wpIn_rangeBound {α : Type} {g : Operand} {ps : Array Tmp} {assign body : Code} {Q : Exit → Act → World → Prop} {a : Act}
    (hro : F.round = none) (h1 : 1 ≤ n) {gf : Nat} {first : Array Value} (hg : a.eval g = .func (.func gf) first #[]) (hFg : F.fn gf) (eg : ∀ args w, (callFunc gf args).run P w = .ok (.enter gf args) w)
    {encs : α → Array Value} {Kp : World → World → Prop} {S Sp : List α → Prop} {N : Nat} {w0 : World} (hseq : GivesB F (n - 1) P gf first encs Kp S Sp N w0)
    (hKt : ∀ {A B C : World}, Kp A B → Kp B C → Kp A C) (hKb : ∀ (W : World) (l : Nat) (o o' : Obj), w.heap.size ≤ l → W.heap[l]? = some o → o.isCells = false → o'.isCells = false → o.isWalk = false → Kp W (W.putObj l o')) (hb0 : Below w0.heap.size w0 w) (hps : ∀ x, (encs x).size = ps.size)
    (I Ix : List α → World → Prop) (hI : OwnFrom w.heap.size I) (hIx : OwnFrom w.heap.size Ix) (h0 : I [] w) (Ax : α → Act → World → Prop) (hAx : ∀ x a', OwnFrom w.heap.size (fun (_ : Unit) W => Ax x a' W))
    (hassign : ∀ (l : Nat) (pre : List α) (x : α) (W : World) (K : Act → World → Prop), I pre W → (∀ a' W', KeepsFrom w.heap.size W W' → Kp W W' → I pre W' → Ax x a' W' → K a' W') →
     assign.wpIn (F.inRound l) (n - 1 - 1) P (Exit.then K (fun _ _ _ => False)) { tmps := (ps.zip (encs x)).foldl (fun t (p, v) => t.setIfInBounds p v) a.tmps, defers := [] } W)
    (hbody : ∀ (l : Nat) (pre : List α) (x : α) (a' : Act) (W : World), I pre W → Ax x a' W → pre.length < N → body.wpIn (F.inRound l) (n - 1 - 1) P (roundB w.heap.size Kp I Ix (pre ++ [x]) W) a' W)
    (hdone : ∀ (D : Nat) (xs : List α) (W : World), w.heap.size ≤ D → S xs → I xs W → W.heap[D]? = some (.deferred (some [])) → Q .normal { a with defers := { target := .collected D, args := #[] } :: a.defers } W)
    (hstop : ∀ (D : Nat) (pre : List α) (W : World), w.heap.size ≤ D → Sp pre → Ix pre W → W.heap[D]? = some (.deferred (some [])) → Code.ret.wpIn F n P Q { a with defers := { target := .collected D, args := #[] } :: a.defers } W) :
    (Code.rangeFunc g ps assign body).wpIn F n P Q a w := by
 refine wpIn_rangeFunc ?_
 intro fn hfn
 rw [hro]
 obtain ⟨rec', hrec⟩ : ∃ rec' : LoopState → Option Code → Loop, rec' = fun st pe => { state := st, pending := pe, fn, tmps := a.tmps, params := ps, assign, body, defers := w.heap.size } := ⟨_, rfl⟩
 have fin : ∀ (jump : Option Code) (W3 : World), Booked w { rec' .ready none with state := .busy } W3 → (Instr.endRound (w.heap.size + 1) jump).run P W3 = .ok (.bool jump.isNone) (W3.putObj (w.heap.size + 1) (.loop (rec' (if jump.isNone then .ready else .done) jump))) := fun jump W3 h => by
  have := run_endRound (P := P) jump h.1
  rw [hrec] at this ⊢
  exact this
 obtain ⟨W1, hW1⟩ : ∃ W1, (w.alloc (.deferred (some []))).alloc (.loop (rec' .ready none)) = W1 := ⟨_, rfl⟩
 have hbk : Booked w (rec' .ready none) W1 := by
  rw [← hW1]
  refine ⟨?_, (Below.heap_alloc _ _ _ (by simp)).trans (World.alloc_heap_new w _)⟩
  have := World.alloc_heap_new (w.alloc (.deferred (some []))) (.loop (rec' .ready none))
  rwa [World.size_alloc] at this
 have hz1 : W1.heap.size = w.heap.size + 2 := by rw [← hW1]; simp
 have hbelow : Below w0.heap.size w0 W1 := by
  rw [← hW1]; exact hb0.trans ((((Below.refl _ w).alloc (Nat.le_refl _) _).alloc (by simp) _).mono hb0.size)
 have hrow : ∀ {A : World} {row : Option Nat}, (∀ r, row = some r → W1.heap.size ≤ r ∧ ∃ o : Obj, A.heap[r]? = some o ∧ o.isWalk = true) → (∀ r, row = some r → w.heap.size ≤ r ∧ ∃ o : Obj, A.heap[r]? = some o ∧ o.isCells = false) := fun hr r e => by
  obtain ⟨hB, o, ho, hw⟩ := hr r e
  exact ⟨by omega, o, ho, Obj.not_cells_of_walk hw⟩
 have hput : ∀ {K : List α → World → Prop} (hK : OwnFrom w.heap.size K) {xs : List α} {W : World} {o : Loop} (o' : Obj), K xs W → Booked w o W → K xs (W.putObj (w.heap.size + 1) o') := fun hK _ _ _ o' hk hb => hK.putObj o' hk (Nat.le_succ _) hb.1 rfl
 have hcall := hseq (w.heap.size + 1) (fun pre W => I pre W ∧ Booked w (rec' .ready none) W) (fun pre W => Ix pre W ∧ Booked w (rec' .done (some .ret)) W) W1 hbelow
  (fun s A B row hs hg' hr => ⟨hI s A B row hs.1 hg' (hrow hr), hs.2.abide hg' (fun r e => (hr r e).2)⟩)
  (fun s A B row hs hg' hr => ⟨hIx s A B row hs.1 hg' (hrow hr), hs.2.abide hg' (fun r e => (hr r e).2)⟩)
  (fun pre x W hJ hlen => by
   obtain ⟨hi, hb⟩ := hJ
   have hy := run_yield (P := P) (args := encs x) hb.1 (by rw [hrec]; exact hps x)
   rw [hrec] at hy
   refine ⟨fn, _, assign, body, hy, roundIn_of_wpIn hfn (hassign _ pre x W _ hi ?_)⟩
   clear hy
   intro a' Wa hka hkp hia hax
   have hba := hb.keep hka
   refine ⟨_, run_beginRound hba.1 (by rw [hrec]), ?_⟩
   have hbb : Booked w { rec' .ready none with state := .busy } (Wa.putObj (w.heap.size + 1) (.loop { rec' .ready none with state := .busy })) := hba.put
   have hk2 : Kp Wa (Wa.putObj (w.heap.size + 1) (.loop { rec' .ready none with state := .busy })) := hKb _ _ _ _ (Nat.le_succ _) hba.1 rfl rfl rfl
   refine wpIn_mono (hbody _ pre x a' _ (hput hI _ hia hba) ((hAx x a').putObj (s := ()) _ hax (Nat.le_succ _) hba.1 rfl) hlen) ?_
   rintro e a3 W3 hp
   cases e with
   | normal =>
    obtain ⟨hk3, hkp3, hi3⟩ := hp
    have hb3 := hbb.keep hk3
    exact ⟨_, _, fin none W3 hb3, .inl ⟨rfl, ⟨hput hI _ hi3 hb3, hb3.put⟩, hKt hkp (hKt (hKt hk2 hkp3) (hKb _ _ _ _ (Nat.le_succ _) hb3.1 rfl rfl rfl))⟩⟩
   | ret =>
    obtain ⟨hk3, hi3⟩ := hp
    have hb3 := hbb.keep hk3
    exact ⟨_, _, fin (some .ret) W3 hb3, .inr ⟨rfl, hput hIx _ hi3 hb3, hb3.put⟩⟩
   | exit id => exact hp.elim
   | goto t => exact hp.elim
   | panic ch => exact hp.elim
   | outgrown => exact hp.elim)
  ⟨by rw [← hW1]; exact hI.alloc _ (hI.alloc _ h0), hbk⟩
 refine ⟨w.heap.size + 1, [{ target := .collected w.heap.size, args := #[] }], W1, { target := .fn (.func gf) #[], args := first ++ #[.func (.yield (w.heap.size + 1)) #[] #[]] }, W1, gf, first ++ #[.func (.yield (w.heap.size + 1)) #[] #[]], W1, ?_, ?_, ?_, ?_, fun _ => h1, ?_⟩
 ·rw [← hW1, hrec]; exact run_enterLoop_outer _ _ _ _ _
 ·simp only [resolve, hg]
  simp [go_sem]
 ·intro f' hf'; simp [Target.leads] at hf'; subst hf'; exact hFg
 ·simp [invoke, go_sem, eg]
 ·refine hcall.mono ?_
  rintro e W2 ⟨⟨v, rfl⟩, (⟨xs, hS, hi, hb⟩ | ⟨pre, hSp, hi, hb⟩)⟩
  ·exact ⟨none, _, by have := run_endLoop (P := P) hb.1 (by rw [hrec]; simp); rw [hrec] at this; exact this, hdone _ xs _ (Nat.le_refl _) hS (hput hI _ hi hb) ((World.putObj_heap_other (by omega)).trans hb.2)⟩
  ·exact ⟨some .ret, _, by have := run_endLoop (P := P) hb.1 (by rw [hrec]; simp); rw [hrec] at this; exact this, hstop _ pre _ (Nat.le_refl _) hSp (hput hIx _ hi hb) ((World.putObj_heap_other (by omega)).trans hb.2)⟩
end
end Go.Proofs.YtbhgkadklklmbaaGreat
/- A function that holds ranges over functions: its marks among the deferred calls, a loop that lays one a round, its way out. -/
set_option linter.unusedVariables false
set_option linter.unusedSimpArgs false
namespace Go.Proofs.YtbhgkadklklmbaaGreat
open Go Go.RowKit

/-- What the body of a loop over pieces keeps: all cells but those of one block. -/
def KeepsCells (gc : Nat) (A B : World) : Prop := A.heap.size ≤ B.heap.size ∧ ∀ k o, A.heap[k]? = some o → o.isCells = true → k ≠ gc → B.heap[k]? = some o
theorem KeepsCells.refl {gc : Nat} {A : World} : KeepsCells gc A A := ⟨Nat.le_refl _, fun _ _ h _ _ => h⟩
theorem KeepsCells.trans {gc : Nat} {A B C : World} (h : KeepsCells gc A B) (h' : KeepsCells gc B C) : KeepsCells gc A C := ⟨Nat.le_trans h.1 h'.1, fun k o h1 h2 h3 => h'.2 k o (h.2 k o h1 h2 h3) h2 h3⟩
theorem KeepsCells.putObj {gc l : Nat} {W : World} {o o' : Obj} (h : W.heap[l]? = some o) (hc : o.isCells = false) : KeepsCells gc W (W.putObj l o') :=
 ⟨by simp, fun k x h1 h2 _ => by
  by_cases hk : l = k
  ·subst hk; rw [h] at h1; cases h1; rw [hc] at h2; cases h2
  ·rw [World.putObj_heap_other (fun e => hk e.symm)]; exact h1⟩
theorem KeepsCells.cell {gc : Nat} {A B : World} {b o : Nat} {v : Value} (h : KeepsCells gc A B) (hc : A.cell? ⟨b, o, none⟩ = some v) (hb : b ≠ gc) : B.cell? ⟨b, o, none⟩ = some v := by
 have hz := block_lt_of_cell hc
 simp only at hz
 have hg : A.heap[b]? = some A.heap[b] := Array.getElem?_eq_getElem hz
 have hcl : A.heap[b].isCells = true := by
  unfold World.cell? at hc
  simp only [hg] at hc
  cases hb' : A.heap[b] <;> simp_all [Obj.isCells]
 rw [World.cell?_of_block (a := ⟨b, o, none⟩) ((h.2 b _ hg hcl hb).trans hg.symm)]
 exact hc

/-! What the body of a loop over pieces keeps, if it writes one variable that holds a row, and that row. -/
def ownAt (g : Nat) (A : World) : Option Nat := (A.cell? ⟨g, 0, none⟩).bind Value.ownBlock
def Valid (g : Nat) (A : World) : Prop := g < A.heap.size ∧ ∀ k, ownAt g A = some k → k < A.heap.size
theorem ownAt_below {g : Nat} {A B : World} (hg : g < A.heap.size) (h : Below A.heap.size A B) : ownAt g B = ownAt g A := by
 unfold ownAt
 rw [h.cell (p := ⟨g, 0, none⟩) hg]
/-- The marks that ranges over functions have left among the deferred calls. -/
def Marks (B : Nat) : List Deferred → World → Prop
 | [], _ => True
 | d :: ds, W => (∃ D, B ≤ D ∧ d.target = .collected D ∧ W.heap[D]? = some (.deferred (some [])) ∧ ∀ d' ∈ ds, d'.target ≠ .collected D) ∧ Marks B ds W
theorem Marks.keep {B : Nat} : ∀ {ds : List Deferred} {W W' : World}, Marks B ds W → (∀ D : Nat, B ≤ D → W.heap[D]? = some (.deferred (some [])) → (∃ d ∈ ds, d.target = .collected D) → W'.heap[D]? = some (.deferred (some []))) → Marks B ds W'
 | [], _, _, _, _ => trivial
 | d :: ds, _, _, ⟨⟨D, h0, h1, h2, h3⟩, h⟩, hk => ⟨⟨D, h0, h1, hk D h0 h2 ⟨d, List.mem_cons_self, h1⟩, h3⟩, h.keep fun D' h0 h2 ⟨d', hd, ht⟩ => hk D' h0 h2 ⟨d', List.mem_cons_of_mem _ hd, ht⟩⟩
/-- The way out: the marks are taken, cells lie as they lay. -/
theorem leave_marks {B n : Nat} {P : Program} {fn : Func} {tmps : Array Value} {R : Ending → World → Prop} : ∀ (ds : List Deferred) (W : World), Marks B ds W →
    (∀ W', KeepsCells W.heap.size W W' → Below B W W' → ∃ v, (results fn tmps).run P W' = .ok v W' ∧ R (.returned v) W') → LeavesInM Fence.wide n P fn tmps R ds .returning W
 | [], W, _, h => h W KeepsCells.refl (Below.refl _ _)
 | d :: ds, W, ⟨⟨D, h0, h1, h2, h3⟩, hm⟩, h => by
  refine ⟨by simp, .inl ⟨D, W.putObj D (.deferred none), h1, run_takeDeferred h2, leave_marks ds _ (hm.keep fun D' _ hl ⟨d', hd, ht⟩ => ?_) fun W' hk hb => h W' ?_ ?_⟩⟩
  ·have hne : D ≠ D' := fun e => h3 d' hd (by rw [ht, e])
   rw [World.putObj_heap_other (fun e => hne e.symm)]; exact hl
  ·have hz : (W.putObj D (.deferred none)).heap.size = W.heap.size := by simp
   rw [hz] at hk
   exact (KeepsCells.putObj h2 rfl).trans hk
  ·refine Below.trans ?_ hb
   exact ⟨rfl, rfl, rfl, by simp, fun k hk => World.putObj_heap_other (by omega)⟩

end Go.Proofs.YtbhgkadklklmbaaGreat
/- Ranges over functions: what their bodies keep (of no chapter). -/
set_option linter.unusedVariables false
set_option linter.unusedSimpArgs false
namespace Go.Proofs.YtbhgkadklklmbaaGreat
open Go Go.RowKit Go.Shelf

theorem cell_isCells {A : World} {a : Addr} {v : Value} (hc : A.cell? a = some v) : ∃ o, A.heap[a.block]? = some o ∧ o.isCells = true := by
 unfold World.cell? at hc
 cases hb : A.heap[a.block]? with
 | none => rw [hb] at hc; cases hc
 | some o => rw [hb] at hc; refine ⟨o, rfl, ?_⟩; cases o <;> simp_all [Obj.isCells]
theorem not_row {A : World} {a : Addr} {v : Value} {row : Option Nat} (hc : A.cell? a = some v) (hr : ∀ r, row = some r → ∃ o : Obj, A.heap[r]? = some o ∧ o.isCells = false) : some a.block ≠ row := fun e => by
 obtain ⟨o, h1, h2⟩ := cell_isCells hc
 obtain ⟨o', h3, h4⟩ := hr _ e.symm
 rw [h1] at h3; cases h3; rw [h2] at h4; cases h4
theorem Marks.grown {B base : Nat} {ds : List Deferred} {W W' : World} {row : Option Nat} (h : Marks B ds W) (hg : W.grownBy W' row) (hr : ∀ r, row = some r → base ≤ r) (hd : ∀ d ∈ ds, ∃ D, d.target = .collected D ∧ D < base) : Marks B ds W' :=
 h.keep fun D _ hl ⟨d, hm, ht⟩ => by
  refine (hg.block D (Array.getElem?_eq_some_iff.1 hl).1 fun e => ?_).trans hl
  obtain ⟨D', h1, h2⟩ := hd d hm
  rw [ht] at h1
  injection h1 with h1
  have := hr D e.symm
  omega
theorem keepsFrom_below {B : Nat} {W W' : World} (h : Below W.heap.size W W') : KeepsFrom B W W' := ⟨h.size, fun k o _ hk _ => (h.block k (Array.getElem?_eq_some_iff.1 hk).1).trans hk⟩
theorem keepsFrom_set {B : Nat} {W W' : World} (h : KeepsFrom B W W') (a : Addr) (v : Value) : KeepsFrom B W (W'.setCell a v) := h.trans ((KeepsOthers.setCell _ _ _).from _)
theorem wpIn_rangeBox {F : Fence} {n : Nat} {P : Program} {w : World} {α : Type} {g : Operand} {ps : Array Tmp} {assign body : Code} {Q : Exit → Act → World → Prop} {a : Act}
    (hro : F.round = none) (h1 : 1 ≤ n) {gf : Nat} {first : Array Value} (hg : a.eval g = .func (.func gf) first #[]) (hFg : F.fn gf) (eg : ∀ args w, (callFunc gf args).run P w = .ok (.enter gf args) w)
    {encs : α → Array Value} {Kp : World → World → Prop} {S Sp : List α → Prop} {N : Nat} {w0 : World} (hseq : GivesB F (n - 1) P gf first encs Kp S Sp N w0)
    (hKt : ∀ {A B C : World}, Kp A B → Kp B C → Kp A C) (hKb : ∀ (W : World) (l : Nat) (o o' : Obj), w.heap.size ≤ l → W.heap[l]? = some o → o.isCells = false → o'.isCells = false → o.isWalk = false → Kp W (W.putObj l o')) (hb0 : Below w0.heap.size w0 w) (hps : ∀ x, (encs x).size = ps.size)
    (I Ix : List α → World → Prop) (hI : OwnFrom w.heap.size I) (hIx : OwnFrom w.heap.size Ix) (h0 : I [] w) (sB : Nat) (At : α → Nat → World → Prop) (hAt : ∀ x g, OwnFrom w.heap.size (fun (_ : Unit) W => At x g W))
    (hassign : ∀ (l : Nat) (pre : List α) (x : α) (W : World) (K : Act → World → Prop), I pre W → (∀ b W', KeepsFrom w.heap.size W W' → Kp W W' → I pre W' → At x b W' → K { tmps := ((ps.zip (encs x)).foldl (fun t (p, v) => t.setIfInBounds p v) a.tmps).setIfInBounds sB (.pointer (some ⟨b, 0, none⟩)), defers := [] } W') →
     assign.wpIn (F.inRound l) (n - 1 - 1) P (Exit.then K (fun _ _ _ => False)) { tmps := (ps.zip (encs x)).foldl (fun t (p, v) => t.setIfInBounds p v) a.tmps, defers := [] } W)
    (hbody : ∀ (l : Nat) (pre : List α) (x : α) (b : Nat) (W : World), I pre W → At x b W → pre.length < N → body.wpIn (F.inRound l) (n - 1 - 1) P (roundB w.heap.size Kp I Ix (pre ++ [x]) W) { tmps := ((ps.zip (encs x)).foldl (fun t (p, v) => t.setIfInBounds p v) a.tmps).setIfInBounds sB (.pointer (some ⟨b, 0, none⟩)), defers := [] } W)
    (hdone : ∀ (D : Nat) (xs : List α) (W : World), w.heap.size ≤ D → S xs → I xs W → W.heap[D]? = some (.deferred (some [])) → Q .normal { a with defers := { target := .collected D, args := #[] } :: a.defers } W)
    (hstop : ∀ (D : Nat) (pre : List α) (W : World), w.heap.size ≤ D → Sp pre → Ix pre W → W.heap[D]? = some (.deferred (some [])) → Code.ret.wpIn F n P Q { a with defers := { target := .collected D, args := #[] } :: a.defers } W) :
    (Code.rangeFunc g ps assign body).wpIn F n P Q a w :=
 wpIn_rangeBound hro h1 hg hFg eg hseq (fun h k => hKt h k) hKb hb0 hps I Ix hI hIx h0
  (fun x a' W => ∃ b, a' = { tmps := ((ps.zip (encs x)).foldl (fun t (p, v) => t.setIfInBounds p v) a.tmps).setIfInBounds sB (.pointer (some ⟨b, 0, none⟩)), defers := [] } ∧ At x b W)
  (fun x a' s W W' row h hg hr => by obtain ⟨b, h1, h2⟩ := h; exact ⟨b, h1, hAt x b () W W' row h2 hg hr⟩)
  (fun l pre x W K hi hK => hassign l pre x W K hi fun b W' h1 h2 h3 h4 => hK _ _ h1 h2 h3 ⟨b, rfl, h4⟩)
  (fun l pre x a' W hi ⟨b, e, h⟩ hlt => by subst e; exact hbody l pre x b W hi h hlt) hdone hstop
theorem own_cellsBlock {w : World} {base e k n : Nat} {v : Value} {xs : List Value} (h : w.ownsRow base e k v n xs) : ∀ r, v.ownBlock = some r → ∃ o : Obj, w.heap[r]? = some o ∧ o.isCells = true := fun r hr => by
 rcases h.2 with ⟨rfl, _⟩ | ⟨g, cap, cur, rfl, hb, hgg, _⟩
 ·cases hr
 ·have e : g = r := by simpa [Value.ownBlock] using hr
  subst e
  exact ⟨_, hgg, rfl⟩
theorem keepsFrom_grown {B : Nat} {W W' : World} {row : Option Nat} (hg : W.grownBy W' row) (hr : ∀ r, row = some r → ∃ o : Obj, W.heap[r]? = some o ∧ o.isCells = true) : KeepsFrom B W W' :=
 ⟨hg.size, fun k o _ hk hc => (hg.block k (Array.getElem?_eq_some_iff.1 hk).1 fun e => by
  obtain ⟨o', h1, h2⟩ := hr k e.symm
  rw [hk] at h1; cases h1; rw [h2] at hc; cases hc).trans hk⟩
theorem own_keptC {w w' : World} {base e k n : Nat} {v : Value} {xs : List Value} {row : Option Nat} (h : w.ownsRow base e k v n xs) (hg : w.grownBy w' row) (hr : ∀ r, row = some r → ∃ o : Obj, w.heap[r]? = some o ∧ o.isCells = false) : w'.ownsRow base e k v n xs :=
 h.kept hg (by
  cases hv : v.ownBlock with
  | none => exact .inl rfl
  | some g =>
   refine .inr fun e => ?_
   obtain ⟨o, h1, h2⟩ := own_cellsBlock h g hv
   obtain ⟨o', h3, h4⟩ := hr g e.symm
   rw [h1] at h3; cases h3; rw [h2] at h4; cases h4)
section
variable {F : Fence} {N : Nat} {P : Program}
theorem wpListIn_append_here (w : World) {ops : Array Oper} {rest : List Oper} {o : Oper} {a : Act} {Q : Exit → Act → World → Prop} (hgd : o.guard = none) (s x : Operand) (t : TypeId)
    (hop : o.op = .call { callee := .builtin .append, args := #[s, x], argTypes := #[t, t] })
    (base : Nat) (e : TypeId) (i : TypeInfo) (z : Value) (size bytes : Nat) (ht : P.underlying t = some (.slice e)) (hi : P.info? e = some i) (hz : i.zero = some z)
    (hsize : i.size = size) (hby : i.bytes = bytes) (hzs : z.cells.size = size) (hsz : 0 < size)
    (v : Value) (n : Nat) (xs : List Value) (hs : a.eval s = v) (hown : w.ownsRow base e size v n xs)
    (ad : Addr) (m c : Nat) (news : List Value) (hx : a.eval x = .slice (some ad) m c) (hl : news.length = m * size) (hnews : ∀ j u, news[j]? = some u → w.cell? (ad.add j) = some u) (h1 : ∀ u ∈ news, u.oneCell' = true) (hm : 0 < m)
    (h63 : n + m ≤ maxLen) (hbytes : (n + m) * bytes ≤ 140737488355328) (hbase : base ≤ w.heap.size)
    (h : ∀ v' w', w'.ownsRow base e size v' (n + m) (xs ++ news) → w.grownBy w' v.ownBlock → (v'.ownBlock = v.ownBlock ∨ v'.ownBlock = some w.heap.size) → wpListIn F N P ops Q rest (a.put o.dst v') w') : wpListIn F N P ops Q (o :: rest) a w := by
 refine wpListIn_plain hgd fun K hK' => ?_
 obtain ⟨v', w', hr, h2, h3, h4⟩ := run_append_here (P := P) w base t o.type e i z size bytes ht hi hz hsize hby hzs hsz v n xs hown ad m c news hl hnews h1 hm h63 hbytes hbase
 unfold Oper.wpIn
 refine ⟨?_, ?_⟩
 ·simp [Oper.about, hop, resolve, Target.leads, Sem.run_pure]
 ·rw [Oper.semAt_plain F _ _ (by rw [hop]; intro c hc'; cases hc')]
  simp [execOp, hop, resolve, invoke, builtin, hs, hx, hr, Result.andThen]
  exact hK' _ _ (h v' w' h2 h3 h4)
end

/-! What a body keeps that writes some variables, each of which holds a row, and those rows. -/
def Bad (gs : List Nat) (A : World) (k : Nat) : Prop := k ∈ gs ∨ ∃ g ∈ gs, ownAt g A = some k
structure KeepsM (gs : List Nat) (A B : World) : Prop where
 valid : ∀ g ∈ gs, Valid g B
 size : A.heap.size ≤ B.heap.size
 same : ∀ k o, A.heap[k]? = some o → o.isCells = true → ¬ Bad gs A k → B.heap[k]? = some o
 own : ∀ g ∈ gs, ∀ k, ownAt g B = some k → Bad gs A k ∨ A.heap.size ≤ k
def KeepsL (gs : List Nat) (A B : World) : Prop := (∀ g ∈ gs, Valid g A) → KeepsM gs A B
theorem KeepsM.bad {gs : List Nat} {A B : World} (h : KeepsM gs A B) {k : Nat} (hk : k < A.heap.size) (hb : Bad gs B k) : Bad gs A k := by
 rcases hb with h1 | ⟨g, h1, h2⟩
 ·exact .inl h1
 ·rcases h.own g h1 k h2 with h3 | h3
  ·exact h3
  ·omega
theorem KeepsM.trans {gs : List Nat} {A B C : World} (r : KeepsM gs A B) (h' : KeepsL gs B C) : KeepsM gs A C := by
 have r' := h' r.valid
 refine ⟨r'.valid, Nat.le_trans r.size r'.size, fun k o h1 h2 h3 => r'.same k o (r.same k o h1 h2 h3) h2 fun e => h3 (r.bad (Array.getElem?_eq_some_iff.1 h1).1 e), fun g hg k e => ?_⟩
 rcases r'.own g hg k e with e' | e'
 ·by_cases hk : k < A.heap.size
  ·exact .inl (r.bad hk e')
  ·exact .inr (by omega)
 ·exact .inr (Nat.le_trans r.size e')
theorem KeepsL.trans {gs : List Nat} {A B C : World} (h : KeepsL gs A B) (h' : KeepsL gs B C) : KeepsL gs A C := fun hv => (h hv).trans h'
theorem KeepsL.of_below {gs : List Nat} {A B : World} (h : Below A.heap.size A B) : KeepsL gs A B := fun hv =>
 ⟨fun g hg => ⟨Nat.lt_of_lt_of_le (hv g hg).1 h.size, fun k e => by rw [ownAt_below (hv g hg).1 h] at e; exact Nat.lt_of_lt_of_le ((hv g hg).2 k e) h.size⟩, h.size, fun k o h1 _ _ => (h.block k (Array.getElem?_eq_some_iff.1 h1).1).trans h1, fun g hg k e => .inl (.inr ⟨g, hg, by rwa [ownAt_below (hv g hg).1 h] at e⟩)⟩
theorem KeepsL.refl {gs : List Nat} {A : World} : KeepsL gs A A := KeepsL.of_below (Below.refl _ _)
theorem KeepsL.putObj {gs : List Nat} {l : Nat} {W : World} {o o' : Obj} (h : W.heap[l]? = some o) (hc : o.isCells = false) (hc' : o'.isCells = false) : KeepsL gs W (W.putObj l o') := fun hv => by
 have hown : ∀ g ∈ gs, ownAt g (W.putObj l o') = ownAt g W ∨ ownAt g (W.putObj l o') = none := fun g hg => by
  by_cases hk : g = l
  ·subst hk
   right
   unfold ownAt World.cell?
   rw [World.putObj_heap_same (hv g hg).1]
   cases o' <;> simp_all [Obj.isCells]
  ·left
   unfold ownAt
   rw [World.cell?_of_block (a := ⟨g, 0, none⟩) (World.putObj_heap_other hk)]
 refine ⟨fun g hg => ⟨by simpa using (hv g hg).1, fun k e => ?_⟩, by simp, fun k x h1 h2 _ => ?_, fun g hg k e => ?_⟩
 ·rcases hown g hg with e' | e'
  ·rw [e'] at e; simpa using (hv g hg).2 k e
  ·rw [e'] at e; cases e
 ·by_cases hk : l = k
  ·subst hk; rw [h] at h1; cases h1; rw [hc] at h2; cases h2
  ·rw [World.putObj_heap_other (fun e => hk e.symm)]; exact h1
 ·rcases hown g hg with e' | e'
  ·rw [e'] at e; exact .inl (.inr ⟨g, hg, e⟩)
  ·rw [e'] at e; cases e
theorem KeepsM.block {gs : List Nat} {A B : World} {b o : Nat} {v : Value} (h : KeepsM gs A B) (hc : A.cell? ⟨b, o, none⟩ = some v) (hb : ¬ Bad gs A b) : B.heap[b]? = A.heap[b]? := by
 have hz := block_lt_of_cell hc
 simp only at hz
 have hg : A.heap[b]? = some A.heap[b] := Array.getElem?_eq_getElem hz
 have hcl : A.heap[b].isCells = true := by
  unfold World.cell? at hc
  simp only [hg] at hc
  cases hb' : A.heap[b] <;> simp_all [Obj.isCells]
 exact (h.same b _ hg hcl hb).trans hg.symm
theorem KeepsM.cell {gs : List Nat} {A B : World} {b o : Nat} {v : Value} (h : KeepsM gs A B) (hc : A.cell? ⟨b, o, none⟩ = some v) (hb : ¬ Bad gs A b) : B.cell? ⟨b, o, none⟩ = some v := by
 rw [World.cell?_of_block (a := ⟨b, o, none⟩) (h.block hc hb)]; exact hc
theorem KeepsL.append {gs : List Nat} {g : Nat} {A A' : World} {v v' : Value} (hgs : g ∈ gs) (hc : A.cell? ⟨g, 0, none⟩ = some v) (hne : ∀ x ∈ gs, v.ownBlock ≠ some x) (hg : A.grownBy A' v.ownBlock) (hv : v'.ownBlock = v.ownBlock ∨ v'.ownBlock = some A.heap.size) (hlt : ∀ k, v'.ownBlock = some k → k < A'.heap.size) : KeepsL gs A (A'.setCell ⟨g, 0, none⟩ v') := fun hval => by
 have hz := block_lt_of_cell hc
 simp only at hz
 have hcA : A'.cell? ⟨g, 0, none⟩ = some v := hg.cell hc (fun e => hne g hgs e.symm)
 have ho : ownAt g A = v.ownBlock := by unfold ownAt; rw [hc]; rfl
 have ho' : ownAt g (A'.setCell ⟨g, 0, none⟩ v') = v'.ownBlock := by unfold ownAt; rw [World.cell?_setCell_same _ _ _ hcA]; rfl
 have hs : ∀ k, k ≠ g → (A'.setCell ⟨g, 0, none⟩ v').heap[k]? = A'.heap[k]? := fun k hk => by
  show (A'.heap.modify g _)[k]? = _
  rw [Array.getElem?_modify, if_neg (fun e => hk e.symm)]
 have hox : ∀ x ∈ gs, x ≠ g → ownAt x (A'.setCell ⟨g, 0, none⟩ v') = ownAt x A := fun x hx hxg => by
  unfold ownAt
  rw [World.cell?_of_block (a := ⟨x, 0, none⟩) (hs x hxg)]
  have hxz := (hval x hx).1
  rw [World.cell?_of_block (a := ⟨x, 0, none⟩) (hg.block x hxz (fun e => hne x hx e.symm))]
 refine ⟨fun x hx => ?_, by rw [World.size_setCell]; exact hg.size, fun k o h1 h2 h3 => ?_, fun x hx k e => ?_⟩
 ·refine ⟨by rw [World.size_setCell]; exact Nat.lt_of_lt_of_le (hval x hx).1 hg.size, fun k e => ?_⟩
  rw [World.size_setCell]
  by_cases hxg : x = g
  ·subst hxg; rw [ho'] at e; exact hlt k e
  ·rw [hox x hx hxg] at e; exact Nat.lt_of_lt_of_le ((hval x hx).2 k e) hg.size
 ·rw [hs k (fun e => h3 (.inl (e ▸ hgs))), hg.block k (Array.getElem?_eq_some_iff.1 h1).1 (fun e => h3 (.inr ⟨g, hgs, by rw [ho]; exact e.symm⟩))]; exact h1
 ·by_cases hxg : x = g
  ·subst hxg
   rw [ho'] at e
   rcases hv with h | h
   ·rw [h] at e; exact .inl (.inr ⟨x, hx, by rw [ho]; exact e⟩)
   ·rw [h] at e; injection e with e; exact .inr (by omega)
  ·rw [hox x hx hxg] at e; exact .inl (.inr ⟨x, hx, e⟩)
end Go.Proofs.YtbhgkadklklmbaaGreat
