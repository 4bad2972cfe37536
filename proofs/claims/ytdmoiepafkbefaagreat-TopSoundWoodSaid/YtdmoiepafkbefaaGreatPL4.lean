/- A range over a method of a value ('for p := range l.pieces'): the function value carries its receiver ahead of yield. The body goes on, or returns. -/
import Derived.RangeFuncNested
set_option linter.unusedVariables false
set_option linter.unusedSimpArgs false
namespace Go.Proofs.YtdmoiepafkbefaaGreat
open Go Go.RowKit

/-- The contract of an iterator with arguments ahead of yield (its receiver). -/
def GivesB {α : Type} (F : Fence) (n : Nat) (P : Program) (g : Nat) (first : Array Value) (encs : α → Array Value) (Kp : World → World → Prop) (S Sp : List α → Prop) (N : Nat) (w : World) : Prop :=
  ∀ (l : Nat) (J Jx : List α → World → Prop) (W : World), Below w.heap.size w W → AbidesFrom W.heap.size J → AbidesFrom W.heap.size Jx →
    (∀ pre x W1, J pre W1 → pre.length < N → YieldAt F (n - 1) P l (encs x) W1 fun e W' => (e = .returned (.bool true) ∧ J (pre ++ [x]) W' ∧ Kp W1 W') ∨ (e = .returned (.bool false) ∧ Jx (pre ++ [x]) W')) →
    J [] W → CallsIn F n P g (first ++ #[.func (.yield l) #[] #[]]) W fun e W' => (∃ v, e = .returned v) ∧ ((∃ xs, S xs ∧ J xs W') ∨ (∃ pre, Sp pre ∧ Jx pre W'))
/-- How a round may end: it goes on, or the function returns. -/
def roundB {α : Type} (B : Nat) (Kp : World → World → Prop) (I Ix : List α → World → Prop) (xs : List α) (W : World) : Exit → Act → World → Prop
  | .normal, _, W' => KeepsFrom B W W' ∧ Kp W W' ∧ I xs W'
  | .ret, _, W' => KeepsFrom B W W' ∧ Ix xs W'
  | _, _, _ => False

section
variable {F : Fence} {n : Nat} {P : Program} {w : World}
/-- The two blocks of book-keeping lie. -/
def Booked (w : World) (o : Loop) (W : World) : Prop := W.heap[w.heap.size + 1]? = some (.loop o) ∧ W.heap[w.heap.size]? = some (.deferred (some []))
theorem Booked.keep {o : Loop} {W W' : World} (h : Booked w o W) (hk : KeepsFrom w.heap.size W W') : Booked w o W' := ⟨hk.same _ _ (Nat.le_succ _) h.1 rfl, hk.same _ _ (Nat.le_refl _) h.2 rfl⟩
theorem Booked.abide {o : Loop} {A B : World} {row : Option Nat} (h : Booked w o A) (hg : A.grownBy B row) (hr : ∀ r, row = some r → ∃ o : Obj, A.heap[r]? = some o ∧ o.isWalk = true) : Booked w o B :=
  ⟨(grownBy_keeps hg hr h.1 rfl).trans h.1, (grownBy_keeps hg hr h.2 rfl).trans h.2⟩
theorem Booked.put {o o' : Loop} {W : World} (h : Booked w o W) : Booked w o' (W.putObj (w.heap.size + 1) (.loop o')) :=
  ⟨World.putObj_heap_same (Array.getElem?_eq_some_iff.1 h.1).1, (World.putObj_heap_other (by omega)).trans h.2⟩

set_option maxHeartbeats 400000 in
theorem wpIn_rangeBound {α : Type} {g : Operand} {ps : Array Tmp} {assign body : Code} {Q : Exit → Act → World → Prop} {a : Act}
    (hro : F.round = none) (h1 : 1 ≤ n) {gf : Nat} {first : Array Value} (hg : a.eval g = .func (.func gf) first #[]) (hFg : F.fn gf) (eg : ∀ args w, (callFunc gf args).run P w = .ok (.enter gf args) w)
    {encs : α → Array Value} {Kp : World → World → Prop} {S Sp : List α → Prop} {N : Nat} {w0 : World} (hseq : GivesB F (n - 1) P gf first encs Kp S Sp N w0)
    (hKt : ∀ {A B C : World}, Kp A B → Kp B C → Kp A C) (hKb : ∀ (W : World) (l : Nat) (o o' : Obj), w.heap.size ≤ l → W.heap[l]? = some o → o.isCells = false → o'.isCells = false → o.isWalk = false → Kp W (W.putObj l o')) (hb0 : Below w0.heap.size w0 w) (hps : ∀ x, (encs x).size = ps.size)
    (I Ix : List α → World → Prop) (hI : OwnFrom w.heap.size I) (hIx : OwnFrom w.heap.size Ix) (h0 : I [] w) (Ax : α → Act → World → Prop) (hAx : ∀ x a', OwnFrom w.heap.size (fun (_ : Unit) W => Ax x a' W))
    (hassign : ∀ (l : Nat) (pre : List α) (x : α) (W : World) (K : Act → World → Prop), I pre W → (∀ a' W', KeepsFrom w.heap.size W W' → Kp W W' → I pre W' → Ax x a' W' → K a' W') →
      assign.wpIn (F.inRound l) (n - 1 - 1) P (Exit.then K (fun _ _ _ => False)) { tmps := (ps.zip (encs x)).foldl (fun t (p, v) => t.setIfInBounds p v) a.tmps, defers := [] } W)
    (hbody : ∀ (l : Nat) (pre : List α) (x : α) (a' : Act) (W : World), I pre W → Ax x a' W → pre.length < N → body.wpIn (F.inRound l) (n - 1 - 1) P (roundB w.heap.size Kp I Ix (pre ++ [x]) W) a' W)
    (hdone : ∀ (D : Nat) (xs : List α) (W : World), w.heap.size ≤ D → S xs → I xs W → W.heap[D]? = some (.deferred (some [])) → Q .normal { a with defers := { target := .collected D, args := #[] } :: a.defers } W)
    (hstop : ∀ (D : Nat) (pre : List α) (W : World), w.heap.size ≤ D → Sp pre → Ix pre W → W.heap[D]? = some (.deferred (some [])) → Code.ret.wpIn F n P Q { a with defers := { target := .collected D, args := #[] } :: a.defers } W) :
    (Code.rangeFunc g ps assign body).wpIn F n P Q a w := by
  refine wpIn_rangeFunc ?_
  intro fn hfn
  rw [hro]
  obtain ⟨rec', hrec⟩ : ∃ rec' : LoopState → Option Code → Loop, rec' = fun st pe => { state := st, pending := pe, fn, tmps := a.tmps, params := ps, assign, body, defers := w.heap.size } := ⟨_, rfl⟩
  have fin : ∀ (jump : Option Code) (W3 : World), Booked w { rec' .ready none with state := .busy } W3 → (Instr.endRound (w.heap.size + 1) jump).run P W3 = .ok (.bool jump.isNone) (W3.putObj (w.heap.size + 1) (.loop (rec' (if jump.isNone then .ready else .done) jump))) := fun jump W3 h => by
    have := run_endRound (P := P) jump h.1
    rw [hrec] at this ⊢
    exact this
  obtain ⟨W1, hW1⟩ : ∃ W1, (w.alloc (.deferred (some []))).alloc (.loop (rec' .ready none)) = W1 := ⟨_, rfl⟩
  have hbk : Booked w (rec' .ready none) W1 := by
    rw [← hW1]
    refine ⟨?_, (Below.heap_alloc _ _ _ (by simp)).trans (World.alloc_heap_new w _)⟩
    have := World.alloc_heap_new (w.alloc (.deferred (some []))) (.loop (rec' .ready none))
    rwa [World.size_alloc] at this
  have hz1 : W1.heap.size = w.heap.size + 2 := by rw [← hW1]; simp
  have hbelow : Below w0.heap.size w0 W1 := by
    rw [← hW1]; exact hb0.trans ((((Below.refl _ w).alloc (Nat.le_refl _) _).alloc (by simp) _).mono hb0.size)
  have hrow : ∀ {A : World} {row : Option Nat}, (∀ r, row = some r → W1.heap.size ≤ r ∧ ∃ o : Obj, A.heap[r]? = some o ∧ o.isWalk = true) → (∀ r, row = some r → w.heap.size ≤ r ∧ ∃ o : Obj, A.heap[r]? = some o ∧ o.isCells = false) := fun hr r e => by
    obtain ⟨hB, o, ho, hw⟩ := hr r e
    exact ⟨by omega, o, ho, Obj.not_cells_of_walk hw⟩
  have hput : ∀ {K : List α → World → Prop} (hK : OwnFrom w.heap.size K) {xs : List α} {W : World} {o : Loop} (o' : Obj), K xs W → Booked w o W → K xs (W.putObj (w.heap.size + 1) o') := fun hK _ _ _ o' hk hb => hK.putObj o' hk (Nat.le_succ _) hb.1 rfl
  have hcall := hseq (w.heap.size + 1) (fun pre W => I pre W ∧ Booked w (rec' .ready none) W) (fun pre W => Ix pre W ∧ Booked w (rec' .done (some .ret)) W) W1 hbelow
    (fun s A B row hs hg' hr => ⟨hI s A B row hs.1 hg' (hrow hr), hs.2.abide hg' (fun r e => (hr r e).2)⟩)
    (fun s A B row hs hg' hr => ⟨hIx s A B row hs.1 hg' (hrow hr), hs.2.abide hg' (fun r e => (hr r e).2)⟩)
    (fun pre x W hJ hlen => by
      obtain ⟨hi, hb⟩ := hJ
      have hy := run_yield (P := P) (args := encs x) hb.1 (by rw [hrec]; exact hps x)
      rw [hrec] at hy
      refine ⟨fn, _, assign, body, hy, roundIn_of_wpIn hfn (hassign _ pre x W _ hi ?_)⟩
      clear hy
      intro a' Wa hka hkp hia hax
      have hba := hb.keep hka
      refine ⟨_, run_beginRound hba.1 (by rw [hrec]), ?_⟩
      have hbb : Booked w { rec' .ready none with state := .busy } (Wa.putObj (w.heap.size + 1) (.loop { rec' .ready none with state := .busy })) := hba.put
      have hk2 : Kp Wa (Wa.putObj (w.heap.size + 1) (.loop { rec' .ready none with state := .busy })) := hKb _ _ _ _ (Nat.le_succ _) hba.1 rfl rfl rfl
      refine wpIn_mono (hbody _ pre x a' _ (hput hI _ hia hba) ((hAx x a').putObj (s := ()) _ hax (Nat.le_succ _) hba.1 rfl) hlen) ?_
      rintro e a3 W3 hp
      cases e with
      | normal =>
        obtain ⟨hk3, hkp3, hi3⟩ := hp
        have hb3 := hbb.keep hk3
        exact ⟨_, _, fin none W3 hb3, .inl ⟨rfl, ⟨hput hI _ hi3 hb3, hb3.put⟩, hKt hkp (hKt (hKt hk2 hkp3) (hKb _ _ _ _ (Nat.le_succ _) hb3.1 rfl rfl rfl))⟩⟩
      | ret =>
        obtain ⟨hk3, hi3⟩ := hp
        have hb3 := hbb.keep hk3
        exact ⟨_, _, fin (some .ret) W3 hb3, .inr ⟨rfl, hput hIx _ hi3 hb3, hb3.put⟩⟩
      | exit id => exact hp.elim
      | goto t => exact hp.elim
      | panic ch => exact hp.elim
      | outgrown => exact hp.elim)
    ⟨by rw [← hW1]; exact hI.alloc _ (hI.alloc _ h0), hbk⟩
  refine ⟨w.heap.size + 1, [{ target := .collected w.heap.size, args := #[] }], W1, { target := .fn (.func gf) #[], args := first ++ #[.func (.yield (w.heap.size + 1)) #[] #[]] }, W1, gf, first ++ #[.func (.yield (w.heap.size + 1)) #[] #[]], W1, ?_, ?_, ?_, ?_, fun _ => h1, ?_⟩
  · rw [← hW1, hrec]; exact run_enterLoop_outer _ _ _ _ _
  · simp only [resolve, hg]
    simp [go_sem]
  · intro f' hf'; simp [Target.leads] at hf'; subst hf'; exact hFg
  · simp [invoke, go_sem, eg]
  · refine hcall.mono ?_
    rintro e W2 ⟨⟨v, rfl⟩, (⟨xs, hS, hi, hb⟩ | ⟨pre, hSp, hi, hb⟩)⟩
    · exact ⟨none, _, by have := run_endLoop (P := P) hb.1 (by rw [hrec]; simp); rw [hrec] at this; exact this, hdone _ xs _ (Nat.le_refl _) hS (hput hI _ hi hb) ((World.putObj_heap_other (by omega)).trans hb.2)⟩
    · exact ⟨some .ret, _, by have := run_endLoop (P := P) hb.1 (by rw [hrec]; simp); rw [hrec] at this; exact this, hstop _ pre _ (Nat.le_refl _) hSp (hput hIx _ hi hb) ((World.putObj_heap_other (by omega)).trans hb.2)⟩
end
end Go.Proofs.YtdmoiepafkbefaaGreat
