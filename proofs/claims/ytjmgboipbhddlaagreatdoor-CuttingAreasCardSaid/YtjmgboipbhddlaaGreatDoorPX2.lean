import Derived.RangeFuncNested
import Derived.OrdersIn
import Derived.TacticsIn
import Derived.Test.YtjmgboipbhddlaaGreatDoorQT
import Derived.RangeFuncLeaves
import Derived.RangeFuncCalls
set_option linter.unusedVariables false
set_option linter.unusedSimpArgs false
namespace Go.Proofs.YtjmgboipbhddlaaGreatDoor
open Go Go.RowKit

def GivesB {α : Type} (F : Fence) (n : Nat) (P : Program) (g : Nat) (first : Array Value) (encs : α → Array Value) (Kp : World → World → Prop) (S Sp : List α → Prop) (N : Nat) (w : World) : Prop :=
 ∀ (l : Nat) (J Jx : List α → World → Prop) (W : World), Below w.heap.size w W → AbidesFrom W.heap.size J → AbidesFrom W.heap.size Jx →
  (∀ pre x W1, J pre W1 → pre.length < N → YieldAt F (n - 1) P l (encs x) W1 fun e W' => (e = .returned (.bool true) ∧ J (pre ++ [x]) W' ∧ Kp W1 W') ∨ (e = .returned (.bool false) ∧ Jx (pre ++ [x]) W')) →
  J [] W → CallsIn F n P g (first ++ #[.func (.yield l) #[] #[]]) W fun e W' => (∃ v, e = .returned v) ∧ ((∃ xs, S xs ∧ J xs W') ∨ (∃ pre, Sp pre ∧ Jx pre W'))
def roundB {α : Type} (B : Nat) (Kp : World → World → Prop) (I Ix : List α → World → Prop) (xs : List α) (W : World) : Exit → Act → World → Prop
 | .normal, _, W' => KeepsFrom B W W' ∧ Kp W W' ∧ I xs W'
 | .ret, _, W' => KeepsFrom B W W' ∧ Ix xs W'
 | _, _, _ => False

section
variable {F : Fence} {n : Nat} {P : Program} {w : World}
def Booked (w : World) (o : Loop) (W : World) : Prop := W.heap[w.heap.size + 1]? = some (.loop o) ∧ W.heap[w.heap.size]? = some (.deferred (some []))
theorem Booked.keep {o : Loop} {W W' : World} (h : Booked w o W) (hk : KeepsFrom w.heap.size W W') : Booked w o W' := ⟨hk.same _ _ (Nat.le_succ _) h.1 rfl, hk.same _ _ (Nat.le_refl _) h.2 rfl⟩
theorem Booked.abide {o : Loop} {A B : World} {row : Option Nat} (h : Booked w o A) (hg : A.grownBy B row) (hr : ∀ r, row = some r → ∃ o : Obj, A.heap[r]? = some o ∧ o.isWalk = true) : Booked w o B :=
 ⟨(grownBy_keeps hg hr h.1 rfl).trans h.1, (grownBy_keeps hg hr h.2 rfl).trans h.2⟩
theorem Booked.put {o o' : Loop} {W : World} (h : Booked w o W) : Booked w o' (W.putObj (w.heap.size + 1) (.loop o')) :=
 ⟨World.putObj_heap_same (Array.getElem?_eq_some_iff.1 h.1).1, (World.putObj_heap_other (by omega)).trans h.2⟩

set_option maxHeartbeats 400000 in
theorem wpIn_rangeBound {α : Type} {g : Operand} {ps : Array Tmp} {assign body : Code} {Q : Exit → Act → World → Prop} {a : Act}
    (hro : F.round = none) (h1 : 1 ≤ n) {gf : Nat} {first : Array Value} (hg : a.eval g = .func (.func gf) first #[]) (hFg : F.fn gf) (eg : ∀ args w, (callFunc gf args).run P w = .ok (.enter gf args) w)
    {encs : α → Array Value} {Kp : World → World → Prop} {S Sp : List α → Prop} {N : Nat} {w0 : World} (hseq : GivesB F (n - 1) P gf first encs Kp S Sp N w0)
    (hKt : ∀ {A B C : World}, Kp A B → Kp B C → Kp A C) (hKb : ∀ (W : World) (l : Nat) (o o' : Obj), w.heap.size ≤ l → W.heap[l]? = some o → o.isCells = false → o'.isCells = false → o.isWalk = false → Kp W (W.putObj l o')) (hb0 : Below w0.heap.size w0 w) (hps : ∀ x, (encs x).size = ps.size)
    (I Ix : List α → World → Prop) (hI : OwnFrom w.heap.size I) (hIx : OwnFrom w.heap.size Ix) (h0 : I [] w) (Ax : α → Act → World → Prop) (hAx : ∀ x a', OwnFrom w.heap.size (fun (_ : Unit) W => Ax x a' W))
    (hassign : ∀ (l : Nat) (pre : List α) (x : α) (W : World) (K : Act → World → Prop), I pre W → (∀ a' W', KeepsFrom w.heap.size W W' → Kp W W' → I pre W' → Ax x a' W' → K a' W') →
     assign.wpIn (F.inRound l) (n - 1 - 1) P (Exit.then K (fun _ _ _ => False)) { tmps := (ps.zip (encs x)).foldl (fun t (p, v) => t.setIfInBounds p v) a.tmps, defers := [] } W)
    (hbody : ∀ (l : Nat) (pre : List α) (x : α) (a' : Act) (W : World), I pre W → Ax x a' W → pre.length < N → body.wpIn (F.inRound l) (n - 1 - 1) P (roundB w.heap.size Kp I Ix (pre ++ [x]) W) a' W)
    (hdone : ∀ (D : Nat) (xs : List α) (W : World), w.heap.size ≤ D → S xs → I xs W → W.heap[D]? = some (.deferred (some [])) → Q .normal { a with defers := { target := .collected D, args := #[] } :: a.defers } W)
    (hstop : ∀ (D : Nat) (pre : List α) (W : World), w.heap.size ≤ D → Sp pre → Ix pre W → W.heap[D]? = some (.deferred (some [])) → Code.ret.wpIn F n P Q { a with defers := { target := .collected D, args := #[] } :: a.defers } W) :
    (Code.rangeFunc g ps assign body).wpIn F n P Q a w := by
 refine wpIn_rangeFunc ?_
 intro fn hfn
 rw [hro]
 obtain ⟨rec', hrec⟩ : ∃ rec' : LoopState → Option Code → Loop, rec' = fun st pe => { state := st, pending := pe, fn, tmps := a.tmps, params := ps, assign, body, defers := w.heap.size } := ⟨_, rfl⟩
 have fin : ∀ (jump : Option Code) (W3 : World), Booked w { rec' .ready none with state := .busy } W3 → (Instr.endRound (w.heap.size + 1) jump).run P W3 = .ok (.bool jump.isNone) (W3.putObj (w.heap.size + 1) (.loop (rec' (if jump.isNone then .ready else .done) jump))) := fun jump W3 h => by
  have := run_endRound (P := P) jump h.1
  rw [hrec] at this ⊢
  exact this
 obtain ⟨W1, hW1⟩ : ∃ W1, (w.alloc (.deferred (some []))).alloc (.loop (rec' .ready none)) = W1 := ⟨_, rfl⟩
 have hbk : Booked w (rec' .ready none) W1 := by
  rw [← hW1]
  refine ⟨?_, (Below.heap_alloc _ _ _ (by simp)).trans (World.alloc_heap_new w _)⟩
  have := World.alloc_heap_new (w.alloc (.deferred (some []))) (.loop (rec' .ready none))
  rwa [World.size_alloc] at this
 have hz1 : W1.heap.size = w.heap.size + 2 := by rw [← hW1]; simp
 have hbelow : Below w0.heap.size w0 W1 := by
  rw [← hW1]; exact hb0.trans ((((Below.refl _ w).alloc (Nat.le_refl _) _).alloc (by simp) _).mono hb0.size)
 have hrow : ∀ {A : World} {row : Option Nat}, (∀ r, row = some r → W1.heap.size ≤ r ∧ ∃ o : Obj, A.heap[r]? = some o ∧ o.isWalk = true) → (∀ r, row = some r → w.heap.size ≤ r ∧ ∃ o : Obj, A.heap[r]? = some o ∧ o.isCells = false) := fun hr r e => by
  obtain ⟨hB, o, ho, hw⟩ := hr r e
  exact ⟨by omega, o, ho, Obj.not_cells_of_walk hw⟩
 have hput : ∀ {K : List α → World → Prop} (hK : OwnFrom w.heap.size K) {xs : List α} {W : World} {o : Loop} (o' : Obj), K xs W → Booked w o W → K xs (W.putObj (w.heap.size + 1) o') := fun hK _ _ _ o' hk hb => hK.putObj o' hk (Nat.le_succ _) hb.1 rfl
 have hcall := hseq (w.heap.size + 1) (fun pre W => I pre W ∧ Booked w (rec' .ready none) W) (fun pre W => Ix pre W ∧ Booked w (rec' .done (some .ret)) W) W1 hbelow
  (fun s A B row hs hg' hr => ⟨hI s A B row hs.1 hg' (hrow hr), hs.2.abide hg' (fun r e => (hr r e).2)⟩)
  (fun s A B row hs hg' hr => ⟨hIx s A B row hs.1 hg' (hrow hr), hs.2.abide hg' (fun r e => (hr r e).2)⟩)
  (fun pre x W hJ hlen => by
   obtain ⟨hi, hb⟩ := hJ
   have hy := run_yield (P := P) (args := encs x) hb.1 (by rw [hrec]; exact hps x)
   rw [hrec] at hy
   refine ⟨fn, _, assign, body, hy, roundIn_of_wpIn hfn (hassign _ pre x W _ hi ?_)⟩
   clear hy
   intro a' Wa hka hkp hia hax
   have hba := hb.keep hka
   refine ⟨_, run_beginRound hba.1 (by rw [hrec]), ?_⟩
   have hbb : Booked w { rec' .ready none with state := .busy } (Wa.putObj (w.heap.size + 1) (.loop { rec' .ready none with state := .busy })) := hba.put
   have hk2 : Kp Wa (Wa.putObj (w.heap.size + 1) (.loop { rec' .ready none with state := .busy })) := hKb _ _ _ _ (Nat.le_succ _) hba.1 rfl rfl rfl
   refine wpIn_mono (hbody _ pre x a' _ (hput hI _ hia hba) ((hAx x a').putObj (s := ()) _ hax (Nat.le_succ _) hba.1 rfl) hlen) ?_
   rintro e a3 W3 hp
   cases e with
   | normal =>
    obtain ⟨hk3, hkp3, hi3⟩ := hp
    have hb3 := hbb.keep hk3
    exact ⟨_, _, fin none W3 hb3, .inl ⟨rfl, ⟨hput hI _ hi3 hb3, hb3.put⟩, hKt hkp (hKt (hKt hk2 hkp3) (hKb _ _ _ _ (Nat.le_succ _) hb3.1 rfl rfl rfl))⟩⟩
   | ret =>
    obtain ⟨hk3, hi3⟩ := hp
    have hb3 := hbb.keep hk3
    exact ⟨_, _, fin (some .ret) W3 hb3, .inr ⟨rfl, hput hIx _ hi3 hb3, hb3.put⟩⟩
   | exit id => exact hp.elim
   | goto t => exact hp.elim
   | panic ch => exact hp.elim
   | outgrown => exact hp.elim)
  ⟨by rw [← hW1]; exact hI.alloc _ (hI.alloc _ h0), hbk⟩
 refine ⟨w.heap.size + 1, [{ target := .collected w.heap.size, args := #[] }], W1, { target := .fn (.func gf) #[], args := first ++ #[.func (.yield (w.heap.size + 1)) #[] #[]] }, W1, gf, first ++ #[.func (.yield (w.heap.size + 1)) #[] #[]], W1, ?_, ?_, ?_, ?_, fun _ => h1, ?_⟩
 ·rw [← hW1, hrec]; exact run_enterLoop_outer _ _ _ _ _
 ·simp only [resolve, hg]
  simp [go_sem]
 ·intro f' hf'; simp [Target.leads] at hf'; subst hf'; exact hFg
 ·simp [invoke, go_sem, eg]
 ·refine hcall.mono ?_
  rintro e W2 ⟨⟨v, rfl⟩, (⟨xs, hS, hi, hb⟩ | ⟨pre, hSp, hi, hb⟩)⟩
  ·exact ⟨none, _, by have := run_endLoop (P := P) hb.1 (by rw [hrec]; simp); rw [hrec] at this; exact this, hdone _ xs _ (Nat.le_refl _) hS (hput hI _ hi hb) ((World.putObj_heap_other (by omega)).trans hb.2)⟩
  ·exact ⟨some .ret, _, by have := run_endLoop (P := P) hb.1 (by rw [hrec]; simp); rw [hrec] at this; exact this, hstop _ pre _ (Nat.le_refl _) hSp (hput hIx _ hi hb) ((World.putObj_heap_other (by omega)).trans hb.2)⟩
end
end Go.Proofs.YtjmgboipbhddlaaGreatDoor
set_option linter.unusedVariables false
set_option linter.unusedSimpArgs false
namespace Go.Proofs.YtjmgboipbhddlaaGreatDoor
open Go Go.RowKit

def NoExit : Exit → Act → World → Prop := fun _ _ _ => False
theorem rows_wide {n : Nat} {P : Program} {row : String} {args : Array Value} {w : World} {R : Value → World → Prop} (h : Rows P row args w R) : RowsIn Fence.wide n P row args w R :=
 fun c cs _ => let ⟨v, w', r, s⟩ := h c cs; ⟨v, w', r, stepsIn_wide.2 s⟩

section
variable {P : Program} {ops : Array Oper} {md : Region.Mode} {S : World → Prop} {T : Act → World → Prop} {Q : Exit → Act → World → Prop}

theorem wpOpIn_wide {n i : Nat} {K K' : Act → World → Prop} {a : Act} {w : World} (hK : ∀ a w, K a w → K' a w) (h : wpOp P ops (NP NoExit) i K a w) : wpOpIn Fence.wide n P ops Q i K' a w := by
 unfold wpOp at h
 unfold wpOpIn
 split
 ·rename_i h0; simp only [h0] at h; exact hK _ _ h
 ·rename_i o h0
  simp only [h0] at h
  split
  ·rename_i hw
   rw [if_pos hw] at h
   rcases h with h | ⟨_, a', w', h'⟩
   ·unfold Oper.wp at h
    refine ⟨fun _ _ => trivial, ?_⟩
    show o.uponIn _ _ _ _ _ _ ((o.semAt none a.eval).run P w)
    rw [Oper.semAt_none]
    generalize (execOp a.eval o).run P w = r at *
    have hd : ∀ n : Nat, Fence.wide.depth.isSome = true → 1 ≤ n := fun _ h => by simp [Fence.wide] at h
    cases r with
    | ok x w' =>
     cases x <;> simp only [Oper.upon, Oper.uponIn] at h ⊢
     case value v => exact hK _ _ h
     case skip => exact hK _ _ h
     case defer d => exact hK _ _ h
     case enter f args =>
      refine ⟨hd _, callsIn_wide.2 (h.mono fun e w'' he => ?_)⟩
      cases e with
      | returned v => exact hK _ _ he
      | panicked c => exact False.elim he
      | outgrown => obtain ⟨_, _, he⟩ := he; exact False.elim he
     case row row args => exact ⟨hd _, rows_wide (h.mono fun v w'' he => hK _ _ he)⟩
    | halt x w' =>
     cases x <;> simp only [Oper.upon, Oper.uponIn] at h ⊢
     case panic v => exact False.elim h
   ·exact False.elim h'
  ·rename_i hw
   rw [if_neg hw] at h
   exact ⟨fun _ _ => trivial, hK _ _ h⟩

theorem anyIn_of_headW {m n g : Nat} {L : Array Bool → Act → World → Prop} (hL : ∀ li a w, L li a w → wpAnyIn Fence.wide m P md ops Q g li a w) (f : Nat) :
    ∀ (li : Array Bool) (a : Act) (w : World), headW P md ops NoExit S n L f li a w → wpAnyIn Fence.wide m P md ops Q (f + g) li a w := by
 induction f with
 | zero => intro li a w h; rw [Nat.zero_add]; exact hL _ _ _ h
 | succ f ih =>
  intro li a w h
  rw [Nat.add_right_comm]
  exact ⟨fun h0 => absurd h0 h.1, fun i hi => wpOpIn_wide (fun a' w' h' => ih _ a' w' h'.2) (h.2 i hi).2⟩

theorem wpAnyIn_of_seq {m : Nat} {F : Fence} : ∀ (l : List Oper) (k : Nat) (listed : Array Bool) (a : Act) (w : World), (∀ j, l[j]? = ops[k + j]?) →
    Region.seqB md ops l.length k listed = true → wpListIn F m P ops Q l a w → wpAnyIn F m P md ops Q l.length listed a w
 | [], _, _, _, _, _, hB, h => ⟨by simpa [Region.seqB] using hB, h⟩
 | o :: l, k, listed, a, w, hl, hB, h => by
  have h0 : ops[k]? = some o := by simpa using (hl 0).symm
  simp only [List.length_cons, Region.seqB, Bool.and_eq_true, decide_eq_true_eq] at hB
  refine ⟨fun h1 => (by rw [hB.1] at h1; cases h1), fun i hi => ?_⟩
  rw [hB.1] at hi
  have hik : i = k := by simpa using hi
  subst hik
  have hw : wpOpIn F m P ops Q i (wpListIn F m P ops Q l) a w := by unfold wpOpIn; simp only [h0]; exact h
  exact wpOpIn_mono (fun a' w' h' => wpAnyIn_of_seq l (i + 1) _ a' w' (fun j => by have := hl (j + 1); simpa [Nat.add_assoc, Nat.add_comm 1 j] using this) hB.2 h') hw

def wpTreeT (P : Program) (l : List Oper) (S : World → Prop) (T : Act → World → Prop) : List (Nat × Bool) → Act → World → Prop
 | [], a, w => T a w
 | (k, true) :: r, a, w => wpQuiet P l.toArray S (fun a' => wpTreeT P l S T r a' w) [nthOp l k] a
 | (k, false) :: r, a, w => wpList P l.toArray (One NoExit fun a' w' => S w' ∧ wpTreeT P l S T r a' w') [nthOp l k] a w
theorem wpTreeT_one {l : List Oper} {k : Nat} {r : List (Nat × Bool)} {a : Act} {w : World} (h : wpList P l.toArray (One NoExit fun a' w' => S w' ∧ wpTreeT P l S T r a' w') [nthOp l k] a w) : wpTreeT P l S T ((k, false) :: r) a w := h
theorem wpQuiet_one_mono {ops : Array Oper} {C : World → Prop} {Q Q' : Act → Prop} {o : Oper} {a : Act} (h : ∀ a, Q a → Q' a) (hh : wpQuiet P ops C Q [o] a) : wpQuiet P ops C Q' [o] a := by
 unfold wpQuiet at hh ⊢
 split
 ·rename_i hw
  rw [if_pos hw] at hh
  exact Oper.quiet_mono (fun a h' => h a h') hh
 ·rename_i hw
  rw [if_neg hw] at hh
  exact h _ hh
structure TreeT (P : Program) (l : List Oper) (S : World → Prop) (T : Act → World → Prop) (r : List (Nat × Bool)) (a : Act) (w : World) : Prop where
 out : wpTreeT P l S T r a w
theorem TreeT_take {l : List Oper} {k : Nat} {r : List (Nat × Bool)} {a : Act} {w : World} (h : wpQuiet P l.toArray S (fun a' => TreeT P l S T r a' w) [nthOp l k] a) : TreeT P l S T ((k, true) :: r) a w := ⟨wpQuiet_one_mono (fun _ h => h.out) h⟩
theorem TreeT_done {l : List Oper} {a : Act} {w : World} (h : T a w) : TreeT P l S T [] a w := ⟨h⟩
theorem headW_treeT {n : Nat} {l : List Oper} (hsel : Region.noSelect l.toArray = true) (hs : Region.sinkB md l.toArray n = true) (hc : Region.chainB md l.toArray n = true) (hn : n < l.length) :
    ∀ (r : List (Nat × Bool)) (li : Array Bool) (a : Act) (w : World), HeadInv md l.toArray n li → S w → mixB md l.toArray n r li = true → wpTreeT P l S T r a w →
     headW P md l.toArray NoExit S n (fun li' a' w' => Region.seqB md l.toArray (l.toArray.size - n) n li' = true ∧ T a' w') r.length li a w
 | [], li, a, w, inv, _, hB, h => ⟨hB, h⟩
 | (k, t) :: r, li, a, w, inv, hS, hB, h => by
  simp only [mixB, Bool.and_eq_true, decide_eq_true_eq] at hB
  obtain ⟨⟨hkn, hk⟩, hB'⟩ := hB
  have h0 : l.toArray[k]? = some (nthOp l k) := by simpa using nthOp_get (by omega : k < l.length)
  cases t with
  | true =>
   simp only [if_true, Bool.and_eq_true] at hk
   obtain ⟨⟨hr, hf⟩, hp⟩ := hk
   rw [h0] at hp
   have hr' : k ∈ Region.ready md l.toArray li := by simpa using hr
   have hq : wpQuiet P l.toArray S (fun a' => wpTreeT P l S T r a' w) [nthOp l k] a := h
   obtain ⟨v, hy, hK⟩ : ∃ v, YieldsIf P l.toArray S (nthOp l k) v a ∧ wpTreeT P l S T r (a.put (nthOp l k).dst v) w := by
    unfold wpQuiet at hq
    split at hq
    ·rename_i hw
     exact yieldsIf_of_quiet (by simpa using hp) hw hq ⟨w, hS⟩
    ·rename_i hw
     exact ⟨undef, .inr ⟨by simpa using hw, rfl⟩, hq⟩
   exact headW_take h0 (Region.noSelect_spec hsel) hs hc (by simpa using hn) hkn (fun _ _ _ hL => seqB_ready hL.1) _ li a w inv (Region.free_spec h0 hf) hr' hy hS
    (headW_treeT hsel hs hc hn r _ _ w (inv.set hr' hkn) hS hB' hK)
  | false =>
   simp only [Bool.false_eq_true, if_false, decide_eq_true_eq] at hk
   have hr' : k ∈ Region.ready md l.toArray li := by rw [hk]; simp
   refine ⟨List.ne_nil_of_mem hr', fun i hi => ?_⟩
   rw [hk] at hi
   obtain rfl : i = k := by simpa using hi
   exact ⟨hkn, wpOp_mono (fun a' w' h' => ⟨h'.1, headW_treeT hsel hs hc hn r _ a' w' (inv.set hr' hkn) h'.1 hB' h'.2⟩) (wpOp_of_one h0 h)⟩

theorem wpIn_region_tree {m id : Nat} {a : Act} {w : World} {l : List Oper} (S : World → Prop) (n : Nat) (r : List (Nat × Bool)) (hm : P.follows .mixedOrders = true) (hB : mixOk l n r = true) (hS : S w.drew)
    (h : wpTreeT P l S (wpListIn Fence.wide m P l.toArray Q (l.drop n)) r a w.drew) : (Code.region id l.toArray true).wpIn Fence.wide m P Q a w := by
 simp only [mixOk, Bool.and_eq_true, decide_eq_true_eq] at hB
 obtain ⟨⟨⟨⟨⟨hsel, hn⟩, hs⟩, hc⟩, hlen⟩, hmix⟩ := hB
 have hdl : (l.drop n).length = l.toArray.size - n := by simp
 have inv0 : HeadInv .any l.toArray n (Array.replicate l.length false) :=
  ⟨by simp, fun j oj _ hl => (by rw [getD_replicate_false] at hl; cases hl), fun t _ ht => getD_in (by simpa using ht) (getD_replicate_false _ _)⟩
 have H := headW_treeT hsel hs hc hn r _ a w.drew inv0 hS hmix h
 have := anyIn_of_headW (m := m) (Q := Q) (g := l.toArray.size - n) (fun li a' w' hL => by
  have := wpAnyIn_of_seq (md := .any) (Q := Q) (l.drop n) n li a' w' (fun j => by simp [List.getElem?_drop]) (by rw [hdl]; exact hL.1) hL.2
  rwa [hdl] at this) _ _ _ _ H
 rw [hlen, show n + (l.toArray.size - n) = l.toArray.size by simp; omega] at this
 refine wpIn_region_any hm ?_
 simpa using this
end
end Go.Proofs.YtjmgboipbhddlaaGreatDoor
set_option linter.unusedVariables false
set_option linter.unusedSimpArgs false
namespace Go.Proofs.YtjmgboipbhddlaaGreatDoor
open Go Go.RowKit

def KeepsCells (gc : Nat) (A B : World) : Prop := A.heap.size ≤ B.heap.size ∧ ∀ k o, A.heap[k]? = some o → o.isCells = true → k ≠ gc → B.heap[k]? = some o
theorem KeepsCells.refl {gc : Nat} {A : World} : KeepsCells gc A A := ⟨Nat.le_refl _, fun _ _ h _ _ => h⟩
theorem KeepsCells.trans {gc : Nat} {A B C : World} (h : KeepsCells gc A B) (h' : KeepsCells gc B C) : KeepsCells gc A C := ⟨Nat.le_trans h.1 h'.1, fun k o h1 h2 h3 => h'.2 k o (h.2 k o h1 h2 h3) h2 h3⟩
theorem KeepsCells.putObj {gc l : Nat} {W : World} {o o' : Obj} (h : W.heap[l]? = some o) (hc : o.isCells = false) : KeepsCells gc W (W.putObj l o') :=
 ⟨by simp, fun k x h1 h2 _ => by
  by_cases hk : l = k
  ·subst hk; rw [h] at h1; cases h1; rw [hc] at h2; cases h2
  ·rw [World.putObj_heap_other (fun e => hk e.symm)]; exact h1⟩
theorem KeepsCells.cell {gc : Nat} {A B : World} {b o : Nat} {v : Value} (h : KeepsCells gc A B) (hc : A.cell? ⟨b, o, none⟩ = some v) (hb : b ≠ gc) : B.cell? ⟨b, o, none⟩ = some v := by
 have hz := block_lt_of_cell hc
 simp only at hz
 have hg : A.heap[b]? = some A.heap[b] := Array.getElem?_eq_getElem hz
 have hcl : A.heap[b].isCells = true := by
  unfold World.cell? at hc
  simp only [hg] at hc
  cases hb' : A.heap[b] <;> simp_all [Obj.isCells]
 rw [World.cell?_of_block (a := ⟨b, o, none⟩) ((h.2 b _ hg hcl hb).trans hg.symm)]
 exact hc

def ownAt (g : Nat) (A : World) : Option Nat := (A.cell? ⟨g, 0, none⟩).bind Value.ownBlock
def Valid (g : Nat) (A : World) : Prop := g < A.heap.size ∧ ∀ k, ownAt g A = some k → k < A.heap.size
structure KeepsR (g : Nat) (A B : World) : Prop where
 valid : Valid g B
 size : A.heap.size ≤ B.heap.size
 same : ∀ k o, A.heap[k]? = some o → o.isCells = true → k ≠ g → ownAt g A ≠ some k → B.heap[k]? = some o
 own : ∀ k, ownAt g B = some k → ownAt g A = some k ∨ A.heap.size ≤ k
def KeepsB (g : Nat) (A B : World) : Prop := Valid g A → KeepsR g A B
theorem KeepsR.trans {g : Nat} {A B C : World} (r : KeepsR g A B) (h' : KeepsB g B C) : KeepsR g A C := by
 have r' := h' r.valid
 refine ⟨r'.valid, Nat.le_trans r.size r'.size, fun k o h1 h2 h3 h4 => r'.same k o (r.same k o h1 h2 h3 h4) h2 h3 fun e => ?_, fun k e => ?_⟩
 ·rcases r.own k e with e' | e'
  ·exact h4 e'
  ·have := (Array.getElem?_eq_some_iff.1 h1).1; omega
 ·rcases r'.own k e with e' | e'
  ·exact r.own k e'
  ·exact .inr (Nat.le_trans r.size e')
theorem KeepsB.trans {g : Nat} {A B C : World} (h : KeepsB g A B) (h' : KeepsB g B C) : KeepsB g A C := fun hv => (h hv).trans h'
theorem ownAt_below {g : Nat} {A B : World} (hg : g < A.heap.size) (h : Below A.heap.size A B) : ownAt g B = ownAt g A := by
 unfold ownAt
 rw [h.cell (p := ⟨g, 0, none⟩) hg]
theorem KeepsB.of_below {g : Nat} {A B : World} (h : Below A.heap.size A B) : KeepsB g A B := fun hv =>
 ⟨⟨Nat.lt_of_lt_of_le hv.1 h.size, fun k e => by rw [ownAt_below hv.1 h] at e; exact Nat.lt_of_lt_of_le (hv.2 k e) h.size⟩, h.size, fun k o h1 _ _ _ => (h.block k (Array.getElem?_eq_some_iff.1 h1).1).trans h1, fun k e => .inl (by rwa [ownAt_below hv.1 h] at e)⟩
theorem KeepsB.refl {g : Nat} {A : World} : KeepsB g A A := KeepsB.of_below (Below.refl _ _)
theorem KeepsB.putObj {g l : Nat} {W : World} {o o' : Obj} (h : W.heap[l]? = some o) (hc : o.isCells = false) (hc' : o'.isCells = false) : KeepsB g W (W.putObj l o') := fun hv => by
 have hown : ownAt g (W.putObj l o') = ownAt g W ∨ ownAt g (W.putObj l o') = none := by
  by_cases hk : g = l
  ·subst hk
   right
   unfold ownAt World.cell?
   rw [World.putObj_heap_same hv.1]
   cases o' <;> simp_all [Obj.isCells]
  ·left
   unfold ownAt
   rw [World.cell?_of_block (a := ⟨g, 0, none⟩) (World.putObj_heap_other hk)]
 refine ⟨⟨by simpa using hv.1, fun k e => ?_⟩, by simp, fun k x h1 h2 _ _ => ?_, fun k e => ?_⟩
 ·rcases hown with e' | e'
  ·rw [e'] at e; simpa using hv.2 k e
  ·rw [e'] at e; cases e
 ·by_cases hk : l = k
  ·subst hk; rw [h] at h1; cases h1; rw [hc] at h2; cases h2
  ·rw [World.putObj_heap_other (fun e => hk e.symm)]; exact h1
 ·rcases hown with e' | e'
  ·rw [e'] at e; exact .inl e
  ·rw [e'] at e; cases e
theorem KeepsR.block {g : Nat} {A B : World} {b o : Nat} {v : Value} (h : KeepsR g A B) (hc : A.cell? ⟨b, o, none⟩ = some v) (hb : b ≠ g) (ho : ownAt g A ≠ some b) : B.heap[b]? = A.heap[b]? := by
 have hz := block_lt_of_cell hc
 simp only at hz
 have hg : A.heap[b]? = some A.heap[b] := Array.getElem?_eq_getElem hz
 have hcl : A.heap[b].isCells = true := by
  unfold World.cell? at hc
  simp only [hg] at hc
  cases hb' : A.heap[b] <;> simp_all [Obj.isCells]
 exact (h.same b _ hg hcl hb ho).trans hg.symm
theorem KeepsR.cell {g : Nat} {A B : World} {b o : Nat} {v : Value} (h : KeepsR g A B) (hc : A.cell? ⟨b, o, none⟩ = some v) (hb : b ≠ g) (ho : ownAt g A ≠ some b) : B.cell? ⟨b, o, none⟩ = some v := by
 rw [World.cell?_of_block (a := ⟨b, o, none⟩) (h.block hc hb ho)]; exact hc
def Marks (B : Nat) : List Deferred → World → Prop
 | [], _ => True
 | d :: ds, W => (∃ D, B ≤ D ∧ d.target = .collected D ∧ W.heap[D]? = some (.deferred (some [])) ∧ ∀ d' ∈ ds, d'.target ≠ .collected D) ∧ Marks B ds W
theorem Marks.keep {B : Nat} : ∀ {ds : List Deferred} {W W' : World}, Marks B ds W → (∀ D : Nat, B ≤ D → W.heap[D]? = some (.deferred (some [])) → (∃ d ∈ ds, d.target = .collected D) → W'.heap[D]? = some (.deferred (some []))) → Marks B ds W'
 | [], _, _, _, _ => trivial
 | d :: ds, _, _, ⟨⟨D, h0, h1, h2, h3⟩, h⟩, hk => ⟨⟨D, h0, h1, hk D h0 h2 ⟨d, List.mem_cons_self, h1⟩, h3⟩, h.keep fun D' h0 h2 ⟨d', hd, ht⟩ => hk D' h0 h2 ⟨d', List.mem_cons_of_mem _ hd, ht⟩⟩
theorem Marks.lt {B : Nat} : ∀ {ds : List Deferred} {W : World}, Marks B ds W → ∀ d ∈ ds, ∃ D, d.target = .collected D ∧ D < W.heap.size
 | _ :: _, _, ⟨⟨D, _, h1, h2, _⟩, h⟩, d, hd => by
  rcases List.mem_cons.1 hd with rfl | hd
  ·exact ⟨D, h1, (Array.getElem?_eq_some_iff.1 h2).1⟩
  ·exact h.lt d hd
theorem Marks.cons {B D : Nat} {ds : List Deferred} {W0 W : World} (h : Marks B ds W) (h0 : Marks B ds W0) (hB : B ≤ D) (hD : W0.heap.size ≤ D) (hl : W.heap[D]? = some (.deferred (some []))) : Marks B ({ target := .collected D, args := #[] } :: ds) W :=
 ⟨⟨D, hB, rfl, hl, fun d' hd e => by
  obtain ⟨D', h1, h2⟩ := h0.lt d' hd
  rw [h1] at e
  injection e with e
  omega⟩, h⟩

theorem leave_marks {B n : Nat} {P : Program} {fn : Func} {tmps : Array Value} {R : Ending → World → Prop} : ∀ (ds : List Deferred) (W : World), Marks B ds W →
    (∀ W', KeepsCells W.heap.size W W' → Below B W W' → ∃ v, (results fn tmps).run P W' = .ok v W' ∧ R (.returned v) W') → LeavesInM Fence.wide n P fn tmps R ds .returning W
 | [], W, _, h => h W KeepsCells.refl (Below.refl _ _)
 | d :: ds, W, ⟨⟨D, h0, h1, h2, h3⟩, hm⟩, h => by
  refine ⟨by simp, .inl ⟨D, W.putObj D (.deferred none), h1, run_takeDeferred h2, leave_marks ds _ (hm.keep fun D' _ hl ⟨d', hd, ht⟩ => ?_) fun W' hk hb => h W' ?_ ?_⟩⟩
  ·have hne : D ≠ D' := fun e => h3 d' hd (by rw [ht, e])
   rw [World.putObj_heap_other (fun e => hne e.symm)]; exact hl
  ·have hz : (W.putObj D (.deferred none)).heap.size = W.heap.size := by simp
   rw [hz] at hk
   exact (KeepsCells.putObj h2 rfl).trans hk
  ·refine Below.trans ?_ hb
   exact ⟨rfl, rfl, rfl, by simp, fun k hk => World.putObj_heap_other (by omega)⟩

theorem wp_loop_slots {P : Program} {c : Code} {Q : Exit → Act → World → Prop} {T0 : Array Value} {d0 : List Deferred} {w : World} (S : List Nat) (R : (Nat → Value) → List Deferred → World → Prop) (mu : Array Value → Nat) (u0 : Nat → Value) (hT : T0 = forget S u0 T0)
    (h0 : R u0 d0 w) (round : ∀ u ds w', R u ds w' → c.wp P (Exit.then (fun a' w'' => ∃ u' ds', a' = ⟨forget S u' T0, ds'⟩ ∧ R u' ds' w'' ∧ mu a'.tmps < mu (forget S u T0)) Q) ⟨forget S u T0, ds⟩ w') : (Code.loop c).wp P Q ⟨T0, d0⟩ w := by
 refine wp_loop (fun a w => ∃ u ds, a = ⟨forget S u T0, ds⟩ ∧ R u ds w) (fun a _ => mu a.tmps) ⟨u0, d0, by rw [← hT], h0⟩ ?_
 rintro a w' ⟨u, ds, rfl, hR⟩
 refine wp_mono (round u ds w' hR) ?_
 intro e a' w'' h
 cases e with
 | normal => obtain ⟨u', ds', h1, h2, h3⟩ := h; exact ⟨⟨u', ds', h1, h2⟩, h3⟩
 | _ => exact h
end Go.Proofs.YtjmgboipbhddlaaGreatDoor
