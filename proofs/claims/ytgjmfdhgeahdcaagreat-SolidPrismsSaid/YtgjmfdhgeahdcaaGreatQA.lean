/- A region that draws its order, whose operations read and whose callees make new memory alone: one walk in the order of the text. -/
import Derived.Test.YtgjmfdhgeahdcaaGreatProg
import Derived.WalkKit
import Derived.Below
import Derived.BigQuiet
import Derived.Deep.QuietTactic
import Derived.StillTail
import Derived.OrdersHeld
import Derived.Laws.AppendOwn
import Derived.OwnWalk
set_option linter.unusedVariables false
namespace Go.Proofs.YtgjmfdhgeahdcaaGreat
open Go Go.RowKit

structure Gr where
 objs : Array Obj
 n : Nat
instance : Inhabited Gr := ⟨⟨#[], 0⟩⟩

/-- The world with new blocks behind the old ones, and some draws. -/
def grew (w : World) (g : Gr) : World := { w with heap := w.heap ++ g.objs, drawn := g.n }

theorem below_grew {w w' : World} (h : Below w.heap.size w w') : ∃ g, w' = grew w g := by
 refine ⟨⟨w'.heap.extract w.heap.size w'.heap.size, w'.drawn⟩, ?_⟩
 obtain ⟨hp, tape, drawn, os, output⟩ := w'
 obtain ⟨h1, h2, h3, h4, h5⟩ := h
 simp only at h1 h2 h3 h4 h5
 subst h1 h2 h3
 simp only [grew, World.mk.injEq, and_true]
 refine Array.ext_getElem? fun i => ?_
 rw [Array.getElem?_append]
 split
 ·rename_i hi; exact h5 i hi
 ·rename_i hi
  rw [Array.getElem?_extract]
  split
  ·congr 1; omega
  ·rw [Array.getElem?_eq_none]; omega

theorem grew_below (w : World) (g : Gr) : Below w.heap.size w (grew w g) :=
 ⟨rfl, rfl, rfl, by simp [grew], fun k hk => by simp [grew, Array.getElem?_append, hk]⟩
theorem grewB {B : Nat} {a w : World} (h : Below B a w) (hB : B ≤ w.heap.size) (g : Gr) : Below B a (grew w g) := h.trans ((grew_below w g).mono hB)

@[simp, go_sem] theorem cell?_grew (w : World) (g : Gr) (b o : Nat) (s : Option Nat) (h : b < w.heap.size) : (grew w g).cell? ⟨b, o, s⟩ = w.cell? ⟨b, o, s⟩ := by
 unfold World.cell?
 simp only [grew, Array.getElem?_append, h, if_true]
@[simp, go_sem] theorem frozen?_grew (w : World) (g : Gr) (b o : Nat) (s : Option Nat) (h : b < w.heap.size) : (grew w g).frozen? ⟨b, o, s⟩ = w.frozen? ⟨b, o, s⟩ := by
 unfold World.frozen?
 simp only [grew, Array.getElem?_append, h, if_true]
@[simp, go_sem] theorem size_grew (w : World) (g : Gr) : (grew w g).heap.size = w.heap.size + g.objs.size := by simp [grew]
@[simp, go_sem] theorem drew_grew (w : World) (g : Gr) : (grew w g).drew = grew w ⟨g.objs, g.n + 1⟩ := rfl
@[simp, go_sem] theorem grew_drew (w : World) (g : Gr) : grew w.drew g = grew w g := rfl
@[simp, go_sem] theorem grew_grew (w : World) (g g' : Gr) : grew (grew w g) g' = grew w ⟨g.objs ++ g'.objs, g'.n⟩ := by simp [grew]

section
variable {P : Program} {f : FuncId} {args : Array Value} {w : World} {g : Gr} {v : Value}
theorem grew_of (h : Calls P f args (grew w g) fun e w' => e = .returned v ∧ Below (grew w g).heap.size (grew w g) w') : Calls P f args (grew w g) fun e w'' => e = .returned v ∧ ∃ m, w'' = grew w m :=
 h.mono fun _ _ ⟨he, hb⟩ => by
  obtain ⟨g', rfl⟩ := below_grew hb
  exact ⟨he, _, grew_grew w g g'⟩
theorem grew_of_same (h : Calls P f args (grew w g) fun e w' => e = .returned v ∧ grew w g = w') : Calls P f args (grew w g) fun e w'' => e = .returned v ∧ ∃ m, w'' = grew w m :=
 h.mono fun _ _ ⟨he, hb⟩ => ⟨he, g, hb.symm⟩
theorem wp_region_grew {id : Nat} {Q : Exit → Act → World → Prop} {a : Act} {l : List Oper} (hm : P.follows .mixedOrders = true) (hB : Region.lexB .any l.toArray = true)
    (h : wpQuiet P l.toArray (fun w' => ∃ g, w' = grew w g) (fun a' => ∀ w', (∃ g, w' = grew w g) → Q .normal a' w') l a) : (Code.region id l.toArray true).wp P Q a w :=
 wp_region_quiet (C := fun w' => ∃ g, w' = grew w g) hm hB ⟨⟨#[], w.drawn + 1⟩, by simp [grew]⟩ (by simpa using h)
end

/-! A cut: what a statement leaves is told once, however many ways lead through it. -/
def forget (S : List Nat) (u : Nat → Value) (t : Array Value) : Array Value := S.foldl (fun t i => t.setIfInBounds i (u i)) t
def CutPost (S : List Nat) (a : Act) (R : (Nat → Value) → World → Prop) (e : Exit) (a' : Act) (w' : World) : Prop := e = .normal ∧ ∃ u, a' = ⟨forget S u a.tmps, a.defers⟩ ∧ R u w'
theorem wp_cut_slots {P : Program} {c : Code} {Q : Exit → Act → World → Prop} {a : Act} {w : World} (S : List Nat) (R : (Nat → Value) → World → Prop) (h : c.wp P (CutPost S a R) a w)
    (k : ∀ u w', R u w' → Q .normal ⟨forget S u a.tmps, a.defers⟩ w') : c.wp P Q a w :=
 Code.wp_mono (fun e a' w' ⟨he, u, ha, hR⟩ => by subst he; subst ha; exact k u w' hR) h
theorem cut_meet {S : List Nat} {a a' : Act} {R : (Nat → Value) → World → Prop} {w' : World} (hd : a' = ⟨forget S (fun i => a'.tmps.getD i undef) a.tmps, a.defers⟩) (hR : R (fun i => a'.tmps.getD i undef) w') : CutPost S a R .normal a' w' :=
 ⟨rfl, _, hd, hR⟩
end Go.Proofs.YtgjmfdhgeahdcaaGreat
/- A region that draws its order: operations that read or make memory, in whatever order, ahead of a few that come in one order at the end. A region that draws its order: operations that yield one value in every world of a class may be taken first; those that change the world come in a forced order and keep the class; from the n-th on the last ones, in one order. A region that draws its order, walked by a tree: operations that are taken first, and two at a time that change the world, in both orders. A region that draws its order, walked by a tree, with a class of worlds for each operation that is taken first: it is owed only behind operations that do not wait for that one. -/
set_option linter.unusedVariables false
set_option linter.unusedSimpArgs false
namespace Go.Proofs.YtgjmfdhgeahdcaaGreat
open Go Go.RowKit

section
variable {P : Program} {ops : Array Oper} {md : Region.Mode} {C : World → Prop}

/-- So many operations of the head, in whatever order; then L. -/
def headQ (P : Program) (md : Region.Mode) (ops : Array Oper) (C : World → Prop) (n : Nat) (L : Array Bool → Act → Prop) : Nat → Array Bool → Act → Prop
 | 0, li, a => L li a
 | f + 1, li, a => Region.ready md ops li ≠ [] ∧ ∀ i ∈ Region.ready md ops li, i < n ∧ qOp P ops C i (headQ P md ops C n L f (li.setIfInBounds i true)) a

/-- What may come up in a head that is not at its end lies in the head. -/
theorem ready_head {n i : Nat} {li : Array Bool} (hs : Region.sinkB md ops n = true) (hc : Region.chainB md ops n = true) (hn : n < ops.size) (inv : HeadInv md ops n li) (hin : i < n) (hr : i ∈ Region.ready md ops li) :
    ∀ j ∈ Region.ready md ops li, j < n := fun j hj =>
 Nat.lt_of_not_le fun h => tail_waits hs hc hn inv _ i rfl hin (mem_ready.1 hr).1 j h hj

theorem headQ_first {n i : Nat} {oi : Oper} {v : Value} {L : Array Bool → Act → Prop} (hi : ops[i]? = some oi) (hsel : ∀ (j : Nat) (o : Oper) cs b, ops[j]? = some o → o.op ≠ .select cs b)
    (hs : Region.sinkB md ops n = true) (hc : Region.chainB md ops n = true) (hn : n < ops.size) (hin : i < n) (hdone : ∀ li a, L li a → ∀ j ∈ Region.ready md ops li, n ≤ j) (f : Nat) :
    ∀ (li : Array Bool) (a : Act), HeadInv md ops n li →
     (∀ j oj, ops[j]? = some oj → j ≠ i → li.getD j true = false → (∀ e ∈ oj.after, Region.binds md e = true → e.on ≠ i) → oi.apart ops oj = true) →
     i ∈ Region.ready md ops li → YieldsIn P ops C oi v a → headQ P md ops C n L f (li.setIfInBounds i true) (a.put oi.dst v) → headQ P md ops C n L (f + 1) li a := by
 induction f with
 | zero =>
  intro li a inv _ hr hy H
  have hlt := ready_head hs hc hn inv hin hr
  refine ⟨List.ne_nil_of_mem hr, fun j hj => ⟨hlt j hj, ?_⟩⟩
  rcases Nat.decEq j i with hji | rfl
  ·have := hdone _ _ H j (ready_mono hj hji)
   have := hlt j hj
   omega
  ·exact hy.qOp hi H
 | succ f ih =>
  intro li a inv hap hr hy H
  have hlt := ready_head hs hc hn inv hin hr
  have hun := (mem_ready.1 hr).1
  refine ⟨List.ne_nil_of_mem hr, fun j hj => ⟨hlt j hj, ?_⟩⟩
  rcases Nat.decEq j i with hji | rfl
  ·obtain ⟨hjun, oj, hoj, hall⟩ := mem_ready.1 hj
   have hno : ∀ e ∈ oj.after, Region.binds md e = true → e.on ≠ i := fun e he hb heq => by
    have h1 := hall e he hb
    rw [heq, getD_both hun] at h1
    cases h1
   refine qOp_mono (fun a' h3 => ih _ a' (inv.set hj (hlt j hj)) (fun k ok hk hki hku hkn => hap k ok hk hki ?_ hkn) (ready_mono hr (Ne.symm hji)) h3.1 ?_)
    (qOp_put hoj (hap j oj hoj hji hjun hno) (fun cs b => hsel i oi cs b hi) (fun cs b => hsel j oj cs b hoj) hy (H.2 j (ready_mono hj hji)).2)
   ·rcases Nat.decEq j k with hjk | rfl
    ·rwa [getD_set_ne true hjk] at hku
    ·exact hjun
   ·rw [Array.setIfInBounds_comm _ _ hji]
    exact h3.2
  ·exact hy.qOp hi H

end
end Go.Proofs.YtgjmfdhgeahdcaaGreat

set_option linter.unusedVariables false
set_option linter.unusedSimpArgs false
namespace Go.Proofs.YtgjmfdhgeahdcaaGreat
open Go Go.RowKit

/-- The exits of a region that is shown not to panic. -/
def NP (Q : Exit → Act → World → Prop) : Exit → Act → World → Prop
 | .panic _, _, _ => False
 | e, a, w => Q e a w
/-- Behind one operation: K; no panic. -/
def One (Q : Exit → Act → World → Prop) (K : Act → World → Prop) : Exit → Act → World → Prop
 | .normal, a, w => K a w
 | .outgrown, a, w => Q .outgrown a w
 | _, _, _ => False
theorem NP_mk {Q : Exit → Act → World → Prop} {a : Act} {w : World} (h : Q .normal a w) : NP Q .normal a w := h
theorem One_mk {Q : Exit → Act → World → Prop} {S : World → Prop} {K : Act → World → Prop} {a : Act} {w : World} (hS : S w) (h : K a w) : One Q (fun a' w' => S w' ∧ K a' w') .normal a w := ⟨hS, h⟩
theorem NP.imp {Q : Exit → Act → World → Prop} (e : Exit) (a : Act) (w : World) (h : NP Q e a w) : Q e a w := by
 cases e <;> first | exact h | exact False.elim h

/-- An operation whose run gives a value, or halts. -/
def plainOp : Op → Bool
 | .move _ | .assign _ | .pick .. | .build .. | .nilCheck _ | .load .. | .binOp .. | .unOp .. | .convert .. | .slice .. | .fieldAddr .. | .field .. | .indexAddr .. | .index .. | .extract .. => true
 | .call { callee := .builtin b, .. } => b == .len || b == .max || b == .min
 | _ => false
theorem plain_run {P : Program} {o : Oper} {ρ : Operand → Value} {w : World} (h : plainOp o.op = true) :
    match (execOp ρ o).run P w with
    | .ok (.value _) _ | .halt _ _ => True
    | _ => False := by
 have bind : ∀ (s : Sem Value), match (do pure (Next.value (← s)) : Sem Next).run P w with
     | .ok (.value _) _ | .halt _ _ => True
     | _ => False := by
  intro s
  simp only [Sem.run_bind, Sem.run_pure]
  cases s.run P w <;> simp [Result.andThen]
 unfold execOp
 cases ho : o.op <;> rw [ho] at h <;> simp only [plainOp] at h <;> first | (exact absurd h (by decide)) | exact bind _ | (simp only [Sem.run_pure]) | skip
 ·rename_i c a b
  simp only [Sem.run_bind, Sem.run_pure]
  cases (asBool (ρ c)).run P w <;> simp [Result.andThen]
 ·rename_i x
  have pv : ∀ v : Value, match (pure (Next.value v) : Sem Next).run P w with
   | .ok (.value _) _ | .halt _ _ => True
   | _ => False := fun v => by simp only [Sem.run_pure]
  have pp : match (runtimePanic .nilDeref : Sem Next).run P w with
   | .ok (.value _) _ | .halt _ _ => True
   | _ => False := by simp [runtimePanic, goPanic]
  generalize ρ x = v
  cases v with
  | pointer a => cases a with
   | none => exact pp
   | some a => exact pv (.pointer (some a))
  | nilIface => exact pp
  | nilFunc => exact pp
  | func fn first captured =>
   cases fn with
   | method name =>
    show (match (match (first[0]? : Option Value) with
     | some .nilIface => runtimePanic .nilDeref
     | some (.iface t w) => _
     | _ => pure (Next.value (.func (.method name) first captured)) : Sem Next).run P w with
    | .ok (.value _) _ | .halt _ _ => True
    | _ => False)
    generalize (first[0]? : Option Value) = u
    cases u with
    | none => exact pv (.func (.method name) first captured)
    | some u =>
     cases u with
     | nilIface => exact pp
     | iface t v =>
      simp only [Sem.run_bind]
      cases (program : Sem Program).run P w with
      | halt => simp [Result.andThen]
      | ok p w1 =>
       simp only [Result.andThen_ok]
       cases (nilAhead (p.types.size + Made.depth) t v name).run P w1 with
       | halt => simp [Result.andThen]
       | ok b w2 =>
        simp only [Result.andThen_ok]
        by_cases hb : (b != some false) = true
        ·rw [if_pos hb]; simp [unsupported, Result.andThen]
        ·rw [if_neg hb]; simp
     | _ => exact pv (.func (.method name) first captured)
   | _ => simp
  | _ => simp
 ·rename_i c
  obtain ⟨callee, args, tys⟩ := c
  cases callee with
  | value f => simp [plainOp] at h
  | invoke r m => simp [plainOp] at h
  | builtin b =>
   have hb : b = .len ∨ b = .max ∨ b = .min := by simpa [plainOp, or_assoc] using h
   simp only [resolve, Sem.run_bind, Sem.run_pure, Result.andThen_ok, invoke, builtin]
   rcases hb with rfl | rfl | rfl <;> exact bind _

section
variable {P : Program} {ops : Array Oper} {md : Region.Mode} {S : World → Prop} {Q : Exit → Act → World → Prop}

/-- What is quiet in the class, and is no call of a Go function, yields its value in every world of it. -/
theorem yieldsIf_of_quiet {o : Oper} {a : Act} {K : Act → Prop} (hp : plainOp o.op = true) (hw : Region.wanted o (yielded ops a.tmps) = true) (h : o.quiet P a S K) (hne : ∃ w, S w) :
    ∃ v, YieldsIf P ops S o v a ∧ K (a.put o.dst v) := by
 obtain ⟨v, h1, h2⟩ := h
 refine ⟨v, .inl ⟨hw, fun w hS => ?_⟩, h2⟩
 have h3 := h1 w hS
 have h4 := plain_run (P := P) (ρ := a.eval) (w := w) hp
 unfold Oper.quietAt at h3
 generalize (execOp a.eval o).run P w = r at *
 cases r with
 | ok n w' =>
  cases n <;> simp only at h4
  simp only [Oper.quietUpon] at h3
  rw [h3.1, h3.2]
 | halt x w' => simp [Oper.quietUpon] at h3

/-- So many operations of the head, in whatever order, each of which keeps the class; then L. -/
def headW (P : Program) (md : Region.Mode) (ops : Array Oper) (Q : Exit → Act → World → Prop) (S : World → Prop) (n : Nat) (L : Array Bool → Act → World → Prop) : Nat → Array Bool → Act → World → Prop
 | 0, li, a, w => L li a w
 | f + 1, li, a, w => Region.ready md ops li ≠ [] ∧ ∀ i ∈ Region.ready md ops li, i < n ∧ wpOp P ops (NP Q) i (fun a' w' => S w' ∧ headW P md ops Q S n L f (li.setIfInBounds i true) a' w') a w

theorem any_of_headW {n g : Nat} {L : Array Bool → Act → World → Prop} (hL : ∀ li a w, L li a w → wpAny P md ops (NP Q) g li a w) (f : Nat) :
    ∀ (li : Array Bool) (a : Act) (w : World), headW P md ops Q S n L f li a w → wpAny P md ops (NP Q) (f + g) li a w := by
 induction f with
 | zero => intro li a w h; rw [Nat.zero_add]; exact hL _ _ _ h
 | succ f ih =>
  intro li a w h
  rw [Nat.add_right_comm]
  exact ⟨fun h0 => absurd h0 h.1, fun i hi => wpOp_mono (fun a' w' h' => ih _ a' w' h'.2) (h.2 i hi).2⟩

theorem headW_take {n i : Nat} {oi : Oper} {v : Value} {L : Array Bool → Act → World → Prop} (hi : ops[i]? = some oi) (hsel : ∀ (j : Nat) (o : Oper) cs b, ops[j]? = some o → o.op ≠ .select cs b)
    (hs : Region.sinkB md ops n = true) (hc : Region.chainB md ops n = true) (hn : n < ops.size) (hin : i < n) (hdone : ∀ li a w, L li a w → ∀ j ∈ Region.ready md ops li, n ≤ j) (f : Nat) :
    ∀ (li : Array Bool) (a : Act) (w : World), HeadInv md ops n li →
     (∀ j oj, ops[j]? = some oj → j ≠ i → li.getD j true = false → (∀ e ∈ oj.after, Region.binds md e = true → e.on ≠ i) → oi.apart ops oj = true) →
     i ∈ Region.ready md ops li → YieldsIf P ops S oi v a → S w → headW P md ops Q S n L f (li.setIfInBounds i true) (a.put oi.dst v) w → headW P md ops Q S n L (f + 1) li a w := by
 induction f with
 | zero =>
  intro li a w inv _ hr hy hS H
  have hlt := ready_head hs hc hn inv hin hr
  refine ⟨List.ne_nil_of_mem hr, fun j hj => ⟨hlt j hj, ?_⟩⟩
  rcases Nat.decEq j i with hji | rfl
  ·have := hdone _ _ _ H j (ready_mono hj hji)
   have := hlt j hj
   omega
  ·exact hy.wpOp hi hS ⟨hS, H⟩
 | succ f ih =>
  intro li a w inv hap hr hy hS H
  have hlt := ready_head hs hc hn inv hin hr
  have hun := (mem_ready.1 hr).1
  refine ⟨List.ne_nil_of_mem hr, fun j hj => ⟨hlt j hj, ?_⟩⟩
  rcases Nat.decEq j i with hji | rfl
  ·obtain ⟨hjun, oj, hoj, hall⟩ := mem_ready.1 hj
   have hno : ∀ e ∈ oj.after, Region.binds md e = true → e.on ≠ i := fun e he hb heq => by
    have h1 := hall e he hb
    rw [heq, getD_both hun] at h1
    cases h1
   refine wpOp_mono (fun a' w' h3 => ⟨h3.2.1, ih _ a' w' (inv.set hj (hlt j hj)) (fun k ok hk hki hku hkn => hap k ok hk hki ?_ hkn) (ready_mono hr (Ne.symm hji)) h3.1 h3.2.1 ?_⟩)
    (wpOp_putIf hoj (hap j oj hoj hji hjun hno) (fun cs b => hsel i oi cs b hi) (fun cs b => hsel j oj cs b hoj) (fun _ _ _ h => h) hy (H.2 j (ready_mono hj hji)).2)
   ·rcases Nat.decEq j k with hjk | rfl
    ·rwa [getD_set_ne true hjk] at hku
    ·exact hjun
   ·rw [Array.setIfInBounds_comm _ _ hji]
    exact h3.2.2
  ·exact hy.wpOp hi hS ⟨hS, H⟩

/-- The order in which the walk takes them: (number, whether it is taken first). -/
def mixB (md : Region.Mode) (ops : Array Oper) (n : Nat) : List (Nat × Bool) → Array Bool → Bool
 | [], li => Region.seqB md ops (ops.size - n) n li
 | (k, t) :: r, li => decide (k < n) && (if t then (Region.ready md ops li).contains k && Region.free md ops li k && ((ops[k]?).map fun o => plainOp o.op).getD false else decide (Region.ready md ops li = [k])) && mixB md ops n r (li.setIfInBounds k true)
def nthOp : List Oper → Nat → Oper
 | o :: _, 0 => o
 | _ :: l, k + 1 => nthOp l k
 | [], _ => default
def orderOps (l : List Oper) : List (Nat × Bool) → List (Oper × Bool)
 | [] => []
 | (k, t) :: r => (nthOp l k, t) :: orderOps l r
theorem nthOp_get : ∀ {l : List Oper} {k : Nat}, k < l.length → l[k]? = some (nthOp l k)
 | _ :: _, 0, _ => rfl
 | _ :: l, k + 1, h => by rw [List.getElem?_cons_succ]; exact nthOp_get (l := l) (k := k) (by simpa using h)
 | [], _, h => by simp at h

/-- The walk. -/
def wpMix (P : Program) (ops : Array Oper) (S : World → Prop) (Q : Exit → Act → World → Prop) (tail : List Oper) : List (Oper × Bool) → Act → World → Prop
 | [], a, w => wpList P ops (NP Q) tail a w
 | (o, true) :: r, a, w => wpQuiet P ops S (fun a' => wpMix P ops S Q tail r a' w) [o] a
 | (o, false) :: r, a, w => wpList P ops (One Q fun a' w' => S w' ∧ wpMix P ops S Q tail r a' w') [o] a w
theorem wp_exits {o : Oper} {a : Act} {K : Act → World → Prop} {Q1 Q2 : Exit → Act → World → Prop} {w : World} (hp : ∀ c a w, Q1 (.panic c) a w → Q2 (.panic c) a w) (ho : LetsOut Q1 → LetsOut Q2) (h : o.wp P a w K Q1) : o.wp P a w K Q2 := by
 unfold Oper.wp at *
 generalize (execOp a.eval o).run P w = r at *
 cases r with
 | ok n w' =>
  cases n <;> simp only [Oper.upon] at h ⊢ <;> first | exact h | skip
  exact h.mono fun e w'' he => by
   cases e with
   | returned u => exact he
   | panicked c => exact hp _ _ _ he
   | outgrown => exact ho he
 | halt x w' =>
  cases x <;> simp only [Oper.upon] at h ⊢ <;> first | exact h | exact hp _ _ _ h
theorem wpOp_of_one {k : Nat} {o : Oper} {a : Act} {w : World} {K : Act → World → Prop} (hk : ops[k]? = some o) (h : wpList P ops (One Q K) [o] a w) : wpOp P ops (NP Q) k K a w := by
 unfold wpOp
 simp only [hk]
 unfold wpList at h
 split
 ·rename_i hw
  rw [if_pos hw] at h
  rcases h with h | ⟨h1, h2⟩
  ·exact .inl (wp_exits (fun _ _ _ h => h.elim) (fun ⟨a', w', h'⟩ => ⟨a', w', h'⟩) h)
  ·exact .inr ⟨h1, let ⟨a', w', h'⟩ := h2; ⟨a', w', h'⟩⟩
 ·rename_i hw
  rw [if_neg hw] at h
  exact h

theorem headW_mix {n : Nat} {l : List Oper} (hsel : Region.noSelect l.toArray = true) (hs : Region.sinkB md l.toArray n = true) (hc : Region.chainB md l.toArray n = true) (hn : n < l.length) (tail : List Oper) :
    ∀ (r : List (Nat × Bool)) (li : Array Bool) (a : Act) (w : World), HeadInv md l.toArray n li → S w → mixB md l.toArray n r li = true → wpMix P l.toArray S Q tail (orderOps l r) a w →
     headW P md l.toArray Q S n (fun li' a' w' => Region.seqB md l.toArray (l.toArray.size - n) n li' = true ∧ wpList P l.toArray (NP Q) tail a' w') r.length li a w
 | [], li, a, w, inv, _, hB, h => ⟨hB, h⟩
 | (k, t) :: r, li, a, w, inv, hS, hB, h => by
  simp only [mixB, Bool.and_eq_true, decide_eq_true_eq] at hB
  obtain ⟨⟨hkn, hk⟩, hB'⟩ := hB
  have h0 : l.toArray[k]? = some (nthOp l k) := by simpa using nthOp_get (by omega : k < l.length)
  cases t with
  | true =>
   simp only [if_true, Bool.and_eq_true] at hk
   obtain ⟨⟨hr, hf⟩, hp⟩ := hk
   rw [h0] at hp
   have hr' : k ∈ Region.ready md l.toArray li := by simpa using hr
   have hq : wpQuiet P l.toArray S (fun a' => wpMix P l.toArray S Q tail (orderOps l r) a' w) [nthOp l k] a := h
   obtain ⟨v, hy, hK⟩ : ∃ v, YieldsIf P l.toArray S (nthOp l k) v a ∧ wpMix P l.toArray S Q tail (orderOps l r) (a.put (nthOp l k).dst v) w := by
    unfold wpQuiet at hq
    split at hq
    ·rename_i hw
     exact yieldsIf_of_quiet (by simpa using hp) hw hq ⟨w, hS⟩
    ·rename_i hw
     exact ⟨undef, .inr ⟨by simpa using hw, rfl⟩, hq⟩
   exact headW_take h0 (Region.noSelect_spec hsel) hs hc (by simpa using hn) hkn (fun _ _ _ hL => seqB_ready hL.1) _ li a w inv (Region.free_spec h0 hf) hr' hy hS
    (headW_mix hsel hs hc hn tail r _ _ w (inv.set hr' hkn) hS hB' hK)
  | false =>
   simp only [Bool.false_eq_true, if_false, decide_eq_true_eq] at hk
   have hr' : k ∈ Region.ready md l.toArray li := by rw [hk]; simp
   refine ⟨List.ne_nil_of_mem hr', fun i hi => ?_⟩
   rw [hk] at hi
   obtain rfl : i = k := by simpa using hi
   exact ⟨hkn, wpOp_mono (fun a' w' h' => ⟨h'.1, headW_mix hsel hs hc hn tail r _ a' w' (inv.set hr' hkn) h'.1 hB' h'.2⟩) (wpOp_of_one h0 h)⟩

end
end Go.Proofs.YtgjmfdhgeahdcaaGreat

set_option linter.unusedVariables false
set_option linter.unusedSimpArgs false
namespace Go.Proofs.YtgjmfdhgeahdcaaGreat
open Go Go.RowKit

/-- A class of worlds by a fact: a carrier that simp does not take apart. -/
structure KW (F : World → Prop) where
 w : World
 ok : F w
theorem KW.mk' {F : World → Prop} {w : World} (h : F w) : ∃ x : KW F, w = x.w := ⟨⟨w, h⟩, rfl⟩

inductive Ord where
 | done
 | take (k : Nat) (r : Ord)
 | one (k : Nat) (r : Ord)
 | two (k1 : Nat) (r1 : Ord) (k2 : Nat) (r2 : Ord)
 | three (k1 : Nat) (r1 : Ord) (k2 : Nat) (r2 : Ord) (k3 : Nat) (r3 : Ord)

section
variable {P : Program} {ops : Array Oper} {md : Region.Mode} {S : World → Prop} {Q : Exit → Act → World → Prop}

def treeB (md : Region.Mode) (ops : Array Oper) (n : Nat) : Nat → Ord → Array Bool → Bool
 | 0, .done, li => Region.seqB md ops (ops.size - n) n li
 | f + 1, .take k r, li => decide (k < n) && ((Region.ready md ops li).contains k && Region.free md ops li k && ((ops[k]?).map fun o => plainOp o.op).getD false) && treeB md ops n f r (li.setIfInBounds k true)
 | f + 1, .one k r, li => decide (k < n) && decide (Region.ready md ops li = [k]) && treeB md ops n f r (li.setIfInBounds k true)
 | f + 1, .two k1 r1 k2 r2, li => decide (k1 < n) && decide (k2 < n) && decide (Region.ready md ops li = [k1, k2]) && (treeB md ops n f r1 (li.setIfInBounds k1 true) && treeB md ops n f r2 (li.setIfInBounds k2 true))
 | f + 1, .three k1 r1 k2 r2 k3 r3, li => decide (k1 < n) && decide (k2 < n) && decide (k3 < n) && decide (Region.ready md ops li = [k1, k2, k3]) && (treeB md ops n f r1 (li.setIfInBounds k1 true) && treeB md ops n f r2 (li.setIfInBounds k2 true) && treeB md ops n f r3 (li.setIfInBounds k3 true))
 | _, _, _ => false

/-- The walk. -/
def wpTree (P : Program) (l : List Oper) (S : World → Prop) (Q : Exit → Act → World → Prop) (n : Nat) : Ord → Act → World → Prop
 | .done, a, w => wpList P l.toArray (NP Q) (l.drop n) a w
 | .take k r, a, w => wpQuiet P l.toArray S (fun a' => wpTree P l S Q n r a' w) [nthOp l k] a
 | .one k r, a, w => wpList P l.toArray (One Q fun a' w' => S w' ∧ wpTree P l S Q n r a' w') [nthOp l k] a w
 | .two k1 r1 k2 r2, a, w => wpList P l.toArray (One Q fun a' w' => S w' ∧ wpTree P l S Q n r1 a' w') [nthOp l k1] a w ∧ wpList P l.toArray (One Q fun a' w' => S w' ∧ wpTree P l S Q n r2 a' w') [nthOp l k2] a w
 | .three k1 r1 k2 r2 k3 r3, a, w => wpList P l.toArray (One Q fun a' w' => S w' ∧ wpTree P l S Q n r1 a' w') [nthOp l k1] a w ∧ wpList P l.toArray (One Q fun a' w' => S w' ∧ wpTree P l S Q n r2 a' w') [nthOp l k2] a w ∧ wpList P l.toArray (One Q fun a' w' => S w' ∧ wpTree P l S Q n r3 a' w') [nthOp l k3] a w
theorem wpTree_take {l : List Oper} {n k : Nat} {r : Ord} {a : Act} {w : World} (h : wpQuiet P l.toArray S (fun a' => wpTree P l S Q n r a' w) [nthOp l k] a) : wpTree P l S Q n (.take k r) a w := h
theorem wpTree_one {l : List Oper} {n k : Nat} {r : Ord} {a : Act} {w : World} (h : wpList P l.toArray (One Q fun a' w' => S w' ∧ wpTree P l S Q n r a' w') [nthOp l k] a w) : wpTree P l S Q n (.one k r) a w := h
theorem wpTree_two {l : List Oper} {n k1 k2 : Nat} {r1 r2 : Ord} {a : Act} {w : World} (h1 : wpList P l.toArray (One Q fun a' w' => S w' ∧ wpTree P l S Q n r1 a' w') [nthOp l k1] a w) (h2 : wpList P l.toArray (One Q fun a' w' => S w' ∧ wpTree P l S Q n r2 a' w') [nthOp l k2] a w) : wpTree P l S Q n (.two k1 r1 k2 r2) a w := ⟨h1, h2⟩
theorem wpTree_done {l : List Oper} {n : Nat} {a : Act} {w : World} (h : wpList P l.toArray (NP Q) (l.drop n) a w) : wpTree P l S Q n .done a w := h

theorem headW_tree {n : Nat} {l : List Oper} (hsel : Region.noSelect l.toArray = true) (hs : Region.sinkB md l.toArray n = true) (hc : Region.chainB md l.toArray n = true) (hn : n < l.length) :
    ∀ (f : Nat) (r : Ord) (li : Array Bool) (a : Act) (w : World), HeadInv md l.toArray n li → S w → treeB md l.toArray n f r li = true → wpTree P l S Q n r a w →
     headW P md l.toArray Q S n (fun li' a' w' => Region.seqB md l.toArray (l.toArray.size - n) n li' = true ∧ wpList P l.toArray (NP Q) (l.drop n) a' w') f li a w
 | 0, .done, li, a, w, inv, _, hB, h => ⟨hB, h⟩
 | 0, .take _ _, _, _, _, _, _, hB, _ => by simp [treeB] at hB
 | 0, .one _ _, _, _, _, _, _, hB, _ => by simp [treeB] at hB
 | 0, .two _ _ _ _, _, _, _, _, _, hB, _ => by simp [treeB] at hB
 | 0, .three _ _ _ _ _ _, _, _, _, _, _, hB, _ => by simp [treeB] at hB
 | _ + 1, .done, _, _, _, _, _, hB, _ => by simp [treeB] at hB
 | f + 1, .take k r, li, a, w, inv, hS, hB, h => by
  simp only [treeB, Bool.and_eq_true, decide_eq_true_eq] at hB
  obtain ⟨⟨hkn, ⟨hr, hf⟩, hp⟩, hB'⟩ := hB
  have h0 : l.toArray[k]? = some (nthOp l k) := by simpa using nthOp_get (by omega : k < l.length)
  rw [h0] at hp
  have hr' : k ∈ Region.ready md l.toArray li := by simpa using hr
  have hq : wpQuiet P l.toArray S (fun a' => wpTree P l S Q n r a' w) [nthOp l k] a := h
  obtain ⟨v, hy, hK⟩ : ∃ v, YieldsIf P l.toArray S (nthOp l k) v a ∧ wpTree P l S Q n r (a.put (nthOp l k).dst v) w := by
   unfold wpQuiet at hq
   split at hq
   ·rename_i hw
    exact yieldsIf_of_quiet (by simpa using hp) hw hq ⟨w, hS⟩
   ·rename_i hw
    exact ⟨undef, .inr ⟨by simpa using hw, rfl⟩, hq⟩
  exact headW_take h0 (Region.noSelect_spec hsel) hs hc (by simpa using hn) hkn (fun _ _ _ hL => seqB_ready hL.1) _ li a w inv (Region.free_spec h0 hf) hr' hy hS
   (headW_tree hsel hs hc hn f r _ _ w (inv.set hr' hkn) hS hB' hK)
 | f + 1, .one k r, li, a, w, inv, hS, hB, h => by
  simp only [treeB, Bool.and_eq_true, decide_eq_true_eq] at hB
  obtain ⟨⟨hkn, hk⟩, hB'⟩ := hB
  have h0 : l.toArray[k]? = some (nthOp l k) := by simpa using nthOp_get (by omega : k < l.length)
  have hr' : k ∈ Region.ready md l.toArray li := by rw [hk]; simp
  refine ⟨List.ne_nil_of_mem hr', fun i hi => ?_⟩
  rw [hk] at hi
  obtain rfl : i = k := by simpa using hi
  exact ⟨hkn, wpOp_mono (fun a' w' h' => ⟨h'.1, headW_tree hsel hs hc hn f r _ a' w' (inv.set hr' hkn) h'.1 hB' h'.2⟩) (wpOp_of_one h0 h)⟩
 | f + 1, .two k1 r1 k2 r2, li, a, w, inv, hS, hB, h => by
  simp only [treeB, Bool.and_eq_true, decide_eq_true_eq] at hB
  obtain ⟨⟨⟨hk1, hk2⟩, hk⟩, hB1, hB2⟩ := hB
  obtain ⟨h1, h2⟩ := h
  have g1 : l.toArray[k1]? = some (nthOp l k1) := by simpa using nthOp_get (by omega : k1 < l.length)
  have g2 : l.toArray[k2]? = some (nthOp l k2) := by simpa using nthOp_get (by omega : k2 < l.length)
  have hr1 : k1 ∈ Region.ready md l.toArray li := by rw [hk]; simp
  have hr2 : k2 ∈ Region.ready md l.toArray li := by rw [hk]; simp
  refine ⟨List.ne_nil_of_mem hr1, fun i hi => ?_⟩
  rw [hk] at hi
  rcases (by simpa using hi : i = k1 ∨ i = k2) with rfl | rfl
  ·exact ⟨hk1, wpOp_mono (fun a' w' h' => ⟨h'.1, headW_tree hsel hs hc hn f r1 _ a' w' (inv.set hr1 hk1) h'.1 hB1 h'.2⟩) (wpOp_of_one g1 h1)⟩
  ·exact ⟨hk2, wpOp_mono (fun a' w' h' => ⟨h'.1, headW_tree hsel hs hc hn f r2 _ a' w' (inv.set hr2 hk2) h'.1 hB2 h'.2⟩) (wpOp_of_one g2 h2)⟩
 | f + 1, .three k1 r1 k2 r2 k3 r3, li, a, w, inv, hS, hB, h => by
  simp only [treeB, Bool.and_eq_true, decide_eq_true_eq] at hB
  obtain ⟨⟨⟨⟨hk1, hk2⟩, hk3⟩, hk⟩, ⟨hB1, hB2⟩, hB3⟩ := hB
  obtain ⟨h1, h2, h3⟩ := h
  have g1 : l.toArray[k1]? = some (nthOp l k1) := by simpa using nthOp_get (by omega : k1 < l.length)
  have g2 : l.toArray[k2]? = some (nthOp l k2) := by simpa using nthOp_get (by omega : k2 < l.length)
  have g3 : l.toArray[k3]? = some (nthOp l k3) := by simpa using nthOp_get (by omega : k3 < l.length)
  have hr1 : k1 ∈ Region.ready md l.toArray li := by rw [hk]; simp
  have hr2 : k2 ∈ Region.ready md l.toArray li := by rw [hk]; simp
  have hr3 : k3 ∈ Region.ready md l.toArray li := by rw [hk]; simp
  refine ⟨List.ne_nil_of_mem hr1, fun i hi => ?_⟩
  rw [hk] at hi
  rcases (by simpa using hi : i = k1 ∨ i = k2 ∨ i = k3) with rfl | rfl | rfl
  ·exact ⟨hk1, wpOp_mono (fun a' w' h' => ⟨h'.1, headW_tree hsel hs hc hn f r1 _ a' w' (inv.set hr1 hk1) h'.1 hB1 h'.2⟩) (wpOp_of_one g1 h1)⟩
  ·exact ⟨hk2, wpOp_mono (fun a' w' h' => ⟨h'.1, headW_tree hsel hs hc hn f r2 _ a' w' (inv.set hr2 hk2) h'.1 hB2 h'.2⟩) (wpOp_of_one g2 h2)⟩
  ·exact ⟨hk3, wpOp_mono (fun a' w' h' => ⟨h'.1, headW_tree hsel hs hc hn f r3 _ a' w' (inv.set hr3 hk3) h'.1 hB3 h'.2⟩) (wpOp_of_one g3 h3)⟩

def treeOk (l : List Oper) (n : Nat) (r : Ord) : Bool :=
 Region.noSelect l.toArray && decide (n < l.length) && Region.sinkB .any l.toArray n && Region.chainB .any l.toArray n && treeB .any l.toArray n n r (Array.replicate l.length false)

/-- **THE RULE.** S: the class; n: the first of the last operations; r: the tree of the walk ahead of them. -/
theorem wp_region_tree {id : Nat} {a : Act} {w : World} {l : List Oper} (S : World → Prop) (n : Nat) (r : Ord) (hm : P.follows .mixedOrders = true) (hB : treeOk l n r = true) (hS : S w.drew)
    (h : wpTree P l S Q n r a w.drew) : (Code.region id l.toArray true).wp P Q a w := by
 simp only [treeOk, Bool.and_eq_true, decide_eq_true_eq] at hB
 obtain ⟨⟨⟨⟨hsel, hn⟩, hs⟩, hc⟩, hmix⟩ := hB
 have hdl : (l.drop n).length = l.toArray.size - n := by simp
 have inv0 : HeadInv .any l.toArray n (Array.replicate l.length false) :=
  ⟨by simp, fun j oj _ hl => (by rw [getD_replicate_false] at hl; cases hl), fun t _ ht => getD_in (by simpa using ht) (getD_replicate_false _ _)⟩
 have H := headW_tree (P := P) (Q := Q) hsel hs hc hn n r _ a w.drew inv0 hS hmix h
 have := any_of_headW (g := l.toArray.size - n) (fun li a' w' hL => by
  have := wpAny_of_seq (md := .any) (Q' := NP Q) (l.drop n) n li a' w' (fun j => by simp [List.getElem?_drop]) (by rw [hdl]; exact hL.1) hL.2
  rwa [hdl] at this) _ _ _ _ H
 rw [show n + (l.toArray.size - n) = l.toArray.size by simp; omega] at this
 refine Code.wp_mono NP.imp (wp_region_any hm ?_)
 simpa using this
end
end Go.Proofs.YtgjmfdhgeahdcaaGreat

set_option linter.unusedVariables false
set_option linter.unusedSimpArgs false
namespace Go.Proofs.YtgjmfdhgeahdcaaGreat
open Go Go.RowKit

/-- The class of an operation: all worlds, if none is named. -/
def clsAt : List (Nat × (World → Prop)) → Nat → World → Prop
 | [], _ => fun _ => True
 | (i, F) :: r, k => bif i == k then F else clsAt r k
@[simp, go_sem] theorem clsAt_nil (k : Nat) (w : World) : clsAt [] k w = True := rfl
@[simp, go_sem] theorem clsAt_cons (i k : Nat) (F : World → Prop) (r : List (Nat × (World → Prop))) (w : World) : clsAt ((i, F) :: r) k w = (bif i == k then F w else clsAt r k w) := by
 simp only [clsAt]
 cases i == k <;> rfl
section
variable {P : Program} {ops : Array Oper} {md : Region.Mode} {Q : Exit → Act → World → Prop}

section
variable {l : List Oper} {n k : Nat} {cls : List (Nat × (World → Prop))} {a : Act} {w : World}
end

end
end Go.Proofs.YtgjmfdhgeahdcaaGreat
/- Rows that the call itself made, each held by a cell of its own: what an append, a store or new memory leaves of them. -/
set_option linter.unusedVariables false
set_option linter.unusedSimpArgs false
namespace Go.Proofs.YtgjmfdhgeahdcaaGreat
open Go Go.RowKit

theorem cell_set_ne {w : World} {a b : Addr} {u : Value} (h : a ≠ b) (ha : a.spot = none) (hb : b.spot = none) : (w.setCell a u).cell? b = w.cell? b := by
 obtain ⟨ab, ao, asp⟩ := a
 obtain ⟨bb, bo, bsp⟩ := b
 simp only at ha hb
 subst ha hb
 unfold World.cell? World.setCell
 simp only [Array.getElem?_modify]
 by_cases he : ab = bb
 ·subst he
  have hne : ao ≠ bo := fun e => h (by rw [e])
  rw [if_pos rfl]
  cases hw : w.heap[ab]? with
  | none => simp
  | some o =>
   cases o <;> simp [Array.getElem?_setIfInBounds, hne]
 ·rw [if_neg he]
theorem cell_set_same {w : World} {a : Addr} {u : Value} (h : (w.cell? a).isSome = true) : (w.setCell a u).cell? a = some u := by
 unfold World.cell? at h ⊢
 unfold World.setCell
 simp only [Array.getElem?_modify, if_true]
 cases hw : w.heap[a.block]? with
 | none => simp [hw] at h
 | some o =>
  cases o with
  | cells c t f =>
   simp only [hw] at h
   simp only [Option.map_some]
   split at h
   ·simp at h
   ·rename_i hs
    simp only [hs, if_false, Bool.false_eq_true]
    rw [Array.getElem?_setIfInBounds]
    have : a.off < c.size := by
     rcases Nat.lt_or_ge a.off c.size with h' | h'
     ·exact h'
     ·rw [Array.getElem?_eq_none h'] at h; simp at h
    simp [this]
  | _ => simp [hw] at h
theorem frozen_set {w : World} {a b : Addr} {u : Value} : (w.setCell a u).frozen? b = w.frozen? b := by
 unfold World.frozen? World.setCell
 simp only [Array.getElem?_modify]
 by_cases he : a.block = b.block
 ·rw [if_pos he]
  cases hw : w.heap[b.block]? with
  | none => simp
  | some o => cases o <;> simp
 ·rw [if_neg he]
theorem size_set {w : World} {a : Addr} {u : Value} : (w.setCell a u).heap.size = w.heap.size := by simp [World.setCell]
theorem grownBy_set {w : World} {a : Addr} {u : Value} : w.grownBy (w.setCell a u) (some a.block) :=
 ⟨rfl, rfl, rfl, by rw [size_set]; exact Nat.le_refl _, fun k _ hk => Below.heap_setCell _ _ _ _ (fun e => hk (by rw [e]))⟩
section
variable {P : Program} (w : World)
/-- The append to a row of the call's own, with the place of the new row. -/
theorem run_append_here (base : Nat) (t ty e : TypeId) (i : TypeInfo) (z : Value) (size bytes : Nat) (ht : P.underlying t = some (.slice e)) (hi : P.info? e = some i) (hz : i.zero = some z)
    (hsize : i.size = size) (hby : i.bytes = bytes) (hzs : z.cells.size = size) (hsz : 0 < size)
    (v : Value) (n : Nat) (xs : List Value) (hown : w.ownsRow base e size v n xs)
    (a : Addr) (m c : Nat) (news : List Value) (hl : news.length = m * size) (hnews : ∀ j u, news[j]? = some u → w.cell? (a.add j) = some u) (h1 : ∀ u ∈ news, u.oneCell' = true) (hm : 0 < m)
    (h63 : n + m ≤ maxLen) (hbytes : (n + m) * bytes ≤ 140737488355328) (hbase : base ≤ w.heap.size) :
    ∃ v' w', (Builtin.append_ #[t, t] ty #[v, .slice (some a) m c]).run P w = .ok v' w' ∧ w'.ownsRow base e size v' (n + m) (xs ++ news) ∧ w.grownBy w' v.ownBlock ∧
     (v'.ownBlock = v.ownBlock ∨ v'.ownBlock = some w.heap.size) := by
 obtain ⟨v', w', hr, h2, h3, h4⟩ := run_append_own (P := P) w base t ty e i z size bytes ht hi hz hsize hby hzs hsz v n xs hown a m c news hl hnews h1 h63 hbytes hbase
 refine ⟨v', w', hr, h2, h3, ?_⟩
 subst hsize
 subst hby
 rcases hown.2 with ⟨rfl, rfl⟩ | ⟨g, cap, cur, rfl, hbg, hg, hnc, hcm, hcs, htake⟩
 ·have hr' := run_append_nil (P := P) w t ty e i z ht hi hz a m c news hl hnews hm (by simp only [maxLen] at h63; omega) (by simp only [Nat.zero_add] at hbytes; omega)
  rw [hr'] at hr
  injection hr with e1 e2
  rw [← e1]; exact .inr rfl
 ·by_cases hroom : n + m ≤ cap
  ·have hfit : n * i.size + news.length ≤ cur.size := by rw [hl, hcs, ← Nat.add_mul]; exact Nat.mul_le_mul_right _ hroom
   have hr' := run_append_room (P := P) w t ty e i ht hi g n cap cur hg a m c news hl hnews h1 hroom hfit
   rw [hr'] at hr
   injection hr with e1 e2
   rw [← e1]; exact .inl rfl
  ·have holds : ∀ j u, xs[j]? = some u → w.cell? ((⟨g, 0, none⟩ : Addr).add j) = some u := hown.cells (g := g) rfl
   have hr' := run_append_grow (P := P) w t ty e i z ht hi hz ⟨g, 0, none⟩ n cap xs hown.1 holds a m c news hl hnews (by omega) (by simp only [maxLen] at h63; omega) (growslice_fits (by omega) hbytes)
   rw [hr'] at hr
   injection hr with e1 e2
   rw [← e1]; exact .inr rfl
theorem wp_append_here {o : Oper} {a : Act} {K : Act → World → Prop} {Q : Exit → Act → World → Prop} (s x : Operand) (t : TypeId)
    (ho : o.op = .call { callee := .builtin .append, args := #[s, x], argTypes := #[t, t] })
    (base : Nat) (e : TypeId) (i : TypeInfo) (z : Value) (size bytes : Nat) (ht : P.underlying t = some (.slice e)) (hi : P.info? e = some i) (hz : i.zero = some z)
    (hsize : i.size = size) (hby : i.bytes = bytes) (hzs : z.cells.size = size) (hsz : 0 < size)
    (v : Value) (n : Nat) (xs : List Value) (hs : a.eval s = v) (hown : w.ownsRow base e size v n xs)
    (ad : Addr) (m c : Nat) (news : List Value) (hx : a.eval x = .slice (some ad) m c) (hl : news.length = m * size) (hnews : ∀ j u, news[j]? = some u → w.cell? (ad.add j) = some u) (h1 : ∀ u ∈ news, u.oneCell' = true) (hm : 0 < m)
    (h63 : n + m ≤ maxLen) (hbytes : (n + m) * bytes ≤ 140737488355328) (hbase : base ≤ w.heap.size)
    (h : ∀ v' w', w'.ownsRow base e size v' (n + m) (xs ++ news) → w.grownBy w' v.ownBlock → (v'.ownBlock = v.ownBlock ∨ v'.ownBlock = some w.heap.size) → K (a.put o.dst v') w') : o.wp P a w K Q := by
 obtain ⟨v', w', hr, h2, h3, h4⟩ := run_append_here (P := P) w base t o.type e i z size bytes ht hi hz hsize hby hzs hsz v n xs hown ad m c news hl hnews h1 hm h63 hbytes hbase
 unfold Oper.wp execOp
 simp only [ho, resolve, invoke, builtin, Sem.run_bind, Sem.run_pure, Result.andThen_ok, List.map_toArray, List.map_cons, List.map_nil, hs, hx, hr]
 exact h v' w' h2 h3 h4
theorem wpList_append_here {ops : Array Oper} {rest : List Oper} {o : Oper} {a : Act} {Q : Exit → Act → World → Prop} (hgd : o.guard = none) (s x : Operand) (t : TypeId)
    (ho : o.op = .call { callee := .builtin .append, args := #[s, x], argTypes := #[t, t] })
    (base : Nat) (e : TypeId) (i : TypeInfo) (z : Value) (size bytes : Nat) (ht : P.underlying t = some (.slice e)) (hi : P.info? e = some i) (hz : i.zero = some z)
    (hsize : i.size = size) (hby : i.bytes = bytes) (hzs : z.cells.size = size) (hsz : 0 < size)
    (v : Value) (n : Nat) (xs : List Value) (hs : a.eval s = v) (hown : w.ownsRow base e size v n xs)
    (ad : Addr) (m c : Nat) (news : List Value) (hx : a.eval x = .slice (some ad) m c) (hl : news.length = m * size) (hnews : ∀ j u, news[j]? = some u → w.cell? (ad.add j) = some u) (h1 : ∀ u ∈ news, u.oneCell' = true) (hm : 0 < m)
    (h63 : n + m ≤ maxLen) (hbytes : (n + m) * bytes ≤ 140737488355328) (hbase : base ≤ w.heap.size)
    (h : ∀ v' w', w'.ownsRow base e size v' (n + m) (xs ++ news) → w.grownBy w' v.ownBlock → (v'.ownBlock = v.ownBlock ∨ v'.ownBlock = some w.heap.size) → wpList P ops Q rest (a.put o.dst v') w') : wpList P ops Q (o :: rest) a w :=
 wpList_plain hgd fun _ hK => wp_append_here w s x t ho base e i z size bytes ht hi hz hsize hby hzs hsz v n xs hs hown ad m c news hx hl hnews h1 hm h63 hbytes hbase fun v' w' h2 h3 h4 => hK _ _ (h v' w' h2 h3 h4)
end

structure Slot where
 a : Option Addr
 e : TypeId
 k : Nat
 xs : List Value

section
variable {w w' : World} {base : Nat} {L : List Slot} {V : Nat → Value} {St : Addr → Value → Prop}

end

section
variable {w w' : World} {base : Nat} {L : List Slot} {St : Addr → Value → Prop}
end
end Go.Proofs.YtgjmfdhgeahdcaaGreat
/- A region that draws its order, walked by a tree, where calls that only make memory are taken first, as loads are; what is left (new cells, appends) comes in whatever order. -/
set_option linter.unusedVariables false
set_option linter.unusedSimpArgs false
namespace Go.Proofs.YtgjmfdhgeahdcaaGreat
open Go Go.RowKit

theorem grew_self (w : World) : grew w ⟨#[], w.drawn⟩ = w := by unfold grew; simp only [Array.append_empty]

section
variable {P : Program} {ops : Array Oper} {md : Region.Mode} {S : World → Prop} {Q : Exit → Act → World → Prop}

def OutOf (a : Act) : Option Tmp → Prop
 | some d => a.tmps.size ≤ d
 | none => True
theorem put_same {a : Act} {d : Option Tmp} {v v' : Value} (h : v' = v ∨ OutOf a d) : a.put d v' = a.put d v := by
 rcases h with rfl | h
 ·rfl
 ·cases d with
  | none => rfl
  | some d => unfold Act.put; simp only; rw [Array.setIfInBounds_eq_of_size_le h, Array.setIfInBounds_eq_of_size_le h]
theorem size_put (a : Act) (d : Option Tmp) (v : Value) : (a.put d v).tmps.size = a.tmps.size := by cases d <;> simp [Act.put]
theorem OutOf.same {a a' : Act} {d : Option Tmp} (hz : a'.tmps.size = a.tmps.size) : OutOf a' d = OutOf a d := by cases d <;> simp [OutOf, hz]

/-- In every world of the class the operation yields this value, and at most makes memory. -/
def YieldsG (P : Program) (ops : Array Oper) (S : World → Prop) (o : Oper) (v : Value) (a : Act) : Prop :=
 (Region.wanted o (yielded ops a.tmps) = true ∧ ∀ w, S w → ∃ v', o.quietAt P a (fun w'' => ∃ g, w'' = grew w g) w v' ∧ (v' = v ∨ OutOf a o.dst)) ∨
 (Region.wanted o (yielded ops a.tmps) = false ∧ v = undef)

theorem YieldsG.of_same {o : Oper} {v : Value} {a a' : Act} (hy : YieldsG P ops S o v a) (he : execOp a'.eval o = execOp a.eval o)
    (hw : Region.wanted o (yielded ops a'.tmps) = Region.wanted o (yielded ops a.tmps)) (hz : a'.tmps.size = a.tmps.size) : YieldsG P ops S o v a' := by
 unfold YieldsG Oper.quietAt at *
 rw [he, hw, OutOf.same hz]
 exact hy

theorem YieldsG.wpOp {i : Nat} {o : Oper} {v : Value} {a : Act} (hi : ops[i]? = some o) (hy : YieldsG P ops S o v a)
    {K : Act → World → Prop} {w : World} (hS : S w) (h : ∀ g, K (a.put o.dst v) (grew w g)) : wpOp P ops Q i K a w := by
 unfold Go.wpOp
 simp only [hi]
 rcases hy with ⟨hw, hv⟩ | ⟨hw, rfl⟩
 ·simp only [hw, if_true]
  refine .inl ?_
  obtain ⟨v', h3, he⟩ := hv w hS
  have h0 : K (a.put o.dst v') w := by rw [put_same he]; have := h ⟨#[], w.drawn⟩; rwa [grew_self] at this
  unfold Oper.quietAt at h3
  unfold Oper.wp
  generalize (execOp a.eval o).run P w = r at *
  cases r with
  | ok n w' =>
   cases n <;> simp only [Oper.quietUpon] at h3 <;> simp only [Oper.upon]
   case value u =>
    obtain ⟨e1, e2⟩ := h3
    rw [e1, e2]; exact h0
   case skip =>
    obtain ⟨e1, e2⟩ := h3
    rw [e1, ← e2]; exact h0
   case enter f args =>
    obtain ⟨e1, hc⟩ := h3
    rw [e1]
    exact hc.mono fun e w'' ⟨he', g, hw''⟩ => by subst he'; subst hw''; show K (a.put o.dst v') _; rw [put_same he]; exact h g
  | halt x w' => simp only [Oper.quietUpon] at h3
 ·simp only [hw, Bool.false_eq_true, if_false]
  have := h ⟨#[], w.drawn⟩
  rwa [grew_self] at this

theorem wpOp_putG {j : Nat} {oi oj : Oper} {v : Value} (hj : ops[j]? = some oj) (hap : oi.apart ops oj = true)
    (hsi : ∀ cs b, oi.op ≠ .select cs b) (hsj : ∀ cs b, oj.op ≠ .select cs b)
    (hQ : ∀ c a w, Q (.panic c) (a.put oi.dst v) w → Q (.panic c) a w) {K : Act → World → Prop} {a : Act} {w : World}
    (hy : YieldsG P ops S oi v a) (h : wpOp P ops Q j K (a.put oi.dst v) w) :
    wpOp P ops Q j (fun a' w' => YieldsG P ops S oi v a' ∧ K (a'.put oi.dst v) w') a w := by
 obtain ⟨h1, h2, h3⟩ := Oper.apart_spec hap
 have keep : ∀ (a : Act), YieldsG P ops S oi v a → ∀ u, YieldsG P ops S oi v (a.put oj.dst u) := fun a hy u =>
  hy.of_same (execOp_put oi hsi a oj.dst u h3) (wanted_put oi a oj.dst u h3) (size_put _ _ _)
 have keepD : ∀ d, YieldsG P ops S oi v { a with defers := d :: a.defers } := fun d => hy.of_same rfl rfl rfl
 unfold wpOp at *
 simp only [hj] at *
 rw [wanted_put oj a oi.dst v h1] at h
 split
 ·rename_i hw
  simp only [hw, if_true] at h
  rcases h with h | ⟨hasks, hlets⟩
  case inr => exact .inr ⟨by unfold Oper.asks at *; rw [execOp_put oj hsj a oi.dst v h1] at hasks; exact hasks, hlets⟩
  refine .inl ?_
  unfold Oper.wp at *
  rw [execOp_put oj hsj a oi.dst v h1] at h
  generalize (execOp a.eval oj).run P w = r at *
  cases r with
  | ok n w' =>
   cases n <;> simp only [Oper.upon] at h ⊢
   case value u => exact ⟨keep a hy u, by rw [← Act.put_comm a v u h2]; exact h⟩
   case skip => exact ⟨keep a hy _, by rw [← Act.put_comm a v undef h2]; exact h⟩
   case defer d =>
    refine ⟨keep _ (keepD d) _, ?_⟩
    rw [← Act.put_comm _ v undef h2, ← Act.put_defers]
    exact h
   case enter f args =>
    refine Calls.mono h fun e w'' he => ?_
    cases e with
    | returned u => exact ⟨keep a hy u, by rw [← Act.put_comm a v u h2]; exact he⟩
    | panicked c => exact hQ _ _ _ he
    | outgrown => exact he
   case row row args => exact Rows.mono h fun u w'' he => ⟨keep a hy u, by rw [← Act.put_comm a v u h2]; exact he⟩
  | halt x w' =>
   cases x <;> simp only [Oper.upon] at h ⊢
   case panic u => exact hQ _ _ _ h
 ·rename_i hw
  simp only [hw] at h
  exact ⟨keep a hy _, by rw [← Act.put_comm a v undef h2]; exact h⟩

/-- So many operations of the head, in whatever order; ahead of each the world may have grown. -/
def headG (P : Program) (md : Region.Mode) (ops : Array Oper) (Q : Exit → Act → World → Prop) (S : World → Prop) (n : Nat) (L : Array Bool → Act → World → Prop) : Nat → Array Bool → Act → World → Prop
 | 0, li, a, w => ∀ g, L li a (grew w g)
 | f + 1, li, a, w => Region.ready md ops li ≠ [] ∧ ∀ i ∈ Region.ready md ops li, i < n ∧ ∀ g, wpOp P ops (NP Q) i (fun a' w' => S w' ∧ headG P md ops Q S n L f (li.setIfInBounds i true) a' w') a (grew w g)

theorem headG_mono {n : Nat} {L : Array Bool → Act → World → Prop} {f : Nat} {li : Array Bool} {a : Act} {w : World} (h : headG P md ops Q S n L f li a w) (g : Gr) : headG P md ops Q S n L f li a (grew w g) := by
 cases f with
 | zero => intro g'; rw [grew_grew]; exact h _
 | succ f => exact ⟨h.1, fun i hi => ⟨(h.2 i hi).1, fun g' => by rw [grew_grew]; exact (h.2 i hi).2 _⟩⟩

theorem any_of_headG {n g : Nat} {L : Array Bool → Act → World → Prop} (hL : ∀ li a w, L li a w → wpAny P md ops (NP Q) g li a w) (f : Nat) :
    ∀ (li : Array Bool) (a : Act) (w : World), headG P md ops Q S n L f li a w → wpAny P md ops (NP Q) (f + g) li a w := by
 induction f with
 | zero => intro li a w h; rw [Nat.zero_add]; have := h ⟨#[], w.drawn⟩; rw [grew_self] at this; exact hL _ _ _ this
 | succ f ih =>
  intro li a w h
  rw [Nat.add_right_comm]
  refine ⟨fun h0 => absurd h0 h.1, fun i hi => ?_⟩
  have := (h.2 i hi).2 ⟨#[], w.drawn⟩
  rw [grew_self] at this
  exact wpOp_mono (fun a' w' h' => ih _ a' w' h'.2) this

theorem headG_take {n i : Nat} {oi : Oper} {v : Value} {L : Array Bool → Act → World → Prop} (hcl : ∀ w g, S w → S (grew w g)) (hi : ops[i]? = some oi) (hsel : ∀ (j : Nat) (o : Oper) cs b, ops[j]? = some o → o.op ≠ .select cs b)
    (hs : Region.sinkB md ops n = true) (hc : Region.chainB md ops n = true) (hn : n < ops.size) (hin : i < n) (hdone : ∀ li a w, L li a w → ∀ j ∈ Region.ready md ops li, n ≤ j) (f : Nat) :
    ∀ (li : Array Bool) (a : Act) (w : World), HeadInv md ops n li →
     (∀ j oj, ops[j]? = some oj → j ≠ i → li.getD j true = false → (∀ e ∈ oj.after, Region.binds md e = true → e.on ≠ i) → oi.apart ops oj = true) →
     i ∈ Region.ready md ops li → YieldsG P ops S oi v a → S w → headG P md ops Q S n L f (li.setIfInBounds i true) (a.put oi.dst v) w → headG P md ops Q S n L (f + 1) li a w := by
 induction f with
 | zero =>
  intro li a w inv _ hr hy hS H
  have hlt := ready_head hs hc hn inv hin hr
  refine ⟨List.ne_nil_of_mem hr, fun j hj => ⟨hlt j hj, fun g => ?_⟩⟩
  rcases Nat.decEq j i with hji | rfl
  ·have := hdone _ _ _ (H g) j (ready_mono hj hji)
   have := hlt j hj
   omega
  ·exact hy.wpOp hi (hcl _ _ hS) fun g' => ⟨hcl _ _ (hcl _ _ hS), headG_mono (headG_mono H g) g'⟩
 | succ f ih =>
  intro li a w inv hap hr hy hS H
  have hlt := ready_head hs hc hn inv hin hr
  have hun := (mem_ready.1 hr).1
  refine ⟨List.ne_nil_of_mem hr, fun j hj => ⟨hlt j hj, fun g => ?_⟩⟩
  rcases Nat.decEq j i with hji | rfl
  ·obtain ⟨hjun, oj, hoj, hall⟩ := mem_ready.1 hj
   have hno : ∀ e ∈ oj.after, Region.binds md e = true → e.on ≠ i := fun e he hb heq => by
    have h1 := hall e he hb
    rw [heq, getD_both hun] at h1
    cases h1
   refine wpOp_mono (fun a' w' h3 => ⟨h3.2.1, ih _ a' w' (inv.set hj (hlt j hj)) (fun k ok hk hki hku hkn => hap k ok hk hki ?_ hkn) (ready_mono hr (Ne.symm hji)) h3.1 h3.2.1 ?_⟩)
    (wpOp_putG hoj (hap j oj hoj hji hjun hno) (fun cs b => hsel i oi cs b hi) (fun cs b => hsel j oj cs b hoj) (fun _ _ _ h => h) hy ((H.2 j (ready_mono hj hji)).2 g))
   ·rcases Nat.decEq j k with hjk | rfl
    ·rwa [getD_set_ne true hjk] at hku
    ·exact hjun
   ·rw [Array.setIfInBounds_comm _ _ hji]
    exact h3.2.2
  ·exact hy.wpOp hi (hcl _ _ hS) fun g' => ⟨hcl _ _ (hcl _ _ hS), headG_mono (headG_mono H g) g'⟩

theorem yieldsG_of_quiet {o : Oper} {a : Act} {K : Act → Prop} (hp : plainOp o.op = true) (hw : Region.wanted o (yielded ops a.tmps) = true) (h : o.quiet P a S K) :
    ∃ v, YieldsG P ops S o v a ∧ K (a.put o.dst v) := by
 obtain ⟨v, h1, h2⟩ := h
 refine ⟨v, .inl ⟨hw, fun w hS => ⟨v, ?_, .inl rfl⟩⟩, h2⟩
 have h3 := h1 w hS
 have h4 := plain_run (P := P) (ρ := a.eval) (w := w) hp
 unfold Oper.quietAt at h3 ⊢
 generalize (execOp a.eval o).run P w = r at *
 cases r with
 | ok n w' =>
  cases n <;> simp only at h4
  simp only [Oper.quietUpon] at h3 ⊢
  exact h3
 | halt x w' => simp [Oper.quietUpon] at h3
theorem put_cancel {a : Act} {d : Option Tmp} {v v' : Value} (h : a.put d v' = a.put d v) : v' = v ∨ OutOf a d := by
 cases d with
 | none => exact .inr trivial
 | some d =>
  rcases Nat.lt_or_ge d a.tmps.size with hd | hd
  ·left
   have h1 := congrArg (fun x => x.tmps[d]?) h
   simpa [Act.put, hd] using h1
  ·exact .inr hd
theorem yieldsG_of_call {o : Oper} {a a' : Act} {w0 : World} (hw0 : S w0) (hw : Region.wanted o (yielded ops a.tmps) = true) (h : ∀ w, S w → o.quiet P a (fun w'' => ∃ g, w'' = grew w g) (fun x => x = a')) :
    ∃ v, YieldsG P ops S o v a ∧ a.put o.dst v = a' := by
 obtain ⟨v, h1, h2⟩ := h w0 hw0
 refine ⟨v, .inl ⟨hw, fun w hS => ?_⟩, h2⟩
 obtain ⟨v', h1', h2'⟩ := h w hS
 exact ⟨v', h1' w ⟨⟨#[], w.drawn⟩, (grew_self w).symm⟩, put_cancel (h2'.trans h2.symm)⟩
end

inductive Gro where
 | done
 | take (k : Nat) (r : Gro)
 | call (k : Nat) (r : Gro)
 | one (k : Nat) (r : Gro)
 | two (k1 : Nat) (r1 : Gro) (k2 : Nat) (r2 : Gro)
 | three (k1 : Nat) (r1 : Gro) (k2 : Nat) (r2 : Gro) (k3 : Nat) (r3 : Gro)

section
variable {P : Program} {ops : Array Oper} {md : Region.Mode} {S : World → Prop} {Q : Exit → Act → World → Prop}

def groB (md : Region.Mode) (ops : Array Oper) (n : Nat) : Nat → Gro → Array Bool → Bool
 | 0, .done, li => Region.seqB md ops (ops.size - n) n li
 | f + 1, .take k r, li => decide (k < n) && ((Region.ready md ops li).contains k && Region.free md ops li k && ((ops[k]?).map fun o => plainOp o.op).getD false) && groB md ops n f r (li.setIfInBounds k true)
 | f + 1, .call k r, li => decide (k < n) && ((Region.ready md ops li).contains k && Region.free md ops li k) && groB md ops n f r (li.setIfInBounds k true)
 | f + 1, .one k r, li => decide (k < n) && decide (Region.ready md ops li = [k]) && groB md ops n f r (li.setIfInBounds k true)
 | f + 1, .two k1 r1 k2 r2, li => decide (k1 < n) && decide (k2 < n) && decide (Region.ready md ops li = [k1, k2]) && (groB md ops n f r1 (li.setIfInBounds k1 true) && groB md ops n f r2 (li.setIfInBounds k2 true))
 | f + 1, .three k1 r1 k2 r2 k3 r3, li => decide (k1 < n) && decide (k2 < n) && decide (k3 < n) && decide (Region.ready md ops li = [k1, k2, k3]) && (groB md ops n f r1 (li.setIfInBounds k1 true) && groB md ops n f r2 (li.setIfInBounds k2 true) && groB md ops n f r3 (li.setIfInBounds k3 true))
 | _, _, _ => false

/-- The walk. -/
def wpGro (P : Program) (l : List Oper) (S : World → Prop) (Q : Exit → Act → World → Prop) (n : Nat) : Gro → Act → World → Prop
 | .done, a, w => ∀ g, wpList P l.toArray (NP Q) (l.drop n) a (grew w g)
 | .take k r, a, w => wpQuiet P l.toArray S (fun a' => wpGro P l S Q n r a' w) [nthOp l k] a
 | .call k r, a, w => ∃ a', (∀ w1, S w1 → wpQuiet P l.toArray (fun w'' => ∃ g, w'' = grew w1 g) (fun x => x = a') [nthOp l k] a) ∧ wpGro P l S Q n r a' w
 | .one k r, a, w => ∀ g, wpList P l.toArray (One Q fun a' w' => S w' ∧ wpGro P l S Q n r a' w') [nthOp l k] a (grew w g)
 | .two k1 r1 k2 r2, a, w => ∀ g, wpList P l.toArray (One Q fun a' w' => S w' ∧ wpGro P l S Q n r1 a' w') [nthOp l k1] a (grew w g) ∧ wpList P l.toArray (One Q fun a' w' => S w' ∧ wpGro P l S Q n r2 a' w') [nthOp l k2] a (grew w g)
 | .three k1 r1 k2 r2 k3 r3, a, w => ∀ g, wpList P l.toArray (One Q fun a' w' => S w' ∧ wpGro P l S Q n r1 a' w') [nthOp l k1] a (grew w g) ∧ wpList P l.toArray (One Q fun a' w' => S w' ∧ wpGro P l S Q n r2 a' w') [nthOp l k2] a (grew w g) ∧ wpList P l.toArray (One Q fun a' w' => S w' ∧ wpGro P l S Q n r3 a' w') [nthOp l k3] a (grew w g)
theorem wpGro_take {l : List Oper} {n k : Nat} {r : Gro} {a : Act} {w : World} (h : wpQuiet P l.toArray S (fun a' => wpGro P l S Q n r a' w) [nthOp l k] a) : wpGro P l S Q n (.take k r) a w := h
theorem wpGro_call {l : List Oper} {n k : Nat} {r : Gro} {a a' : Act} {w : World} (h : ∀ w1, S w1 → wpQuiet P l.toArray (fun w'' => ∃ g, w'' = grew w1 g) (fun x => x = a') [nthOp l k] a) (hr : wpGro P l S Q n r a' w) : wpGro P l S Q n (.call k r) a w := ⟨a', h, hr⟩
theorem wpGro_one {l : List Oper} {n k : Nat} {r : Gro} {a : Act} {w : World} (h : ∀ w', Below w.heap.size w w' → wpList P l.toArray (One Q fun a' w' => S w' ∧ wpGro P l S Q n r a' w') [nthOp l k] a w') : wpGro P l S Q n (.one k r) a w := fun g => h _ (grew_below w g)
theorem wpGro_two {l : List Oper} {n k1 k2 : Nat} {r1 r2 : Gro} {a : Act} {w : World} (h1 : ∀ w', Below w.heap.size w w' → wpList P l.toArray (One Q fun a' w' => S w' ∧ wpGro P l S Q n r1 a' w') [nthOp l k1] a w') (h2 : ∀ w', Below w.heap.size w w' → wpList P l.toArray (One Q fun a' w' => S w' ∧ wpGro P l S Q n r2 a' w') [nthOp l k2] a w') : wpGro P l S Q n (.two k1 r1 k2 r2) a w := fun g => ⟨h1 _ (grew_below w g), h2 _ (grew_below w g)⟩
theorem wpGro_three {l : List Oper} {n k1 k2 k3 : Nat} {r1 r2 r3 : Gro} {a : Act} {w : World} (h1 : ∀ w', Below w.heap.size w w' → wpList P l.toArray (One Q fun a' w' => S w' ∧ wpGro P l S Q n r1 a' w') [nthOp l k1] a w') (h2 : ∀ w', Below w.heap.size w w' → wpList P l.toArray (One Q fun a' w' => S w' ∧ wpGro P l S Q n r2 a' w') [nthOp l k2] a w') (h3 : ∀ w', Below w.heap.size w w' → wpList P l.toArray (One Q fun a' w' => S w' ∧ wpGro P l S Q n r3 a' w') [nthOp l k3] a w') : wpGro P l S Q n (.three k1 r1 k2 r2 k3 r3) a w := fun g => ⟨h1 _ (grew_below w g), h2 _ (grew_below w g), h3 _ (grew_below w g)⟩
theorem wpGro_done {l : List Oper} {n : Nat} {a : Act} {w : World} (h : ∀ w', Below w.heap.size w w' → wpList P l.toArray (NP Q) (l.drop n) a w') : wpGro P l S Q n .done a w := fun g => h _ (grew_below w g)

theorem headG_gro {n : Nat} {l : List Oper} (hcl : ∀ w g, S w → S (grew w g)) (hsel : Region.noSelect l.toArray = true) (hs : Region.sinkB md l.toArray n = true) (hc : Region.chainB md l.toArray n = true) (hn : n < l.length) :
    ∀ (f : Nat) (r : Gro) (li : Array Bool) (a : Act) (w : World), HeadInv md l.toArray n li → S w → groB md l.toArray n f r li = true → wpGro P l S Q n r a w →
     headG P md l.toArray Q S n (fun li' a' w' => Region.seqB md l.toArray (l.toArray.size - n) n li' = true ∧ wpList P l.toArray (NP Q) (l.drop n) a' w') f li a w
 | 0, .done, li, a, w, inv, _, hB, h => fun g => ⟨hB, h g⟩
 | 0, .take _ _, _, _, _, _, _, hB, _ => by simp [groB] at hB
 | 0, .call _ _, _, _, _, _, _, hB, _ => by simp [groB] at hB
 | 0, .one _ _, _, _, _, _, _, hB, _ => by simp [groB] at hB
 | 0, .two _ _ _ _, _, _, _, _, _, hB, _ => by simp [groB] at hB
 | 0, .three _ _ _ _ _ _, _, _, _, _, _, hB, _ => by simp [groB] at hB
 | _ + 1, .done, _, _, _, _, _, hB, _ => by simp [groB] at hB
 | f + 1, .take k r, li, a, w, inv, hS, hB, h => by
  simp only [groB, Bool.and_eq_true, decide_eq_true_eq] at hB
  obtain ⟨⟨hkn, ⟨hr, hf⟩, hp⟩, hB'⟩ := hB
  have h0 : l.toArray[k]? = some (nthOp l k) := by simpa using nthOp_get (by omega : k < l.length)
  rw [h0] at hp
  have hr' : k ∈ Region.ready md l.toArray li := by simpa using hr
  have hq : wpQuiet P l.toArray S (fun a' => wpGro P l S Q n r a' w) [nthOp l k] a := h
  obtain ⟨v, hy, hK⟩ : ∃ v, YieldsG P l.toArray S (nthOp l k) v a ∧ wpGro P l S Q n r (a.put (nthOp l k).dst v) w := by
   unfold wpQuiet at hq
   split at hq
   ·rename_i hw
    exact yieldsG_of_quiet (by simpa using hp) hw hq
   ·rename_i hw
    exact ⟨undef, .inr ⟨by simpa using hw, rfl⟩, hq⟩
  exact headG_take hcl h0 (Region.noSelect_spec hsel) hs hc (by simpa using hn) hkn (fun _ _ _ hL => seqB_ready hL.1) _ li a w inv (Region.free_spec h0 hf) hr' hy hS
   (headG_gro hcl hsel hs hc hn f r _ _ w (inv.set hr' hkn) hS hB' hK)
 | f + 1, .call k r, li, a, w, inv, hS, hB, h => by
  simp only [groB, Bool.and_eq_true, decide_eq_true_eq] at hB
  obtain ⟨⟨hkn, hr, hf⟩, hB'⟩ := hB
  have h0 : l.toArray[k]? = some (nthOp l k) := by simpa using nthOp_get (by omega : k < l.length)
  have hr' : k ∈ Region.ready md l.toArray li := by simpa using hr
  obtain ⟨a', hq, hK⟩ := h
  obtain ⟨v, hy, rfl⟩ : ∃ v, YieldsG P l.toArray S (nthOp l k) v a ∧ a.put (nthOp l k).dst v = a' := by
   by_cases hw : Region.wanted (nthOp l k) (yielded l.toArray a.tmps) = true
   ·refine yieldsG_of_call hS hw fun w1 h1 => ?_
    have := hq w1 h1
    unfold wpQuiet at this
    rw [if_pos hw] at this
    exact this
   ·have := hq w hS
    unfold wpQuiet at this
    rw [if_neg hw] at this
    exact ⟨undef, .inr ⟨by simpa using hw, rfl⟩, this⟩
  exact headG_take hcl h0 (Region.noSelect_spec hsel) hs hc (by simpa using hn) hkn (fun _ _ _ hL => seqB_ready hL.1) _ li a w inv (Region.free_spec h0 hf) hr' hy hS
   (headG_gro hcl hsel hs hc hn f r _ _ w (inv.set hr' hkn) hS hB' hK)
 | f + 1, .one k r, li, a, w, inv, hS, hB, h => by
  simp only [groB, Bool.and_eq_true, decide_eq_true_eq] at hB
  obtain ⟨⟨hkn, hk⟩, hB'⟩ := hB
  have h0 : l.toArray[k]? = some (nthOp l k) := by simpa using nthOp_get (by omega : k < l.length)
  have hr' : k ∈ Region.ready md l.toArray li := by rw [hk]; simp
  refine ⟨List.ne_nil_of_mem hr', fun i hi => ?_⟩
  rw [hk] at hi
  obtain rfl : i = k := by simpa using hi
  exact ⟨hkn, fun g => wpOp_mono (fun a' w' h' => ⟨h'.1, headG_gro hcl hsel hs hc hn f r _ a' w' (inv.set hr' hkn) h'.1 hB' h'.2⟩) (wpOp_of_one h0 (h g))⟩
 | f + 1, .two k1 r1 k2 r2, li, a, w, inv, hS, hB, h => by
  simp only [groB, Bool.and_eq_true, decide_eq_true_eq] at hB
  obtain ⟨⟨⟨hk1, hk2⟩, hk⟩, hB1, hB2⟩ := hB
  have g1 : l.toArray[k1]? = some (nthOp l k1) := by simpa using nthOp_get (by omega : k1 < l.length)
  have g2 : l.toArray[k2]? = some (nthOp l k2) := by simpa using nthOp_get (by omega : k2 < l.length)
  have hr1 : k1 ∈ Region.ready md l.toArray li := by rw [hk]; simp
  have hr2 : k2 ∈ Region.ready md l.toArray li := by rw [hk]; simp
  refine ⟨List.ne_nil_of_mem hr1, fun i hi => ?_⟩
  rw [hk] at hi
  rcases (by simpa using hi : i = k1 ∨ i = k2) with rfl | rfl
  ·exact ⟨hk1, fun g => wpOp_mono (fun a' w' h' => ⟨h'.1, headG_gro hcl hsel hs hc hn f r1 _ a' w' (inv.set hr1 hk1) h'.1 hB1 h'.2⟩) (wpOp_of_one g1 (h g).1)⟩
  ·exact ⟨hk2, fun g => wpOp_mono (fun a' w' h' => ⟨h'.1, headG_gro hcl hsel hs hc hn f r2 _ a' w' (inv.set hr2 hk2) h'.1 hB2 h'.2⟩) (wpOp_of_one g2 (h g).2)⟩
 | f + 1, .three k1 r1 k2 r2 k3 r3, li, a, w, inv, hS, hB, h => by
  simp only [groB, Bool.and_eq_true, decide_eq_true_eq] at hB
  obtain ⟨⟨⟨⟨hk1, hk2⟩, hk3⟩, hk⟩, ⟨hB1, hB2⟩, hB3⟩ := hB
  have g1 : l.toArray[k1]? = some (nthOp l k1) := by simpa using nthOp_get (by omega : k1 < l.length)
  have g2 : l.toArray[k2]? = some (nthOp l k2) := by simpa using nthOp_get (by omega : k2 < l.length)
  have g3 : l.toArray[k3]? = some (nthOp l k3) := by simpa using nthOp_get (by omega : k3 < l.length)
  have hr1 : k1 ∈ Region.ready md l.toArray li := by rw [hk]; simp
  have hr2 : k2 ∈ Region.ready md l.toArray li := by rw [hk]; simp
  have hr3 : k3 ∈ Region.ready md l.toArray li := by rw [hk]; simp
  refine ⟨List.ne_nil_of_mem hr1, fun i hi => ?_⟩
  rw [hk] at hi
  rcases (by simpa using hi : i = k1 ∨ i = k2 ∨ i = k3) with rfl | rfl | rfl
  ·exact ⟨hk1, fun g => wpOp_mono (fun a' w' h' => ⟨h'.1, headG_gro hcl hsel hs hc hn f r1 _ a' w' (inv.set hr1 hk1) h'.1 hB1 h'.2⟩) (wpOp_of_one g1 (h g).1)⟩
  ·exact ⟨hk2, fun g => wpOp_mono (fun a' w' h' => ⟨h'.1, headG_gro hcl hsel hs hc hn f r2 _ a' w' (inv.set hr2 hk2) h'.1 hB2 h'.2⟩) (wpOp_of_one g2 (h g).2.1)⟩
  ·exact ⟨hk3, fun g => wpOp_mono (fun a' w' h' => ⟨h'.1, headG_gro hcl hsel hs hc hn f r3 _ a' w' (inv.set hr3 hk3) h'.1 hB3 h'.2⟩) (wpOp_of_one g3 (h g).2.2)⟩

def groOk (l : List Oper) (n : Nat) (r : Gro) : Bool :=
 Region.noSelect l.toArray && decide (n < l.length) && Region.sinkB .any l.toArray n && Region.chainB .any l.toArray n && groB .any l.toArray n n r (Array.replicate l.length false)

/-- **THE RULE.** S: the class, closed under growth; n: the first of the last operations; r: the tree of the walk ahead of them. -/
theorem wp_region_gro {id : Nat} {a : Act} {w : World} {l : List Oper} (S : World → Prop) (n : Nat) (r : Gro) (hm : P.follows .mixedOrders = true) (hB : groOk l n r = true) (hcl : ∀ w g, S w → S (grew w g)) (hS : S w.drew)
    (h : wpGro P l S Q n r a w.drew) : (Code.region id l.toArray true).wp P Q a w := by
 simp only [groOk, Bool.and_eq_true, decide_eq_true_eq] at hB
 obtain ⟨⟨⟨⟨hsel, hn⟩, hs⟩, hc⟩, hmix⟩ := hB
 have hdl : (l.drop n).length = l.toArray.size - n := by simp
 have inv0 : HeadInv .any l.toArray n (Array.replicate l.length false) :=
  ⟨by simp, fun j oj _ hl => (by rw [getD_replicate_false] at hl; cases hl), fun t _ ht => getD_in (by simpa using ht) (getD_replicate_false _ _)⟩
 have H := headG_gro (P := P) (Q := Q) hcl hsel hs hc hn n r _ a w.drew inv0 hS hmix h
 have := any_of_headG (g := l.toArray.size - n) (fun li a' w' hL => by
  have := wpAny_of_seq (md := .any) (Q' := NP Q) (l.drop n) n li a' w' (fun j => by simp [List.getElem?_drop]) (by rw [hdl]; exact hL.1) hL.2
  rwa [hdl] at this) _ _ _ _ H
 rw [show n + (l.toArray.size - n) = l.toArray.size by simp; omega] at this
 refine Code.wp_mono NP.imp (wp_region_any hm ?_)
 simpa using this
/-- The class of what grew from a world, told by facts that growth keeps. -/
theorem kw_grew {W1 : World} : ∀ (w : World) (g : Gr), (∃ y : KW (fun W => Below W1.heap.size W1 W), w = y.w) → ∃ y : KW (fun W => Below W1.heap.size W1 W), grew w g = y.w := fun w g ⟨y, hy⟩ => ⟨⟨grew w g, by subst hy; exact grewB y.ok y.ok.size g⟩, rfl⟩
end
end Go.Proofs.YtgjmfdhgeahdcaaGreat
