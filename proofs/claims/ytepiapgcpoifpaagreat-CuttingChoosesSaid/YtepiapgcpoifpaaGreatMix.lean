/- A region that draws its order: operations that yield one value in every world of a class may be taken first; those that change the world come in a forced order and keep the class; from the n-th on the last ones, in one order. -/
import Derived.Test.YtepiapgcpoifpaaGreatTail
import Derived.OrdersHeld
set_option linter.unusedVariables false
set_option linter.unusedSimpArgs false
namespace Go.Proofs.YtepiapgcpoifpaaGreat
open Go Go.RowKit

/-- The exits of a region that is shown not to panic. -/
def NP (Q : Exit → Act → World → Prop) : Exit → Act → World → Prop
  | .panic _, _, _ => False
  | e, a, w => Q e a w
/-- Behind one operation: K; no panic. -/
def One (Q : Exit → Act → World → Prop) (K : Act → World → Prop) : Exit → Act → World → Prop
  | .normal, a, w => K a w
  | .outgrown, a, w => Q .outgrown a w
  | _, _, _ => False
theorem NP_mk {Q : Exit → Act → World → Prop} {a : Act} {w : World} (h : Q .normal a w) : NP Q .normal a w := h
theorem One_mk {Q : Exit → Act → World → Prop} {S : World → Prop} {K : Act → World → Prop} {a : Act} {w : World} (hS : S w) (h : K a w) : One Q (fun a' w' => S w' ∧ K a' w') .normal a w := ⟨hS, h⟩
theorem grew_drew0 (w : World) : ∃ g, w.drew = grew w g := ⟨⟨#[], w.drawn + 1⟩, by unfold grew; simp only [Array.append_empty]; rfl⟩
theorem NP.imp {Q : Exit → Act → World → Prop} (e : Exit) (a : Act) (w : World) (h : NP Q e a w) : Q e a w := by
  cases e <;> first | exact h | exact False.elim h

/-- An operation whose run gives a value, or halts. -/
def plainOp : Op → Bool
  | .move _ | .assign _ | .pick .. | .build .. | .nilCheck _ | .load .. | .binOp .. | .unOp .. | .convert .. | .slice .. | .fieldAddr .. | .field .. | .indexAddr .. | .index .. | .extract .. => true
  | .call { callee := .builtin b, .. } => b == .len || b == .max || b == .min
  | _ => false
theorem plain_run {P : Program} {o : Oper} {ρ : Operand → Value} {w : World} (h : plainOp o.op = true) :
    match (execOp ρ o).run P w with
    | .ok (.value _) _ | .halt _ _ => True
    | _ => False := by
  have bind : ∀ (s : Sem Value), match (do pure (Next.value (← s)) : Sem Next).run P w with
      | .ok (.value _) _ | .halt _ _ => True
      | _ => False := by
    intro s
    simp only [Sem.run_bind, Sem.run_pure]
    cases s.run P w <;> simp [Result.andThen]
  unfold execOp
  cases ho : o.op <;> rw [ho] at h <;> simp only [plainOp] at h <;> first | (exact absurd h (by decide)) | exact bind _ | (simp only [Sem.run_pure]) | skip
  · rename_i c a b
    simp only [Sem.run_bind, Sem.run_pure]
    cases (asBool (ρ c)).run P w <;> simp [Result.andThen]
  · rename_i x
    have pv : ∀ v : Value, match (pure (Next.value v) : Sem Next).run P w with
      | .ok (.value _) _ | .halt _ _ => True
      | _ => False := fun v => by simp only [Sem.run_pure]
    have pp : match (runtimePanic .nilDeref : Sem Next).run P w with
      | .ok (.value _) _ | .halt _ _ => True
      | _ => False := by simp [runtimePanic, goPanic]
    generalize ρ x = v
    cases v with
    | pointer a => cases a with
      | none => exact pp
      | some a => exact pv (.pointer (some a))
    | nilIface => exact pp
    | nilFunc => exact pp
    | func fn first captured =>
      cases fn with
      | method name =>
        show (match (match (first[0]? : Option Value) with
          | some .nilIface => runtimePanic .nilDeref
          | some (.iface t w) => _
          | _ => pure (Next.value (.func (.method name) first captured)) : Sem Next).run P w with
        | .ok (.value _) _ | .halt _ _ => True
        | _ => False)
        generalize (first[0]? : Option Value) = u
        cases u with
        | none => exact pv (.func (.method name) first captured)
        | some u =>
          cases u with
          | nilIface => exact pp
          | iface t v =>
            simp only [Sem.run_bind]
            cases (program : Sem Program).run P w with
            | halt => simp [Result.andThen]
            | ok p w1 =>
              simp only [Result.andThen_ok]
              cases (nilAhead (p.types.size + Made.depth) t v name).run P w1 with
              | halt => simp [Result.andThen]
              | ok b w2 =>
                simp only [Result.andThen_ok]
                by_cases hb : (b != some false) = true
                · rw [if_pos hb]; simp [unsupported, Result.andThen]
                · rw [if_neg hb]; simp
          | _ => exact pv (.func (.method name) first captured)
      | _ => simp
    | _ => simp
  · rename_i c
    obtain ⟨callee, args, tys⟩ := c
    cases callee with
    | value f => simp [plainOp] at h
    | invoke r m => simp [plainOp] at h
    | builtin b =>
      have hb : b = .len ∨ b = .max ∨ b = .min := by simpa [plainOp, or_assoc] using h
      simp only [resolve, Sem.run_bind, Sem.run_pure, Result.andThen_ok, invoke, builtin]
      rcases hb with rfl | rfl | rfl <;> exact bind _

section
variable {P : Program} {ops : Array Oper} {md : Region.Mode} {S : World → Prop} {Q : Exit → Act → World → Prop}

/-- What is quiet in the class, and is no call of a Go function, yields its value in every world of it. -/
theorem yieldsIf_of_quiet {o : Oper} {a : Act} {K : Act → Prop} (hp : plainOp o.op = true) (hw : Region.wanted o (yielded ops a.tmps) = true) (h : o.quiet P a S K) (hne : ∃ w, S w) :
    ∃ v, YieldsIf P ops S o v a ∧ K (a.put o.dst v) := by
  obtain ⟨v, h1, h2⟩ := h
  refine ⟨v, .inl ⟨hw, fun w hS => ?_⟩, h2⟩
  have h3 := h1 w hS
  have h4 := plain_run (P := P) (ρ := a.eval) (w := w) hp
  unfold Oper.quietAt at h3
  generalize (execOp a.eval o).run P w = r at *
  cases r with
  | ok n w' =>
    cases n <;> simp only at h4
    simp only [Oper.quietUpon] at h3
    rw [h3.1, h3.2]
  | halt x w' => simp [Oper.quietUpon] at h3

/-- So many operations of the head, in whatever order, each of which keeps the class; then L. -/
def headW (P : Program) (md : Region.Mode) (ops : Array Oper) (Q : Exit → Act → World → Prop) (S : World → Prop) (n : Nat) (L : Array Bool → Act → World → Prop) : Nat → Array Bool → Act → World → Prop
  | 0, li, a, w => L li a w
  | f + 1, li, a, w => Region.ready md ops li ≠ [] ∧ ∀ i ∈ Region.ready md ops li, i < n ∧ wpOp P ops (NP Q) i (fun a' w' => S w' ∧ headW P md ops Q S n L f (li.setIfInBounds i true) a' w') a w

theorem any_of_headW {n g : Nat} {L : Array Bool → Act → World → Prop} (hL : ∀ li a w, L li a w → wpAny P md ops (NP Q) g li a w) (f : Nat) :
    ∀ (li : Array Bool) (a : Act) (w : World), headW P md ops Q S n L f li a w → wpAny P md ops (NP Q) (f + g) li a w := by
  induction f with
  | zero => intro li a w h; rw [Nat.zero_add]; exact hL _ _ _ h
  | succ f ih =>
    intro li a w h
    rw [Nat.add_right_comm]
    exact ⟨fun h0 => absurd h0 h.1, fun i hi => wpOp_mono (fun a' w' h' => ih _ a' w' h'.2) (h.2 i hi).2⟩

theorem headW_take {n i : Nat} {oi : Oper} {v : Value} {L : Array Bool → Act → World → Prop} (hi : ops[i]? = some oi) (hsel : ∀ (j : Nat) (o : Oper) cs b, ops[j]? = some o → o.op ≠ .select cs b)
    (hs : Region.sinkB md ops n = true) (hc : Region.chainB md ops n = true) (hn : n < ops.size) (hin : i < n) (hdone : ∀ li a w, L li a w → ∀ j ∈ Region.ready md ops li, n ≤ j) (f : Nat) :
    ∀ (li : Array Bool) (a : Act) (w : World), HeadInv md ops n li →
      (∀ j oj, ops[j]? = some oj → j ≠ i → li.getD j true = false → (∀ e ∈ oj.after, Region.binds md e = true → e.on ≠ i) → oi.apart ops oj = true) →
      i ∈ Region.ready md ops li → YieldsIf P ops S oi v a → S w → headW P md ops Q S n L f (li.setIfInBounds i true) (a.put oi.dst v) w → headW P md ops Q S n L (f + 1) li a w := by
  induction f with
  | zero =>
    intro li a w inv _ hr hy hS H
    have hlt := ready_head hs hc hn inv hin hr
    refine ⟨List.ne_nil_of_mem hr, fun j hj => ⟨hlt j hj, ?_⟩⟩
    rcases Nat.decEq j i with hji | rfl
    · have := hdone _ _ _ H j (ready_mono hj hji)
      have := hlt j hj
      omega
    · exact hy.wpOp hi hS ⟨hS, H⟩
  | succ f ih =>
    intro li a w inv hap hr hy hS H
    have hlt := ready_head hs hc hn inv hin hr
    have hun := (mem_ready.1 hr).1
    refine ⟨List.ne_nil_of_mem hr, fun j hj => ⟨hlt j hj, ?_⟩⟩
    rcases Nat.decEq j i with hji | rfl
    · obtain ⟨hjun, oj, hoj, hall⟩ := mem_ready.1 hj
      have hno : ∀ e ∈ oj.after, Region.binds md e = true → e.on ≠ i := fun e he hb heq => by
        have h1 := hall e he hb
        rw [heq, getD_both hun] at h1
        cases h1
      refine wpOp_mono (fun a' w' h3 => ⟨h3.2.1, ih _ a' w' (inv.set hj (hlt j hj)) (fun k ok hk hki hku hkn => hap k ok hk hki ?_ hkn) (ready_mono hr (Ne.symm hji)) h3.1 h3.2.1 ?_⟩)
        (wpOp_putIf hoj (hap j oj hoj hji hjun hno) (fun cs b => hsel i oi cs b hi) (fun cs b => hsel j oj cs b hoj) (fun _ _ _ h => h) hy (H.2 j (ready_mono hj hji)).2)
      · rcases Nat.decEq j k with hjk | rfl
        · rwa [getD_set_ne true hjk] at hku
        · exact hjun
      · rw [Array.setIfInBounds_comm _ _ hji]
        exact h3.2.2
    · exact hy.wpOp hi hS ⟨hS, H⟩

/-- The order in which the walk takes them: (number, whether it is taken first). -/
def mixB (md : Region.Mode) (ops : Array Oper) (n : Nat) : List (Nat × Bool) → Array Bool → Bool
  | [], li => Region.seqB md ops (ops.size - n) n li
  | (k, t) :: r, li => decide (k < n) && (if t then (Region.ready md ops li).contains k && Region.free md ops li k && ((ops[k]?).map fun o => plainOp o.op).getD false else decide (Region.ready md ops li = [k])) && mixB md ops n r (li.setIfInBounds k true)
def nthOp : List Oper → Nat → Oper
  | o :: _, 0 => o
  | _ :: l, k + 1 => nthOp l k
  | [], _ => default
def orderOps (l : List Oper) : List (Nat × Bool) → List (Oper × Bool)
  | [] => []
  | (k, t) :: r => (nthOp l k, t) :: orderOps l r
theorem nthOp_get : ∀ {l : List Oper} {k : Nat}, k < l.length → l[k]? = some (nthOp l k)
  | _ :: _, 0, _ => rfl
  | _ :: l, k + 1, h => by rw [List.getElem?_cons_succ]; exact nthOp_get (l := l) (k := k) (by simpa using h)
  | [], _, h => by simp at h

/-- The walk. -/
def wpMix (P : Program) (ops : Array Oper) (S : World → Prop) (Q : Exit → Act → World → Prop) (tail : List Oper) : List (Oper × Bool) → Act → World → Prop
  | [], a, w => wpList P ops (NP Q) tail a w
  | (o, true) :: r, a, w => wpQuiet P ops S (fun a' => wpMix P ops S Q tail r a' w) [o] a
  | (o, false) :: r, a, w => wpList P ops (One Q fun a' w' => S w' ∧ wpMix P ops S Q tail r a' w') [o] a w
theorem wpMix_take {tail : List Oper} {o : Oper} {r : List (Oper × Bool)} {a : Act} {w : World} (h : wpQuiet P ops S (fun a' => wpMix P ops S Q tail r a' w) [o] a) : wpMix P ops S Q tail ((o, true) :: r) a w := h
theorem wpMix_gen {tail : List Oper} {o : Oper} {r : List (Oper × Bool)} {a : Act} {w : World} (h : wpList P ops (One Q fun a' w' => S w' ∧ wpMix P ops S Q tail r a' w') [o] a w) : wpMix P ops S Q tail ((o, false) :: r) a w := h
theorem wpMix_end {tail : List Oper} {a : Act} {w : World} (h : wpList P ops (NP Q) tail a w) : wpMix P ops S Q tail [] a w := h

theorem wp_exits {o : Oper} {a : Act} {K : Act → World → Prop} {Q1 Q2 : Exit → Act → World → Prop} {w : World} (hp : ∀ c a w, Q1 (.panic c) a w → Q2 (.panic c) a w) (ho : LetsOut Q1 → LetsOut Q2) (h : o.wp P a w K Q1) : o.wp P a w K Q2 := by
  unfold Oper.wp at *
  generalize (execOp a.eval o).run P w = r at *
  cases r with
  | ok n w' =>
    cases n <;> simp only [Oper.upon] at h ⊢ <;> first | exact h | skip
    exact h.mono fun e w'' he => by
      cases e with
      | returned u => exact he
      | panicked c => exact hp _ _ _ he
      | outgrown => exact ho he
  | halt x w' =>
    cases x <;> simp only [Oper.upon] at h ⊢ <;> first | exact h | exact hp _ _ _ h
theorem wpOp_of_one {k : Nat} {o : Oper} {a : Act} {w : World} {K : Act → World → Prop} (hk : ops[k]? = some o) (h : wpList P ops (One Q K) [o] a w) : wpOp P ops (NP Q) k K a w := by
  unfold wpOp
  simp only [hk]
  unfold wpList at h
  split
  · rename_i hw
    rw [if_pos hw] at h
    rcases h with h | ⟨h1, h2⟩
    · exact .inl (wp_exits (fun _ _ _ h => h.elim) (fun ⟨a', w', h'⟩ => ⟨a', w', h'⟩) h)
    · exact .inr ⟨h1, let ⟨a', w', h'⟩ := h2; ⟨a', w', h'⟩⟩
  · rename_i hw
    rw [if_neg hw] at h
    exact h

theorem headW_mix {n : Nat} {l : List Oper} (hsel : Region.noSelect l.toArray = true) (hs : Region.sinkB md l.toArray n = true) (hc : Region.chainB md l.toArray n = true) (hn : n < l.length) (tail : List Oper) :
    ∀ (r : List (Nat × Bool)) (li : Array Bool) (a : Act) (w : World), HeadInv md l.toArray n li → S w → mixB md l.toArray n r li = true → wpMix P l.toArray S Q tail (orderOps l r) a w →
      headW P md l.toArray Q S n (fun li' a' w' => Region.seqB md l.toArray (l.toArray.size - n) n li' = true ∧ wpList P l.toArray (NP Q) tail a' w') r.length li a w
  | [], li, a, w, inv, _, hB, h => ⟨hB, h⟩
  | (k, t) :: r, li, a, w, inv, hS, hB, h => by
    simp only [mixB, Bool.and_eq_true, decide_eq_true_eq] at hB
    obtain ⟨⟨hkn, hk⟩, hB'⟩ := hB
    have h0 : l.toArray[k]? = some (nthOp l k) := by simpa using nthOp_get (by omega : k < l.length)
    cases t with
    | true =>
      simp only [if_true, Bool.and_eq_true] at hk
      obtain ⟨⟨hr, hf⟩, hp⟩ := hk
      rw [h0] at hp
      have hr' : k ∈ Region.ready md l.toArray li := by simpa using hr
      have hq : wpQuiet P l.toArray S (fun a' => wpMix P l.toArray S Q tail (orderOps l r) a' w) [nthOp l k] a := h
      obtain ⟨v, hy, hK⟩ : ∃ v, YieldsIf P l.toArray S (nthOp l k) v a ∧ wpMix P l.toArray S Q tail (orderOps l r) (a.put (nthOp l k).dst v) w := by
        unfold wpQuiet at hq
        split at hq
        · rename_i hw
          exact yieldsIf_of_quiet (by simpa using hp) hw hq ⟨w, hS⟩
        · rename_i hw
          exact ⟨undef, .inr ⟨by simpa using hw, rfl⟩, hq⟩
      exact headW_take h0 (Region.noSelect_spec hsel) hs hc (by simpa using hn) hkn (fun _ _ _ hL => seqB_ready hL.1) _ li a w inv (Region.free_spec h0 hf) hr' hy hS
        (headW_mix hsel hs hc hn tail r _ _ w (inv.set hr' hkn) hS hB' hK)
    | false =>
      simp only [Bool.false_eq_true, if_false, decide_eq_true_eq] at hk
      have hr' : k ∈ Region.ready md l.toArray li := by rw [hk]; simp
      refine ⟨List.ne_nil_of_mem hr', fun i hi => ?_⟩
      rw [hk] at hi
      obtain rfl : i = k := by simpa using hi
      exact ⟨hkn, wpOp_mono (fun a' w' h' => ⟨h'.1, headW_mix hsel hs hc hn tail r _ a' w' (inv.set hr' hkn) h'.1 hB' h'.2⟩) (wpOp_of_one h0 h)⟩

def mixOk (l : List Oper) (n : Nat) (r : List (Nat × Bool)) : Bool :=
  Region.noSelect l.toArray && decide (n < l.length) && Region.sinkB .any l.toArray n && Region.chainB .any l.toArray n && decide (r.length = n) && mixB .any l.toArray n r (Array.replicate l.length false)

/-- **THE RULE.** S: the class; n: the first of the last operations; r: the order of the walk ahead of them. -/
theorem wp_region_mix {id : Nat} {a : Act} {w : World} {l : List Oper} (S : World → Prop) (n : Nat) (r : List (Nat × Bool)) (hm : P.follows .mixedOrders = true) (hB : mixOk l n r = true) (hS : S w.drew)
    (h : wpMix P l.toArray S Q (l.drop n) (orderOps l r) a w.drew) : (Code.region id l.toArray true).wp P Q a w := by
  simp only [mixOk, Bool.and_eq_true, decide_eq_true_eq] at hB
  obtain ⟨⟨⟨⟨⟨hsel, hn⟩, hs⟩, hc⟩, hlen⟩, hmix⟩ := hB
  have hdl : (l.drop n).length = l.toArray.size - n := by simp
  have inv0 : HeadInv .any l.toArray n (Array.replicate l.length false) :=
    ⟨by simp, fun j oj _ hl => (by rw [getD_replicate_false] at hl; cases hl), fun t _ ht => getD_in (by simpa using ht) (getD_replicate_false _ _)⟩
  have H := headW_mix hsel hs hc hn (l.drop n) r _ a w.drew inv0 hS hmix h
  have := any_of_headW (g := l.toArray.size - n) (fun li a' w' hL => by
    have := wpAny_of_seq (md := .any) (Q' := NP Q) (l.drop n) n li a' w' (fun j => by simp [List.getElem?_drop]) (by rw [hdl]; exact hL.1) hL.2
    rwa [hdl] at this) _ _ _ _ H
  rw [hlen, show n + (l.toArray.size - n) = l.toArray.size by simp; omega] at this
  refine Code.wp_mono NP.imp (wp_region_any hm ?_)
  simpa using this
end
end Go.Proofs.YtepiapgcpoifpaaGreat
