/- A region that draws its order: operations that read or make memory, in whatever order, ahead of a few that come in one order at the end. -/
import Derived.Test.YtepiapgcpoifpaaGreatGrew
import Derived.StillTail
set_option linter.unusedVariables false
set_option linter.unusedSimpArgs false
namespace Go.Proofs.YtepiapgcpoifpaaGreat
open Go Go.RowKit

section
variable {P : Program} {ops : Array Oper} {md : Region.Mode} {C : World → Prop}

/-- So many operations of the head, in whatever order; then L. -/
def headQ (P : Program) (md : Region.Mode) (ops : Array Oper) (C : World → Prop) (n : Nat) (L : Array Bool → Act → Prop) : Nat → Array Bool → Act → Prop
  | 0, li, a => L li a
  | f + 1, li, a => Region.ready md ops li ≠ [] ∧ ∀ i ∈ Region.ready md ops li, i < n ∧ qOp P ops C i (headQ P md ops C n L f (li.setIfInBounds i true)) a

theorem any_of_headQ {n g : Nat} {L : Array Bool → Act → Prop} {Q' : Exit → Act → World → Prop} (hL : ∀ li a w, C w → L li a → wpAny P md ops Q' g li a w) (f : Nat) :
    ∀ (li : Array Bool) (a : Act) (w : World), C w → headQ P md ops C n L f li a → wpAny P md ops Q' (f + g) li a w := by
  induction f with
  | zero => intro li a w hw h; rw [Nat.zero_add]; exact hL _ _ _ hw h
  | succ f ih =>
    intro li a w hw h
    rw [Nat.add_right_comm]
    exact ⟨fun h0 => absurd h0 h.1, fun i hi => wpOp_of_qOp hw (fun a' w' hw' h' => ih _ a' w' hw' h') (h.2 i hi).2⟩

/-- What may come up in a head that is not at its end lies in the head. -/
theorem ready_head {n i : Nat} {li : Array Bool} (hs : Region.sinkB md ops n = true) (hc : Region.chainB md ops n = true) (hn : n < ops.size) (inv : HeadInv md ops n li) (hin : i < n) (hr : i ∈ Region.ready md ops li) :
    ∀ j ∈ Region.ready md ops li, j < n := fun j hj =>
  Nat.lt_of_not_le fun h => tail_waits hs hc hn inv _ i rfl hin (mem_ready.1 hr).1 j h hj

theorem headQ_first {n i : Nat} {oi : Oper} {v : Value} {L : Array Bool → Act → Prop} (hi : ops[i]? = some oi) (hsel : ∀ (j : Nat) (o : Oper) cs b, ops[j]? = some o → o.op ≠ .select cs b)
    (hs : Region.sinkB md ops n = true) (hc : Region.chainB md ops n = true) (hn : n < ops.size) (hin : i < n) (hdone : ∀ li a, L li a → ∀ j ∈ Region.ready md ops li, n ≤ j) (f : Nat) :
    ∀ (li : Array Bool) (a : Act), HeadInv md ops n li →
      (∀ j oj, ops[j]? = some oj → j ≠ i → li.getD j true = false → (∀ e ∈ oj.after, Region.binds md e = true → e.on ≠ i) → oi.apart ops oj = true) →
      i ∈ Region.ready md ops li → YieldsIn P ops C oi v a → headQ P md ops C n L f (li.setIfInBounds i true) (a.put oi.dst v) → headQ P md ops C n L (f + 1) li a := by
  induction f with
  | zero =>
    intro li a inv _ hr hy H
    have hlt := ready_head hs hc hn inv hin hr
    refine ⟨List.ne_nil_of_mem hr, fun j hj => ⟨hlt j hj, ?_⟩⟩
    rcases Nat.decEq j i with hji | rfl
    · have := hdone _ _ H j (ready_mono hj hji)
      have := hlt j hj
      omega
    · exact hy.qOp hi H
  | succ f ih =>
    intro li a inv hap hr hy H
    have hlt := ready_head hs hc hn inv hin hr
    have hun := (mem_ready.1 hr).1
    refine ⟨List.ne_nil_of_mem hr, fun j hj => ⟨hlt j hj, ?_⟩⟩
    rcases Nat.decEq j i with hji | rfl
    · obtain ⟨hjun, oj, hoj, hall⟩ := mem_ready.1 hj
      have hno : ∀ e ∈ oj.after, Region.binds md e = true → e.on ≠ i := fun e he hb heq => by
        have h1 := hall e he hb
        rw [heq, getD_both hun] at h1
        cases h1
      refine qOp_mono (fun a' h3 => ih _ a' (inv.set hj (hlt j hj)) (fun k ok hk hki hku hkn => hap k ok hk hki ?_ hkn) (ready_mono hr (Ne.symm hji)) h3.1 ?_)
        (qOp_put hoj (hap j oj hoj hji hjun hno) (fun cs b => hsel i oi cs b hi) (fun cs b => hsel j oj cs b hoj) hy (H.2 j (ready_mono hj hji)).2)
      · rcases Nat.decEq j k with hjk | rfl
        · rwa [getD_set_ne true hjk] at hku
        · exact hjun
      · rw [Array.setIfInBounds_comm _ _ hji]
        exact h3.2
    · exact hy.qOp hi H

theorem headQ_lex {n g : Nat} {Lq : Act → Prop} (hsel : Region.noSelect ops = true) (hs : Region.sinkB md ops n = true) (hc : Region.chainB md ops n = true) (hn : n < ops.size) (l : List Oper) :
    ∀ (k : Nat) (li : Array Bool) (a : Act), (∀ j, j < l.length → l[j]? = ops[k + j]?) → k + l.length = n → HeadInv md ops n li →
      Region.lexHead md ops g l.length k li = true → wpQuiet P ops C Lq l a → headQ P md ops C n (fun li' a' => Region.seqB md ops g n li' = true ∧ Lq a') l.length li a := by
  induction l with
  | nil =>
    intro k li a _ hk _ hB h
    obtain rfl : k = n := by simpa using hk
    exact ⟨by simpa [Region.lexHead] using hB, h⟩
  | cons o l ih =>
    intro k li a hl hk inv hB h
    have h0 : ops[k]? = some o := by simpa using (hl 0 (by simp)).symm
    simp only [List.length_cons] at hk
    simp only [List.length_cons, Region.lexHead, Bool.and_eq_true] at hB
    have hr : k ∈ Region.ready md ops li := by simpa using hB.1.1
    have hst : qOp P ops C k (wpQuiet P ops C Lq l) a := by unfold qOp; simp only [h0]; exact h
    obtain ⟨v, hy, hK⟩ := yieldsIn_of_qOp h0 hst
    exact headQ_first h0 (Region.noSelect_spec hsel) hs hc hn (by omega) (fun _ _ hL => seqB_ready hL.1) _ li a inv (Region.free_spec h0 hB.1.2) hr hy
      (ih (k + 1) _ _ (fun j hj => by have := hl (j + 1) (by simp; omega); simpa [Nat.add_assoc, Nat.add_comm 1 j] using this) (by omega) (inv.set hr (by omega)) hB.2 hK)

theorem wp_region_quiet_tail {id : Nat} {Q : Exit → Act → World → Prop} {a : Act} {w : World} {l : List Oper} (n : Nat) (hm : P.follows .mixedOrders = true) (hB : Region.lexTailB .any l.toArray n = true) (hC : C { w with drawn := w.drawn + 1 })
    (h : wpQuiet P l.toArray C (fun a' => ∀ w', C w' → wpList P l.toArray Q (l.drop n) a' w') (l.take n) a) : (Code.region id l.toArray true).wp P Q a w := by
  simp only [Region.lexTailB, Bool.and_eq_true, decide_eq_true_eq] at hB
  obtain ⟨⟨⟨⟨hsel, hn⟩, hs⟩, hc⟩, hlex⟩ := hB
  have hn' : n < l.length := by simpa using hn
  have htl : (l.take n).length = n := by simp; omega
  have hdl : (l.drop n).length = l.toArray.size - n := by simp
  have inv0 : HeadInv .any l.toArray n (Array.replicate l.toArray.size false) :=
    ⟨by simp, fun j oj _ hl => (by rw [getD_replicate_false] at hl; cases hl), fun t _ ht => getD_in (by simpa using ht) (getD_replicate_false _ _)⟩
  have H := headQ_lex (md := .any) (g := l.toArray.size - n) hsel hs hc hn (l.take n) 0 _ a (fun j hj => by
    have hj' : j < n := by rw [htl] at hj; exact hj
    simp [hj']) (by simpa using htl) inv0 (by rw [htl]; exact hlex) h
  have := any_of_headQ (Q' := Q) (g := l.toArray.size - n) (fun li a' w' hw' hL => by
    have := wpAny_of_seq (md := .any) (Q' := Q) (l.drop n) n li a' w' (fun j => by simp [List.getElem?_drop]) (by rw [hdl]; exact hL.1) (hL.2 w' hw')
    rwa [hdl] at this) _ _ _ _ hC H
  rw [htl, show n + (l.toArray.size - n) = l.toArray.size by omega] at this
  exact wp_region_any hm this

/-- The class of worlds: what was there, and new blocks. -/
theorem wp_region_grew_tail {id : Nat} {Q : Exit → Act → World → Prop} {a : Act} {w : World} {l : List Oper} (n : Nat) (hm : P.follows .mixedOrders = true) (hB : Region.lexTailB .any l.toArray n = true)
    (h : wpQuiet P l.toArray (fun w' => ∃ g, w' = grew w g) (fun a' => ∀ w', (∃ g, w' = grew w g) → wpList P l.toArray Q (l.drop n) a' w') (l.take n) a) : (Code.region id l.toArray true).wp P Q a w :=
  wp_region_quiet_tail (C := fun w' => ∃ g, w' = grew w g) n hm hB ⟨⟨#[], w.drawn + 1⟩, by simp [grew]⟩ h
end
end Go.Proofs.YtepiapgcpoifpaaGreat
