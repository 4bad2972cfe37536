/- A region that draws its order inside the wide fence: a tree of operations as in XTree, none of which asks for a round; then the last ones, in one order, which may (the yield of an iterator). -/
import Derived.OrdersIn
import Derived.TacticsIn
import Derived.Test.YtdmoiepafkbefaaGreatQT
set_option linter.unusedVariables false
set_option linter.unusedSimpArgs false
namespace Go.Proofs.YtdmoiepafkbefaaGreat
open Go Go.RowKit

/-- The head never leaves the region. -/
def NoExit : Exit → Act → World → Prop := fun _ _ _ => False
theorem rows_wide {n : Nat} {P : Program} {row : String} {args : Array Value} {w : World} {R : Value → World → Prop} (h : Rows P row args w R) : RowsIn Fence.wide n P row args w R :=
  fun c cs _ => let ⟨v, w', r, s⟩ := h c cs; ⟨v, w', r, stepsIn_wide.2 s⟩

section
variable {P : Program} {ops : Array Oper} {md : Region.Mode} {S : World → Prop} {T : Act → World → Prop} {Q : Exit → Act → World → Prop}

theorem wpOpIn_wide {n i : Nat} {K K' : Act → World → Prop} {a : Act} {w : World} (hK : ∀ a w, K a w → K' a w) (h : wpOp P ops (NP NoExit) i K a w) : wpOpIn Fence.wide n P ops Q i K' a w := by
  unfold wpOp at h
  unfold wpOpIn
  split
  · rename_i h0; simp only [h0] at h; exact hK _ _ h
  · rename_i o h0
    simp only [h0] at h
    split
    · rename_i hw
      rw [if_pos hw] at h
      rcases h with h | ⟨_, a', w', h'⟩
      · unfold Oper.wp at h
        refine ⟨fun _ _ => trivial, ?_⟩
        show o.uponIn _ _ _ _ _ _ ((o.semAt none a.eval).run P w)
        rw [Oper.semAt_none]
        generalize (execOp a.eval o).run P w = r at *
        have hd : ∀ n : Nat, Fence.wide.depth.isSome = true → 1 ≤ n := fun _ h => by simp [Fence.wide] at h
        cases r with
        | ok x w' =>
          cases x <;> simp only [Oper.upon, Oper.uponIn] at h ⊢
          case value v => exact hK _ _ h
          case skip => exact hK _ _ h
          case defer d => exact hK _ _ h
          case enter f args =>
            refine ⟨hd _, callsIn_wide.2 (h.mono fun e w'' he => ?_)⟩
            cases e with
            | returned v => exact hK _ _ he
            | panicked c => exact False.elim he
            | outgrown => obtain ⟨_, _, he⟩ := he; exact False.elim he
          case row row args => exact ⟨hd _, rows_wide (h.mono fun v w'' he => hK _ _ he)⟩
        | halt x w' =>
          cases x <;> simp only [Oper.upon, Oper.uponIn] at h ⊢
          case panic v => exact False.elim h
      · exact False.elim h'
    · rename_i hw
      rw [if_neg hw] at h
      exact ⟨fun _ _ => trivial, hK _ _ h⟩

theorem anyIn_of_headW {m n g : Nat} {L : Array Bool → Act → World → Prop} (hL : ∀ li a w, L li a w → wpAnyIn Fence.wide m P md ops Q g li a w) (f : Nat) :
    ∀ (li : Array Bool) (a : Act) (w : World), headW P md ops NoExit S n L f li a w → wpAnyIn Fence.wide m P md ops Q (f + g) li a w := by
  induction f with
  | zero => intro li a w h; rw [Nat.zero_add]; exact hL _ _ _ h
  | succ f ih =>
    intro li a w h
    rw [Nat.add_right_comm]
    exact ⟨fun h0 => absurd h0 h.1, fun i hi => wpOpIn_wide (fun a' w' h' => ih _ a' w' h'.2) (h.2 i hi).2⟩

theorem wpAnyIn_of_seq {m : Nat} {F : Fence} : ∀ (l : List Oper) (k : Nat) (listed : Array Bool) (a : Act) (w : World), (∀ j, l[j]? = ops[k + j]?) →
    Region.seqB md ops l.length k listed = true → wpListIn F m P ops Q l a w → wpAnyIn F m P md ops Q l.length listed a w
  | [], _, _, _, _, _, hB, h => ⟨by simpa [Region.seqB] using hB, h⟩
  | o :: l, k, listed, a, w, hl, hB, h => by
    have h0 : ops[k]? = some o := by simpa using (hl 0).symm
    simp only [List.length_cons, Region.seqB, Bool.and_eq_true, decide_eq_true_eq] at hB
    refine ⟨fun h1 => (by rw [hB.1] at h1; cases h1), fun i hi => ?_⟩
    rw [hB.1] at hi
    have hik : i = k := by simpa using hi
    subst hik
    have hw : wpOpIn F m P ops Q i (wpListIn F m P ops Q l) a w := by unfold wpOpIn; simp only [h0]; exact h
    exact wpOpIn_mono (fun a' w' h' => wpAnyIn_of_seq l (i + 1) _ a' w' (fun j => by have := hl (j + 1); simpa [Nat.add_assoc, Nat.add_comm 1 j] using this) hB.2 h') hw

/-- The walk: operations taken first, and such that come alone. -/
def wpTreeT (P : Program) (l : List Oper) (S : World → Prop) (T : Act → World → Prop) : List (Nat × Bool) → Act → World → Prop
  | [], a, w => T a w
  | (k, true) :: r, a, w => wpQuiet P l.toArray S (fun a' => wpTreeT P l S T r a' w) [nthOp l k] a
  | (k, false) :: r, a, w => wpList P l.toArray (One NoExit fun a' w' => S w' ∧ wpTreeT P l S T r a' w') [nthOp l k] a w
theorem wpTreeT_one {l : List Oper} {k : Nat} {r : List (Nat × Bool)} {a : Act} {w : World} (h : wpList P l.toArray (One NoExit fun a' w' => S w' ∧ wpTreeT P l S T r a' w') [nthOp l k] a w) : wpTreeT P l S T ((k, false) :: r) a w := h
theorem wpQuiet_one_mono {ops : Array Oper} {C : World → Prop} {Q Q' : Act → Prop} {o : Oper} {a : Act} (h : ∀ a, Q a → Q' a) (hh : wpQuiet P ops C Q [o] a) : wpQuiet P ops C Q' [o] a := by
  unfold wpQuiet at hh ⊢
  split
  · rename_i hw
    rw [if_pos hw] at hh
    exact Oper.quiet_mono (fun a h' => h a h') hh
  · rename_i hw
    rw [if_neg hw] at hh
    exact h _ hh
/-- The walk as a structure: Lean does not unfold it of its own (operations that are passed over would be run through at each step). -/
structure TreeT (P : Program) (l : List Oper) (S : World → Prop) (T : Act → World → Prop) (r : List (Nat × Bool)) (a : Act) (w : World) : Prop where
  out : wpTreeT P l S T r a w
theorem TreeT_take {l : List Oper} {k : Nat} {r : List (Nat × Bool)} {a : Act} {w : World} (h : wpQuiet P l.toArray S (fun a' => TreeT P l S T r a' w) [nthOp l k] a) : TreeT P l S T ((k, true) :: r) a w := ⟨wpQuiet_one_mono (fun _ h => h.out) h⟩
theorem TreeT_done {l : List Oper} {a : Act} {w : World} (h : T a w) : TreeT P l S T [] a w := ⟨h⟩
theorem headW_treeT {n : Nat} {l : List Oper} (hsel : Region.noSelect l.toArray = true) (hs : Region.sinkB md l.toArray n = true) (hc : Region.chainB md l.toArray n = true) (hn : n < l.length) :
    ∀ (r : List (Nat × Bool)) (li : Array Bool) (a : Act) (w : World), HeadInv md l.toArray n li → S w → mixB md l.toArray n r li = true → wpTreeT P l S T r a w →
      headW P md l.toArray NoExit S n (fun li' a' w' => Region.seqB md l.toArray (l.toArray.size - n) n li' = true ∧ T a' w') r.length li a w
  | [], li, a, w, inv, _, hB, h => ⟨hB, h⟩
  | (k, t) :: r, li, a, w, inv, hS, hB, h => by
    simp only [mixB, Bool.and_eq_true, decide_eq_true_eq] at hB
    obtain ⟨⟨hkn, hk⟩, hB'⟩ := hB
    have h0 : l.toArray[k]? = some (nthOp l k) := by simpa using nthOp_get (by omega : k < l.length)
    cases t with
    | true =>
      simp only [if_true, Bool.and_eq_true] at hk
      obtain ⟨⟨hr, hf⟩, hp⟩ := hk
      rw [h0] at hp
      have hr' : k ∈ Region.ready md l.toArray li := by simpa using hr
      have hq : wpQuiet P l.toArray S (fun a' => wpTreeT P l S T r a' w) [nthOp l k] a := h
      obtain ⟨v, hy, hK⟩ : ∃ v, YieldsIf P l.toArray S (nthOp l k) v a ∧ wpTreeT P l S T r (a.put (nthOp l k).dst v) w := by
        unfold wpQuiet at hq
        split at hq
        · rename_i hw
          exact yieldsIf_of_quiet (by simpa using hp) hw hq ⟨w, hS⟩
        · rename_i hw
          exact ⟨undef, .inr ⟨by simpa using hw, rfl⟩, hq⟩
      exact headW_take h0 (Region.noSelect_spec hsel) hs hc (by simpa using hn) hkn (fun _ _ _ hL => seqB_ready hL.1) _ li a w inv (Region.free_spec h0 hf) hr' hy hS
        (headW_treeT hsel hs hc hn r _ _ w (inv.set hr' hkn) hS hB' hK)
    | false =>
      simp only [Bool.false_eq_true, if_false, decide_eq_true_eq] at hk
      have hr' : k ∈ Region.ready md l.toArray li := by rw [hk]; simp
      refine ⟨List.ne_nil_of_mem hr', fun i hi => ?_⟩
      rw [hk] at hi
      obtain rfl : i = k := by simpa using hi
      exact ⟨hkn, wpOp_mono (fun a' w' h' => ⟨h'.1, headW_treeT hsel hs hc hn r _ a' w' (inv.set hr' hkn) h'.1 hB' h'.2⟩) (wpOp_of_one h0 h)⟩

/-- **THE RULE.** S: the class; n: the first of the last operations; r: the order of the walk ahead of them. -/
theorem wpIn_region_tree {m id : Nat} {a : Act} {w : World} {l : List Oper} (S : World → Prop) (n : Nat) (r : List (Nat × Bool)) (hm : P.follows .mixedOrders = true) (hB : mixOk l n r = true) (hS : S w.drew)
    (h : wpTreeT P l S (wpListIn Fence.wide m P l.toArray Q (l.drop n)) r a w.drew) : (Code.region id l.toArray true).wpIn Fence.wide m P Q a w := by
  simp only [mixOk, Bool.and_eq_true, decide_eq_true_eq] at hB
  obtain ⟨⟨⟨⟨⟨hsel, hn⟩, hs⟩, hc⟩, hlen⟩, hmix⟩ := hB
  have hdl : (l.drop n).length = l.toArray.size - n := by simp
  have inv0 : HeadInv .any l.toArray n (Array.replicate l.length false) :=
    ⟨by simp, fun j oj _ hl => (by rw [getD_replicate_false] at hl; cases hl), fun t _ ht => getD_in (by simpa using ht) (getD_replicate_false _ _)⟩
  have H := headW_treeT hsel hs hc hn r _ a w.drew inv0 hS hmix h
  have := anyIn_of_headW (m := m) (Q := Q) (g := l.toArray.size - n) (fun li a' w' hL => by
    have := wpAnyIn_of_seq (md := .any) (Q := Q) (l.drop n) n li a' w' (fun j => by simp [List.getElem?_drop]) (by rw [hdl]; exact hL.1) hL.2
    rwa [hdl] at this) _ _ _ _ H
  rw [hlen, show n + (l.toArray.size - n) = l.toArray.size by simp; omega] at this
  refine wpIn_region_any hm ?_
  simpa using this
end
end Go.Proofs.YtdmoiepafkbefaaGreat
