/- A region that draws its order, walked by a tree: operations that are taken first, and two at a time that change the world, in both orders. -/
import Derived.Test.YtepiapgcpoifpaaGreatMix
set_option linter.unusedVariables false
set_option linter.unusedSimpArgs false
namespace Go.Proofs.YtepiapgcpoifpaaGreat
open Go Go.RowKit

/-- A class of worlds by a fact: a carrier that simp does not take apart. -/
structure KW (F : World → Prop) where
  w : World
  ok : F w
theorem KW.mk' {F : World → Prop} {w : World} (h : F w) : ∃ x : KW F, w = x.w := ⟨⟨w, h⟩, rfl⟩

inductive Ord where
  | done
  | take (k : Nat) (r : Ord)
  | one (k : Nat) (r : Ord)
  | two (k1 : Nat) (r1 : Ord) (k2 : Nat) (r2 : Ord)
  | three (k1 : Nat) (r1 : Ord) (k2 : Nat) (r2 : Ord) (k3 : Nat) (r3 : Ord)

section
variable {P : Program} {ops : Array Oper} {md : Region.Mode} {S : World → Prop} {Q : Exit → Act → World → Prop}

def treeB (md : Region.Mode) (ops : Array Oper) (n : Nat) : Nat → Ord → Array Bool → Bool
  | 0, .done, li => Region.seqB md ops (ops.size - n) n li
  | f + 1, .take k r, li => decide (k < n) && ((Region.ready md ops li).contains k && Region.free md ops li k && ((ops[k]?).map fun o => plainOp o.op).getD false) && treeB md ops n f r (li.setIfInBounds k true)
  | f + 1, .one k r, li => decide (k < n) && decide (Region.ready md ops li = [k]) && treeB md ops n f r (li.setIfInBounds k true)
  | f + 1, .two k1 r1 k2 r2, li => decide (k1 < n) && decide (k2 < n) && decide (Region.ready md ops li = [k1, k2]) && (treeB md ops n f r1 (li.setIfInBounds k1 true) && treeB md ops n f r2 (li.setIfInBounds k2 true))
  | f + 1, .three k1 r1 k2 r2 k3 r3, li => decide (k1 < n) && decide (k2 < n) && decide (k3 < n) && decide (Region.ready md ops li = [k1, k2, k3]) && (treeB md ops n f r1 (li.setIfInBounds k1 true) && treeB md ops n f r2 (li.setIfInBounds k2 true) && treeB md ops n f r3 (li.setIfInBounds k3 true))
  | _, _, _ => false

/-- The walk. -/
def wpTree (P : Program) (l : List Oper) (S : World → Prop) (Q : Exit → Act → World → Prop) (n : Nat) : Ord → Act → World → Prop
  | .done, a, w => wpList P l.toArray (NP Q) (l.drop n) a w
  | .take k r, a, w => wpQuiet P l.toArray S (fun a' => wpTree P l S Q n r a' w) [nthOp l k] a
  | .one k r, a, w => wpList P l.toArray (One Q fun a' w' => S w' ∧ wpTree P l S Q n r a' w') [nthOp l k] a w
  | .two k1 r1 k2 r2, a, w => wpList P l.toArray (One Q fun a' w' => S w' ∧ wpTree P l S Q n r1 a' w') [nthOp l k1] a w ∧ wpList P l.toArray (One Q fun a' w' => S w' ∧ wpTree P l S Q n r2 a' w') [nthOp l k2] a w
  | .three k1 r1 k2 r2 k3 r3, a, w => wpList P l.toArray (One Q fun a' w' => S w' ∧ wpTree P l S Q n r1 a' w') [nthOp l k1] a w ∧ wpList P l.toArray (One Q fun a' w' => S w' ∧ wpTree P l S Q n r2 a' w') [nthOp l k2] a w ∧ wpList P l.toArray (One Q fun a' w' => S w' ∧ wpTree P l S Q n r3 a' w') [nthOp l k3] a w
theorem wpTree_take {l : List Oper} {n k : Nat} {r : Ord} {a : Act} {w : World} (h : wpQuiet P l.toArray S (fun a' => wpTree P l S Q n r a' w) [nthOp l k] a) : wpTree P l S Q n (.take k r) a w := h
theorem wpTree_one {l : List Oper} {n k : Nat} {r : Ord} {a : Act} {w : World} (h : wpList P l.toArray (One Q fun a' w' => S w' ∧ wpTree P l S Q n r a' w') [nthOp l k] a w) : wpTree P l S Q n (.one k r) a w := h
theorem wpTree_two {l : List Oper} {n k1 k2 : Nat} {r1 r2 : Ord} {a : Act} {w : World} (h1 : wpList P l.toArray (One Q fun a' w' => S w' ∧ wpTree P l S Q n r1 a' w') [nthOp l k1] a w) (h2 : wpList P l.toArray (One Q fun a' w' => S w' ∧ wpTree P l S Q n r2 a' w') [nthOp l k2] a w) : wpTree P l S Q n (.two k1 r1 k2 r2) a w := ⟨h1, h2⟩
theorem wpTree_three {l : List Oper} {n k1 k2 k3 : Nat} {r1 r2 r3 : Ord} {a : Act} {w : World} (h1 : wpList P l.toArray (One Q fun a' w' => S w' ∧ wpTree P l S Q n r1 a' w') [nthOp l k1] a w) (h2 : wpList P l.toArray (One Q fun a' w' => S w' ∧ wpTree P l S Q n r2 a' w') [nthOp l k2] a w) (h3 : wpList P l.toArray (One Q fun a' w' => S w' ∧ wpTree P l S Q n r3 a' w') [nthOp l k3] a w) : wpTree P l S Q n (.three k1 r1 k2 r2 k3 r3) a w := ⟨h1, h2, h3⟩
theorem wpTree_done {l : List Oper} {n : Nat} {a : Act} {w : World} (h : wpList P l.toArray (NP Q) (l.drop n) a w) : wpTree P l S Q n .done a w := h

theorem headW_tree {n : Nat} {l : List Oper} (hsel : Region.noSelect l.toArray = true) (hs : Region.sinkB md l.toArray n = true) (hc : Region.chainB md l.toArray n = true) (hn : n < l.length) :
    ∀ (f : Nat) (r : Ord) (li : Array Bool) (a : Act) (w : World), HeadInv md l.toArray n li → S w → treeB md l.toArray n f r li = true → wpTree P l S Q n r a w →
      headW P md l.toArray Q S n (fun li' a' w' => Region.seqB md l.toArray (l.toArray.size - n) n li' = true ∧ wpList P l.toArray (NP Q) (l.drop n) a' w') f li a w
  | 0, .done, li, a, w, inv, _, hB, h => ⟨hB, h⟩
  | 0, .take _ _, _, _, _, _, _, hB, _ => by simp [treeB] at hB
  | 0, .one _ _, _, _, _, _, _, hB, _ => by simp [treeB] at hB
  | 0, .two _ _ _ _, _, _, _, _, _, hB, _ => by simp [treeB] at hB
  | 0, .three _ _ _ _ _ _, _, _, _, _, _, hB, _ => by simp [treeB] at hB
  | _ + 1, .done, _, _, _, _, _, hB, _ => by simp [treeB] at hB
  | f + 1, .take k r, li, a, w, inv, hS, hB, h => by
    simp only [treeB, Bool.and_eq_true, decide_eq_true_eq] at hB
    obtain ⟨⟨hkn, ⟨hr, hf⟩, hp⟩, hB'⟩ := hB
    have h0 : l.toArray[k]? = some (nthOp l k) := by simpa using nthOp_get (by omega : k < l.length)
    rw [h0] at hp
    have hr' : k ∈ Region.ready md l.toArray li := by simpa using hr
    have hq : wpQuiet P l.toArray S (fun a' => wpTree P l S Q n r a' w) [nthOp l k] a := h
    obtain ⟨v, hy, hK⟩ : ∃ v, YieldsIf P l.toArray S (nthOp l k) v a ∧ wpTree P l S Q n r (a.put (nthOp l k).dst v) w := by
      unfold wpQuiet at hq
      split at hq
      · rename_i hw
        exact yieldsIf_of_quiet (by simpa using hp) hw hq ⟨w, hS⟩
      · rename_i hw
        exact ⟨undef, .inr ⟨by simpa using hw, rfl⟩, hq⟩
    exact headW_take h0 (Region.noSelect_spec hsel) hs hc (by simpa using hn) hkn (fun _ _ _ hL => seqB_ready hL.1) _ li a w inv (Region.free_spec h0 hf) hr' hy hS
      (headW_tree hsel hs hc hn f r _ _ w (inv.set hr' hkn) hS hB' hK)
  | f + 1, .one k r, li, a, w, inv, hS, hB, h => by
    simp only [treeB, Bool.and_eq_true, decide_eq_true_eq] at hB
    obtain ⟨⟨hkn, hk⟩, hB'⟩ := hB
    have h0 : l.toArray[k]? = some (nthOp l k) := by simpa using nthOp_get (by omega : k < l.length)
    have hr' : k ∈ Region.ready md l.toArray li := by rw [hk]; simp
    refine ⟨List.ne_nil_of_mem hr', fun i hi => ?_⟩
    rw [hk] at hi
    obtain rfl : i = k := by simpa using hi
    exact ⟨hkn, wpOp_mono (fun a' w' h' => ⟨h'.1, headW_tree hsel hs hc hn f r _ a' w' (inv.set hr' hkn) h'.1 hB' h'.2⟩) (wpOp_of_one h0 h)⟩
  | f + 1, .two k1 r1 k2 r2, li, a, w, inv, hS, hB, h => by
    simp only [treeB, Bool.and_eq_true, decide_eq_true_eq] at hB
    obtain ⟨⟨⟨hk1, hk2⟩, hk⟩, hB1, hB2⟩ := hB
    obtain ⟨h1, h2⟩ := h
    have g1 : l.toArray[k1]? = some (nthOp l k1) := by simpa using nthOp_get (by omega : k1 < l.length)
    have g2 : l.toArray[k2]? = some (nthOp l k2) := by simpa using nthOp_get (by omega : k2 < l.length)
    have hr1 : k1 ∈ Region.ready md l.toArray li := by rw [hk]; simp
    have hr2 : k2 ∈ Region.ready md l.toArray li := by rw [hk]; simp
    refine ⟨List.ne_nil_of_mem hr1, fun i hi => ?_⟩
    rw [hk] at hi
    rcases (by simpa using hi : i = k1 ∨ i = k2) with rfl | rfl
    · exact ⟨hk1, wpOp_mono (fun a' w' h' => ⟨h'.1, headW_tree hsel hs hc hn f r1 _ a' w' (inv.set hr1 hk1) h'.1 hB1 h'.2⟩) (wpOp_of_one g1 h1)⟩
    · exact ⟨hk2, wpOp_mono (fun a' w' h' => ⟨h'.1, headW_tree hsel hs hc hn f r2 _ a' w' (inv.set hr2 hk2) h'.1 hB2 h'.2⟩) (wpOp_of_one g2 h2)⟩
  | f + 1, .three k1 r1 k2 r2 k3 r3, li, a, w, inv, hS, hB, h => by
    simp only [treeB, Bool.and_eq_true, decide_eq_true_eq] at hB
    obtain ⟨⟨⟨⟨hk1, hk2⟩, hk3⟩, hk⟩, ⟨hB1, hB2⟩, hB3⟩ := hB
    obtain ⟨h1, h2, h3⟩ := h
    have g1 : l.toArray[k1]? = some (nthOp l k1) := by simpa using nthOp_get (by omega : k1 < l.length)
    have g2 : l.toArray[k2]? = some (nthOp l k2) := by simpa using nthOp_get (by omega : k2 < l.length)
    have g3 : l.toArray[k3]? = some (nthOp l k3) := by simpa using nthOp_get (by omega : k3 < l.length)
    have hr1 : k1 ∈ Region.ready md l.toArray li := by rw [hk]; simp
    have hr2 : k2 ∈ Region.ready md l.toArray li := by rw [hk]; simp
    have hr3 : k3 ∈ Region.ready md l.toArray li := by rw [hk]; simp
    refine ⟨List.ne_nil_of_mem hr1, fun i hi => ?_⟩
    rw [hk] at hi
    rcases (by simpa using hi : i = k1 ∨ i = k2 ∨ i = k3) with rfl | rfl | rfl
    · exact ⟨hk1, wpOp_mono (fun a' w' h' => ⟨h'.1, headW_tree hsel hs hc hn f r1 _ a' w' (inv.set hr1 hk1) h'.1 hB1 h'.2⟩) (wpOp_of_one g1 h1)⟩
    · exact ⟨hk2, wpOp_mono (fun a' w' h' => ⟨h'.1, headW_tree hsel hs hc hn f r2 _ a' w' (inv.set hr2 hk2) h'.1 hB2 h'.2⟩) (wpOp_of_one g2 h2)⟩
    · exact ⟨hk3, wpOp_mono (fun a' w' h' => ⟨h'.1, headW_tree hsel hs hc hn f r3 _ a' w' (inv.set hr3 hk3) h'.1 hB3 h'.2⟩) (wpOp_of_one g3 h3)⟩

def treeOk (l : List Oper) (n : Nat) (r : Ord) : Bool :=
  Region.noSelect l.toArray && decide (n < l.length) && Region.sinkB .any l.toArray n && Region.chainB .any l.toArray n && treeB .any l.toArray n n r (Array.replicate l.length false)

/-- **THE RULE.** S: the class; n: the first of the last operations; r: the tree of the walk ahead of them. -/
theorem wp_region_tree {id : Nat} {a : Act} {w : World} {l : List Oper} (S : World → Prop) (n : Nat) (r : Ord) (hm : P.follows .mixedOrders = true) (hB : treeOk l n r = true) (hS : S w.drew)
    (h : wpTree P l S Q n r a w.drew) : (Code.region id l.toArray true).wp P Q a w := by
  simp only [treeOk, Bool.and_eq_true, decide_eq_true_eq] at hB
  obtain ⟨⟨⟨⟨hsel, hn⟩, hs⟩, hc⟩, hmix⟩ := hB
  have hdl : (l.drop n).length = l.toArray.size - n := by simp
  have inv0 : HeadInv .any l.toArray n (Array.replicate l.length false) :=
    ⟨by simp, fun j oj _ hl => (by rw [getD_replicate_false] at hl; cases hl), fun t _ ht => getD_in (by simpa using ht) (getD_replicate_false _ _)⟩
  have H := headW_tree (P := P) (Q := Q) hsel hs hc hn n r _ a w.drew inv0 hS hmix h
  have := any_of_headW (g := l.toArray.size - n) (fun li a' w' hL => by
    have := wpAny_of_seq (md := .any) (Q' := NP Q) (l.drop n) n li a' w' (fun j => by simp [List.getElem?_drop]) (by rw [hdl]; exact hL.1) hL.2
    rwa [hdl] at this) _ _ _ _ H
  rw [show n + (l.toArray.size - n) = l.toArray.size by simp; omega] at this
  refine Code.wp_mono NP.imp (wp_region_any hm ?_)
  simpa using this
end
end Go.Proofs.YtepiapgcpoifpaaGreat
