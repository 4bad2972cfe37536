/- A region that draws its order, walked by a tree, with a class of worlds for each operation that is taken first: it is owed only behind operations that do not wait for that one. -/
import Derived.Test.YtepiapgcpoifpaaGreatTree
set_option linter.unusedVariables false
set_option linter.unusedSimpArgs false
namespace Go.Proofs.YtepiapgcpoifpaaGreat
open Go Go.RowKit

inductive Odr where
  | done
  | take (k : Nat) (r : Odr)
  | one (k : Nat) (ks : List Nat) (r : Odr)
  | two (k1 : Nat) (s1 : List Nat) (r1 : Odr) (k2 : Nat) (s2 : List Nat) (r2 : Odr)
  | three (k1 : Nat) (s1 : List Nat) (r1 : Odr) (k2 : Nat) (s2 : List Nat) (r2 : Odr) (k3 : Nat) (s3 : List Nat) (r3 : Odr)

/-- The class of an operation: all worlds, if none is named. -/
def clsAt : List (Nat × (World → Prop)) → Nat → World → Prop
  | [], _ => fun _ => True
  | (i, F) :: r, k => bif i == k then F else clsAt r k
@[simp, go_sem] theorem clsAt_nil (k : Nat) (w : World) : clsAt [] k w = True := rfl
@[simp, go_sem] theorem clsAt_cons (i k : Nat) (F : World → Prop) (r : List (Nat × (World → Prop))) (w : World) : clsAt ((i, F) :: r) k w = (bif i == k then F w else clsAt r k w) := by
  simp only [clsAt]
  cases i == k <;> rfl
def Obl : List (Nat × (World → Prop)) → List Nat → World → Prop
  | [], _, _ => True
  | (i, F) :: r, ks, w => (ks.contains i = true → F w) ∧ Obl r ks w
theorem Obl.nil {ks : List Nat} {w : World} : Obl [] ks w := trivial
theorem Obl.out {i : Nat} {F : World → Prop} {r : List (Nat × (World → Prop))} {ks : List Nat} {w : World} (h : ks.contains i = false) (hr : Obl r ks w) : Obl ((i, F) :: r) ks w := ⟨fun e => (by rw [h] at e; cases e), hr⟩
theorem Obl.in {i : Nat} {F : World → Prop} {r : List (Nat × (World → Prop))} {ks : List Nat} {w : World} (h : F w) (hr : Obl r ks w) : Obl ((i, F) :: r) ks w := ⟨fun _ => h, hr⟩
theorem Obl.get : ∀ {cls : List (Nat × (World → Prop))} {ks : List Nat} {w : World}, Obl cls ks w → ∀ k, (cls.all fun p => ks.contains p.1 || !(p.1 == k)) = true → clsAt cls k w
  | [], _, _, _, _, _ => trivial
  | (i, F) :: r, ks, w, h, k, hk => by
    rw [clsAt_cons]
    simp only [List.all_cons, Bool.and_eq_true] at hk
    cases hik : i == k with
    | true =>
      rw [hik] at hk
      simp only [Bool.not_true, Bool.or_false] at hk
      exact h.1 hk.1
    | false => exact Obl.get h.2 k hk.2

section
variable {P : Program} {ops : Array Oper} {md : Region.Mode} {Q : Exit → Act → World → Prop}

def depB (md : Region.Mode) (ops : Array Oper) (j i : Nat) : Bool := match ops[j]? with
  | some o => o.after.any fun e => Region.binds md e && e.on == i
  | none => false

/-- So many operations of the head, in whatever order. -/
def headC (P : Program) (md : Region.Mode) (ops : Array Oper) (Q : Exit → Act → World → Prop) (C : Nat → World → Prop) (n : Nat) (L : Array Bool → Act → World → Prop) : Nat → Array Bool → Act → World → Prop
  | 0, li, a, w => L li a w
  | f + 1, li, a, w => Region.ready md ops li ≠ [] ∧ ∀ i ∈ Region.ready md ops li, i < n ∧ wpOp P ops (NP Q) i (fun a' w' => (∀ k, depB md ops i k = false → C k w → C k w') ∧ headC P md ops Q C n L f (li.setIfInBounds i true) a' w') a w

theorem any_of_headC {C : Nat → World → Prop} {n g : Nat} {L : Array Bool → Act → World → Prop} (hL : ∀ li a w, L li a w → wpAny P md ops (NP Q) g li a w) (f : Nat) :
    ∀ (li : Array Bool) (a : Act) (w : World), headC P md ops Q C n L f li a w → wpAny P md ops (NP Q) (f + g) li a w := by
  induction f with
  | zero => intro li a w h; rw [Nat.zero_add]; exact hL _ _ _ h
  | succ f ih =>
    intro li a w h
    rw [Nat.add_right_comm]
    exact ⟨fun h0 => absurd h0 h.1, fun i hi => wpOp_mono (fun a' w' h' => ih _ a' w' h'.2) (h.2 i hi).2⟩

theorem headC_take {C : Nat → World → Prop} {n i : Nat} {oi : Oper} {v : Value} {L : Array Bool → Act → World → Prop} (hi : ops[i]? = some oi) (hsel : ∀ (j : Nat) (o : Oper) cs b, ops[j]? = some o → o.op ≠ .select cs b)
    (hs : Region.sinkB md ops n = true) (hc : Region.chainB md ops n = true) (hn : n < ops.size) (hin : i < n) (hdone : ∀ li a w, L li a w → ∀ j ∈ Region.ready md ops li, n ≤ j) (f : Nat) :
    ∀ (li : Array Bool) (a : Act) (w : World), HeadInv md ops n li →
      (∀ j oj, ops[j]? = some oj → j ≠ i → li.getD j true = false → (∀ e ∈ oj.after, Region.binds md e = true → e.on ≠ i) → oi.apart ops oj = true) →
      i ∈ Region.ready md ops li → YieldsIf P ops (C i) oi v a → C i w → headC P md ops Q C n L f (li.setIfInBounds i true) (a.put oi.dst v) w → headC P md ops Q C n L (f + 1) li a w := by
  induction f with
  | zero =>
    intro li a w inv _ hr hy hS H
    have hlt := ready_head hs hc hn inv hin hr
    refine ⟨List.ne_nil_of_mem hr, fun j hj => ⟨hlt j hj, ?_⟩⟩
    rcases Nat.decEq j i with hji | rfl
    · have := hdone _ _ _ H j (ready_mono hj hji)
      have := hlt j hj
      omega
    · exact hy.wpOp hi hS ⟨fun _ _ h => h, H⟩
  | succ f ih =>
    intro li a w inv hap hr hy hS H
    have hlt := ready_head hs hc hn inv hin hr
    have hun := (mem_ready.1 hr).1
    refine ⟨List.ne_nil_of_mem hr, fun j hj => ⟨hlt j hj, ?_⟩⟩
    rcases Nat.decEq j i with hji | rfl
    · obtain ⟨hjun, oj, hoj, hall⟩ := mem_ready.1 hj
      have hno : ∀ e ∈ oj.after, Region.binds md e = true → e.on ≠ i := fun e he hb heq => by
        have h1 := hall e he hb
        rw [heq, getD_both hun] at h1
        cases h1
      have hdep : depB md ops j i = false := by
        unfold depB
        rw [hoj]
        rw [Bool.eq_false_iff]
        intro h
        simp only [Array.any_eq_true'] at h
        obtain ⟨e, he, h⟩ := h
        simp only [Bool.and_eq_true, beq_iff_eq] at h
        exact hno e he h.1 h.2
      refine wpOp_mono (fun a' w' h3 => ⟨h3.2.1, ih _ a' w' (inv.set hj (hlt j hj)) (fun k ok hk hki hku hkn => hap k ok hk hki ?_ hkn) (ready_mono hr (Ne.symm hji)) h3.1 (h3.2.1 i hdep hS) ?_⟩)
        (wpOp_putIf hoj (hap j oj hoj hji hjun hno) (fun cs b => hsel i oi cs b hi) (fun cs b => hsel j oj cs b hoj) (fun _ _ _ h => h) hy (H.2 j (ready_mono hj hji)).2)
      · rcases Nat.decEq j k with hjk | rfl
        · rwa [getD_set_ne true hjk] at hku
        · exact hjun
      · rw [Array.setIfInBounds_comm _ _ hji]
        exact h3.2.2
    · exact hy.wpOp hi hS ⟨fun _ _ h => h, H⟩

def oblB (md : Region.Mode) (ops : Array Oper) (cl : List Nat) (k : Nat) (ks : List Nat) : Bool := cl.all fun i => ks.contains i || depB md ops k i
def odrB (md : Region.Mode) (ops : Array Oper) (cl : List Nat) (n : Nat) : Nat → Odr → Array Bool → Bool
  | 0, .done, li => Region.seqB md ops (ops.size - n) n li
  | f + 1, .take k r, li => decide (k < n) && ((Region.ready md ops li).contains k && Region.free md ops li k && ((ops[k]?).map fun o => plainOp o.op).getD false) && odrB md ops cl n f r (li.setIfInBounds k true)
  | f + 1, .one k s r, li => decide (k < n) && decide (Region.ready md ops li = [k]) && oblB md ops cl k s && odrB md ops cl n f r (li.setIfInBounds k true)
  | f + 1, .two k1 s1 r1 k2 s2 r2, li => decide (k1 < n) && decide (k2 < n) && decide (Region.ready md ops li = [k1, k2]) && (oblB md ops cl k1 s1 && oblB md ops cl k2 s2) && (odrB md ops cl n f r1 (li.setIfInBounds k1 true) && odrB md ops cl n f r2 (li.setIfInBounds k2 true))
  | f + 1, .three k1 s1 r1 k2 s2 r2 k3 s3 r3, li => decide (k1 < n) && decide (k2 < n) && decide (k3 < n) && decide (Region.ready md ops li = [k1, k2, k3]) && (oblB md ops cl k1 s1 && oblB md ops cl k2 s2 && oblB md ops cl k3 s3) && (odrB md ops cl n f r1 (li.setIfInBounds k1 true) && odrB md ops cl n f r2 (li.setIfInBounds k2 true) && odrB md ops cl n f r3 (li.setIfInBounds k3 true))
  | _, _, _ => false

/-- The walk. -/
def wpOdr (P : Program) (l : List Oper) (cls : List (Nat × (World → Prop))) (Q : Exit → Act → World → Prop) (n : Nat) : Odr → Act → World → Prop
  | .done, a, w => wpList P l.toArray (NP Q) (l.drop n) a w
  | .take k r, a, w => clsAt cls k w ∧ wpQuiet P l.toArray (clsAt cls k) (fun a' => wpOdr P l cls Q n r a' w) [nthOp l k] a
  | .one k s r, a, w => wpList P l.toArray (One Q fun a' w' => Obl cls s w' ∧ wpOdr P l cls Q n r a' w') [nthOp l k] a w
  | .two k1 s1 r1 k2 s2 r2, a, w => wpList P l.toArray (One Q fun a' w' => Obl cls s1 w' ∧ wpOdr P l cls Q n r1 a' w') [nthOp l k1] a w ∧ wpList P l.toArray (One Q fun a' w' => Obl cls s2 w' ∧ wpOdr P l cls Q n r2 a' w') [nthOp l k2] a w
  | .three k1 s1 r1 k2 s2 r2 k3 s3 r3, a, w => wpList P l.toArray (One Q fun a' w' => Obl cls s1 w' ∧ wpOdr P l cls Q n r1 a' w') [nthOp l k1] a w ∧ wpList P l.toArray (One Q fun a' w' => Obl cls s2 w' ∧ wpOdr P l cls Q n r2 a' w') [nthOp l k2] a w ∧ wpList P l.toArray (One Q fun a' w' => Obl cls s3 w' ∧ wpOdr P l cls Q n r3 a' w') [nthOp l k3] a w
section
variable {l : List Oper} {n k : Nat} {cls : List (Nat × (World → Prop))} {a : Act} {w : World}
theorem wpOdr_take {r : Odr} (hS : clsAt cls k w) (h : wpQuiet P l.toArray (clsAt cls k) (fun a' => wpOdr P l cls Q n r a' w) [nthOp l k] a) : wpOdr P l cls Q n (.take k r) a w := ⟨hS, h⟩
theorem wpOdr_one {s : List Nat} {r : Odr} (h : wpList P l.toArray (One Q fun a' w' => Obl cls s w' ∧ wpOdr P l cls Q n r a' w') [nthOp l k] a w) : wpOdr P l cls Q n (.one k s r) a w := h
theorem wpOdr_two {k2 : Nat} {s1 s2 : List Nat} {r1 r2 : Odr} (h1 : wpList P l.toArray (One Q fun a' w' => Obl cls s1 w' ∧ wpOdr P l cls Q n r1 a' w') [nthOp l k] a w) (h2 : wpList P l.toArray (One Q fun a' w' => Obl cls s2 w' ∧ wpOdr P l cls Q n r2 a' w') [nthOp l k2] a w) : wpOdr P l cls Q n (.two k s1 r1 k2 s2 r2) a w := ⟨h1, h2⟩
theorem wpOdr_three {k2 k3 : Nat} {s1 s2 s3 : List Nat} {r1 r2 r3 : Odr} (h1 : wpList P l.toArray (One Q fun a' w' => Obl cls s1 w' ∧ wpOdr P l cls Q n r1 a' w') [nthOp l k] a w) (h2 : wpList P l.toArray (One Q fun a' w' => Obl cls s2 w' ∧ wpOdr P l cls Q n r2 a' w') [nthOp l k2] a w) (h3 : wpList P l.toArray (One Q fun a' w' => Obl cls s3 w' ∧ wpOdr P l cls Q n r3 a' w') [nthOp l k3] a w) : wpOdr P l cls Q n (.three k s1 r1 k2 s2 r2 k3 s3 r3) a w := ⟨h1, h2, h3⟩
theorem wpOdr_done (h : wpList P l.toArray (NP Q) (l.drop n) a w) : wpOdr P l cls Q n .done a w := h
theorem One_odr {s : List Nat} {K : Act → World → Prop} (hS : Obl cls s w) (h : K a w) : One Q (fun a' w' => Obl cls s w' ∧ K a' w') .normal a w := ⟨hS, h⟩
end

theorem obl_rel {cls : List (Nat × (World → Prop))} {k : Nat} {s : List Nat} {w w' : World} (hB : oblB md ops (cls.map (·.1)) k s = true) (h : Obl cls s w') : ∀ i, depB md ops k i = false → clsAt cls i w → clsAt cls i w' := by
  intro i hd _
  refine h.get i ?_
  rw [List.all_eq_true]
  intro p hp
  simp only [oblB, List.all_eq_true, List.mem_map] at hB
  have := hB p.1 ⟨p, hp, rfl⟩
  by_cases hpi : p.1 = i
  · rw [hpi] at this ⊢
    rw [hd, Bool.or_false] at this
    rw [this]; rfl
  · simp [hpi]

theorem headC_odr {cls : List (Nat × (World → Prop))} {n : Nat} {l : List Oper} (hsel : Region.noSelect l.toArray = true) (hs : Region.sinkB md l.toArray n = true) (hc : Region.chainB md l.toArray n = true) (hn : n < l.length) :
    ∀ (f : Nat) (r : Odr) (li : Array Bool) (a : Act) (w : World), HeadInv md l.toArray n li → odrB md l.toArray (cls.map (·.1)) n f r li = true → wpOdr P l cls Q n r a w →
      headC P md l.toArray Q (clsAt cls) n (fun li' a' w' => Region.seqB md l.toArray (l.toArray.size - n) n li' = true ∧ wpList P l.toArray (NP Q) (l.drop n) a' w') f li a w
  | 0, .done, li, a, w, inv, hB, h => ⟨hB, h⟩
  | 0, .take _ _, _, _, _, _, hB, _ => by simp [odrB] at hB
  | 0, .one _ _ _, _, _, _, _, hB, _ => by simp [odrB] at hB
  | 0, .two _ _ _ _ _ _, _, _, _, _, hB, _ => by simp [odrB] at hB
  | 0, .three _ _ _ _ _ _ _ _ _, _, _, _, _, hB, _ => by simp [odrB] at hB
  | _ + 1, .done, _, _, _, _, hB, _ => by simp [odrB] at hB
  | f + 1, .take k r, li, a, w, inv, hB, h => by
    simp only [odrB, Bool.and_eq_true, decide_eq_true_eq] at hB
    obtain ⟨⟨hkn, ⟨hr, hf⟩, hp⟩, hB'⟩ := hB
    obtain ⟨hS, hq⟩ := h
    have h0 : l.toArray[k]? = some (nthOp l k) := by simpa using nthOp_get (by omega : k < l.length)
    rw [h0] at hp
    have hr' : k ∈ Region.ready md l.toArray li := by simpa using hr
    obtain ⟨v, hy, hK⟩ : ∃ v, YieldsIf P l.toArray (clsAt cls k) (nthOp l k) v a ∧ wpOdr P l cls Q n r (a.put (nthOp l k).dst v) w := by
      unfold wpQuiet at hq
      split at hq
      · rename_i hw
        exact yieldsIf_of_quiet (by simpa using hp) hw hq ⟨w, hS⟩
      · rename_i hw
        exact ⟨undef, .inr ⟨by simpa using hw, rfl⟩, hq⟩
    exact headC_take (C := clsAt cls) h0 (Region.noSelect_spec hsel) hs hc (by simpa using hn) hkn (fun _ _ _ hL => seqB_ready hL.1) _ li a w inv (Region.free_spec h0 hf) hr' hy hS
      (headC_odr hsel hs hc hn f r _ _ w (inv.set hr' hkn) hB' hK)
  | f + 1, .one k s r, li, a, w, inv, hB, h => by
    simp only [odrB, Bool.and_eq_true, decide_eq_true_eq] at hB
    obtain ⟨⟨⟨hkn, hk⟩, ho⟩, hB'⟩ := hB
    have h0 : l.toArray[k]? = some (nthOp l k) := by simpa using nthOp_get (by omega : k < l.length)
    have hr' : k ∈ Region.ready md l.toArray li := by rw [hk]; simp
    refine ⟨List.ne_nil_of_mem hr', fun i hi => ?_⟩
    rw [hk] at hi
    obtain rfl : i = k := by simpa using hi
    exact ⟨hkn, wpOp_mono (fun a' w' h' => ⟨obl_rel ho h'.1, headC_odr hsel hs hc hn f r _ a' w' (inv.set hr' hkn) hB' h'.2⟩) (wpOp_of_one h0 h)⟩
  | f + 1, .two k1 s1 r1 k2 s2 r2, li, a, w, inv, hB, h => by
    simp only [odrB, Bool.and_eq_true, decide_eq_true_eq] at hB
    obtain ⟨⟨⟨⟨hk1, hk2⟩, hk⟩, ho1, ho2⟩, hB1, hB2⟩ := hB
    obtain ⟨h1, h2⟩ := h
    have g1 : l.toArray[k1]? = some (nthOp l k1) := by simpa using nthOp_get (by omega : k1 < l.length)
    have g2 : l.toArray[k2]? = some (nthOp l k2) := by simpa using nthOp_get (by omega : k2 < l.length)
    have hr1 : k1 ∈ Region.ready md l.toArray li := by rw [hk]; simp
    have hr2 : k2 ∈ Region.ready md l.toArray li := by rw [hk]; simp
    refine ⟨List.ne_nil_of_mem hr1, fun i hi => ?_⟩
    rw [hk] at hi
    rcases (by simpa using hi : i = k1 ∨ i = k2) with rfl | rfl
    · exact ⟨hk1, wpOp_mono (fun a' w' h' => ⟨obl_rel ho1 h'.1, headC_odr hsel hs hc hn f r1 _ a' w' (inv.set hr1 hk1) hB1 h'.2⟩) (wpOp_of_one g1 h1)⟩
    · exact ⟨hk2, wpOp_mono (fun a' w' h' => ⟨obl_rel ho2 h'.1, headC_odr hsel hs hc hn f r2 _ a' w' (inv.set hr2 hk2) hB2 h'.2⟩) (wpOp_of_one g2 h2)⟩
  | f + 1, .three k1 s1 r1 k2 s2 r2 k3 s3 r3, li, a, w, inv, hB, h => by
    simp only [odrB, Bool.and_eq_true, decide_eq_true_eq] at hB
    obtain ⟨⟨⟨⟨⟨hk1, hk2⟩, hk3⟩, hk⟩, ⟨ho1, ho2⟩, ho3⟩, ⟨hB1, hB2⟩, hB3⟩ := hB
    obtain ⟨h1, h2, h3⟩ := h
    have g1 : l.toArray[k1]? = some (nthOp l k1) := by simpa using nthOp_get (by omega : k1 < l.length)
    have g2 : l.toArray[k2]? = some (nthOp l k2) := by simpa using nthOp_get (by omega : k2 < l.length)
    have g3 : l.toArray[k3]? = some (nthOp l k3) := by simpa using nthOp_get (by omega : k3 < l.length)
    have hr1 : k1 ∈ Region.ready md l.toArray li := by rw [hk]; simp
    have hr2 : k2 ∈ Region.ready md l.toArray li := by rw [hk]; simp
    have hr3 : k3 ∈ Region.ready md l.toArray li := by rw [hk]; simp
    refine ⟨List.ne_nil_of_mem hr1, fun i hi => ?_⟩
    rw [hk] at hi
    rcases (by simpa using hi : i = k1 ∨ i = k2 ∨ i = k3) with rfl | rfl | rfl
    · exact ⟨hk1, wpOp_mono (fun a' w' h' => ⟨obl_rel ho1 h'.1, headC_odr hsel hs hc hn f r1 _ a' w' (inv.set hr1 hk1) hB1 h'.2⟩) (wpOp_of_one g1 h1)⟩
    · exact ⟨hk2, wpOp_mono (fun a' w' h' => ⟨obl_rel ho2 h'.1, headC_odr hsel hs hc hn f r2 _ a' w' (inv.set hr2 hk2) hB2 h'.2⟩) (wpOp_of_one g2 h2)⟩
    · exact ⟨hk3, wpOp_mono (fun a' w' h' => ⟨obl_rel ho3 h'.1, headC_odr hsel hs hc hn f r3 _ a' w' (inv.set hr3 hk3) hB3 h'.2⟩) (wpOp_of_one g3 h3)⟩

def odrOk (l : List Oper) (cl : List Nat) (n : Nat) (r : Odr) : Bool :=
  Region.noSelect l.toArray && decide (n < l.length) && Region.sinkB .any l.toArray n && Region.chainB .any l.toArray n && odrB .any l.toArray cl n n r (Array.replicate l.length false)

/-- **THE RULE.** cls: the classes by operation; cl: their numbers; n: the first of the last operations; r: the tree of the walk ahead of them. -/
theorem wp_region_odr {id : Nat} {a : Act} {w : World} {l : List Oper} (cls : List (Nat × (World → Prop))) (cl : List Nat) (n : Nat) (r : Odr) (hcl : cls.map (·.1) = cl) (hm : P.follows .mixedOrders = true) (hB : odrOk l cl n r = true)
    (h : wpOdr P l cls Q n r a w.drew) : (Code.region id l.toArray true).wp P Q a w := by
  subst hcl
  simp only [odrOk, Bool.and_eq_true, decide_eq_true_eq] at hB
  obtain ⟨⟨⟨⟨hsel, hn⟩, hs⟩, hc⟩, hmix⟩ := hB
  have hdl : (l.drop n).length = l.toArray.size - n := by simp
  have inv0 : HeadInv .any l.toArray n (Array.replicate l.length false) :=
    ⟨by simp, fun j oj _ hl => (by rw [getD_replicate_false] at hl; cases hl), fun t _ ht => getD_in (by simpa using ht) (getD_replicate_false _ _)⟩
  have H := headC_odr (P := P) (Q := Q) hsel hs hc hn n r _ a w.drew inv0 hmix h
  have := any_of_headC (g := l.toArray.size - n) (fun li a' w' hL => by
    have := wpAny_of_seq (md := .any) (Q' := NP Q) (l.drop n) n li a' w' (fun j => by simp [List.getElem?_drop]) (by rw [hdl]; exact hL.1) hL.2
    rwa [hdl] at this) _ _ _ _ H
  rw [show n + (l.toArray.size - n) = l.toArray.size by simp; omega] at this
  refine Code.wp_mono NP.imp (wp_region_any hm ?_)
  simpa using this
end
end Go.Proofs.YtepiapgcpoifpaaGreat
