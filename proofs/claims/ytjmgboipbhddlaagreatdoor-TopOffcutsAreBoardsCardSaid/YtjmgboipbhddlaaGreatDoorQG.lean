/- The tree of a layout's regions: what holds of the regions still whole, from step to step. Laws of a layout's regions: how they lie, and sums over them. Weights add up: a weight's scaled value never falls short where two fractions are put together. An accepted plan: its pieces lie in the usable rectangles, on sound wood, a kerf apart; there are as many as are wanted. -/
import Derived.Test.YtjmgboipbhddlaaGreatDoorRR
import Derived.Test.YtjmgboipbhddlaaGreatDoorPL3
set_option linter.unusedVariables false
set_option linter.unusedSimpArgs false
namespace Go.Proofs.YtjmgboipbhddlaaGreatDoor

/-- What a cut without error says. -/
theorem node_facts {c : Cut} {i n : Nat} {O : List Bool} (h : cutErrM c i n O = 0) (h0 : ¬ c.low = 0) : ∃ lo hi : Nat, c.low = lo ∧ c.high = hi ∧ i < lo ∧ i < hi ∧ lo ≠ hi ∧ lo < n ∧ hi < n ∧ O.getD lo false = false ∧ O.getD hi false = false := by
  unfold cutErrM at h
  split at h
  · rename_i h1; exact absurd h h1
  · rename_i h1
    have h1 : regionE c i n = 0 := by simpa using h1
    unfold regionE at h1
    rw [if_neg h0] at h1
    split at h1
    · simp at h1
    · split at h1
      · simp at h1
      · split at h1
        · simp at h1
        · rename_i h2 h3 h4
          refine ⟨c.low.toNat, c.high.toNat, by omega, by omega, by omega, by omega, by omega, by omega, by omega, ?_, ?_⟩
          · unfold markE at h
            rw [if_neg h0] at h
            split at h
            · simp at h
            · rename_i h5; simpa using h5
          · unfold markE at h
            rw [if_neg h0] at h
            split at h
            · simp at h
            · split at h
              · simp at h
              · rename_i h5; simpa using h5

def ownF (O : List Bool) (j : Nat) : Bool := j == 0 || O.getD j false
def rectF (R : List Rect) (j : Nat) : Rect := R.getD j zeroR
def ownS (o : Nat → Bool) (lo hi : Nat) (j : Nat) : Bool := o j || (j == lo || j == hi)
def rectS (r : Nat → Rect) (kerf : Int) (c : Cut) (i lo hi : Nat) (j : Nat) : Rect := if j = hi then highR (r i) c.across c.at_ kerf else if j = lo then lowR (r i) c.across c.at_ else r j
theorem ownF_mark {c : Cut} {O : List Bool} {lo hi : Nat} (h0 : ¬ c.low = 0) (h1 : c.low = lo) (h2 : c.high = hi) (hl : lo < O.length) (hh : hi < O.length) : ownF (markC c O) = ownS (ownF O) lo hi := by
  funext j
  unfold ownF ownS markC
  rw [if_neg h0, h1, h2]
  simp only [Int.toNat_natCast, List.getD_eq_getElem?_getD, List.getElem?_set, List.length_set]
  by_cases e1 : hi = j
  · subst e1; simp [ownF, hh]
  · by_cases e2 : lo = j
    · subst e2; simp [ownF, e1, hl]
    · have e3 : (j == lo) = false := by simpa using fun h => e2 h.symm
      have e4 : (j == hi) = false := by simpa using fun h => e1 h.symm
      rw [if_neg e1, if_neg e2, e3, e4, Bool.or_false, Bool.or_false]
theorem rectF_step {c : Cut} {R : List Rect} {kerf : Int} {i lo hi : Nat} (h1 : c.low = lo) (h2 : c.high = hi) (hl : lo < R.length) (hh : hi < R.length) : rectF (stepR kerf c (R.getD i ⟨0, 0, 0, 0⟩) R) = rectS (rectF R) kerf c i lo hi := by
  funext j
  unfold rectS stepR
  rw [h1, h2]
  simp only [rectF, Int.toNat_natCast, List.getD_eq_getElem?_getD, List.getElem?_set, List.length_set]
  by_cases e1 : hi = j
  · subst e1; simp [hh]; rfl
  · by_cases e2 : lo = j
    · subst e2
      rw [if_neg e1, if_pos rfl, if_pos hl, if_neg (fun h => e1 h.symm), if_pos rfl]; rfl
    · rw [if_neg e1, if_neg e2, if_neg (fun h => e1 h.symm), if_neg (fun h => e2 h.symm)]

theorem markC_keep {c : Cut} {i n j : Nat} {O : List Bool} (h : cutErrM c i n O = 0) (hj : j ≤ i) : (markC c O).getD j false = O.getD j false := by
  by_cases h0 : c.low = 0
  · unfold markC; rw [if_pos h0]
  · obtain ⟨lo, hi, h1, h2, h3, h4, -⟩ := node_facts h h0
    unfold markC
    rw [if_neg h0, h1, h2]
    simp only [Int.toNat_natCast, List.getD_eq_getElem?_getD, List.getElem?_set, List.length_set]
    rw [if_neg (by omega), if_neg (by omega)]
theorem ownGo_keep {n : Nat} : ∀ (l : List Cut) (i : Nat) (O : List Bool) (j : Nat), (ownGo n l i O).1 = 0 → j ≤ i → ((ownGo n l i O).2).getD j false = O.getD j false
  | [], _, _, _, _, _ => rfl
  | c :: l, i, O, j, h, hj => by
    unfold ownGo at h ⊢
    by_cases he : cutErrM c i n O = 0
    · rw [if_neg (by simp [he])] at h ⊢
      rw [ownGo_keep l (i + 1) _ j h (by omega), markC_keep he hj]
    · rw [if_pos he] at h; exact absurd h he

section
variable {kerf : Int} {l : List Cut}
/-- From step to step. -/
theorem reg_go (Inv : Nat → (Nat → Bool) → (Nat → Rect) → Prop)
    (leaf : ∀ i o r (h : i < l.length), l[i].low = 0 → o i = true → Inv i o r → Inv (i + 1) o r)
    (node : ∀ i o r lo hi (h : i < l.length), l[i].low = (lo : Nat) → l[i].high = (hi : Nat) → i < lo → i < hi → lo ≠ hi → lo < l.length → hi < l.length → o lo = false → o hi = false → o i = true → (1 ≤ l[i].at_ ∧ l[i].at_ ≤ sizeR (r i) l[i].across - 1) → Inv i o r → Inv (i + 1) (ownS o lo hi) (rectS r kerf l[i] i lo hi)) :
    ∀ (m i : Nat) (O : List Bool) (R : List Rect), i + m = l.length → O.length = l.length → R.length = l.length → (ownGo l.length (l.drop i) i O).1 = 0 → (rectGo kerf (l.drop i) i R).2 = 0 →
      (∀ j, j < l.length → ownF (ownGo l.length (l.drop i) i O).2 j = true) → Inv i (ownF O) (rectF R) → Inv l.length (ownF (ownGo l.length (l.drop i) i O).2) (rectF (rectGo kerf (l.drop i) i R).1)
  | 0, i, O, R, hm, _, _, _, _, _, hI => by
    obtain rfl : i = l.length := by omega
    rw [List.drop_length]
    exact hI
  | m + 1, i, O, R, hm, hO, hR, h1, h2, hall, hI => by
    have hi : i < l.length := by omega
    rw [List.drop_eq_getElem_cons hi] at h1 h2 hall ⊢
    have hE : cutErrM l[i] i l.length O = 0 := by
      unfold ownGo at h1
      split at h1
      · rename_i h; exact absurd h1 h
      · rename_i h; simpa using h
    have hown : ownGo l.length (l[i] :: l.drop (i + 1)) i O = ownGo l.length (l.drop (i + 1)) (i + 1) (markC l[i] O) := by rw [ownGo, if_neg (by simp [hE])]
    have hoi : ownF O i = true := by
      have h := hall i hi
      unfold ownF at h ⊢
      rw [ownGo_keep _ _ _ _ h1 (Nat.le_refl _)] at h
      exact h
    rw [hown] at h1 hall ⊢
    by_cases h0 : l[i].low = 0
    · have hrec : rectGo kerf (l[i] :: l.drop (i + 1)) i R = rectGo kerf (l.drop (i + 1)) (i + 1) R := by rw [rectGo, if_pos h0]
      have hmk : markC l[i] O = O := by unfold markC; rw [if_pos h0]
      rw [hrec] at h2 ⊢
      rw [hmk] at h1 hall ⊢
      exact reg_go Inv leaf node m (i + 1) O R (by omega) hO hR h1 h2 hall (leaf i _ _ hi h0 hoi hI)
    · obtain ⟨lo, hi', e1, e2, g1, g2, g3, g4, g5, g6, g7⟩ := node_facts hE h0
      have hw : withinB l[i].at_ 1 (sizeR (R.getD i ⟨0, 0, 0, 0⟩) l[i].across - 1) = true := by
        rw [rectGo, if_neg h0] at h2
        split at h2
        · simp at h2
        · rename_i h; simpa using h
      have hrec : rectGo kerf (l[i] :: l.drop (i + 1)) i R = rectGo kerf (l.drop (i + 1)) (i + 1) (stepR kerf l[i] (R.getD i ⟨0, 0, 0, 0⟩) R) := by rw [rectGo, if_neg h0, if_neg (by rw [hw]; decide)]
      rw [hrec] at h2 ⊢
      refine reg_go Inv leaf node m (i + 1) _ _ (by omega) (by rw [markC_len]; exact hO) (by rw [stepR_len]; exact hR) h1 h2 hall ?_
      rw [ownF_mark h0 e1 e2 (by omega) (by omega), rectF_step e1 e2 (by omega) (by omega)]
      refine node i _ _ lo hi' hi e1 e2 g1 g2 g3 g4 g5 ?_ ?_ hoi (withinB_true hw) hI
      · unfold ownF; rw [g6]; simp; omega
      · unfold ownF; rw [g7]; simp; omega

/-- Of a layout that is right. -/
theorem reg_inv {u : Rect} (Inv : Nat → (Nat → Bool) → (Nat → Rect) → Prop) (h : (regM u kerf l).2 = 0)
    (h0 : Inv 0 (fun j => j == 0) (fun j => if j = 0 then u else zeroR))
    (leaf : ∀ i o r (h : i < l.length), l[i].low = 0 → o i = true → Inv i o r → Inv (i + 1) o r)
    (node : ∀ i o r lo hi (h : i < l.length), l[i].low = (lo : Nat) → l[i].high = (hi : Nat) → i < lo → i < hi → lo ≠ hi → lo < l.length → hi < l.length → o lo = false → o hi = false → o i = true → (1 ≤ l[i].at_ ∧ l[i].at_ ≤ sizeR (r i) l[i].across - 1) → Inv i o r → Inv (i + 1) (ownS o lo hi) (rectS r kerf l[i] i lo hi)) :
    ∃ o, (∀ j, j < l.length → o j = true) ∧ Inv l.length o (rectF (regM u kerf l).1) := by
  unfold regM at h ⊢
  split
  · rename_i g0; rw [if_pos g0] at h; simp at h
  · rename_i g0; rw [if_neg g0] at h
    split
    · rename_i g1; rw [if_pos g1] at h; simp at h
    · rename_i g1; rw [if_neg g1] at h
      split
      · rename_i g2; rw [if_pos g2] at h; exact absurd h g2
      · rename_i g2; rw [if_neg g2] at h
        split
        · rename_i g3; rw [if_pos g3] at h; simp at h
        · rename_i g3; rw [if_neg g3] at h
          have g2' : (ownGo l.length l 0 (List.replicate l.length false)).1 = 0 := by simpa using g2
          have hall : ∀ j, j < l.length → ownF (ownGo l.length l 0 (List.replicate l.length false)).2 j = true := fun j hj => by
            have ha : (((ownGo l.length l 0 (List.replicate l.length false)).2).set 0 true).all id = true := by simpa using g3
            unfold ownF
            by_cases e : j = 0
            · simp [e]
            · have hlen : (ownGo l.length l 0 (List.replicate l.length false)).2.length = l.length := by
                have : ∀ (l' : List Cut) (n i : Nat) (O : List Bool), (ownGo n l' i O).2.length = O.length := by
                  intro l'
                  induction l' with
                  | nil => intro n i O; rfl
                  | cons c l' ih => intro n i O; unfold ownGo; split <;> simp [ih, markC_len]
                rw [this, List.length_replicate]
              have hm := List.all_eq_true.1 ha ((((ownGo l.length l 0 (List.replicate l.length false)).2).set 0 true)[j]'(by simpa [hlen] using hj)) (List.getElem_mem _)
              rw [List.getElem_set, if_neg (fun e' => e e'.symm)] at hm
              simp only [id] at hm
              rw [List.getD_eq_getElem?_getD, List.getElem?_eq_getElem (by omega)]
              simp [hm]
          have hstart : Inv 0 (ownF (List.replicate l.length false)) (rectF ((List.replicate l.length ⟨0, 0, 0, 0⟩).set 0 u)) := by
            have e1 : ownF (List.replicate l.length false) = fun j => j == 0 := by
              funext j
              unfold ownF
              rw [List.getD_eq_getElem?_getD, List.getElem?_replicate]
              split <;> simp
            have e2 : rectF ((List.replicate l.length ⟨0, 0, 0, 0⟩).set 0 u) = fun j => if j = 0 then u else zeroR := by
              funext j
              unfold rectF
              rw [List.getD_eq_getElem?_getD, List.getElem?_set, List.getElem?_replicate]
              by_cases e : j = 0
              · subst e; simp; rw [if_pos (by omega)]; rfl
              · rw [if_neg (fun e' => e e'.symm), if_neg e]
                split <;> rfl
            rw [e1, e2]; exact h0
          have := reg_go (kerf := kerf) Inv leaf node l.length 0 (List.replicate l.length false) ((List.replicate l.length ⟨0, 0, 0, 0⟩).set 0 u) (by omega) (by simp) (by simp) (by simpa using g2') (by simpa using h) (by simpa using hall) hstart
          rw [List.drop_zero] at this
          exact ⟨_, hall, this⟩
end
end Go.Proofs.YtjmgboipbhddlaaGreatDoor

set_option linter.unusedVariables false
set_option linter.unusedSimpArgs false
namespace Go.Proofs.YtjmgboipbhddlaaGreatDoor

def sumTo : Nat → (Nat → Int) → Int
  | 0, _ => 0
  | n + 1, f => sumTo n f + f n
theorem sumTo_congr {f g : Nat → Int} : ∀ {n : Nat}, (∀ j, j < n → f j = g j) → sumTo n f = sumTo n g
  | 0, _ => rfl
  | n + 1, h => by unfold sumTo; rw [sumTo_congr fun j hj => h j (by omega), h n (by omega)]
theorem sumTo_add (f g : Nat → Int) : ∀ n, sumTo n (fun j => f j + g j) = sumTo n f + sumTo n g
  | 0 => rfl
  | n + 1 => by simp only [sumTo]; rw [sumTo_add f g n]; omega
theorem sumTo_zero : ∀ n, sumTo n (fun _ => 0) = 0
  | 0 => rfl
  | n + 1 => by simp only [sumTo]; rw [sumTo_zero n]; rfl
theorem sumTo_le {f g : Nat → Int} : ∀ {n : Nat}, (∀ j, j < n → f j ≤ g j) → sumTo n f ≤ sumTo n g
  | 0, _ => Int.le_refl _
  | n + 1, h => by
    unfold sumTo
    have h1 := sumTo_le (n := n) fun j hj => h j (by omega)
    have h2 := h n (by omega)
    omega
theorem sumTo_one (a : Nat) (x : Int) : ∀ n, sumTo n (fun j => if j = a then x else 0) = if a < n then x else 0
  | 0 => by simp [sumTo]
  | n + 1 => by
    simp only [sumTo]
    rw [sumTo_one a x n]
    by_cases h1 : a < n
    · rw [if_pos h1, if_neg (by omega), if_pos (by omega)]; omega
    · rw [if_neg h1]
      by_cases h2 : n = a
      · rw [if_pos h2, if_pos (by omega)]; omega
      · rw [if_neg h2, if_neg (by omega)]; rfl

def cutF (l : List Cut) (j : Nat) : Cut := l.getD j default
theorem cutF_get {l : List Cut} {j : Nat} (h : j < l.length) : cutF l j = l[j] := by unfold cutF; rw [List.getD_eq_getElem?_getD, List.getElem?_eq_getElem h]; rfl
def lowN (l : List Cut) (j : Nat) : Nat := (cutF l j).low.toNat
def highN (l : List Cut) (j : Nat) : Nat := (cutF l j).high.toNat

section
variable {kerf : Int} {l : List Cut} {u : Rect}

/-- Each region but the first is the child of just one. -/
theorem reg_count (h : (regM u kerf l).2 = 0) (g : Nat → Int) : sumTo l.length g = g 0 + sumTo l.length (fun j => if (cutF l j).low = 0 then 0 else g (lowN l j) + g (highN l j)) := by
  by_cases hn : l.length = 0
  · unfold regM at h; rw [if_pos hn] at h; simp at h
  obtain ⟨o, ho, hI⟩ := reg_inv (l := l) (u := u) (kerf := kerf) (fun i o _ => sumTo l.length (fun j => if o j = true then g j else 0) = g 0 + sumTo i (fun j => if (cutF l j).low = 0 then 0 else g (lowN l j) + g (highN l j))) h
    (by
      have : sumTo l.length (fun j => if (j == 0) = true then g j else 0) = sumTo l.length (fun j => if j = 0 then g 0 else 0) := sumTo_congr fun j _ => by
        by_cases e : j = 0
        · subst e; simp
        · simp [e]
      rw [this, sumTo_one, if_pos (by omega)]
      simp [sumTo])
    (fun i o r hi h0 _ hI => by
      rw [hI]
      simp only [sumTo]
      rw [cutF_get hi, if_pos h0]; omega)
    (fun i o r lo hi hlt h1 h2 g1 g2 g3 g4 g5 g6 g7 _ _ hI => by
      have e1 : sumTo l.length (fun j => if ownS o lo hi j = true then g j else 0) = sumTo l.length (fun j => (if o j = true then g j else 0) + ((if j = lo then g lo else 0) + (if j = hi then g hi else 0))) := sumTo_congr fun j _ => by
        unfold ownS
        by_cases a1 : j = lo
        · subst a1; rw [g6, if_neg g3]; simp
        · by_cases a2 : j = hi
          · subst a2; rw [g7, if_neg a1]; simp
          · rw [if_neg a1, if_neg a2]
            have b1 : (j == lo) = false := by simpa using a1
            have b2 : (j == hi) = false := by simpa using a2
            rw [b1, b2]; simp
      rw [e1, sumTo_add, hI, sumTo_add, sumTo_one, sumTo_one, if_pos g4, if_pos g5]
      simp only [sumTo]
      have e2 : lowN l i = lo := by unfold lowN; rw [cutF_get hlt, h1]; simp
      have e3 : highN l i = hi := by unfold highN; rw [cutF_get hlt, h2]; simp
      rw [e2, e3, cutF_get hlt, if_neg (by rw [h1]; omega)]
      omega)
  rw [← hI]
  exact sumTo_congr fun j hj => by rw [if_pos (ho j hj)]

/-- The sum over the leaves, with what each cut takes away, is that of the whole. -/
theorem reg_leaves (h : (regM u kerf l).2 = 0) (g : Nat → Int) : sumTo l.length (fun j => if (cutF l j).low = 0 then g j else g j - g (lowN l j) - g (highN l j)) = g 0 := by
  have h1 := reg_count h g
  have h2 : sumTo l.length (fun j => if (cutF l j).low = 0 then g j else g j - g (lowN l j) - g (highN l j)) + sumTo l.length (fun j => if (cutF l j).low = 0 then 0 else g (lowN l j) + g (highN l j)) = sumTo l.length g := by
    rw [← sumTo_add]
    exact sumTo_congr fun j _ => by split <;> omega
  omega
theorem reg_leaves_le (h : (regM u kerf l).2 = 0) (g : Nat → Int) (hg : ∀ j, j < l.length → ¬ (cutF l j).low = 0 → g (lowN l j) + g (highN l j) ≤ g j) : sumTo l.length (fun j => if (cutF l j).low = 0 then g j else 0) ≤ g 0 := by
  rw [← reg_leaves h g]
  refine sumTo_le fun j hj => ?_
  split
  · omega
  · rename_i h0; have := hg j hj h0; omega

/-- What a cut says of the rectangles. -/
structure NodeR (l : List Cut) (kerf : Int) (r : Nat → Rect) (j : Nat) : Prop where
  lo : lowN l j < l.length
  hi : highN l j < l.length
  ne : lowN l j ≠ highN l j
  at1 : 1 ≤ (cutF l j).at_
  at2 : (cutF l j).at_ ≤ sizeR (r j) (cutF l j).across - 1
  low : r (lowN l j) = lowR (r j) (cutF l j).across (cutF l j).at_
  high : r (highN l j) = highR (r j) (cutF l j).across (cutF l j).at_ kerf

theorem reg_struct (h : (regM u kerf l).2 = 0) : rectF (regM u kerf l).1 0 = u ∧ ∀ j, j < l.length → ¬ (cutF l j).low = 0 → NodeR l kerf (rectF (regM u kerf l).1) j := by
  obtain ⟨o, ho, hI⟩ := reg_inv (l := l) (u := u) (kerf := kerf) (fun i o r => o 0 = true ∧ r 0 = u ∧ ∀ j, j < i → j < l.length → ¬ (cutF l j).low = 0 → o j = true ∧ o (lowN l j) = true ∧ o (highN l j) = true ∧ NodeR l kerf r j) h
    ⟨rfl, rfl, fun j hj => by omega⟩
    (fun i o r hi h0 _ ⟨a0, a1, a2⟩ => ⟨a0, a1, fun j hj hjl hc => by
      by_cases e : j = i
      · subst e; rw [cutF_get hi] at hc; exact absurd h0 hc
      · exact a2 j (by omega) hjl hc⟩)
    (fun i o r lo hi hlt h1 h2 g1 g2 g3 g4 g5 g6 g7 g8 g9 ⟨a0, a1, a2⟩ => by
      have e2 : lowN l i = lo := by unfold lowN; rw [cutF_get hlt, h1]; simp
      have e3 : highN l i = hi := by unfold highN; rw [cutF_get hlt, h2]; simp
      have keep : ∀ j, o j = true → rectS r kerf l[i] i lo hi j = r j := fun j hj => by
        unfold rectS
        rw [if_neg (fun e => by subst e; rw [g7] at hj; cases hj), if_neg (fun e => by subst e; rw [g6] at hj; cases hj)]
      have own : ∀ j, o j = true → ownS o lo hi j = true := fun j hj => by unfold ownS; rw [hj]; rfl
      refine ⟨own 0 a0, by rw [keep 0 a0]; exact a1, fun j hj hjl hc => ?_⟩
      by_cases e : j = i
      · subst e
        refine ⟨own j g8, ?_, ?_, ?_⟩
        · rw [e2]; unfold ownS; simp
        · rw [e3]; unfold ownS; simp
        · refine ⟨by rw [e2]; exact g4, by rw [e3]; exact g5, by rw [e2, e3]; exact g3, by rw [cutF_get hlt]; exact g9.1, by rw [cutF_get hlt, keep j g8]; exact g9.2, ?_, ?_⟩
          · rw [e2, keep j g8, cutF_get hlt]; unfold rectS; rw [if_neg g3, if_pos rfl]
          · rw [e3, keep j g8, cutF_get hlt]; unfold rectS; rw [if_pos rfl]
      · obtain ⟨b1, b2, b3, b4⟩ := a2 j (by omega) hjl hc
        exact ⟨own _ b1, own _ b2, own _ b3, b4.lo, b4.hi, b4.ne, b4.at1, by rw [keep _ b1]; exact b4.at2, by rw [keep _ b2, keep _ b1]; exact b4.low, by rw [keep _ b3, keep _ b1]; exact b4.high⟩)
  exact ⟨hI.2.1, fun j hj hc => (hI.2.2 j hj hj hc).2.2.2⟩

/-! How they lie. -/
def within (q r : Rect) : Prop := r.x1 ≤ q.x1 ∧ q.x1 < q.x2 ∧ q.x2 ≤ r.x2 ∧ r.y1 ≤ q.y1 ∧ q.y1 < q.y2 ∧ q.y2 ≤ r.y2
def apart (kerf : Int) (a b : Rect) : Prop := a.x2 + kerf ≤ b.x1 ∨ b.x2 + kerf ≤ a.x1 ∨ a.y2 + kerf ≤ b.y1 ∨ b.y2 + kerf ≤ a.y1
theorem apart.symm {a b : Rect} (h : apart kerf a b) : apart kerf b a := by unfold apart at *; omega
theorem apart.sub {a b c : Rect} (h : apart kerf a b) (hc : within c b) : apart kerf a c := by unfold apart within at *; omega
theorem within.trans {a b c : Rect} (h : within a b) (h' : within b c) : within a c := by unfold within at *; omega
theorem low_in {q : Rect} {ac : Bool} {a : Int} (hq : q.x1 < q.x2 ∧ q.y1 < q.y2) (ha : 1 ≤ a ∧ a ≤ sizeR q ac - 1) : within (lowR q ac a) q := by
  unfold within lowR
  unfold sizeR at ha
  split at ha <;> simp_all <;> omega
theorem high_in {q : Rect} {ac : Bool} {a : Int} (hk : 0 ≤ kerf) (hq : q.x1 < q.x2 ∧ q.y1 < q.y2) (ha : 1 ≤ a ∧ a ≤ sizeR q ac - 1) : highR q ac a kerf = zeroR ∨ (within (highR q ac a kerf) q ∧ apart kerf (lowR q ac a) (highR q ac a kerf)) := by
  unfold highR wholeR
  by_cases h1 : (if ac = true then (⟨q.x1 + a + kerf, q.y1, q.x2, q.y2⟩ : Rect) else ⟨q.x1, q.y1 + a + kerf, q.x2, q.y2⟩).x2 ≤ (if ac = true then (⟨q.x1 + a + kerf, q.y1, q.x2, q.y2⟩ : Rect) else ⟨q.x1, q.y1 + a + kerf, q.x2, q.y2⟩).x1 ∨ (if ac = true then (⟨q.x1 + a + kerf, q.y1, q.x2, q.y2⟩ : Rect) else ⟨q.x1, q.y1 + a + kerf, q.x2, q.y2⟩).y2 ≤ (if ac = true then (⟨q.x1 + a + kerf, q.y1, q.x2, q.y2⟩ : Rect) else ⟨q.x1, q.y1 + a + kerf, q.x2, q.y2⟩).y1
  · rw [if_pos h1]; exact .inl rfl
  · rw [if_neg h1]
    refine .inr ?_
    unfold sizeR at ha
    unfold within apart lowR
    cases ac <;> simp at h1 ha ⊢ <;> omega
theorem size_real {q : Rect} {ac : Bool} {a : Int} (hq : q = zeroR ∨ (q.x1 < q.x2 ∧ q.y1 < q.y2)) (ha : 1 ≤ a ∧ a ≤ sizeR q ac - 1) : q.x1 < q.x2 ∧ q.y1 < q.y2 := by
  rcases hq with rfl | h
  · unfold sizeR zeroR at ha; cases ac <;> simp at ha <;> omega
  · exact h

theorem reg_apart (hu : u = zeroR ∨ (u.x1 < u.x2 ∧ u.y1 < u.y2)) (hk : 0 ≤ kerf) (h : (regM u kerf l).2 = 0) :
    (∀ i, i < l.length → rectF (regM u kerf l).1 i = zeroR ∨ within (rectF (regM u kerf l).1 i) u) ∧
    ∀ i j, i < l.length → j < l.length → i ≠ j → (cutF l i).low = 0 → (cutF l j).low = 0 → rectF (regM u kerf l).1 i = zeroR ∨ rectF (regM u kerf l).1 j = zeroR ∨ apart kerf (rectF (regM u kerf l).1 i) (rectF (regM u kerf l).1 j) := by
  obtain ⟨o, ho, h1, h2⟩ := reg_inv (l := l) (u := u) (kerf := kerf) (fun i o r => (∀ j, o j = true → r j = zeroR ∨ within (r j) u) ∧ ∀ a b, o a = true → o b = true → a ≠ b → (i ≤ a ∨ (cutF l a).low = 0) → (i ≤ b ∨ (cutF l b).low = 0) → r a = zeroR ∨ r b = zeroR ∨ apart kerf (r a) (r b)) h
    ⟨fun j hj => by
      have : j = 0 := by simpa using hj
      subst this
      rcases hu with hu | hu
      · exact .inl (by simpa using hu)
      · exact .inr (by unfold within; simp; omega), fun a b ha hb hne => by
      have h1 : a = 0 := by simpa using ha
      have h2 : b = 0 := by simpa using hb
      omega⟩
    (fun i o r hi h0 ho ⟨a1, a2⟩ => ⟨a1, fun a b ha hb hne fa fb => a2 a b ha hb hne
      (by rcases fa with fa | fa
          · exact .inl (by omega)
          · exact .inr fa)
      (by rcases fb with fb | fb
          · exact .inl (by omega)
          · exact .inr fb)⟩)
    (fun i o r lo hi hlt h1 h2 g1 g2 g3 g4 g5 g6 g7 g8 g9 ⟨a1, a2⟩ => by
      have hreal : r i = zeroR ∨ ((r i).x1 < (r i).x2 ∧ (r i).y1 < (r i).y2) := by
        rcases a1 i g8 with e | e
        · exact .inl e
        · exact .inr ⟨e.2.1, e.2.2.2.2.1⟩
      have hq := size_real hreal g9
      have hqi : within (r i) u := by
        rcases a1 i g8 with e | e
        · rw [e] at hq; unfold zeroR at hq; simp at hq
        · exact e
      have hlow := low_in hq g9
      have hhigh := high_in hk hq g9
      have keep : ∀ j, j ≠ lo → j ≠ hi → rectS r kerf l[i] i lo hi j = r j := fun j c1 c2 => by unfold rectS; rw [if_neg c2, if_neg c1]
      have rlo : rectS r kerf l[i] i lo hi lo = lowR (r i) l[i].across l[i].at_ := by unfold rectS; rw [if_neg g3, if_pos rfl]
      have rhi : rectS r kerf l[i] i lo hi hi = highR (r i) l[i].across l[i].at_ kerf := by unfold rectS; rw [if_pos rfl]
      have owns : ∀ j, ownS o lo hi j = true → j = lo ∨ j = hi ∨ (o j = true ∧ j ≠ lo ∧ j ≠ hi) := fun j hj => by
        by_cases c1 : j = lo
        · exact .inl c1
        · by_cases c2 : j = hi
          · exact .inr (.inl c2)
          · unfold ownS at hj
            have b1 : (j == lo) = false := by simpa using c1
            have b2 : (j == hi) = false := by simpa using c2
            rw [b1, b2] at hj
            exact .inr (.inr ⟨by simpa using hj, c1, c2⟩)
      have hni : ∀ b, (i + 1 ≤ b ∨ (cutF l b).low = 0) → b ≠ i := fun b fb e => by
        subst e
        rcases fb with fb | fb
        · omega
        · rw [cutF_get hlt, h1] at fb; omega
      have old : ∀ b, o b = true → (i + 1 ≤ b ∨ (cutF l b).low = 0) → r b = zeroR ∨ apart kerf (r b) (r i) := fun b hb fb => by
        rcases a2 b i hb g8 (hni b fb) (by rcases fb with fb | fb
                                           · exact .inl (by omega)
                                           · exact .inr fb) (.inl (Nat.le_refl _)) with e | e | e
        · exact .inl e
        · rw [e] at hq; unfold zeroR at hq; simp at hq
        · exact .inr e
      refine ⟨fun j hj => ?_, fun a b ha hb hne fa fb => ?_⟩
      · rcases owns j hj with rfl | rfl | ⟨c, c1, c2⟩
        · rw [rlo]; exact .inr (hlow.trans hqi)
        · rw [rhi]
          rcases hhigh with e | e
          · exact .inl e
          · exact .inr (e.1.trans hqi)
        · rw [keep j c1 c2]; exact a1 j c
      · rcases owns a ha with rfl | rfl | ⟨c, c1, c2⟩
        · rcases owns b hb with rfl | rfl | ⟨d, d1, d2⟩
          · exact absurd rfl hne
          · rw [rlo, rhi]
            rcases hhigh with e | e
            · exact .inr (.inl e)
            · exact .inr (.inr e.2)
          · rw [rlo, keep b d1 d2]
            rcases old b d fb with e | e
            · exact .inr (.inl e)
            · exact .inr (.inr (e.sub hlow).symm)
        · rcases owns b hb with rfl | rfl | ⟨d, d1, d2⟩
          · rw [rlo, rhi]
            rcases hhigh with e | e
            · exact .inl e
            · exact .inr (.inr e.2.symm)
          · exact absurd rfl hne
          · rw [rhi, keep b d1 d2]
            rcases hhigh with e | e
            · exact .inl e
            · rcases old b d fb with e' | e'
              · exact .inr (.inl e')
              · exact .inr (.inr (e'.sub e.1).symm)
        · rcases owns b hb with rfl | rfl | ⟨d, d1, d2⟩
          · rw [rlo, keep a c1 c2]
            rcases old a c fa with e | e
            · exact .inl e
            · exact .inr (.inr (e.sub hlow))
          · rw [rhi, keep a c1 c2]
            rcases hhigh with e | e
            · exact .inr (.inl e)
            · rcases old a c fa with e' | e'
              · exact .inl e'
              · exact .inr (.inr (e'.sub e.1))
          · rw [keep a c1 c2, keep b d1 d2]
            exact a2 a b c d hne (by rcases fa with fa | fa
                                     · exact .inl (by omega)
                                     · exact .inr fa) (by rcases fb with fb | fb
                                                          · exact .inl (by omega)
                                                          · exact .inr fb))
  exact ⟨fun i hi => h1 i (ho i hi), fun i j hi hj hne fi fj => h2 i j (ho i hi) (ho j hj) hne (.inr fi) (.inr fj)⟩
end
end Go.Proofs.YtjmgboipbhddlaaGreatDoor

set_option linter.unusedVariables false
set_option linter.unusedSimpArgs false
namespace Go.Proofs.YtjmgboipbhddlaaGreatDoor

def wtK (k : Nat) : Nat := if 0 < k then k else 1
/-- A weight times wtK k * den. -/
def wtF (k den num : Nat) : Nat := if 0 < k ∧ (k + 1) * num % den ≠ 0 then den * ((k + 1) * num / den) else num * wtK k
theorem wtF_add {k den a b : Nat} (hd : 0 < den) (h : a + b ≤ den) : wtF k den a + wtF k den b ≤ wtF k den (a + b) := by
  by_cases hk : 0 < k
  · have hK : wtK k = k := by unfold wtK; rw [if_pos hk]
    have hm : (k + 1) * (a + b) = (k + 1) * a + (k + 1) * b := Nat.mul_add _ _ _
    have ea : (k + 1) * a = k * a + a := by rw [Nat.add_mul, Nat.one_mul]
    have eb : (k + 1) * b = k * b + b := by rw [Nat.add_mul, Nat.one_mul]
    have eab : (a + b) * k = k * a + k * b := by rw [Nat.mul_comm, Nat.mul_add]
    have eak : a * k = k * a := Nat.mul_comm _ _
    have ebk : b * k = k * b := Nat.mul_comm _ _
    unfold wtF
    rw [hK, hm, eab, eak, ebk]
    generalize hA : (k + 1) * a = A at *
    generalize hB : (k + 1) * b = B at *
    generalize k * a = ka at *
    generalize k * b = kb at *
    have dA := Nat.div_add_mod A den
    have dB := Nat.div_add_mod B den
    have mA := Nat.mod_lt A hd
    have mB := Nat.mod_lt B hd
    by_cases cA : A % den = 0
    · by_cases cB : B % den = 0
      · have cAB : (A + B) % den = 0 := by rw [Nat.add_mod, cA, cB]; simp
        rw [if_neg (by simp [cA]), if_neg (by simp [cB]), if_neg (by simp [cAB])]
        omega
      · have cAB : (A + B) % den ≠ 0 := by rw [Nat.add_mod, cA]; simpa using cB
        rw [if_neg (by simp [cA]), if_pos ⟨hk, cB⟩, if_pos ⟨hk, cAB⟩]
        have h1 : (A + B) / den = A / den + B / den := by
          have h2 : A + B = den * (A / den) + B := by omega
          rw [h2, Nat.mul_add_div hd]
        rw [h1, Nat.mul_add]
        omega
    · by_cases cB : B % den = 0
      · have cAB : (A + B) % den ≠ 0 := by rw [Nat.add_mod, cB]; simpa using cA
        rw [if_pos ⟨hk, cA⟩, if_neg (by simp [cB]), if_pos ⟨hk, cAB⟩]
        have h1 : (A + B) / den = A / den + B / den := by
          have h2 : A + B = den * (B / den) + A := by omega
          rw [h2, Nat.mul_add_div hd]
          rw [Nat.add_comm]
        rw [h1, Nat.mul_add]
        omega
      · rw [if_pos ⟨hk, cA⟩, if_pos ⟨hk, cB⟩]
        by_cases cAB : (A + B) % den = 0
        · rw [if_neg (by simp [cAB])]
          have dAB := Nat.div_add_mod (A + B) den
          have h3 : den * (A / den) + den * (B / den) + den = A + B := by
            have h4 : A % den + B % den = den := by
              have h5 : (A % den + B % den) % den = 0 := by rw [← Nat.add_mod]; exact cAB
              have h6 := Nat.div_add_mod (A % den + B % den) den
              generalize (A % den + B % den) / den = q at h6
              match q with
              | 0 => omega
              | 1 => omega
              | q + 2 =>
                have : den * (q + 2) = den * q + 2 * den := by rw [Nat.mul_add]; omega
                omega
            omega
          omega
        · rw [if_pos ⟨hk, cAB⟩]
          have h1 : A / den + B / den ≤ (A + B) / den := (Nat.le_div_iff_mul_le hd).2 (by rw [Nat.add_mul]; exact Nat.add_le_add (Nat.div_mul_le_self _ _) (Nat.div_mul_le_self _ _))
          have h2 := Nat.mul_le_mul_left den h1
          rw [Nat.mul_add] at h2
          omega
  · unfold wtF
    rw [if_neg (by omega), if_neg (by omega), if_neg (by omega), Nat.add_mul]
    omega
theorem wtF_mono {k den a b : Nat} (hd : 0 < den) (h : a ≤ b) (hb : b ≤ den) : wtF k den a ≤ wtF k den b := by
  have h1 := wtF_add (k := k) (den := den) (a := a) (b := b - a) hd (by omega)
  rw [show a + (b - a) = b by omega] at h1
  omega
theorem wtF_top {k den : Nat} : wtF k den den = wtK k * den := by
  unfold wtF
  rw [if_neg (by simp), Nat.mul_comm]

/-- The scaled weight of a rectangle. -/
def rectW (k1 k2 d1 d2 kerf : Nat) (r : Rect) : Int := if r.x1 < r.x2 ∧ r.y1 < r.y2 then ((wtF k1 d1 ((r.x2 - r.x1).toNat + kerf) * wtF k2 d2 ((r.y2 - r.y1).toNat + kerf) : Nat) : Int) else 0
theorem rectW_nn {k1 k2 d1 d2 kerf : Nat} {r : Rect} : 0 ≤ rectW k1 k2 d1 d2 kerf r := by unfold rectW; split <;> omega

theorem rectW_cut {k1 k2 d1 d2 kerf : Nat} {q : Rect} {ac : Bool} {a : Int} (h1 : 0 < d1) (h2 : 0 < d2) (hq : q.x1 < q.x2 ∧ q.y1 < q.y2) (ha : 1 ≤ a ∧ a ≤ sizeR q ac - 1) (hx : (q.x2 - q.x1).toNat + kerf ≤ d1) (hy : (q.y2 - q.y1).toNat + kerf ≤ d2) :
    rectW k1 k2 d1 d2 kerf (lowR q ac a) + rectW k1 k2 d1 d2 kerf (highR q ac a kerf) ≤ rectW k1 k2 d1 d2 kerf q := by
  have hhigh : highR q ac a kerf = zeroR ∨ ((highR q ac a kerf) = (if ac then (⟨q.x1 + a + kerf, q.y1, q.x2, q.y2⟩ : Rect) else ⟨q.x1, q.y1 + a + kerf, q.x2, q.y2⟩) ∧ (highR q ac a kerf).x1 < (highR q ac a kerf).x2 ∧ (highR q ac a kerf).y1 < (highR q ac a kerf).y2) := by
    unfold highR wholeR
    by_cases c : (if ac = true then (⟨q.x1 + a + kerf, q.y1, q.x2, q.y2⟩ : Rect) else ⟨q.x1, q.y1 + a + kerf, q.x2, q.y2⟩).x2 ≤ (if ac = true then (⟨q.x1 + a + kerf, q.y1, q.x2, q.y2⟩ : Rect) else ⟨q.x1, q.y1 + a + kerf, q.x2, q.y2⟩).x1 ∨ (if ac = true then (⟨q.x1 + a + kerf, q.y1, q.x2, q.y2⟩ : Rect) else ⟨q.x1, q.y1 + a + kerf, q.x2, q.y2⟩).y2 ≤ (if ac = true then (⟨q.x1 + a + kerf, q.y1, q.x2, q.y2⟩ : Rect) else ⟨q.x1, q.y1 + a + kerf, q.x2, q.y2⟩).y1
    · rw [if_pos c]; exact .inl rfl
    · rw [if_neg c]; exact .inr ⟨rfl, by omega, by omega⟩
  have hqW : rectW k1 k2 d1 d2 kerf q = ((wtF k1 d1 ((q.x2 - q.x1).toNat + kerf) * wtF k2 d2 ((q.y2 - q.y1).toNat + kerf) : Nat) : Int) := by unfold rectW; rw [if_pos hq]
  rw [hqW]
  cases ac with
  | true =>
    simp only [sizeR, if_true] at ha
    have hl : rectW k1 k2 d1 d2 kerf (lowR q true a) = ((wtF k1 d1 (a.toNat + kerf) * wtF k2 d2 ((q.y2 - q.y1).toNat + kerf) : Nat) : Int) := by
      unfold rectW lowR
      simp only [if_true]
      rw [if_pos (by omega), show q.x1 + a - q.x1 = a by omega]
    rw [hl]
    rcases hhigh with hz | ⟨hz, hp⟩
    · rw [hz]
      have h0 : rectW k1 k2 d1 d2 kerf zeroR = 0 := by unfold rectW zeroR; rw [if_neg (by simp)]
      rw [h0]
      have := Nat.mul_le_mul_right (wtF k2 d2 ((q.y2 - q.y1).toNat + kerf)) (wtF_mono (k := k1) (den := d1) (a := a.toNat + kerf) (b := (q.x2 - q.x1).toNat + kerf) h1 (by omega) hx)
      omega
    · have hh : rectW k1 k2 d1 d2 kerf (highR q true a kerf) = ((wtF k1 d1 ((q.x2 - q.x1).toNat - a.toNat) * wtF k2 d2 ((q.y2 - q.y1).toNat + kerf) : Nat) : Int) := by
        rw [hz] at hp ⊢
        simp only [if_true] at hp ⊢
        unfold rectW
        rw [if_pos hp]
        simp only
        rw [show (q.x2 - (q.x1 + a + (kerf : Int))).toNat + kerf = (q.x2 - q.x1).toNat - a.toNat by omega]
      rw [hh]
      have h3 := wtF_add (k := k1) (den := d1) (a := a.toNat + kerf) (b := (q.x2 - q.x1).toNat - a.toNat) h1 (by omega)
      rw [show a.toNat + kerf + ((q.x2 - q.x1).toNat - a.toNat) = (q.x2 - q.x1).toNat + kerf by omega] at h3
      have := Nat.mul_le_mul_right (wtF k2 d2 ((q.y2 - q.y1).toNat + kerf)) h3
      rw [Nat.add_mul] at this
      omega
  | false =>
    simp only [sizeR, Bool.false_eq_true, if_false] at ha
    have hl : rectW k1 k2 d1 d2 kerf (lowR q false a) = ((wtF k1 d1 ((q.x2 - q.x1).toNat + kerf) * wtF k2 d2 (a.toNat + kerf) : Nat) : Int) := by
      unfold rectW lowR
      simp only [Bool.false_eq_true, if_false]
      rw [if_pos (by omega), show q.y1 + a - q.y1 = a by omega]
    rw [hl]
    rcases hhigh with hz | ⟨hz, hp⟩
    · rw [hz]
      have h0 : rectW k1 k2 d1 d2 kerf zeroR = 0 := by unfold rectW zeroR; rw [if_neg (by simp)]
      rw [h0]
      have := Nat.mul_le_mul_left (wtF k1 d1 ((q.x2 - q.x1).toNat + kerf)) (wtF_mono (k := k2) (den := d2) (a := a.toNat + kerf) (b := (q.y2 - q.y1).toNat + kerf) h2 (by omega) hy)
      omega
    · have hh : rectW k1 k2 d1 d2 kerf (highR q false a kerf) = ((wtF k1 d1 ((q.x2 - q.x1).toNat + kerf) * wtF k2 d2 ((q.y2 - q.y1).toNat - a.toNat) : Nat) : Int) := by
        rw [hz] at hp ⊢
        simp only [Bool.false_eq_true, if_false] at hp ⊢
        unfold rectW
        rw [if_pos hp]
        simp only
        rw [show (q.y2 - (q.y1 + a + (kerf : Int))).toNat + kerf = (q.y2 - q.y1).toNat - a.toNat by omega]
      rw [hh]
      have h3 := wtF_add (k := k2) (den := d2) (a := a.toNat + kerf) (b := (q.y2 - q.y1).toNat - a.toNat) h2 (by omega)
      rw [show a.toNat + kerf + ((q.y2 - q.y1).toNat - a.toNat) = (q.y2 - q.y1).toNat + kerf by omega] at h3
      have := Nat.mul_le_mul_left (wtF k1 d1 ((q.x2 - q.x1).toNat + kerf)) h3
      rw [Nat.mul_add] at this
      omega

/-- **The weights of what lies in one layout add up to at most 1.** -/
theorem reg_weights {u : Rect} {kerf k1 k2 d1 d2 : Nat} {l : List Cut} (h1 : 0 < d1) (h2 : 0 < d2) (hu : u = zeroR ∨ (u.x1 < u.x2 ∧ u.y1 < u.y2)) (hx : (u.x2 - u.x1).toNat + kerf ≤ d1) (hy : (u.y2 - u.y1).toNat + kerf ≤ d2) (h : (regM u kerf l).2 = 0) :
    sumTo l.length (fun j => if (cutF l j).low = 0 then rectW k1 k2 d1 d2 kerf (rectF (regM u kerf l).1 j) else 0) ≤ ((wtK k1 * d1 * (wtK k2 * d2) : Nat) : Int) := by
  obtain ⟨h0, hs⟩ := reg_struct h
  have hin := (reg_apart hu (by omega) h).1
  have hle := reg_leaves_le h (fun j => rectW k1 k2 d1 d2 kerf (rectF (regM u kerf l).1 j)) (fun j hj hc => by
    have hN := hs j hj hc
    have hreal : rectF (regM u kerf l).1 j = zeroR ∨ ((rectF (regM u kerf l).1 j).x1 < (rectF (regM u kerf l).1 j).x2 ∧ (rectF (regM u kerf l).1 j).y1 < (rectF (regM u kerf l).1 j).y2) := by
      rcases hin j hj with e | e
      · exact .inl e
      · exact .inr ⟨e.2.1, e.2.2.2.2.1⟩
    have hq := size_real hreal ⟨hN.at1, hN.at2⟩
    have hw : within (rectF (regM u kerf l).1 j) u := by
      rcases hin j hj with e | e
      · rw [e] at hq; unfold zeroR at hq; simp at hq
      · exact e
    show rectW _ _ _ _ _ _ + rectW _ _ _ _ _ _ ≤ _
    rw [hN.low, hN.high]
    unfold within at hw
    exact rectW_cut h1 h2 hq ⟨hN.at1, hN.at2⟩ (by omega) (by omega))
  refine Int.le_trans hle ?_
  show rectW k1 k2 d1 d2 kerf (rectF (regM u kerf l).1 0) ≤ _
  rw [h0]
  unfold rectW
  split
  · have a1 := wtF_mono (k := k1) h1 hx (Nat.le_refl _)
    have a2 := wtF_mono (k := k2) h2 hy (Nat.le_refl _)
    rw [wtF_top] at a1 a2
    have := Nat.mul_le_mul a1 a2
    omega
  · omega
end Go.Proofs.YtjmgboipbhddlaaGreatDoor

set_option linter.unusedVariables false
set_option linter.unusedSimpArgs false
namespace Go.Proofs.YtjmgboipbhddlaaGreatDoor

theorem plan_parts {j : Job} {plan : List Layout} (h : (planE2 j plan).2 = 0) : jobE j = 0 ∧ layGo j plan [] = 0 ∧ (pieceGo j (placesM j plan) (List.replicate j.blanks.length 0)).1.2 = 0 ∧ countE j (pieceGo j (placesM j plan) (List.replicate j.blanks.length 0)).2 = 0 := by
  unfold planE2 at h
  split at h
  · rename_i h1; exact absurd h h1
  · rename_i h1
    unfold planOf at h
    split at h
    · rename_i h2; exact absurd h h2
    · rename_i h2
      split at h
      · rename_i h3; exact absurd h h3
      · rename_i h3
        exact ⟨by simpa using h1, by simpa using h2, by simpa using h3, h⟩

def dotL (cs : List Int) (f : Nat → Int) : Int := sumTo cs.length fun b => cs.getD b 0 * f b
def sumP (f : Nat → Int) : List Placed → Int
  | [] => 0
  | p :: r => f p.blank.toNat + sumP f r
theorem dotL_set {cs : List Int} {i : Nat} {x : Int} (f : Nat → Int) (h : i < cs.length) : dotL (cs.set i x) f = dotL cs f + (x - cs.getD i 0) * f i := by
  unfold dotL
  rw [List.length_set]
  have : sumTo cs.length (fun b => (cs.set i x).getD b 0 * f b) = sumTo cs.length (fun b => cs.getD b 0 * f b + (if b = i then (x - cs.getD i 0) * f i else 0)) := sumTo_congr fun b hb => by
    by_cases e : b = i
    · subst e
      rw [if_pos rfl, List.getD_eq_getElem?_getD, List.getElem?_set_self h, Int.sub_mul]
      simp
      omega
    · rw [if_neg e, List.getD_eq_getElem?_getD, List.getElem?_set_ne (fun e' => e e'.symm), List.getD_eq_getElem?_getD]; simp
  rw [this, sumTo_add, sumTo_one, if_pos h]
theorem pieceE_range {j : Job} {p : Placed} (h : pieceE j p = 0) : p.blank < (j.blanks.length : Int) := by
  unfold pieceE at h
  split at h
  · cases h
  · omega
theorem pieceGo_all {j : Job} (f : Nat → Int) : ∀ {P : List Placed} {cs : List Int}, (pieceGo j P cs).1.2 = 0 → cs.length = j.blanks.length → (∀ p ∈ P, 0 ≤ p.blank) →
    (∀ p ∈ P, pieceE j p = 0) ∧ (pieceGo j P cs).2.length = cs.length ∧ dotL (pieceGo j P cs).2 f = dotL cs f + sumP f P
  | [], cs, _, _, _ => ⟨fun p hp => absurd hp (by simp), rfl, by simp [pieceGo, sumP]⟩
  | p :: P, cs, h, hl, hb => by
    unfold pieceGo at h ⊢
    split at h
    · rename_i h1; exact absurd h h1
    · rename_i h1
      rw [if_neg h1]
      have h1 : pieceE j p = 0 := by simpa using h1
      have hr := pieceE_range h1
      have h0 := hb p (by simp)
      obtain ⟨g1, g2, g3⟩ := pieceGo_all f h (by rw [List.length_set]; exact hl) (fun q hq => hb q (List.mem_cons_of_mem _ hq))
      refine ⟨fun q hq => ?_, by rw [g2, List.length_set], ?_⟩
      · rcases List.mem_cons.1 hq with rfl | hq
        · exact h1
        · exact g1 q hq
      · rw [g3, dotL_set f (by omega)]
        simp only [sumP]
        rw [show cs.getD p.blank.toNat 0 + 1 - cs.getD p.blank.toNat 0 = 1 by omega, Int.one_mul]
        omega
theorem piecesTo_at {l : Layout} {R : List Rect} : ∀ {k : Nat} {p : Placed}, p ∈ piecesTo l R k → ∃ i, i < k ∧ isPieceC (l.cuts.getD i default) = true ∧ p = ⟨l.board, (l.cuts.getD i default).blank, R.getD i default⟩
  | 0, p, h => absurd h (by simp [piecesTo])
  | k + 1, p, h => by
    rw [piecesTo, List.mem_append] at h
    rcases h with h | h
    · obtain ⟨i, h1, h2⟩ := piecesTo_at h
      exact ⟨i, by omega, h2⟩
    · split at h
      · rename_i hc
        exact ⟨k, by omega, hc, by simpa using h⟩
      · simp at h
theorem piecesTo_board {l : Layout} {R : List Rect} {k : Nat} {p : Placed} (h : p ∈ piecesTo l R k) : p.board = l.board ∧ 0 ≤ p.blank := by
  obtain ⟨i, -, h2, rfl⟩ := piecesTo_at h
  refine ⟨rfl, ?_⟩
  unfold isPieceC at h2
  simp only [Bool.and_eq_true, decide_eq_true_eq] at h2
  exact h2.2
theorem whole_real (r : Rect) : wholeR r = zeroR ∨ ((wholeR r).x1 < (wholeR r).x2 ∧ (wholeR r).y1 < (wholeR r).y2) := by
  unfold wholeR
  by_cases h : r.x2 ≤ r.x1 ∨ r.y2 ≤ r.y1
  · rw [if_pos h]; exact .inl rfl
  · rw [if_neg h]; exact .inr (by omega)
theorem getD_rect (R : List Rect) (i : Nat) : R.getD i default = rectF R i := rfl

end Go.Proofs.YtjmgboipbhddlaaGreatDoor
