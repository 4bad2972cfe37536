import Derived.Test.YtjmgboipbhddlaaGreatDoorRR
import Derived.Test.YtjmgboipbhddlaaGreatDoorPL3
set_option linter.unusedVariables false
set_option linter.unusedSimpArgs false
namespace Go.Proofs.YtjmgboipbhddlaaGreatDoor

theorem node_facts {c : Cut} {i n : Nat} {O : List Bool} (h : cutErrM c i n O = 0) (h0 : ¬ c.low = 0) : ∃ lo hi : Nat, c.low = lo ∧ c.high = hi ∧ i < lo ∧ i < hi ∧ lo ≠ hi ∧ lo < n ∧ hi < n ∧ O.getD lo false = false ∧ O.getD hi false = false := by
 unfold cutErrM at h
 split at h
 ·rename_i h1; exact absurd h h1
 ·rename_i h1
  have h1 : regionE c i n = 0 := by simpa using h1
  unfold regionE at h1
  rw [if_neg h0] at h1
  split at h1
  ·simp at h1
  ·split at h1
   ·simp at h1
   ·split at h1
    ·simp at h1
    ·rename_i h2 h3 h4
     refine ⟨c.low.toNat, c.high.toNat, by omega, by omega, by omega, by omega, by omega, by omega, by omega, ?_, ?_⟩
     ·unfold markE at h
      rw [if_neg h0] at h
      split at h
      ·simp at h
      ·rename_i h5; simpa using h5
     ·unfold markE at h
      rw [if_neg h0] at h
      split at h
      ·simp at h
      ·split at h
       ·simp at h
       ·rename_i h5; simpa using h5

def ownF (O : List Bool) (j : Nat) : Bool := j == 0 || O.getD j false
def rectF (R : List Rect) (j : Nat) : Rect := R.getD j zeroR
def ownS (o : Nat → Bool) (lo hi : Nat) (j : Nat) : Bool := o j || (j == lo || j == hi)
def rectS (r : Nat → Rect) (kerf : Int) (c : Cut) (i lo hi : Nat) (j : Nat) : Rect := if j = hi then highR (r i) c.across c.at_ kerf else if j = lo then lowR (r i) c.across c.at_ else r j
theorem ownF_mark {c : Cut} {O : List Bool} {lo hi : Nat} (h0 : ¬ c.low = 0) (h1 : c.low = lo) (h2 : c.high = hi) (hl : lo < O.length) (hh : hi < O.length) : ownF (markC c O) = ownS (ownF O) lo hi := by
 funext j
 unfold ownF ownS markC
 rw [if_neg h0, h1, h2]
 simp only [Int.toNat_natCast, List.getD_eq_getElem?_getD, List.getElem?_set, List.length_set]
 by_cases e1 : hi = j
 ·subst e1; simp [ownF, hh]
 ·by_cases e2 : lo = j
  ·subst e2; simp [ownF, e1, hl]
  ·have e3 : (j == lo) = false := by simpa using fun h => e2 h.symm
   have e4 : (j == hi) = false := by simpa using fun h => e1 h.symm
   rw [if_neg e1, if_neg e2, e3, e4, Bool.or_false, Bool.or_false]
theorem rectF_step {c : Cut} {R : List Rect} {kerf : Int} {i lo hi : Nat} (h1 : c.low = lo) (h2 : c.high = hi) (hl : lo < R.length) (hh : hi < R.length) : rectF (stepR kerf c (R.getD i ⟨0, 0, 0, 0⟩) R) = rectS (rectF R) kerf c i lo hi := by
 funext j
 unfold rectS stepR
 rw [h1, h2]
 simp only [rectF, Int.toNat_natCast, List.getD_eq_getElem?_getD, List.getElem?_set, List.length_set]
 by_cases e1 : hi = j
 ·subst e1; simp [hh]; rfl
 ·by_cases e2 : lo = j
  ·subst e2
   rw [if_neg e1, if_pos rfl, if_pos hl, if_neg (fun h => e1 h.symm), if_pos rfl]; rfl
  ·rw [if_neg e1, if_neg e2, if_neg (fun h => e1 h.symm), if_neg (fun h => e2 h.symm)]

theorem markC_keep {c : Cut} {i n j : Nat} {O : List Bool} (h : cutErrM c i n O = 0) (hj : j ≤ i) : (markC c O).getD j false = O.getD j false := by
 by_cases h0 : c.low = 0
 ·unfold markC; rw [if_pos h0]
 ·obtain ⟨lo, hi, h1, h2, h3, h4, -⟩ := node_facts h h0
  unfold markC
  rw [if_neg h0, h1, h2]
  simp only [Int.toNat_natCast, List.getD_eq_getElem?_getD, List.getElem?_set, List.length_set]
  rw [if_neg (by omega), if_neg (by omega)]
theorem ownGo_keep {n : Nat} : ∀ (l : List Cut) (i : Nat) (O : List Bool) (j : Nat), (ownGo n l i O).1 = 0 → j ≤ i → ((ownGo n l i O).2).getD j false = O.getD j false
 | [], _, _, _, _, _ => rfl
 | c :: l, i, O, j, h, hj => by
  unfold ownGo at h ⊢
  by_cases he : cutErrM c i n O = 0
  ·rw [if_neg (by simp [he])] at h ⊢
   rw [ownGo_keep l (i + 1) _ j h (by omega), markC_keep he hj]
  ·rw [if_pos he] at h; exact absurd h he

section
variable {kerf : Int} {l : List Cut}
theorem reg_go (Inv : Nat → (Nat → Bool) → (Nat → Rect) → Prop)
    (leaf : ∀ i o r (h : i < l.length), l[i].low = 0 → o i = true → Inv i o r → Inv (i + 1) o r)
    (node : ∀ i o r lo hi (h : i < l.length), l[i].low = (lo : Nat) → l[i].high = (hi : Nat) → i < lo → i < hi → lo ≠ hi → lo < l.length → hi < l.length → o lo = false → o hi = false → o i = true → (1 ≤ l[i].at_ ∧ l[i].at_ ≤ sizeR (r i) l[i].across - 1) → Inv i o r → Inv (i + 1) (ownS o lo hi) (rectS r kerf l[i] i lo hi)) :
    ∀ (m i : Nat) (O : List Bool) (R : List Rect), i + m = l.length → O.length = l.length → R.length = l.length → (ownGo l.length (l.drop i) i O).1 = 0 → (rectGo kerf (l.drop i) i R).2 = 0 →
     (∀ j, j < l.length → ownF (ownGo l.length (l.drop i) i O).2 j = true) → Inv i (ownF O) (rectF R) → Inv l.length (ownF (ownGo l.length (l.drop i) i O).2) (rectF (rectGo kerf (l.drop i) i R).1)
 | 0, i, O, R, hm, _, _, _, _, _, hI => by
  obtain rfl : i = l.length := by omega
  rw [List.drop_length]
  exact hI
 | m + 1, i, O, R, hm, hO, hR, h1, h2, hall, hI => by
  have hi : i < l.length := by omega
  rw [List.drop_eq_getElem_cons hi] at h1 h2 hall ⊢
  have hE : cutErrM l[i] i l.length O = 0 := by
   unfold ownGo at h1
   split at h1
   ·rename_i h; exact absurd h1 h
   ·rename_i h; simpa using h
  have hown : ownGo l.length (l[i] :: l.drop (i + 1)) i O = ownGo l.length (l.drop (i + 1)) (i + 1) (markC l[i] O) := by rw [ownGo, if_neg (by simp [hE])]
  have hoi : ownF O i = true := by
   have h := hall i hi
   unfold ownF at h ⊢
   rw [ownGo_keep _ _ _ _ h1 (Nat.le_refl _)] at h
   exact h
  rw [hown] at h1 hall ⊢
  by_cases h0 : l[i].low = 0
  ·have hrec : rectGo kerf (l[i] :: l.drop (i + 1)) i R = rectGo kerf (l.drop (i + 1)) (i + 1) R := by rw [rectGo, if_pos h0]
   have hmk : markC l[i] O = O := by unfold markC; rw [if_pos h0]
   rw [hrec] at h2 ⊢
   rw [hmk] at h1 hall ⊢
   exact reg_go Inv leaf node m (i + 1) O R (by omega) hO hR h1 h2 hall (leaf i _ _ hi h0 hoi hI)
  ·obtain ⟨lo, hi', e1, e2, g1, g2, g3, g4, g5, g6, g7⟩ := node_facts hE h0
   have hw : withinB l[i].at_ 1 (sizeR (R.getD i ⟨0, 0, 0, 0⟩) l[i].across - 1) = true := by
    rw [rectGo, if_neg h0] at h2
    split at h2
    ·simp at h2
    ·rename_i h; simpa using h
   have hrec : rectGo kerf (l[i] :: l.drop (i + 1)) i R = rectGo kerf (l.drop (i + 1)) (i + 1) (stepR kerf l[i] (R.getD i ⟨0, 0, 0, 0⟩) R) := by rw [rectGo, if_neg h0, if_neg (by rw [hw]; decide)]
   rw [hrec] at h2 ⊢
   refine reg_go Inv leaf node m (i + 1) _ _ (by omega) (by rw [markC_len]; exact hO) (by rw [stepR_len]; exact hR) h1 h2 hall ?_
   rw [ownF_mark h0 e1 e2 (by omega) (by omega), rectF_step e1 e2 (by omega) (by omega)]
   refine node i _ _ lo hi' hi e1 e2 g1 g2 g3 g4 g5 ?_ ?_ hoi (withinB_true hw) hI
   ·unfold ownF; rw [g6]; simp; omega
   ·unfold ownF; rw [g7]; simp; omega

theorem reg_inv {u : Rect} (Inv : Nat → (Nat → Bool) → (Nat → Rect) → Prop) (h : (regM u kerf l).2 = 0)
    (h0 : Inv 0 (fun j => j == 0) (fun j => if j = 0 then u else zeroR))
    (leaf : ∀ i o r (h : i < l.length), l[i].low = 0 → o i = true → Inv i o r → Inv (i + 1) o r)
    (node : ∀ i o r lo hi (h : i < l.length), l[i].low = (lo : Nat) → l[i].high = (hi : Nat) → i < lo → i < hi → lo ≠ hi → lo < l.length → hi < l.length → o lo = false → o hi = false → o i = true → (1 ≤ l[i].at_ ∧ l[i].at_ ≤ sizeR (r i) l[i].across - 1) → Inv i o r → Inv (i + 1) (ownS o lo hi) (rectS r kerf l[i] i lo hi)) :
    ∃ o, (∀ j, j < l.length → o j = true) ∧ Inv l.length o (rectF (regM u kerf l).1) := by
 unfold regM at h ⊢
 split
 ·rename_i g0; rw [if_pos g0] at h; simp at h
 ·rename_i g0; rw [if_neg g0] at h
  split
  ·rename_i g1; rw [if_pos g1] at h; simp at h
  ·rename_i g1; rw [if_neg g1] at h
   split
   ·rename_i g2; rw [if_pos g2] at h; exact absurd h g2
   ·rename_i g2; rw [if_neg g2] at h
    split
    ·rename_i g3; rw [if_pos g3] at h; simp at h
    ·rename_i g3; rw [if_neg g3] at h
     have g2' : (ownGo l.length l 0 (List.replicate l.length false)).1 = 0 := by simpa using g2
     have hall : ∀ j, j < l.length → ownF (ownGo l.length l 0 (List.replicate l.length false)).2 j = true := fun j hj => by
      have ha : (((ownGo l.length l 0 (List.replicate l.length false)).2).set 0 true).all id = true := by simpa using g3
      unfold ownF
      by_cases e : j = 0
      ·simp [e]
      ·have hlen : (ownGo l.length l 0 (List.replicate l.length false)).2.length = l.length := by
         have : ∀ (l' : List Cut) (n i : Nat) (O : List Bool), (ownGo n l' i O).2.length = O.length := by
          intro l'
          induction l' with
          | nil => intro n i O; rfl
          | cons c l' ih => intro n i O; unfold ownGo; split <;> simp [ih, markC_len]
         rw [this, List.length_replicate]
       have hm := List.all_eq_true.1 ha ((((ownGo l.length l 0 (List.replicate l.length false)).2).set 0 true)[j]'(by simpa [hlen] using hj)) (List.getElem_mem _)
       rw [List.getElem_set, if_neg (fun e' => e e'.symm)] at hm
       simp only [id] at hm
       rw [List.getD_eq_getElem?_getD, List.getElem?_eq_getElem (by omega)]
       simp [hm]
     have hstart : Inv 0 (ownF (List.replicate l.length false)) (rectF ((List.replicate l.length ⟨0, 0, 0, 0⟩).set 0 u)) := by
      have e1 : ownF (List.replicate l.length false) = fun j => j == 0 := by
       funext j
       unfold ownF
       rw [List.getD_eq_getElem?_getD, List.getElem?_replicate]
       split <;> simp
      have e2 : rectF ((List.replicate l.length ⟨0, 0, 0, 0⟩).set 0 u) = fun j => if j = 0 then u else zeroR := by
       funext j
       unfold rectF
       rw [List.getD_eq_getElem?_getD, List.getElem?_set, List.getElem?_replicate]
       by_cases e : j = 0
       ·subst e; simp; rw [if_pos (by omega)]; rfl
       ·rw [if_neg (fun e' => e e'.symm), if_neg e]
        split <;> rfl
      rw [e1, e2]; exact h0
     have := reg_go (kerf := kerf) Inv leaf node l.length 0 (List.replicate l.length false) ((List.replicate l.length ⟨0, 0, 0, 0⟩).set 0 u) (by omega) (by simp) (by simp) (by simpa using g2') (by simpa using h) (by simpa using hall) hstart
     rw [List.drop_zero] at this
     exact ⟨_, hall, this⟩
end
end Go.Proofs.YtjmgboipbhddlaaGreatDoor

set_option linter.unusedVariables false
set_option linter.unusedSimpArgs false
namespace Go.Proofs.YtjmgboipbhddlaaGreatDoor

def sumTo : Nat → (Nat → Int) → Int
 | 0, _ => 0
 | n + 1, f => sumTo n f + f n
theorem sumTo_congr {f g : Nat → Int} : ∀ {n : Nat}, (∀ j, j < n → f j = g j) → sumTo n f = sumTo n g
 | 0, _ => rfl
 | n + 1, h => by unfold sumTo; rw [sumTo_congr fun j hj => h j (by omega), h n (by omega)]
theorem sumTo_add (f g : Nat → Int) : ∀ n, sumTo n (fun j => f j + g j) = sumTo n f + sumTo n g
 | 0 => rfl
 | n + 1 => by simp only [sumTo]; rw [sumTo_add f g n]; omega
theorem sumTo_one (a : Nat) (x : Int) : ∀ n, sumTo n (fun j => if j = a then x else 0) = if a < n then x else 0
 | 0 => by simp [sumTo]
 | n + 1 => by
  simp only [sumTo]
  rw [sumTo_one a x n]
  by_cases h1 : a < n
  ·rw [if_pos h1, if_neg (by omega), if_pos (by omega)]; omega
  ·rw [if_neg h1]
   by_cases h2 : n = a
   ·rw [if_pos h2, if_pos (by omega)]; omega
   ·rw [if_neg h2, if_neg (by omega)]; rfl

def cutF (l : List Cut) (j : Nat) : Cut := l.getD j default
theorem cutF_get {l : List Cut} {j : Nat} (h : j < l.length) : cutF l j = l[j] := by unfold cutF; rw [List.getD_eq_getElem?_getD, List.getElem?_eq_getElem h]; rfl
def lowN (l : List Cut) (j : Nat) : Nat := (cutF l j).low.toNat
def highN (l : List Cut) (j : Nat) : Nat := (cutF l j).high.toNat

section
variable {kerf : Int} {l : List Cut} {u : Rect}

theorem reg_count (h : (regM u kerf l).2 = 0) (g : Nat → Int) : sumTo l.length g = g 0 + sumTo l.length (fun j => if (cutF l j).low = 0 then 0 else g (lowN l j) + g (highN l j)) := by
 by_cases hn : l.length = 0
 ·unfold regM at h; rw [if_pos hn] at h; simp at h
 obtain ⟨o, ho, hI⟩ := reg_inv (l := l) (u := u) (kerf := kerf) (fun i o _ => sumTo l.length (fun j => if o j = true then g j else 0) = g 0 + sumTo i (fun j => if (cutF l j).low = 0 then 0 else g (lowN l j) + g (highN l j))) h
  (by
   have : sumTo l.length (fun j => if (j == 0) = true then g j else 0) = sumTo l.length (fun j => if j = 0 then g 0 else 0) := sumTo_congr fun j _ => by
    by_cases e : j = 0
    ·subst e; simp
    ·simp [e]
   rw [this, sumTo_one, if_pos (by omega)]
   simp [sumTo])
  (fun i o r hi h0 _ hI => by
   rw [hI]
   simp only [sumTo]
   rw [cutF_get hi, if_pos h0]; omega)
  (fun i o r lo hi hlt h1 h2 g1 g2 g3 g4 g5 g6 g7 _ _ hI => by
   have e1 : sumTo l.length (fun j => if ownS o lo hi j = true then g j else 0) = sumTo l.length (fun j => (if o j = true then g j else 0) + ((if j = lo then g lo else 0) + (if j = hi then g hi else 0))) := sumTo_congr fun j _ => by
    unfold ownS
    by_cases a1 : j = lo
    ·subst a1; rw [g6, if_neg g3]; simp
    ·by_cases a2 : j = hi
     ·subst a2; rw [g7, if_neg a1]; simp
     ·rw [if_neg a1, if_neg a2]
      have b1 : (j == lo) = false := by simpa using a1
      have b2 : (j == hi) = false := by simpa using a2
      rw [b1, b2]; simp
   rw [e1, sumTo_add, hI, sumTo_add, sumTo_one, sumTo_one, if_pos g4, if_pos g5]
   simp only [sumTo]
   have e2 : lowN l i = lo := by unfold lowN; rw [cutF_get hlt, h1]; simp
   have e3 : highN l i = hi := by unfold highN; rw [cutF_get hlt, h2]; simp
   rw [e2, e3, cutF_get hlt, if_neg (by rw [h1]; omega)]
   omega)
 rw [← hI]
 exact sumTo_congr fun j hj => by rw [if_pos (ho j hj)]

theorem reg_leaves (h : (regM u kerf l).2 = 0) (g : Nat → Int) : sumTo l.length (fun j => if (cutF l j).low = 0 then g j else g j - g (lowN l j) - g (highN l j)) = g 0 := by
 have h1 := reg_count h g
 have h2 : sumTo l.length (fun j => if (cutF l j).low = 0 then g j else g j - g (lowN l j) - g (highN l j)) + sumTo l.length (fun j => if (cutF l j).low = 0 then 0 else g (lowN l j) + g (highN l j)) = sumTo l.length g := by
  rw [← sumTo_add]
  exact sumTo_congr fun j _ => by split <;> omega
 omega
structure NodeR (l : List Cut) (kerf : Int) (r : Nat → Rect) (j : Nat) : Prop where
 lo : lowN l j < l.length
 hi : highN l j < l.length
 ne : lowN l j ≠ highN l j
 at1 : 1 ≤ (cutF l j).at_
 at2 : (cutF l j).at_ ≤ sizeR (r j) (cutF l j).across - 1
 low : r (lowN l j) = lowR (r j) (cutF l j).across (cutF l j).at_
 high : r (highN l j) = highR (r j) (cutF l j).across (cutF l j).at_ kerf

theorem reg_struct (h : (regM u kerf l).2 = 0) : rectF (regM u kerf l).1 0 = u ∧ ∀ j, j < l.length → ¬ (cutF l j).low = 0 → NodeR l kerf (rectF (regM u kerf l).1) j := by
 obtain ⟨o, ho, hI⟩ := reg_inv (l := l) (u := u) (kerf := kerf) (fun i o r => o 0 = true ∧ r 0 = u ∧ ∀ j, j < i → j < l.length → ¬ (cutF l j).low = 0 → o j = true ∧ o (lowN l j) = true ∧ o (highN l j) = true ∧ NodeR l kerf r j) h
  ⟨rfl, rfl, fun j hj => by omega⟩
  (fun i o r hi h0 _ ⟨a0, a1, a2⟩ => ⟨a0, a1, fun j hj hjl hc => by
   by_cases e : j = i
   ·subst e; rw [cutF_get hi] at hc; exact absurd h0 hc
   ·exact a2 j (by omega) hjl hc⟩)
  (fun i o r lo hi hlt h1 h2 g1 g2 g3 g4 g5 g6 g7 g8 g9 ⟨a0, a1, a2⟩ => by
   have e2 : lowN l i = lo := by unfold lowN; rw [cutF_get hlt, h1]; simp
   have e3 : highN l i = hi := by unfold highN; rw [cutF_get hlt, h2]; simp
   have keep : ∀ j, o j = true → rectS r kerf l[i] i lo hi j = r j := fun j hj => by
    unfold rectS
    rw [if_neg (fun e => by subst e; rw [g7] at hj; cases hj), if_neg (fun e => by subst e; rw [g6] at hj; cases hj)]
   have own : ∀ j, o j = true → ownS o lo hi j = true := fun j hj => by unfold ownS; rw [hj]; rfl
   refine ⟨own 0 a0, by rw [keep 0 a0]; exact a1, fun j hj hjl hc => ?_⟩
   by_cases e : j = i
   ·subst e
    refine ⟨own j g8, ?_, ?_, ?_⟩
    ·rw [e2]; unfold ownS; simp
    ·rw [e3]; unfold ownS; simp
    ·refine ⟨by rw [e2]; exact g4, by rw [e3]; exact g5, by rw [e2, e3]; exact g3, by rw [cutF_get hlt]; exact g9.1, by rw [cutF_get hlt, keep j g8]; exact g9.2, ?_, ?_⟩
     ·rw [e2, keep j g8, cutF_get hlt]; unfold rectS; rw [if_neg g3, if_pos rfl]
     ·rw [e3, keep j g8, cutF_get hlt]; unfold rectS; rw [if_pos rfl]
   ·obtain ⟨b1, b2, b3, b4⟩ := a2 j (by omega) hjl hc
    exact ⟨own _ b1, own _ b2, own _ b3, b4.lo, b4.hi, b4.ne, b4.at1, by rw [keep _ b1]; exact b4.at2, by rw [keep _ b2, keep _ b1]; exact b4.low, by rw [keep _ b3, keep _ b1]; exact b4.high⟩)
 exact ⟨hI.2.1, fun j hj hc => (hI.2.2 j hj hj hc).2.2.2⟩

def apart (kerf : Int) (a b : Rect) : Prop := a.x2 + kerf ≤ b.x1 ∨ b.x2 + kerf ≤ a.x1 ∨ a.y2 + kerf ≤ b.y1 ∨ b.y2 + kerf ≤ a.y1
end
end Go.Proofs.YtjmgboipbhddlaaGreatDoor

set_option linter.unusedVariables false
set_option linter.unusedSimpArgs false
namespace Go.Proofs.YtjmgboipbhddlaaGreatDoor

end Go.Proofs.YtjmgboipbhddlaaGreatDoor

set_option linter.unusedVariables false
set_option linter.unusedSimpArgs false
namespace Go.Proofs.YtjmgboipbhddlaaGreatDoor

theorem plan_parts {j : Job} {plan : List Layout} (h : (planE2 j plan).2 = 0) : jobE j = 0 ∧ layGo j plan [] = 0 ∧ (pieceGo j (placesM j plan) (List.replicate j.blanks.length 0)).1.2 = 0 ∧ countE j (pieceGo j (placesM j plan) (List.replicate j.blanks.length 0)).2 = 0 := by
 unfold planE2 at h
 split at h
 ·rename_i h1; exact absurd h h1
 ·rename_i h1
  unfold planOf at h
  split at h
  ·rename_i h2; exact absurd h h2
  ·rename_i h2
   split at h
   ·rename_i h3; exact absurd h h3
   ·rename_i h3
    exact ⟨by simpa using h1, by simpa using h2, by simpa using h3, h⟩

end Go.Proofs.YtjmgboipbhddlaaGreatDoor
