/- Laws of a layout's regions: how they lie, and sums over them. -/
import Derived.Test.YtdmoiepafkbefaaGreatTG
set_option linter.unusedVariables false
set_option linter.unusedSimpArgs false
namespace Go.Proofs.YtdmoiepafkbefaaGreat

def sumTo : Nat → (Nat → Int) → Int
  | 0, _ => 0
  | n + 1, f => sumTo n f + f n
theorem sumTo_congr {f g : Nat → Int} : ∀ {n : Nat}, (∀ j, j < n → f j = g j) → sumTo n f = sumTo n g
  | 0, _ => rfl
  | n + 1, h => by unfold sumTo; rw [sumTo_congr fun j hj => h j (by omega), h n (by omega)]
theorem sumTo_add (f g : Nat → Int) : ∀ n, sumTo n (fun j => f j + g j) = sumTo n f + sumTo n g
  | 0 => rfl
  | n + 1 => by simp only [sumTo]; rw [sumTo_add f g n]; omega
theorem sumTo_zero : ∀ n, sumTo n (fun _ => 0) = 0
  | 0 => rfl
  | n + 1 => by simp only [sumTo]; rw [sumTo_zero n]; rfl
theorem sumTo_le {f g : Nat → Int} : ∀ {n : Nat}, (∀ j, j < n → f j ≤ g j) → sumTo n f ≤ sumTo n g
  | 0, _ => Int.le_refl _
  | n + 1, h => by
    unfold sumTo
    have h1 := sumTo_le (n := n) fun j hj => h j (by omega)
    have h2 := h n (by omega)
    omega
theorem sumTo_one (a : Nat) (x : Int) : ∀ n, sumTo n (fun j => if j = a then x else 0) = if a < n then x else 0
  | 0 => by simp [sumTo]
  | n + 1 => by
    simp only [sumTo]
    rw [sumTo_one a x n]
    by_cases h1 : a < n
    · rw [if_pos h1, if_neg (by omega), if_pos (by omega)]; omega
    · rw [if_neg h1]
      by_cases h2 : n = a
      · rw [if_pos h2, if_pos (by omega)]; omega
      · rw [if_neg h2, if_neg (by omega)]; rfl

def cutF (l : List Cut) (j : Nat) : Cut := l.getD j default
theorem cutF_get {l : List Cut} {j : Nat} (h : j < l.length) : cutF l j = l[j] := by unfold cutF; rw [List.getD_eq_getElem?_getD, List.getElem?_eq_getElem h]; rfl
def lowN (l : List Cut) (j : Nat) : Nat := (cutF l j).low.toNat
def highN (l : List Cut) (j : Nat) : Nat := (cutF l j).high.toNat

section
variable {kerf : Int} {l : List Cut} {u : Rect}

/-- Each region but the first is the child of just one. -/
theorem reg_count (h : (regM u kerf l).2 = 0) (g : Nat → Int) : sumTo l.length g = g 0 + sumTo l.length (fun j => if (cutF l j).low = 0 then 0 else g (lowN l j) + g (highN l j)) := by
  by_cases hn : l.length = 0
  · unfold regM at h; rw [if_pos hn] at h; simp at h
  obtain ⟨o, ho, hI⟩ := reg_inv (l := l) (u := u) (kerf := kerf) (fun i o _ => sumTo l.length (fun j => if o j = true then g j else 0) = g 0 + sumTo i (fun j => if (cutF l j).low = 0 then 0 else g (lowN l j) + g (highN l j))) h
    (by
      have : sumTo l.length (fun j => if (j == 0) = true then g j else 0) = sumTo l.length (fun j => if j = 0 then g 0 else 0) := sumTo_congr fun j _ => by
        by_cases e : j = 0
        · subst e; simp
        · simp [e]
      rw [this, sumTo_one, if_pos (by omega)]
      simp [sumTo])
    (fun i o r hi h0 _ hI => by
      rw [hI]
      simp only [sumTo]
      rw [cutF_get hi, if_pos h0]; omega)
    (fun i o r lo hi hlt h1 h2 g1 g2 g3 g4 g5 g6 g7 _ _ hI => by
      have e1 : sumTo l.length (fun j => if ownS o lo hi j = true then g j else 0) = sumTo l.length (fun j => (if o j = true then g j else 0) + ((if j = lo then g lo else 0) + (if j = hi then g hi else 0))) := sumTo_congr fun j _ => by
        unfold ownS
        by_cases a1 : j = lo
        · subst a1; rw [g6, if_neg g3]; simp
        · by_cases a2 : j = hi
          · subst a2; rw [g7, if_neg a1]; simp
          · rw [if_neg a1, if_neg a2]
            have b1 : (j == lo) = false := by simpa using a1
            have b2 : (j == hi) = false := by simpa using a2
            rw [b1, b2]; simp
      rw [e1, sumTo_add, hI, sumTo_add, sumTo_one, sumTo_one, if_pos g4, if_pos g5]
      simp only [sumTo]
      have e2 : lowN l i = lo := by unfold lowN; rw [cutF_get hlt, h1]; simp
      have e3 : highN l i = hi := by unfold highN; rw [cutF_get hlt, h2]; simp
      rw [e2, e3, cutF_get hlt, if_neg (by rw [h1]; omega)]
      omega)
  rw [← hI]
  exact sumTo_congr fun j hj => by rw [if_pos (ho j hj)]

/-- The sum over the leaves, with what each cut takes away, is that of the whole. -/
theorem reg_leaves (h : (regM u kerf l).2 = 0) (g : Nat → Int) : sumTo l.length (fun j => if (cutF l j).low = 0 then g j else g j - g (lowN l j) - g (highN l j)) = g 0 := by
  have h1 := reg_count h g
  have h2 : sumTo l.length (fun j => if (cutF l j).low = 0 then g j else g j - g (lowN l j) - g (highN l j)) + sumTo l.length (fun j => if (cutF l j).low = 0 then 0 else g (lowN l j) + g (highN l j)) = sumTo l.length g := by
    rw [← sumTo_add]
    exact sumTo_congr fun j _ => by split <;> omega
  omega
theorem reg_leaves_le (h : (regM u kerf l).2 = 0) (g : Nat → Int) (hg : ∀ j, j < l.length → ¬ (cutF l j).low = 0 → g (lowN l j) + g (highN l j) ≤ g j) : sumTo l.length (fun j => if (cutF l j).low = 0 then g j else 0) ≤ g 0 := by
  rw [← reg_leaves h g]
  refine sumTo_le fun j hj => ?_
  split
  · omega
  · rename_i h0; have := hg j hj h0; omega

/-- What a cut says of the rectangles. -/
structure NodeR (l : List Cut) (kerf : Int) (r : Nat → Rect) (j : Nat) : Prop where
  lo : lowN l j < l.length
  hi : highN l j < l.length
  ne : lowN l j ≠ highN l j
  at1 : 1 ≤ (cutF l j).at_
  at2 : (cutF l j).at_ ≤ sizeR (r j) (cutF l j).across - 1
  low : r (lowN l j) = lowR (r j) (cutF l j).across (cutF l j).at_
  high : r (highN l j) = highR (r j) (cutF l j).across (cutF l j).at_ kerf

theorem reg_struct (h : (regM u kerf l).2 = 0) : rectF (regM u kerf l).1 0 = u ∧ ∀ j, j < l.length → ¬ (cutF l j).low = 0 → NodeR l kerf (rectF (regM u kerf l).1) j := by
  obtain ⟨o, ho, hI⟩ := reg_inv (l := l) (u := u) (kerf := kerf) (fun i o r => o 0 = true ∧ r 0 = u ∧ ∀ j, j < i → j < l.length → ¬ (cutF l j).low = 0 → o j = true ∧ o (lowN l j) = true ∧ o (highN l j) = true ∧ NodeR l kerf r j) h
    ⟨rfl, rfl, fun j hj => by omega⟩
    (fun i o r hi h0 _ ⟨a0, a1, a2⟩ => ⟨a0, a1, fun j hj hjl hc => by
      by_cases e : j = i
      · subst e; rw [cutF_get hi] at hc; exact absurd h0 hc
      · exact a2 j (by omega) hjl hc⟩)
    (fun i o r lo hi hlt h1 h2 g1 g2 g3 g4 g5 g6 g7 g8 g9 ⟨a0, a1, a2⟩ => by
      have e2 : lowN l i = lo := by unfold lowN; rw [cutF_get hlt, h1]; simp
      have e3 : highN l i = hi := by unfold highN; rw [cutF_get hlt, h2]; simp
      have keep : ∀ j, o j = true → rectS r kerf l[i] i lo hi j = r j := fun j hj => by
        unfold rectS
        rw [if_neg (fun e => by subst e; rw [g7] at hj; cases hj), if_neg (fun e => by subst e; rw [g6] at hj; cases hj)]
      have own : ∀ j, o j = true → ownS o lo hi j = true := fun j hj => by unfold ownS; rw [hj]; rfl
      refine ⟨own 0 a0, by rw [keep 0 a0]; exact a1, fun j hj hjl hc => ?_⟩
      by_cases e : j = i
      · subst e
        refine ⟨own j g8, ?_, ?_, ?_⟩
        · rw [e2]; unfold ownS; simp
        · rw [e3]; unfold ownS; simp
        · refine ⟨by rw [e2]; exact g4, by rw [e3]; exact g5, by rw [e2, e3]; exact g3, by rw [cutF_get hlt]; exact g9.1, by rw [cutF_get hlt, keep j g8]; exact g9.2, ?_, ?_⟩
          · rw [e2, keep j g8, cutF_get hlt]; unfold rectS; rw [if_neg g3, if_pos rfl]
          · rw [e3, keep j g8, cutF_get hlt]; unfold rectS; rw [if_pos rfl]
      · obtain ⟨b1, b2, b3, b4⟩ := a2 j (by omega) hjl hc
        exact ⟨own _ b1, own _ b2, own _ b3, b4.lo, b4.hi, b4.ne, b4.at1, by rw [keep _ b1]; exact b4.at2, by rw [keep _ b2, keep _ b1]; exact b4.low, by rw [keep _ b3, keep _ b1]; exact b4.high⟩)
  exact ⟨hI.2.1, fun j hj hc => (hI.2.2 j hj hj hc).2.2.2⟩

/-! How they lie. -/
def within (q r : Rect) : Prop := r.x1 ≤ q.x1 ∧ q.x1 < q.x2 ∧ q.x2 ≤ r.x2 ∧ r.y1 ≤ q.y1 ∧ q.y1 < q.y2 ∧ q.y2 ≤ r.y2
def apart (kerf : Int) (a b : Rect) : Prop := a.x2 + kerf ≤ b.x1 ∨ b.x2 + kerf ≤ a.x1 ∨ a.y2 + kerf ≤ b.y1 ∨ b.y2 + kerf ≤ a.y1
theorem apart.symm {a b : Rect} (h : apart kerf a b) : apart kerf b a := by unfold apart at *; omega
theorem apart.sub {a b c : Rect} (h : apart kerf a b) (hc : within c b) : apart kerf a c := by unfold apart within at *; omega
theorem within.trans {a b c : Rect} (h : within a b) (h' : within b c) : within a c := by unfold within at *; omega
theorem low_in {q : Rect} {ac : Bool} {a : Int} (hq : q.x1 < q.x2 ∧ q.y1 < q.y2) (ha : 1 ≤ a ∧ a ≤ sizeR q ac - 1) : within (lowR q ac a) q := by
  unfold within lowR
  unfold sizeR at ha
  split at ha <;> simp_all <;> omega
theorem high_in {q : Rect} {ac : Bool} {a : Int} (hk : 0 ≤ kerf) (hq : q.x1 < q.x2 ∧ q.y1 < q.y2) (ha : 1 ≤ a ∧ a ≤ sizeR q ac - 1) : highR q ac a kerf = zeroR ∨ (within (highR q ac a kerf) q ∧ apart kerf (lowR q ac a) (highR q ac a kerf)) := by
  unfold highR wholeR
  by_cases h1 : (if ac = true then (⟨q.x1 + a + kerf, q.y1, q.x2, q.y2⟩ : Rect) else ⟨q.x1, q.y1 + a + kerf, q.x2, q.y2⟩).x2 ≤ (if ac = true then (⟨q.x1 + a + kerf, q.y1, q.x2, q.y2⟩ : Rect) else ⟨q.x1, q.y1 + a + kerf, q.x2, q.y2⟩).x1 ∨ (if ac = true then (⟨q.x1 + a + kerf, q.y1, q.x2, q.y2⟩ : Rect) else ⟨q.x1, q.y1 + a + kerf, q.x2, q.y2⟩).y2 ≤ (if ac = true then (⟨q.x1 + a + kerf, q.y1, q.x2, q.y2⟩ : Rect) else ⟨q.x1, q.y1 + a + kerf, q.x2, q.y2⟩).y1
  · rw [if_pos h1]; exact .inl rfl
  · rw [if_neg h1]
    refine .inr ?_
    unfold sizeR at ha
    unfold within apart lowR
    cases ac <;> simp at h1 ha ⊢ <;> omega
theorem size_real {q : Rect} {ac : Bool} {a : Int} (hq : q = zeroR ∨ (q.x1 < q.x2 ∧ q.y1 < q.y2)) (ha : 1 ≤ a ∧ a ≤ sizeR q ac - 1) : q.x1 < q.x2 ∧ q.y1 < q.y2 := by
  rcases hq with rfl | h
  · unfold sizeR zeroR at ha; cases ac <;> simp at ha <;> omega
  · exact h

theorem reg_apart (hu : u = zeroR ∨ (u.x1 < u.x2 ∧ u.y1 < u.y2)) (hk : 0 ≤ kerf) (h : (regM u kerf l).2 = 0) :
    (∀ i, i < l.length → rectF (regM u kerf l).1 i = zeroR ∨ within (rectF (regM u kerf l).1 i) u) ∧
    ∀ i j, i < l.length → j < l.length → i ≠ j → (cutF l i).low = 0 → (cutF l j).low = 0 → rectF (regM u kerf l).1 i = zeroR ∨ rectF (regM u kerf l).1 j = zeroR ∨ apart kerf (rectF (regM u kerf l).1 i) (rectF (regM u kerf l).1 j) := by
  obtain ⟨o, ho, h1, h2⟩ := reg_inv (l := l) (u := u) (kerf := kerf) (fun i o r => (∀ j, o j = true → r j = zeroR ∨ within (r j) u) ∧ ∀ a b, o a = true → o b = true → a ≠ b → (i ≤ a ∨ (cutF l a).low = 0) → (i ≤ b ∨ (cutF l b).low = 0) → r a = zeroR ∨ r b = zeroR ∨ apart kerf (r a) (r b)) h
    ⟨fun j hj => by
      have : j = 0 := by simpa using hj
      subst this
      rcases hu with hu | hu
      · exact .inl (by simpa using hu)
      · exact .inr (by unfold within; simp; omega), fun a b ha hb hne => by
      have h1 : a = 0 := by simpa using ha
      have h2 : b = 0 := by simpa using hb
      omega⟩
    (fun i o r hi h0 ho ⟨a1, a2⟩ => ⟨a1, fun a b ha hb hne fa fb => a2 a b ha hb hne
      (by rcases fa with fa | fa
          · exact .inl (by omega)
          · exact .inr fa)
      (by rcases fb with fb | fb
          · exact .inl (by omega)
          · exact .inr fb)⟩)
    (fun i o r lo hi hlt h1 h2 g1 g2 g3 g4 g5 g6 g7 g8 g9 ⟨a1, a2⟩ => by
      have hreal : r i = zeroR ∨ ((r i).x1 < (r i).x2 ∧ (r i).y1 < (r i).y2) := by
        rcases a1 i g8 with e | e
        · exact .inl e
        · exact .inr ⟨e.2.1, e.2.2.2.2.1⟩
      have hq := size_real hreal g9
      have hqi : within (r i) u := by
        rcases a1 i g8 with e | e
        · rw [e] at hq; unfold zeroR at hq; simp at hq
        · exact e
      have hlow := low_in hq g9
      have hhigh := high_in hk hq g9
      have keep : ∀ j, j ≠ lo → j ≠ hi → rectS r kerf l[i] i lo hi j = r j := fun j c1 c2 => by unfold rectS; rw [if_neg c2, if_neg c1]
      have rlo : rectS r kerf l[i] i lo hi lo = lowR (r i) l[i].across l[i].at_ := by unfold rectS; rw [if_neg g3, if_pos rfl]
      have rhi : rectS r kerf l[i] i lo hi hi = highR (r i) l[i].across l[i].at_ kerf := by unfold rectS; rw [if_pos rfl]
      have owns : ∀ j, ownS o lo hi j = true → j = lo ∨ j = hi ∨ (o j = true ∧ j ≠ lo ∧ j ≠ hi) := fun j hj => by
        by_cases c1 : j = lo
        · exact .inl c1
        · by_cases c2 : j = hi
          · exact .inr (.inl c2)
          · unfold ownS at hj
            have b1 : (j == lo) = false := by simpa using c1
            have b2 : (j == hi) = false := by simpa using c2
            rw [b1, b2] at hj
            exact .inr (.inr ⟨by simpa using hj, c1, c2⟩)
      have hni : ∀ b, (i + 1 ≤ b ∨ (cutF l b).low = 0) → b ≠ i := fun b fb e => by
        subst e
        rcases fb with fb | fb
        · omega
        · rw [cutF_get hlt, h1] at fb; omega
      have old : ∀ b, o b = true → (i + 1 ≤ b ∨ (cutF l b).low = 0) → r b = zeroR ∨ apart kerf (r b) (r i) := fun b hb fb => by
        rcases a2 b i hb g8 (hni b fb) (by rcases fb with fb | fb
                                           · exact .inl (by omega)
                                           · exact .inr fb) (.inl (Nat.le_refl _)) with e | e | e
        · exact .inl e
        · rw [e] at hq; unfold zeroR at hq; simp at hq
        · exact .inr e
      refine ⟨fun j hj => ?_, fun a b ha hb hne fa fb => ?_⟩
      · rcases owns j hj with rfl | rfl | ⟨c, c1, c2⟩
        · rw [rlo]; exact .inr (hlow.trans hqi)
        · rw [rhi]
          rcases hhigh with e | e
          · exact .inl e
          · exact .inr (e.1.trans hqi)
        · rw [keep j c1 c2]; exact a1 j c
      · rcases owns a ha with rfl | rfl | ⟨c, c1, c2⟩
        · rcases owns b hb with rfl | rfl | ⟨d, d1, d2⟩
          · exact absurd rfl hne
          · rw [rlo, rhi]
            rcases hhigh with e | e
            · exact .inr (.inl e)
            · exact .inr (.inr e.2)
          · rw [rlo, keep b d1 d2]
            rcases old b d fb with e | e
            · exact .inr (.inl e)
            · exact .inr (.inr (e.sub hlow).symm)
        · rcases owns b hb with rfl | rfl | ⟨d, d1, d2⟩
          · rw [rlo, rhi]
            rcases hhigh with e | e
            · exact .inl e
            · exact .inr (.inr e.2.symm)
          · exact absurd rfl hne
          · rw [rhi, keep b d1 d2]
            rcases hhigh with e | e
            · exact .inl e
            · rcases old b d fb with e' | e'
              · exact .inr (.inl e')
              · exact .inr (.inr (e'.sub e.1).symm)
        · rcases owns b hb with rfl | rfl | ⟨d, d1, d2⟩
          · rw [rlo, keep a c1 c2]
            rcases old a c fa with e | e
            · exact .inl e
            · exact .inr (.inr (e.sub hlow))
          · rw [rhi, keep a c1 c2]
            rcases hhigh with e | e
            · exact .inr (.inl e)
            · rcases old a c fa with e' | e'
              · exact .inl e'
              · exact .inr (.inr (e'.sub e.1))
          · rw [keep a c1 c2, keep b d1 d2]
            exact a2 a b c d hne (by rcases fa with fa | fa
                                     · exact .inl (by omega)
                                     · exact .inr fa) (by rcases fb with fb | fb
                                                          · exact .inl (by omega)
                                                          · exact .inr fb))
  exact ⟨fun i hi => h1 i (ho i hi), fun i j hi hj hne fi fj => h2 i j (ho i hi) (ho j hj) hne (.inr fi) (.inr fj)⟩
end
end Go.Proofs.YtdmoiepafkbefaaGreat
