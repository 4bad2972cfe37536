/- Weights add up: a weight's scaled value never falls short where two fractions are put together. -/
import Derived.Test.YtdmoiepafkbefaaGreatTL
set_option linter.unusedVariables false
set_option linter.unusedSimpArgs false
namespace Go.Proofs.YtdmoiepafkbefaaGreat

def wtK (k : Nat) : Nat := if 0 < k then k else 1
/-- A weight times wtK k * den. -/
def wtF (k den num : Nat) : Nat := if 0 < k ∧ (k + 1) * num % den ≠ 0 then den * ((k + 1) * num / den) else num * wtK k
theorem wtF_add {k den a b : Nat} (hd : 0 < den) (h : a + b ≤ den) : wtF k den a + wtF k den b ≤ wtF k den (a + b) := by
  by_cases hk : 0 < k
  · have hK : wtK k = k := by unfold wtK; rw [if_pos hk]
    have hm : (k + 1) * (a + b) = (k + 1) * a + (k + 1) * b := Nat.mul_add _ _ _
    have ea : (k + 1) * a = k * a + a := by rw [Nat.add_mul, Nat.one_mul]
    have eb : (k + 1) * b = k * b + b := by rw [Nat.add_mul, Nat.one_mul]
    have eab : (a + b) * k = k * a + k * b := by rw [Nat.mul_comm, Nat.mul_add]
    have eak : a * k = k * a := Nat.mul_comm _ _
    have ebk : b * k = k * b := Nat.mul_comm _ _
    unfold wtF
    rw [hK, hm, eab, eak, ebk]
    generalize hA : (k + 1) * a = A at *
    generalize hB : (k + 1) * b = B at *
    generalize k * a = ka at *
    generalize k * b = kb at *
    have dA := Nat.div_add_mod A den
    have dB := Nat.div_add_mod B den
    have mA := Nat.mod_lt A hd
    have mB := Nat.mod_lt B hd
    by_cases cA : A % den = 0
    · by_cases cB : B % den = 0
      · have cAB : (A + B) % den = 0 := by rw [Nat.add_mod, cA, cB]; simp
        rw [if_neg (by simp [cA]), if_neg (by simp [cB]), if_neg (by simp [cAB])]
        omega
      · have cAB : (A + B) % den ≠ 0 := by rw [Nat.add_mod, cA]; simpa using cB
        rw [if_neg (by simp [cA]), if_pos ⟨hk, cB⟩, if_pos ⟨hk, cAB⟩]
        have h1 : (A + B) / den = A / den + B / den := by
          have h2 : A + B = den * (A / den) + B := by omega
          rw [h2, Nat.mul_add_div hd]
        rw [h1, Nat.mul_add]
        omega
    · by_cases cB : B % den = 0
      · have cAB : (A + B) % den ≠ 0 := by rw [Nat.add_mod, cB]; simpa using cA
        rw [if_pos ⟨hk, cA⟩, if_neg (by simp [cB]), if_pos ⟨hk, cAB⟩]
        have h1 : (A + B) / den = A / den + B / den := by
          have h2 : A + B = den * (B / den) + A := by omega
          rw [h2, Nat.mul_add_div hd]
          rw [Nat.add_comm]
        rw [h1, Nat.mul_add]
        omega
      · rw [if_pos ⟨hk, cA⟩, if_pos ⟨hk, cB⟩]
        by_cases cAB : (A + B) % den = 0
        · rw [if_neg (by simp [cAB])]
          have dAB := Nat.div_add_mod (A + B) den
          have h3 : den * (A / den) + den * (B / den) + den = A + B := by
            have h4 : A % den + B % den = den := by
              have h5 : (A % den + B % den) % den = 0 := by rw [← Nat.add_mod]; exact cAB
              have h6 := Nat.div_add_mod (A % den + B % den) den
              generalize (A % den + B % den) / den = q at h6
              match q with
              | 0 => omega
              | 1 => omega
              | q + 2 =>
                have : den * (q + 2) = den * q + 2 * den := by rw [Nat.mul_add]; omega
                omega
            omega
          omega
        · rw [if_pos ⟨hk, cAB⟩]
          have h1 : A / den + B / den ≤ (A + B) / den := (Nat.le_div_iff_mul_le hd).2 (by rw [Nat.add_mul]; exact Nat.add_le_add (Nat.div_mul_le_self _ _) (Nat.div_mul_le_self _ _))
          have h2 := Nat.mul_le_mul_left den h1
          rw [Nat.mul_add] at h2
          omega
  · unfold wtF
    rw [if_neg (by omega), if_neg (by omega), if_neg (by omega), Nat.add_mul]
    omega
theorem wtF_mono {k den a b : Nat} (hd : 0 < den) (h : a ≤ b) (hb : b ≤ den) : wtF k den a ≤ wtF k den b := by
  have h1 := wtF_add (k := k) (den := den) (a := a) (b := b - a) hd (by omega)
  rw [show a + (b - a) = b by omega] at h1
  omega
theorem wtF_top {k den : Nat} : wtF k den den = wtK k * den := by
  unfold wtF
  rw [if_neg (by simp), Nat.mul_comm]

/-- The scaled weight of a rectangle. -/
def rectW (k1 k2 d1 d2 kerf : Nat) (r : Rect) : Int := if r.x1 < r.x2 ∧ r.y1 < r.y2 then ((wtF k1 d1 ((r.x2 - r.x1).toNat + kerf) * wtF k2 d2 ((r.y2 - r.y1).toNat + kerf) : Nat) : Int) else 0
theorem rectW_nn {k1 k2 d1 d2 kerf : Nat} {r : Rect} : 0 ≤ rectW k1 k2 d1 d2 kerf r := by unfold rectW; split <;> omega

theorem rectW_cut {k1 k2 d1 d2 kerf : Nat} {q : Rect} {ac : Bool} {a : Int} (h1 : 0 < d1) (h2 : 0 < d2) (hq : q.x1 < q.x2 ∧ q.y1 < q.y2) (ha : 1 ≤ a ∧ a ≤ sizeR q ac - 1) (hx : (q.x2 - q.x1).toNat + kerf ≤ d1) (hy : (q.y2 - q.y1).toNat + kerf ≤ d2) :
    rectW k1 k2 d1 d2 kerf (lowR q ac a) + rectW k1 k2 d1 d2 kerf (highR q ac a kerf) ≤ rectW k1 k2 d1 d2 kerf q := by
  have hhigh : highR q ac a kerf = zeroR ∨ ((highR q ac a kerf) = (if ac then (⟨q.x1 + a + kerf, q.y1, q.x2, q.y2⟩ : Rect) else ⟨q.x1, q.y1 + a + kerf, q.x2, q.y2⟩) ∧ (highR q ac a kerf).x1 < (highR q ac a kerf).x2 ∧ (highR q ac a kerf).y1 < (highR q ac a kerf).y2) := by
    unfold highR wholeR
    by_cases c : (if ac = true then (⟨q.x1 + a + kerf, q.y1, q.x2, q.y2⟩ : Rect) else ⟨q.x1, q.y1 + a + kerf, q.x2, q.y2⟩).x2 ≤ (if ac = true then (⟨q.x1 + a + kerf, q.y1, q.x2, q.y2⟩ : Rect) else ⟨q.x1, q.y1 + a + kerf, q.x2, q.y2⟩).x1 ∨ (if ac = true then (⟨q.x1 + a + kerf, q.y1, q.x2, q.y2⟩ : Rect) else ⟨q.x1, q.y1 + a + kerf, q.x2, q.y2⟩).y2 ≤ (if ac = true then (⟨q.x1 + a + kerf, q.y1, q.x2, q.y2⟩ : Rect) else ⟨q.x1, q.y1 + a + kerf, q.x2, q.y2⟩).y1
    · rw [if_pos c]; exact .inl rfl
    · rw [if_neg c]; exact .inr ⟨rfl, by omega, by omega⟩
  have hqW : rectW k1 k2 d1 d2 kerf q = ((wtF k1 d1 ((q.x2 - q.x1).toNat + kerf) * wtF k2 d2 ((q.y2 - q.y1).toNat + kerf) : Nat) : Int) := by unfold rectW; rw [if_pos hq]
  rw [hqW]
  cases ac with
  | true =>
    simp only [sizeR, if_true] at ha
    have hl : rectW k1 k2 d1 d2 kerf (lowR q true a) = ((wtF k1 d1 (a.toNat + kerf) * wtF k2 d2 ((q.y2 - q.y1).toNat + kerf) : Nat) : Int) := by
      unfold rectW lowR
      simp only [if_true]
      rw [if_pos (by omega), show q.x1 + a - q.x1 = a by omega]
    rw [hl]
    rcases hhigh with hz | ⟨hz, hp⟩
    · rw [hz]
      have h0 : rectW k1 k2 d1 d2 kerf zeroR = 0 := by unfold rectW zeroR; rw [if_neg (by simp)]
      rw [h0]
      have := Nat.mul_le_mul_right (wtF k2 d2 ((q.y2 - q.y1).toNat + kerf)) (wtF_mono (k := k1) (den := d1) (a := a.toNat + kerf) (b := (q.x2 - q.x1).toNat + kerf) h1 (by omega) hx)
      omega
    · have hh : rectW k1 k2 d1 d2 kerf (highR q true a kerf) = ((wtF k1 d1 ((q.x2 - q.x1).toNat - a.toNat) * wtF k2 d2 ((q.y2 - q.y1).toNat + kerf) : Nat) : Int) := by
        rw [hz] at hp ⊢
        simp only [if_true] at hp ⊢
        unfold rectW
        rw [if_pos hp]
        simp only
        rw [show (q.x2 - (q.x1 + a + (kerf : Int))).toNat + kerf = (q.x2 - q.x1).toNat - a.toNat by omega]
      rw [hh]
      have h3 := wtF_add (k := k1) (den := d1) (a := a.toNat + kerf) (b := (q.x2 - q.x1).toNat - a.toNat) h1 (by omega)
      rw [show a.toNat + kerf + ((q.x2 - q.x1).toNat - a.toNat) = (q.x2 - q.x1).toNat + kerf by omega] at h3
      have := Nat.mul_le_mul_right (wtF k2 d2 ((q.y2 - q.y1).toNat + kerf)) h3
      rw [Nat.add_mul] at this
      omega
  | false =>
    simp only [sizeR, Bool.false_eq_true, if_false] at ha
    have hl : rectW k1 k2 d1 d2 kerf (lowR q false a) = ((wtF k1 d1 ((q.x2 - q.x1).toNat + kerf) * wtF k2 d2 (a.toNat + kerf) : Nat) : Int) := by
      unfold rectW lowR
      simp only [Bool.false_eq_true, if_false]
      rw [if_pos (by omega), show q.y1 + a - q.y1 = a by omega]
    rw [hl]
    rcases hhigh with hz | ⟨hz, hp⟩
    · rw [hz]
      have h0 : rectW k1 k2 d1 d2 kerf zeroR = 0 := by unfold rectW zeroR; rw [if_neg (by simp)]
      rw [h0]
      have := Nat.mul_le_mul_left (wtF k1 d1 ((q.x2 - q.x1).toNat + kerf)) (wtF_mono (k := k2) (den := d2) (a := a.toNat + kerf) (b := (q.y2 - q.y1).toNat + kerf) h2 (by omega) hy)
      omega
    · have hh : rectW k1 k2 d1 d2 kerf (highR q false a kerf) = ((wtF k1 d1 ((q.x2 - q.x1).toNat + kerf) * wtF k2 d2 ((q.y2 - q.y1).toNat - a.toNat) : Nat) : Int) := by
        rw [hz] at hp ⊢
        simp only [Bool.false_eq_true, if_false] at hp ⊢
        unfold rectW
        rw [if_pos hp]
        simp only
        rw [show (q.y2 - (q.y1 + a + (kerf : Int))).toNat + kerf = (q.y2 - q.y1).toNat - a.toNat by omega]
      rw [hh]
      have h3 := wtF_add (k := k2) (den := d2) (a := a.toNat + kerf) (b := (q.y2 - q.y1).toNat - a.toNat) h2 (by omega)
      rw [show a.toNat + kerf + ((q.y2 - q.y1).toNat - a.toNat) = (q.y2 - q.y1).toNat + kerf by omega] at h3
      have := Nat.mul_le_mul_left (wtF k1 d1 ((q.x2 - q.x1).toNat + kerf)) h3
      rw [Nat.mul_add] at this
      omega

/-- **The weights of what lies in one layout add up to at most 1.** -/
theorem reg_weights {u : Rect} {kerf k1 k2 d1 d2 : Nat} {l : List Cut} (h1 : 0 < d1) (h2 : 0 < d2) (hu : u = zeroR ∨ (u.x1 < u.x2 ∧ u.y1 < u.y2)) (hx : (u.x2 - u.x1).toNat + kerf ≤ d1) (hy : (u.y2 - u.y1).toNat + kerf ≤ d2) (h : (regM u kerf l).2 = 0) :
    sumTo l.length (fun j => if (cutF l j).low = 0 then rectW k1 k2 d1 d2 kerf (rectF (regM u kerf l).1 j) else 0) ≤ ((wtK k1 * d1 * (wtK k2 * d2) : Nat) : Int) := by
  obtain ⟨h0, hs⟩ := reg_struct h
  have hin := (reg_apart hu (by omega) h).1
  have hle := reg_leaves_le h (fun j => rectW k1 k2 d1 d2 kerf (rectF (regM u kerf l).1 j)) (fun j hj hc => by
    have hN := hs j hj hc
    have hreal : rectF (regM u kerf l).1 j = zeroR ∨ ((rectF (regM u kerf l).1 j).x1 < (rectF (regM u kerf l).1 j).x2 ∧ (rectF (regM u kerf l).1 j).y1 < (rectF (regM u kerf l).1 j).y2) := by
      rcases hin j hj with e | e
      · exact .inl e
      · exact .inr ⟨e.2.1, e.2.2.2.2.1⟩
    have hq := size_real hreal ⟨hN.at1, hN.at2⟩
    have hw : within (rectF (regM u kerf l).1 j) u := by
      rcases hin j hj with e | e
      · rw [e] at hq; unfold zeroR at hq; simp at hq
      · exact e
    show rectW _ _ _ _ _ _ + rectW _ _ _ _ _ _ ≤ _
    rw [hN.low, hN.high]
    unfold within at hw
    exact rectW_cut h1 h2 hq ⟨hN.at1, hN.at2⟩ (by omega) (by omega))
  refine Int.le_trans hle ?_
  show rectW k1 k2 d1 d2 kerf (rectF (regM u kerf l).1 0) ≤ _
  rw [h0]
  unfold rectW
  split
  · have a1 := wtF_mono (k := k1) h1 hx (Nat.le_refl _)
    have a2 := wtF_mono (k := k2) h2 hy (Nat.le_refl _)
    rw [wtF_top] at a1 a2
    have := Nat.mul_le_mul a1 a2
    omega
  · omega
end Go.Proofs.YtdmoiepafkbefaaGreat
