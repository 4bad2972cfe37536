/- The table over sets of lengths: the fewest bars, and how far the last one is filled (plain). -/
import Derived.Test.YtoelfalmmaddlaaGreatBB
import Derived.Test.YtoelfalmmaddlaaGreatQL

set_option linter.unusedVariables false
set_option linter.unusedSimpArgs false
namespace Go.Proofs.YtoelfalmmaddlaaGreat

/-- How many bars are used, how much of the last one, and which length was laid there last. -/
structure Sta where
 bars : Nat
 used : Int
 last : Nat
deriving DecidableEq
section
variable (F ln : List Int) (kerf : Int)
def nev : Sta := ⟨F.length + 1, 0, 0⟩
def stepS (s : Sta) (i : Nat) : Option Sta :=
 if s.bars = 0 ∨ F.getD (s.bars - 1) 0 + kerf < s.used + (ln.getD i 0 + kerf) then
  if F.length < s.bars + 1 ∨ F.getD s.bars 0 < ln.getD i 0 then none else some ⟨s.bars + 1, ln.getD i 0 + kerf, i⟩
 else some ⟨s.bars, s.used + (ln.getD i 0 + kerf), i⟩
def ltS (s t : Sta) : Bool := decide (s.bars < t.bars) || (decide (s.bars = t.bars) && decide (s.used < t.used))
def bestI (L : List Sta) (S : Nat) : Nat → Sta
 | 0 => nev F
 | i + 1 => if S.testBit i = true then (if L.getD (S ^^^ 2 ^ i) (nev F) = nev F then bestI L S i else match stepS F ln kerf (L.getD (S ^^^ 2 ^ i) (nev F)) i with | none => bestI L S i | some u => if ltS u (bestI L S i) = true then u else bestI L S i) else bestI L S i
def dpL : Nat → List Sta
 | 0 => [⟨0, 0, 0⟩]
 | k + 1 => dpL k ++ [bestI F ln kerf (dpL k) (k + 1) ln.length]
def dp (S : Nat) : Sta := (dpL F ln kerf S).getD S (nev F)
theorem dpL_len : ∀ k, (dpL F ln kerf k).length = k + 1
 | 0 => rfl
 | k + 1 => by rw [dpL, List.length_append, dpL_len k]; rfl
theorem dpL_get : ∀ {k j : Nat}, j ≤ k → (dpL F ln kerf k).getD j (nev F) = dp F ln kerf j
 | 0, j, h => by obtain rfl : j = 0 := by omega
                 rfl
 | k + 1, j, h => by
  by_cases e : j = k + 1
  ·subst e; rfl
  ·rw [dpL, List.getD_eq_getElem?_getD, List.getElem?_append_left (by rw [dpL_len]; omega), ← List.getD_eq_getElem?_getD]
   exact dpL_get (by omega)
theorem clr_lt : ∀ {i S : Nat}, S.testBit i = true → S ^^^ 2 ^ i < S
 | 0, S, h => by
  have h1 : (S ^^^ 2 ^ 0) / 2 = S / 2 := by rw [Nat.xor_div_two]; simp
  have h2 : (S ^^^ 2 ^ 0).testBit 0 = false := by rw [Nat.testBit_xor, h, Nat.testBit_two_pow]; simp
  rw [Nat.testBit_zero, decide_eq_false_iff_not] at h2
  rw [Nat.testBit_zero, decide_eq_true_eq] at h
  omega
 | i + 1, S, h => by
  rw [Nat.testBit_succ] at h
  have ih := clr_lt h
  have e : 2 ^ (i + 1) / 2 = 2 ^ i := by rw [Nat.pow_succ]; omega
  have h1 : (S ^^^ 2 ^ (i + 1)) / 2 = S / 2 ^^^ 2 ^ i := by rw [Nat.xor_div_two, e]
  have h2 : (S ^^^ 2 ^ (i + 1)).testBit 0 = S.testBit 0 := by rw [Nat.testBit_xor, Nat.testBit_two_pow]; simp
  rw [Nat.testBit_zero, Nat.testBit_zero, decide_eq_decide] at h2
  omega
/-- The table's own rule. -/
def bestD (S : Nat) : Nat → Sta
 | 0 => nev F
 | i + 1 => if S.testBit i = true then (if dp F ln kerf (S ^^^ 2 ^ i) = nev F then bestD S i else match stepS F ln kerf (dp F ln kerf (S ^^^ 2 ^ i)) i with | none => bestD S i | some u => if ltS u (bestD S i) = true then u else bestD S i) else bestD S i
theorem bestI_D {S k : Nat} (hk : S = k + 1) : ∀ m, bestI F ln kerf (dpL F ln kerf k) S m = bestD F ln kerf S m
 | 0 => rfl
 | i + 1 => by
  rw [bestI, bestD, bestI_D hk i]
  by_cases h : S.testBit i = true
  ·have hl := clr_lt h
   rw [if_pos h, if_pos h, dpL_get F ln kerf (by omega)]
  ·rw [if_neg h, if_neg h]
theorem dp_rule {S : Nat} (h : 1 ≤ S) : dp F ln kerf S = bestD F ln kerf S ln.length := by
 obtain ⟨k, rfl⟩ : ∃ k, S = k + 1 := ⟨S - 1, by omega⟩
 rw [← bestI_D F ln kerf rfl]
 unfold dp
 rw [dpL, List.getD_eq_getElem?_getD, List.getElem?_append_right (by rw [dpL_len]; omega), dpL_len]
 simp
theorem dp_zero : dp F ln kerf 0 = ⟨0, 0, 0⟩ := rfl
theorem step_bars {s t : Sta} {i : Nat} (h : stepS F ln kerf s i = some t) (hs : s.bars ≤ F.length) : 1 ≤ t.bars ∧ t.bars ≤ F.length ∧ t.last = i := by
 unfold stepS at h
 split at h
 ·split at h
  ·cases h
  ·rename_i h1 h2; injection h with h; subst h; exact ⟨Nat.succ_le_succ (Nat.zero_le _), by simp only; omega, rfl⟩
 ·rename_i h1; injection h with h; subst h; exact ⟨by simp only; omega, hs, rfl⟩
theorem ltS_trans {s t u : Sta} (h : ltS s t = true) (h' : ltS u t = false) : ltS u s = false := by
 unfold ltS at *
 simp only [Bool.or_eq_true, Bool.and_eq_true, decide_eq_true_eq, Bool.or_eq_false_iff, Bool.and_eq_false_iff, decide_eq_false_iff_not] at *
 omega
/-- What the table holds is no greater than any candidate, and is one of them, or never. -/
theorem best_all {S : Nat} : ∀ m, (∀ i, i < m → S.testBit i = true → dp F ln kerf (S ^^^ 2 ^ i) ≠ nev F → ∀ u, stepS F ln kerf (dp F ln kerf (S ^^^ 2 ^ i)) i = some u → ltS u (bestD F ln kerf S m) = false) ∧
    (bestD F ln kerf S m = nev F ∨ ∃ i, i < m ∧ S.testBit i = true ∧ dp F ln kerf (S ^^^ 2 ^ i) ≠ nev F ∧ stepS F ln kerf (dp F ln kerf (S ^^^ 2 ^ i)) i = some (bestD F ln kerf S m))
 | 0 => ⟨fun i h => by omega, .inl rfl⟩
 | m + 1 => by
  obtain ⟨h1, h2⟩ := best_all (S := S) m
  have hkeep : bestD F ln kerf S (m + 1) = bestD F ln kerf S m → (∀ u, S.testBit m = true → dp F ln kerf (S ^^^ 2 ^ m) ≠ nev F → stepS F ln kerf (dp F ln kerf (S ^^^ 2 ^ m)) m = some u → ltS u (bestD F ln kerf S m) = false) → (∀ i, i < m + 1 → S.testBit i = true → dp F ln kerf (S ^^^ 2 ^ i) ≠ nev F → ∀ u, stepS F ln kerf (dp F ln kerf (S ^^^ 2 ^ i)) i = some u → ltS u (bestD F ln kerf S (m + 1)) = false) ∧
   (bestD F ln kerf S (m + 1) = nev F ∨ ∃ i, i < m + 1 ∧ S.testBit i = true ∧ dp F ln kerf (S ^^^ 2 ^ i) ≠ nev F ∧ stepS F ln kerf (dp F ln kerf (S ^^^ 2 ^ i)) i = some (bestD F ln kerf S (m + 1))) := by
   intro e hm
   rw [e]
   refine ⟨fun i hi hb hn u hu => ?_, ?_⟩
   ·by_cases ei : i = m
    ·subst ei; exact hm u hb hn hu
    ·exact h1 i (by omega) hb hn u hu
   ·rcases h2 with h2 | ⟨i, hi, h3⟩
    ·exact .inl h2
    ·exact .inr ⟨i, by omega, h3⟩
  by_cases hb : S.testBit m = true
  ·by_cases hn : dp F ln kerf (S ^^^ 2 ^ m) = nev F
   ·exact hkeep (by rw [bestD, if_pos hb, if_pos hn]) (fun u _ hn' _ => absurd hn hn')
   ·cases hs : stepS F ln kerf (dp F ln kerf (S ^^^ 2 ^ m)) m with
    | none => exact hkeep (by rw [bestD, if_pos hb, if_neg hn, hs]) (fun u _ _ hu => by rw [hs] at hu; cases hu)
    | some u0 =>
     by_cases hl : ltS u0 (bestD F ln kerf S m) = true
     ·have e : bestD F ln kerf S (m + 1) = u0 := by rw [bestD, if_pos hb, if_neg hn, hs]; simp only; rw [if_pos hl]
      rw [e]
      refine ⟨fun i hi hb' hn' u hu => ?_, .inr ⟨m, by omega, hb, hn, hs⟩⟩
      by_cases ei : i = m
      ·subst ei
       rw [hs] at hu
       injection hu with hu
       subst hu
       unfold ltS; simp
      ·exact ltS_trans hl (h1 i (by omega) hb' hn' u hu)
     ·exact hkeep (by rw [bestD, if_pos hb, if_neg hn, hs]; simp only; rw [if_neg hl]) (fun u _ _ hu => by rw [hs] at hu; injection hu with hu; subst hu; simpa using hl)
  ·exact hkeep (by rw [bestD, if_neg hb]) (fun u h => absurd h hb)
/-- A set that can be laid comes of one with a length less. -/
theorem dp_from {S : Nat} (h : 1 ≤ S) (hn : dp F ln kerf S ≠ nev F) : ∃ i, i < ln.length ∧ S.testBit i = true ∧ dp F ln kerf (S ^^^ 2 ^ i) ≠ nev F ∧ stepS F ln kerf (dp F ln kerf (S ^^^ 2 ^ i)) i = some (dp F ln kerf S) := by
 rw [dp_rule F ln kerf h] at hn ⊢
 exact (best_all F ln kerf ln.length).2.resolve_left hn
theorem dp_bars : ∀ (n S : Nat), S ≤ n → dp F ln kerf S ≠ nev F → (dp F ln kerf S).bars ≤ F.length ∧ (1 ≤ S → 1 ≤ (dp F ln kerf S).bars)
 | n, S, hS, hn => by
  by_cases h0 : S = 0
  ·subst h0; rw [dp_zero]; exact ⟨Nat.zero_le _, fun h => absurd h (by omega)⟩
  ·obtain ⟨i, hi, hb, hn', hs⟩ := dp_from F ln kerf (by omega) hn
   have hl := clr_lt hb
   match n with
   | 0 => omega
   | n + 1 =>
    have := (dp_bars n (S ^^^ 2 ^ i) (by omega) hn').1
    have h2 := step_bars F ln kerf hs this
    exact ⟨h2.2.1, fun _ => h2.1⟩

/-! No state is greater than one that can be reached. -/
def leL (s : Sta) (b : Nat) (u : Int) : Prop := s.bars < b ∨ (s.bars = b ∧ s.used ≤ u)
theorem step_same (hF : ∀ a b, a ≤ b → b < F.length → F.getD b 0 ≤ F.getD a 0) (hk : 0 ≤ kerf) {s : Sta} {i x : Nat} {u : Int} (hi : 1 ≤ i) (hi2 : i ≤ F.length) (hu : 0 ≤ u) (hs : leL s i u) (hfit : u + (ln.getD x 0 + kerf) ≤ F.getD (i - 1) 0 + kerf) :
    ∃ t, stepS F ln kerf s x = some t ∧ leL t i (u + (ln.getD x 0 + kerf)) := by
 unfold stepS
 unfold leL at hs
 by_cases hnew : s.bars = 0 ∨ F.getD (s.bars - 1) 0 + kerf < s.used + (ln.getD x 0 + kerf)
 ·rw [if_pos hnew]
  have hlt : s.bars < i := by
   rcases hs with h | ⟨h1, h2⟩
   ·exact h
   ·rcases hnew with h | h
    ·omega
    ·rw [h1] at h; omega
  have hF1 := hF s.bars (i - 1) (by omega) (by omega)
  rw [if_neg (by omega)]
  refine ⟨_, rfl, ?_⟩
  unfold leL
  simp only
  omega
 ·rw [if_neg hnew]
  refine ⟨_, rfl, ?_⟩
  unfold leL
  simp only
  omega
theorem step_next (hF : ∀ a b, a ≤ b → b < F.length → F.getD b 0 ≤ F.getD a 0) {s : Sta} {i x : Nat} {u : Int} (hi : i + 1 ≤ F.length) (hs : leL s i u) (hfit : ln.getD x 0 ≤ F.getD i 0) :
    ∃ t, stepS F ln kerf s x = some t ∧ leL t (i + 1) (ln.getD x 0 + kerf) := by
 unfold stepS
 unfold leL at hs
 have hle : s.bars ≤ i := by omega
 by_cases hnew : s.bars = 0 ∨ F.getD (s.bars - 1) 0 + kerf < s.used + (ln.getD x 0 + kerf)
 ·rw [if_pos hnew]
  have hF1 := hF s.bars i hle (by omega)
  rw [if_neg (by omega)]
  refine ⟨_, rfl, ?_⟩
  unfold leL
  simp only
  omega
 ·rw [if_neg hnew]
  refine ⟨_, rfl, ?_⟩
  unfold leL
  simp only
  omega
theorem leL_of {s t : Sta} {b : Nat} {u : Int} (h : ltS t s = false) (ht : leL t b u) : leL s b u := by
 unfold ltS at h
 unfold leL at *
 simp only [Bool.or_eq_false_iff, Bool.and_eq_false_iff, decide_eq_false_iff_not] at h
 omega
/-- The table at a set with one length more. -/
theorem dp_add {P x : Nat} (hx : x < ln.length) (hP : P.testBit x = false) (hn : dp F ln kerf P ≠ nev F) {t : Sta} (hs : stepS F ln kerf (dp F ln kerf P) x = some t) {b : Nat} {u : Int} (hb : b ≤ F.length) (ht : leL t b u) : dp F ln kerf (P ^^^ 2 ^ x) ≠ nev F ∧ leL (dp F ln kerf (P ^^^ 2 ^ x)) b u := by
 have hbit : (P ^^^ 2 ^ x).testBit x = true := by rw [Nat.testBit_xor, hP, Nat.testBit_two_pow]; simp
 have hback : P ^^^ 2 ^ x ^^^ 2 ^ x = P := by rw [Nat.xor_assoc, Nat.xor_self, Nat.xor_zero]
 have h1 : 1 ≤ P ^^^ 2 ^ x := by
  have := clr_lt hbit
  omega
 have hl := (best_all F ln kerf (S := P ^^^ 2 ^ x) ln.length).1 x hx hbit (by rw [hback]; exact hn) t (by rw [hback]; exact hs)
 rw [← dp_rule F ln kerf h1] at hl
 have hle := leL_of hl ht
 refine ⟨fun e => ?_, hle⟩
 rw [e] at hle
 unfold leL nev at hle
 simp only at hle
 omega
/-- The set of a list. -/
def maskL : List Nat → Nat → Nat
 | [], P => P
 | x :: xs, P => maskL xs (P ^^^ 2 ^ x)
theorem mask_bit : ∀ {xs : List Nat} {P y : Nat}, xs.Nodup → (∀ x ∈ xs, P.testBit x = false) → (maskL xs P).testBit y = (P.testBit y || decide (y ∈ xs))
 | [], P, y, _, _ => by simp [maskL]
 | x :: xs, P, y, hn, hP => by
  obtain ⟨h1, h2⟩ := List.nodup_cons.1 hn
  rw [maskL, mask_bit h2 fun z hz => ?_, Nat.testBit_xor, Nat.testBit_two_pow]
  ·by_cases e : x = y
   ·subst e; rw [hP x List.mem_cons_self]; simp
   ·have e' : ¬ y = x := fun h => e h.symm
    simp [e, e']
  ·rw [Nat.testBit_xor, hP z (List.mem_cons_of_mem _ hz), Nat.testBit_two_pow]
   have : ¬ x = z := fun h => h1 (h ▸ hz)
   simp [this]
def sumL (xs : List Nat) : Int := match xs with | [] => 0 | x :: xs => ln.getD x 0 + kerf + sumL xs
/-- One bar's lengths, laid behind those that lie in it. -/
theorem lay_same (hF : ∀ a b, a ≤ b → b < F.length → F.getD b 0 ≤ F.getD a 0) (hk : 0 ≤ kerf) (hln : ∀ x, x < ln.length → 1 ≤ ln.getD x 0) {i : Nat} (hi : 1 ≤ i) (hi2 : i ≤ F.length) :
    ∀ (xs : List Nat) (P : Nat) (u : Int), xs.Nodup → (∀ x ∈ xs, P.testBit x = false ∧ x < ln.length) → 0 ≤ u → dp F ln kerf P ≠ nev F → leL (dp F ln kerf P) i u → u + sumL ln kerf xs ≤ F.getD (i - 1) 0 + kerf →
     dp F ln kerf (maskL xs P) ≠ nev F ∧ leL (dp F ln kerf (maskL xs P)) i (u + sumL ln kerf xs)
 | [], P, u, _, _, _, hn, hl, _ => ⟨hn, by simpa [sumL, maskL] using hl⟩
 | x :: xs, P, u, hnd, hx, hu, hn, hl, hfit => by
  obtain ⟨h1, h2⟩ := List.nodup_cons.1 hnd
  have hpos : 0 ≤ sumL ln kerf xs := by
   have : ∀ ys : List Nat, (∀ y ∈ ys, y < ln.length) → 0 ≤ sumL ln kerf ys := by
    intro ys
    induction ys with
    | nil => intro _; simp [sumL]
    | cons y ys ih => intro hy; have h3 := ih fun z hz => hy z (List.mem_cons_of_mem _ hz); have h4 := hln y (hy y List.mem_cons_self); rw [sumL]; omega
   exact this xs fun y hy => (hx y (List.mem_cons_of_mem _ hy)).2
  have hx0 := hln x (hx x List.mem_cons_self).2
  rw [sumL] at hfit ⊢
  obtain ⟨t, ht, hlt⟩ := step_same F ln kerf hF hk (x := x) hi hi2 hu hl (by omega)
  obtain ⟨g1, g2⟩ := dp_add F ln kerf (hx x List.mem_cons_self).2 (hx x List.mem_cons_self).1 hn ht hi2 hlt
  have := lay_same hF hk hln hi hi2 xs (P ^^^ 2 ^ x) (u + (ln.getD x 0 + kerf)) h2 (fun z hz => ⟨by
   rw [Nat.testBit_xor, (hx z (List.mem_cons_of_mem _ hz)).1, Nat.testBit_two_pow]
   have : ¬ x = z := fun h => h1 (h ▸ hz)
   simp [this], (hx z (List.mem_cons_of_mem _ hz)).2⟩) (by omega) g1 g2 (by omega)
  rw [maskL]
  refine ⟨this.1, ?_⟩
  have e : u + (ln.getD x 0 + kerf + sumL ln kerf xs) = u + (ln.getD x 0 + kerf) + sumL ln kerf xs := by omega
  rw [e]; exact this.2
/-- A new bar's lengths. -/
theorem lay_next (hF : ∀ a b, a ≤ b → b < F.length → F.getD b 0 ≤ F.getD a 0) (hk : 0 ≤ kerf) (hln : ∀ x, x < ln.length → 1 ≤ ln.getD x 0) {i : Nat} (hi : i + 1 ≤ F.length) {xs : List Nat} {P : Nat} {u : Int} (hne : xs ≠ []) (hnd : xs.Nodup)
    (hx : ∀ x ∈ xs, P.testBit x = false ∧ x < ln.length) (hn : dp F ln kerf P ≠ nev F) (hl : leL (dp F ln kerf P) i u) (hfit : sumL ln kerf xs ≤ F.getD i 0 + kerf) :
    dp F ln kerf (maskL xs P) ≠ nev F ∧ leL (dp F ln kerf (maskL xs P)) (i + 1) (sumL ln kerf xs) := by
 cases xs with
 | nil => exact absurd rfl hne
 | cons x xs =>
  obtain ⟨h1, h2⟩ := List.nodup_cons.1 hnd
  have hpos : 0 ≤ sumL ln kerf xs := by
   have : ∀ ys : List Nat, (∀ y ∈ ys, y < ln.length) → 0 ≤ sumL ln kerf ys := by
    intro ys
    induction ys with
    | nil => intro _; simp [sumL]
    | cons y ys ih => intro hy; have h3 := ih fun z hz => hy z (List.mem_cons_of_mem _ hz); have h4 := hln y (hy y List.mem_cons_self); rw [sumL]; omega
   exact this xs fun y hy => (hx y (List.mem_cons_of_mem _ hy)).2
  have hx0 := hln x (hx x List.mem_cons_self).2
  rw [sumL] at hfit ⊢
  obtain ⟨t, ht, hlt⟩ := step_next F ln kerf hF (x := x) hi hl (by omega)
  obtain ⟨g1, g2⟩ := dp_add F ln kerf (hx x List.mem_cons_self).2 (hx x List.mem_cons_self).1 hn ht hi hlt
  exact lay_same F ln kerf hF hk hln (i := i + 1) (by omega) hi xs (P ^^^ 2 ^ x) (ln.getD x 0 + kerf) h2 (fun z hz => ⟨by
   rw [Nat.testBit_xor, (hx z (List.mem_cons_of_mem _ hz)).1, Nat.testBit_two_pow]
   have : ¬ x = z := fun h => h1 (h ▸ hz)
   simp [this], (hx z (List.mem_cons_of_mem _ hz)).2⟩) (by omega) g1 g2 (by simpa using hfit)
/-- **Whatever lies in k bars, the longest first, is laid by the table in k bars at most.** -/
theorem lay_rows (hF : ∀ a b, a ≤ b → b < F.length → F.getD b 0 ≤ F.getD a 0) (hk : 0 ≤ kerf) (hln : ∀ x, x < ln.length → 1 ≤ ln.getD x 0) :
    ∀ (rows : List (List Nat)) (i P : Nat) (u : Int), i + rows.length ≤ F.length → (∀ r ∈ rows, r ≠ []) → rows.flatten.Nodup → (∀ x ∈ rows.flatten, P.testBit x = false ∧ x < ln.length) → dp F ln kerf P ≠ nev F → leL (dp F ln kerf P) i u →
     (∀ m (h : m < rows.length), sumL ln kerf rows[m] ≤ F.getD (i + m) 0 + kerf) → dp F ln kerf (maskL rows.flatten P) ≠ nev F ∧ ∃ v, leL (dp F ln kerf (maskL rows.flatten P)) (i + rows.length) v
 | [], i, P, u, _, _, _, _, hn, hl, _ => ⟨by simpa [maskL] using hn, u, by simpa [maskL] using hl⟩
 | r :: rows, i, P, u, hi, hne, hnd, hx, hn, hl, hfit => by
  rw [List.flatten_cons] at hnd hx ⊢
  rw [List.length_cons] at hi
  obtain ⟨n1, n2, n3⟩ := List.nodup_append.1 hnd
  obtain ⟨g1, g2⟩ := lay_next F ln kerf hF hk hln (i := i) (by omega) (hne r List.mem_cons_self) n1 (fun x hx' => hx x (List.mem_append_left _ hx')) hn hl (by have := hfit 0 (by simp); simpa using this)
  have hm : ∀ (a b : List Nat) (P : Nat), maskL (a ++ b) P = maskL b (maskL a P) := by
   intro a
   induction a with
   | nil => intro b P; rfl
   | cons y a ih => intro b P; rw [List.cons_append, maskL, maskL, ih]
  rw [hm]
  have := lay_rows hF hk hln rows (i + 1) (maskL r P) _ (by omega) (fun s hs => hne s (List.mem_cons_of_mem _ hs)) n2 (fun x hx' => ⟨by
   rw [mask_bit n1 fun z hz => (hx z (List.mem_append_left _ hz)).1, (hx x (List.mem_append_right _ hx')).1]
   have : ¬ x ∈ r := fun h => n3 x h x hx' rfl
   simp [this], (hx x (List.mem_append_right _ hx')).2⟩) g1 g2 (fun m h => by
   have := hfit (m + 1) (by rw [List.length_cons]; omega)
   rw [List.getElem_cons_succ] at this
   rw [show i + 1 + m = i + (m + 1) by omega]; exact this)
  rw [List.length_cons, show i + (rows.length + 1) = i + 1 + rows.length by omega]
  exact this

/-! The way back: which length lies in which bar. -/
def back : Nat → Nat → List (Nat × Nat)
 | 0, _ => []
 | f + 1, S => if S = 0 then [] else ((dp F ln kerf S).bars - 1, (dp F ln kerf S).last) :: back f (S ^^^ 2 ^ (dp F ln kerf S).last)
def sumR (r : Nat) : List (Nat × Nat) → Int
 | [] => 0
 | p :: l => (if p.1 = r then ln.getD p.2 0 + kerf else 0) + sumR r l
theorem sumR_none {r : Nat} : ∀ {l : List (Nat × Nat)}, (∀ p ∈ l, p.1 ≠ r) → sumR ln kerf r l = 0
 | [], _ => rfl
 | p :: l, h => by rw [sumR, if_neg (h p List.mem_cons_self), sumR_none fun q hq => h q (List.mem_cons_of_mem _ hq)]; rfl
structure BackOk (S : Nat) (l : List (Nat × Nat)) : Prop where
 mem : ∀ x, x ∈ l.map (·.2) ↔ S.testBit x = true
 nodup : (l.map (·.2)).Nodup
 rank : ∀ p ∈ l, p.1 < (dp F ln kerf S).bars
 all : ∀ r, r < (dp F ln kerf S).bars → ∃ p ∈ l, p.1 = r
 fit : ∀ r, r < (dp F ln kerf S).bars → sumR ln kerf r l ≤ F.getD r 0 + kerf
 top : 1 ≤ (dp F ln kerf S).bars → sumR ln kerf ((dp F ln kerf S).bars - 1) l = (dp F ln kerf S).used
theorem back_ok (hk : 0 ≤ kerf) : ∀ (f S : Nat), S ≤ f → dp F ln kerf S ≠ nev F → BackOk F ln kerf S (back F ln kerf f S)
 | f, S, hS, hn => by
  by_cases h0 : S = 0
  ·subst h0
   have e : back F ln kerf f 0 = [] := by cases f <;> rfl
   rw [e]
   exact ⟨fun x => by simp, List.nodup_nil, fun p hp => by simp at hp, fun r hr => by rw [dp_zero] at hr; simp at hr, fun r hr => by rw [dp_zero] at hr; simp at hr, fun h => by rw [dp_zero] at h; simp at h⟩
  ·obtain ⟨i, hi, hb, hn', hs⟩ := dp_from F ln kerf (by omega) hn
   have hl := clr_lt hb
   match f, hS with
   | 0, hS => omega
   | f + 1, hS =>
    have hbar := (dp_bars F ln kerf _ (S ^^^ 2 ^ i) (Nat.le_refl _) hn').1
    obtain ⟨b1, b2, b3⟩ := step_bars F ln kerf hs hbar
    have ih := back_ok hk f (S ^^^ 2 ^ i) (by omega) hn'
    rw [back, if_neg h0, b3]
    have hbit : ∀ x, (S ^^^ 2 ^ i).testBit x = true ↔ S.testBit x = true ∧ x ≠ i := fun x => by
     rw [Nat.testBit_xor, Nat.testBit_two_pow]
     by_cases e : i = x
     ·subst e; simp [hb]
     ·have : ¬ x = i := fun h => e h.symm
      simp [e, this]
    have r0 := ih.mem
    have r00 := ih.nodup
    have r1 := ih.rank
    have r2 := ih.all
    have r3 := ih.fit
    have r4 := ih.top
    clear ih
    generalize back F ln kerf f (S ^^^ 2 ^ i) = l at *
    generalize dp F ln kerf (S ^^^ 2 ^ i) = s at *
    generalize hT : dp F ln kerf S = t at *
    have key : (t.bars = s.bars ∧ 1 ≤ s.bars ∧ t.used = s.used + (ln.getD i 0 + kerf) ∧ t.used ≤ F.getD (s.bars - 1) 0 + kerf) ∨ (t.bars = s.bars + 1 ∧ t.used = ln.getD i 0 + kerf ∧ ln.getD i 0 ≤ F.getD s.bars 0) := by
     unfold stepS at hs
     split at hs
     ·split at hs
      ·cases hs
      ·rename_i h1 h2; injection hs with hs; subst hs; right; exact ⟨rfl, rfl, by omega⟩
     ·rename_i h1; injection hs with hs; subst hs; left; exact ⟨rfl, by omega, rfl, by simp only; omega⟩
    refine ⟨fun x => ?_, ?_, ?_, ?_, ?_, ?_⟩
    ·rw [List.map_cons, List.mem_cons, r0, hbit]
     constructor
     ·rintro (rfl | h)
      ·exact hb
      ·exact h.1
     ·intro h
      by_cases e : x = i
      ·exact .inl e
      ·exact .inr ⟨h, e⟩
    ·rw [List.map_cons, List.nodup_cons]
     exact ⟨fun h => by rw [r0, hbit] at h; exact h.2 rfl, r00⟩
    ·intro p hp
     rw [hT]
     rcases List.mem_cons.1 hp with rfl | hp
     ·simp only; omega
     ·have := r1 p hp
      omega
    ·intro r hr
     rw [hT] at hr
     rcases key with ⟨k1, k2, -⟩ | ⟨k1, -⟩
     ·obtain ⟨p, hp, e⟩ := r2 r (by omega)
      exact ⟨p, List.mem_cons_of_mem _ hp, e⟩
     ·by_cases e : r = s.bars
      ·exact ⟨_, List.mem_cons_self, by simp only; omega⟩
      ·obtain ⟨p, hp, e⟩ := r2 r (by omega)
       exact ⟨p, List.mem_cons_of_mem _ hp, e⟩
    ·intro r hr
     rw [hT] at hr
     rw [sumR]
     simp only
     rcases key with ⟨k1, k2, k3, k4⟩ | ⟨k1, k2, k3⟩
     ·by_cases e : t.bars - 1 = r
      ·rw [if_pos e]
       have h1 := r4 k2
       have e2 : r = s.bars - 1 := by omega
       subst e2
       omega
      ·rw [if_neg e]
       have := r3 r (by omega)
       omega
     ·by_cases e : t.bars - 1 = r
      ·rw [if_pos e]
       have h1 : sumR ln kerf r l = 0 := sumR_none ln kerf fun p hp => by have := r1 p hp; omega
       have e2 : r = s.bars := by omega
       subst e2
       omega
      ·rw [if_neg e]
       have := r3 r (by omega)
       omega
    ·intro h1
     rw [hT] at h1 ⊢
     rw [sumR, if_pos rfl]
     simp only
     rcases key with ⟨k1, k2, k3, k4⟩ | ⟨k1, k2, k3⟩
     ·have h2 := r4 k2
      rw [k1]
      omega
     ·have h2 : sumR ln kerf (t.bars - 1) l = 0 := sumR_none ln kerf fun p hp => by have := r1 p hp; omega
      omega
end
end Go.Proofs.YtoelfalmmaddlaaGreat
/- The fewest bars, by trying all (plain). -/
set_option linter.unusedVariables false
set_option linter.unusedSimpArgs false
namespace Go.Proofs.YtoelfalmmaddlaaGreat

def cntT (u : List Bool) : Nat := u.countP fun b => b
/-- An assignment of the lengths to bars, carried out. -/
def runA (kerf : Int) : List Int → List Nat → List Int → List Bool → Option (List Bool)
 | [], [], _, used => some used
 | m :: ls, a :: ass, room, used => if a < room.length ∧ ¬ room.getD a 0 < m + kerf then runA kerf ls ass (room.set a (room.getD a 0 - m - kerf)) (used.set a true) else none
 | _, _, _, _ => none
/-- What lies in a bar. -/
def sumA (kerf : Int) (b : Nat) : List Int → List Nat → Int
 | m :: ls, a :: ass => (if a = b then m + kerf else 0) + sumA kerf b ls ass
 | _, _ => 0
theorem sumA_nn {kerf : Int} {b : Nat} : ∀ {ls : List Int} {ass : List Nat}, (∀ m ∈ ls, 0 ≤ m + kerf) → 0 ≤ sumA kerf b ls ass
 | [], _, _ => by simp [sumA]
 | _ :: _, [], _ => by simp [sumA]
 | m :: ls, a :: ass, h => by
  have h1 := sumA_nn (b := b) (ass := ass) fun x hx => h x (List.mem_cons_of_mem _ hx)
  have h2 := h m List.mem_cons_self
  rw [sumA]
  split <;> omega
theorem getD_set {α : Type} (l : List α) (i j : Nat) (x d : α) (hi : i < l.length) : (l.set i x).getD j d = if i = j then x else l.getD j d := by
 rw [List.getD_eq_getElem?_getD, List.getElem?_set, List.getD_eq_getElem?_getD]
 by_cases e : i = j
 ·subst e; simp [hi]
 ·simp [e]
/-- An assignment goes if no bar is overfull. -/
theorem run_ok {kerf : Int} : ∀ (ls : List Int) (ass : List Nat) (room : List Int) (used : List Bool), ass.length = ls.length → used.length = room.length → (∀ m ∈ ls, 0 ≤ m + kerf) → (∀ a ∈ ass, a < room.length) → (∀ b, b < room.length → sumA kerf b ls ass ≤ room.getD b 0) →
    ∃ u, runA kerf ls ass room used = some u ∧ u.length = used.length ∧ ∀ b, b < used.length → (u.getD b false = true ↔ used.getD b false = true ∨ b ∈ ass)
 | [], [], room, used, _, _, _, _, _ => ⟨used, rfl, rfl, fun b _ => by simp⟩
 | [], _ :: _, _, _, h, _, _, _, _ => by simp at h
 | _ :: _, [], _, _, h, _, _, _, _ => by simp at h
 | m :: ls, a :: ass, room, used, hl, hu, hm, ha, hs => by
  have ha0 := ha a List.mem_cons_self
  have hm0 := hm m List.mem_cons_self
  have hsa := hs a ha0
  rw [sumA, if_pos rfl] at hsa
  have hnn := sumA_nn (b := a) (ass := ass) fun x hx => hm x (List.mem_cons_of_mem _ hx)
  obtain ⟨u, h1, h2, h3⟩ := run_ok ls ass (room.set a (room.getD a 0 - m - kerf)) (used.set a true) (by simpa using hl) (by simpa using hu) (fun x hx => hm x (List.mem_cons_of_mem _ hx)) (fun x hx => by rw [List.length_set]; exact ha x (List.mem_cons_of_mem _ hx)) (fun b hb => by
   rw [List.length_set] at hb
   rw [getD_set _ _ _ _ _ ha0]
   have := hs b hb
   rw [sumA] at this
   split
   ·rename_i e; subst e; rw [if_pos rfl] at this; omega
   ·rename_i e; rw [if_neg e] at this; omega)
  refine ⟨u, by rw [runA, if_pos ⟨ha0, by omega⟩]; exact h1, by rw [h2, List.length_set], fun b hb => ?_⟩
  rw [h3 b (by rw [List.length_set]; exact hb), getD_set _ _ _ _ _ (by omega), List.mem_cons]
  by_cases e : a = b
  ·subst e; simp
  ·have e' : ¬ b = a := fun h => e h.symm
   simp [e, e']
/-- Where an assignment goes, no bar is overfull. -/
theorem run_fits {kerf : Int} : ∀ (ls : List Int) (ass : List Nat) (room : List Int) (used u : List Bool), used.length = room.length → runA kerf ls ass room used = some u → ass.length = ls.length ∧ (∀ a ∈ ass, a < room.length) ∧ (∀ b, b < room.length → sumA kerf b ls ass ≤ room.getD b 0 ∨ b ∉ ass) ∧ u.length = used.length ∧ ∀ b, b < used.length → (u.getD b false = true ↔ used.getD b false = true ∨ b ∈ ass)
 | [], [], room, used, u, _, h => by
  rw [runA] at h; injection h with h; subst h
  exact ⟨rfl, fun a ha => by simp at ha, fun b _ => .inr (by simp), rfl, fun b _ => by simp⟩
 | [], _ :: _, _, _, _, _, h => by simp [runA] at h
 | _ :: _, [], _, _, _, _, h => by simp [runA] at h
 | m :: ls, a :: ass, room, used, u, hu, h => by
  rw [runA] at h
  split at h
  ·rename_i hc
   obtain ⟨h1, h2, h3, h4, h5⟩ := run_fits ls ass _ _ u (by simpa using hu) h
   refine ⟨by simp [h1], fun x hx => ?_, fun b hb => ?_, by rw [h4, List.length_set], fun b hb => ?_⟩
   ·rcases List.mem_cons.1 hx with rfl | hx
    ·exact hc.1
    ·have := h2 x hx; rwa [List.length_set] at this
   ·have h6 := h3 b (by rw [List.length_set]; exact hb)
    rw [getD_set _ _ _ _ _ hc.1] at h6
    by_cases e : a = b
    ·subst e
     rw [if_pos rfl] at h6
     left
     rw [sumA, if_pos rfl]
     rcases h6 with h6 | h6
     ·omega
     ·have h7 : ∀ (ls : List Int) (ass : List Nat), a ∉ ass → sumA kerf a ls ass = 0 := by
        intro ls
        induction ls with
        | nil => intro ass _; cases ass <;> simp [sumA]
        | cons x ls ih =>
         intro ass hn
         cases ass with
         | nil => simp [sumA]
         | cons y ass =>
          rw [List.mem_cons, not_or] at hn
          rw [sumA, if_neg (fun e => hn.1 e.symm), ih ass hn.2]; rfl
      rw [h7 ls ass h6]
      omega
    ·rw [if_neg e] at h6
     rcases h6 with h6 | h6
     ·left; rw [sumA, if_neg e]; omega
     ·right; rw [List.mem_cons, not_or]; exact ⟨fun h => e h.symm, h6⟩
   ·rw [h5 b (by rw [List.length_set]; exact hb), getD_set _ _ _ _ _ (by omega), List.mem_cons]
    by_cases e : a = b
    ·subst e; simp
    ·have e' : ¬ b = a := fun h => e h.symm
     simp [e, e']
  ·cases h
end Go.Proofs.YtoelfalmmaddlaaGreat
/- The table's bars are the fewest (plain). -/
set_option linter.unusedVariables false
set_option linter.unusedSimpArgs false
namespace Go.Proofs.YtoelfalmmaddlaaGreat

/-- The lengths that an assignment lays in a bar, by their numbers. -/
def itemsL (b : Nat) : List Nat → Nat → List Nat
 | [], _ => []
 | a :: ass, k => if a = b then k :: itemsL b ass (k + 1) else itemsL b ass (k + 1)
theorem items_mem {b : Nat} : ∀ {ass : List Nat} {k x : Nat}, x ∈ itemsL b ass k ↔ k ≤ x ∧ x < k + ass.length ∧ ass[x - k]? = some b
 | [], k, x => by simp [itemsL]
 | a :: ass, k, x => by
  have ih := items_mem (b := b) (ass := ass) (k := k + 1) (x := x)
  rw [itemsL, List.length_cons]
  by_cases hx : x = k
  ·subst hx
   have hno : x ∉ itemsL b ass (x + 1) := by rw [ih]; omega
   by_cases e : a = b
   ·rw [if_pos e]; simp [e]
   ·rw [if_neg e]
    simp only [hno, false_iff]
    simp [e]
  ·have hk : k ≤ x → ass[x - (k + 1)]? = (a :: ass)[x - k]? := fun h => by
     rw [show x - k = (x - (k + 1)) + 1 by omega, List.getElem?_cons_succ]
   by_cases e : a = b
   ·rw [if_pos e, List.mem_cons, ih]
    constructor
    ·rintro (h | ⟨h1, h2, h3⟩)
     ·exact absurd h hx
     ·exact ⟨by omega, by omega, by rw [← hk (by omega)]; exact h3⟩
    ·rintro ⟨h1, h2, h3⟩
     exact .inr ⟨by omega, by omega, by rw [hk h1]; exact h3⟩
   ·rw [if_neg e, ih]
    constructor
    ·rintro ⟨h1, h2, h3⟩
     exact ⟨by omega, by omega, by rw [← hk (by omega)]; exact h3⟩
    ·rintro ⟨h1, h2, h3⟩
     exact ⟨by omega, by omega, by rw [hk h1]; exact h3⟩
theorem items_nodup {b : Nat} : ∀ {ass : List Nat} {k : Nat}, (itemsL b ass k).Nodup
 | [], k => List.nodup_nil
 | a :: ass, k => by
  rw [itemsL]
  split
  ·exact List.nodup_cons.2 ⟨fun h => by have := (items_mem.1 h).1; omega, items_nodup⟩
  ·exact items_nodup
theorem items_sum {ln : List Int} {kerf : Int} {b : Nat} : ∀ (ass : List Nat) (k : Nat), k + ass.length = ln.length → sumL ln kerf (itemsL b ass k) = sumA kerf b (ln.drop k) ass
 | [], k, _ => by cases ln.drop k <;> simp [itemsL, sumL, sumA]
 | a :: ass, k, h => by
  rw [List.length_cons] at h
  have hk : k < ln.length := by omega
  rw [List.drop_eq_getElem_cons hk, itemsL, sumA]
  have ih := items_sum (ln := ln) (kerf := kerf) (b := b) ass (k + 1) (by omega)
  have e : ln.getD k 0 = ln[k] := by rw [List.getD_eq_getElem?_getD, List.getElem?_eq_getElem hk]; rfl
  split
  ·rw [sumL, ih, e]
  ·rw [ih]; omega
theorem asc_ge : ∀ (l : List Nat) (k : Nat), l.Pairwise (· < ·) → (∀ x ∈ l, k ≤ x) → ∀ m (h : m < l.length), k + m ≤ l[m]
 | [], _, _, _, m, h => by simp at h
 | x :: l, k, hp, hk, m, h => by
  obtain ⟨h1, h2⟩ := List.pairwise_cons.1 hp
  cases m with
  | zero => simpa using hk x List.mem_cons_self
  | succ m =>
   have := asc_ge l (k + 1) h2 (fun y hy => by have := h1 y hy; have := hk x List.mem_cons_self; omega) m (by simpa using h)
   rw [List.getElem_cons_succ]; omega
theorem list_range {α : Type} (l : List α) (d : α) : l = (List.range l.length).map fun i => l.getD i d := by
 refine List.ext_getElem (by simp) fun i h1 h2 => ?_
 rw [List.getElem_map, List.getElem_range, List.getD_eq_getElem?_getD, List.getElem?_eq_getElem h1]; rfl
section
variable {st ln : List Int} {kerf : Int} {order : List Nat}
/-- The longest bars first. -/
def lenF (st : List Int) (order : List Nat) : List Int := order.map fun i => st.getD i 0
theorem lenF_get {r : Nat} (h : r < order.length) : (lenF st order).getD r 0 = st.getD (order.getD r 0) 0 := by
 unfold lenF
 simp [List.getD_eq_getElem?_getD, h]
theorem room_get {b : Nat} (h : b < st.length) : (st.map (· + kerf)).getD b 0 = st.getD b 0 + kerf := by
 simp [List.getD_eq_getElem?_getD, h]
theorem cnt_order {u : List Bool} (hp : order.Perm (List.range st.length)) (hu : u.length = st.length) : cntT u = ((List.range st.length).filter fun r => u.getD (order.getD r 0) false).length := by
 have hol : order.length = st.length := by have := hp.length_eq; rwa [List.length_range] at this
 unfold cntT
 rw [show u.countP (fun b => b) = ((List.range u.length).map fun i => u.getD i false).countP (fun b => b) from congrArg (List.countP fun b => b) (list_range u false), List.countP_map, hu]
 rw [← hp.countP_eq, show order.countP ((fun b => b) ∘ fun i => u.getD i false) = ((List.range order.length).map fun i => order.getD i 0).countP ((fun b => b) ∘ fun i => u.getD i false) from congrArg (List.countP _) (list_range order 0), List.countP_map, hol, List.countP_eq_length_filter]
 rfl
theorem order_inj (hp : order.Perm (List.range st.length)) {r s : Nat} (hr : r < st.length) (hs : s < st.length) (h : order.getD r 0 = order.getD s 0) : r = s := by
 have hol : order.length = st.length := by have := hp.length_eq; rwa [List.length_range] at this
 have hn : order.Nodup := hp.nodup_iff.2 List.nodup_range
 rw [List.getD_eq_getElem?_getD, List.getElem?_eq_getElem (by omega), List.getD_eq_getElem?_getD, List.getElem?_eq_getElem (by omega)] at h
 simp only [Option.getD_some] at h
 exact (List.getElem_inj hn).1 h
theorem order_lt (hp : order.Perm (List.range st.length)) {r : Nat} (hr : r < st.length) : order.getD r 0 < st.length := by
 have hol : order.length = st.length := by have := hp.length_eq; rwa [List.length_range] at this
 rw [List.getD_eq_getElem?_getD, List.getElem?_eq_getElem (by omega)]
 exact List.mem_range.1 (hp.mem_iff.1 (List.getElem_mem _))
theorem full_bits {S n : Nat} (h : ∀ y, S.testBit y = decide (y < n)) : S = 2 ^ n - 1 := Nat.eq_of_testBit_eq fun y => by rw [h, Nat.testBit_two_pow_sub_one]
/-- **No assignment uses fewer bars than the table.** -/
theorem table_le (hp : order.Perm (List.range st.length)) (hF : ∀ a b, a ≤ b → b < (lenF st order).length → (lenF st order).getD b 0 ≤ (lenF st order).getD a 0) (hk : 0 ≤ kerf) (hln : ∀ m ∈ ln, 1 ≤ m) {ass : List Nat} {u : List Bool}
    (h : runA kerf ln ass (st.map (· + kerf)) (List.replicate st.length false) = some u) : dp (lenF st order) ln kerf (2 ^ ln.length - 1) ≠ nev (lenF st order) ∧ (dp (lenF st order) ln kerf (2 ^ ln.length - 1)).bars ≤ cntT u := by
 have hol : order.length = st.length := by have := hp.length_eq; rwa [List.length_range] at this
 have hFl : (lenF st order).length = st.length := by unfold lenF; rw [List.length_map, hol]
 obtain ⟨h1, h2, h3, h4, h5⟩ := run_fits ln ass _ _ u (by simp) h
 rw [List.length_replicate] at h4 h5
 rw [List.length_map] at h2 h3
 obtain ⟨R, hR⟩ : ∃ R, R = (List.range st.length).filter fun r => u.getD (order.getD r 0) false := ⟨_, rfl⟩
 have hcnt : cntT u = R.length := by rw [hR]; exact cnt_order hp h4
 have hRm : ∀ r ∈ R, r < st.length ∧ order.getD r 0 ∈ ass := fun r hr => by
  rw [hR, List.mem_filter, List.mem_range] at hr
  refine ⟨hr.1, ?_⟩
  have := (h5 _ (order_lt hp hr.1)).1 hr.2
  rcases this with e | e
  ·rw [List.getD_eq_getElem?_getD, List.getElem?_replicate] at e
   split at e <;> simp at e
  ·exact e
 have hRa : R.Pairwise (· < ·) := by rw [hR]; exact List.Pairwise.filter _ List.pairwise_lt_range
 have hRge := asc_ge R 0 hRa (fun _ _ => Nat.zero_le _)
 have hRl : R.length ≤ st.length := by rw [hR]; exact Nat.le_trans (List.length_filter_le _ _) (by simp)
 have hit : ∀ r ∈ R, ∀ x ∈ itemsL (order.getD r 0) ass 0, x < ln.length := fun r _ x hx => by have := (items_mem.1 hx).2.1; omega
 have hdisj : ∀ r ∈ R, ∀ s ∈ R, r ≠ s → ∀ x ∈ itemsL (order.getD r 0) ass 0, x ∉ itemsL (order.getD s 0) ass 0 := fun r hr s hs hne x hx hx' => by
  have e1 := (items_mem.1 hx).2.2
  have e2 := (items_mem.1 hx').2.2
  rw [e1] at e2
  injection e2 with e2
  exact hne (order_inj hp (hRm r hr).1 (hRm s hs).1 e2)
 obtain ⟨rows, hrows⟩ : ∃ rows, rows = R.map fun r => itemsL (order.getD r 0) ass 0 := ⟨_, rfl⟩
 have hrl : rows.length = R.length := by rw [hrows, List.length_map]
 have hnd : rows.flatten.Nodup := by
  rw [List.Nodup, List.pairwise_flatten]
  refine ⟨fun l hl => ?_, ?_⟩
  ·rw [hrows] at hl
   obtain ⟨r, -, rfl⟩ := List.mem_map.1 hl
   exact items_nodup
  ·rw [hrows, List.pairwise_map]
   exact List.Pairwise.imp_of_mem (fun {r s} hr hs (hlt : r < s) x hx y hy e => by subst e; exact hdisj r hr s hs (by omega) x hx hy) hRa
 have hlay := lay_rows (lenF st order) ln kerf hF hk (fun x hx => by rw [List.getD_eq_getElem?_getD, List.getElem?_eq_getElem hx]; exact hln _ (List.getElem_mem hx)) rows 0 0 0 (by rw [hFl, hrl]; omega)
  (fun l hl => by
   rw [hrows] at hl
   obtain ⟨r, hr, rfl⟩ := List.mem_map.1 hl
   obtain ⟨x, hx, e⟩ := List.getElem_of_mem (hRm r hr).2
   exact List.ne_nil_of_mem (a := x) (items_mem.2 ⟨Nat.zero_le _, by omega, by rw [Nat.sub_zero, List.getElem?_eq_getElem hx, e]⟩))
  hnd (fun x hx => ⟨by simp, by
   obtain ⟨l, hl, hx⟩ := List.mem_flatten.1 hx
   rw [hrows] at hl
   obtain ⟨r, hr, rfl⟩ := List.mem_map.1 hl
   exact hit r hr x hx⟩)
  (by rw [dp_zero]; unfold nev; intro e; injection e with e; omega) (by rw [dp_zero]; exact .inr ⟨rfl, Int.le_refl _⟩)
  (fun m hm => by
   rw [hrl] at hm
   have hr := hRm R[m] (List.getElem_mem hm)
   have hm2 : rows[m]'(by rw [hrl]; exact hm) = itemsL (order.getD R[m] 0) ass 0 := by simp only [hrows, List.getElem_map]
   rw [hm2, items_sum _ _ (by omega), List.drop_zero]
   have hge := hRge m hm
   have h6 := h3 _ (order_lt hp hr.1)
   rcases h6 with h6 | h6
   ·rw [room_get (order_lt hp hr.1)] at h6
    have h7 := hF m R[m] (by omega) (by rw [hFl]; exact hr.1)
    rw [lenF_get (by omega : R[m] < order.length)] at h7
    rw [Nat.zero_add]
    omega
   ·exact absurd hr.2 h6)
 have hfull : maskL rows.flatten 0 = 2 ^ ln.length - 1 := by
  refine full_bits fun y => ?_
  rw [mask_bit hnd (fun x _ => by simp)]
  simp only [Nat.zero_testBit, Bool.false_or, decide_eq_decide]
  constructor
  ·intro hy
   obtain ⟨l, hl, hx⟩ := List.mem_flatten.1 hy
   rw [hrows] at hl
   obtain ⟨r, hr, rfl⟩ := List.mem_map.1 hl
   exact hit r hr y hx
  ·intro hy
   have hya : y < ass.length := by omega
   have hb := h2 _ (List.getElem_mem hya)
   obtain ⟨r, hr, e⟩ := List.getElem_of_mem (hp.mem_iff.2 (List.mem_range.2 hb))
   have er : order.getD r 0 = ass[y] := by rw [List.getD_eq_getElem?_getD, List.getElem?_eq_getElem hr]; exact e
   refine List.mem_flatten.2 ⟨itemsL (order.getD r 0) ass 0, ?_, items_mem.2 ⟨Nat.zero_le _, by omega, by rw [Nat.sub_zero, List.getElem?_eq_getElem hya, er]⟩⟩
   rw [hrows]
   refine List.mem_map.2 ⟨r, ?_, rfl⟩
   rw [hR, List.mem_filter, List.mem_range, er]
   exact ⟨by omega, (h5 _ hb).2 (.inr (List.getElem_mem hya))⟩
 rw [hfull] at hlay
 refine ⟨hlay.1, ?_⟩
 obtain ⟨v, hv⟩ := hlay.2
 rw [hcnt, ← hrl]
 unfold leL at hv
 omega

/-! The way back is an assignment. -/
def rankL (l : List (Nat × Nat)) (x : Nat) : Nat := ((l.find? fun p => p.2 == x).map (·.1)).getD 0
theorem rank_of : ∀ {l : List (Nat × Nat)} {p : Nat × Nat}, (l.map (·.2)).Nodup → p ∈ l → rankL l p.2 = p.1
 | q :: l, p, hn, hp => by
  rw [List.map_cons, List.nodup_cons] at hn
  unfold rankL
  rw [List.find?_cons]
  rcases List.mem_cons.1 hp with rfl | hp
  ·simp
  ·have hne : (q.2 == p.2) = false := by
     rw [beq_eq_false_iff_ne]
     exact fun e => hn.1 (e ▸ List.mem_map_of_mem hp)
   rw [hne]
   exact rank_of hn.2 hp
theorem sumL_perm {l l' : List Nat} (h : l.Perm l') : sumL ln kerf l = sumL ln kerf l' := by
 induction h with
 | nil => rfl
 | cons x _ ih => rw [sumL, sumL, ih]
 | swap x y l => rw [sumL, sumL, sumL, sumL]; omega
 | trans _ _ h1 h2 => rw [h1, h2]
theorem sumR_L {r : Nat} : ∀ (l : List (Nat × Nat)), sumR ln kerf r l = sumL ln kerf ((l.filter fun p => p.1 == r).map (·.2))
 | [] => rfl
 | p :: l => by
  rw [sumR, List.filter_cons, sumR_L l]
  by_cases e : p.1 = r
  ·have e2 : (p.1 == r) = true := by simpa using e
   rw [if_pos e, if_pos e2, List.map_cons, sumL]
  ·have e2 : (p.1 == r) = false := by simpa using e
   rw [if_neg e, e2]
   simp
theorem range_lt (k : Nat) : ∀ n, k ≤ n → ((List.range n).filter fun r => decide (r < k)).length = k
 | 0, h => by simp; omega
 | n + 1, h => by
  rw [List.range_succ, List.filter_append, List.length_append]
  by_cases e : k = n + 1
  ·subst e
   have h1 : (List.range n).filter (fun r => decide (r < n + 1)) = List.range n := List.filter_eq_self.2 fun x hx => by have := List.mem_range.1 hx; simp; omega
   rw [h1]; simp
  ·rw [range_lt k n (by omega)]
   have : ¬ n < k := by omega
   simp [this]
end
end Go.Proofs.YtoelfalmmaddlaaGreat
/- Crosscuts (plain): the bars from the longest on; the rows that the table gives are an assignment. -/
set_option linter.unusedVariables false
set_option linter.unusedSimpArgs false
namespace Go.Proofs.YtoelfalmmaddlaaGreat
open Go Go.RowKit Go.Sort Go.Lib
theorem own_intsV1 {w : World} {base e g cap : Nat} {l : List Int} {n : Nat} (h : w.ownsRow base e 1 (.slice (some ⟨g, 0, none⟩) n cap) n (l.map (Value.int .i64))) : IntsV w (some ⟨g, 0, none⟩) l := by
 intro _
 refine ⟨g, 0, rfl, fun k x hk => ?_⟩
 have := h.cells (g := g) rfl k (.int .i64 x) (by simp [hk])
 rwa [addr_add] at this
theorem own_setne {w : World} {base e k n g cap : Nat} {xs : List Value} {b i : Nat} {v : Value} (h : w.ownsRow base e k (.slice (some ⟨g, 0, none⟩) n cap) n xs) (hne : g ≠ b) : (w.setCell ⟨b, i, none⟩ v).ownsRow base e k (.slice (some ⟨g, 0, none⟩) n cap) n xs := by
 refine ⟨h.1, ?_⟩
 rcases h.2 with h0 | ⟨g', cap', cur, e0, hb, hg, r⟩
 ·exact .inl h0
 ·have e1 := e0
  injection e1 with e1
  injection e1 with e1
  injection e1 with e1
  subst e1
  exact .inr ⟨g, cap', cur, e0, hb, by simp [World.setCell, Array.getElem?_modify, hg, Ne.symm hne], r⟩
theorem own_some {w : World} {base e k n : Nat} {v : Value} {xs : List Value} (h : w.ownsRow base e k v n xs) (hn : 0 < n) : ∃ g cap, v = .slice (some ⟨g, 0, none⟩) n cap ∧ base ≤ g ∧ g < w.heap.size := by
 rcases h.2 with ⟨rfl, h0⟩ | ⟨g, cap, cur, rfl, hb, hg, _⟩
 ·omega
 ·exact ⟨g, cap, rfl, hb, (Array.getElem?_eq_some_iff.1 hg).1⟩
theorem perm_insL {α : Type} [Inhabited α] {lt : α → α → Bool} {pre : List α} {x : α} : (insL lt pre x).Perm (x :: pre) := by
 unfold insL
 refine (List.perm_middle).trans ?_
 rw [List.take_append_drop]
theorem perm_sortL {α : Type} [Inhabited α] {lt : α → α → Bool} : ∀ {r acc : List α}, (sortL lt r acc).Perm (r ++ acc)
 | [], acc => List.Perm.refl _
 | x :: r, acc => by
  rw [sortL]
  refine perm_sortL.trans ?_
  refine (perm_insL.append_left r).trans ?_
  exact List.perm_middle
theorem long_perm (st : List Int) : (longM st).Perm (List.range st.length) := by
 have h := perm_sortL (lt := fallB st) (r := List.range st.length) (acc := [])
 rwa [List.append_nil] at h
theorem posL_fall {pre : List Int} {x : Int} (hp : pre.Pairwise fun a b => b ≤ a) : ∀ n, n ≤ pre.length →
    (∀ i, i < posL (fun a b : Int => decide (b < a)) pre x n → x ≤ pre.getD i 0) ∧ (∀ i, posL (fun a b : Int => decide (b < a)) pre x n ≤ i → i < n → pre.getD i 0 < x)
 | 0, _ => ⟨fun i h => by simp [posL] at h, fun i _ h => by omega⟩
 | n + 1, hn => by
  obtain ⟨h1, h2⟩ := posL_fall hp n (by omega)
  rw [posL]
  have e : pre.getD n default = pre.getD n 0 := rfl
  by_cases h : pre.getD n 0 < x
  ·rw [if_pos (by simpa [e] using h)]
   refine ⟨h1, fun i hi hin => ?_⟩
   by_cases ei : i = n
   ·subst ei; exact h
   ·exact h2 i hi (by omega)
  ·rw [if_neg (by simpa [e] using h)]
   refine ⟨fun i hi => ?_, fun i hi hin => by omega⟩
   by_cases ei : i = n
   ·subst ei; omega
   ·have h3 := (List.pairwise_iff_getElem.1 hp) i n (by omega) (by omega) (by omega)
    rw [List.getD_eq_getElem?_getD, List.getElem?_eq_getElem (by omega)] at h ⊢
    simp only [Option.getD_some] at h ⊢
    omega
theorem insL_fall {pre : List Int} {x : Int} (hp : pre.Pairwise fun a b => b ≤ a) : (insL (fun a b : Int => decide (b < a)) pre x).Pairwise fun a b => b ≤ a := by
 obtain ⟨h1, h2⟩ := posL_fall (x := x) hp pre.length (Nat.le_refl _)
 have hle := posL_le (fun a b : Int => decide (b < a)) pre x pre.length
 unfold insL
 generalize posL (fun a b : Int => decide (b < a)) pre x pre.length = k at *
 rw [List.pairwise_append]
 have hget : ∀ i (h : i < pre.length), pre.getD i 0 = pre[i] := fun i h => by rw [List.getD_eq_getElem?_getD, List.getElem?_eq_getElem h]; rfl
 refine ⟨hp.sublist (List.take_sublist _ _), List.pairwise_cons.2 ⟨fun b hb => ?_, hp.sublist (List.drop_sublist _ _)⟩, fun a ha b hb => ?_⟩
 ·obtain ⟨i, hi, rfl⟩ := List.mem_iff_getElem.1 hb
  rw [List.length_drop] at hi
  rw [List.getElem_drop]
  have := h2 (k + i) (by omega) (by omega)
  rw [hget _ (by omega)] at this
  omega
 ·obtain ⟨i, hi, rfl⟩ := List.mem_iff_getElem.1 ha
  rw [List.length_take] at hi
  rw [List.getElem_take]
  have h3 := h1 i (by omega)
  rw [hget _ (by omega)] at h3
  rcases List.mem_cons.1 hb with rfl | hb
  ·exact h3
  ·obtain ⟨j, hj, rfl⟩ := List.mem_iff_getElem.1 hb
   rw [List.length_drop] at hj
   rw [List.getElem_drop]
   exact (List.pairwise_iff_getElem.1 hp) i (k + j) (by omega) (by omega) (by omega)
theorem sortL_fall : ∀ {r acc : List Int}, acc.Pairwise (fun a b => b ≤ a) → (sortL (fun a b : Int => decide (b < a)) r acc).Pairwise fun a b => b ≤ a
 | [], _, h => h
 | x :: r, acc, h => by rw [sortL]; exact sortL_fall (insL_fall h)
theorem fall_pair (st : List Int) : (fallL st).Pairwise fun a b => b ≤ a := sortL_fall List.Pairwise.nil
theorem lenF_long (st : List Int) : lenF st (longM st) = fallL st := longM_vals st
theorem fall_mono {F : List Int} (h : F.Pairwise fun a b => b ≤ a) : ∀ a b, a ≤ b → b < F.length → F.getD b 0 ≤ F.getD a 0 := fun a b hab hb => by
 rw [List.getD_eq_getElem?_getD, List.getElem?_eq_getElem hb, List.getD_eq_getElem?_getD, List.getElem?_eq_getElem (by omega)]
 simp only [Option.getD_some]
 by_cases e : a = b
 ·subst e; exact Int.le_refl _
 ·exact (List.pairwise_iff_getElem.1 h) a b (by omega) hb (by omega)
theorem rowSum_L {ln : List Int} {kerf : Int} : ∀ l : List Nat, rowSum ln kerf (l.map fun i : Nat => (i : Int)) = sumL ln kerf l
 | [] => rfl
 | x :: l => by rw [List.map_cons, rowSum, rowSum_L l, sumL]; rfl
theorem ent_fine {m : Nat} {D : List Bool} {x : List Nat} (hx : ∀ y ∈ x, y < m) (hp : x.Pairwise (· < ·)) (hD : ∀ y ∈ x, D.getD y false = false) {i : Nat} (hi : i < x.length) : entE m D (x.map fun i : Nat => (i : Int)) i = 0 := by
 have hl : i < (x.map fun i : Nat => (i : Int)).length := by rw [List.length_map]; exact hi
 have hg : (x.map fun i : Nat => (i : Int))[i] = (x[i] : Int) := by rw [List.getElem_map]
 refine ent_zero hl ?_ (fun h0 => ?_) ?_
 ·rw [hg]
  have := hx _ (List.getElem_mem hi)
  unfold withinB
  simp only [Bool.and_eq_true, decide_eq_true_eq]
  omega
 ·rw [hg, List.getElem_map]
  have := (List.pairwise_iff_getElem.1 hp) (i - 1) i (by omega) hi (by omega)
  omega
 ·rw [hg]
  exact hD _ (List.getElem_mem hi)
theorem mark_getD : ∀ {x : List Nat} {D : List Bool} {n : Nat}, n < D.length → (markB D (x.map fun i : Nat => (i : Int))).getD n false = (D.getD n false || decide (n ∈ x))
 | [], D, n, h => by simp [markB]
 | y :: x, D, n, h => by
  rw [List.map_cons, markB, mark_getD (by rw [List.length_set]; exact h)]
  simp only [List.getD_eq_getElem?_getD, Int.toNat_natCast]
  by_cases e : y = n
  ·subst e; simp [h]
  ·have e' : ¬ n = y := fun h => e h.symm
   rw [List.getElem?_set_ne e]
   simp [e']
def cntR (rows : List (List Nat)) : Nat := rows.countP fun r => !r.isEmpty
theorem bars_fine {ln : List Int} {kerf : Int} : ∀ (rows : List (List Nat)) (s : List Int) (D : List Bool) (U : Int), rows.length = s.length → D.length = ln.length → (∀ r ∈ rows, r.Pairwise (· < ·)) → rows.flatten.Nodup → (∀ x ∈ rows.flatten, x < ln.length ∧ D.getD x false = false) →
    (∀ i, i < rows.length → sumL ln kerf (rows.getD i []) ≤ s.getD i 0 + kerf) → (∀ x, x < ln.length → D.getD x false = true ∨ x ∈ rows.flatten) → barsGo ln kerf (rows.map fun r => r.map fun i : Nat => (i : Int)) s D U = (U + cntR rows, 0)
 | [], s, D, U, hl, hD, _, _, _, _, hall => by
  rw [List.map_nil, barsGo, if_neg]
  ·simp [cntR]
  ·rw [Bool.not_eq_false, List.all_eq_true]
   intro b hb
   obtain ⟨i, hi, rfl⟩ := List.mem_iff_getElem.1 hb
   rcases hall i (by omega) with h | h
   ·rw [List.getD_eq_getElem?_getD, List.getElem?_eq_getElem hi] at h; exact h
   ·simp at h
 | r :: rows, [], D, U, hl, _, _, _, _, _, _ => by simp at hl
 | r :: rows, v :: s, D, U, hl, hD, hp, hn, hx, hf, hall => by
  rw [List.flatten_cons, List.nodup_append] at hn
  obtain ⟨n1, n2, n3⟩ := hn
  have hxr : ∀ y ∈ r, y < ln.length ∧ D.getD y false = false := fun y hy => hx y (by rw [List.flatten_cons]; exact List.mem_append_left _ hy)
  have hE : rowE ln.length D (r.map fun i : Nat => (i : Int)) = 0 := row_ok (k := r.length) (fun i hi => ent_fine (fun y hy => (hxr y hy).1) (hp r List.mem_cons_self) (fun y hy => (hxr y hy).2) hi) (by rw [List.length_map]; exact Nat.le_refl _)
  have h0 := hf 0 (by simp)
  simp only [List.getD_cons_zero] at h0
  rw [List.map_cons, barsGo, if_neg (by simp [hE]), rowSum_L, if_neg (by simp only [List.headD_cons]; omega), List.tail_cons]
  rw [bars_fine rows s _ _ (by simpa using hl) (by rw [markB_len]; exact hD) (fun x hx => hp x (List.mem_cons_of_mem _ hx)) n2 (fun x hx' => ?_) (fun i hi => ?_) (fun x hx' => ?_)]
  ·unfold cntR
   rw [List.countP_cons, List.length_map]
   cases r with
   | nil => simp
   | cons y r => simp; omega
  ·have h1 := hx x (by rw [List.flatten_cons]; exact List.mem_append_right _ hx')
   refine ⟨h1.1, ?_⟩
   rw [mark_getD (by omega), h1.2]
   have : x ∉ r := fun h => n3 x h x hx' rfl
   simp [this]
  ·have := hf (i + 1) (by simpa using hi)
   simpa using this
  ·rw [mark_getD (by omega)]
   rcases hall x hx' with h | h
   ·rw [h]; simp
   ·rw [List.flatten_cons, List.mem_append] at h
    rcases h with h | h
    ·left; simp [h]
    ·exact .inr h
/-- **Rows in rising order that hold each length once, and fit, are accepted.** -/
theorem assign_fine {st ln : List Int} {kerf : Int} {rows : List (List Nat)} (hc : crossE st ln kerf = 0) (hl : rows.length = st.length) (hp : ∀ r ∈ rows, r.Pairwise (· < ·)) (hn : rows.flatten.Nodup) (hx : ∀ x, x ∈ rows.flatten ↔ x < ln.length) (hf : ∀ i, i < st.length → sumL ln kerf (rows.getD i []) ≤ st.getD i 0 + kerf) :
    assignM st ln kerf (rows.map fun r => r.map fun i : Nat => (i : Int)) = ((cntR rows : Int), 0) := by
 unfold assignM
 rw [if_neg (by simp [hc]), if_neg (by simp [hl])]
 rw [bars_fine rows st _ 0 hl (by simp) hp hn (fun x h => ⟨(hx x).1 h, by
  rw [List.getD_eq_getElem?_getD, List.getElem?_replicate, if_pos ((hx x).1 h)]; rfl⟩) (fun i hi => hf i (by omega)) (fun x h => .inr ((hx x).2 h))]
 simp
def layR (order : List Nat) : List (Nat × Nat) → List (List Nat) → List (List Nat)
 | [], o => o
 | p :: l, o => layR order l (o.set (order.getD p.1 0) (o.getD (order.getD p.1 0) [] ++ [p.2]))
theorem layR_len {order : List Nat} : ∀ {l : List (Nat × Nat)} {o : List (List Nat)}, (layR order l o).length = o.length
 | [], _ => rfl
 | p :: l, o => by rw [layR, layR_len, List.length_set]
theorem layR_get {order : List Nat} : ∀ {l : List (Nat × Nat)} {o : List (List Nat)} {b : Nat}, b < o.length → (layR order l o).getD b [] = o.getD b [] ++ ((l.filter fun p => order.getD p.1 0 == b).map (·.2))
 | [], o, b, _ => by simp [layR]
 | p :: l, o, b, h => by
  rw [layR, layR_get (by rw [List.length_set]; exact h), List.filter_cons]
  by_cases e : order.getD p.1 0 = b
  ·have e2 : (order.getD p.1 0 == b) = true := by simpa using e
   rw [if_pos e2, getD_set _ _ _ _ _ (by omega), if_pos e, e]
   simp
  ·have e2 : (order.getD p.1 0 == b) = false := by simpa using e
   rw [e2]
   by_cases hlt : order.getD p.1 0 < o.length
   ·rw [getD_set _ _ _ _ _ hlt, if_neg e]; simp
   ·rw [List.set_eq_of_length_le (by omega)]; simp
/-- Rows with the same members ass others, each row for itself. -/
def RowsPerm (a b : List (List Nat)) : Prop := a.length = b.length ∧ ∀ i, i < b.length → (a.getD i []).Perm (b.getD i [])
section
variable {st ln : List Int} {kerf : Int} {order : List Nat}
theorem cntR_getD {rows : List (List Nat)} {n : Nat} (hl : rows.length = n) : cntR rows = cntT ((List.range n).map fun b => !(rows.getD b []).isEmpty) := by
 unfold cntR cntT
 subst hl
 rw [List.countP_map]
 have h := list_range rows []
 have h2 : List.countP (fun r => !r.isEmpty) rows = List.countP (fun r => !r.isEmpty) ((List.range rows.length).map fun i => rows.getD i []) := congrArg _ h
 rw [h2, List.countP_map]
 rfl
/-- **The rows of the table's way back are an assignment with ass many bars.** -/
theorem back_rows (hp : order.Perm (List.range st.length)) (hk : 0 ≤ kerf) (hc : crossE st ln kerf = 0) (hst : ∀ m ∈ st, 0 ≤ m) (hd : dp (lenF st order) ln kerf (2 ^ ln.length - 1) ≠ nev (lenF st order)) {rows : List (List Nat)}
    (hr : RowsPerm rows (layR order (back (lenF st order) ln kerf (2 ^ ln.length - 1) (2 ^ ln.length - 1)) (List.replicate st.length []))) (hs : ∀ r ∈ rows, r.Pairwise (· ≤ ·)) :
    assignM st ln kerf (rows.map fun r => r.map fun i : Nat => (i : Int)) = (((dp (lenF st order) ln kerf (2 ^ ln.length - 1)).bars : Int), 0) := by
 have hol : order.length = st.length := by have := hp.length_eq; rwa [List.length_range] at this
 have hFl : (lenF st order).length = st.length := by unfold lenF; rw [List.length_map, hol]
 have hB := back_ok (lenF st order) ln kerf hk _ _ (Nat.le_refl (2 ^ ln.length - 1)) hd
 have hbar := (dp_bars (lenF st order) ln kerf _ _ (Nat.le_refl (2 ^ ln.length - 1)) hd).1
 have m0 := hB.mem
 have m1 := hB.nodup
 have m2 := hB.rank
 have m3 := hB.all
 have m4 := hB.fit
 clear hB hd
 rw [hFl] at hbar
 generalize back (lenF st order) ln kerf (2 ^ ln.length - 1) (2 ^ ln.length - 1) = l at *
 generalize (dp (lenF st order) ln kerf (2 ^ ln.length - 1)).bars = B at *
 have hlen : (layR order l (List.replicate st.length [])).length = st.length := by rw [layR_len]; simp
 have hget : ∀ b, b < st.length → (layR order l (List.replicate st.length [])).getD b [] = (l.filter fun p => order.getD p.1 0 == b).map (·.2) := fun b hb => by
  rw [layR_get (by simpa using hb)]
  rw [List.getD_eq_getElem?_getD, List.getElem?_replicate, if_pos hb]; simp
 have hrl : rows.length = st.length := by rw [hr.1, hlen]
 have hrow : ∀ b, b < st.length → (rows.getD b []).Perm ((l.filter fun p => order.getD p.1 0 == b).map (·.2)) := fun b hb => by rw [← hget b hb]; exact hr.2 b (by omega)
 have hrank : ∀ r, r < st.length → (l.filter fun p => order.getD p.1 0 == order.getD r 0) = l.filter fun p => p.1 == r := fun r hr' => List.filter_congr fun p hp' => by
  rw [Bool.eq_iff_iff, beq_iff_eq, beq_iff_eq]
  exact ⟨fun e => order_inj hp (by have := m2 p hp'; omega) hr' e, fun e => by rw [e]⟩
 have hsurj : ∀ b, b < st.length → ∃ r, r < st.length ∧ order.getD r 0 = b := fun b hb => by
  obtain ⟨r, hr', e⟩ := List.getElem_of_mem (hp.mem_iff.2 (List.mem_range.2 hb))
  exact ⟨r, by omega, by rw [List.getD_eq_getElem?_getD, List.getElem?_eq_getElem hr']; exact e⟩
 have hmem : ∀ x, x ∈ rows.flatten ↔ ∃ b, b < st.length ∧ x ∈ rows.getD b [] := fun x => by
  rw [List.mem_flatten]
  constructor
  ·rintro ⟨r, h1, h2⟩
   obtain ⟨b, hb, rfl⟩ := List.mem_iff_getElem.1 h1
   exact ⟨b, by omega, by rw [List.getD_eq_getElem?_getD, List.getElem?_eq_getElem hb]; exact h2⟩
  ·rintro ⟨b, hb, h2⟩
   rw [List.getD_eq_getElem?_getD, List.getElem?_eq_getElem (by omega)] at h2
   exact ⟨_, List.getElem_mem (by omega), h2⟩
 have hin : ∀ b, b < st.length → ∀ x, x ∈ rows.getD b [] ↔ ∃ p ∈ l, order.getD p.1 0 = b ∧ p.2 = x := fun b hb x => by
  rw [(hrow b hb).mem_iff, List.mem_map]
  constructor
  ·rintro ⟨p, h1, h2⟩
   obtain ⟨h1, h3⟩ := List.mem_filter.1 h1
   exact ⟨p, h1, by simpa using h3, h2⟩
  ·rintro ⟨p, h1, h2, h3⟩
   exact ⟨p, List.mem_filter.2 ⟨h1, by simpa using h2⟩, h3⟩
 have hxs : ∀ x, x ∈ rows.flatten ↔ x < ln.length := fun x => by
  rw [hmem]
  constructor
  ·rintro ⟨b, hb, h⟩
   obtain ⟨p, h1, -, rfl⟩ := (hin b hb x).1 h
   have := (m0 p.2).1 (List.mem_map_of_mem h1)
   rw [Nat.testBit_two_pow_sub_one] at this
   simpa using this
  ·intro hx
   obtain ⟨p, h1, rfl⟩ := List.mem_map.1 ((m0 x).2 (by rw [Nat.testBit_two_pow_sub_one]; simpa using hx))
   have hb := order_lt hp (r := p.1) (by have := m2 p h1; omega)
   exact ⟨_, hb, (hin _ hb _).2 ⟨p, h1, rfl, rfl⟩⟩
 have hpn : ∀ {p q : Nat × Nat}, p ∈ l → q ∈ l → p.2 = q.2 → p = q := fun {p q} h1 h2 e => by
  have e1 := rank_of m1 h1
  have e2 := rank_of m1 h2
  rw [e] at e1
  exact Prod.ext (by omega) e
 have hnr : ∀ b, b < st.length → (rows.getD b []).Nodup := fun b hb => ((hrow b hb).nodup_iff).2 (List.Nodup.sublist (List.filter_sublist.map _) m1)
 have hri : ∀ {b : Nat} (hb : b < rows.length), rows.getD b [] = rows[b] := fun {b} hb => by rw [List.getD_eq_getElem?_getD, List.getElem?_eq_getElem hb]; rfl
 have hnd : rows.flatten.Nodup := by
  rw [List.Nodup, List.pairwise_flatten]
  refine ⟨fun r hr' => ?_, ?_⟩
  ·obtain ⟨b, hb, rfl⟩ := List.mem_iff_getElem.1 hr'
   rw [← hri hb]
   exact hnr b (by omega)
  ·rw [List.pairwise_iff_getElem]
   intro i j hi hj hij x hx y hy e
   subst e
   rw [← hri hi] at hx
   rw [← hri hj] at hy
   obtain ⟨p, p1, p2, p3⟩ := (hin i (by omega) x).1 hx
   obtain ⟨q, q1, q2, q3⟩ := (hin j (by omega) x).1 hy
   have := hpn p1 q1 (by rw [p3, q3])
   subst this
   omega
 rw [assign_fine hc hrl (fun r hr' => ?_) hnd hxs (fun b hb => ?_)]
 ·congr 2
  have hcnt : cntR rows = B := by
   rw [cntR_getD hrl, cnt_order hp (by simp)]
   rw [show (List.range st.length).filter (fun r => (((List.range st.length).map fun b => !(rows.getD b []).isEmpty).getD (order.getD r 0) false)) = (List.range st.length).filter fun r => decide (r < B) from List.filter_congr fun r hr' => by
    have hr2 := List.mem_range.1 hr'
    have hb := order_lt hp hr2
    rw [List.getD_eq_getElem?_getD (l := (List.range st.length).map fun b => !(rows.getD b []).isEmpty), List.getElem?_map, List.getElem?_range hb]
    simp only [Option.map_some, Option.getD_some]
    rw [Bool.eq_iff_iff, decide_eq_true_eq, Bool.not_eq_true', List.isEmpty_eq_false_iff_exists_mem]
    constructor
    ·rintro ⟨x, hx⟩
     obtain ⟨p, p1, p2, p3⟩ := (hin _ hb x).1 hx
     have h3 := m2 p p1
     have := order_inj hp (by omega) hr2 p2
     omega
    ·intro h
     obtain ⟨p, p1, p2⟩ := m3 r h
     exact ⟨p.2, (hin _ hb _).2 ⟨p, p1, by rw [p2], rfl⟩⟩]
   exact range_lt B _ hbar
  exact_mod_cast hcnt
 ·obtain ⟨b, hb, rfl⟩ := List.mem_iff_getElem.1 hr'
  have h1 := hs _ hr'
  have h2 := hnr b (by omega)
  rw [hri hb] at h2
  rw [List.Nodup] at h2
  exact (h1.and h2).imp fun ⟨h3, h4⟩ => Nat.lt_of_le_of_ne h3 h4
 ·obtain ⟨r, hr', rfl⟩ := hsurj b hb
  rw [sumL_perm (hrow _ hb), hrank r hr', ← sumR_L]
  by_cases hrB : r < B
  ·have := m4 r hrB
   rwa [lenF_get (by omega)] at this
  ·rw [sumR_none ln kerf fun p hp' => by have := m2 p hp'; omega]
   have : 0 ≤ st.getD (order.getD r 0) 0 := by
    rw [List.getD_eq_getElem?_getD, List.getElem?_eq_getElem hb]
    exact hst _ (List.getElem_mem _)
   omega
end
end Go.Proofs.YtoelfalmmaddlaaGreat
/- Pieces in rows are bars (plain). -/
set_option linter.unusedVariables false
set_option linter.unusedSimpArgs false
namespace Go.Proofs.YtoelfalmmaddlaaGreat

def apartK (k : Int) (p q : Int × Int) : Prop := p.2 + k ≤ q.1 ∨ q.2 + k ≤ p.1
def lenK (k : Int) : List (Int × Int) → Int
 | [] => 0
 | p :: l => p.2 - p.1 + k + lenK k l
theorem lenK_perm {k : Int} {l l' : List (Int × Int)} (h : l.Perm l') : lenK k l = lenK k l' := by
 induction h with
 | nil => rfl
 | cons x _ ih => rw [lenK, lenK, ih]
 | swap x y l => simp only [lenK]; omega
 | trans _ _ h1 h2 => rw [h1, h2]
theorem max_fst : ∀ {l : List (Int × Int)}, l ≠ [] → ∃ m ∈ l, ∀ p ∈ l, p.1 ≤ m.1
 | [], h => absurd rfl h
 | [p], _ => ⟨p, List.mem_cons_self, fun q hq => by rw [List.mem_singleton.1 hq]; exact Int.le_refl _⟩
 | p :: q :: l, _ => by
  obtain ⟨m, h1, h2⟩ := max_fst (l := q :: l) (by simp)
  by_cases h : m.1 ≤ p.1
  ·exact ⟨p, List.mem_cons_self, fun r hr => by
     rcases List.mem_cons.1 hr with rfl | hr
     ·exact Int.le_refl _
     ·exact Int.le_trans (h2 r hr) h⟩
  ·exact ⟨m, List.mem_cons_of_mem _ h1, fun r hr => by
     rcases List.mem_cons.1 hr with rfl | hr
     ·omega
     ·exact h2 r hr⟩
/-- **Intervals apart in a length are together no longer than it.** -/
theorem pack {k A : Int} (hk : 0 ≤ k) : ∀ (n : Nat) (l : List (Int × Int)) (B : Int), l.length = n → A ≤ B + k → (∀ p ∈ l, A ≤ p.1 ∧ p.1 < p.2 ∧ p.2 ≤ B) → l.Pairwise (apartK k) → lenK k l ≤ B + k - A
 | 0, l, B, hn, hAB, _, _ => by
  obtain rfl := List.length_eq_zero_iff.1 hn
  rw [lenK]; omega
 | n + 1, l, B, hn, hAB, hl, hp => by
  obtain ⟨m, hm, hmx⟩ := max_fst (l := l) (by rintro rfl; simp at hn)
  have hperm := List.perm_cons_erase hm
  have hp2 : (m :: l.erase m).Pairwise (apartK k) := (hperm.pairwise_iff (fun {x y} h => by unfold apartK at *; omega)).1 hp
  obtain ⟨h1, h2⟩ := List.pairwise_cons.1 hp2
  obtain ⟨m1, m2, m3⟩ := hl m hm
  have hlen : (l.erase m).length = n := by have := hperm.length_eq; rw [List.length_cons] at this; omega
  have hall : ∀ p ∈ l.erase m, A ≤ p.1 ∧ p.1 < p.2 ∧ p.2 ≤ m.1 - k := fun p hp => by
   have hpl := List.mem_of_mem_erase hp
   obtain ⟨p1, p2, p3⟩ := hl p hpl
   have h3 := h1 p hp
   have h4 := hmx p hpl
   unfold apartK at h3
   exact ⟨p1, p2, by omega⟩
  have ih := pack hk n (l.erase m) (m.1 - k) hlen (by omega) hall h2
  rw [lenK_perm hperm, lenK]
  omega
theorem items_asc {b : Nat} : ∀ {asn : List Nat} {k : Nat}, (itemsL b asn k).Pairwise (· < ·)
 | [], k => List.Pairwise.nil
 | a :: asn, k => by
  rw [itemsL]
  split
  ·exact List.pairwise_cons.2 ⟨fun x hx => by have := (items_mem.1 hx).1; omega, items_asc⟩
  ·exact items_asc
/-- The rows of pieces, by their boards. -/
def rowsB (n : Nat) (asn : List Nat) : List (List Nat) := (List.range n).map fun b => itemsL b asn 0
theorem rowsB_len (n : Nat) (asn : List Nat) : (rowsB n asn).length = n := by simp [rowsB]
theorem rowsB_get {n b : Nat} {asn : List Nat} (h : b < n) : (rowsB n asn).getD b [] = itemsL b asn 0 := by
 unfold rowsB
 rw [List.getD_eq_getElem?_getD, List.getElem?_map, List.getElem?_range h]; rfl
theorem rowsB_zero (n : Nat) : rowsB n [] = List.replicate n [] := by
 unfold rowsB
 refine List.ext_getElem (by simp) fun i h1 h2 => ?_
 rw [List.getElem_map, List.getElem_replicate]; rfl
theorem items_snoc {b c : Nat} : ∀ {asn : List Nat} {k : Nat}, itemsL b (asn ++ [c]) k = itemsL b asn k ++ (if c = b then [k + asn.length] else [])
 | [], k => by simp only [List.nil_append, itemsL, List.length_nil, Nat.add_zero]
 | a :: asn, k => by
  rw [List.cons_append, itemsL, itemsL, items_snoc, List.length_cons, show k + 1 + asn.length = k + (asn.length + 1) by omega]
  split <;> simp
theorem rowsB_snoc {n c : Nat} {asn : List Nat} (h : c < n) : rowsB n (asn ++ [c]) = (rowsB n asn).set c ((rowsB n asn).getD c [] ++ [asn.length]) := by
 refine List.ext_getElem (by simp [rowsB]) fun i h1 h2 => ?_
 rw [rowsB_len] at h1
 have e1 : (rowsB n (asn ++ [c]))[i]'(by rw [rowsB_len]; exact h1) = itemsL i (asn ++ [c]) 0 := by unfold rowsB; simp
 rw [e1, items_snoc, List.getElem_set]
 by_cases e : c = i
 ·subst e
  rw [if_pos rfl, if_pos rfl, Nat.zero_add, rowsB_get h]
 ·rw [if_neg e, if_neg e]
  unfold rowsB
  simp
theorem cntR_set {rows : List (List Nat)} {c : Nat} {x : List Nat} (h : c < rows.length) (hx : x ≠ []) : cntR (rows.set c x) = cntR rows + if (rows.getD c []).length = 0 then 1 else 0 := by
 unfold cntR
 induction rows generalizing c with
 | nil => simp at h
 | cons y rows ih =>
  cases c with
  | zero =>
   rw [List.set_cons_zero, List.countP_cons, List.countP_cons]
   cases x with
   | nil => exact absurd rfl hx
   | cons _ _ => cases y <;> simp
  | succ c =>
   rw [List.set_cons_succ, List.countP_cons, List.countP_cons, ih (by simpa using h)]
   simp only [List.getD_cons_succ]
   omega
/-- **The rows are a right assignment, and the table's bars are no more.** -/
theorem rows_bars {st ln : List Int} {kerf : Int} {asn : List Nat} (hc : crossE st ln kerf = 0) (hl : asn.length = ln.length) (ha : ∀ a ∈ asn, a < st.length) (hf : ∀ b, b < st.length → sumA kerf b ln asn ≤ st.getD b 0 + kerf) :
    assignM st ln kerf ((rowsB st.length asn).map fun r => r.map fun i : Nat => (i : Int)) = ((cntR (rowsB st.length asn) : Int), 0) ∧
     dp (lenF st (longM st)) ln kerf (2 ^ ln.length - 1) ≠ nev (lenF st (longM st)) ∧ (dp (lenF st (longM st)) ln kerf (2 ^ ln.length - 1)).bars ≤ cntR (rowsB st.length asn) := by
 obtain ⟨-, hs, hln, hk⟩ := cross_ok hc
 have hmem : ∀ x, x ∈ (rowsB st.length asn).flatten ↔ x < ln.length := fun x => by
  rw [List.mem_flatten]
  constructor
  ·rintro ⟨r, h1, h2⟩
   unfold rowsB at h1
   obtain ⟨b, hb, rfl⟩ := List.mem_map.1 h1
   have := (items_mem.1 h2).2.1
   omega
  ·intro hx
   have hxa : x < asn.length := by omega
   have hb := ha _ (List.getElem_mem hxa)
   refine ⟨itemsL asn[x] asn 0, ?_, items_mem.2 ⟨Nat.zero_le _, by omega, by rw [Nat.sub_zero, List.getElem?_eq_getElem hxa]⟩⟩
   unfold rowsB
   exact List.mem_map.2 ⟨asn[x], List.mem_range.2 hb, rfl⟩
 have hnd : (rowsB st.length asn).flatten.Nodup := by
  rw [List.Nodup, List.pairwise_flatten]
  refine ⟨fun r hr => ?_, ?_⟩
  ·unfold rowsB at hr
   obtain ⟨b, -, rfl⟩ := List.mem_map.1 hr
   exact items_nodup
  ·unfold rowsB
   rw [List.pairwise_map]
   exact List.pairwise_lt_range.imp fun {b c} hbc x hx y hy e => by
    subst e
    have h1 := (items_mem.1 hx).2.2
    have h2 := (items_mem.1 hy).2.2
    rw [h1] at h2
    injection h2 with h2
    omega
 have h1 := assign_fine (rows := rowsB st.length asn) hc (rowsB_len _ _) (fun r hr => by
  unfold rowsB at hr
  obtain ⟨b, -, rfl⟩ := List.mem_map.1 hr
  exact items_asc) hnd hmem (fun b hb => by
  rw [rowsB_get hb, items_sum asn 0 (by omega), List.drop_zero]
  exact hf b hb)
 refine ⟨h1, ?_⟩
 obtain ⟨u, r1, r2, r3⟩ := run_ok (kerf := kerf) ln asn (st.map (· + kerf)) (List.replicate st.length false) hl (by simp) (fun m hm => by have := hln m hm; omega) (fun a h => by rw [List.length_map]; exact ha a h) (fun b hb => by
  rw [List.length_map] at hb
  rw [room_get hb]; exact hf b hb)
 have hF : ∀ a b, a ≤ b → b < (lenF st (longM st)).length → (lenF st (longM st)).getD b 0 ≤ (lenF st (longM st)).getD a 0 := by rw [lenF_long]; exact fall_mono (fall_pair st)
 obtain ⟨t1, t2⟩ := table_le (long_perm st) hF hk.1 (fun m hm => (hln m hm).1) r1
 refine ⟨t1, Nat.le_trans t2 (Nat.le_of_eq ?_)⟩
 rw [List.length_replicate] at r2 r3
 rw [cntR_getD (rowsB_len _ _)]
 congr 1
 refine List.ext_getElem (by simp [r2]) fun b h1 h2 => ?_
 have hb : b < st.length := by omega
 rw [List.getElem_map, List.getElem_range, rowsB_get hb]
 have h3 := r3 b hb
 rw [List.getD_eq_getElem?_getD, List.getElem?_eq_getElem h1] at h3
 simp only [Option.getD_some] at h3
 rw [Bool.eq_iff_iff, h3, Bool.not_eq_true', List.isEmpty_eq_false_iff_exists_mem]
 constructor
 ·rintro (e | e)
  ·rw [List.getD_eq_getElem?_getD, List.getElem?_replicate] at e
   split at e <;> simp at e
  ·obtain ⟨x, hx, e⟩ := List.getElem_of_mem e
   exact ⟨x, items_mem.2 ⟨Nat.zero_le _, by omega, by rw [Nat.sub_zero, List.getElem?_eq_getElem hx, e]⟩⟩
 ·rintro ⟨x, hx⟩
  obtain ⟨-, -, h4⟩ := items_mem.1 hx
  exact .inr (List.mem_of_getElem? h4)
/-- What lies on a board, by intervals. -/
theorem sumA_pack {kerf : Int} {b : Nat} : ∀ (I : List (Int × Int)) (asn : List Nat), sumA kerf b (I.map fun p => p.2 - p.1) asn = lenK kerf (((I.zip asn).filter fun q => q.2 == b).map (·.1))
 | [], asn => by simp [sumA, lenK]
 | p :: I, [] => by simp [sumA, lenK]
 | p :: I, a :: asn => by
  rw [List.map_cons, sumA, sumA_pack I asn, List.zip_cons_cons, List.filter_cons]
  by_cases e : a = b
  ·have e2 : (a == b) = true := by simpa using e
   rw [if_pos e, if_pos e2, List.map_cons, lenK]
  ·have e2 : (a == b) = false := by simpa using e
   rw [if_neg e, e2]; simp
end Go.Proofs.YtoelfalmmaddlaaGreat
