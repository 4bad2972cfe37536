/- The table over sets of lengths: the fewest bars, and how far the last one is filled (plain). -/
set_option linter.unusedVariables false
set_option linter.unusedSimpArgs false
namespace Go.Proofs.Ytoelfalmmaddlaa

/-- How many bars are used, how much of the last one, and which length was laid there last. -/
structure Sta where
  bars : Nat
  used : Int
  last : Nat
deriving DecidableEq
section
variable (F ln : List Int) (kerf : Int)
def nev : Sta := ⟨F.length + 1, 0, 0⟩
def stepS (s : Sta) (i : Nat) : Option Sta :=
  if s.bars = 0 ∨ F.getD (s.bars - 1) 0 + kerf < s.used + (ln.getD i 0 + kerf) then
    if F.length < s.bars + 1 ∨ F.getD s.bars 0 < ln.getD i 0 then none else some ⟨s.bars + 1, ln.getD i 0 + kerf, i⟩
  else some ⟨s.bars, s.used + (ln.getD i 0 + kerf), i⟩
def ltS (s t : Sta) : Bool := decide (s.bars < t.bars) || (decide (s.bars = t.bars) && decide (s.used < t.used))
def bestI (L : List Sta) (S : Nat) : Nat → Sta
  | 0 => nev F
  | i + 1 => if S.testBit i = true then (if L.getD (S ^^^ 2 ^ i) (nev F) = nev F then bestI L S i else match stepS F ln kerf (L.getD (S ^^^ 2 ^ i) (nev F)) i with | none => bestI L S i | some u => if ltS u (bestI L S i) = true then u else bestI L S i) else bestI L S i
def dpL : Nat → List Sta
  | 0 => [⟨0, 0, 0⟩]
  | k + 1 => dpL k ++ [bestI F ln kerf (dpL k) (k + 1) ln.length]
def dp (S : Nat) : Sta := (dpL F ln kerf S).getD S (nev F)
theorem dpL_len : ∀ k, (dpL F ln kerf k).length = k + 1
  | 0 => rfl
  | k + 1 => by rw [dpL, List.length_append, dpL_len k]; rfl
theorem dpL_get : ∀ {k j : Nat}, j ≤ k → (dpL F ln kerf k).getD j (nev F) = dp F ln kerf j
  | 0, j, h => by obtain rfl : j = 0 := by omega
                  rfl
  | k + 1, j, h => by
    by_cases e : j = k + 1
    · subst e; rfl
    · rw [dpL, List.getD_eq_getElem?_getD, List.getElem?_append_left (by rw [dpL_len]; omega), ← List.getD_eq_getElem?_getD]
      exact dpL_get (by omega)
theorem clr_lt : ∀ {i S : Nat}, S.testBit i = true → S ^^^ 2 ^ i < S
  | 0, S, h => by
    have h1 : (S ^^^ 2 ^ 0) / 2 = S / 2 := by rw [Nat.xor_div_two]; simp
    have h2 : (S ^^^ 2 ^ 0).testBit 0 = false := by rw [Nat.testBit_xor, h, Nat.testBit_two_pow]; simp
    rw [Nat.testBit_zero, decide_eq_false_iff_not] at h2
    rw [Nat.testBit_zero, decide_eq_true_eq] at h
    omega
  | i + 1, S, h => by
    rw [Nat.testBit_succ] at h
    have ih := clr_lt h
    have e : 2 ^ (i + 1) / 2 = 2 ^ i := by rw [Nat.pow_succ]; omega
    have h1 : (S ^^^ 2 ^ (i + 1)) / 2 = S / 2 ^^^ 2 ^ i := by rw [Nat.xor_div_two, e]
    have h2 : (S ^^^ 2 ^ (i + 1)).testBit 0 = S.testBit 0 := by rw [Nat.testBit_xor, Nat.testBit_two_pow]; simp
    rw [Nat.testBit_zero, Nat.testBit_zero, decide_eq_decide] at h2
    omega
/-- The table's own rule. -/
def bestD (S : Nat) : Nat → Sta
  | 0 => nev F
  | i + 1 => if S.testBit i = true then (if dp F ln kerf (S ^^^ 2 ^ i) = nev F then bestD S i else match stepS F ln kerf (dp F ln kerf (S ^^^ 2 ^ i)) i with | none => bestD S i | some u => if ltS u (bestD S i) = true then u else bestD S i) else bestD S i
theorem bestI_D {S k : Nat} (hk : S = k + 1) : ∀ m, bestI F ln kerf (dpL F ln kerf k) S m = bestD F ln kerf S m
  | 0 => rfl
  | i + 1 => by
    rw [bestI, bestD, bestI_D hk i]
    by_cases h : S.testBit i = true
    · have hl := clr_lt h
      rw [if_pos h, if_pos h, dpL_get F ln kerf (by omega)]
    · rw [if_neg h, if_neg h]
theorem dp_rule {S : Nat} (h : 1 ≤ S) : dp F ln kerf S = bestD F ln kerf S ln.length := by
  obtain ⟨k, rfl⟩ : ∃ k, S = k + 1 := ⟨S - 1, by omega⟩
  rw [← bestI_D F ln kerf rfl]
  unfold dp
  rw [dpL, List.getD_eq_getElem?_getD, List.getElem?_append_right (by rw [dpL_len]; omega), dpL_len]
  simp
theorem dp_zero : dp F ln kerf 0 = ⟨0, 0, 0⟩ := rfl
theorem step_bars {s t : Sta} {i : Nat} (h : stepS F ln kerf s i = some t) (hs : s.bars ≤ F.length) : 1 ≤ t.bars ∧ t.bars ≤ F.length ∧ t.last = i := by
  unfold stepS at h
  split at h
  · split at h
    · cases h
    · rename_i h1 h2; injection h with h; subst h; exact ⟨Nat.succ_le_succ (Nat.zero_le _), by simp only; omega, rfl⟩
  · rename_i h1; injection h with h; subst h; exact ⟨by simp only; omega, hs, rfl⟩
theorem ltS_trans {s t u : Sta} (h : ltS s t = true) (h' : ltS u t = false) : ltS u s = false := by
  unfold ltS at *
  simp only [Bool.or_eq_true, Bool.and_eq_true, decide_eq_true_eq, Bool.or_eq_false_iff, Bool.and_eq_false_iff, decide_eq_false_iff_not] at *
  omega
/-- What the table holds is no greater than any candidate, and is one of them, or never. -/
theorem best_all {S : Nat} : ∀ m, (∀ i, i < m → S.testBit i = true → dp F ln kerf (S ^^^ 2 ^ i) ≠ nev F → ∀ u, stepS F ln kerf (dp F ln kerf (S ^^^ 2 ^ i)) i = some u → ltS u (bestD F ln kerf S m) = false) ∧
    (bestD F ln kerf S m = nev F ∨ ∃ i, i < m ∧ S.testBit i = true ∧ dp F ln kerf (S ^^^ 2 ^ i) ≠ nev F ∧ stepS F ln kerf (dp F ln kerf (S ^^^ 2 ^ i)) i = some (bestD F ln kerf S m))
  | 0 => ⟨fun i h => by omega, .inl rfl⟩
  | m + 1 => by
    obtain ⟨h1, h2⟩ := best_all (S := S) m
    have hkeep : bestD F ln kerf S (m + 1) = bestD F ln kerf S m → (∀ u, S.testBit m = true → dp F ln kerf (S ^^^ 2 ^ m) ≠ nev F → stepS F ln kerf (dp F ln kerf (S ^^^ 2 ^ m)) m = some u → ltS u (bestD F ln kerf S m) = false) → (∀ i, i < m + 1 → S.testBit i = true → dp F ln kerf (S ^^^ 2 ^ i) ≠ nev F → ∀ u, stepS F ln kerf (dp F ln kerf (S ^^^ 2 ^ i)) i = some u → ltS u (bestD F ln kerf S (m + 1)) = false) ∧
      (bestD F ln kerf S (m + 1) = nev F ∨ ∃ i, i < m + 1 ∧ S.testBit i = true ∧ dp F ln kerf (S ^^^ 2 ^ i) ≠ nev F ∧ stepS F ln kerf (dp F ln kerf (S ^^^ 2 ^ i)) i = some (bestD F ln kerf S (m + 1))) := by
      intro e hm
      rw [e]
      refine ⟨fun i hi hb hn u hu => ?_, ?_⟩
      · by_cases ei : i = m
        · subst ei; exact hm u hb hn hu
        · exact h1 i (by omega) hb hn u hu
      · rcases h2 with h2 | ⟨i, hi, h3⟩
        · exact .inl h2
        · exact .inr ⟨i, by omega, h3⟩
    by_cases hb : S.testBit m = true
    · by_cases hn : dp F ln kerf (S ^^^ 2 ^ m) = nev F
      · exact hkeep (by rw [bestD, if_pos hb, if_pos hn]) (fun u _ hn' _ => absurd hn hn')
      · cases hs : stepS F ln kerf (dp F ln kerf (S ^^^ 2 ^ m)) m with
        | none => exact hkeep (by rw [bestD, if_pos hb, if_neg hn, hs]) (fun u _ _ hu => by rw [hs] at hu; cases hu)
        | some u0 =>
          by_cases hl : ltS u0 (bestD F ln kerf S m) = true
          · have e : bestD F ln kerf S (m + 1) = u0 := by rw [bestD, if_pos hb, if_neg hn, hs]; simp only; rw [if_pos hl]
            rw [e]
            refine ⟨fun i hi hb' hn' u hu => ?_, .inr ⟨m, by omega, hb, hn, hs⟩⟩
            by_cases ei : i = m
            · subst ei
              rw [hs] at hu
              injection hu with hu
              subst hu
              unfold ltS; simp
            · exact ltS_trans hl (h1 i (by omega) hb' hn' u hu)
          · exact hkeep (by rw [bestD, if_pos hb, if_neg hn, hs]; simp only; rw [if_neg hl]) (fun u _ _ hu => by rw [hs] at hu; injection hu with hu; subst hu; simpa using hl)
    · exact hkeep (by rw [bestD, if_neg hb]) (fun u h => absurd h hb)
/-- A set that can be laid comes of one with a length less. -/
theorem dp_from {S : Nat} (h : 1 ≤ S) (hn : dp F ln kerf S ≠ nev F) : ∃ i, i < ln.length ∧ S.testBit i = true ∧ dp F ln kerf (S ^^^ 2 ^ i) ≠ nev F ∧ stepS F ln kerf (dp F ln kerf (S ^^^ 2 ^ i)) i = some (dp F ln kerf S) := by
  rw [dp_rule F ln kerf h] at hn ⊢
  exact (best_all F ln kerf ln.length).2.resolve_left hn
theorem dp_bars : ∀ (n S : Nat), S ≤ n → dp F ln kerf S ≠ nev F → (dp F ln kerf S).bars ≤ F.length ∧ (1 ≤ S → 1 ≤ (dp F ln kerf S).bars)
  | n, S, hS, hn => by
    by_cases h0 : S = 0
    · subst h0; rw [dp_zero]; exact ⟨Nat.zero_le _, fun h => absurd h (by omega)⟩
    · obtain ⟨i, hi, hb, hn', hs⟩ := dp_from F ln kerf (by omega) hn
      have hl := clr_lt hb
      match n with
      | 0 => omega
      | n + 1 =>
        have := (dp_bars n (S ^^^ 2 ^ i) (by omega) hn').1
        have h2 := step_bars F ln kerf hs this
        exact ⟨h2.2.1, fun _ => h2.1⟩

/-! No state is greater than one that can be reached. -/
def leL (s : Sta) (b : Nat) (u : Int) : Prop := s.bars < b ∨ (s.bars = b ∧ s.used ≤ u)
theorem step_same (hF : ∀ a b, a ≤ b → b < F.length → F.getD b 0 ≤ F.getD a 0) (hk : 0 ≤ kerf) {s : Sta} {i x : Nat} {u : Int} (hi : 1 ≤ i) (hi2 : i ≤ F.length) (hu : 0 ≤ u) (hs : leL s i u) (hfit : u + (ln.getD x 0 + kerf) ≤ F.getD (i - 1) 0 + kerf) :
    ∃ t, stepS F ln kerf s x = some t ∧ leL t i (u + (ln.getD x 0 + kerf)) := by
  unfold stepS
  unfold leL at hs
  by_cases hnew : s.bars = 0 ∨ F.getD (s.bars - 1) 0 + kerf < s.used + (ln.getD x 0 + kerf)
  · rw [if_pos hnew]
    have hlt : s.bars < i := by
      rcases hs with h | ⟨h1, h2⟩
      · exact h
      · rcases hnew with h | h
        · omega
        · rw [h1] at h; omega
    have hF1 := hF s.bars (i - 1) (by omega) (by omega)
    rw [if_neg (by omega)]
    refine ⟨_, rfl, ?_⟩
    unfold leL
    simp only
    omega
  · rw [if_neg hnew]
    refine ⟨_, rfl, ?_⟩
    unfold leL
    simp only
    omega
theorem step_next (hF : ∀ a b, a ≤ b → b < F.length → F.getD b 0 ≤ F.getD a 0) {s : Sta} {i x : Nat} {u : Int} (hi : i + 1 ≤ F.length) (hs : leL s i u) (hfit : ln.getD x 0 ≤ F.getD i 0) :
    ∃ t, stepS F ln kerf s x = some t ∧ leL t (i + 1) (ln.getD x 0 + kerf) := by
  unfold stepS
  unfold leL at hs
  have hle : s.bars ≤ i := by omega
  by_cases hnew : s.bars = 0 ∨ F.getD (s.bars - 1) 0 + kerf < s.used + (ln.getD x 0 + kerf)
  · rw [if_pos hnew]
    have hF1 := hF s.bars i hle (by omega)
    rw [if_neg (by omega)]
    refine ⟨_, rfl, ?_⟩
    unfold leL
    simp only
    omega
  · rw [if_neg hnew]
    refine ⟨_, rfl, ?_⟩
    unfold leL
    simp only
    omega
theorem leL_of {s t : Sta} {b : Nat} {u : Int} (h : ltS t s = false) (ht : leL t b u) : leL s b u := by
  unfold ltS at h
  unfold leL at *
  simp only [Bool.or_eq_false_iff, Bool.and_eq_false_iff, decide_eq_false_iff_not] at h
  omega
/-- The table at a set with one length more. -/
theorem dp_add {P x : Nat} (hx : x < ln.length) (hP : P.testBit x = false) (hn : dp F ln kerf P ≠ nev F) {t : Sta} (hs : stepS F ln kerf (dp F ln kerf P) x = some t) {b : Nat} {u : Int} (hb : b ≤ F.length) (ht : leL t b u) : dp F ln kerf (P ^^^ 2 ^ x) ≠ nev F ∧ leL (dp F ln kerf (P ^^^ 2 ^ x)) b u := by
  have hbit : (P ^^^ 2 ^ x).testBit x = true := by rw [Nat.testBit_xor, hP, Nat.testBit_two_pow]; simp
  have hback : P ^^^ 2 ^ x ^^^ 2 ^ x = P := by rw [Nat.xor_assoc, Nat.xor_self, Nat.xor_zero]
  have h1 : 1 ≤ P ^^^ 2 ^ x := by
    have := clr_lt hbit
    omega
  have hl := (best_all F ln kerf (S := P ^^^ 2 ^ x) ln.length).1 x hx hbit (by rw [hback]; exact hn) t (by rw [hback]; exact hs)
  rw [← dp_rule F ln kerf h1] at hl
  have hle := leL_of hl ht
  refine ⟨fun e => ?_, hle⟩
  rw [e] at hle
  unfold leL nev at hle
  simp only at hle
  omega
/-- The set of a list. -/
def maskL : List Nat → Nat → Nat
  | [], P => P
  | x :: xs, P => maskL xs (P ^^^ 2 ^ x)
theorem mask_bit : ∀ {xs : List Nat} {P y : Nat}, xs.Nodup → (∀ x ∈ xs, P.testBit x = false) → (maskL xs P).testBit y = (P.testBit y || decide (y ∈ xs))
  | [], P, y, _, _ => by simp [maskL]
  | x :: xs, P, y, hn, hP => by
    obtain ⟨h1, h2⟩ := List.nodup_cons.1 hn
    rw [maskL, mask_bit h2 fun z hz => ?_, Nat.testBit_xor, Nat.testBit_two_pow]
    · by_cases e : x = y
      · subst e; rw [hP x List.mem_cons_self]; simp
      · have e' : ¬ y = x := fun h => e h.symm
        simp [e, e']
    · rw [Nat.testBit_xor, hP z (List.mem_cons_of_mem _ hz), Nat.testBit_two_pow]
      have : ¬ x = z := fun h => h1 (h ▸ hz)
      simp [this]
def sumL (xs : List Nat) : Int := match xs with | [] => 0 | x :: xs => ln.getD x 0 + kerf + sumL xs
/-- One bar's lengths, laid behind those that lie in it. -/
theorem lay_same (hF : ∀ a b, a ≤ b → b < F.length → F.getD b 0 ≤ F.getD a 0) (hk : 0 ≤ kerf) (hln : ∀ x, x < ln.length → 1 ≤ ln.getD x 0) {i : Nat} (hi : 1 ≤ i) (hi2 : i ≤ F.length) :
    ∀ (xs : List Nat) (P : Nat) (u : Int), xs.Nodup → (∀ x ∈ xs, P.testBit x = false ∧ x < ln.length) → 0 ≤ u → dp F ln kerf P ≠ nev F → leL (dp F ln kerf P) i u → u + sumL ln kerf xs ≤ F.getD (i - 1) 0 + kerf →
      dp F ln kerf (maskL xs P) ≠ nev F ∧ leL (dp F ln kerf (maskL xs P)) i (u + sumL ln kerf xs)
  | [], P, u, _, _, _, hn, hl, _ => ⟨hn, by simpa [sumL, maskL] using hl⟩
  | x :: xs, P, u, hnd, hx, hu, hn, hl, hfit => by
    obtain ⟨h1, h2⟩ := List.nodup_cons.1 hnd
    have hpos : 0 ≤ sumL ln kerf xs := by
      have : ∀ ys : List Nat, (∀ y ∈ ys, y < ln.length) → 0 ≤ sumL ln kerf ys := by
        intro ys
        induction ys with
        | nil => intro _; simp [sumL]
        | cons y ys ih => intro hy; have h3 := ih fun z hz => hy z (List.mem_cons_of_mem _ hz); have h4 := hln y (hy y List.mem_cons_self); rw [sumL]; omega
      exact this xs fun y hy => (hx y (List.mem_cons_of_mem _ hy)).2
    have hx0 := hln x (hx x List.mem_cons_self).2
    rw [sumL] at hfit ⊢
    obtain ⟨t, ht, hlt⟩ := step_same F ln kerf hF hk (x := x) hi hi2 hu hl (by omega)
    obtain ⟨g1, g2⟩ := dp_add F ln kerf (hx x List.mem_cons_self).2 (hx x List.mem_cons_self).1 hn ht hi2 hlt
    have := lay_same hF hk hln hi hi2 xs (P ^^^ 2 ^ x) (u + (ln.getD x 0 + kerf)) h2 (fun z hz => ⟨by
      rw [Nat.testBit_xor, (hx z (List.mem_cons_of_mem _ hz)).1, Nat.testBit_two_pow]
      have : ¬ x = z := fun h => h1 (h ▸ hz)
      simp [this], (hx z (List.mem_cons_of_mem _ hz)).2⟩) (by omega) g1 g2 (by omega)
    rw [maskL]
    refine ⟨this.1, ?_⟩
    have e : u + (ln.getD x 0 + kerf + sumL ln kerf xs) = u + (ln.getD x 0 + kerf) + sumL ln kerf xs := by omega
    rw [e]; exact this.2
/-- A new bar's lengths. -/
theorem lay_next (hF : ∀ a b, a ≤ b → b < F.length → F.getD b 0 ≤ F.getD a 0) (hk : 0 ≤ kerf) (hln : ∀ x, x < ln.length → 1 ≤ ln.getD x 0) {i : Nat} (hi : i + 1 ≤ F.length) {xs : List Nat} {P : Nat} {u : Int} (hne : xs ≠ []) (hnd : xs.Nodup)
    (hx : ∀ x ∈ xs, P.testBit x = false ∧ x < ln.length) (hn : dp F ln kerf P ≠ nev F) (hl : leL (dp F ln kerf P) i u) (hfit : sumL ln kerf xs ≤ F.getD i 0 + kerf) :
    dp F ln kerf (maskL xs P) ≠ nev F ∧ leL (dp F ln kerf (maskL xs P)) (i + 1) (sumL ln kerf xs) := by
  cases xs with
  | nil => exact absurd rfl hne
  | cons x xs =>
    obtain ⟨h1, h2⟩ := List.nodup_cons.1 hnd
    have hpos : 0 ≤ sumL ln kerf xs := by
      have : ∀ ys : List Nat, (∀ y ∈ ys, y < ln.length) → 0 ≤ sumL ln kerf ys := by
        intro ys
        induction ys with
        | nil => intro _; simp [sumL]
        | cons y ys ih => intro hy; have h3 := ih fun z hz => hy z (List.mem_cons_of_mem _ hz); have h4 := hln y (hy y List.mem_cons_self); rw [sumL]; omega
      exact this xs fun y hy => (hx y (List.mem_cons_of_mem _ hy)).2
    have hx0 := hln x (hx x List.mem_cons_self).2
    rw [sumL] at hfit ⊢
    obtain ⟨t, ht, hlt⟩ := step_next F ln kerf hF (x := x) hi hl (by omega)
    obtain ⟨g1, g2⟩ := dp_add F ln kerf (hx x List.mem_cons_self).2 (hx x List.mem_cons_self).1 hn ht hi hlt
    exact lay_same F ln kerf hF hk hln (i := i + 1) (by omega) hi xs (P ^^^ 2 ^ x) (ln.getD x 0 + kerf) h2 (fun z hz => ⟨by
      rw [Nat.testBit_xor, (hx z (List.mem_cons_of_mem _ hz)).1, Nat.testBit_two_pow]
      have : ¬ x = z := fun h => h1 (h ▸ hz)
      simp [this], (hx z (List.mem_cons_of_mem _ hz)).2⟩) (by omega) g1 g2 (by simpa using hfit)
/-- **Whatever lies in k bars, the longest first, is laid by the table in k bars at most.** -/
theorem lay_rows (hF : ∀ a b, a ≤ b → b < F.length → F.getD b 0 ≤ F.getD a 0) (hk : 0 ≤ kerf) (hln : ∀ x, x < ln.length → 1 ≤ ln.getD x 0) :
    ∀ (rows : List (List Nat)) (i P : Nat) (u : Int), i + rows.length ≤ F.length → (∀ r ∈ rows, r ≠ []) → rows.flatten.Nodup → (∀ x ∈ rows.flatten, P.testBit x = false ∧ x < ln.length) → dp F ln kerf P ≠ nev F → leL (dp F ln kerf P) i u →
      (∀ m (h : m < rows.length), sumL ln kerf rows[m] ≤ F.getD (i + m) 0 + kerf) → dp F ln kerf (maskL rows.flatten P) ≠ nev F ∧ ∃ v, leL (dp F ln kerf (maskL rows.flatten P)) (i + rows.length) v
  | [], i, P, u, _, _, _, _, hn, hl, _ => ⟨by simpa [maskL] using hn, u, by simpa [maskL] using hl⟩
  | r :: rows, i, P, u, hi, hne, hnd, hx, hn, hl, hfit => by
    rw [List.flatten_cons] at hnd hx ⊢
    rw [List.length_cons] at hi
    obtain ⟨n1, n2, n3⟩ := List.nodup_append.1 hnd
    obtain ⟨g1, g2⟩ := lay_next F ln kerf hF hk hln (i := i) (by omega) (hne r List.mem_cons_self) n1 (fun x hx' => hx x (List.mem_append_left _ hx')) hn hl (by have := hfit 0 (by simp); simpa using this)
    have hm : ∀ (a b : List Nat) (P : Nat), maskL (a ++ b) P = maskL b (maskL a P) := by
      intro a
      induction a with
      | nil => intro b P; rfl
      | cons y a ih => intro b P; rw [List.cons_append, maskL, maskL, ih]
    rw [hm]
    have := lay_rows hF hk hln rows (i + 1) (maskL r P) _ (by omega) (fun s hs => hne s (List.mem_cons_of_mem _ hs)) n2 (fun x hx' => ⟨by
      rw [mask_bit n1 fun z hz => (hx z (List.mem_append_left _ hz)).1, (hx x (List.mem_append_right _ hx')).1]
      have : ¬ x ∈ r := fun h => n3 x h x hx' rfl
      simp [this], (hx x (List.mem_append_right _ hx')).2⟩) g1 g2 (fun m h => by
      have := hfit (m + 1) (by rw [List.length_cons]; omega)
      rw [List.getElem_cons_succ] at this
      rw [show i + 1 + m = i + (m + 1) by omega]; exact this)
    rw [List.length_cons, show i + (rows.length + 1) = i + 1 + rows.length by omega]
    exact this

/-! The way back: which length lies in which bar. -/
def back : Nat → Nat → List (Nat × Nat)
  | 0, _ => []
  | f + 1, S => if S = 0 then [] else ((dp F ln kerf S).bars - 1, (dp F ln kerf S).last) :: back f (S ^^^ 2 ^ (dp F ln kerf S).last)
def sumR (r : Nat) : List (Nat × Nat) → Int
  | [] => 0
  | p :: l => (if p.1 = r then ln.getD p.2 0 + kerf else 0) + sumR r l
theorem sumR_none {r : Nat} : ∀ {l : List (Nat × Nat)}, (∀ p ∈ l, p.1 ≠ r) → sumR ln kerf r l = 0
  | [], _ => rfl
  | p :: l, h => by rw [sumR, if_neg (h p List.mem_cons_self), sumR_none fun q hq => h q (List.mem_cons_of_mem _ hq)]; rfl
structure BackOk (S : Nat) (l : List (Nat × Nat)) : Prop where
  mem : ∀ x, x ∈ l.map (·.2) ↔ S.testBit x = true
  nodup : (l.map (·.2)).Nodup
  rank : ∀ p ∈ l, p.1 < (dp F ln kerf S).bars
  all : ∀ r, r < (dp F ln kerf S).bars → ∃ p ∈ l, p.1 = r
  fit : ∀ r, r < (dp F ln kerf S).bars → sumR ln kerf r l ≤ F.getD r 0 + kerf
  top : 1 ≤ (dp F ln kerf S).bars → sumR ln kerf ((dp F ln kerf S).bars - 1) l = (dp F ln kerf S).used
theorem back_ok (hk : 0 ≤ kerf) : ∀ (f S : Nat), S ≤ f → dp F ln kerf S ≠ nev F → BackOk F ln kerf S (back F ln kerf f S)
  | f, S, hS, hn => by
    by_cases h0 : S = 0
    · subst h0
      have e : back F ln kerf f 0 = [] := by cases f <;> rfl
      rw [e]
      exact ⟨fun x => by simp, List.nodup_nil, fun p hp => by simp at hp, fun r hr => by rw [dp_zero] at hr; simp at hr, fun r hr => by rw [dp_zero] at hr; simp at hr, fun h => by rw [dp_zero] at h; simp at h⟩
    · obtain ⟨i, hi, hb, hn', hs⟩ := dp_from F ln kerf (by omega) hn
      have hl := clr_lt hb
      match f, hS with
      | 0, hS => omega
      | f + 1, hS =>
        have hbar := (dp_bars F ln kerf _ (S ^^^ 2 ^ i) (Nat.le_refl _) hn').1
        obtain ⟨b1, b2, b3⟩ := step_bars F ln kerf hs hbar
        have ih := back_ok hk f (S ^^^ 2 ^ i) (by omega) hn'
        rw [back, if_neg h0, b3]
        have hbit : ∀ x, (S ^^^ 2 ^ i).testBit x = true ↔ S.testBit x = true ∧ x ≠ i := fun x => by
          rw [Nat.testBit_xor, Nat.testBit_two_pow]
          by_cases e : i = x
          · subst e; simp [hb]
          · have : ¬ x = i := fun h => e h.symm
            simp [e, this]
        have r0 := ih.mem
        have r00 := ih.nodup
        have r1 := ih.rank
        have r2 := ih.all
        have r3 := ih.fit
        have r4 := ih.top
        clear ih
        generalize back F ln kerf f (S ^^^ 2 ^ i) = l at *
        generalize dp F ln kerf (S ^^^ 2 ^ i) = s at *
        generalize hT : dp F ln kerf S = t at *
        have key : (t.bars = s.bars ∧ 1 ≤ s.bars ∧ t.used = s.used + (ln.getD i 0 + kerf) ∧ t.used ≤ F.getD (s.bars - 1) 0 + kerf) ∨ (t.bars = s.bars + 1 ∧ t.used = ln.getD i 0 + kerf ∧ ln.getD i 0 ≤ F.getD s.bars 0) := by
          unfold stepS at hs
          split at hs
          · split at hs
            · cases hs
            · rename_i h1 h2; injection hs with hs; subst hs; right; exact ⟨rfl, rfl, by omega⟩
          · rename_i h1; injection hs with hs; subst hs; left; exact ⟨rfl, by omega, rfl, by simp only; omega⟩
        refine ⟨fun x => ?_, ?_, ?_, ?_, ?_, ?_⟩
        · rw [List.map_cons, List.mem_cons, r0, hbit]
          constructor
          · rintro (rfl | h)
            · exact hb
            · exact h.1
          · intro h
            by_cases e : x = i
            · exact .inl e
            · exact .inr ⟨h, e⟩
        · rw [List.map_cons, List.nodup_cons]
          exact ⟨fun h => by rw [r0, hbit] at h; exact h.2 rfl, r00⟩
        · intro p hp
          rw [hT]
          rcases List.mem_cons.1 hp with rfl | hp
          · simp only; omega
          · have := r1 p hp
            omega
        · intro r hr
          rw [hT] at hr
          rcases key with ⟨k1, k2, -⟩ | ⟨k1, -⟩
          · obtain ⟨p, hp, e⟩ := r2 r (by omega)
            exact ⟨p, List.mem_cons_of_mem _ hp, e⟩
          · by_cases e : r = s.bars
            · exact ⟨_, List.mem_cons_self, by simp only; omega⟩
            · obtain ⟨p, hp, e⟩ := r2 r (by omega)
              exact ⟨p, List.mem_cons_of_mem _ hp, e⟩
        · intro r hr
          rw [hT] at hr
          rw [sumR]
          simp only
          rcases key with ⟨k1, k2, k3, k4⟩ | ⟨k1, k2, k3⟩
          · by_cases e : t.bars - 1 = r
            · rw [if_pos e]
              have h1 := r4 k2
              have e2 : r = s.bars - 1 := by omega
              subst e2
              omega
            · rw [if_neg e]
              have := r3 r (by omega)
              omega
          · by_cases e : t.bars - 1 = r
            · rw [if_pos e]
              have h1 : sumR ln kerf r l = 0 := sumR_none ln kerf fun p hp => by have := r1 p hp; omega
              have e2 : r = s.bars := by omega
              subst e2
              omega
            · rw [if_neg e]
              have := r3 r (by omega)
              omega
        · intro h1
          rw [hT] at h1 ⊢
          rw [sumR, if_pos rfl]
          simp only
          rcases key with ⟨k1, k2, k3, k4⟩ | ⟨k1, k2, k3⟩
          · have h2 := r4 k2
            rw [k1]
            omega
          · have h2 : sumR ln kerf (t.bars - 1) l = 0 := sumR_none ln kerf fun p hp => by have := r1 p hp; omega
            omega
end
end Go.Proofs.Ytoelfalmmaddlaa
