/- The table's bars are the fewest (plain). -/
import Derived.Test.YtoelfalmmaddlaaBN
set_option linter.unusedVariables false
set_option linter.unusedSimpArgs false
namespace Go.Proofs.Ytoelfalmmaddlaa

/-- The lengths that an assignment lays in a bar, by their numbers. -/
def itemsL (b : Nat) : List Nat → Nat → List Nat
  | [], _ => []
  | a :: as, k => if a = b then k :: itemsL b as (k + 1) else itemsL b as (k + 1)
theorem items_mem {b : Nat} : ∀ {as : List Nat} {k x : Nat}, x ∈ itemsL b as k ↔ k ≤ x ∧ x < k + as.length ∧ as[x - k]? = some b
  | [], k, x => by simp [itemsL]
  | a :: as, k, x => by
    have ih := items_mem (b := b) (as := as) (k := k + 1) (x := x)
    rw [itemsL, List.length_cons]
    by_cases hx : x = k
    · subst hx
      have hno : x ∉ itemsL b as (x + 1) := by rw [ih]; omega
      by_cases e : a = b
      · rw [if_pos e]; simp [e]
      · rw [if_neg e]
        simp only [hno, false_iff]
        simp [e]
    · have hk : k ≤ x → as[x - (k + 1)]? = (a :: as)[x - k]? := fun h => by
        rw [show x - k = (x - (k + 1)) + 1 by omega, List.getElem?_cons_succ]
      by_cases e : a = b
      · rw [if_pos e, List.mem_cons, ih]
        constructor
        · rintro (h | ⟨h1, h2, h3⟩)
          · exact absurd h hx
          · exact ⟨by omega, by omega, by rw [← hk (by omega)]; exact h3⟩
        · rintro ⟨h1, h2, h3⟩
          exact .inr ⟨by omega, by omega, by rw [hk h1]; exact h3⟩
      · rw [if_neg e, ih]
        constructor
        · rintro ⟨h1, h2, h3⟩
          exact ⟨by omega, by omega, by rw [← hk (by omega)]; exact h3⟩
        · rintro ⟨h1, h2, h3⟩
          exact ⟨by omega, by omega, by rw [hk h1]; exact h3⟩
theorem items_nodup {b : Nat} : ∀ {as : List Nat} {k : Nat}, (itemsL b as k).Nodup
  | [], k => List.nodup_nil
  | a :: as, k => by
    rw [itemsL]
    split
    · exact List.nodup_cons.2 ⟨fun h => by have := (items_mem.1 h).1; omega, items_nodup⟩
    · exact items_nodup
theorem items_sum {ln : List Int} {kerf : Int} {b : Nat} : ∀ (as : List Nat) (k : Nat), k + as.length = ln.length → sumL ln kerf (itemsL b as k) = sumA kerf b (ln.drop k) as
  | [], k, _ => by cases ln.drop k <;> simp [itemsL, sumL, sumA]
  | a :: as, k, h => by
    rw [List.length_cons] at h
    have hk : k < ln.length := by omega
    rw [List.drop_eq_getElem_cons hk, itemsL, sumA]
    have ih := items_sum (ln := ln) (kerf := kerf) (b := b) as (k + 1) (by omega)
    have e : ln.getD k 0 = ln[k] := by rw [List.getD_eq_getElem?_getD, List.getElem?_eq_getElem hk]; rfl
    split
    · rw [sumL, ih, e]
    · rw [ih]; omega
theorem asc_ge : ∀ (l : List Nat) (k : Nat), l.Pairwise (· < ·) → (∀ x ∈ l, k ≤ x) → ∀ m (h : m < l.length), k + m ≤ l[m]
  | [], _, _, _, m, h => by simp at h
  | x :: l, k, hp, hk, m, h => by
    obtain ⟨h1, h2⟩ := List.pairwise_cons.1 hp
    cases m with
    | zero => simpa using hk x List.mem_cons_self
    | succ m =>
      have := asc_ge l (k + 1) h2 (fun y hy => by have := h1 y hy; have := hk x List.mem_cons_self; omega) m (by simpa using h)
      rw [List.getElem_cons_succ]; omega
theorem list_range {α : Type} (l : List α) (d : α) : l = (List.range l.length).map fun i => l.getD i d := by
  refine List.ext_getElem (by simp) fun i h1 h2 => ?_
  rw [List.getElem_map, List.getElem_range, List.getD_eq_getElem?_getD, List.getElem?_eq_getElem h1]; rfl
section
variable {st ln : List Int} {kerf : Int} {order : List Nat}
/-- The longest bars first. -/
def lenF (st : List Int) (order : List Nat) : List Int := order.map fun i => st.getD i 0
theorem lenF_get {r : Nat} (h : r < order.length) : (lenF st order).getD r 0 = st.getD (order.getD r 0) 0 := by
  unfold lenF
  simp [List.getD_eq_getElem?_getD, h]
theorem room_get {b : Nat} (h : b < st.length) : (st.map (· + kerf)).getD b 0 = st.getD b 0 + kerf := by
  simp [List.getD_eq_getElem?_getD, h]
theorem cnt_order {u : List Bool} (hp : order.Perm (List.range st.length)) (hu : u.length = st.length) : cntT u = ((List.range st.length).filter fun r => u.getD (order.getD r 0) false).length := by
  have hol : order.length = st.length := by have := hp.length_eq; rwa [List.length_range] at this
  unfold cntT
  rw [show u.countP (fun b => b) = ((List.range u.length).map fun i => u.getD i false).countP (fun b => b) from congrArg (List.countP fun b => b) (list_range u false), List.countP_map, hu]
  rw [← hp.countP_eq, show order.countP ((fun b => b) ∘ fun i => u.getD i false) = ((List.range order.length).map fun i => order.getD i 0).countP ((fun b => b) ∘ fun i => u.getD i false) from congrArg (List.countP _) (list_range order 0), List.countP_map, hol, List.countP_eq_length_filter]
  rfl
theorem order_inj (hp : order.Perm (List.range st.length)) {r s : Nat} (hr : r < st.length) (hs : s < st.length) (h : order.getD r 0 = order.getD s 0) : r = s := by
  have hol : order.length = st.length := by have := hp.length_eq; rwa [List.length_range] at this
  have hn : order.Nodup := hp.nodup_iff.2 List.nodup_range
  rw [List.getD_eq_getElem?_getD, List.getElem?_eq_getElem (by omega), List.getD_eq_getElem?_getD, List.getElem?_eq_getElem (by omega)] at h
  simp only [Option.getD_some] at h
  exact (List.getElem_inj hn).1 h
theorem order_lt (hp : order.Perm (List.range st.length)) {r : Nat} (hr : r < st.length) : order.getD r 0 < st.length := by
  have hol : order.length = st.length := by have := hp.length_eq; rwa [List.length_range] at this
  rw [List.getD_eq_getElem?_getD, List.getElem?_eq_getElem (by omega)]
  exact List.mem_range.1 (hp.mem_iff.1 (List.getElem_mem _))
theorem full_bits {S n : Nat} (h : ∀ y, S.testBit y = decide (y < n)) : S = 2 ^ n - 1 := Nat.eq_of_testBit_eq fun y => by rw [h, Nat.testBit_two_pow_sub_one]
/-- **No assignment uses fewer bars than the table.** -/
theorem table_le (hp : order.Perm (List.range st.length)) (hF : ∀ a b, a ≤ b → b < (lenF st order).length → (lenF st order).getD b 0 ≤ (lenF st order).getD a 0) (hk : 0 ≤ kerf) (hln : ∀ m ∈ ln, 1 ≤ m) {as : List Nat} {u : List Bool}
    (h : runA kerf ln as (st.map (· + kerf)) (List.replicate st.length false) = some u) : dp (lenF st order) ln kerf (2 ^ ln.length - 1) ≠ nev (lenF st order) ∧ (dp (lenF st order) ln kerf (2 ^ ln.length - 1)).bars ≤ cntT u := by
  have hol : order.length = st.length := by have := hp.length_eq; rwa [List.length_range] at this
  have hFl : (lenF st order).length = st.length := by unfold lenF; rw [List.length_map, hol]
  obtain ⟨h1, h2, h3, h4, h5⟩ := run_fits ln as _ _ u (by simp) h
  rw [List.length_replicate] at h4 h5
  rw [List.length_map] at h2 h3
  obtain ⟨R, hR⟩ : ∃ R, R = (List.range st.length).filter fun r => u.getD (order.getD r 0) false := ⟨_, rfl⟩
  have hcnt : cntT u = R.length := by rw [hR]; exact cnt_order hp h4
  have hRm : ∀ r ∈ R, r < st.length ∧ order.getD r 0 ∈ as := fun r hr => by
    rw [hR, List.mem_filter, List.mem_range] at hr
    refine ⟨hr.1, ?_⟩
    have := (h5 _ (order_lt hp hr.1)).1 hr.2
    rcases this with e | e
    · rw [List.getD_eq_getElem?_getD, List.getElem?_replicate] at e
      split at e <;> simp at e
    · exact e
  have hRa : R.Pairwise (· < ·) := by rw [hR]; exact List.Pairwise.filter _ List.pairwise_lt_range
  have hRge := asc_ge R 0 hRa (fun _ _ => Nat.zero_le _)
  have hRl : R.length ≤ st.length := by rw [hR]; exact Nat.le_trans (List.length_filter_le _ _) (by simp)
  have hit : ∀ r ∈ R, ∀ x ∈ itemsL (order.getD r 0) as 0, x < ln.length := fun r _ x hx => by have := (items_mem.1 hx).2.1; omega
  have hdisj : ∀ r ∈ R, ∀ s ∈ R, r ≠ s → ∀ x ∈ itemsL (order.getD r 0) as 0, x ∉ itemsL (order.getD s 0) as 0 := fun r hr s hs hne x hx hx' => by
    have e1 := (items_mem.1 hx).2.2
    have e2 := (items_mem.1 hx').2.2
    rw [e1] at e2
    injection e2 with e2
    exact hne (order_inj hp (hRm r hr).1 (hRm s hs).1 e2)
  obtain ⟨rows, hrows⟩ : ∃ rows, rows = R.map fun r => itemsL (order.getD r 0) as 0 := ⟨_, rfl⟩
  have hrl : rows.length = R.length := by rw [hrows, List.length_map]
  have hnd : rows.flatten.Nodup := by
    rw [List.Nodup, List.pairwise_flatten]
    refine ⟨fun l hl => ?_, ?_⟩
    · rw [hrows] at hl
      obtain ⟨r, -, rfl⟩ := List.mem_map.1 hl
      exact items_nodup
    · rw [hrows, List.pairwise_map]
      exact List.Pairwise.imp_of_mem (fun {r s} hr hs (hlt : r < s) x hx y hy e => by subst e; exact hdisj r hr s hs (by omega) x hx hy) hRa
  have hlay := lay_rows (lenF st order) ln kerf hF hk (fun x hx => by rw [List.getD_eq_getElem?_getD, List.getElem?_eq_getElem hx]; exact hln _ (List.getElem_mem hx)) rows 0 0 0 (by rw [hFl, hrl]; omega)
    (fun l hl => by
      rw [hrows] at hl
      obtain ⟨r, hr, rfl⟩ := List.mem_map.1 hl
      obtain ⟨x, hx, e⟩ := List.getElem_of_mem (hRm r hr).2
      exact List.ne_nil_of_mem (a := x) (items_mem.2 ⟨Nat.zero_le _, by omega, by rw [Nat.sub_zero, List.getElem?_eq_getElem hx, e]⟩))
    hnd (fun x hx => ⟨by simp, by
      obtain ⟨l, hl, hx⟩ := List.mem_flatten.1 hx
      rw [hrows] at hl
      obtain ⟨r, hr, rfl⟩ := List.mem_map.1 hl
      exact hit r hr x hx⟩)
    (by rw [dp_zero]; unfold nev; intro e; injection e with e; omega) (by rw [dp_zero]; exact .inr ⟨rfl, Int.le_refl _⟩)
    (fun m hm => by
      rw [hrl] at hm
      have hr := hRm R[m] (List.getElem_mem hm)
      have hm2 : rows[m]'(by rw [hrl]; exact hm) = itemsL (order.getD R[m] 0) as 0 := by simp only [hrows, List.getElem_map]
      rw [hm2, items_sum _ _ (by omega), List.drop_zero]
      have hge := hRge m hm
      have h6 := h3 _ (order_lt hp hr.1)
      rcases h6 with h6 | h6
      · rw [room_get (order_lt hp hr.1)] at h6
        have h7 := hF m R[m] (by omega) (by rw [hFl]; exact hr.1)
        rw [lenF_get (by omega : R[m] < order.length)] at h7
        rw [Nat.zero_add]
        omega
      · exact absurd hr.2 h6)
  have hfull : maskL rows.flatten 0 = 2 ^ ln.length - 1 := by
    refine full_bits fun y => ?_
    rw [mask_bit hnd (fun x _ => by simp)]
    simp only [Nat.zero_testBit, Bool.false_or, decide_eq_decide]
    constructor
    · intro hy
      obtain ⟨l, hl, hx⟩ := List.mem_flatten.1 hy
      rw [hrows] at hl
      obtain ⟨r, hr, rfl⟩ := List.mem_map.1 hl
      exact hit r hr y hx
    · intro hy
      have hya : y < as.length := by omega
      have hb := h2 _ (List.getElem_mem hya)
      obtain ⟨r, hr, e⟩ := List.getElem_of_mem (hp.mem_iff.2 (List.mem_range.2 hb))
      have er : order.getD r 0 = as[y] := by rw [List.getD_eq_getElem?_getD, List.getElem?_eq_getElem hr]; exact e
      refine List.mem_flatten.2 ⟨itemsL (order.getD r 0) as 0, ?_, items_mem.2 ⟨Nat.zero_le _, by omega, by rw [Nat.sub_zero, List.getElem?_eq_getElem hya, er]⟩⟩
      rw [hrows]
      refine List.mem_map.2 ⟨r, ?_, rfl⟩
      rw [hR, List.mem_filter, List.mem_range, er]
      exact ⟨by omega, (h5 _ hb).2 (.inr (List.getElem_mem hya))⟩
  rw [hfull] at hlay
  refine ⟨hlay.1, ?_⟩
  obtain ⟨v, hv⟩ := hlay.2
  rw [hcnt, ← hrl]
  unfold leL at hv
  omega

/-! The way back is an assignment. -/
def rankL (l : List (Nat × Nat)) (x : Nat) : Nat := ((l.find? fun p => p.2 == x).map (·.1)).getD 0
theorem rank_of : ∀ {l : List (Nat × Nat)} {p : Nat × Nat}, (l.map (·.2)).Nodup → p ∈ l → rankL l p.2 = p.1
  | q :: l, p, hn, hp => by
    rw [List.map_cons, List.nodup_cons] at hn
    unfold rankL
    rw [List.find?_cons]
    rcases List.mem_cons.1 hp with rfl | hp
    · simp
    · have hne : (q.2 == p.2) = false := by
        rw [beq_eq_false_iff_ne]
        exact fun e => hn.1 (e ▸ List.mem_map_of_mem hp)
      rw [hne]
      exact rank_of hn.2 hp
theorem sumL_perm {l l' : List Nat} (h : l.Perm l') : sumL ln kerf l = sumL ln kerf l' := by
  induction h with
  | nil => rfl
  | cons x _ ih => rw [sumL, sumL, ih]
  | swap x y l => rw [sumL, sumL, sumL, sumL]; omega
  | trans _ _ h1 h2 => rw [h1, h2]
theorem sumR_L {r : Nat} : ∀ (l : List (Nat × Nat)), sumR ln kerf r l = sumL ln kerf ((l.filter fun p => p.1 == r).map (·.2))
  | [] => rfl
  | p :: l => by
    rw [sumR, List.filter_cons, sumR_L l]
    by_cases e : p.1 = r
    · have e2 : (p.1 == r) = true := by simpa using e
      rw [if_pos e, if_pos e2, List.map_cons, sumL]
    · have e2 : (p.1 == r) = false := by simpa using e
      rw [if_neg e, e2]
      simp
theorem range_lt (k : Nat) : ∀ n, k ≤ n → ((List.range n).filter fun r => decide (r < k)).length = k
  | 0, h => by simp; omega
  | n + 1, h => by
    rw [List.range_succ, List.filter_append, List.length_append]
    by_cases e : k = n + 1
    · subst e
      have h1 : (List.range n).filter (fun r => decide (r < n + 1)) = List.range n := List.filter_eq_self.2 fun x hx => by have := List.mem_range.1 hx; simp; omega
      rw [h1]; simp
    · rw [range_lt k n (by omega)]
      have : ¬ n < k := by omega
      simp [this]
/-- **The table's bars are enough.** -/
theorem table_ge (hp : order.Perm (List.range st.length)) (hk : 0 ≤ kerf) (hst : ∀ m ∈ st, 0 ≤ m) (hln : ∀ m ∈ ln, 1 ≤ m) (hd : dp (lenF st order) ln kerf (2 ^ ln.length - 1) ≠ nev (lenF st order)) :
    ∃ as u, runA kerf ln as (st.map (· + kerf)) (List.replicate st.length false) = some u ∧ cntT u = (dp (lenF st order) ln kerf (2 ^ ln.length - 1)).bars := by
  have hol : order.length = st.length := by have := hp.length_eq; rwa [List.length_range] at this
  have hFl : (lenF st order).length = st.length := by unfold lenF; rw [List.length_map, hol]
  have hB := back_ok (lenF st order) ln kerf hk _ _ (Nat.le_refl (2 ^ ln.length - 1)) hd
  have hbar := (dp_bars (lenF st order) ln kerf _ _ (Nat.le_refl (2 ^ ln.length - 1)) hd).1
  have m0 := hB.mem
  have m1 := hB.nodup
  have m2 := hB.rank
  have m3 := hB.all
  have m4 := hB.fit
  clear hB hd
  rw [hFl] at hbar
  generalize back (lenF st order) ln kerf (2 ^ ln.length - 1) (2 ^ ln.length - 1) = l at *
  generalize (dp (lenF st order) ln kerf (2 ^ ln.length - 1)).bars = B at *
  have m5 : ∀ x, x ∈ l.map (·.2) ↔ x < ln.length := fun x => by rw [m0, Nat.testBit_two_pow_sub_one]; simp
  have hrk : ∀ x, x < ln.length → rankL l x < B := fun x hx => by
    obtain ⟨p, hp', rfl⟩ := List.mem_map.1 ((m5 x).2 hx)
    rw [rank_of m1 hp']; exact m2 p hp'
  obtain ⟨as, has⟩ : ∃ as, as = (List.range ln.length).map fun x => order.getD (rankL l x) 0 := ⟨_, rfl⟩
  have hal : as.length = ln.length := by rw [has]; simp
  have hget : ∀ x, x < ln.length → as[x]? = some (order.getD (rankL l x) 0) := fun x hx => by rw [has]; simp [hx]
  have hitem : ∀ r, r < st.length → ∀ x, x ∈ itemsL (order.getD r 0) as 0 ↔ x ∈ (l.filter fun p => p.1 == r).map (·.2) := fun r hr x => by
    rw [items_mem, List.mem_map]
    constructor
    · rintro ⟨-, h2, h3⟩
      have hx : x < ln.length := by omega
      rw [Nat.sub_zero, hget x hx] at h3
      injection h3 with h3
      have e := order_inj hp (by have := hrk x hx; omega) hr h3
      obtain ⟨p, hp', e2⟩ := List.mem_map.1 ((m5 x).2 hx)
      refine ⟨p, List.mem_filter.2 ⟨hp', ?_⟩, e2⟩
      subst e2
      rw [rank_of m1 hp'] at e
      simpa using e
    · rintro ⟨p, hp', rfl⟩
      obtain ⟨h1, h2⟩ := List.mem_filter.1 hp'
      have hx := (m5 p.2).1 (List.mem_map_of_mem h1)
      refine ⟨Nat.zero_le _, by omega, ?_⟩
      rw [Nat.sub_zero, hget _ hx, rank_of m1 h1]
      have : p.1 = r := by simpa using h2
      rw [this]
  have hsum : ∀ r, r < st.length → sumA kerf (order.getD r 0) ln as = sumR ln kerf r l := fun r hr => by
    have h1 := items_sum (ln := ln) (kerf := kerf) (b := order.getD r 0) as 0 (by omega)
    rw [List.drop_zero] at h1
    rw [← h1, sumR_L]
    refine sumL_perm ((List.perm_ext_iff_of_nodup items_nodup ?_).2 (hitem r hr))
    exact List.Nodup.sublist (List.filter_sublist.map _) m1
  obtain ⟨u, h1, h2, h3⟩ := run_ok (kerf := kerf) ln as (st.map (· + kerf)) (List.replicate st.length false) hal (by simp) (fun m hm => by have := hln m hm; omega) (fun a ha => by
      rw [has] at ha
      obtain ⟨x, hx, rfl⟩ := List.mem_map.1 ha
      rw [List.length_map]
      exact order_lt hp (by have := hrk x (List.mem_range.1 hx); omega))
    (fun b hb => by
      rw [List.length_map] at hb
      rw [room_get hb]
      obtain ⟨r, hr, e⟩ := List.getElem_of_mem (hp.mem_iff.2 (List.mem_range.2 hb))
      have er : order.getD r 0 = b := by rw [List.getD_eq_getElem?_getD, List.getElem?_eq_getElem hr]; exact e
      rw [← er, hsum r (by omega)]
      by_cases hrB : r < B
      · have := m4 r hrB
        rwa [lenF_get hr] at this
      · rw [sumR_none ln kerf fun p hp' => by have := m2 p hp'; omega]
        have : 0 ≤ st.getD (order.getD r 0) 0 := by
          rw [List.getD_eq_getElem?_getD, List.getElem?_eq_getElem (by rw [er]; exact hb)]
          exact hst _ (List.getElem_mem _)
        omega)
  refine ⟨as, u, h1, ?_⟩
  rw [List.length_replicate] at h2 h3
  rw [cnt_order hp h2]
  rw [show (List.range st.length).filter (fun r => u.getD (order.getD r 0) false) = (List.range st.length).filter fun r => decide (r < B) from List.filter_congr fun r hr => by
    have hr' := List.mem_range.1 hr
    rw [Bool.eq_iff_iff, decide_eq_true_eq, h3 _ (order_lt hp hr')]
    constructor
    · rintro (e | e)
      · rw [List.getD_eq_getElem?_getD, List.getElem?_replicate] at e
        split at e <;> simp at e
      · rw [has] at e
        obtain ⟨x, hx, e⟩ := List.mem_map.1 e
        have hx' := List.mem_range.1 hx
        rw [← order_inj hp (by have := hrk x hx'; omega) hr' e]
        exact hrk x hx'
    · intro h
      obtain ⟨p, hp', e⟩ := m3 r h
      right
      rw [has]
      have hx := (m5 p.2).1 (List.mem_map_of_mem hp')
      exact List.mem_map.2 ⟨p.2, List.mem_range.2 hx, by rw [rank_of m1 hp', e]⟩]
  exact range_lt B _ hbar
/-- **The table's bars are the fewest.** -/
theorem table_few (hp : order.Perm (List.range st.length)) (hF : ∀ a b, a ≤ b → b < (lenF st order).length → (lenF st order).getD b 0 ≤ (lenF st order).getD a 0) (hk : 0 ≤ kerf) (hst : ∀ m ∈ st, 0 ≤ m) (hln : ∀ m ∈ ln, 1 ≤ m) :
    (0 ≤ fewM kerf ln (st.map (· + kerf)) (List.replicate st.length false) ↔ dp (lenF st order) ln kerf (2 ^ ln.length - 1) ≠ nev (lenF st order)) ∧
      (dp (lenF st order) ln kerf (2 ^ ln.length - 1) ≠ nev (lenF st order) → fewM kerf ln (st.map (· + kerf)) (List.replicate st.length false) = ((dp (lenF st order) ln kerf (2 ^ ln.length - 1)).bars : Int)) := by
  obtain ⟨f1, f2⟩ := few_min (kerf := kerf) ln (st.map (· + kerf)) (List.replicate st.length false)
  have hup : dp (lenF st order) ln kerf (2 ^ ln.length - 1) ≠ nev (lenF st order) → 0 ≤ fewM kerf ln (st.map (· + kerf)) (List.replicate st.length false) ∧ fewM kerf ln (st.map (· + kerf)) (List.replicate st.length false) ≤ ((dp (lenF st order) ln kerf (2 ^ ln.length - 1)).bars : Int) := fun hd => by
    obtain ⟨as, u, h1, h2⟩ := table_ge hp hk hst hln hd
    have := f1 as u h1
    rw [h2] at this
    exact this
  have hlo : 0 ≤ fewM kerf ln (st.map (· + kerf)) (List.replicate st.length false) → dp (lenF st order) ln kerf (2 ^ ln.length - 1) ≠ nev (lenF st order) ∧ ((dp (lenF st order) ln kerf (2 ^ ln.length - 1)).bars : Int) ≤ fewM kerf ln (st.map (· + kerf)) (List.replicate st.length false) := fun h => by
    obtain ⟨as, u, h1, h2⟩ := f2 h
    obtain ⟨h3, h4⟩ := table_le hp hF hk hln h1
    exact ⟨h3, by omega⟩
  exact ⟨⟨fun h => (hlo h).1, fun h => (hup h).1⟩, fun h => by
    have h1 := hup h
    have h2 := hlo h1.1
    omega⟩
end
end Go.Proofs.Ytoelfalmmaddlaa
