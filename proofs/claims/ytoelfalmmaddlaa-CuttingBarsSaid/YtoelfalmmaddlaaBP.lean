/- Crosscuts (plain): the bars from the longest on; the bound of bars; the rows that the table gives are an assignment. -/
import Derived.Test.YtoelfalmmaddlaaBW5
import Derived.Test.YtoelfalmmaddlaaBB
set_option linter.unusedVariables false
set_option linter.unusedSimpArgs false
namespace Go.Proofs.Ytoelfalmmaddlaa

/-! The bars from the longest on. -/
theorem perm_insL {α : Type} [Inhabited α] {lt : α → α → Bool} {pre : List α} {x : α} : (insL lt pre x).Perm (x :: pre) := by
  unfold insL
  refine (List.perm_middle).trans ?_
  rw [List.take_append_drop]
theorem perm_sortL {α : Type} [Inhabited α] {lt : α → α → Bool} : ∀ {r acc : List α}, (sortL lt r acc).Perm (r ++ acc)
  | [], acc => List.Perm.refl _
  | x :: r, acc => by
    rw [sortL]
    refine perm_sortL.trans ?_
    refine (perm_insL.append_left r).trans ?_
    exact List.perm_middle
theorem long_perm (st : List Int) : (longM st).Perm (List.range st.length) := by
  have h := perm_sortL (lt := fallB st) (r := List.range st.length) (acc := [])
  rwa [List.append_nil] at h
theorem fall_perm (st : List Int) : (fallL st).Perm st := by
  have h := perm_sortL (lt := fun a b : Int => decide (b < a)) (r := st) (acc := [])
  rwa [List.append_nil] at h
theorem posL_fall {pre : List Int} {x : Int} (hp : pre.Pairwise fun a b => b ≤ a) : ∀ n, n ≤ pre.length →
    (∀ i, i < posL (fun a b : Int => decide (b < a)) pre x n → x ≤ pre.getD i 0) ∧ (∀ i, posL (fun a b : Int => decide (b < a)) pre x n ≤ i → i < n → pre.getD i 0 < x)
  | 0, _ => ⟨fun i h => by simp [posL] at h, fun i _ h => by omega⟩
  | n + 1, hn => by
    obtain ⟨h1, h2⟩ := posL_fall hp n (by omega)
    rw [posL]
    have e : pre.getD n default = pre.getD n 0 := rfl
    by_cases h : pre.getD n 0 < x
    · rw [if_pos (by simpa [e] using h)]
      refine ⟨h1, fun i hi hin => ?_⟩
      by_cases ei : i = n
      · subst ei; exact h
      · exact h2 i hi (by omega)
    · rw [if_neg (by simpa [e] using h)]
      refine ⟨fun i hi => ?_, fun i hi hin => by omega⟩
      by_cases ei : i = n
      · subst ei; omega
      · have h3 := (List.pairwise_iff_getElem.1 hp) i n (by omega) (by omega) (by omega)
        rw [List.getD_eq_getElem?_getD, List.getElem?_eq_getElem (by omega)] at h ⊢
        simp only [Option.getD_some] at h ⊢
        omega
theorem insL_fall {pre : List Int} {x : Int} (hp : pre.Pairwise fun a b => b ≤ a) : (insL (fun a b : Int => decide (b < a)) pre x).Pairwise fun a b => b ≤ a := by
  obtain ⟨h1, h2⟩ := posL_fall (x := x) hp pre.length (Nat.le_refl _)
  have hle := posL_le (fun a b : Int => decide (b < a)) pre x pre.length
  unfold insL
  generalize posL (fun a b : Int => decide (b < a)) pre x pre.length = k at *
  rw [List.pairwise_append]
  have hget : ∀ i (h : i < pre.length), pre.getD i 0 = pre[i] := fun i h => by rw [List.getD_eq_getElem?_getD, List.getElem?_eq_getElem h]; rfl
  refine ⟨hp.sublist (List.take_sublist _ _), List.pairwise_cons.2 ⟨fun b hb => ?_, hp.sublist (List.drop_sublist _ _)⟩, fun a ha b hb => ?_⟩
  · obtain ⟨i, hi, rfl⟩ := List.mem_iff_getElem.1 hb
    rw [List.length_drop] at hi
    rw [List.getElem_drop]
    have := h2 (k + i) (by omega) (by omega)
    rw [hget _ (by omega)] at this
    omega
  · obtain ⟨i, hi, rfl⟩ := List.mem_iff_getElem.1 ha
    rw [List.length_take] at hi
    rw [List.getElem_take]
    have h3 := h1 i (by omega)
    rw [hget _ (by omega)] at h3
    rcases List.mem_cons.1 hb with rfl | hb
    · exact h3
    · obtain ⟨j, hj, rfl⟩ := List.mem_iff_getElem.1 hb
      rw [List.length_drop] at hj
      rw [List.getElem_drop]
      exact (List.pairwise_iff_getElem.1 hp) i (k + j) (by omega) (by omega) (by omega)
theorem sortL_fall : ∀ {r acc : List Int}, acc.Pairwise (fun a b => b ≤ a) → (sortL (fun a b : Int => decide (b < a)) r acc).Pairwise fun a b => b ≤ a
  | [], _, h => h
  | x :: r, acc, h => by rw [sortL]; exact sortL_fall (insL_fall h)
theorem fall_pair (st : List Int) : (fallL st).Pairwise fun a b => b ≤ a := sortL_fall List.Pairwise.nil
theorem lenF_long (st : List Int) : lenF st (longM st) = fallL st := longM_vals st
theorem fall_mono {F : List Int} (h : F.Pairwise fun a b => b ≤ a) : ∀ a b, a ≤ b → b < F.length → F.getD b 0 ≤ F.getD a 0 := fun a b hab hb => by
  rw [List.getD_eq_getElem?_getD, List.getElem?_eq_getElem hb, List.getD_eq_getElem?_getD, List.getElem?_eq_getElem (by omega)]
  simp only [Option.getD_some]
  by_cases e : a = b
  · subst e; exact Int.le_refl _
  · exact (List.pairwise_iff_getElem.1 h) a b (by omega) hb (by omega)
theorem fall_one {l r s : List Int} (h : FallOf l r) (h' : FallOf l s) : r = s :=
  List.Perm.eq_of_pairwise (le := fun a b : Int => b ≤ a) (fun a b _ _ h1 h2 => by omega) h.2 h'.2 (h.1.trans h'.1.symm)
theorem fall_rooms (st : List Int) (k : Int) : FallOf (st.map (· + k)) ((fallL st).map (· + k)) :=
  ⟨(fall_perm st).map _, List.pairwise_map.2 ((fall_pair st).imp fun h => by omega)⟩

/-! The bound of bars. -/
theorem least_enough (kerf : Int) : ∀ (F : List Int) (s : Int) (n : Nat), leastGo kerf F s n = match enoughM (F.map (· + kerf)) s n with | none => (0, 12) | some m => ((m : Int), 0)
  | [], s, n => by
    rw [leastGo, List.map_nil, enoughM]
    by_cases h : 0 < s
    · rw [if_pos h, if_pos h]
    · rw [if_neg h, if_neg h]
  | v :: F, s, n => by
    rw [leastGo, List.map_cons, enoughM]
    by_cases h : 0 < s
    · rw [if_pos h, if_pos h]; exact least_enough kerf F _ _
    · rw [if_neg h, if_neg h]
theorem sumK_sum (kerf : Int) : ∀ ln : List Int, sumK kerf ln = (ln.map (· + kerf)).sum
  | [] => rfl
  | x :: l => by rw [sumK, sumK_sum kerf l]; simp
theorem enough_le : ∀ (r : List Int) (s : Int) (n k : Nat), s ≤ (r.take k).sum → ∃ m, enoughM r s n = some m ∧ m ≤ n + k
  | [], s, n, k, h => by
    rw [enoughM]
    have : ¬ s > 0 := by simp at h; omega
    rw [if_neg this]; exact ⟨n, rfl, by omega⟩
  | x :: r, s, n, k, h => by
    rw [enoughM]
    by_cases hs : s > 0
    · rw [if_pos hs]
      cases k with
      | zero => simp at h; omega
      | succ k =>
        rw [List.take_succ_cons, List.sum_cons] at h
        obtain ⟨m, h1, h2⟩ := enough_le r (s - x) (n + 1) k (by omega)
        exact ⟨m, h1, by omega⟩
    · rw [if_neg hs]; exact ⟨n, rfl, by omega⟩
/-- The numbers that are chosen. -/
def selS : List Int → List Bool → List Int
  | x :: l, b :: u => if b = true then x :: selS l u else selS l u
  | _, _ => []
theorem selS_sub : ∀ (l : List Int) (u : List Bool), (selS l u).Sublist l
  | [], _ => by cases ‹List Bool› <;> simp [selS]
  | x :: l, [] => by simp [selS]
  | x :: l, b :: u => by
    rw [selS]
    split
    · exact (selS_sub l u).cons_cons x
    · exact (selS_sub l u).cons x
theorem selS_len : ∀ (l : List Int) (u : List Bool), (selS l u).length ≤ cntT u
  | [], u => by cases u <;> simp [selS]
  | x :: l, [] => by simp [selS]
  | x :: l, b :: u => by
    have h := selS_len l u
    unfold cntT at h ⊢
    rw [selS, List.countP_cons]
    split
    · rw [List.length_cons]; omega
    · omega
theorem selS_set : ∀ (l : List Int) (u : List Bool) (a : Nat) (x : Int), a < l.length → a < u.length → u.getD a false = true → (selS (l.set a x) u).sum = (selS l u).sum - l.getD a 0 + x
  | [], _, _, _, h, _, _ => by simp at h
  | _ :: _, [], _, _, _, h, _ => by simp at h
  | y :: l, b :: u, 0, x, _, _, h => by
    have hb : b = true := by simpa using h
    rw [List.set_cons_zero, selS, selS, if_pos hb, if_pos hb]
    simp; omega
  | y :: l, b :: u, a + 1, x, h1, h2, h => by
    have ih := selS_set l u a x (by simpa using h1) (by simpa using h2) (by simpa using h)
    rw [List.set_cons_succ, selS, selS]
    have e : (y :: l).getD (a + 1) 0 = l.getD a 0 := by simp
    rw [e]
    split
    · simp only [List.sum_cons]; omega
    · exact ih
theorem nn_sum : ∀ {l : List Int}, (∀ x ∈ l, 0 ≤ x) → 0 ≤ l.sum
  | [], _ => by simp
  | x :: l, h => by
    have := nn_sum fun y hy => h y (List.mem_cons_of_mem _ hy)
    have := h x List.mem_cons_self
    simp only [List.sum_cons]; omega
theorem run_sum {kerf : Int} : ∀ (ls : List Int) (asn : List Nat) (room : List Int) (used u : List Bool), used.length = room.length → (∀ x ∈ room, 0 ≤ x) → runA kerf ls asn room used = some u → (ls.map (· + kerf)).sum ≤ (selS room u).sum
  | [], [], room, used, u, _, hr, h => by
    simp only [List.map_nil, List.sum_nil]
    exact nn_sum fun x hx => hr x ((selS_sub room u).subset hx)
  | [], _ :: _, _, _, _, _, _, h => by simp [runA] at h
  | _ :: _, [], _, _, _, _, _, h => by simp [runA] at h
  | m :: ls, a :: asn, room, used, u, hl, hr, h => by
    have h0 := run_fits _ _ _ _ _ hl h
    rw [runA] at h
    split at h
    · rename_i hc
      obtain ⟨-, -, -, h4, h5⟩ := h0
      have hua : u.getD a false = true := (h5 a (by omega)).2 (.inr List.mem_cons_self)
      have hget : room.getD a 0 = room[a] := by rw [List.getD_eq_getElem?_getD, List.getElem?_eq_getElem hc.1]; rfl
      have ih := run_sum ls asn _ _ u (by simpa using hl) (fun x hx => by
        rcases List.mem_or_eq_of_mem_set hx with hx | rfl
        · exact hr x hx
        · omega) h
      rw [selS_set room u a _ hc.1 (by omega) hua] at ih
      simp only [List.map_cons, List.sum_cons]
      omega
    · cases h
theorem sub_sum : ∀ {s r : List Int}, s.Sublist r → r.Pairwise (fun a b => b ≤ a) → s.sum ≤ (r.take s.length).sum
  | _, _, .slnil, _ => by simp
  | s, _, .cons y (l₂ := r) h, hp => by
    obtain ⟨h1, h2⟩ := List.pairwise_cons.1 hp
    have ih := sub_sum h h2
    cases hs : s.length with
    | zero => obtain rfl := List.length_eq_zero_iff.1 hs; simp
    | succ k =>
      rw [hs] at ih
      have hk : k < r.length := by have := h.length_le; omega
      rw [List.take_succ_eq_append_getElem hk, List.sum_append] at ih
      rw [List.take_succ_cons, List.sum_cons]
      have := h1 _ (List.getElem_mem hk)
      simp only [List.sum_cons, List.sum_nil] at ih
      omega
  | _, _, .cons_cons x (l₁ := s) h, hp => by
    obtain ⟨h1, h2⟩ := List.pairwise_cons.1 hp
    have ih := sub_sum h h2
    simp only [List.length_cons, List.take_succ_cons, List.sum_cons]
    omega
/-- **No assignment uses fewer bars than the bound.** -/
theorem run_least {kerf : Int} {ln room r : List Int} {asn : List Nat} {u : List Bool} (hr : ∀ x ∈ room, 0 ≤ x) (hf : FallOf room r) (h : runA kerf ln asn room (List.replicate room.length false) = some u) : ∃ m, enoughM r ((ln.map (· + kerf)).sum) 0 = some m ∧ m ≤ cntT u := by
  have h1 := run_sum ln asn room _ u (by simp) hr h
  obtain ⟨s, hs1, hs2⟩ := List.exists_perm_sublist (selS_sub room u) hf.1.symm
  have h2 := sub_sum hs2 hf.2
  have e1 : ∀ {l l' : List Int}, l.Perm l' → l.sum = l'.sum := fun {l l'} hp => by
    induction hp with
    | nil => rfl
    | cons x _ ih => simp only [List.sum_cons, ih]
    | swap x y l => simp only [List.sum_cons]; omega
    | trans _ _ h1 h2 => rw [h1, h2]
  have e2 := e1 hs1
  have e3 := hs1.length_eq
  have e4 := selS_len room u
  obtain ⟨m, h3, h4⟩ := enough_le r ((ln.map (· + kerf)).sum) 0 s.length (by omega)
  exact ⟨m, h3, by omega⟩

/-! Rows that are an assignment. -/
theorem rowSum_L {ln : List Int} {kerf : Int} : ∀ l : List Nat, rowSum ln kerf (l.map fun i : Nat => (i : Int)) = sumL ln kerf l
  | [] => rfl
  | x :: l => by rw [List.map_cons, rowSum, rowSum_L l, sumL]; rfl
theorem ent_fine {m : Nat} {D : List Bool} {x : List Nat} (hx : ∀ y ∈ x, y < m) (hp : x.Pairwise (· < ·)) (hD : ∀ y ∈ x, D.getD y false = false) {i : Nat} (hi : i < x.length) : entE m D (x.map fun i : Nat => (i : Int)) i = 0 := by
  have hl : i < (x.map fun i : Nat => (i : Int)).length := by rw [List.length_map]; exact hi
  have hg : (x.map fun i : Nat => (i : Int))[i] = (x[i] : Int) := by rw [List.getElem_map]
  refine ent_zero hl ?_ (fun h0 => ?_) ?_
  · rw [hg]
    have := hx _ (List.getElem_mem hi)
    unfold withinB
    simp only [Bool.and_eq_true, decide_eq_true_eq]
    omega
  · rw [hg, List.getElem_map]
    have := (List.pairwise_iff_getElem.1 hp) (i - 1) i (by omega) hi (by omega)
    omega
  · rw [hg]
    exact hD _ (List.getElem_mem hi)
theorem mark_getD : ∀ {x : List Nat} {D : List Bool} {n : Nat}, n < D.length → (markB D (x.map fun i : Nat => (i : Int))).getD n false = (D.getD n false || decide (n ∈ x))
  | [], D, n, h => by simp [markB]
  | y :: x, D, n, h => by
    rw [List.map_cons, markB, mark_getD (by rw [List.length_set]; exact h)]
    simp only [List.getD_eq_getElem?_getD, Int.toNat_natCast]
    by_cases e : y = n
    · subst e; simp [h]
    · have e' : ¬ n = y := fun h => e h.symm
      rw [List.getElem?_set_ne e]
      simp [e']
def cntR (rows : List (List Nat)) : Nat := rows.countP fun r => !r.isEmpty
theorem bars_fine {ln : List Int} {kerf : Int} : ∀ (rows : List (List Nat)) (s : List Int) (D : List Bool) (U : Int), rows.length = s.length → D.length = ln.length → (∀ r ∈ rows, r.Pairwise (· < ·)) → rows.flatten.Nodup → (∀ x ∈ rows.flatten, x < ln.length ∧ D.getD x false = false) →
    (∀ i, i < rows.length → sumL ln kerf (rows.getD i []) ≤ s.getD i 0 + kerf) → (∀ x, x < ln.length → D.getD x false = true ∨ x ∈ rows.flatten) → barsGo ln kerf (rows.map fun r => r.map fun i : Nat => (i : Int)) s D U = (U + cntR rows, 0)
  | [], s, D, U, hl, hD, _, _, _, _, hall => by
    rw [List.map_nil, barsGo, if_neg]
    · simp [cntR]
    · rw [Bool.not_eq_false, List.all_eq_true]
      intro b hb
      obtain ⟨i, hi, rfl⟩ := List.mem_iff_getElem.1 hb
      rcases hall i (by omega) with h | h
      · rw [List.getD_eq_getElem?_getD, List.getElem?_eq_getElem hi] at h; exact h
      · simp at h
  | r :: rows, [], D, U, hl, _, _, _, _, _, _ => by simp at hl
  | r :: rows, v :: s, D, U, hl, hD, hp, hn, hx, hf, hall => by
    rw [List.flatten_cons, List.nodup_append] at hn
    obtain ⟨n1, n2, n3⟩ := hn
    have hxr : ∀ y ∈ r, y < ln.length ∧ D.getD y false = false := fun y hy => hx y (by rw [List.flatten_cons]; exact List.mem_append_left _ hy)
    have hE : rowE ln.length D (r.map fun i : Nat => (i : Int)) = 0 := row_ok (k := r.length) (fun i hi => ent_fine (fun y hy => (hxr y hy).1) (hp r List.mem_cons_self) (fun y hy => (hxr y hy).2) hi) (by rw [List.length_map]; exact Nat.le_refl _)
    have h0 := hf 0 (by simp)
    simp only [List.getD_cons_zero] at h0
    rw [List.map_cons, barsGo, if_neg (by simp [hE]), rowSum_L, if_neg (by simp only [List.headD_cons]; omega), List.tail_cons]
    rw [bars_fine rows s _ _ (by simpa using hl) (by rw [markB_len]; exact hD) (fun x hx => hp x (List.mem_cons_of_mem _ hx)) n2 (fun x hx' => ?_) (fun i hi => ?_) (fun x hx' => ?_)]
    · unfold cntR
      rw [List.countP_cons, List.length_map]
      cases r with
      | nil => simp
      | cons y r => simp; omega
    · have h1 := hx x (by rw [List.flatten_cons]; exact List.mem_append_right _ hx')
      refine ⟨h1.1, ?_⟩
      rw [mark_getD (by omega), h1.2]
      have : x ∉ r := fun h => n3 x h x hx' rfl
      simp [this]
    · have := hf (i + 1) (by simpa using hi)
      simpa using this
    · rw [mark_getD (by omega)]
      rcases hall x hx' with h | h
      · rw [h]; simp
      · rw [List.flatten_cons, List.mem_append] at h
        rcases h with h | h
        · left; simp [h]
        · exact .inr h
/-- **Rows in rising order that hold each length once, and fit, are accepted.** -/
theorem assign_fine {st ln : List Int} {kerf : Int} {rows : List (List Nat)} (hc : crossE st ln kerf = 0) (hl : rows.length = st.length) (hp : ∀ r ∈ rows, r.Pairwise (· < ·)) (hn : rows.flatten.Nodup) (hx : ∀ x, x ∈ rows.flatten ↔ x < ln.length) (hf : ∀ i, i < st.length → sumL ln kerf (rows.getD i []) ≤ st.getD i 0 + kerf) :
    assignM st ln kerf (rows.map fun r => r.map fun i : Nat => (i : Int)) = ((cntR rows : Int), 0) := by
  unfold assignM
  rw [if_neg (by simp [hc]), if_neg (by simp [hl])]
  rw [bars_fine rows st _ 0 hl (by simp) hp hn (fun x h => ⟨(hx x).1 h, by
    rw [List.getD_eq_getElem?_getD, List.getElem?_replicate, if_pos ((hx x).1 h)]; rfl⟩) (fun i hi => hf i (by omega)) (fun x h => .inr ((hx x).2 h))]
  simp

/-! The rows of the way back. -/
def layR (order : List Nat) : List (Nat × Nat) → List (List Nat) → List (List Nat)
  | [], o => o
  | p :: l, o => layR order l (o.set (order.getD p.1 0) (o.getD (order.getD p.1 0) [] ++ [p.2]))
theorem layR_len {order : List Nat} : ∀ {l : List (Nat × Nat)} {o : List (List Nat)}, (layR order l o).length = o.length
  | [], _ => rfl
  | p :: l, o => by rw [layR, layR_len, List.length_set]
theorem layR_get {order : List Nat} : ∀ {l : List (Nat × Nat)} {o : List (List Nat)} {b : Nat}, b < o.length → (layR order l o).getD b [] = o.getD b [] ++ ((l.filter fun p => order.getD p.1 0 == b).map (·.2))
  | [], o, b, _ => by simp [layR]
  | p :: l, o, b, h => by
    rw [layR, layR_get (by rw [List.length_set]; exact h), List.filter_cons]
    by_cases e : order.getD p.1 0 = b
    · have e2 : (order.getD p.1 0 == b) = true := by simpa using e
      rw [if_pos e2, getD_set _ _ _ _ _ (by omega), if_pos e, e]
      simp
    · have e2 : (order.getD p.1 0 == b) = false := by simpa using e
      rw [e2]
      by_cases hlt : order.getD p.1 0 < o.length
      · rw [getD_set _ _ _ _ _ hlt, if_neg e]; simp
      · rw [List.set_eq_of_length_le (by omega)]; simp
/-- Rows with the same members asn others, each row for itself. -/
def RowsPerm (a b : List (List Nat)) : Prop := a.length = b.length ∧ ∀ i, i < b.length → (a.getD i []).Perm (b.getD i [])
theorem flat_perm : ∀ {a b : List (List Nat)}, RowsPerm a b → a.flatten.Perm b.flatten ∧ cntR a = cntR b
  | [], [], _ => ⟨List.Perm.refl _, rfl⟩
  | [], _ :: _, h => by have := h.1; simp at this
  | _ :: _, [], h => by have := h.1; simp at this
  | x :: a, y :: b, h => by
    obtain ⟨h1, h2⟩ := flat_perm (a := a) (b := b) ⟨by simpa using h.1, fun i hi => by have := h.2 (i + 1) (by simpa using hi); simpa using this⟩
    have h0 : x.Perm y := by have := h.2 0 (by simp); simpa using this
    refine ⟨by rw [List.flatten_cons, List.flatten_cons]; exact h0.append h1, ?_⟩
    unfold cntR at h2 ⊢
    rw [List.countP_cons, List.countP_cons, h2]
    have e : x.isEmpty = y.isEmpty := by
      cases x with
      | nil => rw [List.nil_perm.1 h0]
      | cons c x =>
        cases y with
        | nil => have := h0.length_eq; simp at this
        | cons d y => rfl
    rw [e]
section
variable {st ln : List Int} {kerf : Int} {order : List Nat}
theorem cntR_getD {rows : List (List Nat)} {n : Nat} (hl : rows.length = n) : cntR rows = cntT ((List.range n).map fun b => !(rows.getD b []).isEmpty) := by
  unfold cntR cntT
  subst hl
  rw [List.countP_map]
  have h := list_range rows []
  have h2 : List.countP (fun r => !r.isEmpty) rows = List.countP (fun r => !r.isEmpty) ((List.range rows.length).map fun i => rows.getD i []) := congrArg _ h
  rw [h2, List.countP_map]
  rfl
/-- **The rows of the table's way back are an assignment with asn many bars.** -/
theorem back_rows (hp : order.Perm (List.range st.length)) (hk : 0 ≤ kerf) (hc : crossE st ln kerf = 0) (hst : ∀ m ∈ st, 0 ≤ m) (hd : dp (lenF st order) ln kerf (2 ^ ln.length - 1) ≠ nev (lenF st order)) {rows : List (List Nat)}
    (hr : RowsPerm rows (layR order (back (lenF st order) ln kerf (2 ^ ln.length - 1) (2 ^ ln.length - 1)) (List.replicate st.length []))) (hs : ∀ r ∈ rows, r.Pairwise (· ≤ ·)) :
    assignM st ln kerf (rows.map fun r => r.map fun i : Nat => (i : Int)) = (((dp (lenF st order) ln kerf (2 ^ ln.length - 1)).bars : Int), 0) := by
  have hol : order.length = st.length := by have := hp.length_eq; rwa [List.length_range] at this
  have hFl : (lenF st order).length = st.length := by unfold lenF; rw [List.length_map, hol]
  have hB := back_ok (lenF st order) ln kerf hk _ _ (Nat.le_refl (2 ^ ln.length - 1)) hd
  have hbar := (dp_bars (lenF st order) ln kerf _ _ (Nat.le_refl (2 ^ ln.length - 1)) hd).1
  have m0 := hB.mem
  have m1 := hB.nodup
  have m2 := hB.rank
  have m3 := hB.all
  have m4 := hB.fit
  clear hB hd
  rw [hFl] at hbar
  generalize back (lenF st order) ln kerf (2 ^ ln.length - 1) (2 ^ ln.length - 1) = l at *
  generalize (dp (lenF st order) ln kerf (2 ^ ln.length - 1)).bars = B at *
  have hlen : (layR order l (List.replicate st.length [])).length = st.length := by rw [layR_len]; simp
  have hget : ∀ b, b < st.length → (layR order l (List.replicate st.length [])).getD b [] = (l.filter fun p => order.getD p.1 0 == b).map (·.2) := fun b hb => by
    rw [layR_get (by simpa using hb)]
    rw [List.getD_eq_getElem?_getD, List.getElem?_replicate, if_pos hb]; simp
  have hrl : rows.length = st.length := by rw [hr.1, hlen]
  have hrow : ∀ b, b < st.length → (rows.getD b []).Perm ((l.filter fun p => order.getD p.1 0 == b).map (·.2)) := fun b hb => by rw [← hget b hb]; exact hr.2 b (by omega)
  have hrank : ∀ r, r < st.length → (l.filter fun p => order.getD p.1 0 == order.getD r 0) = l.filter fun p => p.1 == r := fun r hr' => List.filter_congr fun p hp' => by
    rw [Bool.eq_iff_iff, beq_iff_eq, beq_iff_eq]
    exact ⟨fun e => order_inj hp (by have := m2 p hp'; omega) hr' e, fun e => by rw [e]⟩
  have hsurj : ∀ b, b < st.length → ∃ r, r < st.length ∧ order.getD r 0 = b := fun b hb => by
    obtain ⟨r, hr', e⟩ := List.getElem_of_mem (hp.mem_iff.2 (List.mem_range.2 hb))
    exact ⟨r, by omega, by rw [List.getD_eq_getElem?_getD, List.getElem?_eq_getElem hr']; exact e⟩
  have hmem : ∀ x, x ∈ rows.flatten ↔ ∃ b, b < st.length ∧ x ∈ rows.getD b [] := fun x => by
    rw [List.mem_flatten]
    constructor
    · rintro ⟨r, h1, h2⟩
      obtain ⟨b, hb, rfl⟩ := List.mem_iff_getElem.1 h1
      exact ⟨b, by omega, by rw [List.getD_eq_getElem?_getD, List.getElem?_eq_getElem hb]; exact h2⟩
    · rintro ⟨b, hb, h2⟩
      rw [List.getD_eq_getElem?_getD, List.getElem?_eq_getElem (by omega)] at h2
      exact ⟨_, List.getElem_mem (by omega), h2⟩
  have hin : ∀ b, b < st.length → ∀ x, x ∈ rows.getD b [] ↔ ∃ p ∈ l, order.getD p.1 0 = b ∧ p.2 = x := fun b hb x => by
    rw [(hrow b hb).mem_iff, List.mem_map]
    constructor
    · rintro ⟨p, h1, h2⟩
      obtain ⟨h1, h3⟩ := List.mem_filter.1 h1
      exact ⟨p, h1, by simpa using h3, h2⟩
    · rintro ⟨p, h1, h2, h3⟩
      exact ⟨p, List.mem_filter.2 ⟨h1, by simpa using h2⟩, h3⟩
  have hxs : ∀ x, x ∈ rows.flatten ↔ x < ln.length := fun x => by
    rw [hmem]
    constructor
    · rintro ⟨b, hb, h⟩
      obtain ⟨p, h1, -, rfl⟩ := (hin b hb x).1 h
      have := (m0 p.2).1 (List.mem_map_of_mem h1)
      rw [Nat.testBit_two_pow_sub_one] at this
      simpa using this
    · intro hx
      obtain ⟨p, h1, rfl⟩ := List.mem_map.1 ((m0 x).2 (by rw [Nat.testBit_two_pow_sub_one]; simpa using hx))
      have hb := order_lt hp (r := p.1) (by have := m2 p h1; omega)
      exact ⟨_, hb, (hin _ hb _).2 ⟨p, h1, rfl, rfl⟩⟩
  have hpn : ∀ {p q : Nat × Nat}, p ∈ l → q ∈ l → p.2 = q.2 → p = q := fun {p q} h1 h2 e => by
    have e1 := rank_of m1 h1
    have e2 := rank_of m1 h2
    rw [e] at e1
    exact Prod.ext (by omega) e
  have hnr : ∀ b, b < st.length → (rows.getD b []).Nodup := fun b hb => ((hrow b hb).nodup_iff).2 (List.Nodup.sublist (List.filter_sublist.map _) m1)
  have hri : ∀ {b : Nat} (hb : b < rows.length), rows.getD b [] = rows[b] := fun {b} hb => by rw [List.getD_eq_getElem?_getD, List.getElem?_eq_getElem hb]; rfl
  have hnd : rows.flatten.Nodup := by
    rw [List.Nodup, List.pairwise_flatten]
    refine ⟨fun r hr' => ?_, ?_⟩
    · obtain ⟨b, hb, rfl⟩ := List.mem_iff_getElem.1 hr'
      rw [← hri hb]
      exact hnr b (by omega)
    · rw [List.pairwise_iff_getElem]
      intro i j hi hj hij x hx y hy e
      subst e
      rw [← hri hi] at hx
      rw [← hri hj] at hy
      obtain ⟨p, p1, p2, p3⟩ := (hin i (by omega) x).1 hx
      obtain ⟨q, q1, q2, q3⟩ := (hin j (by omega) x).1 hy
      have := hpn p1 q1 (by rw [p3, q3])
      subst this
      omega
  rw [assign_fine hc hrl (fun r hr' => ?_) hnd hxs (fun b hb => ?_)]
  · congr 2
    have hcnt : cntR rows = B := by
      rw [cntR_getD hrl, cnt_order hp (by simp)]
      rw [show (List.range st.length).filter (fun r => (((List.range st.length).map fun b => !(rows.getD b []).isEmpty).getD (order.getD r 0) false)) = (List.range st.length).filter fun r => decide (r < B) from List.filter_congr fun r hr' => by
        have hr2 := List.mem_range.1 hr'
        have hb := order_lt hp hr2
        rw [List.getD_eq_getElem?_getD (l := (List.range st.length).map fun b => !(rows.getD b []).isEmpty), List.getElem?_map, List.getElem?_range hb]
        simp only [Option.map_some, Option.getD_some]
        rw [Bool.eq_iff_iff, decide_eq_true_eq, Bool.not_eq_true', List.isEmpty_eq_false_iff_exists_mem]
        constructor
        · rintro ⟨x, hx⟩
          obtain ⟨p, p1, p2, p3⟩ := (hin _ hb x).1 hx
          have h3 := m2 p p1
          have := order_inj hp (by omega) hr2 p2
          omega
        · intro h
          obtain ⟨p, p1, p2⟩ := m3 r h
          exact ⟨p.2, (hin _ hb _).2 ⟨p, p1, by rw [p2], rfl⟩⟩]
      exact range_lt B _ hbar
    exact_mod_cast hcnt
  · obtain ⟨b, hb, rfl⟩ := List.mem_iff_getElem.1 hr'
    have h1 := hs _ hr'
    have h2 := hnr b (by omega)
    rw [hri hb] at h2
    rw [List.Nodup] at h2
    exact (h1.and h2).imp fun ⟨h3, h4⟩ => Nat.lt_of_le_of_ne h3 h4
  · obtain ⟨r, hr', rfl⟩ := hsurj b hb
    rw [sumL_perm (hrow _ hb), hrank r hr', ← sumR_L]
    by_cases hrB : r < B
    · have := m4 r hrB
      rwa [lenF_get (by omega)] at this
    · rw [sumR_none ln kerf fun p hp' => by have := m2 p hp'; omega]
      have : 0 ≤ st.getD (order.getD r 0) 0 := by
        rw [List.getD_eq_getElem?_getD, List.getElem?_eq_getElem hb]
        exact hst _ (List.getElem_mem _)
      omega
end
end Go.Proofs.Ytoelfalmmaddlaa
