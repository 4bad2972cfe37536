/- Covered areas: strips with swept spans, and cells of a net, count the same (plain law). -/
import Derived.Test.YthhchnhidhgccaaClearLaw
set_option linter.unusedVariables false
set_option linter.unusedSimpArgs false
namespace Go.Proofs.Ythhchnhidhgccaa
open Go Go.RowKit

/-! Sums over ranges of whole numbers. -/
def sumN (g : Int → Int) (a : Int) : Nat → Int
  | 0 => 0
  | n + 1 => sumN g a n + g (a + n)
def sumR (g : Int → Int) (a b : Int) : Int := sumN g a (b - a).toNat
theorem sumN_add (g : Int → Int) (a : Int) (m : Nat) : ∀ n, sumN g a (m + n) = sumN g a m + sumN g (a + m) n
  | 0 => by simp [sumN]
  | n + 1 => by
    rw [← Nat.add_assoc, sumN, sumN_add g a m n, sumN]
    have : a + ((m + n : Nat) : Int) = a + m + n := by omega
    rw [this]; omega
theorem sumR_split (g : Int → Int) {a b c : Int} (h1 : a ≤ b) (h2 : b ≤ c) : sumR g a c = sumR g a b + sumR g b c := by
  unfold sumR
  rw [show (c - a).toNat = (b - a).toNat + (c - b).toNat by omega, sumN_add]
  congr 2
  omega
theorem sumN_congr {g g' : Int → Int} {a : Int} : ∀ {n : Nat}, (∀ p, a ≤ p → p < a + n → g p = g' p) → sumN g a n = sumN g' a n
  | 0, _ => rfl
  | n + 1, h => by rw [sumN, sumN, sumN_congr fun p h1 h2 => h p h1 (by omega), h _ (by omega) (by omega)]
theorem sumR_congr {g g' : Int → Int} {a b : Int} (h : ∀ p, a ≤ p → p < b → g p = g' p) : sumR g a b = sumR g' a b := by
  unfold sumR
  exact sumN_congr fun p h1 h2 => h p h1 (by omega)
theorem sumN_const {c : Int} {a : Int} : ∀ n : Nat, sumN (fun _ => c) a n = n * c
  | 0 => by simp [sumN]
  | n + 1 => by rw [sumN, sumN_const n, Int.natCast_succ, Int.add_mul]; omega
theorem sumR_const {g : Int → Int} {a b c : Int} (hab : a ≤ b) (h : ∀ p, a ≤ p → p < b → g p = c) : sumR g a b = (b - a) * c := by
  rw [sumR_congr (g' := fun _ => c) h]
  unfold sumR
  rw [sumN_const]
  congr 1
  omega
theorem sumR_zero {g : Int → Int} {a b : Int} (hab : a ≤ b) (h : ∀ p, a ≤ p → p < b → g p = 0) : sumR g a b = 0 := by
  rw [sumR_const hab h, Int.mul_zero]
theorem sumR_self (g : Int → Int) (a : Int) : sumR g a a = 0 := by simp [sumR, sumN]

/-! Rows that spans cover. -/
def ind (b : Bool) : Int := if b then 1 else 0
def rowCov (s : List Iv) (y : Int) : Bool := s.any fun v => decide (v.1 ≤ y ∧ y < v.2)
def cover (wd : Int) (s : List Iv) : Int := sumR (fun y => ind (rowCov s y)) 0 wd
theorem rowCov_true {s : List Iv} {y : Int} : rowCov s y = true ↔ ∃ v ∈ s, v.1 ≤ y ∧ y < v.2 := by simp [rowCov]
theorem rowCov_false {s : List Iv} {y : Int} : rowCov s y = false ↔ ∀ v ∈ s, ¬ (v.1 ≤ y ∧ y < v.2) := by
  simp only [rowCov, List.any_eq_false, decide_eq_true_eq]
theorem cover_congr {wd : Int} {s t : List Iv} (h : ∀ v, v ∈ s ↔ v ∈ t) : cover wd s = cover wd t := by
  unfold cover
  refine sumR_congr fun p _ _ => ?_
  congr 1
  rw [Bool.eq_iff_iff, rowCov_true, rowCov_true]
  simp only [h]

/-- The program's sweep of spans that ascend. -/
def spanStep (w : Int) (s : Int × Int) (v : Iv) : Int × Int := if max v.1 s.2 < v.2 then (s.1 + w * (v.2 - max v.1 s.2), v.2) else s
theorem spans_ok {w wd : Int} : ∀ {r : List Iv} {s e : Int}, r.Pairwise (fun a b => a.1 ≤ b.1) → (∀ v ∈ r, 0 ≤ v.1 ∧ v.1 < v.2 ∧ v.2 ≤ wd) → 0 ≤ e → e ≤ wd →
    (r.foldl (spanStep w) (s, e)).1 = s + w * sumR (fun y => ind (rowCov r y)) e wd
  | [], s, e, _, _, _, he => by
    rw [List.foldl_nil, sumR_zero he]
    · simp
    · intro p _ _; rfl
  | v :: r, s, e, hp, hr, h0, he => by
    obtain ⟨h1, h2⟩ := List.pairwise_cons.1 hp
    have hv := hr v (by simp)
    rw [List.foldl_cons]
    by_cases hc : max v.1 e < v.2
    · rw [show spanStep w (s, e) v = (s + w * (v.2 - max v.1 e), v.2) by unfold spanStep; rw [if_pos hc]]
      rw [spans_ok h2 (fun u hu => hr u (by simp [hu])) (by omega) hv.2.2]
      have e1 : sumR (fun y => ind (rowCov (v :: r) y)) e (max v.1 e) = 0 := by
        refine sumR_zero (by omega) fun p p1 p2 => ?_
        rw [show rowCov (v :: r) p = false from rowCov_false.2 fun u hu => by
          rcases List.mem_cons.1 hu with rfl | hu
          · omega
          · have := h1 u hu; omega]
        rfl
      have e2 : sumR (fun y => ind (rowCov (v :: r) y)) (max v.1 e) v.2 = (v.2 - max v.1 e) * 1 := by
        refine sumR_const (by omega) fun p p1 p2 => ?_
        rw [show rowCov (v :: r) p = true from rowCov_true.2 ⟨v, by simp, by omega, p2⟩]
        rfl
      have e3 : sumR (fun y => ind (rowCov (v :: r) y)) v.2 wd = sumR (fun y => ind (rowCov r y)) v.2 wd := by
        refine sumR_congr fun p p1 p2 => ?_
        congr 1
        rw [Bool.eq_iff_iff, rowCov_true, rowCov_true]
        constructor
        · rintro ⟨u, hu, h⟩
          rcases List.mem_cons.1 hu with rfl | hu
          · omega
          · exact ⟨u, hu, h⟩
        · rintro ⟨u, hu, h⟩; exact ⟨u, by simp [hu], h⟩
      rw [sumR_split _ (show e ≤ max v.1 e by omega) (show max v.1 e ≤ wd by omega), sumR_split _ (show max v.1 e ≤ v.2 by omega) hv.2.2, e1, e2, e3, Int.mul_one, Int.zero_add, Int.mul_add]
      omega
    · rw [show spanStep w (s, e) v = (s, e) by unfold spanStep; rw [if_neg hc]]
      rw [spans_ok h2 (fun u hu => hr u (by simp [hu])) h0 he]
      congr 2
      refine sumR_congr fun p p1 p2 => ?_
      congr 1
      rw [Bool.eq_iff_iff, rowCov_true, rowCov_true]
      constructor
      · rintro ⟨u, hu, h⟩; exact ⟨u, by simp [hu], h⟩
      · rintro ⟨u, hu, h⟩
        rcases List.mem_cons.1 hu with rfl | hu
        · omega
        · exact ⟨u, hu, h⟩

/-! Strips. -/
def overl (ds : List Rect) (x x' : Int) : List Iv := (ds.filter fun d => decide (d.x1 < x') && decide (x < d.x2)).map fun d => (d.y1, d.y2)
def stripA (ds : List Rect) (wd x x' : Int) : Int := (x' - x) * cover wd (overl ds x x')
def chain (f : Int → Int → Int) : List Int → Int
  | x :: x' :: xs => f x x' + chain f (x' :: xs)
  | _ => 0
def colD (ds : List Rect) (p : Int) : List Iv := (ds.filter fun d => decide (d.x1 ≤ p) && decide (p < d.x2)).map fun d => (d.y1, d.y2)
def colA (ds : List Rect) (wd p : Int) : Int := cover wd (colD ds p)
theorem mem_overl {ds : List Rect} {x x' : Int} {v : Iv} : v ∈ overl ds x x' ↔ ∃ d ∈ ds, (d.x1 < x' ∧ x < d.x2) ∧ (d.y1, d.y2) = v := by
  simp [overl, List.mem_map, List.mem_filter, and_assoc]
theorem mem_colD {ds : List Rect} {p : Int} {v : Iv} : v ∈ colD ds p ↔ ∃ d ∈ ds, (d.x1 ≤ p ∧ p < d.x2) ∧ (d.y1, d.y2) = v := by
  simp [colD, List.mem_map, List.mem_filter, and_assoc]
theorem strip_col {ds : List Rect} {wd x x' : Int} (hx : x ≤ x') (hno : ∀ d ∈ ds, ¬ (x < d.x1 ∧ d.x1 < x') ∧ ¬ (x < d.x2 ∧ d.x2 < x')) : stripA ds wd x x' = sumR (colA ds wd) x x' := by
  unfold stripA
  rw [sumR_const hx]
  intro p p1 p2
  refine cover_congr fun v => ?_
  rw [mem_overl, mem_colD]
  constructor
  · rintro ⟨d, hd, h, e⟩; have := hno d hd; exact ⟨d, hd, by omega, e⟩
  · rintro ⟨d, hd, h, e⟩; have := hno d hd; exact ⟨d, hd, by omega, e⟩
theorem chain_sum {ds : List Rect} {wd : Int} : ∀ {xs : List Int} {x L : Int}, (x :: xs).Pairwise (· < ·) → (∀ d ∈ ds, (d.x1 ≤ x ∨ d.x1 ∈ xs) ∧ (d.x2 ≤ x ∨ d.x2 ∈ xs)) → (x :: xs).getLast? = some L →
    chain (stripA ds wd) (x :: xs) = sumR (colA ds wd) x L ∧ x ≤ L
  | [], x, L, _, _, hL => by simp at hL; subst hL; exact ⟨(sumR_self _ _).symm, Int.le_refl _⟩
  | x' :: xs, x, L, hp, hm, hL => by
    obtain ⟨h1, h2⟩ := List.pairwise_cons.1 hp
    have hx := h1 x' (by simp)
    have h3 := (List.pairwise_cons.1 h2).1
    have hmem : ∀ z, (z ≤ x ∨ z ∈ x' :: xs) → (z ≤ x' ∨ z ∈ xs) ∧ ¬ (x < z ∧ z < x') := by
      rintro z (h | h)
      · exact ⟨.inl (by omega), by omega⟩
      · rcases List.mem_cons.1 h with rfl | h
        · exact ⟨.inl (Int.le_refl _), by omega⟩
        · have := h3 z h; exact ⟨.inr h, by omega⟩
    obtain ⟨i1, i2⟩ := chain_sum (wd := wd) h2 (fun d hd => ⟨(hmem _ (hm d hd).1).1, (hmem _ (hm d hd).2).1⟩) (by simpa using hL)
    rw [chain, i1, strip_col (by omega) (fun d hd => ⟨(hmem _ (hm d hd).1).2, (hmem _ (hm d hd).2).2⟩), ← sumR_split _ (show x ≤ x' by omega) i2]
    exact ⟨rfl, by omega⟩
theorem colA_none {ds : List Rect} {wd p : Int} (hw : 0 ≤ wd) (h : ∀ d ∈ ds, ¬ (d.x1 ≤ p ∧ p < d.x2)) : colA ds wd p = 0 := by
  refine sumR_zero hw fun y _ _ => ?_
  rw [show rowCov (colD ds p) y = false from rowCov_false.2 fun v hv => by
    obtain ⟨d, hd, hh, -⟩ := mem_colD.1 hv
    exact absurd hh (h d hd)]
  rfl
def defXs (b : Board) : List Int := uniq (b.defects.flatMap fun d => [d.x1, d.x2])
theorem defXs_mem {b : Board} {z : Int} : z ∈ defXs b ↔ ∃ d ∈ b.defects, z = d.x1 ∨ z = d.x2 := by
  unfold defXs
  rw [uniq_mem]
  simp [List.mem_flatMap]
def progArea (b : Board) : Int := chain (stripA b.defects b.width) (defXs b)
def refArea (b : Board) : Int := chain (stripA b.defects b.width) (lineXs b)
theorem area_same {b : Board} (hb : DefsIn b) : progArea b = refArea b := by
  obtain ⟨t, ht, hl⟩ := lineXs_form hb
  have ha : (lineXs b).Pairwise (· < ·) := uniq_asc _
  have hmem : ∀ d ∈ b.defects, d.x1 ∈ lineXs b ∧ d.x2 ∈ lineXs b := fun d hd => ⟨lineXs_mem.2 (.inr (.inr ⟨d, hd, .inl rfl⟩)), lineXs_mem.2 (.inr (.inr ⟨d, hd, .inr rfl⟩))⟩
  have hw := hb.wid
  have hR : refArea b = sumR (colA b.defects b.width) 0 b.length := by
    unfold refArea
    rw [ht] at ha hl hmem ⊢
    refine (chain_sum ha (fun d hd => ?_) hl).1
    obtain ⟨m1, m2⟩ := hmem d hd
    constructor
    · rcases List.mem_cons.1 m1 with e | m
      · left; omega
      · right; exact m
    · rcases List.mem_cons.1 m2 with e | m
      · left; omega
      · right; exact m
  rw [hR]
  unfold progArea
  have hda : (defXs b).Pairwise (· < ·) := uniq_asc _
  cases hx : defXs b with
  | nil =>
    have hn : ∀ d ∈ b.defects, False := fun d hd => by
      have : d.x1 ∈ defXs b := defXs_mem.2 ⟨d, hd, .inl rfl⟩
      rw [hx] at this; cases this
    rw [sumR_zero (by have := hb.len; omega) fun p _ _ => colA_none (by omega) fun d hd => (hn d hd).elim]
    rfl
  | cons x xs =>
    rw [hx] at hda
    have hm2 : ∀ d ∈ b.defects, d.x1 ∈ x :: xs ∧ d.x2 ∈ x :: xs := fun d hd => by rw [← hx]; exact ⟨defXs_mem.2 ⟨d, hd, .inl rfl⟩, defXs_mem.2 ⟨d, hd, .inr rfl⟩⟩
    have hne : (x :: xs) ≠ [] := by simp
    obtain ⟨L, hL⟩ : ∃ L, (x :: xs).getLast? = some L := ⟨_, List.getLast?_eq_some_getLast hne⟩
    have hLm : L ∈ x :: xs := List.mem_of_getLast? hL
    have hLmax : ∀ v ∈ x :: xs, v ≤ L := by
      intro v hv
      obtain ⟨A, B, he⟩ := List.append_of_mem hLm
      rw [he] at hL hv hda
      cases B with
      | cons c B =>
        exfalso
        have e2 : (A ++ L :: c :: B).getLast? = (c :: B).getLast? := by
          rw [List.getLast?_append, List.getLast?_cons_cons]
          cases h : (c :: B).getLast? with
          | none => simp at h
          | some z => rfl
        rw [e2] at hL
        have := (List.pairwise_cons.1 (List.pairwise_append.1 hda).2.1).1 L (List.mem_of_getLast? hL)
        omega
      | nil =>
        rcases List.mem_append.1 hv with h | h
        · have := (List.pairwise_append.1 hda).2.2 v h L (by simp); omega
        · simp at h; omega
    have hxmin : ∀ v ∈ x :: xs, x ≤ v := fun v hv => by
      rcases List.mem_cons.1 hv with rfl | h
      · exact Int.le_refl _
      · have := (List.pairwise_cons.1 hda).1 v h; omega
    obtain ⟨c1, c2⟩ := chain_sum (ds := b.defects) (wd := b.width) hda (fun d hd => by
      obtain ⟨m1, m2⟩ := hm2 d hd
      constructor
      · rcases List.mem_cons.1 m1 with e | m
        · left; omega
        · right; exact m
      · rcases List.mem_cons.1 m2 with e | m
        · left; omega
        · right; exact m) hL
    have hin : ∀ v ∈ x :: xs, 0 ≤ v ∧ v ≤ b.length := fun v hv => by
      rw [← hx] at hv
      obtain ⟨d, hd, h⟩ := defXs_mem.1 hv
      have := hb.ins d hd; omega
    have h0 := hin x (by simp)
    have h1 := hin L hLm
    rw [c1, sumR_split _ h0.1 (show x ≤ b.length by omega), sumR_split _ c2 h1.2, sumR_zero h0.1 fun p p1 p2 => colA_none (by omega) fun d hd => by have := hxmin _ (hm2 d hd).1; omega,
      sumR_zero h1.2 fun p p1 p2 => colA_none (by omega) fun d hd => by have := hLmax _ (hm2 d hd).2; omega]
    omega

/-- The reference's cells of a strip. -/
def cellA (ds : List Rect) (x x' : Int) (y y' : Int) : Int := if soundB ds ⟨x, y, x', y'⟩ = true then 0 else (x' - x) * (y' - y)
theorem chain_cells {ds : List Rect} {x x' : Int} : ∀ {ys : List Int} {y L : Int}, (y :: ys).Pairwise (· < ·) → (∀ d ∈ ds, (d.y1 ≤ y ∨ d.y1 ∈ ys) ∧ (d.y2 ≤ y ∨ d.y2 ∈ ys)) → (y :: ys).getLast? = some L →
    chain (cellA ds x x') (y :: ys) = (x' - x) * sumR (fun p => ind (rowCov (overl ds x x') p)) y L ∧ y ≤ L
  | [], y, L, _, _, hL => by simp at hL; subst hL; rw [sumR_self]; exact ⟨by simp [chain], Int.le_refl _⟩
  | y' :: ys, y, L, hp, hm, hL => by
    obtain ⟨h1, h2⟩ := List.pairwise_cons.1 hp
    have hx := h1 y' (by simp)
    have h3 := (List.pairwise_cons.1 h2).1
    have hmem : ∀ z, (z ≤ y ∨ z ∈ y' :: ys) → (z ≤ y' ∨ z ∈ ys) ∧ ¬ (y < z ∧ z < y') := by
      rintro z (h | h)
      · exact ⟨.inl (by omega), by omega⟩
      · rcases List.mem_cons.1 h with rfl | h
        · exact ⟨.inl (Int.le_refl _), by omega⟩
        · have := h3 z h; exact ⟨.inr h, by omega⟩
    obtain ⟨i1, i2⟩ := chain_cells (x := x) (x' := x') h2 (fun d hd => ⟨(hmem _ (hm d hd).1).1, (hmem _ (hm d hd).2).1⟩) (by simpa using hL)
    have hc : cellA ds x x' y y' = (x' - x) * sumR (fun p => ind (rowCov (overl ds x x') p)) y y' := by
      unfold cellA soundB overlapsB
      cases hs : ds.any fun d => decide (d.x1 < x') && decide (x < d.x2) && decide (d.y1 < y') && decide (y < d.y2)
      · rw [if_pos (by rfl), sumR_zero (by omega), Int.mul_zero]
        intro p p1 p2
        rw [show rowCov (overl ds x x') p = false from rowCov_false.2 fun v hv => by
          obtain ⟨d, hd, hh, rfl⟩ := mem_overl.1 hv
          have h5 := List.any_eq_false.1 hs d hd
          simp only [Bool.and_eq_true, decide_eq_true_eq] at h5
          simp only
          omega]
        rfl
      · rw [if_neg (by simp)]
        obtain ⟨d, hd, h5⟩ := List.any_eq_true.1 hs
        simp only [Bool.and_eq_true, decide_eq_true_eq] at h5
        have m1 := (hmem _ (hm d hd).1).2
        have m2 := (hmem _ (hm d hd).2).2
        rw [sumR_const (c := 1) (by omega), Int.mul_one]
        intro p p1 p2
        rw [show rowCov (overl ds x x') p = true from rowCov_true.2 ⟨(d.y1, d.y2), mem_overl.2 ⟨d, hd, by omega, rfl⟩, by simp only; omega, by simp only; omega⟩]
        rfl
    rw [chain, i1, hc, ← Int.mul_add, ← sumR_split _ (show y ≤ y' by omega) i2]
    exact ⟨rfl, by omega⟩
theorem lineYs_form {b : Board} (hb : DefsIn b) : ∃ t, lineYs b = 0 :: t ∧ (lineYs b).getLast? = some b.width := by
  have hbd : ∀ v ∈ lineYs b, 0 ≤ v ∧ v ≤ b.width := by
    intro v hv
    have := hb.wid
    rcases lineYs_mem.1 hv with rfl | rfl | ⟨d, hd, h⟩
    · omega
    · omega
    · have := hb.ins d hd; omega
  obtain ⟨t, ht⟩ := asc_head (l := lineYs b) (uniq_asc _) (lineYs_mem.2 (.inl rfl)) fun v hv => (hbd v hv).1
  exact ⟨t, ht, asc_last (uniq_asc _) (lineYs_mem.2 (.inr (.inl rfl))) fun v hv => (hbd v hv).2⟩
theorem cells_strip {b : Board} (hb : DefsIn b) (x x' : Int) : chain (cellA b.defects x x') (lineYs b) = stripA b.defects b.width x x' := by
  obtain ⟨t, ht, hl⟩ := lineYs_form hb
  have ha : (lineYs b).Pairwise (· < ·) := uniq_asc _
  have hmem : ∀ d ∈ b.defects, d.y1 ∈ lineYs b ∧ d.y2 ∈ lineYs b := fun d hd => ⟨lineYs_mem.2 (.inr (.inr ⟨d, hd, .inl rfl⟩)), lineYs_mem.2 (.inr (.inr ⟨d, hd, .inr rfl⟩))⟩
  rw [ht] at ha hl hmem ⊢
  unfold stripA cover
  refine (chain_cells ha (fun d hd => ?_) hl).1
  obtain ⟨m1, m2⟩ := hmem d hd
  constructor
  · rcases List.mem_cons.1 m1 with e | m
    · left; omega
    · right; exact m
  · rcases List.mem_cons.1 m2 with e | m
    · left; omega
    · right; exact m
end Go.Proofs.Ythhchnhidhgccaa
