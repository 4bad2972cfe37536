/- What is wanted of chapter 2 here: stocks, sound wood, the widest rectangle, the boards that fit (the timber seat's texts, picked by name). -/
import Derived.Test.YtpaindkfbgoogaaGreatQU
import Derived.Test.YtpaindkfbgoogaaGreatShelf
import Derived.LoopN
import Derived.Maps.Own
import Derived.Maps.OwnOps
import Derived.Maps.Views
import Derived.Deep.CutRange
import Derived.Deep.RegionHeld3
import Derived.OwnWalk
import Derived.Lib.OwnBridge
import Derived.Deep.AppendLies
import Derived.Deep.DeepCutAuto
import Derived.Lib.RowBridge
set_option linter.unusedVariables false
set_option linter.unusedSimpArgs false
namespace Go.Proofs.YtpaindkfbgoogaaGreat
open Go Go.RowKit Go.Maps Go.WideMaps
theorem IntsV.at_ {w : World} {a : Option Addr} {l : List Int} (h : IntsV w a l) {k : Nat} (hk : k < l.length) : ∃ b off, a = some ⟨b, off, none⟩ ∧ w.cell? ⟨b, off + k, none⟩ = some (.int .i64 l[k]) := by
  obtain ⟨b, off, ha, hx⟩ := h (by intro e; subst e; simp at hk)
  exact ⟨b, off, ha, hx k _ (List.getElem?_eq_getElem hk)⟩
theorem IntsV.keep {w w' : World} {a : Option Addr} {l : List Int} (h : IntsV w a l) (hb : Below w.heap.size w w') : IntsV w' a l :=
  fun hl => let ⟨b, off, ha, hx⟩ := h hl; ⟨b, off, ha, fun k x hk => cell_keep hb (hx k x hk)⟩
theorem upTo_mem (d : Array Int) (x : Int) : ∀ m, x ∈ Lib.compactUpTo d m ↔ ∃ j, j < m ∧ d[j]! = x
  | 0 => by simp [Lib.compactUpTo]
  | m + 1 => by
    rw [Lib.compactUpTo_succ, List.mem_append, upTo_mem d x m]
    cases hk : Lib.keeps d m with
    | true =>
      simp only [if_true, List.mem_singleton]
      constructor
      · rintro (⟨j, hj, e⟩ | e)
        · exact ⟨j, by omega, e⟩
        · exact ⟨m, by omega, e.symm⟩
      · rintro ⟨j, hj, e⟩
        rcases Nat.lt_succ_iff_lt_or_eq.1 hj with h | rfl
        · exact .inl ⟨j, h, e⟩
        · exact .inr e.symm
    | false =>
      have hk' : m ≠ 0 ∧ d[m]! = d[m - 1]! := by
        unfold Lib.keeps at hk
        rw [decide_eq_false_iff_not] at hk
        exact ⟨fun h => hk (.inl h), Classical.not_not.1 fun h => hk (.inr h)⟩
      simp only [Bool.false_eq_true, if_false, List.not_mem_nil, or_false]
      constructor
      · rintro ⟨j, hj, e⟩; exact ⟨j, by omega, e⟩
      · rintro ⟨j, hj, e⟩
        rcases Nat.lt_succ_iff_lt_or_eq.1 hj with h | rfl
        · exact ⟨j, h, e⟩
        · exact ⟨j - 1, by omega, by rw [← hk'.2]; exact e⟩
abbrev Iv := Int × Int
/-- The program's sweep over defects that ascend. -/
def sweep (L : Int) : List Rect → Int → List Iv
  | [], at_ => if at_ < L then [(at_, L)] else []
  | d :: r, at_ => (if at_ < d.x1 then [(at_, d.x1)] else []) ++ sweep L r (max at_ d.x2)
def sumN (g : Int → Int) (a : Int) : Nat → Int
  | 0 => 0
  | n + 1 => sumN g a n + g (a + n)
def sumR (g : Int → Int) (a b : Int) : Int := sumN g a (b - a).toNat
theorem sumN_add (g : Int → Int) (a : Int) (m : Nat) : ∀ n, sumN g a (m + n) = sumN g a m + sumN g (a + m) n
  | 0 => by simp [sumN]
  | n + 1 => by
    rw [← Nat.add_assoc, sumN, sumN_add g a m n, sumN]
    have : a + ((m + n : Nat) : Int) = a + m + n := by omega
    rw [this]; omega
theorem sumR_split (g : Int → Int) {a b c : Int} (h1 : a ≤ b) (h2 : b ≤ c) : sumR g a c = sumR g a b + sumR g b c := by
  unfold sumR
  rw [show (c - a).toNat = (b - a).toNat + (c - b).toNat by omega, sumN_add]
  congr 2
  omega
theorem sumN_congr {g g' : Int → Int} {a : Int} : ∀ {n : Nat}, (∀ p, a ≤ p → p < a + n → g p = g' p) → sumN g a n = sumN g' a n
  | 0, _ => rfl
  | n + 1, h => by rw [sumN, sumN, sumN_congr fun p h1 h2 => h p h1 (by omega), h _ (by omega) (by omega)]
theorem sumR_congr {g g' : Int → Int} {a b : Int} (h : ∀ p, a ≤ p → p < b → g p = g' p) : sumR g a b = sumR g' a b := by
  unfold sumR
  exact sumN_congr fun p h1 h2 => h p h1 (by omega)
theorem sumN_const {c : Int} {a : Int} : ∀ n : Nat, sumN (fun _ => c) a n = n * c
  | 0 => by simp [sumN]
  | n + 1 => by rw [sumN, sumN_const n, Int.natCast_succ, Int.add_mul]; omega
theorem sumR_const {g : Int → Int} {a b c : Int} (hab : a ≤ b) (h : ∀ p, a ≤ p → p < b → g p = c) : sumR g a b = (b - a) * c := by
  rw [sumR_congr (g' := fun _ => c) h]
  unfold sumR
  rw [sumN_const]
  congr 1
  omega
theorem sumR_zero {g : Int → Int} {a b : Int} (hab : a ≤ b) (h : ∀ p, a ≤ p → p < b → g p = 0) : sumR g a b = 0 := by
  rw [sumR_const hab h, Int.mul_zero]
theorem sumR_self (g : Int → Int) (a : Int) : sumR g a a = 0 := by simp [sumR, sumN]
def indB (b : Bool) : Int := if b then 1 else 0
def rowCov (s : List Iv) (y : Int) : Bool := s.any fun v => decide (v.1 ≤ y ∧ y < v.2)
def cover (wd : Int) (s : List Iv) : Int := sumR (fun y => indB (rowCov s y)) 0 wd
theorem rowCov_true {s : List Iv} {y : Int} : rowCov s y = true ↔ ∃ v ∈ s, v.1 ≤ y ∧ y < v.2 := by simp [rowCov]
theorem rowCov_false {s : List Iv} {y : Int} : rowCov s y = false ↔ ∀ v ∈ s, ¬ (v.1 ≤ y ∧ y < v.2) := by
  simp only [rowCov, List.any_eq_false, decide_eq_true_eq]
theorem cover_congr {wd : Int} {s t : List Iv} (h : ∀ v, v ∈ s ↔ v ∈ t) : cover wd s = cover wd t := by
  unfold cover
  refine sumR_congr fun p _ _ => ?_
  congr 1
  rw [Bool.eq_iff_iff, rowCov_true, rowCov_true]
  simp only [h]
/-- The program's sweep of spans that ascend. -/
def spanStep (w : Int) (s : Int × Int) (v : Iv) : Int × Int := if max v.1 s.2 < v.2 then (s.1 + w * (v.2 - max v.1 s.2), v.2) else s
theorem spans_ok {w wd : Int} : ∀ {r : List Iv} {s e : Int}, r.Pairwise (fun a b => a.1 ≤ b.1) → (∀ v ∈ r, 0 ≤ v.1 ∧ v.1 < v.2 ∧ v.2 ≤ wd) → 0 ≤ e → e ≤ wd →
    (r.foldl (spanStep w) (s, e)).1 = s + w * sumR (fun y => indB (rowCov r y)) e wd
  | [], s, e, _, _, _, he => by
    rw [List.foldl_nil, sumR_zero he]
    · simp
    · intro p _ _; rfl
  | v :: r, s, e, hp, hr, h0, he => by
    obtain ⟨h1, h2⟩ := List.pairwise_cons.1 hp
    have hv := hr v (by simp)
    rw [List.foldl_cons]
    by_cases hc : max v.1 e < v.2
    · rw [show spanStep w (s, e) v = (s + w * (v.2 - max v.1 e), v.2) by unfold spanStep; rw [if_pos hc]]
      rw [spans_ok h2 (fun u hu => hr u (by simp [hu])) (by omega) hv.2.2]
      have e1 : sumR (fun y => indB (rowCov (v :: r) y)) e (max v.1 e) = 0 := by
        refine sumR_zero (by omega) fun p p1 p2 => ?_
        rw [show rowCov (v :: r) p = false from rowCov_false.2 fun u hu => by
          rcases List.mem_cons.1 hu with rfl | hu
          · omega
          · have := h1 u hu; omega]
        rfl
      have e2 : sumR (fun y => indB (rowCov (v :: r) y)) (max v.1 e) v.2 = (v.2 - max v.1 e) * 1 := by
        refine sumR_const (by omega) fun p p1 p2 => ?_
        rw [show rowCov (v :: r) p = true from rowCov_true.2 ⟨v, by simp, by omega, p2⟩]
        rfl
      have e3 : sumR (fun y => indB (rowCov (v :: r) y)) v.2 wd = sumR (fun y => indB (rowCov r y)) v.2 wd := by
        refine sumR_congr fun p p1 p2 => ?_
        congr 1
        rw [Bool.eq_iff_iff, rowCov_true, rowCov_true]
        constructor
        · rintro ⟨u, hu, h⟩
          rcases List.mem_cons.1 hu with rfl | hu
          · omega
          · exact ⟨u, hu, h⟩
        · rintro ⟨u, hu, h⟩; exact ⟨u, by simp [hu], h⟩
      rw [sumR_split _ (show e ≤ max v.1 e by omega) (show max v.1 e ≤ wd by omega), sumR_split _ (show max v.1 e ≤ v.2 by omega) hv.2.2, e1, e2, e3, Int.mul_one, Int.zero_add, Int.mul_add]
      omega
    · rw [show spanStep w (s, e) v = (s, e) by unfold spanStep; rw [if_neg hc]]
      rw [spans_ok h2 (fun u hu => hr u (by simp [hu])) h0 he]
      congr 2
      refine sumR_congr fun p p1 p2 => ?_
      congr 1
      rw [Bool.eq_iff_iff, rowCov_true, rowCov_true]
      constructor
      · rintro ⟨u, hu, h⟩; exact ⟨u, by simp [hu], h⟩
      · rintro ⟨u, hu, h⟩
        rcases List.mem_cons.1 hu with rfl | hu
        · omega
        · exact ⟨u, hu, h⟩
def overl (ds : List Rect) (x x' : Int) : List Iv := (ds.filter fun d => decide (d.x1 < x') && decide (x < d.x2)).map fun d => (d.y1, d.y2)
def stripA (ds : List Rect) (wd x x' : Int) : Int := (x' - x) * cover wd (overl ds x x')
def chain (f : Int → Int → Int) : List Int → Int
  | x :: x' :: xs => f x x' + chain f (x' :: xs)
  | _ => 0
def colD (ds : List Rect) (p : Int) : List Iv := (ds.filter fun d => decide (d.x1 ≤ p) && decide (p < d.x2)).map fun d => (d.y1, d.y2)
def colA (ds : List Rect) (wd p : Int) : Int := cover wd (colD ds p)
theorem mem_overl {ds : List Rect} {x x' : Int} {v : Iv} : v ∈ overl ds x x' ↔ ∃ d ∈ ds, (d.x1 < x' ∧ x < d.x2) ∧ (d.y1, d.y2) = v := by
  simp [overl, List.mem_map, List.mem_filter, and_assoc]
theorem mem_colD {ds : List Rect} {p : Int} {v : Iv} : v ∈ colD ds p ↔ ∃ d ∈ ds, (d.x1 ≤ p ∧ p < d.x2) ∧ (d.y1, d.y2) = v := by
  simp [colD, List.mem_map, List.mem_filter, and_assoc]
theorem strip_col {ds : List Rect} {wd x x' : Int} (hx : x ≤ x') (hno : ∀ d ∈ ds, ¬ (x < d.x1 ∧ d.x1 < x') ∧ ¬ (x < d.x2 ∧ d.x2 < x')) : stripA ds wd x x' = sumR (colA ds wd) x x' := by
  unfold stripA
  rw [sumR_const hx]
  intro p p1 p2
  refine cover_congr fun v => ?_
  rw [mem_overl, mem_colD]
  constructor
  · rintro ⟨d, hd, h, e⟩; have := hno d hd; exact ⟨d, hd, by omega, e⟩
  · rintro ⟨d, hd, h, e⟩; have := hno d hd; exact ⟨d, hd, by omega, e⟩
theorem colA_none {ds : List Rect} {wd p : Int} (hw : 0 ≤ wd) (h : ∀ d ∈ ds, ¬ (d.x1 ≤ p ∧ p < d.x2)) : colA ds wd p = 0 := by
  refine sumR_zero hw fun y _ _ => ?_
  rw [show rowCov (colD ds p) y = false from rowCov_false.2 fun v hv => by
    obtain ⟨d, hd, hh, -⟩ := mem_colD.1 hv
    exact absurd hh (h d hd)]
  rfl
/-- An ascending list with a number more. -/
def sw (l : List Int) (n : Int) : List Int := if n ∈ l then l else l.filter (fun x => decide (x < n)) ++ n :: l.drop (l.filter fun x => decide (x < n)).length
theorem IntsV.at' {w : World} {a : Option Addr} {l : List Int} (h : IntsV w a l) {k : Nat} (hk : k < l.length) : ∃ b off, a = some ⟨b, off, none⟩ ∧ b < w.heap.size ∧ w.cell? ⟨b, off + k, none⟩ = some (.int .i64 l[k]) := by
  obtain ⟨b, off, ha, hc⟩ := h.at_ hk
  exact ⟨b, off, ha, by simpa using block_lt_of_cell hc, hc⟩
theorem IntsV.cell {w : World} {b o : Nat} {l : List Int} (h : IntsV w (some ⟨b, o, none⟩) l) {k : Nat} (hk : k < l.length) : w.cell? ⟨b, o + k, none⟩ = some (.int .i64 l[k]) := by
  obtain ⟨b', off, ha, hc⟩ := h.at_ hk
  injection ha with ha
  injection ha with hb ho
  subst hb ho
  exact hc
theorem chain_step {f : Int → Int → Int} {X : List Int} {k : Nat} {A s : Int} (hk : k + 1 < X.length) (h : A = s + chain f (X.drop k)) : A = (s + f X[k] X[k + 1]) + chain f (X.drop (k + 1)) := by
  rw [h, List.drop_eq_getElem_cons (by omega : k < X.length), List.drop_eq_getElem_cons hk, chain]; omega
theorem chain_end {f : Int → Int → Int} {X : List Int} {k : Nat} {A s : Int} (hk : X.length ≤ k + 1) (h : A = s + chain f (X.drop k)) : A = s := by
  rw [h]
  by_cases hk' : k < X.length
  · rw [List.drop_eq_getElem_cons hk', List.drop_of_length_le hk]; simp [chain]
  · rw [List.drop_of_length_le (by omega)]; simp [chain]
end Go.Proofs.YtpaindkfbgoogaaGreat
/- The area of a rectangle that defects cover: the sweep of the program and the cells of the document count the same squares (plain). -/
set_option linter.unusedVariables false
set_option linter.unusedSimpArgs false
namespace Go.Proofs.YtpaindkfbgoogaaGreat

/-! How many of the unit squares of a rectangle defects cover. -/
def covC (ds : List Rect) (x y : Int) : Bool := ds.any fun d => decide (d.x1 ≤ x) && decide (x < d.x2) && decide (d.y1 ≤ y) && decide (y < d.y2)
theorem covC_true {ds : List Rect} {x y : Int} : covC ds x y = true ↔ ∃ d ∈ ds, d.x1 ≤ x ∧ x < d.x2 ∧ d.y1 ≤ y ∧ y < d.y2 := by
  unfold covC
  simp [and_assoc]
def covA (ds : List Rect) (r : Rect) : Int := sumR (fun x => sumR (fun y => indB (covC ds x y)) r.y1 r.y2) r.x1 r.x2
theorem chain_sum2 {ds : List Rect} {wd : Int} : ∀ {xs : List Int} {x L : Int}, (x :: xs).Pairwise (· ≤ ·) → (∀ d ∈ ds, (d.x1 ≤ x ∨ d.x1 ∈ xs) ∧ (d.x2 ≤ x ∨ d.x2 ∈ xs)) → (x :: xs).getLast? = some L →
    chain (stripA ds wd) (x :: xs) = sumR (colA ds wd) x L ∧ x ≤ L
  | [], x, L, _, _, hL => by simp at hL; subst hL; exact ⟨(sumR_self _ _).symm, Int.le_refl _⟩
  | x' :: xs, x, L, hp, hm, hL => by
    obtain ⟨h1, h2⟩ := List.pairwise_cons.1 hp
    have hx := h1 x' (by simp)
    have h3 := (List.pairwise_cons.1 h2).1
    have hmem : ∀ z, (z ≤ x ∨ z ∈ x' :: xs) → (z ≤ x' ∨ z ∈ xs) ∧ ¬ (x < z ∧ z < x') := by
      rintro z (h | h)
      · exact ⟨.inl (by omega), by omega⟩
      · rcases List.mem_cons.1 h with rfl | h
        · exact ⟨.inl (Int.le_refl _), by omega⟩
        · have := h3 z h; exact ⟨.inr h, by omega⟩
    obtain ⟨i1, i2⟩ := chain_sum2 (wd := wd) h2 (fun d hd => ⟨(hmem _ (hm d hd).1).1, (hmem _ (hm d hd).2).1⟩) (by simpa using hL)
    rw [chain, i1, strip_col (by omega) (fun d hd => ⟨(hmem _ (hm d hd).1).2, (hmem _ (hm d hd).2).2⟩), ← sumR_split _ (show x ≤ x' by omega) i2]
    exact ⟨rfl, by omega⟩
theorem last_max : ∀ {l : List Int} {L : Int}, l.Pairwise (· ≤ ·) → l.getLast? = some L → L ∈ l ∧ ∀ v ∈ l, v ≤ L
  | [], L, _, h => by simp at h
  | [a], L, _, h => by simp at h; subst h; simp
  | a :: b :: t, L, hp, h => by
    obtain ⟨h1, h2⟩ := List.pairwise_cons.1 hp
    obtain ⟨i1, i2⟩ := last_max h2 (by simpa using h)
    refine ⟨List.mem_cons_of_mem _ i1, fun v hv => ?_⟩
    rcases List.mem_cons.1 hv with rfl | hv
    · exact h1 _ i1
    · exact i2 v hv
/-- Strips between the sides of rectangles, from the least to the greatest one, are the columns of a wide room. -/
theorem chain_room {ds : List Rect} {wd A B : Int} {xs : List Int} (hw : 0 ≤ wd) (hAB : A ≤ B) (hp : xs.Pairwise (· ≤ ·)) (hm : ∀ z, z ∈ xs ↔ ∃ d ∈ ds, z = d.x1 ∨ z = d.x2) (hd : ∀ d ∈ ds, A ≤ d.x1 ∧ d.x1 ≤ d.x2 ∧ d.x2 ≤ B) : chain (stripA ds wd) xs = sumR (colA ds wd) A B := by
  cases xs with
  | nil =>
    rw [sumR_zero hAB fun p _ _ => colA_none hw fun d hd => by have := (hm d.x1).2 ⟨d, hd, .inl rfl⟩; cases this]
    rfl
  | cons x xs =>
    obtain ⟨L, hL⟩ : ∃ L, (x :: xs).getLast? = some L := ⟨_, List.getLast?_eq_some_getLast (by simp)⟩
    obtain ⟨hLm, hLx⟩ := last_max hp hL
    have hxm : ∀ v ∈ x :: xs, x ≤ v := fun v hv => by
      rcases List.mem_cons.1 hv with rfl | h
      · exact Int.le_refl _
      · exact (List.pairwise_cons.1 hp).1 v h
    have hin : ∀ v ∈ x :: xs, A ≤ v ∧ v ≤ B := fun v hv => by
      obtain ⟨d, hd', h⟩ := (hm v).1 hv
      have := hd d hd'
      omega
    obtain ⟨c1, c2⟩ := chain_sum2 (ds := ds) (wd := wd) hp (fun d hd' => by
      have m1 := (hm d.x1).2 ⟨d, hd', .inl rfl⟩
      have m2 := (hm d.x2).2 ⟨d, hd', .inr rfl⟩
      constructor
      · rcases List.mem_cons.1 m1 with e | m
        · left; omega
        · right; exact m
      · rcases List.mem_cons.1 m2 with e | m
        · left; omega
        · right; exact m) hL
    have h0 := hin x (by simp)
    have h1 := hin L hLm
    rw [c1, sumR_split _ h0.1 (show x ≤ B by omega), sumR_split _ c2 h1.2, sumR_zero h0.1 fun p p1 p2 => colA_none hw fun d hd' => by have := hxm _ ((hm d.x1).2 ⟨d, hd', .inl rfl⟩); omega,
      sumR_zero h1.2 fun p p1 p2 => colA_none hw fun d hd' => by have := hLx _ ((hm d.x2).2 ⟨d, hd', .inr rfl⟩); omega]
    omega
/-! The program's parts of the defects in a rectangle. -/
def nz (q : Rect) : Bool := !(decide (q.x1 = 0) && (decide (q.y1 = 0) && (decide (q.x2 = 0) && decide (q.y2 = 0))))
def partsP (ds : List Rect) (r : Rect) : List Rect := (ds.map fun d => wholeR (interR d r)).filter nz
theorem partsP_mem {ds : List Rect} {r q : Rect} : q ∈ partsP ds r ↔ ∃ d ∈ ds, q = interR d r ∧ q.x1 < q.x2 ∧ q.y1 < q.y2 := by
  unfold partsP
  rw [List.mem_filter, List.mem_map]
  constructor
  · rintro ⟨⟨d, hd, rfl⟩, h⟩
    unfold wholeR at h ⊢
    split at h
    · simp [nz] at h
    · rename_i hc
      rw [if_neg hc]
      exact ⟨d, hd, rfl, by omega, by omega⟩
  · rintro ⟨d, hd, rfl, h1, h2⟩
    refine ⟨⟨d, hd, ?_⟩, ?_⟩
    · unfold wholeR; rw [if_neg (by omega)]
    · unfold nz
      simp only [Bool.not_eq_true', Bool.and_eq_false_iff, decide_eq_false_iff_not]
      omega
theorem parts_cov {ds : List Rect} {r : Rect} {x y : Int} (hx : r.x1 ≤ x ∧ x < r.x2) (hy : r.y1 ≤ y ∧ y < r.y2) : covC (partsP ds r) x y = covC ds x y := by
  rw [Bool.eq_iff_iff, covC_true, covC_true]
  constructor
  · rintro ⟨q, hq, h⟩
    obtain ⟨d, hd, rfl, -⟩ := partsP_mem.1 hq
    refine ⟨d, hd, ?_⟩
    unfold interR at h
    simp only at h
    omega
  · rintro ⟨d, hd, h⟩
    refine ⟨interR d r, partsP_mem.2 ⟨d, hd, rfl, ?_, ?_⟩, ?_⟩ <;> (unfold interR; simp only; omega)
theorem col_cov {ds : List Rect} {x y : Int} : rowCov (colD ds x) y = covC ds x y := by
  rw [Bool.eq_iff_iff, covC_true, rowCov_true]
  constructor
  · rintro ⟨v, hv, h⟩
    obtain ⟨d, hd, h1, rfl⟩ := mem_colD.1 hv
    exact ⟨d, hd, by simp only at h; omega⟩
  · rintro ⟨d, hd, h⟩
    exact ⟨(d.y1, d.y2), mem_colD.2 ⟨d, hd, by omega, rfl⟩, by simp only; omega⟩
/-- The height of a strip, as the program sweeps it. -/
def hStep (x x' : Int) (s : Int × Int) (p : Rect) : Int × Int := if p.x1 < x' ∧ x < p.x2 then (s.1 + max 0 (p.y2 - max s.2 p.y1), max s.2 p.y2) else s
def hgtS (ps : List Rect) (x x' : Int) : Int := (ps.foldl (hStep x x') (0, 0)).1
theorem hgt_spans {x x' : Int} : ∀ {ps : List Rect} {s : Int × Int}, (∀ p ∈ ps, p.y1 < p.y2) → ps.foldl (hStep x x') s = (overl ps x x').foldl (spanStep 1) s
  | [], s, _ => rfl
  | p :: ps, s, h => by
    have hp := h p (by simp)
    rw [List.foldl_cons, hgt_spans fun q hq => h q (by simp [hq])]
    unfold overl hStep
    rw [List.filter_cons]
    by_cases hc : p.x1 < x' ∧ x < p.x2
    · rw [if_pos hc, if_pos (by simp [hc]), List.map_cons, List.foldl_cons]
      congr 1
      unfold spanStep
      simp only
      split
      · exact Prod.ext (by simp only; omega) (by simp only; omega)
      · exact Prod.ext (by simp only; omega) (by simp only; omega)
    · rw [if_neg hc, if_neg (by simp only [Bool.and_eq_true, decide_eq_true_eq]; exact hc)]
theorem hgt_cover {ps : List Rect} {x x' wd : Int} (hs : ps.Pairwise fun a b => a.y1 ≤ b.y1) (hp : ∀ p ∈ ps, 0 ≤ p.y1 ∧ p.y1 < p.y2 ∧ p.y2 ≤ wd) (hw : 0 ≤ wd) : hgtS ps x x' = cover wd (overl ps x x') := by
  unfold hgtS
  rw [hgt_spans fun p h => (hp p h).2.1, spans_ok (w := 1) (wd := wd) ?_ ?_ (Int.le_refl _) hw]
  · unfold cover; omega
  · unfold overl
    rw [List.pairwise_map]
    exact (hs.filter _).imp fun h => h
  · intro v hv
    obtain ⟨d, hd, -, rfl⟩ := mem_overl.1 hv
    exact hp d hd
def covP (ps : List Rect) (xs : List Int) : Int := chain (fun x x' => hgtS ps x x' * (x' - x)) xs
theorem chain_congr {f g : Int → Int → Int} : ∀ {l : List Int}, (∀ x x', f x x' = g x x') → chain f l = chain g l
  | [], _ => rfl
  | [_], _ => rfl
  | x :: x' :: l, h => by rw [chain, chain, h, chain_congr (l := x' :: l) h]
/-- **What the program's sweep returns is the number of covered squares.** -/
theorem covP_is {ds ps : List Rect} {r : Rect} {xs : List Int} (hr : 0 ≤ r.y1 ∧ r.x1 ≤ r.x2 ∧ r.y1 ≤ r.y2) (hps : ps.Perm (partsP ds r)) (hs : ps.Pairwise fun a b => a.y1 ≤ b.y1) (hxs : xs.Perm ((partsP ds r).flatMap fun d => [d.x1, d.x2])) (hp : xs.Pairwise (· ≤ ·)) : covP ps xs = covA ds r := by
  have hq : ∀ q ∈ ps, (r.x1 ≤ q.x1 ∧ q.x1 < q.x2 ∧ q.x2 ≤ r.x2) ∧ (r.y1 ≤ q.y1 ∧ q.y1 < q.y2 ∧ q.y2 ≤ r.y2) := fun q hq => by
    obtain ⟨d, hd, rfl, h1, h2⟩ := partsP_mem.1 (hps.mem_iff.1 hq)
    unfold interR at h1 h2 ⊢
    simp only at h1 h2 ⊢
    omega
  unfold covP
  rw [chain_congr (g := stripA ps r.y2) fun x x' => by rw [hgt_cover hs (fun p h => by have := hq p h; omega) (show 0 ≤ r.y2 by omega)]; unfold stripA; rw [Int.mul_comm]]
  rw [chain_room (A := r.x1) (B := r.x2) (by omega) hr.2.1 hp (fun z => by rw [hxs.mem_iff]; simp only [List.mem_flatMap, List.mem_cons, List.not_mem_nil, or_false, hps.mem_iff]) fun d hd => by have := hq d hd; omega]
  unfold covA
  refine sumR_congr fun x x1 x2 => ?_
  unfold colA cover
  have hcov : ∀ y, covC ps x y = covC (partsP ds r) x y := fun y => by
    rw [Bool.eq_iff_iff, covC_true, covC_true]
    simp only [hps.mem_iff]
  rw [sumR_split _ hr.1 hr.2.2, sumR_zero hr.1 fun y y1 y2 => ?_, Int.zero_add]
  · refine sumR_congr fun y y1 y2 => ?_
    rw [col_cov, hcov, parts_cov ⟨x1, x2⟩ ⟨y1, y2⟩]
  · rw [col_cov, show covC ps x y = false from ?_]
    · rfl
    · cases h : covC ps x y with
      | false => rfl
      | true =>
        obtain ⟨d, hd, h1⟩ := covC_true.1 h
        have := hq d hd
        omega
/-! The document's part of a board. -/
end Go.Proofs.YtpaindkfbgoogaaGreat
