/- What is wanted of chapter 2 here: stocks, sound wood, the widest rectangle, the boards that fit (the timber seat's texts, picked by name). -/
import Derived.Test.YtjmgboipbhddlaaGreatDoorQU
import Derived.Test.YtjmgboipbhddlaaGreatDoorShelf
import Derived.LoopN
import Derived.Maps.Own
import Derived.Maps.OwnOps
import Derived.Maps.Views
import Derived.Deep.CutRange
import Derived.Deep.RegionHeld3
import Derived.OwnWalk
import Derived.Lib.OwnBridge
import Derived.Deep.AppendLies
import Derived.Deep.DeepCutAuto
import Derived.Lib.RowBridge
import Derived.Test.YtjmgboipbhddlaaGreatDoorAY
set_option linter.unusedVariables false
set_option linter.unusedSimpArgs false
namespace Go.Proofs.YtjmgboipbhddlaaGreatDoor
open Go Go.RowKit Go.Maps Go.WideMaps
theorem IntsV.at_ {w : World} {a : Option Addr} {l : List Int} (h : IntsV w a l) {k : Nat} (hk : k < l.length) : ∃ b off, a = some ⟨b, off, none⟩ ∧ w.cell? ⟨b, off + k, none⟩ = some (.int .i64 l[k]) := by
  obtain ⟨b, off, ha, hx⟩ := h (by intro e; subst e; simp at hk)
  exact ⟨b, off, ha, hx k _ (List.getElem?_eq_getElem hk)⟩
theorem IntsV.keep {w w' : World} {a : Option Addr} {l : List Int} (h : IntsV w a l) (hb : Below w.heap.size w w') : IntsV w' a l :=
  fun hl => let ⟨b, off, ha, hx⟩ := h hl; ⟨b, off, ha, fun k x hk => cell_keep hb (hx k x hk)⟩
def uniq (zs : List Int) : List Int := Lib.compact (zs.mergeSort fun x y => decide (x ≤ y))
theorem upTo_mem (d : Array Int) (x : Int) : ∀ m, x ∈ Lib.compactUpTo d m ↔ ∃ j, j < m ∧ d[j]! = x
  | 0 => by simp [Lib.compactUpTo]
  | m + 1 => by
    rw [Lib.compactUpTo_succ, List.mem_append, upTo_mem d x m]
    cases hk : Lib.keeps d m with
    | true =>
      simp only [if_true, List.mem_singleton]
      constructor
      · rintro (⟨j, hj, e⟩ | e)
        · exact ⟨j, by omega, e⟩
        · exact ⟨m, by omega, e.symm⟩
      · rintro ⟨j, hj, e⟩
        rcases Nat.lt_succ_iff_lt_or_eq.1 hj with h | rfl
        · exact .inl ⟨j, h, e⟩
        · exact .inr e.symm
    | false =>
      have hk' : m ≠ 0 ∧ d[m]! = d[m - 1]! := by
        unfold Lib.keeps at hk
        rw [decide_eq_false_iff_not] at hk
        exact ⟨fun h => hk (.inl h), Classical.not_not.1 fun h => hk (.inr h)⟩
      simp only [Bool.false_eq_true, if_false, List.not_mem_nil, or_false]
      constructor
      · rintro ⟨j, hj, e⟩; exact ⟨j, by omega, e⟩
      · rintro ⟨j, hj, e⟩
        rcases Nat.lt_succ_iff_lt_or_eq.1 hj with h | rfl
        · exact ⟨j, h, e⟩
        · exact ⟨j - 1, by omega, by rw [← hk'.2]; exact e⟩
theorem upTo_asc (d : Array Int) (n : Nat) (hs : ∀ i j, i ≤ j → j < n → d[i]! ≤ d[j]!) : ∀ m, m ≤ n → (Lib.compactUpTo d m).Pairwise (· < ·)
  | 0, _ => by simp [Lib.compactUpTo]
  | m + 1, hm => by
    rw [Lib.compactUpTo_succ, List.pairwise_append]
    refine ⟨upTo_asc d n hs m (by omega), by split <;> simp, fun a ha b hb => ?_⟩
    cases hk : Lib.keeps d m with
    | false => rw [hk] at hb; simp at hb
    | true =>
      rw [hk] at hb
      simp only [if_true, List.mem_singleton] at hb
      subst hb
      obtain ⟨j, hj, rfl⟩ := (upTo_mem d a m).1 ha
      unfold Lib.keeps at hk
      have hk := of_decide_eq_true hk
      have h1 := hs j (m - 1) (by omega) (by omega)
      have h2 := hs (m - 1) m (by omega) (by omega)
      rcases hk with h | h
      · omega
      · omega
theorem getBang (l : List Int) (j : Nat) (hj : j < l.length) : l.toArray[j]! = l[j] := by
  rw [getElem!_pos _ _ (by simpa using hj)]; simp
theorem uniq_mem {zs : List Int} {x : Int} : x ∈ uniq zs ↔ x ∈ zs := by
  unfold uniq Lib.compact
  rw [upTo_mem, ← List.mem_mergeSort (le := fun x y => decide (x ≤ y)) (l := zs) (a := x)]
  generalize zs.mergeSort (fun x y => decide (x ≤ y)) = l
  rw [List.mem_iff_getElem]
  constructor
  · rintro ⟨j, hj, e⟩; exact ⟨j, hj, by rw [← getBang _ _ hj]; exact e⟩
  · rintro ⟨j, hj, e⟩; exact ⟨j, hj, by rw [getBang _ _ hj]; exact e⟩
theorem uniq_asc (zs : List Int) : (uniq zs).Pairwise (· < ·) := by
  unfold uniq Lib.compact
  have hs : (zs.mergeSort (fun x y => decide (x ≤ y))).Pairwise (fun a b => decide (a ≤ b) = true) :=
    List.pairwise_mergeSort (le := fun x y : Int => decide (x ≤ y)) (fun a b c h1 h2 => by simp at *; omega) (fun a b => by simp; omega) zs
  generalize zs.mergeSort (fun x y => decide (x ≤ y)) = l at *
  refine upTo_asc _ l.length (fun i j hij hj => ?_) _ (Nat.le_refl _)
  rw [getBang _ _ (by omega), getBang _ _ hj]
  rcases Nat.lt_or_eq_of_le hij with h | rfl
  · have := List.pairwise_iff_getElem.1 hs i j (by omega) hj h
    simpa using this
  · exact Int.le_refl _
/-- Two ascending lists of the same members are one. -/
theorem asc_ext : ∀ {l l' : List Int}, l.Pairwise (· < ·) → l'.Pairwise (· < ·) → (∀ x, x ∈ l ↔ x ∈ l') → l = l'
  | [], [], _, _, _ => rfl
  | [], y :: l', _, _, h => by have := (h y).2 (by simp); cases this
  | x :: l, [], _, _, h => by have := (h x).1 (by simp); cases this
  | x :: l, y :: l', h1, h2, h => by
    obtain ⟨a1, b1⟩ := List.pairwise_cons.1 h1
    obtain ⟨a2, b2⟩ := List.pairwise_cons.1 h2
    have hxy : x = y := by
      rcases List.mem_cons.1 ((h x).1 (by simp)) with e | hm
      · exact e
      · rcases List.mem_cons.1 ((h y).2 (by simp)) with e | hm'
        · exact e.symm
        · have := a1 y hm'; have := a2 x hm; omega
    subst hxy
    congr 1
    refine asc_ext b1 b2 fun z => ?_
    constructor
    · intro hz
      rcases List.mem_cons.1 ((h z).1 (List.mem_cons_of_mem _ hz)) with rfl | h'
      · have := a1 z hz; omega
      · exact h'
    · intro hz
      rcases List.mem_cons.1 ((h z).2 (List.mem_cons_of_mem _ hz)) with rfl | h'
      · have := a2 z hz; omega
      · exact h'
theorem uniq_eq {zs l : List Int} (ha : l.Pairwise (· < ·)) (h : ∀ x, x ∈ l ↔ x ∈ zs) : uniq zs = l :=
  asc_ext (uniq_asc _) ha fun x => by rw [uniq_mem, h]
theorem uniq_length (zs : List Int) : (uniq zs).length ≤ zs.length := by
  unfold uniq
  have := Lib.compact_length_le (zs.mergeSort fun x y => decide (x ≤ y))
  simpa using this
def lineXs (b : Board) : List Int := uniq (0 :: b.length :: b.defects.flatMap fun d => [d.x1, d.x2])
structure DefsIn (b : Board) : Prop where
  len : 1 ≤ b.length
  wid : 1 ≤ b.width
  ins : ∀ d ∈ b.defects, 0 ≤ d.x1 ∧ d.x1 < d.x2 ∧ d.x2 ≤ b.length ∧ 0 ≤ d.y1 ∧ d.y1 < d.y2 ∧ d.y2 ≤ b.width
theorem lineXs_mem {b : Board} {z : Int} : z ∈ lineXs b ↔ z = 0 ∨ z = b.length ∨ ∃ d ∈ b.defects, z = d.x1 ∨ z = d.x2 := by
  unfold lineXs
  rw [uniq_mem]
  simp [List.mem_flatMap]
abbrev Iv := Int × Int
/-- The program's sweep over defects that ascend. -/
def sweep (L : Int) : List Rect → Int → List Iv
  | [], at_ => if at_ < L then [(at_, L)] else []
  | d :: r, at_ => (if at_ < d.x1 then [(at_, d.x1)] else []) ++ sweep L r (max at_ d.x2)
theorem asc_head {l : List Int} (hp : l.Pairwise (· < ·)) {z : Int} (hz : z ∈ l) (hm : ∀ v ∈ l, z ≤ v) : ∃ t, l = z :: t := by
  cases l with
  | nil => cases hz
  | cons a t =>
    rcases List.mem_cons.1 hz with e | h
    · exact ⟨t, by rw [e]⟩
    · have := (List.pairwise_cons.1 hp).1 z h; have := hm a (by simp); omega
theorem asc_last {l : List Int} (hp : l.Pairwise (· < ·)) {z : Int} (hz : z ∈ l) (hm : ∀ v ∈ l, v ≤ z) : l.getLast? = some z := by
  obtain ⟨A, B, rfl⟩ := List.append_of_mem hz
  cases B with
  | nil => simp
  | cons b B =>
    have h := (List.pairwise_cons.1 (List.pairwise_append.1 hp).2.1).1 b (by simp)
    have := hm b (by simp); omega
theorem lineXs_form {b : Board} (hb : DefsIn b) : ∃ t, lineXs b = 0 :: t ∧ (lineXs b).getLast? = some b.length := by
  have hbd : ∀ v ∈ lineXs b, 0 ≤ v ∧ v ≤ b.length := by
    intro v hv
    have := hb.len
    rcases lineXs_mem.1 hv with rfl | rfl | ⟨d, hd, h⟩
    · omega
    · omega
    · have := hb.ins d hd; omega
  obtain ⟨t, ht⟩ := asc_head (l := lineXs b) (uniq_asc _) (lineXs_mem.2 (.inl rfl)) fun v hv => (hbd v hv).1
  exact ⟨t, ht, asc_last (uniq_asc _) (lineXs_mem.2 (.inr (.inl rfl))) fun v hv => (hbd v hv).2⟩
def sumN (g : Int → Int) (a : Int) : Nat → Int
  | 0 => 0
  | n + 1 => sumN g a n + g (a + n)
def sumR (g : Int → Int) (a b : Int) : Int := sumN g a (b - a).toNat
theorem sumN_add (g : Int → Int) (a : Int) (m : Nat) : ∀ n, sumN g a (m + n) = sumN g a m + sumN g (a + m) n
  | 0 => by simp [sumN]
  | n + 1 => by
    rw [← Nat.add_assoc, sumN, sumN_add g a m n, sumN]
    have : a + ((m + n : Nat) : Int) = a + m + n := by omega
    rw [this]; omega
theorem sumR_split (g : Int → Int) {a b c : Int} (h1 : a ≤ b) (h2 : b ≤ c) : sumR g a c = sumR g a b + sumR g b c := by
  unfold sumR
  rw [show (c - a).toNat = (b - a).toNat + (c - b).toNat by omega, sumN_add]
  congr 2
  omega
theorem sumN_congr {g g' : Int → Int} {a : Int} : ∀ {n : Nat}, (∀ p, a ≤ p → p < a + n → g p = g' p) → sumN g a n = sumN g' a n
  | 0, _ => rfl
  | n + 1, h => by rw [sumN, sumN, sumN_congr fun p h1 h2 => h p h1 (by omega), h _ (by omega) (by omega)]
theorem sumR_congr {g g' : Int → Int} {a b : Int} (h : ∀ p, a ≤ p → p < b → g p = g' p) : sumR g a b = sumR g' a b := by
  unfold sumR
  exact sumN_congr fun p h1 h2 => h p h1 (by omega)
theorem sumN_const {c : Int} {a : Int} : ∀ n : Nat, sumN (fun _ => c) a n = n * c
  | 0 => by simp [sumN]
  | n + 1 => by rw [sumN, sumN_const n, Int.natCast_succ, Int.add_mul]; omega
theorem sumR_const {g : Int → Int} {a b c : Int} (hab : a ≤ b) (h : ∀ p, a ≤ p → p < b → g p = c) : sumR g a b = (b - a) * c := by
  rw [sumR_congr (g' := fun _ => c) h]
  unfold sumR
  rw [sumN_const]
  congr 1
  omega
theorem sumR_zero {g : Int → Int} {a b : Int} (hab : a ≤ b) (h : ∀ p, a ≤ p → p < b → g p = 0) : sumR g a b = 0 := by
  rw [sumR_const hab h, Int.mul_zero]
theorem sumR_self (g : Int → Int) (a : Int) : sumR g a a = 0 := by simp [sumR, sumN]
def indB (b : Bool) : Int := if b then 1 else 0
def rowCov (s : List Iv) (y : Int) : Bool := s.any fun v => decide (v.1 ≤ y ∧ y < v.2)
def cover (wd : Int) (s : List Iv) : Int := sumR (fun y => indB (rowCov s y)) 0 wd
theorem rowCov_true {s : List Iv} {y : Int} : rowCov s y = true ↔ ∃ v ∈ s, v.1 ≤ y ∧ y < v.2 := by simp [rowCov]
theorem rowCov_false {s : List Iv} {y : Int} : rowCov s y = false ↔ ∀ v ∈ s, ¬ (v.1 ≤ y ∧ y < v.2) := by
  simp only [rowCov, List.any_eq_false, decide_eq_true_eq]
theorem cover_congr {wd : Int} {s t : List Iv} (h : ∀ v, v ∈ s ↔ v ∈ t) : cover wd s = cover wd t := by
  unfold cover
  refine sumR_congr fun p _ _ => ?_
  congr 1
  rw [Bool.eq_iff_iff, rowCov_true, rowCov_true]
  simp only [h]
/-- The program's sweep of spans that ascend. -/
def spanStep (w : Int) (s : Int × Int) (v : Iv) : Int × Int := if max v.1 s.2 < v.2 then (s.1 + w * (v.2 - max v.1 s.2), v.2) else s
theorem spans_ok {w wd : Int} : ∀ {r : List Iv} {s e : Int}, r.Pairwise (fun a b => a.1 ≤ b.1) → (∀ v ∈ r, 0 ≤ v.1 ∧ v.1 < v.2 ∧ v.2 ≤ wd) → 0 ≤ e → e ≤ wd →
    (r.foldl (spanStep w) (s, e)).1 = s + w * sumR (fun y => indB (rowCov r y)) e wd
  | [], s, e, _, _, _, he => by
    rw [List.foldl_nil, sumR_zero he]
    · simp
    · intro p _ _; rfl
  | v :: r, s, e, hp, hr, h0, he => by
    obtain ⟨h1, h2⟩ := List.pairwise_cons.1 hp
    have hv := hr v (by simp)
    rw [List.foldl_cons]
    by_cases hc : max v.1 e < v.2
    · rw [show spanStep w (s, e) v = (s + w * (v.2 - max v.1 e), v.2) by unfold spanStep; rw [if_pos hc]]
      rw [spans_ok h2 (fun u hu => hr u (by simp [hu])) (by omega) hv.2.2]
      have e1 : sumR (fun y => indB (rowCov (v :: r) y)) e (max v.1 e) = 0 := by
        refine sumR_zero (by omega) fun p p1 p2 => ?_
        rw [show rowCov (v :: r) p = false from rowCov_false.2 fun u hu => by
          rcases List.mem_cons.1 hu with rfl | hu
          · omega
          · have := h1 u hu; omega]
        rfl
      have e2 : sumR (fun y => indB (rowCov (v :: r) y)) (max v.1 e) v.2 = (v.2 - max v.1 e) * 1 := by
        refine sumR_const (by omega) fun p p1 p2 => ?_
        rw [show rowCov (v :: r) p = true from rowCov_true.2 ⟨v, by simp, by omega, p2⟩]
        rfl
      have e3 : sumR (fun y => indB (rowCov (v :: r) y)) v.2 wd = sumR (fun y => indB (rowCov r y)) v.2 wd := by
        refine sumR_congr fun p p1 p2 => ?_
        congr 1
        rw [Bool.eq_iff_iff, rowCov_true, rowCov_true]
        constructor
        · rintro ⟨u, hu, h⟩
          rcases List.mem_cons.1 hu with rfl | hu
          · omega
          · exact ⟨u, hu, h⟩
        · rintro ⟨u, hu, h⟩; exact ⟨u, by simp [hu], h⟩
      rw [sumR_split _ (show e ≤ max v.1 e by omega) (show max v.1 e ≤ wd by omega), sumR_split _ (show max v.1 e ≤ v.2 by omega) hv.2.2, e1, e2, e3, Int.mul_one, Int.zero_add, Int.mul_add]
      omega
    · rw [show spanStep w (s, e) v = (s, e) by unfold spanStep; rw [if_neg hc]]
      rw [spans_ok h2 (fun u hu => hr u (by simp [hu])) h0 he]
      congr 2
      refine sumR_congr fun p p1 p2 => ?_
      congr 1
      rw [Bool.eq_iff_iff, rowCov_true, rowCov_true]
      constructor
      · rintro ⟨u, hu, h⟩; exact ⟨u, by simp [hu], h⟩
      · rintro ⟨u, hu, h⟩
        rcases List.mem_cons.1 hu with rfl | hu
        · omega
        · exact ⟨u, hu, h⟩
def overl (ds : List Rect) (x x' : Int) : List Iv := (ds.filter fun d => decide (d.x1 < x') && decide (x < d.x2)).map fun d => (d.y1, d.y2)
def stripA (ds : List Rect) (wd x x' : Int) : Int := (x' - x) * cover wd (overl ds x x')
def chain (f : Int → Int → Int) : List Int → Int
  | x :: x' :: xs => f x x' + chain f (x' :: xs)
  | _ => 0
def colD (ds : List Rect) (p : Int) : List Iv := (ds.filter fun d => decide (d.x1 ≤ p) && decide (p < d.x2)).map fun d => (d.y1, d.y2)
def colA (ds : List Rect) (wd p : Int) : Int := cover wd (colD ds p)
theorem mem_overl {ds : List Rect} {x x' : Int} {v : Iv} : v ∈ overl ds x x' ↔ ∃ d ∈ ds, (d.x1 < x' ∧ x < d.x2) ∧ (d.y1, d.y2) = v := by
  simp [overl, List.mem_map, List.mem_filter, and_assoc]
theorem mem_colD {ds : List Rect} {p : Int} {v : Iv} : v ∈ colD ds p ↔ ∃ d ∈ ds, (d.x1 ≤ p ∧ p < d.x2) ∧ (d.y1, d.y2) = v := by
  simp [colD, List.mem_map, List.mem_filter, and_assoc]
theorem strip_col {ds : List Rect} {wd x x' : Int} (hx : x ≤ x') (hno : ∀ d ∈ ds, ¬ (x < d.x1 ∧ d.x1 < x') ∧ ¬ (x < d.x2 ∧ d.x2 < x')) : stripA ds wd x x' = sumR (colA ds wd) x x' := by
  unfold stripA
  rw [sumR_const hx]
  intro p p1 p2
  refine cover_congr fun v => ?_
  rw [mem_overl, mem_colD]
  constructor
  · rintro ⟨d, hd, h, e⟩; have := hno d hd; exact ⟨d, hd, by omega, e⟩
  · rintro ⟨d, hd, h, e⟩; have := hno d hd; exact ⟨d, hd, by omega, e⟩
theorem chain_sum {ds : List Rect} {wd : Int} : ∀ {xs : List Int} {x L : Int}, (x :: xs).Pairwise (· < ·) → (∀ d ∈ ds, (d.x1 ≤ x ∨ d.x1 ∈ xs) ∧ (d.x2 ≤ x ∨ d.x2 ∈ xs)) → (x :: xs).getLast? = some L →
    chain (stripA ds wd) (x :: xs) = sumR (colA ds wd) x L ∧ x ≤ L
  | [], x, L, _, _, hL => by simp at hL; subst hL; exact ⟨(sumR_self _ _).symm, Int.le_refl _⟩
  | x' :: xs, x, L, hp, hm, hL => by
    obtain ⟨h1, h2⟩ := List.pairwise_cons.1 hp
    have hx := h1 x' (by simp)
    have h3 := (List.pairwise_cons.1 h2).1
    have hmem : ∀ z, (z ≤ x ∨ z ∈ x' :: xs) → (z ≤ x' ∨ z ∈ xs) ∧ ¬ (x < z ∧ z < x') := by
      rintro z (h | h)
      · exact ⟨.inl (by omega), by omega⟩
      · rcases List.mem_cons.1 h with rfl | h
        · exact ⟨.inl (Int.le_refl _), by omega⟩
        · have := h3 z h; exact ⟨.inr h, by omega⟩
    obtain ⟨i1, i2⟩ := chain_sum (wd := wd) h2 (fun d hd => ⟨(hmem _ (hm d hd).1).1, (hmem _ (hm d hd).2).1⟩) (by simpa using hL)
    rw [chain, i1, strip_col (by omega) (fun d hd => ⟨(hmem _ (hm d hd).1).2, (hmem _ (hm d hd).2).2⟩), ← sumR_split _ (show x ≤ x' by omega) i2]
    exact ⟨rfl, by omega⟩
theorem colA_none {ds : List Rect} {wd p : Int} (hw : 0 ≤ wd) (h : ∀ d ∈ ds, ¬ (d.x1 ≤ p ∧ p < d.x2)) : colA ds wd p = 0 := by
  refine sumR_zero hw fun y _ _ => ?_
  rw [show rowCov (colD ds p) y = false from rowCov_false.2 fun v hv => by
    obtain ⟨d, hd, hh, -⟩ := mem_colD.1 hv
    exact absurd hh (h d hd)]
  rfl
def refArea (b : Board) : Int := chain (stripA b.defects b.width) (lineXs b)
/-- An ascending list with a number more. -/
def sw (l : List Int) (n : Int) : List Int := if n ∈ l then l else l.filter (fun x => decide (x < n)) ++ n :: l.drop (l.filter fun x => decide (x < n)).length
theorem IntsV.at' {w : World} {a : Option Addr} {l : List Int} (h : IntsV w a l) {k : Nat} (hk : k < l.length) : ∃ b off, a = some ⟨b, off, none⟩ ∧ b < w.heap.size ∧ w.cell? ⟨b, off + k, none⟩ = some (.int .i64 l[k]) := by
  obtain ⟨b, off, ha, hc⟩ := h.at_ hk
  exact ⟨b, off, ha, by simpa using block_lt_of_cell hc, hc⟩
theorem IntsV.cell {w : World} {b o : Nat} {l : List Int} (h : IntsV w (some ⟨b, o, none⟩) l) {k : Nat} (hk : k < l.length) : w.cell? ⟨b, o + k, none⟩ = some (.int .i64 l[k]) := by
  obtain ⟨b', off, ha, hc⟩ := h.at_ hk
  injection ha with ha
  injection ha with hb ho
  subst hb ho
  exact hc
def Iv.at (w : World) (b o : Nat) (x : Iv) : Prop := w.cell? ⟨b, o, none⟩ = some (.int .i64 x.1) ∧ w.cell? ⟨b, o + 1, none⟩ = some (.int .i64 x.2)
def Ivs.V (w : World) (a : Option Addr) (l : List Iv) : Prop := RowV 2 Iv.at w a l
theorem Iv.at.keep {w w' : World} {b o : Nat} {x : Iv} (hb : Below w.heap.size w w') (h : Iv.at w b o x) : Iv.at w' b o x := ⟨cell_keep hb h.1, cell_keep hb h.2⟩
theorem Ivs.V.keep {w w' : World} {a : Option Addr} {l : List Iv} (h : Ivs.V w a l) (hb : Below w.heap.size w w') : Ivs.V w' a l := RowV.keep (fun _ _ _ h => Iv.at.keep hb h) h
theorem sumN_bd {g : Int → Int} (h : ∀ p, 0 ≤ g p ∧ g p ≤ 1) (a : Int) : ∀ n : Nat, 0 ≤ sumN g a n ∧ sumN g a n ≤ n
  | 0 => by simp [sumN]
  | n + 1 => by
    have := sumN_bd h a n
    have := h (a + n)
    simp only [sumN]; omega
theorem cover_bd {wd : Int} (hw : 0 ≤ wd) (s : List Iv) : 0 ≤ cover wd s ∧ cover wd s ≤ wd := by
  unfold cover sumR
  have := sumN_bd (g := fun y => indB (rowCov s y)) (fun p => by unfold indB; split <;> omega) 0 (wd - 0).toNat
  omega
theorem stripA_bd {ds : List Rect} {wd x x' : Int} (hx : 0 ≤ x) (hxx : x < x') (hx' : x' ≤ 600000) (hw : 0 ≤ wd) (hw' : wd ≤ 100000) : 0 ≤ stripA ds wd x x' ∧ stripA ds wd x x' ≤ 60000000000 := by
  unfold stripA
  obtain ⟨h1, h2⟩ := cover_bd hw (overl ds x x')
  have e1 : (x' - x) * cover wd (overl ds x x') ≤ 600000 * 100000 := Int.mul_le_mul (by omega) (by omega) h1 (by omega)
  exact ⟨Int.mul_nonneg (by omega) h1, by omega⟩
theorem chain_step {f : Int → Int → Int} {X : List Int} {k : Nat} {A s : Int} (hk : k + 1 < X.length) (h : A = s + chain f (X.drop k)) : A = (s + f X[k] X[k + 1]) + chain f (X.drop (k + 1)) := by
  rw [h, List.drop_eq_getElem_cons (by omega : k < X.length), List.drop_eq_getElem_cons hk, chain]; omega
theorem chain_end {f : Int → Int → Int} {X : List Int} {k : Nat} {A s : Int} (hk : X.length ≤ k + 1) (h : A = s + chain f (X.drop k)) : A = s := by
  rw [h]
  by_cases hk' : k < X.length
  · rw [List.drop_eq_getElem_cons hk', List.drop_of_length_le hk]; simp [chain]
  · rw [List.drop_of_length_le (by omega)]; simp [chain]
end Go.Proofs.YtjmgboipbhddlaaGreatDoor
/- The area of a rectangle that defects cover: the sweep of the program and the cells of the document count the same squares (plain). -/
set_option linter.unusedVariables false
set_option linter.unusedSimpArgs false
namespace Go.Proofs.YtjmgboipbhddlaaGreatDoor

/-! How many of the unit squares of a rectangle defects cover. -/
def covC (ds : List Rect) (x y : Int) : Bool := ds.any fun d => decide (d.x1 ≤ x) && decide (x < d.x2) && decide (d.y1 ≤ y) && decide (y < d.y2)
theorem covC_true {ds : List Rect} {x y : Int} : covC ds x y = true ↔ ∃ d ∈ ds, d.x1 ≤ x ∧ x < d.x2 ∧ d.y1 ≤ y ∧ y < d.y2 := by
  unfold covC
  simp [and_assoc]
def covA (ds : List Rect) (r : Rect) : Int := sumR (fun x => sumR (fun y => indB (covC ds x y)) r.y1 r.y2) r.x1 r.x2
theorem sumN_shift (g : Int → Int) (a c : Int) : ∀ n, sumN (fun p => g (p + c)) a n = sumN g (a + c) n
  | 0 => rfl
  | n + 1 => by rw [sumN, sumN, sumN_shift g a c n]; congr 2; omega
theorem sumR_shift (g : Int → Int) (a b c : Int) : sumR (fun p => g (p + c)) a b = sumR g (a + c) (b + c) := by
  unfold sumR
  rw [sumN_shift]
  congr 1
  omega
theorem refArea_sum {b : Board} (hb : DefsIn b) : refArea b = sumR (colA b.defects b.width) 0 b.length := by
  obtain ⟨t, ht, hl⟩ := lineXs_form hb
  have ha : (lineXs b).Pairwise (· < ·) := uniq_asc _
  have hmem : ∀ d ∈ b.defects, d.x1 ∈ lineXs b ∧ d.x2 ∈ lineXs b := fun d hd => ⟨lineXs_mem.2 (.inr (.inr ⟨d, hd, .inl rfl⟩)), lineXs_mem.2 (.inr (.inr ⟨d, hd, .inr rfl⟩))⟩
  unfold refArea
  rw [ht] at ha hl hmem ⊢
  refine (chain_sum ha (fun d hd => ?_) hl).1
  obtain ⟨m1, m2⟩ := hmem d hd
  constructor
  · rcases List.mem_cons.1 m1 with e | m
    · left; omega
    · right; exact m
  · rcases List.mem_cons.1 m2 with e | m
    · left; omega
    · right; exact m
/-! The program's parts of the defects in a rectangle. -/
theorem col_cov {ds : List Rect} {x y : Int} : rowCov (colD ds x) y = covC ds x y := by
  rw [Bool.eq_iff_iff, covC_true, rowCov_true]
  constructor
  · rintro ⟨v, hv, h⟩
    obtain ⟨d, hd, h1, rfl⟩ := mem_colD.1 hv
    exact ⟨d, hd, by simp only at h; omega⟩
  · rintro ⟨d, hd, h⟩
    exact ⟨(d.y1, d.y2), mem_colD.2 ⟨d, hd, by omega, rfl⟩, by simp only; omega⟩
/-! The document's part of a board. -/
def shiftR (r d : Rect) : Rect := ⟨max d.x1 r.x1 - r.x1, max d.y1 r.y1 - r.y1, min d.x2 r.x2 - r.x1, min d.y2 r.y2 - r.y1⟩
def partsR (ds : List Rect) (r : Rect) : List Rect := (ds.filter fun d => overlapsB d r).map (shiftR r)
theorem partsR_mem {ds : List Rect} {r q : Rect} : q ∈ partsR ds r ↔ ∃ d ∈ ds, overlapsB d r = true ∧ q = shiftR r d := by
  unfold partsR
  rw [List.mem_map]
  constructor
  · rintro ⟨d, hd, rfl⟩; obtain ⟨h1, h2⟩ := List.mem_filter.1 hd; exact ⟨d, h1, h2, rfl⟩
  · rintro ⟨d, h1, h2, rfl⟩; exact ⟨d, List.mem_filter.2 ⟨h1, h2⟩, rfl⟩
theorem partsR_in {ds : List Rect} {r : Rect} (hr : r.x1 < r.x2 ∧ r.y1 < r.y2) (hds : ∀ d ∈ ds, d.x1 < d.x2 ∧ d.y1 < d.y2) : ∀ q ∈ partsR ds r, 0 ≤ q.x1 ∧ q.x1 < q.x2 ∧ q.x2 ≤ r.x2 - r.x1 ∧ 0 ≤ q.y1 ∧ q.y1 < q.y2 ∧ q.y2 ≤ r.y2 - r.y1 := by
  intro q hq
  obtain ⟨d, hd, ho, rfl⟩ := partsR_mem.1 hq
  have h1 := hds d hd
  unfold overlapsB at ho
  simp only [Bool.and_eq_true, decide_eq_true_eq] at ho
  unfold shiftR
  simp only
  omega
/-- **What the document counts is the number of covered squares.** -/
theorem covR_is {ds : List Rect} {r : Rect} {b : Board} (hr : r.x1 < r.x2 ∧ r.y1 < r.y2) (hds : ∀ d ∈ ds, d.x1 < d.x2 ∧ d.y1 < d.y2) (hl : b.length = r.x2 - r.x1) (hw : b.width = r.y2 - r.y1) (hdef : b.defects = partsR ds r) : DefsIn b ∧ refArea b = covA ds r := by
  have hin := partsR_in hr hds
  have hb : DefsIn b := ⟨by omega, by omega, by rw [hdef, hl, hw]; exact hin⟩
  refine ⟨hb, ?_⟩
  rw [refArea_sum hb, hl, hw, hdef]
  unfold covA
  have e : sumR (colA (partsR ds r) (r.y2 - r.y1)) 0 (r.x2 - r.x1) = sumR (fun p => colA (partsR ds r) (r.y2 - r.y1) (p + -r.x1)) r.x1 r.x2 := by
    rw [sumR_shift (colA (partsR ds r) (r.y2 - r.y1))]
    congr 1 <;> omega
  rw [e]
  refine sumR_congr fun x x1 x2 => ?_
  unfold colA cover
  have e2 : sumR (fun y => indB (rowCov (colD (partsR ds r) (x + -r.x1)) y)) 0 (r.y2 - r.y1) = sumR (fun y => indB (rowCov (colD (partsR ds r) (x + -r.x1)) (y + -r.y1))) r.y1 r.y2 := by
    rw [sumR_shift fun y => indB (rowCov (colD (partsR ds r) (x + -r.x1)) y)]
    congr 1 <;> omega
  rw [e2]
  refine sumR_congr fun y y1 y2 => ?_
  congr 1
  rw [col_cov, Bool.eq_iff_iff, covC_true, covC_true]
  constructor
  · rintro ⟨q, hq, h⟩
    obtain ⟨d, hd, ho, rfl⟩ := partsR_mem.1 hq
    refine ⟨d, hd, ?_⟩
    unfold shiftR at h
    simp only at h
    omega
  · rintro ⟨d, hd, h⟩
    have h1 := hds d hd
    refine ⟨shiftR r d, partsR_mem.2 ⟨d, hd, ?_, rfl⟩, ?_⟩
    · unfold overlapsB
      simp only [Bool.and_eq_true, decide_eq_true_eq]
      omega
    · unfold shiftR
      simp only
      omega
end Go.Proofs.YtjmgboipbhddlaaGreatDoor
/- Offcuts of a plan, counted (plain): their areas are no more than the waste, their covered squares no more than those of the boards. -/
set_option linter.unusedVariables false
set_option linter.unusedSimpArgs false
namespace Go.Proofs.YtjmgboipbhddlaaGreatDoor
open Go Go.RowKit

theorem stock_in {j : Job} (h : jobE j = 0) {b : Board} (hm : b ∈ j.stock) : ∀ d ∈ b.defects, 0 ≤ d.x1 ∧ d.x1 < d.x2 ∧ d.x2 ≤ b.length ∧ 0 ≤ d.y1 ∧ d.y1 < d.y2 ∧ d.y2 ≤ b.width := (boardErr_ok ((jobE_parts h).boards b hm)).2.2.2
theorem sumN_nn {g : Int → Int} {a : Int} : ∀ {n : Nat}, (∀ p, a ≤ p → p < a + n → 0 ≤ g p) → 0 ≤ sumN g a n
  | 0, _ => Int.le_refl _
  | n + 1, h => by
    rw [sumN]
    have h1 := sumN_nn (g := g) (a := a) (n := n) fun p h1 h2 => h p h1 (by omega)
    have h2 := h (a + n) (by omega) (by omega)
    omega
theorem sumR_nn {g : Int → Int} {a b : Int} (h : ∀ p, a ≤ p → p < b → 0 ≤ g p) : 0 ≤ sumR g a b := by
  unfold sumR
  exact sumN_nn fun p h1 h2 => h p h1 (by omega)
theorem sumN_mono {g g' : Int → Int} {a : Int} : ∀ {n : Nat}, (∀ p, a ≤ p → p < a + n → g p ≤ g' p) → sumN g a n ≤ sumN g' a n
  | 0, _ => Int.le_refl _
  | n + 1, h => by
    rw [sumN, sumN]
    have h1 := sumN_mono (g := g) (g' := g') (a := a) (n := n) fun p h1 h2 => h p h1 (by omega)
    have h2 := h (a + n) (by omega) (by omega)
    omega
theorem sumR_mono {g g' : Int → Int} {a b : Int} (h : ∀ p, a ≤ p → p < b → g p ≤ g' p) : sumR g a b ≤ sumR g' a b := by
  unfold sumR
  exact sumN_mono fun p h1 h2 => h p h1 (by omega)
/-- Two ranges side by side, maybe with a gap, within a third one. -/
theorem sumR_two {g : Int → Int} {a b c d : Int} (hg : ∀ p, a ≤ p → p < d → 0 ≤ g p) (h1 : a ≤ b) (h2 : b ≤ c) (h3 : c ≤ d) : sumR g a b + sumR g c d ≤ sumR g a d := by
  rw [sumR_split g (show a ≤ b from h1) (show b ≤ d by omega), sumR_split g (show b ≤ c from h2) h3]
  have := sumR_nn (g := g) (a := b) (b := c) fun p h4 h5 => hg p (by omega) (by omega)
  omega
theorem sumR_void {g : Int → Int} {a b : Int} (h : b ≤ a) : sumR g a b = 0 := by
  unfold sumR
  rw [show (b - a).toNat = 0 by omega]
  rfl
theorem indB_nn (b : Bool) : 0 ≤ indB b := by cases b <;> decide
theorem covA_nn (ds : List Rect) (r : Rect) : 0 ≤ covA ds r := sumR_nn fun _ _ _ => sumR_nn fun _ _ _ => indB_nn _
theorem covA_zero (ds : List Rect) : covA ds zeroR = 0 := sumR_void (Int.le_refl _)
theorem covA_whole {ds : List Rect} {r : Rect} : covA ds (wholeR r) ≤ covA ds r := by
  unfold wholeR
  split
  · exact Int.le_trans (Int.le_of_eq (covA_zero ds)) (covA_nn _ _)
  · exact Int.le_refl _
theorem sumR_addI (f g : Int → Int) (a b : Int) : sumR (fun p => f p + g p) a b = sumR f a b + sumR g a b := by
  unfold sumR
  generalize (b - a).toNat = n
  induction n with
  | zero => rfl
  | succ n ih => rw [sumN, sumN, sumN, ih]; omega
theorem covA_cut {ds : List Rect} {q : Rect} {ac : Bool} {a kerf : Int} (hk : 0 ≤ kerf) (hq : q.x1 < q.x2 ∧ q.y1 < q.y2) (ha : 1 ≤ a ∧ a ≤ sizeR q ac - 1) : covA ds (lowR q ac a) + covA ds (highR q ac a kerf) ≤ covA ds q := by
  unfold sizeR at ha
  have h1 : covA ds (highR q ac a kerf) ≤ covA ds (if ac = true then ⟨q.x1 + a + kerf, q.y1, q.x2, q.y2⟩ else ⟨q.x1, q.y1 + a + kerf, q.x2, q.y2⟩) := covA_whole
  cases ac
  · simp only [Bool.false_eq_true, if_false] at h1 ha
    unfold lowR
    simp only [Bool.false_eq_true, if_false]
    refine Int.le_trans (Int.add_le_add_left h1 _) ?_
    unfold covA
    simp only
    rw [← sumR_addI]
    refine sumR_mono fun x _ _ => ?_
    by_cases hc : q.y1 + a + kerf ≤ q.y2
    · exact sumR_two (fun _ _ _ => indB_nn _) (by omega) (by omega) hc
    · rw [sumR_void (a := q.y1 + a + kerf) (by omega), Int.add_zero, sumR_split _ (show q.y1 ≤ q.y1 + a by omega) (show q.y1 + a ≤ q.y2 by omega)]
      have := sumR_nn (g := fun y => indB (covC ds x y)) (a := q.y1 + a) (b := q.y2) fun _ _ _ => indB_nn _
      omega
  · simp only [if_true] at h1 ha
    unfold lowR
    simp only [if_true]
    refine Int.le_trans (Int.add_le_add_left h1 _) ?_
    unfold covA
    simp only
    by_cases hc : q.x1 + a + kerf ≤ q.x2
    · exact sumR_two (fun _ _ _ => sumR_nn fun _ _ _ => indB_nn _) (by omega) (by omega) hc
    · rw [sumR_void (a := q.x1 + a + kerf) (by omega), Int.add_zero, sumR_split _ (show q.x1 ≤ q.x1 + a by omega) (show q.x1 + a ≤ q.x2 by omega)]
      have := sumR_nn (g := fun x => sumR (fun y => indB (covC ds x y)) q.y1 q.y2) (a := q.x1 + a) (b := q.x2) fun _ _ _ => sumR_nn fun _ _ _ => indB_nn _
      omega
/-- A rectangle within another one. -/
theorem covA_in {ds : List Rect} {q r : Rect} (h : r.x1 ≤ q.x1 ∧ q.x1 ≤ q.x2 ∧ q.x2 ≤ r.x2 ∧ r.y1 ≤ q.y1 ∧ q.y1 ≤ q.y2 ∧ q.y2 ≤ r.y2) : covA ds q ≤ covA ds r := by
  have hin : ∀ (g : Int → Int) (a b c d : Int), (∀ p, 0 ≤ g p) → c ≤ a → a ≤ b → b ≤ d → sumR g a b ≤ sumR g c d := fun g a b c d hg h1 h2 h3 => by
    rw [sumR_split g h1 (show a ≤ d by omega), sumR_split g h2 h3]
    have := sumR_nn (g := g) (a := c) (b := a) fun p _ _ => hg p
    have := sumR_nn (g := g) (a := b) (b := d) fun p _ _ => hg p
    omega
  unfold covA
  refine Int.le_trans (hin _ _ _ r.x1 r.x2 (fun _ => sumR_nn fun _ _ _ => indB_nn _) (by omega) (by omega) (by omega)) ?_
  exact sumR_mono fun x _ _ => hin _ _ _ _ _ (fun _ => indB_nn _) (by omega) (by omega) (by omega)
theorem refArea_cov {b : Board} (hb : DefsIn b) : refArea b = covA b.defects ⟨0, 0, b.length, b.width⟩ := by
  rw [refArea_sum hb]
  unfold covA
  refine sumR_congr fun x _ _ => ?_
  unfold colA cover
  exact sumR_congr fun y _ _ => by rw [col_cov]
theorem refArea_off {b : Board} {r : Rect} {nm : ByteArray} (hr : r.x1 < r.x2 ∧ r.y1 < r.y2) (hds : ∀ d ∈ b.defects, d.x1 < d.x2 ∧ d.y1 < d.y2) : DefsIn (offB b r nm) ∧ refArea (offB b r nm) = covA b.defects r := covR_is (b := offB b r nm) hr hds rfl rfl rfl

/-! What a list of boards holds. -/
def sumL (g : Board → Int) (l : List Board) : Int := (l.map g).sum
theorem sumL_snoc (g : Board → Int) (l : List Board) (x : Board) : sumL g (l ++ [x]) = sumL g l + g x := by unfold sumL; simp
def arB (b : Board) : Int := b.length * b.width
theorem offTo_waste {b : Board} {l : Layout} {R : List Rect} {n0 n1 : Int} {acc : List Board} {a : Ars} (hR : ∀ r ∈ R, okR r) (h : sumL arB acc ≤ a.waste) : ∀ k, sumL arB (offTo b l R n0 n1 acc k) ≤ (arTo l R a k).waste
  | 0 => h
  | k + 1 => by
    have ih := offTo_waste (b := b) (l := l) (n0 := n0) (n1 := n1) hR h k
    have hk := (areaK_bd (okR_rectF hR k)).1
    rw [offTo, arTo]
    unfold arStep
    split
    · rename_i ho
      obtain ⟨⟨h1, h2⟩, -⟩ := ho
      rw [if_neg (fun e => e h1), if_neg (by omega), sumL_snoc]
      show _ + arB (offB b (rectF R k) _) ≤ (arTo l R a k).waste + areaK (rectF R k)
      have : arB (offB b (rectF R k) (nmO ((offTo b l R n0 n1 acc k).length + 1))) = areaK (rectF R k) := rfl
      omega
    · split
      · exact ih
      · split
        · exact ih
        · show _ ≤ (arTo l R a k).waste + areaK (rectF R k)
          omega
theorem offPlan_waste {j : Job} (hE : jobE j = 0) {plan : List Layout} {n0 n1 : Int} (hok : PlanOk j plan) : ∀ k, k ≤ plan.length → sumL arB (offPlan j plan n0 n1 k) ≤ (arPlan j plan k).waste
  | 0, _ => Int.le_refl _
  | k + 1, h => by
    have ih := offPlan_waste hE (n0 := n0) (n1 := n1) hok k (by omega)
    have hk : k < plan.length := h
    have hl := hok _ (List.getElem_mem hk)
    obtain ⟨-, -, hR⟩ := lay_okR hE hl.1 hl.2
    rw [offPlan_step hk, arPlan_step hk]
    exact offTo_waste hR (by unfold arBegin; exact ih) _

/-- The covered squares of a board's offcuts are those of regions that are leaves. -/
theorem offTo_cov {b : Board} {l : Layout} {R : List Rect} {n0 n1 : Int} {acc : List Board} (hn : 1 ≤ n0 ∧ 1 ≤ n1) (hd : ∀ d ∈ b.defects, d.x1 < d.x2 ∧ d.y1 < d.y2) : ∀ k, sumL refArea (offTo b l R n0 n1 acc k) ≤ sumL refArea acc + sumTo k fun i => if (cutF l.cuts i).low = 0 then covA b.defects (rectF R i) else 0
  | 0 => by simp [offTo, sumTo]
  | k + 1 => by
    have ih := offTo_cov (l := l) (R := R) (acc := acc) hn hd k
    have hnn := covA_nn b.defects (rectF R k)
    rw [offTo, sumTo]
    split
    · rename_i ho
      obtain ⟨⟨h1, h2⟩, h3, h4⟩ := ho
      rw [if_pos h1, sumL_snoc, (refArea_off (nm := nmO ((offTo b l R n0 n1 acc k).length + 1)) (r := rectF R k) (by omega) hd).2]
      omega
    · split <;> omega
/-- **The offcuts of one board cover no more than the board does.** -/
theorem lay_cov {j : Job} (hE : jobE j = 0) {l : Layout} (hb : 0 ≤ l.board ∧ l.board < j.stock.length) (hl : (layOf j l).2 = 0) : sumTo l.cuts.length (fun i => if (cutF l.cuts i).low = 0 then covA (bdOfL j l).defects (rectF (layOf j l).1 i) else 0) ≤ refArea (bdOfL j l) := by
  have hlt : l.board.toNat < j.stock.length := by omega
  have hm : bdOfL j l ∈ j.stock := by unfold bdOfL; rw [List.getD_eq_getElem?_getD, List.getElem?_eq_getElem hlt]; exact List.getElem_mem hlt
  have hJ := jobOk_of hE
  obtain ⟨s1, s2⟩ := hJ.size _ hm
  have htr := hJ.trim
  have hreg : layOf j l = regM (usableR (bdOfL j l) j.trim) j.trim.kerf l.cuts := rfl
  obtain ⟨-, -, hall⟩ := lay_okR hE hb hl
  rw [hreg] at hl hall ⊢
  obtain ⟨h0, hnd⟩ := reg_struct hl
  refine Int.le_trans (reg_leaves_le hl (fun i => covA (bdOfL j l).defects (rectF (regM (usableR (bdOfL j l) j.trim) j.trim.kerf l.cuts).1 i)) fun i hi hc => ?_) ?_
  · have hN := hnd i hi hc
    rw [hN.low, hN.high]
    refine covA_cut htr.1.1 (size_real ?_ ⟨hN.at1, hN.at2⟩) ⟨hN.at1, hN.at2⟩
    rcases okR_rectF hall i with h | h
    · exact .inl h
    · unfold proper at h; exact .inr ⟨h.2.1, h.2.2.2.2.1⟩
  · rw [h0]
    have hdi : DefsIn (bdOfL j l) := by
      have h9 := stock_in hE hm
      exact ⟨s1.1, s2.1, h9⟩
    rw [refArea_cov hdi]
    unfold usableR
    refine Int.le_trans covA_whole ?_
    by_cases hc : j.trim.ends ≤ (bdOfL j l).length - j.trim.ends ∧ j.trim.sides ≤ (bdOfL j l).width - j.trim.sides
    · exact covA_in (by simp only; omega)
    · refine Int.le_trans (Int.le_of_eq ?_) (covA_nn _ _)
      unfold covA
      simp only
      by_cases h1 : j.trim.ends ≤ (bdOfL j l).length - j.trim.ends
      · exact (sumR_congr fun x _ _ => sumR_void (by omega)).trans (sumR_zero h1 fun _ _ _ => rfl)
      · exact sumR_void (by omega)
/-- How often a board is used. -/
def useN (plan : List Layout) (i : Nat) : Nat → Int
  | 0 => 0
  | k + 1 => useN plan i k + if (plan.getD k default).board = (i : Int) then 1 else 0
theorem use_sum {j : Job} {plan : List Layout} (f : Nat → Int) (n : Nat) : ∀ k, (∀ i, i < k → 0 ≤ (plan.getD i default).board ∧ (plan.getD i default).board < n) → sumTo k (fun i => f (plan.getD i default).board.toNat) = sumTo n fun i => f i * useN plan i k
  | 0, _ => by simp [sumTo, useN, sumTo_zero]
  | k + 1, h => by
    obtain ⟨h1, h2⟩ := h k (by omega)
    rw [sumTo, use_sum (j := j) f n k fun i hi => h i (by omega)]
    have e : ∀ i, f i * useN plan i (k + 1) = f i * useN plan i k + (if i = (plan.getD k default).board.toNat then f (plan.getD k default).board.toNat else 0) := fun i => by
      rw [useN, Int.mul_add]
      by_cases hi : i = (plan.getD k default).board.toNat
      · rw [if_pos hi, if_pos (by omega), hi]; omega
      · rw [if_neg hi, if_neg (by omega)]; omega
    rw [sumTo_congr (g := fun i => f i * useN plan i k + (if i = (plan.getD k default).board.toNat then f (plan.getD k default).board.toNat else 0)) fun i _ => e i, sumTo_add, sumTo_one, if_pos (by omega)]
theorem lay_nodup {j : Job} : ∀ {plan : List Layout} {used : List Int}, layGo j plan used = 0 → (plan.map Layout.board).Nodup ∧ ∀ l ∈ plan, l.board ∉ used
  | [], _, _ => ⟨List.nodup_nil, fun l hl => by simp at hl⟩
  | l :: r, used, h => by
    unfold layGo at h
    split at h
    · simp at h
    · split at h
      · simp at h
      · rename_i h2
        split at h
        · rename_i h3; exact absurd h h3
        · obtain ⟨i1, i2⟩ := lay_nodup h
          refine ⟨?_, fun l' hl' => ?_⟩
          · rw [List.map_cons, List.nodup_cons]
            refine ⟨fun hm => ?_, i1⟩
            obtain ⟨l', hl', e⟩ := List.mem_map.1 hm
            exact i2 l' hl' (by rw [e]; simp)
          · rcases List.mem_cons.1 hl' with rfl | hl'
            · exact h2
            · exact fun hu => i2 l' hl' (List.mem_append_left _ hu)
theorem use_le {plan : List Layout} (h : (plan.map Layout.board).Nodup) (i : Nat) : ∀ k, k ≤ plan.length → (useN plan i k = 0 ∧ ∀ m, m < k → (plan.getD m default).board ≠ (i : Int)) ∨ (useN plan i k = 1 ∧ ∃ m, m < k ∧ (plan.getD m default).board = (i : Int))
  | 0, _ => .inl ⟨rfl, fun m hm => absurd hm (Nat.not_lt_zero _)⟩
  | k + 1, hk => by
    have hk' : k < plan.length := hk
    have hg : ∀ m (hm : m < plan.length), plan.getD m default = plan[m] := fun m hm => by rw [List.getD_eq_getElem?_getD, List.getElem?_eq_getElem hm]; rfl
    rcases use_le h i k (by omega) with ⟨h1, h2⟩ | ⟨h1, m, hm, h2⟩
    · by_cases e : (plan.getD k default).board = (i : Int)
      · exact .inr ⟨by rw [useN, h1, if_pos e]; rfl, k, by omega, e⟩
      · refine .inl ⟨by rw [useN, h1, if_neg e]; rfl, fun m hm => ?_⟩
        by_cases e2 : m = k
        · subst e2; exact e
        · exact h2 m (by omega)
    · refine .inr ⟨?_, m, by omega, h2⟩
      rw [useN, h1, if_neg ?_]; rfl
      intro e
      rw [hg m (by omega)] at h2
      rw [hg k hk'] at e
      have hn := List.pairwise_iff_getElem.1 h m k (by simp; omega) (by simp; omega) hm
      simp only [List.getElem_map] at hn
      exact hn (h2.trans e.symm)
/-- **The offcuts of a plan cover no more than the stock does.** -/
theorem plan_cov {j : Job} {plan : List Layout} {n0 n1 : Int} (hE : jobE j = 0) (hlay : layGo j plan [] = 0) (hn : 1 ≤ n0 ∧ 1 ≤ n1) : sumL refArea (offAll j plan n0 n1) ≤ sumL refArea j.stock := by
  have hok := layGo_ok hlay
  have hg : ∀ m (hm : m < plan.length), plan.getD m default = plan[m] := fun m hm => by rw [List.getD_eq_getElem?_getD, List.getElem?_eq_getElem hm]; rfl
  have step : ∀ k, k ≤ plan.length → sumL refArea (offPlan j plan n0 n1 k) ≤ sumTo k fun i => refArea (bdOfL j (plan.getD i default)) := by
    intro k
    induction k with
    | zero => intro _; exact Int.le_refl _
    | succ k ih =>
      intro hk
      have hk' : k < plan.length := hk
      have ih := ih (by omega)
      have hl := hok _ (List.getElem_mem hk')
      have hlt : plan[k].board.toNat < j.stock.length := by omega
      have hm : bdOfL j plan[k] ∈ j.stock := by unfold bdOfL; rw [List.getD_eq_getElem?_getD, List.getElem?_eq_getElem hlt]; exact List.getElem_mem hlt
      have h1 := offTo_cov (b := bdOfL j plan[k]) (l := plan[k]) (R := (layOf j plan[k]).1) (acc := offPlan j plan n0 n1 k) hn (fun d hd => by have := stock_in hE hm d hd; omega) plan[k].cuts.length
      have h2 := lay_cov hE hl.1 hl.2
      rw [offPlan_step hk', sumTo, hg k hk']
      omega
  have h1 := step plan.length (Nat.le_refl _)
  have h2 := use_sum (j := j) (plan := plan) (fun i => refArea (j.stock.getD i default)) j.stock.length plan.length fun i hi => by rw [hg i hi]; exact (hok _ (List.getElem_mem hi)).1
  have h3 : sumTo j.stock.length (fun i => refArea (j.stock.getD i default) * useN plan i plan.length) ≤ sumTo j.stock.length fun i => refArea (j.stock.getD i default) := sumTo_le fun i hi => by
    have hm : j.stock.getD i default ∈ j.stock := by rw [List.getD_eq_getElem?_getD, List.getElem?_eq_getElem hi]; exact List.getElem_mem hi
    have hnn : 0 ≤ refArea (j.stock.getD i default) := by
      have hs := (jobOk_of hE).size _ hm
      rw [refArea_cov ⟨hs.1.1, hs.2.1, stock_in hE hm⟩]; exact covA_nn _ _
    rcases use_le (lay_nodup hlay).1 i plan.length (Nat.le_refl _) with ⟨e, -⟩ | ⟨e, -⟩ <;> rw [e] <;> omega
  have h4 : sumL refArea j.stock = sumTo j.stock.length fun i => refArea (j.stock.getD i default) := by
    have : ∀ k, k ≤ j.stock.length → sumL refArea (j.stock.take k) = sumTo k fun i => refArea (j.stock.getD i default) := by
      intro k
      induction k with
      | zero => intro _; rfl
      | succ k ih =>
        intro hk
        rw [List.take_succ_eq_append_getElem (show k < j.stock.length from hk), sumL_snoc, ih (by omega), sumTo, List.getD_eq_getElem?_getD, List.getElem?_eq_getElem (show k < j.stock.length from hk)]
        rfl
    have := this _ (Nat.le_refl _)
    rwa [List.take_length] at this
  unfold offAll
  have h5 : (fun i => refArea (bdOfL j (plan.getD i default))) = fun i => refArea (j.stock.getD (plan.getD i default).board.toNat default) := rfl
  rw [h5] at h1
  omega
end Go.Proofs.YtjmgboipbhddlaaGreatDoor
