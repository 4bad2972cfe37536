/- What is wanted of chapter 2 here: stocks, sound wood, the widest rectangle, the boards that fit (the timber seat's texts, picked by name). -/
import Derived.Test.YtpaindkfbgoogaaGreatQU
import Derived.Test.YtpaindkfbgoogaaGreatShelf
import Derived.LoopN
import Derived.Maps.Own
import Derived.Maps.OwnOps
import Derived.Maps.Views
import Derived.Deep.CutRange
import Derived.Deep.RegionHeld3
import Derived.OwnWalk
import Derived.Lib.OwnBridge
import Derived.Deep.AppendLies
import Derived.Deep.DeepCutAuto
import Derived.Lib.RowBridge
set_option linter.unusedVariables false
set_option linter.unusedSimpArgs false
namespace Go.Proofs.YtpaindkfbgoogaaGreat
open Go Go.RowKit Go.Maps Go.WideMaps
theorem IntsV.at_ {w : World} {a : Option Addr} {l : List Int} (h : IntsV w a l) {k : Nat} (hk : k < l.length) : ∃ b off, a = some ⟨b, off, none⟩ ∧ w.cell? ⟨b, off + k, none⟩ = some (.int .i64 l[k]) := by
  obtain ⟨b, off, ha, hx⟩ := h (by intro e; subst e; simp at hk)
  exact ⟨b, off, ha, hx k _ (List.getElem?_eq_getElem hk)⟩
theorem IntsV.keep {w w' : World} {a : Option Addr} {l : List Int} (h : IntsV w a l) (hb : Below w.heap.size w w') : IntsV w' a l :=
  fun hl => let ⟨b, off, ha, hx⟩ := h hl; ⟨b, off, ha, fun k x hk => cell_keep hb (hx k x hk)⟩
def uniq (zs : List Int) : List Int := Lib.compact (zs.mergeSort fun x y => decide (x ≤ y))
theorem upTo_mem (d : Array Int) (x : Int) : ∀ m, x ∈ Lib.compactUpTo d m ↔ ∃ j, j < m ∧ d[j]! = x
  | 0 => by simp [Lib.compactUpTo]
  | m + 1 => by
    rw [Lib.compactUpTo_succ, List.mem_append, upTo_mem d x m]
    cases hk : Lib.keeps d m with
    | true =>
      simp only [if_true, List.mem_singleton]
      constructor
      · rintro (⟨j, hj, e⟩ | e)
        · exact ⟨j, by omega, e⟩
        · exact ⟨m, by omega, e.symm⟩
      · rintro ⟨j, hj, e⟩
        rcases Nat.lt_succ_iff_lt_or_eq.1 hj with h | rfl
        · exact .inl ⟨j, h, e⟩
        · exact .inr e.symm
    | false =>
      have hk' : m ≠ 0 ∧ d[m]! = d[m - 1]! := by
        unfold Lib.keeps at hk
        rw [decide_eq_false_iff_not] at hk
        exact ⟨fun h => hk (.inl h), Classical.not_not.1 fun h => hk (.inr h)⟩
      simp only [Bool.false_eq_true, if_false, List.not_mem_nil, or_false]
      constructor
      · rintro ⟨j, hj, e⟩; exact ⟨j, by omega, e⟩
      · rintro ⟨j, hj, e⟩
        rcases Nat.lt_succ_iff_lt_or_eq.1 hj with h | rfl
        · exact ⟨j, h, e⟩
        · exact ⟨j - 1, by omega, by rw [← hk'.2]; exact e⟩
theorem upTo_asc (d : Array Int) (n : Nat) (hs : ∀ i j, i ≤ j → j < n → d[i]! ≤ d[j]!) : ∀ m, m ≤ n → (Lib.compactUpTo d m).Pairwise (· < ·)
  | 0, _ => by simp [Lib.compactUpTo]
  | m + 1, hm => by
    rw [Lib.compactUpTo_succ, List.pairwise_append]
    refine ⟨upTo_asc d n hs m (by omega), by split <;> simp, fun a ha b hb => ?_⟩
    cases hk : Lib.keeps d m with
    | false => rw [hk] at hb; simp at hb
    | true =>
      rw [hk] at hb
      simp only [if_true, List.mem_singleton] at hb
      subst hb
      obtain ⟨j, hj, rfl⟩ := (upTo_mem d a m).1 ha
      unfold Lib.keeps at hk
      have hk := of_decide_eq_true hk
      have h1 := hs j (m - 1) (by omega) (by omega)
      have h2 := hs (m - 1) m (by omega) (by omega)
      rcases hk with h | h
      · omega
      · omega
theorem getBang (l : List Int) (j : Nat) (hj : j < l.length) : l.toArray[j]! = l[j] := by
  rw [getElem!_pos _ _ (by simpa using hj)]; simp
theorem uniq_mem {zs : List Int} {x : Int} : x ∈ uniq zs ↔ x ∈ zs := by
  unfold uniq Lib.compact
  rw [upTo_mem, ← List.mem_mergeSort (le := fun x y => decide (x ≤ y)) (l := zs) (a := x)]
  generalize zs.mergeSort (fun x y => decide (x ≤ y)) = l
  rw [List.mem_iff_getElem]
  constructor
  · rintro ⟨j, hj, e⟩; exact ⟨j, hj, by rw [← getBang _ _ hj]; exact e⟩
  · rintro ⟨j, hj, e⟩; exact ⟨j, hj, by rw [getBang _ _ hj]; exact e⟩
theorem uniq_asc (zs : List Int) : (uniq zs).Pairwise (· < ·) := by
  unfold uniq Lib.compact
  have hs : (zs.mergeSort (fun x y => decide (x ≤ y))).Pairwise (fun a b => decide (a ≤ b) = true) :=
    List.pairwise_mergeSort (le := fun x y : Int => decide (x ≤ y)) (fun a b c h1 h2 => by simp at *; omega) (fun a b => by simp; omega) zs
  generalize zs.mergeSort (fun x y => decide (x ≤ y)) = l at *
  refine upTo_asc _ l.length (fun i j hij hj => ?_) _ (Nat.le_refl _)
  rw [getBang _ _ (by omega), getBang _ _ hj]
  rcases Nat.lt_or_eq_of_le hij with h | rfl
  · have := List.pairwise_iff_getElem.1 hs i j (by omega) hj h
    simpa using this
  · exact Int.le_refl _
/-- Two ascending lists of the same members are one. -/
theorem asc_ext : ∀ {l l' : List Int}, l.Pairwise (· < ·) → l'.Pairwise (· < ·) → (∀ x, x ∈ l ↔ x ∈ l') → l = l'
  | [], [], _, _, _ => rfl
  | [], y :: l', _, _, h => by have := (h y).2 (by simp); cases this
  | x :: l, [], _, _, h => by have := (h x).1 (by simp); cases this
  | x :: l, y :: l', h1, h2, h => by
    obtain ⟨a1, b1⟩ := List.pairwise_cons.1 h1
    obtain ⟨a2, b2⟩ := List.pairwise_cons.1 h2
    have hxy : x = y := by
      rcases List.mem_cons.1 ((h x).1 (by simp)) with e | hm
      · exact e
      · rcases List.mem_cons.1 ((h y).2 (by simp)) with e | hm'
        · exact e.symm
        · have := a1 y hm'; have := a2 x hm; omega
    subst hxy
    congr 1
    refine asc_ext b1 b2 fun z => ?_
    constructor
    · intro hz
      rcases List.mem_cons.1 ((h z).1 (List.mem_cons_of_mem _ hz)) with rfl | h'
      · have := a1 z hz; omega
      · exact h'
    · intro hz
      rcases List.mem_cons.1 ((h z).2 (List.mem_cons_of_mem _ hz)) with rfl | h'
      · have := a2 z hz; omega
      · exact h'
theorem uniq_congr {zs ys : List Int} (h : ∀ x, x ∈ zs ↔ x ∈ ys) : uniq zs = uniq ys :=
  asc_ext (uniq_asc _) (uniq_asc _) fun x => by rw [uniq_mem, uniq_mem, h]
theorem uniq_eq {zs l : List Int} (ha : l.Pairwise (· < ·)) (h : ∀ x, x ∈ l ↔ x ∈ zs) : uniq zs = l :=
  asc_ext (uniq_asc _) ha fun x => by rw [uniq_mem, h]
theorem uniq_length (zs : List Int) : (uniq zs).length ≤ zs.length := by
  unfold uniq
  have := Lib.compact_length_le (zs.mergeSort fun x y => decide (x ≤ y))
  simpa using this
theorem news_one {w : World} {g : Nat} {x : Value} (h : w.cell? ⟨g, 0, none⟩ = some x) : ∀ j u, [x][j]? = some u → w.cell? ((⟨g, 0, none⟩ : Addr).add j) = some u := by
  intro j u hu
  match j, hu with
  | 0, hu => simp at hu; subst hu; exact h
  | j + 1, hu => simp at hu
def lineXs (b : Board) : List Int := uniq (0 :: b.length :: b.defects.flatMap fun d => [d.x1, d.x2])
def lineYs (b : Board) : List Int := uniq (0 :: b.width :: b.defects.flatMap fun d => [d.y1, d.y2])
structure DefsIn (b : Board) : Prop where
  len : 1 ≤ b.length
  wid : 1 ≤ b.width
  ins : ∀ d ∈ b.defects, 0 ≤ d.x1 ∧ d.x1 < d.x2 ∧ d.x2 ≤ b.length ∧ 0 ≤ d.y1 ∧ d.y1 < d.y2 ∧ d.y2 ≤ b.width
theorem lineXs_mem {b : Board} {z : Int} : z ∈ lineXs b ↔ z = 0 ∨ z = b.length ∨ ∃ d ∈ b.defects, z = d.x1 ∨ z = d.x2 := by
  unfold lineXs
  rw [uniq_mem]
  simp [List.mem_flatMap]
theorem lineYs_mem {b : Board} {z : Int} : z ∈ lineYs b ↔ z = 0 ∨ z = b.width ∨ ∃ d ∈ b.defects, z = d.y1 ∨ z = d.y2 := by
  unfold lineYs
  rw [uniq_mem]
  simp [List.mem_flatMap]
abbrev Iv := Int × Int
/-- The program's sweep over defects that ascend. -/
def sweep (L : Int) : List Rect → Int → List Iv
  | [], at_ => if at_ < L then [(at_, L)] else []
  | d :: r, at_ => (if at_ < d.x1 then [(at_, d.x1)] else []) ++ sweep L r (max at_ d.x2)
theorem asc_head {l : List Int} (hp : l.Pairwise (· < ·)) {z : Int} (hz : z ∈ l) (hm : ∀ v ∈ l, z ≤ v) : ∃ t, l = z :: t := by
  cases l with
  | nil => cases hz
  | cons a t =>
    rcases List.mem_cons.1 hz with e | h
    · exact ⟨t, by rw [e]⟩
    · have := (List.pairwise_cons.1 hp).1 z h; have := hm a (by simp); omega
theorem asc_last {l : List Int} (hp : l.Pairwise (· < ·)) {z : Int} (hz : z ∈ l) (hm : ∀ v ∈ l, v ≤ z) : l.getLast? = some z := by
  obtain ⟨A, B, rfl⟩ := List.append_of_mem hz
  cases B with
  | nil => simp
  | cons b B =>
    have h := (List.pairwise_cons.1 (List.pairwise_append.1 hp).2.1).1 b (by simp)
    have := hm b (by simp); omega
theorem lineXs_form {b : Board} (hb : DefsIn b) : ∃ t, lineXs b = 0 :: t ∧ (lineXs b).getLast? = some b.length := by
  have hbd : ∀ v ∈ lineXs b, 0 ≤ v ∧ v ≤ b.length := by
    intro v hv
    have := hb.len
    rcases lineXs_mem.1 hv with rfl | rfl | ⟨d, hd, h⟩
    · omega
    · omega
    · have := hb.ins d hd; omega
  obtain ⟨t, ht⟩ := asc_head (l := lineXs b) (uniq_asc _) (lineXs_mem.2 (.inl rfl)) fun v hv => (hbd v hv).1
  exact ⟨t, ht, asc_last (uniq_asc _) (lineXs_mem.2 (.inr (.inl rfl))) fun v hv => (hbd v hv).2⟩
def sumN (g : Int → Int) (a : Int) : Nat → Int
  | 0 => 0
  | n + 1 => sumN g a n + g (a + n)
def sumR (g : Int → Int) (a b : Int) : Int := sumN g a (b - a).toNat
theorem sumN_add (g : Int → Int) (a : Int) (m : Nat) : ∀ n, sumN g a (m + n) = sumN g a m + sumN g (a + m) n
  | 0 => by simp [sumN]
  | n + 1 => by
    rw [← Nat.add_assoc, sumN, sumN_add g a m n, sumN]
    have : a + ((m + n : Nat) : Int) = a + m + n := by omega
    rw [this]; omega
theorem sumR_split (g : Int → Int) {a b c : Int} (h1 : a ≤ b) (h2 : b ≤ c) : sumR g a c = sumR g a b + sumR g b c := by
  unfold sumR
  rw [show (c - a).toNat = (b - a).toNat + (c - b).toNat by omega, sumN_add]
  congr 2
  omega
theorem sumN_congr {g g' : Int → Int} {a : Int} : ∀ {n : Nat}, (∀ p, a ≤ p → p < a + n → g p = g' p) → sumN g a n = sumN g' a n
  | 0, _ => rfl
  | n + 1, h => by rw [sumN, sumN, sumN_congr fun p h1 h2 => h p h1 (by omega), h _ (by omega) (by omega)]
theorem sumR_congr {g g' : Int → Int} {a b : Int} (h : ∀ p, a ≤ p → p < b → g p = g' p) : sumR g a b = sumR g' a b := by
  unfold sumR
  exact sumN_congr fun p h1 h2 => h p h1 (by omega)
theorem sumN_const {c : Int} {a : Int} : ∀ n : Nat, sumN (fun _ => c) a n = n * c
  | 0 => by simp [sumN]
  | n + 1 => by rw [sumN, sumN_const n, Int.natCast_succ, Int.add_mul]; omega
theorem sumR_const {g : Int → Int} {a b c : Int} (hab : a ≤ b) (h : ∀ p, a ≤ p → p < b → g p = c) : sumR g a b = (b - a) * c := by
  rw [sumR_congr (g' := fun _ => c) h]
  unfold sumR
  rw [sumN_const]
  congr 1
  omega
theorem sumR_zero {g : Int → Int} {a b : Int} (hab : a ≤ b) (h : ∀ p, a ≤ p → p < b → g p = 0) : sumR g a b = 0 := by
  rw [sumR_const hab h, Int.mul_zero]
theorem sumR_self (g : Int → Int) (a : Int) : sumR g a a = 0 := by simp [sumR, sumN]
def indB (b : Bool) : Int := if b then 1 else 0
def rowCov (s : List Iv) (y : Int) : Bool := s.any fun v => decide (v.1 ≤ y ∧ y < v.2)
def cover (wd : Int) (s : List Iv) : Int := sumR (fun y => indB (rowCov s y)) 0 wd
theorem rowCov_true {s : List Iv} {y : Int} : rowCov s y = true ↔ ∃ v ∈ s, v.1 ≤ y ∧ y < v.2 := by simp [rowCov]
theorem rowCov_false {s : List Iv} {y : Int} : rowCov s y = false ↔ ∀ v ∈ s, ¬ (v.1 ≤ y ∧ y < v.2) := by
  simp only [rowCov, List.any_eq_false, decide_eq_true_eq]
theorem cover_congr {wd : Int} {s t : List Iv} (h : ∀ v, v ∈ s ↔ v ∈ t) : cover wd s = cover wd t := by
  unfold cover
  refine sumR_congr fun p _ _ => ?_
  congr 1
  rw [Bool.eq_iff_iff, rowCov_true, rowCov_true]
  simp only [h]
/-- The program's sweep of spans that ascend. -/
def spanStep (w : Int) (s : Int × Int) (v : Iv) : Int × Int := if max v.1 s.2 < v.2 then (s.1 + w * (v.2 - max v.1 s.2), v.2) else s
theorem spans_ok {w wd : Int} : ∀ {r : List Iv} {s e : Int}, r.Pairwise (fun a b => a.1 ≤ b.1) → (∀ v ∈ r, 0 ≤ v.1 ∧ v.1 < v.2 ∧ v.2 ≤ wd) → 0 ≤ e → e ≤ wd →
    (r.foldl (spanStep w) (s, e)).1 = s + w * sumR (fun y => indB (rowCov r y)) e wd
  | [], s, e, _, _, _, he => by
    rw [List.foldl_nil, sumR_zero he]
    · simp
    · intro p _ _; rfl
  | v :: r, s, e, hp, hr, h0, he => by
    obtain ⟨h1, h2⟩ := List.pairwise_cons.1 hp
    have hv := hr v (by simp)
    rw [List.foldl_cons]
    by_cases hc : max v.1 e < v.2
    · rw [show spanStep w (s, e) v = (s + w * (v.2 - max v.1 e), v.2) by unfold spanStep; rw [if_pos hc]]
      rw [spans_ok h2 (fun u hu => hr u (by simp [hu])) (by omega) hv.2.2]
      have e1 : sumR (fun y => indB (rowCov (v :: r) y)) e (max v.1 e) = 0 := by
        refine sumR_zero (by omega) fun p p1 p2 => ?_
        rw [show rowCov (v :: r) p = false from rowCov_false.2 fun u hu => by
          rcases List.mem_cons.1 hu with rfl | hu
          · omega
          · have := h1 u hu; omega]
        rfl
      have e2 : sumR (fun y => indB (rowCov (v :: r) y)) (max v.1 e) v.2 = (v.2 - max v.1 e) * 1 := by
        refine sumR_const (by omega) fun p p1 p2 => ?_
        rw [show rowCov (v :: r) p = true from rowCov_true.2 ⟨v, by simp, by omega, p2⟩]
        rfl
      have e3 : sumR (fun y => indB (rowCov (v :: r) y)) v.2 wd = sumR (fun y => indB (rowCov r y)) v.2 wd := by
        refine sumR_congr fun p p1 p2 => ?_
        congr 1
        rw [Bool.eq_iff_iff, rowCov_true, rowCov_true]
        constructor
        · rintro ⟨u, hu, h⟩
          rcases List.mem_cons.1 hu with rfl | hu
          · omega
          · exact ⟨u, hu, h⟩
        · rintro ⟨u, hu, h⟩; exact ⟨u, by simp [hu], h⟩
      rw [sumR_split _ (show e ≤ max v.1 e by omega) (show max v.1 e ≤ wd by omega), sumR_split _ (show max v.1 e ≤ v.2 by omega) hv.2.2, e1, e2, e3, Int.mul_one, Int.zero_add, Int.mul_add]
      omega
    · rw [show spanStep w (s, e) v = (s, e) by unfold spanStep; rw [if_neg hc]]
      rw [spans_ok h2 (fun u hu => hr u (by simp [hu])) h0 he]
      congr 2
      refine sumR_congr fun p p1 p2 => ?_
      congr 1
      rw [Bool.eq_iff_iff, rowCov_true, rowCov_true]
      constructor
      · rintro ⟨u, hu, h⟩; exact ⟨u, by simp [hu], h⟩
      · rintro ⟨u, hu, h⟩
        rcases List.mem_cons.1 hu with rfl | hu
        · omega
        · exact ⟨u, hu, h⟩
def overl (ds : List Rect) (x x' : Int) : List Iv := (ds.filter fun d => decide (d.x1 < x') && decide (x < d.x2)).map fun d => (d.y1, d.y2)
def stripA (ds : List Rect) (wd x x' : Int) : Int := (x' - x) * cover wd (overl ds x x')
def chain (f : Int → Int → Int) : List Int → Int
  | x :: x' :: xs => f x x' + chain f (x' :: xs)
  | _ => 0
def colD (ds : List Rect) (p : Int) : List Iv := (ds.filter fun d => decide (d.x1 ≤ p) && decide (p < d.x2)).map fun d => (d.y1, d.y2)
def colA (ds : List Rect) (wd p : Int) : Int := cover wd (colD ds p)
theorem mem_overl {ds : List Rect} {x x' : Int} {v : Iv} : v ∈ overl ds x x' ↔ ∃ d ∈ ds, (d.x1 < x' ∧ x < d.x2) ∧ (d.y1, d.y2) = v := by
  simp [overl, List.mem_map, List.mem_filter, and_assoc]
theorem mem_colD {ds : List Rect} {p : Int} {v : Iv} : v ∈ colD ds p ↔ ∃ d ∈ ds, (d.x1 ≤ p ∧ p < d.x2) ∧ (d.y1, d.y2) = v := by
  simp [colD, List.mem_map, List.mem_filter, and_assoc]
theorem strip_col {ds : List Rect} {wd x x' : Int} (hx : x ≤ x') (hno : ∀ d ∈ ds, ¬ (x < d.x1 ∧ d.x1 < x') ∧ ¬ (x < d.x2 ∧ d.x2 < x')) : stripA ds wd x x' = sumR (colA ds wd) x x' := by
  unfold stripA
  rw [sumR_const hx]
  intro p p1 p2
  refine cover_congr fun v => ?_
  rw [mem_overl, mem_colD]
  constructor
  · rintro ⟨d, hd, h, e⟩; have := hno d hd; exact ⟨d, hd, by omega, e⟩
  · rintro ⟨d, hd, h, e⟩; have := hno d hd; exact ⟨d, hd, by omega, e⟩
theorem chain_sum {ds : List Rect} {wd : Int} : ∀ {xs : List Int} {x L : Int}, (x :: xs).Pairwise (· < ·) → (∀ d ∈ ds, (d.x1 ≤ x ∨ d.x1 ∈ xs) ∧ (d.x2 ≤ x ∨ d.x2 ∈ xs)) → (x :: xs).getLast? = some L →
    chain (stripA ds wd) (x :: xs) = sumR (colA ds wd) x L ∧ x ≤ L
  | [], x, L, _, _, hL => by simp at hL; subst hL; exact ⟨(sumR_self _ _).symm, Int.le_refl _⟩
  | x' :: xs, x, L, hp, hm, hL => by
    obtain ⟨h1, h2⟩ := List.pairwise_cons.1 hp
    have hx := h1 x' (by simp)
    have h3 := (List.pairwise_cons.1 h2).1
    have hmem : ∀ z, (z ≤ x ∨ z ∈ x' :: xs) → (z ≤ x' ∨ z ∈ xs) ∧ ¬ (x < z ∧ z < x') := by
      rintro z (h | h)
      · exact ⟨.inl (by omega), by omega⟩
      · rcases List.mem_cons.1 h with rfl | h
        · exact ⟨.inl (Int.le_refl _), by omega⟩
        · have := h3 z h; exact ⟨.inr h, by omega⟩
    obtain ⟨i1, i2⟩ := chain_sum (wd := wd) h2 (fun d hd => ⟨(hmem _ (hm d hd).1).1, (hmem _ (hm d hd).2).1⟩) (by simpa using hL)
    rw [chain, i1, strip_col (by omega) (fun d hd => ⟨(hmem _ (hm d hd).1).2, (hmem _ (hm d hd).2).2⟩), ← sumR_split _ (show x ≤ x' by omega) i2]
    exact ⟨rfl, by omega⟩
theorem colA_none {ds : List Rect} {wd p : Int} (hw : 0 ≤ wd) (h : ∀ d ∈ ds, ¬ (d.x1 ≤ p ∧ p < d.x2)) : colA ds wd p = 0 := by
  refine sumR_zero hw fun y _ _ => ?_
  rw [show rowCov (colD ds p) y = false from rowCov_false.2 fun v hv => by
    obtain ⟨d, hd, hh, -⟩ := mem_colD.1 hv
    exact absurd hh (h d hd)]
  rfl
def refArea (b : Board) : Int := chain (stripA b.defects b.width) (lineXs b)
/-- The reference's cells of a strip. -/
def cellA (ds : List Rect) (x x' : Int) (y y' : Int) : Int := if soundB ds ⟨x, y, x', y'⟩ = true then 0 else (x' - x) * (y' - y)
theorem chain_cells {ds : List Rect} {x x' : Int} : ∀ {ys : List Int} {y L : Int}, (y :: ys).Pairwise (· < ·) → (∀ d ∈ ds, (d.y1 ≤ y ∨ d.y1 ∈ ys) ∧ (d.y2 ≤ y ∨ d.y2 ∈ ys)) → (y :: ys).getLast? = some L →
    chain (cellA ds x x') (y :: ys) = (x' - x) * sumR (fun p => indB (rowCov (overl ds x x') p)) y L ∧ y ≤ L
  | [], y, L, _, _, hL => by simp at hL; subst hL; rw [sumR_self]; exact ⟨by simp [chain], Int.le_refl _⟩
  | y' :: ys, y, L, hp, hm, hL => by
    obtain ⟨h1, h2⟩ := List.pairwise_cons.1 hp
    have hx := h1 y' (by simp)
    have h3 := (List.pairwise_cons.1 h2).1
    have hmem : ∀ z, (z ≤ y ∨ z ∈ y' :: ys) → (z ≤ y' ∨ z ∈ ys) ∧ ¬ (y < z ∧ z < y') := by
      rintro z (h | h)
      · exact ⟨.inl (by omega), by omega⟩
      · rcases List.mem_cons.1 h with rfl | h
        · exact ⟨.inl (Int.le_refl _), by omega⟩
        · have := h3 z h; exact ⟨.inr h, by omega⟩
    obtain ⟨i1, i2⟩ := chain_cells (x := x) (x' := x') h2 (fun d hd => ⟨(hmem _ (hm d hd).1).1, (hmem _ (hm d hd).2).1⟩) (by simpa using hL)
    have hc : cellA ds x x' y y' = (x' - x) * sumR (fun p => indB (rowCov (overl ds x x') p)) y y' := by
      unfold cellA soundB overlapsB
      cases hs : ds.any fun d => decide (d.x1 < x') && decide (x < d.x2) && decide (d.y1 < y') && decide (y < d.y2)
      · rw [if_pos (by rfl), sumR_zero (by omega), Int.mul_zero]
        intro p p1 p2
        rw [show rowCov (overl ds x x') p = false from rowCov_false.2 fun v hv => by
          obtain ⟨d, hd, hh, rfl⟩ := mem_overl.1 hv
          have h5 := List.any_eq_false.1 hs d hd
          simp only [Bool.and_eq_true, decide_eq_true_eq] at h5
          simp only
          omega]
        rfl
      · rw [if_neg (by simp)]
        obtain ⟨d, hd, h5⟩ := List.any_eq_true.1 hs
        simp only [Bool.and_eq_true, decide_eq_true_eq] at h5
        have m1 := (hmem _ (hm d hd).1).2
        have m2 := (hmem _ (hm d hd).2).2
        rw [sumR_const (c := 1) (by omega), Int.mul_one]
        intro p p1 p2
        rw [show rowCov (overl ds x x') p = true from rowCov_true.2 ⟨(d.y1, d.y2), mem_overl.2 ⟨d, hd, by omega, rfl⟩, by simp only; omega, by simp only; omega⟩]
        rfl
    rw [chain, i1, hc, ← Int.mul_add, ← sumR_split _ (show y ≤ y' by omega) i2]
    exact ⟨rfl, by omega⟩
theorem lineYs_form {b : Board} (hb : DefsIn b) : ∃ t, lineYs b = 0 :: t ∧ (lineYs b).getLast? = some b.width := by
  have hbd : ∀ v ∈ lineYs b, 0 ≤ v ∧ v ≤ b.width := by
    intro v hv
    have := hb.wid
    rcases lineYs_mem.1 hv with rfl | rfl | ⟨d, hd, h⟩
    · omega
    · omega
    · have := hb.ins d hd; omega
  obtain ⟨t, ht⟩ := asc_head (l := lineYs b) (uniq_asc _) (lineYs_mem.2 (.inl rfl)) fun v hv => (hbd v hv).1
  exact ⟨t, ht, asc_last (uniq_asc _) (lineYs_mem.2 (.inr (.inl rfl))) fun v hv => (hbd v hv).2⟩
theorem cells_strip {b : Board} (hb : DefsIn b) (x x' : Int) : chain (cellA b.defects x x') (lineYs b) = stripA b.defects b.width x x' := by
  obtain ⟨t, ht, hl⟩ := lineYs_form hb
  have ha : (lineYs b).Pairwise (· < ·) := uniq_asc _
  have hmem : ∀ d ∈ b.defects, d.y1 ∈ lineYs b ∧ d.y2 ∈ lineYs b := fun d hd => ⟨lineYs_mem.2 (.inr (.inr ⟨d, hd, .inl rfl⟩)), lineYs_mem.2 (.inr (.inr ⟨d, hd, .inr rfl⟩))⟩
  rw [ht] at ha hl hmem ⊢
  unfold stripA cover
  refine (chain_cells ha (fun d hd => ?_) hl).1
  obtain ⟨m1, m2⟩ := hmem d hd
  constructor
  · rcases List.mem_cons.1 m1 with e | m
    · left; omega
    · right; exact m
  · rcases List.mem_cons.1 m2 with e | m
    · left; omega
    · right; exact m
/-- An ascending list with a number more. -/
def sw (l : List Int) (n : Int) : List Int := if n ∈ l then l else l.filter (fun x => decide (x < n)) ++ n :: l.drop (l.filter fun x => decide (x < n)).length
theorem filter_lt_take {l : List Int} (ha : l.Pairwise (· < ·)) (n : Int) : l.filter (fun x => decide (x < n)) = l.take (l.filter fun x => decide (x < n)).length := by
  induction l with
  | nil => rfl
  | cons a l ih =>
    obtain ⟨h1, h2⟩ := List.pairwise_cons.1 ha
    rw [List.filter_cons]
    split
    · rw [List.length_cons, List.take_succ_cons, ← ih h2]
    · rename_i h
      rw [List.filter_eq_nil_iff.2]
      · rfl
      · intro x hx
        have := h1 x hx
        simp at h ⊢
        omega
theorem sw_eq {l : List Int} (ha : l.Pairwise (· < ·)) (n : Int) : sw l n = uniq (n :: l) := by
  unfold sw
  split
  · rename_i h
    exact (uniq_eq ha fun x => by simp only [List.mem_cons]; exact ⟨.inr, fun h' => h'.elim (fun e => e ▸ h) id⟩).symm
  · rename_i h
    have hf := filter_lt_take ha n
    generalize hc : (l.filter fun x => decide (x < n)).length = c at *
    rw [hf]
    have hlt : ∀ x ∈ l.take c, x < n := fun x hx => by rw [← hf] at hx; simpa using (List.mem_filter.1 hx).2
    have hge : ∀ x ∈ l.drop c, n < x := by
      intro x hx
      have hxl : x ∈ l := List.mem_of_mem_drop hx
      rcases Int.lt_trichotomy x n with h' | rfl | h'
      · have hm : x ∈ l.take c := by rw [← hf]; exact List.mem_filter.2 ⟨hxl, by simpa using h'⟩
        have hp := ha
        rw [← List.take_append_drop c l] at hp
        have := (List.pairwise_append.1 hp).2.2 x hm x hx
        omega
      · exact absurd hxl h
      · exact h'
    refine (uniq_eq ?_ fun x => ?_).symm
    · have hp := ha
      rw [← List.take_append_drop c l] at hp
      obtain ⟨p1, p2, p3⟩ := List.pairwise_append.1 hp
      refine List.pairwise_append.2 ⟨p1, List.pairwise_cons.2 ⟨hge, p2⟩, fun a ha' b hb => ?_⟩
      rcases List.mem_cons.1 hb with rfl | hb
      · exact hlt a ha'
      · exact p3 a ha' b hb
    · have : x ∈ l ↔ x ∈ l.take c ∨ x ∈ l.drop c := by rw [← List.mem_append, List.take_append_drop]
      rw [List.mem_append, List.mem_cons, List.mem_cons, this]
      constructor
      · rintro (h' | h' | h')
        · exact .inr (.inl h')
        · exact .inl h'
        · exact .inr (.inr h')
      · rintro (h' | h' | h')
        · exact .inr (.inl h')
        · exact .inl h'
        · exact .inr (.inr h')
theorem sw_length (l : List Int) (n : Int) : (sw l n).length ≤ l.length + 1 := by
  unfold sw
  split
  · omega
  · have := List.length_filter_le (fun x => decide (x < n)) l
    simp; omega
theorem filt_step {l : List Int} {n : Int} {k : Nat} (hk : k < l.length) (h : l[k] < n) : (l.take (k + 1)).filter (fun x => decide (x < n)) = (l.take k).filter (fun x => decide (x < n)) ++ [l[k]] := by
  rw [List.take_succ_eq_append_getElem hk, List.filter_append, List.filter_cons, if_pos (by simpa using h), List.filter_nil]
theorem filt_skip {l : List Int} {n : Int} {k : Nat} (hk : k < l.length) (h : ¬ l[k] < n) : (l.take (k + 1)).filter (fun x => decide (x < n)) = (l.take k).filter (fun x => decide (x < n)) := by
  rw [List.take_succ_eq_append_getElem hk, List.filter_append, List.filter_cons, if_neg (by simpa using h), List.filter_nil, List.append_nil]
theorem ownedNone (w : World) (B : Nat) : w.ownsRow B 3 1 (.slice none 0 0) 0 [] := ⟨rfl, .inl ⟨rfl, rfl⟩⟩
theorem own_form {w : World} {base e size n : Nat} {v : Value} {xs : List Value} (h : w.ownsRow base e size v (n + 1) xs) : ∃ g cap, v = .slice (some ⟨g, 0, none⟩) (n + 1) cap ∧ base ≤ g ∧ n + 1 ≤ cap ∧ cap ≤ 9223372036854775807 ∧ g < w.heap.size := by
  rcases h.2 with ⟨_, h0⟩ | ⟨g, cap, cur, rfl, hb, hblk, h1, h2, _, _⟩
  · cases h0
  · exact ⟨g, cap, rfl, hb, h1, h2, (Array.getElem?_eq_some_iff.1 hblk).1⟩
theorem own_form' {w : World} {base e size n : Nat} {v : Value} {xs : List Value} (h : w.ownsRow base e size v n xs) (hn : n ≠ 0) : ∃ g cap, v = .slice (some ⟨g, 0, none⟩) n cap ∧ base ≤ g ∧ n ≤ cap ∧ cap ≤ 9223372036854775807 ∧ g < w.heap.size := by
  rcases h.2 with ⟨_, h0⟩ | ⟨g, cap, cur, rfl, hb, hblk, h1, h2, _, _⟩
  · exact absurd h0 hn
  · exact ⟨g, cap, rfl, hb, h1, h2, (Array.getElem?_eq_some_iff.1 hblk).1⟩
theorem drop_cells {w : World} {b off m : Nat} {l : List Int} (h : IntsV w (some ⟨b, off, none⟩) l) : ∀ j u, ((l.drop m).map (Value.int .i64))[j]? = some u → w.cell? ((⟨b, off + m, none⟩ : Addr).add j) = some u := by
  intro j u hu
  rw [List.getElem?_map, List.getElem?_drop] at hu
  cases hx : l[m + j]? with
  | none => rw [hx] at hu; cases hu
  | some x =>
    rw [hx] at hu
    simp only [Option.map_some, Option.some.injEq] at hu
    subst hu
    obtain ⟨b', off', ha, hc⟩ := h (by rintro rfl; simp at hx)
    injection ha with ha
    injection ha with hb ho
    subst hb ho
    rw [addr_add, Nat.add_assoc]
    exact hc _ _ hx
theorem int_one {l : List Int} : ∀ u ∈ l.map (Value.int .i64), u.oneCell' = true := by
  intro u hu
  obtain ⟨x, _, rfl⟩ := List.mem_map.1 hu
  rfl
set_option maxRecDepth 100000 in
set_option maxHeartbeats 4000000 in
theorem sortedWith_any (a : Option Addr) (l : List Int) (c : Nat) (n : Int) (w : World) (hv : IntsV w a l) (hl : l.length ≤ 1000) (hlc : l.length ≤ c) (hcm : c ≤ 9223372036854775807) (hne : l ≠ []) :
    Calls Tryz.prog 130 #[.slice a l.length c, .int .i64 n] w fun e w' => ∃ (a' : Option Addr) (c' : Nat), e = .returned (.slice a' (sw l n).length c') ∧ IntsV w' a' (sw l n) ∧ (sw l n).length ≤ c' ∧ c' ≤ 9223372036854775807 ∧ Below w.heap.size w w' := by
  obtain ⟨i0, hi0, hz0, hz1, hz2⟩ := info_parts int_info
  go_enter Tryz.func130, Tryz.ntmps130
  go_wp2_with fail
  go_loopw [5, 6] (fun v i wr => ∃ k : Nat, k ≤ l.length ∧ i = .int .i64 k ∧ wr.ownsRow w.heap.size 3 1 v ((l.take k).filter fun x => decide (x < n)).length (((l.take k).filter fun x => decide (x < n)).map (Value.int .i64)) ∧ Hid (∀ x ∈ l.take k, x ≠ n) ∧ Below w.heap.size w wr) (fun _ i _ => l.length - (intOf i).toNat)
  case atStart => exact ⟨0, Nat.zero_le _, rfl, ownedNone _ _, Lib.hid (by simp), Below.refl _ _⟩
  case round =>
    obtain ⟨k, hk, rfl, hown, HN, hbw⟩ := hrel
    have hsz := hbw.size
    have hv1 := hv.keep hbw
    by_cases hlt : k < l.length
    · obtain ⟨b, off, ha, c0⟩ := hv1.at_ hlt
      by_cases heq : l[k] = n
      · have HE := Lib.hid (show sw l n = l by unfold sw; rw [if_pos]; rw [← heq]; exact List.getElem_mem _)
        have HV := Lib.hid hv1
        subst ha
        have b0 : (l[k] == n) = true := by simpa using heq
        clear heq
        go_wp2_with fail
        go_ret
        exact ⟨_, c, by rw [HE.out]; rfl, by rw [HE.out]; exact HV.out, by rw [HE.out]; exact hlc, hcm, hbw⟩
      · have b0 : (l[k] == n) = false := by simpa using heq
        have HN' := Lib.hid (show ∀ x ∈ l.take (k + 1), x ≠ n by
          intro x hx
          rw [List.take_succ_eq_append_getElem hlt] at hx
          rcases List.mem_append.1 hx with hx | hx
          · exact HN.out x hx
          · simp at hx; subst hx; exact heq)
        clear heq HN
        by_cases hl2 : l[k] < n
        · have HF := Lib.hid (filt_step hlt hl2)
          subst ha
          have hfl : ((l.take k).filter fun x => decide (x < n)).length ≤ 1000 := by
            have := List.length_filter_le (fun x => decide (x < n)) (l.take k)
            have := List.length_take_le k l
            omega
          obtain ⟨m, hm⟩ : ∃ m, m = ((l.take k).filter fun x => decide (x < n)).length := ⟨_, rfl⟩
          rw [← hm] at hown hfl
          go_wp2_with (at_builtin; refine wpList_append_own _ rfl _ _ 68 rfl w.heap.size 3 i0 (.int .i64 0) 1 8 Tryz.underlying68 hi0 hz0 hz1 hz2 rfl (by decide) _ m _ rfl (hown.alloc _) ⟨wr.heap.size, 0, none⟩ 1 1 [.int .i64 l[k]] rfl rfl (news_one (by simp [go_sem])) (by simp [Value.oneCell']) (by simp only [maxLen]; omega) (by omega) (by simp; omega) ?_; intro v' w1 hown' hgr hnil)
          go_roundw
          case rel => exact ⟨k + 1, by omega, by go_num, by rw [HF.out, List.length_append, List.map_append, ← hm]; exact hown', HN', (hbw.alloc (by omega) _).grown hgr (by simp; omega) (fun j hj => own_base hown hj)⟩
          case measure => simp [intOf]; omega
        · have HF := Lib.hid (filt_skip hlt hl2)
          subst ha
          go_wp2_with fail
          go_roundw
          case rel => exact ⟨k + 1, by omega, by go_num, by rw [HF.out]; exact hown, HN', hbw⟩
          case measure => simp [intOf]; omega
    · have hfl : (l.filter fun x => decide (x < n)).length ≤ l.length := List.length_filter_le _ _
      rw [List.take_of_length_le (by omega)] at hown HN
      have HS := Lib.hid (show sw l n = l.filter (fun x => decide (x < n)) ++ n :: l.drop (l.filter fun x => decide (x < n)).length by
        unfold sw
        rw [if_neg]
        intro hm
        exact HN.out n hm rfl)
      have HL := Lib.hid (show (sw l n).length = l.length + 1 by rw [HS.out]; simp; omega)
      clear HN
      obtain ⟨b, off, ha, hcs⟩ := hv1 hne
      obtain ⟨F, hF⟩ : ∃ F, F = l.filter fun x => decide (x < n) := ⟨_, rfl⟩
      rw [← hF] at hown hfl
      obtain ⟨m, hm⟩ : ∃ m, m = F.length := ⟨_, rfl⟩
      rw [← hm] at hown hfl
      have HM := Lib.hid hm
      have HFF := Lib.hid hF
      subst ha
      clear hF hm
      have HC := Lib.hid hcs
      have hv0 := hv
      clear hcs hv hv1
      have hmi : (0 : Int) ≤ (m : Int) := by omega
      have hml : (m : Int) ≤ (l.length : Int) := by omega
      have hmc : (m : Int) ≤ (c : Int) := by omega
      have hvK := Lib.hid hv0
      have HBW := Lib.hid hbw
      have HOWN := Lib.hid hown
      have hzw := hbw.size
      clear hbw hown hv0
      by_cases hmc2 : (m : Int) < (c : Int)
      · go_wp2_with (first
          | (at_builtin; refine wpList_append_own _ rfl _ _ 68 rfl w.heap.size 3 i0 (.int .i64 0) 1 8 Tryz.underlying68 hi0 hz0 hz1 hz2 rfl (by decide) _ m _ rfl (HOWN.out.alloc _) ⟨wr.heap.size, 0, none⟩ 1 1 [.int .i64 n] rfl rfl (news_one (by simp [go_sem])) (by simp [Value.oneCell']) (by simp only [maxLen]; omega) (by omega) (by simp; omega) ?_; intro v' w1 ho1 hgr hnil; obtain ⟨g, cap, rfl, hbg, hnc, hcm2, hgl⟩ := own_form ho1; have HB1 := Lib.hid ((HBW.out.alloc (by omega) _).grown hgr (by simp; omega) (fun j hj => own_base HOWN.out hj)); have HV1 := Lib.hid (hvK.out.keep HB1.out); have HO1 := Lib.hid ho1; have hz1' := HB1.out.size; clear ho1 hgr hnil)
          | (at_builtin; refine wpList_append_own _ rfl _ _ 68 rfl w.heap.size 3 i0 (.int .i64 0) 1 8 Tryz.underlying68 hi0 hz0 hz1 hz2 rfl (by decide) _ (m + 1) _ rfl HO1.out ⟨b, off + m, none⟩ (l.length - m) (c - m) ((l.drop m).map (Value.int .i64)) rfl (by simp) (drop_cells HV1.out) int_one (by simp only [maxLen]; omega) (by omega) (by omega) ?_; intro v2 w2 ho2 hgr2 hnil2; obtain ⟨g2, cap2, rfl, hbg2, hnc2, hcm3, hgl2⟩ := own_form' ho2 (by omega); have HB2 := Lib.hid (HB1.out.grown hgr2 (by omega) (fun j hj => own_base HO1.out hj)); have HO2 := Lib.hid ho2; clear ho2))
        have e1 : (sw l n).length = m + 1 + (l.length - m) := by rw [HL.out]; omega
        have ho := HO2.out
        rw [show (F.map (Value.int .i64) ++ [Value.int .i64 n]) ++ (l.drop m).map (Value.int .i64) = ((sw l n) ++ []).map (Value.int .i64) by rw [HS.out, ← HFF.out, ← HM.out]; simp] at ho
        go_ret
        exact ⟨some ⟨g2, 0, none⟩, cap2, by rw [e1]; rfl, own_ints ho, by omega, hcm3, HB2.out⟩
      · obtain rfl : m = c := by omega
        have hlm : l.length = m := by omega
        go_wp2_with (at_builtin; refine wpList_append_own _ rfl _ _ 68 rfl w.heap.size 3 i0 (.int .i64 0) 1 8 Tryz.underlying68 hi0 hz0 hz1 hz2 rfl (by decide) _ m _ rfl (HOWN.out.alloc _) ⟨wr.heap.size, 0, none⟩ 1 1 [.int .i64 n] rfl rfl (news_one (by simp [go_sem])) (by simp [Value.oneCell']) (by simp only [maxLen]; omega) (by omega) (by simp; omega) ?_; intro v' w1 ho1 hgr hnil; obtain ⟨g, cap, rfl, hbg, hnc, hcm2, hgl⟩ := own_form ho1; have HB1 := Lib.hid ((HBW.out.alloc (by omega) _).grown hgr (by simp; omega) (fun j hj => own_base HOWN.out hj)); have HV1 := Lib.hid (hvK.out.keep HB1.out); have HO1 := Lib.hid ho1; have hz1' := HB1.out.size; clear ho1 hgr hnil)
        have e1 : (sw l n).length = m + 1 := by rw [HL.out]; omega
        have ho := HO1.out
        rw [show F.map (Value.int .i64) ++ [Value.int .i64 n] = ((sw l n) ++ []).map (Value.int .i64) by rw [HS.out, ← HFF.out, ← HM.out, List.drop_of_length_le (by omega)]; simp] at ho
        go_ret
        exact ⟨some ⟨g, 0, none⟩, cap, by rw [e1]; rfl, own_ints ho, by omega, hcm2, HB1.out⟩
theorem intsV_new1 (w : World) (t g : Nat) (a : Int) (hg : g = w.heap.size) : IntsV (w.alloc (.cells #[.int .i64 a] t)) (some ⟨g, 0, none⟩) [a] := by
  subst hg
  refine fun _ => ⟨_, 0, rfl, fun k x hk => ?_⟩
  match k, hk with
  | 0, hk => simp at hk; subst hk; simp
  | k + 1, hk => simp at hk
theorem IntsV.drew {w : World} {a : Option Addr} {l : List Int} (h : IntsV w a l) : IntsV w.drew a l := h
theorem sw_uniq (l : List Int) (n : Int) : sw (uniq l) n = uniq (n :: l) := by
  rw [sw_eq (uniq_asc l)]
  exact uniq_congr fun x => by simp [uniq_mem]
/-- The lines after so many defects. -/
def lineK (across : Bool) (b : Board) (k : Nat) : List Int := uniq (0 :: (if across then b.width else b.length) :: (b.defects.take k).flatMap fun d => if across then [d.y1, d.y2] else [d.x1, d.x2])
theorem sw_ne (l : List Int) (n : Int) : sw l n ≠ [] := by
  unfold sw
  split
  · rintro rfl; rename_i h; cases h
  · simp
theorem lineK_step {across : Bool} {b : Board} {k : Nat} (hk : k < b.defects.length) :
    sw (sw (lineK across b k) (if across then b.defects[k].y1 else b.defects[k].x1)) (if across then b.defects[k].y2 else b.defects[k].x2) = lineK across b (k + 1) := by
  unfold lineK
  rw [sw_uniq, sw_uniq, List.take_succ_eq_append_getElem hk, List.flatMap_append]
  refine uniq_congr fun x => ?_
  cases across <;> simp <;> constructor <;> intro h <;> rcases h with h | h | h | h | h <;> simp [h]
theorem lineK_len (across : Bool) (b : Board) (k : Nat) (hk : k ≤ b.defects.length) : (lineK across b k).length ≤ 2 + 2 * k := by
  unfold lineK
  refine Nat.le_trans (uniq_length _) ?_
  rw [List.length_cons, List.length_cons, List.length_flatMap]
  have : ((b.defects.take k).map fun d => (if across then [d.y1, d.y2] else [d.x1, d.x2]).length) = (b.defects.take k).map fun _ => 2 := by
    refine List.map_congr_left fun d _ => ?_
    cases across <;> rfl
  rw [this, List.map_const', List.sum_replicate_nat]
  have := List.length_take_le k b.defects
  omega
theorem lineK_ne (across : Bool) (b : Board) (k : Nat) : lineK across b k ≠ [] := by
  intro h
  have : (0 : Int) ∈ lineK across b k := uniq_mem.2 (by simp)
  rw [h] at this; cases this
theorem lineK_all (across : Bool) (b : Board) : lineK across b b.defects.length = if across then lineYs b else lineXs b := by
  unfold lineK lineYs lineXs
  rw [List.take_length]
  cases across <;> rfl
set_option maxRecDepth 100000 in
set_option maxHeartbeats 4000000 in
theorem linesR_any (b : Board) (a : Option Addr) (c : Nat) (across : Bool) (w : World) (hv : Rects.V w a b.defects) (hl : b.defects.length ≤ 60) :
    Calls Tryz.prog 101 #[.agg #[.string b.name, .string b.species, .int .i64 b.length, .int .i64 b.width, .int .i64 b.thick, .int .i64 b.cut, .int .i64 b.moisture, .slice a b.defects.length c], .bool across] w fun e w' => ∃ (a' : Option Addr) (c' : Nat), e = .returned (.slice a' (if across then lineYs b else lineXs b).length c') ∧ IntsV w' a' (if across then lineYs b else lineXs b) ∧ (if across then lineYs b else lineXs b).length ≤ c' ∧ c' ≤ 9223372036854775807 ∧ Below w.heap.size w w' := by
  cases across
  · show Calls _ _ _ _ fun e w' => ∃ (a' : Option Addr) (c' : Nat), e = .returned (.slice a' (lineXs b).length c') ∧ IntsV w' a' (lineXs b) ∧ (lineXs b).length ≤ c' ∧ c' ≤ 9223372036854775807 ∧ Below w.heap.size w w'
    have HK0 := Lib.hid (show lineK false b 0 = sw [0] b.length by
      rw [sw_eq (by simp)]
      exact uniq_congr fun x => by simp [or_comm])
    have HKE := Lib.hid (show lineK false b b.defects.length = lineXs b from lineK_all false b)
    go_enter Tryz.func101, Tryz.ntmps101
    go_upto_region 4 with fail
    refine gen_world (fun W => W.cell? ⟨w.heap.size, 2, none⟩ = some (.int .i64 b.length) ∧ W.cell? ⟨w.heap.size, 7, none⟩ = some (.slice a b.defects.length c) ∧ IntsV W (some ⟨w.heap.size + 1, 0, none⟩) [0] ∧ w.heap.size + 1 < W.heap.size ∧ Below w.heap.size w W) ?_ ?_
    · exact ⟨by simp [go_sem], by simp [go_sem], intsV_new1 _ _ _ _ (by simp), by simp, ((Below.refl _ _).alloc (Nat.le_refl _) _).alloc (by simp) _⟩
    rintro W ⟨e2, e7, hi0, hzW, hbW⟩
    go_wp2_with (go_at_call 130; refine (sortedWith_any _ [0] _ _ _ hi0 (by simp) (by simp) (by omega) (by simp)).mono ?_; rw [← HK0.out]; rintro e w1 ⟨a1, c1, rfl, hi1, hlc1, hcm1, hb1⟩)
    go_loopw [5, 6] (fun v i wr => ∃ (k : Nat) (a' : Option Addr) (c' : Nat), k ≤ b.defects.length ∧ i = .int .i64 k ∧ v = .slice a' (lineK false b k).length c' ∧ IntsV wr a' (lineK false b k) ∧ (lineK false b k).length ≤ c' ∧ c' ≤ 9223372036854775807 ∧ Below W.heap.size W wr) (fun _ i _ => b.defects.length - (intOf i).toNat)
    case atStart => exact ⟨0, _, _, Nat.zero_le _, rfl, rfl, hi1, hlc1, hcm1, hb1⟩
    case round =>
      clear hi1 hlc1 hcm1 hb1 HK0
      obtain ⟨k, a', c', hk, rfl, rfl, hiK, hlcK, hcmK, hbr⟩ := hrel
      have hbr0 : Below w.heap.size w wr := hbW.trans (hbr.mono (by omega))
      have hszr := hbr.size
      have f7 := cell_keep hbr e7
      by_cases hlt : k < b.defects.length
      · obtain ⟨bk, off, rfl, hat⟩ := (hv.keep hbr0).at_ hlt
        obtain ⟨c0, c1, c2, c3, -⟩ := hat
        have hL := lineK_len false b k hk
        have hL0 : (lineK false b k).length ≤ 1000 := by omega
        have hN0 := lineK_ne false b k
        have HST := Lib.hid (show sw (sw (lineK false b k) b.defects[k].x1) b.defects[k].x2 = lineK false b (k + 1) from lineK_step (across := false) hlt)
        generalize hd0 : b.defects[k] = d at *
        clear hd0
        obtain ⟨L, hLe⟩ : ∃ L, L = lineK false b k := ⟨_, rfl⟩
        rw [← hLe] at hiK hlcK hL hL0 hN0 HST
        have HLE := Lib.hid hLe
        clear hLe
        simp only [← HLE.out]
        have hL1 : (sw L d.x1).length ≤ 1000 := by have := sw_length L d.x1; omega
        have hN1 : sw L d.x1 ≠ [] := sw_ne _ _
        go_upto_region 11 with fail
        refine gen_world (fun W2 => W2.cell? ⟨wr.heap.size, 0, none⟩ = some (.int .i64 d.x1) ∧ W2.cell? ⟨wr.heap.size, 2, none⟩ = some (.int .i64 d.x2) ∧ IntsV W2 a' L ∧ Below W.heap.size W W2 ∧ wr.heap.size < W2.heap.size) ?_ ?_
        · exact ⟨by simp [go_sem], by simp [go_sem], hiK.keep ((Below.refl _ _).alloc (Nat.le_refl _) _), hbr.alloc (by omega) _, by simp⟩
        rintro W2 ⟨d1, d2, hi2, hb2, hz2⟩
        clear c0 c1 c2 c3 f7
        refine wp_cut_slots [5, 38, 39, 40, 41, 42, 43, 44] (fun u wc => ∃ (a4 : Option Addr) (c4 : Nat), u 5 = .slice a4 (lineK false b (k + 1)).length c4 ∧ IntsV wc a4 (lineK false b (k + 1)) ∧ (lineK false b (k + 1)).length ≤ c4 ∧ c4 ≤ 9223372036854775807 ∧ Below W.heap.size W wc) ?_ ?_
        · go_region_held3 (fun w' => w'.cell? ⟨wr.heap.size, 0, none⟩ = some (.int .i64 d.x1) ∧ w'.cell? ⟨wr.heap.size, 2, none⟩ = some (.int .i64 d.x2)) (go_keep)
            (first
            | (go_at_call 130; (with_reducible refine (sortedWith_any a' L c' d.x1 _ hi2.drew hL0 hlcK hcmK hN0).mono ?_); rintro e w3 ⟨a3, c3, rfl, hi3, hlc3, hcm3, hb3⟩; have q1 := cell_keep hb3 d1; have q2 := cell_keep hb3 d2)
            | (go_at_call 130; (with_reducible refine (sortedWith_any a3 (sw L d.x1) c3 d.x2 _ hi3 hL1 hlc3 hcm3 hN1).mono ?_); rintro e w4 ⟨a4, c4, rfl, hi4, hlc4, hcm4, hb4⟩; have r1 := cell_keep hb4 q1; have r2 := cell_keep hb4 q2))
          refine cut_meet (by simp [forget]) ⟨a4, c4, by rw [← HST.out]; simp, by rw [← HST.out]; exact hi4, by rw [← HST.out]; exact hlc4, hcm4, by first | exact (hb2.drew.trans (hb3.mono (by simp; omega))).trans (hb4.mono (by have := hb3.size; simp at this; omega))⟩
        · rintro u wc ⟨a4, c4, h5, hi4, hlc4, hcm4, hbc⟩
          simp only [forget, List.foldl_cons, List.foldl_nil, List.setIfInBounds_toArray, List.set_cons_succ, List.set_cons_zero, h5]
          go_wp2_with fail
          go_roundw
          case rel => exact ⟨k + 1, a4, c4, by omega, by go_num, rfl, hi4, hlc4, hcm4, hbc⟩
          case measure => simp [intOf]; omega
      · obtain rfl : k = b.defects.length := by omega
        rw [HKE.out] at hiK hlcK
        simp only [HKE.out]
        go_wp2_with fail
        go_ret
        exact ⟨a', c', rfl, hiK, hlcK, hcmK, hbr0⟩
  · show Calls _ _ _ _ fun e w' => ∃ (a' : Option Addr) (c' : Nat), e = .returned (.slice a' (lineYs b).length c') ∧ IntsV w' a' (lineYs b) ∧ (lineYs b).length ≤ c' ∧ c' ≤ 9223372036854775807 ∧ Below w.heap.size w w'
    have HK0 := Lib.hid (show lineK true b 0 = sw [0] b.width by
      rw [sw_eq (by simp)]
      exact uniq_congr fun x => by simp [or_comm])
    have HKE := Lib.hid (show lineK true b b.defects.length = lineYs b from lineK_all true b)
    go_enter Tryz.func101, Tryz.ntmps101
    go_upto_region 3 with fail
    refine gen_world (fun W => W.cell? ⟨w.heap.size, 3, none⟩ = some (.int .i64 b.width) ∧ W.cell? ⟨w.heap.size, 7, none⟩ = some (.slice a b.defects.length c) ∧ IntsV W (some ⟨w.heap.size + 1, 0, none⟩) [0] ∧ w.heap.size + 1 < W.heap.size ∧ Below w.heap.size w W) ?_ ?_
    · exact ⟨by simp [go_sem], by simp [go_sem], intsV_new1 _ _ _ _ (by simp), by simp, ((Below.refl _ _).alloc (Nat.le_refl _) _).alloc (by simp) _⟩
    rintro W ⟨e2, e7, hi0, hzW, hbW⟩
    go_wp2_with (go_at_call 130; refine (sortedWith_any _ [0] _ _ _ hi0 (by simp) (by simp) (by omega) (by simp)).mono ?_; rw [← HK0.out]; rintro e w1 ⟨a1, c1, rfl, hi1, hlc1, hcm1, hb1⟩)
    go_loopw [5, 6] (fun v i wr => ∃ (k : Nat) (a' : Option Addr) (c' : Nat), k ≤ b.defects.length ∧ i = .int .i64 k ∧ v = .slice a' (lineK true b k).length c' ∧ IntsV wr a' (lineK true b k) ∧ (lineK true b k).length ≤ c' ∧ c' ≤ 9223372036854775807 ∧ Below W.heap.size W wr) (fun _ i _ => b.defects.length - (intOf i).toNat)
    case atStart => exact ⟨0, _, _, Nat.zero_le _, rfl, rfl, hi1, hlc1, hcm1, hb1⟩
    case round =>
      clear hi1 hlc1 hcm1 hb1 HK0
      obtain ⟨k, a', c', hk, rfl, rfl, hiK, hlcK, hcmK, hbr⟩ := hrel
      have hbr0 : Below w.heap.size w wr := hbW.trans (hbr.mono (by omega))
      have hszr := hbr.size
      have f7 := cell_keep hbr e7
      by_cases hlt : k < b.defects.length
      · obtain ⟨bk, off, rfl, hat⟩ := (hv.keep hbr0).at_ hlt
        obtain ⟨c0, c1, c2, c3, -⟩ := hat
        have hL := lineK_len true b k hk
        have hL0 : (lineK true b k).length ≤ 1000 := by omega
        have hN0 := lineK_ne true b k
        have HST := Lib.hid (show sw (sw (lineK true b k) b.defects[k].y1) b.defects[k].y2 = lineK true b (k + 1) from lineK_step (across := true) hlt)
        generalize hd0 : b.defects[k] = d at *
        clear hd0
        obtain ⟨L, hLe⟩ : ∃ L, L = lineK true b k := ⟨_, rfl⟩
        rw [← hLe] at hiK hlcK hL hL0 hN0 HST
        have HLE := Lib.hid hLe
        clear hLe
        simp only [← HLE.out]
        have hL1 : (sw L d.y1).length ≤ 1000 := by have := sw_length L d.y1; omega
        have hN1 : sw L d.y1 ≠ [] := sw_ne _ _
        go_upto_region 10 with fail
        refine gen_world (fun W2 => W2.cell? ⟨wr.heap.size, 1, none⟩ = some (.int .i64 d.y1) ∧ W2.cell? ⟨wr.heap.size, 3, none⟩ = some (.int .i64 d.y2) ∧ IntsV W2 a' L ∧ Below W.heap.size W W2 ∧ wr.heap.size < W2.heap.size) ?_ ?_
        · exact ⟨by simp [go_sem], by simp [go_sem], hiK.keep ((Below.refl _ _).alloc (Nat.le_refl _) _), hbr.alloc (by omega) _, by simp⟩
        rintro W2 ⟨d1, d2, hi2, hb2, hz2⟩
        clear c0 c1 c2 c3 f7
        refine wp_cut_slots [5, 31, 32, 33, 34, 35, 36, 37] (fun u wc => ∃ (a4 : Option Addr) (c4 : Nat), u 5 = .slice a4 (lineK true b (k + 1)).length c4 ∧ IntsV wc a4 (lineK true b (k + 1)) ∧ (lineK true b (k + 1)).length ≤ c4 ∧ c4 ≤ 9223372036854775807 ∧ Below W.heap.size W wc) ?_ ?_
        · go_region_held3 (fun w' => w'.cell? ⟨wr.heap.size, 1, none⟩ = some (.int .i64 d.y1) ∧ w'.cell? ⟨wr.heap.size, 3, none⟩ = some (.int .i64 d.y2)) (go_keep)
            (first
            | (go_at_call 130; (with_reducible refine (sortedWith_any a' L c' d.y1 _ hi2.drew hL0 hlcK hcmK hN0).mono ?_); rintro e w3 ⟨a3, c3, rfl, hi3, hlc3, hcm3, hb3⟩; have q1 := cell_keep hb3 d1; have q2 := cell_keep hb3 d2)
            | (go_at_call 130; (with_reducible refine (sortedWith_any a3 (sw L d.y1) c3 d.y2 _ hi3 hL1 hlc3 hcm3 hN1).mono ?_); rintro e w4 ⟨a4, c4, rfl, hi4, hlc4, hcm4, hb4⟩; have r1 := cell_keep hb4 q1; have r2 := cell_keep hb4 q2))
          refine cut_meet (by simp [forget]) ⟨a4, c4, by rw [← HST.out]; simp, by rw [← HST.out]; exact hi4, by rw [← HST.out]; exact hlc4, hcm4, by first | exact (hb2.drew.trans (hb3.mono (by simp; omega))).trans (hb4.mono (by have := hb3.size; simp at this; omega))⟩
        · rintro u wc ⟨a4, c4, h5, hi4, hlc4, hcm4, hbc⟩
          simp only [forget, List.foldl_cons, List.foldl_nil, List.setIfInBounds_toArray, List.set_cons_succ, List.set_cons_zero, h5]
          go_wp2_with fail
          go_roundw
          case rel => exact ⟨k + 1, a4, c4, by omega, by go_num, rfl, hi4, hlc4, hcm4, hbc⟩
          case measure => simp [intOf]; omega
      · obtain rfl : k = b.defects.length := by omega
        rw [HKE.out] at hiK hlcK
        simp only [HKE.out]
        go_wp2_with fail
        go_ret
        exact ⟨a', c', rfl, hiK, hlcK, hcmK, hbr0⟩
theorem IntsV.at' {w : World} {a : Option Addr} {l : List Int} (h : IntsV w a l) {k : Nat} (hk : k < l.length) : ∃ b off, a = some ⟨b, off, none⟩ ∧ b < w.heap.size ∧ w.cell? ⟨b, off + k, none⟩ = some (.int .i64 l[k]) := by
  obtain ⟨b, off, ha, hc⟩ := h.at_ hk
  exact ⟨b, off, ha, by simpa using block_lt_of_cell hc, hc⟩
theorem IntsV.cell {w : World} {b o : Nat} {l : List Int} (h : IntsV w (some ⟨b, o, none⟩) l) {k : Nat} (hk : k < l.length) : w.cell? ⟨b, o + k, none⟩ = some (.int .i64 l[k]) := by
  obtain ⟨b', off, ha, hc⟩ := h.at_ hk
  injection ha with ha
  injection ha with hb ho
  subst hb ho
  exact hc
theorem isSound_is (b : Board) (r : Rect) (a : Option Addr) (c : Nat) (w : World) {v : Bool} (h : soundB b.defects r = v) (hv : Rects.V w a b.defects) (hl : b.defects.length ≤ 9223372036854775807) :
    Calls Tryz.prog 102 #[.agg #[.string b.name, .string b.species, .int .i64 b.length, .int .i64 b.width, .int .i64 b.thick, .int .i64 b.cut, .int .i64 b.moisture, .slice a b.defects.length c], .agg #[.int .i64 r.x1, .int .i64 r.y1, .int .i64 r.x2, .int .i64 r.y2]] w fun e w' => e = .returned (.bool v) ∧ Below w.heap.size w w' := by
  subst h; exact isSound_any b r a c w hv hl
theorem sumN_bd {g : Int → Int} (h : ∀ p, 0 ≤ g p ∧ g p ≤ 1) (a : Int) : ∀ n : Nat, 0 ≤ sumN g a n ∧ sumN g a n ≤ n
  | 0 => by simp [sumN]
  | n + 1 => by
    have := sumN_bd h a n
    have := h (a + n)
    simp only [sumN]; omega
theorem cover_bd {wd : Int} (hw : 0 ≤ wd) (s : List Iv) : 0 ≤ cover wd s ∧ cover wd s ≤ wd := by
  unfold cover sumR
  have := sumN_bd (g := fun y => indB (rowCov s y)) (fun p => by unfold indB; split <;> omega) 0 (wd - 0).toNat
  omega
theorem stripA_bd {ds : List Rect} {wd x x' : Int} (hx : 0 ≤ x) (hxx : x < x') (hx' : x' ≤ 600000) (hw : 0 ≤ wd) (hw' : wd ≤ 100000) : 0 ≤ stripA ds wd x x' ∧ stripA ds wd x x' ≤ 60000000000 := by
  unfold stripA
  obtain ⟨h1, h2⟩ := cover_bd hw (overl ds x x')
  have e1 : (x' - x) * cover wd (overl ds x x') ≤ 600000 * 100000 := Int.mul_le_mul (by omega) (by omega) h1 (by omega)
  exact ⟨Int.mul_nonneg (by omega) h1, by omega⟩
theorem chain_step {f : Int → Int → Int} {X : List Int} {k : Nat} {A s : Int} (hk : k + 1 < X.length) (h : A = s + chain f (X.drop k)) : A = (s + f X[k] X[k + 1]) + chain f (X.drop (k + 1)) := by
  rw [h, List.drop_eq_getElem_cons (by omega : k < X.length), List.drop_eq_getElem_cons hk, chain]; omega
theorem chain_end {f : Int → Int → Int} {X : List Int} {k : Nat} {A s : Int} (hk : X.length ≤ k + 1) (h : A = s + chain f (X.drop k)) : A = s := by
  rw [h]
  by_cases hk' : k < X.length
  · rw [List.drop_eq_getElem_cons hk', List.drop_of_length_le hk]; simp [chain]
  · rw [List.drop_of_length_le (by omega)]; simp [chain]
theorem cellA_bd {ds : List Rect} {x x' y y' : Int} (h1 : 0 ≤ x) (h2 : x < x') (h3 : x' ≤ 600000) (h4 : 0 ≤ y) (h5 : y < y') (h6 : y' ≤ 100000) :
    (0 ≤ (x' - x) * (y' - y) ∧ (x' - x) * (y' - y) ≤ 60000000000) ∧ 0 ≤ cellA ds x x' y y' ∧ cellA ds x x' y y' ≤ 60000000000 := by
  have p1 : (x' - x) * (y' - y) ≤ 600000 * 100000 := Int.mul_le_mul (by omega) (by omega) (by omega) (by omega)
  have p2 : 0 ≤ (x' - x) * (y' - y) := Int.mul_nonneg (by omega) (by omega)
  refine ⟨⟨p2, by omega⟩, ?_⟩
  unfold cellA
  split <;> omega
set_option maxRecDepth 100000 in
set_option maxHeartbeats 8000000 in
theorem defectiveR_any (b : Board) (a : Option Addr) (c : Nat) (w : World) (hv : Rects.V w a b.defects) (hl : b.defects.length ≤ 60) (hb : DefsIn b) (hb2 : b.length ≤ 600000) (hw2 : b.width ≤ 100000) :
    Calls Tryz.prog 70 #[.agg #[.string b.name, .string b.species, .int .i64 b.length, .int .i64 b.width, .int .i64 b.thick, .int .i64 b.cut, .int .i64 b.moisture, .slice a b.defects.length c]] w fun e w' => e = .returned (.int .i64 (refArea b)) ∧ Below w.heap.size w w' := by
  have hw1 := hb.wid
  have HXB := Lib.hid (show ∀ x ∈ lineXs b, 0 ≤ x ∧ x ≤ 600000 by
    intro v hv
    have := hb.len
    rcases lineXs_mem.1 hv with rfl | rfl | ⟨d, hd, h⟩
    · omega
    · omega
    · have := hb.ins d hd; omega)
  have HYB := Lib.hid (show ∀ y ∈ lineYs b, 0 ≤ y ∧ y ≤ 100000 by
    intro v hv
    have := hb.wid
    rcases lineYs_mem.1 hv with rfl | rfl | ⟨d, hd, h⟩
    · omega
    · omega
    · have := hb.ins d hd; omega)
  have HXA := Lib.hid (show (lineXs b).Pairwise (· < ·) from uniq_asc _)
  have HYA := Lib.hid (show (lineYs b).Pairwise (· < ·) from uniq_asc _)
  have hLX : (lineXs b).length ≤ 122 := by
    have := lineK_len false b b.defects.length (Nat.le_refl _)
    rw [lineK_all] at this
    simp at this; omega
  have hLY : (lineYs b).length ≤ 122 := by
    have := lineK_len true b b.defects.length (Nat.le_refl _)
    rw [lineK_all] at this
    simp at this; omega
  have HRA := Lib.hid (show refArea b = 0 + chain (stripA b.defects b.width) ((lineXs b).drop 0) by unfold refArea; simp)
  have HCS := Lib.hid (fun x x' => cells_strip hb x x')
  clear hb
  have HLX := Lib.hid (fun w hv => linesR_any b a c false w hv hl)
  have HLY := Lib.hid (fun w hv => linesR_any b a c true w hv hl)
  simp only [Bool.false_eq_true, if_false, if_true] at HLX HLY
  generalize lineXs b = X at *
  generalize lineYs b = Y at *
  go_enter Tryz.func70, Tryz.ntmps70
  go_upto_region 1 with fail
  refine gen_world (fun W => (W.cell? ⟨w.heap.size, 0, none⟩ = some (.string b.name) ∧ W.cell? ⟨w.heap.size, 1, none⟩ = some (.string b.species) ∧ W.cell? ⟨w.heap.size, 2, none⟩ = some (.int .i64 b.length) ∧ W.cell? ⟨w.heap.size, 3, none⟩ = some (.int .i64 b.width) ∧ W.cell? ⟨w.heap.size, 4, none⟩ = some (.int .i64 b.thick) ∧ W.cell? ⟨w.heap.size, 5, none⟩ = some (.int .i64 b.cut) ∧ W.cell? ⟨w.heap.size, 6, none⟩ = some (.int .i64 b.moisture) ∧ W.cell? ⟨w.heap.size, 7, none⟩ = some (.slice a b.defects.length c)) ∧ w.heap.size < W.heap.size ∧ Below w.heap.size w W) ?_ ?_
  · exact ⟨⟨by simp [go_sem], by simp [go_sem], by simp [go_sem], by simp [go_sem], by simp [go_sem], by simp [go_sem], by simp [go_sem], by simp [go_sem]⟩, by simp, (Below.refl _ _).alloc (Nat.le_refl _) _⟩
  rintro W ⟨⟨e0, e1, e2, e3, e4, e5, e6, e7⟩, hzW, hbW⟩
  have hvW := hv.keep hbW
  go_region_held3 (fun w' => w'.cell? ⟨w.heap.size, 0, none⟩ = some (.string b.name) ∧ w'.cell? ⟨w.heap.size, 1, none⟩ = some (.string b.species) ∧ w'.cell? ⟨w.heap.size, 2, none⟩ = some (.int .i64 b.length) ∧ w'.cell? ⟨w.heap.size, 3, none⟩ = some (.int .i64 b.width) ∧ w'.cell? ⟨w.heap.size, 4, none⟩ = some (.int .i64 b.thick) ∧ w'.cell? ⟨w.heap.size, 5, none⟩ = some (.int .i64 b.cut) ∧ w'.cell? ⟨w.heap.size, 6, none⟩ = some (.int .i64 b.moisture) ∧ w'.cell? ⟨w.heap.size, 7, none⟩ = some (.slice a b.defects.length c)) (go_keep)
    (first
      | (go_at_call 101; (with_reducible refine (HLX.out _ hvW.drew).mono ?_); rintro e w1 ⟨ax, cx, rfl, hix, hlx, hcx, hb1⟩; have f0 := cell_keep hb1 e0; have f1 := cell_keep hb1 e1; have f2 := cell_keep hb1 e2; have f3 := cell_keep hb1 e3; have f4 := cell_keep hb1 e4; have f5 := cell_keep hb1 e5; have f6 := cell_keep hb1 e6; have f7 := cell_keep hb1 e7; have hv1 := hvW.drew.keep hb1)
      | (go_at_call 101; (with_reducible refine (HLY.out _ hv1).mono ?_); rintro e w2 ⟨ay, cy, rfl, hiy, hly, hcy, hb2⟩; have g0 := cell_keep hb2 f0; have g1 := cell_keep hb2 f1; have g2 := cell_keep hb2 f2; have g3 := cell_keep hb2 f3; have g4 := cell_keep hb2 f4; have g5 := cell_keep hb2 f5; have g6 := cell_keep hb2 f6; have g7 := cell_keep hb2 f7))
  go_upto_region 2 with fail
  refine gen_world (fun W => (W.cell? ⟨w.heap.size, 0, none⟩ = some (.string b.name) ∧ W.cell? ⟨w.heap.size, 1, none⟩ = some (.string b.species) ∧ W.cell? ⟨w.heap.size, 2, none⟩ = some (.int .i64 b.length) ∧ W.cell? ⟨w.heap.size, 3, none⟩ = some (.int .i64 b.width) ∧ W.cell? ⟨w.heap.size, 4, none⟩ = some (.int .i64 b.thick) ∧ W.cell? ⟨w.heap.size, 5, none⟩ = some (.int .i64 b.cut) ∧ W.cell? ⟨w.heap.size, 6, none⟩ = some (.int .i64 b.moisture) ∧ W.cell? ⟨w.heap.size, 7, none⟩ = some (.slice a b.defects.length c)) ∧ IntsV W ax X ∧ IntsV W ay Y ∧ w.heap.size < W.heap.size ∧ Below w.heap.size w W) ?_ ?_
  · have hbA := (hbW.drew.trans (hb1.mono (by simp; omega)))
    have hbB := hbA.trans (hb2.mono hbA.size)
    exact ⟨⟨g0, g1, g2, g3, g4, g5, g6, g7⟩, hix.keep hb2, hiy, by have := hb1.size; have := hb2.size; simp at *; omega, hbB⟩
  clear e0 e1 e2 e3 e4 e5 e6 e7 f0 f1 f2 f3 f4 f5 f6 f7 g0 g1 g2 g3 g4 g5 g6 g7 hix hiy hb1 hb2 hbW hvW hv1 hzW
  rintro W3 ⟨⟨e0, e1, e2, e3, e4, e5, e6, e7⟩, hix, hiy, hz3, hb3W⟩
  have hv3 := hv.keep hb3W
  go_wp2_with fail
  go_loopw [5, 6] (fun s i wr => ∃ (k : Nat) (S : Int), i = .int .i64 k ∧ s = .int .i64 S ∧ k ≤ X.length ∧ (0 ≤ S ∧ S ≤ 60000000000 * (k : Int)) ∧ Hid (refArea b = S + chain (stripA b.defects b.width) (X.drop k)) ∧ Below W3.heap.size W3 wr) (fun _ i _ => X.length - (intOf i).toNat)
  case atStart => exact ⟨0, 0, rfl, rfl, Nat.zero_le _, by simp, HRA, Below.refl _ _⟩
  case round =>
    clear HRA
    obtain ⟨k, S, rfl, rfl, hk, hS, HRA, hbr⟩ := hrel
    have hszr := hbr.size
    by_cases hlt : k + 1 < X.length
    · have hlt0 : k < X.length := by omega
      obtain ⟨bx, ox, hax, hbx, cx0⟩ := hix.at' hlt0
      have cx1 := (by rw [hax] at hix; exact hix.cell hlt : W3.cell? ⟨bx, ox + (k + 1), none⟩ = some (.int .i64 X[k + 1]))
      subst hax
      have hxb0 := HXB.out _ (List.getElem_mem hlt0)
      have hxb1 := HXB.out _ (List.getElem_mem hlt)
      have hxlt : X[k] < X[k + 1] := List.pairwise_iff_getElem.1 HXA.out _ _ _ _ (by omega)
      have HN := Lib.hid (chain_step hlt HRA.out)
      have HT := Lib.hid (show S + stripA b.defects b.width X[k] X[k + 1] = S + chain (cellA b.defects X[k] X[k + 1]) (Y.drop 0) by rw [← HCS.out X[k] X[k + 1], List.drop_zero])
      have hTb := stripA_bd (ds := b.defects) hxb0.1 hxlt hxb1.2 (by omega : 0 ≤ b.width) hw2
      clear HRA
      generalize X[k] = x at *
      generalize X[k + 1] = x' at *
      generalize stripA b.defects b.width x x' = T at *
      have hki : (k : Int) + 1 < (X.length : Int) := by omega
      have hki0 : (k : Int) < (X.length : Int) := by omega
      have hkn : ((k : Int) + 1).toNat = k + 1 := by omega
      have hkw : IntKind.i64.wrap ((k : Int) + 1) = (k : Int) + 1 := IntWalk.i64_in _ (by omega)
      have hk0 : (0 : Int) ≤ (k : Int) + 1 := by omega
      have hk00 : (0 : Int) ≤ (k : Int) := by omega
      go_wp2_with fail
      go_loopw [5, 7] (fun s j wr => ∃ (m : Nat) (S' : Int), j = .int .i64 m ∧ s = .int .i64 S' ∧ m ≤ Y.length ∧ (0 ≤ S' ∧ S' ≤ S + 60000000000 * (m : Int)) ∧ Hid (S + T = S' + chain (cellA b.defects x x') (Y.drop m)) ∧ Below W3.heap.size W3 wr) (fun _ j _ => Y.length - (intOf j).toNat)
      case atStart => exact ⟨0, S, rfl, rfl, Nat.zero_le _, by omega, HT, hbr⟩
      case round =>
        clear HT hbr hszr
        obtain ⟨m, S', rfl, rfl, hm, hS', HT, hbr⟩ := hrel
        have hszr := hbr.size
        by_cases hmt : m + 1 < Y.length
        · have hmt0 : m < Y.length := by omega
          obtain ⟨by_, oy, hay, hby, cy0⟩ := (hiy.keep hbr).at' hmt0
          have cy1 := (by rw [hay] at hiy; exact (hiy.keep hbr).cell hmt : wr.cell? ⟨by_, oy + (m + 1), none⟩ = some (.int .i64 Y[m + 1]))
          subst hay
          have cx0 := cell_keep hbr cx0
          have cx1 := cell_keep hbr cx1
          have hbx : bx < wr.heap.size := by omega
          have g0 := cell_keep hbr e0
          have g1 := cell_keep hbr e1
          have g2 := cell_keep hbr e2
          have g3 := cell_keep hbr e3
          have g4 := cell_keep hbr e4
          have g5 := cell_keep hbr e5
          have g6 := cell_keep hbr e6
          have g7 := cell_keep hbr e7
          have hzr : w.heap.size < wr.heap.size := by omega
          have hvr := hv3.keep hbr
          have hyb0 := HYB.out _ (List.getElem_mem hmt0)
          have hyb1 := HYB.out _ (List.getElem_mem hmt)
          have hylt : Y[m] < Y[m + 1] := List.pairwise_iff_getElem.1 HYA.out _ _ _ _ (by omega)
          have HN2 := Lib.hid (chain_step hmt HT.out)
          obtain ⟨⟨hc1, hc2⟩, hc3, hc4⟩ := cellA_bd (ds := b.defects) hxb0.1 hxlt hxb1.2 hyb0.1 hylt hyb1.2
          clear HT
          have hmi : (m : Int) + 1 < (Y.length : Int) := by omega
          have hmi0 : (m : Int) < (Y.length : Int) := by omega
          have hmn : ((m : Int) + 1).toNat = m + 1 := by omega
          have hmw : IntKind.i64.wrap ((m : Int) + 1) = (m : Int) + 1 := IntWalk.i64_in _ (by omega)
          have hm0 : (0 : Int) ≤ (m : Int) + 1 := by omega
          have hm00 : (0 : Int) ≤ (m : Int) := by omega
          cases hsd : soundB b.defects ⟨x, Y[m], x', Y[m + 1]⟩
          · have HC := Lib.hid (show cellA b.defects x x' Y[m] Y[m + 1] = (x' - x) * (Y[m + 1] - Y[m]) by unfold cellA; rw [hsd]; rfl)
            have HSD := Lib.hid hsd
            rw [HC.out] at HN2
            clear hsd HC hc3 hc4
            generalize Y[m] = y at *
            generalize Y[m + 1] = y' at *
            go_wp2_with fail
            refine wp_region_grew (by kernel_rfl) (by kernel_rfl) ?_
            repeat (first
              | go_big_quiet_step ((go_at_call 102; exact grew_of (isSound_is b ⟨x, y, x', y'⟩ a c _ HSD.out (hvr.keep (grewB (Below.refl _ _) (Nat.le_refl _) _)) (by omega))))
              | quiet_step ((go_at_call 102; exact grew_of (isSound_is b ⟨x, y, x', y'⟩ a c _ HSD.out (hvr.keep (grewB (Below.refl _ _) (Nat.le_refl _) _)) (by omega)))))
            refine wpQuiet_nil ?_
            rintro _ ⟨gg, rfl⟩
            have hbr6 : Below W3.heap.size W3 (grew wr gg) := grewB hbr (by omega) _
            have d0 := cell_keep (grew_below wr gg) cx0
            have d1 := cell_keep (grew_below wr gg) cx1
            have d2 := cell_keep (grew_below wr gg) cy0
            have d3 := cell_keep (grew_below wr gg) cy1
            clear cx0 cx1 cy0 cy1 g0 g1 g2 g3 g4 g5 g6 g7 hvr hzr hbr HSD
            generalize grew wr gg = w6 at *
            have hbx6 : bx < w6.heap.size := by simpa using block_lt_of_cell d0
            have hby6 : by_ < w6.heap.size := by simpa using block_lt_of_cell d2
            have v1 : IntKind.i64.wrap (x' - x) = x' - x := IntWalk.i64_in _ (by omega)
            have v2 : IntKind.i64.wrap (y' - y) = y' - y := IntWalk.i64_in _ (by omega)
            have v3 : IntKind.i64.wrap ((x' - x) * (y' - y)) = (x' - x) * (y' - y) := IntWalk.i64_in _ (by omega)
            have v4 : IntKind.i64.wrap (S' + (x' - x) * (y' - y)) = S' + (x' - x) * (y' - y) := IntWalk.i64_in _ (by omega)
            go_wp2_with fail
            go_quiet (fail)
            rename_i nq
            have hbr7 := below_drewN hbr6 nq
            clear d0 d1 d2 d3 v1 v2 v3 v4 hbr6
            go_wp2_with fail
            go_roundw
            case rel => exact ⟨m + 1, S' + (x' - x) * (y' - y), by go_num, rfl, by omega, by omega, HN2, hbr7⟩
            case measure => simp [intOf]; omega
          · have HC := Lib.hid (show cellA b.defects x x' Y[m] Y[m + 1] = 0 by unfold cellA; rw [if_pos hsd])
            have HSD := Lib.hid hsd
            rw [HC.out, Int.add_zero] at HN2
            clear hsd HC hc3 hc4 hc1 hc2
            generalize Y[m] = y at *
            generalize Y[m + 1] = y' at *
            go_wp2_with fail
            refine wp_region_grew (by kernel_rfl) (by kernel_rfl) ?_
            repeat (first
              | go_big_quiet_step ((go_at_call 102; exact grew_of (isSound_is b ⟨x, y, x', y'⟩ a c _ HSD.out (hvr.keep (grewB (Below.refl _ _) (Nat.le_refl _) _)) (by omega))))
              | quiet_step ((go_at_call 102; exact grew_of (isSound_is b ⟨x, y, x', y'⟩ a c _ HSD.out (hvr.keep (grewB (Below.refl _ _) (Nat.le_refl _) _)) (by omega)))))
            refine wpQuiet_nil ?_
            rintro _ ⟨gg, rfl⟩
            go_wp2_with fail
            go_roundw
            case rel => exact ⟨m + 1, S', by go_num, rfl, by omega, by omega, HN2, grewB hbr (by omega) _⟩
            case measure => simp [intOf]; omega
        · have HE := Lib.hid (chain_end (by omega) HT.out)
          have hmi : ¬ (m : Int) + 1 < (Y.length : Int) := by omega
          clear HT
          go_wp2_with fail
          go_roundw
          case rel => exact ⟨k + 1, S', by go_num, rfl, by omega, by rw [← HE.out]; omega, by rw [← HE.out]; exact HN, hbr⟩
          case measure => simp [intOf]; omega
    · have HE := Lib.hid (chain_end (by omega) HRA.out)
      have hkn : ¬ (k : Int) + 1 < (X.length : Int) := by omega
      clear HRA
      go_wp2_with fail
      go_ret
      exact ⟨ret_int (by rw [HE.out]), hb3W.trans (hbr.mono (by omega))⟩
end Go.Proofs.YtpaindkfbgoogaaGreat
/- The area of a rectangle that defects cover: the sweep of the program and the cells of the document count the same squares (plain). -/
set_option linter.unusedVariables false
set_option linter.unusedSimpArgs false
namespace Go.Proofs.YtpaindkfbgoogaaGreat

/-! How many of the unit squares of a rectangle defects cover. -/
def covC (ds : List Rect) (x y : Int) : Bool := ds.any fun d => decide (d.x1 ≤ x) && decide (x < d.x2) && decide (d.y1 ≤ y) && decide (y < d.y2)
theorem covC_true {ds : List Rect} {x y : Int} : covC ds x y = true ↔ ∃ d ∈ ds, d.x1 ≤ x ∧ x < d.x2 ∧ d.y1 ≤ y ∧ y < d.y2 := by
  unfold covC
  simp [and_assoc]
def covA (ds : List Rect) (r : Rect) : Int := sumR (fun x => sumR (fun y => indB (covC ds x y)) r.y1 r.y2) r.x1 r.x2
theorem sumN_shift (g : Int → Int) (a c : Int) : ∀ n, sumN (fun p => g (p + c)) a n = sumN g (a + c) n
  | 0 => rfl
  | n + 1 => by rw [sumN, sumN, sumN_shift g a c n]; congr 2; omega
theorem sumR_shift (g : Int → Int) (a b c : Int) : sumR (fun p => g (p + c)) a b = sumR g (a + c) (b + c) := by
  unfold sumR
  rw [sumN_shift]
  congr 1
  omega
theorem chain_sum2 {ds : List Rect} {wd : Int} : ∀ {xs : List Int} {x L : Int}, (x :: xs).Pairwise (· ≤ ·) → (∀ d ∈ ds, (d.x1 ≤ x ∨ d.x1 ∈ xs) ∧ (d.x2 ≤ x ∨ d.x2 ∈ xs)) → (x :: xs).getLast? = some L →
    chain (stripA ds wd) (x :: xs) = sumR (colA ds wd) x L ∧ x ≤ L
  | [], x, L, _, _, hL => by simp at hL; subst hL; exact ⟨(sumR_self _ _).symm, Int.le_refl _⟩
  | x' :: xs, x, L, hp, hm, hL => by
    obtain ⟨h1, h2⟩ := List.pairwise_cons.1 hp
    have hx := h1 x' (by simp)
    have h3 := (List.pairwise_cons.1 h2).1
    have hmem : ∀ z, (z ≤ x ∨ z ∈ x' :: xs) → (z ≤ x' ∨ z ∈ xs) ∧ ¬ (x < z ∧ z < x') := by
      rintro z (h | h)
      · exact ⟨.inl (by omega), by omega⟩
      · rcases List.mem_cons.1 h with rfl | h
        · exact ⟨.inl (Int.le_refl _), by omega⟩
        · have := h3 z h; exact ⟨.inr h, by omega⟩
    obtain ⟨i1, i2⟩ := chain_sum2 (wd := wd) h2 (fun d hd => ⟨(hmem _ (hm d hd).1).1, (hmem _ (hm d hd).2).1⟩) (by simpa using hL)
    rw [chain, i1, strip_col (by omega) (fun d hd => ⟨(hmem _ (hm d hd).1).2, (hmem _ (hm d hd).2).2⟩), ← sumR_split _ (show x ≤ x' by omega) i2]
    exact ⟨rfl, by omega⟩
theorem last_max : ∀ {l : List Int} {L : Int}, l.Pairwise (· ≤ ·) → l.getLast? = some L → L ∈ l ∧ ∀ v ∈ l, v ≤ L
  | [], L, _, h => by simp at h
  | [a], L, _, h => by simp at h; subst h; simp
  | a :: b :: t, L, hp, h => by
    obtain ⟨h1, h2⟩ := List.pairwise_cons.1 hp
    obtain ⟨i1, i2⟩ := last_max h2 (by simpa using h)
    refine ⟨List.mem_cons_of_mem _ i1, fun v hv => ?_⟩
    rcases List.mem_cons.1 hv with rfl | hv
    · exact h1 _ i1
    · exact i2 v hv
/-- Strips between the sides of rectangles, from the least to the greatest one, are the columns of a wide room. -/
theorem chain_room {ds : List Rect} {wd A B : Int} {xs : List Int} (hw : 0 ≤ wd) (hAB : A ≤ B) (hp : xs.Pairwise (· ≤ ·)) (hm : ∀ z, z ∈ xs ↔ ∃ d ∈ ds, z = d.x1 ∨ z = d.x2) (hd : ∀ d ∈ ds, A ≤ d.x1 ∧ d.x1 ≤ d.x2 ∧ d.x2 ≤ B) : chain (stripA ds wd) xs = sumR (colA ds wd) A B := by
  cases xs with
  | nil =>
    rw [sumR_zero hAB fun p _ _ => colA_none hw fun d hd => by have := (hm d.x1).2 ⟨d, hd, .inl rfl⟩; cases this]
    rfl
  | cons x xs =>
    obtain ⟨L, hL⟩ : ∃ L, (x :: xs).getLast? = some L := ⟨_, List.getLast?_eq_some_getLast (by simp)⟩
    obtain ⟨hLm, hLx⟩ := last_max hp hL
    have hxm : ∀ v ∈ x :: xs, x ≤ v := fun v hv => by
      rcases List.mem_cons.1 hv with rfl | h
      · exact Int.le_refl _
      · exact (List.pairwise_cons.1 hp).1 v h
    have hin : ∀ v ∈ x :: xs, A ≤ v ∧ v ≤ B := fun v hv => by
      obtain ⟨d, hd', h⟩ := (hm v).1 hv
      have := hd d hd'
      omega
    obtain ⟨c1, c2⟩ := chain_sum2 (ds := ds) (wd := wd) hp (fun d hd' => by
      have m1 := (hm d.x1).2 ⟨d, hd', .inl rfl⟩
      have m2 := (hm d.x2).2 ⟨d, hd', .inr rfl⟩
      constructor
      · rcases List.mem_cons.1 m1 with e | m
        · left; omega
        · right; exact m
      · rcases List.mem_cons.1 m2 with e | m
        · left; omega
        · right; exact m) hL
    have h0 := hin x (by simp)
    have h1 := hin L hLm
    rw [c1, sumR_split _ h0.1 (show x ≤ B by omega), sumR_split _ c2 h1.2, sumR_zero h0.1 fun p p1 p2 => colA_none hw fun d hd' => by have := hxm _ ((hm d.x1).2 ⟨d, hd', .inl rfl⟩); omega,
      sumR_zero h1.2 fun p p1 p2 => colA_none hw fun d hd' => by have := hLx _ ((hm d.x2).2 ⟨d, hd', .inr rfl⟩); omega]
    omega
theorem refArea_sum {b : Board} (hb : DefsIn b) : refArea b = sumR (colA b.defects b.width) 0 b.length := by
  obtain ⟨t, ht, hl⟩ := lineXs_form hb
  have ha : (lineXs b).Pairwise (· < ·) := uniq_asc _
  have hmem : ∀ d ∈ b.defects, d.x1 ∈ lineXs b ∧ d.x2 ∈ lineXs b := fun d hd => ⟨lineXs_mem.2 (.inr (.inr ⟨d, hd, .inl rfl⟩)), lineXs_mem.2 (.inr (.inr ⟨d, hd, .inr rfl⟩))⟩
  unfold refArea
  rw [ht] at ha hl hmem ⊢
  refine (chain_sum ha (fun d hd => ?_) hl).1
  obtain ⟨m1, m2⟩ := hmem d hd
  constructor
  · rcases List.mem_cons.1 m1 with e | m
    · left; omega
    · right; exact m
  · rcases List.mem_cons.1 m2 with e | m
    · left; omega
    · right; exact m
/-! The program's parts of the defects in a rectangle. -/
def nz (q : Rect) : Bool := !(decide (q.x1 = 0) && (decide (q.y1 = 0) && (decide (q.x2 = 0) && decide (q.y2 = 0))))
def partsP (ds : List Rect) (r : Rect) : List Rect := (ds.map fun d => wholeR (interR d r)).filter nz
theorem partsP_mem {ds : List Rect} {r q : Rect} : q ∈ partsP ds r ↔ ∃ d ∈ ds, q = interR d r ∧ q.x1 < q.x2 ∧ q.y1 < q.y2 := by
  unfold partsP
  rw [List.mem_filter, List.mem_map]
  constructor
  · rintro ⟨⟨d, hd, rfl⟩, h⟩
    unfold wholeR at h ⊢
    split at h
    · simp [nz] at h
    · rename_i hc
      rw [if_neg hc]
      exact ⟨d, hd, rfl, by omega, by omega⟩
  · rintro ⟨d, hd, rfl, h1, h2⟩
    refine ⟨⟨d, hd, ?_⟩, ?_⟩
    · unfold wholeR; rw [if_neg (by omega)]
    · unfold nz
      simp only [Bool.not_eq_true', Bool.and_eq_false_iff, decide_eq_false_iff_not]
      omega
theorem parts_cov {ds : List Rect} {r : Rect} {x y : Int} (hx : r.x1 ≤ x ∧ x < r.x2) (hy : r.y1 ≤ y ∧ y < r.y2) : covC (partsP ds r) x y = covC ds x y := by
  rw [Bool.eq_iff_iff, covC_true, covC_true]
  constructor
  · rintro ⟨q, hq, h⟩
    obtain ⟨d, hd, rfl, -⟩ := partsP_mem.1 hq
    refine ⟨d, hd, ?_⟩
    unfold interR at h
    simp only at h
    omega
  · rintro ⟨d, hd, h⟩
    refine ⟨interR d r, partsP_mem.2 ⟨d, hd, rfl, ?_, ?_⟩, ?_⟩ <;> (unfold interR; simp only; omega)
theorem col_cov {ds : List Rect} {x y : Int} : rowCov (colD ds x) y = covC ds x y := by
  rw [Bool.eq_iff_iff, covC_true, rowCov_true]
  constructor
  · rintro ⟨v, hv, h⟩
    obtain ⟨d, hd, h1, rfl⟩ := mem_colD.1 hv
    exact ⟨d, hd, by simp only at h; omega⟩
  · rintro ⟨d, hd, h⟩
    exact ⟨(d.y1, d.y2), mem_colD.2 ⟨d, hd, by omega, rfl⟩, by simp only; omega⟩
/-- The height of a strip, as the program sweeps it. -/
def hStep (x x' : Int) (s : Int × Int) (p : Rect) : Int × Int := if p.x1 < x' ∧ x < p.x2 then (s.1 + max 0 (p.y2 - max s.2 p.y1), max s.2 p.y2) else s
def hgtS (ps : List Rect) (x x' : Int) : Int := (ps.foldl (hStep x x') (0, 0)).1
theorem hgt_spans {x x' : Int} : ∀ {ps : List Rect} {s : Int × Int}, (∀ p ∈ ps, p.y1 < p.y2) → ps.foldl (hStep x x') s = (overl ps x x').foldl (spanStep 1) s
  | [], s, _ => rfl
  | p :: ps, s, h => by
    have hp := h p (by simp)
    rw [List.foldl_cons, hgt_spans fun q hq => h q (by simp [hq])]
    unfold overl hStep
    rw [List.filter_cons]
    by_cases hc : p.x1 < x' ∧ x < p.x2
    · rw [if_pos hc, if_pos (by simp [hc]), List.map_cons, List.foldl_cons]
      congr 1
      unfold spanStep
      simp only
      split
      · exact Prod.ext (by simp only; omega) (by simp only; omega)
      · exact Prod.ext (by simp only; omega) (by simp only; omega)
    · rw [if_neg hc, if_neg (by simp only [Bool.and_eq_true, decide_eq_true_eq]; exact hc)]
theorem hgt_cover {ps : List Rect} {x x' wd : Int} (hs : ps.Pairwise fun a b => a.y1 ≤ b.y1) (hp : ∀ p ∈ ps, 0 ≤ p.y1 ∧ p.y1 < p.y2 ∧ p.y2 ≤ wd) (hw : 0 ≤ wd) : hgtS ps x x' = cover wd (overl ps x x') := by
  unfold hgtS
  rw [hgt_spans fun p h => (hp p h).2.1, spans_ok (w := 1) (wd := wd) ?_ ?_ (Int.le_refl _) hw]
  · unfold cover; omega
  · unfold overl
    rw [List.pairwise_map]
    exact (hs.filter _).imp fun h => h
  · intro v hv
    obtain ⟨d, hd, -, rfl⟩ := mem_overl.1 hv
    exact hp d hd
def covP (ps : List Rect) (xs : List Int) : Int := chain (fun x x' => hgtS ps x x' * (x' - x)) xs
theorem chain_congr {f g : Int → Int → Int} : ∀ {l : List Int}, (∀ x x', f x x' = g x x') → chain f l = chain g l
  | [], _ => rfl
  | [_], _ => rfl
  | x :: x' :: l, h => by rw [chain, chain, h, chain_congr (l := x' :: l) h]
/-- **What the program's sweep returns is the number of covered squares.** -/
theorem covP_is {ds ps : List Rect} {r : Rect} {xs : List Int} (hr : 0 ≤ r.y1 ∧ r.x1 ≤ r.x2 ∧ r.y1 ≤ r.y2) (hps : ps.Perm (partsP ds r)) (hs : ps.Pairwise fun a b => a.y1 ≤ b.y1) (hxs : xs.Perm ((partsP ds r).flatMap fun d => [d.x1, d.x2])) (hp : xs.Pairwise (· ≤ ·)) : covP ps xs = covA ds r := by
  have hq : ∀ q ∈ ps, (r.x1 ≤ q.x1 ∧ q.x1 < q.x2 ∧ q.x2 ≤ r.x2) ∧ (r.y1 ≤ q.y1 ∧ q.y1 < q.y2 ∧ q.y2 ≤ r.y2) := fun q hq => by
    obtain ⟨d, hd, rfl, h1, h2⟩ := partsP_mem.1 (hps.mem_iff.1 hq)
    unfold interR at h1 h2 ⊢
    simp only at h1 h2 ⊢
    omega
  unfold covP
  rw [chain_congr (g := stripA ps r.y2) fun x x' => by rw [hgt_cover hs (fun p h => by have := hq p h; omega) (show 0 ≤ r.y2 by omega)]; unfold stripA; rw [Int.mul_comm]]
  rw [chain_room (A := r.x1) (B := r.x2) (by omega) hr.2.1 hp (fun z => by rw [hxs.mem_iff]; simp only [List.mem_flatMap, List.mem_cons, List.not_mem_nil, or_false, hps.mem_iff]) fun d hd => by have := hq d hd; omega]
  unfold covA
  refine sumR_congr fun x x1 x2 => ?_
  unfold colA cover
  have hcov : ∀ y, covC ps x y = covC (partsP ds r) x y := fun y => by
    rw [Bool.eq_iff_iff, covC_true, covC_true]
    simp only [hps.mem_iff]
  rw [sumR_split _ hr.1 hr.2.2, sumR_zero hr.1 fun y y1 y2 => ?_, Int.zero_add]
  · refine sumR_congr fun y y1 y2 => ?_
    rw [col_cov, hcov, parts_cov ⟨x1, x2⟩ ⟨y1, y2⟩]
  · rw [col_cov, show covC ps x y = false from ?_]
    · rfl
    · cases h : covC ps x y with
      | false => rfl
      | true =>
        obtain ⟨d, hd, h1⟩ := covC_true.1 h
        have := hq d hd
        omega
/-! The document's part of a board. -/
def shiftR (r d : Rect) : Rect := ⟨max d.x1 r.x1 - r.x1, max d.y1 r.y1 - r.y1, min d.x2 r.x2 - r.x1, min d.y2 r.y2 - r.y1⟩
def partsR (ds : List Rect) (r : Rect) : List Rect := (ds.filter fun d => overlapsB d r).map (shiftR r)
theorem partsR_mem {ds : List Rect} {r q : Rect} : q ∈ partsR ds r ↔ ∃ d ∈ ds, overlapsB d r = true ∧ q = shiftR r d := by
  unfold partsR
  rw [List.mem_map]
  constructor
  · rintro ⟨d, hd, rfl⟩; obtain ⟨h1, h2⟩ := List.mem_filter.1 hd; exact ⟨d, h1, h2, rfl⟩
  · rintro ⟨d, h1, h2, rfl⟩; exact ⟨d, List.mem_filter.2 ⟨h1, h2⟩, rfl⟩
theorem partsR_in {ds : List Rect} {r : Rect} (hr : r.x1 < r.x2 ∧ r.y1 < r.y2) (hds : ∀ d ∈ ds, d.x1 < d.x2 ∧ d.y1 < d.y2) : ∀ q ∈ partsR ds r, 0 ≤ q.x1 ∧ q.x1 < q.x2 ∧ q.x2 ≤ r.x2 - r.x1 ∧ 0 ≤ q.y1 ∧ q.y1 < q.y2 ∧ q.y2 ≤ r.y2 - r.y1 := by
  intro q hq
  obtain ⟨d, hd, ho, rfl⟩ := partsR_mem.1 hq
  have h1 := hds d hd
  unfold overlapsB at ho
  simp only [Bool.and_eq_true, decide_eq_true_eq] at ho
  unfold shiftR
  simp only
  omega
/-- **What the document counts is the number of covered squares.** -/
theorem covR_is {ds : List Rect} {r : Rect} {b : Board} (hr : r.x1 < r.x2 ∧ r.y1 < r.y2) (hds : ∀ d ∈ ds, d.x1 < d.x2 ∧ d.y1 < d.y2) (hl : b.length = r.x2 - r.x1) (hw : b.width = r.y2 - r.y1) (hdef : b.defects = partsR ds r) : DefsIn b ∧ refArea b = covA ds r := by
  have hin := partsR_in hr hds
  have hb : DefsIn b := ⟨by omega, by omega, by rw [hdef, hl, hw]; exact hin⟩
  refine ⟨hb, ?_⟩
  rw [refArea_sum hb, hl, hw, hdef]
  unfold covA
  have e : sumR (colA (partsR ds r) (r.y2 - r.y1)) 0 (r.x2 - r.x1) = sumR (fun p => colA (partsR ds r) (r.y2 - r.y1) (p + -r.x1)) r.x1 r.x2 := by
    rw [sumR_shift (colA (partsR ds r) (r.y2 - r.y1))]
    congr 1 <;> omega
  rw [e]
  refine sumR_congr fun x x1 x2 => ?_
  unfold colA cover
  have e2 : sumR (fun y => indB (rowCov (colD (partsR ds r) (x + -r.x1)) y)) 0 (r.y2 - r.y1) = sumR (fun y => indB (rowCov (colD (partsR ds r) (x + -r.x1)) (y + -r.y1))) r.y1 r.y2 := by
    rw [sumR_shift fun y => indB (rowCov (colD (partsR ds r) (x + -r.x1)) y)]
    congr 1 <;> omega
  rw [e2]
  refine sumR_congr fun y y1 y2 => ?_
  congr 1
  rw [col_cov, Bool.eq_iff_iff, covC_true, covC_true]
  constructor
  · rintro ⟨q, hq, h⟩
    obtain ⟨d, hd, ho, rfl⟩ := partsR_mem.1 hq
    refine ⟨d, hd, ?_⟩
    unfold shiftR at h
    simp only at h
    omega
  · rintro ⟨d, hd, h⟩
    have h1 := hds d hd
    refine ⟨shiftR r d, partsR_mem.2 ⟨d, hd, ?_, rfl⟩, ?_⟩
    · unfold overlapsB
      simp only [Bool.and_eq_true, decide_eq_true_eq]
      omega
    · unfold shiftR
      simp only
      omega
end Go.Proofs.YtpaindkfbgoogaaGreat
