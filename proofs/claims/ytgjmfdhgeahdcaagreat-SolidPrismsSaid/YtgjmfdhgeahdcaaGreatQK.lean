/- The volume of boxes: sums by places, by a grid, and by unit cells are one (plain). -/
import Derived.Test.YtgjmfdhgeahdcaaGreatQJ
import Derived.Test.YtgjmfdhgeahdcaaGreatQD
set_option linter.unusedVariables false
set_option linter.unusedSimpArgs false
namespace Go.Proofs.YtgjmfdhgeahdcaaGreat

/-! Sums over whole numbers. -/
def sumF (f : Int → Int) (lo : Int) : Nat → Int
 | 0 => 0
 | n + 1 => sumF f lo n + f (lo + n)
theorem cntF_sum (f : Int → Bool) (lo : Int) : ∀ n, cntF f lo n = sumF (fun z => if f z = true then 1 else 0) lo n
 | 0 => rfl
 | n + 1 => by rw [cntF, sumF, cntF_sum f lo n]
theorem sumF_congr {f g : Int → Int} {lo : Int} : ∀ {n : Nat}, (∀ z, lo ≤ z → z < lo + n → f z = g z) → sumF f lo n = sumF g lo n
 | 0, _ => rfl
 | n + 1, h => by
  rw [sumF, sumF, sumF_congr (n := n) fun z h1 h2 => h z h1 (by omega), h _ (by omega) (by omega)]
theorem sumF_split (f : Int → Int) (lo : Int) (m : Nat) : ∀ n : Nat, sumF f lo (m + n) = sumF f lo m + sumF f (lo + m) n
 | 0 => by simp [sumF]
 | n + 1 => by
  rw [← Nat.add_assoc, sumF, sumF, sumF_split f lo m n, show lo + ((m + n : Nat) : Int) = lo + m + n by omega]; omega
theorem sumF_const {f : Int → Int} {lo c : Int} : ∀ {n : Nat}, (∀ z, lo ≤ z → z < lo + n → f z = c) → sumF f lo n = n * c
 | 0, _ => by simp [sumF]
 | n + 1, h => by
  rw [sumF, sumF_const (c := c) (n := n) fun z h1 h2 => h z h1 (by omega), h _ (by omega) (by omega)]
  have : ((n + 1 : Nat) : Int) = n + 1 := by omega
  rw [this, Int.add_mul]; omega
theorem sumF_bd {f : Int → Int} {lo B : Int} (h : ∀ z, 0 ≤ f z ∧ f z ≤ B) : ∀ n : Nat, 0 ≤ sumF f lo n ∧ sumF f lo n ≤ n * B
 | 0 => by simp [sumF]
 | n + 1 => by
  have := sumF_bd (lo := lo) h n
  have h1 := h (lo + n)
  rw [sumF, show ((n + 1 : Nat) : Int) = n + 1 by omega, Int.add_mul]; omega
/-- The sum between two numbers. -/
def sumB (f : Int → Int) (p q : Int) : Int := sumF f p (q - p).toNat
theorem sumB_split {f : Int → Int} {p m q : Int} (h1 : p ≤ m) (h2 : m ≤ q) : sumB f p q = sumB f p m + sumB f m q := by
 unfold sumB
 rw [show (q - p).toNat = (m - p).toNat + (q - m).toNat by omega, sumF_split, show p + ((m - p).toNat : Int) = m by omega]
theorem sumB_const {f : Int → Int} {p q c : Int} (hpq : p ≤ q) (h : ∀ z, p ≤ z → z < q → f z = c) : sumB f p q = (q - p) * c := by
 unfold sumB
 rw [sumF_const (c := c) fun z h1 h2 => h z h1 (by omega), show ((q - p).toNat : Int) = q - p by omega]
def stepS (f : Int → Int) : List Int → Int
 | [] => 0
 | [_] => 0
 | a :: b :: l => (b - a) * f a + stepS f (b :: l)
theorem step_tail {f : Int → Int} {hi : Int} : ∀ {l : List Int} {a : Int}, (a :: l).Pairwise (· < ·) → (∀ x ∈ a :: l, x ≤ hi) → (∀ z w, a ≤ z → a ≤ w → (∀ x ∈ l, x ≤ z ↔ x ≤ w) → f z = f w) → (∀ z, a ≤ z → (∀ x ∈ l, x ≤ z) → f z = 0) → sumB f a hi = stepS f (a :: l)
 | [], a, _, hb, _, h0 => by
  rw [sumB_const (c := 0) (hb a List.mem_cons_self) fun z h1 _ => h0 z h1 (fun x hx => by simp at hx), stepS]; simp
 | b :: l, a, hp, hb, hc, h0 => by
  rw [List.pairwise_cons] at hp
  have hab := hp.1 b List.mem_cons_self
  have hbl := (List.pairwise_cons.1 hp.2).1
  rw [sumB_split (m := b) (by omega) (hb b (by simp)), stepS, sumB_const (c := f a) (by omega) fun z h1 h2 => hc z a h1 (by omega) fun x hx => ?_]
  ·rw [step_tail (l := l) (a := b) hp.2 (fun x hx => hb x (List.mem_cons_of_mem _ hx)) (fun z w hz hw h => hc z w (by omega) (by omega) fun x hx => ?_) (fun z hz h => h0 z (by omega) fun x hx => ?_)]
   ·rcases List.mem_cons.1 hx with rfl | hx
    ·constructor <;> intro <;> omega
    ·exact h x hx
   ·rcases List.mem_cons.1 hx with rfl | hx
    ·exact hz
    ·exact h x hx
  ·have : b ≤ x := by
     rcases List.mem_cons.1 hx with rfl | hx
     ·omega
     ·have := hbl x hx; omega
   constructor <;> intro <;> omega
/-- A function that depends on which marks lie at or below alone, and is 0 before the first and behind the last. -/
structure Steps (f : Int → Int) (xs : List Int) : Prop where
 asc : xs.Pairwise (· < ·)
 dep : ∀ z w, (∀ x ∈ xs, x ≤ z ↔ x ≤ w) → f z = f w
 low : ∀ z, (∀ x ∈ xs, ¬ x ≤ z) → f z = 0
 high : ∀ z, (∀ x ∈ xs, x ≤ z) → f z = 0
theorem Steps.sum {f : Int → Int} {xs : List Int} (h : Steps f xs) {lo hi : Int} (hlh : lo ≤ hi) (hb : ∀ x ∈ xs, lo ≤ x ∧ x ≤ hi) : sumB f lo hi = stepS f xs := by
 cases xs with
 | nil => rw [sumB_const (c := 0) hlh fun z _ _ => h.low z (fun x hx => by simp at hx), stepS]; simp
 | cons a l =>
  have ha := hb a List.mem_cons_self
  have hal := (List.pairwise_cons.1 h.asc).1
  rw [sumB_split (m := a) ha.1 ha.2, sumB_const (c := 0) ha.1 fun z _ hz => h.low z fun x hx => ?_, step_tail h.asc (fun x hx => (hb x hx).2) (fun z w hz hw e => h.dep z w fun x hx => ?_) (fun z hz e => h.high z fun x hx => ?_)]
  ·simp
  ·rcases List.mem_cons.1 hx with rfl | hx
   ·constructor <;> intro <;> omega
   ·exact e x hx
  ·rcases List.mem_cons.1 hx with rfl | hx
   ·exact hz
   ·exact e x hx
  ·rcases List.mem_cons.1 hx with rfl | hx
   ·omega
   ·have := hal x hx; omega
/-! The same sums, by places. -/
def volK (ys : List Int) (dx : Int) (h : Int → Int) : Nat → Int
 | 0 => 0
 | k + 1 => volK ys dx h k + dx * (ys.getD (k + 1) 0 - ys.getD k 0) * h (ys.getD k 0)
def volI (xs ys : List Int) (h : Int → Int → Int) : Nat → Int
 | 0 => 0
 | i + 1 => volI xs ys h i + volK ys (xs.getD (i + 1) 0 - xs.getD i 0) (h (xs.getD i 0)) (ys.length - 1)
theorem volK_shift (a : Int) (ys : List Int) (dx : Int) (h : Int → Int) : ∀ k, volK (a :: ys) dx h (k + 1) = dx * (ys.getD 0 0 - a) * h a + volK ys dx h k
 | 0 => by simp [volK]
 | k + 1 => by
  rw [volK, volK_shift a ys dx h k]
  simp only [volK, List.getD_cons_succ]; omega
theorem volK_step (dx : Int) (h : Int → Int) : ∀ ys : List Int, volK ys dx h (ys.length - 1) = dx * stepS h ys
 | [] => by simp [volK, stepS]
 | [a] => by simp [volK, stepS]
 | a :: b :: l => by
  rw [show (a :: b :: l).length - 1 = ((b :: l).length - 1) + 1 by simp, volK_shift, volK_step dx h (b :: l), stepS]
  simp only [List.getD_cons_zero, Int.mul_add, Int.mul_assoc]
theorem volI_shift (a : Int) (xs ys : List Int) (h : Int → Int → Int) : ∀ k, volI (a :: xs) ys h (k + 1) = volK ys (xs.getD 0 0 - a) (h a) (ys.length - 1) + volI xs ys h k
 | 0 => by simp [volI]
 | k + 1 => by
  rw [volI, volI_shift a xs ys h k]
  simp only [volI, List.getD_cons_succ]; omega
theorem volI_step (ys : List Int) (h : Int → Int → Int) : ∀ xs : List Int, volI xs ys h (xs.length - 1) = stepS (fun x => stepS (h x) ys) xs
 | [] => by simp [volI, stepS]
 | [a] => by simp [volI, stepS]
 | a :: b :: l => by
  rw [show (a :: b :: l).length - 1 = ((b :: l).length - 1) + 1 by simp, volI_shift, volI_step ys h (b :: l), stepS, volK_step]
  rfl
/-! Boxes. -/
structure Box6.ok (b : Box6) : Prop where
 x : -300000 ≤ b.x1 ∧ b.x1 ≤ b.x2 ∧ b.x2 ≤ 300000
 y : -300000 ≤ b.y1 ∧ b.y1 ≤ b.y2 ∧ b.y2 ≤ 300000
 z : b.zok
def marksX (bs : List Box6) : List Int := bs.flatMap fun b => [b.x1, b.x2]
def marksY (bs : List Box6) : List Int := bs.flatMap fun b => [b.y1, b.y2]
def marksZ (bs : List Box6) : List Int := bs.flatMap fun b => [b.z1, b.z2]
/-- The height over a place. -/
def hAt (bs : List Box6) (x y : Int) : Int := hgt (bs.filter (atB x y))
/-- The number of unit cells that boxes cover. -/
def volB (bs : List Box6) : Int := sumB (fun x => sumB (fun y => hAt bs x y) (-300000) 300000) (-300000) 300000
theorem hgt_nil : hgt [] = 0 := by
 unfold hgt
 have : ∀ n, cntF (cov []) (-300000) n = 0 := fun n => by
  induction n with
  | zero => rfl
  | succ n ih => rw [cntF, ih]; simp [cov]
 exact this _
theorem filter_nil {bs : List Box6} {p : Box6 → Bool} (h : ∀ b ∈ bs, p b = false) : bs.filter p = [] := by
 rw [List.filter_eq_nil_iff]; intro b hb; rw [h b hb]; exact Bool.false_ne_true
theorem hAt_y {bs : List Box6} {ys : List Int} (hs : ys.Pairwise (· < ·)) (hm : ∀ z, z ∈ ys ↔ z ∈ marksY bs) (x : Int) : Steps (fun y => hAt bs x y) ys := by
 have m1 : ∀ b ∈ bs, b.y1 ∈ ys ∧ b.y2 ∈ ys := fun b hb => ⟨(hm _).2 (List.mem_flatMap.2 ⟨b, hb, by simp⟩), (hm _).2 (List.mem_flatMap.2 ⟨b, hb, by simp⟩)⟩
 refine ⟨hs, fun z w h => ?_, fun z h => ?_, fun z h => ?_⟩
 ·show hgt _ = hgt _
  congr 1
  refine List.filter_congr fun b hb => ?_
  have h1 := h _ (m1 b hb).1
  have h2 := h _ (m1 b hb).2
  unfold atB
  rw [show decide (b.y1 ≤ z) = decide (b.y1 ≤ w) from decide_eq_decide.2 h1, show decide (z < b.y2) = decide (w < b.y2) from decide_eq_decide.2 (by omega)]
 ·show hgt _ = 0
  rw [filter_nil fun b hb => ?_, hgt_nil]
  have := h _ (m1 b hb).1
  unfold atB
  rw [show decide (b.y1 ≤ z) = false from decide_eq_false this]; simp
 ·show hgt _ = 0
  rw [filter_nil fun b hb => ?_, hgt_nil]
  have := h _ (m1 b hb).2
  unfold atB
  rw [show decide (z < b.y2) = false from decide_eq_false (by omega)]; simp
theorem sumB_zero {f : Int → Int} {p q : Int} (hpq : p ≤ q) (h : ∀ z, f z = 0) : sumB f p q = 0 := by rw [sumB_const (c := 0) hpq fun z _ _ => h z]; simp
theorem hAt_x {bs : List Box6} {xs : List Int} (hs : xs.Pairwise (· < ·)) (hm : ∀ z, z ∈ xs ↔ z ∈ marksX bs) : Steps (fun x => sumB (fun y => hAt bs x y) (-300000) 300000) xs := by
 have m1 : ∀ b ∈ bs, b.x1 ∈ xs ∧ b.x2 ∈ xs := fun b hb => ⟨(hm _).2 (List.mem_flatMap.2 ⟨b, hb, by simp⟩), (hm _).2 (List.mem_flatMap.2 ⟨b, hb, by simp⟩)⟩
 refine ⟨hs, fun z w h => ?_, fun z h => ?_, fun z h => ?_⟩
 ·refine congrArg (fun f => sumB f (-300000) 300000) (funext fun y => ?_)
  show hgt _ = hgt _
  congr 1
  refine List.filter_congr fun b hb => ?_
  have h1 := h _ (m1 b hb).1
  have h2 := h _ (m1 b hb).2
  unfold atB
  rw [show decide (b.x1 ≤ z) = decide (b.x1 ≤ w) from decide_eq_decide.2 h1, show decide (z < b.x2) = decide (w < b.x2) from decide_eq_decide.2 (by omega)]
 ·refine sumB_zero (by omega) fun y => ?_
  show hgt _ = 0
  rw [filter_nil fun b hb => ?_, hgt_nil]
  have := h _ (m1 b hb).1
  unfold atB
  rw [show decide (b.x1 ≤ z) = false from decide_eq_false this]; simp
 ·refine sumB_zero (by omega) fun y => ?_
  show hgt _ = 0
  rw [filter_nil fun b hb => ?_, hgt_nil]
  have := h _ (m1 b hb).2
  unfold atB
  rw [show decide (z < b.x2) = false from decide_eq_false (by omega)]; simp
theorem marks_bd {bs : List Box6} (hok : ∀ b ∈ bs, b.ok) : (∀ z ∈ marksX bs, -300000 ≤ z ∧ z ≤ 300000) ∧ (∀ z ∈ marksY bs, -300000 ≤ z ∧ z ≤ 300000) ∧ (∀ z ∈ marksZ bs, -300000 ≤ z ∧ z ≤ 300000) := by
 refine ⟨fun z hz => ?_, fun z hz => ?_, fun z hz => ?_⟩ <;> obtain ⟨b, hb, hz⟩ := List.mem_flatMap.1 hz <;> obtain ⟨h1, h2, h3⟩ := hok b hb <;> simp only [List.mem_cons, List.not_mem_nil, or_false] at hz
 ·rcases hz with rfl | rfl <;> omega
 ·rcases hz with rfl | rfl <;> omega
 ·unfold Box6.zok at h3; rcases hz with rfl | rfl <;> omega
/-- The program's sum is the volume. -/
theorem volI_vol {bs : List Box6} {xs ys : List Int} (hok : ∀ b ∈ bs, b.ok) (hx : xs.Pairwise (· < ·)) (mx : ∀ z, z ∈ xs ↔ z ∈ marksX bs) (hy : ys.Pairwise (· < ·)) (my : ∀ z, z ∈ ys ↔ z ∈ marksY bs) :
    volI xs ys (hAt bs) (xs.length - 1) = volB bs := by
 obtain ⟨bx, bY, bz⟩ := marks_bd hok
 rw [volI_step, volB, (hAt_x hx mx).sum (by omega) fun x h => bx x ((mx x).1 h)]
 exact congrArg (fun f => stepS f xs) (funext fun x => ((hAt_y hy my x).sum (by omega) fun z h => bY z ((my z).1 h)).symm)
/-! The document's grid. -/
def volZ (zs : List Int) (D : Int) (c : Int → Bool) : Nat → Int
 | 0 => 0
 | m + 1 => volZ zs D c m + if c (zs.getD m 0) = true then D * (zs.getD (m + 1) 0 - zs.getD m 0) else 0
theorem volZ_shift (a : Int) (zs : List Int) (D : Int) (c : Int → Bool) : ∀ k, volZ (a :: zs) D c (k + 1) = (if c a = true then D * (zs.getD 0 0 - a) else 0) + volZ zs D c k
 | 0 => by simp [volZ]
 | k + 1 => by
  rw [volZ, volZ_shift a zs D c k]
  simp only [volZ, List.getD_cons_succ]; omega
theorem volZ_step (D : Int) (c : Int → Bool) : ∀ zs : List Int, volZ zs D c (zs.length - 1) = D * stepS (fun z => if c z = true then 1 else 0) zs
 | [] => by simp [volZ, stepS]
 | [a] => by simp [volZ, stepS]
 | a :: b :: l => by
  rw [show (a :: b :: l).length - 1 = ((b :: l).length - 1) + 1 by simp, volZ_shift, volZ_step D c (b :: l), stepS]
  simp only [List.getD_cons_zero, Int.mul_add]
  split <;> simp
theorem cov_steps {l : List Box6} {zs : List Int} (hs : zs.Pairwise (· < ·)) (hm : ∀ b ∈ l, b.z1 ∈ zs ∧ b.z2 ∈ zs) : Steps (fun z => if cov l z = true then 1 else 0) zs := by
 refine ⟨hs, fun z w h => ?_, fun z h => ?_, fun z h => ?_⟩
 ·have : cov l z = cov l w := by
    unfold cov
    rw [Bool.eq_iff_iff, List.any_eq_true, List.any_eq_true]
    refine exists_congr fun b => and_congr_right fun hb => ?_
    have h1 := h _ (hm b hb).1
    have h2 := h _ (hm b hb).2
    simp; omega
  show (if _ then _ else _) = if _ then _ else _
  rw [this]
 ·have : cov l z = false := by
    unfold cov
    rw [List.any_eq_false]
    intro b hb
    have := h _ (hm b hb).1
    simp; omega
  show (if _ then _ else _) = _
  rw [this]; rfl
 ·have : cov l z = false := by
    unfold cov
    rw [List.any_eq_false]
    intro b hb
    have := h _ (hm b hb).2
    simp; omega
  show (if _ then _ else _) = _
  rw [this]; rfl
theorem hgt_step {l : List Box6} {zs : List Int} (hs : zs.Pairwise (· < ·)) (hm : ∀ b ∈ l, b.z1 ∈ zs ∧ b.z2 ∈ zs) (hb : ∀ z ∈ zs, -300000 ≤ z ∧ z ≤ 300000) : stepS (fun z => if cov l z = true then 1 else 0) zs = hgt l := by
 rw [← (cov_steps hs hm).sum (lo := -300000) (hi := 300000) (by omega) hb]
 unfold hgt
 rw [cntF_sum]
 rfl
/-- A place of the grid is covered. -/
def inG (bs : List Box6) (x x' y y' z z' : Int) : Bool := bs.any fun b => decide (b.x1 ≤ x) && decide (x' ≤ b.x2) && decide (b.y1 ≤ y) && decide (y' ≤ b.y2) && decide (b.z1 ≤ z) && decide (z' ≤ b.z2)
theorem next_le {xs : List Int} (hs : xs.Pairwise (· < ·)) {i : Nat} (hi : i + 1 < xs.length) {v : Int} (hv : v ∈ xs) (h : xs.getD i 0 < v) : xs.getD (i + 1) 0 ≤ v := by
 obtain ⟨j, hj, rfl⟩ := List.mem_iff_getElem.1 hv
 rw [List.pairwise_iff_getElem] at hs
 have e1 : xs.getD i 0 = xs[i] := by simp [List.getD, (show i < xs.length by omega)]
 have e2 : xs.getD (i + 1) 0 = xs[i + 1] := by simp [List.getD, hi]
 rw [e1] at h; rw [e2]
 rcases Nat.lt_trichotomy (i + 1) j with h1 | h1 | h1
 ·have := hs _ _ hi hj h1; omega
 ·subst h1; omega
 ·rcases Nat.lt_or_ge j i with h2 | h2
  ·have := hs j i hj (by omega) h2; omega
  ·have : j = i := by omega
   subst this; omega
theorem next_lt {xs : List Int} (hs : xs.Pairwise (· < ·)) {i : Nat} (hi : i + 1 < xs.length) : xs.getD i 0 < xs.getD (i + 1) 0 := by
 rw [List.pairwise_iff_getElem] at hs
 have e1 : xs.getD i 0 = xs[i] := by simp [List.getD, (show i < xs.length by omega)]
 have e2 : xs.getD (i + 1) 0 = xs[i + 1] := by simp [List.getD, hi]
 rw [e1, e2]; exact hs _ _ (by omega) hi (by omega)
theorem getD_mem {xs : List Int} {i : Nat} (hi : i < xs.length) : xs.getD i 0 ∈ xs := by
 rw [show xs.getD i 0 = xs[i] by simp [List.getD, hi]]; exact List.getElem_mem hi
structure Grid (bs : List Box6) (xs ys zs : List Int) : Prop where
 ax : xs.Pairwise (· < ·)
 ay : ys.Pairwise (· < ·)
 az : zs.Pairwise (· < ·)
 mx : ∀ z, z ∈ xs ↔ z ∈ marksX bs
 my : ∀ z, z ∈ ys ↔ z ∈ marksY bs
 mz : ∀ z, z ∈ zs ↔ z ∈ marksZ bs
theorem Grid.x {bs : List Box6} {xs ys zs : List Int} (h : Grid bs xs ys zs) {b : Box6} (hb : b ∈ bs) : b.x1 ∈ xs ∧ b.x2 ∈ xs := ⟨(h.mx _).2 (List.mem_flatMap.2 ⟨b, hb, by simp⟩), (h.mx _).2 (List.mem_flatMap.2 ⟨b, hb, by simp⟩)⟩
theorem Grid.y {bs : List Box6} {xs ys zs : List Int} (h : Grid bs xs ys zs) {b : Box6} (hb : b ∈ bs) : b.y1 ∈ ys ∧ b.y2 ∈ ys := ⟨(h.my _).2 (List.mem_flatMap.2 ⟨b, hb, by simp⟩), (h.my _).2 (List.mem_flatMap.2 ⟨b, hb, by simp⟩)⟩
theorem Grid.z {bs : List Box6} {xs ys zs : List Int} (h : Grid bs xs ys zs) {b : Box6} (hb : b ∈ bs) : b.z1 ∈ zs ∧ b.z2 ∈ zs := ⟨(h.mz _).2 (List.mem_flatMap.2 ⟨b, hb, by simp⟩), (h.mz _).2 (List.mem_flatMap.2 ⟨b, hb, by simp⟩)⟩
theorem Grid.in_ {bs : List Box6} {xs ys zs : List Int} (h : Grid bs xs ys zs) {i k m : Nat} (hi : i + 1 < xs.length) (hk : k + 1 < ys.length) (hm : m + 1 < zs.length) :
    inG bs (xs.getD i 0) (xs.getD (i + 1) 0) (ys.getD k 0) (ys.getD (k + 1) 0) (zs.getD m 0) (zs.getD (m + 1) 0) = cov (bs.filter (atB (xs.getD i 0) (ys.getD k 0))) (zs.getD m 0) := by
 unfold inG cov
 rw [List.any_filter, Bool.eq_iff_iff, List.any_eq_true, List.any_eq_true]
 refine exists_congr fun b => and_congr_right fun hb => ?_
 have x1 := next_lt h.ax hi
 have y1 := next_lt h.ay hk
 have z1 := next_lt h.az hm
 have x2 := next_le h.ax hi (h.x hb).2
 have y2 := next_le h.ay hk (h.y hb).2
 have z2 := next_le h.az hm (h.z hb).2
 unfold atB
 simp only [Bool.and_eq_true, decide_eq_true_eq]
 constructor
 ·rintro ⟨⟨⟨⟨⟨a1, a2⟩, a3⟩, a4⟩, a5⟩, a6⟩; refine ⟨⟨⟨⟨?_, ?_⟩, ?_⟩, ?_⟩, ?_, ?_⟩ <;> omega
 ·rintro ⟨⟨⟨⟨a1, a2⟩, a3⟩, a4⟩, a5, a6⟩; exact ⟨⟨⟨⟨⟨a1, x2 a2⟩, a3⟩, y2 a4⟩, a5⟩, z2 a6⟩
def gridZ (zs : List Int) (D : Int) (c : Nat → Bool) : Nat → Int
 | 0 => 0
 | m + 1 => gridZ zs D c m + if c m = true then D * (zs.getD (m + 1) 0 - zs.getD m 0) else 0
def gridC (bs : List Box6) (xs ys zs : List Int) (i k m : Nat) : Bool := inG bs (xs.getD i 0) (xs.getD (i + 1) 0) (ys.getD k 0) (ys.getD (k + 1) 0) (zs.getD m 0) (zs.getD (m + 1) 0)
def gridY (bs : List Box6) (xs ys zs : List Int) (i : Nat) : Nat → Int
 | 0 => 0
 | k + 1 => gridY bs xs ys zs i k + gridZ zs ((xs.getD (i + 1) 0 - xs.getD i 0) * (ys.getD (k + 1) 0 - ys.getD k 0)) (gridC bs xs ys zs i k) (zs.length - 1)
def gridX (bs : List Box6) (xs ys zs : List Int) : Nat → Int
 | 0 => 0
 | i + 1 => gridX bs xs ys zs i + gridY bs xs ys zs i (ys.length - 1)
theorem gridZ_eq {zs : List Int} {D : Int} {c : Nat → Bool} {c' : Int → Bool} (h : ∀ m, m + 1 < zs.length → c m = c' (zs.getD m 0)) : ∀ n, n + 1 ≤ zs.length → gridZ zs D c n = volZ zs D c' n
 | 0, _ => rfl
 | n + 1, hn => by rw [gridZ, volZ, gridZ_eq h n (by omega), h n (by omega)]
theorem Grid.yEq {bs : List Box6} {xs ys zs : List Int} (h : Grid bs xs ys zs) (hok : ∀ b ∈ bs, b.ok) {i : Nat} (hi : i + 1 < xs.length) : ∀ k, k + 1 ≤ ys.length → gridY bs xs ys zs i k = volK ys (xs.getD (i + 1) 0 - xs.getD i 0) (hAt bs (xs.getD i 0)) k
 | 0, _ => rfl
 | k + 1, hk => by
  obtain ⟨_, _, bz⟩ := marks_bd hok
  rw [gridY, volK, h.yEq hok hi k (by omega)]
  congr 1
  by_cases hz : zs = []
  ·subst hz
   have e : hAt bs (xs.getD i 0) (ys.getD k 0) = 0 := by
    have : ∀ b ∈ bs, False := fun b hb => by have := (h.z hb).1; simp at this
    unfold hAt; rw [filter_nil fun b hb => (this b hb).elim, hgt_nil]
   rw [e]; simp [gridZ]
  ·have h0 : 0 < zs.length := List.length_pos_iff.2 hz
   rw [gridZ_eq (c := gridC bs xs ys zs i k) (c' := cov (bs.filter (atB (xs.getD i 0) (ys.getD k 0)))) (fun m hm => (h.in_ hi (by omega) hm : gridC bs xs ys zs i k m = _)) (zs.length - 1) (by omega), volZ_step, hgt_step h.az (fun b hb => h.z (List.mem_filter.1 hb).1) fun z hz => bz z ((h.mz z).1 hz)]
   rfl
theorem Grid.xEq {bs : List Box6} {xs ys zs : List Int} (h : Grid bs xs ys zs) (hok : ∀ b ∈ bs, b.ok) : ∀ i, i + 1 ≤ xs.length → gridX bs xs ys zs i = volI xs ys (hAt bs) i
 | 0, _ => rfl
 | i + 1, hi => by
  have hy : 1 ≤ ys.length := by
   have hx := getD_mem (xs := xs) (i := i) (by omega)
   obtain ⟨b, hb, _⟩ := List.mem_flatMap.1 ((h.mx _).1 hx)
   exact List.length_pos_iff.2 (List.ne_nil_of_mem (h.y hb).1)
  rw [gridX, volI, h.xEq hok i (by omega), h.yEq hok (by omega) _ (by omega)]
/-! Bounds. -/
theorem mul_le {a b A B : Int} (ha : 0 ≤ a) (hb : 0 ≤ b) (h1 : a ≤ A) (h2 : b ≤ B) : 0 ≤ a * b ∧ a * b ≤ A * B := ⟨Int.mul_nonneg ha hb, Int.mul_le_mul h1 h2 hb (by omega)⟩
theorem hgt_bd (l : List Box6) : 0 ≤ hgt l ∧ hgt l ≤ 600000 := by
 have := sumF_bd (f := fun z => if cov l z = true then 1 else 0) (lo := -300000) (B := 1) (fun z => by split <;> simp) 600000
 unfold hgt; rw [cntF_sum]; omega
theorem getD_bd {ys : List Int} (hb : ∀ z ∈ ys, -300000 ≤ z ∧ z ≤ 300000) (k : Nat) : -300000 ≤ ys.getD k 0 ∧ ys.getD k 0 ≤ 300000 := by
 by_cases hk : k < ys.length
 ·exact hb _ (getD_mem hk)
 ·rw [show ys.getD k 0 = 0 by simp [List.getD, (show ys.length ≤ k by omega)]]; omega
theorem volK_bd {ys : List Int} (hs : ys.Pairwise (· < ·)) {dx : Int} (hd : 0 ≤ dx) {h : Int → Int} (hh : ∀ z, 0 ≤ h z ∧ h z ≤ 600000) : ∀ k, k + 1 ≤ ys.length → 0 ≤ volK ys dx h k ∧ volK ys dx h k ≤ dx * (600000 * (ys.getD k 0 - ys.getD 0 0))
 | 0, _ => by simp [volK]
 | k + 1, hk => by
  have ih := volK_bd hs hd hh k (by omega)
  have h1 := next_lt hs (i := k) (by omega)
  rw [volK]
  generalize ys.getD (k + 1) 0 = p at *
  generalize ys.getD k 0 = q at *
  have h2 := mul_le (a := p - q) (b := h q) (A := p - q) (B := 600000) (by omega) (hh q).1 (by omega) (hh q).2
  have h3 := mul_le (a := dx) (b := (p - q) * h q) (A := dx) (B := (p - q) * 600000) hd h2.1 (by omega) h2.2
  rw [Int.mul_assoc, show 600000 * (p - ys.getD 0 0) = 600000 * (q - ys.getD 0 0) + (p - q) * 600000 by omega, Int.mul_add]
  omega
theorem mul_top {d a A : Int} (hd : 0 ≤ d) (h : a ≤ A) : d * a ≤ d * A := Int.mul_le_mul_of_nonneg_left h hd
theorem volK_le {ys : List Int} (hs : ys.Pairwise (· < ·)) (hb : ∀ z ∈ ys, -300000 ≤ z ∧ z ≤ 300000) {dx : Int} (hd : 0 ≤ dx) {h : Int → Int} (hh : ∀ z, 0 ≤ h z ∧ h z ≤ 600000) {k : Nat} (hk : k + 1 ≤ ys.length) : 0 ≤ volK ys dx h k ∧ volK ys dx h k ≤ 360000000000 * dx := by
 have h1 := volK_bd hs hd hh k hk
 have b3 := getD_bd hb 0
 have b4 := getD_bd hb k
 have := mul_top (a := 600000 * (ys.getD k 0 - ys.getD 0 0)) (A := 360000000000) hd (by omega)
 omega
theorem volI_bd {xs ys : List Int} (hx : xs.Pairwise (· < ·)) (hy : ys.Pairwise (· < ·)) (hb : ∀ z ∈ ys, -300000 ≤ z ∧ z ≤ 300000) (h1 : 1 ≤ ys.length) {h : Int → Int → Int} (hh : ∀ x z, 0 ≤ h x z ∧ h x z ≤ 600000) : ∀ i, i + 1 ≤ xs.length → 0 ≤ volI xs ys h i ∧ volI xs ys h i ≤ 360000000000 * (xs.getD i 0 - xs.getD 0 0)
 | 0, _ => by simp [volI]
 | i + 1, hi => by
  have ih := volI_bd hx hy hb h1 hh i (by omega)
  have h2 := next_lt hx (i := i) (by omega)
  have h3 := volK_le hy hb (dx := xs.getD (i + 1) 0 - xs.getD i 0) (by omega) (hh (xs.getD i 0)) (k := ys.length - 1) (by omega)
  rw [volI]
  omega
theorem volI_le {xs ys : List Int} (hx : xs.Pairwise (· < ·)) (bx : ∀ z ∈ xs, -300000 ≤ z ∧ z ≤ 300000) (hy : ys.Pairwise (· < ·)) (hb : ∀ z ∈ ys, -300000 ≤ z ∧ z ≤ 300000) (h1 : 1 ≤ ys.length) {h : Int → Int → Int} (hh : ∀ x z, 0 ≤ h x z ∧ h x z ≤ 600000) {i : Nat} (hi : i + 1 ≤ xs.length) : 0 ≤ volI xs ys h i ∧ volI xs ys h i ≤ 216000000000000000 := by
 have := volI_bd hx hy hb h1 hh i hi
 have := getD_bd bx i
 have := getD_bd bx 0
 omega
/-! One box; two parts. -/
theorem volB_one {b : Box6} (h : b.ok) (hx : b.x1 < b.x2) (hy : b.y1 < b.y2) : volB [b] = (b.x2 - b.x1) * (b.y2 - b.y1) * (b.z2 - b.z1) := by
 have h0 : volI [b.x1, b.x2] [b.y1, b.y2] (hAt [b]) 1 = volB [b] := volI_vol (bs := [b]) (fun c hc => by simp only [List.mem_singleton] at hc; subst hc; exact h) (by simp; omega) (by simp [marksX]) (by simp; omega) (by simp [marksY])
 rw [← h0]
 simp only [volI, volK, List.length_cons, List.length_nil]
 have e : hAt [b] b.x1 b.y1 = b.z2 - b.z1 := by
  have : [b].filter (atB b.x1 b.y1) = [b] := by simp [atB, hx, hy]
  unfold hAt
  rw [this, ← foldH_hgt (l := [b]) (r := [b]) (List.Perm.refl _) (by simp) (fun c hc => by simp only [List.mem_singleton] at hc; subst hc; exact h.z)]
  have := h.z
  unfold Box6.zok at this
  simp only [foldH]
  split <;> omega
 simp [e]
end Go.Proofs.YtgjmfdhgeahdcaaGreat
/- Boxes as cells; the normal form is that of the points (plain). -/
set_option linter.unusedVariables false
set_option linter.unusedSimpArgs false
set_option maxRecDepth 100000
namespace Go.Proofs.YtgjmfdhgeahdcaaGreat

/-! The normal form is that of the points. -/
/-! Boxes as cells. -/
structure Box6.fit (b : Box6) : Prop where
 x : -300000 ≤ b.x1 ∧ b.x1 < b.x2 ∧ b.x2 ≤ 300000
 y : -300000 ≤ b.y1 ∧ b.y1 < b.y2 ∧ b.y2 ≤ 300000
 z : -300000 ≤ b.z1 ∧ b.z1 < b.z2 ∧ b.z2 ≤ 300000
def boxP (b : Box6) : List Pl := [⟨-1, 0, 0, -b.x1⟩, ⟨0, -1, 0, -b.y1⟩, ⟨0, 0, -1, -b.z1⟩, ⟨0, 0, 1, b.z2⟩, ⟨0, 1, 0, b.y2⟩, ⟨1, 0, 0, b.x2⟩]
theorem EE_mk (a b c d : Int) (o : Co) : EE ⟨a, b, c, d⟩ o = a * o.x + b * o.y + c * o.z - d * o.n := rfl
theorem box_forall {b : Box6} {P : Pl → Prop} : (∀ p ∈ boxP b, P p) ↔ P ⟨-1, 0, 0, -b.x1⟩ ∧ P ⟨0, -1, 0, -b.y1⟩ ∧ P ⟨0, 0, -1, -b.z1⟩ ∧ P ⟨0, 0, 1, b.z2⟩ ∧ P ⟨0, 1, 0, b.y2⟩ ∧ P ⟨1, 0, 0, b.x2⟩ := by
 unfold boxP; simp only [List.forall_mem_cons, List.not_mem_nil, false_implies, implies_true, and_true]
theorem box_inner {b : Box6} {o : Co} : Inner (boxP b) o ↔ 0 < o.n ∧ (b.x1 * o.n < o.x ∧ o.x < b.x2 * o.n) ∧ (b.y1 * o.n < o.y ∧ o.y < b.y2 * o.n) ∧ (b.z1 * o.n < o.z ∧ o.z < b.z2 * o.n) := by
 unfold Inner
 rw [box_forall]
 simp only [EE_mk, Int.neg_mul]
 omega
theorem box_asc (b : Box6) : (boxP b).Pairwise (fun x y => ltL x y = true) := by
 unfold boxP
 simp [List.pairwise_cons, ltL]
def dirV : Nat → Vec
 | 0 => ⟨-1, 0, 0⟩ | 1 => ⟨0, -1, 0⟩ | 2 => ⟨0, 0, -1⟩ | 3 => ⟨1, 0, 0⟩ | 4 => ⟨0, 1, 0⟩ | _ => ⟨0, 0, 1⟩
def sgK (k : Nat) : Int := if k < 3 then -1 else 1
theorem bstep_at {B B' : Box6} {p : Pl} (h : bstep B p = some B') : ∃ k, k < 6 ∧ nrm p = dirV k ∧ B'.at_ k = sgK k * p.d ∧ ∀ j, j < 6 → j ≠ k → B'.at_ j = B.at_ j := by
 have six : ∀ {P : Nat → Prop}, P 0 → P 1 → P 2 → P 3 → P 4 → P 5 → ∀ j, j < 6 → P j := fun p0 p1 p2 p3 p4 p5 j hj => by
  match j, hj with
  | 0, _ => exact p0
  | 1, _ => exact p1
  | 2, _ => exact p2
  | 3, _ => exact p3
  | 4, _ => exact p4
  | 5, _ => exact p5
 unfold bstep at h
 split at h
 ·rename_i e; cases h; exact ⟨0, by decide, e, by simp [Box6.at_, sgK], six (by simp) (by simp [Box6.at_]) (by simp [Box6.at_]) (by simp [Box6.at_]) (by simp [Box6.at_]) (by simp [Box6.at_])⟩
 split at h
 ·rename_i e; cases h; exact ⟨1, by decide, e, by simp [Box6.at_, sgK], six (by simp [Box6.at_]) (by simp) (by simp [Box6.at_]) (by simp [Box6.at_]) (by simp [Box6.at_]) (by simp [Box6.at_])⟩
 split at h
 ·rename_i e; cases h; exact ⟨2, by decide, e, by simp [Box6.at_, sgK], six (by simp [Box6.at_]) (by simp [Box6.at_]) (by simp) (by simp [Box6.at_]) (by simp [Box6.at_]) (by simp [Box6.at_])⟩
 split at h
 ·rename_i e; cases h; exact ⟨3, by decide, e, by simp [Box6.at_, sgK], six (by simp [Box6.at_]) (by simp [Box6.at_]) (by simp [Box6.at_]) (by simp) (by simp [Box6.at_]) (by simp [Box6.at_])⟩
 split at h
 ·rename_i e; cases h; exact ⟨4, by decide, e, by simp [Box6.at_, sgK], six (by simp [Box6.at_]) (by simp [Box6.at_]) (by simp [Box6.at_]) (by simp [Box6.at_]) (by simp) (by simp [Box6.at_])⟩
 split at h
 ·rename_i e; cases h; exact ⟨5, by decide, e, by simp [Box6.at_, sgK], six (by simp [Box6.at_]) (by simp [Box6.at_]) (by simp [Box6.at_]) (by simp [Box6.at_]) (by simp [Box6.at_]) (by simp)⟩
 ·cases h
theorem boxF_unit : ∀ {L : List Pl} {B B' : Box6}, boxF B L = some B' → ∀ p ∈ L, ∃ k, k < 6 ∧ nrm p = dirV k
 | [], _, _, _, p, hp => by simp at hp
 | q :: L, B, B', h, p, hp => by
  unfold boxF at h
  cases hb : bstep B q with
  | none => rw [hb] at h; cases h
  | some B1 =>
   rw [hb] at h
   rcases List.mem_cons.1 hp with rfl | hp
   ·obtain ⟨k, hk, e, _⟩ := bstep_at hb; exact ⟨k, hk, e⟩
   ·exact boxF_unit h p hp
theorem boxF_at {k : Nat} (hk : k < 6) {D : Int} : ∀ {L : List Pl} {B B' : Box6}, boxF B L = some B' → (∀ p ∈ L, nrm p = dirV k → p.d = D) → (B.at_ k = sgK k * D ∨ ∃ p ∈ L, nrm p = dirV k) → B'.at_ k = sgK k * D
 | [], B, B', h, _, h0 => by
  unfold boxF at h; cases h
  rcases h0 with h0 | ⟨p, hp, _⟩
  ·exact h0
  ·simp at hp
 | q :: L, B, B', h, hd, h0 => by
  unfold boxF at h
  cases hb : bstep B q with
  | none => rw [hb] at h; cases h
  | some B1 =>
   rw [hb] at h
   obtain ⟨j, hj, e, e1, e2⟩ := bstep_at hb
   refine boxF_at hk h (fun p hp => hd p (List.mem_cons_of_mem _ hp)) ?_
   by_cases hjk : k = j
   ·subst hjk
    left; rw [e1, hd q List.mem_cons_self e]
   ·rcases h0 with h0 | ⟨p, hp, hn⟩
    ·left; rw [e2 k hk hjk, h0]
    ·rcases List.mem_cons.1 hp with rfl | hp
     ·left
      exfalso
      have hin : ∀ a, a < 6 → ∀ b, b < 6 → dirV a = dirV b → a = b := by decide
      exact hjk (hin k hk j hj (hn.symm.trans e))
     ·right; exact ⟨p, hp, hn⟩
theorem boxO_unit {l : List Pl} {B : Box6} (h : boxO l = some B) : ∀ p ∈ nf l, ∃ k, k < 6 ∧ nrm p = dirV k := boxF_unit h
theorem dir_dot : ∀ a, a < 6 → ∀ b, b < 6 → 0 < dt (dirV a) (dirV b) → a = b := by decide
theorem dir_ne : ∀ k, k < 6 → dirV k ≠ v0 := by decide
theorem nf_some {l : List Pl} (hs : Sol l) (hu : ∀ p ∈ nf l, ∃ k, k < 6 ∧ nrm p = dirV k) {k : Nat} (hk : k < 6) : ∃ p ∈ nf l, nrm p = dirV k := by
 obtain ⟨q, hq, h0⟩ := (nf_sol hs).ray (dirV k) (dir_ne k hk)
 obtain ⟨j, hj, e⟩ := hu q hq
 rw [e] at h0
 have := dir_dot j hj k hk h0
 subst this
 exact ⟨q, hq, e⟩
theorem nf_le {l : List Pl} (hs : Sol l) {p q : Pl} (hp : p ∈ nf l) (hq : q ∈ nf l) (e : nrm p = nrm q) : p.d ≤ q.d := by
 obtain ⟨p', hp', h3, rfl⟩ := mem_nor.1 hp
 obtain ⟨c, hc⟩ : ∃ c, c ∈ (corn l).filter fun c => decide (sd p' c = 0) := by
  unfold onN at h3
  cases hL : (corn l).filter fun c => decide (sd p' c = 0) with
  | nil => rw [hL] at h3; simp at h3
  | cons x L => exact ⟨x, List.mem_cons_self⟩
 rw [List.mem_filter, decide_eq_true_eq, sd_zero] at hc
 have h1 := (EE_low_sign (hs.nrm p' hp') c).2.1.2 hc.2
 have h2 := ((nf_body hs).2 (corn_inB hc.1)).2 q hq
 have hn := (corn_low c hc.1).pos
 unfold EE at h1 h2
 rw [e] at h1
 have : (lowL p').d * c.n ≤ q.d * c.n := by omega
 exact Int.le_of_mul_le_mul_right this hn
theorem nf_one {l : List Pl} (hs : Sol l) {p q : Pl} (hp : p ∈ nf l) (hq : q ∈ nf l) (e : nrm p = nrm q) : p.d = q.d := Int.le_antisymm (nf_le hs hp hq e) (nf_le hs hq hp e.symm)
theorem mk_of {p : Pl} {a b c d : Int} (h : nrm p = ⟨a, b, c⟩) (hd : p.d = d) : p = ⟨a, b, c, d⟩ := by
 cases p; simp only [nrm, Vec.mk.injEq] at h; simp only [Pl.mk.injEq]; simp only at hd; omega
theorem box_of' {l : List Pl} {B : Box6} (hs : Sol l) (hroom : ∀ c ∈ corn l, inRoomB c = true) (hB : boxO l = some B) : nf l = boxP B ∧ B.fit := by
 have hu := boxO_unit hB
 have key : ∀ k, k < 6 → ∃ p ∈ nf l, nrm p = dirV k ∧ B.at_ k = sgK k * p.d := fun k hk => by
  obtain ⟨p, hp, e⟩ := nf_some hs hu hk
  exact ⟨p, hp, e, boxF_at hk hB (fun q hq e' => nf_one hs hq hp (e'.trans e.symm)) (.inr ⟨p, hp, e⟩)⟩
 have key2 : ∀ k, k < 6 → ∀ q ∈ nf l, nrm q = dirV k → B.at_ k = sgK k * q.d := fun k hk q hq e => by
  obtain ⟨p, hp, e1, e2⟩ := key k hk
  rw [e2, nf_one hs hp hq (e1.trans e.symm)]
 have hnf : nf l = boxP B := by
  refine asc_unique ordL (fun _ _ => trivial) (fun _ _ => trivial) (nor_asc _ _) (box_asc B) fun q => ⟨fun hq => ?_, fun hq => ?_⟩
  ·obtain ⟨k, hk, e⟩ := hu q hq
   have e2 := key2 k hk q hq e
   match k, hk with
   | 0, _ => rw [mk_of e (d := -B.x1) (by simp only [Box6.at_, sgK] at e2; simp at e2; omega)]; simp [boxP]
   | 1, _ => rw [mk_of e (d := -B.y1) (by simp only [Box6.at_, sgK] at e2; simp at e2; omega)]; simp [boxP]
   | 2, _ => rw [mk_of e (d := -B.z1) (by simp only [Box6.at_, sgK] at e2; simp at e2; omega)]; simp [boxP]
   | 3, _ => rw [mk_of e (d := B.x2) (by simp only [Box6.at_, sgK] at e2; simp at e2; omega)]; simp [boxP]
   | 4, _ => rw [mk_of e (d := B.y2) (by simp only [Box6.at_, sgK] at e2; simp at e2; omega)]; simp [boxP]
   | 5, _ => rw [mk_of e (d := B.z2) (by simp only [Box6.at_, sgK] at e2; simp at e2; omega)]; simp [boxP]
  ·have go : ∀ k, k < 6 → ∀ r : Pl, (∀ p : Pl, nrm p = dirV k → B.at_ k = sgK k * p.d → p = r) → r ∈ nf l := fun k hk r hr => by
     obtain ⟨p, hp, e1, e2⟩ := key k hk
     rw [← hr p e1 e2]; exact hp
   revert q
   rw [box_forall]
   refine ⟨go 0 (by decide) _ ?_, go 1 (by decide) _ ?_, go 2 (by decide) _ ?_, go 5 (by decide) _ ?_, go 4 (by decide) _ ?_, go 3 (by decide) _ ?_⟩ <;> intro p e1 e2 <;> simp only [Box6.at_, sgK] at e2 <;> simp at e2 <;> exact mk_of e1 (by omega)
 refine ⟨hnf, ?_⟩
 obtain ⟨o, ho⟩ := (nf_sol hs).inner
 rw [hnf] at ho
 obtain ⟨hn, ⟨x1, x2⟩, ⟨y1, y2⟩, z1, z2⟩ := box_inner.1 ho
 have lt : ∀ {a b : Int}, a * o.n < b * o.n → a < b := fun h => Int.lt_of_mul_lt_mul_right h (by omega)
 have hc := nor_corn hs
 have room : ∀ k, k < 6 → -300000 ≤ B.at_ k ∧ B.at_ k ≤ 300000 := fun k hk => by
  obtain ⟨p, hp, e1, e2⟩ := key k hk
  obtain ⟨p', hp', h3, rfl⟩ := mem_nor.1 hp
  obtain ⟨c, hc⟩ : ∃ c, c ∈ (corn l).filter fun c => decide (sd p' c = 0) := by
   unfold onN at h3
   cases hL : (corn l).filter fun c => decide (sd p' c = 0) with
   | nil => rw [hL] at h3; simp at h3
   | cons x L => exact ⟨x, List.mem_cons_self⟩
  rw [List.mem_filter, decide_eq_true_eq, sd_zero] at hc
  have h1 := (EE_low_sign (hs.nrm p' hp') c).2.1.2 hc.2
  have hr := hroom c hc.1
  have hn := (corn_low c hc.1).pos
  unfold inRoomB withinB at hr
  simp only [Bool.and_eq_true, decide_eq_true_eq] at hr
  unfold EE at h1
  rw [e1] at h1
  generalize (lowL p').d = D at *
  have le : ∀ {a b : Int}, a * c.n ≤ b * c.n → a ≤ b := fun h => Int.le_of_mul_le_mul_right h hn
  have hD : -300000 ≤ D ∧ D ≤ 300000 := by
   match k, hk with
   | 0, _ => simp only [dirV, dt, vec] at h1; exact ⟨le (by omega), le (by omega)⟩
   | 1, _ => simp only [dirV, dt, vec] at h1; exact ⟨le (by omega), le (by omega)⟩
   | 2, _ => simp only [dirV, dt, vec] at h1; exact ⟨le (by omega), le (by omega)⟩
   | 3, _ => simp only [dirV, dt, vec] at h1; exact ⟨le (by omega), le (by omega)⟩
   | 4, _ => simp only [dirV, dt, vec] at h1; exact ⟨le (by omega), le (by omega)⟩
   | 5, _ => simp only [dirV, dt, vec] at h1; exact ⟨le (by omega), le (by omega)⟩
  rw [e2]; unfold sgK; split <;> omega
 have r0 := room 0 (by decide); have r1 := room 1 (by decide); have r2 := room 2 (by decide)
 have r3 := room 3 (by decide); have r4 := room 4 (by decide); have r5 := room 5 (by decide)
 simp only [Box6.at_] at r0 r1 r2 r3 r4 r5
 exact ⟨⟨r0.1, lt (by omega), r3.2⟩, ⟨r1.1, lt (by omega), r4.2⟩, ⟨r2.1, lt (by omega), r5.2⟩⟩
theorem box_of {l : List Pl} {B : Box6} (h : readE l = 0) (hB : boxO l = some B) : nf l = boxP B ∧ B.fit := box_of' (sol_of h) (List.all_eq_true.1 (readE_zero.1 h).2.2.2.2) hB
end Go.Proofs.YtgjmfdhgeahdcaaGreat
/- What is left and what is common of solids of boxes: their volumes (plain). -/
set_option linter.unusedVariables false
set_option linter.unusedSimpArgs false
set_option maxRecDepth 100000
namespace Go.Proofs.YtgjmfdhgeahdcaaGreat

/-! What is left and what is common of solids of boxes. -/
theorem Box6.fit.ok {b : Box6} (h : b.fit) : b.ok := by
 obtain ⟨hx, hy, hz⟩ := h
 exact ⟨by omega, by omega, by unfold Box6.zok; omega⟩
end Go.Proofs.YtgjmfdhgeahdcaaGreat
