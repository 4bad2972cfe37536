/- The volume of boxes: sums by places, by a grid, and by unit cells are one (plain). -/
import Derived.Test.YtbhgkadklklmbaaGreatQJ
import Derived.Test.YtbhgkadklklmbaaGreatQD
set_option linter.unusedVariables false
set_option linter.unusedSimpArgs false
namespace Go.Proofs.YtbhgkadklklmbaaGreat

/-! Sums over whole numbers. -/
def sumF (f : Int → Int) (lo : Int) : Nat → Int
 | 0 => 0
 | n + 1 => sumF f lo n + f (lo + n)
theorem cntF_sum (f : Int → Bool) (lo : Int) : ∀ n, cntF f lo n = sumF (fun z => if f z = true then 1 else 0) lo n
 | 0 => rfl
 | n + 1 => by rw [cntF, sumF, cntF_sum f lo n]
theorem sumF_congr {f g : Int → Int} {lo : Int} : ∀ {n : Nat}, (∀ z, lo ≤ z → z < lo + n → f z = g z) → sumF f lo n = sumF g lo n
 | 0, _ => rfl
 | n + 1, h => by
  rw [sumF, sumF, sumF_congr (n := n) fun z h1 h2 => h z h1 (by omega), h _ (by omega) (by omega)]
theorem sumF_split (f : Int → Int) (lo : Int) (m : Nat) : ∀ n : Nat, sumF f lo (m + n) = sumF f lo m + sumF f (lo + m) n
 | 0 => by simp [sumF]
 | n + 1 => by
  rw [← Nat.add_assoc, sumF, sumF, sumF_split f lo m n, show lo + ((m + n : Nat) : Int) = lo + m + n by omega]; omega
theorem sumF_const {f : Int → Int} {lo c : Int} : ∀ {n : Nat}, (∀ z, lo ≤ z → z < lo + n → f z = c) → sumF f lo n = n * c
 | 0, _ => by simp [sumF]
 | n + 1, h => by
  rw [sumF, sumF_const (c := c) (n := n) fun z h1 h2 => h z h1 (by omega), h _ (by omega) (by omega)]
  have : ((n + 1 : Nat) : Int) = n + 1 := by omega
  rw [this, Int.add_mul]; omega
theorem sumF_add (f g : Int → Int) (lo : Int) : ∀ n, sumF (fun z => f z + g z) lo n = sumF f lo n + sumF g lo n
 | 0 => rfl
 | n + 1 => by rw [sumF, sumF, sumF, sumF_add f g lo n]; omega
theorem sumF_bd {f : Int → Int} {lo B : Int} (h : ∀ z, 0 ≤ f z ∧ f z ≤ B) : ∀ n : Nat, 0 ≤ sumF f lo n ∧ sumF f lo n ≤ n * B
 | 0 => by simp [sumF]
 | n + 1 => by
  have := sumF_bd (lo := lo) h n
  have h1 := h (lo + n)
  rw [sumF, show ((n + 1 : Nat) : Int) = n + 1 by omega, Int.add_mul]; omega
/-- The sum between two numbers. -/
def sumB (f : Int → Int) (p q : Int) : Int := sumF f p (q - p).toNat
theorem sumB_split {f : Int → Int} {p m q : Int} (h1 : p ≤ m) (h2 : m ≤ q) : sumB f p q = sumB f p m + sumB f m q := by
 unfold sumB
 rw [show (q - p).toNat = (m - p).toNat + (q - m).toNat by omega, sumF_split, show p + ((m - p).toNat : Int) = m by omega]
theorem sumB_const {f : Int → Int} {p q c : Int} (hpq : p ≤ q) (h : ∀ z, p ≤ z → z < q → f z = c) : sumB f p q = (q - p) * c := by
 unfold sumB
 rw [sumF_const (c := c) fun z h1 h2 => h z h1 (by omega), show ((q - p).toNat : Int) = q - p by omega]
def stepS (f : Int → Int) : List Int → Int
 | [] => 0
 | [_] => 0
 | a :: b :: l => (b - a) * f a + stepS f (b :: l)
theorem step_tail {f : Int → Int} {hi : Int} : ∀ {l : List Int} {a : Int}, (a :: l).Pairwise (· < ·) → (∀ x ∈ a :: l, x ≤ hi) → (∀ z w, a ≤ z → a ≤ w → (∀ x ∈ l, x ≤ z ↔ x ≤ w) → f z = f w) → (∀ z, a ≤ z → (∀ x ∈ l, x ≤ z) → f z = 0) → sumB f a hi = stepS f (a :: l)
 | [], a, _, hb, _, h0 => by
  rw [sumB_const (c := 0) (hb a List.mem_cons_self) fun z h1 _ => h0 z h1 (fun x hx => by simp at hx), stepS]; simp
 | b :: l, a, hp, hb, hc, h0 => by
  rw [List.pairwise_cons] at hp
  have hab := hp.1 b List.mem_cons_self
  have hbl := (List.pairwise_cons.1 hp.2).1
  rw [sumB_split (m := b) (by omega) (hb b (by simp)), stepS, sumB_const (c := f a) (by omega) fun z h1 h2 => hc z a h1 (by omega) fun x hx => ?_]
  ·rw [step_tail (l := l) (a := b) hp.2 (fun x hx => hb x (List.mem_cons_of_mem _ hx)) (fun z w hz hw h => hc z w (by omega) (by omega) fun x hx => ?_) (fun z hz h => h0 z (by omega) fun x hx => ?_)]
   ·rcases List.mem_cons.1 hx with rfl | hx
    ·constructor <;> intro <;> omega
    ·exact h x hx
   ·rcases List.mem_cons.1 hx with rfl | hx
    ·exact hz
    ·exact h x hx
  ·have : b ≤ x := by
     rcases List.mem_cons.1 hx with rfl | hx
     ·omega
     ·have := hbl x hx; omega
   constructor <;> intro <;> omega
/-- A function that depends on which marks lie at or below alone, and is 0 before the first and behind the last. -/
structure Steps (f : Int → Int) (xs : List Int) : Prop where
 asc : xs.Pairwise (· < ·)
 dep : ∀ z w, (∀ x ∈ xs, x ≤ z ↔ x ≤ w) → f z = f w
 low : ∀ z, (∀ x ∈ xs, ¬ x ≤ z) → f z = 0
 high : ∀ z, (∀ x ∈ xs, x ≤ z) → f z = 0
theorem Steps.sum {f : Int → Int} {xs : List Int} (h : Steps f xs) {lo hi : Int} (hlh : lo ≤ hi) (hb : ∀ x ∈ xs, lo ≤ x ∧ x ≤ hi) : sumB f lo hi = stepS f xs := by
 cases xs with
 | nil => rw [sumB_const (c := 0) hlh fun z _ _ => h.low z (fun x hx => by simp at hx), stepS]; simp
 | cons a l =>
  have ha := hb a List.mem_cons_self
  have hal := (List.pairwise_cons.1 h.asc).1
  rw [sumB_split (m := a) ha.1 ha.2, sumB_const (c := 0) ha.1 fun z _ hz => h.low z fun x hx => ?_, step_tail h.asc (fun x hx => (hb x hx).2) (fun z w hz hw e => h.dep z w fun x hx => ?_) (fun z hz e => h.high z fun x hx => ?_)]
  ·simp
  ·rcases List.mem_cons.1 hx with rfl | hx
   ·constructor <;> intro <;> omega
   ·exact e x hx
  ·rcases List.mem_cons.1 hx with rfl | hx
   ·exact hz
   ·exact e x hx
  ·rcases List.mem_cons.1 hx with rfl | hx
   ·omega
   ·have := hal x hx; omega
/-! The same sums, by places. -/
def volK (ys : List Int) (dx : Int) (h : Int → Int) : Nat → Int
 | 0 => 0
 | k + 1 => volK ys dx h k + dx * (ys.getD (k + 1) 0 - ys.getD k 0) * h (ys.getD k 0)
def volI (xs ys : List Int) (h : Int → Int → Int) : Nat → Int
 | 0 => 0
 | i + 1 => volI xs ys h i + volK ys (xs.getD (i + 1) 0 - xs.getD i 0) (h (xs.getD i 0)) (ys.length - 1)
theorem volK_shift (a : Int) (ys : List Int) (dx : Int) (h : Int → Int) : ∀ k, volK (a :: ys) dx h (k + 1) = dx * (ys.getD 0 0 - a) * h a + volK ys dx h k
 | 0 => by simp [volK]
 | k + 1 => by
  rw [volK, volK_shift a ys dx h k]
  simp only [volK, List.getD_cons_succ]; omega
theorem volK_step (dx : Int) (h : Int → Int) : ∀ ys : List Int, volK ys dx h (ys.length - 1) = dx * stepS h ys
 | [] => by simp [volK, stepS]
 | [a] => by simp [volK, stepS]
 | a :: b :: l => by
  rw [show (a :: b :: l).length - 1 = ((b :: l).length - 1) + 1 by simp, volK_shift, volK_step dx h (b :: l), stepS]
  simp only [List.getD_cons_zero, Int.mul_add, Int.mul_assoc]
theorem volI_shift (a : Int) (xs ys : List Int) (h : Int → Int → Int) : ∀ k, volI (a :: xs) ys h (k + 1) = volK ys (xs.getD 0 0 - a) (h a) (ys.length - 1) + volI xs ys h k
 | 0 => by simp [volI]
 | k + 1 => by
  rw [volI, volI_shift a xs ys h k]
  simp only [volI, List.getD_cons_succ]; omega
theorem volI_step (ys : List Int) (h : Int → Int → Int) : ∀ xs : List Int, volI xs ys h (xs.length - 1) = stepS (fun x => stepS (h x) ys) xs
 | [] => by simp [volI, stepS]
 | [a] => by simp [volI, stepS]
 | a :: b :: l => by
  rw [show (a :: b :: l).length - 1 = ((b :: l).length - 1) + 1 by simp, volI_shift, volI_step ys h (b :: l), stepS, volK_step]
  rfl
/-! Boxes. -/
structure Box6.ok (b : Box6) : Prop where
 x : -300000 ≤ b.x1 ∧ b.x1 ≤ b.x2 ∧ b.x2 ≤ 300000
 y : -300000 ≤ b.y1 ∧ b.y1 ≤ b.y2 ∧ b.y2 ≤ 300000
 z : b.zok
def marksX (bs : List Box6) : List Int := bs.flatMap fun b => [b.x1, b.x2]
def marksY (bs : List Box6) : List Int := bs.flatMap fun b => [b.y1, b.y2]
def marksZ (bs : List Box6) : List Int := bs.flatMap fun b => [b.z1, b.z2]
/-- The height over a place. -/
def hAt (bs : List Box6) (x y : Int) : Int := hgt (bs.filter (atB x y))
/-- The number of unit cells that boxes cover. -/
def volB (bs : List Box6) : Int := sumB (fun x => sumB (fun y => hAt bs x y) (-300000) 300000) (-300000) 300000
theorem hgt_nil : hgt [] = 0 := by
 unfold hgt
 have : ∀ n, cntF (cov []) (-300000) n = 0 := fun n => by
  induction n with
  | zero => rfl
  | succ n ih => rw [cntF, ih]; simp [cov]
 exact this _
theorem filter_nil {bs : List Box6} {p : Box6 → Bool} (h : ∀ b ∈ bs, p b = false) : bs.filter p = [] := by
 rw [List.filter_eq_nil_iff]; intro b hb; rw [h b hb]; exact Bool.false_ne_true
theorem hAt_y {bs : List Box6} {ys : List Int} (hs : ys.Pairwise (· < ·)) (hm : ∀ z, z ∈ ys ↔ z ∈ marksY bs) (x : Int) : Steps (fun y => hAt bs x y) ys := by
 have m1 : ∀ b ∈ bs, b.y1 ∈ ys ∧ b.y2 ∈ ys := fun b hb => ⟨(hm _).2 (List.mem_flatMap.2 ⟨b, hb, by simp⟩), (hm _).2 (List.mem_flatMap.2 ⟨b, hb, by simp⟩)⟩
 refine ⟨hs, fun z w h => ?_, fun z h => ?_, fun z h => ?_⟩
 ·show hgt _ = hgt _
  congr 1
  refine List.filter_congr fun b hb => ?_
  have h1 := h _ (m1 b hb).1
  have h2 := h _ (m1 b hb).2
  unfold atB
  rw [show decide (b.y1 ≤ z) = decide (b.y1 ≤ w) from decide_eq_decide.2 h1, show decide (z < b.y2) = decide (w < b.y2) from decide_eq_decide.2 (by omega)]
 ·show hgt _ = 0
  rw [filter_nil fun b hb => ?_, hgt_nil]
  have := h _ (m1 b hb).1
  unfold atB
  rw [show decide (b.y1 ≤ z) = false from decide_eq_false this]; simp
 ·show hgt _ = 0
  rw [filter_nil fun b hb => ?_, hgt_nil]
  have := h _ (m1 b hb).2
  unfold atB
  rw [show decide (z < b.y2) = false from decide_eq_false (by omega)]; simp
theorem sumB_zero {f : Int → Int} {p q : Int} (hpq : p ≤ q) (h : ∀ z, f z = 0) : sumB f p q = 0 := by rw [sumB_const (c := 0) hpq fun z _ _ => h z]; simp
theorem hAt_x {bs : List Box6} {xs : List Int} (hs : xs.Pairwise (· < ·)) (hm : ∀ z, z ∈ xs ↔ z ∈ marksX bs) : Steps (fun x => sumB (fun y => hAt bs x y) (-300000) 300000) xs := by
 have m1 : ∀ b ∈ bs, b.x1 ∈ xs ∧ b.x2 ∈ xs := fun b hb => ⟨(hm _).2 (List.mem_flatMap.2 ⟨b, hb, by simp⟩), (hm _).2 (List.mem_flatMap.2 ⟨b, hb, by simp⟩)⟩
 refine ⟨hs, fun z w h => ?_, fun z h => ?_, fun z h => ?_⟩
 ·refine congrArg (fun f => sumB f (-300000) 300000) (funext fun y => ?_)
  show hgt _ = hgt _
  congr 1
  refine List.filter_congr fun b hb => ?_
  have h1 := h _ (m1 b hb).1
  have h2 := h _ (m1 b hb).2
  unfold atB
  rw [show decide (b.x1 ≤ z) = decide (b.x1 ≤ w) from decide_eq_decide.2 h1, show decide (z < b.x2) = decide (w < b.x2) from decide_eq_decide.2 (by omega)]
 ·refine sumB_zero (by omega) fun y => ?_
  show hgt _ = 0
  rw [filter_nil fun b hb => ?_, hgt_nil]
  have := h _ (m1 b hb).1
  unfold atB
  rw [show decide (b.x1 ≤ z) = false from decide_eq_false this]; simp
 ·refine sumB_zero (by omega) fun y => ?_
  show hgt _ = 0
  rw [filter_nil fun b hb => ?_, hgt_nil]
  have := h _ (m1 b hb).2
  unfold atB
  rw [show decide (z < b.x2) = false from decide_eq_false (by omega)]; simp
theorem marks_bd {bs : List Box6} (hok : ∀ b ∈ bs, b.ok) : (∀ z ∈ marksX bs, -300000 ≤ z ∧ z ≤ 300000) ∧ (∀ z ∈ marksY bs, -300000 ≤ z ∧ z ≤ 300000) ∧ (∀ z ∈ marksZ bs, -300000 ≤ z ∧ z ≤ 300000) := by
 refine ⟨fun z hz => ?_, fun z hz => ?_, fun z hz => ?_⟩ <;> obtain ⟨b, hb, hz⟩ := List.mem_flatMap.1 hz <;> obtain ⟨h1, h2, h3⟩ := hok b hb <;> simp only [List.mem_cons, List.not_mem_nil, or_false] at hz
 ·rcases hz with rfl | rfl <;> omega
 ·rcases hz with rfl | rfl <;> omega
 ·unfold Box6.zok at h3; rcases hz with rfl | rfl <;> omega
/-- The program's sum is the volume. -/
theorem volI_vol {bs : List Box6} {xs ys : List Int} (hok : ∀ b ∈ bs, b.ok) (hx : xs.Pairwise (· < ·)) (mx : ∀ z, z ∈ xs ↔ z ∈ marksX bs) (hy : ys.Pairwise (· < ·)) (my : ∀ z, z ∈ ys ↔ z ∈ marksY bs) :
    volI xs ys (hAt bs) (xs.length - 1) = volB bs := by
 obtain ⟨bx, bY, bz⟩ := marks_bd hok
 rw [volI_step, volB, (hAt_x hx mx).sum (by omega) fun x h => bx x ((mx x).1 h)]
 exact congrArg (fun f => stepS f xs) (funext fun x => ((hAt_y hy my x).sum (by omega) fun z h => bY z ((my z).1 h)).symm)
/-! The document's grid. -/
def volZ (zs : List Int) (D : Int) (c : Int → Bool) : Nat → Int
 | 0 => 0
 | m + 1 => volZ zs D c m + if c (zs.getD m 0) = true then D * (zs.getD (m + 1) 0 - zs.getD m 0) else 0
theorem volZ_shift (a : Int) (zs : List Int) (D : Int) (c : Int → Bool) : ∀ k, volZ (a :: zs) D c (k + 1) = (if c a = true then D * (zs.getD 0 0 - a) else 0) + volZ zs D c k
 | 0 => by simp [volZ]
 | k + 1 => by
  rw [volZ, volZ_shift a zs D c k]
  simp only [volZ, List.getD_cons_succ]; omega
theorem volZ_step (D : Int) (c : Int → Bool) : ∀ zs : List Int, volZ zs D c (zs.length - 1) = D * stepS (fun z => if c z = true then 1 else 0) zs
 | [] => by simp [volZ, stepS]
 | [a] => by simp [volZ, stepS]
 | a :: b :: l => by
  rw [show (a :: b :: l).length - 1 = ((b :: l).length - 1) + 1 by simp, volZ_shift, volZ_step D c (b :: l), stepS]
  simp only [List.getD_cons_zero, Int.mul_add]
  split <;> simp
theorem cov_steps {l : List Box6} {zs : List Int} (hs : zs.Pairwise (· < ·)) (hm : ∀ b ∈ l, b.z1 ∈ zs ∧ b.z2 ∈ zs) : Steps (fun z => if cov l z = true then 1 else 0) zs := by
 refine ⟨hs, fun z w h => ?_, fun z h => ?_, fun z h => ?_⟩
 ·have : cov l z = cov l w := by
    unfold cov
    rw [Bool.eq_iff_iff, List.any_eq_true, List.any_eq_true]
    refine exists_congr fun b => and_congr_right fun hb => ?_
    have h1 := h _ (hm b hb).1
    have h2 := h _ (hm b hb).2
    simp; omega
  show (if _ then _ else _) = if _ then _ else _
  rw [this]
 ·have : cov l z = false := by
    unfold cov
    rw [List.any_eq_false]
    intro b hb
    have := h _ (hm b hb).1
    simp; omega
  show (if _ then _ else _) = _
  rw [this]; rfl
 ·have : cov l z = false := by
    unfold cov
    rw [List.any_eq_false]
    intro b hb
    have := h _ (hm b hb).2
    simp; omega
  show (if _ then _ else _) = _
  rw [this]; rfl
theorem hgt_step {l : List Box6} {zs : List Int} (hs : zs.Pairwise (· < ·)) (hm : ∀ b ∈ l, b.z1 ∈ zs ∧ b.z2 ∈ zs) (hb : ∀ z ∈ zs, -300000 ≤ z ∧ z ≤ 300000) : stepS (fun z => if cov l z = true then 1 else 0) zs = hgt l := by
 rw [← (cov_steps hs hm).sum (lo := -300000) (hi := 300000) (by omega) hb]
 unfold hgt
 rw [cntF_sum]
 rfl
/-- A place of the grid is covered. -/
def inG (bs : List Box6) (x x' y y' z z' : Int) : Bool := bs.any fun b => decide (b.x1 ≤ x) && decide (x' ≤ b.x2) && decide (b.y1 ≤ y) && decide (y' ≤ b.y2) && decide (b.z1 ≤ z) && decide (z' ≤ b.z2)
theorem next_le {xs : List Int} (hs : xs.Pairwise (· < ·)) {i : Nat} (hi : i + 1 < xs.length) {v : Int} (hv : v ∈ xs) (h : xs.getD i 0 < v) : xs.getD (i + 1) 0 ≤ v := by
 obtain ⟨j, hj, rfl⟩ := List.mem_iff_getElem.1 hv
 rw [List.pairwise_iff_getElem] at hs
 have e1 : xs.getD i 0 = xs[i] := by simp [List.getD, (show i < xs.length by omega)]
 have e2 : xs.getD (i + 1) 0 = xs[i + 1] := by simp [List.getD, hi]
 rw [e1] at h; rw [e2]
 rcases Nat.lt_trichotomy (i + 1) j with h1 | h1 | h1
 ·have := hs _ _ hi hj h1; omega
 ·subst h1; omega
 ·rcases Nat.lt_or_ge j i with h2 | h2
  ·have := hs j i hj (by omega) h2; omega
  ·have : j = i := by omega
   subst this; omega
theorem next_lt {xs : List Int} (hs : xs.Pairwise (· < ·)) {i : Nat} (hi : i + 1 < xs.length) : xs.getD i 0 < xs.getD (i + 1) 0 := by
 rw [List.pairwise_iff_getElem] at hs
 have e1 : xs.getD i 0 = xs[i] := by simp [List.getD, (show i < xs.length by omega)]
 have e2 : xs.getD (i + 1) 0 = xs[i + 1] := by simp [List.getD, hi]
 rw [e1, e2]; exact hs _ _ (by omega) hi (by omega)
theorem getD_mem {xs : List Int} {i : Nat} (hi : i < xs.length) : xs.getD i 0 ∈ xs := by
 rw [show xs.getD i 0 = xs[i] by simp [List.getD, hi]]; exact List.getElem_mem hi
structure Grid (bs : List Box6) (xs ys zs : List Int) : Prop where
 ax : xs.Pairwise (· < ·)
 ay : ys.Pairwise (· < ·)
 az : zs.Pairwise (· < ·)
 mx : ∀ z, z ∈ xs ↔ z ∈ marksX bs
 my : ∀ z, z ∈ ys ↔ z ∈ marksY bs
 mz : ∀ z, z ∈ zs ↔ z ∈ marksZ bs
theorem Grid.x {bs : List Box6} {xs ys zs : List Int} (h : Grid bs xs ys zs) {b : Box6} (hb : b ∈ bs) : b.x1 ∈ xs ∧ b.x2 ∈ xs := ⟨(h.mx _).2 (List.mem_flatMap.2 ⟨b, hb, by simp⟩), (h.mx _).2 (List.mem_flatMap.2 ⟨b, hb, by simp⟩)⟩
theorem Grid.y {bs : List Box6} {xs ys zs : List Int} (h : Grid bs xs ys zs) {b : Box6} (hb : b ∈ bs) : b.y1 ∈ ys ∧ b.y2 ∈ ys := ⟨(h.my _).2 (List.mem_flatMap.2 ⟨b, hb, by simp⟩), (h.my _).2 (List.mem_flatMap.2 ⟨b, hb, by simp⟩)⟩
theorem Grid.z {bs : List Box6} {xs ys zs : List Int} (h : Grid bs xs ys zs) {b : Box6} (hb : b ∈ bs) : b.z1 ∈ zs ∧ b.z2 ∈ zs := ⟨(h.mz _).2 (List.mem_flatMap.2 ⟨b, hb, by simp⟩), (h.mz _).2 (List.mem_flatMap.2 ⟨b, hb, by simp⟩)⟩
theorem Grid.in_ {bs : List Box6} {xs ys zs : List Int} (h : Grid bs xs ys zs) {i k m : Nat} (hi : i + 1 < xs.length) (hk : k + 1 < ys.length) (hm : m + 1 < zs.length) :
    inG bs (xs.getD i 0) (xs.getD (i + 1) 0) (ys.getD k 0) (ys.getD (k + 1) 0) (zs.getD m 0) (zs.getD (m + 1) 0) = cov (bs.filter (atB (xs.getD i 0) (ys.getD k 0))) (zs.getD m 0) := by
 unfold inG cov
 rw [List.any_filter, Bool.eq_iff_iff, List.any_eq_true, List.any_eq_true]
 refine exists_congr fun b => and_congr_right fun hb => ?_
 have x1 := next_lt h.ax hi
 have y1 := next_lt h.ay hk
 have z1 := next_lt h.az hm
 have x2 := next_le h.ax hi (h.x hb).2
 have y2 := next_le h.ay hk (h.y hb).2
 have z2 := next_le h.az hm (h.z hb).2
 unfold atB
 simp only [Bool.and_eq_true, decide_eq_true_eq]
 constructor
 ·rintro ⟨⟨⟨⟨⟨a1, a2⟩, a3⟩, a4⟩, a5⟩, a6⟩; refine ⟨⟨⟨⟨?_, ?_⟩, ?_⟩, ?_⟩, ?_, ?_⟩ <;> omega
 ·rintro ⟨⟨⟨⟨a1, a2⟩, a3⟩, a4⟩, a5, a6⟩; exact ⟨⟨⟨⟨⟨a1, x2 a2⟩, a3⟩, y2 a4⟩, a5⟩, z2 a6⟩
def gridZ (zs : List Int) (D : Int) (c : Nat → Bool) : Nat → Int
 | 0 => 0
 | m + 1 => gridZ zs D c m + if c m = true then D * (zs.getD (m + 1) 0 - zs.getD m 0) else 0
def gridC (bs : List Box6) (xs ys zs : List Int) (i k m : Nat) : Bool := inG bs (xs.getD i 0) (xs.getD (i + 1) 0) (ys.getD k 0) (ys.getD (k + 1) 0) (zs.getD m 0) (zs.getD (m + 1) 0)
def gridY (bs : List Box6) (xs ys zs : List Int) (i : Nat) : Nat → Int
 | 0 => 0
 | k + 1 => gridY bs xs ys zs i k + gridZ zs ((xs.getD (i + 1) 0 - xs.getD i 0) * (ys.getD (k + 1) 0 - ys.getD k 0)) (gridC bs xs ys zs i k) (zs.length - 1)
def gridX (bs : List Box6) (xs ys zs : List Int) : Nat → Int
 | 0 => 0
 | i + 1 => gridX bs xs ys zs i + gridY bs xs ys zs i (ys.length - 1)
theorem gridZ_eq {zs : List Int} {D : Int} {c : Nat → Bool} {c' : Int → Bool} (h : ∀ m, m + 1 < zs.length → c m = c' (zs.getD m 0)) : ∀ n, n + 1 ≤ zs.length → gridZ zs D c n = volZ zs D c' n
 | 0, _ => rfl
 | n + 1, hn => by rw [gridZ, volZ, gridZ_eq h n (by omega), h n (by omega)]
theorem Grid.yEq {bs : List Box6} {xs ys zs : List Int} (h : Grid bs xs ys zs) (hok : ∀ b ∈ bs, b.ok) {i : Nat} (hi : i + 1 < xs.length) : ∀ k, k + 1 ≤ ys.length → gridY bs xs ys zs i k = volK ys (xs.getD (i + 1) 0 - xs.getD i 0) (hAt bs (xs.getD i 0)) k
 | 0, _ => rfl
 | k + 1, hk => by
  obtain ⟨_, _, bz⟩ := marks_bd hok
  rw [gridY, volK, h.yEq hok hi k (by omega)]
  congr 1
  by_cases hz : zs = []
  ·subst hz
   have e : hAt bs (xs.getD i 0) (ys.getD k 0) = 0 := by
    have : ∀ b ∈ bs, False := fun b hb => by have := (h.z hb).1; simp at this
    unfold hAt; rw [filter_nil fun b hb => (this b hb).elim, hgt_nil]
   rw [e]; simp [gridZ]
  ·have h0 : 0 < zs.length := List.length_pos_iff.2 hz
   rw [gridZ_eq (c := gridC bs xs ys zs i k) (c' := cov (bs.filter (atB (xs.getD i 0) (ys.getD k 0)))) (fun m hm => (h.in_ hi (by omega) hm : gridC bs xs ys zs i k m = _)) (zs.length - 1) (by omega), volZ_step, hgt_step h.az (fun b hb => h.z (List.mem_filter.1 hb).1) fun z hz => bz z ((h.mz z).1 hz)]
   rfl
theorem Grid.xEq {bs : List Box6} {xs ys zs : List Int} (h : Grid bs xs ys zs) (hok : ∀ b ∈ bs, b.ok) : ∀ i, i + 1 ≤ xs.length → gridX bs xs ys zs i = volI xs ys (hAt bs) i
 | 0, _ => rfl
 | i + 1, hi => by
  have hy : 1 ≤ ys.length := by
   have hx := getD_mem (xs := xs) (i := i) (by omega)
   obtain ⟨b, hb, _⟩ := List.mem_flatMap.1 ((h.mx _).1 hx)
   exact List.length_pos_iff.2 (List.ne_nil_of_mem (h.y hb).1)
  rw [gridX, volI, h.xEq hok i (by omega), h.yEq hok (by omega) _ (by omega)]
/-- The document's sum is the volume. -/
theorem Grid.vol {bs : List Box6} {xs ys zs : List Int} (h : Grid bs xs ys zs) (hok : ∀ b ∈ bs, b.ok) : gridX bs xs ys zs (xs.length - 1) = volB bs := by
 by_cases hx : xs = []
 ·subst hx
  have : bs = [] := List.eq_nil_iff_forall_not_mem.2 fun b hb => by have := (h.x hb).1; simp at this
  subst this
  unfold volB
  refine (sumB_zero (by omega) fun x => sumB_zero (by omega) fun y => ?_).symm
  unfold hAt; rw [filter_nil fun b hb => by simp at hb, hgt_nil]
 ·have h0 : 0 < xs.length := List.length_pos_iff.2 hx
  rw [h.xEq hok _ (by omega), volI_vol hok h.ax h.mx h.ay h.my]
/-! Bounds. -/
theorem mul_le {a b A B : Int} (ha : 0 ≤ a) (hb : 0 ≤ b) (h1 : a ≤ A) (h2 : b ≤ B) : 0 ≤ a * b ∧ a * b ≤ A * B := ⟨Int.mul_nonneg ha hb, Int.mul_le_mul h1 h2 hb (by omega)⟩
theorem hgt_bd (l : List Box6) : 0 ≤ hgt l ∧ hgt l ≤ 600000 := by
 have := sumF_bd (f := fun z => if cov l z = true then 1 else 0) (lo := -300000) (B := 1) (fun z => by split <;> simp) 600000
 unfold hgt; rw [cntF_sum]; omega
theorem getD_bd {ys : List Int} (hb : ∀ z ∈ ys, -300000 ≤ z ∧ z ≤ 300000) (k : Nat) : -300000 ≤ ys.getD k 0 ∧ ys.getD k 0 ≤ 300000 := by
 by_cases hk : k < ys.length
 ·exact hb _ (getD_mem hk)
 ·rw [show ys.getD k 0 = 0 by simp [List.getD, (show ys.length ≤ k by omega)]]; omega
theorem volK_bd {ys : List Int} (hs : ys.Pairwise (· < ·)) {dx : Int} (hd : 0 ≤ dx) {h : Int → Int} (hh : ∀ z, 0 ≤ h z ∧ h z ≤ 600000) : ∀ k, k + 1 ≤ ys.length → 0 ≤ volK ys dx h k ∧ volK ys dx h k ≤ dx * (600000 * (ys.getD k 0 - ys.getD 0 0))
 | 0, _ => by simp [volK]
 | k + 1, hk => by
  have ih := volK_bd hs hd hh k (by omega)
  have h1 := next_lt hs (i := k) (by omega)
  rw [volK]
  generalize ys.getD (k + 1) 0 = p at *
  generalize ys.getD k 0 = q at *
  have h2 := mul_le (a := p - q) (b := h q) (A := p - q) (B := 600000) (by omega) (hh q).1 (by omega) (hh q).2
  have h3 := mul_le (a := dx) (b := (p - q) * h q) (A := dx) (B := (p - q) * 600000) hd h2.1 (by omega) h2.2
  rw [Int.mul_assoc, show 600000 * (p - ys.getD 0 0) = 600000 * (q - ys.getD 0 0) + (p - q) * 600000 by omega, Int.mul_add]
  omega
theorem mul_top {d a A : Int} (hd : 0 ≤ d) (h : a ≤ A) : d * a ≤ d * A := Int.mul_le_mul_of_nonneg_left h hd
theorem volK_le {ys : List Int} (hs : ys.Pairwise (· < ·)) (hb : ∀ z ∈ ys, -300000 ≤ z ∧ z ≤ 300000) {dx : Int} (hd : 0 ≤ dx) {h : Int → Int} (hh : ∀ z, 0 ≤ h z ∧ h z ≤ 600000) {k : Nat} (hk : k + 1 ≤ ys.length) : 0 ≤ volK ys dx h k ∧ volK ys dx h k ≤ 360000000000 * dx := by
 have h1 := volK_bd hs hd hh k hk
 have b3 := getD_bd hb 0
 have b4 := getD_bd hb k
 have := mul_top (a := 600000 * (ys.getD k 0 - ys.getD 0 0)) (A := 360000000000) hd (by omega)
 omega
theorem volI_bd {xs ys : List Int} (hx : xs.Pairwise (· < ·)) (hy : ys.Pairwise (· < ·)) (hb : ∀ z ∈ ys, -300000 ≤ z ∧ z ≤ 300000) (h1 : 1 ≤ ys.length) {h : Int → Int → Int} (hh : ∀ x z, 0 ≤ h x z ∧ h x z ≤ 600000) : ∀ i, i + 1 ≤ xs.length → 0 ≤ volI xs ys h i ∧ volI xs ys h i ≤ 360000000000 * (xs.getD i 0 - xs.getD 0 0)
 | 0, _ => by simp [volI]
 | i + 1, hi => by
  have ih := volI_bd hx hy hb h1 hh i (by omega)
  have h2 := next_lt hx (i := i) (by omega)
  have h3 := volK_le hy hb (dx := xs.getD (i + 1) 0 - xs.getD i 0) (by omega) (hh (xs.getD i 0)) (k := ys.length - 1) (by omega)
  rw [volI]
  omega
theorem volI_le {xs ys : List Int} (hx : xs.Pairwise (· < ·)) (bx : ∀ z ∈ xs, -300000 ≤ z ∧ z ≤ 300000) (hy : ys.Pairwise (· < ·)) (hb : ∀ z ∈ ys, -300000 ≤ z ∧ z ≤ 300000) (h1 : 1 ≤ ys.length) {h : Int → Int → Int} (hh : ∀ x z, 0 ≤ h x z ∧ h x z ≤ 600000) {i : Nat} (hi : i + 1 ≤ xs.length) : 0 ≤ volI xs ys h i ∧ volI xs ys h i ≤ 216000000000000000 := by
 have := volI_bd hx hy hb h1 hh i hi
 have := getD_bd bx i
 have := getD_bd bx 0
 omega
theorem gridZ_bd {zs : List Int} (hs : zs.Pairwise (· < ·)) (hb : ∀ z ∈ zs, -300000 ≤ z ∧ z ≤ 300000) {D : Int} (hd : 0 ≤ D) (c : Nat → Bool) : ∀ m, m + 1 ≤ zs.length → 0 ≤ gridZ zs D c m ∧ gridZ zs D c m ≤ D * (zs.getD m 0 - zs.getD 0 0)
 | 0, _ => by simp [gridZ]
 | m + 1, hm => by
  have ih := gridZ_bd hs hb hd c m (by omega)
  have h1 := next_lt hs (i := m) (by omega)
  rw [gridZ]
  generalize zs.getD (m + 1) 0 = p at *
  generalize zs.getD m 0 = q at *
  have h3 := mul_le (a := D) (b := p - q) (A := D) (B := p - q) hd (by omega) (by omega) (by omega)
  rw [show p - zs.getD 0 0 = (q - zs.getD 0 0) + (p - q) by omega, Int.mul_add]
  split <;> omega
theorem gridZ_le {zs : List Int} (hs : zs.Pairwise (· < ·)) (hb : ∀ z ∈ zs, -300000 ≤ z ∧ z ≤ 300000) {D : Int} (hd : 0 ≤ D) (c : Nat → Bool) {m : Nat} (hm : m + 1 ≤ zs.length) : 0 ≤ gridZ zs D c m ∧ gridZ zs D c m ≤ 600000 * D := by
 have h1 := gridZ_bd hs hb hd c m hm
 have b3 := getD_bd hb 0
 have b4 := getD_bd hb m
 have := mul_top (a := zs.getD m 0 - zs.getD 0 0) (A := 600000) hd (by omega)
 omega
/-! One box; two parts. -/
theorem volB_one {b : Box6} (h : b.ok) (hx : b.x1 < b.x2) (hy : b.y1 < b.y2) : volB [b] = (b.x2 - b.x1) * (b.y2 - b.y1) * (b.z2 - b.z1) := by
 have h0 : volI [b.x1, b.x2] [b.y1, b.y2] (hAt [b]) 1 = volB [b] := volI_vol (bs := [b]) (fun c hc => by simp only [List.mem_singleton] at hc; subst hc; exact h) (by simp; omega) (by simp [marksX]) (by simp; omega) (by simp [marksY])
 rw [← h0]
 simp only [volI, volK, List.length_cons, List.length_nil]
 have e : hAt [b] b.x1 b.y1 = b.z2 - b.z1 := by
  have : [b].filter (atB b.x1 b.y1) = [b] := by simp [atB, hx, hy]
  unfold hAt
  rw [this, ← foldH_hgt (l := [b]) (r := [b]) (List.Perm.refl _) (by simp) (fun c hc => by simp only [List.mem_singleton] at hc; subst hc; exact h.z)]
  have := h.z
  unfold Box6.zok at this
  simp only [foldH]
  split <;> omega
 simp [e]
def inB (x y z : Int) (b : Box6) : Bool := atB x y b && (decide (b.z1 ≤ z) && decide (z < b.z2))
theorem volB_add {a l m : List Box6} (h : ∀ x y z, a.any (inB x y z) = (l.any (inB x y z) || m.any (inB x y z)) ∧ (l.any (inB x y z) && m.any (inB x y z)) = false) : volB l + volB m = volB a := by
 unfold volB sumB
 rw [← sumF_add]
 refine sumF_congr fun x _ _ => ?_
 rw [← sumF_add]
 refine sumF_congr fun y _ _ => ?_
 unfold hAt hgt
 rw [cntF_sum, cntF_sum, cntF_sum, ← sumF_add]
 refine sumF_congr fun z _ _ => ?_
 obtain ⟨h1, h2⟩ := h x y z
 have e : ∀ bs : List Box6, cov (bs.filter (atB x y)) z = bs.any (inB x y z) := fun bs => by unfold cov; rw [List.any_filter]; rfl
 simp only [e, h1]
 cases hl : l.any (inB x y z) <;> cases hm : m.any (inB x y z) <;> simp_all
end Go.Proofs.YtbhgkadklklmbaaGreat
/- Least boxes of points; division rounded (plain). -/
set_option linter.unusedVariables false
set_option linter.unusedSimpArgs false
namespace Go.Proofs.YtbhgkadklklmbaaGreat

/-! Division, rounded down and up. -/
def flrM (a b : Int) : Int := if a < 0 then -((-a + b - 1).tdiv b) else a.tdiv b
theorem flrM_eq {a b : Int} (hb : 0 < b) : flrM a b = a / b := by
 unfold flrM
 split
 ·rename_i h
  rw [Int.tdiv_eq_ediv_of_nonneg (by omega)]
  have h1 := Int.mul_ediv_add_emod a b
  have h2 := Int.emod_nonneg a (show b ≠ 0 by omega)
  have h3 := Int.emod_lt_of_pos a hb
  have : (-a + b - 1) / b = -(a / b) := by
   rw [Int.ediv_eq_iff_of_pos hb]
   grind
  omega
 ·rename_i h; exact Int.tdiv_eq_ediv_of_nonneg (by omega)
def modM (n m : Int) : Int := if n.tmod m < 0 then n.tmod m + m else n.tmod m
theorem modM_eq {n m : Int} (hm : 0 < m) : modM n m = n % m := by
 unfold modM
 have h1 := Int.mul_tdiv_add_tmod n m
 have h2 := Int.tmod_lt_of_pos n hm
 have h3 := Int.lt_tmod_of_pos n hm
 split
 ·refine (Int.emod_eq_iff (by omega) |>.2 ⟨by omega, by omega, ?_⟩).symm
  exact ⟨1 - n.tdiv m, by generalize n.tmod m = r at *; generalize n.tdiv m = t at *; grind⟩
 ·refine (Int.emod_eq_iff (by omega) |>.2 ⟨by omega, by omega, ?_⟩).symm
  exact ⟨-n.tdiv m, by generalize n.tmod m = r at *; generalize n.tdiv m = t at *; grind⟩
theorem floorM_eq {a b : Int} (hb : 0 < b) : (a - a % b).tdiv b = a / b := by
 have h1 := Int.mul_ediv_add_emod a b
 rw [show a - a % b = b * (a / b) by omega, Int.mul_tdiv_cancel_left _ (by omega)]
/-! The least box of points. -/
def boxC (c : Co) : Box6 := ⟨c.x / c.n, c.y / c.n, c.z / c.n, -(-c.x / c.n), -(-c.y / c.n), -(-c.z / c.n)⟩
def joinB (A B : Box6) : Box6 := ⟨min A.x1 B.x1, min A.y1 B.y1, min A.z1 B.z1, max A.x2 B.x2, max A.y2 B.y2, max A.z2 B.z2⟩
theorem joinB_self (A : Box6) : joinB A A = A := by simp [joinB]
def bndF (A : Box6) (cs : List Co) : Box6 := cs.foldl (fun A c => joinB A (boxC c)) A
def bndO (o : Option Box6) (cs : List Co) : Option Box6 := cs.foldl (fun o c => some (joinB (o.getD (boxC c)) (boxC c))) o
theorem bndO_append (o : Option Box6) (l m : List Co) : bndO o (l ++ m) = bndO (bndO o l) m := by unfold bndO; rw [List.foldl_append]
theorem bndO_some : ∀ (cs : List Co) (A : Box6), bndO (some A) cs = some (bndF A cs)
 | [], _ => rfl
 | c :: cs, A => by
  have := bndO_some cs (joinB A (boxC c))
  unfold bndO bndF at *
  rw [List.foldl_cons, List.foldl_cons, Option.getD_some, this]
def IsMin (f : Co → Int) (m : Int) (cs : List Co) : Prop := (∀ c ∈ cs, m ≤ f c) ∧ ∃ c ∈ cs, m = f c
def IsMax (f : Co → Int) (m : Int) (cs : List Co) : Prop := (∀ c ∈ cs, f c ≤ m) ∧ ∃ c ∈ cs, m = f c
theorem IsMin.one {f : Co → Int} {a b : Int} {l m : List Co} (h : IsMin f a l) (k : IsMin f b m) (e : ∀ c, c ∈ l ↔ c ∈ m) : a = b := by
 obtain ⟨h1, c, hc, rfl⟩ := h
 obtain ⟨k1, d, hd, rfl⟩ := k
 have := h1 d ((e d).2 hd); have := k1 c ((e c).1 hc); omega
theorem IsMax.one {f : Co → Int} {a b : Int} {l m : List Co} (h : IsMax f a l) (k : IsMax f b m) (e : ∀ c, c ∈ l ↔ c ∈ m) : a = b := by
 obtain ⟨h1, c, hc, rfl⟩ := h
 obtain ⟨k1, d, hd, rfl⟩ := k
 have := h1 d ((e d).2 hd); have := k1 c ((e c).1 hc); omega
structure IsBd (B : Box6) (cs : List Co) : Prop where
 x1 : IsMin (fun c => (boxC c).x1) B.x1 cs
 y1 : IsMin (fun c => (boxC c).y1) B.y1 cs
 z1 : IsMin (fun c => (boxC c).z1) B.z1 cs
 x2 : IsMax (fun c => (boxC c).x2) B.x2 cs
 y2 : IsMax (fun c => (boxC c).y2) B.y2 cs
 z2 : IsMax (fun c => (boxC c).z2) B.z2 cs
theorem IsBd.one {A B : Box6} {l m : List Co} (h : IsBd A l) (k : IsBd B m) (e : ∀ c, c ∈ l ↔ c ∈ m) : A = B := by
 have h1 := h.x1.one k.x1 e
 have h2 := h.y1.one k.y1 e
 have h3 := h.z1.one k.z1 e
 have h4 := h.x2.one k.x2 e
 have h5 := h.y2.one k.y2 e
 have h6 := h.z2.one k.z2 e
 cases A; cases B; simp_all
theorem fold_min (f : Co → Int) : ∀ (cs : List Co) (a : Int), cs.foldl (fun m c => min m (f c)) a ≤ a ∧ (∀ c ∈ cs, cs.foldl (fun m c => min m (f c)) a ≤ f c) ∧ (cs.foldl (fun m c => min m (f c)) a = a ∨ ∃ c ∈ cs, cs.foldl (fun m c => min m (f c)) a = f c)
 | [], a => by simp
 | c :: cs, a => by
  obtain ⟨h1, h2, h3⟩ := fold_min f cs (min a (f c))
  rw [List.foldl_cons]
  refine ⟨by omega, fun d hd => ?_, ?_⟩
  ·rcases List.mem_cons.1 hd with rfl | hd
   ·omega
   ·exact h2 d hd
  ·rcases h3 with h3 | ⟨d, hd, h3⟩
   ·by_cases h : a ≤ f c
    ·left; omega
    ·right; exact ⟨c, List.mem_cons_self, by omega⟩
   ·right; exact ⟨d, List.mem_cons_of_mem _ hd, h3⟩
theorem fold_max (f : Co → Int) : ∀ (cs : List Co) (a : Int), a ≤ cs.foldl (fun m c => max m (f c)) a ∧ (∀ c ∈ cs, f c ≤ cs.foldl (fun m c => max m (f c)) a) ∧ (cs.foldl (fun m c => max m (f c)) a = a ∨ ∃ c ∈ cs, cs.foldl (fun m c => max m (f c)) a = f c)
 | [], a => by simp
 | c :: cs, a => by
  obtain ⟨h1, h2, h3⟩ := fold_max f cs (max a (f c))
  rw [List.foldl_cons]
  refine ⟨by omega, fun d hd => ?_, ?_⟩
  ·rcases List.mem_cons.1 hd with rfl | hd
   ·omega
   ·exact h2 d hd
  ·rcases h3 with h3 | ⟨d, hd, h3⟩
   ·by_cases h : f c ≤ a
    ·left; omega
    ·right; exact ⟨c, List.mem_cons_self, by omega⟩
   ·right; exact ⟨d, List.mem_cons_of_mem _ hd, h3⟩
theorem bndF_at : ∀ (cs : List Co) (A : Box6), (bndF A cs).x1 = cs.foldl (fun m c => min m (boxC c).x1) A.x1 ∧ (bndF A cs).y1 = cs.foldl (fun m c => min m (boxC c).y1) A.y1 ∧ (bndF A cs).z1 = cs.foldl (fun m c => min m (boxC c).z1) A.z1 ∧
    (bndF A cs).x2 = cs.foldl (fun m c => max m (boxC c).x2) A.x2 ∧ (bndF A cs).y2 = cs.foldl (fun m c => max m (boxC c).y2) A.y2 ∧ (bndF A cs).z2 = cs.foldl (fun m c => max m (boxC c).z2) A.z2
 | [], A => ⟨rfl, rfl, rfl, rfl, rfl, rfl⟩
 | c :: cs, A => by
  have := bndF_at cs (joinB A (boxC c))
  unfold bndF at *
  simp only [List.foldl_cons]
  exact this
theorem isMin_fold {f : Co → Int} {cs : List Co} {a : Int} {c0 : Co} (h0 : c0 ∈ cs) (h : f c0 ≤ a) : IsMin f (cs.foldl (fun m c => min m (f c)) a) cs := by
 obtain ⟨h1, h2, h3⟩ := fold_min f cs a
 refine ⟨h2, ?_⟩
 rcases h3 with h3 | h3
 ·have := h2 c0 h0; exact ⟨c0, h0, by omega⟩
 ·exact h3
theorem isMax_fold {f : Co → Int} {cs : List Co} {a : Int} {c0 : Co} (h0 : c0 ∈ cs) (h : a ≤ f c0) : IsMax f (cs.foldl (fun m c => max m (f c)) a) cs := by
 obtain ⟨h1, h2, h3⟩ := fold_max f cs a
 refine ⟨h2, ?_⟩
 rcases h3 with h3 | h3
 ·have := h2 c0 h0; exact ⟨c0, h0, by omega⟩
 ·exact h3
/-- A point in the room has its box there. -/
structure Rm (c : Co) : Prop where
 x : -300000 ≤ (boxC c).x1 ∧ (boxC c).x1 ≤ (boxC c).x2 ∧ (boxC c).x2 ≤ 300000
 y : -300000 ≤ (boxC c).y1 ∧ (boxC c).y1 ≤ (boxC c).y2 ∧ (boxC c).y2 ≤ 300000
 z : -300000 ≤ (boxC c).z1 ∧ (boxC c).z1 ≤ (boxC c).z2 ∧ (boxC c).z2 ≤ 300000
theorem div_rm {a n : Int} (hn : 0 < n) (h : -300000 * n ≤ a ∧ a ≤ 300000 * n) : -300000 ≤ a / n ∧ a / n ≤ -(-a / n) ∧ -(-a / n) ≤ 300000 := by
 have h1 : -300000 ≤ a / n := Int.le_ediv_of_mul_le hn h.1
 have h2 : -300000 ≤ -a / n := Int.le_ediv_of_mul_le hn (by omega)
 have e1 := Int.mul_ediv_add_emod a n
 have e2 := Int.mul_ediv_add_emod (-a) n
 have p1 := Int.emod_nonneg a (show n ≠ 0 by omega)
 have p2 := Int.emod_nonneg (-a) (show n ≠ 0 by omega)
 have : n * (a / n + -a / n) ≤ n * 0 := by grind
 have := Int.le_of_mul_le_mul_left this hn
 omega
theorem room_rm {c : Co} (hn : 0 < c.n) (h : inRoomB c = true) : Rm c := by
 unfold inRoomB withinB at h
 simp only [Bool.and_eq_true, decide_eq_true_eq] at h
 exact ⟨div_rm hn h.1.1, div_rm hn h.1.2, div_rm hn h.2⟩
theorem bndF_is {cs : List Co} {A : Box6} {c0 : Co} (h0 : c0 ∈ cs) (h : (boxC c0).x1 ≤ A.x1 ∧ (boxC c0).y1 ≤ A.y1 ∧ (boxC c0).z1 ≤ A.z1 ∧ A.x2 ≤ (boxC c0).x2 ∧ A.y2 ≤ (boxC c0).y2 ∧ A.z2 ≤ (boxC c0).z2) : IsBd (bndF A cs) cs := by
 obtain ⟨e1, e2, e3, e4, e5, e6⟩ := bndF_at cs A
 refine ⟨?_, ?_, ?_, ?_, ?_, ?_⟩
 ·rw [e1]; exact isMin_fold h0 h.1
 ·rw [e2]; exact isMin_fold h0 h.2.1
 ·rw [e3]; exact isMin_fold h0 h.2.2.1
 ·rw [e4]; exact isMax_fold h0 h.2.2.2.1
 ·rw [e5]; exact isMax_fold h0 h.2.2.2.2.1
 ·rw [e6]; exact isMax_fold h0 h.2.2.2.2.2
theorem bndO_is {cs : List Co} (hne : cs ≠ []) : ∃ B, bndO none cs = some B ∧ IsBd B cs := by
 cases cs with
 | nil => exact absurd rfl hne
 | cons c cs =>
  refine ⟨bndF (boxC c) (c :: cs), ?_, bndF_is List.mem_cons_self ⟨Int.le_refl _, Int.le_refl _, Int.le_refl _, Int.le_refl _, Int.le_refl _, Int.le_refl _⟩⟩
  have : bndO none (c :: cs) = bndO (some (joinB (boxC c) (boxC c))) cs := rfl
  rw [this, bndO_some, joinB_self]
  unfold bndF
  rw [List.foldl_cons, joinB_self]
end Go.Proofs.YtbhgkadklklmbaaGreat
/- Boxes as cells; the normal form is that of the points (plain). -/
set_option linter.unusedVariables false
set_option linter.unusedSimpArgs false
set_option maxRecDepth 100000
namespace Go.Proofs.YtbhgkadklklmbaaGreat

/-! The normal form is that of the points. -/
theorem face_list {l : List Pl} {p : Pl} (hp : p ∈ l) : corn (opp p :: l) = (corn l).filter fun c => decide (sd p c = 0) := by
 refine asc_unique ordP corn_low (fun x hx => corn_low x (List.mem_filter.1 hx).1) (corn_asc _) ((corn_asc l).filter _) fun x => ?_
 rw [List.mem_filter, decide_eq_true_eq, sd_zero]
 constructor
 ·exact fun hx => face_corn hp hx
 ·rintro ⟨hx, h0⟩
  obtain ⟨h1, h2, q, hq, r, hr, s, hs, h3⟩ := mem_corn_iff.1 hx
  refine mem_corn_iff.2 ⟨h1, fun t ht => ?_, q, List.mem_cons_of_mem _ hq, r, List.mem_cons_of_mem _ hr, s, List.mem_cons_of_mem _ hs, h3⟩
  rcases List.mem_cons.1 ht with rfl | ht
  ·rw [EE_opp]; omega
  ·exact h2 t ht
theorem nf_sub {l m : List Pl} (hl : Sol l) (hm : Sol m) (hb : ∀ c, InB l c ↔ InB m c) : ∀ q ∈ nf l, q ∈ nf m := by
 intro q hq
 obtain ⟨p, hp, h3, rfl⟩ := mem_nor.1 hq
 have hc : corn l = corn m := corn_same hm.ray hl.ray hb
 have hf := face_list hp
 have hlen : 3 ≤ (corn (opp p :: l)).length := by rw [hf]; exact h3
 have hne : corn (opp p :: l) ≠ [] := fun e => by rw [e] at hlen; simp at hlen
 have hsub : ∀ c ∈ corn (opp p :: l), c ∈ corn l ∧ EE p c = 0 := fun c hc => face_corn hp hc
 have hpn := hl.nrm p hp
 obtain ⟨z, hz, hz2⟩ := sum_corners (corn (opp p :: l)) hne fun c hc => (corn_low c hc).pos
 have zl : InB l z := ⟨hz, fun t ht => (hz2 t fun c hc => (mem_corn_iff.1 (hsub c hc).1).2.1 t ht).1⟩
 have zp : EE p z = 0 := (hz2 p fun c hc => by rw [(hsub c hc).2]; exact Int.le_refl _).2.2 fun c hc => (hsub c hc).2
 have zm := (hb z).1 zl
 have hs : ∃ s ∈ m, EE s z = 0 := by
  apply Classical.byContradiction
  intro hno
  have : Inner m z := ⟨hz, fun t ht => by
   have h1 := zm.2 t ht
   rcases Int.lt_or_le (EE t z) 0 with h2 | h2
   ·exact h2
   ·exact absurd ⟨t, ht, by omega⟩ hno⟩
  have h4 := (sub_inner hl (fun o ho => (hb o).2 ho) this).2 p hp
  omega
 obtain ⟨s, hsm, s0⟩ := hs
 have hsn := hm.nrm s hsm
 have hle : ∀ c ∈ corn (opp p :: l), EE s c ≤ 0 := fun c hc' => by
  have := (hsub c hc').1; rw [hc] at this
  exact (mem_corn_iff.1 this).2.1 s hsm
 have hall : ∀ c ∈ corn (opp p :: l), EE s c = 0 := fun c hc' => by
  have h1 := hle c hc'
  rcases Int.lt_or_le (EE s c) 0 with h2 | h2
  ·have := (hz2 s hle).2.1 ⟨c, hc', h2⟩; omega
  ·omega
 have hpar := two_line (hl.ray.mono fun t ht => List.mem_cons_of_mem (opp p) ht) (fun c hc' => (hsub c hc').2) hall hlen
 have hon : 3 ≤ onN s (corn m) := by
  rw [← hc]
  refine Nat.le_trans hlen ?_
  rw [hf]
  unfold onN
  have hfs : ((corn l).filter fun c => decide (sd p c = 0)) = ((corn l).filter fun c => decide (sd s c = 0)).filter fun c => decide (sd p c = 0) := by
   rw [List.filter_filter]
   refine List.filter_congr fun c hc' => ?_
   by_cases h0 : sd p c = 0
   ·have : c ∈ corn (opp p :: l) := by rw [hf, List.mem_filter]; exact ⟨hc', by simpa using h0⟩
    simp [h0, sd_zero.2 (hall c this)]
   ·simp [h0]
  rw [hfs]
  exact List.length_filter_le _ _
 refine mem_nor.2 ⟨s, hsm, hon, ?_⟩
 obtain ⟨o, ho⟩ := hl.inner
 have ho2 : Inner m o := sub_inner hm (fun x hx => (hb x).1 hx) ho
 have e0 := par_EE hpn hpar hz zp s0 o
 have hpo := ho.2 p hp
 have hso := ho2.2 s hsm
 have hsq := sq_pos hpn
 have hway : 0 < dt (nrm p) (nrm s) := by
  rcases Int.lt_or_le 0 (dt (nrm p) (nrm s)) with h | h
  ·exact h
  ·exfalso
   have h1 : EE s o * dt (nrm p) (nrm p) < 0 := Int.mul_neg_of_neg_of_pos hso hsq
   have h2 : 0 ≤ dt (nrm p) (nrm s) * EE p o := Int.mul_nonneg_of_nonpos_of_nonpos h (Int.le_of_lt hpo)
   omega
 obtain ⟨e1, e2, e3, e4⟩ := par_plane hpn hpar hz zp s0
 exact low_prop hpn hsn hway hsq e1.symm e2.symm e3.symm e4.symm
theorem nf_same {l m : List Pl} (hl : Sol l) (hm : Sol m) (hb : ∀ c, InB l c ↔ InB m c) : nf l = nf m :=
 asc_unique ordL (fun _ _ => trivial) (fun _ _ => trivial) (nor_asc _ _) (nor_asc _ _) fun q => ⟨nf_sub hl hm hb q, nf_sub hm hl (fun c => (hb c).symm) q⟩
/-! Boxes as cells. -/
structure Box6.fit (b : Box6) : Prop where
 x : -300000 ≤ b.x1 ∧ b.x1 < b.x2 ∧ b.x2 ≤ 300000
 y : -300000 ≤ b.y1 ∧ b.y1 < b.y2 ∧ b.y2 ≤ 300000
 z : -300000 ≤ b.z1 ∧ b.z1 < b.z2 ∧ b.z2 ≤ 300000
def boxP (b : Box6) : List Pl := [⟨-1, 0, 0, -b.x1⟩, ⟨0, -1, 0, -b.y1⟩, ⟨0, 0, -1, -b.z1⟩, ⟨0, 0, 1, b.z2⟩, ⟨0, 1, 0, b.y2⟩, ⟨1, 0, 0, b.x2⟩]
theorem EE_mk (a b c d : Int) (o : Co) : EE ⟨a, b, c, d⟩ o = a * o.x + b * o.y + c * o.z - d * o.n := rfl
theorem box_forall {b : Box6} {P : Pl → Prop} : (∀ p ∈ boxP b, P p) ↔ P ⟨-1, 0, 0, -b.x1⟩ ∧ P ⟨0, -1, 0, -b.y1⟩ ∧ P ⟨0, 0, -1, -b.z1⟩ ∧ P ⟨0, 0, 1, b.z2⟩ ∧ P ⟨0, 1, 0, b.y2⟩ ∧ P ⟨1, 0, 0, b.x2⟩ := by
 unfold boxP; simp only [List.forall_mem_cons, List.not_mem_nil, false_implies, implies_true, and_true]
theorem box_inB {b : Box6} {o : Co} : InB (boxP b) o ↔ 0 < o.n ∧ (b.x1 * o.n ≤ o.x ∧ o.x ≤ b.x2 * o.n) ∧ (b.y1 * o.n ≤ o.y ∧ o.y ≤ b.y2 * o.n) ∧ (b.z1 * o.n ≤ o.z ∧ o.z ≤ b.z2 * o.n) := by
 unfold InB
 rw [box_forall]
 simp only [EE_mk, Int.neg_mul]
 omega
theorem box_inner {b : Box6} {o : Co} : Inner (boxP b) o ↔ 0 < o.n ∧ (b.x1 * o.n < o.x ∧ o.x < b.x2 * o.n) ∧ (b.y1 * o.n < o.y ∧ o.y < b.y2 * o.n) ∧ (b.z1 * o.n < o.z ∧ o.z < b.z2 * o.n) := by
 unfold Inner
 rw [box_forall]
 simp only [EE_mk, Int.neg_mul]
 omega
theorem box_noRay (b : Box6) : NoRay (boxP b) := fun v hv => by
 apply Classical.byContradiction
 intro h
 have h' : ∀ q ∈ boxP b, dt (nrm q) v ≤ 0 := fun q hq => by
  rcases Int.lt_or_le 0 (dt (nrm q) v) with h1 | h1
  ·exact absurd ⟨q, hq, h1⟩ h
  ·exact h1
 rw [box_forall] at h'
 unfold dt nrm at h'
 simp only at h'
 apply hv
 cases v
 simp only [v0, Vec.mk.injEq] at *
 omega
theorem box_nrm (b : Box6) : ∀ p ∈ boxP b, nrm p ≠ v0 := by rw [box_forall]; simp [nrm, v0]
theorem box_sol {b : Box6} (h : b.fit) : Sol (boxP b) := by
 obtain ⟨hx, hy, hz⟩ := h
 exact ⟨box_noRay b, box_nrm b, inner_insid (box_noRay b) (o := ⟨b.x1 + b.x2, b.y1 + b.y2, b.z1 + b.z2, 2⟩) (box_inner.2 (by simp only; omega)), by simp [boxP]⟩
theorem box_irred {b : Box6} (h : b.fit) : Irred (boxP b) := by
 obtain ⟨hx, hy, hz⟩ := h
 unfold Irred
 have key : ∀ (p : Pl) (c : Co), 0 < c.n → (∀ q ∈ boxP b, q ≠ p → EE q c ≤ 0) → 0 < EE p c → ∃ c : Co, 0 < c.n ∧ (∀ q ∈ boxP b, q ≠ p → EE q c ≤ 0) ∧ 0 < EE p c := fun p c h1 h2 h3 => ⟨c, h1, h2, h3⟩
 rw [box_forall]
 refine ⟨key _ ⟨b.x1 - 1, b.y1, b.z1, 1⟩ Int.one_pos ?_ ?_, key _ ⟨b.x1, b.y1 - 1, b.z1, 1⟩ Int.one_pos ?_ ?_, key _ ⟨b.x1, b.y1, b.z1 - 1, 1⟩ Int.one_pos ?_ ?_, key _ ⟨b.x1, b.y1, b.z2 + 1, 1⟩ Int.one_pos ?_ ?_, key _ ⟨b.x1, b.y2 + 1, b.z1, 1⟩ Int.one_pos ?_ ?_, key _ ⟨b.x2 + 1, b.y1, b.z1, 1⟩ Int.one_pos ?_ ?_⟩
 all_goals first
  | (simp only [EE_mk]; omega)
  | (rw [box_forall]; simp only [EE_mk, ne_eq, Pl.mk.injEq]; refine ⟨?_, ?_, ?_, ?_, ?_, ?_⟩ <;> intro hh <;> first | omega | (exfalso; apply hh; simp))
theorem g4_unit {a b c d : Int} (h : a.natAbs = 1 ∨ b.natAbs = 1 ∨ c.natAbs = 1) : g4 a b c d = 1 := by
 rw [g4_eq]
 rcases h with h | h | h <;> simp [h]
theorem lowL_unit {p : Pl} (h : p.a.natAbs = 1 ∨ p.b.natAbs = 1 ∨ p.c.natAbs = 1) : lowL p = p := by
 cases p; unfold lowL; rw [g4_unit h]; simp
theorem box_asc (b : Box6) : (boxP b).Pairwise (fun x y => ltL x y = true) := by
 unfold boxP
 simp [List.pairwise_cons, ltL]
theorem box_good {b : Box6} (h : b.fit) : Good (boxP b) := by
 obtain ⟨hx, hy, hz⟩ := h
 unfold Good
 rw [box_forall]
 simp only [Pl.in_, Vec.in_, nrm, v0, ne_eq, Vec.mk.injEq]
 omega
theorem box_read {b : Box6} (h : b.fit) : readE (boxP b) = 0 := by
 have hs := box_sol h
 refine readE_zero.2 ⟨by simp [boxP], chkPs_zero.2 fun p hp => chkP_zero.2 (box_good h p hp), bounM_of hs.ray, hs.ins, ?_⟩
 rw [List.all_eq_true]
 intro c hc
 have h1 := box_inB.1 (corn_inB hc)
 obtain ⟨hn, k1, k2, k3⟩ := h1
 obtain ⟨hx, hy, hz⟩ := h
 have m1 : ∀ k : Int, -300000 ≤ k → -300000 * c.n ≤ k * c.n := fun k hk => Int.mul_le_mul_of_nonneg_right hk (by omega)
 have m2 : ∀ k : Int, k ≤ 300000 → k * c.n ≤ 300000 * c.n := fun k hk => Int.mul_le_mul_of_nonneg_right hk (by omega)
 have := m1 b.x1 (by omega); have := m1 b.y1 (by omega); have := m1 b.z1 (by omega)
 have := m2 b.x2 (by omega); have := m2 b.y2 (by omega); have := m2 b.z2 (by omega)
 unfold inRoomB withinB
 simp only [Bool.and_eq_true, decide_eq_true_eq]
 omega
def dirV : Nat → Vec
 | 0 => ⟨-1, 0, 0⟩ | 1 => ⟨0, -1, 0⟩ | 2 => ⟨0, 0, -1⟩ | 3 => ⟨1, 0, 0⟩ | 4 => ⟨0, 1, 0⟩ | _ => ⟨0, 0, 1⟩
def sgK (k : Nat) : Int := if k < 3 then -1 else 1
theorem bstep_at {B B' : Box6} {p : Pl} (h : bstep B p = some B') : ∃ k, k < 6 ∧ nrm p = dirV k ∧ B'.at_ k = sgK k * p.d ∧ ∀ j, j < 6 → j ≠ k → B'.at_ j = B.at_ j := by
 have six : ∀ {P : Nat → Prop}, P 0 → P 1 → P 2 → P 3 → P 4 → P 5 → ∀ j, j < 6 → P j := fun p0 p1 p2 p3 p4 p5 j hj => by
  match j, hj with
  | 0, _ => exact p0
  | 1, _ => exact p1
  | 2, _ => exact p2
  | 3, _ => exact p3
  | 4, _ => exact p4
  | 5, _ => exact p5
 unfold bstep at h
 split at h
 ·rename_i e; cases h; exact ⟨0, by decide, e, by simp [Box6.at_, sgK], six (by simp) (by simp [Box6.at_]) (by simp [Box6.at_]) (by simp [Box6.at_]) (by simp [Box6.at_]) (by simp [Box6.at_])⟩
 split at h
 ·rename_i e; cases h; exact ⟨1, by decide, e, by simp [Box6.at_, sgK], six (by simp [Box6.at_]) (by simp) (by simp [Box6.at_]) (by simp [Box6.at_]) (by simp [Box6.at_]) (by simp [Box6.at_])⟩
 split at h
 ·rename_i e; cases h; exact ⟨2, by decide, e, by simp [Box6.at_, sgK], six (by simp [Box6.at_]) (by simp [Box6.at_]) (by simp) (by simp [Box6.at_]) (by simp [Box6.at_]) (by simp [Box6.at_])⟩
 split at h
 ·rename_i e; cases h; exact ⟨3, by decide, e, by simp [Box6.at_, sgK], six (by simp [Box6.at_]) (by simp [Box6.at_]) (by simp [Box6.at_]) (by simp) (by simp [Box6.at_]) (by simp [Box6.at_])⟩
 split at h
 ·rename_i e; cases h; exact ⟨4, by decide, e, by simp [Box6.at_, sgK], six (by simp [Box6.at_]) (by simp [Box6.at_]) (by simp [Box6.at_]) (by simp [Box6.at_]) (by simp) (by simp [Box6.at_])⟩
 split at h
 ·rename_i e; cases h; exact ⟨5, by decide, e, by simp [Box6.at_, sgK], six (by simp [Box6.at_]) (by simp [Box6.at_]) (by simp [Box6.at_]) (by simp [Box6.at_]) (by simp [Box6.at_]) (by simp)⟩
 ·cases h
theorem boxF_unit : ∀ {L : List Pl} {B B' : Box6}, boxF B L = some B' → ∀ p ∈ L, ∃ k, k < 6 ∧ nrm p = dirV k
 | [], _, _, _, p, hp => by simp at hp
 | q :: L, B, B', h, p, hp => by
  unfold boxF at h
  cases hb : bstep B q with
  | none => rw [hb] at h; cases h
  | some B1 =>
   rw [hb] at h
   rcases List.mem_cons.1 hp with rfl | hp
   ·obtain ⟨k, hk, e, _⟩ := bstep_at hb; exact ⟨k, hk, e⟩
   ·exact boxF_unit h p hp
theorem boxF_at {k : Nat} (hk : k < 6) {D : Int} : ∀ {L : List Pl} {B B' : Box6}, boxF B L = some B' → (∀ p ∈ L, nrm p = dirV k → p.d = D) → (B.at_ k = sgK k * D ∨ ∃ p ∈ L, nrm p = dirV k) → B'.at_ k = sgK k * D
 | [], B, B', h, _, h0 => by
  unfold boxF at h; cases h
  rcases h0 with h0 | ⟨p, hp, _⟩
  ·exact h0
  ·simp at hp
 | q :: L, B, B', h, hd, h0 => by
  unfold boxF at h
  cases hb : bstep B q with
  | none => rw [hb] at h; cases h
  | some B1 =>
   rw [hb] at h
   obtain ⟨j, hj, e, e1, e2⟩ := bstep_at hb
   refine boxF_at hk h (fun p hp => hd p (List.mem_cons_of_mem _ hp)) ?_
   by_cases hjk : k = j
   ·subst hjk
    left; rw [e1, hd q List.mem_cons_self e]
   ·rcases h0 with h0 | ⟨p, hp, hn⟩
    ·left; rw [e2 k hk hjk, h0]
    ·rcases List.mem_cons.1 hp with rfl | hp
     ·left
      exfalso
      have hin : ∀ a, a < 6 → ∀ b, b < 6 → dirV a = dirV b → a = b := by decide
      exact hjk (hin k hk j hj (hn.symm.trans e))
     ·right; exact ⟨p, hp, hn⟩
theorem boxO_unit {l : List Pl} {B : Box6} (h : boxO l = some B) : ∀ p ∈ nf l, ∃ k, k < 6 ∧ nrm p = dirV k := boxF_unit h
theorem dir_dot : ∀ a, a < 6 → ∀ b, b < 6 → 0 < dt (dirV a) (dirV b) → a = b := by decide
theorem dir_ne : ∀ k, k < 6 → dirV k ≠ v0 := by decide
theorem nf_some {l : List Pl} (hs : Sol l) (hu : ∀ p ∈ nf l, ∃ k, k < 6 ∧ nrm p = dirV k) {k : Nat} (hk : k < 6) : ∃ p ∈ nf l, nrm p = dirV k := by
 obtain ⟨q, hq, h0⟩ := (nf_sol hs).ray (dirV k) (dir_ne k hk)
 obtain ⟨j, hj, e⟩ := hu q hq
 rw [e] at h0
 have := dir_dot j hj k hk h0
 subst this
 exact ⟨q, hq, e⟩
theorem nf_le {l : List Pl} (hs : Sol l) {p q : Pl} (hp : p ∈ nf l) (hq : q ∈ nf l) (e : nrm p = nrm q) : p.d ≤ q.d := by
 obtain ⟨p', hp', h3, rfl⟩ := mem_nor.1 hp
 obtain ⟨c, hc⟩ : ∃ c, c ∈ (corn l).filter fun c => decide (sd p' c = 0) := by
  unfold onN at h3
  cases hL : (corn l).filter fun c => decide (sd p' c = 0) with
  | nil => rw [hL] at h3; simp at h3
  | cons x L => exact ⟨x, List.mem_cons_self⟩
 rw [List.mem_filter, decide_eq_true_eq, sd_zero] at hc
 have h1 := (EE_low_sign (hs.nrm p' hp') c).2.1.2 hc.2
 have h2 := ((nf_body hs).2 (corn_inB hc.1)).2 q hq
 have hn := (corn_low c hc.1).pos
 unfold EE at h1 h2
 rw [e] at h1
 have : (lowL p').d * c.n ≤ q.d * c.n := by omega
 exact Int.le_of_mul_le_mul_right this hn
theorem nf_one {l : List Pl} (hs : Sol l) {p q : Pl} (hp : p ∈ nf l) (hq : q ∈ nf l) (e : nrm p = nrm q) : p.d = q.d := Int.le_antisymm (nf_le hs hp hq e) (nf_le hs hq hp e.symm)
theorem mk_of {p : Pl} {a b c d : Int} (h : nrm p = ⟨a, b, c⟩) (hd : p.d = d) : p = ⟨a, b, c, d⟩ := by
 cases p; simp only [nrm, Vec.mk.injEq] at h; simp only [Pl.mk.injEq]; simp only at hd; omega
theorem box_of' {l : List Pl} {B : Box6} (hs : Sol l) (hroom : ∀ c ∈ corn l, inRoomB c = true) (hB : boxO l = some B) : nf l = boxP B ∧ B.fit := by
 have hu := boxO_unit hB
 have key : ∀ k, k < 6 → ∃ p ∈ nf l, nrm p = dirV k ∧ B.at_ k = sgK k * p.d := fun k hk => by
  obtain ⟨p, hp, e⟩ := nf_some hs hu hk
  exact ⟨p, hp, e, boxF_at hk hB (fun q hq e' => nf_one hs hq hp (e'.trans e.symm)) (.inr ⟨p, hp, e⟩)⟩
 have key2 : ∀ k, k < 6 → ∀ q ∈ nf l, nrm q = dirV k → B.at_ k = sgK k * q.d := fun k hk q hq e => by
  obtain ⟨p, hp, e1, e2⟩ := key k hk
  rw [e2, nf_one hs hp hq (e1.trans e.symm)]
 have hnf : nf l = boxP B := by
  refine asc_unique ordL (fun _ _ => trivial) (fun _ _ => trivial) (nor_asc _ _) (box_asc B) fun q => ⟨fun hq => ?_, fun hq => ?_⟩
  ·obtain ⟨k, hk, e⟩ := hu q hq
   have e2 := key2 k hk q hq e
   match k, hk with
   | 0, _ => rw [mk_of e (d := -B.x1) (by simp only [Box6.at_, sgK] at e2; simp at e2; omega)]; simp [boxP]
   | 1, _ => rw [mk_of e (d := -B.y1) (by simp only [Box6.at_, sgK] at e2; simp at e2; omega)]; simp [boxP]
   | 2, _ => rw [mk_of e (d := -B.z1) (by simp only [Box6.at_, sgK] at e2; simp at e2; omega)]; simp [boxP]
   | 3, _ => rw [mk_of e (d := B.x2) (by simp only [Box6.at_, sgK] at e2; simp at e2; omega)]; simp [boxP]
   | 4, _ => rw [mk_of e (d := B.y2) (by simp only [Box6.at_, sgK] at e2; simp at e2; omega)]; simp [boxP]
   | 5, _ => rw [mk_of e (d := B.z2) (by simp only [Box6.at_, sgK] at e2; simp at e2; omega)]; simp [boxP]
  ·have go : ∀ k, k < 6 → ∀ r : Pl, (∀ p : Pl, nrm p = dirV k → B.at_ k = sgK k * p.d → p = r) → r ∈ nf l := fun k hk r hr => by
     obtain ⟨p, hp, e1, e2⟩ := key k hk
     rw [← hr p e1 e2]; exact hp
   revert q
   rw [box_forall]
   refine ⟨go 0 (by decide) _ ?_, go 1 (by decide) _ ?_, go 2 (by decide) _ ?_, go 5 (by decide) _ ?_, go 4 (by decide) _ ?_, go 3 (by decide) _ ?_⟩ <;> intro p e1 e2 <;> simp only [Box6.at_, sgK] at e2 <;> simp at e2 <;> exact mk_of e1 (by omega)
 refine ⟨hnf, ?_⟩
 obtain ⟨o, ho⟩ := (nf_sol hs).inner
 rw [hnf] at ho
 obtain ⟨hn, ⟨x1, x2⟩, ⟨y1, y2⟩, z1, z2⟩ := box_inner.1 ho
 have lt : ∀ {a b : Int}, a * o.n < b * o.n → a < b := fun h => Int.lt_of_mul_lt_mul_right h (by omega)
 have hc := nor_corn hs
 have room : ∀ k, k < 6 → -300000 ≤ B.at_ k ∧ B.at_ k ≤ 300000 := fun k hk => by
  obtain ⟨p, hp, e1, e2⟩ := key k hk
  obtain ⟨p', hp', h3, rfl⟩ := mem_nor.1 hp
  obtain ⟨c, hc⟩ : ∃ c, c ∈ (corn l).filter fun c => decide (sd p' c = 0) := by
   unfold onN at h3
   cases hL : (corn l).filter fun c => decide (sd p' c = 0) with
   | nil => rw [hL] at h3; simp at h3
   | cons x L => exact ⟨x, List.mem_cons_self⟩
  rw [List.mem_filter, decide_eq_true_eq, sd_zero] at hc
  have h1 := (EE_low_sign (hs.nrm p' hp') c).2.1.2 hc.2
  have hr := hroom c hc.1
  have hn := (corn_low c hc.1).pos
  unfold inRoomB withinB at hr
  simp only [Bool.and_eq_true, decide_eq_true_eq] at hr
  unfold EE at h1
  rw [e1] at h1
  generalize (lowL p').d = D at *
  have le : ∀ {a b : Int}, a * c.n ≤ b * c.n → a ≤ b := fun h => Int.le_of_mul_le_mul_right h hn
  have hD : -300000 ≤ D ∧ D ≤ 300000 := by
   match k, hk with
   | 0, _ => simp only [dirV, dt, vec] at h1; exact ⟨le (by omega), le (by omega)⟩
   | 1, _ => simp only [dirV, dt, vec] at h1; exact ⟨le (by omega), le (by omega)⟩
   | 2, _ => simp only [dirV, dt, vec] at h1; exact ⟨le (by omega), le (by omega)⟩
   | 3, _ => simp only [dirV, dt, vec] at h1; exact ⟨le (by omega), le (by omega)⟩
   | 4, _ => simp only [dirV, dt, vec] at h1; exact ⟨le (by omega), le (by omega)⟩
   | 5, _ => simp only [dirV, dt, vec] at h1; exact ⟨le (by omega), le (by omega)⟩
  rw [e2]; unfold sgK; split <;> omega
 have r0 := room 0 (by decide); have r1 := room 1 (by decide); have r2 := room 2 (by decide)
 have r3 := room 3 (by decide); have r4 := room 4 (by decide); have r5 := room 5 (by decide)
 simp only [Box6.at_] at r0 r1 r2 r3 r4 r5
 exact ⟨⟨r0.1, lt (by omega), r3.2⟩, ⟨r1.1, lt (by omega), r4.2⟩, ⟨r2.1, lt (by omega), r5.2⟩⟩
theorem box_of {l : List Pl} {B : Box6} (h : readE l = 0) (hB : boxO l = some B) : nf l = boxP B ∧ B.fit := box_of' (sol_of h) (List.all_eq_true.1 (readE_zero.1 h).2.2.2.2) hB
/-- The document's test of a box. -/
def unitB (p : Pl) : Bool := decide (((p.a.natAbs + p.b.natAbs + p.c.natAbs : Nat) : Int) = 1)
theorem unit_dir (p : Pl) : unitB p = true ↔ ∃ k, k < 6 ∧ nrm p = dirV k := by
 unfold unitB
 rw [decide_eq_true_eq]
 constructor
 ·intro h
  have ha : p.a = -1 ∨ p.a = 0 ∨ p.a = 1 := by omega
  have hb : p.b = -1 ∨ p.b = 0 ∨ p.b = 1 := by omega
  have hc : p.c = -1 ∨ p.c = 0 ∨ p.c = 1 := by omega
  unfold nrm
  generalize p.a = x at *
  generalize p.b = y at *
  generalize p.c = z at *
  rcases ha with rfl | rfl | rfl <;> rcases hb with rfl | rfl | rfl <;> rcases hc with rfl | rfl | rfl <;> first
   | (exfalso; revert h; decide)
   | exact ⟨0, by decide, rfl⟩
   | exact ⟨1, by decide, rfl⟩
   | exact ⟨2, by decide, rfl⟩
   | exact ⟨3, by decide, rfl⟩
   | exact ⟨4, by decide, rfl⟩
   | exact ⟨5, by decide, rfl⟩
 ·rintro ⟨k, hk, e⟩
  unfold nrm at e
  match k, hk with
  | 0, _ => simp only [dirV, Vec.mk.injEq] at e; omega
  | 1, _ => simp only [dirV, Vec.mk.injEq] at e; omega
  | 2, _ => simp only [dirV, Vec.mk.injEq] at e; omega
  | 3, _ => simp only [dirV, Vec.mk.injEq] at e; omega
  | 4, _ => simp only [dirV, Vec.mk.injEq] at e; omega
  | 5, _ => simp only [dirV, Vec.mk.injEq] at e; omega
theorem bstep_some {B : Box6} {p : Pl} (h : ∃ k, k < 6 ∧ nrm p = dirV k) : ∃ B', bstep B p = some B' := by
 obtain ⟨k, hk, e⟩ := h
 unfold bstep
 rw [e]
 match k, hk with
 | 0, _ => simp [dirV]
 | 1, _ => simp [dirV]
 | 2, _ => simp [dirV]
 | 3, _ => simp [dirV]
 | 4, _ => simp [dirV]
 | 5, _ => simp [dirV]
theorem boxF_ex : ∀ {L : List Pl} {B : Box6}, (∀ p ∈ L, ∃ k, k < 6 ∧ nrm p = dirV k) → ∃ B', boxF B L = some B'
 | [], B, _ => ⟨B, rfl⟩
 | p :: L, B, h => by
  obtain ⟨B1, h1⟩ := bstep_some (B := B) (h p List.mem_cons_self)
  unfold boxF
  rw [h1]
  exact boxF_ex fun q hq => h q (List.mem_cons_of_mem _ hq)
theorem isBox_iff (l : List Pl) : (nf l).all unitB = (boxO l).isSome := by
 rw [Bool.eq_iff_iff, List.all_eq_true, Option.isSome_iff_exists]
 constructor
 ·exact fun h => boxF_ex fun p hp => (unit_dir p).1 (h p hp)
 ·rintro ⟨B, h⟩ p hp; exact (unit_dir p).2 (boxO_unit h p hp)
theorem box_isBd {b : Box6} (h : b.fit) : IsBd b (corn (boxP b)) := by
 have hs := box_sol h
 obtain ⟨o, ho⟩ := hs.inner
 have on : ∀ p ∈ boxP b, ∃ c ∈ corn (boxP b), EE p c = 0 := fun p hp => by
  have h3 := facet_three hs.ray hs.nrm ho (fun p hp => hp) (fun c hc => hc) (box_irred h) hp
  unfold onN at h3
  cases hL : (corn (boxP b)).filter fun c => decide (sd p c = 0) with
  | nil => rw [hL] at h3; simp at h3
  | cons x L =>
   have : x ∈ (corn (boxP b)).filter fun c => decide (sd p c = 0) := by rw [hL]; exact List.mem_cons_self
   rw [List.mem_filter, decide_eq_true_eq, sd_zero] at this
   exact ⟨x, this⟩
 rw [box_forall] at on
 obtain ⟨⟨a1, h1, e1⟩, ⟨a2, h2, e2⟩, ⟨a3, h3, e3⟩, ⟨a4, h4, e4⟩, ⟨a5, h5, e5⟩, ⟨a6, h6, e6⟩⟩ := on
 simp only [EE_mk, Int.neg_mul] at e1 e2 e3 e4 e5 e6
 have hin : ∀ c ∈ corn (boxP b), 0 < c.n ∧ (b.x1 * c.n ≤ c.x ∧ c.x ≤ b.x2 * c.n) ∧ (b.y1 * c.n ≤ c.y ∧ c.y ≤ b.y2 * c.n) ∧ (b.z1 * c.n ≤ c.z ∧ c.z ≤ b.z2 * c.n) := fun c hc => box_inB.1 (corn_inB hc)
 have lo : ∀ {a n k : Int}, 0 < n → k * n ≤ a → k ≤ a / n := fun hn h => Int.le_ediv_of_mul_le hn h
 have hi : ∀ {a n k : Int}, 0 < n → a ≤ k * n → -(-a / n) ≤ k := fun {a n k} hn h => by
  have := Int.le_ediv_of_mul_le (a := -k) hn (show -k * n ≤ -a by rw [Int.neg_mul]; omega)
  omega
 have elo : ∀ {a n k : Int}, 0 < n → a = k * n → k = a / n := fun hn h => by rw [h, Int.mul_ediv_cancel _ (by omega)]
 have ehi : ∀ {a n k : Int}, 0 < n → a = k * n → k = -(-a / n) := fun {a n k} hn h => by rw [h, ← Int.neg_mul, Int.mul_ediv_cancel _ (by omega)]; omega
 refine ⟨⟨fun c hc => lo (hin c hc).1 (hin c hc).2.1.1, a1, h1, elo (hin a1 h1).1 (by omega)⟩, ⟨fun c hc => lo (hin c hc).1 (hin c hc).2.2.1.1, a2, h2, elo (hin a2 h2).1 (by omega)⟩,
  ⟨fun c hc => lo (hin c hc).1 (hin c hc).2.2.2.1, a3, h3, elo (hin a3 h3).1 (by omega)⟩, ⟨fun c hc => hi (hin c hc).1 (hin c hc).2.1.2, a6, h6, ehi (hin a6 h6).1 (by omega)⟩,
  ⟨fun c hc => hi (hin c hc).1 (hin c hc).2.2.1.2, a5, h5, ehi (hin a5 h5).1 (by omega)⟩, ⟨fun c hc => hi (hin c hc).1 (hin c hc).2.2.2.2, a4, h4, ehi (hin a4 h4).1 (by omega)⟩⟩
theorem box_bd {l : List Pl} {B : Box6} (h : readE l = 0) (hB : boxO l = some B) : IsBd B (corn l) := by
 obtain ⟨e, hf⟩ := box_of h hB
 rw [← (nor_corn (sol_of h)).1]
 have : nor l (corn l) = boxP B := e
 rw [this]
 exact box_isBd hf
end Go.Proofs.YtbhgkadklklmbaaGreat
/- What is left and what is common of solids of boxes: their volumes (plain). -/
set_option linter.unusedVariables false
set_option linter.unusedSimpArgs false
set_option maxRecDepth 100000
namespace Go.Proofs.YtbhgkadklklmbaaGreat

/-! What is left and what is common of solids of boxes. -/
def UnitL (l : List Pl) : Prop := ∀ p ∈ l, ∃ k, k < 6 ∧ nrm p = dirV k
theorem unit_low {p : Pl} (h : ∃ k, k < 6 ∧ nrm p = dirV k) : lowL p = p := by
 refine lowL_unit ?_
 obtain ⟨k, hk, e⟩ := h
 unfold nrm at e
 match k, hk with
 | 0, _ => simp only [dirV, Vec.mk.injEq] at e; omega
 | 1, _ => simp only [dirV, Vec.mk.injEq] at e; omega
 | 2, _ => simp only [dirV, Vec.mk.injEq] at e; omega
 | 3, _ => simp only [dirV, Vec.mk.injEq] at e; omega
 | 4, _ => simp only [dirV, Vec.mk.injEq] at e; omega
 | 5, _ => simp only [dirV, Vec.mk.injEq] at e; omega
theorem UnitL.nf {l : List Pl} (h : UnitL l) : UnitL (nf l) := fun q hq => by
 obtain ⟨p, hp, _, rfl⟩ := mem_nor.1 hq
 rw [unit_low (h p hp)]; exact h p hp
theorem UnitL.append {l m : List Pl} (h : UnitL l) (k : UnitL m) : UnitL (l ++ m) := fun p hp => (List.mem_append.1 hp).elim (h p) (k p)
theorem unit_opp {p : Pl} (h : ∃ k, k < 6 ∧ nrm p = dirV k) : ∃ k, k < 6 ∧ nrm (opp p) = dirV k := by
 obtain ⟨k, hk, e⟩ := h
 rw [nrm_opp, e]
 match k, hk with
 | 0, _ => exact ⟨3, by decide, by decide⟩
 | 1, _ => exact ⟨4, by decide, by decide⟩
 | 2, _ => exact ⟨5, by decide, by decide⟩
 | 3, _ => exact ⟨0, by decide, by decide⟩
 | 4, _ => exact ⟨1, by decide, by decide⟩
 | 5, _ => exact ⟨2, by decide, by decide⟩
theorem unit_cutRK {l ds : List Pl} (hl : UnitL l) (hd : UnitL ds) {n : Nat} (hn : n ≤ ds.length) : ∀ q ∈ cutRK l ds n, UnitL q := by
 intro q hq
 unfold cutRK at hq
 obtain ⟨i, hi, hq⟩ := List.mem_flatMap.1 hq
 rw [List.mem_range] at hi
 split at hq
 ·rw [List.mem_singleton] at hq
  subst hq
  refine UnitL.nf fun p hp => ?_
  rcases (mem_part (show i < ds.length by omega)).1 hp with h | h | h
  ·exact hl p h
  ·exact hd p (List.mem_of_mem_take h)
  ·rw [h]; exact unit_opp (hd _ (List.getElem_mem _))
 ·simp at hq
theorem unit_pieces {n : Nat} : ∀ {y ps r : List (List Pl)}, (∀ d ∈ y, UnitL (nf d)) → (∀ p ∈ ps, UnitL p) → piecesR n ps y = some r → ∀ q ∈ r, UnitL q
 | [], ps, r, _, hp, h => by unfold piecesR at h; cases h; exact hp
 | d :: y, ps, r, hd, hp, h => by
  unfold piecesR at h
  split at h
  ·cases h
  ·refine unit_pieces (fun e he => hd e (List.mem_cons_of_mem _ he)) (fun q hq => ?_) h
   unfold stepR at hq
   obtain ⟨p, hpp, hq⟩ := List.mem_flatMap.1 hq
   unfold step1R at hq
   split at hq
   ·exact unit_cutRK (hp p hpp) (hd d List.mem_cons_self) (Nat.le_refl _) q hq
   ·rw [List.mem_singleton] at hq; subst hq; exact hp _ hpp
theorem unit_left {y : List (List Pl)} (hy : ∀ d ∈ y, UnitL (nf d)) : ∀ {x out r : List (List Pl)}, (∀ c ∈ x, UnitL (nf c)) → (∀ q ∈ out, UnitL q) → leftR y out x = some r → ∀ q ∈ r, UnitL q
 | [], out, r, _, ho, h => by unfold leftR at h; cases h; exact ho
 | c :: x, out, r, hx, ho, h => by
  unfold leftR at h
  split at h
  ·cases h
  ·rename_i r1 h1
   refine unit_left hy (fun e he => hx e (List.mem_cons_of_mem _ he)) (fun q hq => ?_) h
   rcases List.mem_append.1 hq with hq | hq
   ·exact ho q hq
   ·refine unit_pieces hy (fun p hp => ?_) h1 q hq
    rw [List.mem_singleton] at hp; subst hp; exact hx c List.mem_cons_self
/-- Every cell is a box. -/
structure BoxC (c : List Pl) (B : Box6) : Prop where
 r : readE c = 0
 b : boxO c = some B
theorem BoxC.form {c : List Pl} {B : Box6} (h : BoxC c B) : nf c = boxP B := (box_of h.r h.b).1
theorem BoxC.fit {c : List Pl} {B : Box6} (h : BoxC c B) : B.fit := (box_of h.r h.b).2
theorem BoxC.sol {c : List Pl} {B : Box6} (h : BoxC c B) : Sol c := sol_of h.r
theorem BoxC.pts {c : List Pl} {B : Box6} (h : BoxC c B) {o : Co} : InB c o ↔ InB (boxP B) o := by rw [← h.form]; exact (nf_body h.sol).symm
theorem BoxC.unit {c : List Pl} {B : Box6} (h : BoxC c B) : UnitL (nf c) := boxO_unit h.b
theorem fit_room {B : Box6} (h : B.fit) {o : Co} (ho : InB (boxP B) o) : inRoomB o = true := by
 obtain ⟨hn, k1, k2, k3⟩ := box_inB.1 ho
 obtain ⟨hx, hy, hz⟩ := h
 have m1 : ∀ k : Int, -300000 ≤ k → -300000 * o.n ≤ k * o.n := fun k hk => Int.mul_le_mul_of_nonneg_right hk (by omega)
 have m2 : ∀ k : Int, k ≤ 300000 → k * o.n ≤ 300000 * o.n := fun k hk => Int.mul_le_mul_of_nonneg_right hk (by omega)
 have := m1 B.x1 (by omega); have := m1 B.y1 (by omega); have := m1 B.z1 (by omega)
 have := m2 B.x2 (by omega); have := m2 B.y2 (by omega); have := m2 B.z2 (by omega)
 unfold inRoomB withinB
 simp only [Bool.and_eq_true, decide_eq_true_eq]
 omega
theorem unit_box {q : List Pl} (hs : Sol q) (hq : nf q = q) (hu : UnitL q) (hr : ∀ o, InB q o → inRoomB o = true) : ∃ B, BoxC q B := by
 obtain ⟨B, hB⟩ := boxF_ex (L := nf q) (B := box0) (by rw [hq]; exact hu)
 obtain ⟨e, hf⟩ := box_of' hs (fun c hc => hr c (corn_inB hc)) (show boxO q = some B from hB)
 refine ⟨B, ?_, hB⟩
 rw [← hq, e]; exact box_read hf
/-- The middle of a unit cell. -/
def midC (x y z : Int) : Co := ⟨2 * x + 1, 2 * y + 1, 2 * z + 1, 2⟩
theorem mid_box {B : Box6} {x y z : Int} : inB x y z B = true ↔ InB (boxP B) (midC x y z) := by
 rw [box_inB]
 unfold inB atB midC
 simp only [Bool.and_eq_true, decide_eq_true_eq]
 omega
theorem mid_gen {l : List Pl} (h : UnitL l) (x y z : Int) : Gen l (midC x y z) := fun t ht => by
 obtain ⟨k, hk, e⟩ := h t ht
 unfold EE
 rw [e]
 match k, hk with
 | 0, _ => simp only [dirV, dt, vec, midC]; omega
 | 1, _ => simp only [dirV, dt, vec, midC]; omega
 | 2, _ => simp only [dirV, dt, vec, midC]; omega
 | 3, _ => simp only [dirV, dt, vec, midC]; omega
 | 4, _ => simp only [dirV, dt, vec, midC]; omega
 | 5, _ => simp only [dirV, dt, vec, midC]; omega
theorem BoxC.mid {c : List Pl} {B : Box6} (h : BoxC c B) {x y z : Int} : inB x y z B = true ↔ InB c (midC x y z) := by rw [mid_box, h.pts]
theorem BoxC.inner {c : List Pl} {B : Box6} (h : BoxC c B) {x y z : Int} (hi : InB c (midC x y z)) : Inner c (midC x y z) := by
 have h1 : Inner (nf c) (midC x y z) := (mid_gen h.unit x y z).inner (fun p hp => hp) ((nf_body h.sol).2 hi)
 exact sub_inner h.sol (fun o ho => (nf_body h.sol).1 ho) h1
theorem com_nf {c d : List Pl} (hc : Sol c) (hd : Sol d) (h : comR c d = true) : nf (c ++ d) = nf (nf c ++ nf d) := by
 have hs := com_sol hc hd h
 obtain ⟨o, ho⟩ := hs.inner
 have h1 : Inner (nf c ++ nf d) o := (Inner.nf hc.nrm ho.left).app (Inner.nf hd.nrm ho.right)
 have hr : NoRay (nf c ++ nf d) := (nf_sol hc).ray.append _
 have hs2 : Sol (nf c ++ nf d) := ⟨hr, fun p hp => (List.mem_append.1 hp).elim ((nf_sol hc).nrm p) ((nf_sol hd).nrm p), inner_insid hr h1, by simp [(nf_sol hc).ne]⟩
 refine nf_same hs hs2 fun x => ?_
 constructor
 ·intro hx
  refine ⟨hx.1, fun p hp => ?_⟩
  rcases List.mem_append.1 hp with hp | hp
  ·exact ((nf_body hc).2 ⟨hx.1, fun q hq => hx.2 q (List.mem_append.2 (.inl hq))⟩).2 p hp
  ·exact ((nf_body hd).2 ⟨hx.1, fun q hq => hx.2 q (List.mem_append.2 (.inr hq))⟩).2 p hp
 ·intro hx
  refine ⟨hx.1, fun p hp => ?_⟩
  rcases List.mem_append.1 hp with hp | hp
  ·exact ((nf_body hc).1 ⟨hx.1, fun q hq => hx.2 q (List.mem_append.2 (.inl hq))⟩).2 p hp
  ·exact ((nf_body hd).1 ⟨hx.1, fun q hq => hx.2 q (List.mem_append.2 (.inr hq))⟩).2 p hp
/-- Every cell of a solid is a box. -/
def AllBox (X : List (List Pl)) : Prop := ∀ c ∈ X, BoxC c (boxV c)
theorem BoxC.v {c : List Pl} {B : Box6} (h : BoxC c B) : BoxC c (boxV c) := by
 have : boxV c = B := by unfold boxV; rw [h.b]; rfl
 rw [this]; exact h
theorem nf_nf {l : List Pl} (h : Sol l) : nf (nf l) = nf l := by
 have := nor_corn h
 show nor (nor l (corn l)) (corn (nor l (corn l))) = nor l (corn l)
 rw [this.1]; exact this.2.2
theorem left_nf {y : List (List Pl)} : ∀ {x out r : List (List Pl)}, (∀ c ∈ x, Sol c) → (∀ d ∈ y, Sol d) → (∀ q ∈ out, nf q = q) → leftR y out x = some r → ∀ q ∈ r, nf q = q := by
 have hcut : ∀ {l ds : List Pl} {n : Nat}, Sol l → (∀ p ∈ ds, nrm p ≠ v0) → n ≤ ds.length → ∀ q ∈ cutRK l ds n, nf q = q := fun {l ds n} hl hd hn q hq => by
  unfold cutRK at hq
  obtain ⟨i, hi, hq⟩ := List.mem_flatMap.1 hq
  rw [List.mem_range] at hi
  split at hq
  ·rename_i h1
   rw [List.mem_singleton] at hq
   subst hq
   exact nf_nf (part_sol hl hd (by omega) h1)
  ·simp at hq
 have hpie : ∀ (n : Nat) {y ps r : List (List Pl)}, (∀ d ∈ y, Sol d) → (∀ p ∈ ps, Sol p ∧ nf p = p) → piecesR n ps y = some r → ∀ q ∈ r, nf q = q := by
  intro n y
  induction y with
  | nil => intro ps r _ hp h; unfold piecesR at h; cases h; exact fun q hq => (hp q hq).2
  | cons d y ih =>
   intro ps r hd hp h
   unfold piecesR at h
   split at h
   ·cases h
   ·refine ih (fun e he => hd e (List.mem_cons_of_mem _ he)) (fun q hq => ?_) h
    have hds := hd d List.mem_cons_self
    refine ⟨(step_same hds fun p hpp => (hp p hpp).1).2 q hq, ?_⟩
    unfold stepR at hq
    obtain ⟨p, hpp, hq⟩ := List.mem_flatMap.1 hq
    unfold step1R at hq
    split at hq
    ·exact hcut (hp p hpp).1 (nf_sol hds).nrm (Nat.le_refl _) q hq
    ·rw [List.mem_singleton] at hq; subst hq; exact (hp _ hpp).2
 intro x
 induction x with
 | nil => intro out r _ _ ho h; unfold leftR at h; cases h; exact ho
 | cons c x ih =>
  intro out r hx hy ho h
  unfold leftR at h
  split at h
  ·cases h
  ·rename_i r1 h1
   refine ih (fun e he => hx e (List.mem_cons_of_mem _ he)) hy (fun q hq => ?_) h
   rcases List.mem_append.1 hq with hq | hq
   ·exact ho q hq
   ·have hcs := hx c List.mem_cons_self
    refine hpie _ hy (fun p hp => ?_) h1 q hq
    rw [List.mem_singleton] at hp; subst hp; exact ⟨nf_sol hcs, nf_nf hcs⟩
theorem left_box {x y r : List (List Pl)} (hx : AllBox x) (hy : AllBox y) (h : leftR y [] x = some r) : AllBox r := fun q hq => by
 have hxs : ∀ c ∈ x, Sol c := fun c hc => (hx c hc).sol
 have hys : ∀ c ∈ y, Sol c := fun c hc => (hy c hc).sol
 have ok := left_all hxs hys h
 obtain ⟨p, hp, hsub⟩ := ok.sub q hq
 obtain ⟨B, hB⟩ := unit_box (ok.sol q hq) (left_nf hxs hys (fun q hq => by simp at hq) h q hq) (unit_left (fun d hd => (hy d hd).unit) (fun c hc => (hx c hc).unit) (fun q hq => by simp at hq) h q hq)
  fun o ho => fit_room (hx p hp).fit ((hx p hp).pts.1 (hsub o ho))
 exact hB.v
theorem both_box {x y r : List (List Pl)} (hx : AllBox x) (hy : AllBox y) (h : meetR y [] x = some r) : AllBox r := fun q hq => by
 rcases (meetR_mem h q).1 hq with hq | ⟨c, hc, d, hd, hcom, rfl⟩
 ·simp at hq
 ·have hs := com_sol (hx c hc).sol (hy d hd).sol hcom
  obtain ⟨B, hB⟩ := unit_box (nf_sol hs) (nf_nf hs) (by rw [com_nf (hx c hc).sol (hy d hd).sol hcom]; exact ((hx c hc).unit.append (hy d hd).unit).nf)
   fun o ho => fit_room (hx c hc).fit ((hx c hc).pts.1 ⟨ho.1, fun p hp => ((nf_body hs).1 ho).2 p (List.mem_append.2 (.inl hp))⟩)
  exact hB.v
theorem cover_iff {X : List (List Pl)} (h : AllBox X) {x y z : Int} : (X.map boxV).any (inB x y z) = true ↔ ∃ c ∈ X, InB c (midC x y z) := by
 rw [List.any_eq_true]
 constructor
 ·rintro ⟨B, hB, hi⟩
  obtain ⟨c, hc, rfl⟩ := List.mem_map.1 hB
  exact ⟨c, hc, (h c hc).mid.1 hi⟩
 ·rintro ⟨c, hc, hi⟩
  exact ⟨_, List.mem_map.2 ⟨c, hc, rfl⟩, (h c hc).mid.2 hi⟩
/-- What is left and what is common have the volume together. -/
theorem vol_parts {x y l b : List (List Pl)} (hx : AllBox x) (hy : AllBox y) (hl : leftR y [] x = some l) (hb : meetR y [] x = some b) : volB (l.map boxV) + volB (b.map boxV) = volB (x.map boxV) := by
 have hxs : ∀ c ∈ x, Sol c := fun c hc => (hx c hc).sol
 have hys : ∀ c ∈ y, Sol c := fun c hc => (hy c hc).sol
 have ok := left_all hxs hys hl
 have bl := left_box hx hy hl
 have bb := both_box hx hy hb
 refine volB_add fun u v w => ?_
 have eb : (∃ q ∈ b, InB q (midC u v w)) ↔ ∃ c ∈ x, ∃ d ∈ y, InB c (midC u v w) ∧ InB d (midC u v w) := by
  constructor
  ·rintro ⟨q, hq, hi⟩
   rcases (meetR_mem hb q).1 hq with hq | ⟨c, hc, d, hd, hcom, rfl⟩
   ·simp at hq
   ·have hs := com_sol (hx c hc).sol (hy d hd).sol hcom
    have h1 := (nf_body hs).1 hi
    exact ⟨c, hc, d, hd, ⟨h1.1, fun p hp => h1.2 p (List.mem_append.2 (.inl hp))⟩, h1.1, fun p hp => h1.2 p (List.mem_append.2 (.inr hp))⟩
  ·rintro ⟨c, hc, d, hd, h1, h2⟩
   have hi := ((hx c hc).inner h1).app ((hy d hd).inner h2)
   have hcom : comR c d = true := inner_insid ((hx c hc).sol.ray.append d) hi
   have hs := com_sol (hx c hc).sol (hy d hd).sol hcom
   exact ⟨_, (meetR_mem hb _).2 (.inr ⟨c, hc, d, hd, hcom, rfl⟩), (nf_body hs).2 hi.inB⟩
 constructor
 ·rw [Bool.eq_iff_iff, Bool.or_eq_true, cover_iff hx, cover_iff bl, cover_iff bb, eb]
  constructor
  ·rintro ⟨c, hc, hi⟩
   by_cases hd : ∃ d ∈ y, InB d (midC u v w)
   ·obtain ⟨d, hd, hj⟩ := hd
    exact .inr ⟨c, hc, d, hd, hi, hj⟩
   ·obtain ⟨q, hq, hin⟩ := ok.all _ ⟨c, hc, (hx c hc).inner hi⟩ (fun d hd' => mid_gen (hy d hd').unit u v w) fun d hd' hj => hd ⟨d, hd', hj⟩
    exact .inl ⟨q, hq, hin.inB⟩
  ·rintro (⟨q, hq, hi⟩ | ⟨c, hc, _, _, hi, _⟩)
   ·obtain ⟨p, hp, hs⟩ := ok.sub q hq
    exact ⟨p, hp, hs _ hi⟩
   ·exact ⟨c, hc, hi⟩
 ·rw [Bool.and_eq_false_iff, ← Bool.not_eq_true, ← Bool.not_eq_true, cover_iff bl, cover_iff bb, eb]
  apply Classical.byContradiction
  intro hno
  have h1 : ∃ c ∈ l, InB c (midC u v w) := Classical.byContradiction fun h => hno (.inl h)
  have h2 : ∃ c ∈ x, ∃ d ∈ y, InB c (midC u v w) ∧ InB d (midC u v w) := Classical.byContradiction fun h => hno (.inr h)
  obtain ⟨q, hq, hi⟩ := h1
  obtain ⟨c, hc, d, hd, _, hj⟩ := h2
  exact ok.off q hq d hd _ ((bl q hq).inner hi) ((hy d hd).inner hj)
theorem Box6.fit.ok {b : Box6} (h : b.fit) : b.ok := by
 obtain ⟨hx, hy, hz⟩ := h
 exact ⟨by omega, by omega, by unfold Box6.zok; omega⟩
end Go.Proofs.YtbhgkadklklmbaaGreat
