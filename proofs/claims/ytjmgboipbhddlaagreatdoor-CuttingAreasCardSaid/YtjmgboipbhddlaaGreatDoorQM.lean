import Derived.Test.YtjmgboipbhddlaaGreatDoorCB
set_option linter.unusedVariables false
set_option linter.unusedSimpArgs false
namespace Go.Proofs.YtjmgboipbhddlaaGreatDoor

def zeroR : Rect := ⟨0, 0, 0, 0⟩
instance : Inhabited Rect := ⟨zeroR⟩
instance : Inhabited Cut := ⟨⟨false, 0, 0, 0, 0⟩⟩
def wholeR (r : Rect) : Rect := if r.x2 ≤ r.x1 ∨ r.y2 ≤ r.y1 then ⟨0, 0, 0, 0⟩ else r
def usableR (b : Board) (t : Trim) : Rect := wholeR ⟨t.ends, t.sides, b.length - t.ends, b.width - t.sides⟩
def proper (r : Rect) : Prop := 0 ≤ r.x1 ∧ r.x1 < r.x2 ∧ r.x2 ≤ 600000 ∧ 0 ≤ r.y1 ∧ r.y1 < r.y2 ∧ r.y2 ≤ 600000
def okR (r : Rect) : Prop := r = ⟨0, 0, 0, 0⟩ ∨ proper r
theorem okR_whole {r : Rect} (h : 0 ≤ r.x1 ∧ r.x2 ≤ 600000 ∧ 0 ≤ r.y1 ∧ r.y2 ≤ 600000) : okR (wholeR r) := by
 unfold wholeR okR proper
 split
 ·exact .inl rfl
 ·right; omega
def pieceR (r : Rect) (w : Blank) (o : Int) : Rect := ⟨r.x1 + o, r.y1, r.x1 + o + w.length, r.y1 + w.width⟩
def fitsB (ds : List Rect) (r : Rect) (w : Blank) (o : Int) : Bool := decide (r.x1 + o + w.length ≤ r.x2) && decide (r.y1 + w.width ≤ r.y2) && soundB ds (pieceR r w o)
def starts (kerf : Int) (ds : List Rect) (r : Rect) : List Int := 0 :: (kerf + 1) :: (ds.map fun d => d.x2 - r.x1).filter fun o => decide (kerf < o)
def offStep (ds : List Rect) (r : Rect) (w : Blank) (acc : Option Int) (o : Int) : Option Int :=
 if fitsB ds r w o then (match acc with | none => some o | some m => if o < m then some o else some m) else acc
def offset (kerf : Int) (ds : List Rect) (r : Rect) (w : Blank) : Option Int := (starts kerf ds r).foldl (offStep ds r w) none

def isLeast (p : Int → Bool) (l : List Int) : Option Int → Prop
 | none => ∀ o ∈ l, p o = false
 | some m => m ∈ l ∧ p m = true ∧ ∀ o ∈ l, p o = true → m ≤ o
theorem isLeast_uniq {p : Int → Bool} {l : List Int} : ∀ {a b : Option Int}, isLeast p l a → isLeast p l b → a = b
 | none, none, _, _ => rfl
 | none, some b, h, ⟨hb, hp, _⟩ => by rw [h b hb] at hp; cases hp
 | some a, none, ⟨ha, hp, _⟩, h => by rw [h a ha] at hp; cases hp
 | some a, some b, ⟨ha, hpa, h1⟩, ⟨hb, hpb, h2⟩ => by have := h1 b hb hpb; have := h2 a ha hpa; congr 1; omega
theorem isLeast_fold {ds : List Rect} {r : Rect} {w : Blank} : ∀ (l pre : List Int) (acc : Option Int), isLeast (fitsB ds r w) pre acc → isLeast (fitsB ds r w) (pre ++ l) (l.foldl (offStep ds r w) acc)
 | [], pre, acc, h => by simpa using h
 | o :: l, pre, acc, h => by
  rw [List.foldl_cons, show pre ++ o :: l = (pre ++ [o]) ++ l by simp]
  refine isLeast_fold l _ _ ?_
  unfold offStep
  by_cases hf : fitsB ds r w o = true
  ·rw [if_pos hf]
   cases acc with
   | none =>
    refine ⟨by simp, hf, fun x hx hp => ?_⟩
    rcases List.mem_append.1 hx with hx | hx
    ·rw [h x hx] at hp; cases hp
    ·simp at hx; omega
   | some m =>
    obtain ⟨hm, hpm, hl⟩ := h
    by_cases hlt : o < m
    ·simp only [if_pos hlt]
     refine ⟨by simp, hf, fun x hx hp => ?_⟩
     rcases List.mem_append.1 hx with hx | hx
     ·have := hl x hx hp; omega
     ·simp at hx; omega
    ·simp only [if_neg hlt]
     refine ⟨by simp [hm], hpm, fun x hx hp => ?_⟩
     rcases List.mem_append.1 hx with hx | hx
     ·exact hl x hx hp
     ·simp at hx; omega
  ·rw [if_neg hf]
   cases acc with
   | none =>
    intro x hx
    rcases List.mem_append.1 hx with hx | hx
    ·exact h x hx
    ·simp at hx; subst hx; simpa using hf
   | some m =>
    obtain ⟨hm, hpm, hl⟩ := h
    refine ⟨by simp [hm], hpm, fun x hx hp => ?_⟩
    rcases List.mem_append.1 hx with hx | hx
    ·exact hl x hx hp
    ·simp at hx; subst hx; exact absurd hp hf
theorem offset_least (kerf : Int) (ds : List Rect) (r : Rect) (w : Blank) : isLeast (fitsB ds r w) (starts kerf ds r) (offset kerf ds r w) := by
 have := isLeast_fold (ds := ds) (r := r) (w := w) (starts kerf ds r) [] none (fun o h => by simp at h)
 rwa [List.nil_append] at this
theorem isLeast_perm {p : Int → Bool} {l l' : List Int} {a : Option Int} (hp : ∀ x, x ∈ l ↔ x ∈ l') (h : isLeast p l a) : isLeast p l' a := by
 cases a with
 | none => exact fun o ho => h o ((hp o).2 ho)
 | some m => exact ⟨(hp m).1 h.1, h.2.1, fun o ho => h.2.2 o ((hp o).2 ho)⟩
theorem isLeast_first {p : Int → Bool} {l : List Int} (hs : l.Pairwise (· ≤ ·)) {k : Nat} (hk : k < l.length) (hn : ∀ j (hj : j < l.length), j < k → p l[j] = false) (hp : p l[k] = true) : isLeast p l (some l[k]) := by
 refine ⟨List.getElem_mem hk, hp, fun o ho hpo => ?_⟩
 obtain ⟨j, hj, rfl⟩ := List.mem_iff_getElem.1 ho
 rcases Nat.lt_trichotomy j k with h | rfl | h
 ·rw [hn j hj h] at hpo; cases hpo
 ·exact Int.le_refl _
 ·exact List.pairwise_iff_getElem.1 hs k j hk hj h
theorem isLeast_none {p : Int → Bool} {l : List Int} (hn : ∀ j (hj : j < l.length), p l[j] = false) : isLeast p l none := by
 intro o ho
 obtain ⟨j, hj, rfl⟩ := List.mem_iff_getElem.1 ho
 exact hn j hj
theorem offset_some {kerf : Int} {ds : List Rect} {r : Rect} {w : Blank} {o : Int} (h : offset kerf ds r w = some o) : o ∈ starts kerf ds r ∧ fitsB ds r w o = true := by
 have := offset_least kerf ds r w
 rw [h] at this
 exact ⟨this.1, this.2.1⟩
theorem starts_mem {kerf : Int} {ds : List Rect} {r : Rect} {o : Int} (hk : 0 ≤ kerf) (h : o ∈ starts kerf ds r) : o = 0 ∨ kerf < o := by
 unfold starts at h
 simp only [List.mem_cons, List.mem_filter, decide_eq_true_eq] at h
 omega

structure BS where
 cuts : List Cut
 rects : List Rect
deriving DecidableEq
instance : Inhabited BS := ⟨⟨[], []⟩⟩
def BS.r (s : BS) (k : Nat) : Rect := s.rects.getD k zeroR
def lowR (r : Rect) (across : Bool) (a : Int) : Rect := if across then ⟨r.x1, r.y1, r.x1 + a, r.y2⟩ else ⟨r.x1, r.y1, r.x2, r.y1 + a⟩
def highR (r : Rect) (across : Bool) (a kerf : Int) : Rect := wholeR (if across then ⟨r.x1 + a + kerf, r.y1, r.x2, r.y2⟩ else ⟨r.x1, r.y1 + a + kerf, r.x2, r.y2⟩)
def wasteC : Cut := ⟨false, 0, 0, 0, -1⟩
def pieceC (n : Int) : Cut := ⟨false, 0, 0, 0, n⟩
def BS.cut (s : BS) (kerf : Int) (region : Nat) (across : Bool) (a : Int) : BS :=
 ⟨(s.cuts ++ [wasteC, wasteC]).set region ⟨across, a, s.cuts.length, s.cuts.length + 1, 0⟩, s.rects ++ [lowR (s.r region) across a, highR (s.r region) across a kerf]⟩
def BS.cut1 (s : BS) (kerf : Int) (region : Nat) (o : Int) : BS × Nat := if 0 < o then (s.cut kerf region true (o - kerf), s.cuts.length + 1) else (s, region)
def BS.cut2 (s : BS × Nat) (kerf : Int) (w : Blank) : BS × Nat :=
 if w.length < (s.1.r s.2).x2 - (s.1.r s.2).x1 then (s.1.cut kerf s.2 true w.length, s.1.cuts.length) else s
def BS.cut3 (s : BS × Nat) (kerf : Int) (w : Blank) : BS × Nat :=
 if w.width < (s.1.r s.2).y2 - (s.1.r s.2).y1 then (s.1.cut kerf s.2 false w.width, s.1.cuts.length) else s
def BS.mark (s : BS × Nat) (number : Int) : BS := ⟨s.1.cuts.set s.2 (pieceC number), s.1.rects⟩
def BS.place (s : BS) (kerf : Int) (w : Blank) (number : Int) (region : Nat) (o : Int) : BS := BS.mark (BS.cut3 (BS.cut2 (s.cut1 kerf region o) kerf w) kerf w) number
def freeC (c : Cut) (r : Rect) : Bool := decide (c.low = 0) && decide (c.blank < 0) && decide (r ≠ ⟨0, 0, 0, 0⟩)
def BS.at_ (s : BS) (kerf : Int) (ds : List Rect) (w : Blank) (k : Nat) : Option Int :=
 if freeC (s.cuts.getD k wasteC) (s.r k) then offset kerf ds (s.r k) w else none
def scan {α : Type} (f : Nat → Option α) : Nat → Nat → Option (Nat × α)
 | 0, _ => none
 | n + 1, k => match f k with | some a => some (k, a) | none => scan f n (k + 1)
def kindB (b : Board) (w : Blank) : Bool := (b.species.toList == w.species.toList) && decide (w.thick ≤ b.thick)
def BS.put (s : BS) (kerf : Int) (b : Board) (w : Blank) (number : Int) : Option BS :=
 if kindB b w then (scan (s.at_ kerf b.defects w) s.cuts.length 0).map fun x => s.place kerf w number x.1 x.2 else none
def putAll (kerf : Int) (stock : List Board) (w : Blank) (number : Int) (L : List BS) : Option (List BS) :=
 (scan (fun i => match stock[i]? with | some b => (L.getD i default).put kerf b w number | none => none) stock.length 0).map fun x => L.set x.1 x.2
theorem scan_hit {α : Type} {f : Nat → Option α} {n k : Nat} {a : α} {t : Option (Nat × α)} (h : t = scan f (n + 1) k) (hf : f k = some a) : t = some (k, a) := by
 rw [h]; simp only [scan, hf]
theorem scan_next {α : Type} {f : Nat → Option α} {n k : Nat} {t : Option (Nat × α)} (h : t = scan f (n + 1) k) (hf : f k = none) : t = scan f n (k + 1) := by
 rw [h]; simp only [scan, hf]
theorem scan_some {α : Type} {f : Nat → Option α} : ∀ {n k : Nat} {x : Nat × α}, scan f n k = some x → k ≤ x.1 ∧ x.1 < k + n ∧ f x.1 = some x.2
 | 0, _, _, h => by cases h
 | n + 1, k, x, h => by
  simp only [scan] at h
  split at h
  ·rename_i a ha
   injection h with h
   subst h
   exact ⟨Nat.le_refl _, by simp, ha⟩
  ·obtain ⟨h1, h2, h3⟩ := scan_some h
   exact ⟨by omega, by omega, h3⟩

structure GoodB (s : BS) : Prop where
 len : s.rects.length = s.cuts.length
 ok : ∀ r ∈ s.rects, okR r
theorem GoodB.get {s : BS} (h : GoodB s) {k : Nat} (hk : k < s.rects.length) : okR (s.r k) := by
 unfold BS.r; rw [List.getD_eq_getElem?_getD, List.getElem?_eq_getElem hk]; exact h.ok _ (List.getElem_mem hk)
theorem proper_high {r : Rect} {across : Bool} {a kerf : Int} (hr : proper r) (ha : 0 ≤ a) (hk : 0 ≤ kerf) : okR (highR r across a kerf) := by
 unfold highR
 refine okR_whole ?_
 unfold proper at hr
 cases across <;> simp <;> omega
theorem proper_low {r : Rect} {across : Bool} {a : Int} (hr : proper r) (ha : 0 < a) (h : a ≤ if across then r.x2 - r.x1 else r.y2 - r.y1) : proper (lowR r across a) := by
 unfold proper at *
 unfold lowR
 cases across <;> simp at * <;> omega
theorem GoodB.cut {s : BS} {kerf : Int} {region : Nat} {across : Bool} {a : Int} (h : GoodB s) (hl : okR (lowR (s.r region) across a)) (hh : okR (highR (s.r region) across a kerf)) : GoodB (s.cut kerf region across a) := by
 refine ⟨by simp [BS.cut, h.len], fun r hr => ?_⟩
 simp only [BS.cut, List.mem_append, List.mem_cons, List.not_mem_nil, or_false] at hr
 rcases hr with hr | rfl | rfl
 ·exact h.ok r hr
 ·exact hl
 ·exact hh
structure GoodP (s : BS × Nat) : Prop extends GoodB s.1 where
 lt : s.2 < s.1.cuts.length
 pr : proper (s.1.r s.2)
theorem cut_low {s : BS} {kerf : Int} {region : Nat} {across : Bool} {a : Int} (h : s.rects.length = s.cuts.length) : (s.cut kerf region across a).r s.cuts.length = lowR (s.r region) across a := by
 simp [BS.cut, BS.r, List.getD_eq_getElem?_getD, ← h]
theorem cut_high {s : BS} {kerf : Int} {region : Nat} {across : Bool} {a : Int} (h : s.rects.length = s.cuts.length) : (s.cut kerf region across a).r (s.cuts.length + 1) = highR (s.r region) across a kerf := by
 simp [BS.cut, BS.r, List.getD_eq_getElem?_getD, ← h]
theorem good_cut1 {s : BS} {kerf o : Int} {region : Nat} (h : GoodP (s, region)) (hk : 0 ≤ kerf) (ho : o = 0 ∨ kerf < o) (hx : (s.r region).x1 + o < (s.r region).x2) : GoodP (s.cut1 kerf region o) := by
 unfold BS.cut1
 split
 ·obtain ⟨h0, hlt, hp⟩ := h
  have hp : proper (s.r region) := hp
  have h0 : GoodB s := h0
  have hp' := hp
  unfold proper at hp'
  have hh : proper (highR (s.r region) true (o - kerf) kerf) := by
   unfold highR wholeR proper
   simp only [if_true]
   rw [if_neg (by omega)]
   simp only; omega
  refine ⟨h0.cut (.inr (proper_low hp (by omega) (by simp; omega))) (.inr hh), by simp [BS.cut], ?_⟩
  show proper ((s.cut kerf region true (o - kerf)).r (s.cuts.length + 1))
  rw [cut_high h0.len]; exact hh
 ·exact h
theorem good_cut2 {s : BS × Nat} {kerf : Int} {w : Blank} (h : GoodP s) (hk : 0 ≤ kerf) (hw : 0 < w.length) : GoodP (BS.cut2 s kerf w) := by
 unfold BS.cut2
 split
 ·rename_i hc
  obtain ⟨h0, hlt, hp⟩ := h
  have hl := proper_low (across := true) hp hw (by simp; omega)
  refine ⟨h0.cut (.inr hl) (proper_high hp (by omega) hk), by simp [BS.cut], ?_⟩
  simp only
  rw [cut_low h0.len]; exact hl
 ·exact h
theorem good_cut3 {s : BS × Nat} {kerf : Int} {w : Blank} (h : GoodP s) (hk : 0 ≤ kerf) (hw : 0 < w.width) : GoodP (BS.cut3 s kerf w) := by
 unfold BS.cut3
 split
 ·rename_i hc
  obtain ⟨h0, hlt, hp⟩ := h
  have hl := proper_low (across := false) hp hw (by simp; omega)
  refine ⟨h0.cut (.inr hl) (proper_high hp (by omega) hk), by simp [BS.cut], ?_⟩
  simp only
  rw [cut_low h0.len]; exact hl
 ·exact h
theorem good_mark {s : BS × Nat} {number : Int} (h : GoodB s.1) : GoodB (BS.mark s number) := ⟨by simp [BS.mark, h.len], h.ok⟩
theorem len_cut1 {s : BS} {kerf o : Int} {region : Nat} : (s.cut1 kerf region o).1.cuts.length ≤ s.cuts.length + 2 := by
 unfold BS.cut1; split <;> simp [BS.cut]
theorem len_cut2 {s : BS × Nat} {kerf : Int} {w : Blank} : (BS.cut2 s kerf w).1.cuts.length ≤ s.1.cuts.length + 2 := by
 unfold BS.cut2; split <;> simp [BS.cut]
theorem len_cut3 {s : BS × Nat} {kerf : Int} {w : Blank} : (BS.cut3 s kerf w).1.cuts.length ≤ s.1.cuts.length + 2 := by
 unfold BS.cut3; split <;> simp [BS.cut]
theorem len_place {s : BS} {kerf : Int} {w : Blank} {number : Int} {region : Nat} {o : Int} : (s.place kerf w number region o).cuts.length ≤ s.cuts.length + 6 := by
 have h1 := len_cut1 (s := s) (kerf := kerf) (o := o) (region := region)
 have h2 := len_cut2 (s := s.cut1 kerf region o) (kerf := kerf) (w := w)
 have h3 := len_cut3 (s := BS.cut2 (s.cut1 kerf region o) kerf w) (kerf := kerf) (w := w)
 unfold BS.place BS.mark
 simp only [List.length_set]
 omega
theorem at_some {s : BS} {kerf : Int} {ds : List Rect} {w : Blank} {k : Nat} {o : Int} (h : GoodB s) (hk : k < s.cuts.length) (hf : 0 ≤ kerf) (hw : 0 < w.length) (hs : s.at_ kerf ds w k = some o) :
    GoodP (s, k) ∧ (o = 0 ∨ kerf < o) ∧ (s.r k).x1 + o + w.length ≤ (s.r k).x2 := by
 unfold BS.at_ at hs
 split at hs
 ·rename_i hfr
  obtain ⟨hm, hfit⟩ := offset_some hs
  refine ⟨⟨h, hk, ?_⟩, starts_mem hf hm, ?_⟩
  ·simp only [freeC, Bool.and_eq_true, decide_eq_true_eq] at hfr
   rcases h.get (k := k) (by rw [h.len]; exact hk) with h0 | h0
   ·exact absurd h0 hfr.2
   ·exact h0
  ·simp only [fitsB, Bool.and_eq_true, decide_eq_true_eq] at hfit
   exact hfit.1.1
 ·cases hs
theorem good_place {s : BS} {kerf : Int} {ds : List Rect} {w : Blank} {number : Int} {k : Nat} {o : Int} (h : GoodB s) (hk : k < s.cuts.length) (hf : 0 ≤ kerf) (hw : 0 < w.length) (hw2 : 0 < w.width) (hs : s.at_ kerf ds w k = some o) :
    GoodB (s.place kerf w number k o) := by
 obtain ⟨h1, h2, h3⟩ := at_some h hk hf hw hs
 exact good_mark (good_cut3 (good_cut2 (good_cut1 h1 hf h2 (by omega)) hf hw) hf hw2).toGoodB
theorem good_put {s s' : BS} {kerf : Int} {b : Board} {w : Blank} {number : Int} (h : GoodB s) (hf : 0 ≤ kerf) (hw : 0 < w.length) (hw2 : 0 < w.width) (hs : s.put kerf b w number = some s') : GoodB s' ∧ s'.cuts.length ≤ s.cuts.length + 6 := by
 unfold BS.put at hs
 split at hs
 ·rw [Option.map_eq_some_iff] at hs
  obtain ⟨x, hx, rfl⟩ := hs
  obtain ⟨_, h2, h3⟩ := scan_some hx
  exact ⟨good_place h (by omega) hf hw hw2 h3, len_place⟩
 ·cases hs
def earlierB (a b : Blank) : Bool := decide (b.length * b.width < a.length * a.width) || (decide (a.length * a.width = b.length * b.width) && decide (b.length < a.length))
instance : Inhabited Blank := ⟨⟨⟨#[]⟩, ⟨#[]⟩, 0, 0, 0, 0⟩⟩
def bl (l : List Blank) (i : Nat) : Blank := l.getD i default
def insPos (l : List Blank) (order : List Nat) (i : Nat) : Nat → Nat
 | 0 => 0
 | n + 1 => if earlierB (bl l i) (bl l (order.getD n 0)) then insPos l order i n else n + 1
def insOne (l : List Blank) (order : List Nat) (i : Nat) : List Nat := order.take (insPos l order i order.length) ++ i :: order.drop (insPos l order i order.length)
def orderGo (l : List Blank) : List Nat → List Nat → List Nat
 | [], order => order
 | i :: r, order => orderGo l r (insOne l order i)
def orderM (l : List Blank) : List Nat := orderGo l (List.range l.length) []
def seqM (l : List Blank) : List Nat := (orderM l).flatMap fun i => List.replicate (bl l i).count.toNat i
theorem insPos_le (l : List Blank) (order : List Nat) (i : Nat) : ∀ n, insPos l order i n ≤ n
 | 0 => Nat.le_refl _
 | n + 1 => by
  unfold insPos
  split
  ·have := insPos_le l order i n; omega
  ·exact Nat.le_refl _
theorem insOne_mem {l : List Blank} {order : List Nat} {i x : Nat} : x ∈ insOne l order i ↔ x = i ∨ x ∈ order := by
 unfold insOne
 rw [List.mem_append, List.mem_cons]
 constructor
 ·rintro (h | h | h)
  ·exact .inr (List.mem_of_mem_take h)
  ·exact .inl h
  ·exact .inr (List.mem_of_mem_drop h)
 ·rintro (h | h)
  ·exact .inr (.inl h)
  ·rw [← List.take_append_drop (insPos l order i order.length) order, List.mem_append] at h
   rcases h with h | h
   ·exact .inl h
   ·exact .inr (.inr h)
theorem insOne_len {l : List Blank} {order : List Nat} {i : Nat} : (insOne l order i).length = order.length + 1 := by
 unfold insOne
 have := insPos_le l order i order.length
 simp; omega
theorem orderGo_mem {l : List Blank} : ∀ {r order : List Nat} {x : Nat}, x ∈ orderGo l r order ↔ x ∈ r ∨ x ∈ order
 | [], order, x => by simp [orderGo]
 | i :: r, order, x => by
  rw [orderGo, orderGo_mem, insOne_mem, List.mem_cons]
  constructor
  ·rintro (h | h | h)
   ·exact .inl (.inr h)
   ·exact .inl (.inl h)
   ·exact .inr h
  ·rintro ((h | h) | h)
   ·exact .inr (.inl h)
   ·exact .inl h
   ·exact .inr (.inr h)
theorem orderGo_len {l : List Blank} : ∀ {r order : List Nat}, (orderGo l r order).length = r.length + order.length
 | [], order => by simp [orderGo]
 | i :: r, order => by rw [orderGo, orderGo_len, insOne_len]; simp; omega
theorem orderM_lt {l : List Blank} {x : Nat} (h : x ∈ orderM l) : x < l.length := by
 unfold orderM at h
 rw [orderGo_mem] at h
 simpa using h
theorem orderM_len {l : List Blank} : (orderM l).length = l.length := by
 unfold orderM; rw [orderGo_len]; simp

def runM (kerf : Int) (stock : List Board) (blanks : List Blank) : List Nat → List BS → Option (List BS)
 | [], L => some L
 | i :: r, L => match putAll kerf stock (bl blanks i) i L with | some L' => runM kerf stock blanks r L' | none => none
def startM (stock : List Board) (t : Trim) : List BS := stock.map fun b => ⟨[wasteC], [usableR b t]⟩
def usedB (cs : List Cut) : Bool := cs.any fun c => decide (c.low = 0) && decide (0 ≤ c.blank)
def outGo : Nat → List BS → List (Nat × List Cut) → Option (List (Nat × List Cut))
 | _, [], acc => some acc
 | i, s :: L, acc => if 400 < s.cuts.length then none else outGo (i + 1) L (if usedB s.cuts then acc ++ [(i, s.cuts)] else acc)
def greedyM (stock : List Board) (blanks : List Blank) (t : Trim) : List (Nat × List Cut) × Int :=
 match runM t.kerf stock blanks (seqM blanks) (startM stock t) with
 | none => ([], 12)
 | some L => match outGo 0 L [] with
  | none => ([], 8)
  | some r => (r, 0)

structure GoodL (B : Nat) (L : List BS) : Prop where
 good : ∀ s ∈ L, GoodB s ∧ s.cuts.length ≤ B
theorem good_start {stock : List Board} {t : Trim} (hs : ∀ b ∈ stock, b.length ≤ 600000 ∧ b.width ≤ 600000) (h1 : 0 ≤ t.ends) (h2 : 0 ≤ t.sides) : GoodL 1 (startM stock t) := by
 refine ⟨fun s hx => ?_⟩
 unfold startM at hx
 obtain ⟨b, hb, rfl⟩ := List.mem_map.1 hx
 refine ⟨⟨rfl, fun r hr => ?_⟩, Nat.le_refl _⟩
 obtain rfl : r = usableR b t := by simpa using hr
 unfold usableR
 refine okR_whole ?_
 have := hs b hb
 simp only; omega
end Go.Proofs.YtjmgboipbhddlaaGreatDoor

set_option linter.unusedVariables false
set_option linter.unusedSimpArgs false
namespace Go.Proofs.YtjmgboipbhddlaaGreatDoor

def leafC (c : Cut) : Prop := c.low = 0 → c.across = false ∧ c.at_ = 0 ∧ c.high = 0
structure LeafB (s : BS) : Prop where
 leaf : ∀ c ∈ s.cuts, leafC c
structure FreeP (s : BS × Nat) : Prop where
 leaf : LeafB s.1
 lt : s.2 < s.1.cuts.length
 low : (s.1.cuts.getD s.2 wasteC).low = 0
theorem leaf_cut {s : BS} {kerf : Int} {region : Nat} {across : Bool} {a : Int} (h : LeafB s) (hr : region < s.cuts.length) : LeafB (s.cut kerf region across a) := by
 refine ⟨fun c hc => ?_⟩
 unfold BS.cut at hc
 rcases List.mem_or_eq_of_mem_set hc with hc | rfl
 ·simp only [List.mem_append, List.mem_cons, List.not_mem_nil, or_false] at hc
  rcases hc with hc | rfl | rfl
  ·exact h.leaf c hc
  ·intro _; exact ⟨rfl, rfl, rfl⟩
  ·intro _; exact ⟨rfl, rfl, rfl⟩
 ·intro h0; simp only at h0; omega
theorem free_low {s : BS} {kerf : Int} {region : Nat} {across : Bool} {a : Int} (h : LeafB s) (hr : region < s.cuts.length) : FreeP (s.cut kerf region across a, s.cuts.length) := by
 refine ⟨leaf_cut h hr, by simp [BS.cut], ?_⟩
 simp only [BS.cut, List.getD_eq_getElem?_getD]
 rw [List.getElem?_set_ne (by omega), List.getElem?_append_right (Nat.le_refl _)]
 simp [wasteC]
theorem free_high {s : BS} {kerf : Int} {region : Nat} {across : Bool} {a : Int} (h : LeafB s) (hr : region < s.cuts.length) : FreeP (s.cut kerf region across a, s.cuts.length + 1) := by
 refine ⟨leaf_cut h hr, by simp [BS.cut], ?_⟩
 simp only [BS.cut, List.getD_eq_getElem?_getD]
 rw [List.getElem?_set_ne (by omega), List.getElem?_append_right (by omega)]
 simp [wasteC]
theorem free_cut1 {s : BS} {kerf o : Int} {region : Nat} (h : FreeP (s, region)) : FreeP (s.cut1 kerf region o) := by
 unfold BS.cut1
 split
 ·exact free_high h.leaf h.lt
 ·exact h
theorem free_cut2 {s : BS × Nat} {kerf : Int} {w : Blank} (h : FreeP s) : FreeP (BS.cut2 s kerf w) := by
 unfold BS.cut2
 split
 ·exact free_low h.leaf h.lt
 ·exact h
theorem free_cut3 {s : BS × Nat} {kerf : Int} {w : Blank} (h : FreeP s) : FreeP (BS.cut3 s kerf w) := by
 unfold BS.cut3
 split
 ·exact free_low h.leaf h.lt
 ·exact h
theorem free_get {s : BS × Nat} (h : FreeP s) : leafC (s.1.cuts[s.2]'h.lt) ∧ (s.1.cuts[s.2]'h.lt).low = 0 := by
 refine ⟨h.leaf.leaf _ (List.getElem_mem h.lt), ?_⟩
 have := h.low
 rwa [List.getD_eq_getElem?_getD, List.getElem?_eq_getElem h.lt] at this
theorem mark_eq {s : BS × Nat} {number : Int} (h : FreeP s) : (⟨s.1.cuts.set s.2 { s.1.cuts[s.2]'h.lt with blank := number }, s.1.rects⟩ : BS) = BS.mark s number := by
 obtain ⟨h1, h2⟩ := free_get h
 obtain ⟨a1, a2, a3⟩ := h1 h2
 unfold BS.mark pieceC
 congr 2
 cases hc : s.1.cuts[s.2]'h.lt
 rw [hc] at h2 a1 a2 a3
 simp only at h2 a1 a2 a3
 simp [h2, a1, a2, a3]
theorem leaf_mark {s : BS × Nat} {number : Int} (h : LeafB s.1) : LeafB (BS.mark s number) := by
 refine ⟨fun c hc => ?_⟩
 unfold BS.mark at hc
 rcases List.mem_or_eq_of_mem_set hc with hc | rfl
 ·exact h.leaf c hc
 ·intro _; exact ⟨rfl, rfl, rfl⟩
theorem free_at {s : BS} {kerf : Int} {ds : List Rect} {w : Blank} {k : Nat} {o : Int} (h : LeafB s) (hk : k < s.cuts.length) (hs : s.at_ kerf ds w k = some o) : FreeP (s, k) := by
 refine ⟨h, hk, ?_⟩
 unfold BS.at_ at hs
 split at hs
 ·rename_i hf
  simp only [freeC, Bool.and_eq_true, decide_eq_true_eq] at hf
  exact hf.1.1
 ·cases hs
theorem leaf_place {s : BS} {kerf : Int} {ds : List Rect} {w : Blank} {number : Int} {k : Nat} {o : Int} (h : LeafB s) (hk : k < s.cuts.length) (hs : s.at_ kerf ds w k = some o) : LeafB (s.place kerf w number k o) :=
 leaf_mark (free_cut3 (free_cut2 (free_cut1 (free_at h hk hs)))).leaf
theorem leaf_put {s s' : BS} {kerf : Int} {b : Board} {w : Blank} {number : Int} (h : LeafB s) (hs : s.put kerf b w number = some s') : LeafB s' := by
 unfold BS.put at hs
 split at hs
 ·rw [Option.map_eq_some_iff] at hs
  obtain ⟨x, hx, rfl⟩ := hs
  obtain ⟨_, h2, h3⟩ := scan_some hx
  exact leaf_place h (by omega) h3
 ·cases hs
theorem cut1_pos {s : BS} {kerf o : Int} {region : Nat} (h : 0 < o) : s.cut1 kerf region o = (s.cut kerf region true (o - kerf), s.cuts.length + 1) := by unfold BS.cut1; rw [if_pos h]
theorem cut1_zero {s : BS} {kerf o : Int} {region : Nat} (h : ¬ 0 < o) : s.cut1 kerf region o = (s, region) := by unfold BS.cut1; rw [if_neg h]
theorem cut2_yes {s : BS} {a : Nat} {kerf : Int} {w : Blank} (h : w.length < (s.r a).x2 - (s.r a).x1) : BS.cut2 (s, a) kerf w = (s.cut kerf a true w.length, s.cuts.length) := by unfold BS.cut2; rw [if_pos h]
theorem cut2_no {s : BS} {a : Nat} {kerf : Int} {w : Blank} (h : ¬ w.length < (s.r a).x2 - (s.r a).x1) : BS.cut2 (s, a) kerf w = (s, a) := by unfold BS.cut2; rw [if_neg h]
theorem cut3_yes {s : BS} {a : Nat} {kerf : Int} {w : Blank} (h : w.width < (s.r a).y2 - (s.r a).y1) : BS.cut3 (s, a) kerf w = (s.cut kerf a false w.width, s.cuts.length) := by unfold BS.cut3; rw [if_pos h]
theorem cut3_no {s : BS} {a : Nat} {kerf : Int} {w : Blank} (h : ¬ w.width < (s.r a).y2 - (s.r a).y1) : BS.cut3 (s, a) kerf w = (s, a) := by unfold BS.cut3; rw [if_neg h]
end Go.Proofs.YtjmgboipbhddlaaGreatDoor
