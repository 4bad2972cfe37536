/- The widest sound rectangle: what the program seeks among few places is what the reference seeks among many (plain law). -/
import Derived.Test.YthhchnhidhgccaaOverlap
set_option linter.unusedVariables false
set_option linter.unusedSimpArgs false
namespace Go.Proofs.Ythhchnhidhgccaa
open Go Go.RowKit

/-! The first best of a list. -/
section
variable {α : Type} (h : α → Int) (lt : α → α → Prop)
def fbStep (s : Option α) (c : α) : Option α := match s with
  | none => if 0 < h c then some c else none
  | some b => if 0 < h c ∧ h b < h c then some c else some b
def FB (ps : List α) : Option α → Prop
  | none => ∀ c ∈ ps, h c ≤ 0
  | some b => b ∈ ps ∧ 0 < h b ∧ ∀ c ∈ ps, h c ≤ h b ∧ (h c = h b → c = b ∨ lt b c)
variable {h} {lt}
theorem fb_step {pre : List α} {c : α} {s : Option α} (hp : (pre ++ [c]).Pairwise lt) (hs : FB h lt pre s) : FB h lt (pre ++ [c]) (fbStep h s c) := by
  obtain ⟨-, -, hc⟩ := List.pairwise_append.1 hp
  cases s with
  | none =>
    simp only [FB] at hs
    simp only [fbStep]
    split
    · rename_i h0
      refine ⟨by simp, h0, fun d hd => ?_⟩
      rcases List.mem_append.1 hd with hd | hd
      · have := hs d hd
        exact ⟨by omega, fun e => by omega⟩
      · simp at hd; subst hd; exact ⟨Int.le_refl _, fun _ => .inl rfl⟩
    · rename_i h0
      intro d hd
      rcases List.mem_append.1 hd with hd | hd
      · exact hs d hd
      · simp at hd; subst hd; omega
  | some b =>
    obtain ⟨hb, h0, hm⟩ := hs
    simp only [fbStep]
    split
    · rename_i h1
      refine ⟨by simp, h1.1, fun d hd => ?_⟩
      rcases List.mem_append.1 hd with hd | hd
      · have := (hm d hd).1
        exact ⟨by omega, fun e => by omega⟩
      · simp at hd; subst hd; exact ⟨Int.le_refl _, fun _ => .inl rfl⟩
    · rename_i h1
      refine ⟨by simp [hb], h0, fun d hd => ?_⟩
      rcases List.mem_append.1 hd with hd | hd
      · exact hm d hd
      · simp at hd; subst hd
        exact ⟨by omega, fun _ => .inr (hc b hb d (by simp))⟩
theorem fb_fold {ps : List α} : ∀ {pre : List α} {s : Option α}, (pre ++ ps).Pairwise lt → FB h lt pre s → FB h lt (pre ++ ps) (ps.foldl (fbStep h) s) := by
  induction ps with
  | nil => intro pre s _ hs; simpa using hs
  | cons c ps ih =>
    intro pre s hp hs
    have e : pre ++ c :: ps = (pre ++ [c]) ++ ps := by simp
    rw [e] at hp ⊢
    rw [List.foldl_cons]
    exact ih hp (fb_step (List.pairwise_append.1 hp).1 hs)
theorem fb_same {S S' : List α} {r r' : Option α} (hr : FB h lt S r) (hr' : FB h lt S' r') (hsub : ∀ c ∈ S, c ∈ S') (hdom : ∀ c ∈ S', 0 < h c → ∃ b ∈ S, h c ≤ h b ∧ (b = c ∨ lt b c))
    (has : ∀ a b, lt a b → ¬ lt b a) : r = r' := by
  cases r' with
  | none =>
    cases r with
    | none => rfl
    | some b => have := hr' b (hsub b hr.1); have := hr.2.1; omega
  | some c =>
    obtain ⟨hc, h0, hm⟩ := hr'
    obtain ⟨b, hb, hle, hbc⟩ := hdom c hc h0
    have h1 := hm b (hsub b hb)
    have hbe : b = c := by
      rcases hbc with e | hl
      · exact e
      · rcases h1.2 (by omega) with e | hl'
        · exact e
        · exact absurd hl' (has _ _ hl)
    subst hbe
    cases r with
    | none => have := hr b hb; omega
    | some d =>
      obtain ⟨hd, h0', hm'⟩ := hr
      have a1 := hm' b hb
      have a2 := hm d (hsub d hd)
      congr 1
      rcases a1.2 (by omega) with e | hl
      · exact e.symm
      · rcases a2.2 (by omega) with e | hl'
        · exact e
        · exact absurd hl' (has _ _ hl)
end

/-! How far a rectangle reaches across. -/
def reach (ds : List Rect) (wd len x y : Int) : Int := ds.foldl (fY x (x + len) y) wd
theorem fY_step {x xl y y2 : Int} {d : Rect} (hd : d.y1 < d.y2) (hy : y ≤ y2) : y ≤ fY x xl y y2 d ∧ fY x xl y y2 d ≤ y2 ∧ ∀ Y, y < Y → (Y ≤ fY x xl y y2 d ↔ Y ≤ y2 ∧ overlapB d ⟨x, y, xl, Y⟩ = false) := by
  unfold fY overlapB
  simp only [decide_eq_true_eq, decide_eq_false_iff_not]
  split <;> refine ⟨by omega, by omega, fun Y hY => ?_⟩ <;> omega
theorem fold_fY {x xl y : Int} {ds : List Rect} (hds : ∀ d ∈ ds, d.y1 < d.y2) : ∀ {y2 : Int}, y ≤ y2 →
    y ≤ ds.foldl (fY x xl y) y2 ∧ ds.foldl (fY x xl y) y2 ≤ y2 ∧ ∀ Y, y < Y → (Y ≤ ds.foldl (fY x xl y) y2 ↔ Y ≤ y2 ∧ ∀ d ∈ ds, overlapB d ⟨x, y, xl, Y⟩ = false) := by
  induction ds with
  | nil => intro y2 hy; exact ⟨hy, Int.le_refl _, fun Y _ => by simp⟩
  | cons d ds ih =>
    intro y2 hy
    obtain ⟨a1, a2, a3⟩ := fY_step (x := x) (xl := xl) (hds d (by simp)) hy
    obtain ⟨b1, b2, b3⟩ := ih (fun e he => hds e (by simp [he])) a1
    rw [List.foldl_cons]
    refine ⟨b1, by omega, fun Y hY => ?_⟩
    rw [b3 Y hY, a3 Y hY]
    simp only [List.mem_cons, forall_eq_or_imp]
    exact ⟨fun ⟨⟨p, q⟩, r⟩ => ⟨p, q, r⟩, fun ⟨p, q, r⟩ => ⟨⟨p, q⟩, r⟩⟩
theorem fold_fY_mem {x xl y : Int} {ds : List Rect} : ∀ {y2 : Int}, ds.foldl (fY x xl y) y2 = y2 ∨ ds.foldl (fY x xl y) y2 = y ∨ ∃ d ∈ ds, ds.foldl (fY x xl y) y2 = d.y1 := by
  induction ds with
  | nil => intro y2; exact .inl rfl
  | cons d ds ih =>
    intro y2
    rw [List.foldl_cons]
    rcases ih (y2 := fY x xl y y2 d) with h | h | ⟨e, he, h⟩
    · rw [h]
      unfold fY
      split
      · rcases Int.le_total d.y1 y with hh | hh
        · right; left; omega
        · right; right; exact ⟨d, by simp, by omega⟩
      · left; rfl
    · right; left; exact h
    · right; right; exact ⟨e, by simp [he], h⟩

/-! The reference's search. -/
def overlapsB (a b : Rect) : Bool := decide (a.x1 < b.x2) && decide (b.x1 < a.x2) && decide (a.y1 < b.y2) && decide (b.y1 < a.y2)
def soundB (ds : List Rect) (r : Rect) : Bool := !ds.any fun d => overlapsB d r
theorem overlapsB_eq {a b : Rect} (h1 : a.x1 < a.x2) (h2 : a.y1 < a.y2) (h3 : b.x1 < b.x2) (h4 : b.y1 < b.y2) : overlapsB a b = overlapB a b := by
  unfold overlapsB overlapB
  rw [Bool.eq_iff_iff]
  simp only [Bool.and_eq_true, decide_eq_true_eq]
  omega
def refJ (ds : List Rect) (len x y : Int) (s : Rect × Bool) (Y : Int) : Rect × Bool :=
  if soundB ds ⟨x, y, x + len, Y⟩ = true ∧ (s.2 = false ∨ s.1.y2 - s.1.y1 < Y - y) then (⟨x, y, x + len, Y⟩, true) else s
def refMid (ds : List Rect) (len x : Int) : List Int → Rect × Bool → Rect × Bool
  | [], s => s
  | y :: ys, s => refMid ds len x ys (ys.foldl (refJ ds len x y) s)
def refX (ds : List Rect) (l len : Int) (ys : List Int) (s : Rect × Bool) (x : Int) : Rect × Bool := if l < x + len then s else refMid ds len x ys s
def lineXs (b : Board) : List Int := uniq (0 :: b.length :: b.defects.flatMap fun d => [d.x1, d.x2])
def lineYs (b : Board) : List Int := uniq (0 :: b.width :: b.defects.flatMap fun d => [d.y1, d.y2])
def refWid (b : Board) (len : Int) : Rect × Bool := (lineXs b).foldl (refX b.defects b.length len (lineYs b)) (⟨0, 0, 0, 0⟩, false)

theorem refJ_skip {ds : List Rect} {len x y : Int} : ∀ {Ys : List Int} {s : Rect × Bool}, (∀ Y ∈ Ys, soundB ds ⟨x, y, x + len, Y⟩ = false) → Ys.foldl (refJ ds len x y) s = s
  | [], s, _ => rfl
  | Y :: Ys, s, h => by
    rw [List.foldl_cons, show refJ ds len x y s Y = s by unfold refJ; rw [if_neg (by simp [h Y])]]
    exact refJ_skip fun Z hZ => h Z (by simp [hZ])
theorem refJ_hit {ds : List Rect} {len x y F : Int} (hF : soundB ds ⟨x, y, x + len, F⟩ = true) : ∀ {As : List Int} {s : Rect × Bool}, (∀ A ∈ As, A < F) →
    (As ++ [F]).foldl (refJ ds len x y) s = if s.2 = false ∨ s.1.y2 - s.1.y1 < F - y then (⟨x, y, x + len, F⟩, true) else s
  | [], s, _ => by
    simp only [List.nil_append, List.foldl_cons, List.foldl_nil, refJ, hF, true_and]
  | A :: As, s, h => by
    have hA := h A (by simp)
    rw [List.cons_append, List.foldl_cons, refJ_hit hF fun B hB => h B (by simp [hB])]
    by_cases hc : soundB ds ⟨x, y, x + len, A⟩ = true ∧ (s.2 = false ∨ s.1.y2 - s.1.y1 < A - y)
    · rw [show refJ ds len x y s A = (⟨x, y, x + len, A⟩, true) by unfold refJ; rw [if_pos hc]]
      rw [if_pos (.inr (by simp only; omega)), if_pos (by rcases hc.2 with e | e; exact .inl e; exact .inr (by omega))]
    · rw [show refJ ds len x y s A = s by unfold refJ; rw [if_neg hc]]

section
variable {ds : List Rect} {wd len x : Int}
theorem sound_iff {y Y : Int} (hds : ∀ d ∈ ds, d.x1 < d.x2 ∧ d.y1 < d.y2) (hlen : 1 ≤ len) (hy : y ≤ wd) (hY : y < Y) (hYw : Y ≤ wd) : soundB ds ⟨x, y, x + len, Y⟩ = true ↔ Y ≤ reach ds wd len x y := by
  obtain ⟨-, -, h⟩ := fold_fY (x := x) (xl := x + len) (y := y) (ds := ds) (fun d hd => (hds d hd).2) hy
  unfold reach
  rw [h Y hY]
  unfold soundB
  simp only [Bool.not_eq_true', List.any_eq_false, Bool.not_eq_true]
  constructor
  · intro hh
    exact ⟨hYw, fun d hd => by rw [← overlapsB_eq (hds d hd).1 (hds d hd).2 (by simp only; omega) (by simpa using hY)]; exact hh d hd⟩
  · rintro ⟨-, hh⟩ d hd
    rw [overlapsB_eq (hds d hd).1 (hds d hd).2 (by simp only; omega) (by simpa using hY)]; exact hh d hd
theorem refJ_all {y : Int} {Ys : List Int} {s : Rect × Bool} (hds : ∀ d ∈ ds, d.x1 < d.x2 ∧ d.y1 < d.y2) (hlen : 1 ≤ len) (hy : y ≤ wd) (hasc : Ys.Pairwise (· < ·)) (hgt : ∀ Y ∈ Ys, y < Y ∧ Y ≤ wd)
    (hmem : y < reach ds wd len x y → reach ds wd len x y ∈ Ys) : Ys.foldl (refJ ds len x y) s = stepY ds wd len x s y := by
  have hstep : stepY ds wd len x s y = if y < reach ds wd len x y ∧ (s.2 = false ∨ s.1.y2 - s.1.y1 < reach ds wd len x y - y) then (⟨x, y, x + len, reach ds wd len x y⟩, true) else s := rfl
  rw [hstep]
  obtain ⟨r1, r2, -⟩ := fold_fY (x := x) (xl := x + len) (y := y) (ds := ds) (fun d hd => (hds d hd).2) hy
  have r1' : y ≤ reach ds wd len x y := r1
  have r2' : reach ds wd len x y ≤ wd := r2
  generalize hF : reach ds wd len x y = F at *
  by_cases hlt : y < F
  · obtain ⟨As, Bs, rfl⟩ := List.append_of_mem (hmem hlt)
    obtain ⟨h1, h2, h3⟩ := List.pairwise_append.1 hasc
    have hB := (List.pairwise_cons.1 h2).1
    rw [show As ++ F :: Bs = (As ++ [F]) ++ Bs by simp, List.foldl_append, refJ_hit ((sound_iff hds hlen hy hlt r2').2 (by omega)) (fun A hA => h3 A hA F (by simp)), refJ_skip]
    · simp only [hlt, true_and]
    · intro Y hY
      have hq := hgt Y (by simp [hY])
      have := sound_iff (x := x) hds hlen hy hq.1 hq.2
      rw [hF] at this
      have := hB Y hY
      cases hs : soundB ds ⟨x, y, x + len, Y⟩
      · rfl
      · have := (‹soundB ds _ = true ↔ _›).1 hs; omega
  · rw [refJ_skip, if_neg (by rintro ⟨h, -⟩; exact hlt h)]
    intro Y hY
    have hq := hgt Y hY
    have := sound_iff (x := x) hds hlen hy hq.1 hq.2
    rw [hF] at this
    cases hs : soundB ds ⟨x, y, x + len, Y⟩
    · rfl
    · have := (‹soundB ds _ = true ↔ _›).1 hs; omega
theorem refMid_eq (hds : ∀ d ∈ ds, d.x1 < d.x2 ∧ d.y1 < d.y2) (hlen : 1 ≤ len) : ∀ {ys : List Int} {s : Rect × Bool}, ys.Pairwise (· < ·) → (∀ y ∈ ys, y ≤ wd) → (∀ y ∈ ys, y < reach ds wd len x y → reach ds wd len x y ∈ ys) →
    refMid ds len x ys s = ys.foldl (stepY ds wd len x) s
  | [], s, _, _, _ => rfl
  | y :: ys, s, hasc, hle, hmem => by
    obtain ⟨h1, h2⟩ := List.pairwise_cons.1 hasc
    rw [refMid, List.foldl_cons, refJ_all hds hlen (hle y (by simp)) h2 (fun Y hY => ⟨h1 Y hY, hle Y (by simp [hY])⟩) (fun h => ?_)]
    · refine refMid_eq hds hlen h2 (fun Y hY => hle Y (by simp [hY])) (fun Y hY h => ?_)
      rcases List.mem_cons.1 (hmem Y (by simp [hY]) h) with e | hm
      · have := h1 Y hY; omega
      · exact hm
    · rcases List.mem_cons.1 (hmem y (by simp) h) with e | hm
      · omega
      · exact hm
end

theorem widGo_fold {ds : List Rect} {l wd len : Int} {ys : List Int} : ∀ {xs : List Int} {s : Rect × Bool}, xs.Pairwise (· < ·) → widGo ds l wd len ys xs s = (xs.filter fun x => decide (x + len ≤ l)).foldl (fun s x => ys.foldl (stepY ds wd len x) s) s
  | [], s, _ => rfl
  | x :: xs, s, h => by
    obtain ⟨h1, h2⟩ := List.pairwise_cons.1 h
    rw [widGo]
    split
    · rename_i hc
      rw [List.filter_eq_nil_iff.2]
      · rfl
      · intro z hz
        rcases List.mem_cons.1 hz with rfl | hz
        · simp; omega
        · have := h1 z hz; simp; omega
    · rename_i hc
      rw [List.filter_cons, if_pos (by simpa using hc), List.foldl_cons]
      exact widGo_fold h2
theorem refX_fold {ds : List Rect} {l len : Int} {ys : List Int} {g : Rect × Bool → Int → Rect × Bool} (hg : ∀ s x, refMid ds len x ys s = g s x) : ∀ {xs : List Int} {s : Rect × Bool}, xs.foldl (refX ds l len ys) s = (xs.filter fun x => decide (x + len ≤ l)).foldl g s
  | [], s => rfl
  | x :: xs, s => by
    rw [List.foldl_cons, List.filter_cons]
    by_cases hc : l < x + len
    · rw [if_neg (by simp; omega), show refX ds l len ys s x = s by unfold refX; rw [if_pos hc]]
      exact refX_fold hg
    · rw [if_pos (by simp; omega), List.foldl_cons, show refX ds l len ys s x = g s x by unfold refX; rw [if_neg hc, hg]]
      exact refX_fold hg

/-! As first bests of pairs. -/
def pairs (xs ys : List Int) : List (Int × Int) := xs.flatMap fun x => ys.map fun y => (x, y)
def lexLt (p q : Int × Int) : Prop := p.1 < q.1 ∨ (p.1 = q.1 ∧ p.2 < q.2)
def hgt (ds : List Rect) (wd len : Int) (p : Int × Int) : Int := reach ds wd len p.1 p.2 - p.2
def encR (ds : List Rect) (wd len : Int) : Option (Int × Int) → Rect × Bool
  | none => (⟨0, 0, 0, 0⟩, false)
  | some p => (⟨p.1, p.2, p.1 + len, reach ds wd len p.1 p.2⟩, true)
theorem pairs_asc {xs ys : List Int} (h1 : xs.Pairwise (· < ·)) (h2 : ys.Pairwise (· < ·)) : (pairs xs ys).Pairwise lexLt := by
  unfold pairs
  rw [List.pairwise_flatMap]
  refine ⟨fun x _ => ?_, h1.imp fun {a b} hab p hp q hq => ?_⟩
  · rw [List.pairwise_map]
    exact h2.imp fun h => .inr ⟨rfl, h⟩
  · simp only [List.mem_map] at hp hq
    obtain ⟨_, _, rfl⟩ := hp
    obtain ⟨_, _, rfl⟩ := hq
    exact .inl hab
theorem pairs_mem {xs ys : List Int} {p : Int × Int} : p ∈ pairs xs ys ↔ p.1 ∈ xs ∧ p.2 ∈ ys := by
  unfold pairs
  simp only [List.mem_flatMap, List.mem_map]
  constructor
  · rintro ⟨x, hx, y, hy, rfl⟩; exact ⟨hx, hy⟩
  · rintro ⟨hx, hy⟩; exact ⟨p.1, hx, p.2, hy, rfl⟩
theorem encR_step {ds : List Rect} {wd len x y : Int} {s : Option (Int × Int)} : stepY ds wd len x (encR ds wd len s) y = encR ds wd len (fbStep (hgt ds wd len) s (x, y)) := by
  have hstep : ∀ t : Rect × Bool, stepY ds wd len x t y = if y < reach ds wd len x y ∧ (t.2 = false ∨ t.1.y2 - t.1.y1 < reach ds wd len x y - y) then (⟨x, y, x + len, reach ds wd len x y⟩, true) else t := fun _ => rfl
  rw [hstep]
  have e0 : hgt ds wd len (x, y) = reach ds wd len x y - y := rfl
  cases s with
  | none =>
    simp only [encR, fbStep, true_or, and_true]
    by_cases h : y < reach ds wd len x y
    · rw [if_pos h, if_pos (by omega)]
    · rw [if_neg h, if_neg (by omega)]
  | some b =>
    have e1 : hgt ds wd len b = reach ds wd len b.1 b.2 - b.2 := rfl
    simp only [encR, fbStep, Bool.true_eq_false, false_or]
    by_cases h : y < reach ds wd len x y ∧ reach ds wd len b.1 b.2 - b.2 < reach ds wd len x y - y
    · rw [if_pos h, if_pos ⟨by omega, by omega⟩]
    · rw [if_neg h, if_neg (by rintro ⟨p, q⟩; exact h ⟨by omega, by omega⟩)]
theorem foldY_enc {ds : List Rect} {wd len x : Int} : ∀ {ys : List Int} {s : Option (Int × Int)}, ys.foldl (stepY ds wd len x) (encR ds wd len s) = encR ds wd len ((ys.map fun y => (x, y)).foldl (fbStep (hgt ds wd len)) s)
  | [], s => rfl
  | y :: ys, s => by rw [List.foldl_cons, encR_step, List.map_cons, List.foldl_cons]; exact foldY_enc
theorem foldX_enc {ds : List Rect} {wd len : Int} {ys : List Int} : ∀ {xs : List Int} {s : Option (Int × Int)}, xs.foldl (fun s x => ys.foldl (stepY ds wd len x) s) (encR ds wd len s) = encR ds wd len ((pairs xs ys).foldl (fbStep (hgt ds wd len)) s)
  | [], s => rfl
  | x :: xs, s => by
    rw [List.foldl_cons, foldY_enc, foldX_enc]
    unfold pairs
    rw [List.flatMap_cons, List.foldl_append]

theorem max_le {l : List Int} {t z : Int} (hz : z ∈ l) (hzt : z ≤ t) : ∃ x ∈ l, x ≤ t ∧ ∀ v ∈ l, v ≤ t → v ≤ x := by
  induction l generalizing z with
  | nil => cases hz
  | cons a l ih =>
    by_cases h : ∃ z' ∈ l, z' ≤ t
    · obtain ⟨z', h1, h2⟩ := h
      obtain ⟨x, hx, hxt, hm⟩ := ih h1 h2
      by_cases ha : a ≤ t ∧ x < a
      · exact ⟨a, by simp, ha.1, fun v hv hvt => by
          rcases List.mem_cons.1 hv with rfl | hv
          · omega
          · have := hm v hv hvt; omega⟩
      · exact ⟨x, by simp [hx], hxt, fun v hv hvt => by
          rcases List.mem_cons.1 hv with rfl | hv
          · omega
          · exact hm v hv hvt⟩
    · have hza : z = a := by
        rcases List.mem_cons.1 hz with e | hz
        · exact e
        · exact absurd ⟨z, hz, hzt⟩ h
      subst hza
      exact ⟨z, by simp, hzt, fun v hv hvt => by
        rcases List.mem_cons.1 hv with rfl | hv
        · omega
        · exact absurd ⟨v, hv, hvt⟩ h⟩

theorem reach_left {ds : List Rect} {wd len x x' y : Int} (hds : ∀ d ∈ ds, d.x1 < d.x2 ∧ d.y1 < d.y2) (hy : y ≤ wd) (hxx : x ≤ x') (hx : ∀ d ∈ ds, d.x2 ≤ x' → d.x2 ≤ x) : reach ds wd len x' y ≤ reach ds wd len x y := by
  obtain ⟨a1, a2, a3⟩ := fold_fY (x := x) (xl := x + len) (y := y) (ds := ds) (fun d hd => (hds d hd).2) hy
  obtain ⟨b1, b2, b3⟩ := fold_fY (x := x') (xl := x' + len) (y := y) (ds := ds) (fun d hd => (hds d hd).2) hy
  unfold reach
  by_cases h : y < ds.foldl (fY x' (x' + len) y) wd
  · rw [a3 _ h]
    refine ⟨b2, fun d hd => ?_⟩
    have h1 := ((b3 _ h).1 (Int.le_refl _)).2 d hd
    generalize ds.foldl (fY x' (x' + len) y) wd = F at *
    have h2 := hx d hd
    unfold overlapB at h1 ⊢
    simp only [decide_eq_false_iff_not] at h1 ⊢
    omega
  · omega
theorem reach_down {ds : List Rect} {wd len x y y' : Int} (hds : ∀ d ∈ ds, d.x1 < d.x2 ∧ d.y1 < d.y2) (hy : y' ≤ wd) (hyy : y ≤ y') (hx : ∀ d ∈ ds, d.y2 ≤ y' → d.y2 ≤ y) (h : y' < reach ds wd len x y') : reach ds wd len x y' ≤ reach ds wd len x y := by
  obtain ⟨a1, a2, a3⟩ := fold_fY (x := x) (xl := x + len) (y := y) (ds := ds) (fun d hd => (hds d hd).2) (show y ≤ wd by omega)
  obtain ⟨b1, b2, b3⟩ := fold_fY (x := x) (xl := x + len) (y := y') (ds := ds) (fun d hd => (hds d hd).2) hy
  unfold reach at h ⊢
  rw [a3 _ (by omega)]
  refine ⟨b2, fun d hd => ?_⟩
  have h1 := ((b3 _ h).1 (Int.le_refl _)).2 d hd
  generalize ds.foldl (fY x (x + len) y') wd = F at *
  have h2 := hx d hd
  unfold overlapB at h1 ⊢
  simp only [decide_eq_false_iff_not] at h1 ⊢
  omega

structure DefsIn (b : Board) : Prop where
  len : 1 ≤ b.length
  wid : 1 ≤ b.width
  ins : ∀ d ∈ b.defects, 0 ≤ d.x1 ∧ d.x1 < d.x2 ∧ d.x2 ≤ b.length ∧ 0 ≤ d.y1 ∧ d.y1 < d.y2 ∧ d.y2 ≤ b.width
theorem lineXs_mem {b : Board} {z : Int} : z ∈ lineXs b ↔ z = 0 ∨ z = b.length ∨ ∃ d ∈ b.defects, z = d.x1 ∨ z = d.x2 := by
  unfold lineXs
  rw [uniq_mem]
  simp [List.mem_flatMap]
theorem lineYs_mem {b : Board} {z : Int} : z ∈ lineYs b ↔ z = 0 ∨ z = b.width ∨ ∃ d ∈ b.defects, z = d.y1 ∨ z = d.y2 := by
  unfold lineYs
  rw [uniq_mem]
  simp [List.mem_flatMap]

theorem wid_same {b : Board} {len : Int} (hb : DefsIn b) (hl : 1 ≤ len) : refWid b len = widS b len := by
  have hds : ∀ d ∈ b.defects, d.x1 < d.x2 ∧ d.y1 < d.y2 := fun d hd => by have := hb.ins d hd; omega
  have hyb : ∀ y ∈ lineYs b, 0 ≤ y ∧ y ≤ b.width := by
    intro y hy
    have hw := hb.wid
    rcases lineYs_mem.1 hy with rfl | rfl | ⟨d, hd, h⟩
    · omega
    · omega
    · have := hb.ins d hd; omega
  have hmid : ∀ s x, refMid b.defects len x (lineYs b) s = (lineYs b).foldl (stepY b.defects b.width len x) s := fun s x =>
    refMid_eq hds hl (uniq_asc _) (fun y hy => (hyb y hy).2) (fun y hy h => by
      rw [lineYs_mem]
      rcases fold_fY_mem (x := x) (xl := x + len) (y := y) (ds := b.defects) (y2 := b.width) with e | e | ⟨d, hd, e⟩
      · exact .inr (.inl e)
      · unfold reach at h; omega
      · exact .inr (.inr ⟨d, hd, .inl e⟩))
  unfold refWid widS
  rw [refX_fold (g := fun s x => (lineYs b).foldl (stepY b.defects b.width len x) s) hmid, widGo_fold (uniq_asc _)]
  rw [show ((⟨0, 0, 0, 0⟩, false) : Rect × Bool) = encR b.defects b.width len none from rfl, foldX_enc, foldX_enc]
  congr 1
  have A1 := fb_fold (h := hgt b.defects b.width len) (lt := lexLt) (pre := []) (s := none) (ps := pairs ((lineXs b).filter fun x => decide (x + len ≤ b.length)) (lineYs b)) (pairs_asc ((uniq_asc _).filter _) (uniq_asc _)) (by simp [FB])
  have A2 := fb_fold (h := hgt b.defects b.width len) (lt := lexLt) (pre := []) (s := none) (ps := pairs ((uniq (widXs b)).filter fun x => decide (x + len ≤ b.length)) (uniq (widYs b))) (pairs_asc ((uniq_asc _).filter _) (uniq_asc _)) (by simp [FB])
  rw [List.nil_append] at A1 A2
  refine (fb_same A2 A1 ?_ ?_ ?_).symm
  · intro p hp
    rw [pairs_mem] at hp ⊢
    rw [List.mem_filter, uniq_mem] at hp
    rw [List.mem_filter, lineXs_mem, lineYs_mem]
    obtain ⟨⟨h1, h2⟩, h3⟩ := hp
    rw [uniq_mem] at h3
    refine ⟨⟨?_, h2⟩, ?_⟩
    · simp only [widXs, List.mem_cons, List.mem_map] at h1
      rcases h1 with e | ⟨d, hd, e⟩
      · exact .inl e
      · exact .inr (.inr ⟨d, hd, .inr e.symm⟩)
    · simp only [widYs, List.mem_cons, List.mem_map] at h3
      rcases h3 with e | ⟨d, hd, e⟩
      · exact .inl e
      · exact .inr (.inr ⟨d, hd, .inr e.symm⟩)
  · rintro ⟨x', y'⟩ hp h0
    rw [pairs_mem, List.mem_filter] at hp
    obtain ⟨⟨h1, h2⟩, h3⟩ := hp
    simp only [decide_eq_true_eq] at h2
    have hx0 : 0 ≤ x' := by
      have := hb.len
      rcases lineXs_mem.1 h1 with e | e | ⟨d, hd, e⟩
      · simp only at e; omega
      · simp only at e; omega
      · have := hb.ins d hd; simp only at e; omega
    have hy0 := hyb _ h3
    simp only at hy0
    obtain ⟨x, hx, hxx, hxm⟩ := max_le (l := uniq (widXs b)) (t := x') (z := 0) (by rw [uniq_mem]; simp [widXs]) hx0
    obtain ⟨y, hy, hyy, hym⟩ := max_le (l := uniq (widYs b)) (t := y') (z := 0) (by rw [uniq_mem]; simp [widYs]) hy0.1
    simp only [hgt] at h0
    have r1 := reach_left (len := len) (wd := b.width) (y := y') hds hy0.2 hxx (fun d hd hq => hxm _ (by rw [uniq_mem]; simp only [widXs, List.mem_cons, List.mem_map]; exact .inr ⟨d, hd, rfl⟩) hq)
    have r2 := reach_down (len := len) (wd := b.width) (x := x) hds hy0.2 hyy (fun d hd hq => hym _ (by rw [uniq_mem]; simp only [widYs, List.mem_cons, List.mem_map]; exact .inr ⟨d, hd, rfl⟩) hq) (by omega)
    refine ⟨(x, y), ?_, ?_, ?_⟩
    · rw [pairs_mem, List.mem_filter]
      exact ⟨⟨hx, by simp only [decide_eq_true_eq]; omega⟩, hy⟩
    · simp only [hgt]; omega
    · by_cases e : x = x'
      · by_cases e' : y = y'
        · left; rw [e, e']
        · right; right; exact ⟨e, by simp only; omega⟩
      · right; left; simp only; omega
  · rintro a b (h | ⟨h, h'⟩) (k | ⟨k, k'⟩) <;> omega
end Go.Proofs.Ythhchnhidhgccaa
