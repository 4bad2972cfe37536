/- Clear lengths and covered areas: what the program sweeps is what the reference counts (plain law). -/
import Derived.Test.YthhchnhidhgccaaWidLaw
set_option linter.unusedVariables false
set_option linter.unusedSimpArgs false
namespace Go.Proofs.Ythhchnhidhgccaa
open Go Go.RowKit

/-! Clear lengths: lists of intervals with gaps, by the places that they cover. -/
abbrev Iv := Int × Int
def Gaps : List Iv → Prop
  | [] => True
  | [a] => a.1 < a.2
  | a :: b :: l => a.1 < a.2 ∧ a.2 < b.1 ∧ Gaps (b :: l)
def covI (l : List Iv) (p : Int) : Prop := ∃ a ∈ l, a.1 ≤ p ∧ p < a.2
theorem Gaps.tail {a : Iv} {l : List Iv} (h : Gaps (a :: l)) : Gaps l := by
  cases l with
  | nil => trivial
  | cons b l => exact h.2.2
theorem Gaps.head {a : Iv} {l : List Iv} (h : Gaps (a :: l)) : a.1 < a.2 := by
  cases l with
  | nil => exact h
  | cons b l => exact h.1
theorem Gaps.past {a : Iv} {l : List Iv} (h : Gaps (a :: l)) : ∀ b ∈ l, a.2 < b.1 ∧ b.1 < b.2 := by
  induction l generalizing a with
  | nil => simp
  | cons c l ih =>
    obtain ⟨h1, h2, h3⟩ := h
    intro b hb
    rcases List.mem_cons.1 hb with rfl | hb
    · exact ⟨h2, h3.head⟩
    · have := ih h3 b hb; have := h3.head; omega
theorem covI_cons {a : Iv} {l : List Iv} {p : Int} : covI (a :: l) p ↔ (a.1 ≤ p ∧ p < a.2) ∨ covI l p := by simp [covI]
theorem gaps_ext : ∀ {l m : List Iv}, Gaps l → Gaps m → (∀ p, covI l p ↔ covI m p) → l = m
  | [], [], _, _, _ => rfl
  | [], b :: m, _, hm, h => by
    have := (h b.1).2 (covI_cons.2 (.inl ⟨Int.le_refl _, hm.head⟩))
    obtain ⟨_, hh, _⟩ := this; cases hh
  | a :: l, [], hl, _, h => by
    have := (h a.1).1 (covI_cons.2 (.inl ⟨Int.le_refl _, hl.head⟩))
    obtain ⟨_, hh, _⟩ := this; cases hh
  | a :: l, b :: m, hl, hm, h => by
    have la := hl.head
    have mb := hm.head
    have lp := hl.past
    have mp := hm.past
    have nl : ∀ p, p ≤ a.2 → ¬ covI l p := fun p hp ⟨c, hc, h1, h2⟩ => by have := lp c hc; omega
    have nm : ∀ p, p ≤ b.2 → ¬ covI m p := fun p hp ⟨c, hc, h1, h2⟩ => by have := mp c hc; omega
    have e1 : a.1 = b.1 := by
      have h1 := (h a.1).1 (covI_cons.2 (.inl ⟨Int.le_refl _, la⟩))
      have h2 := (h b.1).2 (covI_cons.2 (.inl ⟨Int.le_refl _, mb⟩))
      rcases covI_cons.1 h1 with h1 | ⟨c, hc, h1, h1'⟩ <;> rcases covI_cons.1 h2 with h2 | ⟨d, hd, h2, h2'⟩
      · omega
      · have := lp d hd; omega
      · have := mp c hc; omega
      · have := lp d hd; have := mp c hc; omega
    have e2 : a.2 = b.2 := by
      rcases Int.lt_trichotomy a.2 b.2 with hlt | he | hlt
      · have := (h a.2).2 (covI_cons.2 (.inl ⟨by omega, hlt⟩))
        rcases covI_cons.1 this with h1 | h1
        · omega
        · exact absurd h1 (nl _ (Int.le_refl _))
      · exact he
      · have := (h b.2).1 (covI_cons.2 (.inl ⟨by omega, hlt⟩))
        rcases covI_cons.1 this with h1 | h1
        · omega
        · exact absurd h1 (nm _ (Int.le_refl _))
    have hab : a = b := Prod.ext e1 e2
    subst hab
    congr 1
    refine gaps_ext hl.tail hm.tail fun p => ?_
    by_cases hp : p ≤ a.2
    · exact ⟨fun hh => absurd hh (nl p hp), fun hh => absurd hh (nm p hp)⟩
    · have := h p
      rw [covI_cons, covI_cons] at this
      constructor
      · intro hh
        rcases this.1 (.inr hh) with h1 | h1
        · omega
        · exact h1
      · intro hh
        rcases this.2 (.inr hh) with h1 | h1
        · omega
        · exact h1

/-- The program's sweep over defects that ascend. -/
def sweep (L : Int) : List Rect → Int → List Iv
  | [], at_ => if at_ < L then [(at_, L)] else []
  | d :: r, at_ => (if at_ < d.x1 then [(at_, d.x1)] else []) ++ sweep L r (max at_ d.x2)
theorem sweep_ok {L : Int} : ∀ {r : List Rect} {t : Int}, r.Pairwise (fun c d => c.x1 ≤ d.x1) → (∀ d ∈ r, d.x1 < d.x2 ∧ d.x2 ≤ L) →
    Gaps (sweep L r t) ∧ (∀ a ∈ sweep L r t, t ≤ a.1) ∧ ∀ p, covI (sweep L r t) p ↔ t ≤ p ∧ p < L ∧ ∀ d ∈ r, ¬ (d.x1 ≤ p ∧ p < d.x2)
  | [], t, _, _ => by
    unfold sweep
    split
    · rename_i h
      exact ⟨h, by simp, fun p => by simp [covI]⟩
    · exact ⟨trivial, by simp, fun p => by simp [covI]; omega⟩
  | d :: r, t, hs, hd => by
    obtain ⟨h1, h2⟩ := List.pairwise_cons.1 hs
    have hd0 := hd d (by simp)
    obtain ⟨g, lo, cv⟩ := sweep_ok (t := max t d.x2) h2 (fun e he => hd e (by simp [he]))
    unfold sweep
    split
    · rename_i h
      refine ⟨?_, ?_, fun p => ?_⟩
      · cases hq : sweep L r (max t d.x2) with
        | nil => exact h
        | cons b l =>
          rw [hq] at g lo
          have := lo b (by simp)
          exact ⟨h, by simp only; omega, g⟩
      · intro a ha
        rcases List.mem_append.1 ha with ha | ha
        · simp at ha; subst ha; exact Int.le_refl _
        · have := lo a ha; omega
      · rw [List.singleton_append, covI_cons, cv]
        simp only [List.mem_cons, forall_eq_or_imp]
        constructor
        · rintro (⟨a1, a2⟩ | ⟨a1, a2, a3⟩)
          · exact ⟨a1, by omega, by omega, fun e he => by have := h1 e he; omega⟩
          · exact ⟨by omega, a2, by omega, a3⟩
        · rintro ⟨a1, a2, a3, a4⟩
          by_cases hp : p < d.x1
          · exact .inl ⟨a1, hp⟩
          · exact .inr ⟨by omega, a2, a4⟩
    · rename_i h
      refine ⟨g, fun a ha => by have := lo a ha; omega, fun p => ?_⟩
      rw [List.nil_append, cv]
      simp only [List.mem_cons, forall_eq_or_imp]
      constructor
      · rintro ⟨a1, a2, a3⟩; exact ⟨by omega, a2, by omega, a3⟩
      · rintro ⟨a1, a2, a3, a4⟩; exact ⟨by omega, a2, a4⟩

/-- The reference: strips that are sound, joined where they touch. -/
def joinIv (out : List Iv) (x x' : Int) : List Iv :=
  match out.getLast? with
  | some a => if a.2 = x then out.dropLast ++ [(a.1, x')] else out ++ [(x, x')]
  | none => out ++ [(x, x')]
def clearStep (ds : List Rect) (wd : Int) (out : List Iv) (x x' : Int) : List Iv := if soundB ds ⟨x, 0, x', wd⟩ = true then joinIv out x x' else out
def clearGo (ds : List Rect) (wd : Int) : List Int → List Iv → List Iv
  | x :: x' :: xs, out => clearGo ds wd (x' :: xs) (clearStep ds wd out x x')
  | _, out => out
def refClear (b : Board) : List Iv := clearGo b.defects b.width (lineXs b) []
theorem gaps_append {l : List Iv} {a : Iv} : Gaps (l ++ [a]) ↔ Gaps l ∧ a.1 < a.2 ∧ ∀ b, l.getLast? = some b → b.2 < a.1 := by
  induction l with
  | nil => simp [Gaps]
  | cons c l ih =>
    cases l with
    | nil => simp [Gaps]; omega
    | cons d l =>
      rw [List.cons_append, List.cons_append, Gaps, ← List.cons_append, ih, Gaps, List.getLast?_cons_cons]
      constructor
      · rintro ⟨a1, a2, a3, a4, a5⟩; exact ⟨⟨a1, a2, a3⟩, a4, a5⟩
      · rintro ⟨⟨a1, a2, a3⟩, a4, a5⟩; exact ⟨a1, a2, a3, a4, a5⟩
theorem covI_append {l m : List Iv} {p : Int} : covI (l ++ m) p ↔ covI l p ∨ covI m p := by
  simp only [covI, List.mem_append]
  constructor
  · rintro ⟨a, h | h, k⟩
    · exact .inl ⟨a, h, k⟩
    · exact .inr ⟨a, h, k⟩
  · rintro (⟨a, h, k⟩ | ⟨a, h, k⟩)
    · exact ⟨a, .inl h, k⟩
    · exact ⟨a, .inr h, k⟩
/-- What a list of intervals is after the strips up to x. -/
structure ClearAt (Q : Int → Prop) (out : List Iv) (x : Int) : Prop where
  gaps : Gaps out
  last : ∀ a, out.getLast? = some a → a.2 ≤ x
  cov : ∀ p, covI out p ↔ 0 ≤ p ∧ p < x ∧ Q p
theorem joinIv_ok {Q : Int → Prop} {out : List Iv} {x x' : Int} (h : ClearAt Q out x) (h0 : 0 ≤ x) (hx : x < x') (hQ : ∀ p, x ≤ p → p < x' → Q p) : ClearAt Q (joinIv out x x') x' := by
  obtain ⟨hg, hl, hc⟩ := h
  unfold joinIv
  cases he : out.getLast? with
  | none =>
    have : out = [] := by simpa using he
    subst this
    refine ⟨hx, by simp, fun p => ?_⟩
    have hcp := hc p
    simp [covI] at hcp ⊢
    constructor
    · rintro ⟨a1, a2⟩; exact ⟨by omega, a2, hQ p a1 a2⟩
    · rintro ⟨a1, a2, a3⟩
      refine ⟨?_, a2⟩
      by_cases hp : p < x
      · exact absurd a3 (hcp a1 hp)
      · omega
  | some a =>
    have hla := hl a he
    have hne : out = out.dropLast ++ [a] := by
      have hn : out ≠ [] := by rintro rfl; simp at he
      rw [List.getLast?_eq_some_getLast hn] at he
      injection he with he
      rw [← he]; exact (List.dropLast_concat_getLast hn).symm
    simp only
    split
    · rename_i hax
      generalize hin : out.dropLast = init at *
      subst hne
      obtain ⟨g1, g2, g3⟩ := gaps_append.1 hg
      refine ⟨gaps_append.2 ⟨g1, by simp only; omega, g3⟩, by simp, fun p => ?_⟩
      have hcp := hc p
      rw [covI_append] at hcp ⊢
      simp only [covI, List.mem_singleton, exists_eq_left] at hcp ⊢
      constructor
      · rintro (h1 | ⟨h1, h2⟩)
        · have := hcp.1 (.inl h1); exact ⟨this.1, by omega, this.2.2⟩
        · by_cases hp : p < a.2
          · have := hcp.1 (.inr ⟨h1, hp⟩); exact ⟨this.1, by omega, this.2.2⟩
          · exact ⟨by omega, h2, hQ p (by omega) h2⟩
      · rintro ⟨a1, a2, a3⟩
        by_cases hp : p < x
        · rcases hcp.2 ⟨a1, hp, a3⟩ with h1 | h1
          · exact .inl h1
          · exact .inr ⟨h1.1, a2⟩
        · exact .inr ⟨by omega, a2⟩
    · rename_i hax
      refine ⟨gaps_append.2 ⟨hg, hx, fun b hb => by rw [he] at hb; injection hb with hb; subst hb; simp only; omega⟩, by simp, fun p => ?_⟩
      have hcp := hc p
      rw [covI_append, hcp]
      simp only [covI, List.mem_singleton, exists_eq_left]
      constructor
      · rintro (⟨a1, a2, a3⟩ | ⟨a1, a2⟩)
        · exact ⟨a1, by omega, a3⟩
        · exact ⟨by omega, a2, hQ p a1 a2⟩
      · rintro ⟨a1, a2, a3⟩
        by_cases hp : p < x
        · exact .inl ⟨a1, hp, a3⟩
        · exact .inr ⟨by omega, a2⟩
theorem skip_ok {Q : Int → Prop} {out : List Iv} {x x' : Int} (h : ClearAt Q out x) (hx : x < x') (hQ : ∀ p, x ≤ p → p < x' → ¬ Q p) : ClearAt Q out x' := by
  obtain ⟨hg, hl, hc⟩ := h
  refine ⟨hg, fun a ha => by have := hl a ha; omega, fun p => ?_⟩
  rw [hc]
  constructor
  · rintro ⟨a1, a2, a3⟩; exact ⟨a1, by omega, a3⟩
  · rintro ⟨a1, a2, a3⟩
    by_cases hp : p < x
    · exact ⟨a1, hp, a3⟩
    · exact absurd a3 (hQ p (by omega) a2)
/-- No defect over a column. -/
def freeAt (ds : List Rect) (p : Int) : Prop := ∀ d ∈ ds, ¬ (d.x1 ≤ p ∧ p < d.x2)
theorem strip_sound {ds : List Rect} {wd x x' : Int} (hds : ∀ d ∈ ds, d.x1 < d.x2 ∧ 0 ≤ d.y1 ∧ d.y1 < d.y2 ∧ d.y2 ≤ wd) (hx : x < x') (hno : ∀ d ∈ ds, ¬ (x < d.x1 ∧ d.x1 < x') ∧ ¬ (x < d.x2 ∧ d.x2 < x')) {p : Int} (hp : x ≤ p ∧ p < x') :
    soundB ds ⟨x, 0, x', wd⟩ = true ↔ freeAt ds p := by
  unfold soundB freeAt overlapsB
  simp only [Bool.not_eq_true', List.any_eq_false, Bool.not_eq_true, Bool.and_eq_false_iff, decide_eq_false_iff_not]
  constructor
  · intro h d hd
    have h1 := h d hd
    have h2 := hds d hd
    have h3 := hno d hd
    omega
  · intro h d hd
    have h1 := h d hd
    have h2 := hds d hd
    have h3 := hno d hd
    omega
theorem clearGo_ok {ds : List Rect} {wd : Int} (hds : ∀ d ∈ ds, d.x1 < d.x2 ∧ 0 ≤ d.y1 ∧ d.y1 < d.y2 ∧ d.y2 ≤ wd) : ∀ {xs : List Int} {x L : Int} {out : List Iv}, (x :: xs).Pairwise (· < ·) → 0 ≤ x → (∀ d ∈ ds, (d.x1 ≤ x ∨ d.x1 ∈ xs) ∧ (d.x2 ≤ x ∨ d.x2 ∈ xs)) →
    (x :: xs).getLast? = some L → ClearAt (freeAt ds) out x → ClearAt (freeAt ds) (clearGo ds wd (x :: xs) out) L
  | [], x, L, out, _, _, _, hL, h => by simp at hL; subst hL; exact h
  | x' :: xs, x, L, out, hp, h0, hm, hL, h => by
    obtain ⟨h1, h2⟩ := List.pairwise_cons.1 hp
    have hx := h1 x' (by simp)
    have h3 := (List.pairwise_cons.1 h2).1
    have hno : ∀ d ∈ ds, ¬ (x < d.x1 ∧ d.x1 < x') ∧ ¬ (x < d.x2 ∧ d.x2 < x') := by
      intro d hd
      obtain ⟨m1, m2⟩ := hm d hd
      constructor
      · rintro ⟨a, b⟩
        rcases m1 with m | m
        · omega
        · rcases List.mem_cons.1 m with e | m
          · omega
          · have := h3 _ m; omega
      · rintro ⟨a, b⟩
        rcases m2 with m | m
        · omega
        · rcases List.mem_cons.1 m with e | m
          · omega
          · have := h3 _ m; omega
    rw [clearGo]
    refine clearGo_ok hds h2 (by omega) (fun d hd => ?_) (by simpa using hL) ?_
    · obtain ⟨m1, m2⟩ := hm d hd
      constructor
      · rcases m1 with m | m
        · left; omega
        · rcases List.mem_cons.1 m with e | m
          · left; omega
          · right; exact m
      · rcases m2 with m | m
        · left; omega
        · rcases List.mem_cons.1 m with e | m
          · left; omega
          · right; exact m
    · unfold clearStep
      by_cases hs : soundB ds ⟨x, 0, x', wd⟩ = true
      · rw [if_pos hs]
        exact joinIv_ok h h0 hx fun p p1 p2 => (strip_sound hds hx hno ⟨p1, p2⟩).1 hs
      · rw [if_neg hs]
        exact skip_ok h hx fun p p1 p2 hf => hs ((strip_sound hds hx hno ⟨p1, p2⟩).2 hf)
theorem asc_head {l : List Int} (hp : l.Pairwise (· < ·)) {z : Int} (hz : z ∈ l) (hm : ∀ v ∈ l, z ≤ v) : ∃ t, l = z :: t := by
  cases l with
  | nil => cases hz
  | cons a t =>
    rcases List.mem_cons.1 hz with e | h
    · exact ⟨t, by rw [e]⟩
    · have := (List.pairwise_cons.1 hp).1 z h; have := hm a (by simp); omega
theorem asc_last {l : List Int} (hp : l.Pairwise (· < ·)) {z : Int} (hz : z ∈ l) (hm : ∀ v ∈ l, v ≤ z) : l.getLast? = some z := by
  obtain ⟨A, B, rfl⟩ := List.append_of_mem hz
  cases B with
  | nil => simp
  | cons b B =>
    have h := (List.pairwise_cons.1 (List.pairwise_append.1 hp).2.1).1 b (by simp)
    have := hm b (by simp); omega
theorem lineXs_form {b : Board} (hb : DefsIn b) : ∃ t, lineXs b = 0 :: t ∧ (lineXs b).getLast? = some b.length := by
  have hbd : ∀ v ∈ lineXs b, 0 ≤ v ∧ v ≤ b.length := by
    intro v hv
    have := hb.len
    rcases lineXs_mem.1 hv with rfl | rfl | ⟨d, hd, h⟩
    · omega
    · omega
    · have := hb.ins d hd; omega
  obtain ⟨t, ht⟩ := asc_head (l := lineXs b) (uniq_asc _) (lineXs_mem.2 (.inl rfl)) fun v hv => (hbd v hv).1
  exact ⟨t, ht, asc_last (uniq_asc _) (lineXs_mem.2 (.inr (.inl rfl))) fun v hv => (hbd v hv).2⟩
theorem refClear_ok {b : Board} (hb : DefsIn b) : ClearAt (freeAt b.defects) (refClear b) b.length := by
  obtain ⟨t, ht, hl⟩ := lineXs_form hb
  have ha : (lineXs b).Pairwise (· < ·) := uniq_asc _
  unfold refClear
  have hmem : ∀ d ∈ b.defects, d.x1 ∈ lineXs b ∧ d.x2 ∈ lineXs b := fun d hd => ⟨lineXs_mem.2 (.inr (.inr ⟨d, hd, .inl rfl⟩)), lineXs_mem.2 (.inr (.inr ⟨d, hd, .inr rfl⟩))⟩
  rw [ht] at ha hl hmem ⊢
  refine clearGo_ok (fun d hd => by have := hb.ins d hd; omega) ha (Int.le_refl _) (fun d hd => ?_) hl ⟨trivial, by simp, fun p => ?_⟩
  · obtain ⟨m1, m2⟩ := hmem d hd
    constructor
    · rcases List.mem_cons.1 m1 with e | m
      · left; omega
      · right; exact m
    · rcases List.mem_cons.1 m2 with e | m
      · left; omega
      · right; exact m
  · simp [covI]; omega
theorem clear_same {b : Board} (hb : DefsIn b) {r : List Rect} (hp : r.Perm b.defects) (hs : r.Pairwise fun c d => c.x1 ≤ d.x1) : sweep b.length r 0 = refClear b := by
  obtain ⟨g, -, cv⟩ := sweep_ok (L := b.length) (t := 0) hs (fun d hd => by have := hb.ins d (hp.mem_iff.1 hd); omega)
  have hr := refClear_ok hb
  refine gaps_ext g hr.gaps fun p => ?_
  rw [cv, hr.cov]
  unfold freeAt
  simp only [hp.mem_iff]
end Go.Proofs.Ythhchnhidhgccaa
