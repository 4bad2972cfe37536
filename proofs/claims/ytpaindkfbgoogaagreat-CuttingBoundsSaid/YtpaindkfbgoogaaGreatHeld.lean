/- Boards that are being cut, with one more row in the hand. -/
import Derived.Test.YtpaindkfbgoogaaGreatG12
set_option linter.unusedVariables false
set_option linter.unusedSimpArgs false
namespace Go.Proofs.YtpaindkfbgoogaaGreat
open Go Go.RowKit

section
variable {w w1 : World} {base : Nat} {L L' : List Slot} {V V' : Nat → Value} {St St' : Addr → Value → Prop}
theorem app_get {L L' : List Slot} {j : Nat} {t : Slot} (hj : (L ++ L')[j]? = some t) : (j < L.length ∧ L[j]? = some t) ∨ (L.length ≤ j ∧ L'[j - L.length]? = some t) := by
  rcases Nat.lt_or_ge j L.length with h | h
  · rw [List.getElem?_append_left h] at hj; exact .inl ⟨h, hj⟩
  · rw [List.getElem?_append_right h] at hj; exact .inr ⟨h, hj⟩
def joinV (n : Nat) (V V' : Nat → Value) : Nat → Value := fun i => if i < n then V i else V' (i - n)
theorem joinV_l {n i : Nat} (h : i < n) : joinV n V V' i = V i := by unfold joinV; rw [if_pos h]
theorem joinV_r {n i : Nat} (h : n ≤ i) : joinV n V V' i = V' (i - n) := by unfold joinV; rw [if_neg (by omega)]
/-- Rows in old memory beside rows in new memory. -/
theorem Owned.join (h : Owned w base L V St) (hb : Below w.heap.size w w1) (h' : Owned w1 w.heap.size L' V' St') (hbase : base ≤ w.heap.size) (hst : ∀ a v, St' a v → w.heap.size ≤ a.block) :
    Owned w1 base (L ++ L') (joinV L.length V V') (fun a v => St a v ∨ St' a v) := by
  have hk := h.keep hb
  have hlo := h.bound
  have hhi : ∀ (i : Nat) (s : Slot), L'[i]? = some s → (∀ a, s.a = some a → w.heap.size ≤ a.block) ∧ ∀ g, (V' i).ownBlock = some g → w.heap.size ≤ g := fun i s hs => ⟨fun a ha => (h'.slot i s a hs ha).2.1, fun g hg => (h'.lt hs g hg).1⟩
  refine ⟨fun i s hs => ?_, fun i s a hs ha => ?_, fun i j s t a hi hj hij ha => ?_, fun i j s t g hi hj hij hg => ?_, fun i j s t a hi hj ha => ?_, fun a v hv => ?_⟩
  · rcases app_get hs with ⟨h1, h2⟩ | ⟨h1, h2⟩
    · rw [joinV_l h1]; exact hk.own i s h2
    · rw [joinV_r h1]
      obtain ⟨n, hn⟩ := h'.own _ s h2
      exact ⟨n, own_mono hn hbase⟩
  · rcases app_get hs with ⟨h1, h2⟩ | ⟨h1, h2⟩
    · exact hk.slot i s a h2 ha
    · obtain ⟨q1, q2, q3, q4⟩ := h'.slot _ s a h2 ha
      exact ⟨q1, Nat.le_trans hbase q2, q3, q4⟩
  · rcases app_get hi with ⟨h1, h2⟩ | ⟨h1, h2⟩ <;> rcases app_get hj with ⟨k1, k2⟩ | ⟨k1, k2⟩
    · exact h.slots i j s t a h2 k2 hij ha
    · intro e
      have := (hlo i s h2).1 a ha
      have := (hhi _ t k2).1 a e
      omega
    · intro e
      have := (hlo j t k2).1 a e
      have := (hhi _ s h2).1 a ha
      omega
    · exact h'.slots _ _ s t a h2 k2 (by omega) ha
  · rcases app_get hi with ⟨h1, h2⟩ | ⟨h1, h2⟩ <;> rcases app_get hj with ⟨k1, k2⟩ | ⟨k1, k2⟩
    · rw [joinV_l h1] at hg
      rw [joinV_l k1]; exact h.rows i j s t g h2 k2 hij hg
    · rw [joinV_l h1] at hg
      rw [joinV_r k1]
      intro e
      have := (hlo i s h2).2 g hg
      have := (hhi _ t k2).2 g e
      omega
    · rw [joinV_r h1] at hg
      rw [joinV_l k1]
      intro e
      have := (hlo j t k2).2 g e
      have := (hhi _ s h2).2 g hg
      omega
    · rw [joinV_r h1] at hg
      rw [joinV_r k1]; exact h'.rows _ _ s t g h2 k2 (by omega) hg
  · rcases app_get hi with ⟨h1, h2⟩ | ⟨h1, h2⟩ <;> rcases app_get hj with ⟨k1, k2⟩ | ⟨k1, k2⟩
    · rw [joinV_l h1]; exact h.off i j s t a h2 k2 ha
    · rw [joinV_l h1]
      intro e
      have := (hlo i s h2).2 _ e
      have := (hhi _ t k2).1 a ha
      omega
    · rw [joinV_r h1]
      intro e
      have := (hlo j t k2).1 a ha
      have := (hhi _ s h2).2 _ e
      omega
    · rw [joinV_r h1]; exact h'.off _ _ s t a h2 k2 ha
  · rcases hv with hv | hv
    · obtain ⟨h1, h2, h3⟩ := hk.st a v hv
      have hlt := block_lt_of_cell (h.st a v hv).2.1
      refine ⟨h1, h2, fun i s hi => ?_⟩
      rcases app_get hi with ⟨k1, k2⟩ | ⟨k1, k2⟩
      · rw [joinV_l k1]; exact h3 i s k2
      · rw [joinV_r k1]
        refine ⟨fun e => ?_, fun e => ?_⟩
        · have := (hhi _ s k2).1 a e; omega
        · have := (hhi _ s k2).2 _ e; omega
    · obtain ⟨h1, h2, h3⟩ := h'.st a v hv
      have hge := hst a v hv
      refine ⟨h1, h2, fun i s hi => ?_⟩
      rcases app_get hi with ⟨k1, k2⟩ | ⟨k1, k2⟩
      · rw [joinV_l k1]
        refine ⟨fun e => ?_, fun e => ?_⟩
        · have := (hlo i s k2).1 a e; omega
        · have := (hlo i s k2).2 _ e; omega
      · rw [joinV_r k1]; exact h3 _ s k2
/-- Cells in memory that was there before. -/
theorem Owned.old (h : Owned w base L V St) (hn : ∀ a v, St' a v → a.spot = none ∧ a.block < base ∧ w.cell? a = some v) : Owned w base L V (fun a v => St a v ∨ St' a v) := by
  refine ⟨h.own, h.slot, h.slots, h.rows, h.off, fun a v hv => ?_⟩
  rcases hv with hv | hv
  · exact h.st a v hv
  · obtain ⟨h1, h2, h3⟩ := hn a v hv
    refine ⟨h1, h3, fun i s hs => ⟨fun e => ?_, fun e => ?_⟩⟩
    · have := (h.slot i s a hs e).2.1; omega
    · have := (h.lt hs _ e).1; omega
end

/-- Boards that are being cut, and a row in the hand. -/
structure Held (w : World) (base : Nat) (s : Slot) (L : List Slot) (St : Addr → Value → Prop) (v : Value) : Prop where
  hand : s.a = none
  ex : ∃ V, Owned w base (s :: L) V St ∧ V 0 = v ∧ ∀ (i : Nat) (t : Slot) (a : Addr), (s :: L)[i]? = some t → t.a = some a → w.cell? a = some (V i)
section
variable {w w1 : World} {base : Nat} {s : Slot} {L L' : List Slot} {St St' : Addr → Value → Prop} {v : Value}
theorem Held.start (w : World) (base : Nat) (e : TypeId) (k : Nat) (St : Addr → Value → Prop) (hn : ∀ a v, St a v → a.spot = none ∧ a.block < base ∧ w.cell? a = some v) : Held w base ⟨none, e, k, []⟩ [] St (.slice none 0 0) := by
  have h := (Owned.nil w base (fun _ => .slice none 0 0)).slot_more (s := ⟨none, e, k, []⟩) (v := .slice none 0 0) (n := 0) (St' := fun _ _ => False) (Below.refl _ _) (World.ownsRow_nil _ _ _ _) (fun g hg => by cases hg) (fun a ha => by cases ha) (fun a u hu => hu.elim)
  have h2 := h.old (St' := St) hn
  refine ⟨rfl, _, h2.weak (fun a u hu => .inr hu), rfl, fun i t a hi ha => ?_⟩
  match i, hi with
  | 0, hi => injection hi with hi; subst hi; cases ha
theorem Held.keep (h : Held w base s L St v) (hb : Below w.heap.size w w1) : Held w1 base s L St v := by
  obtain ⟨hh, V, h1, h2, h3⟩ := h
  refine ⟨hh, V, h1.keep hb, h2, fun i t a hi ha => ?_⟩
  have := h3 i t a hi ha
  rw [hb.cell (block_lt_of_cell this)]; exact this
theorem Held.weak (h : Held w base s L St v) (hs : ∀ a v, St' a v → St a v) : Held w base s L St' v := by
  obtain ⟨hh, V, h1, h2, h3⟩ := h
  exact ⟨hh, V, h1.weak hs, h2, h3⟩
theorem Held.own (h : Held w base s L St v) : ∃ n, w.ownsRow base s.e s.k v n s.xs := by
  obtain ⟨hh, V, h1, h2, h3⟩ := h
  have := h1.own 0 s rfl
  rw [h2] at this; exact this
theorem Held.cell (h : Held w base s L St v) {a : Addr} {u : Value} (hs : St a u) : w.cell? a = some u := by
  obtain ⟨hh, V, h1, h2, h3⟩ := h
  exact (h1.st a u hs).2.1
theorem Held.join (h : Held w base s L St v) (hb : Below w.heap.size w w1) (h' : Desk w1 w.heap.size L' St') (hbase : base ≤ w.heap.size) (hst : ∀ a v, St' a v → w.heap.size ≤ a.block) :
    Held w1 base s (L ++ L') (fun a v => St a v ∨ St' a v) v := by
  obtain ⟨hh, V, h1, h2, h3⟩ := h
  obtain ⟨V', g1, g2⟩ := h'.ex
  refine ⟨hh, _, h1.join hb g1 hbase hst, by rw [joinV_l (by simp)]; exact h2, fun i t a hi ha => ?_⟩
  rcases app_get (L := s :: L) (L' := L') hi with ⟨k1, k2⟩ | ⟨k1, k2⟩
  · rw [joinV_l k1]
    have := h3 i t a k2 ha
    rw [hb.cell (block_lt_of_cell this)]; exact this
  · rw [joinV_r k1]; exact g2 _ t a k2 ha
theorem Held.append {v' : Value} {news : List Value} {m : Nat} (h : Held w base s L St v) (ho : w1.ownsRow base s.e s.k v' m (s.xs ++ news)) (hg : w.grownBy w1 v.ownBlock) (hv : v'.ownBlock = v.ownBlock ∨ v'.ownBlock = some w.heap.size) :
    Held w1 base { s with xs := s.xs ++ news } L St v' := by
  obtain ⟨hh, V, h1, h2, h3⟩ := h
  subst h2
  obtain ⟨q1, q2⟩ := h1.append (i := 0) (s := s) rfl ho hg hv
  refine ⟨hh, _, q1, upd_same _ _ _, fun i t a hi ha => ?_⟩
  match i, hi with
  | 0, hi =>
    simp only [List.set_cons_zero, List.getElem?_cons_zero, Option.some.injEq] at hi
    subst hi
    rw [hh] at ha; cases ha
  | i + 1, hi =>
    have hi' : (s :: L)[i + 1]? = some t := hi
    rw [upd_ne _ _ (by omega), q2 _ t a hi' ha]
    exact h3 _ t a hi' ha
/-- The row in the hand is laid down: its cells stay as they are. -/
theorem Held.drop (h : Held w base s L St v) : Desk w base L (fun a u => St a u ∨ ∃ g j, v.ownBlock = some g ∧ a = ⟨g, j, none⟩ ∧ s.xs[j]? = some u) := by
  obtain ⟨hh, V, h1, h2, h3⟩ := h
  refine ⟨fun i => V (i + 1), ⟨fun i t hi => h1.own (i + 1) t hi, fun i t a hi ha => h1.slot (i + 1) t a hi ha, fun i j t u a hi hj hij ha => h1.slots (i + 1) (j + 1) t u a hi hj (by omega) ha, fun i j t u g hi hj hij hg => h1.rows (i + 1) (j + 1) t u g hi hj (by omega) hg,
    fun i j t u a hi hj ha => h1.off (i + 1) (j + 1) t u a hi hj ha, fun a u hu => ?_⟩, fun i t a hi ha => h3 (i + 1) t a hi ha⟩
  rcases hu with hu | ⟨g, j, hg, rfl, hx⟩
  · obtain ⟨q1, q2, q3⟩ := h1.st a u hu
    exact ⟨q1, q2, fun i t hi => q3 (i + 1) t hi⟩
  · obtain ⟨n, hn⟩ := h1.own 0 s rfl
    rw [← h2] at hg
    have hc := hn.cells hg j u hx
    rw [addr_add, Nat.zero_add] at hc
    refine ⟨rfl, hc, fun i t hi => ⟨fun e => ?_, fun e => ?_⟩⟩
    · exact h1.off 0 (i + 1) s t _ rfl hi e hg
    · exact h1.rows 0 (i + 1) s t g rfl hi (by omega) hg e
/-- A board that has just been made. -/
theorem desk_fresh {x : Nat} {cs : List Value} (hx : base ≤ x) (h11 : w.cell? ⟨x, 11, none⟩ = some (.slice none 0 0)) (h12 : w.cell? ⟨x, 12, none⟩ = some (.slice none 0 0)) (f11 : w.frozen? ⟨x, 11, none⟩ = false) (f12 : w.frozen? ⟨x, 12, none⟩ = false)
    (hl : cs.length ≤ 11) (hcs : ∀ o u, cs[o]? = some u → w.cell? ⟨x, o, none⟩ = some u) : Desk w base [slotC ⟨x, 11, none⟩ [], slotR ⟨x, 12, none⟩ []] (newSt x cs) := by
  have g : ∀ {i : Nat} {t : Slot}, [slotC ⟨x, 11, none⟩ [], slotR ⟨x, 12, none⟩ []][i]? = some t → (i = 0 ∧ t = slotC ⟨x, 11, none⟩ []) ∨ (i = 1 ∧ t = slotR ⟨x, 12, none⟩ []) := by
    intro i t hi
    match i, hi with
    | 0, hi => injection hi with hi; exact .inl ⟨rfl, hi.symm⟩
    | 1, hi => injection hi with hi; exact .inr ⟨rfl, hi.symm⟩
  refine ⟨fun _ => .slice none 0 0, ⟨fun i t hi => ?_, fun i t a hi ha => ?_, fun i j t u a hi hj hij ha => ?_, fun i j t u q hi hj hij hg => (by cases hg), fun i j t u a hi hj ha e => (by cases e), fun a u hu => ?_⟩, fun i t a hi ha => ?_⟩
  · rcases g hi with ⟨rfl, rfl⟩ | ⟨rfl, rfl⟩
    · exact ⟨0, World.ownsRow_nil _ _ _ _⟩
    · exact ⟨0, World.ownsRow_nil _ _ _ _⟩
  · rcases g hi with ⟨rfl, rfl⟩ | ⟨rfl, rfl⟩ <;> (injection ha with ha; subst ha)
    · exact ⟨rfl, hx, f11, by rw [h11]; rfl⟩
    · exact ⟨rfl, hx, f12, by rw [h12]; rfl⟩
  · rcases g hi with ⟨rfl, rfl⟩ | ⟨rfl, rfl⟩ <;> rcases g hj with ⟨rfl, rfl⟩ | ⟨rfl, rfl⟩ <;> (injection ha with ha; subst ha)
    · exact absurd rfl hij
    · intro e; injection e with e; injection e with _ e; cases e
    · intro e; injection e with e; injection e with _ e; cases e
    · exact absurd rfl hij
  · obtain ⟨o, rfl, ho⟩ := hu
    have hol := (List.getElem?_eq_some_iff.1 ho).1
    refine ⟨rfl, hcs o u ho, fun i t hi => ⟨fun e => ?_, fun e => (by cases e)⟩⟩
    rcases g hi with ⟨rfl, rfl⟩ | ⟨rfl, rfl⟩ <;> (injection e with e; injection e with _ e; omega)
  · rcases g hi with ⟨rfl, rfl⟩ | ⟨rfl, rfl⟩ <;> (injection ha with ha; subst ha)
    · exact h11
    · exact h12
theorem fresh_at (x : Nat) : AtB [slotC ⟨x, 11, none⟩ [], slotR ⟨x, 12, none⟩ []] 0 ⟨x, 11, none⟩ ⟨x, 12, none⟩ ⟨[], []⟩ := ⟨rfl, rfl⟩
end
end Go.Proofs.YtpaindkfbgoogaaGreat
