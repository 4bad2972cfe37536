/- Boards chosen: the model; the row of boards while it is made; slices.Clone and Delete of rows of numbers. -/
import Derived.Test.YtdmoiepafkbefaaQN
import Derived.Test.YtdmoiepafkbefaaA8
import Derived.Test.YtdmoiepafkbefaaVG
import Derived.Test.YtdmoiepafkbefaaShelf
import Derived.Lib.OwnBridge
import Derived.Deep.CutBlock
set_option linter.unusedVariables false
set_option linter.unusedSimpArgs false
namespace Go.Proofs.Ytdmoiepafkbefaa
open Go Go.RowKit

instance boardI : Inhabited Board := ⟨⟨⟨#[]⟩, ⟨#[]⟩, 0, 0, 0, 0, 0, []⟩⟩
def pickB (stock : List Board) (l : List Nat) : List Board := l.map fun i => stock.getD i default
def dropAt (l : List Nat) (i : Nat) : List Nat := l.take i ++ l.drop (i + 1)
def leftGo (stock : List Board) (blanks : List Blank) (t : Trim) : Nat → List Nat → List Nat
  | 0, l => l
  | i + 1, l => leftGo stock blanks t i (if (greedyM (pickB stock (dropAt l i)) blanks t).2 = 0 then dropAt l i else l)
def chooseM (j : Job) : List Nat × Int :=
  if (greedyM j.stock j.blanks j.trim).2 ≠ 0 then ([], (greedyM j.stock j.blanks j.trim).2)
  else (leftGo j.stock j.blanks j.trim j.stock.length (List.range j.stock.length), 0)
def chooseE (j : Job) : List Nat × Int := if jobE j ≠ 0 then ([], jobE j) else chooseM j
def natI (l : List Nat) : List Int := l.map fun x : Nat => (x : Int)
theorem natI_len (l : List Nat) : (natI l).length = l.length := by simp [natI]
theorem leftGo_yes {stock : List Board} {blanks : List Blank} {t : Trim} {i : Nat} {l : List Nat} (h : (greedyM (pickB stock (dropAt l i)) blanks t).2 = 0) : leftGo stock blanks t (i + 1) l = leftGo stock blanks t i (dropAt l i) := by
  rw [leftGo, if_pos h]
theorem leftGo_no {stock : List Board} {blanks : List Blank} {t : Trim} {i : Nat} {l : List Nat} (h : ¬ (greedyM (pickB stock (dropAt l i)) blanks t).2 = 0) : leftGo stock blanks t (i + 1) l = leftGo stock blanks t i l := by
  rw [leftGo, if_neg h]
theorem dropAt_len {l : List Nat} {i : Nat} (h : i < l.length) : (dropAt l i).length = l.length - 1 := by simp [dropAt]; omega
theorem dropAt_mem {l : List Nat} {i x : Nat} (h : x ∈ dropAt l i) : x ∈ l := by
  rcases List.mem_append.1 h with h | h
  · exact List.mem_of_mem_take h
  · exact List.mem_of_mem_drop h
theorem jobOk_pick {stock : List Board} {blanks : List Blank} {t : Trim} {l : List Nat} (h : JobOk stock blanks t) (hl : ∀ x ∈ l, x < stock.length) (hn : l.length ≤ stock.length) : JobOk (pickB stock l) blanks t := by
  have hm : ∀ b ∈ pickB stock l, b ∈ stock := by
    intro b hb
    obtain ⟨i, hi, rfl⟩ := List.mem_map.1 hb
    have := hl i hi
    rw [List.getD_eq_getElem?_getD, List.getElem?_eq_getElem this]
    exact List.getElem_mem this
  exact ⟨fun b hb => h.defs b (hm b hb), fun b hb => h.size b (hm b hb), h.want, h.trim, by have := h.lenS; simp [pickB]; omega, h.lenB⟩

def zeroBd : Value := .agg #[.string ⟨#[]⟩, .string ⟨#[]⟩, .int .i64 0, .int .i64 0, .int .i64 0, .int .i64 0, .int .i64 0, .slice none 0 0]
theorem board_info : (Try.prog.info? 64).map (fun i => (i.zero, i.size, i.bytes)) = some (some zeroBd, 8, 96) := by kernel_rfl
/-! The boards as they lie in the stock. -/
structure StockCh (w : World) (a : Option Addr) (l : List Board) (AD : Nat → Option Addr) (CD : Nat → Nat) : Prop where
  ch : ∀ k b, l[k]? = some b → (∃ g off, a = some ⟨g, off, none⟩ ∧ CellsBd w g (off + k * 8) b (AD k) (CD k)) ∧ Rects.V w (AD k) b.defects ∧ b.defects.length ≤ CD k ∧ CD k ≤ maxLen ∧ b.wf
theorem stock_ch {w : World} {a : Option Addr} {l : List Board} (h : Boards.V w a l) : ∃ (AD : Nat → Option Addr) (CD : Nat → Nat), StockCh w a l AD CD := by
  have hh : ∀ k : Nat, ∃ p : Option Addr × Nat, ∀ b, l[k]? = some b → (∃ g off, a = some ⟨g, off, none⟩ ∧ CellsBd w g (off + k * 8) b p.1 p.2) ∧ Rects.V w p.1 b.defects ∧ b.defects.length ≤ p.2 ∧ p.2 ≤ maxLen ∧ b.wf := by
    intro k
    by_cases hk : k < l.length
    · obtain ⟨b, off, ha, hx⟩ := h (by intro e; subst e; simp at hk)
      obtain ⟨ad, cd, k0, k1, k2, k3, k4, k5, k6, k7, hr, h1, h2, h3⟩ := hx k _ (List.getElem?_eq_getElem hk)
      refine ⟨(ad, cd), fun b' hb' => ?_⟩
      rw [List.getElem?_eq_getElem hk] at hb'
      injection hb' with hb'
      subst hb'
      exact ⟨⟨b, off, ha, ⟨k0, k1, k2, k3, k4, k5, k6, k7⟩⟩, hr, h1, h2, h3⟩
    · exact ⟨(none, 0), fun b hb => by rw [List.getElem?_eq_none (by omega)] at hb; cases hb⟩
  exact ⟨fun k => (Classical.choose (hh k)).1, fun k => (Classical.choose (hh k)).2, ⟨fun k b hb => Classical.choose_spec (hh k) b hb⟩⟩
def encBd (b : Board) (ad : Option Addr) (cd : Nat) : List Value := [.string b.name, .string b.species, .int .i64 b.length, .int .i64 b.width, .int .i64 b.thick, .int .i64 b.cut, .int .i64 b.moisture, .slice ad b.defects.length cd]
def encP (stock : List Board) (AD : Nat → Option Addr) (CD : Nat → Nat) (i : Nat) : List Value := encBd (stock.getD i default) (AD i) (CD i)
theorem encP_len (stock : List Board) (AD : Nat → Option Addr) (CD : Nat → Nat) (i : Nat) : (encP stock AD CD i).length = 8 := rfl
theorem encBd_one (b : Board) (ad : Option Addr) (cd : Nat) : ∀ u ∈ encBd b ad cd, u.oneCell' = true := by
  intro u hu
  simp only [encBd, List.mem_cons, List.not_mem_nil, or_false] at hu
  rcases hu with rfl | rfl | rfl | rfl | rfl | rfl | rfl | rfl <;> rfl
theorem pick_rowV {w0 W : World} {a0 a : Option Addr} {stock : List Board} {AD : Nat → Option Addr} {CD : Nat → Nat} {l : List Nat} {base n c : Nat} (hS : StockCh w0 a0 stock AD CD) (hb : Below w0.heap.size w0 W) (hl : ∀ x ∈ l, x < stock.length)
    (h : W.ownsRow base 64 8 (.slice a n c) n (l.flatMap (encP stock AD CD))) : Boards.V W a (pickB stock l) := by
  have h1 : RowV 8 (fun w b o i => Board.at w b o (stock.getD i default)) W a l := own_rowV (encP_len stock AD CD) (by decide) (fun b o x hx hc => by
    have hxl := hl x hx
    obtain ⟨-, hr, q1, q2, q3⟩ := hS.ch x (stock.getD x default) (by rw [List.getD_eq_getElem?_getD, List.getElem?_eq_getElem hxl]; rfl)
    exact Board.at_of hc ⟨AD x, CD x, rfl, hr.keep hb, q1, q2, q3⟩) h
  intro hne
  obtain ⟨b, off, ha, hx⟩ := h1 (by intro e; subst e; exact hne rfl)
  refine ⟨b, off, ha, fun k x hk => ?_⟩
  unfold pickB at hk
  rw [List.getElem?_map, Option.map_eq_some_iff] at hk
  obtain ⟨i, hi, rfl⟩ := hk
  exact hx k i hi

/-! A job in a box whose row of boards grows. -/
theorem own_off1 {w : World} {base e k n : Nat} {v u : Value} {xs : List Value} {a : Addr} (h : w.ownsRow base e k v n xs) (ha : a.block < base) : (w.setCell a u).ownsRow base e k v n xs := by
  refine h.kept grownBy_set ?_
  cases hv : v.ownBlock with
  | none => exact .inl rfl
  | some g =>
    refine .inr fun e => ?_
    injection e with e
    have := own_base h hv
    omega
structure JBox (W : World) (gb : Nat) (v : Value) (n : Nat) (xs : List Value) (a2 : Option Addr) (nb c2 : Nat) (t : Trim) : Prop where
  row : W.ownsRow (gb + 1) 64 8 v n xs
  c0 : W.cell? ⟨gb, 0, none⟩ = some v
  f0 : W.frozen? ⟨gb, 0, none⟩ = false
  c1 : W.cell? ⟨gb, 1, none⟩ = some (.slice a2 nb c2)
  c2' : W.cell? ⟨gb, 2, none⟩ = some (.int .i64 t.kerf)
  c3 : W.cell? ⟨gb, 3, none⟩ = some (.int .i64 t.ends)
  c4 : W.cell? ⟨gb, 4, none⟩ = some (.int .i64 t.sides)
theorem JBox.keep {W W' : World} {gb : Nat} {v : Value} {n : Nat} {xs : List Value} {a2 : Option Addr} {nb c2 : Nat} {t : Trim} (h : JBox W gb v n xs a2 nb c2 t) (hb : Below W.heap.size W W') : JBox W' gb v n xs a2 nb c2 t :=
  ⟨own_keep h.row hb, cell_keep hb h.c0, frozen_keep hb (block_lt_of_cell h.c0) h.f0, cell_keep hb h.c1, cell_keep hb h.c2', cell_keep hb h.c3, cell_keep hb h.c4⟩
theorem JBox.add {W W1 : World} {gb : Nat} {v v' : Value} {n m : Nat} {xs ys : List Value} {a2 : Option Addr} {nb c2 : Nat} {t : Trim} (h : JBox W gb v n xs a2 nb c2 t) (ho : W1.ownsRow (gb + 1) 64 8 v' m ys) (hg : W.grownBy W1 v.ownBlock) :
    W1.cell? ⟨gb, 0, none⟩ = some v ∧ W1.frozen? ⟨gb, 0, none⟩ = false ∧ JBox (W1.setCell ⟨gb, 0, none⟩ v') gb v' m ys a2 nb c2 t := by
  have hz := block_lt_of_cell h.c0
  have hk := hg.block gb hz (fun e => by
    have := own_base h.row e.symm
    omega)
  have hc : ∀ o, W1.cell? ⟨gb, o, none⟩ = W.cell? ⟨gb, o, none⟩ := fun o => World.cell?_of_block hk
  have hf : ∀ o, W1.frozen? ⟨gb, o, none⟩ = W.frozen? ⟨gb, o, none⟩ := fun o => World.frozen?_of_block hk
  have hs : ∀ o, o ≠ 0 → (W1.setCell ⟨gb, 0, none⟩ v').cell? ⟨gb, o, none⟩ = W1.cell? ⟨gb, o, none⟩ := fun o ho => cell_set_ne (fun e => by injection e with _ e; exact ho e.symm) rfl rfl
  refine ⟨by rw [hc]; exact h.c0, by rw [hf]; exact h.f0, ⟨own_off1 ho (Nat.lt_succ_self _), cell_set_same (by rw [hc, h.c0]; rfl), by rw [frozen_set, hf]; exact h.f0, ?_, ?_, ?_, ?_⟩⟩
  · rw [hs 1 (by decide), hc]; exact h.c1
  · rw [hs 2 (by decide), hc]; exact h.c2'
  · rw [hs 3 (by decide), hc]; exact h.c3
  · rw [hs 4 (by decide), hc]; exact h.c4

/-! Rows of numbers: a copy, and one taken out. -/
end Go.Proofs.Ytdmoiepafkbefaa
