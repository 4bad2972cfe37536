/- The closed cells of the row of CuttingChooses are what the program forces. Boards chosen: the model; the row of boards while it is made; slices.Clone and Delete of rows of numbers. Choose of the program. With of the reference: a job of the boards that were picked. Choose of the reference. CuttingChooses returns true for every input: Choose returns the boards that are left, or the error that the document specifies. No condition. -/
import Derived.Test.YtepiapgcpoifpaaGreatFrame
import Derived.Test.YtepiapgcpoifpaaGreatG14
import Derived.Test.YtepiapgcpoifpaaGreatA8
import Derived.Test.YtepiapgcpoifpaaGreatVG
import Derived.Test.YtepiapgcpoifpaaGreatShelf
import Derived.Lib.OwnBridge
import Derived.Deep.CutBlock
import Derived.Test.YtepiapgcpoifpaaGreatRG
import Derived.Test.YtepiapgcpoifpaaGreatJob7
set_option linter.unusedVariables false
namespace Go.Proofs.YtepiapgcpoifpaaGreat
open Go Go.ChangeShapes Go.WideShapes Go.ChangeAt Go.RowKit
set_option maxRecDepth 100000
theorem cuttingChooses_inPlace : (Rows.cuttingChoosesRow.inPlace == Tryz.checked.prog.inPlace 3) = true := by kernel_rfl
theorem cuttingChooses_unfollowed : (Rows.cuttingChoosesRow.unfollowed == Tryz.checked.prog.unfollowed 3) = true := by kernel_rfl
theorem cuttingChooses_recurses : (Rows.cuttingChoosesRow.recurses == Tryz.checked.prog.recurses 3) = true := by kernel_rfl
theorem cuttingChooses_named : (Rows.cuttingChoosesRow.named == Tryz.checked.prog.varsNamed 3) = true := by kernel_rfl
theorem cuttingChooses_closed : joinedFacts Tryz.checked.prog 3 Tryz.f3 Rows.cuttingChoosesSpec Rows.cuttingChoosesRow = true := by
  unfold joinedFacts
  rw [cuttingChooses_inPlace, cuttingChooses_unfollowed, cuttingChooses_recurses, cuttingChooses_named]
  kernel_rfl
end Go.Proofs.YtepiapgcpoifpaaGreat

set_option linter.unusedVariables false
set_option linter.unusedSimpArgs false
namespace Go.Proofs.YtepiapgcpoifpaaGreat
open Go Go.RowKit

instance boardI : Inhabited Board := ⟨⟨⟨#[]⟩, ⟨#[]⟩, 0, 0, 0, 0, 0, []⟩⟩
def pickB (stock : List Board) (l : List Nat) : List Board := l.map fun i => stock.getD i default
def dropAt (l : List Nat) (i : Nat) : List Nat := l.take i ++ l.drop (i + 1)
def leftGo (stock : List Board) (blanks : List Blank) (t : Trim) : Nat → List Nat → List Nat
  | 0, l => l
  | i + 1, l => leftGo stock blanks t i (if (greedyM (pickB stock (dropAt l i)) blanks t).2 = 0 then dropAt l i else l)
def chooseM (j : Job) : List Nat × Int :=
  if (greedyM j.stock j.blanks j.trim).2 ≠ 0 then ([], (greedyM j.stock j.blanks j.trim).2)
  else (leftGo j.stock j.blanks j.trim j.stock.length (List.range j.stock.length), 0)
def chooseE (j : Job) : List Nat × Int := if jobE j ≠ 0 then ([], jobE j) else chooseM j
def natI (l : List Nat) : List Int := l.map fun x : Nat => (x : Int)
theorem natI_len (l : List Nat) : (natI l).length = l.length := by simp [natI]
theorem leftGo_yes {stock : List Board} {blanks : List Blank} {t : Trim} {i : Nat} {l : List Nat} (h : (greedyM (pickB stock (dropAt l i)) blanks t).2 = 0) : leftGo stock blanks t (i + 1) l = leftGo stock blanks t i (dropAt l i) := by
  rw [leftGo, if_pos h]
theorem leftGo_no {stock : List Board} {blanks : List Blank} {t : Trim} {i : Nat} {l : List Nat} (h : ¬ (greedyM (pickB stock (dropAt l i)) blanks t).2 = 0) : leftGo stock blanks t (i + 1) l = leftGo stock blanks t i l := by
  rw [leftGo, if_neg h]
theorem dropAt_len {l : List Nat} {i : Nat} (h : i < l.length) : (dropAt l i).length = l.length - 1 := by simp [dropAt]; omega
theorem dropAt_mem {l : List Nat} {i x : Nat} (h : x ∈ dropAt l i) : x ∈ l := by
  rcases List.mem_append.1 h with h | h
  · exact List.mem_of_mem_take h
  · exact List.mem_of_mem_drop h
theorem jobOk_pick {stock : List Board} {blanks : List Blank} {t : Trim} {l : List Nat} (h : JobOk stock blanks t) (hl : ∀ x ∈ l, x < stock.length) (hn : l.length ≤ stock.length) : JobOk (pickB stock l) blanks t := by
  have hm : ∀ b ∈ pickB stock l, b ∈ stock := by
    intro b hb
    obtain ⟨i, hi, rfl⟩ := List.mem_map.1 hb
    have := hl i hi
    rw [List.getD_eq_getElem?_getD, List.getElem?_eq_getElem this]
    exact List.getElem_mem this
  exact ⟨fun b hb => h.defs b (hm b hb), fun b hb => h.size b (hm b hb), h.want, h.trim, by have := h.lenS; simp [pickB]; omega, h.lenB⟩

def zeroBd : Value := .agg #[.string ⟨#[]⟩, .string ⟨#[]⟩, .int .i64 0, .int .i64 0, .int .i64 0, .int .i64 0, .int .i64 0, .slice none 0 0]
theorem board_info : (Tryz.prog.info? 86).map (fun i => (i.zero, i.size, i.bytes)) = some (some zeroBd, 8, 96) := by kernel_rfl
/-! The boards as they lie in the stock. -/
structure StockCh (w : World) (a : Option Addr) (l : List Board) (AD : Nat → Option Addr) (CD : Nat → Nat) : Prop where
  ch : ∀ k b, l[k]? = some b → (∃ g off, a = some ⟨g, off, none⟩ ∧ CellsBd w g (off + k * 8) b (AD k) (CD k)) ∧ Rects.V w (AD k) b.defects ∧ b.defects.length ≤ CD k ∧ CD k ≤ maxLen ∧ b.wf
theorem stock_ch {w : World} {a : Option Addr} {l : List Board} (h : Boards.V w a l) : ∃ (AD : Nat → Option Addr) (CD : Nat → Nat), StockCh w a l AD CD := by
  have hh : ∀ k : Nat, ∃ p : Option Addr × Nat, ∀ b, l[k]? = some b → (∃ g off, a = some ⟨g, off, none⟩ ∧ CellsBd w g (off + k * 8) b p.1 p.2) ∧ Rects.V w p.1 b.defects ∧ b.defects.length ≤ p.2 ∧ p.2 ≤ maxLen ∧ b.wf := by
    intro k
    by_cases hk : k < l.length
    · obtain ⟨b, off, ha, hx⟩ := h (by intro e; subst e; simp at hk)
      obtain ⟨ad, cd, k0, k1, k2, k3, k4, k5, k6, k7, hr, h1, h2, h3⟩ := hx k _ (List.getElem?_eq_getElem hk)
      refine ⟨(ad, cd), fun b' hb' => ?_⟩
      rw [List.getElem?_eq_getElem hk] at hb'
      injection hb' with hb'
      subst hb'
      exact ⟨⟨b, off, ha, ⟨k0, k1, k2, k3, k4, k5, k6, k7⟩⟩, hr, h1, h2, h3⟩
    · exact ⟨(none, 0), fun b hb => by rw [List.getElem?_eq_none (by omega)] at hb; cases hb⟩
  exact ⟨fun k => (Classical.choose (hh k)).1, fun k => (Classical.choose (hh k)).2, ⟨fun k b hb => Classical.choose_spec (hh k) b hb⟩⟩
def encBd (b : Board) (ad : Option Addr) (cd : Nat) : List Value := [.string b.name, .string b.species, .int .i64 b.length, .int .i64 b.width, .int .i64 b.thick, .int .i64 b.cut, .int .i64 b.moisture, .slice ad b.defects.length cd]
def encP (stock : List Board) (AD : Nat → Option Addr) (CD : Nat → Nat) (i : Nat) : List Value := encBd (stock.getD i default) (AD i) (CD i)
theorem encP_len (stock : List Board) (AD : Nat → Option Addr) (CD : Nat → Nat) (i : Nat) : (encP stock AD CD i).length = 8 := rfl
theorem encBd_one (b : Board) (ad : Option Addr) (cd : Nat) : ∀ u ∈ encBd b ad cd, u.oneCell' = true := by
  intro u hu
  simp only [encBd, List.mem_cons, List.not_mem_nil, or_false] at hu
  rcases hu with rfl | rfl | rfl | rfl | rfl | rfl | rfl | rfl <;> rfl
theorem pick_rowV {w0 W : World} {a0 a : Option Addr} {stock : List Board} {AD : Nat → Option Addr} {CD : Nat → Nat} {l : List Nat} {base n c : Nat} (hS : StockCh w0 a0 stock AD CD) (hb : Below w0.heap.size w0 W) (hl : ∀ x ∈ l, x < stock.length)
    (h : W.ownsRow base 86 8 (.slice a n c) n (l.flatMap (encP stock AD CD))) : Boards.V W a (pickB stock l) := by
  have h1 : RowV 8 (fun w b o i => Board.at w b o (stock.getD i default)) W a l := own_rowV (encP_len stock AD CD) (by decide) (fun b o x hx hc => by
    have hxl := hl x hx
    obtain ⟨-, hr, q1, q2, q3⟩ := hS.ch x (stock.getD x default) (by rw [List.getD_eq_getElem?_getD, List.getElem?_eq_getElem hxl]; rfl)
    exact Board.at_of hc ⟨AD x, CD x, rfl, hr.keep hb, q1, q2, q3⟩) h
  intro hne
  obtain ⟨b, off, ha, hx⟩ := h1 (by intro e; subst e; exact hne rfl)
  refine ⟨b, off, ha, fun k x hk => ?_⟩
  unfold pickB at hk
  rw [List.getElem?_map, Option.map_eq_some_iff] at hk
  obtain ⟨i, hi, rfl⟩ := hk
  exact hx k i hi

/-! A job in a box whose row of boards grows. -/
theorem own_off1 {w : World} {base e k n : Nat} {v u : Value} {xs : List Value} {a : Addr} (h : w.ownsRow base e k v n xs) (ha : a.block < base) : (w.setCell a u).ownsRow base e k v n xs := by
  refine h.kept grownBy_set ?_
  cases hv : v.ownBlock with
  | none => exact .inl rfl
  | some g =>
    refine .inr fun e => ?_
    injection e with e
    have := own_base h hv
    omega
structure JBox (W : World) (gb : Nat) (v : Value) (n : Nat) (xs : List Value) (a2 : Option Addr) (nb c2 : Nat) (t : Trim) : Prop where
  row : W.ownsRow (gb + 1) 86 8 v n xs
  c0 : W.cell? ⟨gb, 0, none⟩ = some v
  f0 : W.frozen? ⟨gb, 0, none⟩ = false
  c1 : W.cell? ⟨gb, 1, none⟩ = some (.slice a2 nb c2)
  c2' : W.cell? ⟨gb, 2, none⟩ = some (.int .i64 t.kerf)
  c3 : W.cell? ⟨gb, 3, none⟩ = some (.int .i64 t.ends)
  c4 : W.cell? ⟨gb, 4, none⟩ = some (.int .i64 t.sides)
theorem JBox.keep {W W' : World} {gb : Nat} {v : Value} {n : Nat} {xs : List Value} {a2 : Option Addr} {nb c2 : Nat} {t : Trim} (h : JBox W gb v n xs a2 nb c2 t) (hb : Below W.heap.size W W') : JBox W' gb v n xs a2 nb c2 t :=
  ⟨own_keep h.row hb, cell_keep hb h.c0, frozen_keep hb (block_lt_of_cell h.c0) h.f0, cell_keep hb h.c1, cell_keep hb h.c2', cell_keep hb h.c3, cell_keep hb h.c4⟩
theorem JBox.add {W W1 : World} {gb : Nat} {v v' : Value} {n m : Nat} {xs ys : List Value} {a2 : Option Addr} {nb c2 : Nat} {t : Trim} (h : JBox W gb v n xs a2 nb c2 t) (ho : W1.ownsRow (gb + 1) 86 8 v' m ys) (hg : W.grownBy W1 v.ownBlock) :
    W1.cell? ⟨gb, 0, none⟩ = some v ∧ W1.frozen? ⟨gb, 0, none⟩ = false ∧ JBox (W1.setCell ⟨gb, 0, none⟩ v') gb v' m ys a2 nb c2 t := by
  have hz := block_lt_of_cell h.c0
  have hk := hg.block gb hz (fun e => by
    have := own_base h.row e.symm
    omega)
  have hc : ∀ o, W1.cell? ⟨gb, o, none⟩ = W.cell? ⟨gb, o, none⟩ := fun o => World.cell?_of_block hk
  have hf : ∀ o, W1.frozen? ⟨gb, o, none⟩ = W.frozen? ⟨gb, o, none⟩ := fun o => World.frozen?_of_block hk
  have hs : ∀ o, o ≠ 0 → (W1.setCell ⟨gb, 0, none⟩ v').cell? ⟨gb, o, none⟩ = W1.cell? ⟨gb, o, none⟩ := fun o ho => cell_set_ne (fun e => by injection e with _ e; exact ho e.symm) rfl rfl
  refine ⟨by rw [hc]; exact h.c0, by rw [hf]; exact h.f0, ⟨own_off1 ho (Nat.lt_succ_self _), cell_set_same (by rw [hc, h.c0]; rfl), by rw [frozen_set, hf]; exact h.f0, ?_, ?_, ?_, ?_⟩⟩
  · rw [hs 1 (by decide), hc]; exact h.c1
  · rw [hs 2 (by decide), hc]; exact h.c2'
  · rw [hs 3 (by decide), hc]; exact h.c3
  · rw [hs 4 (by decide), hc]; exact h.c4

/-! Rows of numbers: a copy, and one taken out. -/
theorem cloneNat_any (b off : Nat) (l : List Nat) (c : Nat) (w : World) (hv : IntsV w (some ⟨b, off, none⟩) (natI l)) (hl : l.length ≤ 1000000) (hne : l ≠ []) :
    Calls Tryz.prog 45 #[.slice (some ⟨b, off, none⟩) l.length c] w fun e w' => ∃ g c', e = .returned (.slice (some ⟨g, 0, none⟩) l.length c') ∧ w'.ownsRow w.heap.size 3 1 (.slice (some ⟨g, 0, none⟩) l.length c') l.length ((natI l).map (Value.int .i64)) ∧ Below w.heap.size w w' := by
  obtain ⟨b', off', ha, hx⟩ := hv (by intro e; have := congrArg List.length e; rw [natI_len] at this; exact hne (List.length_eq_zero_iff.1 this))
  injection ha with ha
  injection ha with h1 h2
  subst h1; subst h2
  refine (Tryz.slices_Clone_int b off l.length c (natI l) w (by rw [natI_len]; exact Nat.le_refl _) (by omega) (fun j hj => ?_)).mono ?_
  · rw [hx j _ (List.getElem?_eq_getElem hj), List.getD_eq_getElem?_getD, List.getElem?_eq_getElem hj]; rfl
  rintro e w' ⟨v', rfl, ho, hnn, hb⟩
  rw [List.take_of_length_le (by rw [natI_len]; exact Nat.le_refl _)] at ho
  rcases ho.2 with ⟨e0, _⟩ | ⟨g, cap, cur, rfl, r⟩
  · exact absurd e0 hnn
  · exact ⟨g, cap, rfl, ho, hb⟩
theorem delete_own (base g c i : Nat) (l : List Nat) (w : World) (hown : w.ownsRow base 3 1 (.slice (some ⟨g, 0, none⟩) l.length c) l.length ((natI l).map (Value.int .i64))) (hi : i < l.length) (hb0 : base ≤ w.heap.size) :
    Calls Tryz.prog 44 #[.slice (some ⟨g, 0, none⟩) l.length c, .int .i64 (i : Int), .int .i64 ((i : Int) + 1)] w fun e w' => e = .returned (.slice (some ⟨g, 0, none⟩) (l.length - 1) c) ∧ IntsV w' (some ⟨g, 0, none⟩) (natI (dropAt l i)) ∧ Below base w w' := by
  obtain ⟨g0, cap0, hv, hbase, hgl, hnc, hcm, -, hH⟩ := Go.Lib.holds_of_ownsRow hown (by simp)
  injection hv with hv1 _ hv2
  injection hv1 with hv1
  injection hv1 with hv1
  subst hv1 hv2
  have hD := Tryz.slices_Delete_int g 0 c i (i + 1) (natI l) w hH (by rw [natI_len]; exact hnc) hcm (by omega) (by rw [natI_len]; omega)
  rw [natI_len, show i + 1 - i = 1 by omega, Int.natCast_add] at hD
  refine hD.mono ?_
  rintro e w1 ⟨he, q, rfl⟩
  have hy : ((natI l).take i ++ (natI l).drop (i + 1) ++ List.replicate 1 0).length = l.length := by simp [natI_len]; omega
  have ho := Go.Lib.ownsRow_putRow (q := q) (k := l.length) (ys := (natI l).take i ++ (natI l).drop (i + 1) ++ List.replicate 1 0) hown hy (Nat.le_refl _)
  have e1 : ((natI l).take i ++ (natI l).drop (i + 1) ++ List.replicate 1 0).take l.length = (natI l).take i ++ (natI l).drop (i + 1) ++ List.replicate 1 0 := List.take_of_length_le (by omega)
  rw [e1] at ho
  have hdr : natI (dropAt l i) = (natI l).take i ++ (natI l).drop (i + 1) := by simp [natI, dropAt]
  refine ⟨he, by rw [hdr]; exact own_ints ho, ?_⟩
  have hgr : w.grownBy (Go.Sort.putRow (Value.int .i64) (Go.Sort.ahead w q) g 0 ((natI l).take i ++ (natI l).drop (i + 1) ++ List.replicate 1 0).toArray) (some g) := ⟨rfl, rfl, rfl, by simp [Go.Sort.putRow, Go.Sort.mapBlock, Go.Sort.ahead], fun k hk hne => by
    have : g ≠ k := fun e => hne (by rw [e])
    simp [Go.Sort.putRow, Go.Sort.mapBlock, Go.Sort.ahead, Array.getElem?_modify, this]⟩
  exact (Below.refl base w).grown hgr hb0 (fun k hk => by injection hk with hk; omega)
end Go.Proofs.YtepiapgcpoifpaaGreat

set_option linter.unusedVariables false
set_option linter.unusedSimpArgs false
namespace Go.Proofs.YtepiapgcpoifpaaGreat
open Go Go.RowKit

def ChoosePost (w : World) (r : List Nat × Int) (e : Ending) (w' : World) : Prop := ∃ a c, e = .returned (.tuple #[.slice a r.1.length c, .int .i64 r.2]) ∧ IntsV w' a (natI r.1) ∧ Below w.heap.size w w'
theorem ChoosePost.empty {w w' : World} {r : List Nat × Int} {x : Int} (hr : r = ([], x)) (hb : Below w.heap.size w w') : ChoosePost w r (.returned (.tuple #[.slice none 0 0, .int .i64 x])) w' := by
  subst hr
  exact ⟨none, 0, rfl, fun h => absurd rfl h, hb⟩
theorem ChoosePost.full {w w' : World} {r : List Nat × Int} {l : List Nat} {n c : Nat} {a : Option Addr} (hr : r = (l, 0)) (hn : n = l.length) (hv : IntsV w' a (natI l)) (hb : Below w.heap.size w w') : ChoosePost w r (.returned (.tuple #[.slice a n c, .int .i64 0])) w' := by
  subst hr; subst hn
  exact ⟨a, c, rfl, hv, hb⟩
theorem range_snoc (n k : Nat) : (List.range k) ++ [k] = List.range (k + 1) := by rw [List.range_succ]
theorem wrap_pred {i N : Nat} (h : i ≤ N) (hN : N ≤ 100) : IntKind.i64.wrap ((i : Int) - 1) = (i : Int) - 1 := IntWalk.i64_in _ (by omega)

set_option maxRecDepth 100000 in
set_option maxHeartbeats 16000000 in
theorem chooseP_any (j : Job) (a1 : Option Addr) (c1 : Nat) (a2 : Option Addr) (c2 : Nat) (w : World) (hs : Boards.V w a1 j.stock) (hsl : j.stock.length ≤ 9223372036854775807) (hb : Blanks.V w a2 j.blanks) (hbl : j.blanks.length ≤ 9223372036854775807) (hB : jobE j = 0 → j.blanks.length < 20) :
    Calls Tryz.prog 10 #[.agg #[.slice a1 j.stock.length c1, .slice a2 j.blanks.length c2, .int .i64 j.trim.kerf, .int .i64 j.trim.ends, .int .i64 j.trim.sides]] w (ChoosePost w (chooseE j)) := by
  by_cases he : jobE j = 0
  · have HP := Lib.hid (show chooseE j = chooseM j by unfold chooseE; rw [if_neg (by simp [he])])
    have HJ := Lib.hid (jobOk_of he)
    have HL := Lib.hid (hB he)
    have HE := Lib.hid he
    have hN := HJ.out.lenS
    obtain ⟨i0, hi0, hz0, hz1, hz2⟩ := info_parts int_info
    obtain ⟨b0, hb0, hbz0, hbz1, hbz2⟩ := info_parts board_info
    obtain ⟨AD, CD, hSC⟩ := stock_ch hs
    have HSC := Lib.hid hSC
    clear he hSC
    go_enter Tryz.func10, Tryz.ntmps10
    go_upto_region 1 with fail
    refine gen_world (fun W => JB W w.heap.size j a1 c1 a2 c2 ∧ Below w.heap.size w W ∧ w.heap.size < W.heap.size) ⟨⟨by simp, by simp, by simp, by simp, by simp⟩, (Below.refl _ _).alloc (Nat.le_refl _) _, by simp⟩ ?_
    rintro W ⟨hC, hbW, hzW⟩
    have HC := Lib.hid hC
    have HBW := Lib.hid hbW
    obtain ⟨k0, k1, k2, k3, k4⟩ := hC
    clear hbW
    go_upto_region 4 with (go_at_call 42; refine (checkJobP_any j a1 c1 a2 c2 _ (hs.keep HBW.out) hsl (hb.keep HBW.out) hbl).mono ?_; rw [HE.out]; rintro e w1 ⟨rfl, hb1⟩; have HB1 := Lib.hid hb1; clear hb1)
    have HB2 := Lib.hid (HBW.out.trans (HB1.out.mono (Nat.le_of_lt hzW)))
    have HC1 := Lib.hid (HC.out.keep HB1.out hzW)
    have hz1 := Nat.lt_of_lt_of_le hzW HB1.out.size
    obtain ⟨k0', k1', k2', k3', k4'⟩ := HC1.out
    clear k0 k1 k2 k3 k4
    have HQ := Lib.hid (show chooseM j = chooseM j from rfl)
    unfold chooseM at HQ
    obtain ⟨q, hq⟩ : ∃ q, greedyM j.stock j.blanks j.trim = q := ⟨_, rfl⟩
    have HG := Lib.hid (fun w9 hs hb => greedyP_any j a1 c1 a2 c2 w9 hs hb HJ.out HL.out)
    rw [hq] at HG
    have HQ2 := Lib.hid (show chooseE j = (if q.2 ≠ 0 then ([], q.2) else (leftGo j.stock j.blanks j.trim j.stock.length (List.range j.stock.length), 0)) by rw [HP.out, ← hq]; rfl)
    clear HQ hq
    obtain ⟨ql, qe⟩ := q
    go_upto_region 5 with (go_at_call 43; refine (HG.out _ (hs.keep HB2.out) (hb.keep HB2.out)).mono ?_; rintro e w2 ⟨a3, c3, rfl, hv, hc, hc2, hb2⟩; have HB3 := Lib.hid hb2; clear hv hc hc2 hb2)
    have HB4 := Lib.hid (HB2.out.trans (HB3.out.mono HB2.out.size))
    have HC2 := Lib.hid (HC1.out.keep HB3.out hz1)
    have hz2' := Nat.lt_of_lt_of_le hz1 HB3.out.size
    clear k0' k1' k2' k3' k4' HB1 HB2 HB3 HC HC1 hz1 hzW HBW HG
    by_cases hqe : qe = 0
    · subst hqe
      have HQ3 := Lib.hid (show chooseE j = (leftGo j.stock j.blanks j.trim j.stock.length (List.range j.stock.length), 0) by rw [HQ2.out]; simp)
      obtain ⟨k0, k1, k2, k3, k4⟩ := HC2.out
      obtain ⟨gj, hgj⟩ : ∃ g, g = w.heap.size := ⟨_, rfl⟩
      rw [← hgj] at k0 k1 k2 k3 k4 HC2 hz2' ⊢
      have HGJ := Lib.hid hgj
      obtain ⟨N, hNe⟩ : ∃ N, N = j.stock.length := ⟨_, rfl⟩
      have HNE := Lib.hid hNe
      rw [← hNe] at k0 hN ⊢
      clear hgj hNe
      go_upto_region 9 with fail
      clear k0 k1 k2 k3 k4
      go_wp2_with fail
      go_loopw [7, 32] (fun v iv wr => ∃ k : Nat, k ≤ N ∧ iv = .int .i64 k ∧ wr.ownsRow w2.heap.size 3 1 v k ((natI (List.range k)).map (Value.int .i64)) ∧ Below w2.heap.size w2 wr) (fun _ iv _ => N - (intOf iv).toNat)
      case atStart => exact ⟨0, Nat.zero_le _, rfl, World.ownsRow_nil _ _ _ _, Below.refl _ _⟩
      case round =>
        obtain ⟨k, hk, rfl, hown, hbr⟩ := hrel
        have HOWN := Lib.hid hown
        have HBR := Lib.hid hbr
        have HBS := Lib.hid hbr.size
        by_cases hlt : k < N
        · have hki : (k : Int) < (N : Int) := by omega
          have v1 : IntKind.i64.wrap ((k : Int) + 1) = (k : Int) + 1 := IntWalk.i64_in _ (by omega)
          clear hown hbr
          go_wp2_with (at_builtin; refine wpList_append_own _ rfl _ _ 30 rfl w2.heap.size 3 i0 (.int .i64 0) 1 8 Tryz.underlying30 hi0 hz0 hz1 hz2 rfl (by decide) _ k _ rfl (HOWN.out.alloc _) ⟨wr.heap.size, 0, none⟩ 1 1 [.int .i64 (k : Int)] rfl rfl (news_of _ _ _ _ rfl) (by simp [Value.oneCell']) (by simp only [maxLen]; omega) (by omega) (by have := HBS.out; simp; omega) ?_; intro v' w5 ho5 hgr5 hnil5; have HGR := Lib.hid hgr5; have HO5 := Lib.hid ho5; clear ho5 hgr5 hnil5)
          go_roundw
          case rel => exact ⟨k + 1, by omega, by go_num, by have h := HO5.out; rw [← List.map_singleton (f := Value.int .i64), ← List.map_append] at h; rw [← range_snoc k k]; unfold natI at h ⊢; rw [List.map_append]; exact h, (HBR.out.alloc HBS.out _).grown HGR.out (by have := HBS.out; simp; omega) (fun q hq => own_base HOWN.out hq)⟩
          case measure => simp [intOf]; omega
        · have hki : ¬ (k : Int) < (N : Int) := by omega
          obtain rfl : k = N := by omega
          obtain ⟨av, cv, rfl, hiv⟩ := own_ints' hown
          have HIV := Lib.hid hiv
          obtain ⟨k0, k1, k2, k3, k4⟩ := HC2.out.keep HBR.out hz2'
          have hzr := Nat.lt_of_lt_of_le hz2' HBS.out
          have HCR := Lib.hid (HC2.out.keep HBR.out hz2')
          have HBB := Lib.hid (HB4.out.trans (HBR.out.mono HB4.out.size))
          have v1 : IntKind.i64.wrap ((k : Int) - 1) = (k : Int) - 1 := wrap_pred (Nat.le_refl _) hN
          rw [← HNE.out] at k0
          clear hown hbr hiv HBR HBS HOWN HC2 hz2' HB4
          obtain ⟨wo, rfl⟩ : ∃ wo : World, wo = wr := ⟨_, rfl⟩
          go_upto_region 14 with fail
          clear k0 k1 k2 k3 k4
          go_wp2_with fail
          go_loopw [7, 9] (fun v iv wr => ∃ (m n : Nat) (left : List Nat) (a : Option Addr) (c : Nat), m ≤ n ∧ n ≤ k ∧ iv = .int .i64 ((m : Int) - 1) ∧ v = .slice a n c ∧ Hid (n = left.length) ∧ Hid (∀ x ∈ left, x < k) ∧ Hid (leftGo j.stock j.blanks j.trim k (List.range k) = leftGo j.stock j.blanks j.trim m left) ∧ Hid (IntsV wr a (natI left)) ∧ Below wo.heap.size wo wr) (fun _ iv _ => (intOf iv + 1).toNat)
          case atStart => exact ⟨k, k, List.range k, av, cv, Nat.le_refl _, Nat.le_refl _, rfl, rfl, Lib.hid (by simp), Lib.hid (fun x hx => List.mem_range.1 hx), Lib.hid rfl, HIV, Below.refl _ _⟩
          case round =>
            obtain ⟨m, n, left, a, c, hmn, hnk, rfl, rfl, HLN, HLT, HLG, HIL, hbr⟩ := hrel
            have HBR := Lib.hid hbr
            have HBS := Lib.hid hbr.size
            have hzr2 := Nat.lt_of_lt_of_le hzr hbr.size
            have HCR2 := Lib.hid (HCR.out.keep hbr hzr)
            clear hbr
            by_cases hm : m = 0
            · subst hm
              go_wp2_with fail
              go_ret2
              exact ChoosePost.full (by rw [HQ3.out, ← HNE.out, HLG.out]; rfl) HLN.out HIL.out (HBB.out.trans (HBR.out.mono HBB.out.size))
            · obtain ⟨i, rfl⟩ : ∃ i, m = i + 1 := ⟨m - 1, by omega⟩
              rw [show (((i + 1 : Nat) : Int) - 1) = (i : Int) by omega]
              have hi0' : (i : Int) ≥ 0 := by omega
              have hne : left ≠ [] := by intro e; have := HLN.out; rw [e] at this; simp at this; omega
              have hil : i < left.length := by have := HLN.out; omega
              obtain ⟨gb9, off, ha, -⟩ := HIL.out (by intro e; have h := congrArg List.length e; rw [natI_len] at h; exact hne (List.length_eq_zero_iff.1 h))
              subst ha
              have v2 : IntKind.i64.wrap ((i : Int) + 1) = (i : Int) + 1 := IntWalk.i64_in _ (by omega)
              have HIL2 := Lib.hid hil
              have hnl := HLN.out
              subst hnl
              have HNE2 := Lib.hid hne
              clear hil hne
              go_upto_region 17 with (first
                | (go_at_call 45; refine (cloneNat_any gb9 off left c _ HIL.out (by omega) HNE2.out).mono ?_; rintro e w3 ⟨g, c', rfl, ho3, hb3⟩; have HO3 := Lib.hid ho3; have HB3 := Lib.hid hb3; clear ho3 hb3)
                | (go_at_call 44; refine (delete_own wr.heap.size g c' i left _ HO3.out HIL2.out HB3.out.size).mono ?_; rintro e w4 ⟨rfl, hi4, hb4⟩; have HI4 := Lib.hid hi4; have HB4 := Lib.hid (HB3.out.trans hb4); clear hi4 hb4))
              obtain ⟨D, hD⟩ : ∃ D, D = dropAt left i := ⟨_, rfl⟩
              obtain ⟨d, hd⟩ : ∃ d, d = left.length - 1 := ⟨_, rfl⟩
              have HDL := Lib.hid (show D.length = d by rw [hD, hd]; exact dropAt_len HIL2.out)
              have HDM := Lib.hid (show ∀ x ∈ D, x < k from fun x hx => HLT.out x (dropAt_mem (by rw [← hD]; exact hx)))
              have HDG := Lib.hid hD
              have hdk : d ≤ 99 := by omega
              have HDN := Lib.hid (show i ≤ d ∧ d ≤ k by omega)
              rw [← hD] at HI4
              rw [← hd]
              clear hD hd
              obtain ⟨k0, k1, k2, k3, k4⟩ := HCR2.out.keep HB4.out hzr2
              rw [← HNE.out] at k0
              have hz4 := Nat.lt_of_lt_of_le hzr2 HB4.out.size
              go_upto_region 18 with fail
              refine gen_world (fun W1 => JBox W1 w4.heap.size (.slice none 0 0) 0 [] a2 j.blanks.length c2 j.trim ∧ Below w4.heap.size w4 W1) ⟨⟨World.ownsRow_nil _ _ _ _, by simp [go_sem], by simp [go_sem], by simp [go_sem], by simp [go_sem], by simp [go_sem], by simp [go_sem]⟩, by repeat (first | exact Below.refl _ _ | (refine Below.setCell ?_ (by first | omega | (simp; omega) | (simp; done)) _) | (refine Below.alloc ?_ (by first | omega | (simp; omega) | (simp; done)) _))⟩ ?_
              rintro W1 ⟨hJX, hbW1⟩
              have HJX := Lib.hid hJX
              have HBW1 := Lib.hid hbW1
              have HK0 := Lib.hid k0
              have HSC2 := Lib.hid (HBB.out.trans (HBR.out.mono HBB.out.size))
              clear hJX hbW1 k0 k1 k2 k3 k4
              obtain ⟨wq, rfl⟩ : ∃ wq : World, wq = wr := ⟨_, rfl⟩
              obtain ⟨gb, hgb⟩ : ∃ g, g = w4.heap.size := ⟨_, rfl⟩
              rw [← hgb] at HJX ⊢
              have HGB := Lib.hid hgb
              clear hgb
              go_wp2_with fail
              go_loopw [61] (fun iv wr => ∃ m' : Nat, m' ≤ d ∧ iv = .int .i64 m' ∧ (∃ v, Hid (JBox wr gb v m' ((D.take m').flatMap (encP j.stock AD CD)) a2 j.blanks.length c2 j.trim)) ∧ Below w4.heap.size w4 wr) (fun iv _ => d - (intOf iv).toNat)
              case atStart => exact ⟨0, Nat.zero_le _, rfl, ⟨_, HJX⟩, HBW1.out⟩
              case round =>
                clear HJX HBW1
                obtain ⟨m', hm', rfl, ⟨v, HJX⟩, hbr⟩ := hrel
                have HBR5 := Lib.hid hbr
                by_cases hlt : m' < d
                · have hmi : (m' : Int) < (d : Int) := by omega
                  have v5 : IntKind.i64.wrap ((m' : Int) + 1) = (m' : Int) + 1 := IntWalk.i64_in _ (by omega)
                  have hml : m' < D.length := by rw [HDL.out]; exact hlt
                  obtain ⟨x, hx⟩ : ∃ x, x = D[m'] := ⟨_, rfl⟩
                  have hxk : x < k := by rw [hx]; exact HDM.out _ (List.getElem_mem hml)
                  have hxi : (x : Int) < (k : Int) := by omega
                  have HTK := Lib.hid (show D.take (m' + 1) = D.take m' ++ [x] by rw [hx, List.take_succ_eq_append_getElem hml])
                  have hci : wr.cell? ⟨g, 0 + m', none⟩ = some (.int .i64 (x : Int)) := by
                    obtain ⟨b', o', ha, hc⟩ := HI4.out (by intro e; have h := congrArg List.length e; rw [natI_len] at h; simp at h; rw [h] at hml; simp at hml)
                    injection ha with ha
                    injection ha with e1 e2
                    subst e1; subst e2
                    refine cell_keep hbr (hc m' (x : Int) ?_)
                    unfold natI
                    rw [List.getElem?_map, List.getElem?_eq_getElem hml, ← hx]; rfl
                  rw [Nat.zero_add] at hci
                  have hxs : x < j.stock.length := by rw [← HNE.out]; exact hxk
                  obtain ⟨⟨gs, off', has, hcb⟩, -⟩ := HSC.out.ch x _ (List.getElem?_eq_getElem hxs)
                  have HEP := Lib.hid (show encP j.stock AD CD x = encBd j.stock[x] (AD x) (CD x) by unfold encP; rw [List.getD_eq_getElem?_getD, List.getElem?_eq_getElem hxs]; rfl)
                  subst has
                  have hbw5 := HSC2.out.trans ((HB4.out.trans (hbr.mono HB4.out.size)).mono HSC2.out.size)
                  obtain ⟨s0, s1, s2, s3, s4, s5, s6, s7⟩ := hcb.keep hbw5
                  generalize j.stock[x] = bd at *
                  have k0 := cell_keep hbr HK0.out
                  obtain ⟨av5, cv5, rfl, -, -⟩ := own_slice HJX.out.row
                  have f0 := HJX.out.f0
                  have q0 := HJX.out.c0
                  have hgbr := block_lt_of_cell q0
                  simp only at hgbr
                  have HOWN := Lib.hid HJX.out.row
                  have HZ := Lib.hid (show gb + 1 ≤ wr.heap.size from hgbr)
                  have HZ4 := Lib.hid (show w4.heap.size ≤ wr.heap.size from hbr.size)
                  clear hbr hbw5 hcb hx hm'
                  have kx0 : ∀ y : KW (fun W => Below wr.heap.size wr W), y.w.cell? ⟨gb, 0, none⟩ = some (.slice av5 m' cv5) := fun y => cell_keep y.ok q0
                  have kx1 : ∀ y : KW (fun W => Below wr.heap.size wr W), y.w.cell? ⟨gj, 0, none⟩ = some (.slice (some ⟨gs, off', none⟩) k c1) := fun y => cell_keep y.ok k0
                  have kx2 : ∀ y : KW (fun W => Below wr.heap.size wr W), (y.w.cell? ⟨gs, off' + x * 8, none⟩ = some (.string bd.name) ∧ y.w.cell? ⟨gs, off' + x * 8 + 1, none⟩ = some (.string bd.species)) ∧ y.w.cell? ⟨gs, off' + x * 8 + 2, none⟩ = some (.int .i64 bd.length) ∧ y.w.cell? ⟨gs, off' + x * 8 + 3, none⟩ = some (.int .i64 bd.width) := fun y => ⟨⟨cell_keep y.ok s0, cell_keep y.ok s1⟩, cell_keep y.ok s2, cell_keep y.ok s3⟩
                  have kx3 : ∀ y : KW (fun W => Below wr.heap.size wr W), (y.w.cell? ⟨gs, off' + x * 8 + 4, none⟩ = some (.int .i64 bd.thick) ∧ y.w.cell? ⟨gs, off' + x * 8 + 5, none⟩ = some (.int .i64 bd.cut)) ∧ y.w.cell? ⟨gs, off' + x * 8 + 6, none⟩ = some (.int .i64 bd.moisture) ∧ y.w.cell? ⟨gs, off' + x * 8 + 7, none⟩ = some (.slice (AD x) bd.defects.length (CD x)) := fun y => ⟨⟨cell_keep y.ok s4, cell_keep y.ok s5⟩, cell_keep y.ok s6, cell_keep y.ok s7⟩
                  clear s0 s1 s2 s3 s4 s5 s6 s7 k0 q0
                  haveI n1 : Nonempty (KW (fun W => Below wr.heap.size wr W)) := ⟨⟨wr, Below.refl _ _⟩⟩
                  have HQ0 := Lib.hid HJX.out.c0
                  go_upto_region 21 with fail
                  refine wp_region_tree (fun w' => ∃ y : KW (fun W => Below wr.heap.size wr W), w' = y.w) 8 (.take 0 (.take 1 (.take 2 (.take 3 (.take 4 (.take 5 (.take 6 (.one 7 .done)))))))) (by kernel_rfl) (by kernel_rfl) (KW.mk' (Below.refl _ _).drew) ?_
                  have HB0 : Hid (Below wr.heap.size wr wr.drew) := Lib.hid (Below.refl _ _).drew
                  have hz0 : wr.heap.size ≤ wr.drew.heap.size := Nat.le_refl _
                  generalize wr.drew = W5 at *
                  repeat (refine wpTree_take ?_; simp only [nthOp]; (first | go_big_quiet_step (fail) | quiet_step (fail)); refine wpQuiet_nil ?_)
                  refine wpTree_one ?_
                  simp only [nthOp]
                  go_wp2_with fail
                  obtain ⟨gn, hgn⟩ : ∃ g, g = W5.heap.size := ⟨_, rfl⟩
                  rw [← hgn]
                  refine gen_any (G := fun W' => One _ _ _ _ W') (fun W' => Below wr.heap.size wr W' ∧ (∀ j u, (encBd bd (AD x) (CD x))[j]? = some u → W'.cell? ((⟨gn, 0, none⟩ : Addr).add j) = some u)) ⟨HB0.out.alloc hz0 _, news_of (encBd bd (AD x) (CD x)) _ _ _ hgn⟩ ?_
                  rintro W6 ⟨hb6, hnw⟩
                  have HB6 := Lib.hid hb6
                  have HNW := Lib.hid hnw
                  have HBX := Lib.hid (HBR5.out.trans (hb6.mono HZ4.out))
                  have hgb6 := Nat.le_trans HZ.out hb6.size
                  clear hb6 hnw hgn HB0 hz0
                  refine One_mk (KW.mk' HB6.out) (wpTree_done ?_)
                  simp only [List.drop_succ_cons, List.drop_zero]
                  go_wp2_with (at_builtin; go_loud (refine wpList_append_own _ rfl _ _ 22 rfl (gb + 1) 86 b0 zeroBd 8 96 Tryz.underlying22 hb0 hbz0 hbz1 hbz2 rfl (by decide) _ m' _ rfl (own_keep HOWN.out HB6.out) ⟨gn, 0, none⟩ 1 1 (encBd bd (AD x) (CD x)) rfl rfl HNW.out (encBd_one _ _ _) (by simp only [maxLen]; omega) (by omega) hgb6 ?_); intro v' w7 ho7 hg7 hn7; obtain ⟨av7, cv7, rfl, -, -⟩ := own_slice ho7; obtain ⟨q7, f7, hJ7⟩ := (HJX.out.keep HB6.out).add ho7 hg7; have HJ7 := Lib.hid hJ7; have HB7 := Lib.hid (HBX.out.grown hg7 (Nat.le_trans (Nat.le_of_lt (by rw [HGB.out]; exact Nat.lt_succ_self _)) hgb6) (fun q hq => Nat.le_trans (Nat.le_of_lt (by rw [HGB.out]; exact Nat.lt_succ_self _)) (own_base HOWN.out hq))); clear ho7 hg7 hn7 hJ7)
                  refine NP_mk ?_
                  go_wp2_with fail
                  go_roundw
                  case rel => exact ⟨m' + 1, by omega, by go_num, ⟨_, Lib.hid (by have h := HJ7.out; rw [← HEP.out] at h; rw [HTK.out, List.flatMap_append, List.flatMap_singleton]; exact h)⟩, HB7.out.setCell (by rw [HGB.out]; exact Nat.le_refl _) _⟩
                  case measure => simp [intOf]; omega
                · obtain rfl : m' = d := by omega
                  have hmi : ¬ (m' : Int) < (m' : Int) := by omega
                  have HJY := Lib.hid HJX.out
                  obtain ⟨av5, cv5, rfl, -, -⟩ := own_slice HJX.out.row
                  have hrow := HJX.out.row
                  rw [show D.take m' = D by rw [List.take_of_length_le (by rw [HDL.out]; exact Nat.le_refl _)]] at hrow
                  have HBX := Lib.hid (HB4.out.trans (hbr.mono HB4.out.size))
                  have HBY := Lib.hid (HSC2.out.trans (HBX.out.mono HSC2.out.size))
                  have HVS := Lib.hid (pick_rowV HSC.out HBY.out (fun y hy => by rw [← HNE.out]; exact HDM.out y hy) hrow)
                  have HJS := Lib.hid (jobOk_pick (l := D) HJ.out (fun y hy => by rw [← HNE.out]; exact HDM.out y hy) (by rw [HDL.out, ← HNE.out]; exact HDN.out.2))
                  have HG2 := Lib.hid (fun w9 hs hb => greedyP_any ⟨pickB j.stock D, j.blanks, j.trim⟩ av5 cv5 a2 c2 w9 hs hb HJS.out HL.out)
                  simp only [show (pickB j.stock D).length = m' by unfold pickB; rw [List.length_map, HDL.out]] at HG2
                  obtain ⟨⟨rl, re⟩, hr⟩ : ∃ r, greedyM (pickB j.stock D) j.blanks j.trim = r := ⟨_, rfl⟩
                  rw [hr] at HG2
                  have HR := Lib.hid (show (greedyM (pickB j.stock (dropAt left i)) j.blanks j.trim).2 = re by rw [← HDG.out, hr])
                  have q0 := HJX.out.c0
                  have q1 := HJX.out.c1
                  have q2 := HJX.out.c2'
                  have q3 := HJX.out.c3
                  have q4 := HJX.out.c4
                  clear hrow hr hbr hlt hm'
                  go_upto_region 24 with (go_at_call 43; refine (HG2.out _ HVS.out (hb.keep HBY.out)).mono ?_; rintro e w8 ⟨a8, c8, rfl, hv, hc, hc2, hb2⟩; have HB8 := Lib.hid hb2; clear hv hc hc2 hb2)
                  have HBE := Lib.hid (HBR.out.trans ((HBX.out.trans (HB8.out.mono HBX.out.size)).mono HBR.out.size))
                  clear q0 q1 q2 q3 q4
                  by_cases hre : re = 0
                  · subst hre
                    go_wp2_with fail
                    go_roundw
                    case rel => exact ⟨i, m', D, some ⟨g, 0, none⟩, c', HDN.out.1, HDN.out.2, rfl, rfl, Lib.hid HDL.out.symm, HDM, Lib.hid (by rw [HLG.out, leftGo_yes HR.out, HDG.out]), Lib.hid (intsV_keep HI4.out (HBR5.out.trans (HB8.out.mono HBR5.out.size))), HBE.out⟩
                    case measure => first | (simp [intOf]; done) | (simp [intOf]; omega)
                  · go_wp2_with fail
                    go_roundw
                    case rel => exact ⟨i, left.length, left, some ⟨gb9, off, none⟩, c, by omega, hnk, rfl, rfl, Lib.hid rfl, HLT, Lib.hid (by rw [HLG.out, leftGo_no (by rw [HR.out]; exact hre)]), Lib.hid (intsV_keep HIL.out (HBX.out.trans (HB8.out.mono HBX.out.size))), HBE.out⟩
                    case measure => first | (simp [intOf]; done) | (simp [intOf]; omega)
    · have HQ3 := Lib.hid (show chooseE j = ([], qe) by rw [HQ2.out]; simp [hqe])
      go_wp2_with fail
      go_ret2
      exact ChoosePost.empty HQ3.out HB4.out
  · have HP := Lib.hid (show chooseE j = ([], jobE j) by unfold chooseE; rw [if_pos he])
    have hne : (jobE j != 0) = true := by simpa using he
    obtain ⟨E, hE⟩ : ∃ E, E = jobE j := ⟨_, rfl⟩
    rw [← hE] at hne HP
    have HE := Lib.hid hE
    clear he hB hE
    go_enter Tryz.func10, Tryz.ntmps10
    go_wp2_with (go_at_call 42; refine (checkJobP_any j a1 c1 a2 c2 _ (hs.keep ((Below.refl _ _).alloc (Nat.le_refl _) _)) hsl (hb.keep ((Below.refl _ _).alloc (Nat.le_refl _) _)) hbl).mono ?_; rw [← HE.out]; rintro e w1 ⟨rfl, hb1⟩; have HB1 := Lib.hid hb1; clear hb1)
    go_ret2
    exact ChoosePost.empty HP.out (((Below.refl _ _).alloc (Nat.le_refl _) _).trans (HB1.out.mono (by simp)))
end Go.Proofs.YtepiapgcpoifpaaGreat

set_option linter.unusedVariables false
set_option linter.unusedSimpArgs false
namespace Go.Proofs.YtepiapgcpoifpaaGreat
open Go Go.RowKit

def WithPost (w : World) (j : Job) (l : List Nat) (a2 : Option Addr) (c2 : Nat) (e : Ending) (w' : World) : Prop := ∃ a c, e = .returned (.agg #[.slice a l.length c, .slice a2 j.blanks.length c2, .int .i64 j.trim.kerf, .int .i64 j.trim.ends, .int .i64 j.trim.sides]) ∧ Boards.V w' a (pickB j.stock l) ∧ Below w.heap.size w w'

set_option maxRecDepth 100000 in
set_option maxHeartbeats 16000000 in
theorem with_any (j : Job) (D : List Nat) (d : Nat) (a1 : Option Addr) (c1 : Nat) (a2 : Option Addr) (c2 : Nat) (al : Option Addr) (cl : Nat) (w : World) (hdl : D.length = d) (hs : Boards.V w a1 j.stock) (hv : IntsV w al (natI D)) (hl : ∀ x ∈ D, x < j.stock.length) (hN : j.stock.length ≤ 100) (hdk : d ≤ 100) :
    Calls Tryz.prog 50 #[.agg #[.slice a1 j.stock.length c1, .slice a2 j.blanks.length c2, .int .i64 j.trim.kerf, .int .i64 j.trim.ends, .int .i64 j.trim.sides], .slice al d cl] w (WithPost w j D a2 c2) := by
  obtain ⟨b0, hb0, hbz0, hbz1, hbz2⟩ := info_parts board_info
  obtain ⟨AD, CD, hSC⟩ := stock_ch hs
  have HSC := Lib.hid hSC
  have HDL := Lib.hid hdl
  have HDM := Lib.hid hl
  have HIV := Lib.hid hv
  obtain ⟨k, hk⟩ : ∃ k, k = j.stock.length := ⟨_, rfl⟩
  have HNE := Lib.hid hk
  rw [← hk] at HDM hN ⊢
  clear hSC hdl hl hv hs hk
  go_enter Tryz.func50, Tryz.ntmps50
  go_upto_region 2 with fail
  refine gen_world (fun W1 => JBox W1 (w.heap.size + 2) (.slice none 0 0) 0 [] a2 j.blanks.length c2 j.trim ∧ W1.cell? ⟨w.heap.size, 0, none⟩ = some (.slice a1 k c1) ∧ (W1.cell? ⟨w.heap.size + 1, 0, none⟩ = some (.slice none 0 0) ∧ W1.cell? ⟨w.heap.size + 1, 1, none⟩ = some (.slice none 0 0) ∧ W1.cell? ⟨w.heap.size + 1, 2, none⟩ = some (.int .i64 0) ∧ W1.cell? ⟨w.heap.size + 1, 3, none⟩ = some (.int .i64 0) ∧ W1.cell? ⟨w.heap.size + 1, 4, none⟩ = some (.int .i64 0) ∧ W1.frozen? ⟨w.heap.size + 1, 0, none⟩ = false ∧ W1.frozen? ⟨w.heap.size + 1, 1, none⟩ = false ∧ W1.frozen? ⟨w.heap.size + 1, 2, none⟩ = false ∧ W1.frozen? ⟨w.heap.size + 1, 3, none⟩ = false ∧ W1.frozen? ⟨w.heap.size + 1, 4, none⟩ = false) ∧ Below w.heap.size w W1) ⟨⟨World.ownsRow_nil _ _ _ _, by simp [go_sem], by simp [go_sem], by simp [go_sem], by simp [go_sem], by simp [go_sem], by simp [go_sem]⟩, by simp [go_sem], ⟨by simp [go_sem], by simp [go_sem], by simp [go_sem], by simp [go_sem], by simp [go_sem], by simp [go_sem], by simp [go_sem], by simp [go_sem], by simp [go_sem], by simp [go_sem]⟩, by repeat (first | exact Below.refl _ _ | (refine Below.setCell ?_ (by first | omega | (simp; omega) | (simp; done)) _) | (refine Below.alloc ?_ (by first | omega | (simp; omega) | (simp; done)) _))⟩ ?_
  rintro W1 ⟨hJX, hk0, hres, hbW1⟩
  obtain ⟨gj, hgj⟩ : ∃ g, g = w.heap.size := ⟨_, rfl⟩
  obtain ⟨gb, hgb⟩ : ∃ g, g = w.heap.size + 2 := ⟨_, rfl⟩
  have HGB := Lib.hid (show gb = gj + 2 by omega)
  have HGJ := Lib.hid hgj
  have hzgb : gb < W1.heap.size := by have h := block_lt_of_cell hJX.c0; simp only at h; omega
  rw [← hgb] at hJX ⊢
  rw [show w.heap.size + 1 = gj + 1 by rw [hgj]] at hres ⊢
  rw [← hgj] at hk0 ⊢
  have HJX := Lib.hid hJX
  have HBW1 := Lib.hid hbW1
  have HK0 := Lib.hid hk0
  have HRES := Lib.hid hres
  have HZ1 := Lib.hid hzgb
  clear hJX hbW1 hk0 hres hgb hgj hzgb
  go_wp2_with fail
  go_loopw [6] (fun iv wr => ∃ m' : Nat, m' ≤ d ∧ iv = .int .i64 m' ∧ (∃ v, Hid (JBox wr gb v m' ((D.take m').flatMap (encP j.stock AD CD)) a2 j.blanks.length c2 j.trim)) ∧ Below gb W1 wr) (fun iv _ => d - (intOf iv).toNat)
  case atStart => exact ⟨0, Nat.zero_le _, rfl, ⟨_, HJX⟩, Below.refl _ _⟩
  case round =>
    clear HJX
    obtain ⟨m', hm', rfl, ⟨v, HJX⟩, hbr⟩ := hrel
    have HBR5 := Lib.hid hbr
    have hbw0 : Below w.heap.size w wr := HBW1.out.trans (hbr.mono (by have h1 := HGB.out; have h2 := HGJ.out; omega))
    have HBW0 := Lib.hid hbw0
    by_cases hlt : m' < d
    · have hmi : (m' : Int) < (d : Int) := by omega
      have v5 : IntKind.i64.wrap ((m' : Int) + 1) = (m' : Int) + 1 := IntWalk.i64_in _ (by omega)
      have hml : m' < D.length := by rw [HDL.out]; exact hlt
      obtain ⟨x, hx⟩ : ∃ x, x = D[m'] := ⟨_, rfl⟩
      have hxk : x < k := by rw [hx]; exact HDM.out _ (List.getElem_mem hml)
      have hxi : (x : Int) < (k : Int) := by omega
      have HTK := Lib.hid (show D.take (m' + 1) = D.take m' ++ [x] by rw [hx, List.take_succ_eq_append_getElem hml])
      obtain ⟨g, off9, hal, hc⟩ := HIV.out (by intro e; have h := congrArg List.length e; rw [natI_len] at h; simp at h; rw [h] at hml; simp at hml)
      subst hal
      have hci : wr.cell? ⟨g, off9 + m', none⟩ = some (.int .i64 (x : Int)) := by
        refine cell_keep hbw0 (hc m' (x : Int) ?_)
        unfold natI
        rw [List.getElem?_map, List.getElem?_eq_getElem hml, ← hx]; rfl
      have hxs : x < j.stock.length := by rw [← HNE.out]; exact hxk
      obtain ⟨⟨gs, off', has, hcb⟩, -⟩ := HSC.out.ch x _ (List.getElem?_eq_getElem hxs)
      have HEP := Lib.hid (show encP j.stock AD CD x = encBd j.stock[x] (AD x) (CD x) by unfold encP; rw [List.getD_eq_getElem?_getD, List.getElem?_eq_getElem hxs]; rfl)
      subst has
      obtain ⟨s0, s1, s2, s3, s4, s5, s6, s7⟩ := hcb.keep hbw0
      generalize j.stock[x] = bd at *
      have k0 : wr.cell? ⟨gj, 0, none⟩ = some (.slice (some ⟨gs, off', none⟩) k c1) := by
        rw [hbr.cell (p := ⟨gj, 0, none⟩) (show gj < gb by have h1 := HGB.out; omega)]; exact HK0.out
      obtain ⟨av5, cv5, rfl, -, -⟩ := own_slice HJX.out.row
      have f0 := HJX.out.f0
      have q0 := HJX.out.c0
      have hgbr := block_lt_of_cell q0
      simp only at hgbr
      have HOWN := Lib.hid HJX.out.row
      have HZ := Lib.hid (show gb + 1 ≤ wr.heap.size from hgbr)
      clear hbr hbw0 hcb hx hm' hc
      have kx0 : ∀ y : KW (fun W => Below wr.heap.size wr W), y.w.cell? ⟨gb, 0, none⟩ = some (.slice av5 m' cv5) := fun y => cell_keep y.ok q0
      have kx1 : ∀ y : KW (fun W => Below wr.heap.size wr W), y.w.cell? ⟨gj, 0, none⟩ = some (.slice (some ⟨gs, off', none⟩) k c1) := fun y => cell_keep y.ok k0
      have kx4 : ∀ y : KW (fun W => Below wr.heap.size wr W), y.w.cell? ⟨g, off9 + m', none⟩ = some (.int .i64 (x : Int)) := fun y => cell_keep y.ok hci
      have kx2 : ∀ y : KW (fun W => Below wr.heap.size wr W), (y.w.cell? ⟨gs, off' + x * 8, none⟩ = some (.string bd.name) ∧ y.w.cell? ⟨gs, off' + x * 8 + 1, none⟩ = some (.string bd.species)) ∧ y.w.cell? ⟨gs, off' + x * 8 + 2, none⟩ = some (.int .i64 bd.length) ∧ y.w.cell? ⟨gs, off' + x * 8 + 3, none⟩ = some (.int .i64 bd.width) := fun y => ⟨⟨cell_keep y.ok s0, cell_keep y.ok s1⟩, cell_keep y.ok s2, cell_keep y.ok s3⟩
      have kx3 : ∀ y : KW (fun W => Below wr.heap.size wr W), (y.w.cell? ⟨gs, off' + x * 8 + 4, none⟩ = some (.int .i64 bd.thick) ∧ y.w.cell? ⟨gs, off' + x * 8 + 5, none⟩ = some (.int .i64 bd.cut)) ∧ y.w.cell? ⟨gs, off' + x * 8 + 6, none⟩ = some (.int .i64 bd.moisture) ∧ y.w.cell? ⟨gs, off' + x * 8 + 7, none⟩ = some (.slice (AD x) bd.defects.length (CD x)) := fun y => ⟨⟨cell_keep y.ok s4, cell_keep y.ok s5⟩, cell_keep y.ok s6, cell_keep y.ok s7⟩
      clear s0 s1 s2 s3 s4 s5 s6 s7 k0 q0 hci
      haveI n1 : Nonempty (KW (fun W => Below wr.heap.size wr W)) := ⟨⟨wr, Below.refl _ _⟩⟩
      go_upto_region 5 with fail
      refine wp_region_tree (fun w' => ∃ y : KW (fun W => Below wr.heap.size wr W), w' = y.w) 11 (.take 0 (.take 1 (.take 2 (.take 3 (.take 4 (.take 5 (.take 6 (.take 7 (.take 8 (.take 9 (.one 10 .done))))))))))) (by kernel_rfl) (by kernel_rfl) (KW.mk' (Below.refl _ _).drew) ?_
      have HB0 : Hid (Below wr.heap.size wr wr.drew) := Lib.hid (Below.refl _ _).drew
      have hz0 : wr.heap.size ≤ wr.drew.heap.size := Nat.le_refl _
      generalize wr.drew = W5 at *
      repeat (refine wpTree_take ?_; simp only [nthOp]; (first | go_big_quiet_step (fail) | quiet_step (fail)); refine wpQuiet_nil ?_)
      refine wpTree_one ?_
      simp only [nthOp]
      go_wp2_with fail
      obtain ⟨gn, hgn⟩ : ∃ g, g = W5.heap.size := ⟨_, rfl⟩
      rw [← hgn]
      refine gen_any (G := fun W' => One _ _ _ _ W') (fun W' => Below wr.heap.size wr W' ∧ (∀ j u, (encBd bd (AD x) (CD x))[j]? = some u → W'.cell? ((⟨gn, 0, none⟩ : Addr).add j) = some u)) ⟨HB0.out.alloc hz0 _, news_of (encBd bd (AD x) (CD x)) _ _ _ hgn⟩ ?_
      rintro W6 ⟨hb6, hnw⟩
      have HB6 := Lib.hid hb6
      have HNW := Lib.hid hnw
      have HBX := Lib.hid (HBR5.out.trans (hb6.mono (by have := HZ.out; omega)))
      have hgb6 := Nat.le_trans HZ.out hb6.size
      clear hb6 hnw hgn HB0 hz0
      refine One_mk (KW.mk' HB6.out) (wpTree_done ?_)
      simp only [List.drop_succ_cons, List.drop_zero]
      go_wp2_with (at_builtin; refine wpList_append_own _ rfl _ _ 22 rfl (gb + 1) 86 b0 zeroBd 8 96 Tryz.underlying22 hb0 hbz0 hbz1 hbz2 rfl (by decide) _ m' _ rfl (own_keep HOWN.out HB6.out) ⟨gn, 0, none⟩ 1 1 (encBd bd (AD x) (CD x)) rfl rfl HNW.out (encBd_one _ _ _) (by simp only [maxLen]; omega) (by omega) hgb6 ?_; intro v' w7 ho7 hg7 hn7; obtain ⟨av7, cv7, rfl, -, -⟩ := own_slice ho7; obtain ⟨q7, f7, hJ7⟩ := (HJX.out.keep HB6.out).add ho7 hg7; have HJ7 := Lib.hid hJ7; have HB7 := Lib.hid (HBX.out.grown hg7 (Nat.le_trans (Nat.le_succ _) hgb6) (fun q hq => Nat.le_trans (Nat.le_succ _) (own_base HOWN.out hq))); clear ho7 hg7 hn7 hJ7)
      refine NP_mk ?_
      go_wp2_with fail
      go_roundw
      case rel => exact ⟨m' + 1, by omega, by go_num, ⟨_, Lib.hid (by have h := HJ7.out; rw [← HEP.out] at h; rw [HTK.out, List.flatMap_append, List.flatMap_singleton]; exact h)⟩, HB7.out.setCell (Nat.le_refl _) _⟩
      case measure => first | (simp [intOf]; done) | (simp [intOf]; omega)
    · obtain rfl : m' = d := by omega
      have hmi : ¬ (m' : Int) < (m' : Int) := by omega
      obtain ⟨av5, cv5, rfl, -, -⟩ := own_slice HJX.out.row
      have hrow := HJX.out.row
      rw [show D.take m' = D by rw [List.take_of_length_le (by rw [HDL.out]; exact Nat.le_refl _)]] at hrow
      have q0 := HJX.out.c0
      have q1 := HJX.out.c1
      have q2 := HJX.out.c2'
      have q3 := HJX.out.c3
      have q4 := HJX.out.c4
      have hgj2 : gj + 1 < gb := by rw [HGB.out]; omega
      have hrc : ∀ o, wr.cell? ⟨gj + 1, o, none⟩ = W1.cell? ⟨gj + 1, o, none⟩ := fun o => hbr.cell hgj2
      have hrf : ∀ o, wr.frozen? ⟨gj + 1, o, none⟩ = W1.frozen? ⟨gj + 1, o, none⟩ := fun o => hbr.frozen hgj2
      obtain ⟨r0, r1, r2, r3, r4, r5, r6, r7, r8, r9⟩ := HRES.out
      rw [← hrc] at r0 r1 r2 r3 r4
      rw [← hrf] at r5 r6 r7 r8 r9
      have HROW := Lib.hid hrow
      clear hrow hbr hbw0 hlt hm' hrc hrf
      go_wp2_with fail
      have hb1 : ∀ (W : World) (o : Nat) (u : Value), Below w.heap.size w W → Below w.heap.size w (W.setCell ⟨gj + 1, o, none⟩ u) := fun _ _ _ h => h.setCell (by have := HGJ.out; simp only; omega) _
      have hr1 : ∀ (W : World) (o : Nat) (u : Value), W.ownsRow (gb + 1) 86 8 (.slice av5 m' cv5) m' (D.flatMap (encP j.stock AD CD)) → (W.setCell ⟨gj + 1, o, none⟩ u).ownsRow (gb + 1) 86 8 (.slice av5 m' cv5) m' (D.flatMap (encP j.stock AD CD)) := fun _ _ _ h => own_off1 h (by simp only; omega)
      have HB1 := Lib.hid hb1
      have HR1 := Lib.hid hr1
      clear hb1 hr1
      refine bodyPost_ret (v := .agg #[.slice av5 m' cv5, .slice a2 j.blanks.length c2, .int .i64 j.trim.kerf, .int .i64 j.trim.ends, .int .i64 j.trim.sides]) (by simp [results, Tryz.results50, go_sem, *]) rfl ?_
      have hB := HB1.out _ 4 (.int .i64 j.trim.sides) (HB1.out _ 3 (.int .i64 j.trim.ends) (HB1.out _ 2 (.int .i64 j.trim.kerf) (HB1.out _ 1 (.slice a2 j.blanks.length c2) (HB1.out _ 0 (.slice av5 m' cv5) HBW0.out))))
      have hR := HR1.out _ 4 (.int .i64 j.trim.sides) (HR1.out _ 3 (.int .i64 j.trim.ends) (HR1.out _ 2 (.int .i64 j.trim.kerf) (HR1.out _ 1 (.slice a2 j.blanks.length c2) (HR1.out _ 0 (.slice av5 m' cv5) HROW.out))))
      exact ⟨av5, cv5, by rw [HDL.out], pick_rowV HSC.out hB (fun y hy => by rw [← HNE.out]; exact HDM.out y hy) hR, hB⟩
end Go.Proofs.YtepiapgcpoifpaaGreat

set_option linter.unusedVariables false
set_option linter.unusedSimpArgs false
namespace Go.Proofs.YtepiapgcpoifpaaGreat
open Go Go.RowKit

def LeftCut (W1 : World) (n : Nat) (xs : List Value) (u : Nat → Value) (W : World) : Prop := ∃ v, u 9 = v ∧ W.ownsRow W1.heap.size 3 1 v n xs ∧ Below W1.heap.size W1 W
theorem LeftCut.mk {W1 W : World} {n n' : Nat} {xs ys : List Value} {u : Nat → Value} {v : Value} (hu : u 9 = v) (ho : W.ownsRow W1.heap.size 3 1 v n' ys) (hn : n' = n) (hx : ys = xs) (hb : Below W1.heap.size W1 W) : LeftCut W1 n xs u W := by
  subst hn; subst hx; exact ⟨v, hu, ho, hb⟩
theorem natI_take {w : World} {b : Nat} {xs : List Nat} {a : Nat} (h : IntsV w (some ⟨b, 0, none⟩) (natI xs)) : IntsV w (some ⟨b, 0, none⟩) (natI (xs.take a)) := ints_take h
theorem natI_drop {w : World} {b : Nat} {xs : List Nat} {a : Nat} (h : IntsV w (some ⟨b, 0, none⟩) (natI xs)) : IntsV w (some ⟨b, a, none⟩) (natI (xs.drop a)) := ints_drop h

set_option maxRecDepth 100000 in
set_option maxHeartbeats 16000000 in
theorem chooseR_any (j : Job) (a1 : Option Addr) (c1 : Nat) (a2 : Option Addr) (c2 : Nat) (w : World) (hs : Boards.V w a1 j.stock) (hb : Blanks.V w a2 j.blanks) (hJ : JobOk j.stock j.blanks j.trim) :
    Calls Tryz.prog 12 #[.agg #[.slice a1 j.stock.length c1, .slice a2 j.blanks.length c2, .int .i64 j.trim.kerf, .int .i64 j.trim.ends, .int .i64 j.trim.sides]] w (ChoosePost w (chooseM j)) := by
  have HJ := Lib.hid hJ
  have hN := HJ.out.lenS
  obtain ⟨i0, hi0, hz0, hz1, hz2⟩ := info_parts int_info
  clear hJ
  go_enter Tryz.func12, Tryz.ntmps12
  go_upto_region 1 with fail
  refine gen_world (fun W => JB W w.heap.size j a1 c1 a2 c2 ∧ Below w.heap.size w W ∧ w.heap.size < W.heap.size) ⟨⟨by simp, by simp, by simp, by simp, by simp⟩, (Below.refl _ _).alloc (Nat.le_refl _) _, by simp⟩ ?_
  rintro W ⟨hC, hbW, hzW⟩
  have HC := Lib.hid hC
  have HBW := Lib.hid hbW
  obtain ⟨k0, k1, k2, k3, k4⟩ := hC
  clear hbW
  obtain ⟨q, hq⟩ : ∃ q, greedyM j.stock j.blanks j.trim = q := ⟨_, rfl⟩
  have HG := Lib.hid (fun w9 hs hb => refGreedy_any j a1 c1 a2 c2 w9 hs hb HJ.out)
  rw [hq] at HG
  have HQ2 := Lib.hid (show chooseM j = (if q.2 ≠ 0 then ([], q.2) else (leftGo j.stock j.blanks j.trim j.stock.length (List.range j.stock.length), 0)) by rw [← hq]; rfl)
  clear hq
  obtain ⟨ql, qe⟩ := q
  go_upto_region 2 with (go_at_call 49; refine (HG.out _ (hs.keep HBW.out) (hb.keep HBW.out)).mono ?_; rintro e w2 ⟨a3, c3, rfl, hv, hc, hc2, hb2⟩; have HB3 := Lib.hid hb2; clear hv hc hc2 hb2)
  have HB4 := Lib.hid (HBW.out.trans (HB3.out.mono HBW.out.size))
  have HC2 := Lib.hid (HC.out.keep HB3.out hzW)
  have hz2' := Nat.lt_of_lt_of_le hzW HB3.out.size
  clear k0 k1 k2 k3 k4 HB3 HC hzW HBW HG
  by_cases hqe : qe = 0
  · subst hqe
    have HQ3 := Lib.hid (show chooseM j = (leftGo j.stock j.blanks j.trim j.stock.length (List.range j.stock.length), 0) by rw [HQ2.out]; simp)
    obtain ⟨gj, hgj⟩ : ∃ g, g = w.heap.size := ⟨_, rfl⟩
    rw [← hgj] at HC2 hz2' ⊢
    have HGJ := Lib.hid hgj
    obtain ⟨N, hNe⟩ : ∃ N, N = j.stock.length := ⟨_, rfl⟩
    have HNE := Lib.hid hNe
    rw [← hNe] at hN ⊢
    clear hgj hNe
    go_wp2_with fail
    go_loopw [6, 7] (fun v iv wr => ∃ k : Nat, k ≤ N ∧ iv = .int .i64 k ∧ wr.ownsRow w2.heap.size 3 1 v k ((natI (List.range k)).map (Value.int .i64)) ∧ Below w2.heap.size w2 wr) (fun _ iv _ => N - (intOf iv).toNat)
    case atStart => exact ⟨0, Nat.zero_le _, rfl, World.ownsRow_nil _ _ _ _, Below.refl _ _⟩
    case round =>
      obtain ⟨k, hk, rfl, hown, hbr⟩ := hrel
      have HOWN := Lib.hid hown
      have HBR := Lib.hid hbr
      have HBS := Lib.hid hbr.size
      have k0 := (HC2.out.keep hbr hz2').s
      rw [← HNE.out] at k0
      by_cases hlt : k < N
      · have hki : (k : Int) < (N : Int) := by omega
        have v1 : IntKind.i64.wrap ((k : Int) + 1) = (k : Int) + 1 := IntWalk.i64_in _ (by omega)
        clear hown hbr
        go_wp2_with (at_builtin; refine wpList_append_own _ rfl _ _ 30 rfl w2.heap.size 3 i0 (.int .i64 0) 1 8 Tryz.underlying30 hi0 hz0 hz1 hz2 rfl (by decide) _ k _ rfl (HOWN.out.alloc _) ⟨wr.heap.size, 0, none⟩ 1 1 [.int .i64 (k : Int)] rfl rfl (news_of _ _ _ _ rfl) (by simp [Value.oneCell']) (by simp only [maxLen]; omega) (by omega) (by have := HBS.out; simp; omega) ?_; intro v' w5 ho5 hgr5 hnil5; have HGR := Lib.hid hgr5; have HO5 := Lib.hid ho5; clear ho5 hgr5 hnil5)
        go_roundw
        case rel => exact ⟨k + 1, by omega, by go_num, by have h := HO5.out; rw [← List.map_singleton (f := Value.int .i64), ← List.map_append] at h; rw [← range_snoc k k]; unfold natI at h ⊢; rw [List.map_append]; exact h, (HBR.out.alloc HBS.out _).grown HGR.out (by have := HBS.out; simp; omega) (fun q hq => own_base HOWN.out hq)⟩
        case measure => simp [intOf]; omega
      · have hki : ¬ (k : Int) < (N : Int) := by omega
        obtain rfl : k = N := by omega
        obtain ⟨av, cv, rfl, -, -⟩ := own_slice hown
        have hzr := Nat.lt_of_lt_of_le hz2' HBS.out
        have HCR := Lib.hid (HC2.out.keep HBR.out hz2')
        have HBB := Lib.hid (HB4.out.trans (HBR.out.mono HB4.out.size))
        have v1 : IntKind.i64.wrap ((k : Int) - 1) = (k : Int) - 1 := wrap_pred (Nat.le_refl _) hN
        clear hown hbr HBS HC2 hz2' HB4
        obtain ⟨wo, rfl⟩ : ∃ wo : World, wo = wr := ⟨_, rfl⟩
        go_upto_region 10 with fail
        clear k0
        go_wp2_with fail
        go_loopw [6, 8] (fun v iv wr => ∃ (m n : Nat) (left : List Nat), m ≤ n ∧ n ≤ k ∧ iv = .int .i64 ((m : Int) - 1) ∧ Hid (n = left.length) ∧ Hid (∀ x ∈ left, x < k) ∧ Hid (leftGo j.stock j.blanks j.trim k (List.range k) = leftGo j.stock j.blanks j.trim m left) ∧ wr.ownsRow w2.heap.size 3 1 v n ((natI left).map (Value.int .i64)) ∧ Below wo.heap.size wo wr) (fun _ iv _ => (intOf iv + 1).toNat)
        case atStart => exact ⟨k, k, List.range k, Nat.le_refl _, Nat.le_refl _, rfl, Lib.hid (by simp), Lib.hid (fun x hx => List.mem_range.1 hx), Lib.hid rfl, HOWN.out, Below.refl _ _⟩
        case round =>
          clear HOWN
          obtain ⟨m, n, left, hmn, hnk, rfl, HLN, HLT, HLG, hown, hbr⟩ := hrel
          have HBR' := HBR
          clear HBR
          have HBR := Lib.hid hbr
          have HBS := Lib.hid (Nat.le_trans HBR'.out.size hbr.size)
          have HOWN := Lib.hid hown
          have hzr2 := Nat.lt_of_lt_of_le hzr hbr.size
          have HCR2 := Lib.hid (HCR.out.keep hbr hzr)
          clear hbr
          by_cases hm : m = 0
          · subst hm
            obtain ⟨av, cv, rfl, hiv⟩ := own_ints' hown
            have HIV := Lib.hid hiv
            clear hiv hown
            go_wp2_with fail
            go_ret2
            exact ChoosePost.full (by rw [HQ3.out, ← HNE.out, HLG.out]; rfl) HLN.out HIV.out (HBB.out.trans (HBR.out.mono HBB.out.size))
          · obtain ⟨i, rfl⟩ : ∃ i, m = i + 1 := ⟨m - 1, by omega⟩
            rw [show (((i + 1 : Nat) : Int) - 1) = (i : Int) by omega]
            have hi0' : (i : Int) ≥ 0 := by omega
            rcases hown.2 with ⟨rfl, hk0⟩ | ⟨g, cap, cur, rfl, hbg, hgg, hnc, hcm, hcs, htk⟩
            · exfalso; omega
            have hint : IntsV wr (some ⟨g, 0, none⟩) (natI left) := by
              obtain ⟨a', c', e, h⟩ := own_ints' HOWN.out
              injection e with e1 e2 e3
              rw [e1]; exact h
            have HIN := Lib.hid hint
            have hca : n ≤ cap := hnc
            have hln := HLN.out
            have v2 : IntKind.i64.wrap ((i : Int) + 1) = (i : Int) + 1 := IntWalk.i64_in _ (by omega)
            have v3 : ((i : Int) + 1).toNat = i + 1 := by omega
            have v4 : (0 : Int) ≤ (i : Int) + 1 := by omega
            have hin : (i : Int) + 1 ≤ (n : Int) := by omega
            have hac : (i : Int) ≤ (cap : Int) := by omega
            have hacN : i ≤ cap := by omega
            have hac1 : (i : Int) + 1 ≤ (cap : Int) := by omega
            have hacN1 : i + 1 ≤ cap := by omega
            obtain ⟨D, hD⟩ : ∃ D, D = dropAt left i := ⟨_, rfl⟩
            obtain ⟨d, hd⟩ : ∃ d, d = left.length - 1 := ⟨_, rfl⟩
            have HDL := Lib.hid (show D.length = d by rw [hD, hd]; exact dropAt_len (by omega))
            have HDM := Lib.hid (show ∀ x ∈ D, x < k from fun x hx => HLT.out x (dropAt_mem (by rw [← hD]; exact hx)))
            have HDG := Lib.hid hD
            have hdk : d ≤ 99 := by omega
            have HDN := Lib.hid (show i ≤ d ∧ d ≤ k by omega)
            have HJS := Lib.hid (jobOk_pick (l := D) HJ.out (fun y hy => by rw [← HNE.out]; exact HDM.out y hy) (by rw [HDL.out, ← HNE.out]; exact HDN.out.2))
            have HLN2 := Lib.hid (show 0 + (natI (left.take i)).length + (natI (left.drop (i + 1))).length = d by simp [natI]; omega)
            have HDE := Lib.hid (show ([] ++ (natI (left.take i)).map (Value.int .i64)) ++ (natI (left.drop (i + 1))).map (Value.int .i64) = (natI D).map (Value.int .i64) by rw [hD]; simp [natI, dropAt])
            have HBD := Lib.hid (show 0 + (natI (left.take i)).length ≤ 1000000 ∧ 0 + (natI (left.take i)).length + (natI (left.drop (i + 1))).length ≤ 1000000 by simp [natI]; omega)
            have HLL := Lib.hid hln
            clear hown hgg hcm hcs htk hint hD hd hln hnc hm
            obtain ⟨A1, C1, HT1, HV1⟩ : ∃ A1 C1, Hid (Value.slice (some ⟨g, 0, none⟩) i cap = .slice A1 (natI (left.take i)).length C1) ∧ Hid (IntsV wr A1 (natI (left.take i))) := ⟨some ⟨g, 0, none⟩, cap, Lib.hid (by
              have := HLL.out
              simp [natI]
              omega), Lib.hid (natI_take HIN.out)⟩
            by_cases hac2 : i + 1 < cap
            · obtain ⟨A2, C2, HT2, HV2⟩ : ∃ A2 C2, Hid (Value.slice (some ⟨g, i + 1, none⟩) (n - (i + 1)) (cap - (i + 1)) = .slice A2 (natI (left.drop (i + 1))).length C2) ∧ Hid (IntsV wr A2 (natI (left.drop (i + 1)))) := ⟨some ⟨g, i + 1, none⟩, cap - (i + 1), Lib.hid (by
                have := HLL.out
                simp [natI]
                omega), Lib.hid (natI_drop HIN.out)⟩
              go_upto_region 12 with fail
              refine wp_cut_slots [9, 38, 39, 40, 41, 42, 43, 44, 45, 46, 47] (LeftCut wr d ((natI D).map (Value.int .i64))) ?_ ?_
              · haveI n1 : Nonempty (KW (fun _ => True)) := ⟨⟨wr, trivial⟩⟩
                refine wp_region_tree (fun w' => ∃ y : KW (fun _ => True), w' = y.w) 9 (.take 1 (.take 2 (.take 3 (.take 5 (.take 6 (.take 7 (.take 8 (.one 0 (.one 4 .done))))))))) (by kernel_rfl) (by kernel_rfl) (KW.mk' trivial) ?_
                have HB0 : Hid (Below wr.heap.size wr wr.drew) := Lib.hid (Below.refl _ _).drew
                generalize wr.drew = w0 at *
                repeat (refine wpTree_take ?_; simp only [nthOp]; (first | go_big_quiet_step (fail) | quiet_step (fail)); refine wpQuiet_nil ?_)
                refine wpTree_one ?_
                simp only [nthOp]
                go_wp2_with fail
                obtain ⟨g0, hg0⟩ : ∃ g, g = w0.heap.size := ⟨_, rfl⟩
                rw [← hg0]
                refine gen_any (G := fun W' => One _ _ _ _ W') (fun W' => Below wr.heap.size wr W' ∧ W'.ownsRow wr.heap.size 3 1 (.slice (some ⟨g0, 0, none⟩) 0 0) 0 []) ?_ ?_
                · exact ⟨HB0.out.alloc HB0.out.size _, by rw [hg0]; exact World.ownsRow_made w0 #[] 0 HB0.out.size (Nat.zero_le _) rfl⟩
                rintro w1 ⟨hb, ho⟩
                have HB1 := Lib.hid hb
                have HO1 := Lib.hid ho
                clear hb ho hg0
                refine One_mk (KW.mk' trivial) ?_
                refine wpTree_one ?_
                simp only [nthOp]
                go_wp2_with (at_builtin; refine wpList_append_ints rfl _ _ rfl wr.heap.size i0 hi0 hz0 hz1 hz2 _ 0 _ rfl HO1.out A1 (natI (left.take i)) C1 HT1.out (intsV_keep HV1.out HB1.out) HBD.out.1 HB1.out.size ?_; intro va w3 ho hgr; have HOA := Lib.hid ho; have HGR := Lib.hid hgr; clear ho hgr)
                have HB2 := Lib.hid (HB1.out.grown HGR.out HB1.out.size (fun q hq => (HO1.out.lt q hq).1))
                refine One_mk (KW.mk' trivial) ?_
                refine wpTree_done ?_
                simp only [List.drop_succ_cons, List.drop_zero]
                go_wp2_with (at_builtin; refine wpList_append_ints rfl _ _ rfl wr.heap.size i0 hi0 hz0 hz1 hz2 _ _ _ rfl HOA.out A2 (natI (left.drop (i + 1))) C2 HT2.out (intsV_keep HV2.out HB2.out) HBD.out.2 HB2.out.size ?_; intro vc wz ho hgr; have HOZ := Lib.hid ho; have HGZ := Lib.hid hgr; clear ho hgr)
                have HBZ := Lib.hid (HB2.out.grown HGZ.out HB2.out.size (fun q hq => (HOA.out.lt q hq).1))
                refine NP_mk ?_
                exact cut_meet (by simp [forget]) (LeftCut.mk rfl HOZ.out HLN2.out HDE.out HBZ.out)
              rintro u W2 ⟨v2, hu2, ho2, hb2⟩
              simp only [forget, List.foldl_cons, List.foldl_nil, hu2]
              obtain ⟨av, cv, rfl, hiv⟩ := own_ints' ho2
              have HIV := Lib.hid hiv
              have HOW2 := Lib.hid ho2
              have HB2 := Lib.hid hb2
              clear hu2 ho2 hb2 hiv HT1 HV1 HT2 HV2
              obtain ⟨k0, k1, k2, k3, k4⟩ := HCR2.out.keep HB2.out hzr2
              rw [← HNE.out] at k0
              have HSC2 := Lib.hid (HBB.out.trans ((HBR.out.trans (HB2.out.mono HBR.out.size)).mono HBB.out.size))
              have HWI := Lib.hid (with_any j D d a1 c1 a2 c2 av cv W2 HDL.out (hs.keep HSC2.out) HIV.out (fun y hy => by rw [← HNE.out]; exact HDM.out y hy) (by rw [← HNE.out]; exact hN) (by omega))
              rw [← HNE.out] at HWI
              have HG2 := Lib.hid (fun a5 c5 w9 hs hb => refGreedy_any ⟨pickB j.stock D, j.blanks, j.trim⟩ a5 c5 a2 c2 w9 hs hb HJS.out)
              simp only [show (pickB j.stock D).length = D.length by unfold pickB; rw [List.length_map]] at HG2
              obtain ⟨⟨rl, re⟩, hr⟩ : ∃ r, greedyM (pickB j.stock D) j.blanks j.trim = r := ⟨_, rfl⟩
              rw [hr] at HG2
              have HR := Lib.hid (show (greedyM (pickB j.stock (dropAt left i)) j.blanks j.trim).2 = re by rw [← HDG.out, hr])
              clear hr
              go_upto_region 14 with (first
                | (go_at_call 50; refine HWI.out.mono ?_; rintro e w6 ⟨a5, c5, rfl, hv5, hb6⟩; have HV5 := Lib.hid hv5; have HB6 := Lib.hid hb6; clear hv5 hb6)
                | (go_at_call 49; refine (HG2.out a5 c5 _ HV5.out (hb.keep (HSC2.out.trans (HB6.out.mono HSC2.out.size)))).mono ?_; rintro e w8 ⟨a8, c8, rfl, hv, hc, hc2, hb2⟩; have HB8 := Lib.hid (HB6.out.trans (hb2.mono HB6.out.size)); clear hv hc hc2 hb2))
              have HBE := Lib.hid (HBR.out.trans ((HB2.out.trans (HB8.out.mono HB2.out.size)).mono HBR.out.size))
              clear k0 k1 k2 k3 k4
              by_cases hre : re = 0
              · subst hre
                go_wp2_with fail
                go_roundw
                case rel => exact ⟨i, d, D, HDN.out.1, HDN.out.2, rfl, Lib.hid HDL.out.symm, HDM, Lib.hid (by rw [HLG.out, leftGo_yes HR.out, HDG.out]), own_keep (own_mono HOW2.out HBS.out) HB8.out, HBE.out⟩
                case measure => first | (simp [intOf]; done) | (simp [intOf]; omega)
              · go_wp2_with fail
                go_roundw
                case rel => exact ⟨i, n, left, by omega, hnk, rfl, HLN, HLT, Lib.hid (by rw [HLG.out, leftGo_no (by rw [HR.out]; exact hre)]), own_keep HOWN.out (HB2.out.trans (HB8.out.mono HB2.out.size)), HBE.out⟩
                case measure => first | (simp [intOf]; done) | (simp [intOf]; omega)
            · obtain ⟨A2, C2, HT2, HV2⟩ : ∃ A2 C2, Hid (Value.slice (some ⟨g, 0, none⟩) (n - (i + 1)) (cap - (i + 1)) = .slice A2 (natI (left.drop (i + 1))).length C2) ∧ Hid (IntsV wr A2 (natI (left.drop (i + 1)))) := ⟨some ⟨g, 0, none⟩, cap - (i + 1), Lib.hid (by
                have := HLL.out
                simp [natI]
                omega), Lib.hid (fun h => absurd (by
                have := HLL.out
                rw [List.drop_of_length_le (by omega)]; rfl) h)⟩
              go_upto_region 12 with fail
              refine wp_cut_slots [9, 38, 39, 40, 41, 42, 43, 44, 45, 46, 47] (LeftCut wr d ((natI D).map (Value.int .i64))) ?_ ?_
              · haveI n1 : Nonempty (KW (fun _ => True)) := ⟨⟨wr, trivial⟩⟩
                refine wp_region_tree (fun w' => ∃ y : KW (fun _ => True), w' = y.w) 9 (.take 1 (.take 2 (.take 3 (.take 5 (.take 6 (.take 7 (.take 8 (.one 0 (.one 4 .done))))))))) (by kernel_rfl) (by kernel_rfl) (KW.mk' trivial) ?_
                have HB0 : Hid (Below wr.heap.size wr wr.drew) := Lib.hid (Below.refl _ _).drew
                generalize wr.drew = w0 at *
                repeat (refine wpTree_take ?_; simp only [nthOp]; (first | go_big_quiet_step (fail) | quiet_step (fail)); refine wpQuiet_nil ?_)
                refine wpTree_one ?_
                simp only [nthOp]
                go_wp2_with fail
                obtain ⟨g0, hg0⟩ : ∃ g, g = w0.heap.size := ⟨_, rfl⟩
                rw [← hg0]
                refine gen_any (G := fun W' => One _ _ _ _ W') (fun W' => Below wr.heap.size wr W' ∧ W'.ownsRow wr.heap.size 3 1 (.slice (some ⟨g0, 0, none⟩) 0 0) 0 []) ?_ ?_
                · exact ⟨HB0.out.alloc HB0.out.size _, by rw [hg0]; exact World.ownsRow_made w0 #[] 0 HB0.out.size (Nat.zero_le _) rfl⟩
                rintro w1 ⟨hb, ho⟩
                have HB1 := Lib.hid hb
                have HO1 := Lib.hid ho
                clear hb ho hg0
                refine One_mk (KW.mk' trivial) ?_
                refine wpTree_one ?_
                simp only [nthOp]
                go_wp2_with (at_builtin; refine wpList_append_ints rfl _ _ rfl wr.heap.size i0 hi0 hz0 hz1 hz2 _ 0 _ rfl HO1.out A1 (natI (left.take i)) C1 HT1.out (intsV_keep HV1.out HB1.out) HBD.out.1 HB1.out.size ?_; intro va w3 ho hgr; have HOA := Lib.hid ho; have HGR := Lib.hid hgr; clear ho hgr)
                have HB2 := Lib.hid (HB1.out.grown HGR.out HB1.out.size (fun q hq => (HO1.out.lt q hq).1))
                refine One_mk (KW.mk' trivial) ?_
                refine wpTree_done ?_
                simp only [List.drop_succ_cons, List.drop_zero]
                go_wp2_with (at_builtin; refine wpList_append_ints rfl _ _ rfl wr.heap.size i0 hi0 hz0 hz1 hz2 _ _ _ rfl HOA.out A2 (natI (left.drop (i + 1))) C2 HT2.out (intsV_keep HV2.out HB2.out) HBD.out.2 HB2.out.size ?_; intro vc wz ho hgr; have HOZ := Lib.hid ho; have HGZ := Lib.hid hgr; clear ho hgr)
                have HBZ := Lib.hid (HB2.out.grown HGZ.out HB2.out.size (fun q hq => (HOA.out.lt q hq).1))
                refine NP_mk ?_
                exact cut_meet (by simp [forget]) (LeftCut.mk rfl HOZ.out HLN2.out HDE.out HBZ.out)
              rintro u W2 ⟨v2, hu2, ho2, hb2⟩
              simp only [forget, List.foldl_cons, List.foldl_nil, hu2]
              obtain ⟨av, cv, rfl, hiv⟩ := own_ints' ho2
              have HIV := Lib.hid hiv
              have HOW2 := Lib.hid ho2
              have HB2 := Lib.hid hb2
              clear hu2 ho2 hb2 hiv HT1 HV1 HT2 HV2
              obtain ⟨k0, k1, k2, k3, k4⟩ := HCR2.out.keep HB2.out hzr2
              rw [← HNE.out] at k0
              have HSC2 := Lib.hid (HBB.out.trans ((HBR.out.trans (HB2.out.mono HBR.out.size)).mono HBB.out.size))
              have HWI := Lib.hid (with_any j D d a1 c1 a2 c2 av cv W2 HDL.out (hs.keep HSC2.out) HIV.out (fun y hy => by rw [← HNE.out]; exact HDM.out y hy) (by rw [← HNE.out]; exact hN) (by omega))
              rw [← HNE.out] at HWI
              have HG2 := Lib.hid (fun a5 c5 w9 hs hb => refGreedy_any ⟨pickB j.stock D, j.blanks, j.trim⟩ a5 c5 a2 c2 w9 hs hb HJS.out)
              simp only [show (pickB j.stock D).length = D.length by unfold pickB; rw [List.length_map]] at HG2
              obtain ⟨⟨rl, re⟩, hr⟩ : ∃ r, greedyM (pickB j.stock D) j.blanks j.trim = r := ⟨_, rfl⟩
              rw [hr] at HG2
              have HR := Lib.hid (show (greedyM (pickB j.stock (dropAt left i)) j.blanks j.trim).2 = re by rw [← HDG.out, hr])
              clear hr
              go_upto_region 14 with (first
                | (go_at_call 50; refine HWI.out.mono ?_; rintro e w6 ⟨a5, c5, rfl, hv5, hb6⟩; have HV5 := Lib.hid hv5; have HB6 := Lib.hid hb6; clear hv5 hb6)
                | (go_at_call 49; refine (HG2.out a5 c5 _ HV5.out (hb.keep (HSC2.out.trans (HB6.out.mono HSC2.out.size)))).mono ?_; rintro e w8 ⟨a8, c8, rfl, hv, hc, hc2, hb2⟩; have HB8 := Lib.hid (HB6.out.trans (hb2.mono HB6.out.size)); clear hv hc hc2 hb2))
              have HBE := Lib.hid (HBR.out.trans ((HB2.out.trans (HB8.out.mono HB2.out.size)).mono HBR.out.size))
              clear k0 k1 k2 k3 k4
              by_cases hre : re = 0
              · subst hre
                go_wp2_with fail
                go_roundw
                case rel => exact ⟨i, d, D, HDN.out.1, HDN.out.2, rfl, Lib.hid HDL.out.symm, HDM, Lib.hid (by rw [HLG.out, leftGo_yes HR.out, HDG.out]), own_keep (own_mono HOW2.out HBS.out) HB8.out, HBE.out⟩
                case measure => first | (simp [intOf]; done) | (simp [intOf]; omega)
              · go_wp2_with fail
                go_roundw
                case rel => exact ⟨i, n, left, by omega, hnk, rfl, HLN, HLT, Lib.hid (by rw [HLG.out, leftGo_no (by rw [HR.out]; exact hre)]), own_keep HOWN.out (HB2.out.trans (HB8.out.mono HB2.out.size)), HBE.out⟩
                case measure => first | (simp [intOf]; done) | (simp [intOf]; omega)
  · have HQ3 := Lib.hid (show chooseM j = ([], qe) by rw [HQ2.out]; simp [hqe])
    obtain ⟨k0, k1, k2, k3, k4⟩ := HC2.out
    go_wp2_with fail
    go_ret2
    exact ChoosePost.empty HQ3.out HB4.out
end Go.Proofs.YtepiapgcpoifpaaGreat

set_option linter.unusedVariables false
set_option linter.unusedSimpArgs false
namespace Go.Proofs.YtepiapgcpoifpaaGreat
open Go Go.ChangeShapes Go.WideShapes Go.ChangeAt Go.RowKit

theorem chooseE_err {j : Job} {E : Int} (h : jobE j = E) (hE : ¬ E = 0) : chooseE j = ([], E) := by subst h; unfold chooseE; rw [if_pos hE]
theorem chooseE_ok {j : Job} (h : jobE j = 0) : chooseE j = chooseM j := by unfold chooseE; rw [if_neg (by simp [h])]
theorem small_few2 {j : Job} (hs : smallB j = true) (h : jobE j = 0) : j.blanks.length < 20 := by
  have hp := (jobOk_of h).lenB
  have hl := smallB_lens hs
  unfold smallL at hl
  omega
theorem leftGo_sub (stock : List Board) (blanks : List Blank) (t : Trim) : ∀ (m : Nat) (l : List Nat), (leftGo stock blanks t m l).length ≤ l.length ∧ ∀ x ∈ leftGo stock blanks t m l, x ∈ l
  | 0, l => ⟨Nat.le_refl _, fun _ h => h⟩
  | i + 1, l => by
    rw [leftGo]
    split
    · obtain ⟨h1, h2⟩ := leftGo_sub stock blanks t i (dropAt l i)
      have h3 : (dropAt l i).length ≤ l.length := by simp [dropAt]; omega
      exact ⟨by omega, fun x hx => dropAt_mem (h2 x hx)⟩
    · exact leftGo_sub stock blanks t i l
theorem chooseM_ok {j : Job} (hl : j.stock.length ≤ 100) : (chooseM j).1.length ≤ 100 ∧ ∀ x ∈ natI (chooseM j).1, -9223372036854775808 ≤ x ∧ x ≤ 9223372036854775807 := by
  unfold chooseM
  split
  · exact ⟨by simp, fun x hx => by simp [natI] at hx⟩
  · obtain ⟨h1, h2⟩ := leftGo_sub j.stock j.blanks j.trim j.stock.length (List.range j.stock.length)
    refine ⟨by simp at h1 ⊢; omega, fun x hx => ?_⟩
    obtain ⟨y, hy, rfl⟩ := List.mem_map.1 hx
    have := List.mem_range.1 (h2 y hy)
    omega
set_option maxRecDepth 100000 in
set_option maxHeartbeats 4000000 in
theorem walkCuttingChooses (j : Job) (ja1 : Option Addr) (jc1 : Nat) (ja2 : Option Addr) (jc2 : Nat) (w : World) (VSj : Boards.V w ja1 j.stock) (LSj : j.stock.length ≤ 9223372036854775807) (CSj : j.stock.length ≤ jc1) (VBj : Blanks.V w ja2 j.blanks) (LBj : j.blanks.length ≤ 9223372036854775807) (CBj : j.blanks.length ≤ jc2) (WTj : j.trim.wf) :
    Calls Tryz.prog 3 #[.agg #[.slice ja1 j.stock.length jc1, .slice ja2 j.blanks.length jc2, .int .i64 j.trim.kerf, .int .i64 j.trim.ends, .int .i64 j.trim.sides]] w fun e w' => e = .returned (.bool true) ∧ Below w.heap.size w w' := by
  have HVS := Lib.hid VSj
  have HVB := Lib.hid VBj
  clear VSj VBj
  go_enter Tryz.func3, Tryz.ntmps3
  go_upto_region 1 with fail
  refine gen_world (fun W => JB W w.heap.size j ja1 jc1 ja2 jc2 ∧ Below w.heap.size w W ∧ w.heap.size < W.heap.size) ⟨⟨by simp, by simp, by simp, by simp, by simp⟩, (Below.refl _ _).alloc (Nat.le_refl _) _, by simp⟩ ?_
  rintro W ⟨hC, hbW, hzW⟩
  have HC := Lib.hid hC
  have HBW := Lib.hid hbW
  clear hC hbW
  go_upto_region 3 with (go_at_call 8; refine (awake_any _).mono ?_; rintro e w1 ⟨rfl, hb1⟩; have HB1 := Lib.hid hb1; clear hb1)
  have HC1 := Lib.hid (HC.out.keep HB1.out hzW)
  have HBW1 := Lib.hid (HBW.out.trans (HB1.out.mono (Nat.le_of_lt hzW)))
  have hzw1 : w.heap.size < w1.heap.size := Nat.lt_of_lt_of_le hzW HB1.out.size
  clear HC HBW HB1 hzW
  obtain ⟨k0, k1, k2, k3, k4⟩ := HC1.out
  cases hsm : smallB j
  · have HSM := Lib.hid hsm
    clear hsm
    go_wp2_with (go_at_call 9; refine (small_is j ja1 jc1 ja2 jc2 _ HSM.out (HVS.out.keep HBW1.out) LSj (HVB.out.keep HBW1.out) LBj).mono ?_; rintro e w2 ⟨rfl, hb⟩; have HB2 := Lib.hid (HBW1.out.trans (hb.mono HBW1.out.size)); clear hb)
    go_ret
    exact ⟨rfl, HB2.out⟩
  · have HSM := Lib.hid hsm
    clear hsm
    go_upto_region 5 with (go_at_call 9; refine (small_is j ja1 jc1 ja2 jc2 _ HSM.out (HVS.out.keep HBW1.out) LSj (HVB.out.keep HBW1.out) LBj).mono ?_; rintro e w2 ⟨rfl, hb⟩; have HB2 := Lib.hid hb; clear hb)
    have HC2 := Lib.hid (HC1.out.keep HB2.out hzw1)
    have HBW2 := Lib.hid (HBW1.out.trans (HB2.out.mono HBW1.out.size))
    have hzw2 : w.heap.size < w2.heap.size := Nat.lt_of_lt_of_le hzw1 HB2.out.size
    clear k0 k1 k2 k3 k4 HC1 HBW1 HB2 hzw1
    obtain ⟨k0, k1, k2, k3, k4⟩ := HC2.out
    have HFEW := Lib.hid (fun h => small_few2 (j := j) HSM.out h)
    obtain ⟨E, hE⟩ : ∃ E, jobE j = E := ⟨_, rfl⟩
    have HE := Lib.hid hE
    obtain ⟨q, hq⟩ : ∃ q, chooseE j = q := ⟨_, rfl⟩
    have HX := Lib.hid (fun w9 hs hb => chooseP_any j ja1 jc1 ja2 jc2 w9 hs LSj hb LBj HFEW.out)
    rw [hq] at HX
    go_upto_region 6 with (go_at_call 10; refine (HX.out _ (HVS.out.keep HBW2.out) (HVB.out.keep HBW2.out)).mono ?_; rintro e w3 ⟨a3, c3, rfl, hv, hb⟩; have HV3 := Lib.hid hv; have HB3 := Lib.hid (HBW2.out.trans (hb.mono HBW2.out.size)); have HC3 := Lib.hid (HC2.out.keep hb hzw2); have hz3 := hb.size; clear hv hb)
    have hzw3 : w.heap.size < w3.heap.size := by omega
    clear k0 k1 k2 k3 k4
    obtain ⟨k0, k1, k2, k3, k4⟩ := HC3.out
    go_upto_region 7 with (go_at_call 11; refine (refCheckJob_any j ja1 jc1 ja2 jc2 _ (HVS.out.keep HB3.out) LSj (HVB.out.keep HB3.out) LBj).mono ?_; rw [HE.out]; rintro e w4 ⟨rfl, hb⟩; have HB4 := Lib.hid (HB3.out.trans (hb.mono HB3.out.size)); have HC4 := Lib.hid (HC3.out.keep hb hzw3); have HV4 := Lib.hid (intsV_keep HV3.out hb); clear hb)
    clear k0 k1 k2 k3 k4
    by_cases hE0 : E = 0
    · subst hE0
      have HQ := Lib.hid (hq.symm.trans (chooseE_ok hE))
      have HJO := Lib.hid (jobOk_of hE)
      have HLN := Lib.hid (show q.1.length ≤ 100 ∧ ∀ x ∈ natI q.1, -9223372036854775808 ≤ x ∧ x ≤ 9223372036854775807 by rw [HQ.out]; exact chooseM_ok HJO.out.lenS)
      clear hE hq
      obtain ⟨k0, k1, k2, k3, k4⟩ := HC4.out
      have HRG := Lib.hid (fun w9 hs hb => chooseR_any j ja1 jc1 ja2 jc2 w9 hs hb HJO.out)
      rw [← HQ.out] at HRG
      obtain ⟨ql, qe⟩ := q
      go_wp2_with (first
        | (go_at_call 12; refine (HRG.out _ (HVS.out.keep HB4.out) (HVB.out.keep HB4.out)).mono ?_; rintro e w5 ⟨a5, c5, rfl, hv, hb⟩; have HV5 := Lib.hid (Intss.V.of hv HLN.out.2); have HB5 := Lib.hid (HB4.out.trans (hb.mono HB4.out.size)); have HV4' := Lib.hid (Intss.V.of (intsV_keep HV4.out hb) HLN.out.2); clear hv hb)
        | (go_at_call 13; refine (intsSame_is a3 a5 (natI ql) (natI ql) _ _ _ _ _ (natI_len ql) (natI_len ql) (decide_eq_true rfl) HV4'.out HV5.out (by have h : ql.length ≤ 100 := HLN.out.1; rw [natI_len]; omega) (by have h : ql.length ≤ 100 := HLN.out.1; rw [natI_len]; omega)).mono ?_; rintro e w6 ⟨rfl, hb⟩; have HB6 := Lib.hid (HB5.out.trans (hb.mono HB5.out.size)); clear hb))
      go_ret
      exact ⟨ret_bool (by simp), HB6.out⟩
    · have hne := bne_t5 hE0
      have hqe := hq.symm.trans (chooseE_err hE hE0)
      subst hqe
      clear hE hq hE0 HX
      go_wp2_with fail
      go_ret
      exact ⟨ret_bool (by simp), HB4.out⟩
set_option maxRecDepth 100000 in
theorem cuttingChooses_walks : Walks 3 Tryz.f3 := by
  intro H enc W base args ds p hval hA hlt
  rw [Tryz.params3] at hA hval
  obtain ⟨v0, vs0, d0, ds0, p0, q0, hargs, rfl, rfl, ⟨fu0, hf0⟩, r0⟩ := trodAll_cons hA
  obtain ⟨rfl, rfl, rfl⟩ := trodAll_nil r0
  obtain rfl : args = #[v0] := by cases args; simp_all
  obtain ⟨cs0, rfl, -⟩ := okWide_struct Tryz.underlying27 (hval 0 27 v0 rfl rfl)
  obtain ⟨j0, a0, c0, b0, d0, hc0, ⟨V0, C0, M0⟩, ⟨U0, D0, N0⟩, W0⟩ := Job.open_ hf0
  have hd0 : cs0 = #[.slice a0 j0.stock.length c0, .slice b0 j0.blanks.length d0, .int .i64 j0.trim.kerf, .int .i64 j0.trim.ends, .int .i64 j0.trim.sides] := by
    cases cs0; simpa [Value.cells] using hc0
  subst hd0
  exact walkCuttingChooses j0 a0 c0 b0 d0 W V0 (by unfold maxLen at M0; omega) C0 U0 (by unfold maxLen at N0; omega) D0 W0

set_option maxRecDepth 100000 in
theorem cuttingChooses_holds : Rows.CuttingChoosesSaid :=
  law_holds (s := Rows.cuttingChoosesSpec) (c := Rows.cuttingChoosesRow) 3 Tryz.f3 rfl
    (fun H ds h => by match ds, h with | [_], _ => rfl) (by kernel_rfl) (by kernel_rfl)
    rfl rfl rfl rfl rfl rfl rfl ⟨rfl, rfl, rfl, rfl, rfl⟩ rfl rfl rfl rfl rfl rfl rfl rfl rfl rfl (fun _ _ => rfl) (by kernel_rfl) Tryz.func3
    cuttingChooses_closed (of_decide_eq_true (by kernel_rfl)) (by unfold Func.isWrapper; first | (rw [if_pos (by decide +kernel)]; kernel_rfl) | (rw [if_neg (by decide +kernel)]; exact ⟨rfl, rfl⟩)) (by kernel_rfl)
    (fun H enc os => ChangeSpec.witness6 (enc := enc) (C := Tryz.checked) false ⟨#[], #[.agg #[.slice none 0 0, .slice none 0 0, .int .i64 0, .int .i64 0, .int .i64 0]], []⟩ 8 (by kernel_rfl) (by kernel_rfl) (by kernel_rfl) (by kernel_rfl))
    cuttingChooses_walks
end Go.Proofs.YtepiapgcpoifpaaGreat
