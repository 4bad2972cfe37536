import Derived.Test.YtjmgboipbhddlaaGreatDoorG6
import Derived.Test.YtjmgboipbhddlaaGreatDoorQM
set_option linter.unusedVariables false
set_option linter.unusedSimpArgs false
namespace Go.Proofs.YtjmgboipbhddlaaGreatDoor
open Go Go.RowKit

structure CellsW (W : World) (g : Nat) (x : Blank) : Prop where
 c0 : W.cell? ⟨g, 0, none⟩ = some (.string x.name)
 c1 : W.cell? ⟨g, 1, none⟩ = some (.string x.species)
 c2 : W.cell? ⟨g, 2, none⟩ = some (.int .i64 x.length)
 c3 : W.cell? ⟨g, 3, none⟩ = some (.int .i64 x.width)
 c4 : W.cell? ⟨g, 4, none⟩ = some (.int .i64 x.thick)
 c5 : W.cell? ⟨g, 5, none⟩ = some (.int .i64 x.count)
theorem CellsW.keep {W W' : World} {g : Nat} {x : Blank} (h : CellsW W g x) (hb : Below W.heap.size W W') : CellsW W' g x := ⟨cell_keep hb h.c0, cell_keep hb h.c1, cell_keep hb h.c2, cell_keep hb h.c3, cell_keep hb h.c4, cell_keep hb h.c5⟩
def cellsW (x : Blank) : List Value := [.string x.name, .string x.species, .int .i64 x.length, .int .i64 x.width, .int .i64 x.thick, .int .i64 x.count]
def plusSt (St : Addr → Value → Prop) (g : Nat) (x : Blank) : Addr → Value → Prop := fun a v => St a v ∨ newSt g (cellsW x) a v
theorem desk_want {W : World} {base g : Nat} {x : Blank} {L : List Slot} {St : Addr → Value → Prop} (h : Desk W base L (plusSt St g x)) : CellsW W g x :=
 ⟨h.cell (.inr (newSt_at rfl)), h.cell (.inr (newSt_at rfl)), h.cell (.inr (newSt_at rfl)), h.cell (.inr (newSt_at rfl)), h.cell (.inr (newSt_at rfl)), h.cell (.inr (newSt_at rfl))⟩
theorem desk_plain {W : World} {base g : Nat} {x : Blank} {L : List Slot} {St : Addr → Value → Prop} (h : Desk W base L (plusSt St g x)) : Desk W base L St := h.weak (fun a v h => .inl h)
theorem desk_plus {W W' : World} {base : Nat} {x : Blank} {L : List Slot} {St : Addr → Value → Prop} (h : Desk W base L St) (hb : Below W.heap.size W W') (hc : CellsW W' W.heap.size x) : Desk W' base L (plusSt St W.heap.size x) :=
 h.more hb (fun a v hn => by
  obtain ⟨j, rfl, hj⟩ := hn
  refine ⟨rfl, Nat.le_refl _, ?_⟩
  match j, hj with
  | 0, hj => simp [cellsW] at hj; subst hj; exact hc.c0
  | 1, hj => simp [cellsW] at hj; subst hj; exact hc.c1
  | 2, hj => simp [cellsW] at hj; subst hj; exact hc.c2
  | 3, hj => simp [cellsW] at hj; subst hj; exact hc.c3
  | 4, hj => simp [cellsW] at hj; subst hj; exact hc.c4
  | 5, hj => simp [cellsW] at hj; subst hj; exact hc.c5
  | j + 6, hj => simp [cellsW] at hj)
structure CellsX (W : World) (g : Nat) (x : Cut) : Prop where
 c0 : W.cell? ⟨g, 0, none⟩ = some (.bool x.across)
 c1 : W.cell? ⟨g, 1, none⟩ = some (.int .i64 x.at_)
 c2 : W.cell? ⟨g, 2, none⟩ = some (.int .i64 x.low)
 c3 : W.cell? ⟨g, 3, none⟩ = some (.int .i64 x.high)
 c4 : W.cell? ⟨g, 4, none⟩ = some (.int .i64 x.blank)
theorem put_kind {s : BS} {kerf : Int} {b : Board} {w : Blank} {number : Int} (h : kindB b w = false) : s.put kerf b w number = none := by unfold BS.put; rw [if_neg (by simp [h])]
theorem put_scan {s : BS} {kerf : Int} {b : Board} {w : Blank} {number : Int} (h : kindB b w = true) : s.put kerf b w number = (scan (s.at_ kerf b.defects w) s.cuts.length 0).map fun x => s.place kerf w number x.1 x.2 := by unfold BS.put; rw [if_pos h]
theorem scan_no {α β : Type} {f : Nat → Option α} {g : Nat × α → β} {n k : Nat} {t : Option β} (hk : k < n) (h : t = (scan f (n - k) k).map g) (hf : f k = none) : t = (scan f (n - (k + 1)) (k + 1)).map g := by
 rw [show n - k = n - (k + 1) + 1 by omega] at h
 rw [h, scan_next rfl hf]
theorem scan_yes {α β : Type} {f : Nat → Option α} {g : Nat × α → β} {n k : Nat} {t : Option β} {a : α} (hk : k < n) (h : t = (scan f (n - k) k).map g) (hf : f k = some a) : t = some (g (k, a)) := by
 rw [show n - k = n - (k + 1) + 1 by omega] at h
 rw [h, scan_hit rfl hf]; rfl
theorem scan_end {α β : Type} {f : Nat → Option α} {g : Nat × α → β} {n k : Nat} {t : Option β} (hk : n ≤ k) (h : t = (scan f (n - k) k).map g) : t = none := by
 rw [show n - k = 0 by omega] at h
 rw [h]; rfl
theorem at_none {s : BS} {kerf : Int} {ds : List Rect} {w : Blank} {k : Nat} (h : freeC (s.cuts.getD k wasteC) (s.r k) = false) : s.at_ kerf ds w k = none := by unfold BS.at_; rw [if_neg (by rw [h]; decide)]
theorem at_free {s : BS} {kerf : Int} {ds : List Rect} {w : Blank} {k : Nat} (h : freeC (s.cuts.getD k wasteC) (s.r k) = true) : s.at_ kerf ds w k = offset kerf ds (s.r k) w := by unfold BS.at_; rw [if_pos h]
def PutPost (base : Nat) (w : World) (L : List Slot) (St : Addr → Value → Prop) (i : Nat) (ac ar : Addr) (s : BS) (q : Option BS) (e : Ending) (w' : World) : Prop :=
 e = .returned (.bool q.isSome) ∧ Desk w' base (setB L i ac ar (q.getD s)) St ∧ Below base w w'
theorem PutPost.no {base : Nat} {w : World} {L : List Slot} {St : Addr → Value → Prop} {i : Nat} {ac ar : Addr} {s : BS} {q : Option BS} {w' : World} (hA : AtB L i ac ar s) (hq : q = none) (hD : Desk w' base L St) (hb : Below base w w') :
    PutPost base w L St i ac ar s q (.returned (.bool false)) w' := by subst hq; exact ⟨rfl, by rw [Option.getD_none, setB_same hA]; exact hD, hb⟩
theorem PutPost.yes {base : Nat} {w : World} {L : List Slot} {St : Addr → Value → Prop} {i : Nat} {ac ar : Addr} {s s' : BS} {q : Option BS} {w' : World} (hq : q = some s') (hD : Desk w' base (setB L i ac ar s') St) (hb : Below base w w') :
    PutPost base w L St i ac ar s q (.returned (.bool true)) w' := by subst hq; exact ⟨rfl, hD, hb⟩

theorem leaf_is (x : Cut) (w : World) {q : Bool} (hq : decide (x.low = 0) = q) : Calls Tryz.prog 28 #[.agg #[.bool x.across, .int .i64 x.at_, .int .i64 x.low, .int .i64 x.high, .int .i64 x.blank]] w fun e w' => e = .returned (.bool q) ∧ Below w.heap.size w w' := by subst hq; exact leaf_any x w
theorem boffset_is (x base : Nat) (L : List Slot) (i : Nat) (s : BS) (St : Addr → Value → Prop) (region : Nat) (b : Board) (ad : Option Addr) (cd : Nat) (t : Trim) (want : Blank) (w : World) {q : Int} (hqq : offV (offset t.kerf b.defects (s.r region) want) = q) (hD : Desk w base L St) (hA : AtB L i ⟨x, 11, none⟩ ⟨x, 12, none⟩ s)
    (hst : ∀ o v, (benchCells b ad cd t)[o]? = some v → St ⟨x, o, none⟩ v) (hv : Rects.V w ad b.defects) (hdf : DefsOk b.defects) (hl : s.cuts.length ≤ 90000) (hl2 : s.rects.length = s.cuts.length) (hreg : region < s.cuts.length) (hq : proper (s.r region))
    (hkf : 0 ≤ t.kerf ∧ t.kerf ≤ 10000) (hw : (1 ≤ want.length ∧ want.length ≤ 600000) ∧ (1 ≤ want.width ∧ want.width ≤ 600000)) :
    Calls Tryz.prog 106 #[.pointer (some ⟨x, 0, none⟩), .int .i64 region, .agg #[.string want.name, .string want.species, .int .i64 want.length, .int .i64 want.width, .int .i64 want.thick, .int .i64 want.count]] w fun e w' => e = .returned (.int .i64 q) ∧ Below w.heap.size w w' := by
 subst hqq; exact boffset_any x base L i s St region b ad cd t want w hD hA hst hv hdf hl hl2 hreg hq hkf hw

set_option maxRecDepth 100000 in
set_option maxHeartbeats 16000000 in
theorem bplace_any (x base : Nat) (L : List Slot) (i : Nat) (s : BS) (St : Addr → Value → Prop) (b : Board) (ad : Option Addr) (cd : Nat) (t : Trim) (want : Blank) (number : Int) (w : World) (hD : Desk w base L St) (hA : AtB L i ⟨x, 11, none⟩ ⟨x, 12, none⟩ s)
    (hst : ∀ o v, (benchCells b ad cd t)[o]? = some v → St ⟨x, o, none⟩ v) (hv : Rects.V w ad b.defects) (hdf : DefsOk b.defects) (hl : s.cuts.length ≤ 80000) (hne : s.cuts ≠ []) (hgd : GoodB s) (hlf : LeafB s)
    (hkf : 0 ≤ t.kerf ∧ t.kerf ≤ 10000) (hw : (1 ≤ want.length ∧ want.length ≤ 600000) ∧ (1 ≤ want.width ∧ want.width ≤ 600000)) :
    Calls Tryz.prog 82 #[.pointer (some ⟨x, 0, none⟩), .int .i64 number, .agg #[.string want.name, .string want.species, .int .i64 want.length, .int .i64 want.width, .int .i64 want.thick, .int .i64 want.count]] w (PutPost base w L St i ⟨x, 11, none⟩ ⟨x, 12, none⟩ s (s.put t.kerf b want number)) := by
 have hsz := hD.size hA
 have hl2 := hgd.len
 have b1 := hD.cell (hst 1 _ rfl)
 have b4 := hD.cell (hst 4 _ rfl)
 have HD0 := Lib.hid hD
 have HPN := Lib.hid (fun w' hq hD hb => PutPost.no (base := base) (w := w) (L := L) (St := St) (q := s.put t.kerf b want number) (w' := w') hA hq hD hb)
 go_enter Tryz.func82, Tryz.ntmps82
 go_upto_region 1 with fail
 refine gen_world (fun W => CellsW W w.heap.size want ∧ Below w.heap.size w W ∧ w.heap.size < W.heap.size) ?_ ?_
 ·exact ⟨⟨by simp [go_sem], by simp [go_sem], by simp [go_sem], by simp [go_sem], by simp [go_sem], by simp [go_sem]⟩, (Below.refl _ _).alloc (Nat.le_refl _) _, by simp⟩
 rintro W ⟨hcw, hbW, hz⟩
 have HW := Lib.hid hbW
 have HCW := Lib.hid hcw
 have b1 := cell_keep hbW b1
 have b4 := cell_keep hbW b4
 have hxW := block_lt_of_cell b1
 simp only at hxW
 obtain ⟨-, w1, -, -, w4, -⟩ := hcw
 have HDW := Lib.hid (desk_plus HD0.out hbW HCW.out)
 have hst1 : ∀ o v, (benchCells b ad cd t)[o]? = some v → plusSt St w.heap.size want ⟨x, o, none⟩ v := fun o v h => .inl (hst o v h)
 have hbb : Below base w W := hbW.mono hsz.1
 by_cases hk1 : (b.species.toList == want.species.toList) = true
 ·by_cases hk2 : b.thick < want.thick
  ·have HN := Lib.hid (put_kind (s := s) (kerf := t.kerf) (number := number) (show kindB b want = false by unfold kindB; rw [hk1, Bool.true_and, decide_eq_false_iff_not]; omega))
   go_quiet (fail)
   rename_i nq
   have hq := below_drewN hbb nq
   have HDQ := Lib.hid (HDW.out.keep (below_drewN (Below.refl _ _) nq))
   generalize W.drewN nq = W1 at *
   go_wp2_with fail
   go_ret
   exact HPN.out _ HN.out (desk_plain HDQ.out) hq
  ·have hk3 : decide (b.thick < want.thick) = false := decide_eq_false hk2
   have HK := Lib.hid (put_scan (s := s) (kerf := t.kerf) (number := number) (show kindB b want = true by unfold kindB; rw [hk1, Bool.true_and, decide_eq_true_eq]; omega))
   go_quiet (fail)
   rename_i nq
   have hq := below_drewN hbb nq
   have HDQ := Lib.hid (HDW.out.keep (below_drewN (Below.refl _ _) nq))
   have HCQ := Lib.hid (HCW.out.keep (below_drewN (Below.refl _ _) nq))
   have HWQ := Lib.hid (below_drewN hbW nq)
   have hzq : w.heap.size < (W.drewN nq).heap.size := hz
   generalize W.drewN nq = W1 at *
   clear hbW b1 b4 w1 w4 hk1 hk2 hk3 hbb
   have HHB := Lib.hid hq
   have HZ1 := Lib.hid hq.size
   clear hq
   obtain ⟨g0, cap0, c0, -⟩ := HDQ.out.rowC hA hne
   have HS0 := Lib.hid (show s.put t.kerf b want number = (scan (s.at_ t.kerf b.defects want) (s.cuts.length - 0) 0).map fun x => s.place t.kerf want number x.1 x.2 from HK.out)
   go_wp2_with fail
   go_loopw [36] (fun iv wr => ∃ k : Nat, k ≤ s.cuts.length ∧ iv = .int .i64 k ∧ Hid (s.put t.kerf b want number = (scan (s.at_ t.kerf b.defects want) (s.cuts.length - k) k).map fun x => s.place t.kerf want number x.1 x.2) ∧ Below W1.heap.size W1 wr) (fun iv _ => s.cuts.length - (intOf iv).toNat)
   case atStart => exact ⟨0, Nat.zero_le _, rfl, HS0, Below.refl _ _⟩
   case round =>
    clear HS0 c0
    obtain ⟨k, hk, rfl, HP, hbr⟩ := hrel
    have hDr := HDQ.out.keep hbr
    have HBR := Lib.hid hbr
    have hzr := hbr.size
    by_cases hlt : k < s.cuts.length
    ·have HLT := Lib.hid (show k < s.cuts.length ∧ s.cuts.length ≤ 80000 from ⟨hlt, hl⟩)
     obtain ⟨g, cap, k1, -, k3, k4, k5, k6, k7⟩ := hDr.rowC hA hne
     have hlt2 : k < s.rects.length := by omega
     obtain ⟨g2, cap2, m1, -, m3, m4, m5, m6, m7⟩ := hDr.rowR hA (by rintro h; rw [h] at hlt2; simp at hlt2)
     have hc0 : s.cuts.getD k wasteC = s.cuts[k] := by rw [List.getD_eq_getElem?_getD, List.getElem?_eq_getElem hlt]; rfl
     have hr0 : s.r k = s.rects[k] := by unfold BS.r; rw [List.getD_eq_getElem?_getD, List.getElem?_eq_getElem hlt2]; rfl
     have e0 := (k7 k hlt 0 (by decide)).1
     have e1 := (k7 k hlt 1 (by decide)).1
     have e2 := (k7 k hlt 2 (by decide)).1
     have e3 := (k7 k hlt 3 (by decide)).1
     have e4 := (k7 k hlt 4 (by decide)).1
     have q0 := (m7 k hlt2 0 (by decide)).1
     have q1 := (m7 k hlt2 1 (by decide)).1
     have q2 := (m7 k hlt2 2 (by decide)).1
     have q3 := (m7 k hlt2 3 (by decide)).1
     clear k7 m7
     generalize s.cuts[k] = c at *
     generalize s.rects[k] = r at *
     simp only [cellsC, cellsR, List.getElem?_cons_zero, List.getElem?_cons_succ, Nat.add_zero] at e0 e1 e2 e3 e4 q0 q1 q2 q3
     have hki : (k : Int) < (s.cuts.length : Int) := by omega
     have hki2 : (k : Int) < (s.rects.length : Int) := by omega
     have HC0 := Lib.hid hc0
     have HR0 := Lib.hid hr0
     clear hc0 hr0
     go_upto_region 7 with fail
     refine gen_world (fun W2 => CellsX W2 wr.heap.size c ∧ Below wr.heap.size wr W2 ∧ wr.heap.size < W2.heap.size) ?_ ?_
     ·exact ⟨⟨by simp [go_sem], by simp [go_sem], by simp [go_sem], by simp [go_sem], by simp [go_sem]⟩, by repeat (first | (with_reducible exact Below.refl _ _) | (with_reducible refine Below.setCell ?_ (by simp) _) | (with_reducible refine Below.alloc ?_ (by simp) _)), by simp⟩
     rintro W2 ⟨hcx, hb2, hz2⟩
     have m1 := cell_keep hb2 m1
     have q0 := cell_keep hb2 q0
     have q1 := cell_keep hb2 q1
     have q2 := cell_keep hb2 q2
     have q3 := cell_keep hb2 q3
     have HB2 := Lib.hid (HBR.out.trans (hb2.mono hzr))
     have x4 := hcx.c4
     obtain ⟨x0, x1, x2, x3, -⟩ := hcx
     clear k1 e0 e1 e2 e3 e4 hb2
     by_cases hlow : c.low = 0
     ·have hn := rect_eql0 r
      have HLOW := Lib.hid hlow
      have HLQ := Lib.hid (decide_eq_true hlow)
      clear hlow
      by_cases hbl : 0 ≤ c.blank
      ·have hbl' : c.blank ≥ 0 := hbl
       have HF := Lib.hid (at_none (kerf := t.kerf) (ds := b.defects) (w := want) (show freeC (s.cuts.getD k wasteC) (s.r k) = false by rw [HC0.out]; unfold freeC; rw [decide_eq_false (by omega : ¬ c.blank < 0), Bool.and_false]; rfl))
       go_wp2_with (go_at_call 28; refine (leaf_is c _ HLQ.out).mono ?_; rintro e w4 ⟨rfl, hb4⟩; have HB4 := Lib.hid hb4; have x4' := cell_keep hb4 x4; have m1' := cell_keep hb4 m1; have q0' := cell_keep hb4 q0; have q1' := cell_keep hb4 q1; have q2' := cell_keep hb4 q2; have q3' := cell_keep hb4 q3; clear hb4 x4 m1 q0 q1 q2 q3)
       go_roundw
       case rel => exact ⟨k + 1, HLT.out.1, by have := HLT.out; go_num, Lib.hid (scan_no HLT.out.1 HP.out HF.out), HB2.out.trans (HB4.out.mono HB2.out.size)⟩
       case measure => have := HLT.out; simp [intOf]; omega
      ·have hbl' : ¬ c.blank ≥ 0 := hbl
       by_cases hzr0 : r = ⟨0, 0, 0, 0⟩
       ·have HF := Lib.hid (at_none (kerf := t.kerf) (ds := b.defects) (w := want) (show freeC (s.cuts.getD k wasteC) (s.r k) = false by rw [HC0.out, HR0.out]; unfold freeC; rw [decide_eq_false (show ¬ r ≠ ⟨0, 0, 0, 0⟩ from fun h => h hzr0), Bool.and_false]))
        go_wp2_with (go_at_call 28; refine (leaf_is c _ HLQ.out).mono ?_; rintro e w4 ⟨rfl, hb4⟩; have HB4 := Lib.hid hb4; have x4' := cell_keep hb4 x4; have m1' := cell_keep hb4 m1; have q0' := cell_keep hb4 q0; have q1' := cell_keep hb4 q1; have q2' := cell_keep hb4 q2; have q3' := cell_keep hb4 q3; clear hb4 x4 m1 q0 q1 q2 q3)
        go_roundw
        case rel => exact ⟨k + 1, HLT.out.1, by have := HLT.out; go_num, Lib.hid (scan_no HLT.out.1 HP.out HF.out), HB2.out.trans (HB4.out.mono HB2.out.size)⟩
        case measure => have := HLT.out; simp [intOf]; omega
       ·have HAT := Lib.hid (at_free (kerf := t.kerf) (ds := b.defects) (w := want) (show freeC (s.cuts.getD k wasteC) (s.r k) = true by rw [HC0.out, HR0.out]; unfold freeC; rw [decide_eq_true HLOW.out, decide_eq_true (by omega : c.blank < 0), decide_eq_true hzr0]; rfl))
        have hpr : proper (s.r k) := by
         rcases hgd.get (k := k) hlt2 with h | h
         ·rw [HR0.out] at h; exact absurd h hzr0
         ·exact h
        cases hoff : offset t.kerf b.defects (s.r k) want with
        | none =>
         have HF := Lib.hid (HAT.out.trans hoff)
         have HQ := Lib.hid (show offV (offset t.kerf b.defects (s.r k) want) = -1 by rw [hoff]; rfl)
         clear hoff
         go_wp2_with (first
          | (go_at_call 28; refine (leaf_is c _ HLQ.out).mono ?_; rintro e w4 ⟨rfl, hb4⟩; have HB4 := Lib.hid hb4; have x4' := cell_keep hb4 x4; have m1' := cell_keep hb4 m1; have q0' := cell_keep hb4 q0; have q1' := cell_keep hb4 q1; have q2' := cell_keep hb4 q2; have q3' := cell_keep hb4 q3; clear hb4 x4 m1 q0 q1 q2 q3; obtain ⟨y0, y1, y2, y3, y4, y5⟩ := HCQ.out.keep (HB2.out.trans (HB4.out.mono HB2.out.size)))
          | (go_at_call 106; have hb14 := HB2.out.trans (HB4.out.mono HB2.out.size); have hcw4 := HCQ.out.keep hb14; refine (boffset_is x base L i s _ k b ad cd t want _ HQ.out (HDQ.out.keep hb14) hA hst1 (hv.keep (HWQ.out.trans (hb14.mono (by omega)))) hdf (by omega) hl2 HLT.out.1 hpr hkf hw).mono ?_; rintro e w5 ⟨rfl, hb5⟩; have HB5 := Lib.hid (hb14.trans (hb5.mono hb14.size)); clear hb5 hb14 hcw4))
         go_roundw
         case rel => exact ⟨k + 1, HLT.out.1, by have := HLT.out; go_num, Lib.hid (scan_no HLT.out.1 HP.out HF.out), HB5.out⟩
         case measure => have := HLT.out; simp [intOf]; omega
        | some o =>
         have HF := Lib.hid (HAT.out.trans hoff)
         have HQ := Lib.hid (show offV (offset t.kerf b.defects (s.r k) want) = o by rw [hoff]; rfl)
         have hos := offset_some hoff
         have ho := starts_mem hkf.1 hos.1
         have HO := Lib.hid ho
         have HYES := Lib.hid (scan_yes HLT.out.1 HP.out HF.out)
         have HGP := Lib.hid (at_some hgd HLT.out.1 hkf.1 (by omega) HF.out)
         have HFP := Lib.hid (free_at hlf HLT.out.1 HF.out)
         clear hoff hos
         have ho0 : ¬ o < 0 := by omega
         go_upto_region 11 with (first
          | (go_at_call 28; refine (leaf_is c _ HLQ.out).mono ?_; rintro e w4 ⟨rfl, hb4⟩; have HB4 := Lib.hid hb4; have x4' := cell_keep hb4 x4; have m1' := cell_keep hb4 m1; have q0' := cell_keep hb4 q0; have q1' := cell_keep hb4 q1; have q2' := cell_keep hb4 q2; have q3' := cell_keep hb4 q3; clear hb4 x4 m1 q0 q1 q2 q3; obtain ⟨y0, y1, y2, y3, y4, y5⟩ := HCQ.out.keep (HB2.out.trans (HB4.out.mono HB2.out.size)))
          | (go_at_call 106; have hb14 := HB2.out.trans (HB4.out.mono HB2.out.size); have hcw4 := HCQ.out.keep hb14; refine (boffset_is x base L i s _ k b ad cd t want _ HQ.out (HDQ.out.keep hb14) hA hst1 (hv.keep (HWQ.out.trans (hb14.mono (by omega)))) hdf (by omega) hl2 HLT.out.1 hpr hkf hw).mono ?_; rintro e w5 ⟨rfl, hb5⟩; have HB5 := Lib.hid (hb14.trans (hb5.mono hb14.size)); clear hb5 hb14 hcw4))
         refine gen_world (fun W5 => Desk W5 base L (plusSt St w.heap.size want) ∧ Below base w W5) ?_ ?_
         ·exact ⟨HDQ.out.keep HB5.out, HHB.out.trans (HB5.out.mono (by have := HZ1.out; have := hsz.1; omega))⟩
         rintro W5 ⟨hD5, hbb5⟩
         have HD5 := Lib.hid hD5
         have HBB5 := Lib.hid hbb5
         have k8 := hD5.cell (hst1 8 _ rfl)
         clear hD5 hbb5 HB5 x4' m1' q0' q1' q2' q3' y0 y1 y2 y3 y4 y5 x0 x1 x2 x3
         have HPB := Lib.hid hpr
         have HSTEP : Hid (s.put t.kerf b want number = some (BS.mark (BS.cut3 (BS.cut2 (s.cut1 t.kerf k o) t.kerf want) t.kerf want) number)) := Lib.hid HYES.out
         have hgb := HGP.out
         have HG1 := Lib.hid (good_cut1 hgb.1 hkf.1 HO.out (by omega))
         have HF1 := Lib.hid (free_cut1 (kerf := t.kerf) (o := o) HFP.out)
         have HL1 := Lib.hid (len_cut1 (s := s) (kerf := t.kerf) (o := o) (region := k))
         have hoo : 0 ≤ o ∧ o ≤ 600000 ∧ (0 < o → t.kerf < o) := by
          have h2 := hgb.2.2
          have h3 := hpr
          unfold proper at h3
          omega
         clear hgb HYES
         by_cases hop : 0 < o
         ·have hop' : o > 0 := hop
          have hkk := hoo.2.2 hop
          have v1 : IntKind.i64.wrap (o - t.kerf) = o - t.kerf := IntWalk.i64_in _ (by omega)
          have hob : 0 ≤ o - t.kerf ∧ o - t.kerf ≤ 600000 := by omega
          have HP1 := Lib.hid (cut1_pos (s := s) (kerf := t.kerf) (region := k) hop)
          go_upto_region 13 with (go_at_call 107; refine (bcut_any x base L i s _ k true (o - t.kerf) t.kerf _ HD5.out hA (hst1 8 _ rfl) (by omega) hl2 HLT.out.1 (.inr HPB.out) hob hkf).mono ?_; rintro e w6 ⟨rfl, hD6, hb6⟩; have HD6 := Lib.hid hD6; have HB6 := Lib.hid hb6; clear hD6 hb6)
          obtain ⟨a1, ha1⟩ : ∃ a1 : Nat, a1 = s.cuts.length + 1 := ⟨_, rfl⟩
          have hai : ((s.cuts.length : Int) + 1) = (a1 : Int) := by omega
          rw [hai]
          rw [HP1.out, ← ha1] at HG1 HF1 HL1 HSTEP
          refine gen_world (fun W6 => Desk W6 base (setB L i ⟨x, 11, none⟩ ⟨x, 12, none⟩ (s.cut t.kerf k true (o - t.kerf))) (plusSt St w.heap.size want) ∧ Below base w W6) ?_ ?_
          ·exact ⟨HD6.out, HBB5.out.trans HB6.out⟩
          clear hai ha1 HP1 v1 hob hop hop' hkk k8 HD6 HB6 HD5 HBB5 hoo
          generalize s.cut t.kerf k true (o - t.kerf) = s1 at *
          rintro W6 ⟨hD6, hbb6⟩
          have HD6 := Lib.hid hD6
          have HBB6 := Lib.hid hbb6
          clear hD6 hbb6
          have hA1 := hA.set s1
          have hg1 := HG1.out
          have hlen1 : s1.rects.length = s1.cuts.length := hg1.len
          have hlt1 : a1 < s1.cuts.length := hg1.lt
          have hll1 : s1.cuts.length ≤ 80000 + 2 := by have := HL1.out; have := HLT.out; (try simp only at *); omega
          have hpr1 : proper (s1.r a1) := hg1.pr
          have hlr1 : a1 < s1.rects.length := by omega
          obtain ⟨g, cap, m1, -, m3, m4, m5, m6, m7⟩ := HD6.out.rowR hA1 (by rintro h; rw [h] at hlr1; simp at hlr1)
          have hr0 : s1.r a1 = s1.rects[a1] := by unfold BS.r; rw [List.getD_eq_getElem?_getD, List.getElem?_eq_getElem hlr1]; rfl
          have q0 := (m7 a1 hlr1 0 (by decide)).1
          have q1 := (m7 a1 hlr1 1 (by decide)).1
          have q2 := (m7 a1 hlr1 2 (by decide)).1
          have q3 := (m7 a1 hlr1 3 (by decide)).1
          rw [← hr0] at q0 q1 q2 q3
          clear m7 hr0 m3 m4 m5 m6
          have HPR1 := Lib.hid hpr1
          obtain ⟨r1, hrr⟩ : ∃ r, r = s1.r a1 := ⟨_, rfl⟩
          rw [← hrr] at q0 q1 q2 q3 hpr1
          have HRR1 := Lib.hid hrr
          clear hrr
          simp only [cellsR, List.getElem?_cons_zero, List.getElem?_cons_succ, Nat.add_zero] at q0 q1 q2 q3
          unfold proper at hpr1
          have hki1 : (a1 : Int) < (s1.rects.length : Int) := by omega
          have hzw : base ≤ W6.heap.size := (HD6.out.size hA1).1
          go_upto_region 14 with fail
          refine gen_world (fun W7 => BoxR W7 W6.heap.size r1 ∧ Below W6.heap.size W6 W7) ?_ ?_
          ·refine ⟨⟨by simp [go_sem], by simp [go_sem], by simp [go_sem], by simp [go_sem], by simp [go_sem], by simp [go_sem], by simp [go_sem], by simp [go_sem]⟩, ?_⟩
           repeat (first | (with_reducible exact Below.refl _ _) | (with_reducible refine Below.setCell ?_ (by simp) _) | (with_reducible refine Below.alloc ?_ (by simp) _))
          rintro W7 ⟨⟨z0, z1, z2, z3, -, -, -, -⟩, hb7⟩
          have HD7 := Lib.hid (HD6.out.keep hb7)
          have HBB7 := Lib.hid (HBB6.out.trans (hb7.mono hzw))
          obtain ⟨-, -, y2, y3, -, -⟩ := desk_want HD7.out
          clear q0 q1 q2 q3 m1 hb7 hzw
          have v1 : IntKind.i64.wrap (r1.x2 - r1.x1) = r1.x2 - r1.x1 := IntWalk.i64_in _ (by omega)
          by_cases hc1 : want.length < r1.x2 - r1.x1
          ·have hcg : r1.x2 - r1.x1 > want.length := hc1
           have hwb : 0 ≤ want.length ∧ want.length ≤ 600000 := by omega
           have HE := Lib.hid (cut2_yes (s := s1) (a := a1) (kerf := t.kerf) (w := want) (by rw [← HRR1.out]; exact hc1))
           have HG2 := Lib.hid (good_cut2 (s := (s1, a1)) (w := want) HG1.out hkf.1 (by omega))
           have HF2 := Lib.hid (free_cut2 (s := (s1, a1)) (kerf := t.kerf) (w := want) HF1.out)
           have HL2 := Lib.hid (len_cut2 (s := (s1, a1)) (kerf := t.kerf) (w := want))
           rw [HE.out] at HG2 HF2 HL2 HSTEP
           go_upto_region 16 with (go_at_call 107; refine (bcut_any x base _ i s1 _ a1 true want.length t.kerf _ HD7.out hA1 (hst1 8 _ rfl) (by omega) hlen1 hlt1 (.inr HPR1.out) hwb hkf).mono ?_; rintro e w8 ⟨rfl, hD8, hb8⟩; have HD8 := Lib.hid hD8; have HB8 := Lib.hid hb8; clear hD8 hb8)
           refine gen_world (fun W8 => Desk W8 base (setB L i ⟨x, 11, none⟩ ⟨x, 12, none⟩ (s1.cut t.kerf a1 true want.length)) (plusSt St w.heap.size want) ∧ Below base w W8) ?_ ?_
           ·have h8 := HD8.out
            rw [setB_setB] at h8
            exact ⟨h8, HBB7.out.trans HB8.out⟩
           clear HD6 HBB6 HE HD8 HB8 HD7 HBB7 z0 z1 z2 z3 y2 y3 hcg hwb v1 hki1 HPR1 HRR1 hg1 HG1 HF1
           obtain ⟨a2, ha2⟩ : ∃ a, a = s1.cuts.length := ⟨_, rfl⟩
           rw [← ha2] at HG2 HF2 HL2 HSTEP ⊢
           have HL2 := Lib.hid (show (s1.cut t.kerf a1 true want.length).cuts.length ≤ 80000 + 4 by have := HL2.out; (try simp only at this); omega)
           clear ha2
           generalize s1.cut t.kerf a1 true want.length = s2 at *
           rintro W8 ⟨hD6, hbb6⟩
           have HD6 := Lib.hid hD6
           have HBB6 := Lib.hid hbb6
           clear hD6 hbb6
           generalize W8 = W6 at *
           have hA2 := hA.set s2
           have hg2 := HG2.out
           have hlen2 : s2.rects.length = s2.cuts.length := hg2.len
           have hlt2 : a2 < s2.cuts.length := hg2.lt
           have hll2 : s2.cuts.length ≤ 80000 + 4 := by have := HL2.out; have := HLT.out; (try simp only at *); omega
           have hpr2 : proper (s2.r a2) := hg2.pr
           have hlr2 : a2 < s2.rects.length := by omega
           obtain ⟨g, cap, m1, -, m3, m4, m5, m6, m7⟩ := HD6.out.rowR hA2 (by rintro h; rw [h] at hlr2; simp at hlr2)
           have hr0 : s2.r a2 = s2.rects[a2] := by unfold BS.r; rw [List.getD_eq_getElem?_getD, List.getElem?_eq_getElem hlr2]; rfl
           have q0 := (m7 a2 hlr2 0 (by decide)).1
           have q1 := (m7 a2 hlr2 1 (by decide)).1
           have q2 := (m7 a2 hlr2 2 (by decide)).1
           have q3 := (m7 a2 hlr2 3 (by decide)).1
           rw [← hr0] at q0 q1 q2 q3
           clear m7 hr0 m3 m4 m5 m6
           have HPR2 := Lib.hid hpr2
           obtain ⟨r2, hrr⟩ : ∃ r, r = s2.r a2 := ⟨_, rfl⟩
           rw [← hrr] at q0 q1 q2 q3 hpr2
           have HRR2 := Lib.hid hrr
           clear hrr
           simp only [cellsR, List.getElem?_cons_zero, List.getElem?_cons_succ, Nat.add_zero] at q0 q1 q2 q3
           unfold proper at hpr2
           have hki2 : (a2 : Int) < (s2.rects.length : Int) := by omega
           have hzw : base ≤ W6.heap.size := (HD6.out.size hA2).1
           go_upto_region 17 with fail
           refine gen_world (fun W7 => BoxR W7 W6.heap.size r2 ∧ Below W6.heap.size W6 W7) ?_ ?_
           ·refine ⟨⟨by simp [go_sem], by simp [go_sem], by simp [go_sem], by simp [go_sem], by simp [go_sem], by simp [go_sem], by simp [go_sem], by simp [go_sem]⟩, ?_⟩
            repeat (first | (with_reducible exact Below.refl _ _) | (with_reducible refine Below.setCell ?_ (by simp) _) | (with_reducible refine Below.alloc ?_ (by simp) _))
           rintro W7 ⟨⟨z0, z1, z2, z3, -, -, -, -⟩, hb7⟩
           have HD7 := Lib.hid (HD6.out.keep hb7)
           have HBB7 := Lib.hid (HBB6.out.trans (hb7.mono hzw))
           obtain ⟨-, -, y2, y3, -, -⟩ := desk_want HD7.out
           clear q0 q1 q2 q3 m1 hb7 hzw
           have v2 : IntKind.i64.wrap (r2.y2 - r2.y1) = r2.y2 - r2.y1 := IntWalk.i64_in _ (by omega)
           by_cases hc2 : want.width < r2.y2 - r2.y1
           ·have hcg : r2.y2 - r2.y1 > want.width := hc2
            have hwb : 0 ≤ want.width ∧ want.width ≤ 600000 := by omega
            have HE := Lib.hid (cut3_yes (s := s2) (a := a2) (kerf := t.kerf) (w := want) (by rw [← HRR2.out]; exact hc2))
            have HG3 := Lib.hid (good_cut3 (s := (s2, a2)) (w := want) HG2.out hkf.1 (by omega))
            have HF3 := Lib.hid (free_cut3 (s := (s2, a2)) (kerf := t.kerf) (w := want) HF2.out)
            have HL3 := Lib.hid (len_cut3 (s := (s2, a2)) (kerf := t.kerf) (w := want))
            rw [HE.out] at HG3 HF3 HL3 HSTEP
            go_upto_region 19 with (go_at_call 107; refine (bcut_any x base _ i s2 _ a2 false want.width t.kerf _ HD7.out hA2 (hst1 8 _ rfl) (by omega) hlen2 hlt2 (.inr HPR2.out) hwb hkf).mono ?_; rintro e w8 ⟨rfl, hD8, hb8⟩; have HD8 := Lib.hid hD8; have HB8 := Lib.hid hb8; clear hD8 hb8)
            refine gen_world (fun W8 => Desk W8 base (setB L i ⟨x, 11, none⟩ ⟨x, 12, none⟩ (s2.cut t.kerf a2 false want.width)) (plusSt St w.heap.size want) ∧ Below base w W8) ?_ ?_
            ·have h8 := HD8.out
             rw [setB_setB] at h8
             exact ⟨h8, HBB7.out.trans HB8.out⟩
            clear HD6 HBB6 HE HD8 HB8 HD7 HBB7 z0 z1 z2 z3 y2 y3 hcg hwb v2 hki2 HPR2 HRR2 hg2 HG2 HF2
            obtain ⟨a3, ha3⟩ : ∃ a, a = s2.cuts.length := ⟨_, rfl⟩
            rw [← ha3] at HG3 HF3 HL3 HSTEP ⊢
            have HL3 := Lib.hid (show (s2.cut t.kerf a2 false want.width).cuts.length ≤ 80000 + 6 by have := HL3.out; (try simp only at this); omega)
            clear ha3
            generalize s2.cut t.kerf a2 false want.width = s3 at *
            rintro W8 ⟨hD6, hbb6⟩
            have HD6 := Lib.hid hD6
            have HBB6 := Lib.hid hbb6
            clear hD6 hbb6
            generalize W8 = W6 at *
            have hA3 := hA.set s3
            have hfr := HF3.out
            have hlt3 : a3 < s3.cuts.length := hfr.lt
            have hll3 := HL3.out
            obtain ⟨g, cap, m1, -, m3, m4, m5, m6, m7⟩ := HD6.out.rowC hA3 (by rintro h; rw [h] at hlt3; simp at hlt3)
            have q4 := m7 a3 hlt3 4 (by decide)
            have HS := Lib.hid (desk_plain (Desk.setBlank HD6.out hA3 hlt3 m1 number))
            have HM := Lib.hid (mark_eq (number := number) HF3.out)
            generalize s3.cuts[a3] = cc at *
            simp only [cellsC, List.getElem?_cons_zero, List.getElem?_cons_succ] at q4
            obtain ⟨q4, q5⟩ := q4
            have hki3 : (a3 : Int) < (s3.cuts.length : Int) := by omega
            have HGB := Lib.hid m3
            clear m7 m3 m4 m5 m6 hfr
            go_wp2_with fail
            go_ret
            refine PutPost.yes HSTEP.out ?_ (HBB6.out.setCell (by simpa using HGB.out) _)
            have hs := HS.out
            rw [setB_setB] at hs
            rw [← HM.out]
            exact hs
           ·have hcg : ¬ r2.y2 - r2.y1 > want.width := hc2
            have HE := Lib.hid (cut3_no (s := s2) (a := a2) (kerf := t.kerf) (w := want) (by rw [← HRR2.out]; exact hc2))
            rw [HE.out] at HSTEP
            have HG3 := HG2
            have HF3 := HF2
            have HL3 := Lib.hid (show s2.cuts.length ≤ 80000 + 6 by omega)
            go_upto_region 19 with fail
            clear HD6 HBB6 HE z0 z1 z2 z3 y2 y3 hcg v2 hki2 HPR2 HRR2 hg2 HG2 HF2
            have HD6 := HD7
            have HBB6 := HBB7
            clear HD7 HBB7
            generalize W7 = W6 at *
            obtain ⟨s3, hs3⟩ : ∃ s, s = s2 := ⟨_, rfl⟩
            obtain ⟨a3, ha3⟩ : ∃ a, a = a2 := ⟨_, rfl⟩
            rw [← hs3, ← ha3] at HG3 HF3 HSTEP
            rw [← hs3] at HL3 HD6
            rw [← ha3]
            clear hs3 ha3
            have hA3 := hA.set s3
            have hfr := HF3.out
            have hlt3 : a3 < s3.cuts.length := hfr.lt
            have hll3 := HL3.out
            obtain ⟨g, cap, m1, -, m3, m4, m5, m6, m7⟩ := HD6.out.rowC hA3 (by rintro h; rw [h] at hlt3; simp at hlt3)
            have q4 := m7 a3 hlt3 4 (by decide)
            have HS := Lib.hid (desk_plain (Desk.setBlank HD6.out hA3 hlt3 m1 number))
            have HM := Lib.hid (mark_eq (number := number) HF3.out)
            generalize s3.cuts[a3] = cc at *
            simp only [cellsC, List.getElem?_cons_zero, List.getElem?_cons_succ] at q4
            obtain ⟨q4, q5⟩ := q4
            have hki3 : (a3 : Int) < (s3.cuts.length : Int) := by omega
            have HGB := Lib.hid m3
            clear m7 m3 m4 m5 m6 hfr
            go_wp2_with fail
            go_ret
            refine PutPost.yes HSTEP.out ?_ (HBB6.out.setCell (by simpa using HGB.out) _)
            have hs := HS.out
            rw [setB_setB] at hs
            rw [← HM.out]
            exact hs
          ·have hcg : ¬ r1.x2 - r1.x1 > want.length := hc1
           have HE := Lib.hid (cut2_no (s := s1) (a := a1) (kerf := t.kerf) (w := want) (by rw [← HRR1.out]; exact hc1))
           rw [HE.out] at HSTEP
           have HG2 := HG1
           have HF2 := HF1
           have HL2 := Lib.hid (show s1.cuts.length ≤ 80000 + 4 by omega)
           go_upto_region 16 with fail
           clear HD6 HBB6 HE z0 z1 z2 z3 y2 y3 hcg v1 hki1 HPR1 HRR1 hg1 HG1 HF1
           have HD6 := HD7
           have HBB6 := HBB7
           clear HD7 HBB7
           generalize W7 = W6 at *
           obtain ⟨s2, hs2⟩ : ∃ s, s = s1 := ⟨_, rfl⟩
           obtain ⟨a2, ha2⟩ : ∃ a, a = a1 := ⟨_, rfl⟩
           rw [← hs2, ← ha2] at HG2 HF2 HSTEP
           rw [← hs2] at HL2 HD6
           rw [← ha2]
           clear hs2 ha2
           have hA2 := hA.set s2
           have hg2 := HG2.out
           have hlen2 : s2.rects.length = s2.cuts.length := hg2.len
           have hlt2 : a2 < s2.cuts.length := hg2.lt
           have hll2 : s2.cuts.length ≤ 80000 + 4 := by have := HL2.out; have := HLT.out; (try simp only at *); omega
           have hpr2 : proper (s2.r a2) := hg2.pr
           have hlr2 : a2 < s2.rects.length := by omega
           obtain ⟨g, cap, m1, -, m3, m4, m5, m6, m7⟩ := HD6.out.rowR hA2 (by rintro h; rw [h] at hlr2; simp at hlr2)
           have hr0 : s2.r a2 = s2.rects[a2] := by unfold BS.r; rw [List.getD_eq_getElem?_getD, List.getElem?_eq_getElem hlr2]; rfl
           have q0 := (m7 a2 hlr2 0 (by decide)).1
           have q1 := (m7 a2 hlr2 1 (by decide)).1
           have q2 := (m7 a2 hlr2 2 (by decide)).1
           have q3 := (m7 a2 hlr2 3 (by decide)).1
           rw [← hr0] at q0 q1 q2 q3
           clear m7 hr0 m3 m4 m5 m6
           have HPR2 := Lib.hid hpr2
           obtain ⟨r2, hrr⟩ : ∃ r, r = s2.r a2 := ⟨_, rfl⟩
           rw [← hrr] at q0 q1 q2 q3 hpr2
           have HRR2 := Lib.hid hrr
           clear hrr
           simp only [cellsR, List.getElem?_cons_zero, List.getElem?_cons_succ, Nat.add_zero] at q0 q1 q2 q3
           unfold proper at hpr2
           have hki2 : (a2 : Int) < (s2.rects.length : Int) := by omega
           have hzw : base ≤ W6.heap.size := (HD6.out.size hA2).1
           go_upto_region 17 with fail
           refine gen_world (fun W7 => BoxR W7 W6.heap.size r2 ∧ Below W6.heap.size W6 W7) ?_ ?_
           ·refine ⟨⟨by simp [go_sem], by simp [go_sem], by simp [go_sem], by simp [go_sem], by simp [go_sem], by simp [go_sem], by simp [go_sem], by simp [go_sem]⟩, ?_⟩
            repeat (first | (with_reducible exact Below.refl _ _) | (with_reducible refine Below.setCell ?_ (by simp) _) | (with_reducible refine Below.alloc ?_ (by simp) _))
           rintro W7 ⟨⟨z0, z1, z2, z3, -, -, -, -⟩, hb7⟩
           have HD7 := Lib.hid (HD6.out.keep hb7)
           have HBB7 := Lib.hid (HBB6.out.trans (hb7.mono hzw))
           obtain ⟨-, -, y2, y3, -, -⟩ := desk_want HD7.out
           clear q0 q1 q2 q3 m1 hb7 hzw
           have v2 : IntKind.i64.wrap (r2.y2 - r2.y1) = r2.y2 - r2.y1 := IntWalk.i64_in _ (by omega)
           by_cases hc2 : want.width < r2.y2 - r2.y1
           ·have hcg : r2.y2 - r2.y1 > want.width := hc2
            have hwb : 0 ≤ want.width ∧ want.width ≤ 600000 := by omega
            have HE := Lib.hid (cut3_yes (s := s2) (a := a2) (kerf := t.kerf) (w := want) (by rw [← HRR2.out]; exact hc2))
            have HG3 := Lib.hid (good_cut3 (s := (s2, a2)) (w := want) HG2.out hkf.1 (by omega))
            have HF3 := Lib.hid (free_cut3 (s := (s2, a2)) (kerf := t.kerf) (w := want) HF2.out)
            have HL3 := Lib.hid (len_cut3 (s := (s2, a2)) (kerf := t.kerf) (w := want))
            rw [HE.out] at HG3 HF3 HL3 HSTEP
            go_upto_region 19 with (go_at_call 107; refine (bcut_any x base _ i s2 _ a2 false want.width t.kerf _ HD7.out hA2 (hst1 8 _ rfl) (by omega) hlen2 hlt2 (.inr HPR2.out) hwb hkf).mono ?_; rintro e w8 ⟨rfl, hD8, hb8⟩; have HD8 := Lib.hid hD8; have HB8 := Lib.hid hb8; clear hD8 hb8)
            refine gen_world (fun W8 => Desk W8 base (setB L i ⟨x, 11, none⟩ ⟨x, 12, none⟩ (s2.cut t.kerf a2 false want.width)) (plusSt St w.heap.size want) ∧ Below base w W8) ?_ ?_
            ·have h8 := HD8.out
             rw [setB_setB] at h8
             exact ⟨h8, HBB7.out.trans HB8.out⟩
            clear HD6 HBB6 HE HD8 HB8 HD7 HBB7 z0 z1 z2 z3 y2 y3 hcg hwb v2 hki2 HPR2 HRR2 hg2 HG2 HF2
            obtain ⟨a3, ha3⟩ : ∃ a, a = s2.cuts.length := ⟨_, rfl⟩
            rw [← ha3] at HG3 HF3 HL3 HSTEP ⊢
            have HL3 := Lib.hid (show (s2.cut t.kerf a2 false want.width).cuts.length ≤ 80000 + 6 by have := HL3.out; (try simp only at this); omega)
            clear ha3
            generalize s2.cut t.kerf a2 false want.width = s3 at *
            rintro W8 ⟨hD6, hbb6⟩
            have HD6 := Lib.hid hD6
            have HBB6 := Lib.hid hbb6
            clear hD6 hbb6
            generalize W8 = W6 at *
            have hA3 := hA.set s3
            have hfr := HF3.out
            have hlt3 : a3 < s3.cuts.length := hfr.lt
            have hll3 := HL3.out
            obtain ⟨g, cap, m1, -, m3, m4, m5, m6, m7⟩ := HD6.out.rowC hA3 (by rintro h; rw [h] at hlt3; simp at hlt3)
            have q4 := m7 a3 hlt3 4 (by decide)
            have HS := Lib.hid (desk_plain (Desk.setBlank HD6.out hA3 hlt3 m1 number))
            have HM := Lib.hid (mark_eq (number := number) HF3.out)
            generalize s3.cuts[a3] = cc at *
            simp only [cellsC, List.getElem?_cons_zero, List.getElem?_cons_succ] at q4
            obtain ⟨q4, q5⟩ := q4
            have hki3 : (a3 : Int) < (s3.cuts.length : Int) := by omega
            have HGB := Lib.hid m3
            clear m7 m3 m4 m5 m6 hfr
            go_wp2_with fail
            go_ret
            refine PutPost.yes HSTEP.out ?_ (HBB6.out.setCell (by simpa using HGB.out) _)
            have hs := HS.out
            rw [setB_setB] at hs
            rw [← HM.out]
            exact hs
           ·have hcg : ¬ r2.y2 - r2.y1 > want.width := hc2
            have HE := Lib.hid (cut3_no (s := s2) (a := a2) (kerf := t.kerf) (w := want) (by rw [← HRR2.out]; exact hc2))
            rw [HE.out] at HSTEP
            have HG3 := HG2
            have HF3 := HF2
            have HL3 := Lib.hid (show s2.cuts.length ≤ 80000 + 6 by omega)
            go_upto_region 19 with fail
            clear HD6 HBB6 HE z0 z1 z2 z3 y2 y3 hcg v2 hki2 HPR2 HRR2 hg2 HG2 HF2
            have HD6 := HD7
            have HBB6 := HBB7
            clear HD7 HBB7
            generalize W7 = W6 at *
            obtain ⟨s3, hs3⟩ : ∃ s, s = s2 := ⟨_, rfl⟩
            obtain ⟨a3, ha3⟩ : ∃ a, a = a2 := ⟨_, rfl⟩
            rw [← hs3, ← ha3] at HG3 HF3 HSTEP
            rw [← hs3] at HL3 HD6
            rw [← ha3]
            clear hs3 ha3
            have hA3 := hA.set s3
            have hfr := HF3.out
            have hlt3 : a3 < s3.cuts.length := hfr.lt
            have hll3 := HL3.out
            obtain ⟨g, cap, m1, -, m3, m4, m5, m6, m7⟩ := HD6.out.rowC hA3 (by rintro h; rw [h] at hlt3; simp at hlt3)
            have q4 := m7 a3 hlt3 4 (by decide)
            have HS := Lib.hid (desk_plain (Desk.setBlank HD6.out hA3 hlt3 m1 number))
            have HM := Lib.hid (mark_eq (number := number) HF3.out)
            generalize s3.cuts[a3] = cc at *
            simp only [cellsC, List.getElem?_cons_zero, List.getElem?_cons_succ] at q4
            obtain ⟨q4, q5⟩ := q4
            have hki3 : (a3 : Int) < (s3.cuts.length : Int) := by omega
            have HGB := Lib.hid m3
            clear m7 m3 m4 m5 m6 hfr
            go_wp2_with fail
            go_ret
            refine PutPost.yes HSTEP.out ?_ (HBB6.out.setCell (by simpa using HGB.out) _)
            have hs := HS.out
            rw [setB_setB] at hs
            rw [← HM.out]
            exact hs
         ·have hop' : ¬ o > 0 := hop
          have HP1 := Lib.hid (cut1_zero (s := s) (kerf := t.kerf) (region := k) hop)
          go_upto_region 13 with fail
          obtain ⟨q1, hq1⟩ : ∃ q : BS × Nat, q = (s, k) := ⟨_, rfl⟩
          rw [HP1.out, ← hq1] at HG1 HF1 HL1 HSTEP
          obtain ⟨s1, a1⟩ := q1
          obtain ⟨hs1, ha1⟩ : s1 = s ∧ a1 = k := by simpa using hq1
          clear hq1
          have HD6 := HD5.out
          rw [← setB_same hA] at HD6
          have HD6 := Lib.hid HD6
          have HBB6 := Lib.hid HBB5.out
          clear HP1 hop hop' k8 HD5 HBB5 hoo
          generalize W5 = W6 at *
          rw [show setB L i ⟨x, 11, none⟩ ⟨x, 12, none⟩ s = setB L i ⟨x, 11, none⟩ ⟨x, 12, none⟩ s1 by rw [hs1]] at HD6
          rw [← ha1]
          clear hs1 ha1
          have hA1 := hA.set s1
          have hg1 := HG1.out
          have hlen1 : s1.rects.length = s1.cuts.length := hg1.len
          have hlt1 : a1 < s1.cuts.length := hg1.lt
          have hll1 : s1.cuts.length ≤ 80000 + 2 := by have := HL1.out; have := HLT.out; (try simp only at *); omega
          have hpr1 : proper (s1.r a1) := hg1.pr
          have hlr1 : a1 < s1.rects.length := by omega
          obtain ⟨g, cap, m1, -, m3, m4, m5, m6, m7⟩ := HD6.out.rowR hA1 (by rintro h; rw [h] at hlr1; simp at hlr1)
          have hr0 : s1.r a1 = s1.rects[a1] := by unfold BS.r; rw [List.getD_eq_getElem?_getD, List.getElem?_eq_getElem hlr1]; rfl
          have q0 := (m7 a1 hlr1 0 (by decide)).1
          have q1 := (m7 a1 hlr1 1 (by decide)).1
          have q2 := (m7 a1 hlr1 2 (by decide)).1
          have q3 := (m7 a1 hlr1 3 (by decide)).1
          rw [← hr0] at q0 q1 q2 q3
          clear m7 hr0 m3 m4 m5 m6
          have HPR1 := Lib.hid hpr1
          obtain ⟨r1, hrr⟩ : ∃ r, r = s1.r a1 := ⟨_, rfl⟩
          rw [← hrr] at q0 q1 q2 q3 hpr1
          have HRR1 := Lib.hid hrr
          clear hrr
          simp only [cellsR, List.getElem?_cons_zero, List.getElem?_cons_succ, Nat.add_zero] at q0 q1 q2 q3
          unfold proper at hpr1
          have hki1 : (a1 : Int) < (s1.rects.length : Int) := by omega
          have hzw : base ≤ W6.heap.size := (HD6.out.size hA1).1
          go_upto_region 14 with fail
          refine gen_world (fun W7 => BoxR W7 W6.heap.size r1 ∧ Below W6.heap.size W6 W7) ?_ ?_
          ·refine ⟨⟨by simp [go_sem], by simp [go_sem], by simp [go_sem], by simp [go_sem], by simp [go_sem], by simp [go_sem], by simp [go_sem], by simp [go_sem]⟩, ?_⟩
           repeat (first | (with_reducible exact Below.refl _ _) | (with_reducible refine Below.setCell ?_ (by simp) _) | (with_reducible refine Below.alloc ?_ (by simp) _))
          rintro W7 ⟨⟨z0, z1, z2, z3, -, -, -, -⟩, hb7⟩
          have HD7 := Lib.hid (HD6.out.keep hb7)
          have HBB7 := Lib.hid (HBB6.out.trans (hb7.mono hzw))
          obtain ⟨-, -, y2, y3, -, -⟩ := desk_want HD7.out
          clear q0 q1 q2 q3 m1 hb7 hzw
          have v1 : IntKind.i64.wrap (r1.x2 - r1.x1) = r1.x2 - r1.x1 := IntWalk.i64_in _ (by omega)
          by_cases hc1 : want.length < r1.x2 - r1.x1
          ·have hcg : r1.x2 - r1.x1 > want.length := hc1
           have hwb : 0 ≤ want.length ∧ want.length ≤ 600000 := by omega
           have HE := Lib.hid (cut2_yes (s := s1) (a := a1) (kerf := t.kerf) (w := want) (by rw [← HRR1.out]; exact hc1))
           have HG2 := Lib.hid (good_cut2 (s := (s1, a1)) (w := want) HG1.out hkf.1 (by omega))
           have HF2 := Lib.hid (free_cut2 (s := (s1, a1)) (kerf := t.kerf) (w := want) HF1.out)
           have HL2 := Lib.hid (len_cut2 (s := (s1, a1)) (kerf := t.kerf) (w := want))
           rw [HE.out] at HG2 HF2 HL2 HSTEP
           go_upto_region 16 with (go_at_call 107; refine (bcut_any x base _ i s1 _ a1 true want.length t.kerf _ HD7.out hA1 (hst1 8 _ rfl) (by omega) hlen1 hlt1 (.inr HPR1.out) hwb hkf).mono ?_; rintro e w8 ⟨rfl, hD8, hb8⟩; have HD8 := Lib.hid hD8; have HB8 := Lib.hid hb8; clear hD8 hb8)
           refine gen_world (fun W8 => Desk W8 base (setB L i ⟨x, 11, none⟩ ⟨x, 12, none⟩ (s1.cut t.kerf a1 true want.length)) (plusSt St w.heap.size want) ∧ Below base w W8) ?_ ?_
           ·have h8 := HD8.out
            rw [setB_setB] at h8
            exact ⟨h8, HBB7.out.trans HB8.out⟩
           clear HD6 HBB6 HE HD8 HB8 HD7 HBB7 z0 z1 z2 z3 y2 y3 hcg hwb v1 hki1 HPR1 HRR1 hg1 HG1 HF1
           obtain ⟨a2, ha2⟩ : ∃ a, a = s1.cuts.length := ⟨_, rfl⟩
           rw [← ha2] at HG2 HF2 HL2 HSTEP ⊢
           have HL2 := Lib.hid (show (s1.cut t.kerf a1 true want.length).cuts.length ≤ 80000 + 4 by have := HL2.out; (try simp only at this); omega)
           clear ha2
           generalize s1.cut t.kerf a1 true want.length = s2 at *
           rintro W8 ⟨hD6, hbb6⟩
           have HD6 := Lib.hid hD6
           have HBB6 := Lib.hid hbb6
           clear hD6 hbb6
           generalize W8 = W6 at *
           have hA2 := hA.set s2
           have hg2 := HG2.out
           have hlen2 : s2.rects.length = s2.cuts.length := hg2.len
           have hlt2 : a2 < s2.cuts.length := hg2.lt
           have hll2 : s2.cuts.length ≤ 80000 + 4 := by have := HL2.out; have := HLT.out; (try simp only at *); omega
           have hpr2 : proper (s2.r a2) := hg2.pr
           have hlr2 : a2 < s2.rects.length := by omega
           obtain ⟨g, cap, m1, -, m3, m4, m5, m6, m7⟩ := HD6.out.rowR hA2 (by rintro h; rw [h] at hlr2; simp at hlr2)
           have hr0 : s2.r a2 = s2.rects[a2] := by unfold BS.r; rw [List.getD_eq_getElem?_getD, List.getElem?_eq_getElem hlr2]; rfl
           have q0 := (m7 a2 hlr2 0 (by decide)).1
           have q1 := (m7 a2 hlr2 1 (by decide)).1
           have q2 := (m7 a2 hlr2 2 (by decide)).1
           have q3 := (m7 a2 hlr2 3 (by decide)).1
           rw [← hr0] at q0 q1 q2 q3
           clear m7 hr0 m3 m4 m5 m6
           have HPR2 := Lib.hid hpr2
           obtain ⟨r2, hrr⟩ : ∃ r, r = s2.r a2 := ⟨_, rfl⟩
           rw [← hrr] at q0 q1 q2 q3 hpr2
           have HRR2 := Lib.hid hrr
           clear hrr
           simp only [cellsR, List.getElem?_cons_zero, List.getElem?_cons_succ, Nat.add_zero] at q0 q1 q2 q3
           unfold proper at hpr2
           have hki2 : (a2 : Int) < (s2.rects.length : Int) := by omega
           have hzw : base ≤ W6.heap.size := (HD6.out.size hA2).1
           go_upto_region 17 with fail
           refine gen_world (fun W7 => BoxR W7 W6.heap.size r2 ∧ Below W6.heap.size W6 W7) ?_ ?_
           ·refine ⟨⟨by simp [go_sem], by simp [go_sem], by simp [go_sem], by simp [go_sem], by simp [go_sem], by simp [go_sem], by simp [go_sem], by simp [go_sem]⟩, ?_⟩
            repeat (first | (with_reducible exact Below.refl _ _) | (with_reducible refine Below.setCell ?_ (by simp) _) | (with_reducible refine Below.alloc ?_ (by simp) _))
           rintro W7 ⟨⟨z0, z1, z2, z3, -, -, -, -⟩, hb7⟩
           have HD7 := Lib.hid (HD6.out.keep hb7)
           have HBB7 := Lib.hid (HBB6.out.trans (hb7.mono hzw))
           obtain ⟨-, -, y2, y3, -, -⟩ := desk_want HD7.out
           clear q0 q1 q2 q3 m1 hb7 hzw
           have v2 : IntKind.i64.wrap (r2.y2 - r2.y1) = r2.y2 - r2.y1 := IntWalk.i64_in _ (by omega)
           by_cases hc2 : want.width < r2.y2 - r2.y1
           ·have hcg : r2.y2 - r2.y1 > want.width := hc2
            have hwb : 0 ≤ want.width ∧ want.width ≤ 600000 := by omega
            have HE := Lib.hid (cut3_yes (s := s2) (a := a2) (kerf := t.kerf) (w := want) (by rw [← HRR2.out]; exact hc2))
            have HG3 := Lib.hid (good_cut3 (s := (s2, a2)) (w := want) HG2.out hkf.1 (by omega))
            have HF3 := Lib.hid (free_cut3 (s := (s2, a2)) (kerf := t.kerf) (w := want) HF2.out)
            have HL3 := Lib.hid (len_cut3 (s := (s2, a2)) (kerf := t.kerf) (w := want))
            rw [HE.out] at HG3 HF3 HL3 HSTEP
            go_upto_region 19 with (go_at_call 107; refine (bcut_any x base _ i s2 _ a2 false want.width t.kerf _ HD7.out hA2 (hst1 8 _ rfl) (by omega) hlen2 hlt2 (.inr HPR2.out) hwb hkf).mono ?_; rintro e w8 ⟨rfl, hD8, hb8⟩; have HD8 := Lib.hid hD8; have HB8 := Lib.hid hb8; clear hD8 hb8)
            refine gen_world (fun W8 => Desk W8 base (setB L i ⟨x, 11, none⟩ ⟨x, 12, none⟩ (s2.cut t.kerf a2 false want.width)) (plusSt St w.heap.size want) ∧ Below base w W8) ?_ ?_
            ·have h8 := HD8.out
             rw [setB_setB] at h8
             exact ⟨h8, HBB7.out.trans HB8.out⟩
            clear HD6 HBB6 HE HD8 HB8 HD7 HBB7 z0 z1 z2 z3 y2 y3 hcg hwb v2 hki2 HPR2 HRR2 hg2 HG2 HF2
            obtain ⟨a3, ha3⟩ : ∃ a, a = s2.cuts.length := ⟨_, rfl⟩
            rw [← ha3] at HG3 HF3 HL3 HSTEP ⊢
            have HL3 := Lib.hid (show (s2.cut t.kerf a2 false want.width).cuts.length ≤ 80000 + 6 by have := HL3.out; (try simp only at this); omega)
            clear ha3
            generalize s2.cut t.kerf a2 false want.width = s3 at *
            rintro W8 ⟨hD6, hbb6⟩
            have HD6 := Lib.hid hD6
            have HBB6 := Lib.hid hbb6
            clear hD6 hbb6
            generalize W8 = W6 at *
            have hA3 := hA.set s3
            have hfr := HF3.out
            have hlt3 : a3 < s3.cuts.length := hfr.lt
            have hll3 := HL3.out
            obtain ⟨g, cap, m1, -, m3, m4, m5, m6, m7⟩ := HD6.out.rowC hA3 (by rintro h; rw [h] at hlt3; simp at hlt3)
            have q4 := m7 a3 hlt3 4 (by decide)
            have HS := Lib.hid (desk_plain (Desk.setBlank HD6.out hA3 hlt3 m1 number))
            have HM := Lib.hid (mark_eq (number := number) HF3.out)
            generalize s3.cuts[a3] = cc at *
            simp only [cellsC, List.getElem?_cons_zero, List.getElem?_cons_succ] at q4
            obtain ⟨q4, q5⟩ := q4
            have hki3 : (a3 : Int) < (s3.cuts.length : Int) := by omega
            have HGB := Lib.hid m3
            clear m7 m3 m4 m5 m6 hfr
            go_wp2_with fail
            go_ret
            refine PutPost.yes HSTEP.out ?_ (HBB6.out.setCell (by simpa using HGB.out) _)
            have hs := HS.out
            rw [setB_setB] at hs
            rw [← HM.out]
            exact hs
           ·have hcg : ¬ r2.y2 - r2.y1 > want.width := hc2
            have HE := Lib.hid (cut3_no (s := s2) (a := a2) (kerf := t.kerf) (w := want) (by rw [← HRR2.out]; exact hc2))
            rw [HE.out] at HSTEP
            have HG3 := HG2
            have HF3 := HF2
            have HL3 := Lib.hid (show s2.cuts.length ≤ 80000 + 6 by omega)
            go_upto_region 19 with fail
            clear HD6 HBB6 HE z0 z1 z2 z3 y2 y3 hcg v2 hki2 HPR2 HRR2 hg2 HG2 HF2
            have HD6 := HD7
            have HBB6 := HBB7
            clear HD7 HBB7
            generalize W7 = W6 at *
            obtain ⟨s3, hs3⟩ : ∃ s, s = s2 := ⟨_, rfl⟩
            obtain ⟨a3, ha3⟩ : ∃ a, a = a2 := ⟨_, rfl⟩
            rw [← hs3, ← ha3] at HG3 HF3 HSTEP
            rw [← hs3] at HL3 HD6
            rw [← ha3]
            clear hs3 ha3
            have hA3 := hA.set s3
            have hfr := HF3.out
            have hlt3 : a3 < s3.cuts.length := hfr.lt
            have hll3 := HL3.out
            obtain ⟨g, cap, m1, -, m3, m4, m5, m6, m7⟩ := HD6.out.rowC hA3 (by rintro h; rw [h] at hlt3; simp at hlt3)
            have q4 := m7 a3 hlt3 4 (by decide)
            have HS := Lib.hid (desk_plain (Desk.setBlank HD6.out hA3 hlt3 m1 number))
            have HM := Lib.hid (mark_eq (number := number) HF3.out)
            generalize s3.cuts[a3] = cc at *
            simp only [cellsC, List.getElem?_cons_zero, List.getElem?_cons_succ] at q4
            obtain ⟨q4, q5⟩ := q4
            have hki3 : (a3 : Int) < (s3.cuts.length : Int) := by omega
            have HGB := Lib.hid m3
            clear m7 m3 m4 m5 m6 hfr
            go_wp2_with fail
            go_ret
            refine PutPost.yes HSTEP.out ?_ (HBB6.out.setCell (by simpa using HGB.out) _)
            have hs := HS.out
            rw [setB_setB] at hs
            rw [← HM.out]
            exact hs
          ·have hcg : ¬ r1.x2 - r1.x1 > want.length := hc1
           have HE := Lib.hid (cut2_no (s := s1) (a := a1) (kerf := t.kerf) (w := want) (by rw [← HRR1.out]; exact hc1))
           rw [HE.out] at HSTEP
           have HG2 := HG1
           have HF2 := HF1
           have HL2 := Lib.hid (show s1.cuts.length ≤ 80000 + 4 by omega)
           go_upto_region 16 with fail
           clear HD6 HBB6 HE z0 z1 z2 z3 y2 y3 hcg v1 hki1 HPR1 HRR1 hg1 HG1 HF1
           have HD6 := HD7
           have HBB6 := HBB7
           clear HD7 HBB7
           generalize W7 = W6 at *
           obtain ⟨s2, hs2⟩ : ∃ s, s = s1 := ⟨_, rfl⟩
           obtain ⟨a2, ha2⟩ : ∃ a, a = a1 := ⟨_, rfl⟩
           rw [← hs2, ← ha2] at HG2 HF2 HSTEP
           rw [← hs2] at HL2 HD6
           rw [← ha2]
           clear hs2 ha2
           have hA2 := hA.set s2
           have hg2 := HG2.out
           have hlen2 : s2.rects.length = s2.cuts.length := hg2.len
           have hlt2 : a2 < s2.cuts.length := hg2.lt
           have hll2 : s2.cuts.length ≤ 80000 + 4 := by have := HL2.out; have := HLT.out; (try simp only at *); omega
           have hpr2 : proper (s2.r a2) := hg2.pr
           have hlr2 : a2 < s2.rects.length := by omega
           obtain ⟨g, cap, m1, -, m3, m4, m5, m6, m7⟩ := HD6.out.rowR hA2 (by rintro h; rw [h] at hlr2; simp at hlr2)
           have hr0 : s2.r a2 = s2.rects[a2] := by unfold BS.r; rw [List.getD_eq_getElem?_getD, List.getElem?_eq_getElem hlr2]; rfl
           have q0 := (m7 a2 hlr2 0 (by decide)).1
           have q1 := (m7 a2 hlr2 1 (by decide)).1
           have q2 := (m7 a2 hlr2 2 (by decide)).1
           have q3 := (m7 a2 hlr2 3 (by decide)).1
           rw [← hr0] at q0 q1 q2 q3
           clear m7 hr0 m3 m4 m5 m6
           have HPR2 := Lib.hid hpr2
           obtain ⟨r2, hrr⟩ : ∃ r, r = s2.r a2 := ⟨_, rfl⟩
           rw [← hrr] at q0 q1 q2 q3 hpr2
           have HRR2 := Lib.hid hrr
           clear hrr
           simp only [cellsR, List.getElem?_cons_zero, List.getElem?_cons_succ, Nat.add_zero] at q0 q1 q2 q3
           unfold proper at hpr2
           have hki2 : (a2 : Int) < (s2.rects.length : Int) := by omega
           have hzw : base ≤ W6.heap.size := (HD6.out.size hA2).1
           go_upto_region 17 with fail
           refine gen_world (fun W7 => BoxR W7 W6.heap.size r2 ∧ Below W6.heap.size W6 W7) ?_ ?_
           ·refine ⟨⟨by simp [go_sem], by simp [go_sem], by simp [go_sem], by simp [go_sem], by simp [go_sem], by simp [go_sem], by simp [go_sem], by simp [go_sem]⟩, ?_⟩
            repeat (first | (with_reducible exact Below.refl _ _) | (with_reducible refine Below.setCell ?_ (by simp) _) | (with_reducible refine Below.alloc ?_ (by simp) _))
           rintro W7 ⟨⟨z0, z1, z2, z3, -, -, -, -⟩, hb7⟩
           have HD7 := Lib.hid (HD6.out.keep hb7)
           have HBB7 := Lib.hid (HBB6.out.trans (hb7.mono hzw))
           obtain ⟨-, -, y2, y3, -, -⟩ := desk_want HD7.out
           clear q0 q1 q2 q3 m1 hb7 hzw
           have v2 : IntKind.i64.wrap (r2.y2 - r2.y1) = r2.y2 - r2.y1 := IntWalk.i64_in _ (by omega)
           by_cases hc2 : want.width < r2.y2 - r2.y1
           ·have hcg : r2.y2 - r2.y1 > want.width := hc2
            have hwb : 0 ≤ want.width ∧ want.width ≤ 600000 := by omega
            have HE := Lib.hid (cut3_yes (s := s2) (a := a2) (kerf := t.kerf) (w := want) (by rw [← HRR2.out]; exact hc2))
            have HG3 := Lib.hid (good_cut3 (s := (s2, a2)) (w := want) HG2.out hkf.1 (by omega))
            have HF3 := Lib.hid (free_cut3 (s := (s2, a2)) (kerf := t.kerf) (w := want) HF2.out)
            have HL3 := Lib.hid (len_cut3 (s := (s2, a2)) (kerf := t.kerf) (w := want))
            rw [HE.out] at HG3 HF3 HL3 HSTEP
            go_upto_region 19 with (go_at_call 107; refine (bcut_any x base _ i s2 _ a2 false want.width t.kerf _ HD7.out hA2 (hst1 8 _ rfl) (by omega) hlen2 hlt2 (.inr HPR2.out) hwb hkf).mono ?_; rintro e w8 ⟨rfl, hD8, hb8⟩; have HD8 := Lib.hid hD8; have HB8 := Lib.hid hb8; clear hD8 hb8)
            refine gen_world (fun W8 => Desk W8 base (setB L i ⟨x, 11, none⟩ ⟨x, 12, none⟩ (s2.cut t.kerf a2 false want.width)) (plusSt St w.heap.size want) ∧ Below base w W8) ?_ ?_
            ·have h8 := HD8.out
             rw [setB_setB] at h8
             exact ⟨h8, HBB7.out.trans HB8.out⟩
            clear HD6 HBB6 HE HD8 HB8 HD7 HBB7 z0 z1 z2 z3 y2 y3 hcg hwb v2 hki2 HPR2 HRR2 hg2 HG2 HF2
            obtain ⟨a3, ha3⟩ : ∃ a, a = s2.cuts.length := ⟨_, rfl⟩
            rw [← ha3] at HG3 HF3 HL3 HSTEP ⊢
            have HL3 := Lib.hid (show (s2.cut t.kerf a2 false want.width).cuts.length ≤ 80000 + 6 by have := HL3.out; (try simp only at this); omega)
            clear ha3
            generalize s2.cut t.kerf a2 false want.width = s3 at *
            rintro W8 ⟨hD6, hbb6⟩
            have HD6 := Lib.hid hD6
            have HBB6 := Lib.hid hbb6
            clear hD6 hbb6
            generalize W8 = W6 at *
            have hA3 := hA.set s3
            have hfr := HF3.out
            have hlt3 : a3 < s3.cuts.length := hfr.lt
            have hll3 := HL3.out
            obtain ⟨g, cap, m1, -, m3, m4, m5, m6, m7⟩ := HD6.out.rowC hA3 (by rintro h; rw [h] at hlt3; simp at hlt3)
            have q4 := m7 a3 hlt3 4 (by decide)
            have HS := Lib.hid (desk_plain (Desk.setBlank HD6.out hA3 hlt3 m1 number))
            have HM := Lib.hid (mark_eq (number := number) HF3.out)
            generalize s3.cuts[a3] = cc at *
            simp only [cellsC, List.getElem?_cons_zero, List.getElem?_cons_succ] at q4
            obtain ⟨q4, q5⟩ := q4
            have hki3 : (a3 : Int) < (s3.cuts.length : Int) := by omega
            have HGB := Lib.hid m3
            clear m7 m3 m4 m5 m6 hfr
            go_wp2_with fail
            go_ret
            refine PutPost.yes HSTEP.out ?_ (HBB6.out.setCell (by simpa using HGB.out) _)
            have hs := HS.out
            rw [setB_setB] at hs
            rw [← HM.out]
            exact hs
           ·have hcg : ¬ r2.y2 - r2.y1 > want.width := hc2
            have HE := Lib.hid (cut3_no (s := s2) (a := a2) (kerf := t.kerf) (w := want) (by rw [← HRR2.out]; exact hc2))
            rw [HE.out] at HSTEP
            have HG3 := HG2
            have HF3 := HF2
            have HL3 := Lib.hid (show s2.cuts.length ≤ 80000 + 6 by omega)
            go_upto_region 19 with fail
            clear HD6 HBB6 HE z0 z1 z2 z3 y2 y3 hcg v2 hki2 HPR2 HRR2 hg2 HG2 HF2
            have HD6 := HD7
            have HBB6 := HBB7
            clear HD7 HBB7
            generalize W7 = W6 at *
            obtain ⟨s3, hs3⟩ : ∃ s, s = s2 := ⟨_, rfl⟩
            obtain ⟨a3, ha3⟩ : ∃ a, a = a2 := ⟨_, rfl⟩
            rw [← hs3, ← ha3] at HG3 HF3 HSTEP
            rw [← hs3] at HL3 HD6
            rw [← ha3]
            clear hs3 ha3
            have hA3 := hA.set s3
            have hfr := HF3.out
            have hlt3 : a3 < s3.cuts.length := hfr.lt
            have hll3 := HL3.out
            obtain ⟨g, cap, m1, -, m3, m4, m5, m6, m7⟩ := HD6.out.rowC hA3 (by rintro h; rw [h] at hlt3; simp at hlt3)
            have q4 := m7 a3 hlt3 4 (by decide)
            have HS := Lib.hid (desk_plain (Desk.setBlank HD6.out hA3 hlt3 m1 number))
            have HM := Lib.hid (mark_eq (number := number) HF3.out)
            generalize s3.cuts[a3] = cc at *
            simp only [cellsC, List.getElem?_cons_zero, List.getElem?_cons_succ] at q4
            obtain ⟨q4, q5⟩ := q4
            have hki3 : (a3 : Int) < (s3.cuts.length : Int) := by omega
            have HGB := Lib.hid m3
            clear m7 m3 m4 m5 m6 hfr
            go_wp2_with fail
            go_ret
            refine PutPost.yes HSTEP.out ?_ (HBB6.out.setCell (by simpa using HGB.out) _)
            have hs := HS.out
            rw [setB_setB] at hs
            rw [← HM.out]
            exact hs
     ·have HF := Lib.hid (at_none (kerf := t.kerf) (ds := b.defects) (w := want) (show freeC (s.cuts.getD k wasteC) (s.r k) = false by rw [HC0.out]; unfold freeC; rw [decide_eq_false hlow]; rfl))
      have HLQ := Lib.hid (decide_eq_false hlow)
      clear hlow
      go_wp2_with (go_at_call 28; refine (leaf_is c _ HLQ.out).mono ?_; rintro e w4 ⟨rfl, hb4⟩; have HB4 := Lib.hid hb4; have x4' := cell_keep hb4 x4; have m1' := cell_keep hb4 m1; have q0' := cell_keep hb4 q0; have q1' := cell_keep hb4 q1; have q2' := cell_keep hb4 q2; have q3' := cell_keep hb4 q3; clear hb4 x4 m1 q0 q1 q2 q3)
      go_roundw
      case rel => exact ⟨k + 1, HLT.out.1, by have := HLT.out; go_num, Lib.hid (scan_no HLT.out.1 HP.out HF.out), HB2.out.trans (HB4.out.mono HB2.out.size)⟩
      case measure => have := HLT.out; simp [intOf]; omega
    ·have hN := scan_end (by omega) HP.out
     have HN := Lib.hid hN
     have hki : ¬ (k : Int) < (s.cuts.length : Int) := by omega
     clear HP hN
     go_wp2_with fail
     go_ret
     exact HPN.out _ HN.out (desk_plain hDr) (HHB.out.trans (hbr.mono (by have := HZ1.out; have := hsz.1; omega)))
 ·have HN := Lib.hid (put_kind (s := s) (kerf := t.kerf) (number := number) (show kindB b want = false by unfold kindB; simp only [Bool.not_eq_true] at hk1; rw [hk1, Bool.false_and]))
  simp only [Bool.not_eq_true] at hk1
  go_quiet (fail)
  rename_i nq
  have hq := below_drewN hbb nq
  have HDQ := Lib.hid (HDW.out.keep (below_drewN (Below.refl _ _) nq))
  generalize W.drewN nq = W1 at *
  go_wp2_with fail
  go_ret
  exact HPN.out _ HN.out (desk_plain HDQ.out) hq
end Go.Proofs.YtjmgboipbhddlaaGreatDoor
