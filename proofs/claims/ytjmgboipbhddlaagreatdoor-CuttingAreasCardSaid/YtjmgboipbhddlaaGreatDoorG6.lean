import Derived.Test.YtjmgboipbhddlaaGreatDoorQA
import Derived.Test.YtjmgboipbhddlaaGreatDoorG5
import Derived.Test.YtjmgboipbhddlaaGreatDoorCX
set_option linter.unusedVariables false
set_option linter.unusedSimpArgs false
namespace Go.Proofs.YtjmgboipbhddlaaGreatDoor
open Go Go.RowKit

def startsK (kerf : Int) (ds : List Rect) (r : Rect) (k : Nat) : List Int := 0 :: (kerf + 1) :: ((ds.take k).map fun d => d.x2 - r.x1).filter fun o => decide (kerf < o)
theorem startsK_yes {kerf : Int} {ds : List Rect} {r : Rect} {k : Nat} (hk : k < ds.length) (h : kerf < ds[k].x2 - r.x1) : startsK kerf ds r (k + 1) = startsK kerf ds r k ++ [ds[k].x2 - r.x1] := by
 unfold startsK
 rw [List.take_succ_eq_append_getElem hk, List.map_append, List.filter_append]
 simp [h]
theorem startsK_no {kerf : Int} {ds : List Rect} {r : Rect} {k : Nat} (hk : k < ds.length) (h : ¬ kerf < ds[k].x2 - r.x1) : startsK kerf ds r (k + 1) = startsK kerf ds r k := by
 unfold startsK
 rw [List.take_succ_eq_append_getElem hk, List.map_append, List.filter_append]
 simp [h]
theorem startsK_len (kerf : Int) (ds : List Rect) (r : Rect) (k : Nat) : (startsK kerf ds r k).length ≤ k + 2 ∧ 2 ≤ (startsK kerf ds r k).length := by
 unfold startsK
 have := List.length_filter_le (fun o => decide (kerf < o)) ((ds.take k).map fun d => d.x2 - r.x1)
 have := List.length_take_le k ds
 simp only [List.length_map, List.length_cons] at *
 omega
theorem startsK_all (kerf : Int) (ds : List Rect) (r : Rect) : startsK kerf ds r ds.length = starts kerf ds r := by unfold startsK starts; rw [List.take_length]
def offV (o : Option Int) : Int := match o with | some o => o | none => -1
def benchCells (b : Board) (ad : Option Addr) (cd : Nat) (t : Trim) : List Value := [.string b.name, .string b.species, .int .i64 b.length, .int .i64 b.width, .int .i64 b.thick, .int .i64 b.cut, .int .i64 b.moisture, .slice ad b.defects.length cd, .int .i64 t.kerf, .int .i64 t.ends, .int .i64 t.sides]
theorem ints_cell {w w' : World} {b o : Nat} {l : List Int} (h : IntsV w (some ⟨b, o, none⟩) l) (hb : Below w.heap.size w w') {k : Nat} (hk : k < l.length) : w'.cell? ⟨b, o + k, none⟩ = some (.int .i64 l[k]) := by
 obtain ⟨b', o', e, hx⟩ := h (by intro e; subst e; simp at hk)
 injection e with e
 injection e with e1 e2
 subst e1 e2
 exact cell_keep hb (hx k _ (List.getElem?_eq_getElem hk))
theorem csound_is (b : Board) (r : Rect) (a : Option Addr) (c : Nat) (w : World) {q : Bool} (hq : soundC b.defects r = q) (hv : Rects.V w a b.defects) (hl : b.defects.length ≤ 9223372036854775807) :
    Calls Tryz.prog 100 #[.agg #[.string b.name, .string b.species, .int .i64 b.length, .int .i64 b.width, .int .i64 b.thick, .int .i64 b.cut, .int .i64 b.moisture, .slice a b.defects.length c], .agg #[.int .i64 r.x1, .int .i64 r.y1, .int .i64 r.x2, .int .i64 r.y2]] w fun e w' => e = .returned (.bool q) ∧ Below w.heap.size w w' := by subst hq; exact csound_any b r a c w hv hl
theorem offset_tall {kerf : Int} {ds : List Rect} {r : Rect} {w : Blank} (h : r.y2 < r.y1 + w.width) : offset kerf ds r w = none :=
 isLeast_uniq (offset_least kerf ds r w) (b := none) (fun o _ => by unfold fitsB; rw [decide_eq_false (by omega : ¬ r.y1 + w.width ≤ r.y2)]; simp)
theorem starts_bd {kerf : Int} {ds : List Rect} {r : Rect} {o : Int} (hk : 0 ≤ kerf ∧ kerf ≤ 10000) (hd : ∀ d ∈ ds, d.x2 ≤ 600000) (hr : 0 ≤ r.x1) (h : o ∈ starts kerf ds r) : 0 ≤ o ∧ o ≤ 700000 := by
 unfold starts at h
 simp only [List.mem_cons, List.mem_filter, List.mem_map, decide_eq_true_eq] at h
 rcases h with rfl | rfl | ⟨⟨d, hd', rfl⟩, h2⟩
 ·omega
 ·omega
 ·have := hd d hd'; omega
structure DefsOk (ds : List Rect) : Prop where
 ok : ∀ d ∈ ds, 0 ≤ d.x1 ∧ d.x1 < d.x2 ∧ d.x2 ≤ 600000 ∧ 0 ≤ d.y1 ∧ d.y1 < d.y2 ∧ d.y2 ≤ 600000
 len : ds.length ≤ 60

set_option maxRecDepth 100000 in
set_option maxHeartbeats 8000000 in
theorem boffset_any (x base : Nat) (L : List Slot) (i : Nat) (s : BS) (St : Addr → Value → Prop) (region : Nat) (b : Board) (ad : Option Addr) (cd : Nat) (t : Trim) (want : Blank) (w : World) (hD : Desk w base L St) (hA : AtB L i ⟨x, 11, none⟩ ⟨x, 12, none⟩ s)
    (hst : ∀ o v, (benchCells b ad cd t)[o]? = some v → St ⟨x, o, none⟩ v) (hv : Rects.V w ad b.defects) (hdf : DefsOk b.defects) (hl : s.cuts.length ≤ 90000) (hl2 : s.rects.length = s.cuts.length) (hreg : region < s.cuts.length) (hq : proper (s.r region))
    (hkf : 0 ≤ t.kerf ∧ t.kerf ≤ 10000) (hw : (1 ≤ want.length ∧ want.length ≤ 600000) ∧ (1 ≤ want.width ∧ want.width ≤ 600000)) :
    Calls Tryz.prog 106 #[.pointer (some ⟨x, 0, none⟩), .int .i64 region, .agg #[.string want.name, .string want.species, .int .i64 want.length, .int .i64 want.width, .int .i64 want.thick, .int .i64 want.count]] w fun e w' => e = .returned (.int .i64 (offV (offset t.kerf b.defects (s.r region) want))) ∧ Below w.heap.size w w' := by
 obtain ⟨i0, hi0, hz0, hz1, hz2⟩ := info_parts int_info
 have hr2 : region < s.rects.length := by omega
 have hregi : (region : Int) < (s.rects.length : Int) := by omega
 obtain ⟨g, cap, k1, k2, k3, k4, k5, k6, k7⟩ := hD.rowR hA (by rintro h; rw [h] at hr2; simp at hr2)
 obtain ⟨r, hrr⟩ : ∃ r, r = s.r region := ⟨_, rfl⟩
 have hre : s.rects[region] = r := by rw [hrr]; unfold BS.r; rw [List.getD_eq_getElem?_getD, List.getElem?_eq_getElem hr2]; rfl
 have e0 := (k7 region hr2 0 (by decide)).1
 have e1 := (k7 region hr2 1 (by decide)).1
 have e2 := (k7 region hr2 2 (by decide)).1
 have e3 := (k7 region hr2 3 (by decide)).1
 rw [hre] at e0 e1 e2 e3
 simp only [cellsR, List.getElem?_cons_zero, List.getElem?_cons_succ, Nat.add_zero] at e0 e1 e2 e3
 rw [← hrr] at hq ⊢
 have HQ := Lib.hid hq
 unfold proper at hq
 have b0 := hD.cell (hst 0 _ rfl)
 have b1 := hD.cell (hst 1 _ rfl)
 have b2 := hD.cell (hst 2 _ rfl)
 have b3 := hD.cell (hst 3 _ rfl)
 have b4 := hD.cell (hst 4 _ rfl)
 have b5 := hD.cell (hst 5 _ rfl)
 have b6 := hD.cell (hst 6 _ rfl)
 have b7 := hD.cell (hst 7 _ rfl)
 have b8 := hD.cell (hst 8 _ rfl)
 have hxz := block_lt_of_cell b0
 simp only at hxz
 have v1 : IntKind.i64.wrap (r.y1 + want.width) = r.y1 + want.width := IntWalk.i64_in _ (by omega)
 have v2 : IntKind.i64.wrap (t.kerf + 1) = t.kerf + 1 := IntWalk.i64_in _ (by omega)
 clear k7 k2 k3 k5 k6 hre hrr hD hA hst
 go_enter Tryz.func106, Tryz.ntmps106
 go_upto_region 2 with fail
 refine gen_world (fun W => (BoxR W (w.heap.size + 1) r ∧ W.cell? ⟨w.heap.size, 2, none⟩ = some (.int .i64 want.length) ∧ W.cell? ⟨w.heap.size, 3, none⟩ = some (.int .i64 want.width)) ∧ Below w.heap.size w W ∧ w.heap.size + 1 < W.heap.size) ?_ ?_
 ·refine ⟨⟨?_, by simp [go_sem, *], by simp [go_sem, *]⟩, ?_, by simp⟩
  ·exact ⟨by simp [go_sem, *], by simp [go_sem, *], by simp [go_sem, *], by simp [go_sem, *], by simp [go_sem, *], by simp [go_sem, *], by simp [go_sem, *], by simp [go_sem, *]⟩
  ·repeat (first | (with_reducible exact Below.refl _ _) | (with_reducible refine Below.setCell ?_ (by first | (simp; done) | (simp; omega)) _) | (with_reducible refine Below.alloc ?_ (by first | (simp; done) | (simp; omega) | omega) _))
 rintro W ⟨⟨hbr, q2, q3⟩, hbW, hz⟩
 clear k1 e0 e1 e2 e3
 have HB := Lib.hid (show (((W.cell? ⟨x, 0, none⟩ = some (.string b.name) ∧ W.cell? ⟨x, 1, none⟩ = some (.string b.species)) ∧ (W.cell? ⟨x, 2, none⟩ = some (.int .i64 b.length) ∧ W.cell? ⟨x, 3, none⟩ = some (.int .i64 b.width))) ∧ ((W.cell? ⟨x, 4, none⟩ = some (.int .i64 b.thick) ∧ W.cell? ⟨x, 5, none⟩ = some (.int .i64 b.cut)) ∧ W.cell? ⟨x, 6, none⟩ = some (.int .i64 b.moisture) ∧ W.cell? ⟨x, 7, none⟩ = some (.slice ad b.defects.length cd)))
  from ⟨⟨⟨cell_keep hbW b0, cell_keep hbW b1⟩, cell_keep hbW b2, cell_keep hbW b3⟩, ⟨cell_keep hbW b4, cell_keep hbW b5⟩, cell_keep hbW b6, cell_keep hbW b7⟩)
 have c7 := cell_keep hbW b7
 have c8 := cell_keep hbW b8
 have hxW := block_lt_of_cell c8
 simp only at hxW
 have hvW := hv.keep hbW
 have HBR := Lib.hid hbr
 have Hq2 := Lib.hid q2
 have Hq3 := Lib.hid q3
 have Hz0 := Lib.hid (show w.heap.size < W.heap.size by omega)
 clear b0 b1 b2 b3 b4 b5 b6 b7 b8 hv
 obtain ⟨r0, r1, r2, r3, -, -, -, -⟩ := hbr
 by_cases hy : r.y2 < r.y1 + want.width
 ·have hy' : r.y1 + want.width > r.y2 := hy
  have HT := Lib.hid (offset_tall (kerf := t.kerf) (ds := b.defects) hy)
  go_wp2_with fail
  go_ret
  exact ⟨ret_int (by rw [HT.out]; rfl), hbW⟩
 have hy' : ¬ r.y1 + want.width > r.y2 := hy
 go_wp2_with fail
 have hown0 : (W.alloc (.cells #[.int .i64 0, .int .i64 (t.kerf + 1)] 3)).ownsRow W.heap.size 3 1 (.slice (some ⟨W.heap.size, 0, none⟩) 2 2) 2 [.int .i64 0, .int .i64 (t.kerf + 1)] := World.ownsRow_lit W #[.int .i64 0, .int .i64 (t.kerf + 1)] 2 (Nat.le_refl _) (by decide) rfl
 have HW := Lib.hid hbW
 have hb0 := (Below.refl W.heap.size W).alloc (Nat.le_refl _) (.cells #[.int .i64 0, .int .i64 (t.kerf + 1)] 3)
 go_loopw [8, 43] (fun v iv wr => ∃ k n : Nat, k ≤ b.defects.length ∧ iv = .int .i64 k ∧ n = (startsK t.kerf b.defects r k).length ∧ wr.ownsRow W.heap.size 3 1 v n ((startsK t.kerf b.defects r k).map (Value.int .i64)) ∧ Below W.heap.size W wr ∧ W.heap.size < wr.heap.size) (fun _ iv _ => b.defects.length - (intOf iv).toNat)
 case atStart => exact ⟨0, 2, Nat.zero_le _, rfl, rfl, hown0, hb0, by simp⟩
 case round =>
  clear hown0 hb0
  obtain ⟨k, n, hk, rfl, hn, hown, hbr, hzr⟩ := hrel
  have hsl := startsK_len t.kerf b.defects r k
  have hdl := hdf.len
  by_cases hlt : k < b.defects.length
  ·obtain ⟨bk, off, rfl, hat⟩ := (hvW.keep hbr).at_ hlt
   obtain ⟨d0, d1, d2, d3, -⟩ := hat
   have hbk := block_lt_of_cell d0
   simp only at hbk
   have p0 := cell_keep hbr r0
   have p8 := cell_keep hbr c8
   have hxr : x < wr.heap.size := by omega
   have hwr : w.heap.size + 1 < wr.heap.size := by omega
   have hdd := hdf.ok _ (List.getElem_mem hlt)
   have HY := Lib.hid (startsK_yes (kerf := t.kerf) (r := r) hlt)
   have HN := Lib.hid (startsK_no (kerf := t.kerf) (r := r) hlt)
   generalize b.defects[k] = d at *
   have v3 : IntKind.i64.wrap (d.x2 - r.x1) = d.x2 - r.x1 := IntWalk.i64_in _ (by omega)
   by_cases hc : t.kerf < d.x2 - r.x1
   ·have hc' : d.x2 - r.x1 > t.kerf := hc
    have HOWN := Lib.hid hown
    have HBB := Lib.hid hbr
    clear hown
    go_wp2_with (at_builtin; refine wpList_append_own _ rfl _ _ 73 rfl W.heap.size 3 i0 (.int .i64 0) 1 8 Tryz.underlying73 hi0 hz0 hz1 hz2 rfl (by decide) _ n _ rfl ((HOWN.out.alloc _).alloc _) ⟨wr.heap.size + 1, 0, none⟩ 1 1 [.int .i64 (d.x2 - r.x1)] rfl rfl (news_of _ _ _ _ (by simp)) (by simp [Value.oneCell']) (by simp only [maxLen]; omega) (by omega) (by simp; omega) ?_; intro v' w5 ho5 hgr5 hnil5; have HGR := Lib.hid hgr5; have HO5 := Lib.hid ho5; clear ho5 hgr5 hnil5)
    have hgr5 : ((wr.alloc (.cells #[.int .i64 d.x1, .int .i64 d.y1, .int .i64 d.x2, .int .i64 d.y2] 41)).alloc (.cells #[.int .i64 (d.x2 - r.x1)] 3)).grownBy w5 (Value.ownBlock _) := HGR.out
    have hb5 : Below W.heap.size W w5 := ((HBB.out.alloc (by omega) _).alloc (by simp; omega) _).grown hgr5 (by simp; omega) (fun j hj => own_base HOWN.out hj)
    have hz5 := hb5.size
    have hz6 := hgr5.size
    go_roundw
    case rel => exact ⟨k + 1, n + 1, by omega, by go_num, by rw [HY.out hc]; simp [hn], by rw [HY.out hc, List.map_append]; exact HO5.out, hb5, by simp at hz6; omega⟩
    case measure => simp [intOf]; omega
   ·have hc' : ¬ d.x2 - r.x1 > t.kerf := hc
    have HOWN := Lib.hid hown
    have HBB := Lib.hid hbr
    clear hown
    go_wp2_with fail
    go_roundw
    case rel => exact ⟨k + 1, n, by omega, by go_num, by rw [HN.out hc]; exact hn, by rw [HN.out hc]; exact HOWN.out.alloc _, HBB.out.alloc (by omega) _, by simp; omega⟩
    case measure => simp [intOf]; omega
  ·obtain rfl : k = b.defects.length := by omega
   rw [startsK_all] at hown hn hsl
   have HSO := Lib.hid (fun o h => starts_bd (o := o) hkf (fun d hd => (hdf.ok d hd).2.2.1) hq.1 h)
   have HLE := Lib.hid (offset_least t.kerf b.defects r want)
   have hl3 : (starts t.kerf b.defects r).length < 1000000 := by omega
   obtain ⟨gt, ct, hvt, hgt, hgl⟩ : ∃ gt ct, _ = Value.slice (some ⟨gt, 0, none⟩) n ct ∧ W.heap.size ≤ gt ∧ gt < wr.heap.size := by
    rcases hown.2 with ⟨_, h0⟩ | ⟨gt, ct, cur, h1, h2, h3, -⟩
    ·omega
    ·exact ⟨gt, ct, h1, h2, (Array.getElem?_eq_some_iff.1 h3).1⟩
   subst hvt
   subst hn
   obtain ⟨ts, hts⟩ : ∃ ts, ts = (starts t.kerf b.defects r).mergeSort (fun x y => decide (x ≤ y)) := ⟨_, rfl⟩
   have hlen : ts.length = (starts t.kerf b.defects r).length := by rw [hts]; exact List.length_mergeSort _
   have HMEM := Lib.hid (show ∀ o, o ∈ starts t.kerf b.defects r ↔ o ∈ ts from fun o => by rw [hts, List.mem_mergeSort])
   have HPW := Lib.hid (show ts.Pairwise (· ≤ ·) by
    rw [hts]
    have := List.pairwise_mergeSort (le := fun x y : Int => decide (x ≤ y)) (fun a b c h1 h2 => by simp at *; omega) (fun a b => by simp; omega) (starts t.kerf b.defects r)
    exact this.imp (fun h => by simpa using h))
   have hso := sort_n gt ct (starts t.kerf b.defects r) wr W.heap.size hown hl3
   rw [← hts] at hso
   have HSRT := Lib.hid hso
   have HBB := Lib.hid hbr
   clear hso hown hts
   go_wp2_with (go_at_call 111; refine HSRT.out.mono ?_; rintro e w6 ⟨rfl, ho6, hg6⟩; have HO6 := Lib.hid ho6; have HG6 := Lib.hid hg6; clear ho6 hg6)
   have hb6 : Below W.heap.size W w6 := HBB.out.grown HG6.out (by omega) (fun j hj => by injection hj with hj; omega)
   have hz6 := hb6.size
   have HIV : Hid (IntsV w6 (some ⟨gt, 0, none⟩) ts) := Lib.hid (own_ints (r := []) (by simpa using HO6.out))
   have HB6 := Lib.hid hb6
   have HG := Lib.hid HSRT
   clear HSRT HG HBB
   generalize hN : (starts t.kerf b.defects r).length = N at *
   have HLEN := Lib.hid hlen
   have HL3 := Lib.hid hl3
   clear hN hlen hsl
   go_loopw [68] (fun iv wr => ∃ k : Nat, k ≤ N ∧ iv = .int .i64 k ∧ Hid (∀ j (hj : j < ts.length), j < k → fitsB b.defects r want ts[j] = false) ∧ Below w6.heap.size w6 wr) (fun iv _ => N - (intOf iv).toNat)
   case atStart => exact ⟨0, Nat.zero_le _, rfl, Lib.hid (fun j _ h => by omega), Below.refl _ _⟩
   case round =>
    obtain ⟨k, hk, rfl, HK, hbr2⟩ := hrel
    have hbw2 : Below W.heap.size W wr := HB6.out.trans (hbr2.mono hz6)
    have hzr2 := hbr2.size
    by_cases hltN : k < N
    ·have hlt : k < ts.length := by have := HLEN.out; omega
     have HLT := Lib.hid (show k < N ∧ N < 1000000 from ⟨hltN, HL3.out⟩)
     have hki : (k : Int) < (N : Int) := by omega
     have tc := ints_cell HIV.out hbr2 hlt
     rw [Nat.zero_add] at tc
     have hob := HSO.out _ ((HMEM.out _).2 (List.getElem_mem hlt))
     have HHIT := Lib.hid (fun hp => isLeast_uniq HLE.out (isLeast_perm (l := ts) (fun x => (HMEM.out x).symm) (isLeast_first HPW.out hlt HK.out hp)))
     have HNX := Lib.hid (fun hp => none_step HK.out hlt hp)
     generalize ts[k] = o at *
     have p0 := cell_keep hbw2 r0
     have p1 := cell_keep hbw2 r1
     have p2 := cell_keep hbw2 r2
     have p3 := cell_keep hbw2 r3
     have p4 := cell_keep hbw2 Hq2.out
     have p5 := cell_keep hbw2 Hq3.out
     have hxr : x < wr.heap.size := by omega
     have hwr : w.heap.size + 1 < wr.heap.size := by omega
     have v5 : IntKind.i64.wrap (r.x1 + o) = r.x1 + o := IntWalk.i64_in _ (by omega)
     have v6 : IntKind.i64.wrap (r.x1 + o + want.length) = r.x1 + o + want.length := IntWalk.i64_in _ (by omega)
     have HFB := Lib.hid (show fitsB b.defects r want o = (decide (r.x1 + o + want.length ≤ r.x2) && soundB b.defects (pieceR r want o)) by unfold fitsB; rw [decide_eq_true (by omega : r.y1 + want.width ≤ r.y2), Bool.and_true])
     clear HK
     go_wp2_with fail
     refine gen_world (fun W7 => BoxR W7 wr.heap.size (pieceR r want o) ∧ Below wr.heap.size wr W7 ∧ wr.heap.size < W7.heap.size) ?_ ?_
     ·exact ⟨box_new _ _ (pieceR r want o), (Below.refl _ _).alloc (Nat.le_refl _) _, by simp⟩
     rintro W7 ⟨⟨a0, a1, a2, a3, -, -, -, -⟩, hb7, hz7⟩
     obtain ⟨⟨⟨b0, b1⟩, b2, b3⟩, ⟨b4, b5⟩, b6, b7⟩ := HB.out
     have b0 := cell_keep hb7 (cell_keep hbw2 b0)
     have b1 := cell_keep hb7 (cell_keep hbw2 b1)
     have b2 := cell_keep hb7 (cell_keep hbw2 b2)
     have b3 := cell_keep hb7 (cell_keep hbw2 b3)
     have b4 := cell_keep hb7 (cell_keep hbw2 b4)
     have b5 := cell_keep hb7 (cell_keep hbw2 b5)
     have b6 := cell_keep hb7 (cell_keep hbw2 b6)
     have b7 := cell_keep hb7 (cell_keep hbw2 b7)
     have hv7 := (hvW.keep hbw2).keep hb7
     have p2 := cell_keep hb7 p2
     have hx7 : x < W7.heap.size := by omega
     have hw7 : w.heap.size + 1 < W7.heap.size := by omega
     have SND := Lib.hid (show soundC b.defects (pieceR r want o) = soundB b.defects (pieceR r want o) from soundC_eq (fun d hd => ⟨(hdf.ok d hd).2.1, (hdf.ok d hd).2.2.2.2.1⟩) (by unfold pieceR; simp only; omega) (by unfold pieceR; simp only; omega))
     have hb67 : Below w6.heap.size w6 W7 := hbr2.trans (hb7.mono hzr2)
     have hbw7 : Below w.heap.size w W7 := HW.out.trans ((hbw2.trans (hb7.mono (by omega))).mono (by omega))
     have hdl := hdf.len
     have a0' : W7.cell? ⟨wr.heap.size, 0, none⟩ = some (.int .i64 (r.x1 + o)) := a0
     have a1' : W7.cell? ⟨wr.heap.size, 1, none⟩ = some (.int .i64 r.y1) := a1
     have a2' : W7.cell? ⟨wr.heap.size, 2, none⟩ = some (.int .i64 (r.x1 + o + want.length)) := a2
     have a3' : W7.cell? ⟨wr.heap.size, 3, none⟩ = some (.int .i64 (r.y1 + want.width)) := a3
     clear a0 a1 a2 a3
     clear p0 p1 p3 p4 p5 tc hbr2 hbw2 hb7 c7 c8 r0 r1 r2 r3 q2 q3 hvW hb6 hbr
     by_cases hx : r.x1 + o + want.length ≤ r.x2
     ·cases hs : soundB b.defects (pieceR r want o)
      ·have HS := Lib.hid (show soundC b.defects (pieceR r want o) = false by rw [SND.out]; exact hs)
       have HF := Lib.hid (show fitsB b.defects r want o = false by rw [HFB.out, hs, Bool.and_false])
       clear hs
       refine wp_region_grew (by kernel_rfl) (by kernel_rfl) ?_
       repeat (first
        | go_big_quiet_step ((go_at_call 100; exact grew_of (csound_is b (pieceR r want o) ad cd _ HS.out (hv7.keep (grew_below _ _)) (by omega))))
        | quiet_step ((go_at_call 100; exact grew_of (csound_is b (pieceR r want o) ad cd _ HS.out (hv7.keep (grew_below _ _)) (by omega)))))
       refine wpQuiet_nil ?_
       rintro _ ⟨gg, rfl⟩
       go_wp2_with fail
       go_roundw
       case rel => exact ⟨k + 1, HLT.out.1, by have := HLT.out; go_num, Lib.hid (HNX.out HF.out), hb67.trans ((grew_below _ _).mono (by have := hb67.size; omega))⟩
       case measure => have hq9 := HLT.out; simp [intOf]; omega
      ·have HS := Lib.hid (show soundC b.defects (pieceR r want o) = true by rw [SND.out]; exact hs)
       have HF := Lib.hid (show fitsB b.defects r want o = true by rw [HFB.out, hs, decide_eq_true hx]; rfl)
       clear hs
       refine wp_region_grew (by kernel_rfl) (by kernel_rfl) ?_
       repeat (first
        | go_big_quiet_step ((go_at_call 100; exact grew_of (csound_is b (pieceR r want o) ad cd _ HS.out (hv7.keep (grew_below _ _)) (by omega))))
        | quiet_step ((go_at_call 100; exact grew_of (csound_is b (pieceR r want o) ad cd _ HS.out (hv7.keep (grew_below _ _)) (by omega)))))
       refine wpQuiet_nil ?_
       rintro _ ⟨gg, rfl⟩
       go_wp2_with fail
       go_ret
       exact ⟨ret_int (by rw [HHIT.out HF.out]; rfl), hbw7.trans ((grew_below _ _).mono (by have := hbw7.size; omega))⟩
     ·have HF := Lib.hid (show fitsB b.defects r want o = false by rw [HFB.out, decide_eq_false hx, Bool.false_and])
      have hx' := hx
      refine wp_region_grew (by kernel_rfl) (by kernel_rfl) ?_
      repeat (first
       | go_big_quiet_step ((go_at_call 100; exact grew_of (csound_is b (pieceR r want o) ad cd _ HS.out (hv7.keep (grew_below _ _)) (by omega))))
       | quiet_step ((go_at_call 100; exact grew_of (csound_is b (pieceR r want o) ad cd _ HS.out (hv7.keep (grew_below _ _)) (by omega)))))
      refine wpQuiet_nil ?_
      rintro _ ⟨gg, rfl⟩
      go_wp2_with fail
      go_roundw
      case rel => exact ⟨k + 1, HLT.out.1, by have := HLT.out; go_num, Lib.hid (HNX.out HF.out), hb67.trans ((grew_below _ _).mono (by have := hb67.size; omega))⟩
      case measure => have hq9 := HLT.out; simp [intOf]; omega
    ·have HF := Lib.hid (show offset t.kerf b.defects r want = none from isLeast_uniq HLE.out (isLeast_perm (l := ts) (fun x => (HMEM.out x).symm) (isLeast_none (fun j hj => HK.out j hj (by have := HLEN.out; omega)))))
     have hki : ¬ (k : Int) < (N : Int) := by omega
     clear HK
     go_wp2_with fail
     go_ret
     exact ⟨ret_int (by rw [HF.out]; rfl), HW.out.trans (hbw2.mono (by omega))⟩
end Go.Proofs.YtjmgboipbhddlaaGreatDoor
