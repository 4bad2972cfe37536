import Derived.Test.YtjmgboipbhddlaaGreatDoorGY
import Derived.Test.YtjmgboipbhddlaaGreatDoorQK
import Derived.Laws.MakeOwn
set_option linter.unusedVariables false
set_option linter.unusedSimpArgs false
namespace Go.Proofs.YtjmgboipbhddlaaGreatDoor
open Go Go.RowKit

def WfB (s : BS) : Prop := ∀ c ∈ s.cuts, c.wf
theorem wf_cut {s : BS} {kerf : Int} {region : Nat} {across : Bool} {a : Int} (h : WfB s) (ha : -1000000 ≤ a ∧ a ≤ 1000000) (hl : s.cuts.length ≤ 100000) : WfB (s.cut kerf region across a) := by
 intro c hc
 unfold BS.cut at hc
 rcases List.mem_or_eq_of_mem_set hc with hc | rfl
 ·simp only [List.mem_append, List.mem_cons, List.not_mem_nil, or_false] at hc
  rcases hc with hc | rfl | rfl
  ·exact h c hc
  ·unfold Cut.wf wasteC; simp
  ·unfold Cut.wf wasteC; simp
 ·unfold Cut.wf; simp only; omega
theorem wf_mark {s : BS × Nat} {number : Int} (h : WfB s.1) (hn : -1000000 ≤ number ∧ number ≤ 1000000) : WfB (BS.mark s number) := by
 intro c hc
 unfold BS.mark at hc
 rcases List.mem_or_eq_of_mem_set hc with hc | rfl
 ·exact h c hc
 ·unfold Cut.wf pieceC; simp only; omega
theorem len_ge1 {s : BS} {kerf o : Int} {region : Nat} : s.cuts.length ≤ (s.cut1 kerf region o).1.cuts.length := by unfold BS.cut1; split <;> simp [BS.cut]
theorem len_ge2 {s : BS × Nat} {kerf : Int} {w : Blank} : s.1.cuts.length ≤ (BS.cut2 s kerf w).1.cuts.length := by unfold BS.cut2; split <;> simp [BS.cut]
theorem len_ge3 {s : BS × Nat} {kerf : Int} {w : Blank} : s.1.cuts.length ≤ (BS.cut3 s kerf w).1.cuts.length := by unfold BS.cut3; split <;> simp [BS.cut]
theorem len_ge {s : BS} {kerf : Int} {w : Blank} {number : Int} {region : Nat} {o : Int} : s.cuts.length ≤ (s.place kerf w number region o).cuts.length := by
 have h1 := len_ge1 (s := s) (kerf := kerf) (o := o) (region := region)
 have h2 := len_ge2 (s := s.cut1 kerf region o) (kerf := kerf) (w := w)
 have h3 := len_ge3 (s := BS.cut2 (s.cut1 kerf region o) kerf w) (kerf := kerf) (w := w)
 unfold BS.place BS.mark
 simp only [List.length_set]
 omega
theorem wf_place {s : BS} {kerf : Int} {ds : List Rect} {w : Blank} {number : Int} {k : Nat} {o : Int} (h : WfB s) (hg : GoodB s) (hk : k < s.cuts.length) (hl : s.cuts.length ≤ 80000) (hkf : 0 ≤ kerf ∧ kerf ≤ 10000) (hw : 0 < w.length ∧ w.length ≤ 600000) (hw2 : 0 < w.width ∧ w.width ≤ 600000)
    (hn : -1000000 ≤ number ∧ number ≤ 1000000) (hs : s.at_ kerf ds w k = some o) : WfB (s.place kerf w number k o) := by
 obtain ⟨h1, h2, h3⟩ := at_some hg hk hkf.1 hw.1 hs
 have hp := h1.pr
 unfold proper at hp
 simp only at hp
 have a1 : WfB (s.cut1 kerf k o).1 := by
  unfold BS.cut1
  split
  ·exact wf_cut h (by omega) (by omega)
  ·exact h
 have l1 := len_cut1 (s := s) (kerf := kerf) (o := o) (region := k)
 have a2 : WfB (BS.cut2 (s.cut1 kerf k o) kerf w).1 := by
  unfold BS.cut2
  split
  ·exact wf_cut a1 (by omega) (by omega)
  ·exact a1
 have l2 := len_cut2 (s := s.cut1 kerf k o) (kerf := kerf) (w := w)
 have a3 : WfB (BS.cut3 (BS.cut2 (s.cut1 kerf k o) kerf w) kerf w).1 := by
  unfold BS.cut3
  split
  ·exact wf_cut a2 (by omega) (by omega)
  ·exact a2
 exact wf_mark a3 hn

structure AllOk (n : Nat) (S : List BS) : Prop where
 good : GoodAll n S
 wf : ∀ s ∈ S, WfB s
theorem AllOk.mono {n m : Nat} {S : List BS} (h : AllOk n S) (hnm : n ≤ m) : AllOk m S := ⟨⟨fun s hs => ⟨(h.good.good s hs).1, (h.good.good s hs).2.1, Nat.le_trans (h.good.good s hs).2.2 hnm⟩⟩, h.wf⟩
theorem AllOk.put {n : Nat} {S : List BS} {kerf : Int} {stock : List Board} {w : Blank} {number : Int} {x : Nat × BS} (h : AllOk n S) (hn : n ≤ 80000) (hlen : S.length = stock.length) (hkf : 0 ≤ kerf ∧ kerf ≤ 10000) (hw : 0 < w.length ∧ w.length ≤ 600000) (hw2 : 0 < w.width ∧ w.width ≤ 600000)
    (hnn : -1000000 ≤ number ∧ number ≤ 1000000) (hs : scan (putF kerf stock w number S) stock.length 0 = some x) : AllOk (n + 6) (setO S (some x)) ∧ (setO S (some x)).length = stock.length := by
 obtain ⟨i, s'⟩ := x
 obtain ⟨_, h2, h3⟩ := scan_some hs
 simp only [Nat.zero_add] at h2 h3
 unfold putF at h3
 rw [List.getElem?_eq_getElem h2] at h3
 simp only at h3
 have hi : i < S.length := by omega
 have hg := h.good.get hi
 have hwf : WfB (S.getD i default) := by
  rw [List.getD_eq_getElem?_getD, List.getElem?_eq_getElem hi]; exact h.wf _ (List.getElem_mem hi)
 obtain ⟨p1, p2⟩ := good_put hg.1.1 hkf.1 hw.1 hw2.1 h3
 have p3 := leaf_put hg.1.2 h3
 have p45 : s'.cuts ≠ [] ∧ WfB s' := by
  unfold BS.put at h3
  split at h3
  ·rw [Option.map_eq_some_iff] at h3
   obtain ⟨y, hy, rfl⟩ := h3
   obtain ⟨_, q2, q3⟩ := scan_some hy
   refine ⟨fun e => ?_, wf_place hwf hg.1.1 (by omega) (by have := hg.2.2; omega) hkf hw hw2 hnn q3⟩
   have := len_ge (s := S.getD i default) (kerf := kerf) (w := w) (number := number) (region := y.1) (o := y.2)
   rw [e] at this
   exact hg.2.1 (List.length_eq_zero_iff.1 (by simpa using this))
  ·cases h3
 unfold setO
 refine ⟨⟨⟨fun s hs => ?_⟩, fun s hs => ?_⟩, by simp [hlen]⟩
 ·rcases List.mem_or_eq_of_mem_set hs with hs | rfl
  ·obtain ⟨q1, q2, q3⟩ := h.good.good s hs
   exact ⟨q1, q2, by omega⟩
  ·exact ⟨⟨p1, p3⟩, p45.1, by have := hg.2.2; omega⟩
 ·rcases List.mem_or_eq_of_mem_set hs with hs | rfl
  ·exact h.wf s hs
  ·exact p45.2
theorem allOk_start {stock : List Board} {blanks : List Blank} {t : Trim} (hJ : JobOk stock blanks t) : AllOk 1 (startM stock t) := by
 have hg := good_start (stock := stock) (t := t) (fun b hb => by have := hJ.size b hb; omega) hJ.trim.2.1.1 hJ.trim.2.2.1
 refine ⟨⟨fun s hs => ⟨⟨(hg.good s hs).1, ?_⟩, ?_, (hg.good s hs).2⟩⟩, fun s hs => ?_⟩
 all_goals
  unfold startM at hs
  obtain ⟨b, hb, rfl⟩ := List.mem_map.1 hs
 ·refine ⟨fun c hc => ?_⟩
  obtain rfl : c = wasteC := by simpa using hc
  intro _; exact ⟨rfl, rfl, rfl⟩
 ·simp
 ·intro c hc
  obtain rfl : c = wasteC := by simpa using hc
  unfold Cut.wf wasteC; simp

theorem putAll_scan {kerf : Int} {stock : List Board} {w : Blank} {number : Int} {S : List BS} : putAll kerf stock w number S = (scan (putF kerf stock w number S) stock.length 0).map fun x => S.set x.1 x.2 := rfl
theorem run_none {kerf : Int} {stock : List Board} {blanks : List Blank} {i : Nat} {r : List Nat} {S : List BS} {t : Option (List BS)} (h : t = runM kerf stock blanks (i :: r) S) (hs : scan (putF kerf stock (bl blanks i) i S) stock.length 0 = none) : t = none := by
 rw [h, runM, putAll_scan, hs]; rfl
theorem run_some {kerf : Int} {stock : List Board} {blanks : List Blank} {i : Nat} {r : List Nat} {S : List BS} {x : Nat × BS} {t : Option (List BS)} (h : t = runM kerf stock blanks (i :: r) S) (hs : scan (putF kerf stock (bl blanks i) i S) stock.length 0 = some x) : t = runM kerf stock blanks r (setO S (some x)) := by
 rw [h, runM, putAll_scan, hs]; rfl
def seqFrom (blanks : List Blank) (m : Nat) : List Nat := ((orderM blanks).drop m).flatMap fun i => List.replicate (bl blanks i).count.toNat i
theorem seqFrom_step {blanks : List Blank} {m : Nat} (hm : m < (orderM blanks).length) : seqFrom blanks m = List.replicate (bl blanks (orderM blanks)[m]).count.toNat (orderM blanks)[m] ++ seqFrom blanks (m + 1) := by
 unfold seqFrom
 rw [List.drop_eq_getElem_cons hm, List.flatMap_cons]
theorem seqFrom_end {blanks : List Blank} {m : Nat} (hm : (orderM blanks).length ≤ m) : seqFrom blanks m = [] := by
 unfold seqFrom; rw [List.drop_of_length_le hm]; rfl
theorem rep_step {i n q : Nat} {r : List Nat} (h : q < n) : List.replicate (n - q) i ++ r = i :: (List.replicate (n - (q + 1)) i ++ r) := by
 rw [show n - q = n - (q + 1) + 1 by omega, List.replicate_succ, List.cons_append]
theorem rep_end {i n q : Nat} {r : List Nat} (h : n ≤ q) : List.replicate (n - q) i ++ r = r := by rw [show n - q = 0 by omega]; rfl

def ordI (n k : Nat) : List Int := ((List.range k).map fun i : Nat => (i : Int)) ++ List.replicate (n - k) 0
theorem ordI_len {n k : Nat} (h : k ≤ n) : (ordI n k).length = n := by simp [ordI]; omega
theorem ordI_step {n k : Nat} (h : k < n) : (ordI n k).set k (k : Int) = ordI n (k + 1) := by
 unfold ordI
 rw [List.set_append_right _ _ (by simp), show n - k = n - (k + 1) + 1 by omega, List.replicate_succ]
 simp [List.range_succ]
theorem ordI_all (n : Nat) : ordI n n = (List.range n).map fun i : Nat => (i : Int) := by simp [ordI]
theorem ordI_zero (n : Nat) : ordI n 0 = List.replicate n 0 := by simp [ordI]
theorem made_own {w : World} {base n : Nat} {T : TypeId} {z : Value} (hb : base ≤ w.heap.size) (hn : n ≤ maxLen) : (w.alloc (.cells (madeCells #[z] n) T)).ownsRow base T 1 (.slice (some ⟨w.heap.size, 0, none⟩) n n) n (List.replicate n z) := by
 refine ⟨by simp, .inr ⟨w.heap.size, n, madeCells #[z] n, rfl, hb, heap_alloc_new w _, Nat.le_refl _, hn, by simp [size_madeCells], ?_⟩⟩
 apply List.ext_getElem?
 intro j
 by_cases hj : j < n
 ·rw [List.getElem?_take_of_lt (by omega)]
  simp [madeCells, hj, Nat.mod_one]
 ·rw [List.getElem?_take_eq_none (by omega), List.getElem?_eq_none (by simp; omega)]
theorem own_set1 {w : World} {base e n g cap : Nat} {l : List Int} {i : Nat} {x : Int} (h : w.ownsRow base e 1 (.slice (some ⟨g, 0, none⟩) n cap) n (l.map (Value.int .i64))) (hi : i < l.length) :
    (w.setCell ⟨g, i, none⟩ (.int .i64 x)).ownsRow base e 1 (.slice (some ⟨g, 0, none⟩) n cap) n ((l.set i x).map (Value.int .i64)) := by
 have hn : l.length = n := by have := h.1; simpa using this
 refine ⟨by simp [hn], ?_⟩
 rcases h.2 with ⟨e0, _⟩ | ⟨g', cap', cur, e0, hb, hg, hnc, hm, hs, ht⟩
 ·cases e0
 ·injection e0 with e1 _ e3
  injection e1 with e1
  injection e1 with e1
  subst e1; subst e3
  refine .inr ⟨g, cap, cur.setIfInBounds i (.int .i64 x), rfl, hb, ?_, hnc, hm, by simpa using hs, ?_⟩
  ·simp [World.setCell, Array.getElem?_modify, hg]
  ·rw [List.map_set, ← ht, Array.toList_setIfInBounds, List.take_set]
theorem own_int_cell {w : World} {base e n g cap : Nat} {l : List Int} {i : Nat} (h : w.ownsRow base e 1 (.slice (some ⟨g, 0, none⟩) n cap) n (l.map (Value.int .i64))) (hi : i < l.length) : w.cell? ⟨g, i, none⟩ = some (.int .i64 l[i]) ∧ w.frozen? ⟨g, i, none⟩ = false := by
 refine ⟨?_, ?_⟩
 ·have := h.cells (g := g) rfl i (.int .i64 l[i]) (by simp [hi])
  rwa [addr_add, Nat.zero_add] at this
 ·rcases h.2 with ⟨e0, _⟩ | ⟨g', cap', cur, e0, hb, hg, hnc, hm, hs, ht⟩
  ·cases e0
  ·injection e0 with e1 _ e3
   injection e1 with e1
   injection e1 with e1
   subst e1
   simp [World.frozen?, hg]
theorem own_blk {w : World} {base e n g cap : Nat} {xs : List Value} (h : w.ownsRow base e 1 (.slice (some ⟨g, 0, none⟩) n cap) n xs) : base ≤ g ∧ g < w.heap.size := h.lt g rfl

structure CellsBd (W : World) (g o : Nat) (x : Board) (ad : Option Addr) (cd : Nat) : Prop where
 c0 : W.cell? ⟨g, o, none⟩ = some (.string x.name)
 c1 : W.cell? ⟨g, o + 1, none⟩ = some (.string x.species)
 c2 : W.cell? ⟨g, o + 2, none⟩ = some (.int .i64 x.length)
 c3 : W.cell? ⟨g, o + 3, none⟩ = some (.int .i64 x.width)
 c4 : W.cell? ⟨g, o + 4, none⟩ = some (.int .i64 x.thick)
 c5 : W.cell? ⟨g, o + 5, none⟩ = some (.int .i64 x.cut)
 c6 : W.cell? ⟨g, o + 6, none⟩ = some (.int .i64 x.moisture)
 c7 : W.cell? ⟨g, o + 7, none⟩ = some (.slice ad x.defects.length cd)
theorem CellsBd.keep {W W' : World} {g o : Nat} {x : Board} {ad : Option Addr} {cd : Nat} (h : CellsBd W g o x ad cd) (hb : Below W.heap.size W W') : CellsBd W' g o x ad cd :=
 ⟨cell_keep hb h.c0, cell_keep hb h.c1, cell_keep hb h.c2, cell_keep hb h.c3, cell_keep hb h.c4, cell_keep hb h.c5, cell_keep hb h.c6, cell_keep hb h.c7⟩
theorem boards_ch {w : World} {a : Option Addr} {l : List Board} (h : Boards.V w a l) : ∃ (AD : Nat → Option Addr) (CD : Nat → Nat), ∀ k b, l[k]? = some b → ∃ g off, a = some ⟨g, off, none⟩ ∧ CellsBd w g (off + k * 8) b (AD k) (CD k) ∧ Rects.V w (AD k) b.defects := by
 have hh : ∀ k : Nat, ∃ p : Option Addr × Nat, ∀ b, l[k]? = some b → ∃ g off, a = some ⟨g, off, none⟩ ∧ CellsBd w g (off + k * 8) b p.1 p.2 ∧ Rects.V w p.1 b.defects := by
  intro k
  by_cases hk : k < l.length
  ·obtain ⟨b, off, ad, cd, ha, ⟨k0, k1, k2, k3, k4, k5, k6, k7⟩, hr, -, -⟩ := h.at' hk
   refine ⟨(ad, cd), fun b' hb' => ?_⟩
   rw [List.getElem?_eq_getElem hk] at hb'
   injection hb' with hb'
   subst hb'
   exact ⟨b, off, ha, ⟨k0, k1, k2, k3, k4, k5, k6, k7⟩, hr⟩
  ·exact ⟨(none, 0), fun b hb => by rw [List.getElem?_eq_none (by omega)] at hb; cases hb⟩
 exact ⟨fun k => (Classical.choose (hh k)).1, fun k => (Classical.choose (hh k)).2, fun k b hb => Classical.choose_spec (hh k) b hb⟩
theorem deskL_congr {A C A' C' : Nat → Addr} : ∀ {S : List BS} {j : Nat}, (∀ i, i < S.length → A (j + i) = A' (j + i) ∧ C (j + i) = C' (j + i)) → deskL A C j S = deskL A' C' j S
 | [], _, _ => rfl
 | s :: S, j, h => by
  have h0 := h 0 (by simp)
  simp only [Nat.add_zero] at h0
  simp only [deskL]
  rw [h0.1, h0.2, deskL_congr (S := S) (j := j + 1) (fun i hi => by have := h (i + 1) (by simpa using hi); rwa [show j + (i + 1) = j + 1 + i by omega] at this)]
def ptrs (X : Nat → Nat) (k : Nat) : List Value := (List.range k).map fun i => Value.pointer (some ⟨X i, 0, none⟩)
theorem ptrs_succ (X : Nat → Nat) (k : Nat) : ptrs X (k + 1) = ptrs X k ++ [.pointer (some ⟨X k, 0, none⟩)] := by simp [ptrs, List.range_succ]
theorem ptrs_congr {X Y : Nat → Nat} {k : Nat} (h : ∀ i, i < k → X i = Y i) : ptrs X k = ptrs Y k := by
 unfold ptrs
 refine List.map_congr_left fun i hi => ?_
 rw [h i (by simpa using hi)]
def StB (gj : Nat) (jc : List Value) (X : Nat → Nat) (AD : Nat → Option Addr) (CD : Nat → Nat) (t : Trim) (stock : List Board) (k : Nat) : Addr → Value → Prop :=
 fun a u => newSt gj jc a u ∨ ∃ i b, i < k ∧ stock[i]? = some b ∧ newSt (X i) (benchCells b (AD i) (CD i) t) a u
def G1Rel (W0 : World) (gj : Nat) (jc : List Value) (AD : Nat → Option Addr) (CD : Nat → Nat) (t : Trim) (stock : List Board) (k : Nat) (v : Value) (w : World) : Prop :=
 ∃ X : Nat → Nat, Held w W0.heap.size ⟨none, 134, 1, ptrs X k⟩ (deskL (AC X) (AR X) 0 (startM (stock.take k) t)) (StB gj jc X AD CD t stock k) v ∧ Below W0.heap.size W0 w
def G1Mid (W0 : World) (gj : Nat) (jc : List Value) (AD : Nat → Option Addr) (CD : Nat → Nat) (t : Trim) (stock : List Board) (k x : Nat) (v : Value) (w : World) : Prop :=
 ∃ X : Nat → Nat, X k = x ∧ Held w W0.heap.size ⟨none, 134, 1, ptrs X k⟩ (deskL (AC X) (AR X) 0 (startM (stock.take (k + 1)) t)) (StB gj jc X AD CD t stock (k + 1)) v ∧ Below W0.heap.size W0 w
section
variable {W0 w w1 : World} {gj : Nat} {jc : List Value} {AD : Nat → Option Addr} {CD : Nat → Nat} {t : Trim} {stock : List Board} {k x : Nat} {v : Value}
theorem G1Rel.start (hj : gj < W0.heap.size) (hc : ∀ o u, jc[o]? = some u → W0.cell? ⟨gj, o, none⟩ = some u) : G1Rel W0 gj jc AD CD t stock 0 (.slice none 0 0) W0 := by
 refine ⟨fun _ => 0, ?_, Below.refl _ _⟩
 have h := Held.start W0 W0.heap.size 134 1 (StB gj jc (fun _ => 0) AD CD t stock 0) (fun a u hu => ?_)
 ·simpa [ptrs, startM, deskL] using h
 ·rcases hu with ⟨o, rfl, ho⟩ | ⟨i, b, hi, _⟩
  ·exact ⟨rfl, hj, hc o u ho⟩
  ·omega
theorem G1Rel.own (h : G1Rel W0 gj jc AD CD t stock k v w) : ∃ X : Nat → Nat, w.ownsRow W0.heap.size 134 1 v k (ptrs X k) := by
 obtain ⟨X, h1, h2⟩ := h
 obtain ⟨n, hn⟩ := h1.own
 have : k = n := by have := hn.1; simpa [ptrs] using this
 subst this
 exact ⟨X, hn⟩
theorem G1Rel.below (h : G1Rel W0 gj jc AD CD t stock k v w) : Below W0.heap.size W0 w := by
 obtain ⟨X, h1, h2⟩ := h
 exact h2
theorem G1Rel.job (h : G1Rel W0 gj jc AD CD t stock k v w) {o : Nat} {u : Value} (ho : jc[o]? = some u) : w.cell? ⟨gj, o, none⟩ = some u := by
 obtain ⟨X, h1, h2⟩ := h
 exact h1.cell (.inl ⟨o, rfl, ho⟩)
theorem G1Rel.mid {b : Board} (h : G1Rel W0 gj jc AD CD t stock k v w) (hk : stock[k]? = some b) (hx : w.heap.size ≤ x) (hb : Below w.heap.size w w1)
    (hD : Desk w1 w.heap.size (setB [slotC ⟨x, 11, none⟩ [], slotR ⟨x, 12, none⟩ []] 0 ⟨x, 11, none⟩ ⟨x, 12, none⟩ ⟨[] ++ [wasteC], [] ++ [usableR b t]⟩) (newSt x (benchCells b (AD k) (CD k) t))) : G1Mid W0 gj jc AD CD t stock k x v w1 := by
 obtain ⟨X, h1, h2⟩ := h
 have hkl : k < stock.length := (List.getElem?_eq_some_iff.1 hk).1
 have hne : ∀ i, i < k → (fun i => if i = k then x else X i) i = X i := fun i hi => by simp only; rw [if_neg (by omega)]
 refine ⟨fun i => if i = k then x else X i, by simp, ?_, h2.trans (hb.mono h2.size)⟩
 have hj := h1.join hb hD h2.size (fun a u ⟨o, ha, _⟩ => by rw [ha]; exact hx)
 have hS : startM (stock.take (k + 1)) t = startM (stock.take k) t ++ [⟨[wasteC], [usableR b t]⟩] := by
  unfold startM
  rw [List.take_succ_eq_append_getElem hkl, List.map_append]
  have : stock[k] = b := by rw [List.getElem?_eq_getElem hkl] at hk; injection hk
  rw [this]; rfl
 have hlen : (startM (stock.take k) t).length = k := by simp [startM]; omega
 rw [hS, deskL_app, ptrs_congr hne, hlen, Nat.zero_add]
 rw [show deskL (AC fun i => if i = k then x else X i) (AR fun i => if i = k then x else X i) 0 (startM (stock.take k) t) = deskL (AC X) (AR X) 0 (startM (stock.take k) t) from deskL_congr (fun i hi => by
  have h3 : ¬ (0 + i = k) := by omega
  simp only [AC, AR]; rw [if_neg h3]; exact ⟨rfl, rfl⟩)]
 have e1 : (AC fun i => if i = k then x else X i) k = ⟨x, 11, none⟩ := by simp [AC]
 have e2 : (AR fun i => if i = k then x else X i) k = ⟨x, 12, none⟩ := by simp [AR]
 rw [e1, e2]
 refine hj.weak fun a u hu => ?_
 rcases hu with hu | ⟨i, b', hi, hb', hu⟩
 ·exact .inl (.inl hu)
 ·rcases Nat.lt_succ_iff_lt_or_eq.1 hi with hi' | rfl
  ·simp only at hu
   rw [if_neg (by omega)] at hu
   exact .inl (.inr ⟨i, b', hi', hb', hu⟩)
  ·rw [hk] at hb'
   injection hb' with hb'
   subst hb'
   simp only [if_true] at hu
   exact .inr hu
theorem G1Mid.own (h : G1Mid W0 gj jc AD CD t stock k x v w) : ∃ X : Nat → Nat, w.ownsRow W0.heap.size 134 1 v k (ptrs X k) := by
 obtain ⟨X, h0, h1, h2⟩ := h
 obtain ⟨n, hn⟩ := h1.own
 have : k = n := by have := hn.1; simpa [ptrs] using this
 subst this
 exact ⟨X, hn⟩
theorem G1Mid.keep (h : G1Mid W0 gj jc AD CD t stock k x v w) (hb : Below w.heap.size w w1) : G1Mid W0 gj jc AD CD t stock k x v w1 := by
 obtain ⟨X, h0, h1, h2⟩ := h
 exact ⟨X, h0, h1.keep hb, h2.trans (hb.mono h2.size)⟩
theorem G1Mid.below (h : G1Mid W0 gj jc AD CD t stock k x v w) : Below W0.heap.size W0 w := by
 obtain ⟨X, h0, h1, h2⟩ := h
 exact h2
theorem own_uniq {base e n m g : Nat} {xs ys : List Value} (h : w.ownsRow base e 1 v n xs) (h' : w.ownsRow base e 1 v m ys) : xs = ys := by
 rcases h.2 with ⟨e0, rfl⟩ | ⟨g1, cap, cur, e0, hb, hg, hnc, hm, hs, ht⟩ <;> rcases h'.2 with ⟨k0, rfl⟩ | ⟨g2, cap2, cur2, k0, kb, kg, knc, km, ks, kt⟩
 ·have h1 := h.1; have h2 := h'.1
  simp at h1 h2; rw [h1, h2]
 ·rw [e0] at k0; cases k0
 ·rw [k0] at e0; cases e0
 ·rw [e0] at k0
  injection k0 with k1 k2 k3
  injection k1 with k1
  injection k1 with k1
  subst k1 k2
  rw [hg] at kg
  injection kg with kg
  injection kg with kg
  subst kg
  rw [← ht, ← kt]
theorem G1Mid.append {v' : Value} {Y : Nat → Nat} (h : G1Mid W0 gj jc AD CD t stock k x v w) (hY : w.ownsRow W0.heap.size 134 1 v k (ptrs Y k)) (ho : w1.ownsRow W0.heap.size 134 1 v' (k + 1) (ptrs Y k ++ [.pointer (some ⟨x, 0, none⟩)])) (hg : w.grownBy w1 v.ownBlock)
    (hv : v'.ownBlock = v.ownBlock ∨ v'.ownBlock = some w.heap.size) : G1Rel W0 gj jc AD CD t stock (k + 1) v' w1 := by
 have hown := h.own
 obtain ⟨X, h0, h1, h2⟩ := h
 obtain ⟨n, hn⟩ := h1.own
 have he : ptrs X k = ptrs Y k := own_uniq (g := 0) hn hY
 refine ⟨X, ?_, h2.grown hg h2.size (fun g hgg => (hn.lt g hgg).1)⟩
 have := h1.append (v' := v') (news := [.pointer (some ⟨x, 0, none⟩)]) (m := k + 1) (by simp only; rw [he]; exact ho) hg hv
 rw [ptrs_succ, h0]; exact this
theorem G1Rel.all (h : G1Rel W0 gj jc AD CD t stock stock.length v w) (hR : ∀ k b, stock[k]? = some b → Rects.V W0 (AD k) b.defects) :
    ∃ (X : Nat → Nat) (a : Option Addr) (cp : Nat) (St : Addr → Value → Prop), v = .slice a stock.length cp ∧ Desk w W0.heap.size (deskL (AC X) (AR X) 0 (startM stock t)) St ∧
     (stock = [] ∨ ∃ gb, a = some ⟨gb, 0, none⟩ ∧ Benches W0 X AD CD t stock gb St) ∧ ∀ o u, jc[o]? = some u → St ⟨gj, o, none⟩ u := by
 obtain ⟨X0, hown⟩ := h.own
 obtain ⟨a, c, hv, h3, h4⟩ := own_slice hown
 obtain ⟨X, h1, h2⟩ := h
 rw [List.take_length] at h1
 refine ⟨X, a, c, _, hv, h1.drop, ?_, fun o u ho => .inl (.inl ⟨o, rfl, ho⟩)⟩
 by_cases hne : stock = []
 ·exact .inl hne
 ·right
  rcases hown.2 with ⟨_, h0⟩ | ⟨gb, cap, cur, hv2, hb, hg, _⟩
  ·exact absurd (List.length_eq_zero_iff.1 h0) hne
  ·rw [hv] at hv2
   injection hv2 with ha _ _
   refine ⟨gb, ha, ⟨fun i b hb o u hu => .inl (.inr ⟨i, b, (List.getElem?_eq_some_iff.1 hb).1, hb, newSt_at hu⟩), hR, fun i hi => .inr ⟨gb, i, by rw [hv, ha]; rfl, rfl, by simp [ptrs, hi]⟩⟩⟩
end
theorem Benches.mono {W0 : World} {X : Nat → Nat} {AD : Nat → Option Addr} {CD : Nat → Nat} {t : Trim} {stock : List Board} {ag : Option Addr} {St St' : Addr → Value → Prop} (h : stock = [] ∨ ∃ gb, ag = some ⟨gb, 0, none⟩ ∧ Benches W0 X AD CD t stock gb St) (hs : ∀ a v, St a v → St' a v) :
    stock = [] ∨ ∃ gb, ag = some ⟨gb, 0, none⟩ ∧ Benches W0 X AD CD t stock gb St' := by
 rcases h with h | ⟨gb, ha, hB⟩
 ·exact .inl h
 ·exact .inr ⟨gb, ha, ⟨fun k b hb o u hu => hs _ _ (hB.st k b hb o u hu), hB.rects, fun k hk => hs _ _ (hB.ptr k hk)⟩⟩
theorem hasBench_all (base : Nat) (X : Nat → Nat) (AD : Nat → Option Addr) (CD : Nat → Nat) (t : Trim) (stock : List Board) (blanks : List Blank) (S : List BS) (St : Addr → Value → Prop) (ab ag : Option Addr) (cb gi gj cp number : Nat) (W0 w : World) (hW0 : W0.heap.size = base) (h0 : Below base W0 w)
    (hD : Desk w base (deskL (AC X) (AR X) 0 S) St) (hB : stock = [] ∨ ∃ gb, ag = some ⟨gb, 0, none⟩ ∧ Benches W0 X AD CD t stock gb St) (hJ : JobOk stock blanks t) (hS : S.length = stock.length) (hG : GoodAll 80000 S) (hn : number < blanks.length)
    (hi : St ⟨gi, 0, none⟩ (.int .i64 number)) (hj : St ⟨gj, 1, none⟩ (.slice ab blanks.length cb)) (hb : Blanks.V W0 ab blanks) :
    Calls Tryz.prog 80 #[.slice ag stock.length cp, .func (.func 81) #[] #[.pointer (some ⟨gi, 0, none⟩), .pointer (some ⟨gj, 0, none⟩)]] w
     fun e w' => e = .returned (.bool (scan (putF t.kerf stock (bl blanks number) number S) stock.length 0).isSome) ∧ Desk w' base (deskL (AC X) (AR X) 0 (setO S (scan (putF t.kerf stock (bl blanks number) number S) stock.length 0))) St ∧ Below base w w' := by
 rcases hB with hB | ⟨gb, rfl, hB⟩
 ·subst hB
  have hD' := Lib.hid hD
  have hnil : Hid (∀ w, Calls Tryz.prog 105 #[.slice ag 0 cp, .func (.func 81) #[] #[.pointer (some ⟨gi, 0, none⟩), .pointer (some ⟨gj, 0, none⟩)]] w fun e w' => e = .returned (.int .i64 (-1)) ∧ w = w') := Lib.hid (fun w => by
   go_enter Tryz.func105, Tryz.ntmps105
   go_wp2_with (first
    | (with_reducible refine rounds_step ?_)
    | (with_reducible refine wp_loop_rounds 1 ?_))
   go_ret
   exact ⟨rfl, rfl⟩)
  clear hD hG hS hJ hi hj hb h0
  simp only [List.length_nil, scan, setO, Option.isSome_none]
  go_enter Tryz.func80, Tryz.ntmps80
  go_wp2_with (go_at_call 105; refine (hnil.out _).mono ?_; rintro e w1 ⟨rfl, rfl⟩)
  go_ret
  exact ⟨rfl, hD'.out, Below.refl _ _⟩
 ·exact hasBench_any base X AD CD t stock blanks S St ab cb gi gj gb cp number W0 w hW0 h0 hD hB hJ hS hG hn hi hj hb
end Go.Proofs.YtjmgboipbhddlaaGreatDoor

set_option linter.unusedVariables false
set_option linter.unusedSimpArgs false
namespace Go.Proofs.YtjmgboipbhddlaaGreatDoor
open Go Go.RowKit

def jobCells (j : Job) (a1 : Option Addr) (c1 : Nat) (a2 : Option Addr) (c2 : Nat) : List Value := [.slice a1 j.stock.length c1, .slice a2 j.blanks.length c2, .int .i64 j.trim.kerf, .int .i64 j.trim.ends, .int .i64 j.trim.sides]
theorem JB.cells {W : World} {g : Nat} {j : Job} {a1 : Option Addr} {c1 : Nat} {a2 : Option Addr} {c2 : Nat} (h : JB W g j a1 c1 a2 c2) : ∀ o u, (jobCells j a1 c1 a2 c2)[o]? = some u → W.cell? ⟨g, o, none⟩ = some u := by
 intro o u ho
 match o, ho with
 | 0, ho => injection ho with ho; rw [← ho]; exact h.s
 | 1, ho => injection ho with ho; rw [← ho]; exact h.b
 | 2, ho => injection ho with ho; rw [← ho]; exact h.k
 | 3, ho => injection ho with ho; rw [← ho]; exact h.e
 | 4, ho => injection ho with ho; rw [← ho]; exact h.d
def planL (l : List (Nat × List Cut)) : List Layout := l.map fun p => ⟨p.1, p.2⟩
def PlanPost (w : World) (r : List (Nat × List Cut) × Int) (e : Ending) (w' : World) : Prop :=
 ∃ (a : Option Addr) (c : Nat), e = .returned (.tuple #[.slice a r.1.length c, .int .i64 r.2]) ∧ Layouts.V w' a (planL r.1) ∧ r.1.length ≤ c ∧ c ≤ maxLen ∧ Below w.heap.size w w'
theorem PlanPost.empty {w w' : World} {r : List (Nat × List Cut) × Int} {x : Int} (hr : r = ([], x)) (hb : Below w.heap.size w w') : PlanPost w r (.returned (.tuple #[.slice none 0 0, .int .i64 x])) w' := by
 subst hr
 exact ⟨none, 0, rfl, fun h => absurd rfl h, Nat.le_refl _, Nat.zero_le _, hb⟩
theorem PlanPost.full {w w' : World} {r : List (Nat × List Cut) × Int} {acc : List (Nat × List Cut)} {a : Option Addr} {c : Nat} (hr : r = (acc, 0)) (hv : Layouts.V w' a (planL acc)) (hl : acc.length ≤ c) (hc : c ≤ 9223372036854775807) (hb : Below w.heap.size w w') : PlanPost w r (.returned (.tuple #[.slice a acc.length c, .int .i64 0])) w' := by
 subst hr
 exact ⟨a, c, rfl, hv, hl, by unfold maxLen; omega, hb⟩
structure NewB (W : World) (g6 x : Nat) (b : Board) (ad : Option Addr) (cd : Nat) (t : Trim) : Prop where
 bd : CellsBd W g6 0 b ad cd
 xs : ∀ o u, (benchCells b ad cd t)[o]? = some u → W.cell? ⟨x, o, none⟩ = some u
 cc : W.cell? ⟨x, 11, none⟩ = some (.slice none 0 0)
 rr : W.cell? ⟨x, 12, none⟩ = some (.slice none 0 0)
 fc : W.frozen? ⟨x, 11, none⟩ = false
 fr : W.frozen? ⟨x, 12, none⟩ = false
theorem bench_of {W : World} {x : Nat} {b : Board} {ad : Option Addr} {cd : Nat} {t : Trim} (h0 : W.cell? ⟨x, 0, none⟩ = some (.string b.name)) (h1 : W.cell? ⟨x, 1, none⟩ = some (.string b.species)) (h2 : W.cell? ⟨x, 2, none⟩ = some (.int .i64 b.length)) (h3 : W.cell? ⟨x, 3, none⟩ = some (.int .i64 b.width))
    (h4 : W.cell? ⟨x, 4, none⟩ = some (.int .i64 b.thick)) (h5 : W.cell? ⟨x, 5, none⟩ = some (.int .i64 b.cut)) (h6 : W.cell? ⟨x, 6, none⟩ = some (.int .i64 b.moisture)) (h7 : W.cell? ⟨x, 7, none⟩ = some (.slice ad b.defects.length cd))
    (h8 : W.cell? ⟨x, 8, none⟩ = some (.int .i64 t.kerf)) (h9 : W.cell? ⟨x, 9, none⟩ = some (.int .i64 t.ends)) (h10 : W.cell? ⟨x, 10, none⟩ = some (.int .i64 t.sides)) : ∀ o u, (benchCells b ad cd t)[o]? = some u → W.cell? ⟨x, o, none⟩ = some u := by
 intro o u ho
 match o, ho with
 | 0, ho => injection ho with ho; rw [← ho]; exact h0
 | 1, ho => injection ho with ho; rw [← ho]; exact h1
 | 2, ho => injection ho with ho; rw [← ho]; exact h2
 | 3, ho => injection ho with ho; rw [← ho]; exact h3
 | 4, ho => injection ho with ho; rw [← ho]; exact h4
 | 5, ho => injection ho with ho; rw [← ho]; exact h5
 | 6, ho => injection ho with ho; rw [← ho]; exact h6
 | 7, ho => injection ho with ho; rw [← ho]; exact h7
 | 8, ho => injection ho with ho; rw [← ho]; exact h8
 | 9, ho => injection ho with ho; rw [← ho]; exact h9
 | 10, ho => injection ho with ho; rw [← ho]; exact h10
theorem bench_info : (Tryz.prog.info? 134).map (fun i => (i.zero, i.size, i.bytes)) = some (some (.pointer none), 1, 8) := by kernel_rfl
theorem layout_info : (Tryz.prog.info? 55).map (fun i => (i.zero, i.size, i.bytes)) = some (some (.agg #[.int .i64 0, .slice none 0 0]), 2, 32) := by kernel_rfl
def cellsL (CG : Nat → Nat × Nat) (p : Nat × List Cut) : List Value := [.int .i64 p.1, .slice (some ⟨(CG p.1).1, 0, none⟩) p.2.length (CG p.1).2]
theorem cellsL_len (CG : Nat → Nat × Nat) (p : Nat × List Cut) : (cellsL CG p).length = 2 := rfl
theorem cellsL_one (CG : Nat → Nat × Nat) (p : Nat × List Cut) : ∀ v ∈ cellsL CG p, v.oneCell' = true := by
 intro v hv
 simp only [cellsL, List.mem_cons, List.not_mem_nil, or_false] at hv
 rcases hv with rfl | rfl <;> rfl
structure CutsAt (w : World) (X : Nat → Nat) (S : List BS) (CG : Nat → Nat × Nat) : Prop where
 cell : ∀ i, i < S.length → w.cell? ⟨X i, 11, none⟩ = some (.slice (some ⟨(CG i).1, 0, none⟩) (S.getD i default).cuts.length (CG i).2)
 row : ∀ i, i < S.length → Cuts.V w (some ⟨(CG i).1, 0, none⟩) (S.getD i default).cuts
 cap : ∀ i, i < S.length → (S.getD i default).cuts.length ≤ (CG i).2 ∧ (CG i).2 ≤ 9223372036854775807
theorem cutAt_of {w : World} {b o : Nat} {x : Cut} (hw : x.wf) (h : ∀ c u, (cellsC x)[c]? = some u → w.cell? ⟨b, o + c, none⟩ = some u) : Cut.at w b o x :=
 ⟨h 0 _ rfl, h 1 _ rfl, h 2 _ rfl, h 3 _ rfl, h 4 _ rfl, hw⟩
theorem Desk.cutsAt {w : World} {base n : Nat} {X : Nat → Nat} {S : List BS} {St : Addr → Value → Prop} (h : Desk w base (deskL (AC X) (AR X) 0 S) St) (hG : AllOk n S) : ∃ CG, CutsAt w X S CG := by
 have hh : ∀ i : Nat, ∃ p : Nat × Nat, i < S.length → w.cell? ⟨X i, 11, none⟩ = some (.slice (some ⟨p.1, 0, none⟩) (S.getD i default).cuts.length p.2) ∧ Cuts.V w (some ⟨p.1, 0, none⟩) (S.getD i default).cuts ∧ (S.getD i default).cuts.length ≤ p.2 ∧ p.2 ≤ 9223372036854775807 := by
  intro i
  by_cases hi : i < S.length
  ·obtain ⟨g, cap, k1, -, -, -, k5, k6, k7⟩ := h.rowC (deskL_at hi) (hG.good.get hi).2.1
   refine ⟨(g, cap), fun _ => ⟨k1, fun _ => ⟨g, 0, rfl, fun k x hx => ?_⟩, k5, k6⟩⟩
   obtain ⟨hk, rfl⟩ := List.getElem?_eq_some_iff.1 hx
   have hwf : WfB (S.getD i default) := by rw [List.getD_eq_getElem?_getD, List.getElem?_eq_getElem hi]; exact hG.wf _ (List.getElem_mem hi)
   refine cutAt_of (hwf _ (List.getElem_mem hk)) fun c u hc => ?_
   have hc5 : c < 5 := (List.getElem?_eq_some_iff.1 hc).1
   rw [Nat.zero_add, (k7 k hk c hc5).1, hc]
  ·exact ⟨(0, 0), fun h => absurd h hi⟩
 exact ⟨fun i => Classical.choose (hh i), ⟨fun i hi => (Classical.choose_spec (hh i) hi).1, fun i hi => (Classical.choose_spec (hh i) hi).2.1, fun i hi => (Classical.choose_spec (hh i) hi).2.2⟩⟩
theorem CutsAt.keep {w w' : World} {X : Nat → Nat} {S : List BS} {CG : Nat → Nat × Nat} (h : CutsAt w X S CG) (hb : Below w.heap.size w w') : CutsAt w' X S CG :=
 ⟨fun i hi => cell_keep hb (h.cell i hi), fun i hi => (h.row i hi).keep hb, h.cap⟩
structure OutOk (S : List BS) (m : Nat) (acc : List (Nat × List Cut)) : Prop where
 len : acc.length ≤ m
 mem : ∀ p ∈ acc, p.1 < S.length ∧ p.2 = (S.getD p.1 default).cuts
theorem out_layouts {w : World} {base n c : Nat} {a : Option Addr} {X : Nat → Nat} {S : List BS} {CG : Nat → Nat × Nat} {m : Nat} {acc : List (Nat × List Cut)} (hC : CutsAt w X S CG) (hO : OutOk S m acc) (hS : S.length ≤ 100) (h : w.ownsRow base 55 2 (.slice a n c) n (acc.flatMap (cellsL CG))) :
    Layouts.V w a (planL acc) := by
 intro hne
 have hne' : acc ≠ [] := by rintro rfl; exact hne rfl
 obtain ⟨g, cap, hv, _, _, _, _, _, hcell⟩ := own_cells (cellsL_len CG) h hne' (by decide)
 injection hv with ha _ _
 refine ⟨g, 0, ha, fun i x hi => ?_⟩
 unfold planL at hi
 rw [List.getElem?_map, Option.map_eq_some_iff] at hi
 obtain ⟨p, hp, rfl⟩ := hi
 obtain ⟨hi', rfl⟩ := List.getElem?_eq_some_iff.1 hp
 obtain ⟨h1, h2⟩ := hO.mem _ (List.getElem_mem hi')
 have e0 := (hcell i hi' 0 (by decide)).1
 have e1 := (hcell i hi' 1 (by decide)).1
 refine ⟨some ⟨(CG acc[i].1).1, 0, none⟩, (CG acc[i].1).2, ?_, ?_, ?_, ?_, ?_, ?_⟩
 ·rw [Nat.zero_add]; exact e0
 ·rw [Nat.zero_add]; exact e1
 ·simp only; rw [h2]; exact hC.row _ h1
 ·simp only; rw [h2]; exact (hC.cap _ h1).1
 ·have := (hC.cap _ h1).2; unfold maxLen; omega
 ·unfold Layout.wf; simp only; omega
theorem out_big {S : List BS} {m : Nat} {acc : List (Nat × List Cut)} {t : Option (List (Nat × List Cut))} (hm : m < S.length) (h : t = outGo m (S.drop m) acc) (hb : 400 < (S.getD m default).cuts.length) : t = none := by
 rw [h, List.drop_eq_getElem_cons hm, outGo, if_pos (by rw [List.getD_eq_getElem?_getD, List.getElem?_eq_getElem hm] at hb; exact hb)]
theorem out_used {S : List BS} {m : Nat} {acc : List (Nat × List Cut)} {t : Option (List (Nat × List Cut))} (hm : m < S.length) (h : t = outGo m (S.drop m) acc) (hb : ¬ 400 < (S.getD m default).cuts.length) (hu : (S.getD m default).cuts.any isPiece = true) :
    t = outGo (m + 1) (S.drop (m + 1)) (acc ++ [(m, (S.getD m default).cuts)]) := by
 have e : S.getD m default = S[m] := by rw [List.getD_eq_getElem?_getD, List.getElem?_eq_getElem hm]; rfl
 rw [e] at hb hu ⊢
 rw [h, List.drop_eq_getElem_cons hm, outGo, if_neg hb, if_pos (by exact hu)]
theorem out_free {S : List BS} {m : Nat} {acc : List (Nat × List Cut)} {t : Option (List (Nat × List Cut))} (hm : m < S.length) (h : t = outGo m (S.drop m) acc) (hb : ¬ 400 < (S.getD m default).cuts.length) (hu : (S.getD m default).cuts.any isPiece = false) :
    t = outGo (m + 1) (S.drop (m + 1)) acc := by
 have e : S.getD m default = S[m] := by rw [List.getD_eq_getElem?_getD, List.getElem?_eq_getElem hm]; rfl
 rw [e] at hb hu
 rw [h, List.drop_eq_getElem_cons hm, outGo, if_neg hb, if_neg (by
  have hu' : usedB S[m].cuts = false := hu
  rw [hu']; decide)]
theorem out_end {S : List BS} {m : Nat} {acc : List (Nat × List Cut)} {t : Option (List (Nat × List Cut))} (hm : S.length ≤ m) (h : t = outGo m (S.drop m) acc) : t = some acc := by
 rw [h, List.drop_of_length_le hm, outGo]
theorem OutOk.add {S : List BS} {m : Nat} {acc : List (Nat × List Cut)} (h : OutOk S m acc) (hm : m < S.length) : OutOk S (m + 1) (acc ++ [(m, (S.getD m default).cuts)]) := by
 refine ⟨by have := h.len; simp; omega, fun p hp => ?_⟩
 rcases List.mem_append.1 hp with hp | hp
 ·exact h.mem p hp
 ·obtain rfl : p = (m, (S.getD m default).cuts) := by simpa using hp
  exact ⟨hm, rfl⟩
theorem OutOk.skip {S : List BS} {m : Nat} {acc : List (Nat × List Cut)} (h : OutOk S m acc) : OutOk S (m + 1) acc := ⟨by have := h.len; omega, h.mem⟩
theorem greedyM_none {stock : List Board} {blanks : List Blank} {t : Trim} (h : runM t.kerf stock blanks (seqM blanks) (startM stock t) = none) : greedyM stock blanks t = ([], 12) := by unfold greedyM; rw [h]
theorem greedyM_big {stock : List Board} {blanks : List Blank} {t : Trim} {S : List BS} (h : runM t.kerf stock blanks (seqM blanks) (startM stock t) = some S) (h2 : outGo 0 S [] = none) : greedyM stock blanks t = ([], 8) := by unfold greedyM; simp only [h, h2]
theorem greedyM_some {stock : List Board} {blanks : List Blank} {t : Trim} {S : List BS} {r : List (Nat × List Cut)} (h : runM t.kerf stock blanks (seqM blanks) (startM stock t) = some S) (h2 : outGo 0 S [] = some r) : greedyM stock blanks t = (r, 0) := by unfold greedyM; simp only [h, h2]

set_option maxRecDepth 100000 in
set_option maxHeartbeats 16000000 in
theorem greedyP_any (j : Job) (a1 : Option Addr) (c1 : Nat) (a2 : Option Addr) (c2 : Nat) (w : World) (hs : Boards.V w a1 j.stock) (hb : Blanks.V w a2 j.blanks) (hJ : JobOk j.stock j.blanks j.trim) (hl20 : j.blanks.length < 20) :
    Calls Tryz.prog 45 #[.agg #[.slice a1 j.stock.length c1, .slice a2 j.blanks.length c2, .int .i64 j.trim.kerf, .int .i64 j.trim.ends, .int .i64 j.trim.sides]] w (PlanPost w (greedyM j.stock j.blanks j.trim)) := by
 obtain ⟨i0, hi0, hz0, hz1, hz2⟩ := info_parts bench_info
 obtain ⟨l0, hl0, hy0, hy1, hy2⟩ := info_parts layout_info
 obtain ⟨n0, hn0, hx0, hx1, hx2⟩ := info_parts int_info
 go_enter Tryz.func45, Tryz.ntmps45
 go_upto_region 2 with fail
 refine gen_world (fun W => JB W w.heap.size j a1 c1 a2 c2 ∧ Below w.heap.size w W ∧ W.heap.size = w.heap.size + 1) ?_ ?_
 ·exact ⟨⟨by simp, by simp, by simp, by simp, by simp⟩, (Below.refl _ _).alloc (Nat.le_refl _) _, by simp⟩
 rintro W0 ⟨hJB, hbW, hzW⟩
 have hs0 := hs.keep hbW
 have hb0 := hb.keep hbW
 have HBW := Lib.hid hbW
 obtain ⟨gj, hgj⟩ : ∃ g, g = w.heap.size := ⟨_, rfl⟩
 rw [← hgj] at hJB hzW ⊢
 have HGJ := Lib.hid hgj
 clear hgj hs hb hbW
 obtain ⟨AD, CD, hch⟩ := boards_ch hs0
 have HCH := Lib.hid hch
 have HJB := Lib.hid hJB
 have hgjl : gj < W0.heap.size := by omega
 have HR1 := Lib.hid (G1Rel.start (AD := AD) (CD := CD) (t := j.trim) (stock := j.stock) hgjl hJB.cells)
 have HZW := Lib.hid hzW
 obtain ⟨j0, -⟩ := hJB
 clear hch hzW
 go_wp2_with fail
 clear j0
 go_loopw [18, 4] (fun iv v wr => ∃ k : Nat, k ≤ j.stock.length ∧ iv = .int .i64 k ∧ G1Rel W0 gj (jobCells j a1 c1 a2 c2) AD CD j.trim j.stock k v wr) (fun iv _ _ => j.stock.length - (intOf iv).toNat)
 case atStart => exact ⟨0, Nat.zero_le _, rfl, HR1.out⟩
 case round =>
  clear HR1
  obtain ⟨k, hk, rfl, hR⟩ := hrel
  have HR := Lib.hid hR
  by_cases hlt : k < j.stock.length
  ·obtain ⟨b, hbk⟩ : ∃ b, j.stock[k]? = some b := ⟨_, List.getElem?_eq_getElem hlt⟩
   have HBK := Lib.hid hbk
   have hbs := hJ.size b (List.mem_of_getElem? hbk)
   have htr := hJ.trim
   obtain ⟨g, off, ha, hcb, -⟩ := HCH.out k b hbk
   subst ha
   have hbr := hR.below
   obtain ⟨b0, b1, b2, b3, b4, b5, b6, b7⟩ := hcb.keep hbr
   have jk := hR.job (o := 2) rfl
   have je := hR.job (o := 3) rfl
   have jd := hR.job (o := 4) rfl
   have hki : (k : Int) < (j.stock.length : Int) := by omega
   have HBR := Lib.hid hbr
   have HLT := Lib.hid (show k < j.stock.length ∧ j.stock.length ≤ 100 from ⟨hlt, hJ.lenS⟩)
   have hgw := block_lt_of_cell jk
   simp only at hgw
   have v1 : IntKind.i64.wrap ((k : Int) + 1) = (k : Int) + 1 := IntWalk.i64_in _ (by have := HLT.out; omega)
   clear hbk hcb hR hbr
   go_upto_region 6 with fail
   refine gen_world (fun W => NewB W wr.heap.size (wr.heap.size + 1) b (AD k) (CD k) j.trim ∧ (W.cell? ⟨gj, 2, none⟩ = some (.int .i64 j.trim.kerf) ∧ W.cell? ⟨gj, 3, none⟩ = some (.int .i64 j.trim.ends) ∧ W.cell? ⟨gj, 4, none⟩ = some (.int .i64 j.trim.sides)) ∧ Below wr.heap.size wr W) ?_ ?_
   ·refine ⟨⟨⟨by simp [go_sem], by simp [go_sem], by simp [go_sem], by simp [go_sem], by simp [go_sem], by simp [go_sem], by simp [go_sem], by simp [go_sem]⟩, bench_of (by simp [go_sem]) (by simp [go_sem]) (by simp [go_sem]) (by simp [go_sem]) (by simp [go_sem]) (by simp [go_sem]) (by simp [go_sem]) (by simp [go_sem]) (by simp [go_sem]) (by simp [go_sem]) (by simp [go_sem]), by simp [go_sem], by simp [go_sem], by simp [go_sem], by simp [go_sem]⟩, ⟨by simp [go_sem, *], by simp [go_sem, *], by simp [go_sem, *]⟩, ?_⟩
    repeat (first | (with_reducible exact Below.refl _ _) | (with_reducible refine Below.setCell ?_ (by simp) _) | (with_reducible refine Below.alloc ?_ (by simp) _))
   rintro W ⟨hN, ⟨jk2, je2, jd2⟩, hbW⟩
   clear b0 b1 b2 b3 b4 b5 b6 b7 jk je jd
   have HD := Lib.hid (desk_fresh (base := wr.heap.size) (Nat.le_succ _) hN.cc hN.rr hN.fc hN.fr (by simp [benchCells]) hN.xs)
   have HBW2 := Lib.hid hbW
   obtain ⟨b0, b1, b2, b3, b4, b5, b6, b7⟩ := hN.bd
   simp only [Nat.zero_add] at b0 b1 b2 b3 b4 b5 b6 b7
   clear hN hbW
   go_upto_region 7 with (first
    | (go_at_call 75; refine (usable_is b j.trim _ (AD k) (CD k) _ rfl (by omega) (by omega)).mono ?_; rintro e w2 ⟨rfl, hb2⟩; have HD2 := Lib.hid (HD.out.keep hb2); have HB2 := Lib.hid (HBW2.out.trans (hb2.mono HBW2.out.size)); clear hb2)
    | (go_at_call 74; refine (add_any (wr.heap.size + 1) wr.heap.size _ 0 ⟨[], []⟩ _ (usableR b j.trim) _ HD2.out (fresh_at _) (by simp) rfl).mono ?_; rintro e w3 ⟨rfl, hD3, hb3⟩; have HM := Lib.hid (HR.out.mid HBK.out (Nat.le_succ _) (HB2.out.trans hb3) hD3); clear hD3 hb3))
   clear HD HD2 HBW2 HB2 HR
   obtain ⟨Y, hY⟩ := HM.out.own
   have HY := Lib.hid hY
   have hzb := HM.out.below.size
   clear hY b0 b1 b2 b3 b4 b5 b6 b7 jk2 je2 jd2
   go_wp2_with (at_builtin; refine wpList_append_here _ rfl _ _ 133 rfl W0.heap.size 134 i0 (.pointer none) 1 8 Tryz.underlying133 hi0 hz0 hz1 hz2 rfl (by decide) _ k _ rfl (HY.out.alloc _) ⟨w3.heap.size, 0, none⟩ 1 1 [.pointer (some ⟨wr.heap.size + 1, 0, none⟩)] rfl rfl (news_of _ _ _ _ rfl) (by intro v hv; obtain rfl := List.mem_singleton.1 hv; rfl) (by decide) (by have := HLT.out; simp only [maxLen]; omega) (by have := HLT.out; omega) (by simp; omega) ?_; intro v4 w4 ho4 hg4 hv4; have HO4 := Lib.hid ho4; have HG4 := Lib.hid hg4; have HV4 := Lib.hid hv4; clear ho4 hg4 hv4)
   go_roundw
   case rel => exact ⟨k + 1, HLT.out.1, by have := HLT.out; go_num, (HM.out.keep ((Below.refl _ _).alloc (Nat.le_refl _) _)).append (HY.out.alloc _) HO4.out HG4.out HV4.out⟩
   case measure => have := HLT.out; simp [intOf]; omega
  ·obtain rfl : k = j.stock.length := by omega
   obtain ⟨X, ag, cp, St, rfl, hD1, hB1, hst1⟩ := hR.all (fun i b hb => let ⟨_, _, _, _, h⟩ := HCH.out i b hb; h)
   have HD1 := Lib.hid hD1
   have HB1 := Lib.hid hB1
   have HBE1 := Lib.hid hR.below
   have HST1 := Lib.hid hst1
   have HST := Lib.hid (hst1 1 _ rfl)
   have jb := hD1.cell (hst1 1 _ rfl)
   have hn30 := hJ.lenB
   have hmk : ∀ W : World, (Instr.makeSlice 73 (.int .i64 (j.blanks.length : Int)) (.int .i64 (j.blanks.length : Int))).run Tryz.prog W = .ok (.slice (some ⟨W.heap.size, 0, none⟩) j.blanks.length j.blanks.length) (W.alloc (.cells (madeCells #[.int .i64 0] j.blanks.length) 3)) := fun W => by
    have := run_make (P := Tryz.prog) W 73 3 n0 (.int .i64 0) Tryz.underlying73 hn0 hx0 .i64 .i64 (j.blanks.length : Int) (j.blanks.length : Int) (by omega) (Int.le_refl _) (by rw [hx2]; omega) (by omega)
    rw [this]
    simp [hx1, Value.cells]
   have HBL := Lib.hid (show j.blanks.length ≤ 30 from hn30)
   have hbr := hR.below
   have HJBW := Lib.hid hbr
   have HBV := Lib.hid (hb0.keep hbr)
   have HB0 := Lib.hid hb0
   obtain ⟨B2, hB2⟩ : ∃ B, B = wr.heap.size := ⟨_, rfl⟩
   have HB2 := Lib.hid hB2
   clear hD1 hB1 hst1 hR HR hbr hb0
   go_wp2_with fail
   obtain ⟨wo, rfl⟩ : ∃ wo : World, wo = wr := ⟨_, rfl⟩
   rw [← hB2]
   clear hB2
   go_loopw [44] (fun iv wr => ∃ m : Nat, m ≤ j.blanks.length ∧ iv = .int .i64 m ∧ Hid (wr.ownsRow B2 3 1 (.slice (some ⟨B2, 0, none⟩) j.blanks.length j.blanks.length) j.blanks.length ((ordI j.blanks.length m).map (Value.int .i64))) ∧ Below B2 wo wr) (fun iv _ => j.blanks.length - (intOf iv).toNat)
   case atStart =>
    refine ⟨0, Nat.zero_le _, rfl, Lib.hid ?_, ?_⟩
    ·have h := made_own (w := wo) (base := B2) (n := j.blanks.length) (T := 3) (z := .int .i64 0) (by rw [HB2.out]; exact Nat.le_refl _) (by have := HBL.out; unfold maxLen; omega)
     rw [ordI_zero, List.map_replicate]
     rw [← HB2.out] at h
     exact h
    ·exact (Below.refl _ _).alloc (by rw [HB2.out]; exact Nat.le_refl _) _
   case round =>
    obtain ⟨m, hm, rfl, HO, hbw⟩ := hrel
    have hzB := own_blk HO.out
    by_cases hlt : m < j.blanks.length
    ·obtain ⟨x, c0, f0⟩ : ∃ x, wr.cell? ⟨B2, m, none⟩ = some (.int .i64 x) ∧ wr.frozen? ⟨B2, m, none⟩ = false := ⟨_, own_int_cell HO.out (by rw [ordI_len hm]; exact hlt)⟩
     have hmi : (m : Int) < (j.blanks.length : Int) := by omega
     go_wp2_with fail
     go_roundw
     case rel =>
      refine ⟨m + 1, by omega, by go_num, Lib.hid ?_, hbw.setCell (by simp) _⟩
      have h := own_set1 (x := (m : Int)) HO.out (by rw [ordI_len hm]; exact hlt)
      rw [ordI_step hlt] at h
      exact h
     case measure => simp [intOf]; omega
    ·obtain rfl : m = j.blanks.length := by omega
     have HO2 := HO.out
     rw [ordI_all] at HO2
     have HO3 := Lib.hid HO2
     have HBW2 := Lib.hid hbw
     clear HO HO2 hbw jb hmk
     go_upto_region 16 with (go_at_call 76; refine (sortOrder_any gj j.blanks a2 c2 B2 j.blanks.length B2 wo _ (by rw [← HB2.out]; exact HBW2.out) (HD1.out.cell HST.out) HBV.out hl20 (fun x hx => ⟨((hJ.want x hx).1).1, ((hJ.want x hx).1).2⟩) (by rw [← HB2.out]; exact Nat.le_refl _) HO3.out).mono ?_; rintro e w3 ⟨rfl, ho3, hg3⟩; have HO4 := Lib.hid ho3; have HG3 := Lib.hid hg3; clear ho3 hg3)
     have hb3 : Below wo.heap.size wo w3 := by
      rw [← HB2.out]
      exact HBW2.out.grown HG3.out (by have := HBW2.out.size; rw [HB2.out]; exact this) (fun k hk => by injection hk with hk; omega)
     have hO4 := HO4.out
     have hD3 := HD1.out.more (St' := fun a u => ∃ i : Nat, a = ⟨B2, i, none⟩ ∧ (((orderM j.blanks).map fun i : Nat => (i : Int)).map (Value.int .i64))[i]? = some u) hb3 (by
      rintro a u ⟨i, rfl, hi⟩
      refine ⟨rfl, by rw [← HB2.out]; exact Nat.le_refl _, ?_⟩
      have := hO4.cells (g := B2) rfl i u hi
      rwa [addr_add, Nat.zero_add] at this)
     obtain ⟨St2, hSt2⟩ : ∃ St2 : Addr → Value → Prop, St2 = fun a u => St a u ∨ ∃ i : Nat, a = ⟨B2, i, none⟩ ∧ (((orderM j.blanks).map fun i : Nat => (i : Int)).map (Value.int .i64))[i]? = some u := ⟨_, rfl⟩
     rw [← hSt2] at hD3
     have HST2 := Lib.hid (show ∀ a u, St a u → St2 a u by rw [hSt2]; exact fun a u h => .inl h)
     have HORD := Lib.hid (show ∀ i (hi : i < (orderM j.blanks).length), St2 ⟨B2, i, none⟩ (.int .i64 ((orderM j.blanks)[i] : Int)) by
      intro i hi
      rw [hSt2]
      exact .inr ⟨i, rfl, by simp [hi]⟩)
     have HD3 := Lib.hid hD3
     have HB3 := Lib.hid (Benches.mono HB1.out HST2.out)
     have HW3 := Lib.hid (HJBW.out.trans (hb3.mono HJBW.out.size))
     have HRUN := Lib.hid (show runM j.trim.kerf j.stock j.blanks (seqM j.blanks) (startM j.stock j.trim) = runM j.trim.kerf j.stock j.blanks (seqFrom j.blanks 0) (startM j.stock j.trim) from rfl)
     have HAS := Lib.hid (allOk_start hJ)
     have HOL := Lib.hid (orderM_len (l := j.blanks))
     have hln : (startM j.stock j.trim).length = j.stock.length := by simp [startM]
     clear hSt2 hD3 hb3 hO4 HO4 HG3 HBW2 HO3 HD1 HB1 hzB HBV HJBW
     generalize w3 = w3' at *
     obtain ⟨w4, rfl⟩ : ∃ w4 : World, w4 = w3' := ⟨_, rfl⟩
     go_wp2_with fail
     go_loopw [57] (fun iv wr => ∃ (m : Nat) (S : List BS), m ≤ j.blanks.length ∧ iv = .int .i64 m ∧ Hid (runM j.trim.kerf j.stock j.blanks (seqM j.blanks) (startM j.stock j.trim) = runM j.trim.kerf j.stock j.blanks (seqFrom j.blanks m) S) ∧ Hid (AllOk (1 + 1200 * m) S) ∧ Hid (S.length = j.stock.length) ∧ Hid (Desk wr W0.heap.size (deskL (AC X) (AR X) 0 S) St2) ∧ Below W0.heap.size W0 wr) (fun iv _ => j.blanks.length - (intOf iv).toNat)
     case atStart => exact ⟨0, _, Nat.zero_le _, rfl, HRUN, HAS, Lib.hid hln, HD3, HW3.out⟩
     case round =>
      clear HRUN HAS hln HD3 HW3
      obtain ⟨m, S, hm, rfl, HRUN, HAS, HSL, HDS, hbw⟩ := hrel
      have HBW3 := Lib.hid hbw
      have hzw := hbw.size
      by_cases hlt : m < j.blanks.length
      ·have HLT := Lib.hid (show m < j.blanks.length ∧ j.blanks.length ≤ 30 from ⟨hlt, HBL.out⟩)
       have hmo : m < (orderM j.blanks).length := by rw [HOL.out]; exact hlt
       obtain ⟨i, hi⟩ : ∃ i, i = (orderM j.blanks)[m] := ⟨_, rfl⟩
       have hil : i < j.blanks.length := by rw [hi]; exact orderM_lt (List.getElem_mem hmo)
       have cO := HDS.out.cell (HORD.out m hmo)
       have hsq := seqFrom_step hmo
       rw [← hi] at cO hsq
       have jb := HDS.out.cell (HST2.out _ _ HST.out)
       obtain ⟨gb, ob, ha2, hat⟩ := (HB0.out.keep HBW3.out).at_ hil
       subst ha2
       obtain ⟨-, -, -, -, -, d5, -⟩ := hat
       have hbe : j.blanks[i] = bl j.blanks i := by unfold bl; rw [List.getD_eq_getElem?_getD, List.getElem?_eq_getElem hil]; rfl
       rw [hbe] at d5
       have hwant := hJ.want (bl j.blanks i) (by rw [← hbe]; exact List.getElem_mem hil)
       obtain ⟨cnt, hcnt⟩ : ∃ cnt : Nat, (bl j.blanks i).count = cnt := ⟨(bl j.blanks i).count.toNat, by omega⟩
       have hct : (bl j.blanks i).count.toNat = cnt := by omega
       rw [hcnt] at d5
       rw [hct] at hsq
       have HWANT := Lib.hid hwant
       have HSQ := Lib.hid hsq
       have HCNT := Lib.hid (show cnt ≤ 200 by omega)
       have hmi : (m : Int) < (j.blanks.length : Int) := by omega
       have hii : (i : Int) < (j.blanks.length : Int) := by omega
       have hz1 := block_lt_of_cell d5
       have hz2 := block_lt_of_cell jb
       simp only at hz1 hz2
       clear hi hmo hsq hbe hwant hcnt hct hbw
       go_wp2_with fail
       obtain ⟨wo2, rfl⟩ : ∃ wo2 : World, wo2 = wr := ⟨_, rfl⟩
       obtain ⟨St3, hSt3⟩ : ∃ St3 : Addr → Value → Prop, St3 = fun a u => St2 a u ∨ newSt wo2.heap.size [.int .i64 (i : Int)] a u := ⟨_, rfl⟩
       refine gen_world (fun W => Desk W W0.heap.size (deskL (AC X) (AR X) 0 S) St3 ∧ Below W0.heap.size W0 W) ⟨by rw [hSt3]; exact HDS.out.new [.int .i64 (i : Int)] 3, HBW3.out.alloc HBW3.out.size _⟩ ?_
       rintro W5 ⟨hD5, hB5⟩
       have HD5 := Lib.hid hD5
       have HB5 := Lib.hid hB5
       have HST3 := Lib.hid (show ∀ a u, St2 a u → St3 a u by rw [hSt3]; exact fun a u h => .inl h)
       have HGI := Lib.hid (show St3 ⟨wo2.heap.size, 0, none⟩ (.int .i64 (i : Int)) by rw [hSt3]; exact .inr (newSt_at rfl))
       obtain ⟨gi, hgi⟩ : ∃ g, g = wo2.heap.size := ⟨_, rfl⟩
       rw [← hgi] at HGI ⊢
       have HRUN5 := Lib.hid (show runM j.trim.kerf j.stock j.blanks (seqM j.blanks) (startM j.stock j.trim) = runM j.trim.kerf j.stock j.blanks (List.replicate (cnt - 0) i ++ seqFrom j.blanks (m + 1)) S by rw [HRUN.out, HSQ.out, Nat.sub_zero])
       have HAS5 := Lib.hid (show AllOk (1 + 1200 * m + 6 * 0) S from HAS.out)
       have HSL5 := HSL
       clear hSt3 hD5 hB5 hgi HDS HBW3 HRUN HAS HSL cO jb d5
       go_loopw [67] (fun iv wr => ∃ (q : Nat) (S : List BS), q ≤ cnt ∧ iv = .int .i64 q ∧ Hid (runM j.trim.kerf j.stock j.blanks (seqM j.blanks) (startM j.stock j.trim) = runM j.trim.kerf j.stock j.blanks (List.replicate (cnt - q) i ++ seqFrom j.blanks (m + 1)) S) ∧ Hid (AllOk (1 + 1200 * m + 6 * q) S) ∧ Hid (S.length = j.stock.length) ∧ Hid (Desk wr W0.heap.size (deskL (AC X) (AR X) 0 S) St3) ∧ Below W0.heap.size W0 wr) (fun iv _ => cnt - (intOf iv).toNat)
       case atStart => exact ⟨0, S, Nat.zero_le _, rfl, HRUN5, HAS5, HSL5, HD5, HB5.out⟩
       case round =>
        clear HRUN5 HAS5 HSL5 HD5 HB5
        obtain ⟨q, S5, hq, rfl, HRUN5, HAS5, HSL5, HDS5, hbw5⟩ := hrel
        have HBW5 := Lib.hid hbw5
        have hzw5 := hbw5.size
        by_cases hlt5 : q < cnt
        ·have HLT5 := Lib.hid (show q < cnt ∧ cnt ≤ 200 from ⟨hlt5, HCNT.out⟩)
         have hq1 := HCNT.out
         have hm1 := HLT.out
         have HC := Lib.hid (hasBench_all W0.heap.size X AD CD j.trim j.stock j.blanks S5 St3 (some ⟨gb, ob, none⟩) ag c2 gi gj cp i W0 wr rfl hbw5 HDS5.out (Benches.mono HB3.out HST3.out) hJ HSL5.out (HAS5.out.mono (by omega)).good hil HGI.out (HST3.out _ _ (HST2.out _ _ HST.out)) HB0.out)
         have hqi : (q : Int) < (cnt : Int) := by omega
         have v1 : IntKind.i64.wrap ((q : Int) + 1) = (q : Int) + 1 := IntWalk.i64_in _ (by omega)
         have HSTEP := Lib.hid (show runM j.trim.kerf j.stock j.blanks (seqM j.blanks) (startM j.stock j.trim) = runM j.trim.kerf j.stock j.blanks (i :: (List.replicate (cnt - (q + 1)) i ++ seqFrom j.blanks (m + 1))) S5 by rw [HRUN5.out, rep_step hlt5])
         have HPUT := Lib.hid (fun x h => HAS5.out.put (kerf := j.trim.kerf) (stock := j.stock) (w := bl j.blanks i) (number := (i : Int)) (x := x) (by omega) HSL5.out hJ.trim.1 ⟨by have := HWANT.out; omega, by have := HWANT.out; omega⟩ ⟨by have := HWANT.out; omega, by have := HWANT.out; omega⟩ (by omega) h)
         clear hbw5 hlt5
         cases hsc : scan (putF j.trim.kerf j.stock (bl j.blanks i) i S5) j.stock.length 0 with
         | none =>
          rw [hsc] at HC
          have HN := Lib.hid (run_none HSTEP.out hsc)
          clear hsc
          go_wp2_with (go_at_call 80; refine HC.out.mono ?_; rintro e w6 ⟨rfl, hD6, hb6⟩; have HB6 := Lib.hid hb6; clear hD6 hb6)
          go_ret2
          exact PlanPost.empty (greedyM_none HN.out) (HBW.out.trans ((HBW5.out.trans HB6.out).mono (by have := HZW.out; have := HGJ.out; omega)))
         | some x =>
          rw [hsc] at HC
          have HN := Lib.hid (run_some HSTEP.out hsc)
          have HP := Lib.hid (HPUT.out x hsc)
          clear hsc HPUT
          go_wp2_with (go_at_call 80; refine HC.out.mono ?_; rintro e w6 ⟨rfl, hD6, hb6⟩; have HD6 := Lib.hid hD6; have HB6 := Lib.hid hb6; clear hD6 hb6)
          go_roundw
          case rel => exact ⟨q + 1, _, HLT5.out.1, by have := HLT5.out; go_num, HN, Lib.hid (HP.out.1.mono (by omega)), Lib.hid HP.out.2, HD6, HBW5.out.trans HB6.out⟩
          case measure => have := HLT5.out; simp [intOf]; omega
        ·have HE := Lib.hid (show runM j.trim.kerf j.stock j.blanks (seqM j.blanks) (startM j.stock j.trim) = runM j.trim.kerf j.stock j.blanks (seqFrom j.blanks (m + 1)) S5 by rw [HRUN5.out, rep_end (by omega)])
         have hqi : ¬ (q : Int) < (cnt : Int) := by omega
         have hm1 := HLT.out
         have v1 : IntKind.i64.wrap ((m : Int) + 1) = (m : Int) + 1 := IntWalk.i64_in _ (by omega)
         go_wp2_with fail
         go_roundw
         case rel => exact ⟨m + 1, S5, HLT.out.1, by have := HLT.out; go_num, HE, Lib.hid (HAS5.out.mono (by have := HCNT.out; omega)), HSL5, Lib.hid (HDS5.out.weak HST3.out), HBW5.out⟩
         case measure => have := HLT.out; simp [intOf]; omega
      ·have hR0 : runM j.trim.kerf j.stock j.blanks (seqM j.blanks) (startM j.stock j.trim) = some S := by rw [HRUN.out, seqFrom_end (by rw [HOL.out]; omega)]; rfl
       have HR0 := Lib.hid hR0
       obtain ⟨CG, hC⟩ := HDS.out.cutsAt HAS.out
       have HC := Lib.hid hC
       have hm30 := HBL.out
       have hlS := hJ.lenS
       have hi : ¬ (m : Int) < (j.blanks.length : Int) := by omega
       have HBWW := Lib.hid (HBW.out.trans (hbw.mono (by have := HZW.out; have := HGJ.out; omega)))
       have HO0 := Lib.hid (show OutOk S 0 [] from ⟨Nat.le_refl _, fun p hp => absurd hp (by simp)⟩)
       have HOUT0 := Lib.hid (show outGo 0 S [] = outGo 0 (S.drop 0) [] from rfl)
       clear hR0 hC hbw HRUN
       go_wp2_with fail
       obtain ⟨wo4, rfl⟩ : ∃ wo4 : World, wo4 = wr := ⟨_, rfl⟩
       have HOW0 := Lib.hid (World.ownsRow_nil wo4 wo4.heap.size 55 2)
       go_loopw [77, 12] (fun iv o wr => ∃ (q : Nat) (acc : List (Nat × List Cut)), q ≤ j.stock.length ∧ iv = .int .i64 q ∧ Hid (outGo 0 S [] = outGo q (S.drop q) acc) ∧ Hid (OutOk S q acc) ∧ Hid (wr.ownsRow wo4.heap.size 55 2 o acc.length (acc.flatMap (cellsL CG))) ∧ Below wo4.heap.size wo4 wr) (fun iv _ _ => j.stock.length - (intOf iv).toNat)
       case atStart => exact ⟨0, [], Nat.zero_le _, rfl, HOUT0, HO0, HOW0, Below.refl _ _⟩
       case round =>
        clear HOUT0 HO0 HOW0
        obtain ⟨q, acc, hq, rfl, HOUT, HOK, HOWN, hbr⟩ := hrel
        have HBR := Lib.hid hbr
        have hzr := hbr.size
        by_cases hlt5 : q < j.stock.length
        ·have hqS : q < S.length := by rw [HSL.out]; exact hlt5
         rcases HB3.out with h0 | ⟨gb, rfl, hBn⟩
         ·rw [h0] at hlt5; exact absurd hlt5 (by simp)
         have c1 := cell_keep hbr (HDS.out.cell (hBn.ptr q hlt5))
         have c2' := cell_keep hbr (HC.out.cell q hqS)
         have HROW := Lib.hid ((HC.out.row q hqS).keep hbr)
         have hcap := HC.out.cap q hqS
         have hqi : (q : Int) < (j.stock.length : Int) := by omega
         have v1 : IntKind.i64.wrap ((q : Int) + 1) = (q : Int) + 1 := IntWalk.i64_in _ (by omega)
         have HQ := Lib.hid (show q < j.stock.length ∧ j.stock.length ≤ 100 from ⟨hlt5, hlS⟩)
         have hg1 := block_lt_of_cell c1
         have hg2 := block_lt_of_cell c2'
         simp only at hg1 hg2
         have HBG := Lib.hid (fun h => out_big (acc := acc) hqS HOUT.out h)
         have HUS := Lib.hid (fun h h' => out_used (acc := acc) hqS HOUT.out h h')
         have HFR := Lib.hid (fun h h' => out_free (acc := acc) hqS HOUT.out h h')
         have HADD := Lib.hid (HOK.out.add hqS)
         clear hBn hbr
         obtain ⟨cs, hcs⟩ : ∃ cs, cs = (S.getD q default).cuts := ⟨_, rfl⟩
         rw [← hcs] at c2' hcap HROW HBG HUS HFR HADD
         clear hcs
         by_cases hbig : 400 < cs.length
         ·have hbi : (cs.length : Int) > 400 := by omega
          have HN := Lib.hid (HBG.out hbig)
          go_wp2_with fail
          go_ret2
          exact PlanPost.empty (greedyM_big HR0.out HN.out) (HBWW.out.trans (HBR.out.mono (by have := HBWW.out.size; omega)))
         ·have hbi : ¬ (cs.length : Int) > 400 := by omega
          cases hu : cs.any isPiece
          ·have HN := Lib.hid (HFR.out hbig hu)
           have HU := Lib.hid hu
           clear hu
           go_wp2_with (go_at_call 83; refine (hasCut_any (some ⟨(CG q).1, 0, none⟩) cs (CG q).2 _ HROW.out (by omega)).mono ?_; rw [HU.out]; rintro e w6 ⟨rfl, hb6⟩; have HB6 := Lib.hid hb6; clear hb6)
           go_roundw
           case rel => exact ⟨q + 1, acc, HQ.out.1, by have := HQ.out; go_num, HN, Lib.hid HOK.out.skip, Lib.hid (own_keep HOWN.out HB6.out), HBR.out.trans (HB6.out.mono hzr)⟩
           case measure => have := HQ.out; simp [intOf]; omega
          ·have HN := Lib.hid (HUS.out hbig hu)
           have HU := Lib.hid hu
           clear hu
           go_wp2_with (first
            | (go_at_call 83; refine (hasCut_any (some ⟨(CG q).1, 0, none⟩) cs (CG q).2 _ HROW.out (by omega)).mono ?_; rw [HU.out]; rintro e w6 ⟨rfl, hb6⟩; have HB6 := Lib.hid hb6; have c3 := cell_keep hb6 c2'; have HOW6 := Lib.hid (own_keep HOWN.out hb6); have hz6 := hb6.size; clear hb6)
            | (at_builtin; refine wpList_append_here _ rfl _ _ 28 rfl wo4.heap.size 55 l0 (.agg #[.int .i64 0, .slice none 0 0]) 2 32 Tryz.underlying28 hl0 hy0 hy1 hy2 rfl (by decide) _ acc.length _ rfl (HOW6.out.alloc _) ⟨w6.heap.size, 0, none⟩ 1 1 (cellsL CG (q, cs)) rfl rfl (news_of _ _ _ _ rfl) (cellsL_one CG _) (by decide) (by have := HOK.out.len; simp only [maxLen]; omega) (by have := HOK.out.len; omega) (by simp; omega) ?_; intro v7 w7 ho7 hg7 hv7; have HO7 := Lib.hid ho7; have HG7 := Lib.hid hg7; clear ho7 hg7 hv7))
           go_roundw
           case rel =>
            refine ⟨q + 1, acc ++ [(q, cs)], HQ.out.1, by have := HQ.out; go_num, HN, HADD, Lib.hid ?_, ((HBR.out.trans (HB6.out.mono hzr)).alloc (by omega) _).grown HG7.out (by simp; omega) (fun k hk => own_base HOW6.out hk)⟩
            have h := HO7.out
            rw [List.length_append, List.flatMap_append]
            simpa using h
           case measure => have := HQ.out; simp [intOf]; omega
        ·have hqi : ¬ (q : Int) < (j.stock.length : Int) := by omega
         have HE := Lib.hid (greedyM_some HR0.out (out_end (by rw [HSL.out]; omega) HOUT.out))
         obtain ⟨ao, co, rfl, hoc, hocm⟩ := own_slice HOWN.out
         have HV := Lib.hid (out_layouts (HC.out.keep hbr) HOK.out (by rw [HSL.out]; exact hlS) HOWN.out)
         clear HOUT
         go_wp2_with fail
         go_ret2
         exact PlanPost.full HE.out HV.out hoc hocm (HBWW.out.trans (hbr.mono (by have := HBWW.out.size; omega)))
end Go.Proofs.YtjmgboipbhddlaaGreatDoor
