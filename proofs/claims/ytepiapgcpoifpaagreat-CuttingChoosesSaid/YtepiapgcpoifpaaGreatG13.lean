/- What the loops of the greedy plan keep. -/
import Derived.Test.YtepiapgcpoifpaaGreatHeld
import Derived.Test.YtepiapgcpoifpaaGreatJob5
import Derived.Laws.MakeOwn
set_option linter.unusedVariables false
set_option linter.unusedSimpArgs false
namespace Go.Proofs.YtepiapgcpoifpaaGreat
open Go Go.RowKit

/-! Cuts stay in the reach of numbers. -/
def WfB (s : BS) : Prop := ∀ c ∈ s.cuts, c.wf
theorem wf_cut {s : BS} {kerf : Int} {region : Nat} {across : Bool} {a : Int} (h : WfB s) (ha : -1000000 ≤ a ∧ a ≤ 1000000) (hl : s.cuts.length ≤ 100000) : WfB (s.cut kerf region across a) := by
  intro c hc
  unfold BS.cut at hc
  rcases List.mem_or_eq_of_mem_set hc with hc | rfl
  · simp only [List.mem_append, List.mem_cons, List.not_mem_nil, or_false] at hc
    rcases hc with hc | rfl | rfl
    · exact h c hc
    · unfold Cut.wf wasteC; simp
    · unfold Cut.wf wasteC; simp
  · unfold Cut.wf; simp only; omega
theorem wf_mark {s : BS × Nat} {number : Int} (h : WfB s.1) (hn : -1000000 ≤ number ∧ number ≤ 1000000) : WfB (BS.mark s number) := by
  intro c hc
  unfold BS.mark at hc
  rcases List.mem_or_eq_of_mem_set hc with hc | rfl
  · exact h c hc
  · unfold Cut.wf pieceC; simp only; omega
theorem len_ge1 {s : BS} {kerf o : Int} {region : Nat} : s.cuts.length ≤ (s.cut1 kerf region o).1.cuts.length := by unfold BS.cut1; split <;> simp [BS.cut]
theorem len_ge2 {s : BS × Nat} {kerf : Int} {w : Blank} : s.1.cuts.length ≤ (BS.cut2 s kerf w).1.cuts.length := by unfold BS.cut2; split <;> simp [BS.cut]
theorem len_ge3 {s : BS × Nat} {kerf : Int} {w : Blank} : s.1.cuts.length ≤ (BS.cut3 s kerf w).1.cuts.length := by unfold BS.cut3; split <;> simp [BS.cut]
theorem len_ge {s : BS} {kerf : Int} {w : Blank} {number : Int} {region : Nat} {o : Int} : s.cuts.length ≤ (s.place kerf w number region o).cuts.length := by
  have h1 := len_ge1 (s := s) (kerf := kerf) (o := o) (region := region)
  have h2 := len_ge2 (s := s.cut1 kerf region o) (kerf := kerf) (w := w)
  have h3 := len_ge3 (s := BS.cut2 (s.cut1 kerf region o) kerf w) (kerf := kerf) (w := w)
  unfold BS.place BS.mark
  simp only [List.length_set]
  omega
theorem wf_place {s : BS} {kerf : Int} {ds : List Rect} {w : Blank} {number : Int} {k : Nat} {o : Int} (h : WfB s) (hg : GoodB s) (hk : k < s.cuts.length) (hl : s.cuts.length ≤ 80000) (hkf : 0 ≤ kerf ∧ kerf ≤ 10000) (hw : 0 < w.length ∧ w.length ≤ 600000) (hw2 : 0 < w.width ∧ w.width ≤ 600000)
    (hn : -1000000 ≤ number ∧ number ≤ 1000000) (hs : s.at_ kerf ds w k = some o) : WfB (s.place kerf w number k o) := by
  obtain ⟨h1, h2, h3⟩ := at_some hg hk hkf.1 hw.1 hs
  have hp := h1.pr
  unfold proper at hp
  simp only at hp
  have a1 : WfB (s.cut1 kerf k o).1 := by
    unfold BS.cut1
    split
    · exact wf_cut h (by omega) (by omega)
    · exact h
  have l1 := len_cut1 (s := s) (kerf := kerf) (o := o) (region := k)
  have a2 : WfB (BS.cut2 (s.cut1 kerf k o) kerf w).1 := by
    unfold BS.cut2
    split
    · exact wf_cut a1 (by omega) (by omega)
    · exact a1
  have l2 := len_cut2 (s := s.cut1 kerf k o) (kerf := kerf) (w := w)
  have a3 : WfB (BS.cut3 (BS.cut2 (s.cut1 kerf k o) kerf w) kerf w).1 := by
    unfold BS.cut3
    split
    · exact wf_cut a2 (by omega) (by omega)
    · exact a2
  exact wf_mark a3 hn

structure AllOk (n : Nat) (S : List BS) : Prop where
  good : GoodAll n S
  wf : ∀ s ∈ S, WfB s
theorem AllOk.mono {n m : Nat} {S : List BS} (h : AllOk n S) (hnm : n ≤ m) : AllOk m S := ⟨⟨fun s hs => ⟨(h.good.good s hs).1, (h.good.good s hs).2.1, Nat.le_trans (h.good.good s hs).2.2 hnm⟩⟩, h.wf⟩
theorem AllOk.put {n : Nat} {S : List BS} {kerf : Int} {stock : List Board} {w : Blank} {number : Int} {x : Nat × BS} (h : AllOk n S) (hn : n ≤ 80000) (hlen : S.length = stock.length) (hkf : 0 ≤ kerf ∧ kerf ≤ 10000) (hw : 0 < w.length ∧ w.length ≤ 600000) (hw2 : 0 < w.width ∧ w.width ≤ 600000)
    (hnn : -1000000 ≤ number ∧ number ≤ 1000000) (hs : scan (putF kerf stock w number S) stock.length 0 = some x) : AllOk (n + 6) (setO S (some x)) ∧ (setO S (some x)).length = stock.length := by
  obtain ⟨i, s'⟩ := x
  obtain ⟨_, h2, h3⟩ := scan_some hs
  simp only [Nat.zero_add] at h2 h3
  unfold putF at h3
  rw [List.getElem?_eq_getElem h2] at h3
  simp only at h3
  have hi : i < S.length := by omega
  have hg := h.good.get hi
  have hwf : WfB (S.getD i default) := by
    rw [List.getD_eq_getElem?_getD, List.getElem?_eq_getElem hi]; exact h.wf _ (List.getElem_mem hi)
  obtain ⟨p1, p2⟩ := good_put hg.1.1 hkf.1 hw.1 hw2.1 h3
  have p3 := leaf_put hg.1.2 h3
  have p45 : s'.cuts ≠ [] ∧ WfB s' := by
    unfold BS.put at h3
    split at h3
    · rw [Option.map_eq_some_iff] at h3
      obtain ⟨y, hy, rfl⟩ := h3
      obtain ⟨_, q2, q3⟩ := scan_some hy
      refine ⟨fun e => ?_, wf_place hwf hg.1.1 (by omega) (by have := hg.2.2; omega) hkf hw hw2 hnn q3⟩
      have := len_ge (s := S.getD i default) (kerf := kerf) (w := w) (number := number) (region := y.1) (o := y.2)
      rw [e] at this
      exact hg.2.1 (List.length_eq_zero_iff.1 (by simpa using this))
    · cases h3
  unfold setO
  refine ⟨⟨⟨fun s hs => ?_⟩, fun s hs => ?_⟩, by simp [hlen]⟩
  · rcases List.mem_or_eq_of_mem_set hs with hs | rfl
    · obtain ⟨q1, q2, q3⟩ := h.good.good s hs
      exact ⟨q1, q2, by omega⟩
    · exact ⟨⟨p1, p3⟩, p45.1, by have := hg.2.2; omega⟩
  · rcases List.mem_or_eq_of_mem_set hs with hs | rfl
    · exact h.wf s hs
    · exact p45.2
theorem allOk_start {stock : List Board} {blanks : List Blank} {t : Trim} (hJ : JobOk stock blanks t) : AllOk 1 (startM stock t) := by
  have hg := good_start (stock := stock) (t := t) (fun b hb => by have := hJ.size b hb; omega) hJ.trim.2.1.1 hJ.trim.2.2.1
  refine ⟨⟨fun s hs => ⟨⟨(hg.good s hs).1, ?_⟩, ?_, (hg.good s hs).2⟩⟩, fun s hs => ?_⟩
  all_goals
    unfold startM at hs
    obtain ⟨b, hb, rfl⟩ := List.mem_map.1 hs
  · refine ⟨fun c hc => ?_⟩
    obtain rfl : c = wasteC := by simpa using hc
    intro _; exact ⟨rfl, rfl, rfl⟩
  · simp
  · intro c hc
    obtain rfl : c = wasteC := by simpa using hc
    unfold Cut.wf wasteC; simp

/-! The run of the model, as the loops see it. -/
theorem putAll_scan {kerf : Int} {stock : List Board} {w : Blank} {number : Int} {S : List BS} : putAll kerf stock w number S = (scan (putF kerf stock w number S) stock.length 0).map fun x => S.set x.1 x.2 := rfl
theorem run_none {kerf : Int} {stock : List Board} {blanks : List Blank} {i : Nat} {r : List Nat} {S : List BS} {t : Option (List BS)} (h : t = runM kerf stock blanks (i :: r) S) (hs : scan (putF kerf stock (bl blanks i) i S) stock.length 0 = none) : t = none := by
  rw [h, runM, putAll_scan, hs]; rfl
theorem run_some {kerf : Int} {stock : List Board} {blanks : List Blank} {i : Nat} {r : List Nat} {S : List BS} {x : Nat × BS} {t : Option (List BS)} (h : t = runM kerf stock blanks (i :: r) S) (hs : scan (putF kerf stock (bl blanks i) i S) stock.length 0 = some x) : t = runM kerf stock blanks r (setO S (some x)) := by
  rw [h, runM, putAll_scan, hs]; rfl
def seqFrom (blanks : List Blank) (m : Nat) : List Nat := ((orderM blanks).drop m).flatMap fun i => List.replicate (bl blanks i).count.toNat i
theorem seqFrom_zero (blanks : List Blank) : seqFrom blanks 0 = seqM blanks := rfl
theorem seqFrom_step {blanks : List Blank} {m : Nat} (hm : m < (orderM blanks).length) : seqFrom blanks m = List.replicate (bl blanks (orderM blanks)[m]).count.toNat (orderM blanks)[m] ++ seqFrom blanks (m + 1) := by
  unfold seqFrom
  rw [List.drop_eq_getElem_cons hm, List.flatMap_cons]
theorem seqFrom_end {blanks : List Blank} {m : Nat} (hm : (orderM blanks).length ≤ m) : seqFrom blanks m = [] := by
  unfold seqFrom; rw [List.drop_of_length_le hm]; rfl
theorem rep_step {i n q : Nat} {r : List Nat} (h : q < n) : List.replicate (n - q) i ++ r = i :: (List.replicate (n - (q + 1)) i ++ r) := by
  rw [show n - q = n - (q + 1) + 1 by omega, List.replicate_succ, List.cons_append]
theorem rep_end {i n q : Nat} {r : List Nat} (h : n ≤ q) : List.replicate (n - q) i ++ r = r := by rw [show n - q = 0 by omega]; rfl

/-! The row of numbers. -/
def ordI (n k : Nat) : List Int := ((List.range k).map fun i : Nat => (i : Int)) ++ List.replicate (n - k) 0
theorem ordI_len {n k : Nat} (h : k ≤ n) : (ordI n k).length = n := by simp [ordI]; omega
theorem ordI_step {n k : Nat} (h : k < n) : (ordI n k).set k (k : Int) = ordI n (k + 1) := by
  unfold ordI
  rw [List.set_append_right _ _ (by simp), show n - k = n - (k + 1) + 1 by omega, List.replicate_succ]
  simp [List.range_succ]
theorem ordI_all (n : Nat) : ordI n n = (List.range n).map fun i : Nat => (i : Int) := by simp [ordI]
theorem ordI_zero (n : Nat) : ordI n 0 = List.replicate n 0 := by simp [ordI]
theorem made_own {w : World} {base n : Nat} {T : TypeId} {z : Value} (hb : base ≤ w.heap.size) (hn : n ≤ maxLen) : (w.alloc (.cells (madeCells #[z] n) T)).ownsRow base T 1 (.slice (some ⟨w.heap.size, 0, none⟩) n n) n (List.replicate n z) := by
  refine ⟨by simp, .inr ⟨w.heap.size, n, madeCells #[z] n, rfl, hb, heap_alloc_new w _, Nat.le_refl _, hn, by simp [size_madeCells], ?_⟩⟩
  apply List.ext_getElem?
  intro j
  by_cases hj : j < n
  · rw [List.getElem?_take_of_lt (by omega)]
    simp [madeCells, hj, Nat.mod_one]
  · rw [List.getElem?_take_eq_none (by omega), List.getElem?_eq_none (by simp; omega)]
theorem own_set1 {w : World} {base e n g cap : Nat} {l : List Int} {i : Nat} {x : Int} (h : w.ownsRow base e 1 (.slice (some ⟨g, 0, none⟩) n cap) n (l.map (Value.int .i64))) (hi : i < l.length) :
    (w.setCell ⟨g, i, none⟩ (.int .i64 x)).ownsRow base e 1 (.slice (some ⟨g, 0, none⟩) n cap) n ((l.set i x).map (Value.int .i64)) := by
  have hn : l.length = n := by have := h.1; simpa using this
  refine ⟨by simp [hn], ?_⟩
  rcases h.2 with ⟨e0, _⟩ | ⟨g', cap', cur, e0, hb, hg, hnc, hm, hs, ht⟩
  · cases e0
  · injection e0 with e1 _ e3
    injection e1 with e1
    injection e1 with e1
    subst e1; subst e3
    refine .inr ⟨g, cap, cur.setIfInBounds i (.int .i64 x), rfl, hb, ?_, hnc, hm, by simpa using hs, ?_⟩
    · simp [World.setCell, Array.getElem?_modify, hg]
    · rw [List.map_set, ← ht, Array.toList_setIfInBounds, List.take_set]
theorem own_int_cell {w : World} {base e n g cap : Nat} {l : List Int} {i : Nat} (h : w.ownsRow base e 1 (.slice (some ⟨g, 0, none⟩) n cap) n (l.map (Value.int .i64))) (hi : i < l.length) : w.cell? ⟨g, i, none⟩ = some (.int .i64 l[i]) ∧ w.frozen? ⟨g, i, none⟩ = false := by
  refine ⟨?_, ?_⟩
  · have := h.cells (g := g) rfl i (.int .i64 l[i]) (by simp [hi])
    rwa [addr_add, Nat.zero_add] at this
  · rcases h.2 with ⟨e0, _⟩ | ⟨g', cap', cur, e0, hb, hg, hnc, hm, hs, ht⟩
    · cases e0
    · injection e0 with e1 _ e3
      injection e1 with e1
      injection e1 with e1
      subst e1
      simp [World.frozen?, hg]
theorem own_blk {w : World} {base e n g cap : Nat} {xs : List Value} (h : w.ownsRow base e 1 (.slice (some ⟨g, 0, none⟩) n cap) n xs) : base ≤ g ∧ g < w.heap.size := h.lt g rfl

/-! The boards, as they come in. -/
structure CellsBd (W : World) (g o : Nat) (x : Board) (ad : Option Addr) (cd : Nat) : Prop where
  c0 : W.cell? ⟨g, o, none⟩ = some (.string x.name)
  c1 : W.cell? ⟨g, o + 1, none⟩ = some (.string x.species)
  c2 : W.cell? ⟨g, o + 2, none⟩ = some (.int .i64 x.length)
  c3 : W.cell? ⟨g, o + 3, none⟩ = some (.int .i64 x.width)
  c4 : W.cell? ⟨g, o + 4, none⟩ = some (.int .i64 x.thick)
  c5 : W.cell? ⟨g, o + 5, none⟩ = some (.int .i64 x.cut)
  c6 : W.cell? ⟨g, o + 6, none⟩ = some (.int .i64 x.moisture)
  c7 : W.cell? ⟨g, o + 7, none⟩ = some (.slice ad x.defects.length cd)
theorem CellsBd.keep {W W' : World} {g o : Nat} {x : Board} {ad : Option Addr} {cd : Nat} (h : CellsBd W g o x ad cd) (hb : Below W.heap.size W W') : CellsBd W' g o x ad cd :=
  ⟨cell_keep hb h.c0, cell_keep hb h.c1, cell_keep hb h.c2, cell_keep hb h.c3, cell_keep hb h.c4, cell_keep hb h.c5, cell_keep hb h.c6, cell_keep hb h.c7⟩
theorem boards_ch {w : World} {a : Option Addr} {l : List Board} (h : Boards.V w a l) : ∃ (AD : Nat → Option Addr) (CD : Nat → Nat), ∀ k b, l[k]? = some b → ∃ g off, a = some ⟨g, off, none⟩ ∧ CellsBd w g (off + k * 8) b (AD k) (CD k) ∧ Rects.V w (AD k) b.defects := by
  have hh : ∀ k : Nat, ∃ p : Option Addr × Nat, ∀ b, l[k]? = some b → ∃ g off, a = some ⟨g, off, none⟩ ∧ CellsBd w g (off + k * 8) b p.1 p.2 ∧ Rects.V w p.1 b.defects := by
    intro k
    by_cases hk : k < l.length
    · obtain ⟨b, off, ad, cd, ha, ⟨k0, k1, k2, k3, k4, k5, k6, k7⟩, hr, -, -⟩ := h.at' hk
      refine ⟨(ad, cd), fun b' hb' => ?_⟩
      rw [List.getElem?_eq_getElem hk] at hb'
      injection hb' with hb'
      subst hb'
      exact ⟨b, off, ha, ⟨k0, k1, k2, k3, k4, k5, k6, k7⟩, hr⟩
    · exact ⟨(none, 0), fun b hb => by rw [List.getElem?_eq_none (by omega)] at hb; cases hb⟩
  exact ⟨fun k => (Classical.choose (hh k)).1, fun k => (Classical.choose (hh k)).2, fun k b hb => Classical.choose_spec (hh k) b hb⟩
theorem deskL_congr {A C A' C' : Nat → Addr} : ∀ {S : List BS} {j : Nat}, (∀ i, i < S.length → A (j + i) = A' (j + i) ∧ C (j + i) = C' (j + i)) → deskL A C j S = deskL A' C' j S
  | [], _, _ => rfl
  | s :: S, j, h => by
    have h0 := h 0 (by simp)
    simp only [Nat.add_zero] at h0
    simp only [deskL]
    rw [h0.1, h0.2, deskL_congr (S := S) (j := j + 1) (fun i hi => by have := h (i + 1) (by simpa using hi); rwa [show j + (i + 1) = j + 1 + i by omega] at this)]
def ptrs (X : Nat → Nat) (k : Nat) : List Value := (List.range k).map fun i => Value.pointer (some ⟨X i, 0, none⟩)
theorem ptrs_succ (X : Nat → Nat) (k : Nat) : ptrs X (k + 1) = ptrs X k ++ [.pointer (some ⟨X k, 0, none⟩)] := by simp [ptrs, List.range_succ]
theorem ptrs_congr {X Y : Nat → Nat} {k : Nat} (h : ∀ i, i < k → X i = Y i) : ptrs X k = ptrs Y k := by
  unfold ptrs
  refine List.map_congr_left fun i hi => ?_
  rw [h i (by simpa using hi)]
def StB (gj : Nat) (jc : List Value) (X : Nat → Nat) (AD : Nat → Option Addr) (CD : Nat → Nat) (t : Trim) (stock : List Board) (k : Nat) : Addr → Value → Prop :=
  fun a u => newSt gj jc a u ∨ ∃ i b, i < k ∧ stock[i]? = some b ∧ newSt (X i) (benchCells b (AD i) (CD i) t) a u
/-- Behind k boards. -/
def G1Rel (W0 : World) (gj : Nat) (jc : List Value) (AD : Nat → Option Addr) (CD : Nat → Nat) (t : Trim) (stock : List Board) (k : Nat) (v : Value) (w : World) : Prop :=
  ∃ X : Nat → Nat, Held w W0.heap.size ⟨none, 142, 1, ptrs X k⟩ (deskL (AC X) (AR X) 0 (startM (stock.take k) t)) (StB gj jc X AD CD t stock k) v ∧ Below W0.heap.size W0 w
/-- The next board is made, and not yet in the row. -/
def G1Mid (W0 : World) (gj : Nat) (jc : List Value) (AD : Nat → Option Addr) (CD : Nat → Nat) (t : Trim) (stock : List Board) (k x : Nat) (v : Value) (w : World) : Prop :=
  ∃ X : Nat → Nat, X k = x ∧ Held w W0.heap.size ⟨none, 142, 1, ptrs X k⟩ (deskL (AC X) (AR X) 0 (startM (stock.take (k + 1)) t)) (StB gj jc X AD CD t stock (k + 1)) v ∧ Below W0.heap.size W0 w
section
variable {W0 w w1 : World} {gj : Nat} {jc : List Value} {AD : Nat → Option Addr} {CD : Nat → Nat} {t : Trim} {stock : List Board} {k x : Nat} {v : Value}
theorem G1Rel.start (hj : gj < W0.heap.size) (hc : ∀ o u, jc[o]? = some u → W0.cell? ⟨gj, o, none⟩ = some u) : G1Rel W0 gj jc AD CD t stock 0 (.slice none 0 0) W0 := by
  refine ⟨fun _ => 0, ?_, Below.refl _ _⟩
  have h := Held.start W0 W0.heap.size 142 1 (StB gj jc (fun _ => 0) AD CD t stock 0) (fun a u hu => ?_)
  · simpa [ptrs, startM, deskL] using h
  · rcases hu with ⟨o, rfl, ho⟩ | ⟨i, b, hi, _⟩
    · exact ⟨rfl, hj, hc o u ho⟩
    · omega
theorem G1Rel.own (h : G1Rel W0 gj jc AD CD t stock k v w) : ∃ X : Nat → Nat, w.ownsRow W0.heap.size 142 1 v k (ptrs X k) := by
  obtain ⟨X, h1, h2⟩ := h
  obtain ⟨n, hn⟩ := h1.own
  have : k = n := by have := hn.1; simpa [ptrs] using this
  subst this
  exact ⟨X, hn⟩
theorem G1Rel.below (h : G1Rel W0 gj jc AD CD t stock k v w) : Below W0.heap.size W0 w := by
  obtain ⟨X, h1, h2⟩ := h
  exact h2
theorem G1Rel.job (h : G1Rel W0 gj jc AD CD t stock k v w) {o : Nat} {u : Value} (ho : jc[o]? = some u) : w.cell? ⟨gj, o, none⟩ = some u := by
  obtain ⟨X, h1, h2⟩ := h
  exact h1.cell (.inl ⟨o, rfl, ho⟩)
theorem G1Rel.mid {b : Board} (h : G1Rel W0 gj jc AD CD t stock k v w) (hk : stock[k]? = some b) (hx : w.heap.size ≤ x) (hb : Below w.heap.size w w1)
    (hD : Desk w1 w.heap.size (setB [slotC ⟨x, 11, none⟩ [], slotR ⟨x, 12, none⟩ []] 0 ⟨x, 11, none⟩ ⟨x, 12, none⟩ ⟨[] ++ [wasteC], [] ++ [usableR b t]⟩) (newSt x (benchCells b (AD k) (CD k) t))) : G1Mid W0 gj jc AD CD t stock k x v w1 := by
  obtain ⟨X, h1, h2⟩ := h
  have hkl : k < stock.length := (List.getElem?_eq_some_iff.1 hk).1
  have hne : ∀ i, i < k → (fun i => if i = k then x else X i) i = X i := fun i hi => by simp only; rw [if_neg (by omega)]
  refine ⟨fun i => if i = k then x else X i, by simp, ?_, h2.trans (hb.mono h2.size)⟩
  have hj := h1.join hb hD h2.size (fun a u ⟨o, ha, _⟩ => by rw [ha]; exact hx)
  have hS : startM (stock.take (k + 1)) t = startM (stock.take k) t ++ [⟨[wasteC], [usableR b t]⟩] := by
    unfold startM
    rw [List.take_succ_eq_append_getElem hkl, List.map_append]
    have : stock[k] = b := by rw [List.getElem?_eq_getElem hkl] at hk; injection hk
    rw [this]; rfl
  have hlen : (startM (stock.take k) t).length = k := by simp [startM]; omega
  rw [hS, deskL_app, ptrs_congr hne, hlen, Nat.zero_add]
  rw [show deskL (AC fun i => if i = k then x else X i) (AR fun i => if i = k then x else X i) 0 (startM (stock.take k) t) = deskL (AC X) (AR X) 0 (startM (stock.take k) t) from deskL_congr (fun i hi => by
    have h3 : ¬ (0 + i = k) := by omega
    simp only [AC, AR]; rw [if_neg h3]; exact ⟨rfl, rfl⟩)]
  have e1 : (AC fun i => if i = k then x else X i) k = ⟨x, 11, none⟩ := by simp [AC]
  have e2 : (AR fun i => if i = k then x else X i) k = ⟨x, 12, none⟩ := by simp [AR]
  rw [e1, e2]
  refine hj.weak fun a u hu => ?_
  rcases hu with hu | ⟨i, b', hi, hb', hu⟩
  · exact .inl (.inl hu)
  · rcases Nat.lt_succ_iff_lt_or_eq.1 hi with hi' | rfl
    · simp only at hu
      rw [if_neg (by omega)] at hu
      exact .inl (.inr ⟨i, b', hi', hb', hu⟩)
    · rw [hk] at hb'
      injection hb' with hb'
      subst hb'
      simp only [if_true] at hu
      exact .inr hu
theorem G1Mid.own (h : G1Mid W0 gj jc AD CD t stock k x v w) : ∃ X : Nat → Nat, w.ownsRow W0.heap.size 142 1 v k (ptrs X k) := by
  obtain ⟨X, h0, h1, h2⟩ := h
  obtain ⟨n, hn⟩ := h1.own
  have : k = n := by have := hn.1; simpa [ptrs] using this
  subst this
  exact ⟨X, hn⟩
theorem G1Mid.keep (h : G1Mid W0 gj jc AD CD t stock k x v w) (hb : Below w.heap.size w w1) : G1Mid W0 gj jc AD CD t stock k x v w1 := by
  obtain ⟨X, h0, h1, h2⟩ := h
  exact ⟨X, h0, h1.keep hb, h2.trans (hb.mono h2.size)⟩
theorem G1Mid.below (h : G1Mid W0 gj jc AD CD t stock k x v w) : Below W0.heap.size W0 w := by
  obtain ⟨X, h0, h1, h2⟩ := h
  exact h2
theorem own_uniq {base e n m g : Nat} {xs ys : List Value} (h : w.ownsRow base e 1 v n xs) (h' : w.ownsRow base e 1 v m ys) : xs = ys := by
  rcases h.2 with ⟨e0, rfl⟩ | ⟨g1, cap, cur, e0, hb, hg, hnc, hm, hs, ht⟩ <;> rcases h'.2 with ⟨k0, rfl⟩ | ⟨g2, cap2, cur2, k0, kb, kg, knc, km, ks, kt⟩
  · have h1 := h.1; have h2 := h'.1
    simp at h1 h2; rw [h1, h2]
  · rw [e0] at k0; cases k0
  · rw [k0] at e0; cases e0
  · rw [e0] at k0
    injection k0 with k1 k2 k3
    injection k1 with k1
    injection k1 with k1
    subst k1 k2
    rw [hg] at kg
    injection kg with kg
    injection kg with kg
    subst kg
    rw [← ht, ← kt]
theorem G1Mid.append {v' : Value} {Y : Nat → Nat} (h : G1Mid W0 gj jc AD CD t stock k x v w) (hY : w.ownsRow W0.heap.size 142 1 v k (ptrs Y k)) (ho : w1.ownsRow W0.heap.size 142 1 v' (k + 1) (ptrs Y k ++ [.pointer (some ⟨x, 0, none⟩)])) (hg : w.grownBy w1 v.ownBlock)
    (hv : v'.ownBlock = v.ownBlock ∨ v'.ownBlock = some w.heap.size) : G1Rel W0 gj jc AD CD t stock (k + 1) v' w1 := by
  have hown := h.own
  obtain ⟨X, h0, h1, h2⟩ := h
  obtain ⟨n, hn⟩ := h1.own
  have he : ptrs X k = ptrs Y k := own_uniq (g := 0) hn hY
  refine ⟨X, ?_, h2.grown hg h2.size (fun g hgg => (hn.lt g hgg).1)⟩
  have := h1.append (v' := v') (news := [.pointer (some ⟨x, 0, none⟩)]) (m := k + 1) (by simp only; rw [he]; exact ho) hg hv
  rw [ptrs_succ, h0]; exact this
/-- All boards are made. -/
theorem G1Rel.all (h : G1Rel W0 gj jc AD CD t stock stock.length v w) (hR : ∀ k b, stock[k]? = some b → Rects.V W0 (AD k) b.defects) :
    ∃ (X : Nat → Nat) (a : Option Addr) (cp : Nat) (St : Addr → Value → Prop), v = .slice a stock.length cp ∧ Desk w W0.heap.size (deskL (AC X) (AR X) 0 (startM stock t)) St ∧
      (stock = [] ∨ ∃ gb, a = some ⟨gb, 0, none⟩ ∧ Benches W0 X AD CD t stock gb St) ∧ ∀ o u, jc[o]? = some u → St ⟨gj, o, none⟩ u := by
  obtain ⟨X0, hown⟩ := h.own
  obtain ⟨a, c, hv, h3, h4⟩ := own_slice hown
  obtain ⟨X, h1, h2⟩ := h
  rw [List.take_length] at h1
  refine ⟨X, a, c, _, hv, h1.drop, ?_, fun o u ho => .inl (.inl ⟨o, rfl, ho⟩)⟩
  by_cases hne : stock = []
  · exact .inl hne
  · right
    rcases hown.2 with ⟨_, h0⟩ | ⟨gb, cap, cur, hv2, hb, hg, _⟩
    · exact absurd (List.length_eq_zero_iff.1 h0) hne
    · rw [hv] at hv2
      injection hv2 with ha _ _
      refine ⟨gb, ha, ⟨fun i b hb o u hu => .inl (.inr ⟨i, b, (List.getElem?_eq_some_iff.1 hb).1, hb, newSt_at hu⟩), hR, fun i hi => .inr ⟨gb, i, by rw [hv, ha]; rfl, rfl, by simp [ptrs, hi]⟩⟩⟩
end
theorem Benches.mono {W0 : World} {X : Nat → Nat} {AD : Nat → Option Addr} {CD : Nat → Nat} {t : Trim} {stock : List Board} {ag : Option Addr} {St St' : Addr → Value → Prop} (h : stock = [] ∨ ∃ gb, ag = some ⟨gb, 0, none⟩ ∧ Benches W0 X AD CD t stock gb St) (hs : ∀ a v, St a v → St' a v) :
    stock = [] ∨ ∃ gb, ag = some ⟨gb, 0, none⟩ ∧ Benches W0 X AD CD t stock gb St' := by
  rcases h with h | ⟨gb, ha, hB⟩
  · exact .inl h
  · exact .inr ⟨gb, ha, ⟨fun k b hb o u hu => hs _ _ (hB.st k b hb o u hu), hB.rects, fun k hk => hs _ _ (hB.ptr k hk)⟩⟩
/-- The benches, whether there are some or none. -/
theorem hasBench_all (base : Nat) (X : Nat → Nat) (AD : Nat → Option Addr) (CD : Nat → Nat) (t : Trim) (stock : List Board) (blanks : List Blank) (S : List BS) (St : Addr → Value → Prop) (ab ag : Option Addr) (cb gi gj cp number : Nat) (W0 w : World) (hW0 : W0.heap.size = base) (h0 : Below base W0 w)
    (hD : Desk w base (deskL (AC X) (AR X) 0 S) St) (hB : stock = [] ∨ ∃ gb, ag = some ⟨gb, 0, none⟩ ∧ Benches W0 X AD CD t stock gb St) (hJ : JobOk stock blanks t) (hS : S.length = stock.length) (hG : GoodAll 80000 S) (hn : number < blanks.length)
    (hi : St ⟨gi, 0, none⟩ (.int .i64 number)) (hj : St ⟨gj, 1, none⟩ (.slice ab blanks.length cb)) (hb : Blanks.V W0 ab blanks) :
    Calls Tryz.prog 84 #[.slice ag stock.length cp, .func (.func 85) #[] #[.pointer (some ⟨gi, 0, none⟩), .pointer (some ⟨gj, 0, none⟩)]] w
      fun e w' => e = .returned (.bool (scan (putF t.kerf stock (bl blanks number) number S) stock.length 0).isSome) ∧ Desk w' base (deskL (AC X) (AR X) 0 (setO S (scan (putF t.kerf stock (bl blanks number) number S) stock.length 0))) St ∧ Below base w w' := by
  rcases hB with hB | ⟨gb, rfl, hB⟩
  · subst hB
    have hD' := Lib.hid hD
    have hnil : Hid (∀ w, Calls Tryz.prog 124 #[.slice ag 0 cp, .func (.func 85) #[] #[.pointer (some ⟨gi, 0, none⟩), .pointer (some ⟨gj, 0, none⟩)]] w fun e w' => e = .returned (.int .i64 (-1)) ∧ w = w') := Lib.hid (fun w => by
      go_enter Tryz.func124, Tryz.ntmps124
      go_wp2_with (first
        | (with_reducible refine rounds_step ?_)
        | (with_reducible refine wp_loop_rounds 1 ?_))
      go_ret
      exact ⟨rfl, rfl⟩)
    clear hD hG hS hJ hi hj hb h0
    simp only [List.length_nil, scan, setO, Option.isSome_none]
    go_enter Tryz.func84, Tryz.ntmps84
    go_wp2_with (go_at_call 124; refine (hnil.out _).mono ?_; rintro e w1 ⟨rfl, rfl⟩)
    go_ret
    exact ⟨rfl, hD'.out, Below.refl _ _⟩
  · exact hasBench_any base X AD CD t stock blanks S St ab cb gi gj gb cp number W0 w hW0 h0 hD hB hJ hS hG hn hi hj hb
end Go.Proofs.YtepiapgcpoifpaaGreat
