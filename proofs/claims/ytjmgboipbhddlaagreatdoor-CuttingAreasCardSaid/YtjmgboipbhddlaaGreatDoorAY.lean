import Derived.Test.YtjmgboipbhddlaaGreatDoorAA4
import Derived.Test.YtjmgboipbhddlaaGreatDoorShelf
import Derived.WalkSpells
import Derived.Lib.AppendIntMem
set_option linter.unusedVariables false
set_option linter.unusedSimpArgs false
namespace Go.Proofs.YtjmgboipbhddlaaGreatDoor
open Go Go.RowKit Go.Sort Go.Lib

def baOf (l : List UInt8) : ByteArray := ⟨l.toArray⟩
def shf (r d : Rect) : Rect := ⟨max d.x1 r.x1 - r.x1, max d.y1 r.y1 - r.y1, min d.x2 r.x2 - r.x1, min d.y2 r.y2 - r.y1⟩
def offD (ds : List Rect) (r : Rect) : List Rect := (ds.filter fun d => overlapsB d r).map (shf r)
def nmO (n : Nat) : ByteArray := baOf [111] ++ baOf (itoa (n : Int))
def offB (b : Board) (r : Rect) (nm : ByteArray) : Board := ⟨nm, b.species, r.x2 - r.x1, r.y2 - r.y1, b.thick, b.cut, b.moisture, offD b.defects r⟩
theorem offD_yes {ds : List Rect} {r : Rect} {k : Nat} (hk : k < ds.length) (h : overlapsB ds[k] r = true) : offD (ds.take (k + 1)) r = offD (ds.take k) r ++ [shf r ds[k]] := by
 unfold offD
 rw [List.take_succ_eq_append_getElem hk, List.filter_append, List.map_append, show [ds[k]].filter (fun d => overlapsB d r) = [ds[k]] by rw [List.filter_cons, if_pos h]; rfl]
 rfl
theorem offD_no {ds : List Rect} {r : Rect} {k : Nat} (hk : k < ds.length) (h : overlapsB ds[k] r = false) : offD (ds.take (k + 1)) r = offD (ds.take k) r := by
 unfold offD
 rw [List.take_succ_eq_append_getElem hk, List.filter_append, List.map_append, show [ds[k]].filter (fun d => overlapsB d r) = [] by rw [List.filter_cons, if_neg (by rw [h]; decide)]; rfl]
 simp
theorem offD_len {ds : List Rect} {r : Rect} : (offD ds r).length ≤ ds.length := by
 unfold offD
 rw [List.length_map]
 exact List.length_filter_le _ _
theorem overlaps_iff {d r : Rect} : overlapsB d r = true ↔ (d.x1 < r.x2 ∧ r.x1 < d.x2) ∧ (d.y1 < r.y2 ∧ r.y1 < d.y2) := by
 unfold overlapsB
 simp only [Bool.and_eq_true, decide_eq_true_eq]
 omega
theorem inter_yes {d r : Rect} (h1 : d.x1 < d.x2 ∧ d.y1 < d.y2) (h2 : r.x1 < r.x2 ∧ r.y1 < r.y2) (h : overlapsB d r = true) : wholeR (interR d r) = ⟨max d.x1 r.x1, max d.y1 r.y1, min d.x2 r.x2, min d.y2 r.y2⟩ := by
 have := overlaps_iff.1 h
 unfold wholeR interR
 by_cases hc : min d.x2 r.x2 ≤ max d.x1 r.x1 ∨ min d.y2 r.y2 ≤ max d.y1 r.y1
 ·exfalso; omega
 ·rw [if_neg hc]
theorem inter_no {d r : Rect} (h : overlapsB d r = false) : wholeR (interR d r) = zeroR := by
 have h1 : ¬ ((d.x1 < r.x2 ∧ r.x1 < d.x2) ∧ (d.y1 < r.y2 ∧ r.y1 < d.y2)) := fun e => by rw [overlaps_iff.2 e] at h; cases h
 unfold wholeR interR
 by_cases hc : min d.x2 r.x2 ≤ max d.x1 r.x1 ∨ min d.y2 r.y2 ≤ max d.y1 r.y1
 ·rw [if_pos hc]; rfl
 ·exfalso; omega
structure BdO (W : World) (g : Nat) (b : Board) (v : Value) : Prop where
 c0 : W.cell? ⟨g, 0, none⟩ = some (.string b.name)
 c1 : W.cell? ⟨g, 1, none⟩ = some (.string b.species)
 c2 : W.cell? ⟨g, 2, none⟩ = some (.int .i64 b.length)
 c3 : W.cell? ⟨g, 3, none⟩ = some (.int .i64 b.width)
 c4 : W.cell? ⟨g, 4, none⟩ = some (.int .i64 b.thick)
 c5 : W.cell? ⟨g, 5, none⟩ = some (.int .i64 b.cut)
 c6 : W.cell? ⟨g, 6, none⟩ = some (.int .i64 b.moisture)
 c7 : W.cell? ⟨g, 7, none⟩ = some v
 f : ∀ i, W.frozen? ⟨g, i, none⟩ = false
theorem BdO.lt {W : World} {g : Nat} {b : Board} {v : Value} (h : BdO W g b v) : g < W.heap.size := by simpa using block_lt_of_cell h.c0
theorem BdO.keep {W W' : World} {g : Nat} {b : Board} {v : Value} (h : BdO W g b v) (hb : Below W.heap.size W W') : BdO W' g b v :=
 ⟨cell_keep hb h.c0, cell_keep hb h.c1, cell_keep hb h.c2, cell_keep hb h.c3, cell_keep hb h.c4, cell_keep hb h.c5, cell_keep hb h.c6, cell_keep hb h.c7, fun i => frozen_keep hb h.lt (h.f i)⟩
theorem BdO.far {W W' : World} {g : Nat} {b : Board} {v : Value} {row : Option Nat} (h : BdO W g b v) (hg : W.grownBy W' row) (hr : row ≠ some g) : BdO W' g b v := by
 have k : ∀ {i : Nat} {u : Value}, W.cell? ⟨g, i, none⟩ = some u → W'.cell? ⟨g, i, none⟩ = some u := fun {i u} hc => hg.cell hc (fun e => hr e.symm)
 refine ⟨k h.c0, k h.c1, k h.c2, k h.c3, k h.c4, k h.c5, k h.c6, k h.c7, fun i => ?_⟩
 have hb := hg.block g h.lt (fun e => hr e.symm)
 rw [World.frozen?_of_block (a := ⟨g, i, none⟩) hb]
 exact h.f i
theorem BdO.setName {W : World} {g : Nat} {b : Board} {v : Value} (h : BdO W g b v) (s : ByteArray) : BdO (W.setCell ⟨g, 0, none⟩ (.string s)) g { b with name := s } v := by
 have k : ∀ {i : Nat} {u : Value}, i ≠ 0 → W.cell? ⟨g, i, none⟩ = some u → (W.setCell ⟨g, 0, none⟩ (.string s)).cell? ⟨g, i, none⟩ = some u := fun {i u} hi hc => (set_cellA hc).trans (by simp [hi.symm])
 exact ⟨(set_cellA h.c0).trans (by simp), k (by decide) h.c1, k (by decide) h.c2, k (by decide) h.c3, k (by decide) h.c4, k (by decide) h.c5, k (by decide) h.c6, k (by decide) h.c7, fun i => by rw [frozen_set]; exact h.f i⟩
theorem BdO.setLen {W : World} {g : Nat} {b : Board} {v : Value} (h : BdO W g b v) (n : Int) : BdO (W.setCell ⟨g, 2, none⟩ (.int .i64 n)) g { b with length := n } v := by
 have k : ∀ {i : Nat} {u : Value}, i ≠ 2 → W.cell? ⟨g, i, none⟩ = some u → (W.setCell ⟨g, 2, none⟩ (.int .i64 n)).cell? ⟨g, i, none⟩ = some u := fun {i u} hi hc => (set_cellA hc).trans (by simp [hi.symm])
 exact ⟨k (by decide) h.c0, k (by decide) h.c1, (set_cellA h.c2).trans (by simp), k (by decide) h.c3, k (by decide) h.c4, k (by decide) h.c5, k (by decide) h.c6, k (by decide) h.c7, fun i => by rw [frozen_set]; exact h.f i⟩
theorem BdO.setWid {W : World} {g : Nat} {b : Board} {v : Value} (h : BdO W g b v) (n : Int) : BdO (W.setCell ⟨g, 3, none⟩ (.int .i64 n)) g { b with width := n } v := by
 have k : ∀ {i : Nat} {u : Value}, i ≠ 3 → W.cell? ⟨g, i, none⟩ = some u → (W.setCell ⟨g, 3, none⟩ (.int .i64 n)).cell? ⟨g, i, none⟩ = some u := fun {i u} hi hc => (set_cellA hc).trans (by simp [hi.symm])
 exact ⟨k (by decide) h.c0, k (by decide) h.c1, k (by decide) h.c2, (set_cellA h.c3).trans (by simp), k (by decide) h.c4, k (by decide) h.c5, k (by decide) h.c6, k (by decide) h.c7, fun i => by rw [frozen_set]; exact h.f i⟩
theorem BdO.setDef {W : World} {g : Nat} {b : Board} {v : Value} (h : BdO W g b v) (v' : Value) : BdO (W.setCell ⟨g, 7, none⟩ v') g b v' := by
 have k : ∀ {i : Nat} {u : Value}, i ≠ 7 → W.cell? ⟨g, i, none⟩ = some u → (W.setCell ⟨g, 7, none⟩ v').cell? ⟨g, i, none⟩ = some u := fun {i u} hi hc => (set_cellA hc).trans (by simp [hi.symm])
 exact ⟨k (by decide) h.c0, k (by decide) h.c1, k (by decide) h.c2, k (by decide) h.c3, k (by decide) h.c4, k (by decide) h.c5, k (by decide) h.c6, (set_cellA h.c7).trans (by simp), fun i => by rw [frozen_set]; exact h.f i⟩
structure OffSt (N : Nat) (w0 W : World) (g : Nat) (b : Board) (v : Value) (ps : List Rect) : Prop where
 bd : BdO W g b v
 o : W.ownsRow N 41 4 v ps.length (ps.flatMap cellsR)
 ne : v.ownBlock ≠ some g
 b : Below N w0 W
 gl : N ≤ g
theorem OffSt.n {N : Nat} {w0 W : World} {g : Nat} {b : Board} {v : Value} {ps : List Rect} (h : OffSt N w0 W g b v ps) : N ≤ W.heap.size := Nat.le_trans h.gl (Nat.le_of_lt h.bd.lt)
theorem OffSt.keep {N : Nat} {w0 W W' : World} {g : Nat} {b : Board} {v : Value} {ps : List Rect} (h : OffSt N w0 W g b v ps) (hb : Below W.heap.size W W') : OffSt N w0 W' g b v ps :=
 ⟨h.bd.keep hb, own_keep h.o hb, h.ne, h.b.trans (hb.mono h.n), h.gl⟩
theorem OffSt.put {N : Nat} {w0 W W' : World} {g : Nat} {b : Board} {v v' : Value} {ps ps' : List Rect} (h : OffSt N w0 W g b v ps) (ho : W'.ownsRow N 41 4 v' ps'.length (ps'.flatMap cellsR)) (hg : W.grownBy W' v.ownBlock) (hv : v'.ownBlock = v.ownBlock ∨ v'.ownBlock = some W.heap.size) :
    OffSt N w0 (W'.setCell ⟨g, 7, none⟩ v') g b v' ps' := by
 have hne : v'.ownBlock ≠ some g := fun e => by
  rcases hv with hv | hv
  ·rw [hv] at e; exact h.ne e
  ·rw [hv] at e; injection e with e; have := h.bd.lt; omega
 refine ⟨(h.bd.far hg h.ne).setDef v', ho.kept (row := some g) (grownBy_set (a := ⟨g, 7, none⟩)) (.inr hne), hne, ?_, h.gl⟩
 exact (h.b.grown hg h.n fun k hk => own_base h.o hk).setCell h.gl _
theorem shf_wf {r d : Rect} (hr : okR r) (hd : (0 ≤ d.x1 ∧ d.x1 < d.x2 ∧ d.x2 ≤ 600000) ∧ (0 ≤ d.y1 ∧ d.y1 < d.y2 ∧ d.y2 ≤ 600000)) : (shf r d).wf := by
 have hr : (0 ≤ r.x1 ∧ r.x2 ≤ 600000 ∧ r.x1 ≤ 600000 ∧ 0 ≤ r.x2) ∧ (0 ≤ r.y1 ∧ r.y2 ≤ 600000 ∧ r.y1 ≤ 600000 ∧ 0 ≤ r.y2) := by
  rcases hr with rfl | h
  ·simp
  ·unfold proper at h; omega
 unfold shf Rect.wf
 simp only
 omega
theorem offD_wf {r : Rect} {ds : List Rect} (hr : okR r) (hd : DefsOk ds) : ∀ q ∈ offD ds r, q.wf := fun q hq => by
 unfold offD at hq
 obtain ⟨d, h1, rfl⟩ := List.mem_map.1 hq
 exact shf_wf hr (by have := hd.1 d (List.mem_filter.1 h1).1; omega)
def OffPost (w : World) (b : Board) (r : Rect) (e : Ending) (w' : World) : Prop :=
 ∃ (a : Option Addr) (c : Nat), e = .returned (.agg #[.string b.name, .string b.species, .int .i64 (r.x2 - r.x1), .int .i64 (r.y2 - r.y1), .int .i64 b.thick, .int .i64 b.cut, .int .i64 b.moisture, .slice a (offD b.defects r).length c]) ∧ Rects.V w' a (offD b.defects r) ∧ ((offD b.defects r).length ≤ c ∧ c ≤ 9223372036854775807) ∧ (∀ x : Addr, a = some x → w.heap.size ≤ x.block ∧ x.block < w'.heap.size) ∧ Below w.heap.size w w'
set_option maxRecDepth 100000 in
set_option maxHeartbeats 16000000 in
theorem offcut_any (b : Board) (r : Rect) (ad : Option Addr) (cd : Nat) (w : World) (hv : Rects.V w ad b.defects) (hd : DefsOk b.defects) (hr : okR r) (hrr : r.x1 < r.x2 ∧ r.y1 < r.y2) :
    Calls Tryz.prog 31 #[.agg #[.string b.name, .string b.species, .int .i64 b.length, .int .i64 b.width, .int .i64 b.thick, .int .i64 b.cut, .int .i64 b.moisture, .slice ad b.defects.length cd], .agg #[.int .i64 r.x1, .int .i64 r.y1, .int .i64 r.x2, .int .i64 r.y2]] w (OffPost w b r) := by
 have hmix : Tryz.prog.follows .mixedOrders = true := by kernel_rfl
 obtain ⟨i0, hi0, hz0, hz1, hz2⟩ := info_parts rect_info
 have HV := Lib.hid hv
 have HD := Lib.hid hd
 have HR := Lib.hid hrr
 have hl : b.defects.length ≤ 60 := hd.2
 have hro : (0 ≤ r.x1 ∧ r.x1 < r.x2 ∧ r.x2 ≤ 600000) ∧ (0 ≤ r.y1 ∧ r.y1 < r.y2 ∧ r.y2 ≤ 600000) := by
  rcases hr with rfl | h
  ·simp at hrr
  ·unfold proper at h; omega
 have HRO := Lib.hid hro
 have HOK := Lib.hid hr
 have v1 : IntKind.i64.wrap (r.x2 - r.x1) = r.x2 - r.x1 := IntWalk.i64_in _ (by omega)
 have v2 : IntKind.i64.wrap (r.y2 - r.y1) = r.y2 - r.y1 := IntWalk.i64_in _ (by omega)
 clear hv hd hrr hro hr
 go_enter Tryz.func31, Tryz.ntmps31
 go_upto_region 1 with fail
 refine gen_world (fun W => CellsBd W w.heap.size 0 b ad cd ∧ BoxR W (w.heap.size + 1) r ∧ BdO W (w.heap.size + 2) ⟨⟨#[]⟩, ⟨#[]⟩, 0, 0, 0, 0, 0, []⟩ (.slice none 0 0) ∧ Below w.heap.size w W ∧ w.heap.size + 2 < W.heap.size) ⟨⟨by simp [go_sem], by simp [go_sem], by simp [go_sem], by simp [go_sem], by simp [go_sem], by simp [go_sem], by simp [go_sem], by simp [go_sem]⟩, ⟨by simp [go_sem], by simp [go_sem], by simp [go_sem], by simp [go_sem], by simp [go_sem], by simp [go_sem], by simp [go_sem], by simp [go_sem]⟩, ⟨by simp [go_sem], by simp [go_sem], by simp [go_sem], by simp [go_sem], by simp [go_sem], by simp [go_sem], by simp [go_sem], by simp [go_sem], by intro i; simp [go_sem]⟩, by repeat (first | (with_reducible assumption) | exact Below.refl _ _ | (refine Below.setCell ?_ (by first | omega | (simp; omega) | (simp; done)) _) | (refine Below.alloc ?_ (by first | omega | (simp; omega) | (simp; done)) _) | (refine Below.drew ?_)), by simp⟩ ?_
 rintro W ⟨hb, hbr, h4, hbW, hz⟩
 obtain ⟨gb, hgb⟩ : ∃ g, g = w.heap.size := ⟨_, rfl⟩
 obtain ⟨gr, hgr⟩ : ∃ g, g = w.heap.size + 1 := ⟨_, rfl⟩
 obtain ⟨g4, hg4⟩ : ∃ g, g = w.heap.size + 1 + 1 := ⟨_, rfl⟩
 have HG := Lib.hid (show w.heap.size ≤ g4 ∧ g4 < W.heap.size from by omega)
 rw [show w.heap.size + 2 = w.heap.size + 1 + 1 from rfl, ← hg4] at h4
 rw [← hgr] at hbr
 rw [← hgb] at hb
 rw [← hg4, ← hgr, ← hgb]
 have HBX := Lib.hid hb
 have HRX := Lib.hid hbr
 have H4 := Lib.hid h4
 have HBW := Lib.hid hbW
 obtain ⟨d0, d1, d2, d3, d4, d5, d6, d7⟩ := hb
 simp only [Nat.zero_add] at d0 d1 d2 d3 d4 d5 d6 d7
 clear hbr h4 hbW hgb hgr hg4 hz
 go_upto_region 2 with fail
 refine gen_world (fun W2 => BdO W2 W.heap.size b (.slice ad b.defects.length cd) ∧ Below W.heap.size W W2) ⟨⟨by simp [go_sem], by simp [go_sem], by simp [go_sem], by simp [go_sem], by simp [go_sem], by simp [go_sem], by simp [go_sem], by simp [go_sem], by intro i; simp [go_sem]⟩, by repeat (first | (with_reducible assumption) | exact Below.refl _ _ | (refine Below.setCell ?_ (by first | omega | (simp; omega) | (simp; done)) _) | (refine Below.alloc ?_ (by first | omega | (simp; omega) | (simp; done)) _) | (refine Below.drew ?_))⟩ ?_
 rintro W2 ⟨h5, hb2⟩
 obtain ⟨g5, hg5⟩ : ∃ g, g = W.heap.size := ⟨_, rfl⟩
 rw [← hg5] at h5 ⊢
 have H5 := Lib.hid h5
 have HB2 := Lib.hid (show Below g5 W W2 from by rw [hg5]; exact hb2)
 have HG5 := Lib.hid (show gr < g5 from by rw [hg5]; exact HRX.out.lt)
 have HGG := Lib.hid (show g4 < g5 from by rw [hg5]; exact HG.out.2)
 have HOLD := Lib.hid (fun (w' : World) (h : Below g5 W w') => show BoxR w' gr r ∧ (BdO w' g4 ⟨⟨#[]⟩, ⟨#[]⟩, 0, 0, 0, 0, 0, []⟩ (.slice none 0 0) ∧ (w'.cell? ⟨gb, 7, none⟩ = some (.slice ad b.defects.length cd) ∧ (Rects.V w' ad b.defects ∧ Below w.heap.size w w'))) from by
  rw [hg5] at h
  have d7 := HBX.out.c7
  simp only [Nat.zero_add] at d7
  exact ⟨HRX.out.keep h, H4.out.keep h, cell_keep h d7, (HV.out.keep HBW.out).keep h, HBW.out.trans (h.mono HBW.out.size)⟩)
 obtain ⟨⟨r0, r1, r2, r3, -, -, -, -⟩, -⟩ := HOLD.out _ HB2.out
 clear hg5 hb2 d0 d1 d2 d3 d4 d5 d6 d7 h5
 have hbr2 := (HOLD.out _ HB2.out).1
 have kx0 : ∀ u : KW (fun W' => BoxR W' gr r), u.w.cell? ⟨gr, 0, none⟩ = some (.int .i64 r.x1) ∧ u.w.cell? ⟨gr, 1, none⟩ = some (.int .i64 r.y1) ∧ u.w.cell? ⟨gr, 2, none⟩ = some (.int .i64 r.x2) ∧ u.w.cell? ⟨gr, 3, none⟩ = some (.int .i64 r.y2) := fun u => ⟨u.ok.c0, u.ok.c1, u.ok.c2, u.ok.c3⟩
 haveI nn1 : Nonempty (KW (fun W' => BoxR W' gr r)) := ⟨⟨_, hbr2⟩⟩
 refine wp_region_tree (fun w' => ∃ u : KW (fun W' => BoxR W' gr r), w' = u.w) 12 (.take 0 (.take 1 (.take 2 (.take 3 (.take 4 (.take 5 (.take 6 (.take 7 (.take 8 (.take 9 (.take 10 (.one 11 .done)))))))))))) hmix (by kernel_rfl) (KW.mk' hbr2.drew) ?_
 repeat (refine wpTree_take ?_; simp only [nthOp]; (first | go_big_quiet_step (fail) | quiet_step (fail)); refine wpQuiet_nil ?_)
 refine wpTree_one ?_
 simp only [nthOp]
 obtain ⟨y0, y1, y2, y3, y4, y5, y6, y7, yf⟩ := H5.out
 go_wp2_with fail
 refine One_mk (KW.mk' (hbr2.drew.set (a := ⟨g5, 2, none⟩) (fun e => by have h1 := HG5.out; simp only at e; omega) rfl)) ?_
 refine wpTree_done ?_
 simp only [List.drop_succ_cons, List.drop_zero]
 clear kx0 nn1
 go_wp2_with fail
 refine NP_mk ?_
 go_upto_region 3 with fail
 refine gen_world (fun W3 => OffSt g5 W W3 g5 ⟨b.name, b.species, r.x2 - r.x1, r.y2 - r.y1, b.thick, b.cut, b.moisture, b.defects⟩ (.slice none 0 0) []) ⟨((((H5.out.keep (Below.refl _ _).drew).setLen (r.x2 - r.x1)).setWid (r.y2 - r.y1)).setDef (.slice none 0 0)), World.ownsRow_nil _ _ _ _, (fun e => by cases e), by
  have h := HB2.out
  repeat (first | exact h | (refine Below.setCell ?_ (by first | exact Nat.le_refl _ | (simp; done) | omega) _) | (refine Below.drew ?_)), Nat.le_refl _⟩ ?_
 rintro W3 h3
 have H3 := Lib.hid h3
 clear h3 y0 y1 y2 y3 y4 y5 y6 y7 yf r0 r1 r2 r3 hbr2
 obtain ⟨-, -, d7, -, -⟩ := HOLD.out _ H3.out.b
 go_wp2_with fail
 go_loopw [26] (fun iv wr => ∃ (k : Nat) (v : Value), k ≤ b.defects.length ∧ iv = .int .i64 k ∧ Hid (OffSt g5 W wr g5 ⟨b.name, b.species, r.x2 - r.x1, r.y2 - r.y1, b.thick, b.cut, b.moisture, b.defects⟩ v (offD (b.defects.take k) r))) (fun iv _ => b.defects.length - (intOf iv).toNat)
 case atStart => exact ⟨0, _, Nat.zero_le _, rfl, H3⟩
 case round =>
  obtain ⟨k, v, hk, rfl, HP⟩ := hrel
  obtain ⟨wo, rfl⟩ : ∃ wo : World, wo = wr := ⟨_, rfl⟩
  obtain ⟨av, cv, rfl, -, -⟩ := own_slice HP.out.o
  by_cases hlt : k < b.defects.length
  ·have hki : (k : Int) < (b.defects.length : Int) := by omega
   have w1 : IntKind.i64.wrap ((k : Int) + 1) = (k : Int) + 1 := IntWalk.i64_in _ (by omega)
   obtain ⟨-, -, -, hvo, -⟩ := HOLD.out _ HP.out.b
   obtain ⟨lb, lo, hla, s0, s1, s2, s3, -⟩ := hvo.at_ hlt
   subst hla
   have HYS := Lib.hid (fun h => offD_yes (r := r) hlt h)
   have HNO := Lib.hid (fun h => offD_no (r := r) hlt h)
   have hds : (0 ≤ b.defects[k].x1 ∧ b.defects[k].x1 < b.defects[k].x2 ∧ b.defects[k].x2 ≤ 600000) ∧ (0 ≤ b.defects[k].y1 ∧ b.defects[k].y1 < b.defects[k].y2 ∧ b.defects[k].y2 ≤ 600000) := by
    have := HD.out.ok _ (List.getElem_mem hlt)
    omega
   have hpl : (offD (b.defects.take k) r).length ≤ 60 := Nat.le_trans offD_len (by have := List.length_take_le' k b.defects; omega)
   obtain ⟨P, hP⟩ : ∃ P, P = offD (b.defects.take k) r := ⟨_, rfl⟩
   rw [← hP] at HP HYS HNO hpl
   clear hP hvo
   generalize b.defects[k] = d at *
   go_upto_region 6 with fail
   refine gen_world (fun W1 => BoxR W1 wo.heap.size d ∧ Below wo.heap.size wo W1) ⟨⟨by simp [go_sem], by simp [go_sem], by simp [go_sem], by simp [go_sem], by simp [go_sem], by simp [go_sem], by simp [go_sem], by simp [go_sem]⟩, by repeat (first | (with_reducible assumption) | exact Below.refl _ _ | (refine Below.setCell ?_ (by first | omega | (simp; omega) | (simp; done)) _) | (refine Below.alloc ?_ (by first | omega | (simp; omega) | (simp; done)) _) | (refine Below.drew ?_))⟩ ?_
   rintro W1 ⟨⟨x0, x1, x2, x3, -, -, -, -⟩, hb1⟩
   have HP1 := Lib.hid (HP.out.keep hb1)
   obtain ⟨⟨r0, r1, r2, r3, -, -, -, -⟩, -⟩ := HOLD.out _ HP1.out.b
   obtain ⟨g7, hg7⟩ : ∃ g, g = wo.heap.size := ⟨_, rfl⟩
   rw [← hg7] at x0 x1 x2 x3 ⊢
   clear s0 s1 s2 s3 hb1 hg7
   obtain ⟨q, hq⟩ : ∃ q, wholeR (interR d r) = q := ⟨_, rfl⟩
   have HCM := Lib.hid (fun w9 => common_is d r q w9 hq)
   have HQ := Lib.hid hq
   have hro := HRO.out
   clear hq
   go_upto_region 7 with (go_at_call 59; refine (HCM.out _).mono ?_; rintro e w5 ⟨rfl, hb5⟩; have HP5 := Lib.hid (HP1.out.keep hb5); clear hb5)
   refine gen_world (fun W6 => BoxR W6 w5.heap.size q ∧ Below w5.heap.size w5 W6) ⟨⟨by simp [go_sem], by simp [go_sem], by simp [go_sem], by simp [go_sem], by simp [go_sem], by simp [go_sem], by simp [go_sem], by simp [go_sem]⟩, by repeat (first | (with_reducible assumption) | exact Below.refl _ _ | (refine Below.setCell ?_ (by first | omega | (simp; omega) | (simp; done)) _) | (refine Below.alloc ?_ (by first | omega | (simp; omega) | (simp; done)) _) | (refine Below.drew ?_))⟩ ?_
   rintro W6 ⟨⟨c0, c1, c2, c3, -, -, -, -⟩, hb6⟩
   have HP6 := Lib.hid (HP5.out.keep hb6)
   obtain ⟨g8, hg8⟩ : ∃ g, g = w5.heap.size := ⟨_, rfl⟩
   rw [← hg8] at c0 c1 c2 c3 ⊢
   obtain ⟨⟨r0, r1, r2, r3, -, -, -, -⟩, -⟩ := HOLD.out _ HP6.out.b
   clear hb6 hg8 x0 x1 x2 x3
   cases hov : overlapsB d r
   ·have HS2 := Lib.hid (HNO.out hov)
    have hne : ∀ w, (binOp .neq 41 (.agg #[.int .i64 q.x1, .int .i64 q.y1, .int .i64 q.x2, .int .i64 q.y2]) (.agg #[.int .i64 0, .int .i64 0, .int .i64 0, .int .i64 0])).run Tryz.prog w = .ok (.bool false) w := fun w => by
     rw [rect_neq0, ← HQ.out, inter_no hov]; simp [zeroR]
    go_wp2_with fail
    go_roundw
    case rel => exact ⟨k + 1, _, by omega, by go_num, by rw [HS2.out]; exact HP6⟩
    case measure => first | (simp [intOf]; done) | (simp [intOf]; omega)
   ·have HS2 := Lib.hid (HYS.out hov)
    have hqv := (HQ.out).symm.trans (inter_yes ⟨hds.1.2.1, hds.2.2.1⟩ HR.out hov)
    have hov2 := overlaps_iff.1 hov
    have hq1 : q.x1 = max d.x1 r.x1 := by rw [hqv]
    have hq2 : q.y1 = max d.y1 r.y1 := by rw [hqv]
    have hq3 : q.x2 = min d.x2 r.x2 := by rw [hqv]
    have hq4 : q.y2 = min d.y2 r.y2 := by rw [hqv]
    have HSH := Lib.hid (show cellsR (shf r d) = [.int .i64 (q.x1 - r.x1), .int .i64 (q.y1 - r.y1), .int .i64 (q.x2 - r.x1), .int .i64 (q.y2 - r.y1)] by rw [hq1, hq2, hq3, hq4]; rfl)
    have hne : ∀ w, (binOp .neq 41 (.agg #[.int .i64 q.x1, .int .i64 q.y1, .int .i64 q.x2, .int .i64 q.y2]) (.agg #[.int .i64 0, .int .i64 0, .int .i64 0, .int .i64 0])).run Tryz.prog w = .ok (.bool true) w := fun w => by
     rw [rect_neq0, decide_eq_false (fun e => by rw [e] at hq1 hq3; simp only at hq1 hq3; omega)]; rfl
    have m1 : IntKind.i64.wrap (q.x1 - r.x1) = q.x1 - r.x1 := IntWalk.i64_in _ (by omega)
    have m2 : IntKind.i64.wrap (q.y1 - r.y1) = q.y1 - r.y1 := IntWalk.i64_in _ (by omega)
    have m3 : IntKind.i64.wrap (q.x2 - r.x1) = q.x2 - r.x1 := IntWalk.i64_in _ (by omega)
    have m4 : IntKind.i64.wrap (q.y2 - r.y1) = q.y2 - r.y1 := IntWalk.i64_in _ (by omega)
    have HQ3 := Lib.hid (show (P ++ [shf r d]).length = P.length + 1 ∧ (P ++ [shf r d]).flatMap cellsR = P.flatMap cellsR ++ cellsR (shf r d) from ⟨by simp, by simp⟩)
    have HL4 := Lib.hid (show (cellsR (shf r d)).length = 4 from rfl)
    have HO1 := Lib.hid (show ∀ u ∈ cellsR (shf r d), u.oneCell' = true from cellsR_one (shf r d))
    rw [HSH.out] at HQ3 HL4 HO1
    clear hq1 hq2 hq3 hq4 hqv hov2
    have c7 := HP6.out.bd.c7
    have f7 := HP6.out.bd.f 7
    have hn6 := HP6.out.n
    have HAL := Lib.hid (fun cs T => (Below.refl W6.heap.size W6).alloc (Nat.le_refl _) (.cells cs T))
    have HO6 := Lib.hid HP6.out.o
    go_wp2_with (at_builtin; refine wpList_append_here _ rfl _ _ 50 rfl g5 41 i0 (.agg #[.int .i64 0, .int .i64 0, .int .i64 0, .int .i64 0]) 4 32 Tryz.underlying50 hi0 hz0 hz1 hz2 rfl (by decide) (.slice av P.length cv) P.length (P.flatMap cellsR) rfl (own_keep HO6.out (HAL.out _ _)) ⟨W6.heap.size, 0, none⟩ 1 1 [.int .i64 (q.x1 - r.x1), .int .i64 (q.y1 - r.y1), .int .i64 (q.x2 - r.x1), .int .i64 (q.y2 - r.y1)] rfl rfl (news_of [.int .i64 (q.x1 - r.x1), .int .i64 (q.y1 - r.y1), .int .i64 (q.x2 - r.x1), .int .i64 (q.y2 - r.y1)] _ _ _ rfl) HO1.out (by decide) (by simp only [maxLen]; omega) (by omega) (by simp; omega) ?_; intro v8 w8 ho8 hg8 hv8; obtain ⟨av8, cv8, rfl, -, -⟩ := own_slice ho8; have HP8 := Lib.hid ((HP6.out.keep (HAL.out _ _)).put (ps' := P ++ [shf r d]) (by rw [HQ3.out.1, HQ3.out.2]; exact ho8) hg8 hv8); have c78 := ((HP6.out.keep (HAL.out _ _)).bd.far hg8 (HP6.out.ne)).c7; have f78 := ((HP6.out.keep (HAL.out _ _)).bd.far hg8 (HP6.out.ne)).f 7; clear ho8 hg8 hv8)
    go_roundw
    case rel => exact ⟨k + 1, _, by omega, by go_num, by rw [HS2.out]; exact HP8⟩
    case measure => first | (simp [intOf]; done) | (simp [intOf]; omega)
  ·obtain rfl : k = b.defects.length := by omega
   have hki : ¬ ((b.defects.length : Nat) : Int) < ((b.defects.length : Nat) : Int) := by omega
   rw [List.take_length] at HP
   have HVV := Lib.hid (own_rowV (R := Rect.at) cellsR_len (by decide) (fun b' o x hx h => ⟨h 0 _ rfl, h 1 _ rfl, h 2 _ rfl, h 3 _ rfl, offD_wf HOK.out HD.out x hx⟩) HP.out.o)
   obtain ⟨a2, c2, hac, hc1, hc2⟩ := own_slice HP.out.o
   injection hac with hac1 hac2 hac3
   subst hac1 hac3
   have HLB := Lib.hid (fun (x : Addr) (hx : av = some x) => own_base HP.out.o (show (Value.slice av (offD b.defects r).length cv).ownBlock = some x.block by rw [hx]; rfl))
   have HLT := Lib.hid (fun (x : Addr) (hx : av = some x) => (own_blocks1 HP.out.o) x.block (by rw [hx]; rfl))
   obtain ⟨-, ⟨z0, z1, z2, z3, z4, z5, z6, z7, zf⟩, -, -, hbw⟩ := HOLD.out _ HP.out.b
   obtain ⟨y0, y1, y2, y3, y4, y5, y6, y7, yf⟩ := HP.out.bd
   have HBE := Lib.hid hbw
   have HGE := Lib.hid (show g5 ≠ g4 ∧ g4 ≠ g5 from by have := HGG.out; omega)
   obtain ⟨n1, n2⟩ := HGE.out
   obtain ⟨nd, hnd⟩ : ∃ n, n = (offD b.defects r).length := ⟨_, rfl⟩
   have HND := Lib.hid hnd
   have HC1 := Lib.hid (show nd ≤ cv ∧ cv ≤ 9223372036854775807 from ⟨by rw [hnd]; exact hc1, hc2⟩)
   rw [← hnd] at y7
   clear hbw d7 hnd hc1
   go_wp2_with fail
   refine bodyPost_ret (v := .agg #[.string b.name, .string b.species, .int .i64 (r.x2 - r.x1), .int .i64 (r.y2 - r.y1), .int .i64 b.thick, .int .i64 b.cut, .int .i64 b.moisture, .slice av nd cv]) (by simp [results, Tryz.results31, go_sem, *]) rfl ?_
   have hnb := HND.out
   subst hnb
   refine ⟨av, cv, rfl, ?_, HC1.out, fun x hx => ?_, ?_⟩
   ·have hg : ∀ (x : Addr), av = some x → some g4 ≠ some x.block := fun x hx e => by
      have h1 := HLB.out x hx
      have h2 := HGG.out
      injection e with e
      omega
    have hvv : Rects.V wo av (offD b.defects r) := HVV.out
    repeat (first | (with_reducible exact hvv) | (with_reducible refine Rects.V.far ?_ grownBy_set hg))
   ·have h1 := HLB.out x hx
    have h2 := HLT.out x hx
    have h3 := HG.out
    have h4 := HGG.out
    have h5 := HBE.out.size
    refine ⟨by omega, by simp; omega⟩
   ·have h1 := HBE.out
    have h2 := HG.out.1
    repeat (first | (with_reducible exact h1) | (with_reducible refine Below.setCell ?_ (by first | exact h2 | omega) _))
end Go.Proofs.YtjmgboipbhddlaaGreatDoor
set_option linter.unusedVariables false
set_option linter.unusedSimpArgs false
namespace Go.Proofs.YtjmgboipbhddlaaGreatDoor
open Go Go.RowKit Go.Sort Go.Lib

def dec0 (m : Nat) : List UInt8 := if m = 0 then [] else decDigits m
theorem dec0_step {m : Nat} (h : m ≠ 0) : dec0 m = dec0 (m / 10) ++ [UInt8.ofNat (48 + m % 10)] := by
 unfold dec0
 rw [if_neg h, decDigits]
 by_cases h1 : m < 10
 ·rw [dif_pos h1, if_pos (by omega), Nat.mod_eq_of_lt h1]; rfl
 ·rw [dif_neg h1, if_neg (by omega)]
theorem ten_dig {d : Nat} (h : d < 10) : (ByteArray.mk #[48, 49, 50, 51, 52, 53, 54, 55, 56, 57]).extract d (d + 1) = baOf [UInt8.ofNat (48 + d)] := by
 rcases show d = 0 ∨ d = 1 ∨ d = 2 ∨ d = 3 ∨ d = 4 ∨ d = 5 ∨ d = 6 ∨ d = 7 ∨ d = 8 ∨ d = 9 by omega with rfl | rfl | rfl | rfl | rfl | rfl | rfl | rfl | rfl | rfl <;> rfl
theorem baOf_app (a b : List UInt8) : baOf a ++ baOf b = baOf (a ++ b) := by
 unfold baOf
 apply ByteArray.ext
 simp
theorem baOf_size (a : List UInt8) : (baOf a).size = a.length := by unfold baOf; rfl
theorem nDigits_le : ∀ u : Nat, nDigits u ≤ u + 1 := fun u => by
 induction u using Nat.strongRecOn with
 | _ u ih =>
  by_cases h : u < 10
  ·rw [nDigits_small h]; omega
  ·rw [nDigits_big h]
   have := ih (u / 10) (by omega)
   omega
theorem nmO_size (n : Nat) : (nmO n).size ≤ n + 2 := by
 have h : itoa (n : Int) = decDigits n := by unfold itoa; rw [if_neg (by omega), Int.toNat_natCast]
 unfold nmO
 rw [h, baOf_app, baOf_size, List.length_append, decDigits_length]
 have := nDigits_le n
 simp only [List.length_cons, List.length_nil]
 omega
theorem abs_small (n : Nat) (w : World) (hn : n ≤ 1000000000) : Calls Tryz.prog 65 #[.int .i64 (n : Int)] w fun e w' => e = .returned (.int .i64 (n : Int)) ∧ w = w' := by
 have h0 : ¬ (n : Int) < 0 := by omega
 go_enter Tryz.func65, Tryz.ntmps65
 go_wp2_with fail
 go_ret
 exact ⟨rfl, rfl⟩
set_option maxRecDepth 100000 in
set_option maxHeartbeats 4000000 in
theorem decR_any (n : Nat) (w : World) (hn : n ≤ 1000000000) : Calls Tryz.prog 36 #[.int .i64 (n : Int)] w fun e w' => e = .returned (.string (baOf (itoa (n : Int)))) ∧ Below w.heap.size w w' := by
 have hit : itoa (n : Int) = decDigits n := by unfold itoa; rw [if_neg (by omega), Int.toNat_natCast]
 rw [hit]
 by_cases hz : n = 0
 ·subst hz
  have h0 : decDigits 0 = [48] := by rw [decDigits]; rfl
  rw [h0]
  go_enter Tryz.func36, Tryz.ntmps36
  go_wp2_with fail
  go_ret
  exact ⟨rfl, Below.refl _ _⟩
 ·have hnz : ¬ (n : Int) = 0 := by omega
  have hneg : ¬ (n : Int) < 0 := by omega
  have hq0 : ((n : Int) == 0) = false := by simpa using hnz
  obtain ⟨D, hD⟩ : ∃ D, D = baOf (decDigits n) := ⟨_, rfl⟩
  have HD := Lib.hid (show D = baOf (dec0 n ++ []) by rw [hD]; unfold dec0; rw [if_neg hz, List.append_nil])
  rw [← hD]
  clear hD hit
  go_enter Tryz.func36, Tryz.ntmps36
  go_wp2_with fail
  go_loopw [3, 4] (fun sv mv wr => ∃ (m : Nat) (l : List UInt8), m ≤ n ∧ mv = .int .i64 m ∧ sv = .string (baOf l) ∧ Hid (D = baOf (dec0 m ++ l)) ∧ l.length + m ≤ 2000000000 ∧ Below w.heap.size w wr) (fun _ mv _ => (intOf mv).toNat)
  case atStart => exact ⟨n, [], Nat.le_refl _, rfl, rfl, HD, by simp; omega, Below.refl _ _⟩
  case round =>
   obtain ⟨m, l, hm, rfl, rfl, HL, hll, hb⟩ := hrel
   have HB := Lib.hid hb
   clear hb
   by_cases hm0 : m = 0
   ·subst hm0
    have HE := Lib.hid (show baOf l = D by rw [HL.out]; rfl)
    go_wp2_with fail
    go_ret
    exact ⟨by rw [HE.out]; rfl, HB.out⟩
   ·have hmi : ¬ (m : Int) = 0 := by omega
    have hmq : ((m : Int) != 0) = true := by simpa using hmi
    have HS := Lib.hid (dec0_step hm0)
    have hrem : (m : Int).tmod 10 = ((m % 10 : Nat) : Int) := by rw [Int.tmod_eq_emod_of_nonneg (by omega)]; rfl
    have hquo : (m : Int).tdiv 10 = ((m / 10 : Nat) : Int) := by rw [Int.tdiv_eq_ediv_of_nonneg (by omega)]; rfl
    have hd9 : m % 10 < 10 := Nat.mod_lt _ (by decide)
    have w1 : IntKind.i64.wrap (((m % 10 : Nat) : Int) + 1) = ((m % 10 : Nat) : Int) + 1 := IntWalk.i64_in _ (by omega)
    have hsl : ∀ w, (Instr.slice 9 (.string ⟨#[48, 49, 50, 51, 52, 53, 54, 55, 56, 57]⟩) (some (.int .i64 ((m % 10 : Nat) : Int))) (some (.int .i64 (((m % 10 : Nat) : Int) + 1))) none).run Tryz.prog w = .ok (.string (baOf [UInt8.ofNat (48 + m % 10)])) w := fun w => by
     have h := run_slice_string (P := Tryz.prog) w 9 ⟨#[48, 49, 50, 51, 52, 53, 54, 55, 56, 57]⟩ .i64 .i64 ((m % 10 : Nat) : Int) (((m % 10 : Nat) : Int) + 1) Tryz.underlying9 (by omega) (by omega) (by show (((m % 10 : Nat) : Int) + 1) ≤ ((10 : Nat) : Int); omega)
     rw [h, show ((((m % 10 : Nat) : Int) + 1)).toNat = m % 10 + 1 by omega, Int.toNat_natCast, ten_dig hd9]
    generalize hdd : m % 10 = d at *
    clear hdd
    obtain ⟨S, hS⟩ : ∃ S, S = baOf [UInt8.ofNat (48 + d)] := ⟨_, rfl⟩
    rw [← hS] at hsl
    have hs1 : S.size = 1 := by rw [hS]; rfl
    have hs2 : (baOf l).size = l.length := baOf_size l
    have hsz : ¬ 9223372036854775807 < S.size + (baOf l).size := by rw [hs1, hs2]; omega
    have HD2 := Lib.hid (show S ++ baOf l = baOf ([UInt8.ofNat (48 + d)] ++ l) by rw [hS, baOf_app])
    have HD3 := Lib.hid (show D = baOf (dec0 (m / 10) ++ ([UInt8.ofNat (48 + d)] ++ l)) by rw [HL.out, HS.out, List.append_assoc])
    clear hS hs1 hs2
    go_wp2_with (go_at_call 65; refine (abs_small d _ (by omega)).mono ?_; rintro e w1 ⟨rfl, rfl⟩)
    go_roundw
    case rel => exact ⟨m / 10, [UInt8.ofNat (48 + d)] ++ l, by omega, by first | rfl | (congr 1; omega) | (simp; done), by rw [HD2.out], HD3, by simp; omega, HB.out⟩
    case measure => simp [intOf]; omega
theorem tab_keep {w w' : World} (h : Lib.TabIs Tryz.prog w "internal/strconv.uint64pow10" .u64 Lib.pow10Tab) (hb : Below w.heap.size w w') : Lib.TabIs Tryz.prog w' "internal/strconv.uint64pow10" .u64 Lib.pow10Tab := by
 have hg : Tryz.prog.globalNamed "internal/strconv.uint64pow10" = some 0 := by kernel_rfl
 unfold Lib.TabIs World.var? at h ⊢
 rw [hg] at h ⊢
 simp only [Option.bind_some] at h ⊢
 have hlt : 0 < w.heap.size := by
  rcases Nat.lt_or_ge 0 w.heap.size with h' | h'
  ·exact h'
  ·rw [Array.getElem?_eq_none h'] at h; cases h
 rw [hb.block _ hlt]
 exact h
set_option maxRecDepth 100000 in
theorem decP_any (n : Nat) (w : World) (hn : n ≤ 1000000000) (hT : Lib.TabIs Tryz.prog w "internal/strconv.uint64pow10" .u64 Lib.pow10Tab) : Calls Tryz.prog 32 #[.int .i64 (n : Int)] w fun e w' => e = .returned (.string (baOf (itoa (n : Int)))) ∧ Below w.heap.size w w' := by
 have HI := Lib.hid (Tryz.strconv_Itoa (n : Int) (by omega) (by omega) w hT)
 clear hT
 go_enter Tryz.func32, Tryz.ntmps32
 go_wp2_with (go_at_call 60; refine HI.out.mono ?_; rintro e w1 ⟨rfl, k, os, rfl⟩)
 go_ret
 exact ⟨rfl, below_grow _ _ (Nat.le_refl _) _ _⟩
end Go.Proofs.YtjmgboipbhddlaaGreatDoor
set_option linter.unusedVariables false
set_option linter.unusedSimpArgs false
namespace Go.Proofs.YtjmgboipbhddlaaGreatDoor
open Go Go.RowKit Go.Sort Go.Lib

def bdOfL (j : Job) (l : Layout) : Board := j.stock.getD l.board.toNat default
def isOff (l : Layout) (R : List Rect) (n0 n1 : Int) (k : Nat) : Prop := ((cutF l.cuts k).low = 0 ∧ (cutF l.cuts k).blank < 0) ∧ (n0 ≤ (rectF R k).x2 - (rectF R k).x1 ∧ n1 ≤ (rectF R k).y2 - (rectF R k).y1)
instance (l : Layout) (R : List Rect) (n0 n1 : Int) (k : Nat) : Decidable (isOff l R n0 n1 k) := by unfold isOff; infer_instance
def offTo (b : Board) (l : Layout) (R : List Rect) (n0 n1 : Int) (acc : List Board) : Nat → List Board
 | 0 => acc
 | k + 1 => if isOff l R n0 n1 k then offTo b l R n0 n1 acc k ++ [offB b (rectF R k) (nmO ((offTo b l R n0 n1 acc k).length + 1))] else offTo b l R n0 n1 acc k
def offPlan (j : Job) (plan : List Layout) (n0 n1 : Int) : Nat → List Board
 | 0 => []
 | k + 1 => offTo (bdOfL j (plan.getD k default)) (plan.getD k default) (layOf j (plan.getD k default)).1 n0 n1 (offPlan j plan n0 n1 k) (plan.getD k default).cuts.length
def offAll (j : Job) (plan : List Layout) (n0 n1 : Int) : List Board := offPlan j plan n0 n1 plan.length
def offE2 (j : Job) (plan : List Layout) (n0 n1 : Int) : Int := if ¬ ((1 ≤ n0 ∧ n0 ≤ 600000) ∧ (1 ≤ n1 ∧ n1 ≤ 600000)) then 2 else if 100 < (offAll j plan n0 n1).length then 8 else 0
def offL2 (j : Job) (plan : List Layout) (n0 n1 : Int) : List Board := if offE2 j plan n0 n1 = 0 then offAll j plan n0 n1 else []
theorem offTo_len {b : Board} {l : Layout} {R : List Rect} {n0 n1 : Int} {acc : List Board} : ∀ k, (offTo b l R n0 n1 acc k).length ≤ acc.length + k
 | 0 => Nat.le_refl _
 | k + 1 => by
  have := offTo_len (b := b) (l := l) (R := R) (n0 := n0) (n1 := n1) (acc := acc) k
  rw [offTo]
  split
  ·rw [List.length_append]; simp only [List.length_cons, List.length_nil]; omega
  ·omega
theorem offPlan_step {j : Job} {plan : List Layout} {n0 n1 : Int} {k : Nat} (hk : k < plan.length) : offPlan j plan n0 n1 (k + 1) = offTo (bdOfL j plan[k]) plan[k] (layOf j plan[k]).1 n0 n1 (offPlan j plan n0 n1 k) plan[k].cuts.length := by
 have hg : plan.getD k default = plan[k] := by rw [List.getD_eq_getElem?_getD, List.getElem?_eq_getElem hk]; rfl
 rw [offPlan, hg]
theorem offPlan_len {j : Job} (hE : jobE j = 0) {plan : List Layout} {n0 n1 : Int} (hok : PlanOk j plan) : ∀ k, k ≤ plan.length → (offPlan j plan n0 n1 k).length ≤ 400 * k
 | 0, _ => by simp [offPlan]
 | k + 1, h => by
  have ih := offPlan_len hE (n0 := n0) (n1 := n1) hok k (by omega)
  have hk : k < plan.length := h
  rw [offPlan_step hk]
  have hl := hok _ (List.getElem_mem hk)
  obtain ⟨-, h4, -⟩ := lay_okR hE hl.1 hl.2
  have := offTo_len (b := bdOfL j plan[k]) (l := plan[k]) (R := (layOf j plan[k]).1) (n0 := n0) (n1 := n1) (acc := offPlan j plan n0 n1 k) plan[k].cuts.length
  omega
structure OffC where
 bd : Board
 a : Option Addr
 c : Nat
def cellsOC (x : OffC) : List Value := [.string x.bd.name, .string x.bd.species, .int .i64 x.bd.length, .int .i64 x.bd.width, .int .i64 x.bd.thick, .int .i64 x.bd.cut, .int .i64 x.bd.moisture, .slice x.a x.bd.defects.length x.c]
theorem cellsOC_len (x : OffC) : (cellsOC x).length = 8 := rfl
theorem cellsOC_one (x : OffC) : ∀ u ∈ cellsOC x, u.oneCell' = true := by
 intro u hu
 simp only [cellsOC, List.mem_cons, List.not_mem_nil, or_false] at hu
 rcases hu with rfl | rfl | rfl | rfl | rfl | rfl | rfl | rfl <;> rfl
structure OffOk (W : World) (v : Value) (x : OffC) : Prop where
 rv : Rects.V W x.a x.bd.defects
 cc : x.bd.defects.length ≤ x.c ∧ x.c ≤ 9223372036854775807
 ap : ∀ a, x.a = some a → a.block < W.heap.size ∧ v.ownBlock ≠ some a.block
 wf : x.bd.wf
theorem OffOk.keep {W W' : World} {v : Value} {x : OffC} (h : OffOk W v x) (hb : Below W.heap.size W W') : OffOk W' v x := ⟨h.rv.keep hb, h.cc, fun a ha => ⟨Nat.lt_of_lt_of_le (h.ap a ha).1 hb.size, (h.ap a ha).2⟩, h.wf⟩
theorem OffOk.row {W W' : World} {v v' : Value} {x : OffC} (h : OffOk W v x) (hg : W.grownBy W' v.ownBlock) (hv : v'.ownBlock = v.ownBlock ∨ v'.ownBlock = some W.heap.size) : OffOk W' v' x :=
 ⟨h.rv.far hg fun a ha => (h.ap a ha).2, h.cc, fun a ha => ⟨Nat.lt_of_lt_of_le (h.ap a ha).1 hg.size, by
  rcases hv with e | e
  ·rw [e]; exact (h.ap a ha).2
  ·rw [e]; intro e'; have := (h.ap a ha).1; injection e' with e'; omega⟩, h.wf⟩
structure OcSt (N : Nat) (w0 W : World) (v : Value) (acc : List Board) (xs : List OffC) : Prop where
 ms : xs.map OffC.bd = acc
 o : W.ownsRow N 52 8 v acc.length (xs.flatMap cellsOC)
 ok : ∀ x ∈ xs, OffOk W v x
 b : Below N w0 W
 n : N ≤ W.heap.size
theorem OcSt.keep {N : Nat} {w0 W W' : World} {v : Value} {acc : List Board} {xs : List OffC} (h : OcSt N w0 W v acc xs) (hb : Below W.heap.size W W') : OcSt N w0 W' v acc xs :=
 ⟨h.ms, own_keep h.o hb, fun x hx => (h.ok x hx).keep hb, h.b.trans (hb.mono h.n), Nat.le_trans h.n hb.size⟩
theorem OcSt.push {N : Nat} {w0 W W' : World} {v v' : Value} {acc : List Board} {xs : List OffC} {x : OffC} (h : OcSt N w0 W v acc xs) (hx : OffOk W v x) (ho : W'.ownsRow N 52 8 v' (acc.length + 1) (xs.flatMap cellsOC ++ cellsOC x)) (hg : W.grownBy W' v.ownBlock) (hv : v'.ownBlock = v.ownBlock ∨ v'.ownBlock = some W.heap.size) :
    OcSt N w0 W' v' (acc ++ [x.bd]) (xs ++ [x]) := by
 refine ⟨by rw [List.map_append, h.ms]; rfl, ?_, fun y hy => ?_, h.b.grown hg h.n fun k hk => own_base h.o hk, Nat.le_trans h.n hg.size⟩
 ·have e1 : (acc ++ [x.bd]).length = acc.length + 1 := by simp
  have e2 : (xs ++ [x]).flatMap cellsOC = xs.flatMap cellsOC ++ cellsOC x := by simp
  rw [e1, e2]; exact ho
 ·rcases List.mem_append.1 hy with hy | hy
  ·exact (h.ok y hy).row hg hv
  ·rw [List.mem_singleton.1 hy]; exact hx.row hg hv
theorem OcSt.start (w : World) : OcSt w.heap.size w w (.slice none 0 0) [] [] := ⟨rfl, World.ownsRow_nil _ _ _ _, fun x hx => by simp at hx, Below.refl _ _, Nat.le_refl _⟩
theorem rowV_map {α β : Type} {sz : Nat} {Q : World → Nat → Nat → β → Prop} {f : α → β} {w : World} {a : Option Addr} {l : List α} (h : RowV sz (fun w b o x => Q w b o (f x)) w a l) : RowV sz Q w a (l.map f) := fun hne => by
 obtain ⟨b, off, ha, hx⟩ := h (fun e => hne (by rw [e]; rfl))
 refine ⟨b, off, ha, fun k y hk => ?_⟩
 rw [List.getElem?_map] at hk
 obtain ⟨x, hx1, rfl⟩ := Option.map_eq_some_iff.1 hk
 exact hx k x hx1
theorem OcSt.boards {N : Nat} {w0 W : World} {a : Option Addr} {n c : Nat} {acc : List Board} {xs : List OffC} (h : OcSt N w0 W (.slice a n c) acc xs) : Boards.V W a acc := by
 have hl : acc.length = n := by
  obtain ⟨a', c', e, -, -⟩ := own_slice h.o
  injection e with _ e _
  exact e.symm
 have ho := h.o
 rw [hl] at ho
 have hr : RowV 8 (fun w b o (x : OffC) => Board.at w b o x.bd) W a xs := own_rowV (enc := cellsOC) cellsOC_len (by decide) (fun b o x hx hc => by
  have hk := h.ok x hx
  exact ⟨x.a, x.c, hc 0 _ rfl, hc 1 _ rfl, hc 2 _ rfl, hc 3 _ rfl, hc 4 _ rfl, hc 5 _ rfl, hc 6 _ rfl, hc 7 _ rfl, hk.rv, hk.cc.1, by unfold maxLen; have := hk.cc.2; omega, hk.wf⟩) ho
 have := rowV_map hr
 rw [h.ms] at this
 exact this
end Go.Proofs.YtjmgboipbhddlaaGreatDoor
