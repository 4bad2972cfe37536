import Derived.Test.YthhchnhidhgccaaOverlap
import Derived.Deep.AppendLies
import Derived.Deep.DeepCutAuto
import Derived.Deep.RegionHeld3
set_option linter.unusedVariables false
set_option linter.unusedSimpArgs false
namespace Go.Proofs.Ythhchnhidhgccaa
open Go Go.RowKit

theorem int_info : (Try.prog.info? 3).map (fun i => (i.zero, i.size, i.bytes)) = some (some (.int .i64 0), 1, 8) := by kernel_rfl

theorem own_ne2 {g g' n c n' c' : Nat} (h : g ≠ g') : (Value.slice (some ⟨g, 0, none⟩) n c).ownBlock ≠ (Value.slice (some ⟨g', 0, none⟩) n' c').ownBlock := by simpa [Value.ownBlock] using h
theorem own_ne3 {g0 g g' n c n' c' n0 c0 H : Nat} (hat : (Value.slice (some ⟨g0, 0, none⟩) n0 c0).ownBlock = some g ∨ g = H) (h : g' ≠ g0) (hH : g' < H) : (Value.slice (some ⟨g, 0, none⟩) n c).ownBlock ≠ (Value.slice (some ⟨g', 0, none⟩) n' c').ownBlock := by
  rcases hat with e | e
  · simp [Value.ownBlock] at e; subst e; simpa [Value.ownBlock] using h.symm
  · subst e; simp [Value.ownBlock]; omega
theorem own_inj {g g' n c n' c' : Nat} (h : g = g') : (Value.slice (some ⟨g, 0, none⟩) n c).ownBlock = (Value.slice (some ⟨g', 0, none⟩) n' c').ownBlock := by simp [Value.ownBlock, h]
theorem rows_next {α : Type} {f : α → Int} {l : List α} {k : Nat} (hk : k < l.length) {w : World} {base e s n : Nat} {v : Value} (h : w.ownsRow base e s v n ((0 :: (l.map f).take k).map (Value.int .i64) ++ [.int .i64 (f l[k])])) :
    w.ownsRow base e s v n ((0 :: (l.map f).take (k + 1)).map (Value.int .i64)) := by
  rw [take_map_step f hk]
  simpa using h
theorem own_ne {p : Addr} {g n c : Nat} (h : p.block ≠ g) : some p.block ≠ (Value.slice (some ⟨g, 0, none⟩) n c).ownBlock := by simpa [Value.ownBlock] using h
theorem news_one {w : World} {g : Nat} {x : Value} (h : w.cell? ⟨g, 0, none⟩ = some x) : ∀ j u, [x][j]? = some u → w.cell? ((⟨g, 0, none⟩ : Addr).add j) = some u := by
  intro j u hu
  match j, hu with
  | 0, hu => simp at hu; subst hu; exact h
  | j + 1, hu => simp at hu

structure WidW (B : Nat) (W : World) (H gx gy n cy : Nat) (xs : List Int) (best : Rect) (zs : List Int) (wr : World) : Prop where
  best : RectBlk wr H best
  own : wr.ownsRow B 3 1 (.slice (some ⟨gy, 0, none⟩) n cy) n (zs.map (Value.int .i64))
  ints : IntsV wr (some ⟨gx, 0, none⟩) xs
  low : Below B W wr
theorem WidW.keep {B : Nat} {W : World} {H gx gy n cy : Nat} {xs : List Int} {best : Rect} {zs : List Int} {wr w' : World} (h : WidW B W H gx gy n cy xs best zs wr) (hB : B ≤ wr.heap.size) (hb : Below wr.heap.size wr w') : WidW B W H gx gy n cy xs best zs w' :=
  ⟨h.best.keep hb, h.own.kept (row := none) ⟨hb.os, hb.tape, hb.output, hb.size, fun k hk _ => hb.block k hk⟩ (.inr (by simp [Value.ownBlock])), h.ints.keep hb, h.low.trans (hb.mono hB)⟩
theorem WidW.setBest {B : Nat} {W : World} {H gx gy n cy : Nat} {xs : List Int} {best : Rect} {zs : List Int} {wr : World} (h : WidW B W H gx gy n cy xs best zs wr) (hx : gx ≠ H) (hy : gy ≠ H) (hB : B ≤ H) (s : Rect) :
    WidW B W H gx gy n cy xs s zs ((((wr.setCell ⟨H, 0, none⟩ (.int .i64 s.x1)).setCell ⟨H, 1, none⟩ (.int .i64 s.y1)).setCell ⟨H, 2, none⟩ (.int .i64 s.x2)).setCell ⟨H, 3, none⟩ (.int .i64 s.y2)) := by
  have hg : wr.grownBy ((((wr.setCell ⟨H, 0, none⟩ (.int .i64 s.x1)).setCell ⟨H, 1, none⟩ (.int .i64 s.y1)).setCell ⟨H, 2, none⟩ (.int .i64 s.x2)).setCell ⟨H, 3, none⟩ (.int .i64 s.y2)) (some H) := by
    refine ⟨rfl, rfl, rfl, by simp [World.setCell], fun k hk hne => ?_⟩
    have hk' : k ≠ H := fun e => hne (by rw [e])
    rw [heap_setCell_other _ _ _ _ hk', heap_setCell_other _ _ _ _ hk', heap_setCell_other _ _ _ _ hk', heap_setCell_other _ _ _ _ hk']
  refine ⟨h.best.setAll s, h.own.kept hg (.inr (by simpa [Value.ownBlock] using hy)), h.ints.grown hg (by simpa using hx), ?_⟩
  exact (((h.low.setCell hB _).setCell hB _).setCell hB _).setCell hB _
theorem widXs_bd {b : Board} (hin : ∀ d ∈ b.defects, 0 ≤ d.x1 ∧ d.x1 < d.x2 ∧ d.x2 ≤ 600000 ∧ 0 ≤ d.y1 ∧ d.y1 < d.y2 ∧ d.y2 ≤ 600000) {x : Int} (h : x ∈ widXs b) : 0 ≤ x ∧ x ≤ 600000 := by
  simp only [widXs, List.mem_cons, List.mem_map] at h
  rcases h with h0 | ⟨d, hd, h0⟩
  · omega
  · have := hin d hd; omega
theorem widYs_bd {b : Board} (hin : ∀ d ∈ b.defects, 0 ≤ d.x1 ∧ d.x1 < d.x2 ∧ d.x2 ≤ 600000 ∧ 0 ≤ d.y1 ∧ d.y1 < d.y2 ∧ d.y2 ≤ 600000) {x : Int} (h : x ∈ widYs b) : 0 ≤ x ∧ x ≤ 600000 := by
  simp only [widYs, List.mem_cons, List.mem_map] at h
  rcases h with h0 | ⟨d, hd, h0⟩
  · omega
  · have := hin d hd; omega
theorem lines_u (base g cap n : Nat) (zs us : List Int) (w : World) (hn : n = zs.length) (hu : uniq zs = us) (hown : w.ownsRow base 3 1 (.slice (some ⟨g, 0, none⟩) n cap) n (zs.map (Value.int .i64))) (hl : n < 1000000) :
    Calls Try.prog 112 #[.slice (some ⟨g, 0, none⟩) n cap] w fun e w' => e = .returned (.slice (some ⟨g, 0, none⟩) us.length cap) ∧
      w'.ownsRow base 3 1 (.slice (some ⟨g, 0, none⟩) n cap) n ((us ++ List.replicate (n - us.length) 0).map (Value.int .i64)) ∧ w.grownBy w' (some g) := by
  subst hu; exact lines_n base g cap n zs w hn hown hl
theorem zs_next {n : Nat} {ys zs : List Int} (h : zs.length = n ∧ ∀ z, z ∈ zs ↔ z ∈ ys) (h0 : 0 ∈ ys) (hn : (uniq ys).length ≤ n) : (uniq ys ++ List.replicate (n - (uniq ys).length) 0).length = n ∧ ∀ z, z ∈ uniq ys ++ List.replicate (n - (uniq ys).length) 0 ↔ z ∈ ys := by
  refine ⟨by simp; omega, fun z => ?_⟩
  rw [List.mem_append, uniq_mem, List.mem_replicate]
  constructor
  · rintro (h | ⟨_, rfl⟩)
    · exact h
    · exact h0
  · exact .inl
theorem fold_step {α β : Type} {f : β → α → β} {l : List α} {k : Nat} {r s : β} (hk : k < l.length) (h : r = (l.drop k).foldl f s) : r = (l.drop (k + 1)).foldl f (f s l[k]) := by
  rw [h, List.drop_eq_getElem_cons hk, List.foldl_cons]
theorem fold_end {α β : Type} {f : β → α → β} {l : List α} {k : Nat} {r s : β} (hk : l.length ≤ k) (h : r = (l.drop k).foldl f s) : r = s := by
  rw [h, List.drop_eq_nil_of_le hk]; rfl
theorem WidW.grownY {B : Nat} {W : World} {H gx gy n cy : Nat} {xs : List Int} {best : Rect} {zs zs' : List Int} {wr w' : World} (h : WidW B W H gx gy n cy xs best zs wr) (hg : wr.grownBy w' (some gy)) (hx : gx ≠ gy) (hH : H ≠ gy) (hB : B ≤ wr.heap.size) (hBy : B ≤ gy)
    (ho : w'.ownsRow B 3 1 (.slice (some ⟨gy, 0, none⟩) n cy) n (zs'.map (Value.int .i64))) : WidW B W H gx gy n cy xs best zs' w' :=
  ⟨h.best.grown hg (by simpa using hH), ho, h.ints.grown hg (by simpa using hx), h.low.grown hg hB (fun j hj => by cases hj; exact hBy)⟩
theorem grown_setCell (w : World) (g j : Nat) (v : Value) : w.grownBy (w.setCell ⟨g, j, none⟩ v) (some g) :=
  ⟨rfl, rfl, rfl, by simp [World.setCell], fun k hk hne => heap_setCell_other _ _ _ _ (fun e => hne (by rw [e]))⟩
theorem WidW.setFar {B : Nat} {W : World} {H gx gy n cy : Nat} {xs : List Int} {best : Rect} {zs : List Int} {wr : World} (h : WidW B W H gx gy n cy xs best zs wr) {g : Nat} (j : Nat) (v : Value) (hH : H ≠ g) (hx : gx ≠ g) (hy : gy ≠ g) (hB : B ≤ g) :
    WidW B W H gx gy n cy xs best zs (wr.setCell ⟨g, j, none⟩ v) :=
  ⟨h.best.grown (grown_setCell wr g j v) (by simpa using hH), h.own.kept (grown_setCell wr g j v) (.inr (by simpa [Value.ownBlock] using hy)), h.ints.grown (grown_setCell wr g j v) (by simpa using hx), h.low.setCell hB _⟩
theorem ownLit (w : World) (base g : Nat) (hb : base ≤ w.heap.size) (hg : g = w.heap.size) (x : Int) : (w.alloc (.cells #[.int .i64 x] 3)).ownsRow base 3 1 (.slice (some ⟨g, 0, none⟩) 1 1) 1 [.int .i64 x] := by
  subst hg; exact World.ownsRow_lit w #[.int .i64 x] 1 hb (by decide) rfl
theorem widGo_end {ds : List Rect} {l wd len : Int} {ys xs : List Int} {s r : Rect × Bool} {i : Nat} (hi : xs.length ≤ i) (h : r = widGo ds l wd len ys (xs.drop i) s) : r = s := by
  rw [h, List.drop_eq_nil_of_le hi]; rfl
theorem widGo_break {ds : List Rect} {l wd len : Int} {ys xs : List Int} {s r : Rect × Bool} {i : Nat} (hi : i < xs.length) (h : r = widGo ds l wd len ys (xs.drop i) s) (hx : l < xs[i] + len) : r = s := by
  rw [h, List.drop_eq_getElem_cons hi, widGo, if_pos hx]
theorem widGo_next {ds : List Rect} {l wd len : Int} {ys xs : List Int} {s r : Rect × Bool} {i : Nat} (hi : i < xs.length) (h : r = widGo ds l wd len ys (xs.drop i) s) (hx : ¬ l < xs[i] + len) : r = widGo ds l wd len ys (xs.drop (i + 1)) (ys.foldl (stepY ds wd len xs[i]) s) := by
  rw [h, List.drop_eq_getElem_cons hi, widGo, if_neg hx]

set_option maxRecDepth 100000 in
set_option maxHeartbeats 4000000 in
theorem widest_any (b : Board) (len : Int) (a : Option Addr) (c : Nat) (w : World) (hv : Rects.V w a b.defects) (hl : b.defects.length ≤ 60)
   (hin : ∀ d ∈ b.defects, 0 ≤ d.x1 ∧ d.x1 < d.x2 ∧ d.x2 ≤ 600000 ∧ 0 ≤ d.y1 ∧ d.y1 < d.y2 ∧ d.y2 ≤ 600000)
   (hb1 : 1 ≤ b.length) (hb2' : b.length ≤ 600000) (hw1 : 1 ≤ b.width) (hw2 : b.width ≤ 600000) (hb3 : 1 ≤ len) (hb4 : len ≤ 600000) :
    Calls Try.prog 84 #[.agg #[.string b.name, .string b.species, .int .i64 b.length, .int .i64 b.width, .int .i64 b.thick, .int .i64 b.cut, .int .i64 b.moisture, .slice a b.defects.length c], .int .i64 len] w fun e w' => e = .returned (.tuple #[.agg #[.int .i64 (widS b len).1.x1, .int .i64 (widS b len).1.y1, .int .i64 (widS b len).1.x2, .int .i64 (widS b len).1.y2], .bool (widS b len).2]) ∧ Below w.heap.size w w' := by
  obtain ⟨i0, hi0, hz0, hz1, hz2⟩ := info_parts int_info
  go_enter Try.func84, Try.ntmps84
  go_wp2_with fail
  refine gen_world (fun W => Below w.heap.size w W ∧ w.heap.size + 3 < W.heap.size ∧ RectBlk W (w.heap.size + 1) ⟨0, 0, 0, 0⟩ ∧ (W.cell? ⟨w.heap.size, 2, none⟩ = some (.int .i64 b.length) ∧ W.cell? ⟨w.heap.size, 3, none⟩ = some (.int .i64 b.width) ∧ W.cell? ⟨w.heap.size, 7, none⟩ = some (.slice a b.defects.length c)) ∧
    W.ownsRow (w.heap.size + 2) 3 1 (.slice (some ⟨w.heap.size + 1 + 1, 0, none⟩) 1 1) 1 [.int .i64 0] ∧ W.ownsRow (w.heap.size + 2) 3 1 (.slice (some ⟨w.heap.size + 1 + 1 + 1, 0, none⟩) 1 1) 1 [.int .i64 0]) ?_ ?_
  · refine ⟨((((Below.refl _ _).alloc (Nat.le_refl _) _).alloc (by simp) _).alloc (by simp; omega) _).alloc (by simp; omega) _, by simp, ?_, ⟨by simp [go_sem], by simp [go_sem], by simp [go_sem]⟩, ?_, ?_⟩
    · have h := RectBlk.new (w.alloc (.cells #[.string b.name, .string b.species, .int .i64 b.length, .int .i64 b.width, .int .i64 b.thick, .int .i64 b.cut, .int .i64 b.moisture, .slice a b.defects.length c] 25)) ⟨0, 0, 0, 0⟩
      simp at h
      exact (h.alloc _).alloc _
    · exact (ownLit _ _ _ (by simp) (by simp) 0).alloc _
    · exact ownLit _ _ _ (by simp) (by simp) 0
  rintro W ⟨hbW, hszW, hres, ⟨e2, e3, e7⟩, hox0, hoy0⟩
  go_loopw [6, 7, 24] (fun vx vy i wr => ∃ k gx cx gy cy : Nat, k ≤ b.defects.length ∧ i = .int .i64 k ∧ vx = .slice (some ⟨gx, 0, none⟩) (k + 1) cx ∧ vy = .slice (some ⟨gy, 0, none⟩) (k + 1) cy ∧ gx ≠ gy ∧
      wr.ownsRow (w.heap.size + 2) 3 1 (.slice (some ⟨gx, 0, none⟩) (k + 1) cx) (k + 1) ((0 :: (b.defects.map (·.x2)).take k).map (Value.int .i64)) ∧
      wr.ownsRow (w.heap.size + 2) 3 1 (.slice (some ⟨gy, 0, none⟩) (k + 1) cy) (k + 1) ((0 :: (b.defects.map (·.y2)).take k).map (Value.int .i64)) ∧ Below (w.heap.size + 2) W wr)
    (fun _ _ i _ => b.defects.length - (intOf i).toNat)
  case atStart => exact ⟨0, _, _, _, _, Nat.zero_le _, rfl, rfl, rfl, by omega, hox0, hoy0, Below.refl _ _⟩
  case round =>
    clear hox0 hoy0
    obtain ⟨k, gx, cx, gy, cy, hk, rfl, rfl, rfl, hne, hox, hoy, hbr⟩ := hrel
    have hbr0 : Below w.heap.size w wr := hbW.trans (hbr.mono (by omega))
    have hszr := hbr.size
    by_cases hlt : k < b.defects.length
    · obtain ⟨bk, off, rfl, hat⟩ := (hv.keep hbr0).at_ hlt
      obtain ⟨c0, c1, c2, c3, -⟩ := hat
      go_upto_region 5 with fail
      have hgxl := hox.lt gx rfl
      have hgyl := hoy.lt gy rfl
      refine wp_cut_slots [6, 7, 28, 29, 30, 31, 32, 33, 34, 35, 36, 37] (fun u wc => ∃ gx' cx' gy' cy' : Nat, u 6 = .slice (some ⟨gx', 0, none⟩) (k + 1 + 1) cx' ∧ u 7 = .slice (some ⟨gy', 0, none⟩) (k + 1 + 1) cy' ∧ gx' ≠ gy' ∧
        wc.ownsRow (w.heap.size + 2) 3 1 (.slice (some ⟨gx', 0, none⟩) (k + 1 + 1) cx') (k + 1 + 1) ((0 :: (b.defects.map (·.x2)).take (k + 1)).map (Value.int .i64)) ∧
        wc.ownsRow (w.heap.size + 2) 3 1 (.slice (some ⟨gy', 0, none⟩) (k + 1 + 1) cy') (k + 1 + 1) ((0 :: (b.defects.map (·.y2)).take (k + 1)).map (Value.int .i64)) ∧ Below (w.heap.size + 2) W wc) ?_ ?_
      · refine gen_world (fun W2 => W2.cell? ⟨wr.heap.size, 2, none⟩ = some (.int .i64 b.defects[k].x2) ∧ W2.cell? ⟨wr.heap.size, 3, none⟩ = some (.int .i64 b.defects[k].y2) ∧
          W2.ownsRow (w.heap.size + 2) 3 1 (.slice (some ⟨gx, 0, none⟩) (k + 1) cx) (k + 1) ((0 :: (b.defects.map (·.x2)).take k).map (Value.int .i64)) ∧
          W2.ownsRow (w.heap.size + 2) 3 1 (.slice (some ⟨gy, 0, none⟩) (k + 1) cy) (k + 1) ((0 :: (b.defects.map (·.y2)).take k).map (Value.int .i64)) ∧ Below (w.heap.size + 2) W W2 ∧ wr.heap.size < W2.heap.size) ?_ ?_
        · exact ⟨by simp [go_sem], by simp [go_sem], hox.alloc _, hoy.alloc _, hbr.alloc (by omega) _, by simp⟩
        rintro W2 ⟨d2, d3, hox2, hoy2, hb2, hzW⟩
        clear hox hoy c0 c1 c2 c3
        go_region_held3 (fun w' => w'.cell? ⟨wr.heap.size, 2, none⟩ = some (.int .i64 b.defects[k].x2) ∧ w'.cell? ⟨wr.heap.size, 3, none⟩ = some (.int .i64 b.defects[k].y2)) (first
            | go_keep
            | exact ⟨hkX _ _ (by simp [go_sem, *]) (by simp; omega), hkX _ _ (by simp [go_sem, *]) (by simp; omega)⟩
            | exact ⟨hkY _ _ (by simp [go_sem, *]) (by simp; omega), hkY _ _ (by simp [go_sem, *]) (by simp; omega)⟩)
          (first
            | (have _tok := hoY; refine step_append_lies _ (by rfl) (.tmp 28) (.tmp 31) _ (by rfl) (w.heap.size + 2) 3 i0 (.int .i64 0) 1 8 Try.underlying97 hi0 hz0 hz1 hz2 rfl (by omega) (.slice (some ⟨gx, 0, none⟩) (k + 1) cx) (k + 1) ((0 :: (b.defects.map (·.x2)).take k).map (Value.int .i64)) (by rfl) ?_ ⟨_, 0, none⟩ 1 1 [.int .i64 b.defects[k].x2] (by rfl) (by rfl) ?_ (by simp [Value.oneCell']) (by omega) (by simp only [maxLen]; omega) (by omega) ?_ _ rfl ?_; (focus (repeat (first | assumption | apply World.ownsRow.drew | apply World.ownsRow.alloc))); (focus (first | (refine news_one ?_; simp [go_sem]; done) | (refine news_one ?_; simp [go_sem, hsY]; exact hkY _ _ (by simp [go_sem]) (by simp; omega)) | (refine news_one ?_; exact hkY _ _ (by simp [go_sem]) (by simp; omega)))); (focus (first | (simp; omega) | omega)); intro gX cX wX hoX hgX hatX hltX; have hkX := fun (p : Addr) (v : Value) (hp : _) (hnp : p.block ≠ gx) => World.grownBy.cell (a := p) (v := v) hgX hp (own_ne hnp); have hsX : W2.heap.size ≤ wX.heap.size := (by have hh := hgX.size; (try simp at hh); omega); have hbX : Below (w.heap.size + 2) W wX := Below.grown (by repeat (first | exact hbY | apply Below.drew | (refine Below.alloc ?_ (by first | (simp; omega) | omega) _))) hgX (by first | (simp; omega) | omega) (fun j hj => by simp only [Value.ownBlock, Option.some.injEq] at hj; omega); have hpY := World.ownsRow.kept (v := .slice (some ⟨gY, 0, none⟩) (k + 1 + 1) cY) (by repeat (first | exact hoY | apply World.ownsRow.drew | apply World.ownsRow.alloc)) hgX (.inr (own_ne3 hatY hne (by first | omega | (simp; omega)))))
            | (have _tok := hoX; refine step_append_lies _ (by rfl) (.tmp 33) (.tmp 36) _ (by rfl) (w.heap.size + 2) 3 i0 (.int .i64 0) 1 8 Try.underlying97 hi0 hz0 hz1 hz2 rfl (by omega) (.slice (some ⟨gy, 0, none⟩) (k + 1) cy) (k + 1) ((0 :: (b.defects.map (·.y2)).take k).map (Value.int .i64)) (by rfl) ?_ ⟨_, 0, none⟩ 1 1 [.int .i64 b.defects[k].y2] (by rfl) (by rfl) ?_ (by simp [Value.oneCell']) (by omega) (by simp only [maxLen]; omega) (by omega) ?_ _ rfl ?_; (focus (repeat (first | assumption | apply World.ownsRow.drew | apply World.ownsRow.alloc))); (focus (first | (refine news_one ?_; simp [go_sem]; done) | (refine news_one ?_; simp [go_sem, hsX]; exact hkX _ _ (by simp [go_sem]) (by simp; omega)) | (refine news_one ?_; exact hkX _ _ (by simp [go_sem]) (by simp; omega)))); (focus (first | (simp; omega) | omega)); intro gY cY wY hoY hgY hatY hltY; have hkY := fun (p : Addr) (v : Value) (hp : _) (hnp : p.block ≠ gy) => World.grownBy.cell (a := p) (v := v) hgY hp (own_ne hnp); have hsY : W2.heap.size ≤ wY.heap.size := (by have hh := hgY.size; (try simp at hh); omega); have hbY : Below (w.heap.size + 2) W wY := Below.grown (by repeat (first | exact hbX | apply Below.drew | (refine Below.alloc ?_ (by first | (simp; omega) | omega) _))) hgY (by first | (simp; omega) | omega) (fun j hj => by simp only [Value.ownBlock, Option.some.injEq] at hj; omega); have hpX := World.ownsRow.kept (v := .slice (some ⟨gX, 0, none⟩) (k + 1 + 1) cX) (by repeat (first | exact hoX | apply World.ownsRow.drew | apply World.ownsRow.alloc)) hgY (.inr (own_ne3 hatX hne.symm (by first | omega | (simp; omega)))))
            | (refine step_append_lies _ (by rfl) (.tmp 28) (.tmp 31) _ (by rfl) (w.heap.size + 2) 3 i0 (.int .i64 0) 1 8 Try.underlying97 hi0 hz0 hz1 hz2 rfl (by omega) (.slice (some ⟨gx, 0, none⟩) (k + 1) cx) (k + 1) ((0 :: (b.defects.map (·.x2)).take k).map (Value.int .i64)) (by rfl) ?_ ⟨_, 0, none⟩ 1 1 [.int .i64 b.defects[k].x2] (by rfl) (by rfl) ?_ (by simp [Value.oneCell']) (by omega) (by simp only [maxLen]; omega) (by omega) ?_ _ rfl ?_; (focus (repeat (first | assumption | apply World.ownsRow.drew | apply World.ownsRow.alloc))); (focus (refine news_one ?_; simp [go_sem]; done)); (focus (first | (simp; omega) | omega)); intro gX cX wX hoX hgX hatX hltX; have hkX := fun (p : Addr) (v : Value) (hp : _) (hnp : p.block ≠ gx) => World.grownBy.cell (a := p) (v := v) hgX hp (own_ne hnp); have hsX : W2.heap.size ≤ wX.heap.size := (by have hh := hgX.size; (try simp at hh); omega); have hbX : Below (w.heap.size + 2) W wX := Below.grown (by repeat (first | exact hb2 | apply Below.drew | (refine Below.alloc ?_ (by first | (simp; omega) | omega) _))) hgX (by first | (simp; omega) | omega) (fun j hj => by simp only [Value.ownBlock, Option.some.injEq] at hj; omega); have hpY := World.ownsRow.kept (v := .slice (some ⟨gy, 0, none⟩) (k + 1) cy) (by repeat (first | exact hoy2 | apply World.ownsRow.drew | apply World.ownsRow.alloc)) hgX (.inr (own_ne2 hne.symm)))
            | (refine step_append_lies _ (by rfl) (.tmp 33) (.tmp 36) _ (by rfl) (w.heap.size + 2) 3 i0 (.int .i64 0) 1 8 Try.underlying97 hi0 hz0 hz1 hz2 rfl (by omega) (.slice (some ⟨gy, 0, none⟩) (k + 1) cy) (k + 1) ((0 :: (b.defects.map (·.y2)).take k).map (Value.int .i64)) (by rfl) ?_ ⟨_, 0, none⟩ 1 1 [.int .i64 b.defects[k].y2] (by rfl) (by rfl) ?_ (by simp [Value.oneCell']) (by omega) (by simp only [maxLen]; omega) (by omega) ?_ _ rfl ?_; (focus (repeat (first | assumption | apply World.ownsRow.drew | apply World.ownsRow.alloc))); (focus (refine news_one ?_; simp [go_sem]; done)); (focus (first | (simp; omega) | omega)); intro gY cY wY hoY hgY hatY hltY; have hkY := fun (p : Addr) (v : Value) (hp : _) (hnp : p.block ≠ gy) => World.grownBy.cell (a := p) (v := v) hgY hp (own_ne hnp); have hsY : W2.heap.size ≤ wY.heap.size := (by have hh := hgY.size; (try simp at hh); omega); have hbY : Below (w.heap.size + 2) W wY := Below.grown (by repeat (first | exact hb2 | apply Below.drew | (refine Below.alloc ?_ (by first | (simp; omega) | omega) _))) hgY (by first | (simp; omega) | omega) (fun j hj => by simp only [Value.ownBlock, Option.some.injEq] at hj; omega); have hpX := World.ownsRow.kept (v := .slice (some ⟨gx, 0, none⟩) (k + 1) cx) (by repeat (first | exact hox2 | apply World.ownsRow.drew | apply World.ownsRow.alloc)) hgY (.inr (own_ne2 hne))))
        all_goals
          refine cut_meet (by simp [forget]) ?_
          refine ⟨gX, cX, gY, cY, by simp, by simp, ?_, ?_, ?_, ?_⟩
          · rcases hatX with e | e <;> rcases hatY with e' | e' <;> simp [Value.ownBlock] at e e' <;> omega
          · first | exact rows_next hlt hpX | exact rows_next hlt hoX
          · first | exact rows_next hlt hpY | exact rows_next hlt hoY
          · first | exact hbX | exact hbY
      · rintro u wc ⟨gx', cx', gy', cy', h6, h7, hne', hox', hoy', hbc⟩
        simp only [forget, List.foldl_cons, List.foldl_nil, List.setIfInBounds_toArray, List.set_cons_succ, List.set_cons_zero, h6, h7]
        go_wp2_with fail
        go_roundw
        case rel => exact ⟨k + 1, _, _, _, _, by omega, by go_num, rfl, rfl, hne', hox', hoy', hbc⟩
        case measure => simp [intOf]; omega
    · obtain rfl : k = b.defects.length := by omega
      rw [List.take_of_length_le (by simp)] at hox hoy
      have hgxl := hox.lt gx rfl
      have hgyl := hoy.lt gy rfl
      have HOX := Lib.hid hox
      have HOY := Lib.hid hoy
      clear hox hoy
      go_wp2_with (go_at_call 112; refine (lines_n (w.heap.size + 2) _ _ _ (widXs b) _ (by simp [widXs]) (HOX.out.alloc _) (by omega)).mono ?_; rintro e w1 ⟨rfl, ho1, hg1⟩; have HO1 := Lib.hid ho1; clear ho1)
      have hg1' : (wr.alloc (.cells #[.int .i64 0, .int .i64 0, .int .i64 0, .int .i64 0] 55)).grownBy w1 (some gx) := hg1
      have hlow1 : Below (w.heap.size + 2) W w1 := (hbr.alloc (by omega) _).grown hg1' (by simp; omega) (fun j hj => by cases hj; omega)
      have HW : WidW (w.heap.size + 2) W wr.heap.size gx gy (b.defects.length + 1) cy (uniq (widXs b)) ⟨0, 0, 0, 0⟩ (widYs b) w1 :=
        ⟨(RectBlk.new wr ⟨0, 0, 0, 0⟩).grown hg1' (by simp; omega), (HOY.out.alloc _).kept hg1' (.inr (by simp [Value.ownBlock]; omega)), own_ints HO1.out, hlow1⟩
      have hux : (uniq (widXs b)).length ≤ b.defects.length + 1 := by have := uniq_length (widXs b); simpa [widXs] using this
      have HG := Lib.hid (show widS b len = widGo b.defects b.length b.width len (uniq (widYs b)) ((uniq (widXs b)).drop 0) (⟨0, 0, 0, 0⟩, false) by simp [widS])
      have hsz1 : wr.heap.size < w1.heap.size := by have := hg1'.size; simp at this; omega
      clear HO1 HOX HOY
      obtain ⟨wo, rfl⟩ : ∃ wo : World, wo = wr := ⟨_, rfl⟩
      go_loopw [11, 42] (fun u11 u42 w2 => ∃ (i : Nat) (s : Rect × Bool) (zs : List Int), i ≤ (uniq (widXs b)).length ∧ u42 = .int .i64 i ∧ u11 = .bool s.2 ∧ Hid (widS b len = widGo b.defects b.length b.width len (uniq (widYs b)) ((uniq (widXs b)).drop i) s) ∧
          Hid (zs.length = b.defects.length + 1 ∧ ∀ z, z ∈ zs ↔ z ∈ widYs b) ∧ WidW (w.heap.size + 2) W wo.heap.size gx gy (b.defects.length + 1) cy (uniq (widXs b)) s.1 zs w2 ∧ wo.heap.size < w2.heap.size ∧ (0 ≤ s.1.y1 ∧ s.1.y1 ≤ 600000 ∧ 0 ≤ s.1.y2 ∧ s.1.y2 ≤ 600000)) (fun _ i _ => (uniq (widXs b)).length - (intOf i).toNat)
      case atStart => exact ⟨0, (⟨0, 0, 0, 0⟩, false), widYs b, Nat.zero_le _, rfl, rfl, HG, Lib.hid ⟨by simp [widYs], fun _ => Iff.rfl⟩, HW, hsz1, by simp⟩
      case round =>
        clear HG HW hlow1
        obtain ⟨i, s, zs, hi, rfl, rfl, HG, HZ, HW, hsz2, hsb⟩ := hrel
        have HL2 := HW.low
        have hszW2 := HL2.size
        obtain ⟨hcW, hfW⟩ := bcellB HL2
        have e2' : wr.cell? ⟨w.heap.size, 2, none⟩ = some (.int .i64 b.length) := (hcW _ _ (by omega)).trans e2
        have e3' : wr.cell? ⟨w.heap.size, 3, none⟩ = some (.int .i64 b.width) := (hcW _ _ (by omega)).trans e3
        have e7' : wr.cell? ⟨w.heap.size, 7, none⟩ = some (.slice a b.defects.length c) := (hcW _ _ (by omega)).trans e7
        clear hcW hfW
        by_cases hlt2 : i < (uniq (widXs b)).length
        · obtain ⟨bx, ox, hbx, ci⟩ := HW.ints.at_ hlt2
          injection hbx with hbx
          injection hbx with hb0 ho0
          subst hb0 ho0
          simp only [Nat.zero_add] at ci
          have hxb := widXs_bd hin (uniq_mem.1 (List.getElem_mem hlt2))
          by_cases hbr : b.length < (uniq (widXs b))[i] + len
          · have hs := Lib.hid (widGo_break hlt2 HG.out hbr)
            obtain ⟨b0, b1, b2, b3⟩ := HW.best.cells
            have hr4 : RectBlk wr (w.heap.size + 1) ⟨0, 0, 0, 0⟩ := (HL2.block _ (by omega)).trans hres
            obtain ⟨q0, q1, q2, q3⟩ := hr4.cells
            have p0 := hr4.frozen 0
            have p1 := hr4.frozen 1
            have p2 := hr4.frozen 2
            have p3 := hr4.frozen 3
            have hset := hr4.setAll s.1
            obtain ⟨g0, g1, g2, g3⟩ := hset.cells
            have hbel := ((((hbW.trans (HL2.mono (by omega))).setCell (p := ⟨w.heap.size + 1, 0, none⟩) (by simp) (.int .i64 s.1.x1)).setCell (p := ⟨w.heap.size + 1, 1, none⟩) (by simp) (.int .i64 s.1.y1)).setCell (p := ⟨w.heap.size + 1, 2, none⟩) (by simp) (.int .i64 s.1.x2)).setCell (p := ⟨w.heap.size + 1, 3, none⟩) (by simp) (.int .i64 s.1.y2)
            have HG0 := Lib.hid g0
            have HG1 := Lib.hid g1
            have HG2 := Lib.hid g2
            have HG3 := Lib.hid g3
            clear g0 g1 g2 g3 hset
            go_wp2_with fail
            have g0 := HG0.out
            have g1 := HG1.out
            have g2 := HG2.out
            have g3 := HG3.out
            exact bodyPost_ret (v := .tuple #[.agg #[.int .i64 s.1.x1, .int .i64 s.1.y1, .int .i64 s.1.x2, .int .i64 s.1.y2], .bool s.2]) (by simp [results, Try.results84, go_sem, g0, g1, g2, g3]) rfl ⟨by rw [hs.out], hbel⟩
          · have hu0 := Lib.hid (uniq_congr (zs := zs) (ys := widYs b) HZ.out.2)
            have HWO := Lib.hid HW.own
            have hul : (uniq (widYs b)).length ≤ b.defects.length + 1 := by have := uniq_length (widYs b); simpa [widYs] using this
            have HZ' := Lib.hid (zs_next (ys := widYs b) HZ.out (by simp [widYs]) hul)
            have hlen0 := Lib.hid HZ.out.1
            have HG' := Lib.hid (widGo_next hlt2 HG.out hbr)
            go_wp2_with (go_at_call 112; refine (lines_u (w.heap.size + 2) _ _ _ zs (uniq (widYs b)) _ hlen0.out.symm hu0.out HWO.out (by omega)).mono ?_; rintro e w3 ⟨rfl, ho3, hg3⟩; have HO3 := Lib.hid ho3; clear ho3)
            have HW3 := HW.grownY hg3 hne (by omega) (by omega) (by omega) HO3.out
            have HI3 := own_ints HO3.out
            have hsz3 : wo.heap.size < w3.heap.size := by have := hg3.size; omega
            clear HWO HW HO3 HG hlen0 hu0 HZ e2' e3' e7' ci HL2
            obtain ⟨w2, rfl⟩ : ∃ w2 : World, w2 = wr := ⟨_, rfl⟩
            generalize hx0 : (uniq (widXs b))[i] = x at *
            have HX0 := Lib.hid hx0
            clear hx0
            have HXB := Lib.hid hxb
            clear hxb
            obtain ⟨zs', hzs'⟩ : ∃ zs', zs' = uniq (widYs b) ++ List.replicate (b.defects.length + 1 - (uniq (widYs b)).length) 0 := ⟨_, rfl⟩
            rw [← hzs'] at HW3 HZ'
            clear hzs'
            obtain ⟨us, hus⟩ : ∃ us, us = uniq (widYs b) := ⟨_, rfl⟩
            have HUS := Lib.hid hus
            rw [← hus] at HI3 hul
            have HUB := Lib.hid (show ∀ y ∈ us, 0 ≤ y ∧ y ≤ 600000 from fun y hy => widYs_bd hin (uniq_mem.1 (by rw [← HUS.out]; exact hy)))
            go_loopw [11, 55] (fun u11 u55 wr => ∃ (j : Nat) (s' : Rect × Bool), j ≤ (uniq (widYs b)).length ∧ u55 = .int .i64 j ∧ u11 = .bool s'.2 ∧ Hid ((uniq (widYs b)).foldl (stepY b.defects b.width len x) s = ((uniq (widYs b)).drop j).foldl (stepY b.defects b.width len x) s') ∧
                WidW (w.heap.size + 2) W wo.heap.size gx gy (b.defects.length + 1) cy (uniq (widXs b)) s'.1 zs' wr ∧ IntsV wr (some ⟨gy, 0, none⟩) us ∧ wo.heap.size < wr.heap.size ∧ (0 ≤ s'.1.y1 ∧ s'.1.y1 ≤ 600000 ∧ 0 ≤ s'.1.y2 ∧ s'.1.y2 ≤ 600000)) (fun _ j _ => (uniq (widYs b)).length - (intOf j).toNat)
            case atStart => exact ⟨0, s, Nat.zero_le _, rfl, rfl, Lib.hid rfl, HW3, HI3, hsz3, hsb⟩
            case round =>
              clear HW3 HI3 hsb
              obtain ⟨j, s', hj, rfl, rfl, HF, HW, HI, hszr, hsb⟩ := hrel
              by_cases hlt3 : j < (uniq (widYs b)).length
              · have HL3 := HW.low
                have hszW3 := HL3.size
                obtain ⟨hcW, hfW⟩ := bcellB HL3
                have e2' : wr.cell? ⟨w.heap.size, 2, none⟩ = some (.int .i64 b.length) := (hcW _ _ (by omega)).trans e2
                have e3' : wr.cell? ⟨w.heap.size, 3, none⟩ = some (.int .i64 b.width) := (hcW _ _ (by omega)).trans e3
                have e7' : wr.cell? ⟨w.heap.size, 7, none⟩ = some (.slice a b.defects.length c) := (hcW _ _ (by omega)).trans e7
                clear hcW hfW
                have hxb : 0 ≤ x ∧ x ≤ 600000 := HXB.out
                have hyb : 0 ≤ us[j]'(by rw [HUS.out]; exact hlt3) ∧ us[j]'(by rw [HUS.out]; exact hlt3) ≤ 600000 := HUB.out _ (List.getElem_mem _)
                have hlt3' : j < us.length := by rw [HUS.out]; exact hlt3
                obtain ⟨bx, oy, hby, ci⟩ := HI.at_ hlt3'
                injection hby with hby
                injection hby with hb0 ho0
                subst hb0 ho0
                simp only [Nat.zero_add] at ci
                have HF' := Lib.hid (fold_step hlt3 HF.out)
                have hyj : (uniq (widYs b))[j] = us[j] := by simp only [HUS.out]
                rw [hyj] at HF'
                generalize hy0 : us[j] = y at *
                clear hy0 hyj
                obtain ⟨wp, rfl⟩ : ∃ wp : World, wp = wr := ⟨_, rfl⟩
                have hzq : w.heap.size < wp.heap.size := by omega
                go_upto_region 17 with fail
                refine gen_world (fun W3 => RectBlk W3 wp.heap.size ⟨x, y, x + len, b.width⟩ ∧ WidW (w.heap.size + 2) W wo.heap.size gx gy (b.defects.length + 1) cy (uniq (widXs b)) s'.1 zs' W3 ∧ IntsV W3 (some ⟨gy, 0, none⟩) us ∧ wp.heap.size < W3.heap.size ∧ W3.cell? ⟨w.heap.size, 7, none⟩ = some (.slice a b.defects.length c)) ?_ ?_
                · exact ⟨RectBlk.new _ ⟨x, y, x + len, b.width⟩, HW.keep (by omega) ((Below.refl _ _).alloc (Nat.le_refl _) _), HI.keep ((Below.refl _ _).alloc (Nat.le_refl _) _), by simp, (World.cell?_alloc_past _ _ _ (by omega)).trans e7'⟩
                rintro W3 ⟨HR3, HW3, HI3, hsz3', e73⟩
                clear ci HL3 HW HI e2' e3' e7'
                go_wp2_with fail
                go_loopw [70] (fun u70 wr => ∃ (m : Nat) (y2 : Int), m ≤ b.defects.length ∧ u70 = .int .i64 m ∧ Hid (b.defects.foldl (fY x (x + len) y) b.width = (b.defects.drop m).foldl (fY x (x + len) y) y2) ∧ RectBlk wr wp.heap.size ⟨x, y, x + len, y2⟩ ∧
                    WidW (w.heap.size + 2) W wo.heap.size gx gy (b.defects.length + 1) cy (uniq (widXs b)) s'.1 zs' wr ∧ IntsV wr (some ⟨gy, 0, none⟩) us ∧ wp.heap.size < wr.heap.size ∧ (0 ≤ y2 ∧ y2 ≤ 600000)) (fun m _ => b.defects.length - (intOf m).toNat)
                case atStart => exact ⟨0, b.width, Nat.zero_le _, rfl, Lib.hid rfl, HR3, HW3, HI3, hsz3', by omega⟩
                case round =>
                  clear HR3 HW3 HI3 e73
                  have HIN := Lib.hid hin
                  obtain ⟨m, y2, hm, rfl, HY, HR, HW, HI, hszr, hy2b⟩ := hrel
                  have HL4 := HW.low
                  obtain ⟨hcW, hfW⟩ := bcellB HL4
                  have e7' : wr.cell? ⟨w.heap.size, 7, none⟩ = some (.slice a b.defects.length c) := (hcW _ _ (by omega)).trans e7
                  clear hcW hfW
                  by_cases hlt4 : m < b.defects.length
                  · obtain ⟨bk, od, rfl, hat⟩ := (hv.keep (hbW.trans (HL4.mono (by omega)))).at_ hlt4
                    obtain ⟨c0, c1, c2, c3, -⟩ := hat
                    have hdb := HIN.out _ (List.getElem_mem hlt4)
                    have HY' := Lib.hid (fold_step hlt4 HY.out)
                    generalize hd0 : b.defects[m] = d at *
                    clear hd0
                    obtain ⟨p0, p1, p2, p3⟩ := HR.cells
                    have pf := HR.frozen 3
                    go_wp2_with (go_at_call 113; refine (overlap_any d ⟨x, y, x + len, y2⟩ _).mono ?_; rintro e w4 ⟨rfl, hb4⟩; have HB0 : Below wr.heap.size wr w4 := (((Below.refl _ _).alloc (Nat.le_refl _) _).trans (hb4.mono (by simp))); have hR4 := HR.keep HB0; have d1 : w4.cell? ⟨wr.heap.size, 1, none⟩ = some (.int .i64 d.y1) := (cell_keep hb4 (by simp [go_sem])); have pf4 := hR4.frozen 3; obtain ⟨r0, r1, r2, r3⟩ := hR4.cells)
                    · go_roundw
                      case rel =>
                        rename_i hov
                        exact ⟨m + 1, max d.y1 y, by omega, by go_num, Lib.hid (by rw [HY'.out]; simp only [fY, hov, if_true]), hR4.set3 _, (HW.keep (by omega) HB0).setFar 3 _ (by omega) (by omega) (by omega) (by omega), (HI.keep HB0).grown (grown_setCell _ _ _ _) (by simp; omega), by have := HB0.size; simp [World.setCell]; omega, by omega⟩
                      case measure => simp [intOf]; omega
                    · go_roundw
                      case rel =>
                        rename_i hov
                        exact ⟨m + 1, y2, by omega, by go_num, Lib.hid (by rw [HY'.out]; simp only [fY, hov, if_false, Bool.false_eq_true]), hR4, HW.keep (by omega) HB0, HI.keep HB0, by have := HB0.size; omega, hy2b⟩
                      case measure => simp [intOf]; omega
                  · have HYE := Lib.hid (fold_end (by omega) HY.out)
                    obtain ⟨p0, p1, p2, p3⟩ := HR.cells
                    obtain ⟨q0, q1, q2, q3⟩ := HW.best.cells
                    have f0 := HW.best.frozen 0
                    have f1 := HW.best.frozen 1
                    have f2 := HW.best.frozen 2
                    have f3 := HW.best.frozen 3
                    have HWS := Lib.hid (HW.setBest (by omega) (by omega) (by omega) ⟨x, y, x + len, y2⟩)
                    have HST := Lib.hid (show stepY b.defects b.width len x s' y = if y < y2 ∧ (s'.2 = false ∨ s'.1.y2 - s'.1.y1 < y2 - y) then (⟨x, y, x + len, y2⟩, true) else s' by unfold stepY; rw [HYE.out])
                    have HI4 := Lib.hid ((((HI.grown (grown_setCell _ wo.heap.size 0 (.int .i64 x)) (by simp; omega)).grown (grown_setCell _ wo.heap.size 1 (.int .i64 y)) (by simp; omega)).grown (grown_setCell _ wo.heap.size 2 (.int .i64 (x + len))) (by simp; omega)).grown (grown_setCell _ wo.heap.size 3 (.int .i64 y2)) (by simp; omega))
                    go_wp2_with fail
                    all_goals go_roundw
                    case measure => simp [intOf]; omega
                    case measure => simp [intOf]; omega
                    case measure => simp [intOf]; omega
                    case measure => simp [intOf]; omega
                    case rel =>
                      rename_i h1 h2 h3
                      exact ⟨j + 1, (⟨x, y, x + len, y2⟩, true), by omega, by go_num, rfl, Lib.hid (by rw [HF'.out, HST.out, if_pos ⟨h1, .inr h3⟩]), HWS.out, HI4.out, by simp [World.setCell]; omega, by simp only; omega⟩
                    case rel =>
                      rename_i h1 h2 h3
                      exact ⟨j + 1, s', by omega, by go_num, by rw [h2], Lib.hid (by rw [HF'.out, HST.out, if_neg (by rintro ⟨_, h⟩; rw [h2] at h; simp at h; omega)]), HW, HI, by omega, hsb⟩
                    case rel =>
                      rename_i h1 h2
                      exact ⟨j + 1, (⟨x, y, x + len, y2⟩, true), by omega, by go_num, rfl, Lib.hid (by rw [HF'.out, HST.out, if_pos ⟨h1, .inl (by simpa using h2)⟩]), HWS.out, HI4.out, by simp [World.setCell]; omega, by simp only; omega⟩
                    case rel =>
                      rename_i h1
                      exact ⟨j + 1, s', by omega, by go_num, rfl, Lib.hid (by rw [HF'.out, HST.out, if_neg (by rintro ⟨h, _⟩; omega)]), HW, HI, by omega, hsb⟩
              · have HS := Lib.hid (fold_end (by omega) HF.out)
                go_wp2_with fail
                go_roundw
                case rel => exact ⟨i + 1, s', zs', by omega, by go_num, rfl, Lib.hid (by rw [← HS.out]; subst_vars; exact HG'.out), HZ', HW, hszr, hsb⟩
                case measure => simp [intOf]; omega
        · have hs := Lib.hid (widGo_end (by omega) HG.out)
          obtain ⟨b0, b1, b2, b3⟩ := HW.best.cells
          have hr4 : RectBlk wr (w.heap.size + 1) ⟨0, 0, 0, 0⟩ := (HL2.block _ (by omega)).trans hres
          obtain ⟨q0, q1, q2, q3⟩ := hr4.cells
          have p0 := hr4.frozen 0
          have p1 := hr4.frozen 1
          have p2 := hr4.frozen 2
          have p3 := hr4.frozen 3
          have hset := hr4.setAll s.1
          obtain ⟨g0, g1, g2, g3⟩ := hset.cells
          have hbel := ((((hbW.trans (HL2.mono (by omega))).setCell (p := ⟨w.heap.size + 1, 0, none⟩) (by simp) (.int .i64 s.1.x1)).setCell (p := ⟨w.heap.size + 1, 1, none⟩) (by simp) (.int .i64 s.1.y1)).setCell (p := ⟨w.heap.size + 1, 2, none⟩) (by simp) (.int .i64 s.1.x2)).setCell (p := ⟨w.heap.size + 1, 3, none⟩) (by simp) (.int .i64 s.1.y2)
          have HG0 := Lib.hid g0
          have HG1 := Lib.hid g1
          have HG2 := Lib.hid g2
          have HG3 := Lib.hid g3
          clear g0 g1 g2 g3 hset
          go_wp2_with fail
          have g0 := HG0.out
          have g1 := HG1.out
          have g2 := HG2.out
          have g3 := HG3.out
          exact bodyPost_ret (v := .tuple #[.agg #[.int .i64 s.1.x1, .int .i64 s.1.y1, .int .i64 s.1.x2, .int .i64 s.1.y2], .bool s.2]) (by simp [results, Try.results84, go_sem, g0, g1, g2, g3]) rfl ⟨by rw [hs.out], hbel⟩
end Go.Proofs.Ythhchnhidhgccaa
