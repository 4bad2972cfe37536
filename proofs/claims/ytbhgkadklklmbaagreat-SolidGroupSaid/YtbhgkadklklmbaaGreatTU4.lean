/- All turns of the program, by their numbers. -/
import Derived.Test.YtbhgkadklklmbaaGreatTU3
import Derived.Test.YtbhgkadklklmbaaGreatQH
set_option linter.unusedVariables false
set_option linter.unusedSimpArgs false
namespace Go.Proofs.YtbhgkadklklmbaaGreat
open Go Go.RowKit Go.Shelf Go.Lib Go.Sort
attribute [local go_sem] Oper.semAt_some

theorem trInfo : (Tryz.prog.info? 174).map (fun i => (i.zero, i.size, i.bytes)) = some (some (.agg #[.int .i64 0, .int .i64 0, .int .i64 0, .int .i64 0, .int .i64 0, .int .i64 0]), 6, 48) := by kernel_rfl
def cellsTr (t : Trn) : List Value := [.int .i64 t.p0, .int .i64 t.p1, .int .i64 t.p2, .int .i64 t.s0, .int .i64 t.s1, .int .i64 t.s2]
theorem cellsTr_len : ∀ x, (cellsTr x).length = 6 := fun _ => rfl
theorem cellsTr_one (x : Trn) : ∀ v ∈ cellsTr x, v.oneCell' = true := by intro v hv; simp only [cellsTr, List.mem_cons, List.not_mem_nil, or_false] at hv; rcases hv with rfl | rfl | rfl | rfl | rfl | rfl <;> rfl
/-- The two rows of turns under way: each in its box. -/
structure Gat2 (Wb : World) (gO gI B : Nat) (ds : List Deferred) (A : List Trn) (W : World) : Prop where
 row : ∃ vo vi, (W.cell? ⟨gO, 0, none⟩ = some vo ∧ W.frozen? ⟨gO, 0, none⟩ = false) ∧ (W.cell? ⟨gI, 0, none⟩ = some vi ∧ W.frozen? ⟨gI, 0, none⟩ = false) ∧
  W.ownsRow (gI + 1) 174 6 vo (A.filter fun t => !mirB t).length ((A.filter fun t => !mirB t).flatMap cellsTr) ∧ W.ownsRow (gI + 1) 174 6 vi (A.filter mirB).length ((A.filter mirB).flatMap cellsTr) ∧
  (∀ g, vo.ownBlock = some g → vi.ownBlock ≠ some g)
 below : Below Wb.heap.size Wb W
 marks : Marks B ds W
theorem Gat2.keep {Wb : World} {gO gI B : Nat} {ds : List Deferred} {A : List Trn} {W W' : World} (h : Gat2 Wb gO gI B ds A W) (hb : Below W.heap.size W W') : Gat2 Wb gO gI B ds A W' := by
 obtain ⟨⟨vo, vi, ⟨h1, h2⟩, ⟨h3, h4⟩, h5, h6, h7⟩, h8, h9⟩ := h
 exact ⟨⟨vo, vi, ⟨cell_keep hb h1, frozen_keep hb (block_lt_of_cell h1) h2⟩, ⟨cell_keep hb h3, frozen_keep hb (block_lt_of_cell h3) h4⟩, own_keep h5 hb, own_keep h6 hb, h7⟩, h8.trans (hb.mono h8.size), h9.keep fun D _ hl _ => (hb.block D (Array.getElem?_eq_some_iff.1 hl).1).trans hl⟩
theorem Gat2.own {Wb : World} {gO gI B base : Nat} {ds : List Deferred} {A : List Trn} {W W' : World} {row : Option Nat} (h : Gat2 Wb gO gI B ds A W) (hb : Wb.heap.size ≤ base) (hd : ∀ d ∈ ds, ∃ D, d.target = .collected D ∧ D < base)
    (hg : W.grownBy W' row) (hr : ∀ r, row = some r → base ≤ r ∧ ∃ o : Obj, W.heap[r]? = some o ∧ o.isCells = false) : Gat2 Wb gO gI B ds A W' := by
 obtain ⟨⟨vo, vi, ⟨h1, h2⟩, ⟨h3, h4⟩, h5, h6, h7⟩, h8, h9⟩ := h
 have hr' := fun r e => (hr r e).2
 have hn := not_row h1 hr'
 have hm := not_row h3 hr'
 exact ⟨⟨vo, vi, ⟨hg.cell h1 hn, (World.frozen?_of_block (a := ⟨gO, 0, none⟩) (hg.block gO (block_lt_of_cell h1) hn)).trans h2⟩, ⟨hg.cell h3 hm, (World.frozen?_of_block (a := ⟨gI, 0, none⟩) (hg.block gI (block_lt_of_cell h3) hm)).trans h4⟩, own_keptC h5 hg hr', own_keptC h6 hg hr', h7⟩, h8.grown hg h8.size (fun r e => by have := (hr r e).1; omega), h9.grown hg (fun r e => (hr r e).1) hd⟩
/-- A turn's box, beyond a place. -/
def TrAt (gq : Nat) (t : Trn) (g : Nat) (W : World) : Prop := TrBx W g t ∧ gq < g
theorem TrAt.own {gq base : Nat} {t : Trn} {g : Nat} : OwnFrom base (fun (_ : Unit) W => TrAt gq t g W) := fun _ W W' row h hg hr => by
 obtain ⟨⟨⟨a0, a1, a2⟩, b0, b1, b2⟩, hq⟩ := h
 have hr' := fun r e => (hr r e).2
 exact ⟨⟨⟨hg.cell a0 (not_row a0 hr'), hg.cell a1 (not_row a1 hr'), hg.cell a2 (not_row a2 hr')⟩, hg.cell b0 (not_row b0 hr'), hg.cell b1 (not_row b1 hr'), hg.cell b2 (not_row b2 hr')⟩, hq⟩
theorem TrAt.new {gq : Nat} {W : World} {T : TypeId} (t : Trn) (h : gq < W.heap.size) : TrAt gq t W.heap.size (W.alloc (.cells #[.int .i64 t.p0, .int .i64 t.p1, .int .i64 t.p2, .int .i64 t.s0, .int .i64 t.s1, .int .i64 t.s2] T)) :=
 ⟨⟨⟨by simp [go_sem], by simp [go_sem], by simp [go_sem]⟩, by simp [go_sem], by simp [go_sem], by simp [go_sem]⟩, h⟩
/-- Rows of turns. -/
def TrsV (w : World) (a : Option Addr) (l : List Trn) : Prop := ∃ b off, a = some ⟨b, off, none⟩ ∧ ∀ k (h : k < l.length), (w.cell? ⟨b, off + k * 6, none⟩ = some (.int .i64 l[k].p0) ∧ w.cell? ⟨b, off + k * 6 + 1, none⟩ = some (.int .i64 l[k].p1) ∧ w.cell? ⟨b, off + k * 6 + 2, none⟩ = some (.int .i64 l[k].p2)) ∧
 (w.cell? ⟨b, off + k * 6 + 3, none⟩ = some (.int .i64 l[k].s0) ∧ w.cell? ⟨b, off + k * 6 + 4, none⟩ = some (.int .i64 l[k].s1) ∧ w.cell? ⟨b, off + k * 6 + 5, none⟩ = some (.int .i64 l[k].s2))
theorem TrsV.keep {w w' : World} {a : Option Addr} {l : List Trn} (h : TrsV w a l) (hb : Below w.heap.size w w') : TrsV w' a l := by
 obtain ⟨b, off, ha, h⟩ := h
 refine ⟨b, off, ha, fun k hk => ?_⟩
 obtain ⟨⟨a0, a1, a2⟩, b0, b1, b2⟩ := h k hk
 exact ⟨⟨cell_keep hb a0, cell_keep hb a1, cell_keep hb a2⟩, cell_keep hb b0, cell_keep hb b1, cell_keep hb b2⟩
end Go.Proofs.YtbhgkadklklmbaaGreat
/- All turns of the program, by their numbers: the walk. -/
set_option linter.unusedVariables false
set_option linter.unusedSimpArgs false
namespace Go.Proofs.YtbhgkadklklmbaaGreat
open Go Go.RowKit Go.Shelf Go.Lib Go.Sort
attribute [local go_sem] Oper.semAt_some

theorem filt_no {A : List Trn} {t : Trn} (h : mirB t = false) : ((A ++ [t]).filter fun t => !mirB t) = (A.filter fun t => !mirB t) ++ [t] ∧ (A ++ [t]).filter mirB = A.filter mirB := by
 rw [List.filter_append, List.filter_append]; simp [h]
theorem filt_yes {A : List Trn} {t : Trn} (h : mirB t = true) : ((A ++ [t]).filter fun t => !mirB t) = (A.filter fun t => !mirB t) ∧ (A ++ [t]).filter mirB = A.filter mirB ++ [t] := by
 rw [List.filter_append, List.filter_append]; simp [h]
theorem own_news {w : World} {base n m c : Nat} {a : Option Addr} {l : List Trn} (h : w.ownsRow base 174 6 (.slice a m c) n (l.flatMap cellsTr)) : l ≠ [] → ∃ ad, a = some ad ∧ ∀ j u, (l.flatMap cellsTr)[j]? = some u → w.cell? (ad.add j) = some u := fun hne => by
 rcases h.2 with ⟨e0, h0⟩ | ⟨g, cap, cur, e0, _⟩
 ·have h1 := h.1
  rw [flat_len cellsTr_len] at h1
  exact absurd (List.length_eq_zero_iff.1 (by omega)) hne
 ·injection e0 with e1 e2 e3
  subst e1 e2
  exact ⟨_, rfl, fun j u hj => h.cells (g := g) rfl j u hj⟩
theorem own_trs {w : World} {base n : Nat} {v : Value} {l : List Trn} (h : w.ownsRow base 174 6 v n (l.flatMap cellsTr)) (hne : l ≠ []) : ∃ a c, v = .slice a l.length c ∧ TrsV w a l := by
 obtain ⟨g, cap, rfl, h1, h2, h3, h4, h5, h6⟩ := own_cells cellsTr_len h hne (by decide)
 refine ⟨_, cap, by rw [h3], g, 0, rfl, fun k hk => ?_⟩
 rw [Nat.zero_add]
 refine ⟨⟨?_, ?_, ?_⟩, ?_, ?_, ?_⟩
 ·exact (h6 k hk 0 (by decide)).1
 ·exact (h6 k hk 1 (by decide)).1
 ·exact (h6 k hk 2 (by decide)).1
 ·exact (h6 k hk 3 (by decide)).1
 ·exact (h6 k hk 4 (by decide)).1
 ·exact (h6 k hk 5 (by decide)).1
theorem TrsV.cells {w w' : World} {a : Option Addr} {l : List Trn} (h : TrsV w a l) (hk : KeepsCells w.heap.size w w') : TrsV w' a l := by
 obtain ⟨b, off, ha, h⟩ := h
 refine ⟨b, off, ha, fun k hkl => ?_⟩
 obtain ⟨⟨a0, a1, a2⟩, b0, b1, b2⟩ := h k hkl
 have hb : b ≠ w.heap.size := by have := block_lt_of_cell a0; simp only at this; omega
 exact ⟨⟨hk.cell a0 hb, hk.cell a1 hb, hk.cell a2 hb⟩, hk.cell b0 hb, hk.cell b1 hb, hk.cell b2 hb⟩
set_option maxRecDepth 100000 in
set_option maxHeartbeats 8000000 in
theorem all_any (w : World) : Calls Tryz.prog 126 #[] w fun e w' => ∃ a c, e = .returned (.slice a 48 c) ∧ TrsV w' a trnL ∧ Below w.heap.size w w' := by
 obtain ⟨i0, hi0, hz0, hz1, hz2⟩ := info_parts trInfo
 refine callsIn_wide.1 (callsIn_of_wp_marks (F := Fence.wide) (n := 3) Tryz.func126 rfl trivial ?_ rfl)
 refine wpIn_wide.2 ?_
 simp only [Tryz.ntmps126, List.size_toArray, List.length_cons, List.length_nil, Nat.reduceAdd, Nat.reduceSub, Array.replicate_succ, Array.replicate_zero, List.push_toArray, List.append_toArray, List.nil_append, List.cons_append]
 go_wp2_with fail
 obtain ⟨gO, hgO⟩ : ∃ g, g = w.heap.size := ⟨_, rfl⟩
 refine gen_world (fun W => Gat2 w gO (gO + 1) w.heap.size [] [] W) ⟨⟨.slice none 0 0, .slice none 0 0, ⟨by rw [hgO]; simp [go_sem], by rw [hgO]; simp [go_sem]⟩, ⟨by rw [hgO]; simp [go_sem], by rw [hgO]; simp [go_sem]⟩, World.ownsRow_nil _ _ _ _, World.ownsRow_nil _ _ _ _, fun g h => by cases h⟩, ((Below.refl _ _).alloc (Nat.le_refl _) _).alloc (by simp) _, trivial⟩ ?_
 rintro W5 hct
 have HC5 := Lib.hid hct
 have HGO := Lib.hid hgO
 rw [show w.heap.size = gO from hgO.symm]
 clear hct hgO
 obtain ⟨vo, vi, ⟨ho1, -⟩, ⟨hi1, -⟩, ho2, hi2, -⟩ := HC5.out.row
 have hzO := block_lt_of_cell ho1
 have hzI := block_lt_of_cell hi1
 simp only at hzO hzI
 have hval : ∀ g ∈ [gO, gO + 1], Valid g W5 := by
  intro g hg
  simp only [List.mem_cons, List.not_mem_nil, or_false] at hg
  rcases hg with rfl | rfl
  ·exact ⟨hzO, fun k e => by rw [show ownAt g W5 = vo.ownBlock by unfold ownAt; rw [ho1]; rfl] at e; exact (ho2.lt k e).2⟩
  ·exact ⟨hzI, fun k e => by rw [show ownAt (gO + 1) W5 = vi.ownBlock by unfold ownAt; rw [hi1]; rfl] at e; exact (hi2.lt k e).2⟩
 have hw5 : w.heap.size ≤ W5.heap.size := HC5.out.below.size
 clear ho1 hi1 ho2 hi2
 refine (wpIn_wide (n := 3)).1 (wpIn_rangeBox rfl (by decide) (gf := 171) rfl trivial (enters_of Tryz.func171 (by kernel_rfl) rfl)
  (turns_gives [gO, gO + 1] 2 (by decide) W5 hval)
  (fun h k => h.trans k) (fun W l o o' _ h1 h2 h3 _ => KeepsL.putObj h1 h2 h3) (Below.refl _ _) (fun _ => rfl)
  (fun (pre : List TrnW) W => Gat2 w gO (gO + 1) w.heap.size [] (pre.map fun x : TrnW => x.1) W) (fun _ _ => False)
  (fun pre A B row h hg hr => h.own hw5 (fun d hd => by cases hd) hg hr) (fun pre A B row h hg hr => h) (by rw [List.map_nil]; exact HC5.out) 3 (fun x g W => TrAt (gO + 1) x.1 g W) (fun x g => TrAt.own) ?assign ?body ?done ?stop)
 case assign =>
  rintro l pre x W K2 hi hK2
  have HI := Lib.hid hi
  have HK2 := Lib.hid hK2
  clear hi hK2
  unfold encTrn
  gi_wp2
  obtain ⟨v6, v7, -, ⟨hbx6, -⟩, -⟩ := HI.out.row
  have hk3 := HK2.out W.heap.size _ ((KeepsOthers.alloc _ _).from _) (KeepsL.of_below ((Below.refl _ _).alloc (Nat.le_refl _) _)) (HI.out.keep ((Below.refl _ _).alloc (Nat.le_refl _) _)) (TrAt.new (T := 174) x.1 (by have := block_lt_of_cell hbx6; simpa using this))
  simpa [encTrn] using hk3
 case body =>
  rintro l pre ⟨t, ht⟩ gP W hi ⟨⟨⟨a0, a1, a2⟩, b0, b1, b2⟩, hgP⟩ hpre
  have HI := Lib.hid hi
  obtain ⟨⟨vo, vi, ⟨ho1, ho2⟩, ⟨hi1, hi2⟩, hro, hri, hap⟩, hbl, hmk⟩ := hi
  have HBO := Lib.hid (And.intro ho1 ho2)
  have HBI := Lib.hid (And.intro hi1 hi2)
  have HRO := Lib.hid hro
  have HRI := Lib.hid hri
  have HAP := Lib.hid hap
  have HMR := Lib.hid (fun w => mirrors_any t ht w)
  have HGB := Lib.hid (show gO + 1 < W.heap.size by have := block_lt_of_cell hi1; simpa using this)
  have HBL := Lib.hid hbl
  have HMK := Lib.hid hmk
  clear ho2 hi2 hro hri hap hbl hmk
  simp only [encTrn]
  cases hmt : mirB t with
  | true =>
   have HFL := Lib.hid (filt_yes (A := pre.map fun x : TrnW => x.1) hmt)
   have HLN := Lib.hid (show ((pre.map fun x : TrnW => x.1).filter (mirB)).length ≤ 48 by have := List.length_filter_le (mirB) (pre.map fun x : TrnW => x.1); rw [List.length_map] at this; omega)
   rw [hmt] at HMR
   obtain ⟨L, hL⟩ : ∃ L, L = (pre.map fun x : TrnW => x.1).filter (mirB) := ⟨_, rfl⟩
   have HL := Lib.hid hL
   rw [← hL] at HRI HLN
   clear hL hmt
   obtain ⟨av, cv, rfl, -, -⟩ := own_slice HRI.out
   gi_wp2_with (first
    | (refine ⟨trivial, ?_⟩; gi_at_call 172; refine (CallsIn.inRound l (callsIn_wide.2 (HMR.out _))).mono ?_; rintro e w6 ⟨rfl, hb6⟩; have HB6 := Lib.hid hb6; have a0 := cell_keep hb6 a0; have a1 := cell_keep hb6 a1; have a2 := cell_keep hb6 a2; have b0 := cell_keep hb6 b0; have b1 := cell_keep hb6 b1; have b2 := cell_keep hb6 b2; have ho1 := cell_keep hb6 ho1; have hi1 := cell_keep hb6 hi1; have HR6 := Lib.hid (own_keep HRI.out hb6); clear hb6)
    | (gi_at_builtin; refine wpListIn_append_here _ rfl _ _ 171 rfl (gO + 1 + 1) 174 i0 (.agg #[.int .i64 0, .int .i64 0, .int .i64 0, .int .i64 0, .int .i64 0, .int .i64 0]) 6 48 Tryz.underlying171 hi0 hz0 hz1 hz2 rfl (by decide) _ L.length _ rfl (own_keep HR6.out ((Below.refl _ _).alloc (Nat.le_refl _) _)) ⟨w6.heap.size, 0, none⟩ 1 1 (cellsTr t) rfl rfl (news_of (cellsTr t) _ _ _ rfl) (cellsTr_one _) (by decide) (by have := HLN.out; simp only [maxLen]; omega) (by have := HLN.out; omega) (by have := HGB.out; have := HB6.out.size; simp; omega) ?_; intro v9 w9 ho9 hg9 hv9; obtain ⟨a9, c9, rfl, -, -⟩ := own_slice ho9; have HO9 := Lib.hid ho9; have HG9 := Lib.hid hg9; have HV9 := Lib.hid hv9; have hbx9 := hg9.cell (cell_keep ((Below.refl _ _).alloc (Nat.le_refl _) _) hi1) (fun e => by have := (HR6.out.lt _ e.symm).1; simp only at this; omega); have hfx9 := (World.frozen?_of_block (a := ⟨gO + 1, 0, none⟩) (hg9.block (gO + 1) (by have := HGB.out; have := HB6.out.size; simp; omega) (fun e => by have := (HR6.out.lt _ e.symm).1; omega))).trans (frozen_keep (HB6.out.trans (((Below.refl _ _).alloc (Nat.le_refl _) _).mono HB6.out.size)) (by have := HGB.out; simp only; omega) HBI.out.2); clear ho9 hg9 hv9))
   have AL := ((Below.refl w6.heap.size w6).alloc (Nat.le_refl _) (.cells #[.int .i64 (t.p0 : Int), .int .i64 (t.p1 : Int), .int .i64 (t.p2 : Int), .int .i64 t.s0, .int .i64 t.s1, .int .i64 t.s2] 174))
   have hy6 := own_keep HRO.out HB6.out
   have hyr := (own_keep hy6 AL).kept HG9.out (by
    cases hv : vo.ownBlock with
    | none => exact .inl rfl
    | some g => exact .inr (fun e => HAP.out g hv e.symm))
   have hy9 : (w9.setCell ⟨gO + 1, 0, none⟩ (.slice a9 (L.length + 1) c9)).cell? ⟨gO, 0, none⟩ = some vo := by
    rw [World.cell?_setCell_other (h := fun e => by injection e with e; omega)]
    exact HG9.out.cell (cell_keep AL ho1) (fun e => by have := (HR6.out.lt _ e.symm).1; simp only at this; omega)
   have hyf := (World.frozen?_of_block (a := ⟨gO, 0, none⟩) (HG9.out.block (gO) (by have := HGB.out; have := HB6.out.size; simp; omega) (fun e => by have := (HR6.out.lt _ e.symm).1; omega))).trans (frozen_keep (HB6.out.trans (AL.mono HB6.out.size)) (by have := HGB.out; simp only; omega) HBO.out.2)
   have hkf : ∀ B, KeepsFrom B W (w9.setCell ⟨gO + 1, 0, none⟩ (.slice a9 (L.length + 1) c9)) := fun B => keepsFrom_set ((keepsFrom_below HB6.out).trans ((keepsFrom_below AL).trans (keepsFrom_grown HG9.out (own_cellsBlock (own_keep HR6.out AL))))) _ _
   refine ⟨hkf _, (KeepsL.of_below HB6.out).trans ((KeepsL.of_below AL).trans (KeepsL.append (by simp) (cell_keep AL hi1) (fun x hx e => ?_) HG9.out HV9.out (fun k e => (HO9.out.lt k e).2))), ⟨⟨vo, .slice a9 (L.length + 1) c9, ⟨hy9, by rw [frozen_set]; exact hyf⟩, ⟨World.cell?_setCell_same _ _ _ hbx9, by rw [frozen_set]; exact hfx9⟩, ?_, ?_, ?_⟩, ?_, trivial⟩⟩
   ·have h1 := (HR6.out.lt _ e).1
    simp only [List.mem_cons, List.not_mem_nil, or_false] at hx
    omega
   ·rw [List.map_append, List.map_cons, List.map_nil]
    ·have h := hyr.kept (grownBy_set (a := ⟨gO + 1, 0, none⟩) (u := .slice a9 (L.length + 1) c9)) (.inr fun e => by have := (hyr.lt _ e).1; simp only at this; omega)
     rw [HFL.out.1]
     exact h
   ·rw [List.map_append, List.map_cons, List.map_nil]
    ·have h := (HO9.out).kept (grownBy_set (a := ⟨gO + 1, 0, none⟩) (u := .slice a9 (L.length + 1) c9)) (.inr fun e => by have := (HO9.out.lt _ e).1; simp only at this; omega)
     rw [HFL.out.2, ← HL.out, List.length_append, List.flatMap_append]
     simpa using h
   ·intro g h1 h2
    have hg1 := h1; have hg2 := h2
    rcases HV9.out with h | h
    ·rw [h] at hg2
     exact HAP.out g hg1 hg2
    ·rw [h] at hg2
     injection hg2 with hg2
     have h3 := (hy6.lt _ hg1).2
     simp at hg2
     omega
   ·have hbb : Below w.heap.size w w9 := ((HBL.out.trans (HB6.out.mono HBL.out.size)).alloc (Nat.le_trans HBL.out.size HB6.out.size) _).grown HG9.out (by have := HBL.out.size; have := HB6.out.size; simp; omega) (fun q hq => by have := (HR6.out.lt _ hq).1; have := HGO.out; omega)
    exact hbb.setCell (by have := HGO.out; simp only; omega) _
  | false =>
   have HFL := Lib.hid (filt_no (A := pre.map fun x : TrnW => x.1) hmt)
   have HLN := Lib.hid (show ((pre.map fun x : TrnW => x.1).filter (fun t => !mirB t)).length ≤ 48 by have := List.length_filter_le (fun t => !mirB t) (pre.map fun x : TrnW => x.1); rw [List.length_map] at this; omega)
   rw [hmt] at HMR
   obtain ⟨L, hL⟩ : ∃ L, L = (pre.map fun x : TrnW => x.1).filter (fun t => !mirB t) := ⟨_, rfl⟩
   have HL := Lib.hid hL
   rw [← hL] at HRO HLN
   clear hL hmt
   obtain ⟨av, cv, rfl, -, -⟩ := own_slice HRO.out
   gi_wp2_with (first
    | (refine ⟨trivial, ?_⟩; gi_at_call 172; refine (CallsIn.inRound l (callsIn_wide.2 (HMR.out _))).mono ?_; rintro e w6 ⟨rfl, hb6⟩; have HB6 := Lib.hid hb6; have a0 := cell_keep hb6 a0; have a1 := cell_keep hb6 a1; have a2 := cell_keep hb6 a2; have b0 := cell_keep hb6 b0; have b1 := cell_keep hb6 b1; have b2 := cell_keep hb6 b2; have ho1 := cell_keep hb6 ho1; have hi1 := cell_keep hb6 hi1; have HR6 := Lib.hid (own_keep HRO.out hb6); clear hb6)
    | (gi_at_builtin; refine wpListIn_append_here _ rfl _ _ 171 rfl (gO + 1 + 1) 174 i0 (.agg #[.int .i64 0, .int .i64 0, .int .i64 0, .int .i64 0, .int .i64 0, .int .i64 0]) 6 48 Tryz.underlying171 hi0 hz0 hz1 hz2 rfl (by decide) _ L.length _ rfl (own_keep HR6.out ((Below.refl _ _).alloc (Nat.le_refl _) _)) ⟨w6.heap.size, 0, none⟩ 1 1 (cellsTr t) rfl rfl (news_of (cellsTr t) _ _ _ rfl) (cellsTr_one _) (by decide) (by have := HLN.out; simp only [maxLen]; omega) (by have := HLN.out; omega) (by have := HGB.out; have := HB6.out.size; simp; omega) ?_; intro v9 w9 ho9 hg9 hv9; obtain ⟨a9, c9, rfl, -, -⟩ := own_slice ho9; have HO9 := Lib.hid ho9; have HG9 := Lib.hid hg9; have HV9 := Lib.hid hv9; have hbx9 := hg9.cell (cell_keep ((Below.refl _ _).alloc (Nat.le_refl _) _) ho1) (fun e => by have := (HR6.out.lt _ e.symm).1; simp only at this; omega); have hfx9 := (World.frozen?_of_block (a := ⟨gO, 0, none⟩) (hg9.block (gO) (by have := HGB.out; have := HB6.out.size; simp; omega) (fun e => by have := (HR6.out.lt _ e.symm).1; omega))).trans (frozen_keep (HB6.out.trans (((Below.refl _ _).alloc (Nat.le_refl _) _).mono HB6.out.size)) (by have := HGB.out; simp only; omega) HBO.out.2); clear ho9 hg9 hv9))
   have AL := ((Below.refl w6.heap.size w6).alloc (Nat.le_refl _) (.cells #[.int .i64 (t.p0 : Int), .int .i64 (t.p1 : Int), .int .i64 (t.p2 : Int), .int .i64 t.s0, .int .i64 t.s1, .int .i64 t.s2] 174))
   have hy6 := own_keep HRI.out HB6.out
   have hyr := (own_keep hy6 AL).kept HG9.out (by
    cases hv : vi.ownBlock with
    | none => exact .inl rfl
    | some g => exact .inr (fun e => HAP.out g e.symm hv))
   have hy9 : (w9.setCell ⟨gO, 0, none⟩ (.slice a9 (L.length + 1) c9)).cell? ⟨gO + 1, 0, none⟩ = some vi := by
    rw [World.cell?_setCell_other (h := fun e => by injection e with e; omega)]
    exact HG9.out.cell (cell_keep AL hi1) (fun e => by have := (HR6.out.lt _ e.symm).1; simp only at this; omega)
   have hyf := (World.frozen?_of_block (a := ⟨gO + 1, 0, none⟩) (HG9.out.block (gO + 1) (by have := HGB.out; have := HB6.out.size; simp; omega) (fun e => by have := (HR6.out.lt _ e.symm).1; omega))).trans (frozen_keep (HB6.out.trans (AL.mono HB6.out.size)) (by have := HGB.out; simp only; omega) HBI.out.2)
   have hkf : ∀ B, KeepsFrom B W (w9.setCell ⟨gO, 0, none⟩ (.slice a9 (L.length + 1) c9)) := fun B => keepsFrom_set ((keepsFrom_below HB6.out).trans ((keepsFrom_below AL).trans (keepsFrom_grown HG9.out (own_cellsBlock (own_keep HR6.out AL))))) _ _
   refine ⟨hkf _, (KeepsL.of_below HB6.out).trans ((KeepsL.of_below AL).trans (KeepsL.append (by simp) (cell_keep AL ho1) (fun x hx e => ?_) HG9.out HV9.out (fun k e => (HO9.out.lt k e).2))), ⟨⟨.slice a9 (L.length + 1) c9, vi, ⟨World.cell?_setCell_same _ _ _ hbx9, by rw [frozen_set]; exact hfx9⟩, ⟨hy9, by rw [frozen_set]; exact hyf⟩, ?_, ?_, ?_⟩, ?_, trivial⟩⟩
   ·have h1 := (HR6.out.lt _ e).1
    simp only [List.mem_cons, List.not_mem_nil, or_false] at hx
    omega
   ·rw [List.map_append, List.map_cons, List.map_nil]
    ·have h := (HO9.out).kept (grownBy_set (a := ⟨gO, 0, none⟩) (u := .slice a9 (L.length + 1) c9)) (.inr fun e => by have := (HO9.out.lt _ e).1; simp only at this; omega)
     rw [HFL.out.1, ← HL.out, List.length_append, List.flatMap_append]
     simpa using h
   ·rw [List.map_append, List.map_cons, List.map_nil]
    ·have h := hyr.kept (grownBy_set (a := ⟨gO, 0, none⟩) (u := .slice a9 (L.length + 1) c9)) (.inr fun e => by have := (hyr.lt _ e).1; simp only at this; omega)
     rw [HFL.out.2]
     exact h
   ·intro g h1 h2
    have hg1 := h2; have hg2 := h1
    rcases HV9.out with h | h
    ·rw [h] at hg2
     exact HAP.out g hg2 hg1
    ·rw [h] at hg2
     injection hg2 with hg2
     have h3 := (hy6.lt _ hg1).2
     simp at hg2
     omega
   ·have hbb : Below w.heap.size w w9 := ((HBL.out.trans (HB6.out.mono HBL.out.size)).alloc (Nat.le_trans HBL.out.size HB6.out.size) _).grown HG9.out (by have := HBL.out.size; have := HB6.out.size; simp; omega) (fun q hq => by have := (HR6.out.lt _ hq).1; have := HGO.out; omega)
    exact hbb.setCell (by have := HGO.out; simp only; omega) _
 case done =>
  rintro D xs W hD hS hI hl
  obtain ⟨⟨vo, vi, ⟨ho1, -⟩, ⟨hi1, -⟩, hro, hri, -⟩, hbl, -⟩ := hI
  rw [hS] at hro hri
  obtain ⟨LO, hLO⟩ : ∃ L, L = trnA.filter fun t => !mirB t := ⟨_, rfl⟩
  obtain ⟨LI, hLI⟩ : ∃ L, L = trnA.filter mirB := ⟨_, rfl⟩
  have HLL := Lib.hid (show LO ++ LI = trnL by rw [hLO, hLI]; rfl)
  have HN1 := Lib.hid (show LO.length ≤ 100 ∧ LI.length ≤ 100 by rw [hLO, hLI]; decide +kernel)
  rw [← hLO] at hro
  rw [← hLI] at hri
  have HRO := Lib.hid hro
  have HRI := Lib.hid hri
  obtain ⟨av, cv, rfl, -, -⟩ := own_slice hro
  obtain ⟨ai, ci, rfl, -, -⟩ := own_slice hri
  have HBL := Lib.hid hbl
  have HD := Lib.hid (And.intro hD hl)
  have HSZ := Lib.hid (show gO + 1 < W.heap.size by have := block_lt_of_cell hi1; simpa using this)
  clear hS hLO hLI hro hri hbl hD hl
  go_wp2_with (at_builtin; refine wpList_append_rows cellsTr_len cellsTr_one (by decide) rfl _ _ 171 rfl (gO + 1 + 1) 174 i0 _ 48 Tryz.underlying171 hi0 hz0 hz1 hz2 rfl (by decide) (.slice av LO.length cv) LO.length _ rfl HRO.out ai LI ci rfl (own_news HRI.out) (by have := HN1.out; omega) (by have := HSZ.out; omega) ?_; intro v9 w9 ho9 hg9 hv9; rw [← List.flatMap_append, HLL.out] at ho9; have HO9 := Lib.hid ho9; have HG9 := Lib.hid hg9; clear ho9 hg9 hv9)
  obtain ⟨a9, c9, rfl, HT9⟩ := own_trs HO9.out (by decide +kernel)
  have HB9 := Lib.hid (show Below w.heap.size w w9 from HBL.out.grown HG9.out HBL.out.size (fun q hq => by have := (HRO.out.lt _ hq).1; have := HGO.out; omega))
  refine leave_marks _ _ ⟨⟨D, Nat.le_trans hw5 HD.out.1, rfl, (keepsFrom_grown (B := W5.heap.size) HG9.out (own_cellsBlock HRO.out)).same _ _ HD.out.1 HD.out.2 rfl, fun d' hd => by cases hd⟩, trivial⟩ (fun W' hk hb => ⟨.slice a9 trnL.length c9, by simp [results, Tryz.results126, go_sem], a9, c9, by rw [trnL_len], HT9.cells hk, HB9.out.trans hb⟩)
 case stop =>
  rintro D pre W hD hk hF hl
  exact hF.elim
end Go.Proofs.YtbhgkadklklmbaaGreat
