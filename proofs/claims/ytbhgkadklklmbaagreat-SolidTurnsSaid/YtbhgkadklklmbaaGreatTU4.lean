/- All turns of the program, by their numbers. -/
import Derived.Test.YtbhgkadklklmbaaGreatTU3
import Derived.Test.YtbhgkadklklmbaaGreatQH
set_option linter.unusedVariables false
set_option linter.unusedSimpArgs false
namespace Go.Proofs.YtbhgkadklklmbaaGreat
open Go Go.RowKit Go.Shelf Go.Lib Go.Sort
attribute [local go_sem] Oper.semAt_some

theorem trInfo : (Tryz.prog.info? 174).map (fun i => (i.zero, i.size, i.bytes)) = some (some (.agg #[.int .i64 0, .int .i64 0, .int .i64 0, .int .i64 0, .int .i64 0, .int .i64 0]), 6, 48) := by kernel_rfl
def cellsTr (t : Trn) : List Value := [.int .i64 t.p0, .int .i64 t.p1, .int .i64 t.p2, .int .i64 t.s0, .int .i64 t.s1, .int .i64 t.s2]
theorem cellsTr_len : ∀ x, (cellsTr x).length = 6 := fun _ => rfl
theorem cellsTr_one (x : Trn) : ∀ v ∈ cellsTr x, v.oneCell' = true := by intro v hv; simp only [cellsTr, List.mem_cons, List.not_mem_nil, or_false] at hv; rcases hv with rfl | rfl | rfl | rfl | rfl | rfl <;> rfl
/-- The two rows of turns under way: each in its box. -/
structure Gat2 (Wb : World) (gO gI B : Nat) (ds : List Deferred) (A : List Trn) (W : World) : Prop where
 row : ∃ vo vi, (W.cell? ⟨gO, 0, none⟩ = some vo ∧ W.frozen? ⟨gO, 0, none⟩ = false) ∧ (W.cell? ⟨gI, 0, none⟩ = some vi ∧ W.frozen? ⟨gI, 0, none⟩ = false) ∧
  W.ownsRow (gI + 1) 174 6 vo (A.filter fun t => !mirB t).length ((A.filter fun t => !mirB t).flatMap cellsTr) ∧ W.ownsRow (gI + 1) 174 6 vi (A.filter mirB).length ((A.filter mirB).flatMap cellsTr) ∧
  (∀ g, vo.ownBlock = some g → vi.ownBlock ≠ some g)
 below : Below Wb.heap.size Wb W
 marks : Marks B ds W
theorem Gat2.keep {Wb : World} {gO gI B : Nat} {ds : List Deferred} {A : List Trn} {W W' : World} (h : Gat2 Wb gO gI B ds A W) (hb : Below W.heap.size W W') : Gat2 Wb gO gI B ds A W' := by
 obtain ⟨⟨vo, vi, ⟨h1, h2⟩, ⟨h3, h4⟩, h5, h6, h7⟩, h8, h9⟩ := h
 exact ⟨⟨vo, vi, ⟨cell_keep hb h1, frozen_keep hb (block_lt_of_cell h1) h2⟩, ⟨cell_keep hb h3, frozen_keep hb (block_lt_of_cell h3) h4⟩, own_keep h5 hb, own_keep h6 hb, h7⟩, h8.trans (hb.mono h8.size), h9.keep fun D _ hl _ => (hb.block D (Array.getElem?_eq_some_iff.1 hl).1).trans hl⟩
theorem Gat2.own {Wb : World} {gO gI B base : Nat} {ds : List Deferred} {A : List Trn} {W W' : World} {row : Option Nat} (h : Gat2 Wb gO gI B ds A W) (hb : Wb.heap.size ≤ base) (hd : ∀ d ∈ ds, ∃ D, d.target = .collected D ∧ D < base)
    (hg : W.grownBy W' row) (hr : ∀ r, row = some r → base ≤ r ∧ ∃ o : Obj, W.heap[r]? = some o ∧ o.isCells = false) : Gat2 Wb gO gI B ds A W' := by
 obtain ⟨⟨vo, vi, ⟨h1, h2⟩, ⟨h3, h4⟩, h5, h6, h7⟩, h8, h9⟩ := h
 have hr' := fun r e => (hr r e).2
 have hn := not_row h1 hr'
 have hm := not_row h3 hr'
 exact ⟨⟨vo, vi, ⟨hg.cell h1 hn, (World.frozen?_of_block (a := ⟨gO, 0, none⟩) (hg.block gO (block_lt_of_cell h1) hn)).trans h2⟩, ⟨hg.cell h3 hm, (World.frozen?_of_block (a := ⟨gI, 0, none⟩) (hg.block gI (block_lt_of_cell h3) hm)).trans h4⟩, own_keptC h5 hg hr', own_keptC h6 hg hr', h7⟩, h8.grown hg h8.size (fun r e => by have := (hr r e).1; omega), h9.grown hg (fun r e => (hr r e).1) hd⟩
/-- A turn's box, beyond a place. -/
def TrAt (gq : Nat) (t : Trn) (g : Nat) (W : World) : Prop := TrBx W g t ∧ gq < g
theorem TrAt.own {gq base : Nat} {t : Trn} {g : Nat} : OwnFrom base (fun (_ : Unit) W => TrAt gq t g W) := fun _ W W' row h hg hr => by
 obtain ⟨⟨⟨a0, a1, a2⟩, b0, b1, b2⟩, hq⟩ := h
 have hr' := fun r e => (hr r e).2
 exact ⟨⟨⟨hg.cell a0 (not_row a0 hr'), hg.cell a1 (not_row a1 hr'), hg.cell a2 (not_row a2 hr')⟩, hg.cell b0 (not_row b0 hr'), hg.cell b1 (not_row b1 hr'), hg.cell b2 (not_row b2 hr')⟩, hq⟩
theorem TrAt.new {gq : Nat} {W : World} {T : TypeId} (t : Trn) (h : gq < W.heap.size) : TrAt gq t W.heap.size (W.alloc (.cells #[.int .i64 t.p0, .int .i64 t.p1, .int .i64 t.p2, .int .i64 t.s0, .int .i64 t.s1, .int .i64 t.s2] T)) :=
 ⟨⟨⟨by simp [go_sem], by simp [go_sem], by simp [go_sem]⟩, by simp [go_sem], by simp [go_sem], by simp [go_sem]⟩, h⟩
/-- Rows of turns. -/
def TrsV (w : World) (a : Option Addr) (l : List Trn) : Prop := ∃ b off, a = some ⟨b, off, none⟩ ∧ ∀ k (h : k < l.length), (w.cell? ⟨b, off + k * 6, none⟩ = some (.int .i64 l[k].p0) ∧ w.cell? ⟨b, off + k * 6 + 1, none⟩ = some (.int .i64 l[k].p1) ∧ w.cell? ⟨b, off + k * 6 + 2, none⟩ = some (.int .i64 l[k].p2)) ∧
 (w.cell? ⟨b, off + k * 6 + 3, none⟩ = some (.int .i64 l[k].s0) ∧ w.cell? ⟨b, off + k * 6 + 4, none⟩ = some (.int .i64 l[k].s1) ∧ w.cell? ⟨b, off + k * 6 + 5, none⟩ = some (.int .i64 l[k].s2))
end Go.Proofs.YtbhgkadklklmbaaGreat
/- All turns of the program, by their numbers: the walk. -/
set_option linter.unusedVariables false
set_option linter.unusedSimpArgs false
namespace Go.Proofs.YtbhgkadklklmbaaGreat
open Go Go.RowKit Go.Shelf Go.Lib Go.Sort
attribute [local go_sem] Oper.semAt_some

theorem filt_no {A : List Trn} {t : Trn} (h : mirB t = false) : ((A ++ [t]).filter fun t => !mirB t) = (A.filter fun t => !mirB t) ++ [t] ∧ (A ++ [t]).filter mirB = A.filter mirB := by
 rw [List.filter_append, List.filter_append]; simp [h]
theorem filt_yes {A : List Trn} {t : Trn} (h : mirB t = true) : ((A ++ [t]).filter fun t => !mirB t) = (A.filter fun t => !mirB t) ∧ (A ++ [t]).filter mirB = A.filter mirB ++ [t] := by
 rw [List.filter_append, List.filter_append]; simp [h]
theorem own_news {w : World} {base n m c : Nat} {a : Option Addr} {l : List Trn} (h : w.ownsRow base 174 6 (.slice a m c) n (l.flatMap cellsTr)) : l ≠ [] → ∃ ad, a = some ad ∧ ∀ j u, (l.flatMap cellsTr)[j]? = some u → w.cell? (ad.add j) = some u := fun hne => by
 rcases h.2 with ⟨e0, h0⟩ | ⟨g, cap, cur, e0, _⟩
 ·have h1 := h.1
  rw [flat_len cellsTr_len] at h1
  exact absurd (List.length_eq_zero_iff.1 (by omega)) hne
 ·injection e0 with e1 e2 e3
  subst e1 e2
  exact ⟨_, rfl, fun j u hj => h.cells (g := g) rfl j u hj⟩
theorem own_trs {w : World} {base n : Nat} {v : Value} {l : List Trn} (h : w.ownsRow base 174 6 v n (l.flatMap cellsTr)) (hne : l ≠ []) : ∃ a c, v = .slice a l.length c ∧ TrsV w a l := by
 obtain ⟨g, cap, rfl, h1, h2, h3, h4, h5, h6⟩ := own_cells cellsTr_len h hne (by decide)
 refine ⟨_, cap, by rw [h3], g, 0, rfl, fun k hk => ?_⟩
 rw [Nat.zero_add]
 refine ⟨⟨?_, ?_, ?_⟩, ?_, ?_, ?_⟩
 ·exact (h6 k hk 0 (by decide)).1
 ·exact (h6 k hk 1 (by decide)).1
 ·exact (h6 k hk 2 (by decide)).1
 ·exact (h6 k hk 3 (by decide)).1
 ·exact (h6 k hk 4 (by decide)).1
 ·exact (h6 k hk 5 (by decide)).1
theorem TrsV.cells {w w' : World} {a : Option Addr} {l : List Trn} (h : TrsV w a l) (hk : KeepsCells w.heap.size w w') : TrsV w' a l := by
 obtain ⟨b, off, ha, h⟩ := h
 refine ⟨b, off, ha, fun k hkl => ?_⟩
 obtain ⟨⟨a0, a1, a2⟩, b0, b1, b2⟩ := h k hkl
 have hb : b ≠ w.heap.size := by have := block_lt_of_cell a0; simp only at this; omega
 exact ⟨⟨hk.cell a0 hb, hk.cell a1 hb, hk.cell a2 hb⟩, hk.cell b0 hb, hk.cell b1 hb, hk.cell b2 hb⟩
set_option maxRecDepth 100000 in
set_option maxHeartbeats 8000000 in
theorem all_any (w : World) : Calls Tryz.prog 126 #[] w fun e w' => ∃ a c, e = .returned (.slice a 48 c) ∧ TrsV w' a trnL ∧ Below w.heap.size w w' := by
 obtain ⟨i0, hi0, hz0, hz1, hz2⟩ := info_parts trInfo
 refine callsIn_wide.1 (callsIn_of_wp_marks (F := Fence.wide) (n := 3) Tryz.func126 rfl trivial ?_ rfl)
 refine wpIn_wide.2 ?_
 simp only [Tryz.ntmps126, List.size_toArray, List.length_cons, List.length_nil, Nat.reduceAdd, Nat.reduceSub, Array.replicate_succ, Array.replicate_zero, List.push_toArray, List.append_toArray, List.nil_append, List.cons_append]
 go_wp2_with fail
 obtain ⟨gO, hgO⟩ : ∃ g, g = w.heap.size := ⟨_, rfl⟩
 refine gen_world (fun W => Gat2 w gO (gO + 1) w.heap.size [] [] W) ⟨⟨.slice none 0 0, .slice none 0 0, ⟨by rw [hgO]; simp [go_sem], by rw [hgO]; simp [go_sem]⟩, ⟨by rw [hgO]; simp [go_sem], by rw [hgO]; simp [go_sem]⟩, World.ownsRow_nil _ _ _ _, World.ownsRow_nil _ _ _ _, fun g h => by cases h⟩, ((Below.refl _ _).alloc (Nat.le_refl _) _).alloc (by simp) _, trivial⟩ ?_
 rintro W5 hct
 have HC5 := Lib.hid hct
 have HGO := Lib.hid hgO
 rw [show w.heap.size = gO from hgO.symm]
 clear hct hgO
 obtain ⟨vo, vi, ⟨ho1, -⟩, ⟨hi1, -⟩, ho2, hi2, -⟩ := HC5.out.row
 have hzO := block_lt_of_cell ho1
 have hzI := block_lt_of_cell hi1
 simp only at hzO hzI
 have hval : ∀ g ∈ [gO, gO + 1], Valid g W5 := by
  intro g hg
  simp only [List.mem_cons, List.not_mem_nil, or_false] at hg
  rcases hg with rfl | rfl
  ·exact ⟨hzO, fun k e => by rw [show ownAt g W5 = vo.ownBlock by unfold ownAt; rw [ho1]; rfl] at e; exact (ho2.lt k e).2⟩
  ·exact ⟨hzI, fun k e => by rw [show ownAt (gO + 1) W5 = vi.ownBlock by unfold ownAt; rw [hi1]; rfl] at e; exact (hi2.lt k e).2⟩
 have hw5 : w.heap.size ≤ W5.heap.size := HC5.out.below.size
 clear ho1 hi1 ho2 hi2
 refine (wpIn_wide (n := 3)).1 (wpIn_rangeBox rfl (by decide) (gf := 171) rfl trivial (enters_of Tryz.func171 (by kernel_rfl) rfl)
  (turns_gives [gO, gO + 1] 2 (by decide) W5 hval)
  (fun h k => h.trans k) (fun W l o o' _ h1 h2 h3 _ => KeepsL.putObj h1 h2 h3) (Below.refl _ _) (fun _ => rfl)
  (fun (pre : List TrnW) W => Gat2 w gO (gO + 1) w.heap.size [] (pre.map fun x : TrnW => x.1) W) (fun _ _ => False)
  (fun pre A B row h hg hr => h.own hw5 (fun d hd => by cases hd) hg hr) (fun pre A B row h hg hr => h) (by rw [List.map_nil]; exact HC5.out) 3 (fun x g W => TrAt (gO + 1) x.1 g W) (fun x g => TrAt.own) ?assign ?body ?done ?stop)
 case assign =>
  rintro l pre x W K2 hi hK2
  have HI := Lib.hid hi
  have HK2 := Lib.hid hK2
  clear hi hK2
  unfold encTrn
  gi_wp2
  obtain ⟨v6, v7, -, ⟨hbx6, -⟩, -⟩ := HI.out.row
  have hk3 := HK2.out W.heap.size _ ((KeepsOthers.alloc _ _).from _) (KeepsL.of_below ((Below.refl _ _).alloc (Nat.le_refl _) _)) (HI.out.keep ((Below.refl _ _).alloc (Nat.le_refl _) _)) (TrAt.new (T := 174) x.1 (by have := block_lt_of_cell hbx6; simpa using this))
  simpa [encTrn] using hk3
 case body =>
  rintro l pre ⟨t, ht⟩ gP W hi ⟨⟨⟨a0, a1, a2⟩, b0, b1, b2⟩, hgP⟩ hpre
  have HI := Lib.hid hi
  obtain ⟨⟨vo, vi, ⟨ho1, ho2⟩, ⟨hi1, hi2⟩, hro, hri, hap⟩, hbl, hmk⟩ := hi
  have HBO := Lib.hid (And.intro ho1 ho2)
  have HBI := Lib.hid (And.intro hi1 hi2)
  have HRO := Lib.hid hro
  have HRI := Lib.hid hri
  have HAP := Lib.hid hap
  have HMR := Lib.hid (fun w => mirrors_any t ht w)
  have HGB := Lib.hid (show gO + 1 < W.heap.size by have := block_lt_of_cell hi1; simpa using this)
  have HBL := Lib.hid hbl
  have HMK := Lib.hid hmk
  clear ho2 hi2 hro hri hap hbl hmk
  simp only [encTrn]
  cases hmt : mirB t with
  | true =>
   have HFL := Lib.hid (filt_yes (A := pre.map fun x : TrnW => x.1) hmt)
   have HLN := Lib.hid (show ((pre.map fun x : TrnW => x.1).filter (mirB)).length ≤ 48 by have := List.length_filter_le (mirB) (pre.map fun x : TrnW => x.1); rw [List.length_map] at this; omega)
   rw [hmt] at HMR
   obtain ⟨L, hL⟩ : ∃ L, L = (pre.map fun x : TrnW => x.1).filter (mirB) := ⟨_, rfl⟩
   have HL := Lib.hid hL
   rw [← hL] at HRI HLN
   clear hL hmt
   obtain ⟨av, cv, rfl, -, -⟩ := own_slice HRI.out
   gi_wp2_with (first
    | (refine ⟨trivial, ?_⟩; gi_at_call 172; refine (CallsIn.inRound l (callsIn_wide.2 (HMR.out _))).mono ?_; rintro e w6 ⟨rfl, hb6⟩; have HB6 := Lib.hid hb6; have a0 := cell_keep hb6 a0; have a1 := cell_keep hb6 a1; have a2 := cell_keep hb6 a2; have b0 := cell_keep hb6 b0; have b1 := cell_keep hb6 b1; have b2 := cell_keep hb6 b2; have ho1 := cell_keep hb6 ho1; have hi1 := cell_keep hb6 hi1; have HR6 := Lib.hid (own_keep HRI.out hb6); clear hb6)
    | (gi_at_builtin; refine wpListIn_append_here _ rfl _ _ 171 rfl (gO + 1 + 1) 174 i0 (.agg #[.int .i64 0, .int .i64 0, .int .i64 0, .int .i64 0, .int .i64 0, .int .i64 0]) 6 48 Tryz.underlying171 hi0 hz0 hz1 hz2 rfl (by decide) _ L.length _ rfl (own_keep HR6.out ((Below.refl _ _).alloc (Nat.le_refl _) _)) ⟨w6.heap.size, 0, none⟩ 1 1 (cellsTr t) rfl rfl (news_of (cellsTr t) _ _ _ rfl) (cellsTr_one _) (by decide) (by have := HLN.out; simp only [maxLen]; omega) (by have := HLN.out; omega) (by have := HGB.out; have := HB6.out.size; simp; omega) ?_; intro v9 w9 ho9 hg9 hv9; obtain ⟨a9, c9, rfl, -, -⟩ := own_slice ho9; have HO9 := Lib.hid ho9; have HG9 := Lib.hid hg9; have HV9 := Lib.hid hv9; have hbx9 := hg9.cell (cell_keep ((Below.refl _ _).alloc (Nat.le_refl _) _) hi1) (fun e => by have := (HR6.out.lt _ e.symm).1; simp only at this; omega); have hfx9 := (World.frozen?_of_block (a := ⟨gO + 1, 0, none⟩) (hg9.block (gO + 1) (by have := HGB.out; have := HB6.out.size; simp; omega) (fun e => by have := (HR6.out.lt _ e.symm).1; omega))).trans (frozen_keep (HB6.out.trans (((Below.refl _ _).alloc (Nat.le_refl _) _).mono HB6.out.size)) (by have := HGB.out; simp only; omega) HBI.out.2); clear ho9 hg9 hv9))
   have AL := ((Below.refl w6.heap.size w6).alloc (Nat.le_refl _) (.cells #[.int .i64 (t.p0 : Int), .int .i64 (t.p1 : Int), .int .i64 (t.p2 : Int), .int .i64 t.s0, .int .i64 t.s1, .int .i64 t.s2] 174))
   have hy6 := own_keep HRO.out HB6.out
   have hyr := (own_keep hy6 AL).kept HG9.out (by
    cases hv : vo.ownBlock with
    | none => exact .inl rfl
    | some g => exact .inr (fun e => HAP.out g hv e.symm))
   have hy9 : (w9.setCell ⟨gO + 1, 0, none⟩ (.slice a9 (L.length + 1) c9)).cell? ⟨gO, 0, none⟩ = some vo := by
    rw [World.cell?_setCell_other (h := fun e => by injection e with e; omega)]
    exact HG9.out.cell (cell_keep AL ho1) (fun e => by have := (HR6.out.lt _ e.symm).1; simp only at this; omega)
   have hyf := (World.frozen?_of_block (a := ⟨gO, 0, none⟩) (HG9.out.block (gO) (by have := HGB.out; have := HB6.out.size; simp; omega) (fun e => by have := (HR6.out.lt _ e.symm).1; omega))).trans (frozen_keep (HB6.out.trans (AL.mono HB6.out.size)) (by have := HGB.out; simp only; omega) HBO.out.2)
   have hkf : ∀ B, KeepsFrom B W (w9.setCell ⟨gO + 1, 0, none⟩ (.slice a9 (L.length + 1) c9)) := fun B => keepsFrom_set ((keepsFrom_below HB6.out).trans ((keepsFrom_below AL).trans (keepsFrom_grown HG9.out (own_cellsBlock (own_keep HR6.out AL))))) _ _
   refine ⟨hkf _, (KeepsL.of_below HB6.out).trans ((KeepsL.of_below AL).trans (KeepsL.append (by simp) (cell_keep AL hi1) (fun x hx e => ?_) HG9.out HV9.out (fun k e => (HO9.out.lt k e).2))), ⟨⟨vo, .slice a9 (L.length + 1) c9, ⟨hy9, by rw [frozen_set]; exact hyf⟩, ⟨World.cell?_setCell_same _ _ _ hbx9, by rw [frozen_set]; exact hfx9⟩, ?_, ?_, ?_⟩, ?_, trivial⟩⟩
   ·have h1 := (HR6.out.lt _ e).1
    simp only [List.mem_cons, List.not_mem_nil, or_false] at hx
    omega
   ·rw [List.map_append, List.map_cons, List.map_nil]
    ·have h := hyr.kept (grownBy_set (a := ⟨gO + 1, 0, none⟩) (u := .slice a9 (L.length + 1) c9)) (.inr fun e => by have := (hyr.lt _ e).1; simp only at this; omega)
     rw [HFL.out.1]
     exact h
   ·rw [List.map_append, List.map_cons, List.map_nil]
    ·have h := (HO9.out).kept (grownBy_set (a := ⟨gO + 1, 0, none⟩) (u := .slice a9 (L.length + 1) c9)) (.inr fun e => by have := (HO9.out.lt _ e).1; simp only at this; omega)
     rw [HFL.out.2, ← HL.out, List.length_append, List.flatMap_append]
     simpa using h
   ·intro g h1 h2
    have hg1 := h1; have hg2 := h2
    rcases HV9.out with h | h
    ·rw [h] at hg2
     exact HAP.out g hg1 hg2
    ·rw [h] at hg2
     injection hg2 with hg2
     have h3 := (hy6.lt _ hg1).2
     simp at hg2
     omega
   ·have hbb : Below w.heap.size w w9 := ((HBL.out.trans (HB6.out.mono HBL.out.size)).alloc (Nat.le_trans HBL.out.size HB6.out.size) _).grown HG9.out (by have := HBL.out.size; have := HB6.out.size; simp; omega) (fun q hq => by have := (HR6.out.lt _ hq).1; have := HGO.out; omega)
    exact hbb.setCell (by have := HGO.out; simp only; omega) _
  | false =>
   have HFL := Lib.hid (filt_no (A := pre.map fun x : TrnW => x.1) hmt)
   have HLN := Lib.hid (show ((pre.map fun x : TrnW => x.1).filter (fun t => !mirB t)).length ≤ 48 by have := List.length_filter_le (fun t => !mirB t) (pre.map fun x : TrnW => x.1); rw [List.length_map] at this; omega)
   rw [hmt] at HMR
   obtain ⟨L, hL⟩ : ∃ L, L = (pre.map fun x : TrnW => x.1).filter (fun t => !mirB t) := ⟨_, rfl⟩
   have HL := Lib.hid hL
   rw [← hL] at HRO HLN
   clear hL hmt
   obtain ⟨av, cv, rfl, -, -⟩ := own_slice HRO.out
   gi_wp2_with (first
    | (refine ⟨trivial, ?_⟩; gi_at_call 172; refine (CallsIn.inRound l (callsIn_wide.2 (HMR.out _))).mono ?_; rintro e w6 ⟨rfl, hb6⟩; have HB6 := Lib.hid hb6; have a0 := cell_keep hb6 a0; have a1 := cell_keep hb6 a1; have a2 := cell_keep hb6 a2; have b0 := cell_keep hb6 b0; have b1 := cell_keep hb6 b1; have b2 := cell_keep hb6 b2; have ho1 := cell_keep hb6 ho1; have hi1 := cell_keep hb6 hi1; have HR6 := Lib.hid (own_keep HRO.out hb6); clear hb6)
    | (gi_at_builtin; refine wpListIn_append_here _ rfl _ _ 171 rfl (gO + 1 + 1) 174 i0 (.agg #[.int .i64 0, .int .i64 0, .int .i64 0, .int .i64 0, .int .i64 0, .int .i64 0]) 6 48 Tryz.underlying171 hi0 hz0 hz1 hz2 rfl (by decide) _ L.length _ rfl (own_keep HR6.out ((Below.refl _ _).alloc (Nat.le_refl _) _)) ⟨w6.heap.size, 0, none⟩ 1 1 (cellsTr t) rfl rfl (news_of (cellsTr t) _ _ _ rfl) (cellsTr_one _) (by decide) (by have := HLN.out; simp only [maxLen]; omega) (by have := HLN.out; omega) (by have := HGB.out; have := HB6.out.size; simp; omega) ?_; intro v9 w9 ho9 hg9 hv9; obtain ⟨a9, c9, rfl, -, -⟩ := own_slice ho9; have HO9 := Lib.hid ho9; have HG9 := Lib.hid hg9; have HV9 := Lib.hid hv9; have hbx9 := hg9.cell (cell_keep ((Below.refl _ _).alloc (Nat.le_refl _) _) ho1) (fun e => by have := (HR6.out.lt _ e.symm).1; simp only at this; omega); have hfx9 := (World.frozen?_of_block (a := ⟨gO, 0, none⟩) (hg9.block (gO) (by have := HGB.out; have := HB6.out.size; simp; omega) (fun e => by have := (HR6.out.lt _ e.symm).1; omega))).trans (frozen_keep (HB6.out.trans (((Below.refl _ _).alloc (Nat.le_refl _) _).mono HB6.out.size)) (by have := HGB.out; simp only; omega) HBO.out.2); clear ho9 hg9 hv9))
   have AL := ((Below.refl w6.heap.size w6).alloc (Nat.le_refl _) (.cells #[.int .i64 (t.p0 : Int), .int .i64 (t.p1 : Int), .int .i64 (t.p2 : Int), .int .i64 t.s0, .int .i64 t.s1, .int .i64 t.s2] 174))
   have hy6 := own_keep HRI.out HB6.out
   have hyr := (own_keep hy6 AL).kept HG9.out (by
    cases hv : vi.ownBlock with
    | none => exact .inl rfl
    | some g => exact .inr (fun e => HAP.out g e.symm hv))
   have hy9 : (w9.setCell ⟨gO, 0, none⟩ (.slice a9 (L.length + 1) c9)).cell? ⟨gO + 1, 0, none⟩ = some vi := by
    rw [World.cell?_setCell_other (h := fun e => by injection e with e; omega)]
    exact HG9.out.cell (cell_keep AL hi1) (fun e => by have := (HR6.out.lt _ e.symm).1; simp only at this; omega)
   have hyf := (World.frozen?_of_block (a := ⟨gO + 1, 0, none⟩) (HG9.out.block (gO + 1) (by have := HGB.out; have := HB6.out.size; simp; omega) (fun e => by have := (HR6.out.lt _ e.symm).1; omega))).trans (frozen_keep (HB6.out.trans (AL.mono HB6.out.size)) (by have := HGB.out; simp only; omega) HBI.out.2)
   have hkf : ∀ B, KeepsFrom B W (w9.setCell ⟨gO, 0, none⟩ (.slice a9 (L.length + 1) c9)) := fun B => keepsFrom_set ((keepsFrom_below HB6.out).trans ((keepsFrom_below AL).trans (keepsFrom_grown HG9.out (own_cellsBlock (own_keep HR6.out AL))))) _ _
   refine ⟨hkf _, (KeepsL.of_below HB6.out).trans ((KeepsL.of_below AL).trans (KeepsL.append (by simp) (cell_keep AL ho1) (fun x hx e => ?_) HG9.out HV9.out (fun k e => (HO9.out.lt k e).2))), ⟨⟨.slice a9 (L.length + 1) c9, vi, ⟨World.cell?_setCell_same _ _ _ hbx9, by rw [frozen_set]; exact hfx9⟩, ⟨hy9, by rw [frozen_set]; exact hyf⟩, ?_, ?_, ?_⟩, ?_, trivial⟩⟩
   ·have h1 := (HR6.out.lt _ e).1
    simp only [List.mem_cons, List.not_mem_nil, or_false] at hx
    omega
   ·rw [List.map_append, List.map_cons, List.map_nil]
    ·have h := (HO9.out).kept (grownBy_set (a := ⟨gO, 0, none⟩) (u := .slice a9 (L.length + 1) c9)) (.inr fun e => by have := (HO9.out.lt _ e).1; simp only at this; omega)
     rw [HFL.out.1, ← HL.out, List.length_append, List.flatMap_append]
     simpa using h
   ·rw [List.map_append, List.map_cons, List.map_nil]
    ·have h := hyr.kept (grownBy_set (a := ⟨gO, 0, none⟩) (u := .slice a9 (L.length + 1) c9)) (.inr fun e => by have := (hyr.lt _ e).1; simp only at this; omega)
     rw [HFL.out.2]
     exact h
   ·intro g h1 h2
    have hg1 := h2; have hg2 := h1
    rcases HV9.out with h | h
    ·rw [h] at hg2
     exact HAP.out g hg2 hg1
    ·rw [h] at hg2
     injection hg2 with hg2
     have h3 := (hy6.lt _ hg1).2
     simp at hg2
     omega
   ·have hbb : Below w.heap.size w w9 := ((HBL.out.trans (HB6.out.mono HBL.out.size)).alloc (Nat.le_trans HBL.out.size HB6.out.size) _).grown HG9.out (by have := HBL.out.size; have := HB6.out.size; simp; omega) (fun q hq => by have := (HR6.out.lt _ hq).1; have := HGO.out; omega)
    exact hbb.setCell (by have := HGO.out; simp only; omega) _
 case done =>
  rintro D xs W hD hS hI hl
  obtain ⟨⟨vo, vi, ⟨ho1, -⟩, ⟨hi1, -⟩, hro, hri, -⟩, hbl, -⟩ := hI
  rw [hS] at hro hri
  obtain ⟨LO, hLO⟩ : ∃ L, L = trnA.filter fun t => !mirB t := ⟨_, rfl⟩
  obtain ⟨LI, hLI⟩ : ∃ L, L = trnA.filter mirB := ⟨_, rfl⟩
  have HLL := Lib.hid (show LO ++ LI = trnL by rw [hLO, hLI]; rfl)
  have HN1 := Lib.hid (show LO.length ≤ 100 ∧ LI.length ≤ 100 by rw [hLO, hLI]; decide +kernel)
  rw [← hLO] at hro
  rw [← hLI] at hri
  have HRO := Lib.hid hro
  have HRI := Lib.hid hri
  obtain ⟨av, cv, rfl, -, -⟩ := own_slice hro
  obtain ⟨ai, ci, rfl, -, -⟩ := own_slice hri
  have HBL := Lib.hid hbl
  have HD := Lib.hid (And.intro hD hl)
  have HSZ := Lib.hid (show gO + 1 < W.heap.size by have := block_lt_of_cell hi1; simpa using this)
  clear hS hLO hLI hro hri hbl hD hl
  go_wp2_with (at_builtin; refine wpList_append_rows cellsTr_len cellsTr_one (by decide) rfl _ _ 171 rfl (gO + 1 + 1) 174 i0 _ 48 Tryz.underlying171 hi0 hz0 hz1 hz2 rfl (by decide) (.slice av LO.length cv) LO.length _ rfl HRO.out ai LI ci rfl (own_news HRI.out) (by have := HN1.out; omega) (by have := HSZ.out; omega) ?_; intro v9 w9 ho9 hg9 hv9; rw [← List.flatMap_append, HLL.out] at ho9; have HO9 := Lib.hid ho9; have HG9 := Lib.hid hg9; clear ho9 hg9 hv9)
  obtain ⟨a9, c9, rfl, HT9⟩ := own_trs HO9.out (by decide +kernel)
  have HB9 := Lib.hid (show Below w.heap.size w w9 from HBL.out.grown HG9.out HBL.out.size (fun q hq => by have := (HRO.out.lt _ hq).1; have := HGO.out; omega))
  refine leave_marks _ _ ⟨⟨D, Nat.le_trans hw5 HD.out.1, rfl, (keepsFrom_grown (B := W5.heap.size) HG9.out (own_cellsBlock HRO.out)).same _ _ HD.out.1 HD.out.2 rfl, fun d' hd => by cases hd⟩, trivial⟩ (fun W' hk hb => ⟨.slice a9 trnL.length c9, by simp [results, Tryz.results126, go_sem], a9, c9, by rw [trnL_len], HT9.cells hk, HB9.out.trans hb⟩)
 case stop =>
  rintro D pre W hD hk hF hl
  exact hF.elim
end Go.Proofs.YtbhgkadklklmbaaGreat
/- All turns of the document, by their numbers. -/
set_option linter.unusedVariables false
set_option linter.unusedSimpArgs false
namespace Go.Proofs.YtbhgkadklklmbaaGreat
open Go Go.RowKit Go.Lib Go.Sort

theorem trrInfo : (Tryz.prog.info? 182).map (fun i => (i.zero, i.size, i.bytes)) = some (some (.agg #[.int .i64 0, .int .i64 0, .int .i64 0, .int .i64 0, .int .i64 0, .int .i64 0]), 6, 48) := by kernel_rfl
theorem own_newsE {w : World} {e base n m c : Nat} {a : Option Addr} {l : List Trn} (h : w.ownsRow base e 6 (.slice a m c) n (l.flatMap cellsTr)) : l ≠ [] → ∃ ad, a = some ad ∧ ∀ j u, (l.flatMap cellsTr)[j]? = some u → w.cell? (ad.add j) = some u := fun hne => by
 rcases h.2 with ⟨e0, h0⟩ | ⟨g, cap, cur, e0, _⟩
 ·have h1 := h.1
  rw [flat_len cellsTr_len] at h1
  exact absurd (List.length_eq_zero_iff.1 (by omega)) hne
 ·injection e0 with e1 e2 e3
  subst e1 e2
  exact ⟨_, rfl, fun j u hj => h.cells (g := g) rfl j u hj⟩
theorem own_trsE {w : World} {e base n : Nat} {v : Value} {l : List Trn} (h : w.ownsRow base e 6 v n (l.flatMap cellsTr)) (hne : l ≠ []) : ∃ a c, v = .slice a l.length c ∧ TrsV w a l := by
 obtain ⟨g, cap, rfl, h1, h2, h3, h4, h5, h6⟩ := own_cells cellsTr_len h hne (by decide)
 refine ⟨_, cap, by rw [h3], g, 0, rfl, fun k hk => ?_⟩
 rw [Nat.zero_add]
 exact ⟨⟨(h6 k hk 0 (by decide)).1, (h6 k hk 1 (by decide)).1, (h6 k hk 2 (by decide)).1⟩, (h6 k hk 3 (by decide)).1, (h6 k hk 4 (by decide)).1, (h6 k hk 5 (by decide)).1⟩
def nT (A : List Trn) : Nat := (A.filter fun t => !mirB t).length
def mT (A : List Trn) : Nat := (A.filter mirB).length
/-- The document's two rows of turns. -/
structure RT (N : Nat) (w0 w : World) (v1 v2 : Value) (A : List Trn) : Prop where
 o1 : w.ownsRow N 182 6 v1 (nT A) ((A.filter fun t => !mirB t).flatMap cellsTr)
 o2 : w.ownsRow N 182 6 v2 (mT A) ((A.filter mirB).flatMap cellsTr)
 ap : ∀ g, v1.ownBlock = some g → v2.ownBlock ≠ some g
 b : Below N w0 w
 n : N ≤ w.heap.size
theorem RT.keep {N : Nat} {w0 w w' : World} {v1 v2 : Value} {A : List Trn} (h : RT N w0 w v1 v2 A) (hb : Below w.heap.size w w') : RT N w0 w' v1 v2 A := ⟨own_keep h.o1 hb, own_keep h.o2 hb, h.ap, h.b.trans (hb.mono h.n), Nat.le_trans h.n hb.size⟩
theorem own_apart {w w' : World} {N e k n m : Nat} {v v' : Value} {xs ys : List Value} (h : w.ownsRow N e k v n xs) (hg : w.grownBy w' v'.ownBlock) (hn : ∀ g, v.ownBlock = some g → v'.ownBlock ≠ some g) : w'.ownsRow N e k v n xs := h.kept hg (by
 cases hv : v.ownBlock with
 | none => exact .inl rfl
 | some g => exact .inr fun e => hn g hv e.symm)
theorem RT.put1 {N : Nat} {w0 w w' : World} {v1 v2 v1' : Value} {A : List Trn} {t : Trn} (h : RT N w0 w v1 v2 A) (hm : mirB t = false) (ho : w'.ownsRow N 182 6 v1' (nT A + 1) ((A.filter fun t => !mirB t).flatMap cellsTr ++ cellsTr t)) (hg : w.grownBy w' v1.ownBlock) (hv : v1'.ownBlock = v1.ownBlock ∨ v1'.ownBlock = some w.heap.size) : RT N w0 w' v1' v2 (A ++ [t]) := by
 obtain ⟨f1, f2⟩ := filt_no (A := A) hm
 refine ⟨?_, ?_, fun g h1 h2 => ?_, below_grown h.b hg h.n fun k hk => (own_lt h.o1 hk).1, Nat.le_trans h.n hg.size⟩
 ·unfold nT at *; rw [f1, List.length_append, List.flatMap_append]; simpa using ho
 ·unfold mT at *; rw [f2]; exact own_apart (m := 0) (ys := []) h.o2 hg fun g h1 h2 => h.ap g h2 h1
 ·rcases hv with hv | hv
  ·exact h.ap g (hv ▸ h1) h2
  ·rw [hv] at h1; injection h1 with h1; have := (own_lt h.o2 h2).2; omega
theorem RT.put2 {N : Nat} {w0 w w' : World} {v1 v2 v2' : Value} {A : List Trn} {t : Trn} (h : RT N w0 w v1 v2 A) (hm : mirB t = true) (ho : w'.ownsRow N 182 6 v2' (mT A + 1) ((A.filter mirB).flatMap cellsTr ++ cellsTr t)) (hg : w.grownBy w' v2.ownBlock) (hv : v2'.ownBlock = v2.ownBlock ∨ v2'.ownBlock = some w.heap.size) : RT N w0 w' v1 v2' (A ++ [t]) := by
 obtain ⟨f1, f2⟩ := filt_yes (A := A) hm
 refine ⟨?_, ?_, fun g h1 h2 => ?_, below_grown h.b hg h.n fun k hk => (own_lt h.o2 hk).1, Nat.le_trans h.n hg.size⟩
 ·unfold nT at *; rw [f1]; exact own_apart (m := 0) (ys := []) h.o1 hg h.ap
 ·unfold mT at *; rw [f2, List.length_append, List.flatMap_append]; simpa using ho
 ·rcases hv with hv | hv
  ·exact h.ap g h1 (hv ▸ h2)
  ·rw [hv] at h2; injection h2 with h2; have := (own_lt h.o1 h1).2; omega
/-- The document's order of the turns. -/
def pI (i : Nat) : Nat := [1, 2, 3, 5, 6, 7].getD i 0
def sgI (i : Nat) : Int := [1, -1, -1, 1, 1, -1].getD i 0
def row8 (i : Nat) : List Trn := (List.range 8).map (mkT (pI i))
def refT (i k : Nat) : List Trn := (List.range i).flatMap row8 ++ (List.range k).map (mkT (pI i))
theorem refT_succ (i k : Nat) : refT i (k + 1) = refT i k ++ [mkT (pI i) k] := by unfold refT; rw [List.range_succ, List.map_append, List.append_assoc]; rfl
theorem refT_next (i : Nat) : refT (i + 1) 0 = refT i 8 := by unfold refT; rw [List.range_succ, List.flatMap_append, List.flatMap_cons, List.flatMap_nil, List.range_zero, List.map_nil, List.append_nil, List.append_nil]; rfl
theorem refT_end : refT 6 0 = trnA := by decide +kernel
theorem refT_len : ∀ i < 6, ∀ k < 8, (refT i k).length ≤ 48 := by decide +kernel
/-- The numbers of the document's turns. -/
theorem ref_nums : ∀ i < 6, ∀ k < 8, (mkT (pI i) k).s0 = 1 - 2 * ((k : Int) / 4) ∧ (mkT (pI i) k).s1 = 1 - 2 * ((k : Int) / 2 % 2) ∧ (mkT (pI i) k).s2 = 1 - 2 * ((k : Int) % 2) ∧
    mirB (mkT (pI i) k) = !decide (0 < sgI i * (mkT (pI i) k).s0 * (mkT (pI i) k).s1 * (mkT (pI i) k).s2) ∧ (-1 ≤ sgI i * (mkT (pI i) k).s0 ∧ sgI i * (mkT (pI i) k).s0 ≤ 1) ∧ (-1 ≤ sgI i * (mkT (pI i) k).s0 * (mkT (pI i) k).s1 ∧ sgI i * (mkT (pI i) k).s0 * (mkT (pI i) k).s1 ≤ 1) ∧ (-1 ≤ sgI i * (mkT (pI i) k).s0 * (mkT (pI i) k).s1 * (mkT (pI i) k).s2 ∧ sgI i * (mkT (pI i) k).s0 * (mkT (pI i) k).s1 * (mkT (pI i) k).s2 ≤ 1) := by decide +kernel
end Go.Proofs.YtbhgkadklklmbaaGreat
/- All turns of the document, by their numbers: the walk. -/
set_option linter.unusedVariables false
set_option linter.unusedSimpArgs false
namespace Go.Proofs.YtbhgkadklklmbaaGreat
open Go Go.RowKit Go.Lib Go.Sort

set_option maxRecDepth 100000 in
set_option maxHeartbeats 8000000 in
theorem turnsR_any (w : World) : Calls Tryz.prog 134 #[] w fun e w' => ∃ a c, e = .returned (.slice a 48 c) ∧ TrsV w' a trnL ∧ Below w.heap.size w w' := by
 obtain ⟨i0, hi0, hz0, hz1, hz2⟩ := info_parts trrInfo
 go_enter Tryz.func134, Tryz.ntmps134
 go_upto_region 4 with fail
 refine gen_world (fun W => (∀ i < 6, W.cell? ⟨w.heap.size, i * 3, none⟩ = some (.int .i64 ((frm (pI i)).1 : Int)) ∧ W.cell? ⟨w.heap.size, i * 3 + 1, none⟩ = some (.int .i64 ((frm (pI i)).2.1 : Int)) ∧ W.cell? ⟨w.heap.size, i * 3 + 2, none⟩ = some (.int .i64 ((frm (pI i)).2.2 : Int))) ∧ (∀ i < 6, W.cell? ⟨w.heap.size + 1, i, none⟩ = some (.int .i64 (sgI i))) ∧ Below w.heap.size w W) ⟨fun i hi => ?_, fun i hi => ?_, by repeat (first | (with_reducible assumption) | exact Below.refl _ _ | (refine Below.setCell ?_ (by first | omega | (simp; omega) | (simp; done)) _) | (refine Below.alloc ?_ (by first | omega | (simp; omega) | (simp; done)) _) | (refine Below.drew ?_))⟩ ?_
 ·match i, hi with
  | 0, _ => exact ⟨by simp [go_sem, frm, pI], by simp [go_sem, frm, pI], by simp [go_sem, frm, pI]⟩
  | 1, _ => exact ⟨by simp [go_sem, frm, pI], by simp [go_sem, frm, pI], by simp [go_sem, frm, pI]⟩
  | 2, _ => exact ⟨by simp [go_sem, frm, pI], by simp [go_sem, frm, pI], by simp [go_sem, frm, pI]⟩
  | 3, _ => exact ⟨by simp [go_sem, frm, pI], by simp [go_sem, frm, pI], by simp [go_sem, frm, pI]⟩
  | 4, _ => exact ⟨by simp [go_sem, frm, pI], by simp [go_sem, frm, pI], by simp [go_sem, frm, pI]⟩
  | 5, _ => exact ⟨by simp [go_sem, frm, pI], by simp [go_sem, frm, pI], by simp [go_sem, frm, pI]⟩
 ·match i, hi with
  | 0, _ => simp [go_sem, sgI]
  | 1, _ => simp [go_sem, sgI]
  | 2, _ => simp [go_sem, sgI]
  | 3, _ => simp [go_sem, sgI]
  | 4, _ => simp [go_sem, sgI]
  | 5, _ => simp [go_sem, sgI]
 rintro W1 ⟨hf, hs, hb⟩
 have HF := Lib.hid hf
 have HS := Lib.hid hs
 have HB1 := Lib.hid hb
 clear hf hs hb
 obtain ⟨gw, hgw⟩ : ∃ g, g = w.heap.size := ⟨_, rfl⟩
 rw [← hgw] at HF HS ⊢
 clear hgw
 go_wp2_with fail
 go_loopw [1, 2, 5] (fun v1 v2 iv wr => ∃ i : Nat, i ≤ 6 ∧ iv = .int .i64 (i : Int) ∧ RT W1.heap.size W1 wr v1 v2 (refT i 0)) (fun _ _ iv _ => 6 - (intOf iv).toNat)
 case atStart => exact ⟨0, Nat.zero_le _, rfl, ⟨World.ownsRow_nil _ _ _ _, World.ownsRow_nil _ _ _ _, (fun g h => by cases h), Below.refl _ _, Nat.le_refl _⟩⟩
 case round =>
  obtain ⟨i, hi, rfl, hst⟩ := hrel
  have HST := Lib.hid hst
  obtain ⟨a1, c1, rfl, -, -⟩ := own_slice hst.o1
  obtain ⟨a2, c2, rfl, -, -⟩ := own_slice hst.o2
  clear hst
  by_cases hlt : i < 6
  ·have hii : (i : Int) < 6 := by omega
   go_wp2_with fail
   obtain ⟨wo, rfl⟩ : ∃ wo : World, wo = wr := ⟨_, rfl⟩
   go_loopw [1, 2, 6] (fun v1 v2 iv wr => ∃ k : Nat, k ≤ 8 ∧ iv = .int .i64 (k : Int) ∧ RT W1.heap.size W1 wr v1 v2 (refT i k)) (fun _ _ iv _ => 8 - (intOf iv).toNat)
   case atStart => exact ⟨0, Nat.zero_le _, rfl, HST.out⟩
   case round =>
    obtain ⟨k, hk, rfl, hst⟩ := hrel
    have HSW := Lib.hid hst
    obtain ⟨a3, c3, rfl, -, -⟩ := own_slice hst.o1
    obtain ⟨a4, c4, rfl, -, -⟩ := own_slice hst.o2
    clear hst
    by_cases hk8 : k < 8
    ·have hki : (k : Int) < 8 := by omega
     have v1 : IntKind.i64.wrap ((k : Int) + 1) = (k : Int) + 1 := IntWalk.i64_in _ (by omega)
     obtain ⟨n0, n1, n2, hm, hq1, hq2, hq3⟩ := ref_nums i hlt k hk8
     obtain ⟨t, ht⟩ : ∃ t, t = mkT (pI i) k := ⟨_, rfl⟩
     obtain ⟨f0, f1, f2⟩ := HF.out i hlt
     rw [show ((frm (pI i)).1 : Nat) = t.p0 by rw [ht]; rfl] at f0
     rw [show ((frm (pI i)).2.1 : Nat) = t.p1 by rw [ht]; rfl] at f1
     rw [show ((frm (pI i)).2.2 : Nat) = t.p2 by rw [ht]; rfl] at f2
     have g0 := HS.out i hlt
     have f0 := cell_keep HSW.out.b f0
     have f1 := cell_keep HSW.out.b f1
     have f2 := cell_keep HSW.out.b f2
     have g0 := cell_keep HSW.out.b g0
     rw [← ht] at n0 n1 n2 hm hq1 hq2 hq3
     have HSU := Lib.hid (show refT i (k + 1) = refT i k ++ [t] by rw [refT_succ, ht])
     have HLN := Lib.hid (show nT (refT i k) ≤ 48 ∧ mT (refT i k) ≤ 48 from ⟨Nat.le_trans (List.length_filter_le _ _) (refT_len i hlt k hk8), Nat.le_trans (List.length_filter_le _ _) (refT_len i hlt k hk8)⟩)
     generalize sgI i = q at *
     obtain ⟨a, ha⟩ : ∃ a : Nat, a = k / 4 := ⟨_, rfl⟩
     obtain ⟨b, hb⟩ : ∃ b : Nat, b = k / 2 := ⟨_, rfl⟩
     obtain ⟨c, hc⟩ : ∃ c : Nat, c = b % 2 := ⟨_, rfl⟩
     obtain ⟨d, hd⟩ : ∃ d : Nat, d = k % 2 := ⟨_, rfl⟩
     have r1 : (k : Int) / 4 = (a : Int) := by omega
     have r2 : (k : Int) / 2 = (b : Int) := by omega
     have r3 : (b : Int) % 2 = (c : Int) := by omega
     have r4 : (k : Int) % 2 = (d : Int) := by omega
     rw [r1] at n0
     rw [r2, r3] at n1
     rw [r4] at n2
     have m1 : IntKind.i64.wrap (2 * (a : Int)) = 2 * (a : Int) := IntWalk.i64_in _ (by omega)
     have m2 : IntKind.i64.wrap (2 * (c : Int)) = 2 * (c : Int) := IntWalk.i64_in _ (by omega)
     have m3 : IntKind.i64.wrap (2 * (d : Int)) = 2 * (d : Int) := IntWalk.i64_in _ (by omega)
     have l1 : IntKind.i64.wrap (1 - 2 * (a : Int)) = t.s0 := by rw [n0]; exact IntWalk.i64_in _ (by omega)
     have l2 : IntKind.i64.wrap (1 - 2 * (c : Int)) = t.s1 := by rw [n1]; exact IntWalk.i64_in _ (by omega)
     have l3 : IntKind.i64.wrap (1 - 2 * (d : Int)) = t.s2 := by rw [n2]; exact IntWalk.i64_in _ (by omega)
     obtain ⟨P1, hP1⟩ : ∃ P, P = q * t.s0 := ⟨_, rfl⟩
     rw [← hP1] at hm hq1 hq2 hq3
     obtain ⟨P2, hP2⟩ : ∃ P, P = P1 * t.s1 := ⟨_, rfl⟩
     rw [← hP2] at hm hq2 hq3
     obtain ⟨P3, hP3⟩ : ∃ P, P = P2 * t.s2 := ⟨_, rfl⟩
     rw [← hP3] at hm hq3
     have p1 : IntKind.i64.wrap (q * t.s0) = P1 := by rw [← hP1]; exact IntWalk.i64_in _ (by omega)
     have p2 : IntKind.i64.wrap (P1 * t.s1) = P2 := by rw [← hP2]; exact IntWalk.i64_in _ (by omega)
     have p3 : IntKind.i64.wrap (P2 * t.s2) = P3 := by rw [← hP3]; exact IntWalk.i64_in _ (by omega)
     have HM := Lib.hid hm
     clear ha hb hc hd n0 n1 n2 hm hq1 hq2 hq3 hP1 hP2 hP3 ht
     go_upto_region 11 with fail
     obtain ⟨gT, hgT⟩ : ∃ g, g = wr.heap.size := ⟨_, rfl⟩
     refine gen_world (fun W => TrBx W gT t ∧ Below wr.heap.size wr W) ⟨⟨⟨by rw [hgT]; simp [go_sem], by rw [hgT]; simp [go_sem], by rw [hgT]; simp [go_sem]⟩, by rw [hgT]; simp [go_sem], by rw [hgT]; simp [go_sem], by rw [hgT]; simp [go_sem]⟩, by repeat (first | (with_reducible assumption) | exact Below.refl _ _ | (refine Below.setCell ?_ (by first | omega | (simp; omega) | (simp; done)) _) | (refine Below.alloc ?_ (by first | omega | (simp; omega) | (simp; done)) _) | (refine Below.drew ?_))⟩ ?_
     rintro w4 ⟨⟨⟨x0, x1, x2⟩, x3, x4, x5⟩, hb4⟩
     have HB4 := Lib.hid hb4
     have g0 := cell_keep hb4 g0
     rw [← hgT]
     clear hb4 hgT f0 f1 f2 m1 m2 m3 l1 l2 l3
     by_cases h3 : 0 < P3
     ·go_quiet (fail)
      have hb5 : Below w4.heap.size w4 (w4.drewN nq) := below_drewN (Below.refl _ _) nq
      generalize w4.drewN nq = w5 at *
      have HSV := Lib.hid ((HSW.out.keep HB4.out).keep hb5)
      have HSA := Lib.hid (HSV.out.keep ((Below.refl w5.heap.size w5).alloc (Nat.le_refl _) (.cells #[.int .i64 (t.p0 : Int), .int .i64 (t.p1 : Int), .int .i64 (t.p2 : Int), .int .i64 t.s0, .int .i64 t.s1, .int .i64 t.s2] 182)))
      have x0 := cell_keep hb5 x0
      have x1 := cell_keep hb5 x1
      have x2 := cell_keep hb5 x2
      have x3 := cell_keep hb5 x3
      have x4 := cell_keep hb5 x4
      have x5 := cell_keep hb5 x5
      clear hb5 g0
      have HMR := Lib.hid (show mirB t = false by rw [HM.out]; simp; omega)
      go_wp2_with (at_builtin; refine wpList_append_here _ rfl _ _ 183 rfl W1.heap.size 182 i0 (.agg #[.int .i64 0, .int .i64 0, .int .i64 0, .int .i64 0, .int .i64 0, .int .i64 0]) 6 48 Tryz.underlying183 hi0 hz0 hz1 hz2 rfl (by decide) (.slice a3 (nT (refT i k)) c3) (nT (refT i k)) _ rfl HSA.out.o1 ⟨w5.heap.size, 0, none⟩ 1 1 (cellsTr t) rfl rfl (news_of (cellsTr t) _ _ _ rfl) (cellsTr_one _) (by decide) (by have := HLN.out; simp only [maxLen]; omega) (by have := HLN.out; omega) HSA.out.n ?_; intro v' w6 ho hg hv; have HS6 := Lib.hid (HSA.out.put1 HMR.out ho hg hv); obtain ⟨a5, c5, rfl, -, -⟩ := own_slice ho; clear ho hg hv)
      go_roundw
      case rel => exact ⟨k + 1, by omega, by go_num, by rw [HSU.out]; exact HS6.out⟩
      case measure => first | (simp [intOf]; done) | (simp [intOf]; omega)
     ·go_quiet (fail)
      have hb5 : Below w4.heap.size w4 (w4.drewN nq) := below_drewN (Below.refl _ _) nq
      generalize w4.drewN nq = w5 at *
      have HSV := Lib.hid ((HSW.out.keep HB4.out).keep hb5)
      have HSA := Lib.hid (HSV.out.keep ((Below.refl w5.heap.size w5).alloc (Nat.le_refl _) (.cells #[.int .i64 (t.p0 : Int), .int .i64 (t.p1 : Int), .int .i64 (t.p2 : Int), .int .i64 t.s0, .int .i64 t.s1, .int .i64 t.s2] 182)))
      have x0 := cell_keep hb5 x0
      have x1 := cell_keep hb5 x1
      have x2 := cell_keep hb5 x2
      have x3 := cell_keep hb5 x3
      have x4 := cell_keep hb5 x4
      have x5 := cell_keep hb5 x5
      clear hb5 g0
      have HMR := Lib.hid (show mirB t = true by rw [HM.out]; simp; omega)
      go_wp2_with (at_builtin; refine wpList_append_here _ rfl _ _ 183 rfl W1.heap.size 182 i0 (.agg #[.int .i64 0, .int .i64 0, .int .i64 0, .int .i64 0, .int .i64 0, .int .i64 0]) 6 48 Tryz.underlying183 hi0 hz0 hz1 hz2 rfl (by decide) (.slice a4 (mT (refT i k)) c4) (mT (refT i k)) _ rfl HSA.out.o2 ⟨w5.heap.size, 0, none⟩ 1 1 (cellsTr t) rfl rfl (news_of (cellsTr t) _ _ _ rfl) (cellsTr_one _) (by decide) (by have := HLN.out; simp only [maxLen]; omega) (by have := HLN.out; omega) HSA.out.n ?_; intro v' w6 ho hg hv; have HS6 := Lib.hid (HSA.out.put2 HMR.out ho hg hv); obtain ⟨a5, c5, rfl, -, -⟩ := own_slice ho; clear ho hg hv)
      go_roundw
      case rel => exact ⟨k + 1, by omega, by go_num, by rw [HSU.out]; exact HS6.out⟩
      case measure => first | (simp [intOf]; done) | (simp [intOf]; omega)
    ·obtain rfl : k = 8 := by omega
     have hki : ¬ ((8 : Nat) : Int) < 8 := by omega
     have v1 : IntKind.i64.wrap ((i : Int) + 1) = (i : Int) + 1 := IntWalk.i64_in _ (by omega)
     go_wp2_with fail
     go_roundw
     case rel => exact ⟨i + 1, by omega, by go_num, by rw [refT_next]; exact HSW.out⟩
     case measure => first | (simp [intOf]; done) | (simp [intOf]; omega)
  ·obtain rfl : i = 6 := by omega
   have hii : ¬ ((6 : Nat) : Int) < 6 := by omega
   have HR1 := Lib.hid HST.out.o1
   have HR2 := Lib.hid HST.out.o2
   rw [refT_end] at HR1 HR2
   rw [refT_end]
   have HLL := Lib.hid (show (trnA.filter fun t => !mirB t) ++ trnA.filter mirB = trnL from rfl)
   have HN1 := Lib.hid (show (trnA.filter fun t => !mirB t).length ≤ 100 ∧ (trnA.filter mirB).length ≤ 100 by decide +kernel)
   have HBF := Lib.hid HST.out.b
   obtain ⟨LO, hLO⟩ : ∃ L, L = trnA.filter fun t => !mirB t := ⟨_, rfl⟩
   obtain ⟨LI, hLI⟩ : ∃ L, L = trnA.filter mirB := ⟨_, rfl⟩
   unfold nT at HR1 ⊢
   unfold mT at HR2 ⊢
   rw [← hLO] at HR1 HLL HN1 ⊢
   rw [← hLI] at HR2 HLL HN1 ⊢
   clear hLO hLI
   have hnw : W1.heap.size ≤ wr.heap.size := HST.out.n
   go_wp2_with (at_builtin; refine wpList_append_rows cellsTr_len cellsTr_one (by decide) rfl _ _ 183 rfl W1.heap.size 182 i0 _ 48 Tryz.underlying183 hi0 hz0 hz1 hz2 rfl (by decide) (.slice a1 LO.length c1) LO.length _ rfl HR1.out a2 LI c2 rfl (own_newsE HR2.out) (by have := HN1.out; omega) hnw ?_; intro v9 w9 ho9 hg9 hv9; rw [← List.flatMap_append, HLL.out] at ho9; have HO9 := Lib.hid ho9; have HG9 := Lib.hid hg9; clear ho9 hg9 hv9)
   obtain ⟨a9, c9, rfl, HT9⟩ := own_trsE HO9.out (by decide +kernel)
   go_ret
   exact ⟨a9, ⟨c9, by rw [trnL_len]; rfl⟩, HT9, (HB1.out.trans ((HBF.out.grown HG9.out hnw fun q hq => (HR1.out.lt _ hq).1).mono HB1.out.size))⟩
end Go.Proofs.YtbhgkadklklmbaaGreat
