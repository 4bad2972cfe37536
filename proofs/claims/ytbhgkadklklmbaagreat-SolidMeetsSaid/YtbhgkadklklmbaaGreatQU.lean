/- The common cells of two solids, as the program says it; the cells of a new solid. -/
import Derived.Test.YtbhgkadklklmbaaGreatQP
import Derived.Test.YtbhgkadklklmbaaGreatQI
import Derived.Test.YtbhgkadklklmbaaGreatQD
set_option linter.unusedVariables false
set_option linter.unusedSimpArgs false
namespace Go.Proofs.YtbhgkadklklmbaaGreat
open Go Go.RowKit Go.Sort Go.Lib

def toPR (q : BR) : PR := ⟨q.ps, q.pa, q.pc⟩
theorem flat_PS (L : List BR) : L.flatMap cellsPS = (L.map toPR).flatMap cellsPR := by
 rw [List.flatMap_map]; rfl
/-- A new solid is cells in memory. -/
theorem news_cells {w w' : World} {v : Value} {l : List (List Pl)} (h : NewS w w' v l) : ∃ a c, v = .slice a l.length c ∧ Cells.V w' a (l.map Cell.mk) := by
 obtain ⟨L, rfl, hL, ho⟩ := h.ex
 obtain ⟨a, c, rfl, -, -⟩ := own_slice ho
 have h1 : w'.ownsRow w.heap.size 24 1 (.slice a L.length c) L.length ((L.map toPR).flatMap cellsPR) := by rw [← flat_PS]; exact ho
 have h2 := prs_cells h1 (v := .slice a L.length c) fun q hq => by
  obtain ⟨r, hr, rfl⟩ := List.mem_map.1 hq
  obtain ⟨h3, h4⟩ := hL r hr
  exact ⟨h3.pls, h3.len, h4.k, h3.pb⟩
 refine ⟨a, c, by simp, ?_⟩
 simpa [List.map_map, Function.comp_def, toPR] using h2
def leftV (A B : List Cell) : List (List Pl) := if twoE A B ≠ 0 then [] else (leftM (B.map (·.planes)) [] (A.map (·.planes))).getD []
theorem minusC_any (ca cb : List Cell) (a : Option Addr) (c : Nat) (b : Option Addr) (d : Nat) (w : World) (hcl : ca.length ≤ 9223372036854775807) (hv : Cells.V w a ca) (hpl : ∀ x ∈ ca, x.planes.length ≤ 1000000)
    (hdl : cb.length ≤ 9223372036854775807) (hu : Cells.V w b cb) (hql : ∀ x ∈ cb, x.planes.length ≤ 1000000) :
    Calls Tryz.prog 45 #[.agg #[.slice a ca.length c], .agg #[.slice b cb.length d]] w fun e w' => ∃ va vc, e = .returned (.tuple #[.agg #[.slice va (leftV ca cb).length vc], .int .i64 (minE ca cb)]) ∧ Cells.V w' va ((leftV ca cb).map Cell.mk) ∧ Below w.heap.size w w' := by
 refine Calls.mono (minus_any ca cb a c b d w hcl hv hpl hdl hu hql) ?_
 rintro e w' ⟨v, rfl, hb, h1, h2⟩
 by_cases h0 : minE ca cb = 0
 ·obtain ⟨l, hl, hn⟩ := h2 h0
  obtain ⟨va, vc, rfl, hc⟩ := news_cells hn
  have e1 : leftV ca cb = l := by
   unfold leftV
   rw [if_neg, hl]; · rfl
   intro hne; unfold minE at h0; rw [if_pos hne] at h0; exact hne h0
  rw [e1]
  exact ⟨va, vc, rfl, hc, hb⟩
 ·have e1 : leftV ca cb = [] := by
    unfold leftV
    split
    ·rfl
    ·rename_i ht
     unfold minE leftE at h0
     rw [if_neg ht] at h0
     cases hl : leftM (cb.map (·.planes)) [] (ca.map (·.planes)) with
     | none => rfl
     | some l => rw [hl] at h0; exact absurd rfl h0
  rw [h1 h0, e1]
  exact ⟨none, 0, rfl, fun hne => absurd rfl hne, hb⟩
/-! The common cells. -/
def bothE (A B : List Cell) : Int := if twoE A B ≠ 0 then twoE A B else match meetM (B.map (·.planes)) [] (A.map (·.planes)) with | none => 8 | some _ => 0
def bothV (A B : List Cell) : List (List Pl) := if twoE A B ≠ 0 then [] else (meetM (B.map (·.planes)) [] (A.map (·.planes))).getD []
def meetT (c : List Pl) (out : List (List Pl)) (y Y : List (List Pl)) (x : List (List Pl)) : Option (List (List Pl)) := match meetK c out y with | none => none | some r => meetM Y r x
theorem meetT_nil {c : List Pl} {out Y x : List (List Pl)} : meetT c out [] Y x = meetM Y out x := rfl
theorem meetT_cons {c d : List Pl} {out y Y x : List (List Pl)} : meetT c out (d :: y) Y x = if meetsM c d = true then (if 16 < (nf (c ++ d)).length ∨ 100 < out.length + 1 then none else meetT c (out ++ [nf (c ++ d)]) y Y x) else meetT c out y Y x := by
 unfold meetT
 rw [meetK]
 by_cases h : meetsM c d = true
 ·rw [if_pos h, if_pos h]
  by_cases h2 : 16 < (nf (c ++ d)).length ∨ 100 < out.length + 1
  ·rw [if_pos h2, if_pos h2]
  ·rw [if_neg h2, if_neg h2]
 ·rw [if_neg h, if_neg h]
/-- The two cells of a body's box. -/
structure K2 (g : Nat) (p : BR) (W : World) : Prop where
 a : W.cell? ⟨g, 0, none⟩ = some (.slice p.pa p.ps.length p.pc)
 b : W.cell? ⟨g, 1, none⟩ = some (.slice p.ca (corn p.ps).length p.cc)
theorem K2.keep {g : Nat} {p : BR} {W W' : World} (h : K2 g p W) (hb : Below W.heap.size W W') : K2 g p W' := ⟨cell_keep hb h.a, cell_keep hb h.b⟩
theorem K2.grown {g : Nat} {p : BR} {W W' : World} {row : Option Nat} (h : K2 g p W) (hg : W.grownBy W' row) (h1 : row ≠ some g) : K2 g p W' := ⟨grown_cell hg h.a h1, grown_cell hg h.b h1⟩
theorem K2.off {g r : Nat} {p : BR} {W : World} (h : K2 g p W) (hr : r ≠ g) (v : Value) : K2 g p (W.setCell ⟨r, 0, none⟩ v) := ⟨by rw [cell_set_other (by simpa using hr)]; exact h.a, by rw [cell_set_other (by simpa using hr)]; exact h.b⟩
theorem K2.lt {g : Nat} {p : BR} {W : World} (h : K2 g p W) : g < W.heap.size := block_lt_of_cell h.a
set_option maxRecDepth 100000 in
set_option maxHeartbeats 16000000 in
theorem meet_any (ca cb : List Cell) (a : Option Addr) (c : Nat) (b : Option Addr) (d : Nat) (w : World) (hcl : ca.length ≤ 9223372036854775807) (hv : Cells.V w a ca) (hpl : ∀ x ∈ ca, x.planes.length ≤ 1000000)
    (hdl : cb.length ≤ 9223372036854775807) (hu : Cells.V w b cb) (hql : ∀ x ∈ cb, x.planes.length ≤ 1000000) :
    Calls Tryz.prog 46 #[.agg #[.slice a ca.length c], .agg #[.slice b cb.length d]] w fun e w' => ∃ va vc, e = .returned (.tuple #[.agg #[.slice va (bothV ca cb).length vc], .int .i64 (bothE ca cb)]) ∧ Cells.V w' va ((bothV ca cb).map Cell.mk) ∧ Below w.heap.size w w' := by
 obtain ⟨i0, hi0, hz0, hz1, hz2⟩ := info_parts cellInfo
 have HT := Lib.hid (fun W (h : Below w.heap.size w W) => two_any ca cb a c b d W hcl (hv.keep h) hpl hdl (hu.keep h) hql)
 obtain ⟨V, hV⟩ : ∃ V, V = bothV ca cb := ⟨_, rfl⟩
 obtain ⟨M, hM⟩ : ∃ M, M = bothE ca cb := ⟨_, rfl⟩
 rw [← hV, ← hM]
 obtain ⟨X, hX⟩ : ∃ X, X = ca.map (·.planes) := ⟨_, rfl⟩
 obtain ⟨Y, hY⟩ : ∃ Y, Y = cb.map (·.planes) := ⟨_, rfl⟩
 have HVE := Lib.hid (show V = if twoE ca cb ≠ 0 then [] else (meetM Y [] X).getD [] by rw [hX, hY]; exact hV)
 have HME := Lib.hid (show M = if twoE ca cb ≠ 0 then twoE ca cb else match meetM Y [] X with | none => 8 | some _ => 0 by rw [hX, hY]; exact hM)
 have HZ := Lib.hid (twoE_zero (a := ca) (b := cb))
 have HX := Lib.hid hX
 have HY := Lib.hid hY
 clear hv hu hpl hql hcl hdl hV hM hX hY
 go_enter Tryz.func46, Tryz.ntmps46
 go_upto_region 1 with fail
 refine gen_world (fun W => W.cell? ⟨w.heap.size, 0, none⟩ = some (.slice a ca.length c) ∧ W.cell? ⟨w.heap.size + 1, 0, none⟩ = some (.slice b cb.length d) ∧ (W.cell? ⟨w.heap.size + 2, 0, none⟩ = some (.slice none 0 0) ∧ W.frozen? ⟨w.heap.size + 2, 0, none⟩ = false) ∧ Below w.heap.size w W) ⟨by simp [go_sem], by simp [go_sem], ⟨by simp [go_sem], by simp [go_sem]⟩, by repeat (first | (with_reducible assumption) | exact Below.refl _ _ | (refine Below.setCell ?_ (by first | omega | (simp; omega) | (simp; done)) _) | (refine Below.alloc ?_ (by first | omega | (simp; omega) | (simp; done)) _) | (refine Below.drew ?_))⟩ ?_
 rintro W ⟨b0, b1, ⟨r0, rf0⟩, hb⟩
 have HB0 := Lib.hid hb
 have hrl := block_lt_of_cell r0
 simp only at hrl
 have HTW := Lib.hid (HT.out W hb)
 obtain ⟨gr, hgr⟩ : ∃ g, g = w.heap.size + 2 := ⟨_, rfl⟩
 have HGR := Lib.hid (show w.heap.size ≤ gr by omega)
 have HGL := Lib.hid (show gr < W.heap.size by omega)
 rw [← hgr] at r0 rf0
 rw [show w.heap.size + 1 + 1 = gr from hgr.symm]
 have HR0 := Lib.hid (And.intro r0 rf0)
 clear hrl hgr r0 rf0 hb
 go_upto_region 2 with (go_at_call 89; refine HTW.out.mono ?_; rintro e w1 ⟨x, y, rfl, hb, hr⟩; have HB1 := Lib.hid hb; obtain ⟨xa, xn, xc, ya, yn, yc, rfl, rfl⟩ := hr.shape; have HTP := Lib.hid hr; clear hb hr)
 have HBW1 := Lib.hid (HB0.out.trans (HB1.out.mono HB0.out.size))
 have HR1 := Lib.hid (show w1.cell? ⟨gr, 0, none⟩ = some (.slice none 0 0) ∧ w1.frozen? ⟨gr, 0, none⟩ = false from ⟨cell_keep HB1.out HR0.out.1, frozen_keep HB1.out HGL.out HR0.out.2⟩)
 have HG1 := Lib.hid (show gr < w1.heap.size by have := HGL.out; have := HB1.out.size; omega)
 clear b0 b1
 by_cases h0 : twoE ca cb = 0
 ·obtain ⟨⟨Lx, hx1, hx2⟩, Ly, hy1, hy2⟩ := HTP.out.2 h0
  obtain ⟨e1, hbx⟩ := bods_of (HZ.out.1 h0).1 hx1 hx2
  obtain ⟨e2, hby⟩ := bods_of (HZ.out.1 h0).2 hy1 hy2
  subst e1 e2
  have HXS := Lib.hid (show X = Lx.map (·.ps) by rw [HX.out, ← hx1.ps])
  have HYS := Lib.hid (show Y = Ly.map (·.ps) by rw [HY.out, ← hy1.ps])
  have HBX := Lib.hid hbx
  have HBY := Lib.hid hby
  have HV2 := Lib.hid (show V = (meetM Y [] X).getD [] by rw [HVE.out, if_neg (by simpa using h0)])
  have HM2 := Lib.hid (show M = match meetM Y [] X with | none => 8 | some _ => 0 by rw [HME.out, if_neg (by simpa using h0)])
  have hlx100 := hbx.l
  have hly100 := hby.l
  rw [h0]
  clear hx1 hx2 hy1 hy2 hbx hby h0 HTP HZ HVE HME HT HTW HX HY
  go_upto_region 5 with fail
  refine gen_world (fun W => CpSt w1.heap.size W (.slice none 0 0) [] ∧ Below w1.heap.size w1 W) ⟨⟨by simp [go_sem], by simp [go_sem], ⟨rfl, .inl ⟨rfl, rfl⟩⟩, fun q hq => absurd hq (by simp)⟩, by repeat (first | (with_reducible assumption) | exact Below.refl _ _ | (refine Below.setCell ?_ (by first | omega | (simp; omega) | (simp; done)) _) | (refine Below.alloc ?_ (by first | omega | (simp; omega) | (simp; done)) _) | (refine Below.drew ?_))⟩ ?_
  rintro W2 ⟨hst, hb⟩
  have HST := Lib.hid hst
  have HB2 := Lib.hid hb
  obtain ⟨g9, hg9⟩ : ∃ g, g = w1.heap.size := ⟨_, rfl⟩
  have HG9 := Lib.hid hg9
  rw [← hg9] at HST HB2 HG1 ⊢
  have HBX9 := Lib.hid (show ∀ W', Below g9 w1 W' → Bods W' xa Lx from fun W' h => HBX.out.keep (by rw [← hg9]; exact h))
  have HBY9 := Lib.hid (show ∀ W', Below g9 w1 W' → Bods W' ya Ly from fun W' h => HBY.out.keep (by rw [← hg9]; exact h))
  have HRK := Lib.hid (show ∀ W', Below g9 w1 W' → W'.cell? ⟨gr, 0, none⟩ = some (.slice none 0 0) ∧ W'.frozen? ⟨gr, 0, none⟩ = false from fun W' h => ⟨(h.cell HG1.out).trans HR1.out.1, (h.frozen HG1.out).trans HR1.out.2⟩)
  have HBF := Lib.hid (show ∀ W', Below g9 w1 W' → Below w.heap.size w W' from fun W' h => HBW1.out.trans (h.mono (by rw [hg9]; exact HBW1.out.size)))
  clear hst hb hg9
  go_wp2_with fail
  go_loopw [29] (fun iv wr => ∃ (i : Nat) (v : Value) (L : List PR), i ≤ Lx.length ∧ iv = .int .i64 (i : Int) ∧ CpSt g9 wr v L ∧ Hid (meetM Y [] X = meetM Y (L.map (·.ps)) (X.drop i)) ∧ Hid (∀ r ∈ L, ∀ b, blk r.pa = some b → g9 < b) ∧ Hid (L.length ≤ 100) ∧ Below g9 w1 wr) (fun iv _ => Lx.length - (intOf iv).toNat)
  case atStart => exact ⟨0, _, [], Nat.zero_le _, rfl, HST.out, Lib.hid rfl, Lib.hid (fun r hr => absurd hr (by simp)), Lib.hid (by simp), HB2.out⟩
  case round =>
   obtain ⟨i, v, L, hi, rfl, hst, HMM, HOF, HLL, hb⟩ := hrel
   obtain ⟨W3, rfl⟩ : ∃ W3 : World, W3 = wr := ⟨_, rfl⟩
   have HB3 := Lib.hid hb
   have HS3 := Lib.hid hst
   have HX3 := Lib.hid (HBX9.out _ hb)
   have hg93 := hst.lt
   have o9 := hst.c
   by_cases hlt : i < Lx.length
   ·have hki : (i : Int) < (Lx.length : Int) := by omega
    obtain ⟨bx, off, rfl, hat⟩ := HX3.out.v.at_ hlt
    obtain ⟨c0, c1⟩ := hat
    have HCB := Lib.hid (HX3.out.b _ (List.getElem_mem hlt))
    have HCW := Lib.hid (show ∀ W', Below g9 w1 W' → BG W' Lx[i] from fun W' h => ((HBX9.out W' h).b _ (List.getElem_mem hlt)).1)
    have HXD := Lib.hid (show X.drop i = Lx[i].ps :: X.drop (i + 1) by rw [HXS.out, List.drop_eq_getElem_cons (by simpa using hlt)]; simp)
    generalize Lx[i] = p at *
    clear hst hb o9
    go_upto_region 8 with fail
    refine gen_world (fun W4 => Below W3.heap.size W3 W4 ∧ W4.cell? ⟨W3.heap.size, 0, none⟩ = some (.slice p.pa p.ps.length p.pc) ∧ W4.cell? ⟨W3.heap.size, 1, none⟩ = some (.slice p.ca (corn p.ps).length p.cc)) ⟨(Below.refl _ _).alloc (Nat.le_refl _) _, by simp [go_sem], by simp [go_sem]⟩ ?_
    rintro W4 ⟨hb4, x0, x1⟩
    have HB4 := Lib.hid (show Below g9 w1 W4 from HB3.out.trans (hb4.mono (by omega)))
    have HS4 := Lib.hid (HS3.out.keep hb4)
    have HCL := Lib.hid HCB.out.2
    have HK4 := Lib.hid (show K2 W3.heap.size p W4 from ⟨x0, x1⟩)
    have HVN := Lib.hid (show v.ownBlock ≠ some W3.heap.size from fun e => by have := (own_lt HS3.out.o e).2; omega)
    have HG11 := Lib.hid (show g9 < W3.heap.size from hg93)
    have HMT := Lib.hid (show meetM Y [] X = meetT p.ps (L.map (·.ps)) Y Y (X.drop (i + 1)) by rw [HMM.out, HXD.out]; rfl)
    generalize W3.heap.size = g11 at hg93 x0 x1 HK4 HVN HG11 ⊢
    clear c0 c1 hb4 x0 x1
    go_wp2_with fail
    go_loopw [35] (fun kv wq => ∃ (k : Nat) (v : Value) (L : List PR), k ≤ Ly.length ∧ kv = .int .i64 (k : Int) ∧ CpSt g9 wq v L ∧ K2 g11 p wq ∧ Hid (v.ownBlock ≠ some g11) ∧ Hid (meetM Y [] X = meetT p.ps (L.map (·.ps)) (Y.drop k) Y (X.drop (i + 1))) ∧ Hid (∀ r ∈ L, ∀ b, blk r.pa = some b → g9 < b) ∧ Hid (L.length ≤ 100) ∧ Below g9 w1 wq) (fun kv _ => Ly.length - (intOf kv).toNat)
    case atStart => exact ⟨0, v, L, Nat.zero_le _, rfl, HS4.out, HK4.out, HVN, HMT, HOF, HLL, HB4.out⟩
    case round =>
     clear HS4 HS3 HB3 HB4 HX3 HMM HOF HLL HMT HVN HK4 hg93
     clear v L
     obtain ⟨k, v, L, hk, rfl, hst, hk2, HVN, HMT, HOF, HLL, hb⟩ := hrel
     obtain ⟨W5, rfl⟩ : ∃ W5 : World, W5 = wr := ⟨_, rfl⟩
     have HS5 := Lib.hid hst
     have HK5 := Lib.hid hk2
     have HB5 := Lib.hid hb
     have HY5 := Lib.hid (HBY9.out _ hb)
     have hg95 := hst.lt
     obtain ⟨va, vc, rfl, -, -⟩ := own_slice hst.o
     clear hst hk2 hb
     by_cases hlt2 : k < Ly.length
     ·have hkj : (k : Int) < (Ly.length : Int) := by omega
      obtain ⟨yb, yoff, rfl, hat⟩ := HY5.out.v.at_ hlt2
      obtain ⟨d0, d1⟩ := hat
      have HDW := Lib.hid (show ∀ W', Below g9 w1 W' → BG W' Ly[k] from fun W' h => ((HBY9.out W' h).b _ (List.getElem_mem hlt2)).1)
      have HDL := Lib.hid (HY5.out.b _ (List.getElem_mem hlt2)).2
      have HYD := Lib.hid (show Y.drop k = Ly[k].ps :: Y.drop (k + 1) by rw [HYS.out, List.drop_eq_getElem_cons (by simpa using hlt2)]; simp)
      generalize Ly[k] = q at *
      have x0 := HK5.out.a
      have x1 := HK5.out.b
      go_upto_region 11 with fail
      refine gen_world (fun W6 => Below W5.heap.size W5 W6 ∧ W6.cell? ⟨W5.heap.size, 0, none⟩ = some (.slice q.pa q.ps.length q.pc) ∧ W6.cell? ⟨W5.heap.size, 1, none⟩ = some (.slice q.ca (corn q.ps).length q.cc) ∧ K2 g11 p W6) ⟨(Below.refl _ _).alloc (Nat.le_refl _) _, by simp [go_sem], by simp [go_sem], HK5.out.keep ((Below.refl _ _).alloc (Nat.le_refl _) _)⟩ ?_
      rintro W6 ⟨hb6, z0, z1, hk6⟩
      have HB6 := Lib.hid (show Below g9 w1 W6 from HB5.out.trans (hb6.mono (by omega)))
      have HS6 := Lib.hid (HS5.out.keep hb6)
      have HK6 := Lib.hid hk6
      have u0 := hk6.a
      have u1 := hk6.b
      have HP6 := Lib.hid (HCW.out _ HB6.out)
      have HQ6 := Lib.hid (HDW.out _ HB6.out)
      generalize W5.heap.size = g13 at hg95 z0 z1 ⊢
      clear d0 d1 hb6 x0 x1 hk6
      have HA := Lib.hid (apart_any p q W6 HP6.out HQ6.out)
      have HC := Lib.hid (fun W (hb : Below W6.heap.size W6 W) => common_any p q W (HP6.out.keep hb).pls (HQ6.out.keep hb).pls HP6.out.g HQ6.out.g (by have := HCL.out; have := HDL.out; omega))
      have HBG := Lib.hid (fun (r : BR) (hr : r.ps = p.ps ++ q.ps) W W' W2 (hn : NB W W' r) (hb : Below W'.heap.size W' W2) => (hn.keep hb).bg (by rw [hr]; have := HCL.out; have := HDL.out; simp; omega))
      have HSO := Lib.hid (fun (r : BR) (hr : r.ps = p.ps ++ q.ps) W W' W2 (hn : NB W W' r) (hb : Below W'.heap.size W' W2) => solidly_any r.ps r.pa r.pc (corn r.ps) r.ca r.cc W2 hn.g (HBG.out r hr _ _ _ hn hb).ci (by rw [hr]; have := HCL.out; have := HDL.out; simp; omega) (HBG.out r hr _ _ _ hn hb).cl (HBG.out r hr _ _ _ hn hb).pls (HBG.out r hr _ _ _ hn hb).cos)
      have HME := Lib.hid (show meetsM p.ps q.ps = (!apaM p.ps q.ps && solM (p.ps ++ q.ps)) from rfl)
      have HST := Lib.hid (meetT_cons (c := p.ps) (d := q.ps) (out := L.map (·.ps)) (y := Y.drop (k + 1)) (Y := Y) (x := X.drop (i + 1)))
      rw [← HYD.out, HME.out] at HST
      cases hap : apaM p.ps q.ps with
      | true =>
       rw [hap] at HA HST
       have HNX := Lib.hid (show meetM Y [] X = meetT p.ps (L.map (·.ps)) (Y.drop (k + 1)) Y (X.drop (i + 1)) by rw [HMT.out, HST.out]; rfl)
       go_wp2_with (go_at_call 104; refine HA.out.mono ?_; rintro e w7 ⟨rfl, hb⟩; have HB7 := Lib.hid (show Below g9 w1 w7 from HB6.out.trans (hb.mono (Nat.le_of_lt HS6.out.lt))); have HS7 := Lib.hid (HS6.out.keep hb); have HK7 := Lib.hid (HK6.out.keep hb); clear hb)
       go_roundw
       case rel => exact ⟨k + 1, _, L, by omega, by go_num, HS7.out, HK7.out, HVN, HNX, HOF, HLL, HB7.out⟩
       case measure => first | (simp [intOf]; done) | (simp [intOf]; omega)
      | false =>
       rw [hap] at HA HST
       go_upto_region 13 with (first
        | (go_at_call 104; refine HA.out.mono ?_; rintro e w7 ⟨rfl, hb⟩; have v0 := cell_keep hb z0; have v1 := cell_keep hb z1; have t0 := cell_keep hb u0; have t1 := cell_keep hb u1; have HB7 := Lib.hid hb; have HC7 := Lib.hid (HC.out w7 hb); clear hb)
        | (go_at_call 93; refine HC7.out.mono ?_; rintro e w8 ⟨r, hr, rfl, hn, hb⟩; have HB8 := Lib.hid hb; have HRP := Lib.hid hr; have HN8 := Lib.hid hn; clear hb hr hn))
       refine gen_world (fun W9 => Below w8.heap.size w8 W9 ∧ W9.cell? ⟨w8.heap.size, 0, none⟩ = some (.slice r.pa r.ps.length r.pc) ∧ W9.cell? ⟨w8.heap.size, 1, none⟩ = some (.slice r.ca (corn r.ps).length r.cc)) ⟨(Below.refl _ _).alloc (Nat.le_refl _) _, by simp [go_sem], by simp [go_sem]⟩ ?_
       rintro W9 ⟨hb9, s0, s1⟩
       have HSQ := Lib.hid (HSO.out r HRP.out _ _ _ HN8.out hb9)
       rw [show solB r.ps (corn r.ps) = solM (p.ps ++ q.ps) by rw [HRP.out]; rfl] at HSQ
       have HB69 := Lib.hid (show Below W6.heap.size W6 W9 from (HB7.out.trans (HB8.out.mono HB7.out.size)).trans (hb9.mono (HB7.out.trans (HB8.out.mono HB7.out.size)).size))
       have HN9 := Lib.hid (HN8.out.keep hb9)
       have HG7 := Lib.hid (show W6.heap.size ≤ w7.heap.size from HB7.out.size)
       generalize w8.heap.size = g14 at s0 s1 ⊢
       clear hb9 z0 z1 u0 u1 v0 v1 t0 t1
       cases hso : solM (p.ps ++ q.ps) with
       | false =>
        rw [hso] at HSQ HST
        have HNX := Lib.hid (show meetM Y [] X = meetT p.ps (L.map (·.ps)) (Y.drop (k + 1)) Y (X.drop (i + 1)) by rw [HMT.out, HST.out]; rfl)
        go_wp2_with (go_at_call 94; refine HSQ.out.mono ?_; rintro e w10 ⟨rfl, hb⟩; have HB10 := Lib.hid (show Below W6.heap.size W6 w10 from HB69.out.trans (hb.mono HB69.out.size)); clear hb)
        go_roundw
        case rel => exact ⟨k + 1, _, L, by omega, by go_num, HS6.out.keep HB10.out, HK6.out.keep HB10.out, HVN, HNX, HOF, HLL, HB6.out.trans (HB10.out.mono (Nat.le_of_lt HS6.out.lt))⟩
        case measure => first | (simp [intOf]; done) | (simp [intOf]; omega)
       | true =>
        rw [hso] at HSQ HST
        have HNF := Lib.hid (fun W (hb : Below W9.heap.size W9 W) => normalForm_any r.ps r.pa r.pc (corn r.ps) r.ca r.cc W (HN9.out.g) (HBG.out r HRP.out _ _ _ HN9.out hb).ci (HBG.out r HRP.out _ _ _ HN9.out hb).l (HBG.out r HRP.out _ _ _ HN9.out hb).cl (HBG.out r HRP.out _ _ _ HN9.out hb).pls (HBG.out r HRP.out _ _ _ HN9.out hb).cos)
        rw [show nor r.ps (corn r.ps) = nf r.ps from rfl] at HNF
        have HNG := Lib.hid (show Good (nf r.ps) from HN9.out.g.nor _)
        have HNL := Lib.hid (show (nf r.ps).length ≤ 40 from Nat.le_trans (nor_len _ _) (HBG.out r HRP.out _ _ _ HN9.out (Below.refl _ _)).l)
        rw [← HRP.out] at HST
        generalize nf r.ps = N at HNF HST HNG HNL
        go_upto_region 15 with (first
         | (go_at_call 94; refine HSQ.out.mono ?_; rintro e w10 ⟨rfl, hb⟩; have q0 := cell_keep hb s0; have q1 := cell_keep hb s1; have HB10 := Lib.hid hb; have HN10 := Lib.hid (HNF.out _ hb); clear hb)
         | (go_at_call 77; refine HN10.out.mono ?_; rintro e w11 ⟨na, nc, rfl, ho, hb⟩; have HB11 := Lib.hid hb; have HO11 := Lib.hid ho; clear hb ho))
        have HB611 := Lib.hid (show Below W6.heap.size W6 w11 from (HB69.out.trans (HB10.out.mono HB69.out.size)).trans (HB11.out.mono (HB69.out.trans (HB10.out.mono HB69.out.size)).size))
        have HZ6 := Lib.hid (show W6.heap.size ≤ w10.heap.size from (HB69.out.trans (HB10.out.mono HB69.out.size)).size)
        refine gen_world (fun W12 => Below w11.heap.size w11 W12 ∧ W12.cell? ⟨w11.heap.size, 0, none⟩ = some (.slice na N.length nc)) ⟨(Below.refl _ _).alloc (Nat.le_refl _) _, by simp [go_sem]⟩ ?_
        rintro W12 ⟨hb12, n0⟩
        have HB612 := Lib.hid (show Below W6.heap.size W6 W12 from HB611.out.trans (hb12.mono HB611.out.size))
        have HS12 := Lib.hid (HS6.out.keep HB612.out)
        have HK12 := Lib.hid (HK6.out.keep HB612.out)
        have HO12 := Lib.hid (own_keep HO11.out hb12)
        have HB12 := Lib.hid (show Below g9 w1 W12 from HB6.out.trans (HB612.out.mono (Nat.le_of_lt HS6.out.lt)))
        have HV15 := Lib.hid (show (Value.slice va L.length vc).ownBlock ≠ some w11.heap.size from fun e => by have := (own_lt HS6.out.o e).2; have := HB611.out.size; omega)
        have HE15 := Lib.hid (show g9 ≠ w11.heap.size by have := HS6.out.lt; have := HB611.out.size; omega)
        have HG12 := Lib.hid (show w11.heap.size < W12.heap.size from block_lt_of_cell n0)
        have HNN := Lib.hid n0
        generalize w11.heap.size = g15 at n0 HNN HV15 HE15 HG12 ⊢
        clear hb12 q0 q1 s0 s1
        have hal := (Below.refl W12.heap.size W12).alloc (Nat.le_refl _) (.cells #[.slice na N.length nc] 24)
        have HS13 := Lib.hid (HS12.out.keep hal)
        have HK13 := Lib.hid (HK12.out.keep hal)
        have HN13 := Lib.hid (cell_keep hal n0)
        have HO13 := Lib.hid (own_keep HO12.out hal)
        have HNW := Lib.hid (show ∀ j u, (cellsPR ⟨N, na, nc⟩)[j]? = some u → (W12.alloc (.cells #[.slice na N.length nc] 24)).cell? ((⟨W12.heap.size, 0, none⟩ : Addr).add j) = some u from news_of (cellsPR ⟨N, na, nc⟩) 24 W12 _ rfl)
        have HB13 := Lib.hid (show Below g9 w1 (W12.alloc (.cells #[.slice na N.length nc] 24)) from HB12.out.trans (hal.mono (Nat.le_of_lt HS12.out.lt)))
        have HQB := Lib.hid (show ∀ b, blk na = some b → W6.heap.size ≤ b ∧ b < (W12.alloc (.cells #[.slice na N.length nc] 24)).heap.size from fun b e => ⟨Nat.le_trans HZ6.out (own_blk_lt HO13.out b e).1, (own_blk_lt HO13.out b e).2⟩)
        have HPR := Lib.hid (show PRok (W12.alloc (.cells #[.slice na N.length nc] 24)) (.slice va L.length vc) ⟨N, na, nc⟩ from ⟨ownPlV (fun x hx => Pl.in_.wf (HNG.out x hx).1) HO13.out, (own_len_le HO13.out).2, by obtain ⟨a1, c1, e1, -, h1⟩ := own_slice HO13.out; injection e1 with e2 e3 e4; rw [e4]; exact h1, fun b e => ⟨(HQB.out b e).2, fun e' => by have h1 := (own_lt HS6.out.o e').2; have h2 := (HQB.out b e).1; omega⟩⟩)
        have HNE := Lib.hid (show ∀ b, blk na = some b → g9 < b from fun b e => by have h2 := (HQB.out b e).1; have := HS6.out.lt; omega)
        have HOFS := Lib.hid (show (Value.slice va L.length vc).ownBlock ≠ some g9 from fun e => by have := (own_lt HS12.out.o e).1; omega)
        have HZ13 := Lib.hid (show W12.heap.size < (W12.alloc (.cells #[.slice na N.length nc] 24)).heap.size by simp)
        have o12 := HS12.out.c
        have f12 := HS12.out.f
        go_upto_region 16 with (at_builtin; refine wpList_append_here _ rfl _ _ 46 rfl (g9 + 1) 24 i0 (.agg #[.slice none 0 0]) 1 24 Tryz.underlying46 hi0 hz0 hz1 hz2 rfl (by decide) (.slice va L.length vc) L.length (L.flatMap cellsPR) rfl HS13.out.o ⟨W12.heap.size, 0, none⟩ 1 1 (cellsPR ⟨N, na, nc⟩) rfl rfl HNW.out (cellsPR_one _) (by decide) (by have := HLL.out; simp only [maxLen]; omega) (by have := HLL.out; omega) (by have := HS12.out.lt; simp; omega) ?_; intro v' w14 ho hg hat; obtain ⟨va', vc', rfl, -, -⟩ := own_slice ho; have HO14 := Lib.hid (show w14.ownsRow (g9 + 1) 24 1 (.slice va' (L.length + 1) vc') (L ++ [(⟨N, na, nc⟩ : PR)]).length ((L ++ [(⟨N, na, nc⟩ : PR)]).flatMap cellsPR) by rw [List.flatMap_append, List.length_append]; simpa using ho); have HGR14 := Lib.hid hg; have HAT := Lib.hid hat; have m0 := grown_cell hg HS13.out.c HOFS.out; have mf := (grown_frozen hg HS13.out.c HOFS.out).trans HS13.out.f; clear ho hg hat)
        have HS15 := Lib.hid (HS13.out.put HGR14.out HAT.out HPR.out (fun b e => by have := HNE.out b e; omega) (fun r hr b e => by have := HOF.out r hr b e; omega) HO14.out)
        have HK15 := Lib.hid ((HK13.out.grown HGR14.out HVN.out).off (show g9 ≠ g11 by have := HG11.out; omega) (.slice va' (L.length + 1) vc'))
        have HN15 := Lib.hid (show (w14.setCell ⟨g9, 0, none⟩ (.slice va' (L.length + 1) vc')).cell? ⟨g15, 0, none⟩ = some (.slice na N.length nc) by rw [cell_set_other (by simpa using HE15.out)]; exact grown_cell HGR14.out HN13.out HV15.out)
        have HB15 := Lib.hid ((below_grown HB13.out HGR14.out (Nat.le_of_lt HS13.out.lt) fun j hj => Nat.le_of_succ_le (own_lt HS13.out.o hj).1).setCell (Nat.le_refl _) (.slice va' (L.length + 1) vc') (p := ⟨g9, 0, none⟩))
        have HVN15 := Lib.hid (show (Value.slice va' (L.length + 1) vc').ownBlock ≠ some g11 from by
         rcases HAT.out with e | e
         ·rw [e]; exact HVN.out
         ·rw [e]; intro h; injection h with h; have := HK12.out.lt; have := HZ13.out; omega)
        have HOF15 := Lib.hid (show ∀ r ∈ L ++ [(⟨N, na, nc⟩ : PR)], ∀ b, blk r.pa = some b → g9 < b from fun r hr b e => by
         rcases List.mem_append.1 hr with hr | hr
         ·exact HOF.out r hr b e
         ·simp only [List.mem_singleton] at hr; subst hr; exact HNE.out b e)
        have HLP := Lib.hid (show (L ++ [(⟨N, na, nc⟩ : PR)]).map (·.ps) = L.map (·.ps) ++ [N] by rw [List.map_append]; rfl)
        have HLE := Lib.hid (show (L ++ [(⟨N, na, nc⟩ : PR)]).length = L.length + 1 by simp)
        generalize (w14.setCell ⟨g9, 0, none⟩ (.slice va' (L.length + 1) vc')) = W15 at HS15 HK15 HN15 HB15 ⊢
        clear m0 mf o12 f12 hal n0
        have n15 := HN15.out
        have o15 := HS15.out.c
        obtain ⟨r15, rf15⟩ := HRK.out _ HB15.out
        by_cases h16 : 16 < N.length
        ·have h16i : (16 : Int) < (N.length : Int) := by omega
         have HNO := Lib.hid (show meetM Y [] X = none by rw [HMT.out, HST.out]; simp [h16])
         have HM3 := Lib.hid (show M = 8 by rw [HM2.out, HNO.out])
         have HV3 := Lib.hid (show V = [] by rw [HV2.out, HNO.out]; rfl)
         go_wp2_with fail
         refine bodyPost_ret (v := .tuple #[.agg #[.slice none 0 0], .int .i64 8]) ?_ ?_ ?_
         ·simp [results, Tryz.results46, go_sem, got1 r15]
         ·rfl
         ·rw [HM3.out, HV3.out]
          first | exact ⟨none, 0, rfl, fun hne => absurd rfl hne, (HBF.out _ HB15.out).setCell HGR.out _⟩ | exact ⟨none, ⟨0, rfl⟩, fun hne => absurd rfl hne, (HBF.out _ HB15.out).setCell HGR.out _⟩
        ·have h16i : ¬ (16 : Int) < (N.length : Int) := by omega
         by_cases h100 : 100 < L.length + 1
         ·have h100i : (100 : Int) < ((L.length : Int) + 1) := by omega
          have HNO := Lib.hid (show meetM Y [] X = none by rw [HMT.out, HST.out]; simp [h100])
          have HM3 := Lib.hid (show M = 8 by rw [HM2.out, HNO.out])
          have HV3 := Lib.hid (show V = [] by rw [HV2.out, HNO.out]; rfl)
          go_wp2_with fail
          refine bodyPost_ret (v := .tuple #[.agg #[.slice none 0 0], .int .i64 8]) ?_ ?_ ?_
          ·simp [results, Tryz.results46, go_sem, got1 r15]
          ·rfl
          ·rw [HM3.out, HV3.out]
           first | exact ⟨none, 0, rfl, fun hne => absurd rfl hne, (HBF.out _ HB15.out).setCell HGR.out _⟩ | exact ⟨none, ⟨0, rfl⟩, fun hne => absurd rfl hne, (HBF.out _ HB15.out).setCell HGR.out _⟩
         ·have h100i : ¬ (100 : Int) < ((L.length : Int) + 1) := by omega
          have HNX := Lib.hid (show meetM Y [] X = meetT p.ps ((L ++ [(⟨N, na, nc⟩ : PR)]).map (·.ps)) (Y.drop (k + 1)) Y (X.drop (i + 1)) by rw [HMT.out, HST.out, HLP.out]; simp [h16, h100])
          go_wp2_with fail
          go_roundw
          case rel => exact ⟨k + 1, _, _, by omega, by go_num, HS15.out, HK15.out, HVN15, HNX, HOF15, Lib.hid (by have := HLE.out; omega), HB15.out⟩
          case measure => first | (simp [intOf]; done) | (simp [intOf]; omega)
     ·obtain rfl : k = Ly.length := by omega
      have hkj : ¬ ((Ly.length : Nat) : Int) < ((Ly.length : Nat) : Int) := by omega
      have HNX := Lib.hid (show meetM Y [] X = meetM Y (L.map (·.ps)) (X.drop (i + 1)) by rw [HMT.out, show Y.drop Ly.length = [] from by rw [HYS.out]; simp]; exact meetT_nil)
      go_wp2_with fail
      go_roundw
      case rel => exact ⟨i + 1, _, L, by omega, by go_num, HS5.out, HNX, HOF, HLL, HB5.out⟩
      case measure => first | (simp [intOf]; done) | (simp [intOf]; omega)
   ·obtain rfl : i = Lx.length := by omega
    have hki : ¬ ((Lx.length : Nat) : Int) < ((Lx.length : Nat) : Int) := by omega
    have HNO := Lib.hid (show meetM Y [] X = some (L.map (·.ps)) by rw [HMM.out, show X.drop Lx.length = [] from by rw [HXS.out]; simp]; rfl)
    have HM3 := Lib.hid (show M = 0 by rw [HM2.out, HNO.out])
    have HV3 := Lib.hid (show V = L.map (·.ps) by rw [HV2.out, HNO.out]; rfl)
    obtain ⟨r3, rf3⟩ := HRK.out _ hb
    obtain ⟨va, vc, rfl, -, -⟩ := own_slice hst.o
    clear hst hb
    go_wp2_with fail
    refine bodyPost_ret (v := .tuple #[.agg #[.slice va L.length vc], .int .i64 0]) ?_ ?_ ?_
    ·simp [results, Tryz.results46, go_sem, got1 r3]
    ·rfl
    ·rw [HM3.out, HV3.out]
     have hg := HG1.out
     have ho := HS3.out.o.kept (grownBy_set (a := ⟨gr, 0, none⟩) (u := .slice va L.length vc)) (.inr fun e => by have := (own_lt HS3.out.o e).1; simp only at this; omega)
     have hcv := prs_cells ho (v := .slice none 0 0) fun q hq => by
      have h := HS3.out.p q hq
      exact ⟨h.pls.grown (grownBy_set (a := ⟨gr, 0, none⟩)) fun b e e' => by injection e' with e'; have := HOF.out q hq b e; simp only at e'; omega, h.len, h.cap, fun b e => ⟨by rw [size_set]; exact (h.pb b e).1, fun e' => by cases e'⟩⟩
     have hcv2 : Cells.V (W3.setCell ⟨gr, 0, none⟩ (.slice va L.length vc)) va ((L.map (·.ps)).map Cell.mk) := by simpa [List.map_map, Function.comp_def] using hcv
     have hbf := (HBF.out _ HB3.out).setCell (p := ⟨gr, 0, none⟩) HGR.out (.slice va L.length vc)
     first
      | exact ⟨va, vc, by simp, hcv2, hbf⟩
      | exact ⟨va, ⟨vc, by simp⟩, hcv2, hbf⟩
 ·have HM3 := Lib.hid (show M = twoE ca cb by rw [HME.out, if_pos h0])
  have HV3 := Lib.hid (show V = [] by rw [HVE.out, if_pos h0])
  have hE1 : (twoE ca cb != 0) = true := by simpa using h0
  obtain ⟨r1, rf1⟩ := HR1.out
  clear h0
  generalize twoE ca cb = E at *
  go_wp2_with fail
  refine bodyPost_ret (v := .tuple #[.agg #[.slice none 0 0], .int .i64 E]) ?_ ?_ ?_
  ·simp [results, Tryz.results46, go_sem, got1 r1]
  ·rfl
  ·rw [HM3.out, HV3.out]
   first | exact ⟨none, 0, rfl, fun hne => absurd rfl hne, HBW1.out.setCell HGR.out _⟩ | exact ⟨none, ⟨0, rfl⟩, fun hne => absurd rfl hne, HBW1.out.setCell HGR.out _⟩
end Go.Proofs.YtbhgkadklklmbaaGreat
/- The program's copy of a solid, and two solids joined. -/
set_option linter.unusedVariables false
set_option linter.unusedSimpArgs false
namespace Go.Proofs.YtbhgkadklklmbaaGreat
open Go Go.RowKit Go.Sort Go.Lib

/-- Cells at the start of a row, as they are copied. -/
def PRN (w : World) (a : Option Addr) (l : List PR) : Prop := l ≠ [] → ∃ ad, a = some ad ∧ ∀ j u, (l.flatMap cellsPR)[j]? = some u → w.cell? (ad.add j) = some u
theorem PRN.keep {w w' : World} {a : Option Addr} {l : List PR} (h : PRN w a l) (hb : Below w.heap.size w w') : PRN w' a l := fun hne => by
 obtain ⟨ad, rfl, hx⟩ := h hne
 exact ⟨ad, rfl, fun j u hj => cell_keep hb (hx j u hj)⟩
theorem ownPRN {w : World} {base e n c m : Nat} {a : Option Addr} {l : List PR} (h : w.ownsRow base e 1 (.slice a m c) n (l.flatMap cellsPR)) : PRN w a l := fun hne => by
 rcases h.2 with ⟨e0, h0⟩ | ⟨g, cap, cur, e0, _⟩
 ·have h1 := h.1
  rw [flat_len cellsPR_len] at h1
  exact absurd (List.length_eq_zero_iff.1 (by omega)) hne
 ·injection e0 with e1 e2 e3
  subst e1 e2
  exact ⟨_, rfl, fun j u hj => h.cells (g := g) rfl j u hj⟩
theorem eqNil (n c : Nat) (w : World) : (binOp .eql 22 (.slice none n c) (.slice none 0 0)).run Tryz.prog w = .ok (.bool true) w := by kernel_rfl
theorem eqSome (a : Addr) (n c : Nat) (w : World) : (binOp .eql 22 (.slice (some a) n c) (.slice none 0 0)).run Tryz.prog w = .ok (.bool false) w := by kernel_rfl
set_option maxRecDepth 100000 in
set_option maxHeartbeats 4000000 in
theorem clone_any (ps : List Pl) (pa : Option Addr) (pc : Nat) (w : World) (hl : ps.length ≤ 100000) (hv : Pls.V w pa ps) :
    Calls Tryz.prog 170 #[.slice pa ps.length pc] w fun e w' => ∃ a c, e = .returned (.slice a ps.length c) ∧ w'.ownsRow w.heap.size 26 4 (.slice a ps.length c) ps.length (ps.flatMap cellsPl) ∧ Below w.heap.size w w' := by
 obtain ⟨i0, hi0, hz0, hz1, hz2⟩ := info_parts infoPl
 have hen := eqNil
 have hes := eqSome
 cases pa with
 | none =>
  have hps : ps = [] := by
   cases ps with
   | nil => rfl
   | cons x l => obtain ⟨b, off, h, _⟩ := hv (by simp); cases h
  subst hps
  clear hv
  go_enter Tryz.func170, Tryz.ntmps170
  go_wp2_with fail
  go_ret
  exact ⟨none, 0, rfl, World.ownsRow_nil _ _ _ _, Below.refl _ _⟩
 | some ad =>
  have HB := Lib.hid ((Below.refl w.heap.size w).alloc (Nat.le_refl _) (.cells #[] 26))
  have HOW := Lib.hid (World.ownsRow_made (e := 26) (base := w.heap.size) (size := 4) w #[] 0 (by omega) (by decide) (by simp))
  have HPV := Lib.hid (plsNews (hv.keep HB.out))
  clear hv
  go_enter Tryz.func170, Tryz.ntmps170
  go_wp2_with (at_builtin; refine wpList_append_rows cellsPl_len cellsPl_one (by decide) rfl _ _ 22 rfl w.heap.size 26 i0 _ 32 Tryz.underlying22 hi0 hz0 hz1 hz2 rfl (by decide) (.slice (some ⟨w.heap.size, 0, none⟩) 0 0) 0 [] rfl HOW.out (some ad) ps pc rfl HPV.out (by omega) (by simp) ?_; intro v' w5 ho5 hg5 ha5; obtain ⟨ra, rc, rfl, -, -⟩ := own_slice ho5; have HO5 := Lib.hid (show w5.ownsRow w.heap.size 26 4 (.slice ra ps.length rc) ps.length (ps.flatMap cellsPl) by simpa using ho5); have HB5 := Lib.hid (below_grown HB.out hg5 HB.out.size fun k hk => by have := (own_lt HOW.out hk).1; omega); clear ho5 hg5 ha5)
  go_ret
  exact ⟨ra, rc, by simp, HO5.out, HB5.out⟩
set_option maxRecDepth 100000 in
set_option maxHeartbeats 2000000 in
theorem growCe_any (n : Nat) (w : World) (hn : n ≤ 1000000) : Calls Tryz.prog 169 #[.slice none 0 0, .int .i64 (n : Int)] w fun e w' => ∃ v, e = .returned v ∧ w'.ownsRow w.heap.size 24 1 v 0 [] ∧ Below w.heap.size w w' := by
 obtain ⟨i0, hi, hz0, hz1, hz2⟩ := info_parts cellInfo
 by_cases h0 : n = 0
 ·subst h0
  go_enter Tryz.func169, Tryz.ntmps169
  go_wp2_with fail
  go_ret
  exact ⟨_, rfl, World.ownsRow_nil _ _ _ _, Below.refl _ _⟩
 ·have hn1 : ¬ ((n : Int) < 0) := by omega
  have hn2 : (n : Int) > 0 := by omega
  have v0 : IntKind.i64.wrap (n : Int) = (n : Int) := IntWalk.i64_in _ (by omega)
  have hold : (Builtin.firstCells i0.size 0 (.slice none 0 0)).run Tryz.prog w.drew = .ok ([] : List Value).toArray w.drew := run_firstCells_none w.drew i0.size 0 0 0
  have hrz : ∀ ty, (Builtin.append_ #[46, 3] ty #[.slice none 0 0, .int .i64 (n : Int)]).run Tryz.prog w = .ok (.slice (some ⟨w.heap.size, 0, none⟩) n (grownCap w n 0 24)) (w.drew.alloc (.cells (#[] ++ Builtin.zeroCells (Value.agg #[.slice none 0 0]).cells n ++ Builtin.zeroCells (Value.agg #[.slice none 0 0]).cells (grownCap w n 0 24 - n)) 24)) := fun ty => by
   have h := Lib.run_append_grow_zeros w 46 3 ty 24 i0 _ .i64 .i64 Tryz.underlying46 Tryz.underlying3 hi hz0 none 0 0 [] hold n (by omega) (by rw [hz1]; decide) (by omega) (by omega) (by rw [hz2]; omega) (by rw [Nat.zero_add]; exact growslice_fits (by omega) (by rw [hz2]; omega))
   rw [Nat.zero_add] at h
   exact h
  have hG := grownCap_ge w n 0 24
  have hG2 := grownCap_le_maxLen w n 0 24 (by unfold maxLen; omega)
  have HOW := Lib.hid (World.ownsRow_made (e := 24) (base := w.heap.size) (size := 1) w.drew (#[] ++ Builtin.zeroCells (Value.agg #[.slice none 0 0]).cells n ++ Builtin.zeroCells (Value.agg #[.slice none 0 0]).cells (grownCap w n 0 24 - n)) (grownCap w n 0 24) (Nat.le_refl _) hG2 (by simp [Builtin.zeroCells, Value.cells]; omega))
  have HBE := Lib.hid ((Below.refl w.heap.size w).drew.alloc (Nat.le_refl _) (.cells (#[] ++ Builtin.zeroCells (Value.agg #[.slice none 0 0]).cells n ++ Builtin.zeroCells (Value.agg #[.slice none 0 0]).cells (grownCap w n 0 24 - n)) 24))
  unfold maxLen at hG2
  generalize grownCap w n 0 24 = G at *
  generalize (#[] ++ Builtin.zeroCells (Value.agg #[.slice none 0 0]).cells n ++ Builtin.zeroCells (Value.agg #[.slice none 0 0]).cells (G - n)) = cs at *
  clear hold
  go_enter Tryz.func169, Tryz.ntmps169
  go_wp2_with (at_builtin; refine Lib.wpList_append_run _ rfl _ _ _ _ rfl _ _ rfl rfl _ _ (hrz _) ?_)
  all_goals (go_ret; exact ⟨_, rfl, HOW.out, HBE.out⟩)
structure RowCe where
 a : Option Addr
 l : List PR
 c : Nat
instance : Inhabited RowCe := ⟨⟨none, [], 0⟩⟩
/-- Rows of cells, told by a row of slices. -/
structure RowsCe (w : World) (g : Nat) (R : List RowCe) : Prop where
 c : ∀ i (hi : i < R.length), w.cell? ⟨g, i, none⟩ = some (.slice R[i].a R[i].l.length R[i].c)
 v : ∀ r ∈ R, PRN w r.a r.l
theorem RowsCe.keep {w w' : World} {g : Nat} {R : List RowCe} (h : RowsCe w g R) (hb : Below w.heap.size w w') : RowsCe w' g R := ⟨fun i hi => cell_keep hb (h.c i hi), fun r hr => (h.v r hr).keep hb⟩
def lenCe (R : List RowCe) (k : Nat) : Nat := ((R.take k).flatMap (·.l)).length
theorem lenCe_succ {R : List RowCe} {k : Nat} (hk : k < R.length) : lenCe R (k + 1) = lenCe R k + R[k].l.length := by
 unfold lenCe; rw [List.take_succ_eq_append_getElem hk, List.flatMap_append, List.length_append]; simp
theorem flatCe_succ {R : List RowCe} {k : Nat} (hk : k < R.length) : (R.take (k + 1)).flatMap (·.l) = (R.take k).flatMap (·.l) ++ R[k].l := by
 rw [List.take_succ_eq_append_getElem hk, List.flatMap_append]; simp
theorem lenCe_le {R : List RowCe} {k : Nat} : lenCe R k ≤ (R.flatMap (·.l)).length := by
 unfold lenCe
 have h : (R.flatMap (·.l)) = (R.take k).flatMap (·.l) ++ (R.drop k).flatMap (·.l) := by rw [← List.flatMap_append, List.take_append_drop]
 rw [h, List.length_append]; omega
set_option maxRecDepth 100000 in
set_option maxHeartbeats 4000000 in
theorem concatCe_any (g c0 : Nat) (R : List RowCe) (w : World) (hR : RowsCe w g R) (hl : (R.flatMap (·.l)).length ≤ 100000) (hn : R.length ≤ 100) :
    Calls Tryz.prog 121 #[.slice (some ⟨g, 0, none⟩) R.length c0] w fun e w' => ∃ v, e = .returned v ∧ w'.ownsRow w.heap.size 24 1 v (R.flatMap (·.l)).length ((R.flatMap (·.l)).flatMap cellsPR) ∧ Below w.heap.size w w' := by
 obtain ⟨i0, hi0, hz0, hz1, hz2⟩ := info_parts cellInfo
 have HR := Lib.hid hR
 clear hR
 have HL := Lib.hid hl
 clear hl
 go_enter Tryz.func121, Tryz.ntmps121
 go_wp2_with fail
 go_loopw [3, 11] (fun sv iv wr => ∃ k : Nat, k ≤ R.length ∧ iv = .int .i64 (k : Int) ∧ sv = .int .i64 ((lenCe R k : Nat) : Int) ∧ Below w.heap.size w wr) (fun _ iv _ => R.length - (intOf iv).toNat)
 case atStart => exact ⟨0, Nat.zero_le _, rfl, rfl, Below.refl _ _⟩
 case round =>
  obtain ⟨k, hk, rfl, rfl, hb⟩ := hrel
  have HB := Lib.hid hb
  have HRW := Lib.hid (HR.out.keep hb)
  clear hb
  by_cases hlt : k < R.length
  ·have hki : (k : Int) < (R.length : Int) := by omega
   have x0 := HRW.out.c k hlt
   have hle := lenCe_le (R := R) (k := k + 1)
   have HS := Lib.hid (lenCe_succ hlt)
   have HLE := Lib.hid (show lenCe R k + R[k].l.length ≤ 100000 by have := HL.out; rw [lenCe_succ hlt] at hle; omega)
   clear hle
   generalize R[k] = r at *
   obtain ⟨ra, rl, rc⟩ := r
   simp only at x0 HS HLE
   generalize hm : lenCe R k = m at HS HLE ⊢
   have v1 : IntKind.i64.wrap ((m : Int) + (rl.length : Int)) = ((m + rl.length : Nat) : Int) := by rw [← Int.natCast_add]; exact IntWalk.i64_in _ (by have := HLE.out; omega)
   have hneg : ¬ ((m + rl.length : Nat) : Int) < 0 := by omega
   clear hm
   go_wp2_with fail
   go_roundw
   case rel => exact ⟨k + 1, by omega, by go_num, by rw [HS.out, Int.natCast_add], HB.out⟩
   case measure => first | (simp [intOf]; done) | (simp [intOf]; omega)
  ·obtain rfl : k = R.length := by omega
   have hki : ¬ ((R.length : Nat) : Int) < ((R.length : Nat) : Int) := by omega
   have hle := lenCe_le (R := R) (k := R.length)
   have HG := Lib.hid (growCe_any (lenCe R R.length) wr (by have := HL.out; omega))
   clear hle
   generalize lenCe R R.length = N at *
   go_wp2_with (go_at_call 169; refine HG.out.mono ?_; rintro e w1 ⟨v, rfl, ho, hb⟩; have HO1 := Lib.hid ho; have HB1 := Lib.hid hb; clear ho hb)
   have HBW1 := Lib.hid (HB.out.trans (HB1.out.mono HB.out.size))
   go_loopw [6, 27] (fun v iv wr => ∃ k : Nat, k ≤ R.length ∧ iv = .int .i64 (k : Int) ∧ wr.ownsRow w.heap.size 24 1 v ((R.take k).flatMap (·.l)).length (((R.take k).flatMap (·.l)).flatMap cellsPR) ∧ Below w.heap.size w wr) (fun _ iv _ => R.length - (intOf iv).toNat)
   case atStart => exact ⟨0, Nat.zero_le _, rfl, own_mono HO1.out HB.out.size, HBW1.out⟩
   case round =>
    obtain ⟨k, hk, rfl, hown, hb⟩ := hrel
    have HO := Lib.hid hown
    have HB2 := Lib.hid hb
    have HRW2 := Lib.hid (HR.out.keep hb)
    obtain ⟨va, vc, rfl, -, -⟩ := own_slice hown
    have hz := hb.size
    clear hb hown
    by_cases hlt : k < R.length
    ·have hki2 : (k : Int) < (R.length : Int) := by omega
     have x0 := HRW2.out.c k hlt
     have hle := lenCe_le (R := R) (k := k + 1)
     have HF := Lib.hid (flatCe_succ hlt)
     have HPV := Lib.hid (HRW2.out.v _ (List.getElem_mem hlt))
     have HLE := Lib.hid (show ((R.take k).flatMap (·.l)).length + R[k].l.length ≤ 1000000 by have := HL.out; rw [lenCe_succ hlt] at hle; unfold lenCe at hle; omega)
     clear hle
     generalize R[k] = r at *
     obtain ⟨ra, rl, rc⟩ := r
     simp only at x0 HF HLE HPV
     go_wp2_with (at_builtin; refine wpList_append_rows cellsPR_len cellsPR_one (by decide) rfl _ _ 46 rfl w.heap.size 24 i0 _ 24 Tryz.underlying46 hi0 hz0 hz1 hz2 rfl (by decide) (.slice va ((R.take k).flatMap (·.l)).length vc) _ _ rfl HO.out ra rl rc rfl (HPV.out) HLE.out hz ?_; intro v' w5 ho5 hg5 ha5; have HO5 := Lib.hid ho5; have HB5 := Lib.hid (below_grown HB2.out hg5 hz fun k hk => (own_lt HO.out hk).1); clear ho5 hg5 ha5)
     go_roundw
     case rel => exact ⟨k + 1, by omega, by go_num, by rw [HF.out, List.flatMap_append, List.length_append]; exact HO5.out, HB5.out⟩
     case measure => first | (simp [intOf]; done) | (simp [intOf]; omega)
    ·obtain rfl : k = R.length := by omega
     rw [List.take_length] at HO
     rw [List.take_length]
     go_wp2_with fail
     go_ret
     exact ⟨.slice va (R.flatMap (·.l)).length vc, by simp, by have := HO.out; simpa using this, HB2.out⟩
theorem fldSol (a : Option Addr) (n c : Nat) (w : World) : (Instr.field 48 (.agg #[.slice a n c]) 0).run Tryz.prog w = .ok (.slice a n c) w := by kernel_rfl
set_option maxRecDepth 100000 in
set_option maxHeartbeats 8000000 in
theorem copied_any (cells : List Cell) (a : Option Addr) (c : Nat) (w : World) (hcl : cells.length ≤ 1000) (hv : Cells.V w a cells) (hpl : ∀ x ∈ cells, x.planes.length ≤ 1000) :
    Calls Tryz.prog 122 #[.agg #[.slice a cells.length c]] w fun e w' => ∃ (va : Option Addr) (vc : Nat) (L : List PR), e = .returned (.agg #[.slice va L.length vc]) ∧ L.map (fun r => (⟨r.ps⟩ : Cell)) = cells ∧ w'.ownsRow w.heap.size 24 1 (.slice va L.length vc) L.length (L.flatMap cellsPR) ∧ (∀ q ∈ L, PRok w' (.slice none 0 0) q ∧ ∀ b, blk q.pa = some b → w.heap.size < b) ∧ Below w.heap.size w w' := by
 have hmix : Tryz.prog.follows .mixedOrders = true := by kernel_rfl
 obtain ⟨i0, hi0, hz0, hz1, hz2⟩ := info_parts cellInfo
 have HV := Lib.hid hv
 have HPL := Lib.hid hpl
 clear hv hpl
 have hfl := fldCell
 go_enter Tryz.func122, Tryz.ntmps122
 go_upto_region 2 with fail
 refine gen_world (fun W => W.cell? ⟨w.heap.size, 0, none⟩ = some (.slice a cells.length c) ∧ (W.cell? ⟨w.heap.size + 1, 0, none⟩ = some (.slice none 0 0) ∧ W.frozen? ⟨w.heap.size + 1, 0, none⟩ = false) ∧ CpSt (w.heap.size + 2) W (.slice none 0 0) [] ∧ Below w.heap.size w W) ⟨by simp [go_sem], ⟨by simp [go_sem], by simp [go_sem]⟩, ⟨by simp [go_sem], by simp [go_sem], ⟨rfl, .inl ⟨rfl, rfl⟩⟩, fun q hq => absurd hq (by simp)⟩, by repeat (first | (with_reducible assumption) | exact Below.refl _ _ | (refine Below.setCell ?_ (by first | omega | (simp; omega) | (simp; done)) _) | (refine Below.alloc ?_ (by first | omega | (simp; omega) | (simp; done)) _) | (refine Below.drew ?_))⟩ ?_
 rintro W ⟨b0, ⟨r0, rf0⟩, hst, hb⟩
 have HST := Lib.hid hst
 have HB0 := Lib.hid hb
 have HR := Lib.hid (And.intro r0 rf0)
 clear hst hb r0 rf0
 obtain ⟨gw, hgw⟩ : ∃ g, g = w.heap.size := ⟨_, rfl⟩
 have HGW := Lib.hid hgw
 rw [← hgw] at HST HR b0 ⊢
 clear hgw
 simp only [Nat.add_assoc, Nat.reduceAdd]
 go_wp2_with fail
 go_loopw [9] (fun iv wr => ∃ (k : Nat) (v : Value) (L : List PR), k ≤ cells.length ∧ iv = .int .i64 (k : Int) ∧ CpSt (gw + 2) wr v L ∧ Hid (L.map (fun r => (⟨r.ps⟩ : Cell)) = cells.take k) ∧ Hid (∀ r ∈ L, ∀ b, blk r.pa = some b → gw + 2 < b) ∧ (wr.cell? ⟨gw + 1, 0, none⟩ = some (.slice none 0 0) ∧ wr.frozen? ⟨gw + 1, 0, none⟩ = false) ∧ Below w.heap.size w wr) (fun iv _ => cells.length - (intOf iv).toNat)
 case atStart => exact ⟨0, _, [], Nat.zero_le _, rfl, HST.out, Lib.hid rfl, Lib.hid (fun r hr => absurd hr (by simp)), HR.out, HB0.out⟩
 case round =>
  obtain ⟨k, v, L, hk, rfl, hst, HL, HOF, ⟨r0, rf0⟩, hb⟩ := hrel
  have HS := Lib.hid hst
  have HB := Lib.hid hb
  have HRR := Lib.hid (And.intro r0 rf0)
  obtain ⟨va, vc, rfl, -, -⟩ := own_slice hst.o
  have hll : L.length = k := by have := congrArg List.length HL.out; rw [List.length_map, List.length_take] at this; omega
  have HLL := Lib.hid hll
  have hz := HB.out.size
  by_cases hlt : k < cells.length
  ·have hki : (k : Int) < (cells.length : Int) := by omega
   obtain ⟨bb, off, rfl, hat⟩ := (HV.out.keep hb).at_ hlt
   have HTK := Lib.hid (show cells.take (k + 1) = cells.take k ++ [cells[k]] from List.take_succ_eq_append_getElem hlt)
   have HPK := Lib.hid (HPL.out _ (List.getElem_mem hlt))
   generalize cells[k] = x at *
   obtain ⟨xa, xc, x0, xv, -⟩ := hat
   rw [Nat.mul_one] at x0
   have HXV := Lib.hid xv
   have s0 := hst.c
   clear hst hb xv hll r0 rf0
   go_upto_region 5 with fail
   refine gen_world (fun W4 => Below wr.heap.size wr W4 ∧ W4.cell? ⟨wr.heap.size, 0, none⟩ = some (.slice xa x.planes.length xc)) ⟨(Below.refl _ _).alloc (Nat.le_refl _) _, by simp [go_sem]⟩ ?_
   rintro W4 ⟨hb4, y0⟩
   have HB4 := Lib.hid hb4
   have HS4 := Lib.hid (HS.out.keep hb4)
   have HXV4 := Lib.hid (HXV.out.keep hb4)
   have s4 := HS4.out.c
   have HGS := Lib.hid (show gw + 2 < W4.heap.size from HS4.out.lt)
   generalize wr.heap.size = g5 at y0 ⊢
   clear s0 x0 hb4
   have kx0 : ∀ y : KW (fun W' => Below W4.heap.size W4 W'), (y.w.cell? ⟨gw + 2, 0, none⟩ = some (.slice va L.length vc) ∧ y.w.cell? ⟨g5, 0, none⟩ = some (.slice xa x.planes.length xc)) := fun y => ⟨cell_keep y.ok s4, cell_keep y.ok y0⟩
   haveI n1 : Nonempty (KW (fun W' => Below W4.heap.size W4 W')) := ⟨⟨W4, Below.refl _ _⟩⟩
   refine wp_region_tree (fun w' => ∃ y : KW (fun W' => Below W4.heap.size W4 W'), w' = y.w) 7 (.take 0 (.take 1 (.take 2 (.take 3 (.one 4 (.take 5 (.one 6 .done))))))) hmix (by kernel_rfl) (KW.mk' (Below.refl _ _).drew) ?_
   have HC0 := Lib.hid (show Below W4.heap.size W4 W4.drew from (Below.refl _ _).drew)
   generalize W4.drew = ww0 at *
   repeat (refine wpTree_take ?_; simp only [nthOp]; (first | go_big_quiet_step (fail) | quiet_step (fail)); refine wpQuiet_nil ?_)
   refine wpTree_one ?_
   simp only [nthOp]
   have HCL := Lib.hid (clone_any x.planes xa xc ww0 (by have := HPK.out; omega) (HXV4.out.keep HC0.out))
   go_wp2_with (go_at_call 170; refine HCL.out.mono ?_; rintro e ww2 ⟨qa, qc, rfl, ho, hb⟩; have HO2 := Lib.hid ho; have HC2 := Lib.hid (HC0.out.trans (hb.mono HC0.out.size)); clear ho hb)
   refine One_mk (KW.mk' HC2.out) ?_
   (refine wpTree_take ?_; simp only [nthOp]; (first | go_big_quiet_step (fail) | quiet_step (fail)); refine wpQuiet_nil ?_)
   refine wpTree_one ?_
   simp only [nthOp]
   go_wp2_with fail
   have HC3 := Lib.hid (HC2.out.alloc HC2.out.size (.cells #[.slice qa x.planes.length qc] 24))
   have HO3 := Lib.hid (own_keep HO2.out ((Below.refl ww2.heap.size ww2).alloc (Nat.le_refl _) (.cells #[.slice qa x.planes.length qc] 24)))
   have HNW := Lib.hid (show ∀ j u, (cellsPR ⟨x.planes, qa, qc⟩)[j]? = some u → (ww2.alloc (.cells #[.slice qa x.planes.length qc] 24)).cell? ((⟨ww2.heap.size, 0, none⟩ : Addr).add j) = some u from news_of (cellsPR ⟨x.planes, qa, qc⟩) 24 ww2 _ rfl)
   refine One_mk (KW.mk' HC3.out) ?_
   generalize (ww2.alloc (.cells #[.slice qa x.planes.length qc] 24)) = ww3 at *
   generalize ww2.heap.size = g2 at *
   have HS3 := Lib.hid (HS4.out.keep HC3.out)
   have HXW := Lib.hid (pls_wf HXV.out)
   have HQV := Lib.hid (ownPlV HXW.out HO3.out)
   have HG0 := Lib.hid HC0.out.size
   have HQB := Lib.hid (show ∀ b, blk qa = some b → W4.heap.size ≤ b ∧ b < ww3.heap.size from fun b e => ⟨Nat.le_trans HG0.out (own_blk_lt HO3.out b e).1, (own_blk_lt HO3.out b e).2⟩)
   have HPR := Lib.hid (show PRok ww3 (.slice va L.length vc) ⟨x.planes, qa, qc⟩ from ⟨HQV.out, (own_len_le HO3.out).2, by obtain ⟨a1, c1, e1, -, h1⟩ := own_slice HO3.out; injection e1 with e2 e3 e4; rw [e4]; exact h1, fun b e => ⟨(HQB.out b e).2, fun e' => by have h1 := (own_lt HS4.out.o e').2; have h2 := (HQB.out b e).1; omega⟩⟩)
   have HNE := Lib.hid (show ∀ b, blk qa = some b → gw + 2 < b from fun b e => by have h2 := (HQB.out b e).1; have := HGS.out; omega)
   have HN3 := Lib.hid (show gw + 2 + 1 ≤ ww3.heap.size by have := HC3.out.size; have := HGS.out; omega)
   have HB3 := Lib.hid (show Below w.heap.size w ww3 from HB.out.trans ((HB4.out.trans (HC3.out.mono HB4.out.size)).mono hz))
   have HR3 := Lib.hid (show ww3.cell? ⟨gw + 1, 0, none⟩ = some (.slice none 0 0) ∧ ww3.frozen? ⟨gw + 1, 0, none⟩ = false from ⟨cell_keep (HB4.out.trans (HC3.out.mono HB4.out.size)) HRR.out.1, frozen_keep (HB4.out.trans (HC3.out.mono HB4.out.size)) (block_lt_of_cell HRR.out.1) HRR.out.2⟩)
   refine wpTree_done ?_
   simp only [List.drop_succ_cons, List.drop_zero]
   go_wp2_with ((at_builtin; refine wpList_append_here _ rfl _ _ 46 rfl (gw + 2 + 1) 24 i0 (.agg #[.slice none 0 0]) 1 24 Tryz.underlying46 hi0 hz0 hz1 hz2 rfl (by decide) (.slice va L.length vc) L.length (L.flatMap cellsPR) rfl HS3.out.o ⟨g2, 0, none⟩ 1 1 (cellsPR ⟨x.planes, qa, qc⟩) rfl rfl HNW.out (cellsPR_one _) (by decide) (by have := HLL.out; simp only [maxLen]; omega) (by have := HLL.out; omega) HN3.out ?_; intro v' w5 ho hg hat; obtain ⟨va', vc', rfl, -, -⟩ := own_slice ho; have HO5 := Lib.hid (show w5.ownsRow (gw + 2 + 1) 24 1 (.slice va' (L.length + 1) vc') (L ++ [(⟨x.planes, qa, qc⟩ : PR)]).length ((L ++ [(⟨x.planes, qa, qc⟩ : PR)]).flatMap cellsPR) by rw [List.flatMap_append, List.length_append]; simpa using ho); have HS5 := Lib.hid (HS3.out.put hg hat HPR.out (fun b e => by have := HNE.out b e; omega) (fun r hr b e => by have := HOF.out r hr b e; omega) HO5.out); have HOK := Lib.hid (show (Value.slice va L.length vc).ownBlock ≠ some (gw + 2) from fun e => by have := (own_lt HS3.out.o e).1; omega); have m0 := grown_cell hg HS3.out.c HOK.out; have mf := (grown_frozen hg HS3.out.c HOK.out).trans HS3.out.f; have HR5 := Lib.hid (show w5.cell? ⟨gw + 1, 0, none⟩ = some (.slice none 0 0) ∧ w5.frozen? ⟨gw + 1, 0, none⟩ = false from ⟨grown_cell hg HR3.out.1 fun e => by have h9 := (own_lt HS3.out.o e).1; simp only at h9; omega, (grown_frozen hg HR3.out.1 fun e => by have h9 := (own_lt HS3.out.o e).1; simp only at h9; omega).trans HR3.out.2⟩); have HB5 := Lib.hid (below_grown HB3.out hg HB3.out.size fun j hj => by have := (own_lt HS3.out.o hj).1; have := HGW.out; omega); clear ho hg hat))
   refine NP_mk ?_
   have HL2 := Lib.hid (show (L ++ [(⟨x.planes, qa, qc⟩ : PR)]).map (fun r => (⟨r.ps⟩ : Cell)) = cells.take (k + 1) by rw [List.map_append, HL.out, HTK.out]; rfl)
   have HOF2 := Lib.hid (show ∀ r ∈ L ++ [(⟨x.planes, qa, qc⟩ : PR)], ∀ b, blk r.pa = some b → gw + 2 < b from fun r hr b e => by
    rcases List.mem_append.1 hr with hr | hr
    ·exact HOF.out r hr b e
    ·simp only [List.mem_singleton] at hr; subst hr; exact HNE.out b e)
   go_wp2_with fail
   go_roundw
   case rel =>
    refine ⟨k + 1, _, _, by omega, by go_num, HS5.out, HL2, HOF2, ⟨?_, ?_⟩, HB5.out.setCell (by have := HGW.out; simp only; omega) _⟩
    ·rw [cell_set_other (by simp only; omega)]; exact HR5.out.1
    ·rw [frozen_set]; exact HR5.out.2
   case measure => first | (simp [intOf]; done) | (simp [intOf]; omega)
  ·obtain rfl : k = cells.length := by omega
   have hki : ¬ ((cells.length : Nat) : Int) < ((cells.length : Nat) : Int) := by omega
   have HLE := Lib.hid (show L.map (fun r => (⟨r.ps⟩ : Cell)) = cells by rw [HL.out, List.take_length])
   have s0 := hst.c
   clear hst hb hll
   go_wp2_with fail
   refine bodyPost_ret (v := .agg #[.slice va L.length vc]) ?_ ?_ ?_
   ·simp [results, Tryz.results122, go_sem, got1 r0]
   ·rfl
   ·have hne : (Value.slice va L.length vc).ownBlock ≠ some (gw + 1) := fun e => by have := (own_lt HS.out.o e).1; omega
    have ho := HS.out.o.kept (grownBy_set (a := ⟨gw + 1, 0, none⟩) (u := .slice va L.length vc)) (.inr hne)
    refine ⟨va, vc, L, rfl, HLE.out, own_mono ho (by have := HGW.out; omega), fun q hq => ?_, HB.out.setCell (by have := HGW.out; simp only; omega) _⟩
    have h := HS.out.p q hq
    exact ⟨⟨h.pls.grown (grownBy_set (a := ⟨gw + 1, 0, none⟩)) fun b e e' => by injection e' with e'; have := HOF.out q hq b e; simp only at e'; omega, h.len, h.cap, fun b e => ⟨by rw [size_set]; exact (h.pb b e).1, fun e' => by cases e'⟩⟩, fun b e => by have := HOF.out q hq b e; have := HGW.out; omega⟩
def joinE (A B : List Cell) : Int := if twoE A B ≠ 0 then twoE A B else if 100 < A.length + B.length then 8 else 0
def joinV (A B : List Cell) : List Cell := if joinE A B = 0 then A ++ B else []
set_option maxRecDepth 100000 in
set_option maxHeartbeats 8000000 in
theorem join_any (ca cb : List Cell) (a : Option Addr) (c : Nat) (b : Option Addr) (d : Nat) (w : World) (hcl : ca.length ≤ 1000) (hv : Cells.V w a ca) (hpl : ∀ x ∈ ca, x.planes.length ≤ 1000)
    (hdl : cb.length ≤ 1000) (hu : Cells.V w b cb) (hql : ∀ x ∈ cb, x.planes.length ≤ 1000) :
    Calls Tryz.prog 61 #[.agg #[.slice a ca.length c], .agg #[.slice b cb.length d]] w fun e w' => ∃ va vc, e = .returned (.tuple #[.agg #[.slice va (joinV ca cb).length vc], .int .i64 (joinE ca cb)]) ∧ Cells.V w' va (joinV ca cb) ∧ Below w.heap.size w w' := by
 have hmix : Tryz.prog.follows .mixedOrders = true := by kernel_rfl
 have HT := Lib.hid (fun W (h : Below w.heap.size w W) => two_any ca cb a c b d W (by omega) (hv.keep h) (fun x hx => by have := hpl x hx; omega) (by omega) (hu.keep h) (fun x hx => by have := hql x hx; omega))
 have HC1 := Lib.hid (fun W (h : Below w.heap.size w W) => copied_any ca a c W hcl (hv.keep h) hpl)
 have HC2 := Lib.hid (fun W (h : Below w.heap.size w W) => copied_any cb b d W hdl (hu.keep h) hql)
 have HJE := Lib.hid (show joinE ca cb = if twoE ca cb ≠ 0 then twoE ca cb else if 100 < ca.length + cb.length then 8 else 0 from rfl)
 have HJV := Lib.hid (show joinV ca cb = if joinE ca cb = 0 then ca ++ cb else [] from rfl)
 generalize joinV ca cb = V at *
 generalize joinE ca cb = M at *
 clear hv hu hpl hql
 go_enter Tryz.func61, Tryz.ntmps61
 go_upto_region 1 with fail
 refine gen_world (fun W => W.cell? ⟨w.heap.size, 0, none⟩ = some (.slice a ca.length c) ∧ W.cell? ⟨w.heap.size + 1, 0, none⟩ = some (.slice b cb.length d) ∧ (W.cell? ⟨w.heap.size + 2, 0, none⟩ = some (.slice none 0 0) ∧ W.frozen? ⟨w.heap.size + 2, 0, none⟩ = false) ∧ Below w.heap.size w W) ⟨by simp [go_sem], by simp [go_sem], ⟨by simp [go_sem], by simp [go_sem]⟩, by repeat (first | (with_reducible assumption) | exact Below.refl _ _ | (refine Below.setCell ?_ (by first | omega | (simp; omega) | (simp; done)) _) | (refine Below.alloc ?_ (by first | omega | (simp; omega) | (simp; done)) _) | (refine Below.drew ?_))⟩ ?_
 rintro W ⟨b0, b1, ⟨r0, rf0⟩, hb⟩
 have HB0 := Lib.hid hb
 have HTW := Lib.hid (HT.out W hb)
 obtain ⟨gw, hgw⟩ : ∃ g, g = w.heap.size := ⟨_, rfl⟩
 have HGW := Lib.hid hgw
 rw [← hgw] at b0 b1 r0 rf0 ⊢
 simp only [Nat.add_assoc, Nat.reduceAdd]
 clear hgw hb
 go_upto_region 2 with (go_at_call 89; refine HTW.out.mono ?_; rintro e w1 ⟨x, y, rfl, hb, hr⟩; have HB1 := Lib.hid hb; have b0 := cell_keep hb b0; have b1 := cell_keep hb b1; have rf0 := frozen_keep hb (block_lt_of_cell r0) rf0; have r0 := cell_keep hb r0; obtain ⟨xa, xn, xc, ya, yn, yc, rfl, rfl⟩ := hr.shape; clear hb hr)
 have HBW1 := Lib.hid (HB0.out.trans (HB1.out.mono HB0.out.size))
 by_cases h0 : twoE ca cb = 0
 ·rw [h0]
  have hs : IntKind.i64.wrap ((ca.length : Int) + (cb.length : Int)) = (ca.length : Int) + (cb.length : Int) := IntWalk.i64_in _ (by omega)
  by_cases h1 : 100 < ca.length + cb.length
  ·have h1i : (100 : Int) < (ca.length : Int) + (cb.length : Int) := by omega
   have HM3 := Lib.hid (show M = 8 by rw [HJE.out, if_neg (by simpa using h0), if_pos h1])
   have HV3 := Lib.hid (show V = [] by rw [HJV.out, HM3.out]; rfl)
   clear h0 h1
   go_wp2_with fail
   refine bodyPost_ret (v := .tuple #[.agg #[.slice none 0 0], .int .i64 8]) ?_ ?_ ?_
   ·simp [results, Tryz.results61, go_sem, got1 r0]
   ·rfl
   ·rw [HM3.out, HV3.out]
    exact ⟨none, 0, rfl, fun hne => absurd rfl hne, HBW1.out.setCell (by have := HGW.out; simp only; omega) _⟩
  ·have h1i : ¬ (100 : Int) < (ca.length : Int) + (cb.length : Int) := by omega
   have HM3 := Lib.hid (show M = 0 by rw [HJE.out, if_neg (by simpa using h0), if_neg h1])
   have HV3 := Lib.hid (show V = ca ++ cb by rw [HJV.out, HM3.out]; rfl)
   have HSM := Lib.hid (show ca.length + cb.length ≤ 100 by omega)
   clear h0 h1
   go_upto_region 6 with fail
   have hfl := fldSol
   have kx0 : ∀ y : KW (fun W' => Below w1.heap.size w1 W'), (y.w.cell? ⟨gw, 0, none⟩ = some (.slice a ca.length c) ∧ y.w.cell? ⟨gw + 1, 0, none⟩ = some (.slice b cb.length d)) := fun y => ⟨cell_keep y.ok b0, cell_keep y.ok b1⟩
   haveI n1 : Nonempty (KW (fun W' => Below w1.heap.size w1 W')) := ⟨⟨w1, Below.refl _ _⟩⟩
   refine wp_region_tree (fun w' => ∃ y : KW (fun W' => Below w1.heap.size w1 W'), w' = y.w) 6 (.take 0 (.take 3 (.one 1 (.take 2 (.one 4 (.take 5 .done)))))) hmix (by kernel_rfl) (KW.mk' (Below.refl _ _).drew) ?_
   have HC0 := Lib.hid (show Below w1.heap.size w1 w1.drew from (Below.refl _ _).drew)
   generalize w1.drew = ww0 at *
   repeat (refine wpTree_take ?_; simp only [nthOp]; (first | go_big_quiet_step (fail) | quiet_step (fail)); refine wpQuiet_nil ?_)
   refine wpTree_one ?_
   simp only [nthOp]
   have HQ1 := Lib.hid (HC1.out ww0 (HBW1.out.trans (HC0.out.mono HBW1.out.size)))
   go_wp2_with (go_at_call 122; refine HQ1.out.mono ?_; rintro e ww1 ⟨pa, pc, L1, rfl, hl1, ho1, hp1, hb⟩; have HL1 := Lib.hid hl1; have HO1 := Lib.hid ho1; have HP1 := Lib.hid hp1; have HK1 := Lib.hid (HC0.out.trans (hb.mono HC0.out.size)); clear hl1 ho1 hp1 hb)
   refine One_mk (KW.mk' HK1.out) ?_
   (refine wpTree_take ?_; simp only [nthOp]; (first | go_big_quiet_step (fail) | quiet_step (fail)); refine wpQuiet_nil ?_)
   refine wpTree_one ?_
   simp only [nthOp]
   have HQ2 := Lib.hid (HC2.out ww1 (HBW1.out.trans (HK1.out.mono HBW1.out.size)))
   go_wp2_with (go_at_call 122; refine HQ2.out.mono ?_; rintro e ww2 ⟨qa, qc, L2, rfl, hl2, ho2, hp2, hb⟩; have HL2 := Lib.hid hl2; have HO2 := Lib.hid ho2; have HP2 := Lib.hid hp2; have HK12 := Lib.hid hb; have HK2 := Lib.hid (HK1.out.trans (hb.mono HK1.out.size)); clear hl2 ho2 hp2 hb)
   refine One_mk (KW.mk' HK2.out) ?_
   (refine wpTree_take ?_; simp only [nthOp]; (first | go_big_quiet_step (fail) | quiet_step (fail)); refine wpQuiet_nil ?_)
   refine wpTree_done ?_
   simp only [List.drop_succ_cons, List.drop_zero]
   have HN1 := Lib.hid (show L1.length = ca.length by have := congrArg List.length HL1.out; simpa using this)
   have HN2 := Lib.hid (show L2.length = cb.length by have := congrArg List.length HL2.out; simpa using this)
   have HAL := Lib.hid ((Below.refl ww2.heap.size ww2).alloc (Nat.le_refl _) (.cells #[.slice pa L1.length pc, .slice qa L2.length qc] 46))
   have HCC := Lib.hid (concatCe_any ww2.heap.size 2 [⟨pa, L1, pc⟩, ⟨qa, L2, qc⟩] (ww2.alloc (.cells #[.slice pa L1.length pc, .slice qa L2.length qc] 46)) ⟨fun i hi => by
    match i, hi with
    | 0, _ => simp [go_sem]
    | 1, _ => simp [go_sem], fun r hr => by
    simp only [List.mem_cons, List.not_mem_nil, or_false] at hr
    rcases hr with rfl | rfl
    ·exact (ownPRN HO1.out).keep (HK12.out.trans (HAL.out.mono HK12.out.size))
    ·exact (ownPRN HO2.out).keep HAL.out⟩ (by have := HN1.out; have := HN2.out; have := HSM.out; simp; omega) (by simp))
   simp only [List.flatMap_cons, List.flatMap_nil, List.append_nil, List.length_cons, List.length_nil, Nat.zero_add, Nat.reduceAdd] at HCC
   have r2 := cell_keep HK2.out r0
   have rf2 := frozen_keep HK2.out (block_lt_of_cell r0) rf0
   go_wp2_with (go_at_call 121; refine HCC.out.mono ?_; rintro e ww4 ⟨v, rfl, ho, hb⟩; obtain ⟨va, vc, rfl, -, -⟩ := own_slice ho; have HO4 := Lib.hid ho; have HB4 := Lib.hid (HAL.out.trans (hb.mono HAL.out.size)); have r4 := cell_keep HB4.out r2; have rf4 := frozen_keep HB4.out (block_lt_of_cell r2) rf2; clear ho hb)
   refine NP_mk ?_
   have HB24 := Lib.hid (show Below w1.heap.size w1 ww4 from HK2.out.trans (HB4.out.mono HK2.out.size))
   go_wp2_with fail
   refine bodyPost_ret (v := .tuple #[.agg #[.slice va (L1 ++ L2).length vc], .int .i64 0]) ?_ ?_ ?_
   ·simp [results, Tryz.results61, go_sem, got1 r4]
   ·rfl
   ·rw [HM3.out, HV3.out]
    have hgr : gw + 2 < ww2.heap.size := block_lt_of_cell r2
    have ho := HO4.out.kept (grownBy_set (a := ⟨gw + 2, 0, none⟩) (u := .slice va (L1 ++ L2).length vc)) (.inr fun e => by have := (own_lt HO4.out e).1; simp at this; omega)
    have hcv := prs_cells ho (v := .slice none 0 0) fun q hq => by
     have key : PRok ww4 (.slice none 0 0) q ∧ ∀ b, blk q.pa = some b → b ≠ gw + 2 := by
      rcases List.mem_append.1 hq with hq | hq
      ·obtain ⟨h1, h2⟩ := HP1.out q hq
       exact ⟨(h1.keep HK12.out).keep HB4.out, fun b e => by have := h2 b e; have := HC0.out.size; have := block_lt_of_cell r0; simp only at this; omega⟩
      ·obtain ⟨h1, h2⟩ := HP2.out q hq
       exact ⟨h1.keep HB4.out, fun b e => by have := h2 b e; have := HK1.out.size; have := block_lt_of_cell r0; simp only at this; omega⟩
     exact ⟨key.1.pls.grown (grownBy_set (a := ⟨gw + 2, 0, none⟩)) fun b e e' => by injection e' with e'; exact key.2 b e e'.symm, key.1.len, key.1.cap, fun b e => ⟨by rw [size_set]; exact (key.1.pb b e).1, fun e' => by cases e'⟩⟩
    refine ⟨va, vc, ?_, ?_, (HBW1.out.trans (HB24.out.mono HBW1.out.size)).setCell (by have := HGW.out; simp only; omega) _⟩
    ·simp [HN1.out, HN2.out]
    ·rw [List.length_append] at hcv
     rw [show ca ++ cb = (L1 ++ L2).map (fun r => (⟨r.ps⟩ : Cell)) by rw [List.map_append, HL1.out, HL2.out]]; exact hcv
 ·have HM3 := Lib.hid (show M = twoE ca cb by rw [HJE.out, if_pos h0])
  have HV3 := Lib.hid (show V = [] by rw [HJV.out, if_neg (by rw [HM3.out]; exact h0)])
  have hE1 : (twoE ca cb != 0) = true := by simpa using h0
  clear h0
  generalize twoE ca cb = E at *
  go_wp2_with fail
  refine bodyPost_ret (v := .tuple #[.agg #[.slice none 0 0], .int .i64 E]) ?_ ?_ ?_
  ·simp [results, Tryz.results61, go_sem, got1 r0]
  ·rfl
  ·rw [HM3.out, HV3.out]
   exact ⟨none, 0, rfl, fun hne => absurd rfl hne, HBW1.out.setCell (by have := HGW.out; simp only; omega) _⟩
end Go.Proofs.YtbhgkadklklmbaaGreat
/- What is left and what is common are valid cells (plain). -/
set_option linter.unusedVariables false
set_option linter.unusedSimpArgs false
namespace Go.Proofs.YtbhgkadklklmbaaGreat

/-- All points of a valid cell lie in the room. -/
theorem room_pts {l : List Pl} (h : readE l = 0) {o : Co} (ho : InB l o) : inRoomB o = true := by
 have hs := sol_of h
 have hr := List.all_eq_true.1 (readE_zero.1 h).2.2.2.2
 have key : ∀ (F : Pl), F.d = 0 → (∀ c ∈ corn l, -300000 * c.n ≤ EE F c) → -300000 * o.n ≤ EE F o := fun F hF hk => by
  obtain ⟨c', hc', hf⟩ := corn_far hs.ray ho F
  have h1 := hk c' hc'
  have hn := (corn_low c' hc').pos
  have ho1 := ho.1
  unfold FarLe at hf
  have h2 : (-300000 * c'.n) * o.n ≤ EE F c' * o.n := Int.mul_le_mul_of_nonneg_right h1 (by omega)
  have h3 : (-300000 * o.n) * c'.n ≤ EE F o * c'.n := by grind
  exact Int.le_of_mul_le_mul_right h3 hn
 have cs : ∀ c ∈ corn l, (-300000 * c.n ≤ c.x ∧ c.x ≤ 300000 * c.n) ∧ (-300000 * c.n ≤ c.y ∧ c.y ≤ 300000 * c.n) ∧ (-300000 * c.n ≤ c.z ∧ c.z ≤ 300000 * c.n) := fun c hc => by
  have := hr c hc
  unfold inRoomB withinB at this
  simp only [Bool.and_eq_true, decide_eq_true_eq] at this
  omega
 have e : ∀ (a b k : Int) (c : Co), EE ⟨a, b, k, 0⟩ c = a * c.x + b * c.y + k * c.z := fun a b k c => by unfold EE dt nrm vec; simp
 have x1 := key ⟨1, 0, 0, 0⟩ rfl fun c hc => by rw [e]; have := cs c hc; omega
 have x2 := key ⟨-1, 0, 0, 0⟩ rfl fun c hc => by rw [e]; have := cs c hc; omega
 have y1 := key ⟨0, 1, 0, 0⟩ rfl fun c hc => by rw [e]; have := cs c hc; omega
 have y2 := key ⟨0, -1, 0, 0⟩ rfl fun c hc => by rw [e]; have := cs c hc; omega
 have z1 := key ⟨0, 0, 1, 0⟩ rfl fun c hc => by rw [e]; have := cs c hc; omega
 have z2 := key ⟨0, 0, -1, 0⟩ rfl fun c hc => by rw [e]; have := cs c hc; omega
 rw [e] at x1 x2 y1 y2 z1 z2
 unfold inRoomB withinB
 simp only [Bool.and_eq_true, decide_eq_true_eq]
 omega
theorem Good.opp {p : Pl} (h : p.in_ ∧ nrm p ≠ v0) : (opp p).in_ ∧ nrm (opp p) ≠ v0 := by
 obtain ⟨⟨⟨h1, h2, h3⟩, h4⟩, h5⟩ := h
 refine ⟨?_, by rw [nrm_opp]; exact neg_ne h5⟩
 unfold Pl.in_ Vec.in_ nrm Go.Proofs.YtbhgkadklklmbaaGreat.opp at *
 simp only at *
 omega
theorem Good.nf {l : List Pl} (h : Good l) : Good (nf l) := h.nor _
theorem good_cutRK {l ds : List Pl} (hl : Good l) (hd : Good ds) {n : Nat} (hn : n ≤ ds.length) : ∀ q ∈ cutRK l ds n, Good q := by
 intro q hq
 unfold cutRK at hq
 obtain ⟨i, hi, hq⟩ := List.mem_flatMap.1 hq
 rw [List.mem_range] at hi
 split at hq
 ·rw [List.mem_singleton] at hq
  subst hq
  refine Good.nf fun p hp => ?_
  rcases (mem_part (show i < ds.length by omega)).1 hp with h | h | h
  ·exact hl p h
  ·exact hd p (List.mem_of_mem_take h)
  ·rw [h]; exact Good.opp (hd _ (List.getElem_mem _))
 ·simp at hq
/-- Planes that can be written down, and few of them. -/
def Few16 (q : List Pl) : Prop := Good q ∧ q.length ≤ 16
theorem few_pieces {n : Nat} : ∀ {y ps r : List (List Pl)}, (∀ d ∈ y, Good d) → (∀ p ∈ ps, Few16 p) → piecesR n ps y = some r → ∀ q ∈ r, Few16 q
 | [], ps, r, _, hp, h => by unfold piecesR at h; cases h; exact hp
 | d :: y, ps, r, hd, hp, h => by
  unfold piecesR at h
  split at h
  ·cases h
  ·rename_i ht
   refine few_pieces (fun e he => hd e (List.mem_cons_of_mem _ he)) (fun q hq => ⟨?_, ?_⟩) h
   ·unfold stepR at hq
    obtain ⟨p, hpp, hq⟩ := List.mem_flatMap.1 hq
    unfold step1R at hq
    split at hq
    ·exact good_cutRK (hp p hpp).1 (hd d List.mem_cons_self).nf (Nat.le_refl _) q hq
    ·rw [List.mem_singleton] at hq; subst hq; exact (hp _ hpp).1
   ·unfold tooMany at ht
    simp only [Bool.or_eq_true, decide_eq_true_eq, List.any_eq_true, not_or, not_exists, not_and] at ht
    have := ht.2 q hq; omega
theorem few_left {y : List (List Pl)} (hy : ∀ d ∈ y, Good d) : ∀ {x out r : List (List Pl)}, (∀ c ∈ x, Few16 c) → (∀ q ∈ out, Few16 q) → leftR y out x = some r → ∀ q ∈ r, Few16 q
 | [], out, r, _, ho, h => by unfold leftR at h; cases h; exact ho
 | c :: x, out, r, hx, ho, h => by
  unfold leftR at h
  split at h
  ·cases h
  ·rename_i r1 h1
   refine few_left hy (fun e he => hx e (List.mem_cons_of_mem _ he)) (fun q hq => ?_) h
   rcases List.mem_append.1 hq with hq | hq
   ·exact ho q hq
   ·refine few_pieces hy (fun p hp => ?_) h1 q hq
    rw [List.mem_singleton] at hp; subst hp
    have := hx c List.mem_cons_self
    exact ⟨this.1.nf, Nat.le_trans (nor_len _ _) this.2⟩
theorem few_of {l : List Pl} (h : readE l = 0) : Few16 l := ⟨good_of (readE_zero.1 h).2.1, (readE_zero.1 h).1⟩
theorem read_of {q : List Pl} (hf : Few16 q) (hs : Sol q) (hr : ∀ o, InB q o → inRoomB o = true) : readE q = 0 :=
 readE_zero.2 ⟨hf.2, chkPs_zero.2 fun p hp => chkP_zero.2 (hf.1 p hp), bounM_of hs.ray, hs.ins, List.all_eq_true.2 fun c hc => hr c (corn_inB hc)⟩
/-- What is left of a valid solid is valid. -/
theorem left_val {x y l : List (List Pl)} (hx : ∀ c ∈ x, readE c = 0) (hy : ∀ d ∈ y, readE d = 0) (h : leftR y [] x = some l) : ∀ q ∈ l, readE q = 0 := fun q hq => by
 have ok := left_all (fun c hc => sol_of (hx c hc)) (fun d hd => sol_of (hy d hd)) h
 obtain ⟨p, hp, hsub⟩ := ok.sub q hq
 exact read_of (few_left (fun d hd => (few_of (hy d hd)).1) (fun c hc => few_of (hx c hc)) (fun q hq => by simp at hq) h q hq) (ok.sol q hq) fun o ho => room_pts (hx p hp) (hsub o ho)
theorem few_meetK {c : List Pl} (hc : Good c) : ∀ {y out r : List (List Pl)}, (∀ d ∈ y, Good d) → (∀ q ∈ out, Few16 q) → out.length ≤ 100 → meetRK c out y = some r → (∀ q ∈ r, Few16 q) ∧ r.length ≤ 100
 | [], out, r, _, ho, hl, h => by unfold meetRK at h; cases h; exact ⟨ho, hl⟩
 | d :: y, out, r, hd, ho, hl, h => by
  unfold meetRK at h
  split at h
  ·split at h
   ·cases h
   ·rename_i ht
    refine few_meetK hc (fun e he => hd e (List.mem_cons_of_mem _ he)) (fun q hq => ?_) (by simp; omega) h
    rcases List.mem_append.1 hq with hq | hq
    ·exact ho q hq
    ·rw [List.mem_singleton] at hq; subst hq
     exact ⟨(hc.append (hd d List.mem_cons_self)).nf, by omega⟩
  ·exact few_meetK hc (fun e he => hd e (List.mem_cons_of_mem _ he)) ho hl h
theorem few_meet {y : List (List Pl)} (hy : ∀ d ∈ y, Good d) : ∀ {x out r : List (List Pl)}, (∀ c ∈ x, Good c) → (∀ q ∈ out, Few16 q) → out.length ≤ 100 → meetR y out x = some r → (∀ q ∈ r, Few16 q) ∧ r.length ≤ 100
 | [], out, r, _, ho, hl, h => by unfold meetR at h; cases h; exact ⟨ho, hl⟩
 | c :: x, out, r, hx, ho, hl, h => by
  unfold meetR at h
  split at h
  ·cases h
  ·rename_i r1 h1
   obtain ⟨h2, h3⟩ := few_meetK (hx c List.mem_cons_self) hy ho hl h1
   exact few_meet hy (fun e he => hx e (List.mem_cons_of_mem _ he)) h2 h3 h
/-- What is common to valid solids is valid. -/
theorem meet_val {x y l : List (List Pl)} (hx : ∀ c ∈ x, readE c = 0) (hy : ∀ d ∈ y, readE d = 0) (h : meetR y [] x = some l) : (∀ q ∈ l, readE q = 0) ∧ l.length ≤ 100 := by
 have hf := few_meet (fun d hd => (few_of (hy d hd)).1) (fun c hc => (few_of (hx c hc)).1) (fun q hq => by simp at hq) (by simp) h
 refine ⟨fun q hq => ?_, hf.2⟩
 rcases (meetR_mem h q).1 hq with hq' | ⟨c, hc, d, hd, hcom, rfl⟩
 ·simp at hq'
 ·have hs := com_sol (sol_of (hx c hc)) (sol_of (hy d hd)) hcom
  exact read_of (hf.1 _ hq) (nf_sol hs) fun o ho => room_pts (hx c hc) ⟨ho.1, fun p hp => ((nf_body hs).1 ho).2 p (List.mem_append.2 (.inl hp))⟩
end Go.Proofs.YtbhgkadklklmbaaGreat
