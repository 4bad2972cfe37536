/- The common cells of two solids, as the program says it; the cells of a new solid. -/
import Derived.Test.YtbhgkadklklmbaaGreatQP
import Derived.Test.YtbhgkadklklmbaaGreatQI
import Derived.Test.YtbhgkadklklmbaaGreatQD
set_option linter.unusedVariables false
set_option linter.unusedSimpArgs false
namespace Go.Proofs.YtbhgkadklklmbaaGreat
open Go Go.RowKit Go.Sort Go.Lib

def toPR (q : BR) : PR := ⟨q.ps, q.pa, q.pc⟩
theorem flat_PS (L : List BR) : L.flatMap cellsPS = (L.map toPR).flatMap cellsPR := by
 rw [List.flatMap_map]; rfl
/-- A new solid is cells in memory. -/
theorem news_cells {w w' : World} {v : Value} {l : List (List Pl)} (h : NewS w w' v l) : ∃ a c, v = .slice a l.length c ∧ Cells.V w' a (l.map Cell.mk) := by
 obtain ⟨L, rfl, hL, ho⟩ := h.ex
 obtain ⟨a, c, rfl, -, -⟩ := own_slice ho
 have h1 : w'.ownsRow w.heap.size 24 1 (.slice a L.length c) L.length ((L.map toPR).flatMap cellsPR) := by rw [← flat_PS]; exact ho
 have h2 := prs_cells h1 (v := .slice a L.length c) fun q hq => by
  obtain ⟨r, hr, rfl⟩ := List.mem_map.1 hq
  obtain ⟨h3, h4⟩ := hL r hr
  exact ⟨h3.pls, h3.len, h4.k, h3.pb⟩
 refine ⟨a, c, by simp, ?_⟩
 simpa [List.map_map, Function.comp_def, toPR] using h2
def leftV (A B : List Cell) : List (List Pl) := if twoE A B ≠ 0 then [] else (leftM (B.map (·.planes)) [] (A.map (·.planes))).getD []
theorem minusC_any (ca cb : List Cell) (a : Option Addr) (c : Nat) (b : Option Addr) (d : Nat) (w : World) (hcl : ca.length ≤ 9223372036854775807) (hv : Cells.V w a ca) (hpl : ∀ x ∈ ca, x.planes.length ≤ 1000000)
    (hdl : cb.length ≤ 9223372036854775807) (hu : Cells.V w b cb) (hql : ∀ x ∈ cb, x.planes.length ≤ 1000000) :
    Calls Tryz.prog 45 #[.agg #[.slice a ca.length c], .agg #[.slice b cb.length d]] w fun e w' => ∃ va vc, e = .returned (.tuple #[.agg #[.slice va (leftV ca cb).length vc], .int .i64 (minE ca cb)]) ∧ Cells.V w' va ((leftV ca cb).map Cell.mk) ∧ Below w.heap.size w w' := by
 refine Calls.mono (minus_any ca cb a c b d w hcl hv hpl hdl hu hql) ?_
 rintro e w' ⟨v, rfl, hb, h1, h2⟩
 by_cases h0 : minE ca cb = 0
 ·obtain ⟨l, hl, hn⟩ := h2 h0
  obtain ⟨va, vc, rfl, hc⟩ := news_cells hn
  have e1 : leftV ca cb = l := by
   unfold leftV
   rw [if_neg, hl]; · rfl
   intro hne; unfold minE at h0; rw [if_pos hne] at h0; exact hne h0
  rw [e1]
  exact ⟨va, vc, rfl, hc, hb⟩
 ·have e1 : leftV ca cb = [] := by
    unfold leftV
    split
    ·rfl
    ·rename_i ht
     unfold minE leftE at h0
     rw [if_neg ht] at h0
     cases hl : leftM (cb.map (·.planes)) [] (ca.map (·.planes)) with
     | none => rfl
     | some l => rw [hl] at h0; exact absurd rfl h0
  rw [h1 h0, e1]
  exact ⟨none, 0, rfl, fun hne => absurd rfl hne, hb⟩
/-! The common cells. -/
def bothE (A B : List Cell) : Int := if twoE A B ≠ 0 then twoE A B else match meetM (B.map (·.planes)) [] (A.map (·.planes)) with | none => 8 | some _ => 0
def bothV (A B : List Cell) : List (List Pl) := if twoE A B ≠ 0 then [] else (meetM (B.map (·.planes)) [] (A.map (·.planes))).getD []
def meetT (c : List Pl) (out : List (List Pl)) (y Y : List (List Pl)) (x : List (List Pl)) : Option (List (List Pl)) := match meetK c out y with | none => none | some r => meetM Y r x
theorem meetT_nil {c : List Pl} {out Y x : List (List Pl)} : meetT c out [] Y x = meetM Y out x := rfl
theorem meetT_cons {c d : List Pl} {out y Y x : List (List Pl)} : meetT c out (d :: y) Y x = if meetsM c d = true then (if 16 < (nf (c ++ d)).length ∨ 100 < out.length + 1 then none else meetT c (out ++ [nf (c ++ d)]) y Y x) else meetT c out y Y x := by
 unfold meetT
 rw [meetK]
 by_cases h : meetsM c d = true
 ·rw [if_pos h, if_pos h]
  by_cases h2 : 16 < (nf (c ++ d)).length ∨ 100 < out.length + 1
  ·rw [if_pos h2, if_pos h2]
  ·rw [if_neg h2, if_neg h2]
 ·rw [if_neg h, if_neg h]
/-- The two cells of a body's box. -/
structure K2 (g : Nat) (p : BR) (W : World) : Prop where
 a : W.cell? ⟨g, 0, none⟩ = some (.slice p.pa p.ps.length p.pc)
 b : W.cell? ⟨g, 1, none⟩ = some (.slice p.ca (corn p.ps).length p.cc)
theorem K2.keep {g : Nat} {p : BR} {W W' : World} (h : K2 g p W) (hb : Below W.heap.size W W') : K2 g p W' := ⟨cell_keep hb h.a, cell_keep hb h.b⟩
theorem K2.grown {g : Nat} {p : BR} {W W' : World} {row : Option Nat} (h : K2 g p W) (hg : W.grownBy W' row) (h1 : row ≠ some g) : K2 g p W' := ⟨grown_cell hg h.a h1, grown_cell hg h.b h1⟩
theorem K2.off {g r : Nat} {p : BR} {W : World} (h : K2 g p W) (hr : r ≠ g) (v : Value) : K2 g p (W.setCell ⟨r, 0, none⟩ v) := ⟨by rw [cell_set_other (by simpa using hr)]; exact h.a, by rw [cell_set_other (by simpa using hr)]; exact h.b⟩
theorem K2.lt {g : Nat} {p : BR} {W : World} (h : K2 g p W) : g < W.heap.size := block_lt_of_cell h.a
set_option maxRecDepth 100000 in
set_option maxHeartbeats 16000000 in
theorem meet_any (ca cb : List Cell) (a : Option Addr) (c : Nat) (b : Option Addr) (d : Nat) (w : World) (hcl : ca.length ≤ 9223372036854775807) (hv : Cells.V w a ca) (hpl : ∀ x ∈ ca, x.planes.length ≤ 1000000)
    (hdl : cb.length ≤ 9223372036854775807) (hu : Cells.V w b cb) (hql : ∀ x ∈ cb, x.planes.length ≤ 1000000) :
    Calls Tryz.prog 46 #[.agg #[.slice a ca.length c], .agg #[.slice b cb.length d]] w fun e w' => ∃ va vc, e = .returned (.tuple #[.agg #[.slice va (bothV ca cb).length vc], .int .i64 (bothE ca cb)]) ∧ Cells.V w' va ((bothV ca cb).map Cell.mk) ∧ Below w.heap.size w w' := by
 obtain ⟨i0, hi0, hz0, hz1, hz2⟩ := info_parts cellInfo
 have HT := Lib.hid (fun W (h : Below w.heap.size w W) => two_any ca cb a c b d W hcl (hv.keep h) hpl hdl (hu.keep h) hql)
 obtain ⟨V, hV⟩ : ∃ V, V = bothV ca cb := ⟨_, rfl⟩
 obtain ⟨M, hM⟩ : ∃ M, M = bothE ca cb := ⟨_, rfl⟩
 rw [← hV, ← hM]
 obtain ⟨X, hX⟩ : ∃ X, X = ca.map (·.planes) := ⟨_, rfl⟩
 obtain ⟨Y, hY⟩ : ∃ Y, Y = cb.map (·.planes) := ⟨_, rfl⟩
 have HVE := Lib.hid (show V = if twoE ca cb ≠ 0 then [] else (meetM Y [] X).getD [] by rw [hX, hY]; exact hV)
 have HME := Lib.hid (show M = if twoE ca cb ≠ 0 then twoE ca cb else match meetM Y [] X with | none => 8 | some _ => 0 by rw [hX, hY]; exact hM)
 have HZ := Lib.hid (twoE_zero (a := ca) (b := cb))
 have HX := Lib.hid hX
 have HY := Lib.hid hY
 clear hv hu hpl hql hcl hdl hV hM hX hY
 go_enter Tryz.func46, Tryz.ntmps46
 go_upto_region 1 with fail
 refine gen_world (fun W => W.cell? ⟨w.heap.size, 0, none⟩ = some (.slice a ca.length c) ∧ W.cell? ⟨w.heap.size + 1, 0, none⟩ = some (.slice b cb.length d) ∧ (W.cell? ⟨w.heap.size + 2, 0, none⟩ = some (.slice none 0 0) ∧ W.frozen? ⟨w.heap.size + 2, 0, none⟩ = false) ∧ Below w.heap.size w W) ⟨by simp [go_sem], by simp [go_sem], ⟨by simp [go_sem], by simp [go_sem]⟩, by repeat (first | (with_reducible assumption) | exact Below.refl _ _ | (refine Below.setCell ?_ (by first | omega | (simp; omega) | (simp; done)) _) | (refine Below.alloc ?_ (by first | omega | (simp; omega) | (simp; done)) _) | (refine Below.drew ?_))⟩ ?_
 rintro W ⟨b0, b1, ⟨r0, rf0⟩, hb⟩
 have HB0 := Lib.hid hb
 have hrl := block_lt_of_cell r0
 simp only at hrl
 have HTW := Lib.hid (HT.out W hb)
 obtain ⟨gr, hgr⟩ : ∃ g, g = w.heap.size + 2 := ⟨_, rfl⟩
 have HGR := Lib.hid (show w.heap.size ≤ gr by omega)
 have HGL := Lib.hid (show gr < W.heap.size by omega)
 rw [← hgr] at r0 rf0
 rw [show w.heap.size + 1 + 1 = gr from hgr.symm]
 have HR0 := Lib.hid (And.intro r0 rf0)
 clear hrl hgr r0 rf0 hb
 go_upto_region 2 with (go_at_call 89; refine HTW.out.mono ?_; rintro e w1 ⟨x, y, rfl, hb, hr⟩; have HB1 := Lib.hid hb; obtain ⟨xa, xn, xc, ya, yn, yc, rfl, rfl⟩ := hr.shape; have HTP := Lib.hid hr; clear hb hr)
 have HBW1 := Lib.hid (HB0.out.trans (HB1.out.mono HB0.out.size))
 have HR1 := Lib.hid (show w1.cell? ⟨gr, 0, none⟩ = some (.slice none 0 0) ∧ w1.frozen? ⟨gr, 0, none⟩ = false from ⟨cell_keep HB1.out HR0.out.1, frozen_keep HB1.out HGL.out HR0.out.2⟩)
 have HG1 := Lib.hid (show gr < w1.heap.size by have := HGL.out; have := HB1.out.size; omega)
 clear b0 b1
 by_cases h0 : twoE ca cb = 0
 ·obtain ⟨⟨Lx, hx1, hx2⟩, Ly, hy1, hy2⟩ := HTP.out.2 h0
  obtain ⟨e1, hbx⟩ := bods_of (HZ.out.1 h0).1 hx1 hx2
  obtain ⟨e2, hby⟩ := bods_of (HZ.out.1 h0).2 hy1 hy2
  subst e1 e2
  have HXS := Lib.hid (show X = Lx.map (·.ps) by rw [HX.out, ← hx1.ps])
  have HYS := Lib.hid (show Y = Ly.map (·.ps) by rw [HY.out, ← hy1.ps])
  have HBX := Lib.hid hbx
  have HBY := Lib.hid hby
  have HV2 := Lib.hid (show V = (meetM Y [] X).getD [] by rw [HVE.out, if_neg (by simpa using h0)])
  have HM2 := Lib.hid (show M = match meetM Y [] X with | none => 8 | some _ => 0 by rw [HME.out, if_neg (by simpa using h0)])
  have hlx100 := hbx.l
  have hly100 := hby.l
  rw [h0]
  clear hx1 hx2 hy1 hy2 hbx hby h0 HTP HZ HVE HME HT HTW HX HY
  go_upto_region 5 with fail
  refine gen_world (fun W => CpSt w1.heap.size W (.slice none 0 0) [] ∧ Below w1.heap.size w1 W) ⟨⟨by simp [go_sem], by simp [go_sem], ⟨rfl, .inl ⟨rfl, rfl⟩⟩, fun q hq => absurd hq (by simp)⟩, by repeat (first | (with_reducible assumption) | exact Below.refl _ _ | (refine Below.setCell ?_ (by first | omega | (simp; omega) | (simp; done)) _) | (refine Below.alloc ?_ (by first | omega | (simp; omega) | (simp; done)) _) | (refine Below.drew ?_))⟩ ?_
  rintro W2 ⟨hst, hb⟩
  have HST := Lib.hid hst
  have HB2 := Lib.hid hb
  obtain ⟨g9, hg9⟩ : ∃ g, g = w1.heap.size := ⟨_, rfl⟩
  have HG9 := Lib.hid hg9
  rw [← hg9] at HST HB2 HG1 ⊢
  have HBX9 := Lib.hid (show ∀ W', Below g9 w1 W' → Bods W' xa Lx from fun W' h => HBX.out.keep (by rw [← hg9]; exact h))
  have HBY9 := Lib.hid (show ∀ W', Below g9 w1 W' → Bods W' ya Ly from fun W' h => HBY.out.keep (by rw [← hg9]; exact h))
  have HRK := Lib.hid (show ∀ W', Below g9 w1 W' → W'.cell? ⟨gr, 0, none⟩ = some (.slice none 0 0) ∧ W'.frozen? ⟨gr, 0, none⟩ = false from fun W' h => ⟨(h.cell HG1.out).trans HR1.out.1, (h.frozen HG1.out).trans HR1.out.2⟩)
  have HBF := Lib.hid (show ∀ W', Below g9 w1 W' → Below w.heap.size w W' from fun W' h => HBW1.out.trans (h.mono (by rw [hg9]; exact HBW1.out.size)))
  clear hst hb hg9
  go_wp2_with fail
  go_loopw [29] (fun iv wr => ∃ (i : Nat) (v : Value) (L : List PR), i ≤ Lx.length ∧ iv = .int .i64 (i : Int) ∧ CpSt g9 wr v L ∧ Hid (meetM Y [] X = meetM Y (L.map (·.ps)) (X.drop i)) ∧ Hid (∀ r ∈ L, ∀ b, blk r.pa = some b → g9 < b) ∧ Hid (L.length ≤ 100) ∧ Below g9 w1 wr) (fun iv _ => Lx.length - (intOf iv).toNat)
  case atStart => exact ⟨0, _, [], Nat.zero_le _, rfl, HST.out, Lib.hid rfl, Lib.hid (fun r hr => absurd hr (by simp)), Lib.hid (by simp), HB2.out⟩
  case round =>
   obtain ⟨i, v, L, hi, rfl, hst, HMM, HOF, HLL, hb⟩ := hrel
   obtain ⟨W3, rfl⟩ : ∃ W3 : World, W3 = wr := ⟨_, rfl⟩
   have HB3 := Lib.hid hb
   have HS3 := Lib.hid hst
   have HX3 := Lib.hid (HBX9.out _ hb)
   have hg93 := hst.lt
   have o9 := hst.c
   by_cases hlt : i < Lx.length
   ·have hki : (i : Int) < (Lx.length : Int) := by omega
    obtain ⟨bx, off, rfl, hat⟩ := HX3.out.v.at_ hlt
    obtain ⟨c0, c1⟩ := hat
    have HCB := Lib.hid (HX3.out.b _ (List.getElem_mem hlt))
    have HCW := Lib.hid (show ∀ W', Below g9 w1 W' → BG W' Lx[i] from fun W' h => ((HBX9.out W' h).b _ (List.getElem_mem hlt)).1)
    have HXD := Lib.hid (show X.drop i = Lx[i].ps :: X.drop (i + 1) by rw [HXS.out, List.drop_eq_getElem_cons (by simpa using hlt)]; simp)
    generalize Lx[i] = p at *
    clear hst hb o9
    go_upto_region 8 with fail
    refine gen_world (fun W4 => Below W3.heap.size W3 W4 ∧ W4.cell? ⟨W3.heap.size, 0, none⟩ = some (.slice p.pa p.ps.length p.pc) ∧ W4.cell? ⟨W3.heap.size, 1, none⟩ = some (.slice p.ca (corn p.ps).length p.cc)) ⟨(Below.refl _ _).alloc (Nat.le_refl _) _, by simp [go_sem], by simp [go_sem]⟩ ?_
    rintro W4 ⟨hb4, x0, x1⟩
    have HB4 := Lib.hid (show Below g9 w1 W4 from HB3.out.trans (hb4.mono (by omega)))
    have HS4 := Lib.hid (HS3.out.keep hb4)
    have HCL := Lib.hid HCB.out.2
    have HK4 := Lib.hid (show K2 W3.heap.size p W4 from ⟨x0, x1⟩)
    have HVN := Lib.hid (show v.ownBlock ≠ some W3.heap.size from fun e => by have := (own_lt HS3.out.o e).2; omega)
    have HG11 := Lib.hid (show g9 < W3.heap.size from hg93)
    have HMT := Lib.hid (show meetM Y [] X = meetT p.ps (L.map (·.ps)) Y Y (X.drop (i + 1)) by rw [HMM.out, HXD.out]; rfl)
    generalize W3.heap.size = g11 at hg93 x0 x1 HK4 HVN HG11 ⊢
    clear c0 c1 hb4 x0 x1
    go_wp2_with fail
    go_loopw [35] (fun kv wq => ∃ (k : Nat) (v : Value) (L : List PR), k ≤ Ly.length ∧ kv = .int .i64 (k : Int) ∧ CpSt g9 wq v L ∧ K2 g11 p wq ∧ Hid (v.ownBlock ≠ some g11) ∧ Hid (meetM Y [] X = meetT p.ps (L.map (·.ps)) (Y.drop k) Y (X.drop (i + 1))) ∧ Hid (∀ r ∈ L, ∀ b, blk r.pa = some b → g9 < b) ∧ Hid (L.length ≤ 100) ∧ Below g9 w1 wq) (fun kv _ => Ly.length - (intOf kv).toNat)
    case atStart => exact ⟨0, v, L, Nat.zero_le _, rfl, HS4.out, HK4.out, HVN, HMT, HOF, HLL, HB4.out⟩
    case round =>
     clear HS4 HS3 HB3 HB4 HX3 HMM HOF HLL HMT HVN HK4 hg93
     clear v L
     obtain ⟨k, v, L, hk, rfl, hst, hk2, HVN, HMT, HOF, HLL, hb⟩ := hrel
     obtain ⟨W5, rfl⟩ : ∃ W5 : World, W5 = wr := ⟨_, rfl⟩
     have HS5 := Lib.hid hst
     have HK5 := Lib.hid hk2
     have HB5 := Lib.hid hb
     have HY5 := Lib.hid (HBY9.out _ hb)
     have hg95 := hst.lt
     obtain ⟨va, vc, rfl, -, -⟩ := own_slice hst.o
     clear hst hk2 hb
     by_cases hlt2 : k < Ly.length
     ·have hkj : (k : Int) < (Ly.length : Int) := by omega
      obtain ⟨yb, yoff, rfl, hat⟩ := HY5.out.v.at_ hlt2
      obtain ⟨d0, d1⟩ := hat
      have HDW := Lib.hid (show ∀ W', Below g9 w1 W' → BG W' Ly[k] from fun W' h => ((HBY9.out W' h).b _ (List.getElem_mem hlt2)).1)
      have HDL := Lib.hid (HY5.out.b _ (List.getElem_mem hlt2)).2
      have HYD := Lib.hid (show Y.drop k = Ly[k].ps :: Y.drop (k + 1) by rw [HYS.out, List.drop_eq_getElem_cons (by simpa using hlt2)]; simp)
      generalize Ly[k] = q at *
      have x0 := HK5.out.a
      have x1 := HK5.out.b
      go_upto_region 11 with fail
      refine gen_world (fun W6 => Below W5.heap.size W5 W6 ∧ W6.cell? ⟨W5.heap.size, 0, none⟩ = some (.slice q.pa q.ps.length q.pc) ∧ W6.cell? ⟨W5.heap.size, 1, none⟩ = some (.slice q.ca (corn q.ps).length q.cc) ∧ K2 g11 p W6) ⟨(Below.refl _ _).alloc (Nat.le_refl _) _, by simp [go_sem], by simp [go_sem], HK5.out.keep ((Below.refl _ _).alloc (Nat.le_refl _) _)⟩ ?_
      rintro W6 ⟨hb6, z0, z1, hk6⟩
      have HB6 := Lib.hid (show Below g9 w1 W6 from HB5.out.trans (hb6.mono (by omega)))
      have HS6 := Lib.hid (HS5.out.keep hb6)
      have HK6 := Lib.hid hk6
      have u0 := hk6.a
      have u1 := hk6.b
      have HP6 := Lib.hid (HCW.out _ HB6.out)
      have HQ6 := Lib.hid (HDW.out _ HB6.out)
      generalize W5.heap.size = g13 at hg95 z0 z1 ⊢
      clear d0 d1 hb6 x0 x1 hk6
      have HA := Lib.hid (apart_any p q W6 HP6.out HQ6.out)
      have HC := Lib.hid (fun W (hb : Below W6.heap.size W6 W) => common_any p q W (HP6.out.keep hb).pls (HQ6.out.keep hb).pls HP6.out.g HQ6.out.g (by have := HCL.out; have := HDL.out; omega))
      have HBG := Lib.hid (fun (r : BR) (hr : r.ps = p.ps ++ q.ps) W W' W2 (hn : NB W W' r) (hb : Below W'.heap.size W' W2) => (hn.keep hb).bg (by rw [hr]; have := HCL.out; have := HDL.out; simp; omega))
      have HSO := Lib.hid (fun (r : BR) (hr : r.ps = p.ps ++ q.ps) W W' W2 (hn : NB W W' r) (hb : Below W'.heap.size W' W2) => solidly_any r.ps r.pa r.pc (corn r.ps) r.ca r.cc W2 hn.g (HBG.out r hr _ _ _ hn hb).ci (by rw [hr]; have := HCL.out; have := HDL.out; simp; omega) (HBG.out r hr _ _ _ hn hb).cl (HBG.out r hr _ _ _ hn hb).pls (HBG.out r hr _ _ _ hn hb).cos)
      have HME := Lib.hid (show meetsM p.ps q.ps = (!apaM p.ps q.ps && solM (p.ps ++ q.ps)) from rfl)
      have HST := Lib.hid (meetT_cons (c := p.ps) (d := q.ps) (out := L.map (·.ps)) (y := Y.drop (k + 1)) (Y := Y) (x := X.drop (i + 1)))
      rw [← HYD.out, HME.out] at HST
      cases hap : apaM p.ps q.ps with
      | true =>
       rw [hap] at HA HST
       have HNX := Lib.hid (show meetM Y [] X = meetT p.ps (L.map (·.ps)) (Y.drop (k + 1)) Y (X.drop (i + 1)) by rw [HMT.out, HST.out]; rfl)
       go_wp2_with (go_at_call 104; refine HA.out.mono ?_; rintro e w7 ⟨rfl, hb⟩; have HB7 := Lib.hid (show Below g9 w1 w7 from HB6.out.trans (hb.mono (Nat.le_of_lt HS6.out.lt))); have HS7 := Lib.hid (HS6.out.keep hb); have HK7 := Lib.hid (HK6.out.keep hb); clear hb)
       go_roundw
       case rel => exact ⟨k + 1, _, L, by omega, by go_num, HS7.out, HK7.out, HVN, HNX, HOF, HLL, HB7.out⟩
       case measure => first | (simp [intOf]; done) | (simp [intOf]; omega)
      | false =>
       rw [hap] at HA HST
       go_upto_region 13 with (first
        | (go_at_call 104; refine HA.out.mono ?_; rintro e w7 ⟨rfl, hb⟩; have v0 := cell_keep hb z0; have v1 := cell_keep hb z1; have t0 := cell_keep hb u0; have t1 := cell_keep hb u1; have HB7 := Lib.hid hb; have HC7 := Lib.hid (HC.out w7 hb); clear hb)
        | (go_at_call 93; refine HC7.out.mono ?_; rintro e w8 ⟨r, hr, rfl, hn, hb⟩; have HB8 := Lib.hid hb; have HRP := Lib.hid hr; have HN8 := Lib.hid hn; clear hb hr hn))
       refine gen_world (fun W9 => Below w8.heap.size w8 W9 ∧ W9.cell? ⟨w8.heap.size, 0, none⟩ = some (.slice r.pa r.ps.length r.pc) ∧ W9.cell? ⟨w8.heap.size, 1, none⟩ = some (.slice r.ca (corn r.ps).length r.cc)) ⟨(Below.refl _ _).alloc (Nat.le_refl _) _, by simp [go_sem], by simp [go_sem]⟩ ?_
       rintro W9 ⟨hb9, s0, s1⟩
       have HSQ := Lib.hid (HSO.out r HRP.out _ _ _ HN8.out hb9)
       rw [show solB r.ps (corn r.ps) = solM (p.ps ++ q.ps) by rw [HRP.out]; rfl] at HSQ
       have HB69 := Lib.hid (show Below W6.heap.size W6 W9 from (HB7.out.trans (HB8.out.mono HB7.out.size)).trans (hb9.mono (HB7.out.trans (HB8.out.mono HB7.out.size)).size))
       have HN9 := Lib.hid (HN8.out.keep hb9)
       have HG7 := Lib.hid (show W6.heap.size ≤ w7.heap.size from HB7.out.size)
       generalize w8.heap.size = g14 at s0 s1 ⊢
       clear hb9 z0 z1 u0 u1 v0 v1 t0 t1
       cases hso : solM (p.ps ++ q.ps) with
       | false =>
        rw [hso] at HSQ HST
        have HNX := Lib.hid (show meetM Y [] X = meetT p.ps (L.map (·.ps)) (Y.drop (k + 1)) Y (X.drop (i + 1)) by rw [HMT.out, HST.out]; rfl)
        go_wp2_with (go_at_call 94; refine HSQ.out.mono ?_; rintro e w10 ⟨rfl, hb⟩; have HB10 := Lib.hid (show Below W6.heap.size W6 w10 from HB69.out.trans (hb.mono HB69.out.size)); clear hb)
        go_roundw
        case rel => exact ⟨k + 1, _, L, by omega, by go_num, HS6.out.keep HB10.out, HK6.out.keep HB10.out, HVN, HNX, HOF, HLL, HB6.out.trans (HB10.out.mono (Nat.le_of_lt HS6.out.lt))⟩
        case measure => first | (simp [intOf]; done) | (simp [intOf]; omega)
       | true =>
        rw [hso] at HSQ HST
        have HNF := Lib.hid (fun W (hb : Below W9.heap.size W9 W) => normalForm_any r.ps r.pa r.pc (corn r.ps) r.ca r.cc W (HN9.out.g) (HBG.out r HRP.out _ _ _ HN9.out hb).ci (HBG.out r HRP.out _ _ _ HN9.out hb).l (HBG.out r HRP.out _ _ _ HN9.out hb).cl (HBG.out r HRP.out _ _ _ HN9.out hb).pls (HBG.out r HRP.out _ _ _ HN9.out hb).cos)
        rw [show nor r.ps (corn r.ps) = nf r.ps from rfl] at HNF
        have HNG := Lib.hid (show Good (nf r.ps) from HN9.out.g.nor _)
        have HNL := Lib.hid (show (nf r.ps).length ≤ 40 from Nat.le_trans (nor_len _ _) (HBG.out r HRP.out _ _ _ HN9.out (Below.refl _ _)).l)
        rw [← HRP.out] at HST
        generalize nf r.ps = N at HNF HST HNG HNL
        go_upto_region 15 with (first
         | (go_at_call 94; refine HSQ.out.mono ?_; rintro e w10 ⟨rfl, hb⟩; have q0 := cell_keep hb s0; have q1 := cell_keep hb s1; have HB10 := Lib.hid hb; have HN10 := Lib.hid (HNF.out _ hb); clear hb)
         | (go_at_call 77; refine HN10.out.mono ?_; rintro e w11 ⟨na, nc, rfl, ho, hb⟩; have HB11 := Lib.hid hb; have HO11 := Lib.hid ho; clear hb ho))
        have HB611 := Lib.hid (show Below W6.heap.size W6 w11 from (HB69.out.trans (HB10.out.mono HB69.out.size)).trans (HB11.out.mono (HB69.out.trans (HB10.out.mono HB69.out.size)).size))
        have HZ6 := Lib.hid (show W6.heap.size ≤ w10.heap.size from (HB69.out.trans (HB10.out.mono HB69.out.size)).size)
        refine gen_world (fun W12 => Below w11.heap.size w11 W12 ∧ W12.cell? ⟨w11.heap.size, 0, none⟩ = some (.slice na N.length nc)) ⟨(Below.refl _ _).alloc (Nat.le_refl _) _, by simp [go_sem]⟩ ?_
        rintro W12 ⟨hb12, n0⟩
        have HB612 := Lib.hid (show Below W6.heap.size W6 W12 from HB611.out.trans (hb12.mono HB611.out.size))
        have HS12 := Lib.hid (HS6.out.keep HB612.out)
        have HK12 := Lib.hid (HK6.out.keep HB612.out)
        have HO12 := Lib.hid (own_keep HO11.out hb12)
        have HB12 := Lib.hid (show Below g9 w1 W12 from HB6.out.trans (HB612.out.mono (Nat.le_of_lt HS6.out.lt)))
        have HV15 := Lib.hid (show (Value.slice va L.length vc).ownBlock ≠ some w11.heap.size from fun e => by have := (own_lt HS6.out.o e).2; have := HB611.out.size; omega)
        have HE15 := Lib.hid (show g9 ≠ w11.heap.size by have := HS6.out.lt; have := HB611.out.size; omega)
        have HG12 := Lib.hid (show w11.heap.size < W12.heap.size from block_lt_of_cell n0)
        have HNN := Lib.hid n0
        generalize w11.heap.size = g15 at n0 HNN HV15 HE15 HG12 ⊢
        clear hb12 q0 q1 s0 s1
        have hal := (Below.refl W12.heap.size W12).alloc (Nat.le_refl _) (.cells #[.slice na N.length nc] 24)
        have HS13 := Lib.hid (HS12.out.keep hal)
        have HK13 := Lib.hid (HK12.out.keep hal)
        have HN13 := Lib.hid (cell_keep hal n0)
        have HO13 := Lib.hid (own_keep HO12.out hal)
        have HNW := Lib.hid (show ∀ j u, (cellsPR ⟨N, na, nc⟩)[j]? = some u → (W12.alloc (.cells #[.slice na N.length nc] 24)).cell? ((⟨W12.heap.size, 0, none⟩ : Addr).add j) = some u from news_of (cellsPR ⟨N, na, nc⟩) 24 W12 _ rfl)
        have HB13 := Lib.hid (show Below g9 w1 (W12.alloc (.cells #[.slice na N.length nc] 24)) from HB12.out.trans (hal.mono (Nat.le_of_lt HS12.out.lt)))
        have HQB := Lib.hid (show ∀ b, blk na = some b → W6.heap.size ≤ b ∧ b < (W12.alloc (.cells #[.slice na N.length nc] 24)).heap.size from fun b e => ⟨Nat.le_trans HZ6.out (own_blk_lt HO13.out b e).1, (own_blk_lt HO13.out b e).2⟩)
        have HPR := Lib.hid (show PRok (W12.alloc (.cells #[.slice na N.length nc] 24)) (.slice va L.length vc) ⟨N, na, nc⟩ from ⟨ownPlV (fun x hx => Pl.in_.wf (HNG.out x hx).1) HO13.out, (own_len_le HO13.out).2, by obtain ⟨a1, c1, e1, -, h1⟩ := own_slice HO13.out; injection e1 with e2 e3 e4; rw [e4]; exact h1, fun b e => ⟨(HQB.out b e).2, fun e' => by have h1 := (own_lt HS6.out.o e').2; have h2 := (HQB.out b e).1; omega⟩⟩)
        have HNE := Lib.hid (show ∀ b, blk na = some b → g9 < b from fun b e => by have h2 := (HQB.out b e).1; have := HS6.out.lt; omega)
        have HOFS := Lib.hid (show (Value.slice va L.length vc).ownBlock ≠ some g9 from fun e => by have := (own_lt HS12.out.o e).1; omega)
        have HZ13 := Lib.hid (show W12.heap.size < (W12.alloc (.cells #[.slice na N.length nc] 24)).heap.size by simp)
        have o12 := HS12.out.c
        have f12 := HS12.out.f
        go_upto_region 16 with (at_builtin; refine wpList_append_here _ rfl _ _ 46 rfl (g9 + 1) 24 i0 (.agg #[.slice none 0 0]) 1 24 Tryz.underlying46 hi0 hz0 hz1 hz2 rfl (by decide) (.slice va L.length vc) L.length (L.flatMap cellsPR) rfl HS13.out.o ⟨W12.heap.size, 0, none⟩ 1 1 (cellsPR ⟨N, na, nc⟩) rfl rfl HNW.out (cellsPR_one _) (by decide) (by have := HLL.out; simp only [maxLen]; omega) (by have := HLL.out; omega) (by have := HS12.out.lt; simp; omega) ?_; intro v' w14 ho hg hat; obtain ⟨va', vc', rfl, -, -⟩ := own_slice ho; have HO14 := Lib.hid (show w14.ownsRow (g9 + 1) 24 1 (.slice va' (L.length + 1) vc') (L ++ [(⟨N, na, nc⟩ : PR)]).length ((L ++ [(⟨N, na, nc⟩ : PR)]).flatMap cellsPR) by rw [List.flatMap_append, List.length_append]; simpa using ho); have HGR14 := Lib.hid hg; have HAT := Lib.hid hat; have m0 := grown_cell hg HS13.out.c HOFS.out; have mf := (grown_frozen hg HS13.out.c HOFS.out).trans HS13.out.f; clear ho hg hat)
        have HS15 := Lib.hid (HS13.out.put HGR14.out HAT.out HPR.out (fun b e => by have := HNE.out b e; omega) (fun r hr b e => by have := HOF.out r hr b e; omega) HO14.out)
        have HK15 := Lib.hid ((HK13.out.grown HGR14.out HVN.out).off (show g9 ≠ g11 by have := HG11.out; omega) (.slice va' (L.length + 1) vc'))
        have HN15 := Lib.hid (show (w14.setCell ⟨g9, 0, none⟩ (.slice va' (L.length + 1) vc')).cell? ⟨g15, 0, none⟩ = some (.slice na N.length nc) by rw [cell_set_other (by simpa using HE15.out)]; exact grown_cell HGR14.out HN13.out HV15.out)
        have HB15 := Lib.hid ((below_grown HB13.out HGR14.out (Nat.le_of_lt HS13.out.lt) fun j hj => Nat.le_of_succ_le (own_lt HS13.out.o hj).1).setCell (Nat.le_refl _) (.slice va' (L.length + 1) vc') (p := ⟨g9, 0, none⟩))
        have HVN15 := Lib.hid (show (Value.slice va' (L.length + 1) vc').ownBlock ≠ some g11 from by
         rcases HAT.out with e | e
         ·rw [e]; exact HVN.out
         ·rw [e]; intro h; injection h with h; have := HK12.out.lt; have := HZ13.out; omega)
        have HOF15 := Lib.hid (show ∀ r ∈ L ++ [(⟨N, na, nc⟩ : PR)], ∀ b, blk r.pa = some b → g9 < b from fun r hr b e => by
         rcases List.mem_append.1 hr with hr | hr
         ·exact HOF.out r hr b e
         ·simp only [List.mem_singleton] at hr; subst hr; exact HNE.out b e)
        have HLP := Lib.hid (show (L ++ [(⟨N, na, nc⟩ : PR)]).map (·.ps) = L.map (·.ps) ++ [N] by rw [List.map_append]; rfl)
        have HLE := Lib.hid (show (L ++ [(⟨N, na, nc⟩ : PR)]).length = L.length + 1 by simp)
        generalize (w14.setCell ⟨g9, 0, none⟩ (.slice va' (L.length + 1) vc')) = W15 at HS15 HK15 HN15 HB15 ⊢
        clear m0 mf o12 f12 hal n0
        have n15 := HN15.out
        have o15 := HS15.out.c
        obtain ⟨r15, rf15⟩ := HRK.out _ HB15.out
        by_cases h16 : 16 < N.length
        ·have h16i : (16 : Int) < (N.length : Int) := by omega
         have HNO := Lib.hid (show meetM Y [] X = none by rw [HMT.out, HST.out]; simp [h16])
         have HM3 := Lib.hid (show M = 8 by rw [HM2.out, HNO.out])
         have HV3 := Lib.hid (show V = [] by rw [HV2.out, HNO.out]; rfl)
         go_wp2_with fail
         refine bodyPost_ret (v := .tuple #[.agg #[.slice none 0 0], .int .i64 8]) ?_ ?_ ?_
         ·simp [results, Tryz.results46, go_sem, got1 r15]
         ·rfl
         ·rw [HM3.out, HV3.out]
          first | exact ⟨none, 0, rfl, fun hne => absurd rfl hne, (HBF.out _ HB15.out).setCell HGR.out _⟩ | exact ⟨none, ⟨0, rfl⟩, fun hne => absurd rfl hne, (HBF.out _ HB15.out).setCell HGR.out _⟩
        ·have h16i : ¬ (16 : Int) < (N.length : Int) := by omega
         by_cases h100 : 100 < L.length + 1
         ·have h100i : (100 : Int) < ((L.length : Int) + 1) := by omega
          have HNO := Lib.hid (show meetM Y [] X = none by rw [HMT.out, HST.out]; simp [h100])
          have HM3 := Lib.hid (show M = 8 by rw [HM2.out, HNO.out])
          have HV3 := Lib.hid (show V = [] by rw [HV2.out, HNO.out]; rfl)
          go_wp2_with fail
          refine bodyPost_ret (v := .tuple #[.agg #[.slice none 0 0], .int .i64 8]) ?_ ?_ ?_
          ·simp [results, Tryz.results46, go_sem, got1 r15]
          ·rfl
          ·rw [HM3.out, HV3.out]
           first | exact ⟨none, 0, rfl, fun hne => absurd rfl hne, (HBF.out _ HB15.out).setCell HGR.out _⟩ | exact ⟨none, ⟨0, rfl⟩, fun hne => absurd rfl hne, (HBF.out _ HB15.out).setCell HGR.out _⟩
         ·have h100i : ¬ (100 : Int) < ((L.length : Int) + 1) := by omega
          have HNX := Lib.hid (show meetM Y [] X = meetT p.ps ((L ++ [(⟨N, na, nc⟩ : PR)]).map (·.ps)) (Y.drop (k + 1)) Y (X.drop (i + 1)) by rw [HMT.out, HST.out, HLP.out]; simp [h16, h100])
          go_wp2_with fail
          go_roundw
          case rel => exact ⟨k + 1, _, _, by omega, by go_num, HS15.out, HK15.out, HVN15, HNX, HOF15, Lib.hid (by have := HLE.out; omega), HB15.out⟩
          case measure => first | (simp [intOf]; done) | (simp [intOf]; omega)
     ·obtain rfl : k = Ly.length := by omega
      have hkj : ¬ ((Ly.length : Nat) : Int) < ((Ly.length : Nat) : Int) := by omega
      have HNX := Lib.hid (show meetM Y [] X = meetM Y (L.map (·.ps)) (X.drop (i + 1)) by rw [HMT.out, show Y.drop Ly.length = [] from by rw [HYS.out]; simp]; exact meetT_nil)
      go_wp2_with fail
      go_roundw
      case rel => exact ⟨i + 1, _, L, by omega, by go_num, HS5.out, HNX, HOF, HLL, HB5.out⟩
      case measure => first | (simp [intOf]; done) | (simp [intOf]; omega)
   ·obtain rfl : i = Lx.length := by omega
    have hki : ¬ ((Lx.length : Nat) : Int) < ((Lx.length : Nat) : Int) := by omega
    have HNO := Lib.hid (show meetM Y [] X = some (L.map (·.ps)) by rw [HMM.out, show X.drop Lx.length = [] from by rw [HXS.out]; simp]; rfl)
    have HM3 := Lib.hid (show M = 0 by rw [HM2.out, HNO.out])
    have HV3 := Lib.hid (show V = L.map (·.ps) by rw [HV2.out, HNO.out]; rfl)
    obtain ⟨r3, rf3⟩ := HRK.out _ hb
    obtain ⟨va, vc, rfl, -, -⟩ := own_slice hst.o
    clear hst hb
    go_wp2_with fail
    refine bodyPost_ret (v := .tuple #[.agg #[.slice va L.length vc], .int .i64 0]) ?_ ?_ ?_
    ·simp [results, Tryz.results46, go_sem, got1 r3]
    ·rfl
    ·rw [HM3.out, HV3.out]
     have hg := HG1.out
     have ho := HS3.out.o.kept (grownBy_set (a := ⟨gr, 0, none⟩) (u := .slice va L.length vc)) (.inr fun e => by have := (own_lt HS3.out.o e).1; simp only at this; omega)
     have hcv := prs_cells ho (v := .slice none 0 0) fun q hq => by
      have h := HS3.out.p q hq
      exact ⟨h.pls.grown (grownBy_set (a := ⟨gr, 0, none⟩)) fun b e e' => by injection e' with e'; have := HOF.out q hq b e; simp only at e'; omega, h.len, h.cap, fun b e => ⟨by rw [size_set]; exact (h.pb b e).1, fun e' => by cases e'⟩⟩
     have hcv2 : Cells.V (W3.setCell ⟨gr, 0, none⟩ (.slice va L.length vc)) va ((L.map (·.ps)).map Cell.mk) := by simpa [List.map_map, Function.comp_def] using hcv
     have hbf := (HBF.out _ HB3.out).setCell (p := ⟨gr, 0, none⟩) HGR.out (.slice va L.length vc)
     first
      | exact ⟨va, vc, by simp, hcv2, hbf⟩
      | exact ⟨va, ⟨vc, by simp⟩, hcv2, hbf⟩
 ·have HM3 := Lib.hid (show M = twoE ca cb by rw [HME.out, if_pos h0])
  have HV3 := Lib.hid (show V = [] by rw [HVE.out, if_pos h0])
  have hE1 : (twoE ca cb != 0) = true := by simpa using h0
  obtain ⟨r1, rf1⟩ := HR1.out
  clear h0
  generalize twoE ca cb = E at *
  go_wp2_with fail
  refine bodyPost_ret (v := .tuple #[.agg #[.slice none 0 0], .int .i64 E]) ?_ ?_ ?_
  ·simp [results, Tryz.results46, go_sem, got1 r1]
  ·rfl
  ·rw [HM3.out, HV3.out]
   first | exact ⟨none, 0, rfl, fun hne => absurd rfl hne, HBW1.out.setCell HGR.out _⟩ | exact ⟨none, ⟨0, rfl⟩, fun hne => absurd rfl hne, HBW1.out.setCell HGR.out _⟩
end Go.Proofs.YtbhgkadklklmbaaGreat
/- The program's copy of a solid, and two solids joined. -/
set_option linter.unusedVariables false
set_option linter.unusedSimpArgs false
namespace Go.Proofs.YtbhgkadklklmbaaGreat
open Go Go.RowKit Go.Sort Go.Lib

structure RowCe where
 a : Option Addr
 l : List PR
 c : Nat
instance : Inhabited RowCe := ⟨⟨none, [], 0⟩⟩
end Go.Proofs.YtbhgkadklklmbaaGreat
/- What is left and what is common are valid cells (plain). -/
set_option linter.unusedVariables false
set_option linter.unusedSimpArgs false
namespace Go.Proofs.YtbhgkadklklmbaaGreat

/-- All points of a valid cell lie in the room. -/
theorem room_pts {l : List Pl} (h : readE l = 0) {o : Co} (ho : InB l o) : inRoomB o = true := by
 have hs := sol_of h
 have hr := List.all_eq_true.1 (readE_zero.1 h).2.2.2.2
 have key : ∀ (F : Pl), F.d = 0 → (∀ c ∈ corn l, -300000 * c.n ≤ EE F c) → -300000 * o.n ≤ EE F o := fun F hF hk => by
  obtain ⟨c', hc', hf⟩ := corn_far hs.ray ho F
  have h1 := hk c' hc'
  have hn := (corn_low c' hc').pos
  have ho1 := ho.1
  unfold FarLe at hf
  have h2 : (-300000 * c'.n) * o.n ≤ EE F c' * o.n := Int.mul_le_mul_of_nonneg_right h1 (by omega)
  have h3 : (-300000 * o.n) * c'.n ≤ EE F o * c'.n := by grind
  exact Int.le_of_mul_le_mul_right h3 hn
 have cs : ∀ c ∈ corn l, (-300000 * c.n ≤ c.x ∧ c.x ≤ 300000 * c.n) ∧ (-300000 * c.n ≤ c.y ∧ c.y ≤ 300000 * c.n) ∧ (-300000 * c.n ≤ c.z ∧ c.z ≤ 300000 * c.n) := fun c hc => by
  have := hr c hc
  unfold inRoomB withinB at this
  simp only [Bool.and_eq_true, decide_eq_true_eq] at this
  omega
 have e : ∀ (a b k : Int) (c : Co), EE ⟨a, b, k, 0⟩ c = a * c.x + b * c.y + k * c.z := fun a b k c => by unfold EE dt nrm vec; simp
 have x1 := key ⟨1, 0, 0, 0⟩ rfl fun c hc => by rw [e]; have := cs c hc; omega
 have x2 := key ⟨-1, 0, 0, 0⟩ rfl fun c hc => by rw [e]; have := cs c hc; omega
 have y1 := key ⟨0, 1, 0, 0⟩ rfl fun c hc => by rw [e]; have := cs c hc; omega
 have y2 := key ⟨0, -1, 0, 0⟩ rfl fun c hc => by rw [e]; have := cs c hc; omega
 have z1 := key ⟨0, 0, 1, 0⟩ rfl fun c hc => by rw [e]; have := cs c hc; omega
 have z2 := key ⟨0, 0, -1, 0⟩ rfl fun c hc => by rw [e]; have := cs c hc; omega
 rw [e] at x1 x2 y1 y2 z1 z2
 unfold inRoomB withinB
 simp only [Bool.and_eq_true, decide_eq_true_eq]
 omega
theorem Good.opp {p : Pl} (h : p.in_ ∧ nrm p ≠ v0) : (opp p).in_ ∧ nrm (opp p) ≠ v0 := by
 obtain ⟨⟨⟨h1, h2, h3⟩, h4⟩, h5⟩ := h
 refine ⟨?_, by rw [nrm_opp]; exact neg_ne h5⟩
 unfold Pl.in_ Vec.in_ nrm Go.Proofs.YtbhgkadklklmbaaGreat.opp at *
 simp only at *
 omega
theorem Good.nf {l : List Pl} (h : Good l) : Good (nf l) := h.nor _
theorem good_cutRK {l ds : List Pl} (hl : Good l) (hd : Good ds) {n : Nat} (hn : n ≤ ds.length) : ∀ q ∈ cutRK l ds n, Good q := by
 intro q hq
 unfold cutRK at hq
 obtain ⟨i, hi, hq⟩ := List.mem_flatMap.1 hq
 rw [List.mem_range] at hi
 split at hq
 ·rw [List.mem_singleton] at hq
  subst hq
  refine Good.nf fun p hp => ?_
  rcases (mem_part (show i < ds.length by omega)).1 hp with h | h | h
  ·exact hl p h
  ·exact hd p (List.mem_of_mem_take h)
  ·rw [h]; exact Good.opp (hd _ (List.getElem_mem _))
 ·simp at hq
/-- Planes that can be written down, and few of them. -/
def Few16 (q : List Pl) : Prop := Good q ∧ q.length ≤ 16
theorem few_pieces {n : Nat} : ∀ {y ps r : List (List Pl)}, (∀ d ∈ y, Good d) → (∀ p ∈ ps, Few16 p) → piecesR n ps y = some r → ∀ q ∈ r, Few16 q
 | [], ps, r, _, hp, h => by unfold piecesR at h; cases h; exact hp
 | d :: y, ps, r, hd, hp, h => by
  unfold piecesR at h
  split at h
  ·cases h
  ·rename_i ht
   refine few_pieces (fun e he => hd e (List.mem_cons_of_mem _ he)) (fun q hq => ⟨?_, ?_⟩) h
   ·unfold stepR at hq
    obtain ⟨p, hpp, hq⟩ := List.mem_flatMap.1 hq
    unfold step1R at hq
    split at hq
    ·exact good_cutRK (hp p hpp).1 (hd d List.mem_cons_self).nf (Nat.le_refl _) q hq
    ·rw [List.mem_singleton] at hq; subst hq; exact (hp _ hpp).1
   ·unfold tooMany at ht
    simp only [Bool.or_eq_true, decide_eq_true_eq, List.any_eq_true, not_or, not_exists, not_and] at ht
    have := ht.2 q hq; omega
theorem few_left {y : List (List Pl)} (hy : ∀ d ∈ y, Good d) : ∀ {x out r : List (List Pl)}, (∀ c ∈ x, Few16 c) → (∀ q ∈ out, Few16 q) → leftR y out x = some r → ∀ q ∈ r, Few16 q
 | [], out, r, _, ho, h => by unfold leftR at h; cases h; exact ho
 | c :: x, out, r, hx, ho, h => by
  unfold leftR at h
  split at h
  ·cases h
  ·rename_i r1 h1
   refine few_left hy (fun e he => hx e (List.mem_cons_of_mem _ he)) (fun q hq => ?_) h
   rcases List.mem_append.1 hq with hq | hq
   ·exact ho q hq
   ·refine few_pieces hy (fun p hp => ?_) h1 q hq
    rw [List.mem_singleton] at hp; subst hp
    have := hx c List.mem_cons_self
    exact ⟨this.1.nf, Nat.le_trans (nor_len _ _) this.2⟩
theorem few_of {l : List Pl} (h : readE l = 0) : Few16 l := ⟨good_of (readE_zero.1 h).2.1, (readE_zero.1 h).1⟩
theorem read_of {q : List Pl} (hf : Few16 q) (hs : Sol q) (hr : ∀ o, InB q o → inRoomB o = true) : readE q = 0 :=
 readE_zero.2 ⟨hf.2, chkPs_zero.2 fun p hp => chkP_zero.2 (hf.1 p hp), bounM_of hs.ray, hs.ins, List.all_eq_true.2 fun c hc => hr c (corn_inB hc)⟩
/-- What is left of a valid solid is valid. -/
theorem left_val {x y l : List (List Pl)} (hx : ∀ c ∈ x, readE c = 0) (hy : ∀ d ∈ y, readE d = 0) (h : leftR y [] x = some l) : ∀ q ∈ l, readE q = 0 := fun q hq => by
 have ok := left_all (fun c hc => sol_of (hx c hc)) (fun d hd => sol_of (hy d hd)) h
 obtain ⟨p, hp, hsub⟩ := ok.sub q hq
 exact read_of (few_left (fun d hd => (few_of (hy d hd)).1) (fun c hc => few_of (hx c hc)) (fun q hq => by simp at hq) h q hq) (ok.sol q hq) fun o ho => room_pts (hx p hp) (hsub o ho)
theorem few_meetK {c : List Pl} (hc : Good c) : ∀ {y out r : List (List Pl)}, (∀ d ∈ y, Good d) → (∀ q ∈ out, Few16 q) → out.length ≤ 100 → meetRK c out y = some r → (∀ q ∈ r, Few16 q) ∧ r.length ≤ 100
 | [], out, r, _, ho, hl, h => by unfold meetRK at h; cases h; exact ⟨ho, hl⟩
 | d :: y, out, r, hd, ho, hl, h => by
  unfold meetRK at h
  split at h
  ·split at h
   ·cases h
   ·rename_i ht
    refine few_meetK hc (fun e he => hd e (List.mem_cons_of_mem _ he)) (fun q hq => ?_) (by simp; omega) h
    rcases List.mem_append.1 hq with hq | hq
    ·exact ho q hq
    ·rw [List.mem_singleton] at hq; subst hq
     exact ⟨(hc.append (hd d List.mem_cons_self)).nf, by omega⟩
  ·exact few_meetK hc (fun e he => hd e (List.mem_cons_of_mem _ he)) ho hl h
theorem few_meet {y : List (List Pl)} (hy : ∀ d ∈ y, Good d) : ∀ {x out r : List (List Pl)}, (∀ c ∈ x, Good c) → (∀ q ∈ out, Few16 q) → out.length ≤ 100 → meetR y out x = some r → (∀ q ∈ r, Few16 q) ∧ r.length ≤ 100
 | [], out, r, _, ho, hl, h => by unfold meetR at h; cases h; exact ⟨ho, hl⟩
 | c :: x, out, r, hx, ho, hl, h => by
  unfold meetR at h
  split at h
  ·cases h
  ·rename_i r1 h1
   obtain ⟨h2, h3⟩ := few_meetK (hx c List.mem_cons_self) hy ho hl h1
   exact few_meet hy (fun e he => hx e (List.mem_cons_of_mem _ he)) h2 h3 h
/-- What is common to valid solids is valid. -/
theorem meet_val {x y l : List (List Pl)} (hx : ∀ c ∈ x, readE c = 0) (hy : ∀ d ∈ y, readE d = 0) (h : meetR y [] x = some l) : (∀ q ∈ l, readE q = 0) ∧ l.length ≤ 100 := by
 have hf := few_meet (fun d hd => (few_of (hy d hd)).1) (fun c hc => (few_of (hx c hc)).1) (fun q hq => by simp at hq) (by simp) h
 refine ⟨fun q hq => ?_, hf.2⟩
 rcases (meetR_mem h q).1 hq with hq' | ⟨c, hc, d, hd, hcom, rfl⟩
 ·simp at hq'
 ·have hs := com_sol (sol_of (hx c hc)) (sol_of (hy d hd)) hcom
  exact read_of (hf.1 _ hq) (nf_sol hs) fun o ho => room_pts (hx c hc) ⟨ho.1, fun p hp => ((nf_body hs).1 ho).2 p (List.mem_append.2 (.inl hp))⟩
end Go.Proofs.YtbhgkadklklmbaaGreat
