/- The program's copy of a solid: rows of its own, apart. -/
import Derived.Test.YtbhgkadklklmbaaGreatQU
import Derived.Test.YtbhgkadklklmbaaGreatTU1
set_option linter.unusedVariables false
set_option linter.unusedSimpArgs false
namespace Go.Proofs.YtbhgkadklklmbaaGreat
open Go Go.RowKit Go.Sort Go.Lib

/-- A cell's planes lie in a row of the call's own. -/
def OwnP (base : Nat) (w : World) (q : PR) : Prop := w.ownsRow base 26 4 (.slice q.pa q.ps.length q.pc) q.ps.length (q.ps.flatMap cellsPl)
theorem ownB_blk (a : Option Addr) (n c : Nat) : (Value.slice a n c).ownBlock = none ∨ (Value.slice a n c).ownBlock = blk a := by
 cases a with
 | none => exact .inl rfl
 | some x =>
  obtain ⟨b, o, s⟩ := x
  cases s <;> cases o <;> first | exact .inl rfl | exact .inr rfl
theorem OwnP.keep {base : Nat} {w w' : World} {q : PR} (h : OwnP base w q) (hb : Below w.heap.size w w') : OwnP base w' q := own_keep h hb
theorem OwnP.grown {base : Nat} {w w' : World} {q : PR} {row : Option Nat} (h : OwnP base w q) (hg : w.grownBy w' row) (hn : ∀ b, blk q.pa = some b → row ≠ some b) : OwnP base w' q := h.kept hg (by
 cases hv : (Value.slice q.pa q.ps.length q.pc).ownBlock with
 | none => exact .inl rfl
 | some g =>
  refine .inr fun e => ?_
  rcases ownB_blk q.pa q.ps.length q.pc with h1 | h1
  ·rw [h1] at hv; cases hv
  ·exact hn g (by rw [← h1]; exact hv) e.symm)
/-- The planes of all cells are apart. -/
def ApP (L : List PR) : Prop := L.Pairwise fun q r => ∀ b, blk q.pa = some b → blk r.pa ≠ some b
set_option maxRecDepth 100000 in
set_option maxHeartbeats 8000000 in
theorem copied2_any (cells : List Cell) (a : Option Addr) (c : Nat) (w : World) (hcl : cells.length ≤ 1000) (hv : Cells.V w a cells) (hpl : ∀ x ∈ cells, x.planes.length ≤ 1000) :
    Calls Tryz.prog 122 #[.agg #[.slice a cells.length c]] w fun e w' => ∃ (va : Option Addr) (vc : Nat) (L : List PR), e = .returned (.agg #[.slice va L.length vc]) ∧ L.map (fun r => (⟨r.ps⟩ : Cell)) = cells ∧ w'.ownsRow w.heap.size 24 1 (.slice va L.length vc) L.length (L.flatMap cellsPR) ∧ (∀ q ∈ L, PRok w' (.slice none 0 0) q ∧ ∀ b, blk q.pa = some b → w.heap.size < b) ∧ (∀ q ∈ L, OwnP w.heap.size w' q ∧ ∀ b, blk q.pa = some b → (Value.slice va L.length vc).ownBlock ≠ some b) ∧ ApP L ∧ Below w.heap.size w w' := by
 have hmix : Tryz.prog.follows .mixedOrders = true := by kernel_rfl
 obtain ⟨i0, hi0, hz0, hz1, hz2⟩ := info_parts cellInfo
 have HV := Lib.hid hv
 have HPL := Lib.hid hpl
 clear hv hpl
 have hfl := fldCell
 go_enter Tryz.func122, Tryz.ntmps122
 go_upto_region 2 with fail
 refine gen_world (fun W => W.cell? ⟨w.heap.size, 0, none⟩ = some (.slice a cells.length c) ∧ (W.cell? ⟨w.heap.size + 1, 0, none⟩ = some (.slice none 0 0) ∧ W.frozen? ⟨w.heap.size + 1, 0, none⟩ = false) ∧ CpSt (w.heap.size + 2) W (.slice none 0 0) [] ∧ Below w.heap.size w W) ⟨by simp [go_sem], ⟨by simp [go_sem], by simp [go_sem]⟩, ⟨by simp [go_sem], by simp [go_sem], ⟨rfl, .inl ⟨rfl, rfl⟩⟩, fun q hq => absurd hq (by simp)⟩, by repeat (first | (with_reducible assumption) | exact Below.refl _ _ | (refine Below.setCell ?_ (by first | omega | (simp; omega) | (simp; done)) _) | (refine Below.alloc ?_ (by first | omega | (simp; omega) | (simp; done)) _) | (refine Below.drew ?_))⟩ ?_
 rintro W ⟨b0, ⟨r0, rf0⟩, hst, hb⟩
 have HST := Lib.hid hst
 have HB0 := Lib.hid hb
 have HR := Lib.hid (And.intro r0 rf0)
 clear hst hb r0 rf0
 obtain ⟨gw, hgw⟩ : ∃ g, g = w.heap.size := ⟨_, rfl⟩
 have HGW := Lib.hid hgw
 rw [← hgw] at HST HR b0 ⊢
 clear hgw
 simp only [Nat.add_assoc, Nat.reduceAdd]
 go_wp2_with fail
 go_loopw [9] (fun iv wr => ∃ (k : Nat) (v : Value) (L : List PR), k ≤ cells.length ∧ iv = .int .i64 (k : Int) ∧ CpSt (gw + 2) wr v L ∧ Hid (L.map (fun r => (⟨r.ps⟩ : Cell)) = cells.take k) ∧ Hid (∀ r ∈ L, ∀ b, blk r.pa = some b → gw + 2 < b) ∧ (wr.cell? ⟨gw + 1, 0, none⟩ = some (.slice none 0 0) ∧ wr.frozen? ⟨gw + 1, 0, none⟩ = false) ∧ Hid (∀ q ∈ L, OwnP (gw + 3) wr q) ∧ Hid (ApP L) ∧ Below w.heap.size w wr) (fun iv _ => cells.length - (intOf iv).toNat)
 case atStart => exact ⟨0, _, [], Nat.zero_le _, rfl, HST.out, Lib.hid rfl, Lib.hid (fun r hr => absurd hr (by simp)), HR.out, Lib.hid (fun r hr => absurd hr (by simp)), Lib.hid List.Pairwise.nil, HB0.out⟩
 case round =>
  obtain ⟨k, v, L, hk, rfl, hst, HL, HOF, ⟨r0, rf0⟩, HOP, HAP, hb⟩ := hrel
  have HS := Lib.hid hst
  have HB := Lib.hid hb
  have HRR := Lib.hid (And.intro r0 rf0)
  obtain ⟨va, vc, rfl, -, -⟩ := own_slice hst.o
  have hll : L.length = k := by have := congrArg List.length HL.out; rw [List.length_map, List.length_take] at this; omega
  have HLL := Lib.hid hll
  have hz := HB.out.size
  by_cases hlt : k < cells.length
  ·have hki : (k : Int) < (cells.length : Int) := by omega
   obtain ⟨bb, off, rfl, hat⟩ := (HV.out.keep hb).at_ hlt
   have HTK := Lib.hid (show cells.take (k + 1) = cells.take k ++ [cells[k]] from List.take_succ_eq_append_getElem hlt)
   have HPK := Lib.hid (HPL.out _ (List.getElem_mem hlt))
   generalize cells[k] = x at *
   obtain ⟨xa, xc, x0, xv, -⟩ := hat
   rw [Nat.mul_one] at x0
   have HXV := Lib.hid xv
   have s0 := hst.c
   clear hst hb xv hll r0 rf0
   go_upto_region 5 with fail
   refine gen_world (fun W4 => Below wr.heap.size wr W4 ∧ W4.cell? ⟨wr.heap.size, 0, none⟩ = some (.slice xa x.planes.length xc)) ⟨(Below.refl _ _).alloc (Nat.le_refl _) _, by simp [go_sem]⟩ ?_
   rintro W4 ⟨hb4, y0⟩
   have HB4 := Lib.hid hb4
   have HS4 := Lib.hid (HS.out.keep hb4)
   have HXV4 := Lib.hid (HXV.out.keep hb4)
   have s4 := HS4.out.c
   have HGS := Lib.hid (show gw + 2 < W4.heap.size from HS4.out.lt)
   generalize wr.heap.size = g5 at y0 ⊢
   clear s0 x0 hb4
   have kx0 : ∀ y : KW (fun W' => Below W4.heap.size W4 W'), (y.w.cell? ⟨gw + 2, 0, none⟩ = some (.slice va L.length vc) ∧ y.w.cell? ⟨g5, 0, none⟩ = some (.slice xa x.planes.length xc)) := fun y => ⟨cell_keep y.ok s4, cell_keep y.ok y0⟩
   haveI n1 : Nonempty (KW (fun W' => Below W4.heap.size W4 W')) := ⟨⟨W4, Below.refl _ _⟩⟩
   refine wp_region_tree (fun w' => ∃ y : KW (fun W' => Below W4.heap.size W4 W'), w' = y.w) 7 (.take 0 (.take 1 (.take 2 (.take 3 (.one 4 (.take 5 (.one 6 .done))))))) hmix (by kernel_rfl) (KW.mk' (Below.refl _ _).drew) ?_
   have HC0 := Lib.hid (show Below W4.heap.size W4 W4.drew from (Below.refl _ _).drew)
   generalize W4.drew = ww0 at *
   repeat (refine wpTree_take ?_; simp only [nthOp]; (first | go_big_quiet_step (fail) | quiet_step (fail)); refine wpQuiet_nil ?_)
   refine wpTree_one ?_
   simp only [nthOp]
   have HCL := Lib.hid (clone_any x.planes xa xc ww0 (by have := HPK.out; omega) (HXV4.out.keep HC0.out))
   go_wp2_with (go_at_call 170; refine HCL.out.mono ?_; rintro e ww2 ⟨qa, qc, rfl, ho, hb⟩; have HO2 := Lib.hid ho; have HC2 := Lib.hid (HC0.out.trans (hb.mono HC0.out.size)); clear ho hb)
   refine One_mk (KW.mk' HC2.out) ?_
   (refine wpTree_take ?_; simp only [nthOp]; (first | go_big_quiet_step (fail) | quiet_step (fail)); refine wpQuiet_nil ?_)
   refine wpTree_one ?_
   simp only [nthOp]
   go_wp2_with fail
   have HC3 := Lib.hid (HC2.out.alloc HC2.out.size (.cells #[.slice qa x.planes.length qc] 24))
   have HO3 := Lib.hid (own_keep HO2.out ((Below.refl ww2.heap.size ww2).alloc (Nat.le_refl _) (.cells #[.slice qa x.planes.length qc] 24)))
   have HNW := Lib.hid (show ∀ j u, (cellsPR ⟨x.planes, qa, qc⟩)[j]? = some u → (ww2.alloc (.cells #[.slice qa x.planes.length qc] 24)).cell? ((⟨ww2.heap.size, 0, none⟩ : Addr).add j) = some u from news_of (cellsPR ⟨x.planes, qa, qc⟩) 24 ww2 _ rfl)
   refine One_mk (KW.mk' HC3.out) ?_
   generalize (ww2.alloc (.cells #[.slice qa x.planes.length qc] 24)) = ww3 at *
   generalize ww2.heap.size = g2 at *
   have HS3 := Lib.hid (HS4.out.keep HC3.out)
   have HXW := Lib.hid (pls_wf HXV.out)
   have HQV := Lib.hid (ownPlV HXW.out HO3.out)
   have HG0 := Lib.hid HC0.out.size
   have HQB := Lib.hid (show ∀ b, blk qa = some b → W4.heap.size ≤ b ∧ b < ww3.heap.size from fun b e => ⟨Nat.le_trans HG0.out (own_blk_lt HO3.out b e).1, (own_blk_lt HO3.out b e).2⟩)
   have HPR := Lib.hid (show PRok ww3 (.slice va L.length vc) ⟨x.planes, qa, qc⟩ from ⟨HQV.out, (own_len_le HO3.out).2, by obtain ⟨a1, c1, e1, -, h1⟩ := own_slice HO3.out; injection e1 with e2 e3 e4; rw [e4]; exact h1, fun b e => ⟨(HQB.out b e).2, fun e' => by have h1 := (own_lt HS4.out.o e').2; have h2 := (HQB.out b e).1; omega⟩⟩)
   have HOP3 := Lib.hid (show ∀ q ∈ L, OwnP (gw + 3) ww3 q from fun q hq => ((HOP.out q hq).keep HB4.out).keep HC3.out)
   have HON := Lib.hid (show OwnP (gw + 3) ww3 ⟨x.planes, qa, qc⟩ from own_mono HO3.out (by have := HGS.out; have := HC0.out.size; omega))
   have HAP2 := Lib.hid (show ApP (L ++ [(⟨x.planes, qa, qc⟩ : PR)]) from List.pairwise_append.2 ⟨HAP.out, List.pairwise_singleton _ _, fun q hq r hr b e e' => by
    simp only [List.mem_singleton] at hr; subst hr
    have h1 := ((HS.out.p q hq).pb b e).1
    have h2 := (HQB.out b e').1
    have h3 := HB4.out.size
    omega⟩)
   have HNE := Lib.hid (show ∀ b, blk qa = some b → gw + 2 < b from fun b e => by have h2 := (HQB.out b e).1; have := HGS.out; omega)
   have HN3 := Lib.hid (show gw + 2 + 1 ≤ ww3.heap.size by have := HC3.out.size; have := HGS.out; omega)
   have HB3 := Lib.hid (show Below w.heap.size w ww3 from HB.out.trans ((HB4.out.trans (HC3.out.mono HB4.out.size)).mono hz))
   have HR3 := Lib.hid (show ww3.cell? ⟨gw + 1, 0, none⟩ = some (.slice none 0 0) ∧ ww3.frozen? ⟨gw + 1, 0, none⟩ = false from ⟨cell_keep (HB4.out.trans (HC3.out.mono HB4.out.size)) HRR.out.1, frozen_keep (HB4.out.trans (HC3.out.mono HB4.out.size)) (block_lt_of_cell HRR.out.1) HRR.out.2⟩)
   refine wpTree_done ?_
   simp only [List.drop_succ_cons, List.drop_zero]
   go_wp2_with ((at_builtin; refine wpList_append_here _ rfl _ _ 46 rfl (gw + 2 + 1) 24 i0 (.agg #[.slice none 0 0]) 1 24 Tryz.underlying46 hi0 hz0 hz1 hz2 rfl (by decide) (.slice va L.length vc) L.length (L.flatMap cellsPR) rfl HS3.out.o ⟨g2, 0, none⟩ 1 1 (cellsPR ⟨x.planes, qa, qc⟩) rfl rfl HNW.out (cellsPR_one _) (by decide) (by have := HLL.out; simp only [maxLen]; omega) (by have := HLL.out; omega) HN3.out ?_; intro v' w5 ho hg hat; obtain ⟨va', vc', rfl, -, -⟩ := own_slice ho; have HO5 := Lib.hid (show w5.ownsRow (gw + 2 + 1) 24 1 (.slice va' (L.length + 1) vc') (L ++ [(⟨x.planes, qa, qc⟩ : PR)]).length ((L ++ [(⟨x.planes, qa, qc⟩ : PR)]).flatMap cellsPR) by rw [List.flatMap_append, List.length_append]; simpa using ho); have HS5 := Lib.hid (HS3.out.put hg hat HPR.out (fun b e => by have := HNE.out b e; omega) (fun r hr b e => by have := HOF.out r hr b e; omega) HO5.out); have HOK := Lib.hid (show (Value.slice va L.length vc).ownBlock ≠ some (gw + 2) from fun e => by have := (own_lt HS3.out.o e).1; omega); have m0 := grown_cell hg HS3.out.c HOK.out; have mf := (grown_frozen hg HS3.out.c HOK.out).trans HS3.out.f; have HR5 := Lib.hid (show w5.cell? ⟨gw + 1, 0, none⟩ = some (.slice none 0 0) ∧ w5.frozen? ⟨gw + 1, 0, none⟩ = false from ⟨grown_cell hg HR3.out.1 fun e => by have h9 := (own_lt HS3.out.o e).1; simp only at h9; omega, (grown_frozen hg HR3.out.1 fun e => by have h9 := (own_lt HS3.out.o e).1; simp only at h9; omega).trans HR3.out.2⟩); have HOP5 := Lib.hid (show ∀ q ∈ L ++ [(⟨x.planes, qa, qc⟩ : PR)], OwnP (gw + 3) w5 q from fun q hq => by rcases List.mem_append.1 hq with hq | hq; exact (HOP3.out q hq).grown hg (fun b e => ((HS3.out.p q hq).pb b e).2); simp only [List.mem_singleton] at hq; subst hq; exact HON.out.grown hg (fun b e => (HPR.out.pb b e).2)); have HB5 := Lib.hid (below_grown HB3.out hg HB3.out.size fun j hj => by have := (own_lt HS3.out.o hj).1; have := HGW.out; omega); clear ho hg hat))
   refine NP_mk ?_
   have HL2 := Lib.hid (show (L ++ [(⟨x.planes, qa, qc⟩ : PR)]).map (fun r => (⟨r.ps⟩ : Cell)) = cells.take (k + 1) by rw [List.map_append, HL.out, HTK.out]; rfl)
   have HOF2 := Lib.hid (show ∀ r ∈ L ++ [(⟨x.planes, qa, qc⟩ : PR)], ∀ b, blk r.pa = some b → gw + 2 < b from fun r hr b e => by
    rcases List.mem_append.1 hr with hr | hr
    ·exact HOF.out r hr b e
    ·simp only [List.mem_singleton] at hr; subst hr; exact HNE.out b e)
   go_wp2_with fail
   go_roundw
   case rel =>
    refine ⟨k + 1, _, _, by omega, by go_num, HS5.out, HL2, HOF2, ⟨?_, ?_⟩, Lib.hid (fun q hq => (HOP5.out q hq).grown grownBy_set fun b e e' => by have := HOF2.out q hq b e; injection e' with e'; simp only at e'; omega), HAP2, HB5.out.setCell (by have := HGW.out; simp only; omega) _⟩
    ·rw [cell_set_other (by simp only; omega)]; exact HR5.out.1
    ·rw [frozen_set]; exact HR5.out.2
   case measure => first | (simp [intOf]; done) | (simp [intOf]; omega)
  ·obtain rfl : k = cells.length := by omega
   have hki : ¬ ((cells.length : Nat) : Int) < ((cells.length : Nat) : Int) := by omega
   have HLE := Lib.hid (show L.map (fun r => (⟨r.ps⟩ : Cell)) = cells by rw [HL.out, List.take_length])
   have s0 := hst.c
   clear hst hb hll
   go_wp2_with fail
   refine bodyPost_ret (v := .agg #[.slice va L.length vc]) ?_ ?_ ?_
   ·simp [results, Tryz.results122, go_sem, got1 r0]
   ·rfl
   ·have hne : (Value.slice va L.length vc).ownBlock ≠ some (gw + 1) := fun e => by have := (own_lt HS.out.o e).1; omega
    have ho := HS.out.o.kept (grownBy_set (a := ⟨gw + 1, 0, none⟩) (u := .slice va L.length vc)) (.inr hne)
    refine ⟨va, vc, L, rfl, HLE.out, own_mono ho (by have := HGW.out; omega), fun q hq => ?_, fun q hq => ⟨?_, fun b e => ((HS.out.p q hq).pb b e).2⟩, HAP.out, HB.out.setCell (by have := HGW.out; simp only; omega) _⟩
    ·have h := HS.out.p q hq
     exact ⟨⟨h.pls.grown (grownBy_set (a := ⟨gw + 1, 0, none⟩)) fun b e e' => by injection e' with e'; have := HOF.out q hq b e; simp only at e'; omega, h.len, h.cap, fun b e => ⟨by rw [size_set]; exact (h.pb b e).1, fun e' => by cases e'⟩⟩, fun b e => by have := HOF.out q hq b e; have := HGW.out; omega⟩
    ·exact own_mono ((HOP.out q hq).grown (grownBy_set (a := ⟨gw + 1, 0, none⟩) (u := .slice va L.length vc)) fun b e e' => by have := HOF.out q hq b e; injection e' with e'; simp only at e'; omega) (by have := HGW.out; omega)
end Go.Proofs.YtbhgkadklklmbaaGreat
/- A solid in rows of a call's own: its planes are turned one by one. -/
set_option linter.unusedVariables false
set_option linter.unusedSimpArgs false
namespace Go.Proofs.YtbhgkadklklmbaaGreat
open Go Go.RowKit Go.Sort Go.Lib

structure SolR (base : Nat) (w : World) (v : Value) (L : List PR) : Prop where
 o : w.ownsRow base 24 1 v L.length (L.flatMap cellsPR)
 p : ∀ i (hi : i < L.length), OwnP base w L[i]
 a : ∀ i j (hi : i < L.length) (hj : j < L.length), i ≠ j → ∀ b, blk L[i].pa = some b → blk L[j].pa ≠ some b
 s : ∀ i (hi : i < L.length) b, blk L[i].pa = some b → v.ownBlock ≠ some b
theorem SolR.keep {base : Nat} {w w' : World} {v : Value} {L : List PR} (h : SolR base w v L) (hb : Below w.heap.size w w') : SolR base w' v L := ⟨own_keep h.o hb, fun i hi => (h.p i hi).keep hb, h.a, h.s⟩
theorem solR_of {base : Nat} {w : World} {va : Option Addr} {vc : Nat} {L : List PR} (ho : w.ownsRow base 24 1 (.slice va L.length vc) L.length (L.flatMap cellsPR)) (hp : ∀ q ∈ L, OwnP base w q ∧ ∀ b, blk q.pa = some b → (Value.slice va L.length vc).ownBlock ≠ some b) (ha : ApP L) : SolR base w (.slice va L.length vc) L :=
 ⟨ho, fun i hi => (hp _ (List.getElem_mem hi)).1, fun i j hi hj hne b e => by
  rcases Nat.lt_or_gt_of_ne hne with h | h
  ·exact List.pairwise_iff_getElem.1 ha i j hi hj h b e
  ·exact fun e' => List.pairwise_iff_getElem.1 ha j i hj hi h b e' e, fun i hi b e => (hp _ (List.getElem_mem hi)).2 b e⟩
theorem flat_same {α : Type} {enc : α → List Value} : ∀ {l : List α} {i : Nat} {x : α} (hi : i < l.length), enc x = enc l[i] → (l.set i x).flatMap enc = l.flatMap enc
 | y :: l, 0, x, hi, h => by simp only [List.set_cons_zero, List.flatMap_cons]; rw [h]; rfl
 | y :: l, i + 1, x, hi, h => by
  simp only [List.set_cons_succ, List.flatMap_cons]
  rw [flat_same (l := l) (i := i) (x := x) (enc := enc) (by simpa using hi) h]
theorem blk_lt {base : Nat} {w : World} {q : PR} (h : OwnP base w q) : ∀ b, blk q.pa = some b → base ≤ b ∧ b < w.heap.size := own_blk_lt h
theorem SolR.put {base g : Nat} {w w' : World} {v : Value} {L : List PR} {i : Nat} {ps' : List Pl} (h : SolR base w v L) (hi : i < L.length) (hb : blk L[i].pa = some g) (hl : ps'.length = L[i].ps.length) (ho : OwnP base w' ⟨ps', L[i].pa, L[i].pc⟩) (hg : w.grownBy w' (some g)) : SolR base w' v (L.set i ⟨ps', L[i].pa, L[i].pc⟩) := by
 have key : ∀ j (hj : j < L.length), (L.set i ⟨ps', L[i].pa, L[i].pc⟩)[j]'(by rw [List.length_set]; exact hj) = if i = j then ⟨ps', L[i].pa, L[i].pc⟩ else L[j] := fun j hj => by rw [List.getElem_set]
 have kpa : ∀ j (hj : j < L.length), ((L.set i ⟨ps', L[i].pa, L[i].pc⟩)[j]'(by rw [List.length_set]; exact hj)).pa = L[j].pa := fun j hj => by
  rw [key j hj]; split
  ·rename_i e; subst e; rfl
  ·rfl
 refine ⟨?_, fun j hj => ?_, fun j k hj hk hne b e => ?_, fun j hj b e => ?_⟩
 ·rw [flat_same hi (by unfold cellsPR; rw [hl]), List.length_set]
  exact h.o.kept hg (by
   cases hv : v.ownBlock with
   | none => exact .inl rfl
   | some k => exact .inr fun e => h.s i hi g hb (by rw [hv, e]))
 ·rw [List.length_set] at hj
  rw [key j hj]
  split
  ·exact ho
  ·rename_i hne
   exact (h.p j hj).grown hg fun b e e' => by injection e' with e'; subst e'; exact h.a i j hi hj hne g hb e
 ·rw [List.length_set] at hj hk
  rw [kpa j hj] at e
  rw [kpa k hk]
  exact h.a j k hj hk hne b e
 ·rw [List.length_set] at hj
  rw [kpa j hj] at e
  exact h.s j hj b e
/-- Where a plane lies. -/
theorem OwnP.at_ {base : Nat} {w : World} {q : PR} (h : OwnP base w q) {c : Nat} (hc : c < q.ps.length) : ∃ g, q.pa = some ⟨g, 0, none⟩ ∧ blk q.pa = some g ∧ base ≤ g ∧ g < w.heap.size ∧
    (w.cell? ⟨g, c * 4, none⟩ = some (.int .i64 q.ps[c].a) ∧ w.cell? ⟨g, c * 4 + 1, none⟩ = some (.int .i64 q.ps[c].b) ∧ w.cell? ⟨g, c * 4 + 2, none⟩ = some (.int .i64 q.ps[c].c) ∧ w.cell? ⟨g, c * 4 + 3, none⟩ = some (.int .i64 q.ps[c].d)) ∧
    (w.frozen? ⟨g, c * 4, none⟩ = false ∧ w.frozen? ⟨g, c * 4 + 1, none⟩ = false ∧ w.frozen? ⟨g, c * 4 + 2, none⟩ = false ∧ w.frozen? ⟨g, c * 4 + 3, none⟩ = false) := by
 obtain ⟨g, cap, e, hb, hg, -, -, -, hx⟩ := own_cells cellsPl_len h (List.ne_nil_of_length_pos (by omega)) (by decide)
 injection e with e1 e2 e3
 have c0 := hx c hc 0 (by decide)
 have c1 := hx c hc 1 (by decide)
 have c2 := hx c hc 2 (by decide)
 have c3 := hx c hc 3 (by decide)
 exact ⟨g, e1, by rw [e1]; rfl, hb, hg, ⟨c0.1, c1.1, c2.1, c3.1⟩, c0.2, c1.2, c2.2, c3.2⟩
/-- Where a cell lies. -/
theorem SolR.cell {base : Nat} {w : World} {va : Option Addr} {n vc : Nat} {L : List PR} (h : SolR base w (.slice va n vc) L) {i : Nat} (hi : i < L.length) : ∃ g, va = some ⟨g, 0, none⟩ ∧ base ≤ g ∧ g < w.heap.size ∧ w.cell? ⟨g, i, none⟩ = some (.slice L[i].pa L[i].ps.length L[i].pc) := by
 have h1 := h.o.1
 obtain ⟨g, cap, e, hb, hg, -, -, -, hx⟩ := own_cells cellsPR_len h.o (List.ne_nil_of_length_pos (by omega)) (by decide)
 injection e with e1 e2 e3
 have c0 := (hx i hi 0 (by decide)).1
 rw [Nat.mul_one, Nat.add_zero] at c0
 exact ⟨g, e1, hb, hg, c0⟩
/-- One number of a plane is stored. -/
theorem SolR.setD {base : Nat} {w : World} {v : Value} {L : List PR} {i c g : Nat} {D : Int} (h : SolR base w v L) (hi : i < L.length) (hc : c < L[i].ps.length) (hg : L[i].pa = some ⟨g, 0, none⟩) :
    SolR base (w.setCell ⟨g, c * 4 + 3, none⟩ (.int .i64 D)) v (L.set i ⟨L[i].ps.set c ⟨L[i].ps[c].a, L[i].ps[c].b, L[i].ps[c].c, D⟩, L[i].pa, L[i].pc⟩) := by
 have ho := h.p i hi
 unfold OwnP at ho
 rw [hg] at ho
 have h1 := own_setCell (c := 3) (i := c) (x' := ⟨L[i].ps[c].a, L[i].ps[c].b, L[i].ps[c].c, D⟩) (u := .int .i64 D) cellsPl_len ho (by decide) hc (by decide) rfl
 refine h.put hi (by rw [hg]; rfl) (by rw [List.length_set]) ?_ (grownBy_set (a := ⟨g, c * 4 + 3, none⟩))
 unfold OwnP
 simp only [List.length_set]
 rw [hg]
 exact h1
def put4 (w : World) (g c : Nat) (q : Pl) : World := (((w.setCell ⟨g, c * 4, none⟩ (.int .i64 q.a)).setCell ⟨g, c * 4 + 1, none⟩ (.int .i64 q.b)).setCell ⟨g, c * 4 + 2, none⟩ (.int .i64 q.c)).setCell ⟨g, c * 4 + 3, none⟩ (.int .i64 q.d)
/-- A whole plane is stored. -/
theorem SolR.put4 {base : Nat} {w : World} {v : Value} {L : List PR} {i c g : Nat} (q : Pl) (h : SolR base w v L) (hi : i < L.length) (hc : c < L[i].ps.length) (hg : L[i].pa = some ⟨g, 0, none⟩) :
    SolR base (put4 w g c q) v (L.set i ⟨L[i].ps.set c q, L[i].pa, L[i].pc⟩) := by
 have ho := h.p i hi
 unfold OwnP at ho
 rw [hg] at ho
 have h1 := own_putPl q ho hc
 refine h.put hi (by rw [hg]; rfl) (by rw [List.length_set]) ?_ (grown_both (grown_both (grown_both (grownBy_set (a := ⟨g, c * 4, none⟩)) (grownBy_set (a := ⟨g, c * 4 + 1, none⟩))) (grownBy_set (a := ⟨g, c * 4 + 2, none⟩))) (grownBy_set (a := ⟨g, c * 4 + 3, none⟩)))
 unfold OwnP
 simp only [List.length_set]
 rw [hg]
 exact h1
/-- What the walk of a changed copy keeps. -/
structure MvSt (N g8 : Nat) (W5 w : World) (va : Option Addr) (n vc : Nat) (L : List PR) : Prop where
 s : SolR N w (.slice va n vc) L
 c : w.cell? ⟨g8, 0, none⟩ = some (.slice va n vc)
 lt : ∀ i (hi : i < L.length) b, blk L[i].pa = some b → b < g8
 b : Below N W5 w
 n : N ≤ w.heap.size
theorem MvSt.keep {N g8 : Nat} {W5 w w' : World} {va : Option Addr} {n vc : Nat} {L : List PR} (h : MvSt N g8 W5 w va n vc L) (hb : Below w.heap.size w w') : MvSt N g8 W5 w' va n vc L :=
 ⟨h.s.keep hb, cell_keep hb h.c, h.lt, h.b.trans (hb.mono h.n), Nat.le_trans h.n hb.size⟩
theorem MvSt.setD {N g8 : Nat} {W5 w : World} {va : Option Addr} {n vc : Nat} {L : List PR} {i c g : Nat} {D : Int} (h : MvSt N g8 W5 w va n vc L) (hi : i < L.length) (hc : c < L[i].ps.length) (hg : L[i].pa = some ⟨g, 0, none⟩) :
    MvSt N g8 W5 (w.setCell ⟨g, c * 4 + 3, none⟩ (.int .i64 D)) va n vc (L.set i ⟨L[i].ps.set c ⟨L[i].ps[c].a, L[i].ps[c].b, L[i].ps[c].c, D⟩, L[i].pa, L[i].pc⟩) := by
 have hgl := h.lt i hi g (by rw [hg]; rfl)
 have hgN := (blk_lt (h.s.p i hi) g (by rw [hg]; rfl)).1
 refine ⟨h.s.setD hi hc hg, by rw [cell_set_blk (by omega)]; exact h.c, fun j hj b e => ?_, h.b.setCell hgN _, by rw [size_set]; exact h.n⟩
 rw [List.length_set] at hj
 rw [List.getElem_set] at e
 split at e
 ·rename_i e'; subst e'; exact h.lt _ hi b e
 ·exact h.lt j hj b e
theorem MvSt.put4 {N g8 : Nat} {W5 w : World} {va : Option Addr} {n vc : Nat} {L : List PR} {i c g : Nat} (q : Pl) (h : MvSt N g8 W5 w va n vc L) (hi : i < L.length) (hc : c < L[i].ps.length) (hg : L[i].pa = some ⟨g, 0, none⟩) :
    MvSt N g8 W5 (Go.Proofs.YtbhgkadklklmbaaGreat.put4 w g c q) va n vc (L.set i ⟨L[i].ps.set c q, L[i].pa, L[i].pc⟩) := by
 have hgl := h.lt i hi g (by rw [hg]; rfl)
 have hgN := (blk_lt (h.s.p i hi) g (by rw [hg]; rfl)).1
 refine ⟨h.s.put4 q hi hc hg, ?_, fun j hj b e => ?_, ?_, ?_⟩
 ·unfold Go.Proofs.YtbhgkadklklmbaaGreat.put4
  rw [cell_set_blk (by omega), cell_set_blk (by omega), cell_set_blk (by omega), cell_set_blk (by omega)]; exact h.c
 ·rw [List.length_set] at hj
  rw [List.getElem_set] at e
  split at e
  ·rename_i e'; subst e'; exact h.lt _ hi b e
  ·exact h.lt j hj b e
 ·exact (((h.b.setCell hgN _).setCell hgN _).setCell hgN _).setCell hgN _
 ·unfold Go.Proofs.YtbhgkadklklmbaaGreat.put4; rw [size_set, size_set, size_set, size_set]; exact h.n
/-- The copy's cells, as a solid. -/
theorem SolR.cells {base : Nat} {w : World} {va : Option Addr} {n vc : Nat} {L : List PR} (h : SolR base w (.slice va n vc) L) (hw : ∀ q ∈ L, ∀ p ∈ q.ps, p.wf) : n = L.length ∧ Cells.V w va (L.map fun r => ⟨r.ps⟩) := by
 obtain ⟨rfl, -⟩ := own_len_le h.o
 refine ⟨rfl, prs_cells h.o (v := .slice none 0 0) fun q hq => ?_⟩
 obtain ⟨i, hi, rfl⟩ := List.mem_iff_getElem.1 hq
 have ho := h.p i hi
 exact ⟨ownPlV (hw _ hq) ho, (own_len_le ho).2, by obtain ⟨a1, c1, e1, -, h1⟩ := own_slice ho; injection e1 with e2 e3 e4; rw [e4]; exact h1, fun b e => ⟨(blk_lt ho b e).2, fun e' => by cases e'⟩⟩
end Go.Proofs.YtbhgkadklklmbaaGreat
/- A list of which the first elements are changed; a copied solid whose planes are changed one by one. -/
set_option linter.unusedVariables false
set_option linter.unusedSimpArgs false
namespace Go.Proofs.YtbhgkadklklmbaaGreat
open Go Go.RowKit Go.Sort Go.Lib

section
variable {α : Type}
/-- The first k elements are changed. -/
def mixF (f : α → α) (l : List α) (k : Nat) : List α := (l.take k).map f ++ l.drop k
theorem mixF_zero (f : α → α) (l : List α) : mixF f l 0 = l := by unfold mixF; simp
theorem mixF_end (f : α → α) (l : List α) : mixF f l l.length = l.map f := by unfold mixF; simp
theorem mixF_len (f : α → α) (l : List α) {k : Nat} (hk : k ≤ l.length) : (mixF f l k).length = l.length := by unfold mixF; simp; omega
theorem mixF_get (f : α → α) {l : List α} {k : Nat} (hk : k < l.length) : (mixF f l k)[k]'(by rw [mixF_len f l (Nat.le_of_lt hk)]; exact hk) = l[k] := by
 unfold mixF
 rw [List.getElem_append_right (by simp; omega)]
 simp [Nat.min_eq_left (Nat.le_of_lt hk)]
theorem mixF_succ (f : α → α) {l : List α} {k : Nat} (hk : k < l.length) : (mixF f l k).set k (f l[k]) = mixF f l (k + 1) := by
 unfold mixF
 rw [List.take_succ_eq_append_getElem hk, List.map_append, List.map_cons, List.map_nil, List.append_assoc, List.set_append, if_neg (by simp; omega)]
 rw [show k - ((l.take k).map f).length = 0 by simp; omega, List.drop_eq_getElem_cons hk, List.set_cons_zero]
 rfl
end
theorem MvSt.pos {N g8 : Nat} {W5 w : World} {va : Option Addr} {n vc : Nat} {M : List PR} {q : PR} {f : Pl → Pl} {k m : Nat} (h : MvSt N g8 W5 w va n vc (M.set k ⟨mixF f q.ps m, q.pa, q.pc⟩)) (hk : k < M.length) (hm : m < q.ps.length) :
    ∃ g, q.pa = some ⟨g, 0, none⟩ ∧ N ≤ g ∧ g < g8 ∧ g < w.heap.size ∧
     (w.cell? ⟨g, m * 4, none⟩ = some (.int .i64 q.ps[m].a) ∧ w.cell? ⟨g, m * 4 + 1, none⟩ = some (.int .i64 q.ps[m].b) ∧ w.cell? ⟨g, m * 4 + 2, none⟩ = some (.int .i64 q.ps[m].c) ∧ w.cell? ⟨g, m * 4 + 3, none⟩ = some (.int .i64 q.ps[m].d)) ∧
     (w.frozen? ⟨g, m * 4, none⟩ = false ∧ w.frozen? ⟨g, m * 4 + 1, none⟩ = false ∧ w.frozen? ⟨g, m * 4 + 2, none⟩ = false ∧ w.frozen? ⟨g, m * 4 + 3, none⟩ = false) := by
 have hl : k < (M.set k ⟨mixF f q.ps m, q.pa, q.pc⟩).length := by rw [List.length_set]; exact hk
 have hp := h.s.p k hl
 have hlt := h.lt k hl
 rw [List.getElem_set_self] at hp hlt
 have hml : m < (mixF f q.ps m).length := by rw [mixF_len f q.ps (Nat.le_of_lt hm)]; exact hm
 obtain ⟨g, e, eb, h1, h2, h3, h4⟩ := hp.at_ (c := m) hml
 simp only [mixF_get f hm] at h3
 exact ⟨g, e, h1, hlt g eb, h2, h3, h4⟩
theorem MvSt.stepD {N g8 : Nat} {W5 w : World} {va : Option Addr} {n vc : Nat} {M : List PR} {q : PR} {f : Pl → Pl} {k m g : Nat} {D : Int} (h : MvSt N g8 W5 w va n vc (M.set k ⟨mixF f q.ps m, q.pa, q.pc⟩)) (hk : k < M.length) (hm : m < q.ps.length) (hg : q.pa = some ⟨g, 0, none⟩) (hf : f q.ps[m] = ⟨q.ps[m].a, q.ps[m].b, q.ps[m].c, D⟩) :
    MvSt N g8 W5 (w.setCell ⟨g, m * 4 + 3, none⟩ (.int .i64 D)) va n vc (M.set k ⟨mixF f q.ps (m + 1), q.pa, q.pc⟩) := by
 have hl : k < (M.set k ⟨mixF f q.ps m, q.pa, q.pc⟩).length := by rw [List.length_set]; exact hk
 have hml : m < (mixF f q.ps m).length := by rw [mixF_len f q.ps (Nat.le_of_lt hm)]; exact hm
 have h1 := h.setD (i := k) (c := m) (g := g) (D := D) hl (by rw [List.getElem_set_self]; exact hml) (by rw [List.getElem_set_self]; exact hg)
 simp only [List.getElem_set_self, List.set_set, mixF_get f hm] at h1
 rw [← hf, mixF_succ f hm] at h1
 exact h1
theorem MvSt.step4 {N g8 : Nat} {W5 w : World} {va : Option Addr} {n vc : Nat} {M : List PR} {q : PR} {f : Pl → Pl} {k m g : Nat} (h : MvSt N g8 W5 w va n vc (M.set k ⟨mixF f q.ps m, q.pa, q.pc⟩)) (hk : k < M.length) (hm : m < q.ps.length) (hg : q.pa = some ⟨g, 0, none⟩) :
    MvSt N g8 W5 (Go.Proofs.YtbhgkadklklmbaaGreat.put4 w g m (f q.ps[m])) va n vc (M.set k ⟨mixF f q.ps (m + 1), q.pa, q.pc⟩) := by
 have hl : k < (M.set k ⟨mixF f q.ps m, q.pa, q.pc⟩).length := by rw [List.length_set]; exact hk
 have hml : m < (mixF f q.ps m).length := by rw [mixF_len f q.ps (Nat.le_of_lt hm)]; exact hm
 have h1 := h.put4 (i := k) (c := m) (g := g) (f q.ps[m]) hl (by rw [List.getElem_set_self]; exact hml) (by rw [List.getElem_set_self]; exact hg)
 simp only [List.getElem_set_self, List.set_set] at h1
 rw [mixF_succ f hm] at h1
 exact h1
/-- A cell whose planes are changed. -/
def chR (f : Pl → Pl) (q : PR) : PR := ⟨q.ps.map f, q.pa, q.pc⟩
theorem MvSt.enter {N g8 : Nat} {W5 w : World} {va : Option Addr} {n vc : Nat} {L : List PR} {f : Pl → Pl} {k : Nat} (h : MvSt N g8 W5 w va n vc (mixF (chR f) L k)) (hk : k < L.length) : MvSt N g8 W5 w va n vc ((mixF (chR f) L k).set k ⟨mixF f L[k].ps 0, L[k].pa, L[k].pc⟩) := by
 rw [mixF_zero]
 have e : (⟨L[k].ps, L[k].pa, L[k].pc⟩ : PR) = (mixF (chR f) L k)[k]'(by rw [mixF_len _ L (Nat.le_of_lt hk)]; exact hk) := by rw [mixF_get (chR f) hk]
 rw [e, List.set_getElem_self]
 exact h
theorem MvSt.leave {N g8 : Nat} {W5 w : World} {va : Option Addr} {n vc : Nat} {L : List PR} {f : Pl → Pl} {k : Nat} (hk : k < L.length) (h : MvSt N g8 W5 w va n vc ((mixF (chR f) L k).set k ⟨mixF f L[k].ps L[k].ps.length, L[k].pa, L[k].pc⟩)) : MvSt N g8 W5 w va n vc (mixF (chR f) L (k + 1)) := by
 rw [mixF_end] at h
 rw [← mixF_succ (chR f) hk]
 exact h
/-- Where the k-th cell lies, while its planes are changed. -/
theorem MvSt.cell {N g8 : Nat} {W5 w : World} {va : Option Addr} {n vc : Nat} {M : List PR} {q : PR} {f : Pl → Pl} {k m : Nat} (h : MvSt N g8 W5 w va n vc (M.set k ⟨mixF f q.ps m, q.pa, q.pc⟩)) (hk : k < M.length) (hm : m ≤ q.ps.length) :
    ∃ g, va = some ⟨g, 0, none⟩ ∧ N ≤ g ∧ g < w.heap.size ∧ w.cell? ⟨g, k, none⟩ = some (.slice q.pa q.ps.length q.pc) := by
 have hl : k < (M.set k ⟨mixF f q.ps m, q.pa, q.pc⟩).length := by rw [List.length_set]; exact hk
 obtain ⟨g, e, h1, h2, h3⟩ := h.s.cell hl
 rw [List.getElem_set_self] at h3
 simp only [mixF_len f q.ps hm] at h3
 exact ⟨g, e, h1, h2, h3⟩
end Go.Proofs.YtbhgkadklklmbaaGreat
