/- The copy of a solid. -/
import Derived.Test.YtbhgkadklklmbaaGreatQO
import Derived.Test.YtbhgkadklklmbaaGreatQI
import Derived.Test.YtbhgkadklklmbaaGreatQL
set_option linter.unusedVariables false
set_option linter.unusedSimpArgs false
namespace Go.Proofs.YtbhgkadklklmbaaGreat
open Go Go.RowKit Go.Sort Go.Lib

/-- Planes in memory. -/
structure PR where
  ps : List Pl
  pa : Option Addr
  pc : Nat
def cellsPR (r : PR) : List Value := [.slice r.pa r.ps.length r.pc]
theorem cellsPR_len (r : PR) : (cellsPR r).length = 1 := rfl
theorem cellsPR_one (r : PR) : ∀ v ∈ cellsPR r, v.oneCell' = true := by
  intro v hv
  simp only [cellsPR, List.mem_cons, List.not_mem_nil, or_false] at hv
  subst hv; rfl
structure PRok (w : World) (v : Value) (r : PR) : Prop where
  pls : Pls.V w r.pa r.ps
  len : r.ps.length ≤ r.pc
  cap : r.pc ≤ 9223372036854775807
  pb : ∀ b, blk r.pa = some b → b < w.heap.size ∧ v.ownBlock ≠ some b
theorem PRok.keep {w w' : World} {v : Value} {r : PR} (h : PRok w v r) (hb : Below w.heap.size w w') : PRok w' v r :=
  ⟨h.pls.keep hb, h.len, h.cap, fun b e => ⟨Nat.lt_of_lt_of_le (h.pb b e).1 hb.size, (h.pb b e).2⟩⟩
theorem PRok.grown {w w' : World} {v v' : Value} {r : PR} (h : PRok w v r) (hg : w.grownBy w' v.ownBlock) (hv : v'.ownBlock = v.ownBlock ∨ v'.ownBlock = some w.heap.size) : PRok w' v' r :=
  ⟨h.pls.grown hg fun b e => (h.pb b e).2, h.len, h.cap, fun b e => ⟨Nat.lt_of_lt_of_le (h.pb b e).1 hg.size, fun e' => by
    rcases hv with hv | hv
    · exact (h.pb b e).2 (hv ▸ e')
    · rw [hv] at e'; injection e' with e'; have := (h.pb b e).1; omega⟩⟩
/-- A copy under way: its box, its row. -/
structure CpSt (g : Nat) (w : World) (v : Value) (L : List PR) : Prop where
  c : w.cell? ⟨g, 0, none⟩ = some v
  f : w.frozen? ⟨g, 0, none⟩ = false
  o : w.ownsRow (g + 1) 24 1 v L.length (L.flatMap cellsPR)
  p : ∀ q ∈ L, PRok w v q
theorem CpSt.lt {g : Nat} {w : World} {v : Value} {L : List PR} (h : CpSt g w v L) : g < w.heap.size := block_lt_of_cell h.c
theorem CpSt.keep {g : Nat} {w w' : World} {v : Value} {L : List PR} (h : CpSt g w v L) (hb : Below w.heap.size w w') : CpSt g w' v L :=
  ⟨cell_keep hb h.c, frozen_keep hb h.lt h.f, own_keep h.o hb, fun q hq => (h.p q hq).keep hb⟩
theorem CpSt.put {g : Nat} {w w' : World} {v v' : Value} {L : List PR} {q : PR} (h : CpSt g w v L) (hg : w.grownBy w' v.ownBlock) (hv : v'.ownBlock = v.ownBlock ∨ v'.ownBlock = some w.heap.size) (hq : PRok w v q) (hq1 : ∀ b, blk q.pa = some b → b ≠ g) (hL : ∀ r ∈ L, ∀ b, blk r.pa = some b → b ≠ g)
    (ho : w'.ownsRow (g + 1) 24 1 v' (L ++ [q]).length ((L ++ [q]).flatMap cellsPR)) : CpSt g (w'.setCell ⟨g, 0, none⟩ v') v' (L ++ [q]) := by
  have hne : v.ownBlock ≠ some g := fun e => by have := (own_lt h.o e).1; omega
  have hne' : v'.ownBlock ≠ some g := fun e => by have := (own_lt ho e).1; omega
  have hc' : w'.cell? ⟨g, 0, none⟩ = some v := grown_cell hg h.c hne
  have hf' : w'.frozen? ⟨g, 0, none⟩ = false := (grown_frozen hg h.c hne).trans h.f
  have key : ∀ r : PR, PRok w v r → (∀ b, blk r.pa = some b → b ≠ g) → PRok (w'.setCell ⟨g, 0, none⟩ v') v' r := fun r hr h1 => by
    have h2 := hr.grown hg hv
    exact ⟨h2.pls.grown (grownBy_set (a := ⟨g, 0, none⟩)) fun b e e' => by injection e' with e'; exact h1 b e e'.symm, h2.len, h2.cap, fun b e => ⟨by rw [size_set]; exact (h2.pb b e).1, (h2.pb b e).2⟩⟩
  refine ⟨cell_set_same (by rw [hc']; rfl), by rw [frozen_set]; exact hf', ho.kept (grownBy_set (a := ⟨g, 0, none⟩)) (.inr hne'), fun r hr => ?_⟩
  rcases List.mem_append.1 hr with hr | hr
  · exact key r (h.p r hr) (hL r hr)
  · simp only [List.mem_singleton] at hr; subst hr; exact key _ hq hq1
theorem prs_cells {w : World} {base n c : Nat} {a : Option Addr} {L : List PR} (ho : w.ownsRow base 24 1 (.slice a n c) n (L.flatMap cellsPR)) {v : Value} (hp : ∀ q ∈ L, PRok w v q) : Cells.V w a (L.map fun r => ⟨r.ps⟩) := fun hne => by
  have hne' : L ≠ [] := fun e => hne (by rw [e]; rfl)
  obtain ⟨g, cap, e, -, -, -, -, -, hc⟩ := own_cells cellsPR_len ho hne' (by decide)
  injection e with e1 e2 e3
  subst e1
  refine ⟨g, 0, rfl, fun k x hk => ?_⟩
  rw [List.getElem?_map] at hk
  obtain ⟨r, hr, rfl⟩ := Option.map_eq_some_iff.1 hk
  obtain ⟨hkl, rfl⟩ := List.getElem?_eq_some_iff.1 hr
  have h1 := (hc k hkl 0 (by decide)).1
  have h2 := hp _ (List.getElem_mem hkl)
  rw [Nat.add_zero] at h1
  rw [Nat.zero_add]
  exact ⟨L[k].pa, L[k].pc, h1, h2.pls, h2.len, h2.cap, trivial⟩
theorem pls_wf {w : World} {a : Option Addr} {l : List Pl} (h : Pls.V w a l) : ∀ p ∈ l, p.wf := fun p hp => by
  obtain ⟨b, off, rfl, hx⟩ := h (List.ne_nil_of_mem hp)
  obtain ⟨k, hk, rfl⟩ := List.mem_iff_getElem.1 hp
  exact (hx k _ (List.getElem?_eq_getElem hk)).2.2.2.2
set_option maxRecDepth 100000 in
set_option maxHeartbeats 8000000 in
theorem copySolid_any (cells : List Cell) (a : Option Addr) (c : Nat) (w : World) (hcl : cells.length ≤ 1000) (hv : Cells.V w a cells) (hpl : ∀ x ∈ cells, x.planes.length ≤ 1000) :
    Calls Tryz.prog 34 #[.agg #[.slice a cells.length c]] w fun e w' => ∃ va vc, e = .returned (.agg #[.slice va cells.length vc]) ∧ Cells.V w' va cells ∧ cells.length ≤ vc ∧ Below w.heap.size w w' := by
  have hmix : Tryz.prog.follows .mixedOrders = true := by kernel_rfl
  obtain ⟨i0, hi0, hz0, hz1, hz2⟩ := info_parts cellInfo
  obtain ⟨i1, hi1, hy0, hy1, hy2⟩ := info_parts infoPl
  have HV := Lib.hid hv
  have HPL := Lib.hid hpl
  clear hv hpl
  go_enter Tryz.func34, Tryz.ntmps34
  go_upto_region 2 with fail
  refine gen_world (fun W => W.cell? ⟨w.heap.size, 0, none⟩ = some (.slice a cells.length c) ∧ (W.cell? ⟨w.heap.size + 1, 0, none⟩ = some (.slice none 0 0) ∧ W.frozen? ⟨w.heap.size + 1, 0, none⟩ = false) ∧ CpSt (w.heap.size + 2) W (.slice none 0 0) [] ∧ Below w.heap.size w W) ⟨by simp [go_sem], ⟨by simp [go_sem], by simp [go_sem]⟩, ⟨by simp [go_sem], by simp [go_sem], ⟨rfl, .inl ⟨rfl, rfl⟩⟩, fun q hq => absurd hq (by simp)⟩, by repeat (first | (with_reducible assumption) | exact Below.refl _ _ | (refine Below.setCell ?_ (by first | omega | (simp; omega) | (simp; done)) _) | (refine Below.alloc ?_ (by first | omega | (simp; omega) | (simp; done)) _) | (refine Below.drew ?_))⟩ ?_
  rintro W ⟨b0, ⟨r0, rf0⟩, hst, hb⟩
  have HST := Lib.hid hst
  have HB0 := Lib.hid hb
  have HR := Lib.hid (And.intro b0 (And.intro r0 rf0))
  clear hst hb b0 r0 rf0
  obtain ⟨gw, hgw⟩ : ∃ g, g = w.heap.size := ⟨_, rfl⟩
  have HGW := Lib.hid hgw
  rw [← hgw] at HST HR ⊢
  clear hgw
  simp only [Nat.add_assoc, Nat.reduceAdd]
  go_wp2_with fail
  go_loopw [4] (fun iv wr => ∃ (k : Nat) (v : Value) (L : List PR), k ≤ cells.length ∧ iv = .int .i64 (k : Int) ∧ CpSt (gw + 2) wr v L ∧ Hid (L.map (fun r => (⟨r.ps⟩ : Cell)) = cells.take k) ∧ Hid (∀ r ∈ L, ∀ b, blk r.pa = some b → gw + 2 < b) ∧ (wr.cell? ⟨gw, 0, none⟩ = some (.slice a cells.length c) ∧ wr.cell? ⟨gw + 1, 0, none⟩ = some (.slice none 0 0) ∧ wr.frozen? ⟨gw + 1, 0, none⟩ = false) ∧ Below w.heap.size w wr) (fun iv _ => cells.length - (intOf iv).toNat)
  case atStart => exact ⟨0, _, [], Nat.zero_le _, rfl, HST.out, Lib.hid rfl, Lib.hid (fun r hr => absurd hr (by simp)), HR.out, HB0.out⟩
  case round =>
    obtain ⟨k, v, L, hk, rfl, hst, HL, HOF, ⟨b0, r0, rf0⟩, hb⟩ := hrel
    have HS := Lib.hid hst
    have HB := Lib.hid hb
    have HRR := Lib.hid (And.intro b0 (And.intro r0 rf0))
    obtain ⟨va, vc, rfl, -, -⟩ := own_slice hst.o
    have hll : L.length = k := by have := congrArg List.length HL.out; rw [List.length_map, List.length_take] at this; omega
    have HLL := Lib.hid hll
    have s0 := hst.c
    have sf0 := hst.f
    have hz := HB.out.size
    by_cases hlt : k < cells.length
    · have hki : (k : Int) < (cells.length : Int) := by omega
      obtain ⟨bb, off, rfl, hat⟩ := (HV.out.keep hb).at_ hlt
      have HTK := Lib.hid (show cells.take (k + 1) = cells.take k ++ [cells[k]] from List.take_succ_eq_append_getElem hlt)
      have HPK := Lib.hid (HPL.out _ (List.getElem_mem hlt))
      generalize cells[k] = x at *
      obtain ⟨xa, xc, x0, xv, -⟩ := hat
      rw [Nat.mul_one] at x0
      have HXV := Lib.hid xv
      clear hst hb xv hll
      go_upto_region 5 with fail
      have kx0 : ∀ y : KW (fun W' => Below wr.heap.size wr W'), (y.w.cell? ⟨gw + 2, 0, none⟩ = some (.slice va L.length vc) ∧ y.w.cell? ⟨gw, 0, none⟩ = some (.slice (some ⟨bb, off, none⟩) cells.length c) ∧ y.w.cell? ⟨bb, off + k, none⟩ = some (.slice xa x.planes.length xc)) := fun y => ⟨cell_keep y.ok s0, cell_keep y.ok b0, cell_keep y.ok x0⟩
      haveI n1 : Nonempty (KW (fun W' => Below wr.heap.size wr W')) := ⟨⟨wr, Below.refl _ _⟩⟩
      refine wp_region_tree (fun w' => ∃ y : KW (fun W' => Below wr.heap.size wr W'), w' = y.w) 12 (.take 0 (.take 1 (.take 3 (.take 4 (.take 5 (.take 6 (.take 7 (.take 8 (.one 2 (.one 9 (.take 10 (.one 11 .done)))))))))))) hmix (by kernel_rfl) (KW.mk' (Below.refl _ _).drew) ?_
      have HC0 := Lib.hid (show Below wr.heap.size wr wr.drew from (Below.refl _ _).drew)
      generalize wr.drew = ww0 at *
      repeat (refine wpTree_take ?_; simp only [nthOp]; (first | go_big_quiet_step (fail) | quiet_step (fail)); refine wpQuiet_nil ?_)
      refine wpTree_one ?_
      simp only [nthOp]
      go_wp2_with fail
      have HC1 := Lib.hid (HC0.out.alloc HC0.out.size (.cells #[] 26))
      have HO1 := Lib.hid (World.ownsRow_made (e := 26) (base := ww0.heap.size) (size := 4) ww0 #[] 0 (by omega) (by decide) (by simp))
      have HG0 := Lib.hid HC0.out.size
      have HPN := Lib.hid (plsNews (HXV.out.keep HC1.out))
      refine One_mk (KW.mk' HC1.out) ?_
      have HZ1 := Lib.hid (show ww0.heap.size ≤ (ww0.alloc (.cells #[] 26)).heap.size by simp)
      generalize (ww0.alloc (.cells #[] 26)) = ww1 at *
      generalize ww0.heap.size = g0 at *
      refine wpTree_one ?_
      simp only [nthOp]
      go_wp2_with (at_builtin; refine wpList_append_rows cellsPl_len cellsPl_one (by decide) rfl _ _ 22 rfl g0 26 i1 _ 32 Tryz.underlying22 hi1 hy0 hy1 hy2 rfl (by decide) (.slice (some ⟨g0, 0, none⟩) 0 0) 0 [] rfl HO1.out xa x.planes xc rfl HPN.out (by have := HPK.out; omega) HZ1.out ?_; intro v' ww2 ho hg ha; obtain ⟨qa, qc, rfl, hqc, hqm⟩ := own_slice ho; have HO2 := Lib.hid (show ww2.ownsRow g0 26 4 (.slice qa x.planes.length qc) x.planes.length (x.planes.flatMap cellsPl) by simpa using ho); have HC2 := Lib.hid (below_grown HC1.out hg HC1.out.size fun k hk => Nat.le_trans HG0.out (own_lt HO1.out hk).1); have HQC := Lib.hid (And.intro hqc hqm); clear ho hg ha hqc hqm)
      refine One_mk (KW.mk' HC2.out) ?_
      (refine wpTree_take ?_; simp only [nthOp]; (first | go_big_quiet_step (fail) | quiet_step (fail)); refine wpQuiet_nil ?_)
      refine wpTree_one ?_
      simp only [nthOp]
      go_wp2_with fail
      have HC3 := Lib.hid (HC2.out.alloc HC2.out.size (.cells #[.slice qa x.planes.length qc] 24))
      have HO3 := Lib.hid (own_keep HO2.out ((Below.refl ww2.heap.size ww2).alloc (Nat.le_refl _) (.cells #[.slice qa x.planes.length qc] 24)))
      have HNW := Lib.hid (show ∀ j u, (cellsPR ⟨x.planes, qa, qc⟩)[j]? = some u → (ww2.alloc (.cells #[.slice qa x.planes.length qc] 24)).cell? ((⟨ww2.heap.size, 0, none⟩ : Addr).add j) = some u from news_of (cellsPR ⟨x.planes, qa, qc⟩) 24 ww2 _ rfl)
      refine One_mk (KW.mk' HC3.out) ?_
      generalize (ww2.alloc (.cells #[.slice qa x.planes.length qc] 24)) = ww3 at *
      generalize ww2.heap.size = g2 at *
      have HS3 := Lib.hid (HS.out.keep HC3.out)
      have HXW := Lib.hid (pls_wf HXV.out)
      have HQV := Lib.hid (ownPlV HXW.out HO3.out)
      have HQB := Lib.hid (show ∀ b, blk qa = some b → wr.heap.size ≤ b ∧ b < ww3.heap.size from fun b e => ⟨Nat.le_trans HG0.out (own_blk_lt HO3.out b e).1, (own_blk_lt HO3.out b e).2⟩)
      have HPR := Lib.hid (show PRok ww3 (.slice va L.length vc) ⟨x.planes, qa, qc⟩ from ⟨HQV.out, (by have := HQC.out.1; simp only; omega), HQC.out.2, fun b e => ⟨(HQB.out b e).2, fun e' => by have h1 := (own_lt HS.out.o e').2; have h2 := (HQB.out b e).1; omega⟩⟩)
      have HGL := HS.out.lt
      have HNE := Lib.hid (show ∀ b, blk qa = some b → gw + 2 < b from fun b e => by have h2 := (HQB.out b e).1; omega)
      have HN3 := Lib.hid (show gw + 2 + 1 ≤ ww3.heap.size by have := HC3.out.size; omega)
      refine wpTree_done ?_
      simp only [List.drop_succ_cons, List.drop_zero]
      go_wp2_with (at_builtin; refine wpList_append_here _ rfl _ _ 46 rfl (gw + 2 + 1) 24 i0 (.agg #[.slice none 0 0]) 1 24 Tryz.underlying46 hi0 hz0 hz1 hz2 rfl (by decide) (.slice va L.length vc) L.length (L.flatMap cellsPR) rfl HS3.out.o ⟨g2, 0, none⟩ 1 1 (cellsPR ⟨x.planes, qa, qc⟩) rfl rfl HNW.out (cellsPR_one _) (by decide) (by have := HLL.out; simp only [maxLen]; omega) (by have := HLL.out; omega) HN3.out ?_; intro v' w5 ho hg hat; obtain ⟨va', vc', rfl, -, -⟩ := own_slice ho; have HO5 := Lib.hid (show w5.ownsRow (gw + 2 + 1) 24 1 (.slice va' (L.length + 1) vc') (L ++ [(⟨x.planes, qa, qc⟩ : PR)]).length ((L ++ [(⟨x.planes, qa, qc⟩ : PR)]).flatMap cellsPR) by rw [List.flatMap_append, List.length_append]; simpa using ho); have HS5 := Lib.hid (HS3.out.put hg hat HPR.out (fun b e => by have := HNE.out b e; omega) (fun r hr b e => by have := HOF.out r hr b e; omega) HO5.out); have HOK := Lib.hid (show (Value.slice va L.length vc).ownBlock ≠ some (gw + 2) from fun e => by have := (own_lt HS3.out.o e).1; omega); have s5 := grown_cell hg HS3.out.c HOK.out; have sf5 := (grown_frozen hg HS3.out.c HOK.out).trans HS3.out.f; have HB5 := Lib.hid (below_grown (HB.out.trans (HC3.out.mono HB.out.size)) hg (by have := HC3.out.size; have := HB.out.size; omega) fun k hk => by have h1 := (own_lt HS3.out.o hk).1; have h2 := HGW.out; omega); have HR5 := Lib.hid (And.intro (grown_cell hg (cell_keep HC3.out HRR.out.1) (fun e => by have h1 := (own_lt HS3.out.o e).1; simp only at h1; omega)) (And.intro (grown_cell hg (cell_keep HC3.out HRR.out.2.1) (fun e => by have h1 := (own_lt HS3.out.o e).1; simp only at h1; omega)) ((grown_frozen hg (cell_keep HC3.out HRR.out.2.1) (fun e => by have h1 := (own_lt HS3.out.o e).1; simp only at h1; omega)).trans (frozen_keep HC3.out (block_lt_of_cell HRR.out.2.1) HRR.out.2.2)))); clear ho hg hat)
      refine NP_mk ?_
      have HL2 := Lib.hid (show (L ++ [(⟨x.planes, qa, qc⟩ : PR)]).map (fun r => (⟨r.ps⟩ : Cell)) = cells.take (k + 1) by rw [List.map_append, HL.out, HTK.out]; rfl)
      have HOF2 := Lib.hid (show ∀ r ∈ L ++ [(⟨x.planes, qa, qc⟩ : PR)], ∀ b, blk r.pa = some b → gw + 2 < b from fun r hr b e => by
        rcases List.mem_append.1 hr with hr | hr
        · exact HOF.out r hr b e
        · simp only [List.mem_singleton] at hr; subst hr; exact HNE.out b e)
      go_wp2_with fail
      go_roundw
      case rel =>
        refine ⟨k + 1, _, _, by omega, by go_num, HS5.out, HL2, HOF2, ⟨?_, ?_, ?_⟩, HB5.out.setCell (by have := HGW.out; simp only; omega) _⟩
        · rw [cell_set_other (by simp only; omega)]; exact HR5.out.1
        · rw [cell_set_other (by simp only; omega)]; exact HR5.out.2.1
        · rw [frozen_set]; exact HR5.out.2.2
      case measure => first | (simp [intOf]; done) | (simp [intOf]; omega)
    · obtain rfl : k = cells.length := by omega
      have hki : ¬ ((cells.length : Nat) : Int) < ((cells.length : Nat) : Int) := by omega
      have HLE := Lib.hid (show L.map (fun r => (⟨r.ps⟩ : Cell)) = cells by rw [HL.out, List.take_length])
      clear hst hb hll
      go_wp2_with fail
      refine bodyPost_ret (v := .agg #[.slice va L.length vc]) ?_ ?_ ?_
      · simp [results, Tryz.results34, go_sem, got1 r0]
      · rfl
      · have hne : (Value.slice va L.length vc).ownBlock ≠ some (gw + 1) := fun e => by have := (own_lt HS.out.o e).1; omega
        have ho := HS.out.o.kept (grownBy_set (a := ⟨gw + 1, 0, none⟩) (u := .slice va L.length vc)) (.inr hne)
        have hcv := prs_cells ho (v := .slice none 0 0) fun q hq => by
          have h := HS.out.p q hq
          exact ⟨h.pls.grown (grownBy_set (a := ⟨gw + 1, 0, none⟩)) fun b e e' => by injection e' with e'; have := HOF.out q hq b e; simp only at e'; omega, h.len, h.cap, fun b e => ⟨by rw [size_set]; exact (h.pb b e).1, fun e' => by cases e'⟩⟩
        rw [HLE.out] at hcv
        rw [HLL.out] at hcv
        exact ⟨va, vc, by rw [HLL.out], (by rw [HLL.out]; exact hcv), by rw [← HLL.out]; exact (own_len_le HS.out.o).2, HB.out.setCell (by have := HGW.out; simp only; omega) _⟩
end Go.Proofs.YtbhgkadklklmbaaGreat
/- Where a point lies at a solid, as the program says it. -/
set_option linter.unusedVariables false
set_option linter.unusedSimpArgs false
namespace Go.Proofs.YtbhgkadklklmbaaGreat
open Go Go.RowKit Go.Sort Go.Lib

def wrs (c : Co) (t : Int) : List Pl → Int
  | [] => t
  | p :: l => wrs c (max t (sd p c)) l
def whr (c : Co) (b : Int) : List Cell → Int
  | [] => b
  | x :: l => whr c (max b (-(wrs c (-1) x.planes))) l
theorem sd_three (p : Pl) (c : Co) : sd p c = -1 ∨ sd p c = 0 ∨ sd p c = 1 := by unfold sd cmpI; split <;> (try split) <;> simp
theorem wrs_drop {c : Co} {t : Int} {l : List Pl} {k : Nat} (hk : k < l.length) : wrs c t (l.drop k) = wrs c (max t (sd l[k] c)) (l.drop (k + 1)) := by rw [List.drop_eq_getElem_cons hk, wrs]
theorem whr_drop {c : Co} {b : Int} {l : List Cell} {k : Nat} (hk : k < l.length) : whr c b (l.drop k) = whr c (max b (-(wrs c (-1) l[k].planes))) (l.drop (k + 1)) := by rw [List.drop_eq_getElem_cons hk, whr]
def wheE (cells : List Cell) (c : Co) : Int := if solE cells ≠ 0 then solE cells else coE c
def wheV (cells : List Cell) (c : Co) : Int := if wheE cells c = 0 then whr c (-1) cells else 0
set_option maxRecDepth 100000 in
set_option maxHeartbeats 8000000 in
theorem where_any (cells : List Cell) (a : Option Addr) (n : Nat) (c : Co) (w : World) (hcl : cells.length ≤ 9223372036854775807) (hv : Cells.V w a cells) (hpl : ∀ x ∈ cells, x.planes.length ≤ 1000000) :
    Calls Tryz.prog 52 #[.agg #[.slice a cells.length n], .agg #[.int .i64 c.x, .int .i64 c.y, .int .i64 c.z, .int .i64 c.n]] w fun e w' => e = .returned (.tuple #[.int .i64 (wheV cells c), .int .i64 (wheE cells c)]) ∧ Below w.heap.size w w' := by
  obtain ⟨E, hE⟩ : ∃ E, E = wheE cells c := ⟨_, rfl⟩
  obtain ⟨V, hV⟩ : ∃ V, V = wheV cells c := ⟨_, rfl⟩
  have HE := Lib.hid (show E = if solE cells ≠ 0 then solE cells else coE c from hE)
  have HV := Lib.hid (show V = if E = 0 then whr c (-1) cells else 0 by rw [hV, hE]; rfl)
  rw [← hE, ← hV]
  clear hE hV
  have HCV := Lib.hid hv
  have HC := Lib.hid (fun W (h : Below w.heap.size w W) => check_any cells a n W hcl (hv.keep h) hpl)
  have HP := Lib.hid (fun W => checkPoint_any c W)
  have HS := Lib.hid (fun (p : Pl) (hp : p.in_) (hc : c.in_) W => side_any p c hp hc W)
  have HGD := Lib.hid (show solE cells = 0 → ∀ x ∈ cells, Good x.planes from fun h x hx => by
    have h1 : chkCs cells = 0 := by unfold solE at h; split at h <;> first | exact h | omega
    exact good_of (readE_zero.1 (chkCs_all.1 h1 x hx)).2.1)
  have HPL := Lib.hid hpl
  clear hv hpl
  go_enter Tryz.func52, Tryz.ntmps52
  go_upto_region 1 with fail
  refine gen_world (fun W => W.cell? ⟨w.heap.size, 0, none⟩ = some (.slice a cells.length n) ∧ CoBx W (w.heap.size + 1) c ∧ Below w.heap.size w W) ⟨by simp [go_sem], ⟨by simp [go_sem], by simp [go_sem], by simp [go_sem], by simp [go_sem]⟩, by repeat (first | (with_reducible assumption) | exact Below.refl _ _ | (refine Below.setCell ?_ (by first | omega | (simp; omega) | (simp; done)) _) | (refine Below.alloc ?_ (by first | omega | (simp; omega) | (simp; done)) _) | (refine Below.drew ?_))⟩ ?_
  rintro W ⟨b0, hc, hb⟩
  have HB := Lib.hid hb
  have HCB := Lib.hid hc
  obtain ⟨c0, c1, c2, c3⟩ := hc
  clear hb
  obtain ⟨gw, hgw⟩ : ∃ g, g = w.heap.size := ⟨_, rfl⟩
  have HGW := Lib.hid hgw
  rw [← hgw] at b0 c0 c1 c2 c3 HCB ⊢
  clear hgw
  by_cases h1 : solE cells = 0
  · have HG := Lib.hid (HGD.out h1)
    rw [h1] at HC
    have HE1 := Lib.hid (show E = coE c by rw [HE.out]; simp [h1])
    clear h1 HGD
    by_cases h2 : coE c = 0
    · rw [h2] at HP
      have HE2 := Lib.hid (show E = 0 by rw [HE1.out, h2])
      have HV2 := Lib.hid (show V = whr c (-1) cells by rw [HV.out, if_pos HE2.out])
      have HCI := Lib.hid (coE_in h2)
      clear h2 HE HE1 HV
      go_upto_region 7 with (first
        | (have h := HC.out; clear HC; go_at_call 48; refine (h _ HB.out).mono ?_; clear h; rintro e w1 ⟨rfl, hb1⟩; have HB1 := Lib.hid (HB.out.trans (hb1.mono HB.out.size)); have b0 := cell_keep hb1 b0; have c0 := cell_keep hb1 c0; have c1 := cell_keep hb1 c1; have c2 := cell_keep hb1 c2; have c3 := cell_keep hb1 c3; clear hb1)
        | (have h := HP.out; clear HP; go_at_call 91; refine (h _).mono ?_; clear h; rintro e w2 ⟨rfl, hb2⟩; have HB2 := Lib.hid (HB1.out.trans (hb2.mono HB1.out.size)); have b0 := cell_keep hb2 b0; have c0 := cell_keep hb2 c0; have c1 := cell_keep hb2 c1; have c2 := cell_keep hb2 c2; have c3 := cell_keep hb2 c3; clear hb2))
      have HCX := Lib.hid (show CoBx w2 (gw + 1) c from ⟨c0, c1, c2, c3⟩)
      have HVW := Lib.hid (HCV.out.keep HB2.out)
      clear c0 c1 c2 c3
      go_wp2_with fail
      go_loopw [8, 27] (fun bv iv wr => ∃ (k : Nat) (b : Int), k ≤ cells.length ∧ iv = .int .i64 (k : Int) ∧ bv = .int .i64 b ∧ Hid (whr c (-1) cells = whr c b (cells.drop k)) ∧ Below w2.heap.size w2 wr) (fun _ iv _ => cells.length - (intOf iv).toNat)
      case atStart => exact ⟨0, -1, Nat.zero_le _, rfl, rfl, Lib.hid rfl, Below.refl _ _⟩
      case round =>
        obtain ⟨k, b, hk, rfl, rfl, HK, hb⟩ := hrel
        have HB3 := Lib.hid hb
        have HBW3 := Lib.hid (HB2.out.trans (hb.mono HB2.out.size))
        by_cases hlt : k < cells.length
        · have hki : (k : Int) < (cells.length : Int) := by omega
          obtain ⟨bb, off, rfl, hat⟩ := (HVW.out.keep hb).at_ hlt
          have HD := Lib.hid (whr_drop (c := c) (b := b) hlt)
          have HGX := Lib.hid (HG.out _ (List.getElem_mem hlt))
          have HXL := Lib.hid (HPL.out _ (List.getElem_mem hlt))
          generalize cells[k] = x at *
          obtain ⟨xa, xc, x0, xv, -⟩ := hat
          rw [Nat.mul_one] at x0
          have HXV := Lib.hid xv
          obtain ⟨ps, hps⟩ : ∃ ps, ps = x.planes := ⟨_, rfl⟩
          rw [← hps] at HD HGX HXL HXV x0
          have hxl := HXL.out
          clear xv hps
          go_upto_region 12 with fail
          refine gen_world (fun W3 => W3.cell? ⟨wr.heap.size, 0, none⟩ = some (.slice xa ps.length xc) ∧ Below wr.heap.size wr W3) ⟨by simp [go_sem], by repeat (first | (with_reducible assumption) | exact Below.refl _ _ | (refine Below.setCell ?_ (by first | omega | (simp; omega) | (simp; done)) _) | (refine Below.alloc ?_ (by first | omega | (simp; omega) | (simp; done)) _) | (refine Below.drew ?_))⟩ ?_
          rintro W3 ⟨d0, hb3⟩
          have HB4 := Lib.hid (HB3.out.trans (hb3.mono HB3.out.size))
          have HXV3 := Lib.hid (HXV.out.keep hb3)
          have HCX3 := Lib.hid ((HCX.out.keep hb).keep hb3)
          clear hb3 hb x0
          generalize wr.heap.size = g10 at *
          go_wp2_with fail
          go_loopw [11, 34] (fun tv jv wr => ∃ (j : Nat) (t : Int), j ≤ ps.length ∧ jv = .int .i64 (j : Int) ∧ tv = .int .i64 t ∧ (-1 ≤ t ∧ t ≤ 1) ∧ Hid (wrs c (-1) ps = wrs c t (ps.drop j)) ∧ Below W3.heap.size W3 wr) (fun _ jv _ => ps.length - (intOf jv).toNat)
          case atStart => exact ⟨0, -1, Nat.zero_le _, rfl, rfl, by omega, Lib.hid rfl, Below.refl _ _⟩
          case round =>
            obtain ⟨j, t, hj, rfl, rfl, ht, HJ, hb⟩ := hrel
            have HB5 := Lib.hid hb
            have HB45 := Lib.hid (HB4.out.trans (hb.mono HB4.out.size))
            by_cases hjt : j < ps.length
            · have hji : (j : Int) < (ps.length : Int) := by omega
              obtain ⟨pb, po, rfl, hat⟩ := (HXV3.out.keep hb).at_ hjt
              have HDJ := Lib.hid (wrs_drop (c := c) (t := t) hjt)
              have HSD := Lib.hid (HS.out _ (HGX.out _ (List.getElem_mem hjt)).1 HCI.out)
              have HS3 := Lib.hid (sd_three ps[j] c)
              generalize ps[j] = p at *
              obtain ⟨p0, p1, p2, p3, -⟩ := hat
              obtain ⟨e0, e1, e2, e3⟩ := HCX3.out.keep hb
              have hs3 := HS3.out
              generalize sd p c = X at *
              have hl0 := block_lt_of_cell e0
              simp only at hl0
              clear hb
              go_wp2_with (go_at_call 92; refine (HSD.out _).mono ?_; rintro e w6 ⟨rfl, hb6⟩; have HB6 := Lib.hid (HB5.out.trans ((((Below.refl wr.heap.size wr).alloc (Nat.le_refl _) _).trans (hb6.mono (by simp))).mono HB5.out.size)); clear hb6)
              go_roundw
              case rel => exact ⟨j + 1, max t X, by omega, by go_num, rfl, by omega, Lib.hid (by rw [HJ.out, HDJ.out]), HB6.out⟩
              case measure => first | (simp [intOf]; done) | (simp [intOf]; omega)
            · obtain rfl : j = ps.length := by omega
              have hji : ¬ ((ps.length : Nat) : Int) < ((ps.length : Nat) : Int) := by omega
              have HT := Lib.hid (show wrs c (-1) ps = t by rw [HJ.out, List.drop_length]; rfl)
              have HN := Lib.hid (show whr c (-1) cells = whr c (max b (-t)) (cells.drop (k + 1)) by rw [HK.out, HD.out, HT.out])
              have v1 : IntKind.i64.wrap (-t) = -t := IntWalk.i64_in _ (by omega)
              clear hb
              go_wp2_with fail
              go_roundw
              case rel => exact ⟨k + 1, max b (-t), by omega, by go_num, rfl, HN, HB45.out⟩
              case measure => first | (simp [intOf]; done) | (simp [intOf]; omega)
        · obtain rfl : k = cells.length := by omega
          have hki : ¬ ((cells.length : Nat) : Int) < ((cells.length : Nat) : Int) := by omega
          have HN := Lib.hid (show V = b by rw [HV2.out, HK.out, List.drop_length]; rfl)
          clear hb
          go_wp2_with fail
          refine bodyPost_ret (v := .tuple #[.int .i64 b, .int .i64 0]) (by simp [results, Tryz.results52, go_sem]) rfl ⟨by rw [HE2.out, HN.out], HBW3.out⟩
    · have HV2 := Lib.hid (show V = 0 by rw [HV.out, if_neg (by rw [HE1.out]; exact h2)])
      clear HV HE
      generalize coE c = X at *
      go_wp2_with (first
        | (have h := HC.out; clear HC; go_at_call 48; refine (h _ HB.out).mono ?_; clear h; rintro e w1 ⟨rfl, hb1⟩; have HB1 := Lib.hid (HB.out.trans (hb1.mono HB.out.size)); have c0 := cell_keep hb1 c0; have c1 := cell_keep hb1 c1; have c2 := cell_keep hb1 c2; have c3 := cell_keep hb1 c3; clear hb1)
        | (have h := HP.out; clear HP; go_at_call 91; refine (h _).mono ?_; clear h; rintro e w2 ⟨rfl, hb2⟩; have HB2 := Lib.hid (HB1.out.trans (hb2.mono HB1.out.size)); clear hb2))
      refine bodyPost_ret (v := .tuple #[.int .i64 0, .int .i64 X]) (by simp [results, Tryz.results52, go_sem]) rfl ⟨by rw [HE1.out, HV2.out], HB2.out⟩
  · have HE1 := Lib.hid (show E = solE cells by rw [HE.out]; simp [h1])
    have HV2 := Lib.hid (show V = 0 by rw [HV.out, if_neg (by rw [HE1.out]; exact h1)])
    clear HV HE HGD
    generalize solE cells = X at *
    go_wp2_with (go_at_call 48; refine (HC.out _ HB.out).mono ?_; rintro e w1 ⟨rfl, hb1⟩; have HB1 := Lib.hid (HB.out.trans (hb1.mono HB.out.size)); clear hb1)
    refine bodyPost_ret (v := .tuple #[.int .i64 0, .int .i64 X]) (by simp [results, Tryz.results52, go_sem]) rfl ⟨by rw [HE1.out, HV2.out], HB1.out⟩
end Go.Proofs.YtbhgkadklklmbaaGreat
/- Where a point lies at a solid, as the document says it. -/
set_option linter.unusedVariables false
set_option linter.unusedSimpArgs false
namespace Go.Proofs.YtbhgkadklklmbaaGreat
open Go Go.RowKit Go.Sort Go.Lib

def ono (c : Co) (o : Int) : List Pl → Int
  | [] => o
  | p :: l => ono c (if sd p c = 0 then 0 else o) l
theorem ono_drop {c : Co} {o : Int} {l : List Pl} {k : Nat} (hk : k < l.length) : ono c o (l.drop k) = ono c (if sd l[k] c = 0 then 0 else o) (l.drop (k + 1)) := by rw [List.drop_eq_getElem_cons hk, ono]
theorem wrs_ge (c : Co) : ∀ (l : List Pl) (t : Int), t ≤ wrs c t l
  | [], t => by rw [wrs]; omega
  | p :: l, t => by
    rw [wrs]
    have := wrs_ge c l (max t (sd p c))
    omega
theorem wrs_le (c : Co) : ∀ (l : List Pl) (t : Int), t ≤ 1 → wrs c t l ≤ 1
  | [], t, h => by rw [wrs]; omega
  | p :: l, t, h => by
    rw [wrs]
    refine wrs_le c l _ ?_
    have := sd_three p c
    omega
theorem wrs_ono (c : Co) : ∀ (l : List Pl) (o : Int), alwR l c = true → (o = 0 ∨ o = 1) → ono c o l = -(wrs c (-o) l)
  | [], o, _, _ => by rw [ono, wrs]; omega
  | p :: l, o, h, ho => by
    unfold alwR at h
    rw [List.all_cons, Bool.and_eq_true] at h
    obtain ⟨h1, h2⟩ := h
    have h1 : ¬ 0 < sd p c := by simpa using h1
    rw [ono, wrs]
    have h3 := sd_three p c
    by_cases hz : sd p c = 0
    · rw [if_pos hz, wrs_ono c l 0 h2 (Or.inl rfl), hz]
      rw [show max (-o) 0 = (-0 : Int) by omega]
    · rw [if_neg hz, wrs_ono c l o h2 ho]
      rw [show max (-o) (sd p c) = -o by omega]
theorem wrs_one (c : Co) : ∀ (l : List Pl) (t : Int), t ≤ 1 → alwR l c = false → wrs c t l = 1
  | [], t, _, h => by simp [alwR] at h
  | p :: l, t, ht, h => by
    have h3 := sd_three p c
    rw [wrs]
    by_cases hp : 0 < sd p c
    · have := wrs_ge c l (max t (sd p c))
      have := wrs_le c l (max t (sd p c)) (by omega)
      omega
    · refine wrs_one c l _ (by omega) ?_
      unfold alwR at h ⊢
      rw [List.all_cons, decide_eq_false hp] at h
      simpa using h
/-- What one cell says. -/
theorem whr_in {c : Co} {l : List Pl} (h : alwR l c = true) : -(wrs c (-1) l) = ono c 1 l := (wrs_ono c l 1 h (Or.inr rfl)).symm
theorem whr_out {c : Co} {l : List Pl} (h : alwR l c = false) {b : Int} (hb : -1 ≤ b) : max b (-(wrs c (-1) l)) = b := by rw [wrs_one c l (-1) (by omega) h]; omega
theorem ono_bd (c : Co) : ∀ (l : List Pl) (o : Int), (o = 0 ∨ o = 1) → ono c o l = 0 ∨ ono c o l = 1
  | [], o, h => by rw [ono]; exact h
  | p :: l, o, h => by
    rw [ono]; refine ono_bd c l _ ?_
    split
    · exact Or.inl rfl
    · exact h
set_option maxRecDepth 100000 in
set_option maxHeartbeats 8000000 in
theorem whereR_any (cells : List Cell) (a : Option Addr) (n : Nat) (c : Co) (w : World) (hcl : cells.length ≤ 9223372036854775807) (hv : Cells.V w a cells) (hpl : ∀ x ∈ cells, x.planes.length ≤ 1000000) (hg : ∀ x ∈ cells, ∀ p ∈ x.planes, p.in_) (hc : c.in_) :
    Calls Tryz.prog 53 #[.agg #[.slice a cells.length n], .agg #[.int .i64 c.x, .int .i64 c.y, .int .i64 c.z, .int .i64 c.n]] w fun e w' => e = .returned (.int .i64 (whr c (-1) cells)) ∧ Below w.heap.size w w' := by
  obtain ⟨V, hV⟩ : ∃ V, V = whr c (-1) cells := ⟨_, rfl⟩
  have HV := Lib.hid hV
  rw [← hV]
  clear hV
  have HCV := Lib.hid hv
  have HS := Lib.hid (fun (p : Pl) (hp : p.in_) W => sideR_any p c hp hc W)
  have HAL := Lib.hid (fun (ps : List Pl) (pa : Option Addr) (pc : Nat) (W : World) (hv : Pls.V W pa ps) (hl : ps.length ≤ 1000000) (hg : ∀ p ∈ ps, p.in_) => allowed_any ps pa pc c W hv hl hg hc)
  have HPL := Lib.hid hpl
  have HG := Lib.hid hg
  clear hv hpl hg hc
  go_enter Tryz.func53, Tryz.ntmps53
  go_upto_region 1 with fail
  refine gen_world (fun W => W.cell? ⟨w.heap.size, 0, none⟩ = some (.slice a cells.length n) ∧ CoBx W (w.heap.size + 1) c ∧ Below w.heap.size w W) ⟨by simp [go_sem], ⟨by simp [go_sem], by simp [go_sem], by simp [go_sem], by simp [go_sem]⟩, by repeat (first | (with_reducible assumption) | exact Below.refl _ _ | (refine Below.setCell ?_ (by first | omega | (simp; omega) | (simp; done)) _) | (refine Below.alloc ?_ (by first | omega | (simp; omega) | (simp; done)) _) | (refine Below.drew ?_))⟩ ?_
  rintro W ⟨b0, hc, hb⟩
  have HB := Lib.hid hb
  have HCX := Lib.hid hc
  clear hb hc
  obtain ⟨gw, hgw⟩ : ∃ g, g = w.heap.size := ⟨_, rfl⟩
  have HGW := Lib.hid hgw
  rw [← hgw] at b0 HCX ⊢
  have HX0 := Lib.hid b0
  clear hgw b0
  go_wp2_with fail
  go_loopw [5, 6] (fun bv iv wr => ∃ (k : Nat) (b : Int), k ≤ cells.length ∧ iv = .int .i64 (k : Int) ∧ bv = .int .i64 b ∧ (-1 ≤ b ∧ b ≤ 1) ∧ Hid (V = whr c b (cells.drop k)) ∧ Below W.heap.size W wr) (fun _ iv _ => cells.length - (intOf iv).toNat)
  case atStart => exact ⟨0, -1, Nat.zero_le _, rfl, rfl, by omega, Lib.hid HV.out, Below.refl _ _⟩
  case round =>
    obtain ⟨k, b, hk, rfl, rfl, hbb, HK, hb⟩ := hrel
    have HB3 := Lib.hid hb
    have HBW3 := Lib.hid (HB.out.trans (hb.mono HB.out.size))
    have b0 := cell_keep hb HX0.out
    by_cases hlt : k < cells.length
    · have hki : (k : Int) < (cells.length : Int) := by omega
      obtain ⟨bb, off, rfl, hat⟩ := (HCV.out.keep HBW3.out).at_ hlt
      have HD := Lib.hid (whr_drop (c := c) (b := b) hlt)
      have HGX := Lib.hid (HG.out _ (List.getElem_mem hlt))
      have HXL := Lib.hid (HPL.out _ (List.getElem_mem hlt))
      generalize cells[k] = x at *
      obtain ⟨xa, xc, x0, xv, -⟩ := hat
      rw [Nat.mul_one] at x0
      have HXV := Lib.hid xv
      obtain ⟨ps, hps⟩ : ∃ ps, ps = x.planes := ⟨_, rfl⟩
      rw [← hps] at HD HGX HXL HXV x0
      have hxl := HXL.out
      have HCXr := Lib.hid (HCX.out.keep hb)
      obtain ⟨c0, c1, c2, c3⟩ := HCXr.out
      have HA := Lib.hid (fun W2 (h : Below wr.heap.size wr W2) => HAL.out ps xa xc W2 (HXV.out.keep h) HXL.out HGX.out)
      have HY0 := Lib.hid x0
      have hl0 := block_lt_of_cell x0
      have hl1 := block_lt_of_cell c0
      have hl2 := block_lt_of_cell b0
      simp only at hl0 hl1 hl2
      clear xv hps hb
      go_upto_region 5 with fail
      refine wp_region_grew (by kernel_rfl) (by kernel_rfl) ?_
      repeat (first
        | go_big_quiet_step ((go_at_call 87; exact grew_of (HA.out _ (grewB (Below.refl wr.heap.size wr) (Nat.le_refl _) _))))
        | quiet_step ((go_at_call 87; exact grew_of (HA.out _ (by first | exact Below.refl _ _ | exact grewB (Below.refl wr.heap.size wr) (Nat.le_refl _) _)))))
      refine wpQuiet_nil ?_
      rintro _ ⟨gg, rfl⟩
      have HFB := Lib.hid (show Below W.heap.size W (grew wr gg) from grewB HB3.out HB3.out.size _)
      have HBG := Lib.hid (show Below wr.heap.size wr (grew wr gg) from grewB (Below.refl _ _) (Nat.le_refl _) _)
      generalize hW3 : grew wr gg = W3 at *
      clear hW3
      by_cases h1 : alwR ps c = true
      · have HI := Lib.hid (whr_in h1)
        rw [h1]
        have x0 := cell_keep HBG.out x0
        have b0 := cell_keep HBG.out b0
        have HY := Lib.hid x0
        have HX := Lib.hid b0
        have HXV3 := Lib.hid (HXV.out.keep HBG.out)
        have HCX3 := Lib.hid (HCXr.out.keep HBG.out)
        clear c0 c1 c2 c3 h1 HY0 hl0 hl1 hl2
        go_wp2_with fail
        go_loopw [7, 8] (fun ov jv wr => ∃ (j : Nat) (o : Int), j ≤ ps.length ∧ jv = .int .i64 (j : Int) ∧ ov = .int .i64 o ∧ Hid (ono c 1 ps = ono c o (ps.drop j)) ∧ Below W3.heap.size W3 wr) (fun _ jv _ => ps.length - (intOf jv).toNat)
        case atStart => exact ⟨0, 1, Nat.zero_le _, rfl, rfl, Lib.hid rfl, Below.refl _ _⟩
        case round =>
          obtain ⟨j, o, hj, rfl, rfl, HJ, hb⟩ := hrel
          have HB5 := Lib.hid hb
          have HB55 := Lib.hid (HFB.out.trans (hb.mono HFB.out.size))
          have x0 := cell_keep hb HY.out
          have b0 := cell_keep hb HX.out
          by_cases hjt : j < ps.length
          · have hji : (j : Int) < (ps.length : Int) := by omega
            obtain ⟨pb, po, rfl, hat⟩ := (HXV3.out.keep hb).at_ hjt
            have HDJ := Lib.hid (ono_drop (c := c) (o := o) hjt)
            have HSD := Lib.hid (HS.out _ (HGX.out _ (List.getElem_mem hjt)))
            generalize ps[j] = p at *
            obtain ⟨p0, p1, p2, p3, -⟩ := hat
            obtain ⟨e0, e1, e2, e3⟩ := HCX3.out.keep hb
            generalize sd p c = X at *
            have hl0 := block_lt_of_cell e0
            have hl1 := block_lt_of_cell x0
            have hl2 := block_lt_of_cell b0
            have hl3 := block_lt_of_cell p0
            simp only at hl0 hl1 hl2 hl3
            clear hb
            go_upto_region 10 with fail
            refine wp_region_grew (by kernel_rfl) (by kernel_rfl) ?_
            repeat (first
              | go_big_quiet_step ((go_at_call 51; exact grew_of (HSD.out _)))
              | quiet_step ((go_at_call 51; exact grew_of (HSD.out _))))
            refine wpQuiet_nil ?_
            rintro _ ⟨gg, rfl⟩
            have HF6 := Lib.hid (show Below W3.heap.size W3 (grew wr gg) from grewB HB5.out HB5.out.size _)
            by_cases hX : X = 0
            · have HE := Lib.hid (show ono c 1 ps = ono c 0 (ps.drop (j + 1)) by rw [HJ.out, HDJ.out, if_pos hX])
              go_wp2_with fail
              go_roundw
              case rel => exact ⟨j + 1, 0, by omega, by go_num, rfl, HE, HF6.out⟩
              case measure => first | (simp [intOf]; done) | (simp [intOf]; omega)
            · have HE := Lib.hid (show ono c 1 ps = ono c o (ps.drop (j + 1)) by rw [HJ.out, HDJ.out, if_neg hX])
              go_wp2_with fail
              go_roundw
              case rel => exact ⟨j + 1, o, by omega, by go_num, rfl, HE, HF6.out⟩
              case measure => first | (simp [intOf]; done) | (simp [intOf]; omega)
          · obtain rfl : j = ps.length := by omega
            have hji : ¬ ((ps.length : Nat) : Int) < ((ps.length : Nat) : Int) := by omega
            have HT := Lib.hid (show ono c 1 ps = o by rw [HJ.out, List.drop_length]; rfl)
            have hob := ono_bd c ps 1 (Or.inr rfl)
            rw [HT.out] at hob
            have HN := Lib.hid (show V = whr c (max b o) (cells.drop (k + 1)) by rw [HK.out, HD.out, HI.out, HT.out])
            have hm : -1 ≤ max b o ∧ max b o ≤ 1 := by omega
            clear hb hob
            go_wp2_with fail
            go_roundw
            case rel => exact ⟨k + 1, max b o, by omega, by go_num, rfl, hm, HN, HB55.out⟩
            case measure => first | (simp [intOf]; done) | (simp [intOf]; omega)
      · have h1 : alwR ps c = false := by simpa using h1
        have HN := Lib.hid (show V = whr c b (cells.drop (k + 1)) by rw [HK.out, HD.out, whr_out h1 hbb.1])
        rw [h1]
        clear h1
        go_wp2_with fail
        go_roundw
        case rel => exact ⟨k + 1, b, by omega, by go_num, rfl, hbb, HN, HFB.out⟩
        case measure => first | (simp [intOf]; done) | (simp [intOf]; omega)
    · obtain rfl : k = cells.length := by omega
      have hki : ¬ ((cells.length : Nat) : Int) < ((cells.length : Nat) : Int) := by omega
      have HN := Lib.hid (show V = b by rw [HK.out, List.drop_length]; rfl)
      clear hb
      go_wp2_with fail
      go_ret
      exact ⟨by rw [HN.out]; rfl, HBW3.out⟩
end Go.Proofs.YtbhgkadklklmbaaGreat
