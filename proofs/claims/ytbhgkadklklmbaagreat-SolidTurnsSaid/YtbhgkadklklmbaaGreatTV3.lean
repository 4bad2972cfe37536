/- The document's turned solid. -/
import Derived.Test.YtbhgkadklklmbaaGreatTV2
import Derived.Test.YtbhgkadklklmbaaGreatTU5
import Derived.Test.YtbhgkadklklmbaaGreatQO
import Derived.Test.YtbhgkadklklmbaaGreatQS
import Derived.Test.YtbhgkadklklmbaaGreatQY
import Derived.Test.YtbhgkadklklmbaaGreatQZ
set_option linter.unusedVariables false
set_option linter.unusedSimpArgs false
namespace Go.Proofs.YtbhgkadklklmbaaGreat
open Go Go.RowKit Go.Sort Go.Lib

/-- A cell's planes while they grow, in a box. -/
structure GrP (g : Nat) (w : World) (v : Value) (ps : List Pl) : Prop where
 c : w.cell? ⟨g, 0, none⟩ = some v
 f : w.frozen? ⟨g, 0, none⟩ = false
 o : w.ownsRow (g + 1) 26 4 v ps.length (ps.flatMap cellsPl)
theorem GrP.keep {g : Nat} {w w' : World} {v : Value} {ps : List Pl} (h : GrP g w v ps) (hb : Below w.heap.size w w') : GrP g w' v ps := ⟨cell_keep hb h.c, frozen_keep hb (block_lt_of_cell h.c) h.f, own_keep h.o hb⟩
theorem GrP.put {g : Nat} {w w' : World} {v v' : Value} {ps ps' : List Pl} (h : GrP g w v ps) (hg : w.grownBy w' v.ownBlock) (ho : w'.ownsRow (g + 1) 26 4 v' ps'.length (ps'.flatMap cellsPl)) : GrP g (w'.setCell ⟨g, 0, none⟩ v') v' ps' := by
 have hne : v.ownBlock ≠ some g := fun e => by have := (own_lt h.o e).1; omega
 have hne' : v'.ownBlock ≠ some g := fun e => by have := (own_lt ho e).1; omega
 exact ⟨cell_set_same (by rw [grown_cell hg h.c hne]; rfl), by rw [frozen_set]; exact (grown_frozen hg h.c hne).trans h.f, ho.kept (grownBy_set (a := ⟨g, 0, none⟩)) (.inr hne')⟩
/-- The grown planes, as a cell of the solid that grows. -/
theorem GrP.pr {g N : Nat} {w : World} {pa : Option Addr} {n pc : Nat} {v : Value} {ps : List Pl} (h : GrP g w (.slice pa n pc) ps) (hw : ∀ p ∈ ps, p.wf) (hv : ∀ k, v.ownBlock = some k → k ≤ g) : n = ps.length ∧ PRok w v ⟨ps, pa, pc⟩ ∧ ∀ b, blk pa = some b → g < b := by
 obtain ⟨rfl, hl⟩ := own_len_le h.o
 have hb := own_blk_lt h.o
 exact ⟨rfl, ⟨ownPlV hw h.o, hl, by obtain ⟨a1, c1, e1, -, h1⟩ := own_slice h.o; injection e1 with e2 e3 e4; rw [e4]; exact h1, fun b e => ⟨(hb b e).2, fun e' => by have := hv b e'; have := (hb b e).1; omega⟩⟩, fun b e => by have := (hb b e).1; omega⟩
set_option maxRecDepth 100000 in
set_option maxHeartbeats 16000000 in
theorem turnR_any (cells : List Cell) (a : Option Addr) (c : Nat) (n : Int) (w : World) (hv : Cells.V w a cells) (hso : solE cells = 0) (hn : 0 ≤ n ∧ n ≤ 47) :
    Calls Tryz.prog 74 #[.agg #[.slice a cells.length c], .int .i64 n] w fun e w' => ∃ va vc, e = .returned (.agg #[.slice va (trX (trnN n) cells).length vc]) ∧ Cells.V w' va (trX (trnN n) cells) ∧ Below w.heap.size w w' := by
 obtain ⟨i0, hi0, hz0, hz1, hz2⟩ := info_parts cellInfo
 obtain ⟨i1, hi1, hy0, hy1, hy2⟩ := info_parts infoPl
 have HV := Lib.hid hv
 have HS0 := Lib.hid (solE_zero.1 hso)
 have HTN := Lib.hid (trnN_wf hn)
 have HTR := Lib.hid (fun v (h : Vec.in_ 8 v) W => turnedR_any v n hn (h.mono (by decide)) W)
 have hcl : cells.length ≤ 100 := HS0.out.1
 obtain ⟨F, hF⟩ : ∃ F : Pl → Pl, F = trP (trnN n) := ⟨_, rfl⟩
 have HFV := Lib.hid (fun p => show F p = ⟨(ofT (trnN n) (nrm p)).x, (ofT (trnN n) (nrm p)).y, (ofT (trnN n) (nrm p)).z, p.d⟩ by rw [hF]; rfl)
 have HFW := Lib.hid (fun p (h : p.in_) => show (F p).wf by rw [hF]; exact trP_wf h HTN.out)
 rw [show trX (trnN n) cells = cells.map fun x => (⟨x.planes.map F⟩ : Cell) by rw [hF]; rfl]
 clear hv hso hF
 have hfl := fldCell
 have hfs := fldSol
 go_enter Tryz.func74, Tryz.ntmps74
 go_upto_region 2 with fail
 refine gen_world (fun W => W.cell? ⟨w.heap.size, 0, none⟩ = some (.slice a cells.length c) ∧ (W.cell? ⟨w.heap.size + 1, 0, none⟩ = some (.slice none 0 0) ∧ W.frozen? ⟨w.heap.size + 1, 0, none⟩ = false) ∧ CpSt (w.heap.size + 2) W (.slice none 0 0) [] ∧ Below w.heap.size w W) ⟨by simp [go_sem], ⟨by simp [go_sem], by simp [go_sem]⟩, ⟨by simp [go_sem], by simp [go_sem], ⟨rfl, .inl ⟨rfl, rfl⟩⟩, fun q hq => absurd hq (by simp)⟩, by repeat (first | (with_reducible assumption) | exact Below.refl _ _ | (refine Below.setCell ?_ (by first | omega | (simp; omega) | (simp; done)) _) | (refine Below.alloc ?_ (by first | omega | (simp; omega) | (simp; done)) _) | (refine Below.drew ?_))⟩ ?_
 rintro W ⟨b0, ⟨r0, rf0⟩, hst, hb⟩
 have HST := Lib.hid hst
 have HB0 := Lib.hid hb
 have HR := Lib.hid (And.intro b0 (And.intro r0 rf0))
 clear hst hb r0 rf0 b0
 obtain ⟨gw, hgw⟩ : ∃ g, g = w.heap.size := ⟨_, rfl⟩
 have HGW := Lib.hid hgw
 rw [← hgw] at HST HR ⊢
 clear hgw
 simp only [Nat.add_assoc, Nat.reduceAdd]
 go_wp2_with fail
 go_loopw [6] (fun iv wr => ∃ (k : Nat) (v : Value) (L : List PR), k ≤ cells.length ∧ iv = .int .i64 (k : Int) ∧ CpSt (gw + 2) wr v L ∧ Hid (L.map (fun r => (⟨r.ps⟩ : Cell)) = (cells.take k).map fun x => (⟨x.planes.map F⟩ : Cell)) ∧ Hid (∀ r ∈ L, ∀ b, blk r.pa = some b → gw + 2 < b) ∧ Hid (wr.cell? ⟨gw, 0, none⟩ = some (.slice a cells.length c) ∧ wr.cell? ⟨gw + 1, 0, none⟩ = some (.slice none 0 0) ∧ wr.frozen? ⟨gw + 1, 0, none⟩ = false) ∧ Below w.heap.size w wr) (fun iv _ => cells.length - (intOf iv).toNat)
 case atStart => exact ⟨0, _, [], Nat.zero_le _, rfl, HST.out, Lib.hid rfl, Lib.hid (fun r hr => absurd hr (by simp)), HR, HB0.out⟩
 case round =>
  obtain ⟨k, v, L, hk, rfl, hst, HL, HOF, HRW, hb⟩ := hrel
  have HS := Lib.hid hst
  have HB := Lib.hid hb
  obtain ⟨va, vc, rfl, -, -⟩ := own_slice hst.o
  have hll : L.length = k := by have := congrArg List.length HL.out; rw [List.length_map, List.length_map, List.length_take] at this; omega
  have HLL := Lib.hid hll
  have hz := HB.out.size
  obtain ⟨b0, r0, rf0⟩ := HRW.out
  by_cases hlt : k < cells.length
  ·have hki : (k : Int) < (cells.length : Int) := by omega
   obtain ⟨bb, off, rfl, hat⟩ := (HV.out.keep hb).at_ hlt
   have HTK := Lib.hid (show (cells.take (k + 1)).map (fun x => (⟨x.planes.map F⟩ : Cell)) = (cells.take k).map (fun x => (⟨x.planes.map F⟩ : Cell)) ++ [⟨cells[k].planes.map F⟩] by rw [List.take_succ_eq_append_getElem hlt, List.map_append]; rfl)
   have HRK := Lib.hid (HS0.out.2 _ (List.getElem_mem hlt))
   generalize cells[k] = x at *
   obtain ⟨ps⟩ := x
   obtain ⟨xa, xc, x0, xv, -⟩ := hat
   rw [Nat.mul_one] at x0
   simp only at x0 xv HRK HTK
   have HXV := Lib.hid xv
   have HGD := Lib.hid (good_of (readE_zero.1 HRK.out).2.1)
   have hp16 : ps.length ≤ 16 := (readE_zero.1 HRK.out).1
   have HX0 := Lib.hid x0
   clear hst hb xv hll
   go_upto_region 6 with fail
   refine gen_world (fun W4 => GrP wr.heap.size W4 (.slice none 0 0) [] ∧ Below wr.heap.size wr W4 ∧ wr.heap.size < W4.heap.size) ⟨⟨by simp [go_sem], by simp [go_sem], ⟨rfl, .inl ⟨rfl, rfl⟩⟩⟩, by repeat (first | (with_reducible assumption) | exact Below.refl _ _ | (refine Below.setCell ?_ (by first | omega | (simp; omega) | (simp; done)) _) | (refine Below.alloc ?_ (by first | omega | (simp; omega) | (simp; done)) _) | (refine Below.drew ?_)), by simp⟩ ?_
   rintro W4 ⟨hg4, hb4, hz4⟩
   have HG4 := Lib.hid hg4
   have HB4 := Lib.hid hb4
   have HZ4 := Lib.hid hz4
   obtain ⟨g7, hg7⟩ : ∃ g, g = wr.heap.size := ⟨_, rfl⟩
   have HG7 := Lib.hid hg7
   rw [← hg7] at HG4 ⊢
   clear hg4 hb4 hg7 x0 b0 r0 rf0 hz4
   go_wp2_with fail
   obtain ⟨wo, rfl⟩ : ∃ wo : World, wo = wr := ⟨_, rfl⟩
   go_loopw [8] (fun jv wq => ∃ (m : Nat) (u : Value), m ≤ ps.length ∧ jv = .int .i64 (m : Int) ∧ GrP g7 wq u ((ps.take m).map F) ∧ Below wo.heap.size wo wq) (fun jv _ => ps.length - (intOf jv).toNat)
   case atStart => exact ⟨0, _, Nat.zero_le _, rfl, HG4.out, HB4.out⟩
   case round =>
    obtain ⟨m, u, hm, rfl, hst, hbq⟩ := hrel
    have HGM := Lib.hid hst
    have HBQ := Lib.hid hbq
    obtain ⟨ua, uc, rfl, -, -⟩ := own_slice hst.o
    have hul : ((ps.take m).map F).length = m := by rw [List.length_map, List.length_take]; omega
    have b0 := cell_keep hbq HRW.out.1
    have x0 := cell_keep hbq HX0.out
    by_cases hmt : m < ps.length
    ·have hmi : (m : Int) < (ps.length : Int) := by omega
     obtain ⟨xb, xo, rfl, hpt⟩ := (HXV.out.keep hbq).at_ hmt
     have HTM := Lib.hid (show (ps.take (m + 1)).map F = (ps.take m).map F ++ [F ps[m]] by rw [List.take_succ_eq_append_getElem hmt, List.map_append]; rfl)
     have HPI := Lib.hid (HGD.out ps[m] (List.getElem_mem hmt)).1
     generalize ps[m] = p at *
     obtain ⟨p0, p1, p2, p3, -⟩ := hpt
     have HTV := Lib.hid (fun W => HTR.out (nrm p) HPI.out.1 W)
     have HNV := Lib.hid (fun W => normalR_any p W)
     obtain ⟨Q, hQ⟩ : ∃ Q, Q = F p := ⟨_, rfl⟩
     have HQV := Lib.hid (show Q = ⟨(ofT (trnN n) (nrm p)).x, (ofT (trnN n) (nrm p)).y, (ofT (trnN n) (nrm p)).z, p.d⟩ by rw [hQ, HFV.out])
     rw [← hQ] at HTM
     obtain ⟨V, hV⟩ : ∃ V, V = ofT (trnN n) (nrm p) := ⟨_, rfl⟩
     rw [← hV] at HTV HQV
     obtain ⟨NV, hNV⟩ : ∃ v, v = nrm p := ⟨_, rfl⟩
     rw [← hNV] at HNV HTV
     clear hst hbq hQ hV hNV
     go_upto_region 10 with fail
     refine gen_world (fun W => (W.cell? ⟨wr.heap.size, 0, none⟩ = some (.int .i64 p.a) ∧ W.cell? ⟨wr.heap.size, 1, none⟩ = some (.int .i64 p.b) ∧ W.cell? ⟨wr.heap.size, 2, none⟩ = some (.int .i64 p.c) ∧ W.cell? ⟨wr.heap.size, 3, none⟩ = some (.int .i64 p.d)) ∧ Below wr.heap.size wr W) ⟨⟨by simp [go_sem], by simp [go_sem], by simp [go_sem], by simp [go_sem]⟩, by repeat (first | (with_reducible assumption) | exact Below.refl _ _ | (refine Below.setCell ?_ (by first | omega | (simp; omega) | (simp; done)) _) | (refine Below.alloc ?_ (by first | omega | (simp; omega) | (simp; done)) _) | (refine Below.drew ?_))⟩ ?_
     rintro w5 ⟨⟨v0', v1', v2', v3'⟩, hb5⟩
     have HB5 := Lib.hid hb5
     obtain ⟨g9, hg9⟩ : ∃ g, g = wr.heap.size := ⟨_, rfl⟩
     rw [← hg9] at v0' v1' v2' v3' ⊢
     clear hb5 hg9 p0 p1 p2 p3 b0 x0
     go_upto_region 11 with (first | (go_at_call 137; refine (HNV.out _).mono ?_; rintro e w6 ⟨rfl, hb⟩; have HB6 := Lib.hid (HB5.out.trans (hb.mono HB5.out.size)); have v3' := cell_keep hb v3'; clear hb) | (go_at_call 72; refine (HTV.out _).mono ?_; rintro e w7 ⟨rfl, hb⟩; have HB7 := Lib.hid (HB6.out.trans (hb.mono HB6.out.size)); have v3' := cell_keep hb v3'; clear hb))
     refine gen_world (fun W => (W.cell? ⟨w7.heap.size, 0, none⟩ = some (.int .i64 V.x) ∧ W.cell? ⟨w7.heap.size, 1, none⟩ = some (.int .i64 V.y) ∧ W.cell? ⟨w7.heap.size, 2, none⟩ = some (.int .i64 V.z)) ∧ Below w7.heap.size w7 W) ⟨⟨by simp [go_sem], by simp [go_sem], by simp [go_sem]⟩, by repeat (first | (with_reducible assumption) | exact Below.refl _ _ | (refine Below.setCell ?_ (by first | omega | (simp; omega) | (simp; done)) _) | (refine Below.alloc ?_ (by first | omega | (simp; omega) | (simp; done)) _) | (refine Below.drew ?_))⟩ ?_
     rintro w8 ⟨⟨y0, y1, y2⟩, hb8⟩
     have v3' := cell_keep hb8 v3'
     have HB8 := Lib.hid (HB7.out.trans (hb8.mono HB7.out.size))
     obtain ⟨g10, hg10⟩ : ∃ g, g = w7.heap.size := ⟨_, rfl⟩
     rw [← hg10] at y0 y1 y2 ⊢
     clear hb8 hg10 v0' v1' v2'
     have HGN := Lib.hid (HGM.out.keep HB8.out)
     have s7 := HGN.out.c
     have HAL := Lib.hid ((Below.refl w8.heap.size w8).alloc (Nat.le_refl _) (.cells #[.int .i64 V.x, .int .i64 V.y, .int .i64 V.z, .int .i64 p.d] 26))
     have HGA := Lib.hid (HGN.out.keep HAL.out)
     have HNW := Lib.hid (show ∀ j u, (cellsPl ⟨V.x, V.y, V.z, p.d⟩)[j]? = some u → (w8.alloc (.cells #[.int .i64 V.x, .int .i64 V.y, .int .i64 V.z, .int .i64 p.d] 26)).cell? ((⟨w8.heap.size, 0, none⟩ : Addr).add j) = some u from news_of (cellsPl ⟨V.x, V.y, V.z, p.d⟩) 26 w8 _ rfl)
     obtain ⟨A, hA⟩ : ∃ A, A = (ps.take m).map F := ⟨_, rfl⟩
     have hal : A.length = m := by rw [hA]; exact hul
     rw [← hA] at s7 HGA HTM
     have HGZ := Lib.hid (show g7 + 1 ≤ (w8.alloc (.cells #[.int .i64 V.x, .int .i64 V.y, .int .i64 V.z, .int .i64 p.d] 26)).heap.size by have := block_lt_of_cell HGA.out.c; simp only at this; omega)
     have HTM2 := Lib.hid (show (ps.take (m + 1)).map F = A ++ [⟨V.x, V.y, V.z, p.d⟩] by rw [HTM.out, HQV.out])
     have HBA := Lib.hid (show Below wo.heap.size wo (w8.alloc (.cells #[.int .i64 V.x, .int .i64 V.y, .int .i64 V.z, .int .i64 p.d] 26)) from (HBQ.out.trans (HB8.out.mono HBQ.out.size)).trans (HAL.out.mono (by have := HBQ.out.size; have := HB8.out.size; omega)))
     clear hA hul
     have HAM := Lib.hid hal
     clear hal
     go_wp2_with (at_builtin; refine wpList_append_here _ rfl _ _ 22 rfl (g7 + 1) 26 i1 (.agg #[.int .i64 0, .int .i64 0, .int .i64 0, .int .i64 0]) 4 32 Tryz.underlying22 hi1 hy0 hy1 hy2 rfl (by decide) (.slice ua A.length uc) A.length (A.flatMap cellsPl) rfl HGA.out.o ⟨w8.heap.size, 0, none⟩ 1 1 (cellsPl ⟨V.x, V.y, V.z, p.d⟩) rfl rfl HNW.out (cellsPl_one _) (by decide) (by have := HAM.out; simp only [maxLen]; omega) (by have := HAM.out; omega) HGZ.out ?_; intro v' w9 ho hg hat; obtain ⟨ua', uc', rfl, -, -⟩ := own_slice ho; have HP9 := Lib.hid (HGA.out.put (ps' := A ++ [(⟨V.x, V.y, V.z, p.d⟩ : Pl)]) hg (by rw [List.flatMap_append, List.length_append]; simpa using ho)); have HOK := Lib.hid (show (Value.slice ua A.length uc).ownBlock ≠ some g7 from fun e => by have := (own_lt HGA.out.o e).1; omega); have m0 := grown_cell hg HGA.out.c HOK.out; have mf := (grown_frozen hg HGA.out.c HOK.out).trans HGA.out.f; have HB9 := Lib.hid (below_grown HBA.out hg HBA.out.size fun j hj => by have := (own_lt HGA.out.o hj).1; have := HG7.out; omega); clear ho hg hat)
     go_roundw
     case rel => exact ⟨m + 1, _, by omega, by go_num, by rw [HTM2.out]; exact HP9.out, HB9.out.setCell (by have := HG7.out; simp only; omega) _⟩
     case measure => first | (simp [intOf]; done) | (simp [intOf]; omega)
    ·obtain rfl : m = ps.length := by omega
     have hmi : ¬ ((ps.length : Nat) : Int) < ((ps.length : Nat) : Int) := by omega
     have HGE := Lib.hid (show GrP g7 wr (.slice ua ((ps.take ps.length).map F).length uc) (ps.map F) by have := HGM.out; rw [List.take_length] at this ⊢; exact this)
     obtain ⟨X, hX⟩ : ∃ X, X = ps.map F := ⟨_, rfl⟩
     have HXW := Lib.hid (show ∀ p ∈ X, p.wf from fun p hp => by
      rw [hX] at hp
      obtain ⟨p0, hp0, rfl⟩ := List.mem_map.1 hp
      exact HFW.out p0 (HGD.out p0 hp0).1)
     have hXL : X.length = ps.length := by rw [hX, List.length_map]
     rw [← hX] at HGE HTK
     have s7 := HGE.out.c
     have HS3 := Lib.hid (HS.out.keep hbq)
     have s5 := HS3.out.c
     have HBW := Lib.hid (HB.out.trans (hbq.mono hz))
     have r0 := cell_keep hbq HRW.out.2.1
     have rf0 := frozen_keep hbq (block_lt_of_cell HRW.out.2.1) HRW.out.2.2
     have HR3 := Lib.hid (show wr.cell? ⟨gw, 0, none⟩ = some (.slice (some ⟨bb, off, none⟩) cells.length c) ∧ wr.cell? ⟨gw + 1, 0, none⟩ = some (.slice none 0 0) ∧ wr.frozen? ⟨gw + 1, 0, none⟩ = false from ⟨b0, r0, rf0⟩)
     have hbq2 := HBQ.out.size
     obtain ⟨-, hpr, hpb⟩ := HGE.out.pr (v := .slice va L.length vc) (N := 0) HXW.out (fun k e => by have := (own_lt HS.out.o e).2; have := HG7.out; omega)
     have HPR := Lib.hid hpr
     have HPB := Lib.hid hpb
     clear hst hbq hX hpr hpb r0 rf0 hul
     have HAL := Lib.hid ((Below.refl wr.heap.size wr).alloc (Nat.le_refl _) (.cells #[.slice ua ps.length uc] 24))
     have HNW := Lib.hid (show ∀ j u, (cellsPR ⟨X, ua, uc⟩)[j]? = some u → (wr.alloc (.cells #[.slice ua ps.length uc] 24)).cell? ((⟨wr.heap.size, 0, none⟩ : Addr).add j) = some u by rw [show cellsPR ⟨X, ua, uc⟩ = [.slice ua ps.length uc] by unfold cellsPR; rw [hXL]]; exact news_of [.slice ua ps.length uc] 24 wr _ rfl)
     have HSA := Lib.hid (HS3.out.keep HAL.out)
     have HPA := Lib.hid (HPR.out.keep HAL.out)
     have HRA := Lib.hid (show (wr.alloc (.cells #[.slice ua ps.length uc] 24)).cell? ⟨gw, 0, none⟩ = some (.slice (some ⟨bb, off, none⟩) cells.length c) ∧ (wr.alloc (.cells #[.slice ua ps.length uc] 24)).cell? ⟨gw + 1, 0, none⟩ = some (.slice none 0 0) ∧ (wr.alloc (.cells #[.slice ua ps.length uc] 24)).frozen? ⟨gw + 1, 0, none⟩ = false from ⟨cell_keep HAL.out HR3.out.1, cell_keep HAL.out HR3.out.2.1, frozen_keep HAL.out (block_lt_of_cell HR3.out.2.1) HR3.out.2.2⟩)
     have HBA := Lib.hid (HBW.out.trans (HAL.out.mono HBW.out.size))
     have HNA := Lib.hid (show gw + 2 + 1 ≤ (wr.alloc (.cells #[.slice ua ps.length uc] 24)).heap.size by have := HSA.out.lt; omega)
     clear hXL
     have HGL := Lib.hid (show gw + 2 < g7 by have := HS.out.lt; have := HG7.out; omega)
     have v1 : IntKind.i64.wrap ((k : Int) + 1) = (k : Int) + 1 := IntWalk.i64_in _ (by omega)
     go_wp2_with (at_builtin; refine wpList_append_here _ rfl _ _ 46 rfl (gw + 2 + 1) 24 i0 (.agg #[.slice none 0 0]) 1 24 Tryz.underlying46 hi0 hz0 hz1 hz2 rfl (by decide) (.slice va L.length vc) L.length (L.flatMap cellsPR) rfl HSA.out.o ⟨wr.heap.size, 0, none⟩ 1 1 (cellsPR ⟨X, ua, uc⟩) rfl rfl HNW.out (cellsPR_one _) (by decide) (by have := HLL.out; simp only [maxLen]; omega) (by have := HLL.out; omega) HNA.out ?_; intro v' w5 ho hg hat; obtain ⟨va', vc', rfl, -, -⟩ := own_slice ho; have HO5 := Lib.hid (show w5.ownsRow (gw + 2 + 1) 24 1 (.slice va' (L.length + 1) vc') (L ++ [(⟨X, ua, uc⟩ : PR)]).length ((L ++ [(⟨X, ua, uc⟩ : PR)]).flatMap cellsPR) by rw [List.flatMap_append, List.length_append]; simpa using ho); have HS5 := Lib.hid (HSA.out.put hg hat HPA.out (fun b e => by have := HPB.out b e; have := HGL.out; omega) (fun r hr b e => by have := HOF.out r hr b e; omega) HO5.out); have HOK := Lib.hid (show (Value.slice va L.length vc).ownBlock ≠ some (gw + 2) from fun e => by have := (own_lt HSA.out.o e).1; omega); have m0 := grown_cell hg HSA.out.c HOK.out; have mf := (grown_frozen hg HSA.out.c HOK.out).trans HSA.out.f; have HR5 := Lib.hid (show w5.cell? ⟨gw, 0, none⟩ = some (.slice (some ⟨bb, off, none⟩) cells.length c) ∧ w5.cell? ⟨gw + 1, 0, none⟩ = some (.slice none 0 0) ∧ w5.frozen? ⟨gw + 1, 0, none⟩ = false from ⟨grown_cell hg HRA.out.1 fun e => by have h9 := (own_lt HSA.out.o e).1; simp only at h9; omega, grown_cell hg HRA.out.2.1 fun e => by have h9 := (own_lt HSA.out.o e).1; simp only at h9; omega, (grown_frozen hg HRA.out.2.1 fun e => by have h9 := (own_lt HSA.out.o e).1; simp only at h9; omega).trans HRA.out.2.2⟩); have HB5 := Lib.hid (below_grown HBA.out hg HBA.out.size fun j hj => by have := (own_lt HSA.out.o hj).1; have := HGW.out; omega); clear ho hg hat)
     have HL2 := Lib.hid (show (L ++ [(⟨X, ua, uc⟩ : PR)]).map (fun r => (⟨r.ps⟩ : Cell)) = (cells.take (k + 1)).map fun x => (⟨x.planes.map F⟩ : Cell) by rw [List.map_append, HL.out, HTK.out]; rfl)
     have HOF2 := Lib.hid (show ∀ r ∈ L ++ [(⟨X, ua, uc⟩ : PR)], ∀ b, blk r.pa = some b → gw + 2 < b from fun r hr b e => by
      rcases List.mem_append.1 hr with hr | hr
      ·exact HOF.out r hr b e
      ·simp only [List.mem_singleton] at hr; subst hr; have := HPB.out b e; have := HGL.out; omega)
     go_roundw
     case rel =>
      refine ⟨k + 1, _, _, by omega, by go_num, HS5.out, HL2, HOF2, Lib.hid ⟨?_, ?_, ?_⟩, HB5.out.setCell (by have := HGW.out; simp only; omega) _⟩
      ·rw [cell_set_other (by simp only; omega)]; exact HR5.out.1
      ·rw [cell_set_other (by simp only; omega)]; exact HR5.out.2.1
      ·rw [frozen_set]; exact HR5.out.2.2
     case measure => first | (simp [intOf]; done) | (simp [intOf]; omega)
  ·obtain rfl : k = cells.length := by omega
   have hki : ¬ ((cells.length : Nat) : Int) < ((cells.length : Nat) : Int) := by omega
   have HLE := Lib.hid (show L.map (fun r => (⟨r.ps⟩ : Cell)) = cells.map fun x => (⟨x.planes.map F⟩ : Cell) by rw [HL.out, List.take_length])
   have s0 := hst.c
   clear hst hb hll
   go_wp2_with fail
   refine bodyPost_ret (v := .agg #[.slice va L.length vc]) ?_ ?_ ?_
   ·simp [results, Tryz.results74, go_sem, got1 r0]
   ·rfl
   ·have hne : (Value.slice va L.length vc).ownBlock ≠ some (gw + 1) := fun e => by have := (own_lt HS.out.o e).1; omega
    have ho := HS.out.o.kept (grownBy_set (a := ⟨gw + 1, 0, none⟩) (u := .slice va L.length vc)) (.inr hne)
    have hcv := prs_cells ho (v := .slice none 0 0) fun q hq => by
     have h := HS.out.p q hq
     exact ⟨h.pls.grown (grownBy_set (a := ⟨gw + 1, 0, none⟩)) fun b e e' => by injection e' with e'; have := HOF.out q hq b e; simp only at e'; omega, h.len, h.cap, fun b e => ⟨by rw [size_set]; exact (h.pb b e).1, fun e' => by cases e'⟩⟩
    rw [HLE.out] at hcv
    have hlen : L.length = (cells.map fun x => (⟨x.planes.map F⟩ : Cell)).length := by rw [← HLE.out, List.length_map]
    first | exact ⟨va, vc, by rw [← hlen], hcv, HB.out.setCell (by have := HGW.out; simp only; omega) _⟩ | exact ⟨va, ⟨vc, by rw [← hlen]⟩, hcv, HB.out.setCell (by have := HGW.out; simp only; omega) _⟩ | exact ⟨va, ⟨vc, by simpa using hlen⟩, hcv, HB.out.setCell (by have := HGW.out; simp only; omega) _⟩
end Go.Proofs.YtbhgkadklklmbaaGreat
/- The document's moved solid. -/
set_option linter.unusedVariables false
set_option linter.unusedSimpArgs false
namespace Go.Proofs.YtbhgkadklklmbaaGreat
open Go Go.RowKit Go.Sort Go.Lib

theorem mvP_good {p : Pl} {b : Vec} (h : p.in_ ∧ nrm p ≠ v0) (hd : bdP b p = true) : (mvP b p).in_ ∧ nrm (mvP b p) ≠ v0 := ⟨⟨h.1.1, withinB_true hd⟩, h.2⟩
/-- The boxes of the call: the solid, the way, the result. -/
structure MvBx (gw : Nat) (w : World) (a : Option Addr) (n c : Nat) (b : Vec) : Prop where
 s : w.cell? ⟨gw, 0, none⟩ = some (.slice a n c)
 x : w.cell? ⟨gw + 1, 0, none⟩ = some (.int .i64 b.x)
 y : w.cell? ⟨gw + 1, 1, none⟩ = some (.int .i64 b.y)
 z : w.cell? ⟨gw + 1, 2, none⟩ = some (.int .i64 b.z)
 r : w.cell? ⟨gw + 2, 0, none⟩ = some (.slice none 0 0)
 f : w.frozen? ⟨gw + 2, 0, none⟩ = false
theorem MvBx.keep {gw : Nat} {w w' : World} {a : Option Addr} {n c : Nat} {b : Vec} (h : MvBx gw w a n c b) (hb : Below w.heap.size w w') : MvBx gw w' a n c b :=
 ⟨cell_keep hb h.s, cell_keep hb h.x, cell_keep hb h.y, cell_keep hb h.z, cell_keep hb h.r, frozen_keep hb (block_lt_of_cell h.r) h.f⟩
theorem MvBx.grown {gw : Nat} {w w' : World} {a : Option Addr} {n c : Nat} {b : Vec} {row : Option Nat} (h : MvBx gw w a n c b) (hg : w.grownBy w' row) (hr : ∀ k, row = some k → gw + 2 < k) : MvBx gw w' a n c b := by
 have key : ∀ {g o : Nat} {v : Value}, g ≤ gw + 2 → w.cell? ⟨g, o, none⟩ = some v → w'.cell? ⟨g, o, none⟩ = some v := fun hl hc => hg.cell hc fun e => by have := hr _ e.symm; simp only at this; omega
 exact ⟨key (by omega) h.s, key (by omega) h.x, key (by omega) h.y, key (by omega) h.z, key (by omega) h.r, (World.frozen?_of_block (a := ⟨gw + 2, 0, none⟩) (hg.block (gw + 2) (block_lt_of_cell h.r) fun e => by have := hr _ e.symm; omega)).trans h.f⟩
theorem MvBx.set {gw g o : Nat} {w : World} {a : Option Addr} {n c : Nat} {b : Vec} {u : Value} (h : MvBx gw w a n c b) (hg : gw + 2 < g) : MvBx gw (w.setCell ⟨g, o, none⟩ u) a n c b := h.grown (grownBy_set (a := ⟨g, o, none⟩)) fun k e => by injection e with e; simp only at e; omega
set_option maxRecDepth 100000 in
set_option maxHeartbeats 32000000 in
theorem moveR_any (cells : List Cell) (a : Option Addr) (c : Nat) (b : Vec) (w : World) (hv : Cells.V w a cells) (hso : solE cells = 0) :
    Calls Tryz.prog 73 #[.agg #[.slice a cells.length c], .agg #[.int .i64 b.x, .int .i64 b.y, .int .i64 b.z]] w fun e w' => ∃ va vc, e = .returned (.tuple #[.agg #[.slice va (mvV b cells).length vc], .int .i64 (mvE b cells)]) ∧ Cells.V w' va (mvV b cells) ∧ Below w.heap.size w w' := by
 have hmix : Tryz.prog.follows .mixedOrders = true := by kernel_rfl
 obtain ⟨i0, hi0, hz0, hz1, hz2⟩ := info_parts cellInfo
 obtain ⟨i1, hi1, hy0, hy1, hy2⟩ := info_parts infoPl
 have HV := Lib.hid hv
 have HS0 := Lib.hid (solE_zero.1 hso)
 have HFR := Lib.hid (fun W => farR_vec b W)
 have hcl : cells.length ≤ 100 := HS0.out.1
 obtain ⟨M, hM⟩ : ∃ M, M = mvE b cells := ⟨_, rfl⟩
 obtain ⟨T, hT⟩ : ∃ T, T = mvV b cells := ⟨_, rfl⟩
 rw [← hM, ← hT]
 have HM := Lib.hid (show M = if farB b || !(cells.all fun x => mvOk b x.planes) then 2 else 0 from hM)
 have HTV := Lib.hid (show T = if M = 0 then mvX b cells else [] by rw [hT, hM]; rfl)
 clear hv hso hM hT
 have hfl := fldCell
 have hfs := fldSol
 go_enter Tryz.func73, Tryz.ntmps73
 go_upto_region 1 with fail
 refine gen_world (fun W => MvBx w.heap.size W a cells.length c b ∧ Below w.heap.size w W) ⟨⟨by simp [go_sem], by simp [go_sem], by simp [go_sem], by simp [go_sem], by simp [go_sem], by simp [go_sem]⟩, by repeat (first | (with_reducible assumption) | exact Below.refl _ _ | (refine Below.setCell ?_ (by first | omega | (simp; omega) | (simp; done)) _) | (refine Below.alloc ?_ (by first | omega | (simp; omega) | (simp; done)) _) | (refine Below.drew ?_))⟩ ?_
 rintro W ⟨hbx, hb⟩
 obtain ⟨gw, hgw⟩ : ∃ g, g = w.heap.size := ⟨_, rfl⟩
 have HGW := Lib.hid hgw
 rw [← hgw] at hbx
 rw [show w.heap.size = gw from hgw.symm]
 have HBX := Lib.hid hbx
 have HB0 := Lib.hid hb
 obtain ⟨b0, b1, b2, b3, r0, rf0⟩ := hbx
 clear hgw hb
 try simp only [Nat.add_assoc, Nat.reduceAdd]
 cases hf : farB b with
 | true =>
  rw [hf] at HFR
  have HM3 := Lib.hid (show M = 2 by rw [HM.out, hf]; rfl)
  have HT3 := Lib.hid (show T = [] by rw [HTV.out, HM3.out]; rfl)
  clear hf
  go_wp2_with (go_at_call 68; refine (HFR.out _).mono ?_; rintro e w3 ⟨rfl, hb⟩; have HB3 := Lib.hid (HB0.out.trans (hb.mono HB0.out.size)); have rf0 := frozen_keep hb (block_lt_of_cell r0) rf0; have r0 := cell_keep hb r0; clear hb)
  refine bodyPost_ret (v := .tuple #[.agg #[.slice none 0 0], .int .i64 2]) (by simp [results, Tryz.results73, go_sem, got1 r0]) rfl ?_
  rw [HM3.out, HT3.out]
  first | exact ⟨none, 0, rfl, fun hne => absurd rfl hne, HB3.out.setCell (by have := HGW.out; simp only; omega) _⟩ | exact ⟨none, ⟨0, rfl⟩, fun hne => absurd rfl hne, HB3.out.setCell (by have := HGW.out; simp only; omega) _⟩
 | false =>
  rw [hf] at HFR
  have HBI := Lib.hid (farB_in.1 hf)
  have HM3 := Lib.hid (show M = if (cells.all fun x => mvOk b x.planes) = true then 0 else 2 by
   rw [HM.out, hf]
   cases cells.all fun x => mvOk b x.planes <;> rfl)
  clear hf HM
  go_upto_region 4 with (go_at_call 68; refine (HFR.out _).mono ?_; rintro e w3 ⟨rfl, hb⟩; have HB3 := Lib.hid (HB0.out.trans (hb.mono HB0.out.size)); have HBX3 := Lib.hid (HBX.out.keep hb); have b0 := cell_keep hb b0; clear hb)
  refine gen_world (fun W => MvBx gw W a cells.length c b ∧ CpSt w3.heap.size W (.slice none 0 0) [] ∧ Below w3.heap.size w3 W) ⟨HBX3.out.keep ((Below.refl _ _).alloc (Nat.le_refl _) _), ⟨by simp [go_sem], by simp [go_sem], ⟨rfl, .inl ⟨rfl, rfl⟩⟩, fun q hq => absurd hq (by simp)⟩, by repeat (first | (with_reducible assumption) | exact Below.refl _ _ | (refine Below.setCell ?_ (by first | omega | (simp; omega) | (simp; done)) _) | (refine Below.alloc ?_ (by first | omega | (simp; omega) | (simp; done)) _) | (refine Below.drew ?_))⟩ ?_
  rintro W4 ⟨hbx4, hst4, hb4⟩
  have HBX4 := Lib.hid hbx4
  have HST := Lib.hid hst4
  have HB4 := Lib.hid (HB3.out.trans (hb4.mono HB3.out.size))
  obtain ⟨g6, hg6⟩ : ∃ g, g = w3.heap.size := ⟨_, rfl⟩
  have HG6 := Lib.hid (show gw + 2 < g6 by have := block_lt_of_cell HBX3.out.r; simp only at this; omega)
  rw [← hg6] at HST ⊢
  clear hg6 hbx4 hst4 hb4 b0 b1 b2 b3 r0 rf0
  go_wp2_with fail
  go_loopw [7] (fun iv wr => ∃ (k : Nat) (v : Value) (L : List PR), k ≤ cells.length ∧ iv = .int .i64 (k : Int) ∧ CpSt g6 wr v L ∧ Hid (L.map (fun r => (⟨r.ps⟩ : Cell)) = mvX b (cells.take k)) ∧ Hid (∀ r ∈ L, ∀ b, blk r.pa = some b → g6 < b) ∧ Hid (MvBx gw wr a cells.length c b) ∧ Hid (((cells.take k).all fun x => mvOk b x.planes) = true) ∧ Below w.heap.size w wr) (fun iv _ => cells.length - (intOf iv).toNat)
  case atStart => exact ⟨0, _, [], Nat.zero_le _, rfl, HST.out, Lib.hid rfl, Lib.hid (fun r hr => absurd hr (by simp)), HBX4, Lib.hid rfl, HB4.out⟩
  case round =>
   obtain ⟨k, v, L, hk, rfl, hst, HL, HOF, HRW, HOK, hb⟩ := hrel
   have HS := Lib.hid hst
   have HB := Lib.hid hb
   obtain ⟨va, vc, rfl, -, -⟩ := own_slice hst.o
   have hll : L.length = k := by have := congrArg List.length HL.out; unfold mvX at this; rw [List.length_map, List.length_map, List.length_take] at this; omega
   have HLL := Lib.hid hll
   have hz := HB.out.size
   by_cases hlt : k < cells.length
   ·have hki : (k : Int) < (cells.length : Int) := by omega
    obtain ⟨bb, off, rfl, hat⟩ := (HV.out.keep hb).at_ hlt
    have HTK := Lib.hid (show mvX b (cells.take (k + 1)) = mvX b (cells.take k) ++ [⟨cells[k].planes.map (mvP b)⟩] by unfold mvX; rw [List.take_succ_eq_append_getElem hlt, List.map_append]; rfl)
    have HOS := Lib.hid (show ((cells.take (k + 1)).all fun x => mvOk b x.planes) = (((cells.take k).all fun x => mvOk b x.planes) && mvOk b cells[k].planes) by rw [List.take_succ_eq_append_getElem hlt, List.all_append]; simp)
    have HAK := Lib.hid (show mvOk b cells[k].planes = false → (cells.all fun x => mvOk b x.planes) = false from fun h => List.all_eq_false.2 ⟨cells[k], List.getElem_mem hlt, by rw [h]; simp⟩)
    have HRK := Lib.hid (HS0.out.2 _ (List.getElem_mem hlt))
    generalize cells[k] = x at *
    obtain ⟨ps⟩ := x
    obtain ⟨xa, xc, x0, xv, -⟩ := hat
    rw [Nat.mul_one] at x0
    simp only at x0 xv HRK HTK HOS HAK
    have HXV := Lib.hid xv
    have HGD := Lib.hid (good_of (readE_zero.1 HRK.out).2.1)
    have hp16 : ps.length ≤ 16 := (readE_zero.1 HRK.out).1
    have HMO := Lib.hid (show mvOk b ps = ((refP (ps.map (mvP b))).all inRoomB && ps.all (bdP b)) by rw [room_mv]; rfl)
    have HX0 := Lib.hid x0
    have b0 := HRW.out.s
    clear hst hb xv hll
    go_upto_region 8 with fail
    refine gen_world (fun W4 => GrP wr.heap.size W4 (.slice none 0 0) [] ∧ Below wr.heap.size wr W4 ∧ wr.heap.size < W4.heap.size) ⟨⟨by simp [go_sem], by simp [go_sem], ⟨rfl, .inl ⟨rfl, rfl⟩⟩⟩, by repeat (first | (with_reducible assumption) | exact Below.refl _ _ | (refine Below.setCell ?_ (by first | omega | (simp; omega) | (simp; done)) _) | (refine Below.alloc ?_ (by first | omega | (simp; omega) | (simp; done)) _) | (refine Below.drew ?_)), by simp⟩ ?_
    rintro W4 ⟨hg4, hb4, hz4⟩
    have HG4 := Lib.hid hg4
    have HB4 := Lib.hid hb4
    have HZ4 := Lib.hid hz4
    obtain ⟨g7, hg7⟩ : ∃ g, g = wr.heap.size := ⟨_, rfl⟩
    have HG7 := Lib.hid hg7
    rw [← hg7] at HG4 ⊢
    clear hg4 hb4 hg7 x0 b0 hz4
    go_wp2_with fail
    obtain ⟨wo, rfl⟩ : ∃ wo : World, wo = wr := ⟨_, rfl⟩
    go_loopw [9] (fun jv wq => ∃ (m : Nat) (u : Value), m ≤ ps.length ∧ jv = .int .i64 (m : Int) ∧ GrP g7 wq u ((ps.take m).map (mvP b)) ∧ Hid (((ps.take m).all (bdP b)) = true) ∧ Below wo.heap.size wo wq) (fun jv _ => ps.length - (intOf jv).toNat)
    case atStart => exact ⟨0, _, Nat.zero_le _, rfl, HG4.out, Lib.hid rfl, HB4.out⟩
    case round =>
     obtain ⟨m, u, hm, rfl, hst, HMB, hbq⟩ := hrel
     have HGM := Lib.hid hst
     have HBQ := Lib.hid hbq
     obtain ⟨ua, uc, rfl, -, -⟩ := own_slice hst.o
     have hul : ((ps.take m).map (mvP b)).length = m := by rw [List.length_map, List.length_take]; omega
     have HRQ := Lib.hid (HRW.out.keep hbq)
     have b0 := HRQ.out.s
     have x0 := cell_keep hbq HX0.out
     have HBWQ := Lib.hid (HB.out.trans (hbq.mono hz))
     by_cases hmt : m < ps.length
     ·have hmi : (m : Int) < (ps.length : Int) := by omega
      obtain ⟨xb, xo, rfl, hpt⟩ := (HXV.out.keep hbq).at_ hmt
      have HTM := Lib.hid (show (ps.take (m + 1)).map (mvP b) = (ps.take m).map (mvP b) ++ [mvP b ps[m]] by rw [List.take_succ_eq_append_getElem hmt, List.map_append]; rfl)
      have HBM := Lib.hid (show ((ps.take (m + 1)).all (bdP b)) = ((ps.take m).all (bdP b) && bdP b ps[m]) by rw [List.take_succ_eq_append_getElem hmt, List.all_append]; simp)
      have HNM := Lib.hid (show bdP b ps[m] = false → ps.all (bdP b) = false from fun h => List.all_eq_false.2 ⟨ps[m], List.getElem_mem hmt, by rw [h]; simp⟩)
      have HPI := Lib.hid (HGD.out ps[m] (List.getElem_mem hmt)).1
      generalize ps[m] = p at *
      obtain ⟨p0, p1, p2, p3, -⟩ := hpt
      have HNV := Lib.hid (fun W => normalR_any p W)
      have HDT := Lib.hid (fun W => dotR_any (nrm p) b 8 600000 HPI.out.1 HBI.out (by decide) W)
      have HMP := Lib.hid (show (mvP b p).d = p.d + dt (nrm p) b from rfl)
      have hdd := HPI.out.2
      have hdt : -20000000 ≤ dt (nrm p) b ∧ dt (nrm p) b ≤ 20000000 := by
       have a1 := mul_in HPI.out.1.1 HBI.out.1
       have a2 := mul_in HPI.out.1.2.1 HBI.out.2.1
       have a3 := mul_in HPI.out.1.2.2 HBI.out.2.2
       unfold dt
       omega
      have HBD := Lib.hid (show bdP b p = withinB (mvP b p).d (-10000000) 10000000 from rfl)
      have HMV := Lib.hid (show mvP b p = ⟨p.a, p.b, p.c, (mvP b p).d⟩ from rfl)
      obtain ⟨T1, hT1⟩ : ∃ T, T = dt (nrm p) b := ⟨_, rfl⟩
      rw [← hT1] at hdt HDT HMP
      obtain ⟨D, hD⟩ : ∃ D, D = (mvP b p).d := ⟨_, rfl⟩
      rw [← hD] at HMP HBD HMV
      have v1 : IntKind.i64.wrap (p.d + T1) = D := by rw [HMP.out]; exact IntWalk.i64_in _ (by omega)
      have HWI := Lib.hid (fun W => withinR_any D (-10000000) 10000000 W)
      rw [← HBD.out] at HWI
      obtain ⟨NV, hNV⟩ : ∃ v, v = nrm p := ⟨_, rfl⟩
      rw [← hNV] at HNV HDT
      clear hst hbq hdd hdt hT1 hD hNV
      go_upto_region 12 with fail
      refine gen_world (fun W => ((W.cell? ⟨wr.heap.size, 0, none⟩ = some (.int .i64 p.a) ∧ W.cell? ⟨wr.heap.size, 1, none⟩ = some (.int .i64 p.b) ∧ W.cell? ⟨wr.heap.size, 2, none⟩ = some (.int .i64 p.c) ∧ W.cell? ⟨wr.heap.size, 3, none⟩ = some (.int .i64 p.d)) ∧ W.frozen? ⟨wr.heap.size, 3, none⟩ = false) ∧ Below wr.heap.size wr W) ⟨⟨⟨by simp [go_sem], by simp [go_sem], by simp [go_sem], by simp [go_sem]⟩, by simp [go_sem]⟩, by repeat (first | (with_reducible assumption) | exact Below.refl _ _ | (refine Below.setCell ?_ (by first | omega | (simp; omega) | (simp; done)) _) | (refine Below.alloc ?_ (by first | omega | (simp; omega) | (simp; done)) _) | (refine Below.drew ?_))⟩ ?_
      rintro w5 ⟨⟨⟨v0', v1', v2', v3'⟩, vf'⟩, hb5⟩
      have HB5 := Lib.hid hb5
      have HR5 := Lib.hid (HRQ.out.keep hb5)
      obtain ⟨g9, hg9⟩ : ∃ g, g = wr.heap.size := ⟨_, rfl⟩
      have HG9 := Lib.hid hg9
      rw [← hg9] at v0' v1' v2' v3' vf' ⊢
      have hg9l : g9 < w5.heap.size := by have := block_lt_of_cell v0'; simpa using this
      obtain ⟨-, e0, e1, e2, -, -⟩ := HR5.out
      clear hb5 hg9 p0 p1 p2 p3 b0 x0
      have kx0 : ∀ y : KW (fun W' => Below w5.heap.size w5 W'), (y.w.cell? ⟨g9, 0, none⟩ = some (.int .i64 p.a) ∧ y.w.cell? ⟨g9, 1, none⟩ = some (.int .i64 p.b) ∧ y.w.cell? ⟨g9, 2, none⟩ = some (.int .i64 p.c) ∧ y.w.cell? ⟨g9, 3, none⟩ = some (.int .i64 p.d)) := fun y => ⟨cell_keep y.ok v0', cell_keep y.ok v1', cell_keep y.ok v2', cell_keep y.ok v3'⟩
      have kx1 : ∀ y : KW (fun W' => Below w5.heap.size w5 W'), (y.w.cell? ⟨gw + 1, 0, none⟩ = some (.int .i64 b.x) ∧ y.w.cell? ⟨gw + 1, 1, none⟩ = some (.int .i64 b.y) ∧ y.w.cell? ⟨gw + 1, 2, none⟩ = some (.int .i64 b.z)) := fun y => ⟨cell_keep y.ok e0, cell_keep y.ok e1, cell_keep y.ok e2⟩
      haveI nn1 : Nonempty (KW (fun W' => Below w5.heap.size w5 W')) := ⟨⟨w5, Below.refl _ _⟩⟩
      refine wp_region_tree (fun w' => ∃ y : KW (fun W' => Below w5.heap.size w5 W'), w' = y.w) 6 (.take 0 (.take 1 (.take 2 (.take 4 (.one 3 (.one 5 .done)))))) hmix (by kernel_rfl) (KW.mk' (Below.refl _ _).drew) ?_
      have HC0 := Lib.hid (show Below w5.heap.size w5 w5.drew from (Below.refl _ _).drew)
      generalize w5.drew = wv at *
      repeat (refine wpTree_take ?_; simp only [nthOp]; (first | go_big_quiet_step (fail) | quiet_step (fail)); refine wpQuiet_nil ?_)
      refine wpTree_one ?_
      simp only [nthOp]
      go_wp2_with (go_at_call 137; refine (HNV.out _).mono ?_; rintro e wa ⟨rfl, hb⟩; have HC1 := Lib.hid (HC0.out.trans (hb.mono HC0.out.size)); clear hb)
      refine One_mk (KW.mk' HC1.out) ?_
      refine wpTree_one ?_
      simp only [nthOp]
      go_wp2_with (go_at_call 136; refine (HDT.out _).mono ?_; rintro e wb ⟨rfl, hb⟩; have HC2 := Lib.hid (HC1.out.trans (hb.mono HC1.out.size)); clear hb)
      refine One_mk (KW.mk' HC2.out) ?_
      have v0' := cell_keep HC2.out v0'
      have v1' := cell_keep HC2.out v1'
      have v2' := cell_keep HC2.out v2'
      have v3' := cell_keep HC2.out v3'
      have vf' := frozen_keep HC2.out hg9l vf'
      have pc0 : (wb.setCell ⟨g9, 3, none⟩ (.int .i64 D)).cell? ⟨g9, 0, none⟩ = some (.int .i64 p.a) := by rw [cell_set_ne (by simp) rfl rfl]; exact v0'
      have pc1 : (wb.setCell ⟨g9, 3, none⟩ (.int .i64 D)).cell? ⟨g9, 1, none⟩ = some (.int .i64 p.b) := by rw [cell_set_ne (by simp) rfl rfl]; exact v1'
      have pc2 : (wb.setCell ⟨g9, 3, none⟩ (.int .i64 D)).cell? ⟨g9, 2, none⟩ = some (.int .i64 p.c) := by rw [cell_set_ne (by simp) rfl rfl]; exact v2'
      have pc3 := cell_set_same (w := wb) (a := ⟨g9, 3, none⟩) (u := .int .i64 D) (by rw [v3']; rfl)
      have HBS := Lib.hid (show Below wr.heap.size wr (wb.setCell ⟨g9, 3, none⟩ (.int .i64 D)) from (HB5.out.trans (HC2.out.mono HB5.out.size)).setCell (by have := HG9.out; simp only; omega) _)
      clear kx0 kx1 nn1 e0 e1 e2
      refine wpTree_done ?_
      simp only [List.drop_succ_cons, List.drop_zero]
      go_wp2_with fail
      refine NP_mk ?_
      go_upto_region 13 with fail
      refine gen_world (fun W => (W.cell? ⟨g9, 0, none⟩ = some (.int .i64 p.a) ∧ W.cell? ⟨g9, 1, none⟩ = some (.int .i64 p.b) ∧ W.cell? ⟨g9, 2, none⟩ = some (.int .i64 p.c) ∧ W.cell? ⟨g9, 3, none⟩ = some (.int .i64 D)) ∧ Below wr.heap.size wr W) ⟨⟨pc0, pc1, pc2, pc3⟩, HBS.out⟩ ?_
      rintro wc ⟨⟨v0, v1'', v2'', v3''⟩, hbc⟩
      have HBC := Lib.hid hbc
      have HRC := Lib.hid (HRQ.out.keep hbc)
      have HBWC := Lib.hid (HBWQ.out.trans (hbc.mono HBWQ.out.size))
      have HBOC := Lib.hid (HBQ.out.trans (hbc.mono HBQ.out.size))
      have HGN := Lib.hid (HGM.out.keep hbc)
      clear pc0 pc1 pc2 pc3 v0' v1' v2' v3' vf' hbc
      rcases Bool.eq_false_or_eq_true (bdP b p) with hq | hq
      ·rw [hq] at HWI
       have HMB2 := Lib.hid (show ((ps.take (m + 1)).all (bdP b)) = true by rw [HBM.out, HMB.out, hq]; rfl)
       clear hq
       obtain ⟨A, hA⟩ : ∃ A, A = (ps.take m).map (mvP b) := ⟨_, rfl⟩
       have hal : A.length = m := by rw [hA]; exact hul
       rw [← hA] at HGN HTM
       have s7 := HGN.out.c
       have HAL := Lib.hid ((Below.refl wc.heap.size wc).alloc (Nat.le_refl _) (.cells #[.int .i64 p.a, .int .i64 p.b, .int .i64 p.c, .int .i64 D] 26))
       have HGA := Lib.hid (HGN.out.keep HAL.out)
       have HNW := Lib.hid (show ∀ j u, (cellsPl ⟨p.a, p.b, p.c, D⟩)[j]? = some u → (wc.alloc (.cells #[.int .i64 p.a, .int .i64 p.b, .int .i64 p.c, .int .i64 D] 26)).cell? ((⟨wc.heap.size, 0, none⟩ : Addr).add j) = some u from news_of (cellsPl ⟨p.a, p.b, p.c, D⟩) 26 wc _ rfl)
       have HGZ := Lib.hid (show g7 + 1 ≤ (wc.alloc (.cells #[.int .i64 p.a, .int .i64 p.b, .int .i64 p.c, .int .i64 D] 26)).heap.size by have := block_lt_of_cell HGA.out.c; simp only at this; omega)
       have HTM2 := Lib.hid (show (ps.take (m + 1)).map (mvP b) = A ++ [⟨p.a, p.b, p.c, D⟩] by rw [HTM.out, HMV.out])
       have HBA := Lib.hid (show Below wo.heap.size wo (wc.alloc (.cells #[.int .i64 p.a, .int .i64 p.b, .int .i64 p.c, .int .i64 D] 26)) from HBOC.out.trans (HAL.out.mono HBOC.out.size))
       clear hA hul
       have HAM := Lib.hid hal
       clear hal
       go_wp2_with (first | (go_at_call 82; refine (HWI.out _).mono ?_; rintro e w9 ⟨rfl, rfl⟩) | (at_builtin; refine wpList_append_here _ rfl _ _ 22 rfl (g7 + 1) 26 i1 (.agg #[.int .i64 0, .int .i64 0, .int .i64 0, .int .i64 0]) 4 32 Tryz.underlying22 hi1 hy0 hy1 hy2 rfl (by decide) (.slice ua A.length uc) A.length (A.flatMap cellsPl) rfl HGA.out.o ⟨wc.heap.size, 0, none⟩ 1 1 (cellsPl ⟨p.a, p.b, p.c, D⟩) rfl rfl HNW.out (cellsPl_one _) (by decide) (by have := HAM.out; simp only [maxLen]; omega) (by have := HAM.out; omega) HGZ.out ?_; intro v' w9 ho hg hat; obtain ⟨ua', uc', rfl, -, -⟩ := own_slice ho; have HP9 := Lib.hid (HGA.out.put (ps' := A ++ [(⟨p.a, p.b, p.c, D⟩ : Pl)]) hg (by rw [List.flatMap_append, List.length_append]; simpa using ho)); have HOKB := Lib.hid (show (Value.slice ua A.length uc).ownBlock ≠ some g7 from fun e => by have := (own_lt HGA.out.o e).1; omega); have m0 := grown_cell hg HGA.out.c HOKB.out; have mf := (grown_frozen hg HGA.out.c HOKB.out).trans HGA.out.f; have HB9 := Lib.hid (below_grown HBA.out hg HBA.out.size fun j hj => by have := (own_lt HGA.out.o hj).1; have := HG7.out; omega); clear ho hg hat))
       go_roundw
       case rel => exact ⟨m + 1, _, by omega, by go_num, by rw [HTM2.out]; exact HP9.out, HMB2, HB9.out.setCell (by have := HG7.out; simp only; omega) _⟩
       case measure => first | (simp [intOf]; done) | (simp [intOf]; omega)
      ·rw [hq] at HWI
       have HBAD := Lib.hid (show mvOk b ps = false by rw [HMO.out, HNM.out hq]; simp)
       have HM4 := Lib.hid (show M = 2 by rw [HM3.out, HAK.out HBAD.out]; rfl)
       have HT4 := Lib.hid (show T = [] by rw [HTV.out, HM4.out]; rfl)
       have r0 := HRC.out.r
       have rf0 := HRC.out.f
       clear hq
       go_wp2_with (go_at_call 82; refine (HWI.out _).mono ?_; rintro e w9 ⟨rfl, rfl⟩)
       refine bodyPost_ret (v := .tuple #[.agg #[.slice none 0 0], .int .i64 2]) (by simp [results, Tryz.results73, go_sem, got1 r0]) rfl ?_
       rw [HM4.out, HT4.out]
       first | exact ⟨none, 0, rfl, fun hne => absurd rfl hne, HBWC.out.setCell (by have := HGW.out; simp only; omega) _⟩ | exact ⟨none, ⟨0, rfl⟩, fun hne => absurd rfl hne, HBWC.out.setCell (by have := HGW.out; simp only; omega) _⟩
     ·obtain rfl : m = ps.length := by omega
      have hmi : ¬ ((ps.length : Nat) : Int) < ((ps.length : Nat) : Int) := by omega
      have HGE := Lib.hid (show GrP g7 wr (.slice ua ((ps.take ps.length).map (mvP b)).length uc) (ps.map (mvP b)) by have := HGM.out; rw [List.take_length] at this ⊢; exact this)
      have HBP := Lib.hid (show ps.all (bdP b) = true by have := HMB.out; rwa [List.take_length] at this)
      have HMO2 := Lib.hid (show mvOk b ps = (refP (ps.map (mvP b))).all inRoomB by rw [HMO.out, HBP.out]; simp)
      obtain ⟨X, hX⟩ : ∃ X, X = ps.map (mvP b) := ⟨_, rfl⟩
      have hXL : X.length = ps.length := by rw [hX, List.length_map]
      have HXG := Lib.hid (show Good X from fun p hp => by
       rw [hX] at hp
       obtain ⟨p0, hp0, rfl⟩ := List.mem_map.1 hp
       exact mvP_good (HGD.out p0 hp0) (List.all_eq_true.1 HBP.out p0 hp0))
      have HXW := Lib.hid (show ∀ p ∈ X, p.wf from fun p hp => by
       rw [hX] at hp
       obtain ⟨p0, hp0, rfl⟩ := List.mem_map.1 hp
       exact mvP_wf (HGD.out p0 hp0).1 HBI.out)
      rw [← hX] at HGE HTK HMO2
      have s7 := HGE.out.c
      have HS3 := Lib.hid (HS.out.keep hbq)
      have s5 := HS3.out.c
      have hbq2 := HBQ.out.size
      obtain ⟨-, hpr, hpb⟩ := HGE.out.pr (v := .slice va L.length vc) (N := 0) HXW.out (fun k e => by have := (own_lt HS.out.o e).2; have := HG7.out; omega)
      have HPR := Lib.hid hpr
      have HPB := Lib.hid hpb
      clear hst hbq hX hpr hpb hul
      have HAL := Lib.hid ((Below.refl wr.heap.size wr).alloc (Nat.le_refl _) (.cells #[.slice ua ps.length uc] 24))
      have HNW := Lib.hid (show ∀ j u, (cellsPR ⟨X, ua, uc⟩)[j]? = some u → (wr.alloc (.cells #[.slice ua ps.length uc] 24)).cell? ((⟨wr.heap.size, 0, none⟩ : Addr).add j) = some u by rw [show cellsPR ⟨X, ua, uc⟩ = [.slice ua ps.length uc] by unfold cellsPR; rw [hXL]]; exact news_of [.slice ua ps.length uc] 24 wr _ rfl)
      have HSA := Lib.hid (HS3.out.keep HAL.out)
      have HPA := Lib.hid (HPR.out.keep HAL.out)
      have HRA := Lib.hid (HRQ.out.keep HAL.out)
      have HBA := Lib.hid (HBWQ.out.trans (HAL.out.mono HBWQ.out.size))
      have HNA := Lib.hid (show g6 + 1 ≤ (wr.alloc (.cells #[.slice ua ps.length uc] 24)).heap.size by have := HSA.out.lt; omega)
      have HGL := Lib.hid (show g6 < g7 by have := HS.out.lt; have := HG7.out; omega)
      have HSW := Lib.hid (show ∀ e, (Value.slice va L.length vc).ownBlock = some e → g6 < e ∧ e ≠ g7 from fun e h => ⟨by have := (own_lt HS.out.o h).1; omega, by have := (own_lt HS.out.o h).2; have := HG7.out; omega⟩)
      have HS7 := Lib.hid (cell_keep HAL.out s7)
      have HXL := Lib.hid hXL
      have v1 : IntKind.i64.wrap ((k : Int) + 1) = (k : Int) + 1 := IntWalk.i64_in _ (by omega)
      clear hXL
      go_upto_region 17 with (at_builtin; refine wpList_append_here _ rfl _ _ 46 rfl (g6 + 1) 24 i0 (.agg #[.slice none 0 0]) 1 24 Tryz.underlying46 hi0 hz0 hz1 hz2 rfl (by decide) (.slice va L.length vc) L.length (L.flatMap cellsPR) rfl HSA.out.o ⟨wr.heap.size, 0, none⟩ 1 1 (cellsPR ⟨X, ua, uc⟩) rfl rfl HNW.out (cellsPR_one _) (by decide) (by have := HLL.out; simp only [maxLen]; omega) (by have := HLL.out; omega) HNA.out ?_; intro v' w5 ho hg hat; obtain ⟨va', vc', rfl, -, -⟩ := own_slice ho; have HO5 := Lib.hid (show w5.ownsRow (g6 + 1) 24 1 (.slice va' (L.length + 1) vc') (L ++ [(⟨X, ua, uc⟩ : PR)]).length ((L ++ [(⟨X, ua, uc⟩ : PR)]).flatMap cellsPR) by rw [List.flatMap_append, List.length_append]; simpa using ho); have HS5 := Lib.hid (HSA.out.put hg hat HPA.out (fun b e => by have := HPB.out b e; have := HGL.out; omega) (fun r hr b e => by have := HOF.out r hr b e; omega) HO5.out); have HOKB := Lib.hid (show (Value.slice va L.length vc).ownBlock ≠ some g6 from fun e => by have := (HSW.out _ e).1; omega); have m0 := grown_cell hg HSA.out.c HOKB.out; have mf := (grown_frozen hg HSA.out.c HOKB.out).trans HSA.out.f; have HR5 := Lib.hid ((HRA.out.grown hg fun k e => by have := (HSW.out k e).1; have := HG6.out; omega).set (g := g6) (o := 0) (u := .slice va' (L.length + 1) vc') HG6.out); have HT5 := Lib.hid (show (w5.setCell ⟨g6, 0, none⟩ (.slice va' (L.length + 1) vc')).cell? ⟨g7, 0, none⟩ = some (.slice ua X.length uc) by rw [cell_set_blk (by have := HGL.out; omega)]; exact (grown_cell hg HS7.out fun e => (HSW.out g7 e).2 rfl).trans (by rw [HXL.out]; simp)); have HB5 := Lib.hid (show Below w.heap.size w (w5.setCell ⟨g6, 0, none⟩ (.slice va' (L.length + 1) vc')) from (below_grown HBA.out hg HBA.out.size fun j hj => by have := (own_lt HSA.out.o hj).1; have := HG6.out; have := HGW.out; omega).setCell (by have := HG6.out; have := HGW.out; simp only; omega) _); clear ho hg hat)
      refine gen_world (fun W => ∃ va' vc', CpSt g6 W (.slice va' (L.length + 1) vc') (L ++ [⟨X, ua, uc⟩]) ∧ MvBx gw W (some ⟨bb, off, none⟩) cells.length c b ∧ W.cell? ⟨g7, 0, none⟩ = some (.slice ua X.length uc) ∧ Below w.heap.size w W) ⟨_, _, HS5.out, HR5.out, HT5.out, HB5.out⟩ ?_
      rintro w7 ⟨va', vc', hs7, hr7, s7, hb7⟩
      have HPT := Lib.hid (pointsR_any X ua uc w7 HXG.out (by have := HXL.out; omega) (hs7.p _ (List.mem_append_right _ (List.mem_singleton.2 rfl))).pls)
      have HS7 := Lib.hid hs7
      have HR7 := Lib.hid hr7
      have HB7 := Lib.hid hb7
      have HCI := Lib.hid (show ∀ x ∈ refP X, x.in_ from fun x hx => corn_in HXG.out x (mem_refP.1 hx))
      have hrl : (refP X).length ≤ 1000000 := by
       have h1 := ddp_len (raw X)
       have h2 := corn_len (l := X) (n := 40) (by have := HXL.out; omega)
       have h3 := perm_refP X
       have h4 := h3.length_eq
       omega
      have HL2 := Lib.hid (show (L ++ [(⟨X, ua, uc⟩ : PR)]).map (fun r => (⟨r.ps⟩ : Cell)) = mvX b (cells.take (k + 1)) by rw [List.map_append, HL.out, HTK.out]; rfl)
      have HOF2 := Lib.hid (show ∀ r ∈ L ++ [(⟨X, ua, uc⟩ : PR)], ∀ b, blk r.pa = some b → g6 < b from fun r hr b e => by
       rcases List.mem_append.1 hr with hr | hr
       ·exact HOF.out r hr b e
       ·simp only [List.mem_singleton] at hr; subst hr; have := HPB.out b e; have := HGL.out; omega)
      generalize refP X = cs at *
      clear hs7 hr7 hb7
      go_upto_region 18 with (go_at_call 31; refine HPT.out.mono ?_; rintro e w8 ⟨ca, cc, rfl, ho, hb⟩; have HCO := Lib.hid ho; have HB8 := Lib.hid hb; clear ho hb)
      have HCV := Lib.hid (ownCoV (fun x hx => Co.in_.wf (HCI.out x hx)) HCO.out)
      have HS8 := Lib.hid (HS7.out.keep HB8.out)
      have HR8 := Lib.hid (HR7.out.keep HB8.out)
      have HBW8 := Lib.hid (HB7.out.trans (HB8.out.mono HB7.out.size))
      clear s7
      go_wp2_with fail
      go_loopw [12] (fun jv wq => ∃ j : Nat, j ≤ cs.length ∧ jv = .int .i64 (j : Int) ∧ Below w8.heap.size w8 wq ∧ Hid (((cs.take j).all inRoomB) = true)) (fun jv _ => cs.length - (intOf jv).toNat)
      case atStart => exact ⟨0, Nat.zero_le _, rfl, Below.refl _ _, Lib.hid rfl⟩
      case round =>
       obtain ⟨j, hj, rfl, hbq, HJ⟩ := hrel
       have HBQ2 := Lib.hid hbq
       by_cases hjt : j < cs.length
       ·have hji : (j : Int) < (cs.length : Int) := by omega
        obtain ⟨cb, coff, rfl, hcat⟩ := (HCV.out.keep hbq).at_ hjt
        have HTJ := Lib.hid (show ((cs.take (j + 1)).all inRoomB) = (((cs.take j).all inRoomB) && inRoomB cs[j]) by rw [List.take_succ_eq_append_getElem hjt, List.all_append]; simp)
        have HNJ := Lib.hid (show inRoomB cs[j] = false → cs.all inRoomB = false from fun h => List.all_eq_false.2 ⟨cs[j], List.getElem_mem hjt, by rw [h]; simp⟩)
        have HIR := Lib.hid (fun W => inRoomR_any cs[j] (HCI.out _ (List.getElem_mem hjt)).2 W)
        generalize cs[j] = q at *
        obtain ⟨d0, d1, d2, d3, -⟩ := hcat
        clear hbq
        rcases Bool.eq_false_or_eq_true (inRoomB q) with hq | hq
        ·have HJ2 := Lib.hid (show ((cs.take (j + 1)).all inRoomB) = true by rw [HTJ.out, HJ.out, hq]; rfl)
         rw [hq] at HIR
         clear hq
         go_wp2_with (go_at_call 80; refine (HIR.out _).mono ?_; rintro e w9 ⟨rfl, hb⟩; have HB9 := Lib.hid (HBQ2.out.trans (hb.mono HBQ2.out.size)); clear hb)
         go_roundw
         case rel => exact ⟨j + 1, by omega, by go_num, HB9.out, HJ2⟩
         case measure => first | (simp [intOf]; done) | (simp [intOf]; omega)
        ·have HBAD := Lib.hid (show mvOk b ps = false by rw [HMO2.out]; exact HNJ.out hq)
         have HM4 := Lib.hid (show M = 2 by rw [HM3.out, HAK.out HBAD.out]; rfl)
         have HT4 := Lib.hid (show T = [] by rw [HTV.out, HM4.out]; rfl)
         rw [hq] at HIR
         obtain ⟨-, -, -, -, r0, rf0⟩ := HR8.out.keep HBQ2.out
         clear hq
         go_wp2_with (go_at_call 80; refine (HIR.out _).mono ?_; rintro e w9 ⟨rfl, hb⟩; have HB9 := Lib.hid (HBQ2.out.trans (hb.mono HBQ2.out.size)); have rf0 := frozen_keep hb (block_lt_of_cell r0) rf0; have r0 := cell_keep hb r0; clear hb)
         refine bodyPost_ret (v := .tuple #[.agg #[.slice none 0 0], .int .i64 2]) (by simp [results, Tryz.results73, go_sem, got1 r0]) rfl ?_
         rw [HM4.out, HT4.out]
         first | exact ⟨none, 0, rfl, fun hne => absurd rfl hne, (HBW8.out.trans (HB9.out.mono HBW8.out.size)).setCell (by have := HGW.out; simp only; omega) _⟩ | exact ⟨none, ⟨0, rfl⟩, fun hne => absurd rfl hne, (HBW8.out.trans (HB9.out.mono HBW8.out.size)).setCell (by have := HGW.out; simp only; omega) _⟩
       ·obtain rfl : j = cs.length := by omega
        have hji : ¬ ((cs.length : Nat) : Int) < ((cs.length : Nat) : Int) := by omega
        have HOK2 := Lib.hid (show ((cells.take (k + 1)).all fun x => mvOk b x.planes) = true by
         rw [HOS.out, HOK.out, HMO2.out]
         have := HJ.out
         rw [List.take_length] at this
         rw [this]; rfl)
        have HS9 := Lib.hid (HS8.out.keep hbq)
        have HR9 := Lib.hid (HR8.out.keep hbq)
        have HBW9 := Lib.hid (HBW8.out.trans (hbq.mono HBW8.out.size))
        clear hbq
        go_wp2_with fail
        go_roundw
        case rel => exact ⟨k + 1, _, _, by omega, by go_num, HS9.out, HL2, HOF2, HR9, HOK2, HBW9.out⟩
        case measure => first | (simp [intOf]; done) | (simp [intOf]; omega)
   ·obtain rfl : k = cells.length := by omega
    have hki : ¬ ((cells.length : Nat) : Int) < ((cells.length : Nat) : Int) := by omega
    have HM4 := Lib.hid (show M = 0 by rw [HM3.out]; have := HOK.out; rw [List.take_length] at this; rw [if_pos this])
    have HT4 := Lib.hid (show T = mvX b cells by rw [HTV.out, if_pos HM4.out])
    have HLE := Lib.hid (show L.map (fun r => (⟨r.ps⟩ : Cell)) = T by rw [HL.out, List.take_length, HT4.out])
    have s0 := hst.c
    obtain ⟨b0, -, -, -, r0, rf0⟩ := HRW.out
    clear hst hb hll
    go_wp2_with fail
    refine bodyPost_ret (v := .tuple #[.agg #[.slice va L.length vc], .int .i64 0]) (by simp [results, Tryz.results73, go_sem, got1 r0]) rfl ?_
    have hne : (Value.slice va L.length vc).ownBlock ≠ some (gw + 2) := fun e => by have := (own_lt HS.out.o e).1; have := HG6.out; omega
    have ho := HS.out.o.kept (grownBy_set (a := ⟨gw + 2, 0, none⟩) (u := .slice va L.length vc)) (.inr hne)
    have hcv := prs_cells ho (v := .slice none 0 0) fun q hq => by
     have h := HS.out.p q hq
     exact ⟨h.pls.grown (grownBy_set (a := ⟨gw + 2, 0, none⟩)) fun b e e' => by injection e' with e'; have := HOF.out q hq b e; have := HG6.out; simp only at e'; omega, h.len, h.cap, fun b e => ⟨by rw [size_set]; exact (h.pb b e).1, fun e' => by cases e'⟩⟩
    rw [HLE.out] at hcv
    have hlen : L.length = T.length := by rw [← HLE.out, List.length_map]
    rw [HM4.out]
    first | exact ⟨va, vc, by rw [← hlen], hcv, HB.out.setCell (by have := HGW.out; simp only; omega) _⟩ | exact ⟨va, ⟨vc, by rw [← hlen]⟩, hcv, HB.out.setCell (by have := HGW.out; simp only; omega) _⟩
end Go.Proofs.YtbhgkadklklmbaaGreat
/- Moved and turned solids: what the law wants beside the walks. -/
set_option linter.unusedVariables false
set_option linter.unusedSimpArgs false
namespace Go.Proofs.YtbhgkadklklmbaaGreat
open Go Go.RowKit Go.Sort Go.Lib

theorem sameSelf (M : List Cell) (a b : Option Addr) (an bn : Nat) (w : World) (hl : M.length ≤ 1000) (hp : ∀ x ∈ M, x.planes.length ≤ 100000) (hv : Cells.V w a M) (hu : Cells.V w b M) :
    Calls Tryz.prog 58 #[.agg #[.slice a M.length an], .agg #[.slice b M.length bn]] w fun e w' => e = .returned (.bool true) ∧ Below w.heap.size w w' :=
 (sameSolid_any M M a b an bn w hl hl hv hu hp hp).mono fun e w' h => ⟨by rw [h.1]; simp, h.2⟩
/-- A valid cell has planes. -/
theorem ne_valid {l : List Pl} (h : readE l = 0) : l ≠ [] := fun e => by
 have h2 := (readE_zero.1 h).2.2.1
 rw [e] at h2
 exact absurd h2 (by decide)
theorem moV_ne (cells : List Cell) (b : Vec) : ∀ x ∈ moV cells b, x.planes ≠ [] := fun x hx => by
 unfold moV at hx
 split at hx
 ·rename_i h
  have h0 : solE cells = 0 := by
   unfold moE at h
   by_cases e : solE cells = 0
   ·exact e
   ·rw [if_pos e] at h; exact h
  unfold mvX at hx
  obtain ⟨y, hy, rfl⟩ := List.mem_map.1 hx
  have := ne_valid ((solE_zero.1 h0).2 y hy)
  simpa using this
 ·cases hx
theorem moV_sol {cells : List Cell} {b : Vec} (h : solE cells = 0) : moV cells b = mvV b cells ∧ moE cells b = mvE b cells := by
 have e : moE cells b = mvE b cells := by unfold moE; rw [if_neg (by simpa using h)]
 exact ⟨by unfold moV mvV; rw [e], e⟩
theorem moV_len (cells : List Cell) (b : Vec) : (moV cells b).length ≤ cells.length ∧ ((∀ x ∈ cells, x.planes.length ≤ 100000) → ∀ x ∈ moV cells b, x.planes.length ≤ 100000) := by
 unfold moV
 split
 ·unfold mvX
  refine ⟨by simp, fun h x hx => ?_⟩
  obtain ⟨y, hy, rfl⟩ := List.mem_map.1 hx
  simpa using h y hy
 ·exact ⟨by simp, fun _ x hx => by cases hx⟩
theorem turV_len (cells : List Cell) (n : Int) : (turV cells n).length ≤ cells.length ∧ ((∀ x ∈ cells, x.planes.length ≤ 100000) → ∀ x ∈ turV cells n, x.planes.length ≤ 100000) := by
 unfold turV
 split
 ·unfold trX
  refine ⟨by simp, fun h x hx => ?_⟩
  obtain ⟨y, hy, rfl⟩ := List.mem_map.1 hx
  simpa using h y hy
 ·exact ⟨by simp, fun _ x hx => by cases hx⟩
def TnCut (W5 : World) (V : List Cell) (E : Int) (u : Nat → Value) (W : World) : Prop := ∃ g ka kc, u 7 = .pointer (some ⟨g, 0, none⟩) ∧ u 8 = .int .i64 E ∧ W.cell? ⟨g, 0, none⟩ = some (.slice ka V.length kc) ∧ Cells.V W ka V ∧ Below W5.heap.size W5 W
end Go.Proofs.YtbhgkadklklmbaaGreat
