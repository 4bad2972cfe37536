/- The program's moved solid. -/
import Derived.Test.YtbhgkadklklmbaaGreatTV1
import Derived.Test.YtbhgkadklklmbaaGreatTU5
import Derived.Test.YtbhgkadklklmbaaGreatQR
import Derived.Test.YtbhgkadklklmbaaGreatQI
import Derived.Test.YtbhgkadklklmbaaGreatQT2
set_option linter.unusedVariables false
set_option linter.unusedSimpArgs false
namespace Go.Proofs.YtbhgkadklklmbaaGreat
open Go Go.RowKit Go.Sort Go.Lib

def moE (cells : List Cell) (b : Vec) : Int := if solE cells ≠ 0 then solE cells else mvE b cells
def moV (cells : List Cell) (b : Vec) : List Cell := if moE cells b = 0 then mvX b cells else []
theorem mul_rm {b n : Int} (hb : -600000 ≤ b ∧ b ≤ 600000) (hn : 1 ≤ n ∧ n ≤ 5000) : -3000000000 ≤ b * n ∧ b * n ≤ 3000000000 := by
 have := mul_in (A := 600000) (B := 5000) (a := b) (b := n) (by omega) (by omega)
 omega
theorem mvP_wf {p : Pl} {b : Vec} (h : p.in_) (hb : b.in_ 600000) : (mvP b p).wf := by
 obtain ⟨⟨h1, h2, h3⟩, h4⟩ := h
 have a1 := mul_in h1 hb.1
 have a2 := mul_in h2 hb.2.1
 have a3 := mul_in h3 hb.2.2
 unfold nrm at h1 h2 h3 a1 a2 a3
 simp only at h1 h2 h3 a1 a2 a3
 unfold Pl.wf mvP dt nrm
 simp only
 omega
theorem SolR.off {base g o : Nat} {w : World} {v u : Value} {L : List PR} (h : SolR base w v L) (hg : g < base) : SolR base (w.setCell ⟨g, o, none⟩ u) v L :=
 ⟨h.o.kept (grownBy_set (a := ⟨g, o, none⟩)) (by
  cases hv : v.ownBlock with
  | none => exact .inl rfl
  | some k => exact .inr fun e => by have := (own_lt h.o hv).1; injection e with e; simp only at e; omega),
  fun i hi => (h.p i hi).grown (grownBy_set (a := ⟨g, o, none⟩)) fun b e e' => by have := (blk_lt (h.p i hi) b e).1; injection e' with e'; simp only at e'; omega, h.a, h.s⟩
set_option maxRecDepth 100000 in
set_option maxHeartbeats 16000000 in
theorem move_any (cells : List Cell) (a : Option Addr) (c : Nat) (b : Vec) (w : World) (hcl : cells.length ≤ 9223372036854775807) (hv : Cells.V w a cells) (hpl : ∀ x ∈ cells, x.planes.length ≤ 1000000) :
    Calls Tryz.prog 70 #[.agg #[.slice a cells.length c], .agg #[.int .i64 b.x, .int .i64 b.y, .int .i64 b.z]] w fun e w' => ∃ va vc, e = .returned (.tuple #[.agg #[.slice va (moV cells b).length vc], .int .i64 (moE cells b)]) ∧ Cells.V w' va (moV cells b) ∧ Below w.heap.size w w' := by
 have hmix : Tryz.prog.follows .mixedOrders = true := by kernel_rfl
 have HT := Lib.hid (fun W (h : Below w.heap.size w W) => bodies_any cells a c W hcl (hv.keep h) hpl)
 have HRC := Lib.hid (fun W => reach_any b W)
 have HVW := Lib.hid hv
 obtain ⟨M, hM⟩ : ∃ M, M = moE cells b := ⟨_, rfl⟩
 obtain ⟨T, hT⟩ : ∃ T, T = moV cells b := ⟨_, rfl⟩
 rw [← hM, ← hT]
 have HM := Lib.hid (show M = if solE cells ≠ 0 then solE cells else mvE b cells from hM)
 have HTV := Lib.hid (show T = if M = 0 then mvX b cells else [] by rw [hT, hM]; rfl)
 clear hv hpl hM hT
 go_enter Tryz.func70, Tryz.ntmps70
 go_upto_region 1 with fail
 refine gen_world (fun W => W.cell? ⟨w.heap.size, 0, none⟩ = some (.slice a cells.length c) ∧ (W.cell? ⟨w.heap.size + 1, 0, none⟩ = some (.int .i64 b.x) ∧ W.cell? ⟨w.heap.size + 1, 1, none⟩ = some (.int .i64 b.y) ∧ W.cell? ⟨w.heap.size + 1, 2, none⟩ = some (.int .i64 b.z)) ∧ (W.cell? ⟨w.heap.size + 2, 0, none⟩ = some (.slice none 0 0) ∧ W.frozen? ⟨w.heap.size + 2, 0, none⟩ = false) ∧ Below w.heap.size w W) ⟨by simp [go_sem], ⟨by simp [go_sem], by simp [go_sem], by simp [go_sem]⟩, ⟨by simp [go_sem], by simp [go_sem]⟩, by repeat (first | (with_reducible assumption) | exact Below.refl _ _ | (refine Below.setCell ?_ (by first | omega | (simp; omega) | (simp; done)) _) | (refine Below.alloc ?_ (by first | omega | (simp; omega) | (simp; done)) _) | (refine Below.drew ?_))⟩ ?_
 rintro W ⟨b0, hbc, ⟨r0, rf0⟩, hb⟩
 have HB0 := Lib.hid hb
 have HBC := Lib.hid hbc
 have HTW := Lib.hid (HT.out W hb)
 obtain ⟨gp, hgp⟩ : ∃ g, g = w.heap.size := ⟨_, rfl⟩
 have HGP := Lib.hid hgp
 rw [← hgp] at b0 r0 rf0 HBC
 rw [show w.heap.size = gp from hgp.symm]
 clear hb hgp hbc HT
 try simp only [Nat.add_assoc, Nat.reduceAdd]
 go_upto_region 2 with (go_at_call 98; refine HTW.out.mono ?_; rintro e w2 ⟨v, rfl, hb, hr⟩; have HB1 := Lib.hid hb; obtain ⟨va, vn, vc, rfl⟩ := hr.shape; have HP := Lib.hid hr; have b0 := cell_keep hb b0; have rf0 := frozen_keep hb (block_lt_of_cell r0) rf0; have r0 := cell_keep hb r0; clear hb hr)
 have HBW1 := Lib.hid (HB0.out.trans (HB1.out.mono HB0.out.size))
 obtain ⟨b1, b2, b3⟩ := HBC.out
 have b1 := cell_keep HB1.out b1
 have b2 := cell_keep HB1.out b2
 have b3 := cell_keep HB1.out b3
 by_cases h0 : solE cells = 0
 ·obtain ⟨L, hL1, hL2⟩ := HP.out.2 h0
  obtain ⟨e1, hbx⟩ := bods_of h0 hL1 hL2
  subst e1
  have HX := Lib.hid (show L.map (·.ps) = cells.map (·.planes) from hL1.ps)
  have HS0 := Lib.hid (solE_zero.1 h0)
  have HRE := Lib.hid (show ∀ r ∈ L, readE r.ps = 0 from fun r hr => by
   have : r.ps ∈ cells.map (·.planes) := by rw [← HX.out]; exact List.mem_map.2 ⟨r, hr, rfl⟩
   obtain ⟨x, hx, e⟩ := List.mem_map.1 this
   rw [← e]; exact HS0.out.2 x hx)
  have HBX := Lib.hid hbx
  have hll := hbx.l
  have HLC := Lib.hid (show L.length = cells.length by have := congrArg List.length HX.out; simpa using this)
  have HM2 := Lib.hid (show M = mvE b cells by rw [HM.out, if_neg (by simpa using h0)])
  have HALL := Lib.hid (show (cells.all fun x => mvOk b x.planes) = L.all fun r => mvOk b r.ps by
   have e1 : (cells.all fun x => mvOk b x.planes) = (cells.map (·.planes)).all (mvOk b) := by rw [List.all_map]; rfl
   have e2 : (L.all fun r => mvOk b r.ps) = (L.map (·.ps)).all (mvOk b) := by rw [List.all_map]; rfl
   rw [e1, e2, HX.out])
  rw [h0]
  clear hL1 hL2 HP HTW HM hbx
  cases hf : farB b with
  | true =>
   rw [hf] at HRC
   have HM3 := Lib.hid (show M = 2 by rw [HM2.out]; unfold mvE; rw [hf]; rfl)
   have HT3 := Lib.hid (show T = [] by rw [HTV.out, HM3.out]; rfl)
   clear hf
   go_wp2_with (go_at_call 131; refine (HRC.out _).mono ?_; rintro e w3 ⟨rfl, hb⟩; have HB3 := Lib.hid (HBW1.out.trans (hb.mono HBW1.out.size)); have rf0 := frozen_keep hb (block_lt_of_cell r0) rf0; have r0 := cell_keep hb r0; clear hb)
   refine bodyPost_ret (v := .tuple #[.agg #[.slice none 0 0], .int .i64 2]) (by simp [results, Tryz.results70, go_sem, got1 r0]) rfl ?_
   rw [HM3.out, HT3.out]
   exact ⟨none, 0, rfl, fun hne => absurd rfl hne, HB3.out.setCell (by have := HGP.out; simp only; omega) _⟩
  | false =>
   rw [hf] at HRC
   have HBI := Lib.hid (farB_in.1 hf)
   have HM3 := Lib.hid (show M = if (L.all fun r => mvOk b r.ps) = true then 0 else 2 by
    rw [HM2.out]; unfold mvE; rw [hf, HALL.out]
    cases L.all fun r => mvOk b r.ps <;> rfl)
   clear hf
   have HCP := Lib.hid (fun W (h : Below w.heap.size w W) => copied2_any cells a c W (by have := HS0.out.1; omega) (HVW.out.keep h) (fun x hx => by have := (readE_zero.1 (HS0.out.2 x hx)).1; omega))
   go_upto_region 7 with (first | (go_at_call 131; refine (HRC.out _).mono ?_; rintro e w3 ⟨rfl, hb⟩; have HB3 := Lib.hid (HBW1.out.trans (hb.mono HBW1.out.size)); have HX3 := Lib.hid hb; have b0 := cell_keep hb b0; have b1 := cell_keep hb b1; have b2 := cell_keep hb b2; have b3 := cell_keep hb b3; have rf0 := frozen_keep hb (block_lt_of_cell r0) rf0; have r0 := cell_keep hb r0; clear hb) | (go_at_call 122; refine (HCP.out _ HB3.out).mono ?_; rintro e w4 ⟨ua, uc, L0, rfl, hl0, ho0, -, hop, hap, hb⟩; have HSR := Lib.hid (solR_of ho0 (fun q hq => hop q hq) hap); have HL0 := Lib.hid hl0; have HB4 := Lib.hid hb; clear hl0 ho0 hop hap hb))
   obtain ⟨g8, hg8⟩ : ∃ g, g = w4.heap.size := ⟨_, rfl⟩
   refine gen_world (fun W => MvSt w3.heap.size g8 w3 W ua L0.length uc (mixF (chR (mvP b)) L0 0)) ?_ ?_
   ·rw [mixF_zero, hg8]
    exact ⟨HSR.out.keep ((Below.refl _ _).alloc (Nat.le_refl _) _), by simp [go_sem], fun i hi b e => (blk_lt (HSR.out.p i hi) b e).2, HB4.out.alloc HB4.out.size _, by have := HB4.out.size; simp; omega⟩
   rintro w5 hst5
   have HST5 := Lib.hid hst5
   have HLE := Lib.hid (show L0.map (·.ps) = L.map (·.ps) by
    rw [HX.out, ← HL0.out, List.map_map]; rfl)
   have HLN := Lib.hid (show L0.length = L.length by have := congrArg List.length HLE.out; simpa using this)
   have HG8 := Lib.hid (show gp + 2 < g8 by have := block_lt_of_cell r0; have := HB4.out.size; simp only at *; omega)
   rw [← hg8]
   have HBY := Lib.hid (And.intro b1 (And.intro b2 b3))
   have HRR := Lib.hid (And.intro r0 rf0)
   clear hst5 hg8 b0 b1 b2 b3 r0 rf0 HCP HRC HSR
   go_wp2_with fail
   go_loopw [34] (fun iv wr => ∃ k : Nat, k ≤ L.length ∧ iv = .int .i64 (k : Int) ∧ MvSt w3.heap.size g8 w3 wr ua L0.length uc (mixF (chR (mvP b)) L0 k) ∧ Hid (((L.take k).all fun r => mvOk b r.ps) = true)) (fun iv _ => L.length - (intOf iv).toNat)
   case atStart => exact ⟨0, Nat.zero_le _, rfl, HST5.out, Lib.hid rfl⟩
   case round =>
    obtain ⟨k, hk, rfl, hst, HOK⟩ := hrel
    have HST := Lib.hid hst
    by_cases hlt : k < L.length
    ·have hki : (k : Int) < (L.length : Int) := by omega
     have hlt0 : k < L0.length := by have := HLN.out; omega
     obtain ⟨bb, off, rfl, hat⟩ := (HBX.out.v.keep (HX3.out.trans (hst.b.mono HX3.out.size))).at_ hlt
     have HBG := Lib.hid (HBX.out.b _ (List.getElem_mem hlt)).1
     have HRK := Lib.hid (HRE.out _ (List.getElem_mem hlt))
     have HPS := Lib.hid (show L0[k].ps = L[k].ps by
      have h := List.getElem_of_eq HLE.out (i := k) (by rw [List.length_map]; exact hlt0)
      simpa using h)
     have HTK := Lib.hid (show ((L.take (k + 1)).all fun r => mvOk b r.ps) = (((L.take k).all fun r => mvOk b r.ps) && mvOk b L[k].ps) by rw [List.take_succ_eq_append_getElem hlt, List.all_append]; simp)
     have HAK := Lib.hid (show mvOk b L[k].ps = false → (L.all fun r => mvOk b r.ps) = false from fun h => List.all_eq_false.2 ⟨L[k], List.getElem_mem hlt, by rw [h]; simp⟩)
     have HCRM := Lib.hid (corn_coRm HRK.out)
     generalize L[k] = r at *
     obtain ⟨c0, c1⟩ := hat
     have HCV := Lib.hid HBG.out.cos
     have hcl := HBG.out.cl
     have HMO := Lib.hid (show mvOk b r.ps = ((corn r.ps).all (fun c => inRoomB (mvC b c)) && r.ps.all (bdP b)) from rfl)
     generalize corn r.ps = cs at *
     obtain ⟨rca, hrca⟩ : ∃ x, x = r.ca := ⟨_, rfl⟩
     rw [← hrca] at HCV c1
     clear hst hrca
     go_upto_region 10 with fail
     refine gen_world (fun W2 => W2.cell? ⟨wr.heap.size, 1, none⟩ = some (.slice rca cs.length r.cc) ∧ Below wr.heap.size wr W2) ⟨by simp [go_sem], by repeat (first | (with_reducible assumption) | exact Below.refl _ _ | (refine Below.setCell ?_ (by first | omega | (simp; omega) | (simp; done)) _) | (refine Below.alloc ?_ (by first | omega | (simp; omega) | (simp; done)) _) | (refine Below.drew ?_))⟩ ?_
     rintro W8 ⟨x1, hb8⟩
     have HS8 := Lib.hid (HST.out.keep hb8)
     have HB8 := Lib.hid hb8
     have hcv := HCV.out.keep (HX3.out.trans (HS8.out.b.mono HX3.out.size))
     have HCV8 := Lib.hid hcv
     have HBY8 := Lib.hid (show W8.cell? ⟨gp + 1, 0, none⟩ = some (.int .i64 b.x) ∧ W8.cell? ⟨gp + 1, 1, none⟩ = some (.int .i64 b.y) ∧ W8.cell? ⟨gp + 1, 2, none⟩ = some (.int .i64 b.z) from ⟨cell_keep HS8.out.b HBY.out.1, cell_keep HS8.out.b HBY.out.2.1, cell_keep HS8.out.b HBY.out.2.2⟩)
     have HRR8 := Lib.hid (show W8.cell? ⟨gp + 2, 0, none⟩ = some (.slice none 0 0) ∧ W8.frozen? ⟨gp + 2, 0, none⟩ = false from ⟨cell_keep HS8.out.b HRR.out.1, frozen_keep HS8.out.b (block_lt_of_cell HRR.out.1) HRR.out.2⟩)
     have HBW8 := Lib.hid (show Below w.heap.size w W8 from HB3.out.trans (HS8.out.b.mono HB3.out.size))
     clear hb8 c0 c1 hcv
     obtain ⟨wo, rfl⟩ : ∃ wo : World, wo = wr := ⟨_, rfl⟩
     go_wp2_with fail
     go_loopw [42] (fun jv wq => ∃ j : Nat, j ≤ cs.length ∧ jv = .int .i64 (j : Int) ∧ Below W8.heap.size W8 wq ∧ Hid (((cs.take j).all fun c => inRoomB (mvC b c)) = true)) (fun jv _ => cs.length - (intOf jv).toNat)
     case atStart => exact ⟨0, Nat.zero_le _, rfl, Below.refl _ _, Lib.hid rfl⟩
     case round =>
      obtain ⟨j, hj, rfl, hbq, HJ⟩ := hrel
      have HBQ := Lib.hid hbq
      by_cases hjt : j < cs.length
      ·have hji : (j : Int) < (cs.length : Int) := by omega
       obtain ⟨cb, coff, rfl, hcat⟩ := (HCV8.out.keep hbq).at_ hjt
       have HTJ := Lib.hid (show ((cs.take (j + 1)).all fun c => inRoomB (mvC b c)) = (((cs.take j).all fun c => inRoomB (mvC b c)) && inRoomB (mvC b cs[j])) by rw [List.take_succ_eq_append_getElem hjt, List.all_append]; simp)
       have HNJ := Lib.hid (show inRoomB (mvC b cs[j]) = false → (cs.all fun c => inRoomB (mvC b c)) = false from fun h => List.all_eq_false.2 ⟨cs[j], List.getElem_mem hjt, by rw [h]; simp⟩)
       have HCR := Lib.hid (HCRM.out _ (List.getElem_mem hjt))
       generalize cs[j] = c at *
       obtain ⟨d0, d1, d2, d3, -⟩ := hcat
       obtain ⟨e0, e1, e2⟩ := HBY8.out
       have e0 := cell_keep hbq e0
       have e1 := cell_keep hbq e1
       have e2 := cell_keep hbq e2
       have r0 := cell_keep hbq HRR8.out.1
       have rf0 := frozen_keep hbq (block_lt_of_cell HRR8.out.1) HRR8.out.2
       have hn := HCR.out.n
       have m1 := mul_rm HBI.out.1 hn
       have m2 := mul_rm HBI.out.2.1 hn
       have m3 := mul_rm HBI.out.2.2 hn
       have hcx := HCR.out.x
       have hcy := HCR.out.y
       have hcz := HCR.out.z
       have HMC := Lib.hid (show mvC b c = ⟨c.x + b.x * c.n, c.y + b.y * c.n, c.z + b.z * c.n, c.n⟩ from rfl)
       obtain ⟨P1, hP1⟩ : ∃ P, P = b.x * c.n := ⟨_, rfl⟩
       rw [← hP1] at m1 HMC
       obtain ⟨P2, hP2⟩ : ∃ P, P = b.y * c.n := ⟨_, rfl⟩
       rw [← hP2] at m2 HMC
       obtain ⟨P3, hP3⟩ : ∃ P, P = b.z * c.n := ⟨_, rfl⟩
       rw [← hP3] at m3 HMC
       have q1 : IntKind.i64.wrap (b.x * c.n) = P1 := by rw [← hP1]; exact IntWalk.i64_in _ (by omega)
       have q2 : IntKind.i64.wrap (b.y * c.n) = P2 := by rw [← hP2]; exact IntWalk.i64_in _ (by omega)
       have q3 : IntKind.i64.wrap (b.z * c.n) = P3 := by rw [← hP3]; exact IntWalk.i64_in _ (by omega)
       have v1 : IntKind.i64.wrap (c.x + P1) = c.x + P1 := IntWalk.i64_in _ (by omega)
       have v2 : IntKind.i64.wrap (c.y + P2) = c.y + P2 := IntWalk.i64_in _ (by omega)
       have v3 : IntKind.i64.wrap (c.z + P3) = c.z + P3 := IntWalk.i64_in _ (by omega)
       have HIR := Lib.hid (fun W => inRoom_any (mvC b c) (by rw [HMC.out]; simp only; omega) W)
       rw [HMC.out] at HIR HTJ HNJ
       simp only at HIR
       clear hbq m1 m2 m3 hcx hcy hcz hn hP1 hP2 hP3
       go_upto_region 13 with fail
       refine gen_world (fun W3 => CoBx W3 wr.heap.size c ∧ Below wr.heap.size wr W3) ⟨⟨by simp [go_sem], by simp [go_sem], by simp [go_sem], by simp [go_sem]⟩, by repeat (first | (with_reducible assumption) | exact Below.refl _ _ | (refine Below.setCell ?_ (by first | omega | (simp; omega) | (simp; done)) _) | (refine Below.alloc ?_ (by first | omega | (simp; omega) | (simp; done)) _) | (refine Below.drew ?_))⟩ ?_
       rintro W3 ⟨⟨d0', d1', d2', d3'⟩, hb3⟩
       have HBR := Lib.hid (HBQ.out.trans (hb3.mono HBQ.out.size))
       have e0 := cell_keep hb3 e0
       have e1 := cell_keep hb3 e1
       have e2 := cell_keep hb3 e2
       have rf0 := frozen_keep hb3 (block_lt_of_cell r0) rf0
       have r0 := cell_keep hb3 r0
       clear hb3 d0 d1 d2 d3
       generalize wr.heap.size = g12 at d0' d1' d2' d3' ⊢
       rcases Bool.eq_false_or_eq_true (inRoomB ⟨c.x + P1, c.y + P2, c.z + P3, c.n⟩) with hq | hq
       ·have HJ2 := Lib.hid (show ((cs.take (j + 1)).all fun c => inRoomB (mvC b c)) = true by rw [HTJ.out, HJ.out, hq]; rfl)
        rw [hq] at HIR
        clear hq
        go_wp2_with (go_at_call 132; refine (HIR.out _).mono ?_; rintro e w9 ⟨rfl, hb⟩; have HB9 := Lib.hid (HBR.out.trans (hb.mono HBR.out.size)); clear hb)
        go_roundw
        case rel => exact ⟨j + 1, by omega, by go_num, HB9.out, HJ2⟩
        case measure => first | (simp [intOf]; done) | (simp [intOf]; omega)
       ·have HBAD := Lib.hid (show mvOk b r.ps = false by rw [HMO.out, HNJ.out hq]; rfl)
        have HM4 := Lib.hid (show M = 2 by rw [HM3.out, HAK.out HBAD.out]; rfl)
        have HT4 := Lib.hid (show T = [] by rw [HTV.out, HM4.out]; rfl)
        rw [hq] at HIR
        clear hq
        go_wp2_with (go_at_call 132; refine (HIR.out _).mono ?_; rintro e w9 ⟨rfl, hb⟩; have HB9 := Lib.hid (HBR.out.trans (hb.mono HBR.out.size)); have rf0 := frozen_keep hb (block_lt_of_cell r0) rf0; have r0 := cell_keep hb r0; clear hb)
        refine bodyPost_ret (v := .tuple #[.agg #[.slice none 0 0], .int .i64 2]) (by simp [results, Tryz.results70, go_sem, got1 r0]) rfl ?_
        rw [HM4.out, HT4.out]
        exact ⟨none, 0, rfl, fun hne => absurd rfl hne, (HBW8.out.trans (HB9.out.mono HBW8.out.size)).setCell (by have := HGP.out; simp only; omega) _⟩
      ·obtain rfl : j = cs.length := by omega
       have hji : ¬ ((cs.length : Nat) : Int) < ((cs.length : Nat) : Int) := by omega
       have HCS := Lib.hid (show (cs.all fun c => inRoomB (mvC b c)) = true by have := HJ.out; rwa [List.take_length] at this)
       have HS9 := Lib.hid (HS8.out.keep hbq)
       have HMO2 := Lib.hid (show mvOk b r.ps = r.ps.all (bdP b) by rw [HMO.out, HCS.out]; simp)
       have HIN := Lib.hid (HS9.out.enter hlt0)
       clear hbq x1
       obtain ⟨q, hq⟩ : ∃ q, q = L0[k] := ⟨_, rfl⟩
       have HLV := Lib.hid (fun W (h : MvSt w3.heap.size g8 w3 W ua L0.length uc ((mixF (chR (mvP b)) L0 k).set k ⟨mixF (mvP b) q.ps q.ps.length, q.pa, q.pc⟩)) => MvSt.leave (f := mvP b) hlt0 (by rw [← hq]; exact h))
       rw [← hq] at HIN HPS
       obtain ⟨M0, hM0⟩ : ∃ M0, M0 = mixF (chR (mvP b)) L0 k := ⟨_, rfl⟩
       have hkM : k < M0.length := by rw [hM0, mixF_len _ L0 (Nat.le_of_lt hlt0)]; exact hlt0
       rw [← hM0] at HIN HLV
       have HGD := Lib.hid (good_of (readE_zero.1 HRK.out).2.1)
       rw [← HPS.out] at HGD HMO2
       have hq16 : q.ps.length ≤ 16 := by rw [HPS.out]; exact (readE_zero.1 HRK.out).1
       have HBY9 := Lib.hid (show wr.cell? ⟨gp + 1, 0, none⟩ = some (.int .i64 b.x) ∧ wr.cell? ⟨gp + 1, 1, none⟩ = some (.int .i64 b.y) ∧ wr.cell? ⟨gp + 1, 2, none⟩ = some (.int .i64 b.z) from ⟨cell_keep HBQ.out HBY8.out.1, cell_keep HBQ.out HBY8.out.2.1, cell_keep HBQ.out HBY8.out.2.2⟩)
       have HBW9 := Lib.hid (HBW8.out.trans (HBQ.out.mono HBW8.out.size))
       clear hq hM0 HS9
       obtain ⟨gv, rfl, -, -, x0⟩ := HIN.out.cell (m := 0) hkM (Nat.zero_le _)
       have s8 := HIN.out.c
       obtain ⟨wo2, rfl⟩ : ∃ wo : World, wo = wr := ⟨_, rfl⟩
       go_wp2_with fail
       go_loopw [84] (fun mv wq => ∃ m : Nat, m ≤ q.ps.length ∧ mv = .int .i64 (m : Int) ∧ MvSt w3.heap.size g8 w3 wq (some ⟨gv, 0, none⟩) L0.length uc (M0.set k ⟨mixF (mvP b) q.ps m, q.pa, q.pc⟩) ∧ Hid (((q.ps.take m).all (bdP b)) = true)) (fun mv _ => q.ps.length - (intOf mv).toNat)
       case atStart => exact ⟨0, Nat.zero_le _, rfl, HIN.out, Lib.hid rfl⟩
       case round =>
        obtain ⟨m, hm, rfl, hst, HMB⟩ := hrel
        have HSM := Lib.hid hst
        by_cases hmt : m < q.ps.length
        ·have hmi : (m : Int) < (q.ps.length : Int) := by omega
         obtain ⟨g, hpa, hgN, hg8, hgw, ⟨p0, p1, p2, p3⟩, f0, f1, f2, f3⟩ := hst.pos hkM hmt
         obtain ⟨gv', hgv, -, -, x0⟩ := hst.cell hkM hm
         injection hgv with hgv
         injection hgv with hgv
         subst hgv
         have s8 := hst.c
         have HSP := Lib.hid (fun W (h : MvSt w3.heap.size g8 w3 W (some ⟨gv, 0, none⟩) L0.length uc (M0.set k ⟨mixF (mvP b) q.ps m, q.pa, q.pc⟩)) => h.stepD (f := mvP b) (D := (mvP b q.ps[m]).d) hkM hmt hpa rfl)
         have HTM := Lib.hid (show ((q.ps.take (m + 1)).all (bdP b)) = ((q.ps.take m).all (bdP b) && bdP b q.ps[m]) by rw [List.take_succ_eq_append_getElem hmt, List.all_append]; simp)
         have HNM := Lib.hid (show bdP b q.ps[m] = false → q.ps.all (bdP b) = false from fun h => List.all_eq_false.2 ⟨q.ps[m], List.getElem_mem hmt, by rw [h]; simp⟩)
         have HPI := Lib.hid (HGD.out q.ps[m] (List.getElem_mem hmt)).1
         have e0 := cell_keep hst.b HBY.out.1
         have e1 := cell_keep hst.b HBY.out.2.1
         have e2 := cell_keep hst.b HBY.out.2.2
         have HRR9 := Lib.hid (show wr.cell? ⟨gp + 2, 0, none⟩ = some (.slice none 0 0) ∧ wr.frozen? ⟨gp + 2, 0, none⟩ = false from ⟨cell_keep hst.b HRR.out.1, frozen_keep hst.b (block_lt_of_cell HRR.out.1) HRR.out.2⟩)
         rw [hpa] at x0
         clear hpa
         generalize q.ps[m] = p at *
         have HNV := Lib.hid (fun W => normal_any p W)
         have HDT := Lib.hid (fun W => dot_any (nrm p) b 8 600000 HPI.out.1 HBI.out (by decide) W)
         have HMP := Lib.hid (show (mvP b p).d = p.d + dt (nrm p) b from rfl)
         have hdd := HPI.out.2
         have hdt : -20000000 ≤ dt (nrm p) b ∧ dt (nrm p) b ≤ 20000000 := by
          have a1 := mul_in HPI.out.1.1 HBI.out.1
          have a2 := mul_in HPI.out.1.2.1 HBI.out.2.1
          have a3 := mul_in HPI.out.1.2.2 HBI.out.2.2
          unfold dt
          omega
         have HBD := Lib.hid (show bdP b p = withinB (mvP b p).d (-10000000) 10000000 from rfl)
         obtain ⟨T1, hT1⟩ : ∃ T, T = dt (nrm p) b := ⟨_, rfl⟩
         rw [← hT1] at hdt HDT HMP
         obtain ⟨D, hD⟩ : ∃ D, D = (mvP b p).d := ⟨_, rfl⟩
         rw [← hD] at HMP HSP HBD
         have v1 : IntKind.i64.wrap (p.d + T1) = D := by rw [HMP.out]; exact IntWalk.i64_in _ (by omega)
         obtain ⟨NV, hNV⟩ : ∃ v, v = nrm p := ⟨_, rfl⟩
         rw [← hNV] at HNV HDT
         clear hst hdd hdt hT1 hD hNV
         go_upto_region 20 with fail
         have kx0 : ∀ y : KW (fun W' => Below wr.heap.size wr W'), (y.w.cell? ⟨g, m * 4, none⟩ = some (.int .i64 p.a) ∧ y.w.cell? ⟨g, m * 4 + 1, none⟩ = some (.int .i64 p.b) ∧ y.w.cell? ⟨g, m * 4 + 2, none⟩ = some (.int .i64 p.c) ∧ y.w.cell? ⟨g, m * 4 + 3, none⟩ = some (.int .i64 p.d)) := fun y => ⟨cell_keep y.ok p0, cell_keep y.ok p1, cell_keep y.ok p2, cell_keep y.ok p3⟩
         have kx1 : ∀ y : KW (fun W' => Below wr.heap.size wr W'), (y.w.cell? ⟨gp + 1, 0, none⟩ = some (.int .i64 b.x) ∧ y.w.cell? ⟨gp + 1, 1, none⟩ = some (.int .i64 b.y) ∧ y.w.cell? ⟨gp + 1, 2, none⟩ = some (.int .i64 b.z)) := fun y => ⟨cell_keep y.ok e0, cell_keep y.ok e1, cell_keep y.ok e2⟩
         haveI nn1 : Nonempty (KW (fun W' => Below wr.heap.size wr W')) := ⟨⟨wr, Below.refl _ _⟩⟩
         refine wp_region_tree (fun w' => ∃ y : KW (fun W' => Below wr.heap.size wr W'), w' = y.w) 10 (.take 0 (.take 1 (.take 2 (.take 3 (.take 4 (.take 5 (.take 6 (.take 8 (.one 7 (.one 9 .done)))))))))) hmix (by kernel_rfl) (KW.mk' (Below.refl _ _).drew) ?_
         have HC0 := Lib.hid (show Below wr.heap.size wr wr.drew from (Below.refl _ _).drew)
         generalize wr.drew = wv at *
         repeat (refine wpTree_take ?_; simp only [nthOp]; (first | go_big_quiet_step (fail) | quiet_step (fail)); refine wpQuiet_nil ?_)
         refine wpTree_one ?_
         simp only [nthOp]
         go_wp2_with (go_at_call 81; refine (HNV.out _).mono ?_; rintro e wa ⟨rfl, hb⟩; have HC1 := Lib.hid (HC0.out.trans (hb.mono HC0.out.size)); clear hb)
         refine One_mk (KW.mk' HC1.out) ?_
         refine wpTree_one ?_
         simp only [nthOp]
         go_wp2_with (go_at_call 133; refine (HDT.out _).mono ?_; rintro e wb ⟨rfl, hb⟩; have HC2 := Lib.hid (HC1.out.trans (hb.mono HC1.out.size)); clear hb)
         refine One_mk (KW.mk' HC2.out) ?_
         have p3 := cell_keep HC2.out p3
         have f3 := frozen_keep HC2.out hgw f3
         have HS2 := Lib.hid (HSP.out _ (HSM.out.keep HC2.out))
         have pc := cell_set_same (w := wb) (a := ⟨g, m * 4 + 3, none⟩) (u := .int .i64 D) (by rw [p3]; rfl)
         clear kx0 kx1 nn1 e0 e1 e2 x0 s8 p0 p1 p2 f0 f1 f2
         refine wpTree_done ?_
         simp only [List.drop_succ_cons, List.drop_zero]
         go_wp2_with fail
         refine NP_mk ?_
         go_upto_region 21 with fail
         refine gen_world (fun W => MvSt w3.heap.size g8 w3 W (some ⟨gv, 0, none⟩) L0.length uc (M0.set k ⟨mixF (mvP b) q.ps (m + 1), q.pa, q.pc⟩) ∧ W.cell? ⟨g, m * 4 + 3, none⟩ = some (.int .i64 D)) ⟨HS2.out, pc⟩ ?_
         rintro wc ⟨hs, p3'⟩
         have HS3 := Lib.hid hs
         have r0 := cell_keep hs.b HRR.out.1
         have rf0 := frozen_keep hs.b (block_lt_of_cell HRR.out.1) HRR.out.2
         have HBWx := Lib.hid (HB3.out.trans (hs.b.mono HB3.out.size))
         clear hs pc p3 f3
         by_cases hd1 : D < -10000000
         ·have hd1' := hd1
          have HBAD := Lib.hid (show mvOk b r.ps = false by rw [← HPS.out, HMO2.out]; exact HNM.out (by rw [HBD.out]; unfold withinB; simp; omega))
          have HM4 := Lib.hid (show M = 2 by rw [HM3.out, HAK.out HBAD.out]; rfl)
          have HT4 := Lib.hid (show T = [] by rw [HTV.out, HM4.out]; rfl)
          go_wp2_with fail
          refine bodyPost_ret (v := .tuple #[.agg #[.slice none 0 0], .int .i64 2]) (by simp [results, Tryz.results70, go_sem, got1 r0]) rfl ?_
          rw [HM4.out, HT4.out]
          first | exact ⟨none, 0, rfl, fun hne => absurd rfl hne, HBWx.out.setCell (by have := HGP.out; simp only; omega) _⟩ | exact ⟨none, ⟨0, rfl⟩, fun hne => absurd rfl hne, HBWx.out.setCell (by have := HGP.out; simp only; omega) _⟩
         ·by_cases hd2 : 10000000 < D
          ·have hd3 : -10000000 ≤ D := by omega
           have HBAD := Lib.hid (show mvOk b r.ps = false by rw [← HPS.out, HMO2.out]; exact HNM.out (by rw [HBD.out]; unfold withinB; simp; omega))
           have HM4 := Lib.hid (show M = 2 by rw [HM3.out, HAK.out HBAD.out]; rfl)
           have HT4 := Lib.hid (show T = [] by rw [HTV.out, HM4.out]; rfl)
           go_wp2_with fail
           refine bodyPost_ret (v := .tuple #[.agg #[.slice none 0 0], .int .i64 2]) (by simp [results, Tryz.results70, go_sem, got1 r0]) rfl ?_
           rw [HM4.out, HT4.out]
           first | exact ⟨none, 0, rfl, fun hne => absurd rfl hne, HBWx.out.setCell (by have := HGP.out; simp only; omega) _⟩ | exact ⟨none, ⟨0, rfl⟩, fun hne => absurd rfl hne, HBWx.out.setCell (by have := HGP.out; simp only; omega) _⟩
          ·have hd3 : -10000000 ≤ D := by omega
           have hd4 : D ≤ 10000000 := by omega
           have HMB2 := Lib.hid (show ((q.ps.take (m + 1)).all (bdP b)) = true by rw [HTM.out, HMB.out, HBD.out]; unfold withinB; simp; omega)
           clear r0 rf0
           go_wp2_with fail
           go_roundw
           case rel => exact ⟨m + 1, by omega, by go_num, HS3.out, HMB2⟩
           case measure => first | (simp [intOf]; done) | (simp [intOf]; omega)
        ·obtain rfl : m = q.ps.length := by omega
         have hmi : ¬ ((q.ps.length : Nat) : Int) < ((q.ps.length : Nat) : Int) := by omega
         have HOK2 := Lib.hid (show ((L.take (k + 1)).all fun r => mvOk b r.ps) = true by
          rw [HTK.out, HOK.out, ← HPS.out, HMO2.out]
          have := HMB.out
          rw [List.take_length] at this
          rw [this]; rfl)
         have HNX := Lib.hid (HLV.out _ hst)
         clear hst
         go_wp2_with fail
         go_roundw
         case rel => exact ⟨k + 1, by omega, by go_num, HNX.out, HOK2⟩
         case measure => first | (simp [intOf]; done) | (simp [intOf]; omega)
    ·obtain rfl : k = L.length := by omega
     have hki : ¬ ((L.length : Nat) : Int) < ((L.length : Nat) : Int) := by omega
     have HM4 := Lib.hid (show M = 0 by rw [HM3.out]; have := HOK.out; rw [List.take_length] at this; rw [if_pos this])
     have HT4 := Lib.hid (show T = mvX b cells by rw [HTV.out, if_pos HM4.out])
     have s8 := hst.c
     have r0 := cell_keep hst.b HRR.out.1
     have rf0 := frozen_keep hst.b (block_lt_of_cell HRR.out.1) HRR.out.2
     have HBW := Lib.hid (HB3.out.trans (hst.b.mono HB3.out.size))
     clear hst
     go_wp2_with fail
     refine bodyPost_ret (v := .tuple #[.agg #[.slice ua L0.length uc], .int .i64 0]) (by simp [results, Tryz.results70, go_sem, got1 r0]) rfl ?_
     have hgN : gp + 2 < w3.heap.size := by have := block_lt_of_cell HRR.out.1; simpa using this
     have hsr := (HST.out.s).off (u := .slice ua L0.length uc) (o := 0) hgN
     rw [← HLN.out, mixF_end] at hsr
     obtain ⟨hn, hcv⟩ := hsr.cells (fun q hq p hp => by
      obtain ⟨q0, hq0, rfl⟩ := List.mem_map.1 hq
      simp only [chR] at hp
      obtain ⟨p0, hp0, rfl⟩ := List.mem_map.1 hp
      have hc : (⟨q0.ps⟩ : Cell) ∈ cells := by rw [← HL0.out]; exact List.mem_map.2 ⟨q0, hq0, rfl⟩
      exact mvP_wf (good_of (readE_zero.1 (HS0.out.2 _ hc)).2.1 p0 hp0).1 HBI.out)
     have he : (L0.map (chR (mvP b))).map (fun r => (⟨r.ps⟩ : Cell)) = T := by
      rw [HT4.out, ← HL0.out]
      unfold mvX
      rw [List.map_map, List.map_map]; rfl
     rw [he] at hcv
     rw [HM4.out]
     exact ⟨ua, ⟨uc, by rw [← he]; simp⟩, hcv, HBW.out.setCell (by have := HGP.out; simp only; omega) _⟩
 ·have HM2 := Lib.hid (show M = solE cells by rw [HM.out, if_pos h0])
  have HT3 := Lib.hid (show T = [] by rw [HTV.out, HM2.out, if_neg h0])
  have hE1 : (solE cells != 0) = true := by simpa using h0
  have hE2 : (solE cells == 0) = false := by simpa using h0
  clear h0
  generalize solE cells = E at *
  go_wp2_with fail
  refine bodyPost_ret (v := .tuple #[.agg #[.slice none 0 0], .int .i64 E]) (by simp [results, Tryz.results70, go_sem, got1 r0]) rfl ?_
  rw [HM2.out, HT3.out]
  exact ⟨none, 0, rfl, fun hne => absurd rfl hne, HBW1.out.setCell (by have := HGP.out; simp only; omega) _⟩
end Go.Proofs.YtbhgkadklklmbaaGreat
/- The program's turned solid. -/
set_option linter.unusedVariables false
set_option linter.unusedSimpArgs false
namespace Go.Proofs.YtbhgkadklklmbaaGreat
open Go Go.RowKit Go.Sort Go.Lib

theorem zPl_put {w : World} {g : Nat} (p : Pl) (h : (w.cell? ⟨g, 0, none⟩ = some (.int .i64 0) ∧ w.cell? ⟨g, 1, none⟩ = some (.int .i64 0) ∧ w.cell? ⟨g, 2, none⟩ = some (.int .i64 0) ∧ w.cell? ⟨g, 3, none⟩ = some (.int .i64 0))) :
    ((put4 w g 0 p).cell? ⟨g, 0, none⟩ = some (.int .i64 p.a) ∧ (put4 w g 0 p).cell? ⟨g, 1, none⟩ = some (.int .i64 p.b) ∧ (put4 w g 0 p).cell? ⟨g, 2, none⟩ = some (.int .i64 p.c) ∧ (put4 w g 0 p).cell? ⟨g, 3, none⟩ = some (.int .i64 p.d)) := by
 have s : ∀ {W : World} {a b : Addr} {u x : Value}, a ≠ b → a.spot = none → b.spot = none → W.cell? b = some x → (W.setCell a u).cell? b = some x := fun h1 h2 h3 h4 => by rw [cell_set_ne h1 h2 h3]; exact h4
 unfold put4
 refine ⟨?_, ?_, ?_, ?_⟩
 ·exact s (by simp) rfl rfl (s (by simp) rfl rfl (s (by simp) rfl rfl (cell_set_same (by rw [show (0 : Nat) * 4 = 0 from rfl, h.1]; rfl))))
 ·exact s (by simp) rfl rfl (s (by simp) rfl rfl (cell_set_same (by rw [show (0 : Nat) * 4 + 1 = 1 from rfl, s (by simp) rfl rfl h.2.1]; rfl)))
 ·exact s (by simp) rfl rfl (cell_set_same (by rw [show (0 : Nat) * 4 + 2 = 2 from rfl, s (by simp) rfl rfl (s (by simp) rfl rfl h.2.2.1)]; rfl))
 ·exact cell_set_same (by rw [show (0 : Nat) * 4 + 3 = 3 from rfl, s (by simp) rfl rfl (s (by simp) rfl rfl (s (by simp) rfl rfl h.2.2.2))]; rfl)
set_option maxRecDepth 100000 in
set_option maxHeartbeats 2000000 in
theorem plane_any (v : Vec) (d : Int) (w : World) : Calls Tryz.prog 116 #[.agg #[.int .i64 v.x, .int .i64 v.y, .int .i64 v.z], .int .i64 d] w fun e w' => e = .returned (.agg #[.int .i64 v.x, .int .i64 v.y, .int .i64 v.z, .int .i64 d]) ∧ Below w.heap.size w w' := by
 go_enter Tryz.func116, Tryz.ntmps116
 go_upto_region 1 with fail
 refine gen_world (fun W => (W.cell? ⟨w.heap.size, 0, none⟩ = some (.int .i64 v.x) ∧ W.cell? ⟨w.heap.size, 1, none⟩ = some (.int .i64 v.y) ∧ W.cell? ⟨w.heap.size, 2, none⟩ = some (.int .i64 v.z)) ∧ (W.cell? ⟨w.heap.size + 1, 0, none⟩ = some (.int .i64 0) ∧ W.cell? ⟨w.heap.size + 1, 1, none⟩ = some (.int .i64 0) ∧ W.cell? ⟨w.heap.size + 1, 2, none⟩ = some (.int .i64 0) ∧ W.cell? ⟨w.heap.size + 1, 3, none⟩ = some (.int .i64 0)) ∧ (W.frozen? ⟨w.heap.size + 1, 0, none⟩ = false ∧ W.frozen? ⟨w.heap.size + 1, 1, none⟩ = false ∧ W.frozen? ⟨w.heap.size + 1, 2, none⟩ = false ∧ W.frozen? ⟨w.heap.size + 1, 3, none⟩ = false) ∧ Below w.heap.size w W) ⟨⟨by simp [go_sem], by simp [go_sem], by simp [go_sem]⟩, ⟨by simp [go_sem], by simp [go_sem], by simp [go_sem], by simp [go_sem]⟩, ⟨by simp [go_sem], by simp [go_sem], by simp [go_sem], by simp [go_sem]⟩, by repeat (first | (with_reducible assumption) | exact Below.refl _ _ | (refine Below.setCell ?_ (by first | omega | (simp; omega) | (simp; done)) _) | (refine Below.alloc ?_ (by first | omega | (simp; omega) | (simp; done)) _) | (refine Below.drew ?_))⟩ ?_
 rintro W ⟨⟨c0, c1, c2⟩, hz, ⟨f0, f1, f2, f3⟩, hb⟩
 have HZP := Lib.hid (zPl_put ⟨v.x, v.y, v.z, d⟩ hz)
 obtain ⟨z0, z1, z2, z3⟩ := hz
 have HB0 := Lib.hid hb
 obtain ⟨gp, hgp⟩ : ∃ g, g = w.heap.size := ⟨_, rfl⟩
 have HGP := Lib.hid hgp
 rw [← hgp] at c0 c1 c2 z0 z1 z2 z3 f0 f1 f2 f3 HZP
 rw [show w.heap.size = gp from hgp.symm]
 have HBX := Lib.hid (show Below w.heap.size w (put4 W (gp + 1) 0 ⟨v.x, v.y, v.z, d⟩) from (((hb.setCell (by simp only; omega) _).setCell (by simp only; omega) _).setCell (by simp only; omega) _).setCell (by simp only; omega) _)
 clear hb hgp
 unfold put4 at HZP HBX
 simp only [Nat.zero_mul, Nat.zero_add] at HZP HBX
 try simp only [Nat.add_assoc, Nat.reduceAdd]
 go_wp2_with fail
 generalize ((((W.setCell ⟨gp + 1, 0, none⟩ (.int .i64 v.x)).setCell ⟨gp + 1, 1, none⟩ (.int .i64 v.y)).setCell ⟨gp + 1, 2, none⟩ (.int .i64 v.z)).setCell ⟨gp + 1, 3, none⟩ (.int .i64 d)) = WZ at *
 obtain ⟨k0, k1, k2, k3⟩ := HZP.out
 exact bodyPost_ret (v := .agg #[.int .i64 v.x, .int .i64 v.y, .int .i64 v.z, .int .i64 d]) (by simp [results, Tryz.results116, go_sem, k0, k1, k2, k3]) rfl ⟨rfl, HBX.out⟩
def turE (cells : List Cell) (n : Int) : Int := if solE cells ≠ 0 then solE cells else if withinB n 0 47 = true then 0 else 2
def turV (cells : List Cell) (n : Int) : List Cell := if turE cells n = 0 then trX (trnN n) cells else []
theorem trP_wf {p : Pl} {t : Trn} (h : p.in_) (ht : t.wf) : (trP t p).wf := by
 have h1 := ofT_in ht h.1
 have h2 := h.2
 obtain ⟨a1, a2, a3⟩ := h1
 unfold Pl.wf trP
 simp only
 omega
end Go.Proofs.YtbhgkadklklmbaaGreat
/- The program's turned solid: the walk. -/
set_option linter.unusedVariables false
set_option linter.unusedSimpArgs false
namespace Go.Proofs.YtbhgkadklklmbaaGreat
open Go Go.RowKit Go.Sort Go.Lib

set_option maxRecDepth 100000 in
set_option maxHeartbeats 16000000 in
theorem turn_any (cells : List Cell) (a : Option Addr) (c : Nat) (n : Int) (w : World) (hcl : cells.length ≤ 9223372036854775807) (hv : Cells.V w a cells) (hpl : ∀ x ∈ cells, x.planes.length ≤ 1000000) :
    Calls Tryz.prog 71 #[.agg #[.slice a cells.length c], .int .i64 n] w fun e w' => ∃ va vc, e = .returned (.tuple #[.agg #[.slice va (turV cells n).length vc], .int .i64 (turE cells n)]) ∧ Cells.V w' va (turV cells n) ∧ Below w.heap.size w w' := by
 have hmix : Tryz.prog.follows .mixedOrders = true := by kernel_rfl
 have HT := Lib.hid (fun W (h : Below w.heap.size w W) => check_any cells a c W hcl (hv.keep h) hpl)
 have HIT := Lib.hid (fun W => isTurn_any n W)
 have HVW := Lib.hid hv
 obtain ⟨M, hM⟩ : ∃ M, M = turE cells n := ⟨_, rfl⟩
 obtain ⟨T, hT⟩ : ∃ T, T = turV cells n := ⟨_, rfl⟩
 rw [← hM, ← hT]
 have HM := Lib.hid (show M = if solE cells ≠ 0 then solE cells else if withinB n 0 47 = true then 0 else 2 from hM)
 have HTV := Lib.hid (show T = if M = 0 then trX (trnN n) cells else [] by rw [hT, hM]; rfl)
 clear hv hpl hM hT
 go_enter Tryz.func71, Tryz.ntmps71
 go_upto_region 1 with fail
 refine gen_world (fun W => W.cell? ⟨w.heap.size, 0, none⟩ = some (.slice a cells.length c) ∧ (W.cell? ⟨w.heap.size + 1, 0, none⟩ = some (.slice none 0 0) ∧ W.frozen? ⟨w.heap.size + 1, 0, none⟩ = false) ∧ Below w.heap.size w W) ⟨by simp [go_sem], ⟨by simp [go_sem], by simp [go_sem]⟩, by repeat (first | (with_reducible assumption) | exact Below.refl _ _ | (refine Below.setCell ?_ (by first | omega | (simp; omega) | (simp; done)) _) | (refine Below.alloc ?_ (by first | omega | (simp; omega) | (simp; done)) _) | (refine Below.drew ?_))⟩ ?_
 rintro W ⟨b0, ⟨r0, rf0⟩, hb⟩
 have HB0 := Lib.hid hb
 have HTW := Lib.hid (HT.out W hb)
 obtain ⟨gp, hgp⟩ : ∃ g, g = w.heap.size := ⟨_, rfl⟩
 have HGP := Lib.hid hgp
 rw [← hgp] at b0 r0 rf0
 rw [show w.heap.size = gp from hgp.symm]
 clear hb hgp HT
 try simp only [Nat.add_assoc, Nat.reduceAdd]
 go_upto_region 2 with (go_at_call 48; refine HTW.out.mono ?_; rintro e w2 ⟨rfl, hb⟩; have HB1 := Lib.hid hb; have b0 := cell_keep hb b0; have rf0 := frozen_keep hb (block_lt_of_cell r0) rf0; have r0 := cell_keep hb r0; clear hb)
 have HBW1 := Lib.hid (HB0.out.trans (HB1.out.mono HB0.out.size))
 by_cases h0 : solE cells = 0
 ·have HS0 := Lib.hid (solE_zero.1 h0)
  have HM2 := Lib.hid (show M = if withinB n 0 47 = true then 0 else 2 by rw [HM.out, if_neg (by simpa using h0)])
  rw [h0]
  clear HTW HM h0
  cases hf : withinB n 0 47 with
  | false =>
   rw [hf] at HIT
   have HM3 := Lib.hid (show M = 2 by rw [HM2.out, hf]; rfl)
   have HT3 := Lib.hid (show T = [] by rw [HTV.out, HM3.out]; rfl)
   clear hf
   go_wp2_with (go_at_call 125; refine (HIT.out _).mono ?_; rintro e w3 ⟨rfl, hb⟩; have HB3 := Lib.hid (HBW1.out.trans (hb.mono HBW1.out.size)); have rf0 := frozen_keep hb (block_lt_of_cell r0) rf0; have r0 := cell_keep hb r0; clear hb)
   refine bodyPost_ret (v := .tuple #[.agg #[.slice none 0 0], .int .i64 2]) (by simp [results, Tryz.results71, go_sem, got1 r0]) rfl ?_
   rw [HM3.out, HT3.out]
   exact ⟨none, 0, rfl, fun hne => absurd rfl hne, HB3.out.setCell (by have := HGP.out; simp only; omega) _⟩
  | true =>
   rw [hf] at HIT
   have HM3 := Lib.hid (show M = 0 by rw [HM2.out, hf]; rfl)
   have HT3 := Lib.hid (show T = trX (trnN n) cells by rw [HTV.out, if_pos HM3.out])
   have hn := withinB_true hf
   have HTN := Lib.hid (trnN_wf hn)
   have hn1 : n < 48 := by omega
   have hn0 : 0 ≤ n := hn.1
   clear hf
   have HCP := Lib.hid (fun W (h : Below w.heap.size w W) => copied2_any cells a c W (by have := HS0.out.1; omega) (HVW.out.keep h) (fun x hx => by have := (readE_zero.1 (HS0.out.2 x hx)).1; omega))
   go_upto_region 6 with (go_at_call 125; refine (HIT.out _).mono ?_; rintro e w3 ⟨rfl, hb⟩; have HBA := Lib.hid (HBW1.out.trans (hb.mono HBW1.out.size)); have b0 := cell_keep hb b0; have rf0 := frozen_keep hb (block_lt_of_cell r0) rf0; have r0 := cell_keep hb r0; clear hb)
   go_upto_region 7 with (go_at_call 126; refine (all_any _).mono ?_; rintro e wA ⟨ta, tc, rfl, htv, hb⟩; have HBB := Lib.hid (HBA.out.trans (hb.mono HBA.out.size)); have b0 := cell_keep hb b0; have rf0 := frozen_keep hb (block_lt_of_cell r0) rf0; have r0 := cell_keep hb r0; obtain ⟨tb, off, rfl, ⟨x0, x1, x2⟩, x3, x4, x5⟩ := trsV_at htv hn; clear hb htv)
   refine gen_world (fun W => TrBx W wA.heap.size (trnN n) ∧ Below wA.heap.size wA W) ⟨⟨⟨by simp [go_sem], by simp [go_sem], by simp [go_sem]⟩, by simp [go_sem], by simp [go_sem], by simp [go_sem]⟩, by repeat (first | (with_reducible assumption) | exact Below.refl _ _ | (refine Below.setCell ?_ (by first | omega | (simp; omega) | (simp; done)) _) | (refine Below.alloc ?_ (by first | omega | (simp; omega) | (simp; done)) _) | (refine Below.drew ?_))⟩ ?_
   rintro wB ⟨htb, hb⟩
   have HTB := Lib.hid htb
   have HB3 := Lib.hid (HBB.out.trans (hb.mono HBB.out.size))
   have b0 := cell_keep hb b0
   have rf0 := frozen_keep hb (block_lt_of_cell r0) rf0
   have r0 := cell_keep hb r0
   obtain ⟨g7, hg7⟩ : ∃ g, g = wA.heap.size := ⟨_, rfl⟩
   rw [← hg7] at HTB ⊢
   clear hb htb hg7 x0 x1 x2 x3 x4 x5
   go_upto_region 8 with (go_at_call 122; refine (HCP.out _ HB3.out).mono ?_; rintro e w4 ⟨ua, uc, L0, rfl, hl0, ho0, -, hop, hap, hb⟩; have HSR := Lib.hid (solR_of ho0 (fun q hq => hop q hq) hap); have HL0 := Lib.hid hl0; have HB4 := Lib.hid hb; clear hl0 ho0 hop hap hb)
   obtain ⟨g8, hg8⟩ : ∃ g, g = w4.heap.size := ⟨_, rfl⟩
   refine gen_world (fun W => MvSt wB.heap.size g8 wB W ua L0.length uc (mixF (chR (trP (trnN n))) L0 0)) ?_ ?_
   ·rw [mixF_zero, hg8]
    exact ⟨HSR.out.keep ((Below.refl _ _).alloc (Nat.le_refl _) _), by simp [go_sem], fun i hi b e => (blk_lt (HSR.out.p i hi) b e).2, HB4.out.alloc HB4.out.size _, by have := HB4.out.size; simp; omega⟩
   rintro w5 hst5
   have HST5 := Lib.hid hst5
   have HLN := Lib.hid (show L0.length = cells.length by have := congrArg List.length HL0.out; simpa using this)
   have HRE := Lib.hid (show ∀ q ∈ L0, readE q.ps = 0 from fun q hq => HS0.out.2 ⟨q.ps⟩ (by rw [← HL0.out]; exact List.mem_map.2 ⟨q, hq, rfl⟩))
   have HG8 := Lib.hid (show gp + 1 < g8 by have := block_lt_of_cell r0; have := HB4.out.size; simp only at *; omega)
   rw [← hg8]
   have HRR := Lib.hid (And.intro r0 rf0)
   clear hst5 hg8 b0 r0 rf0 HCP HIT HSR
   have s8 := HST5.out.c
   have hfl := fldCell
   have hL0 : L0.length ≤ 100 := by have := HLN.out; have := HS0.out.1; omega
   go_wp2_with fail
   go_loopw [32] (fun iv wr => ∃ k : Nat, k ≤ L0.length ∧ iv = .int .i64 (k : Int) ∧ MvSt wB.heap.size g8 wB wr ua L0.length uc (mixF (chR (trP (trnN n))) L0 k)) (fun iv _ => L0.length - (intOf iv).toNat)
   case atStart => exact ⟨0, Nat.zero_le _, rfl, HST5.out⟩
   case round =>
    obtain ⟨k, hk, rfl, hst⟩ := hrel
    have HST := Lib.hid hst
    by_cases hlt : k < L0.length
    ·have hki : (k : Int) < (L0.length : Int) := by omega
     have hin := hst.enter (f := trP (trnN n)) hlt
     have HRK := Lib.hid (HRE.out _ (List.getElem_mem hlt))
     obtain ⟨q, hq⟩ : ∃ q, q = L0[k] := ⟨_, rfl⟩
     have HLV := Lib.hid (fun W (h : MvSt wB.heap.size g8 wB W ua L0.length uc ((mixF (chR (trP (trnN n))) L0 k).set k ⟨mixF (trP (trnN n)) q.ps q.ps.length, q.pa, q.pc⟩)) => MvSt.leave (f := trP (trnN n)) hlt (by rw [← hq]; exact h))
     rw [← hq] at hin HRK
     obtain ⟨M0, hM0⟩ : ∃ M0, M0 = mixF (chR (trP (trnN n))) L0 k := ⟨_, rfl⟩
     have hkM : k < M0.length := by rw [hM0, mixF_len _ L0 (Nat.le_of_lt hlt)]; exact hlt
     rw [← hM0] at hin HLV
     have HIN := Lib.hid hin
     have HGD := Lib.hid (good_of (readE_zero.1 HRK.out).2.1)
     have hq16 : q.ps.length ≤ 16 := (readE_zero.1 HRK.out).1
     have hne : 0 < q.ps.length := by
      rcases Nat.eq_zero_or_pos q.ps.length with h | h
      ·have h2 := (readE_zero.1 HRK.out).2.2.1
       rw [List.length_eq_zero_iff.1 h] at h2
       exact absurd h2 (by decide)
      ·exact h
     obtain ⟨g, hpa, hgN, hg8, -⟩ := hin.pos hkM hne
     clear hq hM0 hst
     obtain ⟨ps, pa, pc⟩ := q
     simp only at hpa hne hq16 HGD HRK HIN HLV hin
     subst hpa
     obtain ⟨gv, rfl, -, -, x0⟩ := MvSt.cell (q := ⟨ps, some ⟨g, 0, none⟩, pc⟩) (m := 0) hin hkM (Nat.zero_le _)
     simp only at x0
     clear hin
     go_upto_region 11 with fail
     refine gen_world (fun W => W.cell? ⟨wr.heap.size, 0, none⟩ = some (.slice (some ⟨g, 0, none⟩) ps.length pc) ∧ Below wr.heap.size wr W) ⟨by simp [go_sem], by repeat (first | (with_reducible assumption) | exact Below.refl _ _ | (refine Below.setCell ?_ (by first | omega | (simp; omega) | (simp; done)) _) | (refine Below.alloc ?_ (by first | omega | (simp; omega) | (simp; done)) _) | (refine Below.drew ?_))⟩ ?_
     rintro w9 ⟨y0, hb9⟩
     have HI9 := Lib.hid (HIN.out.keep hb9)
     have HXY := Lib.hid y0
     obtain ⟨gc, hgc⟩ : ∃ g, g = wr.heap.size := ⟨_, rfl⟩
     have HGC := Lib.hid (show ∀ b, blk (some (⟨g, 0, none⟩ : Addr)) = some b → b ≠ gc from fun b e => by
      have hl : k < (M0.set k ⟨mixF (trP (trnN n)) ps 0, (some ⟨g, 0, none⟩), pc⟩).length := by rw [List.length_set]; exact hkM
      have h1 := (blk_lt (HIN.out.s.p k hl) b (by rw [List.getElem_set_self]; exact e)).2
      omega)
     have HGL := Lib.hid (show gc < w9.heap.size by have := block_lt_of_cell y0; simp only at this; omega)
     rw [← hgc] at y0 HXY ⊢
     clear hb9 x0 hgc
     obtain ⟨wo, rfl⟩ : ∃ wo : World, wo = wr := ⟨_, rfl⟩
     go_wp2_with fail
     go_loopw [39] (fun mv wq => ∃ m : Nat, m ≤ ps.length ∧ mv = .int .i64 (m : Int) ∧ MvSt wB.heap.size g8 wB wq (some ⟨gv, 0, none⟩) L0.length uc (M0.set k ⟨mixF (trP (trnN n)) ps m, (some ⟨g, 0, none⟩), pc⟩) ∧ wq.cell? ⟨gc, 0, none⟩ = some (.slice (some ⟨g, 0, none⟩) ps.length pc)) (fun mv _ => ps.length - (intOf mv).toNat)
     case atStart => exact ⟨0, Nat.zero_le _, rfl, HI9.out, HXY.out⟩
     case round =>
      obtain ⟨m, hm, rfl, hst, y0⟩ := hrel
      have HSM := Lib.hid hst
      by_cases hmt : m < ps.length
      ·have hmi : (m : Int) < (ps.length : Int) := by omega
       obtain ⟨g', hpa, -, -, hgw, ⟨p0, p1, p2, p3⟩, f0, f1, f2, f3⟩ := hst.pos (q := ⟨ps, some ⟨g, 0, none⟩, pc⟩) hkM hmt
       injection hpa with hpa
       injection hpa with hpa
       subst hpa
       simp only at p0 p1 p2 p3
       have HSP := Lib.hid (fun W (h : MvSt wB.heap.size g8 wB W (some ⟨gv, 0, none⟩) L0.length uc (M0.set k ⟨mixF (trP (trnN n)) ps m, (some ⟨g, 0, none⟩), pc⟩)) => h.step4 (f := trP (trnN n)) (q := ⟨ps, some ⟨g, 0, none⟩, pc⟩) (g := g) hkM hmt rfl)
       have HPI := Lib.hid (HGD.out ps[m] (List.getElem_mem hmt)).1
       have hgg := HGC.out g rfl
       simp only at HSP
       generalize ps[m] = p at *
       have HNV := Lib.hid (fun W => normal_any p W)
       have HOF := Lib.hid (fun W => of_any (trnN n) (nrm p) HTN.out (HPI.out.1.mono (by decide)) W)
       obtain ⟨Q, hQ⟩ : ∃ Q, Q = trP (trnN n) p := ⟨_, rfl⟩
       have HPN := Lib.hid (fun W => plane_any (ofT (trnN n) (nrm p)) p.d W)
       have HQV := Lib.hid (show Q = ⟨(ofT (trnN n) (nrm p)).x, (ofT (trnN n) (nrm p)).y, (ofT (trnN n) (nrm p)).z, p.d⟩ from hQ)
       rw [← hQ] at HSP
       obtain ⟨V, hV⟩ : ∃ V, V = ofT (trnN n) (nrm p) := ⟨_, rfl⟩
       rw [← hV] at HOF HPN HQV
       obtain ⟨NV, hNV⟩ : ∃ v, v = nrm p := ⟨_, rfl⟩
       rw [← hNV] at HNV HOF
       obtain ⟨⟨t0', t1', t2'⟩, t3', t4', t5'⟩ := (HTB.out.keep hst.b)
       obtain ⟨tn, htn⟩ : ∃ t, t = trnN n := ⟨_, rfl⟩
       rw [← htn] at HOF t0' t1' t2' t3' t4' t5'
       clear hst hQ hV hNV htn HTB
       go_upto_region 14 with fail
       refine gen_world (fun W => (W.cell? ⟨wr.heap.size, 0, none⟩ = some (.int .i64 p.a) ∧ W.cell? ⟨wr.heap.size, 1, none⟩ = some (.int .i64 p.b) ∧ W.cell? ⟨wr.heap.size, 2, none⟩ = some (.int .i64 p.c) ∧ W.cell? ⟨wr.heap.size, 3, none⟩ = some (.int .i64 p.d)) ∧ Below wr.heap.size wr W) ⟨⟨by simp [go_sem], by simp [go_sem], by simp [go_sem], by simp [go_sem]⟩, by repeat (first | (with_reducible assumption) | exact Below.refl _ _ | (refine Below.setCell ?_ (by first | omega | (simp; omega) | (simp; done)) _) | (refine Below.alloc ?_ (by first | omega | (simp; omega) | (simp; done)) _) | (refine Below.drew ?_))⟩ ?_
       rintro wx ⟨⟨v0', v1', v2', v3'⟩, hbx⟩
       have HSX := Lib.hid (HSM.out.keep hbx)
       have y0 := cell_keep hbx y0
       have f0 := frozen_keep hbx hgw f0
       have f1 := frozen_keep hbx hgw f1
       have f2 := frozen_keep hbx hgw f2
       have f3 := frozen_keep hbx hgw f3
       have p0 := cell_keep hbx p0
       have p1 := cell_keep hbx p1
       have p2 := cell_keep hbx p2
       have p3 := cell_keep hbx p3
       have t0' := cell_keep hbx t0'
       have t1' := cell_keep hbx t1'
       have t2' := cell_keep hbx t2'
       have t3' := cell_keep hbx t3'
       have t4' := cell_keep hbx t4'
       have t5' := cell_keep hbx t5'
       have hgw := Nat.lt_of_lt_of_le hgw hbx.size
       obtain ⟨gz, hgz⟩ : ∃ z, z = wr.heap.size := ⟨_, rfl⟩
       rw [← hgz] at v0' v1' v2' v3' ⊢
       clear hbx hgz
       have kx0 : ∀ y : KW (fun W' => Below wx.heap.size wx W'), (y.w.cell? ⟨gz, 0, none⟩ = some (.int .i64 p.a) ∧ y.w.cell? ⟨gz, 1, none⟩ = some (.int .i64 p.b) ∧ y.w.cell? ⟨gz, 2, none⟩ = some (.int .i64 p.c) ∧ y.w.cell? ⟨gz, 3, none⟩ = some (.int .i64 p.d)) := fun y => ⟨cell_keep y.ok v0', cell_keep y.ok v1', cell_keep y.ok v2', cell_keep y.ok v3'⟩
       have kx1 : ∀ y : KW (fun W' => Below wx.heap.size wx W'), (y.w.cell? ⟨g7, 0, none⟩ = some (.int .i64 (tn.p0 : Int)) ∧ y.w.cell? ⟨g7, 1, none⟩ = some (.int .i64 (tn.p1 : Int)) ∧ y.w.cell? ⟨g7, 2, none⟩ = some (.int .i64 (tn.p2 : Int))) := fun y => ⟨cell_keep y.ok t0', cell_keep y.ok t1', cell_keep y.ok t2'⟩
       have kx2 : ∀ y : KW (fun W' => Below wx.heap.size wx W'), (y.w.cell? ⟨g7, 3, none⟩ = some (.int .i64 tn.s0) ∧ y.w.cell? ⟨g7, 4, none⟩ = some (.int .i64 tn.s1) ∧ y.w.cell? ⟨g7, 5, none⟩ = some (.int .i64 tn.s2)) := fun y => ⟨cell_keep y.ok t3', cell_keep y.ok t4', cell_keep y.ok t5'⟩
       have kx3 : ∀ y : KW (fun W' => Below wx.heap.size wx W'), y.w.cell? ⟨gc, 0, none⟩ = some (.slice (some ⟨g, 0, none⟩) ps.length pc) := fun y => cell_keep y.ok y0
       haveI nn1 : Nonempty (KW (fun W' => Below wx.heap.size wx W')) := ⟨⟨wx, Below.refl _ _⟩⟩
       refine wp_region_tree (fun w' => ∃ y : KW (fun W' => Below wx.heap.size wx W'), w' = y.w) 10 (.take 0 (.take 1 (.take 2 (.take 3 (.take 4 (.take 7 (.take 8 (.one 5 (.one 6 (.one 9 .done)))))))))) hmix (by kernel_rfl) (KW.mk' (Below.refl _ _).drew) ?_
       have HC0 := Lib.hid (show Below wx.heap.size wx wx.drew from (Below.refl _ _).drew)
       generalize wx.drew = wv at *
       repeat (refine wpTree_take ?_; simp only [nthOp]; (first | go_big_quiet_step (fail) | quiet_step (fail)); refine wpQuiet_nil ?_)
       refine wpTree_one ?_
       simp only [nthOp]
       go_wp2_with (go_at_call 81; refine (HNV.out _).mono ?_; rintro e wa ⟨rfl, hb⟩; have HC1 := Lib.hid (HC0.out.trans (hb.mono HC0.out.size)); clear hb)
       refine One_mk (KW.mk' HC1.out) ?_
       refine wpTree_one ?_
       simp only [nthOp]
       go_wp2_with (go_at_call 128; refine (HOF.out _).mono ?_; rintro e wb ⟨rfl, hb⟩; have HC2 := Lib.hid (HC1.out.trans (hb.mono HC1.out.size)); clear hb)
       refine One_mk (KW.mk' HC2.out) ?_
       refine wpTree_one ?_
       simp only [nthOp]
       go_wp2_with (go_at_call 116; refine (HPN.out _).mono ?_; rintro e wc ⟨rfl, hb⟩; have HC3 := Lib.hid (HC2.out.trans (hb.mono HC2.out.size)); clear hb)
       refine One_mk (KW.mk' HC3.out) ?_
       have p0 := cell_keep HC3.out p0
       have p1 := cell_keep HC3.out p1
       have p2 := cell_keep HC3.out p2
       have p3 := cell_keep HC3.out p3
       have f0 := frozen_keep HC3.out hgw f0
       have f1 := frozen_keep HC3.out hgw f1
       have f2 := frozen_keep HC3.out hgw f2
       have f3 := frozen_keep HC3.out hgw f3
       have HS4 := Lib.hid (HSP.out _ (HSX.out.keep HC3.out))
       have y0 := cell_keep HC3.out y0
       have HY4 := Lib.hid (show (put4 wc g m Q).cell? ⟨gc, 0, none⟩ = some (.slice (some ⟨g, 0, none⟩) ps.length pc) by
        unfold put4
        rw [cell_set_blk (by omega), cell_set_blk (by omega), cell_set_blk (by omega), cell_set_blk (by omega)]; exact y0)
       rw [HQV.out] at HS4 HY4
       unfold put4 at HS4 HY4
       simp only at HS4 HY4
       clear kx0 kx1 kx2 kx3 nn1 t0' t1' t2' t3' t4' t5' v0' v1' v2' v3' y0
       refine wpTree_done ?_
       simp only [List.drop_succ_cons, List.drop_zero]
       go_wp2_with fail
       refine NP_mk ?_
       clear p0 p1 p2 p3 f0 f1 f2 f3
       generalize ((((wc.setCell ⟨g, m * 4, none⟩ (.int .i64 V.x)).setCell ⟨g, m * 4 + 1, none⟩ (.int .i64 V.y)).setCell ⟨g, m * 4 + 2, none⟩ (.int .i64 V.z)).setCell ⟨g, m * 4 + 3, none⟩ (.int .i64 p.d)) = WZ at *
       go_wp2_with fail
       go_roundw
       case rel => exact ⟨m + 1, by omega, by go_num, HS4.out, HY4.out⟩
       case measure => first | (simp [intOf]; done) | (simp [intOf]; omega)
      ·obtain rfl : m = ps.length := by omega
       have hmi : ¬ ((ps.length : Nat) : Int) < ((ps.length : Nat) : Int) := by omega
       have HNX := Lib.hid (HLV.out _ hst)
       clear hst y0
       go_wp2_with fail
       go_roundw
       case rel => exact ⟨k + 1, by omega, by go_num, HNX.out⟩
       case measure => first | (simp [intOf]; done) | (simp [intOf]; omega)
    ·obtain rfl : k = L0.length := by omega
     have hki : ¬ ((L0.length : Nat) : Int) < ((L0.length : Nat) : Int) := by omega
     have s8 := hst.c
     have r0 := cell_keep hst.b HRR.out.1
     have rf0 := frozen_keep hst.b (block_lt_of_cell HRR.out.1) HRR.out.2
     have HBW := Lib.hid (HB3.out.trans (hst.b.mono HB3.out.size))
     clear hst
     go_wp2_with fail
     refine bodyPost_ret (v := .tuple #[.agg #[.slice ua L0.length uc], .int .i64 0]) (by simp [results, Tryz.results71, go_sem, got1 r0]) rfl ?_
     have hgN : gp + 1 < wB.heap.size := by have := block_lt_of_cell HRR.out.1; simpa using this
     have hsr := (HST.out.s).off (u := .slice ua L0.length uc) (o := 0) hgN
     rw [mixF_end] at hsr
     obtain ⟨hn', hcv⟩ := hsr.cells (fun q hq p hp => by
      obtain ⟨q0, hq0, rfl⟩ := List.mem_map.1 hq
      simp only [chR] at hp
      obtain ⟨p0, hp0, rfl⟩ := List.mem_map.1 hp
      exact trP_wf (good_of (readE_zero.1 (HRE.out _ hq0)).2.1 p0 hp0).1 HTN.out)
     have he : (L0.map (chR (trP (trnN n)))).map (fun r => (⟨r.ps⟩ : Cell)) = T := by
      rw [HT3.out, ← HL0.out]
      unfold trX
      rw [List.map_map, List.map_map]; rfl
     rw [he] at hcv
     rw [HM3.out]
     first | exact ⟨ua, ⟨uc, by rw [← he]; simp⟩, hcv, HBW.out.setCell (by have := HGP.out; simp only; omega) _⟩ | exact ⟨ua, uc, by rw [← he]; simp, hcv, HBW.out.setCell (by have := HGP.out; simp only; omega) _⟩
 ·have HM2 := Lib.hid (show M = solE cells by rw [HM.out, if_pos h0])
  have HT3 := Lib.hid (show T = [] by rw [HTV.out, HM2.out, if_neg h0])
  have hE1 : (solE cells != 0) = true := by simpa using h0
  have hE2 : (solE cells == 0) = false := by simpa using h0
  clear h0
  generalize solE cells = E at *
  go_wp2_with fail
  refine bodyPost_ret (v := .tuple #[.agg #[.slice none 0 0], .int .i64 E]) (by simp [results, Tryz.results71, go_sem, got1 r0]) rfl ?_
  rw [HM2.out, HT3.out]
  exact ⟨none, 0, rfl, fun hne => absurd rfl hne, HBW1.out.setCell (by have := HGP.out; simp only; omega) _⟩
end Go.Proofs.YtbhgkadklklmbaaGreat
