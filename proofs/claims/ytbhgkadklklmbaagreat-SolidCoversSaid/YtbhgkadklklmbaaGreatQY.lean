/- The document's common cell of two. -/
import Derived.Test.YtbhgkadklklmbaaGreatQS
import Derived.Test.YtbhgkadklklmbaaGreatQX
import Derived.Test.YtbhgkadklklmbaaGreatQG
import Derived.Test.YtbhgkadklklmbaaGreatQD
set_option linter.unusedVariables false
set_option linter.unusedSimpArgs false
namespace Go.Proofs.YtbhgkadklklmbaaGreat
open Go Go.RowKit Go.Sort Go.Lib

def comV (l m : List Pl) : List Pl := if comR l m = true then nf (l ++ m) else []
set_option maxRecDepth 100000 in
set_option maxHeartbeats 8000000 in
theorem commonR_any (ps qs : List Pl) (pa qa : Option Addr) (pc qc : Nat) (w : World) (hv : Pls.V w pa ps) (hu : Pls.V w qa qs) (hg : Good ps) (hh : Good qs) (hl : ps.length + qs.length ≤ 40) :
    Calls Tryz.prog 123 #[.agg #[.slice pa ps.length pc], .agg #[.slice qa qs.length qc]] w fun e w' => ∃ va vc, e = .returned (.tuple #[.agg #[.slice va (comV ps qs).length vc], .bool (comR ps qs)]) ∧ w'.ownsRow w.heap.size 26 4 (.slice va (comV ps qs).length vc) (comV ps qs).length ((comV ps qs).flatMap cellsPl) ∧ Below w.heap.size w w' := by
 obtain ⟨J, hJ⟩ : ∃ J, J = ps ++ qs := ⟨_, rfl⟩
 obtain ⟨V, hV⟩ : ∃ V, V = comV ps qs := ⟨_, rfl⟩
 obtain ⟨S, hS⟩ : ∃ S, S = comR ps qs := ⟨_, rfl⟩
 rw [← hV, ← hS]
 have HVE := Lib.hid (show V = if S = true then nf J else [] by rw [hV, hS, hJ]; rfl)
 have HSE := Lib.hid (show S = insid J (refP J) by rw [hS, hJ, insid_refP]; rfl)
 have HGJ := Lib.hid (show Good J by rw [hJ]; exact hg.append hh)
 have HLJ := Lib.hid (show J.length ≤ 40 by rw [hJ, List.length_append]; exact hl)
 have HJN := Lib.hid (fun W (h : Below w.heap.size w W) => joined_any ps qs pa qa pc qc W (hv.keep h) (hu.keep h) (by omega) (by omega))
 rw [← hJ] at HJN
 have HRI := Lib.hid (show ∀ c ∈ refP J, c.in_ from fun c hc => corn_in HGJ.out c (mem_refP.1 hc))
 have HRL := Lib.hid (show (refP J).length ≤ 1000000 by rw [(perm_refP J).length_eq]; have := corn_len (l := J) HLJ.out; omega)
 have HPT := Lib.hid (fun W ja jc (h : Pls.V W ja J) => pointsR_any J ja jc W HGJ.out HLJ.out h)
 generalize refP J = RP at *
 clear hv hu hg hh hl hV hS hJ
 go_enter Tryz.func123, Tryz.ntmps123
 go_upto_region 1 with fail
 refine gen_world (fun W => W.cell? ⟨w.heap.size, 0, none⟩ = some (.slice pa ps.length pc) ∧ W.cell? ⟨w.heap.size + 1, 0, none⟩ = some (.slice qa qs.length qc) ∧ (W.cell? ⟨w.heap.size + 2, 0, none⟩ = some (.slice none 0 0) ∧ W.frozen? ⟨w.heap.size + 2, 0, none⟩ = false) ∧ Below w.heap.size w W) ⟨by simp [go_sem], by simp [go_sem], ⟨by simp [go_sem], by simp [go_sem]⟩, by repeat (first | (with_reducible assumption) | exact Below.refl _ _ | (refine Below.setCell ?_ (by first | omega | (simp; omega) | (simp; done)) _) | (refine Below.alloc ?_ (by first | omega | (simp; omega) | (simp; done)) _) | (refine Below.drew ?_))⟩ ?_
 rintro W ⟨b0, b1, ⟨r0, rf0⟩, hb⟩
 have HB0 := Lib.hid hb
 obtain ⟨gw, hgw⟩ : ∃ g, g = w.heap.size := ⟨_, rfl⟩
 have HGW := Lib.hid hgw
 rw [← hgw] at b0 b1 r0 rf0 ⊢
 simp only [Nat.add_assoc, Nat.reduceAdd]
 have HJW := Lib.hid (HJN.out W hb)
 clear hgw hb HJN
 go_upto_region 2 with (go_at_call 97; refine HJW.out.mono ?_; rintro e w1 ⟨ja, jc, rfl, ho, hb⟩; have rf0 := frozen_keep hb (block_lt_of_cell r0) rf0; have r0 := cell_keep hb r0; have HB1 := Lib.hid (HB0.out.trans (hb.mono HB0.out.size)); have HJV := Lib.hid (show Pls.V w1 ja J from ownPlV (fun p hp => Pl.in_.wf (HGJ.out p hp).1) ho); clear ho hb)
 have HP1 := Lib.hid (HPT.out w1 ja jc HJV.out)
 have HIN := Lib.hid (fun ra rc W (h1 : Pls.V W ja J) (h2 : Cos.V W ra RP) => inside_any J ja jc RP ra rc W h1 (by have := HLJ.out; omega) (fun p hp => (HGJ.out p hp).1) h2 HRL.out HRI.out)
 rw [← HSE.out] at HIN
 have HNO := Lib.hid (fun W (h : Pls.V W ja J) => normalR2_any J ja jc W HGJ.out HLJ.out h)
 clear b0 b1
 cases S with
 | true =>
  have HV3 := Lib.hid (show V = nf J by rw [HVE.out]; rfl)
  rw [← HV3.out] at HNO
  go_wp2_with (first
   | (go_at_call 31; refine HP1.out.mono ?_; rintro e w2 ⟨ra, rc, rfl, ho, hb⟩; have rf0 := frozen_keep hb (block_lt_of_cell r0) rf0; have r0 := cell_keep hb r0; have HB2 := Lib.hid (HB1.out.trans (hb.mono HB1.out.size)); have HRV := Lib.hid (ownCoV (fun c hc => Co.in_.wf (HRI.out c hc)) ho); have HJV2 := Lib.hid (HJV.out.keep hb); clear ho hb)
   | (go_at_call 79; refine (HIN.out ra rc _ HJV2.out HRV.out).mono ?_; rintro e w3 ⟨rfl, hb⟩; have rf0 := frozen_keep hb (block_lt_of_cell r0) rf0; have r0 := cell_keep hb r0; have HB3 := Lib.hid (HB2.out.trans (hb.mono HB2.out.size)); have HJV3 := Lib.hid (HJV2.out.keep hb); clear hb)
   | (go_at_call 28; refine (HNO.out _ HJV3.out).mono ?_; rintro e w4 ⟨na, nc, rfl, ho, hb⟩; have HO4 := Lib.hid ho; have HBL := Lib.hid (block_lt_of_cell r0); have rf0 := frozen_keep hb (block_lt_of_cell r0) rf0; have r0 := cell_keep hb r0; have HB4 := Lib.hid (HB3.out.trans (hb.mono HB3.out.size)); clear ho hb))
  refine bodyPost_ret (v := .tuple #[.agg #[.slice na V.length nc], .bool true]) ?_ ?_ ?_
  ·simp [results, Tryz.results123, go_sem, got1 r0]
  ·rfl
  ·have hbl := HBL.out
   refine ⟨na, nc, rfl, own_mono (HO4.out.kept (grownBy_set (a := ⟨gw + 2, 0, none⟩)) (.inr fun e => ?_)) (by have := HB3.out.size; omega), HB4.out.setCell (by have := HGW.out; simp only; omega) _⟩
   have h1 := (own_lt HO4.out e).1
   simp only at h1
   omega
 | false =>
  have HV3 := Lib.hid (show V = [] by rw [HVE.out]; rfl)
  go_wp2_with (first
   | (go_at_call 31; refine HP1.out.mono ?_; rintro e w2 ⟨ra, rc, rfl, ho, hb⟩; have rf0 := frozen_keep hb (block_lt_of_cell r0) rf0; have r0 := cell_keep hb r0; have HB2 := Lib.hid (HB1.out.trans (hb.mono HB1.out.size)); have HRV := Lib.hid (ownCoV (fun c hc => Co.in_.wf (HRI.out c hc)) ho); have HJV2 := Lib.hid (HJV.out.keep hb); clear ho hb)
   | (go_at_call 79; refine (HIN.out ra rc _ HJV2.out HRV.out).mono ?_; rintro e w3 ⟨rfl, hb⟩; have rf0 := frozen_keep hb (block_lt_of_cell r0) rf0; have r0 := cell_keep hb r0; have HB3 := Lib.hid (HB2.out.trans (hb.mono HB2.out.size)); have HJV3 := Lib.hid (HJV2.out.keep hb); clear hb))
  refine bodyPost_ret (v := .tuple #[.agg #[.slice none 0 0], .bool false]) ?_ ?_ ?_
  ·simp [results, Tryz.results123, go_sem, got1 r0]
  ·rfl
  ·rw [HV3.out]
   exact ⟨none, 0, rfl, ⟨rfl, .inl ⟨rfl, rfl⟩⟩, HB3.out.setCell (by have := HGW.out; simp only; omega) _⟩
end Go.Proofs.YtbhgkadklklmbaaGreat
