/- The program's clear lengths are the reference's. -/
import Derived.Test.YthhchnhidhgccaaClear1
set_option linter.unusedVariables false
set_option linter.unusedSimpArgs false
namespace Go.Proofs.Ythhchnhidhgccaa
open Go Go.RowKit

def sw2 : List Rect → Int → List Iv
  | [], _ => []
  | d :: r, t => (if t < d.x1 then [(t, d.x1)] else []) ++ sw2 r (max t d.x2)
theorem sw2_sweep (L : Int) : ∀ (r : List Rect) (t : Int), sw2 (r ++ [⟨L, 0, L, 0⟩]) t = sweep L r t
  | [], t => by simp [sw2, sweep]
  | d :: r, t => by rw [List.cons_append, sw2, sweep, sw2_sweep L r]
theorem sw2_yes {R : List Rect} {k : Nat} {t : Int} {X out : List Iv} (hk : k < R.length) (h : X = out ++ sw2 (R.drop k) t) (hc : t < R[k].x1) : X = (out ++ [(t, R[k].x1)]) ++ sw2 (R.drop (k + 1)) (max t R[k].x2) := by
  rw [h, List.drop_eq_getElem_cons hk, sw2, if_pos hc, List.append_assoc]
theorem sw2_no {R : List Rect} {k : Nat} {t : Int} {X out : List Iv} (hk : k < R.length) (h : X = out ++ sw2 (R.drop k) t) (hc : ¬ t < R[k].x1) : X = out ++ sw2 (R.drop (k + 1)) (max t R[k].x2) := by
  rw [h, List.drop_eq_getElem_cons hk, sw2, if_neg hc, List.nil_append]
theorem news_of (cs : List Value) (T : TypeId) (w : World) (g : Nat) (hg : g = w.heap.size) : ∀ j u, cs[j]? = some u → (w.alloc (.cells cs.toArray T)).cell? ((⟨g, 0, none⟩ : Addr).add j) = some u := by
  subst hg
  intro j u hj
  rw [addr_add, Nat.zero_add]
  unfold World.cell?
  rw [show (w.alloc (.cells cs.toArray T)).heap[w.heap.size]? = some (.cells cs.toArray T) from heap_alloc_new w _]
  simpa using hj

theorem own_block_lt {w : World} {base e k n : Nat} {v : Value} {xs : List Value} (h : w.ownsRow base e k v n xs) {j : Nat} (hj : v.ownBlock = some j) : j < w.heap.size := (h.lt j hj).2

set_option maxRecDepth 100000 in
set_option maxHeartbeats 4000000 in
theorem clear_any (b : Board) (a : Option Addr) (c : Nat) (w : World) (hv : Rects.V w a b.defects) (hl : b.defects.length ≤ 60) (hb : DefsIn b) (hb2 : b.length ≤ 600000) :
    Calls Try.prog 103 #[.agg #[.string b.name, .string b.species, .int .i64 b.length, .int .i64 b.width, .int .i64 b.thick, .int .i64 b.cut, .int .i64 b.moisture, .slice a b.defects.length c]] w fun e w' => ∃ (a' : Option Addr) (c' : Nat), e = .returned (.slice a' (refClear b).length c') ∧ Ivs.V w' a' (refClear b) ∧ (refClear b).length ≤ c' ∧ c' ≤ 9223372036854775807 ∧ Below w.heap.size w w' := by
  obtain ⟨i0, hi0, hz0, hz1, hz2⟩ := info_parts rect_info
  obtain ⟨j0, hj0, hy0, hy1, hy2⟩ := info_parts iv_info
  have hb1 := hb.len
  have HIN := Lib.hid (show ∀ d ∈ b.defects, -1000000 ≤ d.x1 ∧ d.x1 ≤ 1000000 from fun d hd => by have := hb.ins d hd; omega)
  have HBD := Lib.hid (show ∀ d ∈ b.defects, (0 ≤ d.x1 ∧ d.x1 ≤ 600000) ∧ (0 ≤ d.x2 ∧ d.x2 ≤ 600000) from fun d hd => by have := hb.ins d hd; omega)
  have HWF := Lib.hid (show ∀ d ∈ b.defects, d.wf from fun d hd => by
    obtain ⟨k, hk, rfl⟩ := List.mem_iff_getElem.1 hd
    obtain ⟨_, _, _, h⟩ := hv.at_ hk
    exact h.2.2.2.2)
  have HCS := Lib.hid (fun (r : List Rect) (hp : r.Perm b.defects) hs => clear_same (r := r) hb hp hs)
  clear hb
  go_enter Try.func103, Try.ntmps103
  go_upto_region 1 with fail
  refine gen_world (fun W => W.cell? ⟨w.heap.size, 2, none⟩ = some (.int .i64 b.length) ∧ W.cell? ⟨w.heap.size, 7, none⟩ = some (.slice a b.defects.length c) ∧ Below w.heap.size w W ∧ w.heap.size < W.heap.size) ?_ ?_
  · exact ⟨by simp [go_sem], by simp [go_sem], (Below.refl _ _).alloc (Nat.le_refl _) _, by simp⟩
  rintro W ⟨e2, e7, hbW, hzW⟩
  have HVW := Lib.hid (hv.keep hbW)
  go_wp2_with (first
    | (go_at_call 119; refine (cloneRect_any a b.defects c _ HVW.out (by omega)).mono ?_; rintro e w1 ⟨v1, rfl, ho1, hb1'⟩; have f2 := cell_keep hb1' e2; clear e7; have HO1 := Lib.hid ho1; clear ho1; have hz1' := hb1'.size)
    | (go_at_call 120; refine (sortRect_any W.heap.size v1 b.defects.length b.defects _ HO1.out HIN.out (by omega) hz1').mono ?_; rintro e w2 ⟨rfl, r, hp, hs, ho2, hb2'⟩; have g2 := (hb2'.cell (p := ⟨w.heap.size, 2, none⟩) hzW).trans f2; have HP := Lib.hid hp; have HS := Lib.hid hs; have HO2 := Lib.hid ho2; clear hp hs ho2 f2; have hz2' := hb2'.size; have hlr : r.length = b.defects.length := HP.out.length_eq)
    | (at_builtin; refine wpList_append_own _ rfl _ _ 23 rfl W.heap.size 55 i0 (.agg #[.int .i64 0, .int .i64 0, .int .i64 0, .int .i64 0]) 4 32 Try.underlying23 hi0 hz0 hz1 hz2 rfl (by decide) _ b.defects.length _ rfl (HO2.out.alloc _) ⟨w2.heap.size, 0, none⟩ 1 1 (cellsR ⟨b.length, 0, b.length, 0⟩) rfl rfl (news_of _ _ _ _ rfl) (cellsR_one _) (by simp only [maxLen]; omega) (by omega) (by simp; omega) ?_; intro v3 w3 ho3 hgr hnil; obtain ⟨g, cap, rfl, hbg, hnc, hcm2, hgl⟩ := own_form ho3; have HO3 := Lib.hid ho3; have HB3 := Lib.hid ((((Below.refl W.heap.size W).trans hb1').trans hb2').alloc (by omega) (.cells #[.int .i64 b.length, .int .i64 0, .int .i64 b.length, .int .i64 0] 55)); clear ho3; have HG := Lib.hid hgr; clear hgr hnil))
  have hgz : w2.heap.size ≤ w3.heap.size := by have := HG.out.size; simp at this; omega
  have HB3' := Lib.hid (show Below W.heap.size W w3 from HB3.out.grown HG.out (by simp; omega) (fun j hj => own_base HO2.out hj))
  obtain ⟨R, hR⟩ : ∃ R : List Rect, R = r ++ [⟨b.length, 0, b.length, 0⟩] := ⟨_, rfl⟩
  have HRB := Lib.hid (show ∀ d ∈ R, (0 ≤ d.x1 ∧ d.x1 ≤ 600000) ∧ (0 ≤ d.x2 ∧ d.x2 ≤ 600000) from fun d hd => by
    rw [hR] at hd
    rcases List.mem_append.1 hd with hd | hd
    · exact HBD.out d (HP.out.mem_iff.1 hd)
    · simp at hd; subst hd; simp; omega)
  have HVR := Lib.hid (show Rects.V w3 (some ⟨g, 0, none⟩) R from by
    refine own_rowV (enc := cellsR) cellsR_len (by decide) (fun b' o x hx h => rectAt_of ?_ h) (show w3.ownsRow W.heap.size 55 4 (.slice (some ⟨g, 0, none⟩) (b.defects.length + 1) cap) (b.defects.length + 1) (R.flatMap cellsR) from by rw [hR, List.flatMap_append]; simpa using HO3.out)
    rw [hR] at hx
    rcases List.mem_append.1 hx with hx | hx
    · exact HWF.out x (HP.out.mem_iff.1 hx)
    · simp at hx; subst hx; simp [Rect.wf]; omega)
  have hRl : R.length = b.defects.length + 1 := by rw [hR]; simp; omega
  have hR1 : b.defects.length + 1 ≤ R.length := by omega
  have hR2 : R.length ≤ b.defects.length + 1 := by omega
  have HX := Lib.hid (show refClear b = [] ++ sw2 (R.drop 0) 0 by rw [← HCS.out r HP.out HS.out, List.drop_zero, hR, sw2_sweep]; rfl)
  clear hR hRl
  go_loopw [4, 5, 22] (fun v t i wr => ∃ (k : Nat) (out : List Iv) (t' : Int), k ≤ R.length ∧ i = .int .i64 k ∧ t = .int .i64 t' ∧ (0 ≤ t' ∧ t' ≤ 600000) ∧ out.length ≤ k ∧ Hid (refClear b = out ++ sw2 (R.drop k) t') ∧ wr.ownsRow w3.heap.size 41 2 v out.length (out.flatMap cellsI) ∧ Below w3.heap.size w3 wr) (fun _ _ i _ => R.length - (intOf i).toNat)
  case atStart => exact ⟨0, [], 0, Nat.zero_le _, rfl, rfl, by simp, by simp, HX, ⟨rfl, .inl ⟨rfl, rfl⟩⟩, Below.refl _ _⟩
  case round =>
    clear HX
    obtain ⟨k, out, t, hk, rfl, rfl, ht, hol, HX, hown, hbr⟩ := hrel
    have hszr := hbr.size
    by_cases hlt : k < R.length
    · obtain ⟨bk, off, ha, hat⟩ := (HVR.out.keep hbr).at_ hlt
      obtain ⟨c0, c1, c2, c3, -⟩ := hat
      injection ha with ha
      injection ha with ha1 ha2
      subst ha1 ha2
      rw [Nat.zero_add] at c0 c1 c2 c3
      have hdb := HRB.out _ (List.getElem_mem hlt)
      have hki : (k : Int) < (b.defects.length : Int) + 1 := by omega
      by_cases hc : t < R[k].x1
      · have HY := Lib.hid (sw2_yes hlt HX.out hc)
        clear HX
        generalize hd0 : R[k] = d at *
        clear hd0
        have HOW := Lib.hid hown
        obtain ⟨m, hm⟩ : ∃ m, m = out.length := ⟨_, rfl⟩
        rw [← hm] at hown hol
        have HM := Lib.hid hm
        clear hm
        go_wp2_with (at_builtin; refine wpList_append_own _ rfl _ _ 110 rfl w3.heap.size 41 j0 (.agg #[.int .i64 0, .int .i64 0]) 2 16 Try.underlying110 hj0 hy0 hy1 hy2 rfl (by decide) _ m _ rfl ((hown.alloc _).alloc _) ⟨wr.heap.size + 1, 0, none⟩ 1 1 (cellsI (t, d.x1)) rfl rfl (news_of _ _ _ _ (by simp)) (cellsI_one _) (by simp only [maxLen]; omega) (by omega) (by simp; omega) ?_; intro v' w5 ho5 hgr5 hnil5; have hgr6 : ((wr.alloc (.cells #[.int .i64 d.x1, .int .i64 d.y1, .int .i64 d.x2, .int .i64 d.y2] 55)).alloc (.cells #[.int .i64 t, .int .i64 d.x1] 41)).grownBy w5 u4.ownBlock := hgr5; have q2 := World.grownBy.cell (a := ⟨wr.heap.size, 2, none⟩) (v := .int .i64 d.x2) hgr6 (by simp [go_sem]) (fun e => by have := own_block_lt hown e.symm; simp at this); clear hgr5; have HGR := Lib.hid hgr6; clear hgr6; have HO5 := Lib.hid ho5; clear ho5 hnil5)
        go_roundw
        case rel =>
          refine ⟨k + 1, out ++ [(t, d.x1)], max t d.x2, by omega, by go_num, rfl, by omega, ?_, HY, ?_, ?_⟩
          · rw [List.length_append, ← HM.out]; simp; omega
          · rw [List.length_append, ← HM.out, List.flatMap_append]; simpa using HO5.out
          · exact ((hbr.alloc (by omega) _).alloc (by simp; omega) _).grown HGR.out (by simp; omega) (fun j hj => own_base hown hj)
        case measure => simp [intOf]; omega
      · have HY := Lib.hid (sw2_no hlt HX.out hc)
        clear HX
        generalize hd0 : R[k] = d at *
        clear hd0
        go_wp2_with fail
        go_roundw
        case rel => exact ⟨k + 1, out, max t d.x2, by omega, by go_num, rfl, by omega, by omega, HY, hown.alloc _, hbr.alloc (by omega) _⟩
        case measure => simp [intOf]; omega
    · have HE := Lib.hid (show refClear b = out by rw [HX.out, List.drop_of_length_le (by omega), sw2, List.append_nil])
      have hkn : ¬ (k : Int) < (b.defects.length : Int) + 1 := by omega
      clear HX
      have hbw : Below w.heap.size w wr := (hbW.trans (HB3'.out.mono (by omega))).trans (hbr.mono (by have := HB3'.out.size; omega))
      obtain ⟨ao, co, rfl, hoc, hocm⟩ := own_slice hown
      have HV := Lib.hid (show Ivs.V wr ao out from own_rowV (enc := cellsI) cellsI_len (by decide) (fun b' o x hx h => ivAt_of h) hown)
      clear hown
      go_wp2_with fail
      go_ret
      exact ⟨ao, co, by rw [HE.out]; rfl, by rw [HE.out]; exact HV.out, by rw [HE.out]; exact hoc, hocm, hbw⟩
end Go.Proofs.Ythhchnhidhgccaa
