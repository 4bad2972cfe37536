/- The program's solids of one cell: ints within the room, a cell of planes, a box. -/
import Derived.Test.YtbhgkadklklmbaaGreatQM
import Derived.Test.YtbhgkadklklmbaaGreatQG
import Derived.Test.YtbhgkadklklmbaaGreatQE
import Derived.Test.YtbhgkadklklmbaaGreatQF
import Derived.Test.YtbhgkadklklmbaaGreatQA
import Derived.Test.YtbhgkadklklmbaaGreatQD
import Derived.Test.YtbhgkadklklmbaaGreatQK
import Derived.Test.YtbhgkadklklmbaaGreatQZ
import Derived.Test.YtbhgkadklklmbaaGreatQX
set_option linter.unusedVariables false
set_option linter.unusedSimpArgs false
namespace Go.Proofs.YtbhgkadklklmbaaGreat
open Go Go.RowKit Go.Sort Go.Lib

def outW (z : Int) : Bool := decide (z < -300000) || decide (300000 < z)
set_option maxRecDepth 100000 in
set_option maxHeartbeats 1000000 in
theorem within1_any (z : Int) (w : World) : Calls Tryz.prog 167 #[.int .i64 z] w fun e w' => e = .returned (.bool (outW z)) ∧ Below w.heap.size w w' := by
 obtain ⟨S, hS⟩ : ∃ S, S = outW z := ⟨_, rfl⟩
 rw [← hS]
 have HS := Lib.hid hS
 clear hS
 go_enter Tryz.func167, Tryz.ntmps167
 go_wp2
 all_goals go_ret
 ·exact ⟨by rw [HS.out]; rfl, Below.refl _ _⟩
 ·rename_i h
  have h2 : S = true := by rw [HS.out]; unfold outW; rw [decide_eq_true h]; rfl
  exact ⟨by rw [h2]; rfl, Below.refl _ _⟩
set_option maxHeartbeats 1000000 in
theorem idx_within1 (a : Option Addr) (l : List Int) (c : Nat) (w : World) (hv : IntsV w a l) (hl : l.length ≤ 1000000) :
    Calls Tryz.prog 189 #[.slice a l.length c, .func (.func 167) #[] #[]] w fun e w' => e = .returned (.int .i64 (idxOf outW l)) ∧ Below w.heap.size w w' := by
 go_enter Tryz.func189, Tryz.ntmps189
 go_wp2
 go_loopw [8] (fun i wr => ∃ k : Nat, k ≤ l.length ∧ i = .int .i64 k ∧ Hid (∀ j (hj : j < l.length), j < k → outW l[j] = false) ∧ Below w.heap.size w wr) (fun i _ => l.length - (intOf i).toNat)
 case atStart => exact ⟨0, Nat.zero_le _, rfl, Lib.hid (fun j _ h => by omega), Below.refl _ _⟩
 case round =>
  obtain ⟨k, hk, rfl, HK, hbw⟩ := hrel
  have hsz := hbw.size
  by_cases hlt : k < l.length
  ·obtain ⟨b, off, rfl, hat⟩ := (hv.keep hbw) (fun e => by rw [e] at hlt; simp at hlt)
   have c0 := hat k l[k] (List.getElem?_eq_getElem hlt)
   clear hat
   have HH := Lib.hid (fun h => idxOf_hit (p := outW) hlt HK.out h)
   have HN := Lib.hid (fun h => none_step (p := outW) HK.out hlt h)
   have HF := Lib.hid (within1_any l[k] wr)
   generalize l[k] = d at *
   cases hq : outW d
   ·rw [hq] at HF
    go_wp2_with (go_at_call 167; refine HF.out.mono ?_; rintro e w1 ⟨rfl, hb⟩)
    go_round
    case rel => exact ⟨k + 1, by omega, by go_num, Lib.hid (HN.out hq), hbw.trans (hb.mono hsz)⟩
    case measure => simp [intOf]; omega
   ·rw [hq] at HF
    go_wp2_with (go_at_call 167; refine HF.out.mono ?_; rintro e w1 ⟨rfl, hb⟩)
    go_ret
    exact ⟨ret_int (HH.out hq).symm, hbw.trans (hb.mono hsz)⟩
  ·have hm := Lib.hid (idxOf_miss (p := outW) (l := l) (fun j hj => HK.out j hj (by omega)))
   clear HK
   go_wp2
   go_ret
   exact ⟨ret_int hm.out.symm, hbw⟩
theorem has_within1 (a : Option Addr) (l : List Int) (c : Nat) (w : World) (hv : IntsV w a l) (hl : l.length ≤ 1000000) :
    Calls Tryz.prog 166 #[.slice a l.length c, .func (.func 167) #[] #[]] w fun e w' => e = .returned (.bool (l.any outW)) ∧ Below w.heap.size w w' := by
 have hi := Lib.hid (idxOf_bool outW l)
 go_enter Tryz.func166, Tryz.ntmps166
 go_wp2_with (go_at_call 189; refine (idx_within1 a l c _ hv hl).mono ?_; rintro e w1 ⟨rfl, hb⟩)
 go_ret
 exact ⟨ret_bool (by rw [← hi.out]), hb⟩
theorem within_any (a : Option Addr) (l : List Int) (c : Nat) (w : World) (hv : IntsV w a l) (hl : l.length ≤ 1000000) :
    Calls Tryz.prog 109 #[.slice a l.length c] w fun e w' => e = .returned (.bool (!l.any outW)) ∧ Below w.heap.size w w' := by
 have HF := Lib.hid (has_within1 a l c w hv hl)
 cases hq : l.any outW
 ·rw [hq] at HF
  go_enter Tryz.func109, Tryz.ntmps109
  go_wp2_with (go_at_call 166; refine HF.out.mono ?_; rintro e w1 ⟨rfl, hb⟩)
  go_ret
  exact ⟨rfl, hb⟩
 ·rw [hq] at HF
  go_enter Tryz.func109, Tryz.ntmps109
  go_wp2_with (go_at_call 166; refine HF.out.mono ?_; rintro e w1 ⟨rfl, hb⟩)
  go_ret
  exact ⟨rfl, hb⟩

set_option maxRecDepth 100000 in
set_option maxHeartbeats 4000000 in
theorem single_any (ps : List Pl) (pa : Option Addr) (pc : Nat) (w : World) (hps : Good ps) (hpl : ps.length ≤ 40) (hv : Pls.V w pa ps) (hpc : ps.length ≤ pc) (hpc2 : pc ≤ 9223372036854775807) :
    Calls Tryz.prog 110 #[.slice pa ps.length pc] w fun e w' => ∃ a, e = .returned (.agg #[.slice a 1 1]) ∧ Cells.V w' a [⟨nf ps⟩] ∧ Below w.heap.size w w' := by
 have HB := Lib.hid (fun W (h : Below w.heap.size w W) => bodyOf_any ps pa pc W hps hpl (hv.keep h) hpc)
 have HCI := Lib.hid (corn_in hps)
 have HCL := Lib.hid (show (corn ps).length ≤ 1000000 by have := corn_len hpl; omega)
 have HPV := Lib.hid hv
 have HNC := Lib.hid (show nor ps (corn ps) = nf ps from rfl)
 have HNF := Lib.hid (fun W ca cc (h : Below w.heap.size w W) (hc : Cos.V W ca (corn ps)) => normalForm_any ps pa pc (corn ps) ca cc W hps (corn_in hps) hpl HCL.out (hv.keep h) hc)
 rw [HNC.out] at HNF
 clear HNC
 have HNW := Lib.hid (show ∀ c ∈ nf ps, c.wf from fun c hc => Pl.in_.wf (Good.nor hps (corn ps) c hc).1)
 generalize hNN : nf ps = N at *
 generalize corn ps = C at *
 go_enter Tryz.func110, Tryz.ntmps110
 go_upto_region 1 with fail
 refine gen_world (fun W => W.cell? ⟨w.heap.size, 0, none⟩ = some (.slice none 0 0) ∧ W.frozen? ⟨w.heap.size, 0, none⟩ = false ∧ Below w.heap.size w W) ⟨by simp [go_sem], by simp [go_sem], by repeat (first | (with_reducible assumption) | exact Below.refl _ _ | (refine Below.setCell ?_ (by first | omega | (simp; omega) | (simp; done)) _) | (refine Below.alloc ?_ (by first | omega | (simp; omega) | (simp; done)) _) | (refine Below.drew ?_))⟩ ?_
 rintro W ⟨z0, zf0, hb⟩
 have HB1 := Lib.hid hb
 clear hb
 obtain ⟨gw, hgw⟩ : ∃ g, g = w.heap.size := ⟨_, rfl⟩
 have HG := Lib.hid (show w.heap.size ≤ gw by omega)
 rw [← hgw] at z0 zf0 ⊢
 clear hgw
 go_wp2_with (first
  | (go_at_call 139; go_loud (refine (HB.out _ HB1.out).mono ?_; rintro e w1 ⟨ca, cc, rfl, ho, hb⟩; have z1 := cell_keep hb z0; have zf1 := frozen_keep hb (block_lt_of_cell z0) zf0; have HCV := Lib.hid (ownCoV (fun c hc => Co.in_.wf (HCI.out c hc)) ho); have HB2 := Lib.hid (HB1.out.trans (hb.mono HB1.out.size)); clear ho hb))
  | (go_at_call 77; refine (HNF.out _ _ _ HB2.out HCV.out).mono ?_; rintro e w2 ⟨na, nc, rfl, ho, hb⟩; have z2 := cell_keep hb z1; have zf2 := frozen_keep hb (block_lt_of_cell z1) zf1; have hal := (Below.refl w2.heap.size w2).alloc (Nat.le_refl _) (.cells #[.slice na N.length nc] 24); have z3 := cell_keep hal z2; have zf3 := frozen_keep hal (block_lt_of_cell z2) zf2; have HAL := Lib.hid hal; clear hal; have HNO := Lib.hid ho; have HB3 := Lib.hid (HB2.out.trans (hb.mono HB2.out.size)); clear ho hb))
 refine bodyPost_ret (v := .agg #[.slice (some ⟨w2.heap.size, 0, none⟩) 1 1]) ?_ ?_ ?_
 ·simp [results, Tryz.results110, go_sem, got1 z3]
 ·rfl
 have hgl : gw < w2.heap.size := block_lt_of_cell z2
 have hg1 : gw < w1.heap.size := block_lt_of_cell z1
 have c0 : (w2.alloc (.cells #[.slice na N.length nc] 24)).cell? ⟨w2.heap.size, 0, none⟩ = some (.slice na N.length nc) := by simp [go_sem]
 have hp := (ownPlV HNW.out HNO.out).keep HAL.out
 have hbl := own_blk_lt HNO.out
 obtain ⟨a', c', e, hn1, hn2⟩ := own_slice HNO.out
 injection e with e1 e2 e3
 subst e1 e3
 have hB := HB3.out.trans (HAL.out.mono HB3.out.size)
 generalize (w2.alloc (.cells #[.slice na N.length nc] 24)) = W3 at *
 refine ⟨_, rfl, fun _ => ⟨w2.heap.size, 0, rfl, fun k x hk => ?_⟩, hB.setCell HG.out _⟩
 have hk0 : k = 0 := by
  cases k with
  | zero => rfl
  | succ k => simp at hk
 subst hk0
 simp at hk
 subst hk
 refine ⟨na, nc, ?_, hp.grown (grownBy_set (a := ⟨gw, 0, none⟩)) fun b e e' => by injection e' with e'; have := (hbl b e).1; simp only at e'; omega, hn1, hn2, trivial⟩
 show (W3.setCell ⟨gw, 0, none⟩ _).cell? ⟨w2.heap.size, 0 + 0 * 1, none⟩ = _
 rw [cell_set_ne (fun e => by injection e with e; omega) rfl rfl]
 exact c0
end Go.Proofs.YtbhgkadklklmbaaGreat
/- The program's solid of a box. -/
set_option linter.unusedVariables false
set_option linter.unusedSimpArgs false
namespace Go.Proofs.YtbhgkadklklmbaaGreat
open Go Go.RowKit Go.Sort Go.Lib

def boxQ (b : Box6) : List Pl := [⟨-1, 0, 0, -b.x1⟩, ⟨0, -1, 0, -b.y1⟩, ⟨0, 0, -1, -b.z1⟩, ⟨1, 0, 0, b.x2⟩, ⟨0, 1, 0, b.y2⟩, ⟨0, 0, 1, b.z2⟩]
theorem boxQ_mem {b : Box6} {p : Pl} : p ∈ boxQ b ↔ p ∈ boxP b := by
 simp only [boxQ, boxP, List.mem_cons, List.not_mem_nil, or_false]
 constructor <;> intro h <;> rcases h with h | h | h | h | h | h <;> simp [h]
theorem boxQ_sol {b : Box6} (h : b.fit) : Sol (boxQ b) := by
 have hs := box_sol h
 have hr : NoRay (boxQ b) := fun v hv => by obtain ⟨q, hq, h1⟩ := hs.ray v hv; exact ⟨q, boxQ_mem.2 hq, h1⟩
 obtain ⟨hx, hy, hz⟩ := h
 have hi : Inner (boxP b) ⟨b.x1 + b.x2, b.y1 + b.y2, b.z1 + b.z2, 2⟩ := box_inner.2 (by simp only; omega)
 exact ⟨hr, fun p hp => hs.nrm p (boxQ_mem.1 hp), inner_insid hr (o := ⟨b.x1 + b.x2, b.y1 + b.y2, b.z1 + b.z2, 2⟩) ⟨hi.1, fun p hp => hi.2 p (boxQ_mem.1 hp)⟩, by simp [boxQ]⟩
theorem boxQ_nf {b : Box6} (h : b.fit) : nf (boxQ b) = boxP b := by
 rw [nf_same (boxQ_sol h) (box_sol h) fun c => ⟨fun k => ⟨k.1, fun p hp => k.2 p (boxQ_mem.2 hp)⟩, fun k => ⟨k.1, fun p hp => k.2 p (boxQ_mem.1 hp)⟩⟩, box_nf h]
theorem boxQ_good {b : Box6} (h : b.fit) : Good (boxQ b) := fun p hp => box_good h p (boxQ_mem.1 hp)
def sixB (b : Box6) : List Int := [b.x1, b.y1, b.z1, b.x2, b.y2, b.z2]
def ofE (b : Box6) : Int := if (sixB b).any outW = true then 2 else if b.x2 ≤ b.x1 ∨ b.y2 ≤ b.y1 ∨ b.z2 ≤ b.z1 then 3 else 0
def ofV (b : Box6) : List Cell := if ofE b = 0 then [⟨boxP b⟩] else []
theorem sixB_out {b : Box6} (h : (sixB b).any outW = false) : (-300000 ≤ b.x1 ∧ b.x1 ≤ 300000) ∧ (-300000 ≤ b.y1 ∧ b.y1 ≤ 300000) ∧ (-300000 ≤ b.z1 ∧ b.z1 ≤ 300000) ∧ (-300000 ≤ b.x2 ∧ b.x2 ≤ 300000) ∧ (-300000 ≤ b.y2 ∧ b.y2 ≤ 300000) ∧ (-300000 ≤ b.z2 ∧ b.z2 ≤ 300000) := by
 have key : ∀ z ∈ sixB b, -300000 ≤ z ∧ z ≤ 300000 := fun z hz => by
  have := List.any_eq_false.1 h z hz
  unfold outW at this
  simp only [Bool.or_eq_true, decide_eq_true_eq, not_or] at this
  omega
 refine ⟨key _ ?_, key _ ?_, key _ ?_, key _ ?_, key _ ?_, key _ ?_⟩ <;> unfold sixB <;> simp
theorem ofE_fit {b : Box6} (h : ofE b = 0) : b.fit := by
 unfold ofE at h
 split at h
 ·cases h
 rename_i h1
 split at h
 ·cases h
 rename_i h2
 have := sixB_out (by simpa using h1)
 exact ⟨by omega, by omega, by omega⟩
theorem ints6 (W : World) (T : TypeId) (a b c d e f : Int) : IntsV (W.alloc (.cells #[.int .i64 a, .int .i64 b, .int .i64 c, .int .i64 d, .int .i64 e, .int .i64 f] T)) (some ⟨W.heap.size, 0, none⟩) [a, b, c, d, e, f] := fun _ => ⟨_, 0, rfl, fun k x hk => by
 match k, hk with
 | 0, hk => simp at hk; subst hk; simp [go_sem]
 | 1, hk => simp at hk; subst hk; simp [go_sem]
 | 2, hk => simp at hk; subst hk; simp [go_sem]
 | 3, hk => simp at hk; subst hk; simp [go_sem]
 | 4, hk => simp at hk; subst hk; simp [go_sem]
 | 5, hk => simp at hk; subst hk; simp [go_sem]
 | k + 6, hk => simp at hk⟩
theorem pls6 (W : World) {x1 y1 z1 x2 y2 z2 : Int} (hg : Good (boxQ ⟨x1, y1, z1, x2, y2, z2⟩)) : Pls.V (W.alloc (.cells #[.int .i64 (-1), .int .i64 0, .int .i64 0, .int .i64 (-x1), .int .i64 0, .int .i64 (-1), .int .i64 0, .int .i64 (-y1), .int .i64 0, .int .i64 0, .int .i64 (-1), .int .i64 (-z1), .int .i64 1, .int .i64 0, .int .i64 0, .int .i64 x2, .int .i64 0, .int .i64 1, .int .i64 0, .int .i64 y2, .int .i64 0, .int .i64 0, .int .i64 1, .int .i64 z2] 26)) (some ⟨W.heap.size, 0, none⟩) (boxQ ⟨x1, y1, z1, x2, y2, z2⟩) :=
 fun _ => ⟨_, 0, rfl, fun k x hk => by
 match k, hk with
 | 0, hk => simp [boxQ] at hk; subst hk; exact ⟨by simp [go_sem], by simp [go_sem], by simp [go_sem], by simp [go_sem], Pl.in_.wf (hg _ (by simp [boxQ])).1⟩
 | 1, hk => simp [boxQ] at hk; subst hk; exact ⟨by simp [go_sem], by simp [go_sem], by simp [go_sem], by simp [go_sem], Pl.in_.wf (hg _ (by simp [boxQ])).1⟩
 | 2, hk => simp [boxQ] at hk; subst hk; exact ⟨by simp [go_sem], by simp [go_sem], by simp [go_sem], by simp [go_sem], Pl.in_.wf (hg _ (by simp [boxQ])).1⟩
 | 3, hk => simp [boxQ] at hk; subst hk; exact ⟨by simp [go_sem], by simp [go_sem], by simp [go_sem], by simp [go_sem], Pl.in_.wf (hg _ (by simp [boxQ])).1⟩
 | 4, hk => simp [boxQ] at hk; subst hk; exact ⟨by simp [go_sem], by simp [go_sem], by simp [go_sem], by simp [go_sem], Pl.in_.wf (hg _ (by simp [boxQ])).1⟩
 | 5, hk => simp [boxQ] at hk; subst hk; exact ⟨by simp [go_sem], by simp [go_sem], by simp [go_sem], by simp [go_sem], Pl.in_.wf (hg _ (by simp [boxQ])).1⟩
 | k + 6, hk => simp [boxQ] at hk⟩
set_option maxRecDepth 100000 in
set_option maxHeartbeats 8000000 in
theorem ofBox_any (b : Box6) (w : World) :
    Calls Tryz.prog 56 #[.agg #[.int .i64 b.x1, .int .i64 b.y1, .int .i64 b.z1, .int .i64 b.x2, .int .i64 b.y2, .int .i64 b.z2]] w fun e w' => ∃ a c, e = .returned (.tuple #[.agg #[.slice a (ofV b).length c], .int .i64 (ofE b)]) ∧ Cells.V w' a (ofV b) ∧ Below w.heap.size w w' := by
 obtain ⟨E, hE⟩ : ∃ E, E = ofE b := ⟨_, rfl⟩
 obtain ⟨V, hV⟩ : ∃ V, V = ofV b := ⟨_, rfl⟩
 rw [← hE, ← hV]
 have HE := Lib.hid hE
 have HV := Lib.hid hV
 have HN := Lib.hid (@boxQ_nf b)
 have HG2 := Lib.hid (@boxQ_good b)
 have HW := Lib.hid (fun W a (hv : IntsV W a (sixB b)) => within_any a (sixB b) 6 W hv (by unfold sixB; simp))
 have HQ := Lib.hid (show boxQ b = [⟨-1, 0, 0, -b.x1⟩, ⟨0, -1, 0, -b.y1⟩, ⟨0, 0, -1, -b.z1⟩, ⟨1, 0, 0, b.x2⟩, ⟨0, 1, 0, b.y2⟩, ⟨0, 0, 1, b.z2⟩] from rfl)
 have HS6 := Lib.hid (show sixB b = [b.x1, b.y1, b.z1, b.x2, b.y2, b.z2] from rfl)
 have HO := Lib.hid (@sixB_out b)
 obtain ⟨x1, y1, z1, x2, y2, z2⟩ := b
 simp only at HQ HS6 HO
 clear hE hV
 go_enter Tryz.func56, Tryz.ntmps56
 go_upto_region 1 with fail
 refine gen_world (fun W => (W.cell? ⟨w.heap.size, 0, none⟩ = some (.int .i64 x1) ∧ W.cell? ⟨w.heap.size, 1, none⟩ = some (.int .i64 y1) ∧ W.cell? ⟨w.heap.size, 2, none⟩ = some (.int .i64 z1) ∧ W.cell? ⟨w.heap.size, 3, none⟩ = some (.int .i64 x2) ∧ W.cell? ⟨w.heap.size, 4, none⟩ = some (.int .i64 y2) ∧ W.cell? ⟨w.heap.size, 5, none⟩ = some (.int .i64 z2)) ∧ W.cell? ⟨w.heap.size + 1, 0, none⟩ = some (.slice none 0 0) ∧ W.frozen? ⟨w.heap.size + 1, 0, none⟩ = false ∧ Below w.heap.size w W) ⟨⟨by simp [go_sem], by simp [go_sem], by simp [go_sem], by simp [go_sem], by simp [go_sem], by simp [go_sem]⟩, by simp [go_sem], by simp [go_sem], by repeat (first | (with_reducible assumption) | exact Below.refl _ _ | (refine Below.setCell ?_ (by first | omega | (simp; omega) | (simp; done)) _) | (refine Below.alloc ?_ (by first | omega | (simp; omega) | (simp; done)) _) | (refine Below.drew ?_))⟩ ?_
 rintro W ⟨⟨s0, s1, s2, s3, s4, s5⟩, z0, zf, hb⟩
 have HB1 := Lib.hid hb
 clear hb
 obtain ⟨gw, hgw⟩ : ∃ g, g = w.heap.size := ⟨_, rfl⟩
 have HG := Lib.hid (show w.heap.size ≤ gw + 1 by omega)
 rw [← hgw] at s0 s1 s2 s3 s4 s5 z0 zf ⊢
 clear hgw
 cases hany : (sixB ⟨x1, y1, z1, x2, y2, z2⟩).any outW with
 | true =>
  rw [hany] at HW
  have HE1 := Lib.hid (show E = 2 by rw [HE.out]; unfold ofE; rw [if_pos hany])
  have HV0 := Lib.hid (show V = [] by rw [HV.out]; unfold ofV; rw [← HE.out, HE1.out]; rfl)
  go_wp2_with ((go_at_call 109; refine (HW.out _ _ (ints6 _ _ x1 y1 z1 x2 y2 z2)).mono ?_; rintro e w2 ⟨rfl, hb⟩; have hb := ((Below.refl _ _).alloc (Nat.le_refl _) _).trans (hb.mono (by simp)); (have s0 := cell_keep hb s0; have s1 := cell_keep hb s1; have s2 := cell_keep hb s2; have s3 := cell_keep hb s3; have s4 := cell_keep hb s4; have s5 := cell_keep hb s5; have zf := frozen_keep hb (block_lt_of_cell z0) zf; have z0 := cell_keep hb z0); have HB2 := Lib.hid (HB1.out.trans (hb.mono HB1.out.size)); clear hb))
  rw [HE1.out]
  refine bodyPost_ret (v := .tuple #[.agg #[.slice none 0 0], .int .i64 2]) ?_ ?_ ?_
  ·simp [results, Tryz.results56, go_sem, got1 z0]
  ·rfl
  ·exact ⟨none, 0, by rw [HV0.out]; rfl, by rw [HV0.out]; exact fun hn => absurd rfl hn, HB2.out.setCell HG.out _⟩
 | false =>
  rw [hany] at HW
  obtain ⟨r1, r2, r3, r4, r5, r6⟩ := HO.out hany
  have HE1 := Lib.hid (show E = if x2 ≤ x1 ∨ y2 ≤ y1 ∨ z2 ≤ z1 then 3 else 0 by rw [HE.out]; unfold ofE; rw [if_neg (by rw [hany]; simp)])
  by_cases c1 : x2 ≤ x1
  ·have HE2 := Lib.hid (show E = 3 by rw [HE1.out, if_pos (.inl c1)])
   have HV0 := Lib.hid (show V = [] by rw [HV.out]; unfold ofV; rw [← HE.out, HE2.out]; rfl)
   go_wp2_with (go_at_call 109; refine (HW.out _ _ (ints6 _ _ x1 y1 z1 x2 y2 z2)).mono ?_; rintro e w2 ⟨rfl, hb⟩; have hb := ((Below.refl _ _).alloc (Nat.le_refl _) _).trans (hb.mono (by simp)); (have s0 := cell_keep hb s0; have s1 := cell_keep hb s1; have s2 := cell_keep hb s2; have s3 := cell_keep hb s3; have s4 := cell_keep hb s4; have s5 := cell_keep hb s5; have zf := frozen_keep hb (block_lt_of_cell z0) zf; have z0 := cell_keep hb z0); have HB2 := Lib.hid (HB1.out.trans (hb.mono HB1.out.size)); clear hb)
   rw [HE2.out]
   refine bodyPost_ret (v := .tuple #[.agg #[.slice none 0 0], .int .i64 3]) ?_ ?_ ?_
   ·simp [results, Tryz.results56, go_sem, got1 z0]
   ·rfl
   ·exact ⟨none, 0, by rw [HV0.out]; rfl, by rw [HV0.out]; exact fun hn => absurd rfl hn, HB2.out.setCell HG.out _⟩
  by_cases c2 : y2 ≤ y1
  ·have HE2 := Lib.hid (show E = 3 by rw [HE1.out, if_pos (.inr (.inl c2))])
   have HV0 := Lib.hid (show V = [] by rw [HV.out]; unfold ofV; rw [← HE.out, HE2.out]; rfl)
   go_wp2_with (go_at_call 109; refine (HW.out _ _ (ints6 _ _ x1 y1 z1 x2 y2 z2)).mono ?_; rintro e w2 ⟨rfl, hb⟩; have hb := ((Below.refl _ _).alloc (Nat.le_refl _) _).trans (hb.mono (by simp)); (have s0 := cell_keep hb s0; have s1 := cell_keep hb s1; have s2 := cell_keep hb s2; have s3 := cell_keep hb s3; have s4 := cell_keep hb s4; have s5 := cell_keep hb s5; have zf := frozen_keep hb (block_lt_of_cell z0) zf; have z0 := cell_keep hb z0); have HB2 := Lib.hid (HB1.out.trans (hb.mono HB1.out.size)); clear hb)
   rw [HE2.out]
   refine bodyPost_ret (v := .tuple #[.agg #[.slice none 0 0], .int .i64 3]) ?_ ?_ ?_
   ·simp [results, Tryz.results56, go_sem, got1 z0]
   ·rfl
   ·exact ⟨none, 0, by rw [HV0.out]; rfl, by rw [HV0.out]; exact fun hn => absurd rfl hn, HB2.out.setCell HG.out _⟩
  by_cases c3 : z2 ≤ z1
  ·have HE2 := Lib.hid (show E = 3 by rw [HE1.out, if_pos (.inr (.inr c3))])
   have HV0 := Lib.hid (show V = [] by rw [HV.out]; unfold ofV; rw [← HE.out, HE2.out]; rfl)
   go_wp2_with (go_at_call 109; refine (HW.out _ _ (ints6 _ _ x1 y1 z1 x2 y2 z2)).mono ?_; rintro e w2 ⟨rfl, hb⟩; have hb := ((Below.refl _ _).alloc (Nat.le_refl _) _).trans (hb.mono (by simp)); (have s0 := cell_keep hb s0; have s1 := cell_keep hb s1; have s2 := cell_keep hb s2; have s3 := cell_keep hb s3; have s4 := cell_keep hb s4; have s5 := cell_keep hb s5; have zf := frozen_keep hb (block_lt_of_cell z0) zf; have z0 := cell_keep hb z0); have HB2 := Lib.hid (HB1.out.trans (hb.mono HB1.out.size)); clear hb)
   rw [HE2.out]
   refine bodyPost_ret (v := .tuple #[.agg #[.slice none 0 0], .int .i64 3]) ?_ ?_ ?_
   ·simp [results, Tryz.results56, go_sem, got1 z0]
   ·rfl
   ·exact ⟨none, 0, by rw [HV0.out]; rfl, by rw [HV0.out]; exact fun hn => absurd rfl hn, HB2.out.setCell HG.out _⟩
  have HE2 := Lib.hid (show E = 0 by rw [HE1.out, if_neg (by omega)])
  have hfit : (⟨x1, y1, z1, x2, y2, z2⟩ : Box6).fit := ofE_fit (by rw [← HE.out, HE2.out])
  have HV0 := Lib.hid (show V = [⟨boxP ⟨x1, y1, z1, x2, y2, z2⟩⟩] by rw [HV.out]; unfold ofV; rw [← HE.out, HE2.out]; rfl)
  have HSG := Lib.hid (fun W a (hv : Pls.V W a (boxQ ⟨x1, y1, z1, x2, y2, z2⟩)) => (show Calls Tryz.prog 110 #[.slice a 6 6] W fun e w' => ∃ a, e = .returned (.agg #[.slice a 1 1]) ∧ Cells.V w' a [⟨nf (boxQ ⟨x1, y1, z1, x2, y2, z2⟩)⟩] ∧ Below W.heap.size W w' from single_any (boxQ ⟨x1, y1, z1, x2, y2, z2⟩) a 6 W (boxQ_good hfit) (by simp [boxQ]) hv (by simp [boxQ]) (by decide)))
  rw [HN.out hfit, ← HV0.out] at HSG
  have HP6 := Lib.hid (fun W => pls6 W (boxQ_good hfit))
  have v1 : IntKind.i64.wrap (-x1) = -x1 := IntWalk.i64_in _ (by omega)
  have v2 : IntKind.i64.wrap (-y1) = -y1 := IntWalk.i64_in _ (by omega)
  have v3 : IntKind.i64.wrap (-z1) = -z1 := IntWalk.i64_in _ (by omega)
  have n1 : V.length = 1 := by rw [HV0.out]; rfl
  clear r1 r2 r3 r4 r5 r6
  go_wp2_with (first | (go_at_call 109; refine (HW.out _ _ (ints6 _ _ x1 y1 z1 x2 y2 z2)).mono ?_; rintro e w2 ⟨rfl, hb⟩; have hb := ((Below.refl _ _).alloc (Nat.le_refl _) _).trans (hb.mono (by simp)); (have s0 := cell_keep hb s0; have s1 := cell_keep hb s1; have s2 := cell_keep hb s2; have s3 := cell_keep hb s3; have s4 := cell_keep hb s4; have s5 := cell_keep hb s5; have zf := frozen_keep hb (block_lt_of_cell z0) zf; have z0 := cell_keep hb z0); have HB2 := Lib.hid (HB1.out.trans (hb.mono HB1.out.size)); clear hb) | (go_at_call 110; refine (HSG.out _ _ (HP6.out _)).mono ?_; rintro e w3 ⟨sa, rfl, hcv, hb⟩; have hb := ((Below.refl _ _).alloc (Nat.le_refl _) _).trans (hb.mono (by simp)); (have s0 := cell_keep hb s0; have s1 := cell_keep hb s1; have s2 := cell_keep hb s2; have s3 := cell_keep hb s3; have s4 := cell_keep hb s4; have s5 := cell_keep hb s5; have zf := frozen_keep hb (block_lt_of_cell z0) zf; have z0 := cell_keep hb z0); have HCV := Lib.hid hcv; have HB3 := Lib.hid (HB2.out.trans (hb.mono HB2.out.size)); clear hb hcv))
  refine bodyPost_ret (v := .tuple #[.agg #[.slice sa 1 1], .int .i64 0]) ?_ ?_ ?_
  ·simp [results, Tryz.results56, go_sem, got1 z0]
  ·rfl
  ·exact ⟨sa, 1, by rw [HE2.out, n1], cells_set (V := []) (wa := none) (wc := 0) HCV.out (by rw [HV0.out]; intro x hx; rw [List.mem_singleton] at hx; subst hx; simp [boxP]) z0 (fun h => absurd rfl h) _, HB3.out.setCell HG.out _⟩
end Go.Proofs.YtbhgkadklklmbaaGreat
/- The document's solid of a box. -/
set_option linter.unusedVariables false
set_option linter.unusedSimpArgs false
namespace Go.Proofs.YtbhgkadklklmbaaGreat
open Go Go.RowKit Go.Sort Go.Lib

theorem outW_within (z : Int) : withinB z (-300000) 300000 = !outW z := by
 unfold withinB outW
 rw [Bool.eq_iff_iff]
 simp
set_option maxRecDepth 100000 in
set_option maxHeartbeats 2000000 in
theorem roomR_any (a : Option Addr) (l : List Int) (c : Nat) (w : World) (hv : IntsV w a l) (hl : l.length ≤ 1000000) :
    Calls Tryz.prog 111 #[.slice a l.length c] w fun e w' => e = .returned (.bool (!l.any outW)) ∧ Below w.heap.size w w' := by
 have HW := Lib.hid (fun z W => baseWithin_any z (-300000) 300000 W)
 go_enter Tryz.func111, Tryz.ntmps111
 go_wp2_with fail
 go_loopw [3] (fun i wr => ∃ k : Nat, k ≤ l.length ∧ i = .int .i64 k ∧ Hid (∀ j (hj : j < l.length), j < k → outW l[j] = false) ∧ Below w.heap.size w wr) (fun i _ => l.length - (intOf i).toNat)
 case atStart => exact ⟨0, Nat.zero_le _, rfl, Lib.hid (fun j _ h => by omega), Below.refl _ _⟩
 case round =>
  obtain ⟨k, hk, rfl, HK, hbw⟩ := hrel
  have hsz := hbw.size
  by_cases hlt : k < l.length
  ·obtain ⟨b, off, rfl, hat⟩ := (hv.keep hbw) (fun e => by rw [e] at hlt; simp at hlt)
   have c0 := hat k l[k] (List.getElem?_eq_getElem hlt)
   clear hat
   have HN := Lib.hid (fun h => none_step (p := outW) HK.out hlt h)
   have HY := Lib.hid (show outW l[k] = true → l.any outW = true from fun h => List.any_eq_true.2 ⟨l[k], List.getElem_mem hlt, h⟩)
   have HF := Lib.hid (HW.out l[k] wr)
   rw [outW_within] at HF
   generalize l[k] = d at *
   cases hq : outW d
   ·rw [hq] at HF
    go_wp2_with (go_at_call 82; refine HF.out.mono ?_; rintro e w1 ⟨rfl, rfl⟩)
    go_round
    case rel => exact ⟨k + 1, by omega, by go_num, Lib.hid (HN.out hq), hbw⟩
    case measure => simp [intOf]; omega
   ·rw [hq] at HF
    have hA := HY.out hq
    go_wp2_with (go_at_call 82; refine HF.out.mono ?_; rintro e w1 ⟨rfl, rfl⟩)
    go_ret
    exact ⟨ret_bool (by rw [hA]; rfl), hbw⟩
  ·have hm := Lib.hid (show l.any outW = false from List.any_eq_false.2 fun x hx => by obtain ⟨j, hj, rfl⟩ := List.mem_iff_getElem.1 hx; rw [HK.out j hj (by omega)]; simp)
   clear HK
   go_wp2_with fail
   go_ret
   exact ⟨ret_bool (by rw [hm.out]; rfl), hbw⟩
theorem plsP6 (W : World) {x1 y1 z1 x2 y2 z2 : Int} (hg : Good (boxP ⟨x1, y1, z1, x2, y2, z2⟩)) : Pls.V (W.alloc (.cells #[.int .i64 (-1), .int .i64 0, .int .i64 0, .int .i64 (-x1), .int .i64 0, .int .i64 (-1), .int .i64 0, .int .i64 (-y1), .int .i64 0, .int .i64 0, .int .i64 (-1), .int .i64 (-z1), .int .i64 0, .int .i64 0, .int .i64 1, .int .i64 z2, .int .i64 0, .int .i64 1, .int .i64 0, .int .i64 y2, .int .i64 1, .int .i64 0, .int .i64 0, .int .i64 x2] 26)) (some ⟨W.heap.size, 0, none⟩) (boxP ⟨x1, y1, z1, x2, y2, z2⟩) :=
 fun _ => ⟨_, 0, rfl, fun k x hk => by
 match k, hk with
 | 0, hk => simp [boxP] at hk; subst hk; exact ⟨by simp [go_sem], by simp [go_sem], by simp [go_sem], by simp [go_sem], Pl.in_.wf (hg _ (by simp [boxP])).1⟩
 | 1, hk => simp [boxP] at hk; subst hk; exact ⟨by simp [go_sem], by simp [go_sem], by simp [go_sem], by simp [go_sem], Pl.in_.wf (hg _ (by simp [boxP])).1⟩
 | 2, hk => simp [boxP] at hk; subst hk; exact ⟨by simp [go_sem], by simp [go_sem], by simp [go_sem], by simp [go_sem], Pl.in_.wf (hg _ (by simp [boxP])).1⟩
 | 3, hk => simp [boxP] at hk; subst hk; exact ⟨by simp [go_sem], by simp [go_sem], by simp [go_sem], by simp [go_sem], Pl.in_.wf (hg _ (by simp [boxP])).1⟩
 | 4, hk => simp [boxP] at hk; subst hk; exact ⟨by simp [go_sem], by simp [go_sem], by simp [go_sem], by simp [go_sem], Pl.in_.wf (hg _ (by simp [boxP])).1⟩
 | 5, hk => simp [boxP] at hk; subst hk; exact ⟨by simp [go_sem], by simp [go_sem], by simp [go_sem], by simp [go_sem], Pl.in_.wf (hg _ (by simp [boxP])).1⟩
 | k + 6, hk => simp [boxP] at hk⟩
theorem lowU_any (p : Pl) (hp : p.in_) (hu : p.a.natAbs = 1 ∨ p.b.natAbs = 1 ∨ p.c.natAbs = 1) (w : World) : Calls Tryz.prog 83 #[.agg #[.int .i64 p.a, .int .i64 p.b, .int .i64 p.c, .int .i64 p.d]] w fun e w' => e = .returned (.agg #[.int .i64 p.a, .int .i64 p.b, .int .i64 p.c, .int .i64 p.d]) ∧ Below w.heap.size w w' := by
 have h := lowestR_any p hp (by rw [g4_unit hu]; decide) w
 rw [lowL_unit hu] at h
 exact h
set_option maxRecDepth 100000 in
set_option maxHeartbeats 8000000 in
theorem ofBoxC_any (b : Box6) (hfit : b.fit) (w : World) :
    Calls Tryz.prog 112 #[.agg #[.int .i64 b.x1, .int .i64 b.y1, .int .i64 b.z1, .int .i64 b.x2, .int .i64 b.y2, .int .i64 b.z2]] w fun e w' => ∃ a, e = .returned (.agg #[.slice a 6 6]) ∧ Pls.V w' a (boxP b) ∧ Below w.heap.size w w' := by
 have hmix : Tryz.prog.follows .mixedOrders = true := by kernel_rfl
 have hg := box_good hfit
 obtain ⟨x1, y1, z1, x2, y2, z2⟩ := b
 obtain ⟨⟨r1, r2, r3⟩, ⟨r4, r5, r6⟩, r7, r8, r9⟩ := hfit
 simp only at r1 r2 r3 r4 r5 r6 r7 r8 r9
 have HL1 := Lib.hid (fun W => lowU_any ⟨-1, 0, 0, -x1⟩ (hg _ (by simp [boxP])).1 (by simp) W)
 have HL2 := Lib.hid (fun W => lowU_any ⟨0, -1, 0, -y1⟩ (hg _ (by simp [boxP])).1 (by simp) W)
 have HL3 := Lib.hid (fun W => lowU_any ⟨0, 0, -1, -z1⟩ (hg _ (by simp [boxP])).1 (by simp) W)
 have HL4 := Lib.hid (fun W => lowU_any ⟨0, 0, 1, z2⟩ (hg _ (by simp [boxP])).1 (by simp) W)
 have HL5 := Lib.hid (fun W => lowU_any ⟨0, 1, 0, y2⟩ (hg _ (by simp [boxP])).1 (by simp) W)
 have HL6 := Lib.hid (fun W => lowU_any ⟨1, 0, 0, x2⟩ (hg _ (by simp [boxP])).1 (by simp) W)
 have HP6 := Lib.hid (fun W => plsP6 W hg)
 have v1 : IntKind.i64.wrap (-x1) = -x1 := IntWalk.i64_in _ (by omega)
 have v2 : IntKind.i64.wrap (-y1) = -y1 := IntWalk.i64_in _ (by omega)
 have v3 : IntKind.i64.wrap (-z1) = -z1 := IntWalk.i64_in _ (by omega)
 clear r1 r2 r3 r4 r5 r6 r7 r8 r9 hg
 go_enter Tryz.func112, Tryz.ntmps112
 go_upto_region 1 with fail
 refine gen_world (fun W => (W.cell? ⟨w.heap.size, 0, none⟩ = some (.int .i64 x1) ∧ W.cell? ⟨w.heap.size, 1, none⟩ = some (.int .i64 y1) ∧ W.cell? ⟨w.heap.size, 2, none⟩ = some (.int .i64 z1) ∧ W.cell? ⟨w.heap.size, 3, none⟩ = some (.int .i64 x2) ∧ W.cell? ⟨w.heap.size, 4, none⟩ = some (.int .i64 y2) ∧ W.cell? ⟨w.heap.size, 5, none⟩ = some (.int .i64 z2)) ∧ W.cell? ⟨w.heap.size + 1, 0, none⟩ = some (.slice none 0 0) ∧ W.frozen? ⟨w.heap.size + 1, 0, none⟩ = false ∧ Below w.heap.size w W) ⟨⟨by simp [go_sem], by simp [go_sem], by simp [go_sem], by simp [go_sem], by simp [go_sem], by simp [go_sem]⟩, by simp [go_sem], by simp [go_sem], by repeat (first | (with_reducible assumption) | exact Below.refl _ _ | (refine Below.setCell ?_ (by first | omega | (simp; omega) | (simp; done)) _) | (refine Below.alloc ?_ (by first | omega | (simp; omega) | (simp; done)) _) | (refine Below.drew ?_))⟩ ?_
 rintro W ⟨⟨s0, s1, s2, s3, s4, s5⟩, z0, zf, hb⟩
 have HB1 := Lib.hid hb
 clear hb
 obtain ⟨gw, hgw⟩ : ∃ g, g = w.heap.size := ⟨_, rfl⟩
 have HG := Lib.hid (show w.heap.size ≤ gw + 1 by omega)
 rw [← hgw] at s0 s1 s2 s3 s4 s5 z0 zf ⊢
 clear hgw
 have HGW := Lib.hid (show gw + 1 < W.heap.size from block_lt_of_cell z0)
 have kx0 : ∀ y : KW (fun W' => Below W.heap.size W W'), (y.w.cell? ⟨gw, 0, none⟩ = some (.int .i64 x1) ∧ y.w.cell? ⟨gw, 1, none⟩ = some (.int .i64 y1) ∧ y.w.cell? ⟨gw, 2, none⟩ = some (.int .i64 z1) ∧ y.w.cell? ⟨gw, 3, none⟩ = some (.int .i64 x2) ∧ y.w.cell? ⟨gw, 4, none⟩ = some (.int .i64 y2) ∧ y.w.cell? ⟨gw, 5, none⟩ = some (.int .i64 z2)) := fun y => ⟨cell_keep y.ok s0, cell_keep y.ok s1, cell_keep y.ok s2, cell_keep y.ok s3, cell_keep y.ok s4, cell_keep y.ok s5⟩
 haveI n1 : Nonempty (KW (fun W' => Below W.heap.size W W')) := ⟨⟨W, Below.refl _ _⟩⟩
 refine wp_region_tree (fun w' => ∃ y : KW (fun W' => Below W.heap.size W W'), w' = y.w) 26 (.take 0 (.take 1 (.take 2 (.take 3 (.take 5 (.take 6 (.take 7 (.take 8 (.take 10 (.take 11 (.take 12 (.take 13 (.take 15 (.take 16 (.take 17 (.take 19 (.take 20 (.take 21 (.take 23 (.take 24 (.take 25 (.one 4 (.one 9 (.one 14 (.one 18 (.one 22 .done)))))))))))))))))))))))))) hmix (by kernel_rfl) (KW.mk' (Below.refl _ _).drew) ?_
 have HC := Lib.hid (show Below W.heap.size W W.drew from (Below.refl _ _).drew)
 generalize W.drew = wz at *
 (refine wpTree_take ?_; simp only [nthOp]; (first | go_big_quiet_step (fail) | quiet_step (fail)); refine wpQuiet_nil ?_)
 (refine wpTree_take ?_; simp only [nthOp]; (first | go_big_quiet_step (fail) | quiet_step (fail)); refine wpQuiet_nil ?_)
 (refine wpTree_take ?_; simp only [nthOp]; (first | go_big_quiet_step (fail) | quiet_step (fail)); refine wpQuiet_nil ?_)
 (refine wpTree_take ?_; simp only [nthOp]; (first | go_big_quiet_step (fail) | quiet_step (fail)); refine wpQuiet_nil ?_)
 (refine wpTree_take ?_; simp only [nthOp]; (first | go_big_quiet_step (fail) | quiet_step (fail)); refine wpQuiet_nil ?_)
 (refine wpTree_take ?_; simp only [nthOp]; (first | go_big_quiet_step (fail) | quiet_step (fail)); refine wpQuiet_nil ?_)
 (refine wpTree_take ?_; simp only [nthOp]; (first | go_big_quiet_step (fail) | quiet_step (fail)); refine wpQuiet_nil ?_)
 (refine wpTree_take ?_; simp only [nthOp]; (first | go_big_quiet_step (fail) | quiet_step (fail)); refine wpQuiet_nil ?_)
 (refine wpTree_take ?_; simp only [nthOp]; (first | go_big_quiet_step (fail) | quiet_step (fail)); refine wpQuiet_nil ?_)
 (refine wpTree_take ?_; simp only [nthOp]; (first | go_big_quiet_step (fail) | quiet_step (fail)); refine wpQuiet_nil ?_)
 (refine wpTree_take ?_; simp only [nthOp]; (first | go_big_quiet_step (fail) | quiet_step (fail)); refine wpQuiet_nil ?_)
 (refine wpTree_take ?_; simp only [nthOp]; (first | go_big_quiet_step (fail) | quiet_step (fail)); refine wpQuiet_nil ?_)
 (refine wpTree_take ?_; simp only [nthOp]; (first | go_big_quiet_step (fail) | quiet_step (fail)); refine wpQuiet_nil ?_)
 (refine wpTree_take ?_; simp only [nthOp]; (first | go_big_quiet_step (fail) | quiet_step (fail)); refine wpQuiet_nil ?_)
 (refine wpTree_take ?_; simp only [nthOp]; (first | go_big_quiet_step (fail) | quiet_step (fail)); refine wpQuiet_nil ?_)
 (refine wpTree_take ?_; simp only [nthOp]; (first | go_big_quiet_step (fail) | quiet_step (fail)); refine wpQuiet_nil ?_)
 (refine wpTree_take ?_; simp only [nthOp]; (first | go_big_quiet_step (fail) | quiet_step (fail)); refine wpQuiet_nil ?_)
 (refine wpTree_take ?_; simp only [nthOp]; (first | go_big_quiet_step (fail) | quiet_step (fail)); refine wpQuiet_nil ?_)
 (refine wpTree_take ?_; simp only [nthOp]; (first | go_big_quiet_step (fail) | quiet_step (fail)); refine wpQuiet_nil ?_)
 (refine wpTree_take ?_; simp only [nthOp]; (first | go_big_quiet_step (fail) | quiet_step (fail)); refine wpQuiet_nil ?_)
 (refine wpTree_take ?_; simp only [nthOp]; (first | go_big_quiet_step (fail) | quiet_step (fail)); refine wpQuiet_nil ?_)
 refine wpTree_one ?_
 simp only [nthOp]
 go_wp2_with (go_at_call 83; refine (HL1.out wz).mono ?_; rintro e wt1 ⟨rfl, hb⟩; have HC := Lib.hid (HC.out.trans (hb.mono HC.out.size)); clear hb)
 refine One_mk (KW.mk' HC.out) ?_
 refine wpTree_one ?_
 simp only [nthOp]
 go_wp2_with (go_at_call 83; refine (HL2.out wt1).mono ?_; rintro e wt2 ⟨rfl, hb⟩; have HC := Lib.hid (HC.out.trans (hb.mono HC.out.size)); clear hb)
 refine One_mk (KW.mk' HC.out) ?_
 refine wpTree_one ?_
 simp only [nthOp]
 go_wp2_with (go_at_call 83; refine (HL3.out wt2).mono ?_; rintro e wt3 ⟨rfl, hb⟩; have HC := Lib.hid (HC.out.trans (hb.mono HC.out.size)); clear hb)
 refine One_mk (KW.mk' HC.out) ?_
 refine wpTree_one ?_
 simp only [nthOp]
 go_wp2_with (go_at_call 83; refine (HL4.out wt3).mono ?_; rintro e wt4 ⟨rfl, hb⟩; have HC := Lib.hid (HC.out.trans (hb.mono HC.out.size)); clear hb)
 refine One_mk (KW.mk' HC.out) ?_
 refine wpTree_one ?_
 simp only [nthOp]
 go_wp2_with (go_at_call 83; refine (HL5.out wt4).mono ?_; rintro e wt5 ⟨rfl, hb⟩; have HC := Lib.hid (HC.out.trans (hb.mono HC.out.size)); clear hb)
 refine One_mk (KW.mk' HC.out) ?_
 refine wpTree_done ?_
 simp only [List.drop_succ_cons, List.drop_zero]
 have HSX := Lib.hid (HC.out)
 have z0 := cell_keep HC.out z0
 have zf := frozen_keep HC.out (by have := HGW.out; simp only; omega) zf
 go_wp2_with (go_at_call 83; refine (HL6.out wt5).mono ?_; rintro e w6 ⟨rfl, hb⟩; have zf := frozen_keep hb (block_lt_of_cell z0) zf; have z0 := cell_keep hb z0; have hal := (Below.refl w6.heap.size w6).alloc (Nat.le_refl _) (.cells #[.int .i64 (-1), .int .i64 0, .int .i64 0, .int .i64 (-x1), .int .i64 0, .int .i64 (-1), .int .i64 0, .int .i64 (-y1), .int .i64 0, .int .i64 0, .int .i64 (-1), .int .i64 (-z1), .int .i64 0, .int .i64 0, .int .i64 1, .int .i64 z2, .int .i64 0, .int .i64 1, .int .i64 0, .int .i64 y2, .int .i64 1, .int .i64 0, .int .i64 0, .int .i64 x2] 26); have zf3 := frozen_keep hal (block_lt_of_cell z0) zf; have z3 := cell_keep hal z0; have HAL := Lib.hid hal; have HC := Lib.hid (HC.out.trans (hb.mono HC.out.size)); clear hb hal)
 refine NP_mk ?_
 go_wp2_with fail
 refine bodyPost_ret (v := .agg #[.slice (some ⟨w6.heap.size, 0, none⟩) 6 6]) ?_ ?_ ?_
 ·simp [results, Tryz.results112, go_sem, got1 z3]
 ·rfl
 have hgl : gw + 1 < w6.heap.size := block_lt_of_cell z0
 have hp := HP6.out w6
 have hB := (HB1.out.trans (HC.out.mono HB1.out.size)).trans (HAL.out.mono (HB1.out.trans (HC.out.mono HB1.out.size)).size)
 exact ⟨_, rfl, hp.grown (grownBy_set (a := ⟨gw + 1, 0, none⟩)) fun b e e' => by injection e' with e'; injection e with e; simp only at e e'; omega, hB.setCell HG.out _⟩
end Go.Proofs.YtbhgkadklklmbaaGreat
/- The document's solid of a box, with its errors. -/
set_option linter.unusedVariables false
set_option linter.unusedSimpArgs false
namespace Go.Proofs.YtbhgkadklklmbaaGreat
open Go Go.RowKit Go.Sort Go.Lib

set_option maxRecDepth 100000 in
set_option maxHeartbeats 8000000 in
theorem ofBoxR_any (b : Box6) (w : World) :
    Calls Tryz.prog 57 #[.agg #[.int .i64 b.x1, .int .i64 b.y1, .int .i64 b.z1, .int .i64 b.x2, .int .i64 b.y2, .int .i64 b.z2]] w fun e w' => ∃ a c, e = .returned (.tuple #[.agg #[.slice a (ofV b).length c], .int .i64 (ofE b)]) ∧ Cells.V w' a (ofV b) ∧ Below w.heap.size w w' := by
 obtain ⟨E, hE⟩ : ∃ E, E = ofE b := ⟨_, rfl⟩
 obtain ⟨V, hV⟩ : ∃ V, V = ofV b := ⟨_, rfl⟩
 rw [← hE, ← hV]
 have HE := Lib.hid hE
 have HV := Lib.hid hV
 have HN := Lib.hid (@boxQ_nf b)
 have HG2 := Lib.hid (@boxQ_good b)
 have HW := Lib.hid (fun W a (hv : IntsV W a (sixB b)) => roomR_any a (sixB b) 6 W hv (by unfold sixB; simp))
 have HQ := Lib.hid (show boxQ b = [⟨-1, 0, 0, -b.x1⟩, ⟨0, -1, 0, -b.y1⟩, ⟨0, 0, -1, -b.z1⟩, ⟨1, 0, 0, b.x2⟩, ⟨0, 1, 0, b.y2⟩, ⟨0, 0, 1, b.z2⟩] from rfl)
 have HS6 := Lib.hid (show sixB b = [b.x1, b.y1, b.z1, b.x2, b.y2, b.z2] from rfl)
 have HO := Lib.hid (@sixB_out b)
 obtain ⟨x1, y1, z1, x2, y2, z2⟩ := b
 simp only at HQ HS6 HO
 clear hE hV
 go_enter Tryz.func57, Tryz.ntmps57
 go_upto_region 1 with fail
 refine gen_world (fun W => (W.cell? ⟨w.heap.size, 0, none⟩ = some (.int .i64 x1) ∧ W.cell? ⟨w.heap.size, 1, none⟩ = some (.int .i64 y1) ∧ W.cell? ⟨w.heap.size, 2, none⟩ = some (.int .i64 z1) ∧ W.cell? ⟨w.heap.size, 3, none⟩ = some (.int .i64 x2) ∧ W.cell? ⟨w.heap.size, 4, none⟩ = some (.int .i64 y2) ∧ W.cell? ⟨w.heap.size, 5, none⟩ = some (.int .i64 z2)) ∧ W.cell? ⟨w.heap.size + 1, 0, none⟩ = some (.slice none 0 0) ∧ W.frozen? ⟨w.heap.size + 1, 0, none⟩ = false ∧ Below w.heap.size w W) ⟨⟨by simp [go_sem], by simp [go_sem], by simp [go_sem], by simp [go_sem], by simp [go_sem], by simp [go_sem]⟩, by simp [go_sem], by simp [go_sem], by repeat (first | (with_reducible assumption) | exact Below.refl _ _ | (refine Below.setCell ?_ (by first | omega | (simp; omega) | (simp; done)) _) | (refine Below.alloc ?_ (by first | omega | (simp; omega) | (simp; done)) _) | (refine Below.drew ?_))⟩ ?_
 rintro W ⟨⟨s0, s1, s2, s3, s4, s5⟩, z0, zf, hb⟩
 have HB1 := Lib.hid hb
 clear hb
 obtain ⟨gw, hgw⟩ : ∃ g, g = w.heap.size := ⟨_, rfl⟩
 have HG := Lib.hid (show w.heap.size ≤ gw + 1 by omega)
 rw [← hgw] at s0 s1 s2 s3 s4 s5 z0 zf ⊢
 clear hgw
 cases hany : (sixB ⟨x1, y1, z1, x2, y2, z2⟩).any outW with
 | true =>
  rw [hany] at HW
  have HE1 := Lib.hid (show E = 2 by rw [HE.out]; unfold ofE; rw [if_pos hany])
  have HV0 := Lib.hid (show V = [] by rw [HV.out]; unfold ofV; rw [← HE.out, HE1.out]; rfl)
  go_wp2_with ((go_at_call 111; refine (HW.out _ _ (ints6 _ _ x1 y1 z1 x2 y2 z2)).mono ?_; rintro e w2 ⟨rfl, hb⟩; have hb := ((Below.refl _ _).alloc (Nat.le_refl _) _).trans (hb.mono (by simp)); (have s0 := cell_keep hb s0; have s1 := cell_keep hb s1; have s2 := cell_keep hb s2; have s3 := cell_keep hb s3; have s4 := cell_keep hb s4; have s5 := cell_keep hb s5; have zf := frozen_keep hb (block_lt_of_cell z0) zf; have z0 := cell_keep hb z0); have HB2 := Lib.hid (HB1.out.trans (hb.mono HB1.out.size)); clear hb))
  rw [HE1.out]
  refine bodyPost_ret (v := .tuple #[.agg #[.slice none 0 0], .int .i64 2]) ?_ ?_ ?_
  ·simp [results, Tryz.results57, go_sem, got1 z0]
  ·rfl
  ·exact ⟨none, 0, by rw [HV0.out]; rfl, by rw [HV0.out]; exact fun hn => absurd rfl hn, HB2.out.setCell HG.out _⟩
 | false =>
  rw [hany] at HW
  obtain ⟨r1, r2, r3, r4, r5, r6⟩ := HO.out hany
  have HE1 := Lib.hid (show E = if x2 ≤ x1 ∨ y2 ≤ y1 ∨ z2 ≤ z1 then 3 else 0 by rw [HE.out]; unfold ofE; rw [if_neg (by rw [hany]; simp)])
  by_cases c1 : x2 ≤ x1
  ·have HE2 := Lib.hid (show E = 3 by rw [HE1.out, if_pos (.inl c1)])
   have HV0 := Lib.hid (show V = [] by rw [HV.out]; unfold ofV; rw [← HE.out, HE2.out]; rfl)
   go_wp2_with (go_at_call 111; refine (HW.out _ _ (ints6 _ _ x1 y1 z1 x2 y2 z2)).mono ?_; rintro e w2 ⟨rfl, hb⟩; have hb := ((Below.refl _ _).alloc (Nat.le_refl _) _).trans (hb.mono (by simp)); (have s0 := cell_keep hb s0; have s1 := cell_keep hb s1; have s2 := cell_keep hb s2; have s3 := cell_keep hb s3; have s4 := cell_keep hb s4; have s5 := cell_keep hb s5; have zf := frozen_keep hb (block_lt_of_cell z0) zf; have z0 := cell_keep hb z0); have HB2 := Lib.hid (HB1.out.trans (hb.mono HB1.out.size)); clear hb)
   rw [HE2.out]
   refine bodyPost_ret (v := .tuple #[.agg #[.slice none 0 0], .int .i64 3]) ?_ ?_ ?_
   ·simp [results, Tryz.results57, go_sem, got1 z0]
   ·rfl
   ·exact ⟨none, 0, by rw [HV0.out]; rfl, by rw [HV0.out]; exact fun hn => absurd rfl hn, HB2.out.setCell HG.out _⟩
  by_cases c2 : y2 ≤ y1
  ·have HE2 := Lib.hid (show E = 3 by rw [HE1.out, if_pos (.inr (.inl c2))])
   have HV0 := Lib.hid (show V = [] by rw [HV.out]; unfold ofV; rw [← HE.out, HE2.out]; rfl)
   go_wp2_with (go_at_call 111; refine (HW.out _ _ (ints6 _ _ x1 y1 z1 x2 y2 z2)).mono ?_; rintro e w2 ⟨rfl, hb⟩; have hb := ((Below.refl _ _).alloc (Nat.le_refl _) _).trans (hb.mono (by simp)); (have s0 := cell_keep hb s0; have s1 := cell_keep hb s1; have s2 := cell_keep hb s2; have s3 := cell_keep hb s3; have s4 := cell_keep hb s4; have s5 := cell_keep hb s5; have zf := frozen_keep hb (block_lt_of_cell z0) zf; have z0 := cell_keep hb z0); have HB2 := Lib.hid (HB1.out.trans (hb.mono HB1.out.size)); clear hb)
   rw [HE2.out]
   refine bodyPost_ret (v := .tuple #[.agg #[.slice none 0 0], .int .i64 3]) ?_ ?_ ?_
   ·simp [results, Tryz.results57, go_sem, got1 z0]
   ·rfl
   ·exact ⟨none, 0, by rw [HV0.out]; rfl, by rw [HV0.out]; exact fun hn => absurd rfl hn, HB2.out.setCell HG.out _⟩
  by_cases c3 : z2 ≤ z1
  ·have HE2 := Lib.hid (show E = 3 by rw [HE1.out, if_pos (.inr (.inr c3))])
   have HV0 := Lib.hid (show V = [] by rw [HV.out]; unfold ofV; rw [← HE.out, HE2.out]; rfl)
   go_wp2_with (go_at_call 111; refine (HW.out _ _ (ints6 _ _ x1 y1 z1 x2 y2 z2)).mono ?_; rintro e w2 ⟨rfl, hb⟩; have hb := ((Below.refl _ _).alloc (Nat.le_refl _) _).trans (hb.mono (by simp)); (have s0 := cell_keep hb s0; have s1 := cell_keep hb s1; have s2 := cell_keep hb s2; have s3 := cell_keep hb s3; have s4 := cell_keep hb s4; have s5 := cell_keep hb s5; have zf := frozen_keep hb (block_lt_of_cell z0) zf; have z0 := cell_keep hb z0); have HB2 := Lib.hid (HB1.out.trans (hb.mono HB1.out.size)); clear hb)
   rw [HE2.out]
   refine bodyPost_ret (v := .tuple #[.agg #[.slice none 0 0], .int .i64 3]) ?_ ?_ ?_
   ·simp [results, Tryz.results57, go_sem, got1 z0]
   ·rfl
   ·exact ⟨none, 0, by rw [HV0.out]; rfl, by rw [HV0.out]; exact fun hn => absurd rfl hn, HB2.out.setCell HG.out _⟩
  have HE2 := Lib.hid (show E = 0 by rw [HE1.out, if_neg (by omega)])
  have hfit : (⟨x1, y1, z1, x2, y2, z2⟩ : Box6).fit := ofE_fit (by rw [← HE.out, HE2.out])
  have HV0 := Lib.hid (show V = [⟨boxP ⟨x1, y1, z1, x2, y2, z2⟩⟩] by rw [HV.out]; unfold ofV; rw [← HE.out, HE2.out]; rfl)
  have HSG := Lib.hid (fun W => ofBoxC_any ⟨x1, y1, z1, x2, y2, z2⟩ hfit W)
  have HBX := Lib.hid (show (boxP ⟨x1, y1, z1, x2, y2, z2⟩).length = 6 from rfl)
  have v1 : IntKind.i64.wrap (-x1) = -x1 := IntWalk.i64_in _ (by omega)
  have v2 : IntKind.i64.wrap (-y1) = -y1 := IntWalk.i64_in _ (by omega)
  have v3 : IntKind.i64.wrap (-z1) = -z1 := IntWalk.i64_in _ (by omega)
  have n1 : V.length = 1 := by rw [HV0.out]; rfl
  clear r1 r2 r3 r4 r5 r6
  go_wp2_with (first | (go_at_call 111; refine (HW.out _ _ (ints6 _ _ x1 y1 z1 x2 y2 z2)).mono ?_; rintro e w2 ⟨rfl, hb⟩; have hb := ((Below.refl _ _).alloc (Nat.le_refl _) _).trans (hb.mono (by simp)); (have s0 := cell_keep hb s0; have s1 := cell_keep hb s1; have s2 := cell_keep hb s2; have s3 := cell_keep hb s3; have s4 := cell_keep hb s4; have s5 := cell_keep hb s5; have zf := frozen_keep hb (block_lt_of_cell z0) zf; have z0 := cell_keep hb z0); have HB2 := Lib.hid (HB1.out.trans (hb.mono HB1.out.size)); clear hb) | (go_at_call 112; refine (HSG.out _).mono ?_; rintro e w3 ⟨sa, rfl, hpv, hb⟩; (have s0 := cell_keep hb s0; have s1 := cell_keep hb s1; have s2 := cell_keep hb s2; have s3 := cell_keep hb s3; have s4 := cell_keep hb s4; have s5 := cell_keep hb s5; have zf := frozen_keep hb (block_lt_of_cell z0) zf; have z0 := cell_keep hb z0); have hal := (Below.refl w3.heap.size w3).alloc (Nat.le_refl _) (.cells #[.slice sa 6 6] 24); have zf3 := frozen_keep hal (block_lt_of_cell z0) zf; have z3 := cell_keep hal z0; have HAL := Lib.hid hal; have HPV := Lib.hid hpv; have HB3 := Lib.hid (HB2.out.trans (hb.mono HB2.out.size)); clear hb hpv hal))
  refine bodyPost_ret (v := .tuple #[.agg #[.slice (some ⟨w3.heap.size, 0, none⟩) 1 1], .int .i64 0]) ?_ ?_ ?_
  ·simp [results, Tryz.results57, go_sem, got1 z3]
  ·rfl
  have hgl : gw + 1 < w3.heap.size := block_lt_of_cell z0
  have c0 : (w3.alloc (.cells #[.slice sa 6 6] 24)).cell? ⟨w3.heap.size, 0, none⟩ = some (.slice sa 6 6) := by simp [go_sem]
  have hp := HPV.out.keep HAL.out
  have hB := HB3.out.trans (HAL.out.mono HB3.out.size)
  have h4 : Cells.V (w3.alloc (.cells #[.slice sa 6 6] 24)) (some ⟨w3.heap.size, 0, none⟩) V := fun _ => ⟨w3.heap.size, 0, rfl, fun k x hk => by
   rw [HV0.out] at hk
   have hk0 : k = 0 := by
    cases k with
    | zero => rfl
    | succ k => simp at hk
   subst hk0
   simp at hk
   subst hk
   exact ⟨sa, 6, c0, hp, by rw [HBX.out]; decide, by decide, trivial⟩⟩
  exact ⟨some ⟨w3.heap.size, 0, none⟩, 1, by rw [HE2.out, n1], cells_set (V := []) (wa := none) (wc := 0) h4 (by rw [HV0.out]; intro x hx; rw [List.mem_singleton] at hx; subst hx; simp [boxP]) z3 (fun h => absurd rfl h) _, hB.setCell HG.out _⟩
end Go.Proofs.YtbhgkadklklmbaaGreat
