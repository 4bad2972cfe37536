/- The greatest sides of the usable rectangles of a species. The weights of all blanks, of the program. The weights of the pieces on one board add up to at most 1: plain. The greedy plan is accepted: its cuts are a tree of regions, and its pieces are those that are wanted. The greedy plan is accepted: the pieces. -/
import Derived.Test.YtpaindkfbgoogaaGreatRR
import Derived.Test.YtpaindkfbgoogaaGreatCH1
import Derived.Test.YtpaindkfbgoogaaGreatQL
import Derived.Test.YtpaindkfbgoogaaGreatPL1
import Derived.Test.YtpaindkfbgoogaaGreatQG
import Derived.OpenShut
import Derived.Test.YtpaindkfbgoogaaGreatA8
set_option linter.unusedVariables false
set_option linter.unusedSimpArgs false
namespace Go.Proofs.YtpaindkfbgoogaaGreat
open Go Go.RowKit

def roomTo (j : Job) (sp : ByteArray) : Nat → Int × Int
  | 0 => (0, 0)
  | k + 1 => if ((j.stock.getD k default).species.toList == sp.toList) = true then (max (roomTo j sp k).1 ((usableR (j.stock.getD k default) j.trim).x2 - (usableR (j.stock.getD k default) j.trim).x1), max (roomTo j sp k).2 ((usableR (j.stock.getD k default) j.trim).y2 - (usableR (j.stock.getD k default) j.trim).y1)) else roomTo j sp k
def roomM (j : Job) (sp : ByteArray) : Int × Int := roomTo j sp j.stock.length
theorem usable_rng {j : Job} (hJ : JobOk j.stock j.blanks j.trim) {b : Board} (hb : b ∈ j.stock) : (-1000000 ≤ (usableR b j.trim).x1 ∧ (usableR b j.trim).x1 ≤ 1000000) ∧ (-1000000 ≤ (usableR b j.trim).y1 ∧ (usableR b j.trim).y1 ≤ 1000000) ∧ (0 ≤ (usableR b j.trim).x2 - (usableR b j.trim).x1 ∧ (usableR b j.trim).x2 - (usableR b j.trim).x1 ≤ 600000) ∧ (0 ≤ (usableR b j.trim).y2 - (usableR b j.trim).y1 ∧ (usableR b j.trim).y2 - (usableR b j.trim).y1 ≤ 600000) := by
  have h1 := hJ.size b hb
  have h2 := hJ.trim
  unfold usableR wholeR
  split
  · simp
  · rename_i hx; simp only at hx ⊢; omega
theorem roomTo_rng {j : Job} (hJ : JobOk j.stock j.blanks j.trim) (sp : ByteArray) : ∀ k, k ≤ j.stock.length → (0 ≤ (roomTo j sp k).1 ∧ (roomTo j sp k).1 ≤ 600000) ∧ (0 ≤ (roomTo j sp k).2 ∧ (roomTo j sp k).2 ≤ 600000)
  | 0, _ => by simp [roomTo]
  | k + 1, hk => by
    have h := roomTo_rng hJ sp k (by omega)
    have hm : j.stock.getD k default ∈ j.stock := by rw [List.getD_eq_getElem?_getD, List.getElem?_eq_getElem (by omega)]; exact List.getElem_mem _
    have hu := usable_rng hJ hm
    rw [roomTo]
    split
    · simp only; omega
    · exact h
theorem roomTo_step {j : Job} {sp : ByteArray} {k : Nat} (hk : k < j.stock.length) : roomTo j sp (k + 1) = if (j.stock[k].species.toList == sp.toList) = true then (max (roomTo j sp k).1 ((usableR j.stock[k] j.trim).x2 - (usableR j.stock[k] j.trim).x1), max (roomTo j sp k).2 ((usableR j.stock[k] j.trim).y2 - (usableR j.stock[k] j.trim).y1)) else roomTo j sp k := by
  have e : j.stock.getD k default = j.stock[k] := by rw [List.getD_eq_getElem?_getD, List.getElem?_eq_getElem hk]; rfl
  rw [roomTo, e]
structure RectC (W : World) (g : Nat) (r : Rect) : Prop where
  c0 : W.cell? ⟨g, 0, none⟩ = some (.int .i64 r.x1)
  c1 : W.cell? ⟨g, 1, none⟩ = some (.int .i64 r.y1)
  c2 : W.cell? ⟨g, 2, none⟩ = some (.int .i64 r.x2)
  c3 : W.cell? ⟨g, 3, none⟩ = some (.int .i64 r.y2)
theorem RectC.keep {W W' : World} {g : Nat} {r : Rect} (h : RectC W g r) (hb : Below W.heap.size W W') : RectC W' g r := ⟨cell_keep hb h.c0, cell_keep hb h.c1, cell_keep hb h.c2, cell_keep hb h.c3⟩
set_option maxRecDepth 100000 in
set_option maxHeartbeats 4000000 in
theorem room_any (j : Job) (a1 : Option Addr) (c1 : Nat) (a2 : Option Addr) (c2 : Nat) (sp : ByteArray) (w : World) (hs : Boards.V w a1 j.stock) (hJ : JobOk j.stock j.blanks j.trim) :
    Calls Tryz.prog 26 #[.agg #[.slice a1 j.stock.length c1, .slice a2 j.blanks.length c2, .int .i64 j.trim.kerf, .int .i64 j.trim.ends, .int .i64 j.trim.sides], .string sp] w fun e w' => e = .returned (.tuple #[.int .i64 (roomM j sp).1, .int .i64 (roomM j sp).2]) ∧ Below w.heap.size w w' := by
  obtain ⟨AD, CD, hSC⟩ := stock_ch hs
  have HSC := Lib.hid hSC
  have HJ := Lib.hid hJ
  have hN := hJ.lenS
  clear hs hSC hJ
  go_enter Tryz.func26, Tryz.ntmps26
  go_upto_region 1 with fail
  refine gen_world (fun W => JB W w.heap.size j a1 c1 a2 c2 ∧ Below w.heap.size w W ∧ w.heap.size < W.heap.size) ⟨⟨by simp [go_sem], by simp [go_sem], by simp [go_sem], by simp [go_sem], by simp [go_sem]⟩, by repeat (first | (with_reducible assumption) | exact Below.refl _ _ | (refine Below.setCell ?_ (by first | omega | (simp; omega) | (simp; done)) _) | (refine Below.alloc ?_ (by first | omega | (simp; omega) | (simp; done)) _) | (refine Below.drew ?_)), by simp⟩ ?_
  rintro W ⟨hC, hbW, hz⟩
  obtain ⟨gj, hgj⟩ : ∃ g, g = w.heap.size := ⟨_, rfl⟩
  have hzj : gj < W.heap.size := by omega
  rw [← hgj] at hC ⊢
  have HC := Lib.hid hC
  have HBW := Lib.hid (show Below w.heap.size w W by rw [← hgj]; rw [← hgj] at hbW; exact hbW)
  obtain ⟨k0, k1, k2, k3, k4⟩ := hC
  clear hbW hz hgj
  go_wp2_with fail
  clear k0 k1 k2 k3 k4
  go_loopw [4, 5, 12] (fun v1 v2 iv wr => ∃ k : Nat, k ≤ j.stock.length ∧ v1 = .int .i64 (roomTo j sp k).1 ∧ v2 = .int .i64 (roomTo j sp k).2 ∧ iv = .int .i64 k ∧ Below W.heap.size W wr) (fun _ _ iv _ => j.stock.length - (intOf iv).toNat)
  case atStart => exact ⟨0, Nat.zero_le _, rfl, rfl, rfl, Below.refl _ _⟩
  case round =>
    obtain ⟨k, hk, rfl, rfl, rfl, hbr⟩ := hrel
    obtain ⟨wo, rfl⟩ : ∃ wo : World, wo = wr := ⟨_, rfl⟩
    have HBO := Lib.hid hbr
    have HCO := Lib.hid (HC.out.keep hbr hzj)
    have hbw := HBW.out.trans (hbr.mono HBW.out.size)
    have hzo : gj < wo.heap.size := Nat.lt_of_lt_of_le hzj hbr.size
    clear hbr
    by_cases hlt : k < j.stock.length
    · have hki : (k : Int) < (j.stock.length : Int) := by omega
      have v1 : IntKind.i64.wrap ((k : Int) + 1) = (k : Int) + 1 := IntWalk.i64_in _ (by omega)
      obtain ⟨⟨gs, off, has, hcb⟩, hrv, -⟩ := HSC.out.ch k _ (List.getElem?_eq_getElem hlt)
      subst has
      obtain ⟨s0, s1, s2, s3, s4, s5, s6, s7⟩ := hcb.keep hbw
      have HST := Lib.hid (roomTo_step (j := j) (sp := sp) hlt)
      have hrg := roomTo_rng HJ.out sp k hk
      have hur := usable_rng HJ.out (List.getElem_mem hlt)
      have hbd := HJ.out.size _ (List.getElem_mem hlt)
      have htr := HJ.out.trim
      generalize AD k = ad at *
      generalize CD k = cd at *
      generalize j.stock[k] = b at *
      obtain ⟨r, hr⟩ : ∃ r, usableR b j.trim = r := ⟨_, rfl⟩
      have HUS := Lib.hid (fun w9 => usable_is b j.trim r ad cd w9 hr (by omega) (by omega))
      rw [hr] at HST hur
      obtain ⟨q, hq⟩ : ∃ q, roomTo j sp k = q := ⟨_, rfl⟩
      rw [hq] at HST hrg ⊢
      obtain ⟨qa, qb⟩ := q
      simp only at HST hrg ⊢
      have v5 : IntKind.i64.wrap (r.x2 - r.x1) = r.x2 - r.x1 := IntWalk.i64_in _ (by omega)
      have v6 : IntKind.i64.wrap (r.y2 - r.y1) = r.y2 - r.y1 := IntWalk.i64_in _ (by omega)
      clear hcb hrv hq hr hbd htr hbw
      go_upto_region 4 with fail
      refine gen_world (fun W1 => CellsBd W1 wo.heap.size 0 b ad cd ∧ Below wo.heap.size wo W1) ⟨⟨by simp [go_sem], by simp [go_sem], by simp [go_sem], by simp [go_sem], by simp [go_sem], by simp [go_sem], by simp [go_sem], by simp [go_sem]⟩, by repeat (first | (with_reducible assumption) | exact Below.refl _ _ | (refine Below.setCell ?_ (by first | omega | (simp; omega) | (simp; done)) _) | (refine Below.alloc ?_ (by first | omega | (simp; omega) | (simp; done)) _) | (refine Below.drew ?_))⟩ ?_
      rintro W1 ⟨⟨d0, d1, d2, d3, d4, d5, d6, d7⟩, hb1⟩
      simp only [Nat.zero_add] at d0 d1 d2 d3 d4 d5 d6 d7
      obtain ⟨g7, hg7⟩ : ∃ g, g = wo.heap.size := ⟨_, rfl⟩
      rw [← hg7] at d0 d1 d2 d3 d4 d5 d6 d7 ⊢
      have HB1 := Lib.hid (HBO.out.trans (hb1.mono HBO.out.size))
      obtain ⟨-, -, k2, k3, k4⟩ := HCO.out.keep hb1 hzo
      clear s0 s1 s2 s3 s4 s5 s6 s7 hb1 hg7
      by_cases hsp : (b.species.toList == sp.toList) = true
      · have HS2 := Lib.hid (show roomTo j sp (k + 1) = (max qa (r.x2 - r.x1), max qb (r.y2 - r.y1)) by rw [HST.out, if_pos hsp])
        clear HST
        go_upto_region 6 with (go_at_call 53; refine (HUS.out _).mono ?_; rintro e w2 ⟨rfl, hb2⟩; have HB2 := Lib.hid (HB1.out.trans (hb2.mono HB1.out.size)); clear hb2)
        refine gen_world (fun W3 => RectC W3 w2.heap.size r ∧ Below w2.heap.size w2 W3) ⟨⟨by simp [go_sem], by simp [go_sem], by simp [go_sem], by simp [go_sem]⟩, by repeat (first | (with_reducible assumption) | exact Below.refl _ _ | (refine Below.setCell ?_ (by first | omega | (simp; omega) | (simp; done)) _) | (refine Below.alloc ?_ (by first | omega | (simp; omega) | (simp; done)) _) | (refine Below.drew ?_))⟩ ?_
        rintro W3 ⟨⟨r0, r1, r2, r3⟩, hb3⟩
        obtain ⟨g8, hg8⟩ : ∃ g, g = w2.heap.size := ⟨_, rfl⟩
        rw [← hg8] at r0 r1 r2 r3 ⊢
        have hB3 := HB2.out.trans (hb3.mono HB2.out.size)
        clear d0 d1 d2 d3 d4 d5 d6 d7 k2 k3 k4 hb3 hg8 hsp
        go_quiet (fail)
        rename_i nq
        go_wp2_with fail
        go_roundw
        case rel => exact ⟨k + 1, by omega, by rw [HS2.out], by rw [HS2.out], by go_num, below_drewN hB3 nq⟩
        case measure => first | (simp [intOf]; done) | (simp [intOf]; omega)
      · have hsp2 : (b.species.toList == sp.toList) = false := by simpa using hsp
        have HS2 := Lib.hid (show roomTo j sp (k + 1) = (qa, qb) by rw [HST.out, if_neg hsp])
        clear HST hsp
        go_wp2_with fail
        go_roundw
        case rel => exact ⟨k + 1, by omega, by rw [HS2.out], by rw [HS2.out], by go_num, HB1.out⟩
        case measure => first | (simp [intOf]; done) | (simp [intOf]; omega)
    · obtain rfl : k = j.stock.length := by omega
      have hki : ¬ ((j.stock.length : Nat) : Int) < ((j.stock.length : Nat) : Int) := by omega
      go_wp2_with fail
      refine bodyPost_ret (v := .tuple #[.int .i64 (roomTo j sp j.stock.length).1, .int .i64 (roomTo j sp j.stock.length).2]) (by simp [results, Tryz.results26, go_sem]) rfl ?_
      exact ⟨rfl, hbw⟩
end Go.Proofs.YtpaindkfbgoogaaGreat

set_option linter.unusedVariables false
set_option linter.unusedSimpArgs false
namespace Go.Proofs.YtpaindkfbgoogaaGreat
open Go Go.RowKit

def lowP (n d : Nat) : Nat := n / Nat.gcd n d
def lowQ (n d : Nat) : Nat := d / Nat.gcd n d
structure Fr where
  num : Int
  den : Int
def wuN (k a d : Nat) : Nat := lowP (wtN k a d) (wtD k a d)
def wuD (k a d : Nat) : Nat := lowQ (wtN k a d) (wtD k a d)
theorem wu_bds {k num den : Nat} (hk : k ≤ 20) (h1 : 1 ≤ den) (h2 : den ≤ 1000000) (h3 : num ≤ den) : wuN k num den ≤ 1000000 ∧ 1 ≤ wuD k num den ∧ wuD k num den ≤ 1000000 := by
  obtain ⟨q1, q2, q3⟩ := wt_bds hk h1 h2 h3
  obtain ⟨g1, g2⟩ := gcd_bds (n := wtN k num den) (d := wtD k num den) q2
  unfold wuN wuD lowP lowQ
  refine ⟨Nat.le_trans (Nat.div_le_self _ _) (by omega), Nat.div_pos g2 g1, Nat.le_trans (Nat.div_le_self _ _) q3⟩
/-- A blank's sides and those of its room, with a kerf. -/
def szA (j : Job) (x : Blank) : Nat := (x.length + j.trim.kerf).toNat
def szB (j : Job) (x : Blank) : Nat := (x.width + j.trim.kerf).toNat
def rmA (j : Job) (x : Blank) : Nat := ((roomM j x.species).1 + j.trim.kerf).toNat
def rmB (j : Job) (x : Blank) : Nat := ((roomM j x.species).2 + j.trim.kerf).toNat
def wfN (j : Job) (k0 k1 : Nat) (x : Blank) : Nat := wuN k0 (szA j x) (rmA j x) * wuN k1 (szB j x) (rmB j x)
def wfD (j : Job) (k0 k1 : Nat) (x : Blank) : Nat := wuD k0 (szA j x) (rmA j x) * wuD k1 (szB j x) (rmB j x)
def wfr (j : Job) (k0 k1 : Nat) (x : Blank) : Fr := ⟨lowNum (wfN j k0 k1 x) (wfD j k0 k1 x), lowDen (wfN j k0 k1 x) (wfD j k0 k1 x)⟩
def fitsP (j : Job) (x : Blank) : Prop := x.length ≤ (roomM j x.species).1 ∧ x.width ≤ (roomM j x.species).2
instance (j : Job) (x : Blank) : Decidable (fitsP j x) := by unfold fitsP; infer_instance
def weightsE (j : Job) (k0 k1 : Int) : Int := if jobE j ≠ 0 then jobE j else if ¬ ((0 ≤ k0 ∧ k0 ≤ 20) ∧ (0 ≤ k1 ∧ k1 ≤ 20)) then 2 else if (∀ x ∈ j.blanks, fitsP j x) then 0 else 12
theorem weightsE_job {j : Job} {k0 k1 E : Int} (h : jobE j = E) (hE : ¬ E = 0) : weightsE j k0 k1 = E := by unfold weightsE; rw [if_pos (by rw [h]; exact hE), h]
theorem weightsE_rng {j : Job} {k0 k1 : Int} (h : jobE j = 0) (hk : ¬ ((0 ≤ k0 ∧ k0 ≤ 20) ∧ (0 ≤ k1 ∧ k1 ≤ 20))) : weightsE j k0 k1 = 2 := by unfold weightsE; rw [if_neg (by rw [h]; simp), if_pos hk]
theorem weightsE_ok {j : Job} {k0 k1 : Int} (h : jobE j = 0) (hk : (0 ≤ k0 ∧ k0 ≤ 20) ∧ (0 ≤ k1 ∧ k1 ≤ 20)) : weightsE j k0 k1 = if (∀ x ∈ j.blanks, fitsP j x) then 0 else 12 := by unfold weightsE; rw [if_neg (by rw [h]; simp), if_neg (by simp only [Classical.not_not]; exact hk)]

def cellsFr (x : Fr) : List Value := [.int .i64 x.num, .int .i64 x.den]
theorem cellsFr_len (x : Fr) : (cellsFr x).length = 2 := rfl
theorem cellsFr_one (x : Fr) : ∀ u ∈ cellsFr x, u.oneCell' = true := by
  intro u hu
  simp only [cellsFr, List.mem_cons, List.not_mem_nil, or_false] at hu
  rcases hu with rfl | rfl <;> rfl
def Fr.at (w : World) (b o : Nat) (x : Fr) : Prop := w.cell? ⟨b, o, none⟩ = some (.int .i64 x.num) ∧ w.cell? ⟨b, o + 1, none⟩ = some (.int .i64 x.den)
def Frs.V (w : World) (a : Option Addr) (l : List Fr) : Prop := RowV 2 Fr.at w a l
theorem Frs.V.keep {w w' : World} {a : Option Addr} {l : List Fr} (h : Frs.V w a l) (hb : Below w.heap.size w w') : Frs.V w' a l := RowV.keep (fun _ _ _ h => ⟨cell_keep hb h.1, cell_keep hb h.2⟩) h
theorem own_frs {w : World} {base e n c : Nat} {a : Option Addr} {l : List Fr} (h : w.ownsRow base e 2 (.slice a n c) n (l.flatMap cellsFr)) : Frs.V w a l :=
  own_rowV cellsFr_len (by decide) (fun b o x _ hx => ⟨hx 0 _ rfl, hx 1 _ rfl⟩) h
theorem frac_info : (Tryz.prog.info? 50).map (fun i => (i.zero, i.size, i.bytes)) = some (some (.agg #[.int .i64 0, .int .i64 0]), 2, 16) := by kernel_rfl
/-- A fraction's box, still zero. -/
structure FrZ (W : World) (g : Nat) : Prop where
  cells : W.cell? ⟨g, 0, none⟩ = some (.int .i64 0) ∧ W.cell? ⟨g, 1, none⟩ = some (.int .i64 0)
  f0 : W.frozen? ⟨g, 0, none⟩ = false
  f1 : W.frozen? ⟨g, 1, none⟩ = false
theorem FrZ.lt {W : World} {g : Nat} (h : FrZ W g) : g < W.heap.size := by have := block_lt_of_cell h.cells.1; simpa using this
theorem FrZ.keep {W W' : World} {g : Nat} (h : FrZ W g) (hb : Below W.heap.size W W') : FrZ W' g := ⟨⟨cell_keep hb h.cells.1, cell_keep hb h.cells.2⟩, frozen_keep hb h.lt h.f0, frozen_keep hb h.lt h.f1⟩
def FrC (W : World) (g : Nat) (u v : Value) : Prop := W.cell? ⟨g, 0, none⟩ = some u ∧ W.cell? ⟨g, 1, none⟩ = some v
theorem two_set {W : World} {g h : Nat} {u0 u1 v0 v1 x0 x1 y0 y1 : Value} (a0 : W.cell? ⟨g, 0, none⟩ = some x0) (a1 : W.cell? ⟨g, 1, none⟩ = some x1) (b0 : W.cell? ⟨h, 0, none⟩ = some y0) (b1 : W.cell? ⟨h, 1, none⟩ = some y1) (hne : g ≠ h) :
    FrC ((((W.setCell ⟨g, 0, none⟩ u0).setCell ⟨g, 1, none⟩ u1).setCell ⟨h, 0, none⟩ v0).setCell ⟨h, 1, none⟩ v1) g u0 u1 ∧ FrC ((((W.setCell ⟨g, 0, none⟩ u0).setCell ⟨g, 1, none⟩ u1).setCell ⟨h, 0, none⟩ v0).setCell ⟨h, 1, none⟩ v1) h v0 v1 := by
  have hs : ∀ {W : World} {p q : Addr} {u v : Value}, W.cell? q = some v → (W.setCell p u).cell? q = some (if p = q then u else v) := fun {W p q u v} h => by
    by_cases e : p = q
    · subst e; rw [if_pos rfl]; exact World.cell?_setCell_same _ _ _ h
    · rw [if_neg e, World.cell?_setCell_other (h := e)]; exact h
  have k : ∀ {q : Addr} {x : Value}, W.cell? q = some x → ((((W.setCell ⟨g, 0, none⟩ u0).setCell ⟨g, 1, none⟩ u1).setCell ⟨h, 0, none⟩ v0).setCell ⟨h, 1, none⟩ v1).cell? q = _ := fun hq => hs (hs (hs (hs hq)))
  refine ⟨⟨(k a0).trans ?_, (k a1).trans ?_⟩, (k b0).trans ?_, (k b1).trans ?_⟩ <;> simp [hne, hne.symm]
def WCut (W0 : World) (u0 u1 v0 v1 : Value) (u : Nat → Value) (W : World) : Prop := ∃ g5 g6 : Nat, u 13 = .pointer (some ⟨g5, 0, none⟩) ∧ u 14 = .pointer (some ⟨g6, 0, none⟩) ∧ (FrC W g5 u0 u1 ∧ FrC W g6 v0 v1) ∧ Below W0.heap.size W0 W
theorem WCut.mk {W0 W : World} {g5 g6 : Nat} {u0 u1 v0 v1 : Value} {u : Nat → Value} (h1 : u 13 = .pointer (some ⟨g5, 0, none⟩)) (h2 : u 14 = .pointer (some ⟨g6, 0, none⟩)) (h3 : FrC W g5 u0 u1 ∧ FrC W g6 v0 v1) (h5 : Below W0.heap.size W0 W) : WCut W0 u0 u1 v0 v1 u W := ⟨g5, g6, h1, h2, h3, h5⟩
def WeightsPost (w : World) (l : List Fr) (E : Int) (e : Ending) (w' : World) : Prop :=
  ∃ (a : Option Addr) (n c : Nat), e = .returned (.tuple #[.slice a n c, .int .i64 E]) ∧ Below w.heap.size w w' ∧ (E ≠ 0 → a = none ∧ n = 0 ∧ c = 0) ∧ (E = 0 → n = l.length ∧ Frs.V w' a l)

set_option maxRecDepth 100000 in
set_option maxHeartbeats 16000000 in
theorem weightsP_any (j : Job) (a1 : Option Addr) (c1 : Nat) (a2 : Option Addr) (c2 : Nat) (k0 k1 : Int) (w : World) (hs : Boards.V w a1 j.stock) (hsl : j.stock.length ≤ 9223372036854775807) (hb : Blanks.V w a2 j.blanks) (hbl : j.blanks.length ≤ 9223372036854775807) :
    Calls Tryz.prog 7 #[.agg #[.slice a1 j.stock.length c1, .slice a2 j.blanks.length c2, .int .i64 j.trim.kerf, .int .i64 j.trim.ends, .int .i64 j.trim.sides], .agg #[.int .i64 k0, .int .i64 k1]] w (WeightsPost w (j.blanks.map (wfr j k0.toNat k1.toNat)) (weightsE j k0 k1)) := by
  have HSV := Lib.hid hs
  have HBV := Lib.hid hb
  obtain ⟨i0, hi0, hz0, hz1, hz2⟩ := info_parts frac_info
  obtain ⟨EJ, hEJ⟩ : ∃ E, jobE j = E := ⟨_, rfl⟩
  have HEJ := Lib.hid hEJ
  clear hs hb hEJ
  go_enter Tryz.func7, Tryz.ntmps7
  go_upto_region 1 with fail
  refine gen_world (fun W => JB W w.heap.size j a1 c1 a2 c2 ∧ (W.cell? ⟨w.heap.size + 1, 0, none⟩ = some (.int .i64 k0) ∧ W.cell? ⟨w.heap.size + 1, 1, none⟩ = some (.int .i64 k1)) ∧ Below w.heap.size w W ∧ w.heap.size + 1 < W.heap.size) ⟨⟨by simp [go_sem], by simp [go_sem], by simp [go_sem], by simp [go_sem], by simp [go_sem]⟩, ⟨by simp [go_sem], by simp [go_sem]⟩, by repeat (first | (with_reducible assumption) | exact Below.refl _ _ | (refine Below.setCell ?_ (by first | omega | (simp; omega) | (simp; done)) _) | (refine Below.alloc ?_ (by first | omega | (simp; omega) | (simp; done)) _) | (refine Below.drew ?_)), by simp⟩ ?_
  rintro W ⟨hC, ⟨y0, y1⟩, hbW, hz⟩
  obtain ⟨gj, hgj⟩ : ∃ g, g = w.heap.size := ⟨_, rfl⟩
  obtain ⟨gk, hgk⟩ : ∃ g, g = w.heap.size + 1 := ⟨_, rfl⟩
  rw [← hgk] at y0 y1 hz
  rw [← hgj] at hC
  rw [← hgk, ← hgj]
  have hzj : gj < W.heap.size := by omega
  have HC := Lib.hid hC
  have HBW := Lib.hid hbW
  have HY := Lib.hid (And.intro y0 y1)
  obtain ⟨q0, q1, q2, q3, q4⟩ := hC
  clear hbW hgj hgk y0 y1
  go_upto_region 2 with (go_at_call 24; refine (checkJobP_any j a1 c1 a2 c2 _ (HSV.out.keep HBW.out) hsl (HBV.out.keep HBW.out) hbl).mono ?_; rw [HEJ.out]; rintro e w1 ⟨rfl, hb1⟩; have HB1 := Lib.hid hb1; clear hb1)
  have HC1 := Lib.hid (HC.out.keep HB1.out hzj)
  have HBW1 := Lib.hid (HBW.out.trans (HB1.out.mono HBW.out.size))
  have hzj1 := Nat.lt_of_lt_of_le hzj HB1.out.size
  have y0 := cell_keep HB1.out HY.out.1
  have y1 := cell_keep HB1.out HY.out.2
  clear q0 q1 q2 q3 q4 HC HBW HY hz
  by_cases hE : EJ = 0
  · subst hE
    have HJ := Lib.hid (jobOk_of HEJ.out)
    have hNB := HJ.out.lenB
    have htr := HJ.out.trim.1
    obtain ⟨q0, q1, q2, q3, q4⟩ := HC1.out
    by_cases hk0 : 0 ≤ k0 ∧ k0 ≤ 20
    · by_cases hk1 : 0 ≤ k1 ∧ k1 ≤ 20
      · have HW1 := Lib.hid (withinB_in hk0)
        have HW2 := Lib.hid (withinB_in hk1)
        have HWE := Lib.hid (weightsE_ok HEJ.out (And.intro hk0 hk1))
        obtain ⟨n0, hn0⟩ : ∃ n : Nat, k0 = n := ⟨k0.toNat, by omega⟩
        obtain ⟨n1, hn1⟩ : ∃ n : Nat, k1 = n := ⟨k1.toNat, by omega⟩
        subst hn0 hn1
        simp only [Int.toNat_natCast] at HWE ⊢
        have hn0 : n0 ≤ 20 := by omega
        have hn1 : n1 ≤ 20 := by omega
        have HY1 := Lib.hid (And.intro y0 y1)
        clear hk0 hk1
        go_upto_region 6 with (go_at_call 25; refine (cwithin_any _ _ _ _).mono ?_; rintro e w' ⟨rfl, rfl⟩; (first | rw [HW1.out] | rw [HW2.out]))
        clear y0 y1
        go_wp2_with fail
        clear q0 q1 q2 q3 q4
        go_loopw [8, 36] (fun v iv wr => ∃ k : Nat, k ≤ j.blanks.length ∧ iv = .int .i64 k ∧ Hid (wr.ownsRow w1.heap.size 50 2 v k (((j.blanks.take k).map (wfr j n0 n1)).flatMap cellsFr)) ∧ Hid (∀ x ∈ j.blanks.take k, fitsP j x) ∧ Below w1.heap.size w1 wr) (fun _ iv _ => j.blanks.length - (intOf iv).toNat)
        case atStart => exact ⟨0, Nat.zero_le _, rfl, Lib.hid (World.ownsRow_nil _ _ _ _), Lib.hid (fun x hx => by simp at hx), Below.refl _ _⟩
        case round =>
          obtain ⟨k, hk, rfl, HOW, HFI, hbr⟩ := hrel
          obtain ⟨av, cv, rfl, -, -⟩ := own_slice HOW.out
          obtain ⟨wo, rfl⟩ : ∃ wo : World, wo = wr := ⟨_, rfl⟩
          have HBO := Lib.hid hbr
          have HCO := Lib.hid (HC1.out.keep hbr hzj1)
          have HBB := Lib.hid (HBW1.out.trans (hbr.mono HBW1.out.size))
          have hzo := Nat.lt_of_lt_of_le hzj1 hbr.size
          have HYO := Lib.hid (And.intro (cell_keep hbr HY1.out.1) (cell_keep hbr HY1.out.2))
          clear hbr
          by_cases hlt : k < j.blanks.length
          · have hki : (k : Int) < (j.blanks.length : Int) := by omega
            have v1 : IntKind.i64.wrap ((k : Int) + 1) = (k : Int) + 1 := IntWalk.i64_in _ (by omega)
            obtain ⟨gl, off', hal, hcl⟩ := blank_row (HBV.out.keep HBB.out) hlt
            have HTK := Lib.hid (show j.blanks.take (k + 1) = j.blanks.take k ++ [j.blanks[k]] from List.take_succ_eq_append_getElem hlt)
            have HMEM := Lib.hid (List.getElem_mem hlt)
            have hwant := HJ.out.want _ (List.getElem_mem hlt)
            subst hal
            obtain ⟨t0, t1, t2, t3, t4, t5⟩ := hcl
            obtain ⟨q0, q1, q2, q3, q4⟩ := HCO.out
            obtain ⟨x, hx⟩ : ∃ x, j.blanks[k] = x := ⟨_, rfl⟩
            rw [hx] at t0 t1 t2 t3 t4 t5 HTK HMEM hwant
            clear hx
            have hrg := roomTo_rng HJ.out x.species j.stock.length (Nat.le_refl _)
            have HRM := Lib.hid (fun w9 hs => room_any j a1 c1 (some ⟨gl, off', none⟩) c2 x.species w9 hs HJ.out)
            have HFP := Lib.hid (show fitsP j x ↔ x.length ≤ (roomM j x.species).1 ∧ x.width ≤ (roomM j x.species).2 from Iff.rfl)
            have HRA := Lib.hid (show rmA j x = ((roomM j x.species).1 + j.trim.kerf).toNat ∧ rmB j x = ((roomM j x.species).2 + j.trim.kerf).toNat from ⟨rfl, rfl⟩)
            have hrg : (0 ≤ (roomM j x.species).1 ∧ (roomM j x.species).1 ≤ 600000) ∧ (0 ≤ (roomM j x.species).2 ∧ (roomM j x.species).2 ≤ 600000) := hrg
            obtain ⟨q, hq⟩ : ∃ q, roomM j x.species = q := ⟨_, rfl⟩
            rw [hq] at HRM HFP HRA hrg
            obtain ⟨la, lb⟩ := q
            simp only at HRM HFP HRA hrg
            clear hq
            go_upto_region 11 with fail
            refine gen_world (fun W1 => CellsB W1 wo.heap.size 0 x ∧ Below wo.heap.size wo W1) ⟨⟨by simp [go_sem], by simp [go_sem], by simp [go_sem], by simp [go_sem], by simp [go_sem], by simp [go_sem]⟩, by repeat (first | (with_reducible assumption) | exact Below.refl _ _ | (refine Below.setCell ?_ (by first | omega | (simp; omega) | (simp; done)) _) | (refine Below.alloc ?_ (by first | omega | (simp; omega) | (simp; done)) _) | (refine Below.drew ?_))⟩ ?_
            rintro W1 ⟨hcx, hb1⟩
            obtain ⟨g10, hg10⟩ : ∃ g, g = wo.heap.size := ⟨_, rfl⟩
            rw [← hg10] at hcx ⊢
            have HB1' := Lib.hid (HBB.out.trans (hb1.mono HBB.out.size))
            have HBx := Lib.hid hb1
            have HCX := Lib.hid hcx
            have HCO1 := Lib.hid (HCO.out.keep hb1 hzo)
            obtain ⟨d0, d1, d2, d3, d4, d5⟩ := hcx
            simp only [Nat.zero_add] at d0 d1 d2 d3 d4 d5
            clear t0 t1 t2 t3 t4 t5 hb1 hg10 q0 q1 q2 q3 q4
            obtain ⟨q0, q1, q2, q3, q4⟩ := HCO1.out
            go_upto_region 12 with (go_at_call 26; refine (HRM.out _ (HSV.out.keep HB1'.out)).mono ?_; rintro e w2 ⟨rfl, hb2⟩; have HB2 := Lib.hid (HBx.out.trans (hb2.mono HBx.out.size)); have HCX2 := Lib.hid (HCX.out.keep2 hb2); clear hb2)
            clear d0 d1 d2 d3 d4 d5 q0 q1 q2 q3 q4
            obtain ⟨d0, d1, d2, d3, d4, d5⟩ := HCX2.out
            simp only [Nat.zero_add] at d0 d1 d2 d3 d4 d5
            have HB2W := Lib.hid (HBO.out.trans (HB2.out.mono HBO.out.size))
            by_cases hf0 : x.length > la
            · have HE := Lib.hid (show weightsE j (n0 : Int) (n1 : Int) = 12 by rw [HWE.out, if_neg (fun h => by have := (HFP.out.1 (h x HMEM.out)).1; omega)])
              go_wp2_with fail
              refine bodyPost_ret (v := .tuple #[.slice none 0 0, .int .i64 12]) (by simp [results, Tryz.results7, go_sem]) rfl ?_
              exact ⟨none, 0, 0, by rw [HE.out], HBW1.out.trans (HB2W.out.mono HBW1.out.size), fun _ => ⟨rfl, rfl, rfl⟩, fun h => by rw [HE.out] at h; cases h⟩
            by_cases hf1 : x.width > lb
            · have HE := Lib.hid (show weightsE j (n0 : Int) (n1 : Int) = 12 by rw [HWE.out, if_neg (fun h => by have := (HFP.out.1 (h x HMEM.out)).2; omega)])
              go_wp2_with fail
              refine bodyPost_ret (v := .tuple #[.slice none 0 0, .int .i64 12]) (by simp [results, Tryz.results7, go_sem]) rfl ?_
              exact ⟨none, 0, 0, by rw [HE.out], HBW1.out.trans (HB2W.out.mono HBW1.out.size), fun _ => ⟨rfl, rfl, rfl⟩, fun h => by rw [HE.out] at h; cases h⟩
            have HFX := Lib.hid (HFP.out.2 ⟨by omega, by omega⟩)
            obtain ⟨A, hA⟩ : ∃ A, szA j x = A := ⟨_, rfl⟩
            obtain ⟨B, hB⟩ : ∃ B, szB j x = B := ⟨_, rfl⟩
            obtain ⟨D, hD⟩ : ∃ D, rmA j x = D := ⟨_, rfl⟩
            obtain ⟨G, hG⟩ : ∃ G, rmB j x = G := ⟨_, rfl⟩
            have eA : (A : Int) = x.length + j.trim.kerf := by rw [← hA]; unfold szA; omega
            have eB : (B : Int) = x.width + j.trim.kerf := by rw [← hB]; unfold szB; omega
            have eD : (D : Int) = la + j.trim.kerf := by rw [← hD, HRA.out.1]; omega
            have eG : (G : Int) = lb + j.trim.kerf := by rw [← hG, HRA.out.2]; omega
            have HWA := Lib.hid (fun w9 => cweight_any n0 A D w9 hn0 (by omega) (by omega) (by omega))
            have HWB := Lib.hid (fun w9 => cweight_any n1 B G w9 hn1 (by omega) (by omega) (by omega))
            obtain ⟨ua, ub, uc⟩ := wu_bds (k := n0) (num := A) (den := D) hn0 (by omega) (by omega) (by omega)
            obtain ⟨va, vb, vc⟩ := wu_bds (k := n1) (num := B) (den := G) hn1 (by omega) (by omega) (by omega)
            have HFR := Lib.hid (show wfr j n0 n1 x = ⟨lowNum (wuN n0 A D * wuN n1 B G) (wuD n0 A D * wuD n1 B G), lowDen (wuN n0 A D * wuN n1 B G) (wuD n0 A D * wuD n1 B G)⟩ by unfold wfr wfN wfD; rw [hA, hB, hD, hG])
            have v5 : IntKind.i64.wrap (x.length + j.trim.kerf) = (A : Int) := by rw [eA]; exact IntWalk.i64_in _ (by omega)
            have v6 : IntKind.i64.wrap (x.width + j.trim.kerf) = (B : Int) := by rw [eB]; exact IntWalk.i64_in _ (by omega)
            have v7 : IntKind.i64.wrap (la + j.trim.kerf) = (D : Int) := by rw [eD]; exact IntWalk.i64_in _ (by omega)
            have v8 : IntKind.i64.wrap (lb + j.trim.kerf) = (G : Int) := by rw [eG]; exact IntWalk.i64_in _ (by omega)
            have hwn : wNum n0 A D = ((wuN n0 A D : Nat) : Int) ∧ wDen n0 A D = ((wuD n0 A D : Nat) : Int) ∧ wNum n1 B G = ((wuN n1 B G : Nat) : Int) ∧ wDen n1 B G = ((wuD n1 B G : Nat) : Int) := ⟨rfl, rfl, rfl, rfl⟩
            rw [hwn.1, hwn.2.1] at HWA
            rw [hwn.2.2.1, hwn.2.2.2] at HWB
            clear hwn eA eB eD eG hA hB hD hG
            generalize wuN n0 A D = un at *
            generalize wuD n0 A D = ud at *
            generalize wuN n1 B G = vn at *
            generalize wuD n1 B G = vd at *
            have HFX2 := HFX
            have y0 := cell_keep HB2.out HYO.out.1
            have y1 := cell_keep HB2.out HYO.out.2
            obtain ⟨W0, hW0⟩ : ∃ W0, W0 = w2 := ⟨_, rfl⟩
            have hmix : Tryz.prog.follows .mixedOrders = true := by kernel_rfl
            go_upto_region 14 with fail
            rw [← hW0]
            rw [← hW0] at d0 d1 d2 d3 d4 d5 y0 y1
            refine wp_cut_slots [13, 14, 57, 58, 59, 60, 61, 62, 63, 64, 65, 66, 67, 68, 69, 70, 71, 72, 73, 74, 75, 76] (WCut W0 (.int .i64 un) (.int .i64 ud) (.int .i64 vn) (.int .i64 vd)) ?_ ?_
            · have kx0 : ∀ y : KW (fun W' => Below W0.heap.size W0 W'), (y.w.cell? ⟨gk, 0, none⟩ = some (.int .i64 n0) ∧ y.w.cell? ⟨gk, 1, none⟩ = some (.int .i64 n1)) ∧ y.w.cell? ⟨g10, 2, none⟩ = some (.int .i64 x.length) ∧ y.w.cell? ⟨g10, 3, none⟩ = some (.int .i64 x.width) := fun y => ⟨⟨cell_keep y.ok y0, cell_keep y.ok y1⟩, cell_keep y.ok d2, cell_keep y.ok d3⟩
              clear d0 d1 d2 d3 d4 d5 y0 y1 hW0
              haveI n1' : Nonempty (KW (fun W' => Below W0.heap.size W0 W')) := ⟨⟨W0, Below.refl _ _⟩⟩
              refine wp_region_tree (fun w' => ∃ y : KW (fun W' => Below W0.heap.size W0 W'), w' = y.w) 22 (.take 0 (.take 1 (.take 2 (.take 3 (.take 4 (.take 5 (.take 6 (.take 7 (.take 8 (.take 10 (.take 11 (.take 12 (.take 13 (.take 14 (.take 15 (.take 16 (.take 17 (.take 18 (.three 9 (.three 19 (.two 20 (.one 21 .done) 21 (.one 20 .done)) 20 (.two 19 (.one 21 .done) 21 (.one 19 .done)) 21 (.two 19 (.one 20 .done) 20 (.one 19 .done))) 20 (.two 9 (.two 19 (.one 21 .done) 21 (.one 19 .done)) 21 (.one 9 (.one 19 .done))) 21 (.two 9 (.two 19 (.one 20 .done) 20 (.one 19 .done)) 20 (.one 9 (.one 19 .done)))))))))))))))))))))) hmix (by kernel_rfl) (KW.mk' (Below.refl _ _).drew) ?_
              have hB0 : Below W0.heap.size W0 W0.drew := (Below.refl _ _).drew
              generalize W0.drew = w0 at *
              have HB0 := Lib.hid hB0
              clear hB0
              repeat (refine wpTree_take ?_; simp only [nthOp]; (first | go_big_quiet_step (fail) | quiet_step (fail)); refine wpQuiet_nil ?_)
              refine wpTree_three ?_ ?_ ?_
              · simp only [nthOp]
                go_wp2_with (go_at_call 27; refine (HWA.out _).mono ?_; rintro e w1 ⟨rfl, hb⟩; have HB1 := Lib.hid (HB0.out.trans (hb.mono HB0.out.size)); clear hb)
                refine One_mk (KW.mk' HB1.out) ?_
                refine wpTree_three ?_ ?_ ?_
                · simp only [nthOp]
                  go_wp2_with (go_at_call 27; refine (HWB.out _).mono ?_; rintro e w2 ⟨rfl, hb⟩; have HB2 := Lib.hid (HB1.out.trans (hb.mono HB1.out.size)); clear hb)
                  refine One_mk (KW.mk' HB2.out) ?_
                  refine wpTree_two ?_ ?_
                  · simp only [nthOp]
                    go_wp2_with fail
                    refine One_mk (KW.mk' (HB2.out.alloc HB2.out.size _)) ?_
                    refine gen_any (G := fun W' => wpTree _ _ _ _ _ _ _ W') (fun W' => FrZ W' w2.heap.size ∧ Below w2.heap.size w2 W' ∧ w2.heap.size < W'.heap.size) ⟨⟨⟨by simp [go_sem], by simp [go_sem]⟩, by simp [go_sem], by simp [go_sem]⟩, (Below.refl _ _).alloc (Nat.le_refl _) _, by simp⟩ ?_
                    rintro w3 ⟨hz, hb, hs⟩
                    obtain ⟨g13, hg⟩ : ∃ g, g = w2.heap.size := ⟨_, rfl⟩
                    rw [← hg] at hz hs ⊢
                    have hg13 : W0.heap.size ≤ g13 := by have := HB2.out.size; omega
                    have HZ133 := Lib.hid hz
                    have HB3 := Lib.hid (HB2.out.trans (hb.mono HB2.out.size))
                    clear hz hb hs hg
                    refine wpTree_one ?_
                    simp only [nthOp]
                    go_wp2_with fail
                    refine One_mk (KW.mk' (HB3.out.alloc HB3.out.size _)) ?_
                    refine gen_any (G := fun W' => wpTree _ _ _ _ _ _ _ W') (fun W' => FrZ W' w3.heap.size ∧ Below w3.heap.size w3 W' ∧ w3.heap.size < W'.heap.size) ⟨⟨⟨by simp [go_sem], by simp [go_sem]⟩, by simp [go_sem], by simp [go_sem]⟩, (Below.refl _ _).alloc (Nat.le_refl _) _, by simp⟩ ?_
                    rintro w4 ⟨hz, hb, hs⟩
                    obtain ⟨g14, hg⟩ : ∃ g, g = w3.heap.size := ⟨_, rfl⟩
                    rw [← hg] at hz hs ⊢
                    have hg14 : W0.heap.size ≤ g14 := by have := HB3.out.size; omega
                    have HZ144 := Lib.hid hz
                    have hne : g13 < g14 := by have := HZ133.out.lt; omega
                    have HZ134 := Lib.hid (HZ133.out.keep hb)
                    have HB4 := Lib.hid (HB3.out.trans (hb.mono HB3.out.size))
                    clear hz hb hs hg
                    refine wpTree_done ?_
                    simp only [List.drop_succ_cons, List.drop_zero]
                    obtain ⟨⟨z130, z131⟩, f130, f131⟩ := HZ134.out
                    obtain ⟨⟨z140, z141⟩, f140, f141⟩ := HZ144.out
                    go_wp2_with fail
                    refine NP_mk ?_
                    exact cut_meet (by simp [forget]) (WCut.mk (g5 := g13) (g6 := g14) rfl rfl (two_set z130 z131 z140 z141 (by omega)) ((((HB4.out.setCell hg13 _).setCell hg13 _).setCell hg14 _).setCell hg14 _))
                  · simp only [nthOp]
                    go_wp2_with fail
                    refine One_mk (KW.mk' (HB2.out.alloc HB2.out.size _)) ?_
                    refine gen_any (G := fun W' => wpTree _ _ _ _ _ _ _ W') (fun W' => FrZ W' w2.heap.size ∧ Below w2.heap.size w2 W' ∧ w2.heap.size < W'.heap.size) ⟨⟨⟨by simp [go_sem], by simp [go_sem]⟩, by simp [go_sem], by simp [go_sem]⟩, (Below.refl _ _).alloc (Nat.le_refl _) _, by simp⟩ ?_
                    rintro w3 ⟨hz, hb, hs⟩
                    obtain ⟨g14, hg⟩ : ∃ g, g = w2.heap.size := ⟨_, rfl⟩
                    rw [← hg] at hz hs ⊢
                    have hg14 : W0.heap.size ≤ g14 := by have := HB2.out.size; omega
                    have HZ143 := Lib.hid hz
                    have HB3 := Lib.hid (HB2.out.trans (hb.mono HB2.out.size))
                    clear hz hb hs hg
                    refine wpTree_one ?_
                    simp only [nthOp]
                    go_wp2_with fail
                    refine One_mk (KW.mk' (HB3.out.alloc HB3.out.size _)) ?_
                    refine gen_any (G := fun W' => wpTree _ _ _ _ _ _ _ W') (fun W' => FrZ W' w3.heap.size ∧ Below w3.heap.size w3 W' ∧ w3.heap.size < W'.heap.size) ⟨⟨⟨by simp [go_sem], by simp [go_sem]⟩, by simp [go_sem], by simp [go_sem]⟩, (Below.refl _ _).alloc (Nat.le_refl _) _, by simp⟩ ?_
                    rintro w4 ⟨hz, hb, hs⟩
                    obtain ⟨g13, hg⟩ : ∃ g, g = w3.heap.size := ⟨_, rfl⟩
                    rw [← hg] at hz hs ⊢
                    have hg13 : W0.heap.size ≤ g13 := by have := HB3.out.size; omega
                    have HZ134 := Lib.hid hz
                    have hne : g14 < g13 := by have := HZ143.out.lt; omega
                    have HZ144 := Lib.hid (HZ143.out.keep hb)
                    have HB4 := Lib.hid (HB3.out.trans (hb.mono HB3.out.size))
                    clear hz hb hs hg
                    refine wpTree_done ?_
                    simp only [List.drop_succ_cons, List.drop_zero]
                    obtain ⟨⟨z130, z131⟩, f130, f131⟩ := HZ134.out
                    obtain ⟨⟨z140, z141⟩, f140, f141⟩ := HZ144.out
                    go_wp2_with fail
                    refine NP_mk ?_
                    exact cut_meet (by simp [forget]) (WCut.mk (g5 := g13) (g6 := g14) rfl rfl (two_set z130 z131 z140 z141 (by omega)) ((((HB4.out.setCell hg13 _).setCell hg13 _).setCell hg14 _).setCell hg14 _))
                · simp only [nthOp]
                  go_wp2_with fail
                  refine One_mk (KW.mk' (HB1.out.alloc HB1.out.size _)) ?_
                  refine gen_any (G := fun W' => wpTree _ _ _ _ _ _ _ W') (fun W' => FrZ W' w1.heap.size ∧ Below w1.heap.size w1 W' ∧ w1.heap.size < W'.heap.size) ⟨⟨⟨by simp [go_sem], by simp [go_sem]⟩, by simp [go_sem], by simp [go_sem]⟩, (Below.refl _ _).alloc (Nat.le_refl _) _, by simp⟩ ?_
                  rintro w2 ⟨hz, hb, hs⟩
                  obtain ⟨g13, hg⟩ : ∃ g, g = w1.heap.size := ⟨_, rfl⟩
                  rw [← hg] at hz hs ⊢
                  have hg13 : W0.heap.size ≤ g13 := by have := HB1.out.size; omega
                  have HZ132 := Lib.hid hz
                  have HB2 := Lib.hid (HB1.out.trans (hb.mono HB1.out.size))
                  clear hz hb hs hg
                  refine wpTree_two ?_ ?_
                  · simp only [nthOp]
                    go_wp2_with (go_at_call 27; refine (HWB.out _).mono ?_; rintro e w3 ⟨rfl, hb⟩; have HB3 := Lib.hid (HB2.out.trans (hb.mono HB2.out.size)); have HZ133 := Lib.hid (HZ132.out.keep hb); clear hb)
                    refine One_mk (KW.mk' HB3.out) ?_
                    refine wpTree_one ?_
                    simp only [nthOp]
                    go_wp2_with fail
                    refine One_mk (KW.mk' (HB3.out.alloc HB3.out.size _)) ?_
                    refine gen_any (G := fun W' => wpTree _ _ _ _ _ _ _ W') (fun W' => FrZ W' w3.heap.size ∧ Below w3.heap.size w3 W' ∧ w3.heap.size < W'.heap.size) ⟨⟨⟨by simp [go_sem], by simp [go_sem]⟩, by simp [go_sem], by simp [go_sem]⟩, (Below.refl _ _).alloc (Nat.le_refl _) _, by simp⟩ ?_
                    rintro w4 ⟨hz, hb, hs⟩
                    obtain ⟨g14, hg⟩ : ∃ g, g = w3.heap.size := ⟨_, rfl⟩
                    rw [← hg] at hz hs ⊢
                    have hg14 : W0.heap.size ≤ g14 := by have := HB3.out.size; omega
                    have HZ144 := Lib.hid hz
                    have hne : g13 < g14 := by have := HZ133.out.lt; omega
                    have HZ134 := Lib.hid (HZ133.out.keep hb)
                    have HB4 := Lib.hid (HB3.out.trans (hb.mono HB3.out.size))
                    clear hz hb hs hg
                    refine wpTree_done ?_
                    simp only [List.drop_succ_cons, List.drop_zero]
                    obtain ⟨⟨z130, z131⟩, f130, f131⟩ := HZ134.out
                    obtain ⟨⟨z140, z141⟩, f140, f141⟩ := HZ144.out
                    go_wp2_with fail
                    refine NP_mk ?_
                    exact cut_meet (by simp [forget]) (WCut.mk (g5 := g13) (g6 := g14) rfl rfl (two_set z130 z131 z140 z141 (by omega)) ((((HB4.out.setCell hg13 _).setCell hg13 _).setCell hg14 _).setCell hg14 _))
                  · simp only [nthOp]
                    go_wp2_with fail
                    refine One_mk (KW.mk' (HB2.out.alloc HB2.out.size _)) ?_
                    refine gen_any (G := fun W' => wpTree _ _ _ _ _ _ _ W') (fun W' => FrZ W' w2.heap.size ∧ Below w2.heap.size w2 W' ∧ w2.heap.size < W'.heap.size) ⟨⟨⟨by simp [go_sem], by simp [go_sem]⟩, by simp [go_sem], by simp [go_sem]⟩, (Below.refl _ _).alloc (Nat.le_refl _) _, by simp⟩ ?_
                    rintro w3 ⟨hz, hb, hs⟩
                    obtain ⟨g14, hg⟩ : ∃ g, g = w2.heap.size := ⟨_, rfl⟩
                    rw [← hg] at hz hs ⊢
                    have hg14 : W0.heap.size ≤ g14 := by have := HB2.out.size; omega
                    have HZ143 := Lib.hid hz
                    have hne : g13 < g14 := by have := HZ132.out.lt; omega
                    have HZ133 := Lib.hid (HZ132.out.keep hb)
                    have HB3 := Lib.hid (HB2.out.trans (hb.mono HB2.out.size))
                    clear hz hb hs hg
                    refine wpTree_one ?_
                    simp only [nthOp]
                    go_wp2_with (go_at_call 27; refine (HWB.out _).mono ?_; rintro e w4 ⟨rfl, hb⟩; have HB4 := Lib.hid (HB3.out.trans (hb.mono HB3.out.size)); have HZ134 := Lib.hid (HZ133.out.keep hb); have HZ144 := Lib.hid (HZ143.out.keep hb); clear hb)
                    refine One_mk (KW.mk' HB4.out) ?_
                    refine wpTree_done ?_
                    simp only [List.drop_succ_cons, List.drop_zero]
                    obtain ⟨⟨z130, z131⟩, f130, f131⟩ := HZ134.out
                    obtain ⟨⟨z140, z141⟩, f140, f141⟩ := HZ144.out
                    go_wp2_with fail
                    refine NP_mk ?_
                    exact cut_meet (by simp [forget]) (WCut.mk (g5 := g13) (g6 := g14) rfl rfl (two_set z130 z131 z140 z141 (by omega)) ((((HB4.out.setCell hg13 _).setCell hg13 _).setCell hg14 _).setCell hg14 _))
                · simp only [nthOp]
                  go_wp2_with fail
                  refine One_mk (KW.mk' (HB1.out.alloc HB1.out.size _)) ?_
                  refine gen_any (G := fun W' => wpTree _ _ _ _ _ _ _ W') (fun W' => FrZ W' w1.heap.size ∧ Below w1.heap.size w1 W' ∧ w1.heap.size < W'.heap.size) ⟨⟨⟨by simp [go_sem], by simp [go_sem]⟩, by simp [go_sem], by simp [go_sem]⟩, (Below.refl _ _).alloc (Nat.le_refl _) _, by simp⟩ ?_
                  rintro w2 ⟨hz, hb, hs⟩
                  obtain ⟨g14, hg⟩ : ∃ g, g = w1.heap.size := ⟨_, rfl⟩
                  rw [← hg] at hz hs ⊢
                  have hg14 : W0.heap.size ≤ g14 := by have := HB1.out.size; omega
                  have HZ142 := Lib.hid hz
                  have HB2 := Lib.hid (HB1.out.trans (hb.mono HB1.out.size))
                  clear hz hb hs hg
                  refine wpTree_two ?_ ?_
                  · simp only [nthOp]
                    go_wp2_with (go_at_call 27; refine (HWB.out _).mono ?_; rintro e w3 ⟨rfl, hb⟩; have HB3 := Lib.hid (HB2.out.trans (hb.mono HB2.out.size)); have HZ143 := Lib.hid (HZ142.out.keep hb); clear hb)
                    refine One_mk (KW.mk' HB3.out) ?_
                    refine wpTree_one ?_
                    simp only [nthOp]
                    go_wp2_with fail
                    refine One_mk (KW.mk' (HB3.out.alloc HB3.out.size _)) ?_
                    refine gen_any (G := fun W' => wpTree _ _ _ _ _ _ _ W') (fun W' => FrZ W' w3.heap.size ∧ Below w3.heap.size w3 W' ∧ w3.heap.size < W'.heap.size) ⟨⟨⟨by simp [go_sem], by simp [go_sem]⟩, by simp [go_sem], by simp [go_sem]⟩, (Below.refl _ _).alloc (Nat.le_refl _) _, by simp⟩ ?_
                    rintro w4 ⟨hz, hb, hs⟩
                    obtain ⟨g13, hg⟩ : ∃ g, g = w3.heap.size := ⟨_, rfl⟩
                    rw [← hg] at hz hs ⊢
                    have hg13 : W0.heap.size ≤ g13 := by have := HB3.out.size; omega
                    have HZ134 := Lib.hid hz
                    have hne : g14 < g13 := by have := HZ143.out.lt; omega
                    have HZ144 := Lib.hid (HZ143.out.keep hb)
                    have HB4 := Lib.hid (HB3.out.trans (hb.mono HB3.out.size))
                    clear hz hb hs hg
                    refine wpTree_done ?_
                    simp only [List.drop_succ_cons, List.drop_zero]
                    obtain ⟨⟨z130, z131⟩, f130, f131⟩ := HZ134.out
                    obtain ⟨⟨z140, z141⟩, f140, f141⟩ := HZ144.out
                    go_wp2_with fail
                    refine NP_mk ?_
                    exact cut_meet (by simp [forget]) (WCut.mk (g5 := g13) (g6 := g14) rfl rfl (two_set z130 z131 z140 z141 (by omega)) ((((HB4.out.setCell hg13 _).setCell hg13 _).setCell hg14 _).setCell hg14 _))
                  · simp only [nthOp]
                    go_wp2_with fail
                    refine One_mk (KW.mk' (HB2.out.alloc HB2.out.size _)) ?_
                    refine gen_any (G := fun W' => wpTree _ _ _ _ _ _ _ W') (fun W' => FrZ W' w2.heap.size ∧ Below w2.heap.size w2 W' ∧ w2.heap.size < W'.heap.size) ⟨⟨⟨by simp [go_sem], by simp [go_sem]⟩, by simp [go_sem], by simp [go_sem]⟩, (Below.refl _ _).alloc (Nat.le_refl _) _, by simp⟩ ?_
                    rintro w3 ⟨hz, hb, hs⟩
                    obtain ⟨g13, hg⟩ : ∃ g, g = w2.heap.size := ⟨_, rfl⟩
                    rw [← hg] at hz hs ⊢
                    have hg13 : W0.heap.size ≤ g13 := by have := HB2.out.size; omega
                    have HZ133 := Lib.hid hz
                    have hne : g14 < g13 := by have := HZ142.out.lt; omega
                    have HZ143 := Lib.hid (HZ142.out.keep hb)
                    have HB3 := Lib.hid (HB2.out.trans (hb.mono HB2.out.size))
                    clear hz hb hs hg
                    refine wpTree_one ?_
                    simp only [nthOp]
                    go_wp2_with (go_at_call 27; refine (HWB.out _).mono ?_; rintro e w4 ⟨rfl, hb⟩; have HB4 := Lib.hid (HB3.out.trans (hb.mono HB3.out.size)); have HZ144 := Lib.hid (HZ143.out.keep hb); have HZ134 := Lib.hid (HZ133.out.keep hb); clear hb)
                    refine One_mk (KW.mk' HB4.out) ?_
                    refine wpTree_done ?_
                    simp only [List.drop_succ_cons, List.drop_zero]
                    obtain ⟨⟨z130, z131⟩, f130, f131⟩ := HZ134.out
                    obtain ⟨⟨z140, z141⟩, f140, f141⟩ := HZ144.out
                    go_wp2_with fail
                    refine NP_mk ?_
                    exact cut_meet (by simp [forget]) (WCut.mk (g5 := g13) (g6 := g14) rfl rfl (two_set z130 z131 z140 z141 (by omega)) ((((HB4.out.setCell hg13 _).setCell hg13 _).setCell hg14 _).setCell hg14 _))
              · simp only [nthOp]
                go_wp2_with fail
                refine One_mk (KW.mk' (HB0.out.alloc HB0.out.size _)) ?_
                refine gen_any (G := fun W' => wpTree _ _ _ _ _ _ _ W') (fun W' => FrZ W' w0.heap.size ∧ Below w0.heap.size w0 W' ∧ w0.heap.size < W'.heap.size) ⟨⟨⟨by simp [go_sem], by simp [go_sem]⟩, by simp [go_sem], by simp [go_sem]⟩, (Below.refl _ _).alloc (Nat.le_refl _) _, by simp⟩ ?_
                rintro w1 ⟨hz, hb, hs⟩
                obtain ⟨g13, hg⟩ : ∃ g, g = w0.heap.size := ⟨_, rfl⟩
                rw [← hg] at hz hs ⊢
                have hg13 : W0.heap.size ≤ g13 := by have := HB0.out.size; omega
                have HZ131 := Lib.hid hz
                have HB1 := Lib.hid (HB0.out.trans (hb.mono HB0.out.size))
                clear hz hb hs hg
                refine wpTree_two ?_ ?_
                · simp only [nthOp]
                  go_wp2_with (go_at_call 27; refine (HWA.out _).mono ?_; rintro e w2 ⟨rfl, hb⟩; have HB2 := Lib.hid (HB1.out.trans (hb.mono HB1.out.size)); have HZ132 := Lib.hid (HZ131.out.keep hb); clear hb)
                  refine One_mk (KW.mk' HB2.out) ?_
                  refine wpTree_two ?_ ?_
                  · simp only [nthOp]
                    go_wp2_with (go_at_call 27; refine (HWB.out _).mono ?_; rintro e w3 ⟨rfl, hb⟩; have HB3 := Lib.hid (HB2.out.trans (hb.mono HB2.out.size)); have HZ133 := Lib.hid (HZ132.out.keep hb); clear hb)
                    refine One_mk (KW.mk' HB3.out) ?_
                    refine wpTree_one ?_
                    simp only [nthOp]
                    go_wp2_with fail
                    refine One_mk (KW.mk' (HB3.out.alloc HB3.out.size _)) ?_
                    refine gen_any (G := fun W' => wpTree _ _ _ _ _ _ _ W') (fun W' => FrZ W' w3.heap.size ∧ Below w3.heap.size w3 W' ∧ w3.heap.size < W'.heap.size) ⟨⟨⟨by simp [go_sem], by simp [go_sem]⟩, by simp [go_sem], by simp [go_sem]⟩, (Below.refl _ _).alloc (Nat.le_refl _) _, by simp⟩ ?_
                    rintro w4 ⟨hz, hb, hs⟩
                    obtain ⟨g14, hg⟩ : ∃ g, g = w3.heap.size := ⟨_, rfl⟩
                    rw [← hg] at hz hs ⊢
                    have hg14 : W0.heap.size ≤ g14 := by have := HB3.out.size; omega
                    have HZ144 := Lib.hid hz
                    have hne : g13 < g14 := by have := HZ133.out.lt; omega
                    have HZ134 := Lib.hid (HZ133.out.keep hb)
                    have HB4 := Lib.hid (HB3.out.trans (hb.mono HB3.out.size))
                    clear hz hb hs hg
                    refine wpTree_done ?_
                    simp only [List.drop_succ_cons, List.drop_zero]
                    obtain ⟨⟨z130, z131⟩, f130, f131⟩ := HZ134.out
                    obtain ⟨⟨z140, z141⟩, f140, f141⟩ := HZ144.out
                    go_wp2_with fail
                    refine NP_mk ?_
                    exact cut_meet (by simp [forget]) (WCut.mk (g5 := g13) (g6 := g14) rfl rfl (two_set z130 z131 z140 z141 (by omega)) ((((HB4.out.setCell hg13 _).setCell hg13 _).setCell hg14 _).setCell hg14 _))
                  · simp only [nthOp]
                    go_wp2_with fail
                    refine One_mk (KW.mk' (HB2.out.alloc HB2.out.size _)) ?_
                    refine gen_any (G := fun W' => wpTree _ _ _ _ _ _ _ W') (fun W' => FrZ W' w2.heap.size ∧ Below w2.heap.size w2 W' ∧ w2.heap.size < W'.heap.size) ⟨⟨⟨by simp [go_sem], by simp [go_sem]⟩, by simp [go_sem], by simp [go_sem]⟩, (Below.refl _ _).alloc (Nat.le_refl _) _, by simp⟩ ?_
                    rintro w3 ⟨hz, hb, hs⟩
                    obtain ⟨g14, hg⟩ : ∃ g, g = w2.heap.size := ⟨_, rfl⟩
                    rw [← hg] at hz hs ⊢
                    have hg14 : W0.heap.size ≤ g14 := by have := HB2.out.size; omega
                    have HZ143 := Lib.hid hz
                    have hne : g13 < g14 := by have := HZ132.out.lt; omega
                    have HZ133 := Lib.hid (HZ132.out.keep hb)
                    have HB3 := Lib.hid (HB2.out.trans (hb.mono HB2.out.size))
                    clear hz hb hs hg
                    refine wpTree_one ?_
                    simp only [nthOp]
                    go_wp2_with (go_at_call 27; refine (HWB.out _).mono ?_; rintro e w4 ⟨rfl, hb⟩; have HB4 := Lib.hid (HB3.out.trans (hb.mono HB3.out.size)); have HZ134 := Lib.hid (HZ133.out.keep hb); have HZ144 := Lib.hid (HZ143.out.keep hb); clear hb)
                    refine One_mk (KW.mk' HB4.out) ?_
                    refine wpTree_done ?_
                    simp only [List.drop_succ_cons, List.drop_zero]
                    obtain ⟨⟨z130, z131⟩, f130, f131⟩ := HZ134.out
                    obtain ⟨⟨z140, z141⟩, f140, f141⟩ := HZ144.out
                    go_wp2_with fail
                    refine NP_mk ?_
                    exact cut_meet (by simp [forget]) (WCut.mk (g5 := g13) (g6 := g14) rfl rfl (two_set z130 z131 z140 z141 (by omega)) ((((HB4.out.setCell hg13 _).setCell hg13 _).setCell hg14 _).setCell hg14 _))
                · simp only [nthOp]
                  go_wp2_with fail
                  refine One_mk (KW.mk' (HB1.out.alloc HB1.out.size _)) ?_
                  refine gen_any (G := fun W' => wpTree _ _ _ _ _ _ _ W') (fun W' => FrZ W' w1.heap.size ∧ Below w1.heap.size w1 W' ∧ w1.heap.size < W'.heap.size) ⟨⟨⟨by simp [go_sem], by simp [go_sem]⟩, by simp [go_sem], by simp [go_sem]⟩, (Below.refl _ _).alloc (Nat.le_refl _) _, by simp⟩ ?_
                  rintro w2 ⟨hz, hb, hs⟩
                  obtain ⟨g14, hg⟩ : ∃ g, g = w1.heap.size := ⟨_, rfl⟩
                  rw [← hg] at hz hs ⊢
                  have hg14 : W0.heap.size ≤ g14 := by have := HB1.out.size; omega
                  have HZ142 := Lib.hid hz
                  have hne : g13 < g14 := by have := HZ131.out.lt; omega
                  have HZ132 := Lib.hid (HZ131.out.keep hb)
                  have HB2 := Lib.hid (HB1.out.trans (hb.mono HB1.out.size))
                  clear hz hb hs hg
                  refine wpTree_one ?_
                  simp only [nthOp]
                  go_wp2_with (go_at_call 27; refine (HWA.out _).mono ?_; rintro e w3 ⟨rfl, hb⟩; have HB3 := Lib.hid (HB2.out.trans (hb.mono HB2.out.size)); have HZ133 := Lib.hid (HZ132.out.keep hb); have HZ143 := Lib.hid (HZ142.out.keep hb); clear hb)
                  refine One_mk (KW.mk' HB3.out) ?_
                  refine wpTree_one ?_
                  simp only [nthOp]
                  go_wp2_with (go_at_call 27; refine (HWB.out _).mono ?_; rintro e w4 ⟨rfl, hb⟩; have HB4 := Lib.hid (HB3.out.trans (hb.mono HB3.out.size)); have HZ134 := Lib.hid (HZ133.out.keep hb); have HZ144 := Lib.hid (HZ143.out.keep hb); clear hb)
                  refine One_mk (KW.mk' HB4.out) ?_
                  refine wpTree_done ?_
                  simp only [List.drop_succ_cons, List.drop_zero]
                  obtain ⟨⟨z130, z131⟩, f130, f131⟩ := HZ134.out
                  obtain ⟨⟨z140, z141⟩, f140, f141⟩ := HZ144.out
                  go_wp2_with fail
                  refine NP_mk ?_
                  exact cut_meet (by simp [forget]) (WCut.mk (g5 := g13) (g6 := g14) rfl rfl (two_set z130 z131 z140 z141 (by omega)) ((((HB4.out.setCell hg13 _).setCell hg13 _).setCell hg14 _).setCell hg14 _))
              · simp only [nthOp]
                go_wp2_with fail
                refine One_mk (KW.mk' (HB0.out.alloc HB0.out.size _)) ?_
                refine gen_any (G := fun W' => wpTree _ _ _ _ _ _ _ W') (fun W' => FrZ W' w0.heap.size ∧ Below w0.heap.size w0 W' ∧ w0.heap.size < W'.heap.size) ⟨⟨⟨by simp [go_sem], by simp [go_sem]⟩, by simp [go_sem], by simp [go_sem]⟩, (Below.refl _ _).alloc (Nat.le_refl _) _, by simp⟩ ?_
                rintro w1 ⟨hz, hb, hs⟩
                obtain ⟨g14, hg⟩ : ∃ g, g = w0.heap.size := ⟨_, rfl⟩
                rw [← hg] at hz hs ⊢
                have hg14 : W0.heap.size ≤ g14 := by have := HB0.out.size; omega
                have HZ141 := Lib.hid hz
                have HB1 := Lib.hid (HB0.out.trans (hb.mono HB0.out.size))
                clear hz hb hs hg
                refine wpTree_two ?_ ?_
                · simp only [nthOp]
                  go_wp2_with (go_at_call 27; refine (HWA.out _).mono ?_; rintro e w2 ⟨rfl, hb⟩; have HB2 := Lib.hid (HB1.out.trans (hb.mono HB1.out.size)); have HZ142 := Lib.hid (HZ141.out.keep hb); clear hb)
                  refine One_mk (KW.mk' HB2.out) ?_
                  refine wpTree_two ?_ ?_
                  · simp only [nthOp]
                    go_wp2_with (go_at_call 27; refine (HWB.out _).mono ?_; rintro e w3 ⟨rfl, hb⟩; have HB3 := Lib.hid (HB2.out.trans (hb.mono HB2.out.size)); have HZ143 := Lib.hid (HZ142.out.keep hb); clear hb)
                    refine One_mk (KW.mk' HB3.out) ?_
                    refine wpTree_one ?_
                    simp only [nthOp]
                    go_wp2_with fail
                    refine One_mk (KW.mk' (HB3.out.alloc HB3.out.size _)) ?_
                    refine gen_any (G := fun W' => wpTree _ _ _ _ _ _ _ W') (fun W' => FrZ W' w3.heap.size ∧ Below w3.heap.size w3 W' ∧ w3.heap.size < W'.heap.size) ⟨⟨⟨by simp [go_sem], by simp [go_sem]⟩, by simp [go_sem], by simp [go_sem]⟩, (Below.refl _ _).alloc (Nat.le_refl _) _, by simp⟩ ?_
                    rintro w4 ⟨hz, hb, hs⟩
                    obtain ⟨g13, hg⟩ : ∃ g, g = w3.heap.size := ⟨_, rfl⟩
                    rw [← hg] at hz hs ⊢
                    have hg13 : W0.heap.size ≤ g13 := by have := HB3.out.size; omega
                    have HZ134 := Lib.hid hz
                    have hne : g14 < g13 := by have := HZ143.out.lt; omega
                    have HZ144 := Lib.hid (HZ143.out.keep hb)
                    have HB4 := Lib.hid (HB3.out.trans (hb.mono HB3.out.size))
                    clear hz hb hs hg
                    refine wpTree_done ?_
                    simp only [List.drop_succ_cons, List.drop_zero]
                    obtain ⟨⟨z130, z131⟩, f130, f131⟩ := HZ134.out
                    obtain ⟨⟨z140, z141⟩, f140, f141⟩ := HZ144.out
                    go_wp2_with fail
                    refine NP_mk ?_
                    exact cut_meet (by simp [forget]) (WCut.mk (g5 := g13) (g6 := g14) rfl rfl (two_set z130 z131 z140 z141 (by omega)) ((((HB4.out.setCell hg13 _).setCell hg13 _).setCell hg14 _).setCell hg14 _))
                  · simp only [nthOp]
                    go_wp2_with fail
                    refine One_mk (KW.mk' (HB2.out.alloc HB2.out.size _)) ?_
                    refine gen_any (G := fun W' => wpTree _ _ _ _ _ _ _ W') (fun W' => FrZ W' w2.heap.size ∧ Below w2.heap.size w2 W' ∧ w2.heap.size < W'.heap.size) ⟨⟨⟨by simp [go_sem], by simp [go_sem]⟩, by simp [go_sem], by simp [go_sem]⟩, (Below.refl _ _).alloc (Nat.le_refl _) _, by simp⟩ ?_
                    rintro w3 ⟨hz, hb, hs⟩
                    obtain ⟨g13, hg⟩ : ∃ g, g = w2.heap.size := ⟨_, rfl⟩
                    rw [← hg] at hz hs ⊢
                    have hg13 : W0.heap.size ≤ g13 := by have := HB2.out.size; omega
                    have HZ133 := Lib.hid hz
                    have hne : g14 < g13 := by have := HZ142.out.lt; omega
                    have HZ143 := Lib.hid (HZ142.out.keep hb)
                    have HB3 := Lib.hid (HB2.out.trans (hb.mono HB2.out.size))
                    clear hz hb hs hg
                    refine wpTree_one ?_
                    simp only [nthOp]
                    go_wp2_with (go_at_call 27; refine (HWB.out _).mono ?_; rintro e w4 ⟨rfl, hb⟩; have HB4 := Lib.hid (HB3.out.trans (hb.mono HB3.out.size)); have HZ144 := Lib.hid (HZ143.out.keep hb); have HZ134 := Lib.hid (HZ133.out.keep hb); clear hb)
                    refine One_mk (KW.mk' HB4.out) ?_
                    refine wpTree_done ?_
                    simp only [List.drop_succ_cons, List.drop_zero]
                    obtain ⟨⟨z130, z131⟩, f130, f131⟩ := HZ134.out
                    obtain ⟨⟨z140, z141⟩, f140, f141⟩ := HZ144.out
                    go_wp2_with fail
                    refine NP_mk ?_
                    exact cut_meet (by simp [forget]) (WCut.mk (g5 := g13) (g6 := g14) rfl rfl (two_set z130 z131 z140 z141 (by omega)) ((((HB4.out.setCell hg13 _).setCell hg13 _).setCell hg14 _).setCell hg14 _))
                · simp only [nthOp]
                  go_wp2_with fail
                  refine One_mk (KW.mk' (HB1.out.alloc HB1.out.size _)) ?_
                  refine gen_any (G := fun W' => wpTree _ _ _ _ _ _ _ W') (fun W' => FrZ W' w1.heap.size ∧ Below w1.heap.size w1 W' ∧ w1.heap.size < W'.heap.size) ⟨⟨⟨by simp [go_sem], by simp [go_sem]⟩, by simp [go_sem], by simp [go_sem]⟩, (Below.refl _ _).alloc (Nat.le_refl _) _, by simp⟩ ?_
                  rintro w2 ⟨hz, hb, hs⟩
                  obtain ⟨g13, hg⟩ : ∃ g, g = w1.heap.size := ⟨_, rfl⟩
                  rw [← hg] at hz hs ⊢
                  have hg13 : W0.heap.size ≤ g13 := by have := HB1.out.size; omega
                  have HZ132 := Lib.hid hz
                  have hne : g14 < g13 := by have := HZ141.out.lt; omega
                  have HZ142 := Lib.hid (HZ141.out.keep hb)
                  have HB2 := Lib.hid (HB1.out.trans (hb.mono HB1.out.size))
                  clear hz hb hs hg
                  refine wpTree_one ?_
                  simp only [nthOp]
                  go_wp2_with (go_at_call 27; refine (HWA.out _).mono ?_; rintro e w3 ⟨rfl, hb⟩; have HB3 := Lib.hid (HB2.out.trans (hb.mono HB2.out.size)); have HZ143 := Lib.hid (HZ142.out.keep hb); have HZ133 := Lib.hid (HZ132.out.keep hb); clear hb)
                  refine One_mk (KW.mk' HB3.out) ?_
                  refine wpTree_one ?_
                  simp only [nthOp]
                  go_wp2_with (go_at_call 27; refine (HWB.out _).mono ?_; rintro e w4 ⟨rfl, hb⟩; have HB4 := Lib.hid (HB3.out.trans (hb.mono HB3.out.size)); have HZ144 := Lib.hid (HZ143.out.keep hb); have HZ134 := Lib.hid (HZ133.out.keep hb); clear hb)
                  refine One_mk (KW.mk' HB4.out) ?_
                  refine wpTree_done ?_
                  simp only [List.drop_succ_cons, List.drop_zero]
                  obtain ⟨⟨z130, z131⟩, f130, f131⟩ := HZ134.out
                  obtain ⟨⟨z140, z141⟩, f140, f141⟩ := HZ144.out
                  go_wp2_with fail
                  refine NP_mk ?_
                  exact cut_meet (by simp [forget]) (WCut.mk (g5 := g13) (g6 := g14) rfl rfl (two_set z130 z131 z140 z141 (by omega)) ((((HB4.out.setCell hg13 _).setCell hg13 _).setCell hg14 _).setCell hg14 _))
            rintro u W9 ⟨g13, g14, hu5, hu6, ⟨⟨c130, c131⟩, c140, c141⟩, hb9⟩
            simp only [forget, List.foldl_cons, List.foldl_nil, hu5, hu6]
            rw [hW0] at hb9
            have HB9 := Lib.hid (HB2W.out.trans (hb9.mono HB2W.out.size))
            have HB9o := Lib.hid (HB2.out.trans (hb9.mono HB2.out.size))
            obtain ⟨N1, hN1⟩ : ∃ N : Nat, un * vn = N := ⟨_, rfl⟩
            obtain ⟨D1, hD1⟩ : ∃ N : Nat, ud * vd = N := ⟨_, rfl⟩
            have bN : N1 ≤ 1000000000000 := by rw [← hN1]; exact Nat.mul_le_mul ua va
            have bD : D1 ≤ 1000000000000 := by rw [← hD1]; exact Nat.mul_le_mul uc vc
            have bD1 : 1 ≤ D1 := by rw [← hD1]; exact Nat.mul_pos ub vb
            have w1' : IntKind.i64.wrap ((un : Int) * (vn : Int)) = (N1 : Int) := by rw [show (un : Int) * (vn : Int) = ((N1 : Nat) : Int) by rw [← hN1]; push_cast; rfl]; exact IntWalk.i64_in _ (by omega)
            have w2' : IntKind.i64.wrap ((ud : Int) * (vd : Int)) = (D1 : Int) := by rw [show (ud : Int) * (vd : Int) = ((D1 : Nat) : Int) by rw [← hD1]; push_cast; rfl]; exact IntWalk.i64_in _ (by omega)
            rw [hN1, hD1] at HFR
            have HLO := Lib.hid (fun w9 => clowest_any N1 D1 w9 bN bD1 bD)
            obtain ⟨fx, hfx⟩ : ∃ f, wfr j n0 n1 x = f := ⟨_, rfl⟩
            have HFQ := Lib.hid hfx
            rw [hfx] at HFR
            have HLO := Lib.hid (show ∀ w9, Calls Tryz.prog 28 #[.int .i64 (N1 : Int), .int .i64 (D1 : Int)] w9 fun e w' => e = .returned (.agg #[.int .i64 fx.num, .int .i64 fx.den]) ∧ Below w9.heap.size w9 w' by rw [HFR.out]; exact HLO.out)
            clear hN1 hD1 hb9 ua ub uc va vb vc d0 d1 d2 d3 d4 d5 y0 y1 hW0 hfx HWA HWB HFR
            have HOW9 := Lib.hid (own_keep HOW.out HB9o.out)
            have hz9 : w1.heap.size ≤ W9.heap.size := HB9.out.size
            go_wp2_with (first
              | (go_at_call 28; refine (HLO.out _).mono ?_; rintro e wl ⟨rfl, hbl⟩; have HBl := Lib.hid (HB9.out.trans (hbl.mono HB9.out.size)); have HOWl := Lib.hid (own_keep HOW9.out hbl); have hzl := hbl.size; clear hbl)
              | (at_builtin; refine wpList_append_here _ rfl _ _ 31 rfl w1.heap.size 50 i0 (.agg #[.int .i64 0, .int .i64 0]) 2 16 Tryz.underlying31 hi0 hz0 hz1 hz2 rfl (by decide) _ k _ rfl (own_keep HOWl.out ((Below.refl _ _).alloc (Nat.le_refl _) _)) ⟨wl.heap.size, 0, none⟩ 1 1 (cellsFr fx) rfl rfl (news_of (cellsFr fx) _ _ _ rfl) (cellsFr_one _) (by decide) (by simp only [maxLen]; omega) (by omega) (by simp; omega) ?_; intro v9 w9 ho9 hg9 hv9; have HO9 := Lib.hid ho9; have HG9 := Lib.hid hg9; have HV9 := Lib.hid hv9; clear ho9 hg9 hv9))
            go_roundw
            case rel =>
              refine ⟨k + 1, by omega, by go_num, Lib.hid ?_, Lib.hid ?_, ?_⟩
              · rw [HTK.out, List.map_append, List.flatMap_append, List.map_cons, List.map_nil, List.flatMap_singleton, HFQ.out]; exact HO9.out
              · intro y hy
                rw [HTK.out] at hy
                rcases List.mem_append.1 hy with hy | hy
                · exact HFI.out y hy
                · rw [List.mem_singleton.1 hy]; exact HFX2.out
              · exact (HBl.out.alloc HBl.out.size _).grown HG9.out (by have := HBl.out.size; simp; omega) (fun q hq => own_base HOWl.out hq)
            case measure => first | (simp [intOf]; done) | (simp [intOf]; omega)
          · obtain rfl : k = j.blanks.length := by omega
            have hki : ¬ ((j.blanks.length : Nat) : Int) < ((j.blanks.length : Nat) : Int) := by omega
            have HE := Lib.hid (show weightsE j (n0 : Int) (n1 : Int) = 0 by rw [HWE.out, if_pos (fun x hx => HFI.out x (by rw [List.take_length]; exact hx))])
            go_wp2_with fail
            refine bodyPost_ret (v := .tuple #[.slice av j.blanks.length cv, .int .i64 0]) (by simp [results, Tryz.results7, go_sem]) rfl ?_
            have hv := own_frs (l := (j.blanks.take j.blanks.length).map (wfr j n0 n1)) HOW.out
            rw [List.take_length] at hv
            exact ⟨av, j.blanks.length, cv, by rw [HE.out], HBB.out, fun h => absurd HE.out h, fun _ => ⟨by rw [List.length_map], hv⟩⟩
      · have HW1 := Lib.hid (withinB_in hk0)
        have HW2 := Lib.hid (withinB_out hk1)
        have HE := Lib.hid (weightsE_rng (k0 := k0) (k1 := k1) HEJ.out (fun h => hk1 h.2))
        go_wp2_with (go_at_call 25; refine (cwithin_any _ _ _ _).mono ?_; rintro e w' ⟨rfl, rfl⟩; (first | rw [HW1.out] | rw [HW2.out]))
        refine bodyPost_ret (v := .tuple #[.slice none 0 0, .int .i64 2]) (by simp [results, Tryz.results7, go_sem]) rfl ?_
        exact ⟨none, 0, 0, by rw [HE.out], HBW1.out, fun _ => ⟨rfl, rfl, rfl⟩, fun h => by rw [HE.out] at h; cases h⟩
    · have HW1 := Lib.hid (withinB_out hk0)
      have HE := Lib.hid (weightsE_rng (k0 := k0) (k1 := k1) HEJ.out (fun h => hk0 h.1))
      go_wp2_with (go_at_call 25; refine (cwithin_is _ _ _ _ HW1.out).mono ?_; rintro e w' ⟨rfl, rfl⟩)
      refine bodyPost_ret (v := .tuple #[.slice none 0 0, .int .i64 2]) (by simp [results, Tryz.results7, go_sem]) rfl ?_
      exact ⟨none, 0, 0, by rw [HE.out], HBW1.out, fun _ => ⟨rfl, rfl, rfl⟩, fun h => by rw [HE.out] at h; cases h⟩
  · have hne := bne_t5 hE
    have HE := Lib.hid (weightsE_job (k0 := k0) (k1 := k1) HEJ.out hE)
    go_wp2_with fail
    refine bodyPost_ret (v := .tuple #[.slice none 0 0, .int .i64 EJ]) (by simp [results, Tryz.results7, go_sem]) rfl ?_
    exact ⟨none, 0, 0, by rw [HE.out], HBW1.out, fun _ => ⟨rfl, rfl, rfl⟩, fun h => absurd h (by rw [HE.out]; exact hE)⟩
end Go.Proofs.YtpaindkfbgoogaaGreat

set_option linter.unusedVariables false
set_option linter.unusedSimpArgs false
namespace Go.Proofs.YtpaindkfbgoogaaGreat
open Go Go.ChangeShapes Go.WideShapes Go.ChangeAt Go.RowKit

theorem okWide_pair {P : Program} {w : World} {r : Reach} {base : Nat} {t e : TypeId} {n : Nat} {v : Value} (ht : P.underlying t = some (.array n e)) (h : Value.okWide P w r base t v) : ∃ cs, v = .agg cs ∧ cs.size = P.cellsOf t := by
  simp only [Value.okWide, ht] at h
  obtain ⟨cs, h1, h2, _⟩ := h
  exact ⟨cs, h1, h2⟩
theorem pair_open {H : Type} {enc : TypeId × Value → H} {w : World} {spare : Nat → Bool} {held : Bool} {fuel : Nat} {cs : List Value} {y : DataW H × List MemPlace} (h : DataW.trod enc Tryz.prog w 0 spare held fuel 28 cs = some y) :
    ∃ p q : Int, cs = [.int .i64 p, .int .i64 q] ∧ ((-9223372036854775808 ≤ p ∧ p ≤ 9223372036854775807) ∧ (-9223372036854775808 ≤ q ∧ q ≤ 9223372036854775807)) := by
  obtain ⟨xs, m, -, -, hl, hx, hi⟩ := DataW.trod_array Tryz.underlying28 h
  have hl2 : cs.length = 2 := hl.trans (by kernel_rfl)
  have h1 : Tryz.prog.cellsOf 3 = 1 := by kernel_rfl
  rw [h1] at hi
  match cs, hl2, xs, hx with
  | [v0, v1], _, [y0, y1], _ =>
    have t0 := hi 0 (by decide)
    have t1 := hi 1 (by decide)
    simp at t0 t1
    obtain ⟨n0, g0, -, q0⟩ := DataW.trod_int Tryz.underlying3 t0
    obtain ⟨n1, g1, -, q1⟩ := DataW.trod_int Tryz.underlying3 t1
    simp only [List.cons.injEq, and_true] at g0 g1
    exact ⟨n0, n1, by rw [g0, g1], int_wf q0, int_wf q1⟩
theorem lowB_pos {n d : Nat} (hd : 1 ≤ d) : 1 ≤ lowQ n d := Nat.div_pos (Nat.gcd_le_right _ hd) (Nat.gcd_pos_of_pos_right _ hd)
/-! Sums over pieces. -/
end Go.Proofs.YtpaindkfbgoogaaGreat

set_option linter.unusedVariables false
set_option linter.unusedSimpArgs false
namespace Go.Proofs.YtpaindkfbgoogaaGreat

section
variable {u : Rect} {kerf : Int} {s : BS}
/-! How it grows. -/
end
end Go.Proofs.YtpaindkfbgoogaaGreat

set_option linter.unusedVariables false
set_option linter.unusedSimpArgs false
namespace Go.Proofs.YtpaindkfbgoogaaGreat

section
variable {j : Job} {b : Board} {s0 : BS} {x1 y1 x2 y2 : Int}
end

section
variable {j : Job}
/-! What comes out. -/
end
end Go.Proofs.YtpaindkfbgoogaaGreat
