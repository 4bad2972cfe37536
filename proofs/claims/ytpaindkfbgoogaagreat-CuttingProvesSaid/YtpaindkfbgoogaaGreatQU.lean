/- The greatest sides of the usable rectangles of a species. The weights of all blanks, of the program. The weights of the pieces on one board add up to at most 1: plain. The greedy plan is accepted: its cuts are a tree of regions, and its pieces are those that are wanted. The greedy plan is accepted: the pieces. -/
import Derived.Test.YtpaindkfbgoogaaGreatRR
import Derived.Test.YtpaindkfbgoogaaGreatCH1
import Derived.Test.YtpaindkfbgoogaaGreatQL
import Derived.Test.YtpaindkfbgoogaaGreatPLX
import Derived.Test.YtpaindkfbgoogaaGreatQG
import Derived.OpenShut
import Derived.Test.YtpaindkfbgoogaaGreatA8
set_option linter.unusedVariables false
set_option linter.unusedSimpArgs false
namespace Go.Proofs.YtpaindkfbgoogaaGreat
open Go Go.RowKit

def roomTo (j : Job) (sp : ByteArray) : Nat → Int × Int
  | 0 => (0, 0)
  | k + 1 => if ((j.stock.getD k default).species.toList == sp.toList) = true then (max (roomTo j sp k).1 ((usableR (j.stock.getD k default) j.trim).x2 - (usableR (j.stock.getD k default) j.trim).x1), max (roomTo j sp k).2 ((usableR (j.stock.getD k default) j.trim).y2 - (usableR (j.stock.getD k default) j.trim).y1)) else roomTo j sp k
def roomM (j : Job) (sp : ByteArray) : Int × Int := roomTo j sp j.stock.length
theorem usable_rng {j : Job} (hJ : JobOk j.stock j.blanks j.trim) {b : Board} (hb : b ∈ j.stock) : (-1000000 ≤ (usableR b j.trim).x1 ∧ (usableR b j.trim).x1 ≤ 1000000) ∧ (-1000000 ≤ (usableR b j.trim).y1 ∧ (usableR b j.trim).y1 ≤ 1000000) ∧ (0 ≤ (usableR b j.trim).x2 - (usableR b j.trim).x1 ∧ (usableR b j.trim).x2 - (usableR b j.trim).x1 ≤ 600000) ∧ (0 ≤ (usableR b j.trim).y2 - (usableR b j.trim).y1 ∧ (usableR b j.trim).y2 - (usableR b j.trim).y1 ≤ 600000) := by
  have h1 := hJ.size b hb
  have h2 := hJ.trim
  unfold usableR wholeR
  split
  · simp
  · rename_i hx; simp only at hx ⊢; omega
theorem roomTo_rng {j : Job} (hJ : JobOk j.stock j.blanks j.trim) (sp : ByteArray) : ∀ k, k ≤ j.stock.length → (0 ≤ (roomTo j sp k).1 ∧ (roomTo j sp k).1 ≤ 600000) ∧ (0 ≤ (roomTo j sp k).2 ∧ (roomTo j sp k).2 ≤ 600000)
  | 0, _ => by simp [roomTo]
  | k + 1, hk => by
    have h := roomTo_rng hJ sp k (by omega)
    have hm : j.stock.getD k default ∈ j.stock := by rw [List.getD_eq_getElem?_getD, List.getElem?_eq_getElem (by omega)]; exact List.getElem_mem _
    have hu := usable_rng hJ hm
    rw [roomTo]
    split
    · simp only; omega
    · exact h
theorem roomTo_step {j : Job} {sp : ByteArray} {k : Nat} (hk : k < j.stock.length) : roomTo j sp (k + 1) = if (j.stock[k].species.toList == sp.toList) = true then (max (roomTo j sp k).1 ((usableR j.stock[k] j.trim).x2 - (usableR j.stock[k] j.trim).x1), max (roomTo j sp k).2 ((usableR j.stock[k] j.trim).y2 - (usableR j.stock[k] j.trim).y1)) else roomTo j sp k := by
  have e : j.stock.getD k default = j.stock[k] := by rw [List.getD_eq_getElem?_getD, List.getElem?_eq_getElem hk]; rfl
  rw [roomTo, e]
structure RectC (W : World) (g : Nat) (r : Rect) : Prop where
  c0 : W.cell? ⟨g, 0, none⟩ = some (.int .i64 r.x1)
  c1 : W.cell? ⟨g, 1, none⟩ = some (.int .i64 r.y1)
  c2 : W.cell? ⟨g, 2, none⟩ = some (.int .i64 r.x2)
  c3 : W.cell? ⟨g, 3, none⟩ = some (.int .i64 r.y2)
theorem RectC.keep {W W' : World} {g : Nat} {r : Rect} (h : RectC W g r) (hb : Below W.heap.size W W') : RectC W' g r := ⟨cell_keep hb h.c0, cell_keep hb h.c1, cell_keep hb h.c2, cell_keep hb h.c3⟩
set_option maxRecDepth 100000 in
set_option maxHeartbeats 4000000 in
theorem room_any (j : Job) (a1 : Option Addr) (c1 : Nat) (a2 : Option Addr) (c2 : Nat) (sp : ByteArray) (w : World) (hs : Boards.V w a1 j.stock) (hJ : JobOk j.stock j.blanks j.trim) :
    Calls Tryz.prog 26 #[.agg #[.slice a1 j.stock.length c1, .slice a2 j.blanks.length c2, .int .i64 j.trim.kerf, .int .i64 j.trim.ends, .int .i64 j.trim.sides], .string sp] w fun e w' => e = .returned (.tuple #[.int .i64 (roomM j sp).1, .int .i64 (roomM j sp).2]) ∧ Below w.heap.size w w' := by
  obtain ⟨AD, CD, hSC⟩ := stock_ch hs
  have HSC := Lib.hid hSC
  have HJ := Lib.hid hJ
  have hN := hJ.lenS
  clear hs hSC hJ
  go_enter Tryz.func26, Tryz.ntmps26
  go_upto_region 1 with fail
  refine gen_world (fun W => JB W w.heap.size j a1 c1 a2 c2 ∧ Below w.heap.size w W ∧ w.heap.size < W.heap.size) ⟨⟨by simp [go_sem], by simp [go_sem], by simp [go_sem], by simp [go_sem], by simp [go_sem]⟩, by repeat (first | (with_reducible assumption) | exact Below.refl _ _ | (refine Below.setCell ?_ (by first | omega | (simp; omega) | (simp; done)) _) | (refine Below.alloc ?_ (by first | omega | (simp; omega) | (simp; done)) _) | (refine Below.drew ?_)), by simp⟩ ?_
  rintro W ⟨hC, hbW, hz⟩
  obtain ⟨gj, hgj⟩ : ∃ g, g = w.heap.size := ⟨_, rfl⟩
  have hzj : gj < W.heap.size := by omega
  rw [← hgj] at hC ⊢
  have HC := Lib.hid hC
  have HBW := Lib.hid (show Below w.heap.size w W by rw [← hgj]; rw [← hgj] at hbW; exact hbW)
  obtain ⟨k0, k1, k2, k3, k4⟩ := hC
  clear hbW hz hgj
  go_wp2_with fail
  clear k0 k1 k2 k3 k4
  go_loopw [4, 5, 12] (fun v1 v2 iv wr => ∃ k : Nat, k ≤ j.stock.length ∧ v1 = .int .i64 (roomTo j sp k).1 ∧ v2 = .int .i64 (roomTo j sp k).2 ∧ iv = .int .i64 k ∧ Below W.heap.size W wr) (fun _ _ iv _ => j.stock.length - (intOf iv).toNat)
  case atStart => exact ⟨0, Nat.zero_le _, rfl, rfl, rfl, Below.refl _ _⟩
  case round =>
    obtain ⟨k, hk, rfl, rfl, rfl, hbr⟩ := hrel
    obtain ⟨wo, rfl⟩ : ∃ wo : World, wo = wr := ⟨_, rfl⟩
    have HBO := Lib.hid hbr
    have HCO := Lib.hid (HC.out.keep hbr hzj)
    have hbw := HBW.out.trans (hbr.mono HBW.out.size)
    have hzo : gj < wo.heap.size := Nat.lt_of_lt_of_le hzj hbr.size
    clear hbr
    by_cases hlt : k < j.stock.length
    · have hki : (k : Int) < (j.stock.length : Int) := by omega
      have v1 : IntKind.i64.wrap ((k : Int) + 1) = (k : Int) + 1 := IntWalk.i64_in _ (by omega)
      obtain ⟨⟨gs, off, has, hcb⟩, hrv, -⟩ := HSC.out.ch k _ (List.getElem?_eq_getElem hlt)
      subst has
      obtain ⟨s0, s1, s2, s3, s4, s5, s6, s7⟩ := hcb.keep hbw
      have HST := Lib.hid (roomTo_step (j := j) (sp := sp) hlt)
      have hrg := roomTo_rng HJ.out sp k hk
      have hur := usable_rng HJ.out (List.getElem_mem hlt)
      have hbd := HJ.out.size _ (List.getElem_mem hlt)
      have htr := HJ.out.trim
      generalize AD k = ad at *
      generalize CD k = cd at *
      generalize j.stock[k] = b at *
      obtain ⟨r, hr⟩ : ∃ r, usableR b j.trim = r := ⟨_, rfl⟩
      have HUS := Lib.hid (fun w9 => usable_is b j.trim r ad cd w9 hr (by omega) (by omega))
      rw [hr] at HST hur
      obtain ⟨q, hq⟩ : ∃ q, roomTo j sp k = q := ⟨_, rfl⟩
      rw [hq] at HST hrg ⊢
      obtain ⟨qa, qb⟩ := q
      simp only at HST hrg ⊢
      have v5 : IntKind.i64.wrap (r.x2 - r.x1) = r.x2 - r.x1 := IntWalk.i64_in _ (by omega)
      have v6 : IntKind.i64.wrap (r.y2 - r.y1) = r.y2 - r.y1 := IntWalk.i64_in _ (by omega)
      clear hcb hrv hq hr hbd htr hbw
      go_upto_region 4 with fail
      refine gen_world (fun W1 => CellsBd W1 wo.heap.size 0 b ad cd ∧ Below wo.heap.size wo W1) ⟨⟨by simp [go_sem], by simp [go_sem], by simp [go_sem], by simp [go_sem], by simp [go_sem], by simp [go_sem], by simp [go_sem], by simp [go_sem]⟩, by repeat (first | (with_reducible assumption) | exact Below.refl _ _ | (refine Below.setCell ?_ (by first | omega | (simp; omega) | (simp; done)) _) | (refine Below.alloc ?_ (by first | omega | (simp; omega) | (simp; done)) _) | (refine Below.drew ?_))⟩ ?_
      rintro W1 ⟨⟨d0, d1, d2, d3, d4, d5, d6, d7⟩, hb1⟩
      simp only [Nat.zero_add] at d0 d1 d2 d3 d4 d5 d6 d7
      obtain ⟨g7, hg7⟩ : ∃ g, g = wo.heap.size := ⟨_, rfl⟩
      rw [← hg7] at d0 d1 d2 d3 d4 d5 d6 d7 ⊢
      have HB1 := Lib.hid (HBO.out.trans (hb1.mono HBO.out.size))
      obtain ⟨-, -, k2, k3, k4⟩ := HCO.out.keep hb1 hzo
      clear s0 s1 s2 s3 s4 s5 s6 s7 hb1 hg7
      by_cases hsp : (b.species.toList == sp.toList) = true
      · have HS2 := Lib.hid (show roomTo j sp (k + 1) = (max qa (r.x2 - r.x1), max qb (r.y2 - r.y1)) by rw [HST.out, if_pos hsp])
        clear HST
        go_upto_region 6 with (go_at_call 53; refine (HUS.out _).mono ?_; rintro e w2 ⟨rfl, hb2⟩; have HB2 := Lib.hid (HB1.out.trans (hb2.mono HB1.out.size)); clear hb2)
        refine gen_world (fun W3 => RectC W3 w2.heap.size r ∧ Below w2.heap.size w2 W3) ⟨⟨by simp [go_sem], by simp [go_sem], by simp [go_sem], by simp [go_sem]⟩, by repeat (first | (with_reducible assumption) | exact Below.refl _ _ | (refine Below.setCell ?_ (by first | omega | (simp; omega) | (simp; done)) _) | (refine Below.alloc ?_ (by first | omega | (simp; omega) | (simp; done)) _) | (refine Below.drew ?_))⟩ ?_
        rintro W3 ⟨⟨r0, r1, r2, r3⟩, hb3⟩
        obtain ⟨g8, hg8⟩ : ∃ g, g = w2.heap.size := ⟨_, rfl⟩
        rw [← hg8] at r0 r1 r2 r3 ⊢
        have hB3 := HB2.out.trans (hb3.mono HB2.out.size)
        clear d0 d1 d2 d3 d4 d5 d6 d7 k2 k3 k4 hb3 hg8 hsp
        go_quiet (fail)
        rename_i nq
        go_wp2_with fail
        go_roundw
        case rel => exact ⟨k + 1, by omega, by rw [HS2.out], by rw [HS2.out], by go_num, below_drewN hB3 nq⟩
        case measure => first | (simp [intOf]; done) | (simp [intOf]; omega)
      · have hsp2 : (b.species.toList == sp.toList) = false := by simpa using hsp
        have HS2 := Lib.hid (show roomTo j sp (k + 1) = (qa, qb) by rw [HST.out, if_neg hsp])
        clear HST hsp
        go_wp2_with fail
        go_roundw
        case rel => exact ⟨k + 1, by omega, by rw [HS2.out], by rw [HS2.out], by go_num, HB1.out⟩
        case measure => first | (simp [intOf]; done) | (simp [intOf]; omega)
    · obtain rfl : k = j.stock.length := by omega
      have hki : ¬ ((j.stock.length : Nat) : Int) < ((j.stock.length : Nat) : Int) := by omega
      go_wp2_with fail
      refine bodyPost_ret (v := .tuple #[.int .i64 (roomTo j sp j.stock.length).1, .int .i64 (roomTo j sp j.stock.length).2]) (by simp [results, Tryz.results26, go_sem]) rfl ?_
      exact ⟨rfl, hbw⟩
end Go.Proofs.YtpaindkfbgoogaaGreat

set_option linter.unusedVariables false
set_option linter.unusedSimpArgs false
namespace Go.Proofs.YtpaindkfbgoogaaGreat
open Go Go.RowKit

def lowP (n d : Nat) : Nat := n / Nat.gcd n d
def lowQ (n d : Nat) : Nat := d / Nat.gcd n d
structure Fr where
  num : Int
  den : Int
def wuN (k a d : Nat) : Nat := lowP (wtN k a d) (wtD k a d)
def wuD (k a d : Nat) : Nat := lowQ (wtN k a d) (wtD k a d)
theorem wu_bds {k num den : Nat} (hk : k ≤ 20) (h1 : 1 ≤ den) (h2 : den ≤ 1000000) (h3 : num ≤ den) : wuN k num den ≤ 1000000 ∧ 1 ≤ wuD k num den ∧ wuD k num den ≤ 1000000 := by
  obtain ⟨q1, q2, q3⟩ := wt_bds hk h1 h2 h3
  obtain ⟨g1, g2⟩ := gcd_bds (n := wtN k num den) (d := wtD k num den) q2
  unfold wuN wuD lowP lowQ
  refine ⟨Nat.le_trans (Nat.div_le_self _ _) (by omega), Nat.div_pos g2 g1, Nat.le_trans (Nat.div_le_self _ _) q3⟩
/-- A blank's sides and those of its room, with a kerf. -/
def szA (j : Job) (x : Blank) : Nat := (x.length + j.trim.kerf).toNat
def szB (j : Job) (x : Blank) : Nat := (x.width + j.trim.kerf).toNat
def rmA (j : Job) (x : Blank) : Nat := ((roomM j x.species).1 + j.trim.kerf).toNat
def rmB (j : Job) (x : Blank) : Nat := ((roomM j x.species).2 + j.trim.kerf).toNat
def wfN (j : Job) (k0 k1 : Nat) (x : Blank) : Nat := wuN k0 (szA j x) (rmA j x) * wuN k1 (szB j x) (rmB j x)
def wfD (j : Job) (k0 k1 : Nat) (x : Blank) : Nat := wuD k0 (szA j x) (rmA j x) * wuD k1 (szB j x) (rmB j x)
def wfr (j : Job) (k0 k1 : Nat) (x : Blank) : Fr := ⟨lowNum (wfN j k0 k1 x) (wfD j k0 k1 x), lowDen (wfN j k0 k1 x) (wfD j k0 k1 x)⟩
def fitsP (j : Job) (x : Blank) : Prop := x.length ≤ (roomM j x.species).1 ∧ x.width ≤ (roomM j x.species).2
instance (j : Job) (x : Blank) : Decidable (fitsP j x) := by unfold fitsP; infer_instance
def weightsE (j : Job) (k0 k1 : Int) : Int := if jobE j ≠ 0 then jobE j else if ¬ ((0 ≤ k0 ∧ k0 ≤ 20) ∧ (0 ≤ k1 ∧ k1 ≤ 20)) then 2 else if (∀ x ∈ j.blanks, fitsP j x) then 0 else 12
theorem weightsE_job {j : Job} {k0 k1 E : Int} (h : jobE j = E) (hE : ¬ E = 0) : weightsE j k0 k1 = E := by unfold weightsE; rw [if_pos (by rw [h]; exact hE), h]
theorem weightsE_rng {j : Job} {k0 k1 : Int} (h : jobE j = 0) (hk : ¬ ((0 ≤ k0 ∧ k0 ≤ 20) ∧ (0 ≤ k1 ∧ k1 ≤ 20))) : weightsE j k0 k1 = 2 := by unfold weightsE; rw [if_neg (by rw [h]; simp), if_pos hk]
theorem weightsE_ok {j : Job} {k0 k1 : Int} (h : jobE j = 0) (hk : (0 ≤ k0 ∧ k0 ≤ 20) ∧ (0 ≤ k1 ∧ k1 ≤ 20)) : weightsE j k0 k1 = if (∀ x ∈ j.blanks, fitsP j x) then 0 else 12 := by unfold weightsE; rw [if_neg (by rw [h]; simp), if_neg (by simp only [Classical.not_not]; exact hk)]

def cellsFr (x : Fr) : List Value := [.int .i64 x.num, .int .i64 x.den]
theorem cellsFr_len (x : Fr) : (cellsFr x).length = 2 := rfl
theorem cellsFr_one (x : Fr) : ∀ u ∈ cellsFr x, u.oneCell' = true := by
  intro u hu
  simp only [cellsFr, List.mem_cons, List.not_mem_nil, or_false] at hu
  rcases hu with rfl | rfl <;> rfl
def Fr.at (w : World) (b o : Nat) (x : Fr) : Prop := w.cell? ⟨b, o, none⟩ = some (.int .i64 x.num) ∧ w.cell? ⟨b, o + 1, none⟩ = some (.int .i64 x.den)
def Frs.V (w : World) (a : Option Addr) (l : List Fr) : Prop := RowV 2 Fr.at w a l
theorem Frs.V.keep {w w' : World} {a : Option Addr} {l : List Fr} (h : Frs.V w a l) (hb : Below w.heap.size w w') : Frs.V w' a l := RowV.keep (fun _ _ _ h => ⟨cell_keep hb h.1, cell_keep hb h.2⟩) h
theorem own_frs {w : World} {base e n c : Nat} {a : Option Addr} {l : List Fr} (h : w.ownsRow base e 2 (.slice a n c) n (l.flatMap cellsFr)) : Frs.V w a l :=
  own_rowV cellsFr_len (by decide) (fun b o x _ hx => ⟨hx 0 _ rfl, hx 1 _ rfl⟩) h
theorem frac_info : (Tryz.prog.info? 50).map (fun i => (i.zero, i.size, i.bytes)) = some (some (.agg #[.int .i64 0, .int .i64 0]), 2, 16) := by kernel_rfl
/-- A fraction's box, still zero. -/
structure FrZ (W : World) (g : Nat) : Prop where
  cells : W.cell? ⟨g, 0, none⟩ = some (.int .i64 0) ∧ W.cell? ⟨g, 1, none⟩ = some (.int .i64 0)
  f0 : W.frozen? ⟨g, 0, none⟩ = false
  f1 : W.frozen? ⟨g, 1, none⟩ = false
theorem FrZ.lt {W : World} {g : Nat} (h : FrZ W g) : g < W.heap.size := by have := block_lt_of_cell h.cells.1; simpa using this
theorem FrZ.keep {W W' : World} {g : Nat} (h : FrZ W g) (hb : Below W.heap.size W W') : FrZ W' g := ⟨⟨cell_keep hb h.cells.1, cell_keep hb h.cells.2⟩, frozen_keep hb h.lt h.f0, frozen_keep hb h.lt h.f1⟩
def FrC (W : World) (g : Nat) (u v : Value) : Prop := W.cell? ⟨g, 0, none⟩ = some u ∧ W.cell? ⟨g, 1, none⟩ = some v
theorem two_set {W : World} {g h : Nat} {u0 u1 v0 v1 x0 x1 y0 y1 : Value} (a0 : W.cell? ⟨g, 0, none⟩ = some x0) (a1 : W.cell? ⟨g, 1, none⟩ = some x1) (b0 : W.cell? ⟨h, 0, none⟩ = some y0) (b1 : W.cell? ⟨h, 1, none⟩ = some y1) (hne : g ≠ h) :
    FrC ((((W.setCell ⟨g, 0, none⟩ u0).setCell ⟨g, 1, none⟩ u1).setCell ⟨h, 0, none⟩ v0).setCell ⟨h, 1, none⟩ v1) g u0 u1 ∧ FrC ((((W.setCell ⟨g, 0, none⟩ u0).setCell ⟨g, 1, none⟩ u1).setCell ⟨h, 0, none⟩ v0).setCell ⟨h, 1, none⟩ v1) h v0 v1 := by
  have hs : ∀ {W : World} {p q : Addr} {u v : Value}, W.cell? q = some v → (W.setCell p u).cell? q = some (if p = q then u else v) := fun {W p q u v} h => by
    by_cases e : p = q
    · subst e; rw [if_pos rfl]; exact World.cell?_setCell_same _ _ _ h
    · rw [if_neg e, World.cell?_setCell_other (h := e)]; exact h
  have k : ∀ {q : Addr} {x : Value}, W.cell? q = some x → ((((W.setCell ⟨g, 0, none⟩ u0).setCell ⟨g, 1, none⟩ u1).setCell ⟨h, 0, none⟩ v0).setCell ⟨h, 1, none⟩ v1).cell? q = _ := fun hq => hs (hs (hs (hs hq)))
  refine ⟨⟨(k a0).trans ?_, (k a1).trans ?_⟩, (k b0).trans ?_, (k b1).trans ?_⟩ <;> simp [hne, hne.symm]
def WCut (W0 : World) (u0 u1 v0 v1 : Value) (u : Nat → Value) (W : World) : Prop := ∃ g5 g6 : Nat, u 13 = .pointer (some ⟨g5, 0, none⟩) ∧ u 14 = .pointer (some ⟨g6, 0, none⟩) ∧ (FrC W g5 u0 u1 ∧ FrC W g6 v0 v1) ∧ Below W0.heap.size W0 W
theorem WCut.mk {W0 W : World} {g5 g6 : Nat} {u0 u1 v0 v1 : Value} {u : Nat → Value} (h1 : u 13 = .pointer (some ⟨g5, 0, none⟩)) (h2 : u 14 = .pointer (some ⟨g6, 0, none⟩)) (h3 : FrC W g5 u0 u1 ∧ FrC W g6 v0 v1) (h5 : Below W0.heap.size W0 W) : WCut W0 u0 u1 v0 v1 u W := ⟨g5, g6, h1, h2, h3, h5⟩
def WeightsPost (w : World) (l : List Fr) (E : Int) (e : Ending) (w' : World) : Prop :=
  ∃ (a : Option Addr) (n c : Nat), e = .returned (.tuple #[.slice a n c, .int .i64 E]) ∧ Below w.heap.size w w' ∧ (E ≠ 0 → a = none ∧ n = 0 ∧ c = 0) ∧ (E = 0 → n = l.length ∧ Frs.V w' a l)

set_option maxRecDepth 100000 in
set_option maxHeartbeats 16000000 in
theorem weightsP_any (j : Job) (a1 : Option Addr) (c1 : Nat) (a2 : Option Addr) (c2 : Nat) (k0 k1 : Int) (w : World) (hs : Boards.V w a1 j.stock) (hsl : j.stock.length ≤ 9223372036854775807) (hb : Blanks.V w a2 j.blanks) (hbl : j.blanks.length ≤ 9223372036854775807) :
    Calls Tryz.prog 7 #[.agg #[.slice a1 j.stock.length c1, .slice a2 j.blanks.length c2, .int .i64 j.trim.kerf, .int .i64 j.trim.ends, .int .i64 j.trim.sides], .agg #[.int .i64 k0, .int .i64 k1]] w (WeightsPost w (j.blanks.map (wfr j k0.toNat k1.toNat)) (weightsE j k0 k1)) := by
  have HSV := Lib.hid hs
  have HBV := Lib.hid hb
  obtain ⟨i0, hi0, hz0, hz1, hz2⟩ := info_parts frac_info
  obtain ⟨EJ, hEJ⟩ : ∃ E, jobE j = E := ⟨_, rfl⟩
  have HEJ := Lib.hid hEJ
  clear hs hb hEJ
  go_enter Tryz.func7, Tryz.ntmps7
  go_upto_region 1 with fail
  refine gen_world (fun W => JB W w.heap.size j a1 c1 a2 c2 ∧ (W.cell? ⟨w.heap.size + 1, 0, none⟩ = some (.int .i64 k0) ∧ W.cell? ⟨w.heap.size + 1, 1, none⟩ = some (.int .i64 k1)) ∧ Below w.heap.size w W ∧ w.heap.size + 1 < W.heap.size) ⟨⟨by simp [go_sem], by simp [go_sem], by simp [go_sem], by simp [go_sem], by simp [go_sem]⟩, ⟨by simp [go_sem], by simp [go_sem]⟩, by repeat (first | (with_reducible assumption) | exact Below.refl _ _ | (refine Below.setCell ?_ (by first | omega | (simp; omega) | (simp; done)) _) | (refine Below.alloc ?_ (by first | omega | (simp; omega) | (simp; done)) _) | (refine Below.drew ?_)), by simp⟩ ?_
  rintro W ⟨hC, ⟨y0, y1⟩, hbW, hz⟩
  obtain ⟨gj, hgj⟩ : ∃ g, g = w.heap.size := ⟨_, rfl⟩
  obtain ⟨gk, hgk⟩ : ∃ g, g = w.heap.size + 1 := ⟨_, rfl⟩
  rw [← hgk] at y0 y1 hz
  rw [← hgj] at hC
  rw [← hgk, ← hgj]
  have hzj : gj < W.heap.size := by omega
  have HC := Lib.hid hC
  have HBW := Lib.hid hbW
  have HY := Lib.hid (And.intro y0 y1)
  obtain ⟨q0, q1, q2, q3, q4⟩ := hC
  clear hbW hgj hgk y0 y1
  go_upto_region 2 with (go_at_call 24; refine (checkJobP_any j a1 c1 a2 c2 _ (HSV.out.keep HBW.out) hsl (HBV.out.keep HBW.out) hbl).mono ?_; rw [HEJ.out]; rintro e w1 ⟨rfl, hb1⟩; have HB1 := Lib.hid hb1; clear hb1)
  have HC1 := Lib.hid (HC.out.keep HB1.out hzj)
  have HBW1 := Lib.hid (HBW.out.trans (HB1.out.mono HBW.out.size))
  have hzj1 := Nat.lt_of_lt_of_le hzj HB1.out.size
  have y0 := cell_keep HB1.out HY.out.1
  have y1 := cell_keep HB1.out HY.out.2
  clear q0 q1 q2 q3 q4 HC HBW HY hz
  by_cases hE : EJ = 0
  · subst hE
    have HJ := Lib.hid (jobOk_of HEJ.out)
    have hNB := HJ.out.lenB
    have htr := HJ.out.trim.1
    obtain ⟨q0, q1, q2, q3, q4⟩ := HC1.out
    by_cases hk0 : 0 ≤ k0 ∧ k0 ≤ 20
    · by_cases hk1 : 0 ≤ k1 ∧ k1 ≤ 20
      · have HW1 := Lib.hid (withinB_in hk0)
        have HW2 := Lib.hid (withinB_in hk1)
        have HWE := Lib.hid (weightsE_ok HEJ.out (And.intro hk0 hk1))
        obtain ⟨n0, hn0⟩ : ∃ n : Nat, k0 = n := ⟨k0.toNat, by omega⟩
        obtain ⟨n1, hn1⟩ : ∃ n : Nat, k1 = n := ⟨k1.toNat, by omega⟩
        subst hn0 hn1
        simp only [Int.toNat_natCast] at HWE ⊢
        have hn0 : n0 ≤ 20 := by omega
        have hn1 : n1 ≤ 20 := by omega
        have HY1 := Lib.hid (And.intro y0 y1)
        clear hk0 hk1
        go_upto_region 6 with (go_at_call 25; refine (cwithin_any _ _ _ _).mono ?_; rintro e w' ⟨rfl, rfl⟩; (first | rw [HW1.out] | rw [HW2.out]))
        clear y0 y1
        go_wp2_with fail
        clear q0 q1 q2 q3 q4
        go_loopw [8, 36] (fun v iv wr => ∃ k : Nat, k ≤ j.blanks.length ∧ iv = .int .i64 k ∧ Hid (wr.ownsRow w1.heap.size 50 2 v k (((j.blanks.take k).map (wfr j n0 n1)).flatMap cellsFr)) ∧ Hid (∀ x ∈ j.blanks.take k, fitsP j x) ∧ Below w1.heap.size w1 wr) (fun _ iv _ => j.blanks.length - (intOf iv).toNat)
        case atStart => exact ⟨0, Nat.zero_le _, rfl, Lib.hid (World.ownsRow_nil _ _ _ _), Lib.hid (fun x hx => by simp at hx), Below.refl _ _⟩
        case round =>
          obtain ⟨k, hk, rfl, HOW, HFI, hbr⟩ := hrel
          obtain ⟨av, cv, rfl, -, -⟩ := own_slice HOW.out
          obtain ⟨wo, rfl⟩ : ∃ wo : World, wo = wr := ⟨_, rfl⟩
          have HBO := Lib.hid hbr
          have HCO := Lib.hid (HC1.out.keep hbr hzj1)
          have HBB := Lib.hid (HBW1.out.trans (hbr.mono HBW1.out.size))
          have hzo := Nat.lt_of_lt_of_le hzj1 hbr.size
          have HYO := Lib.hid (And.intro (cell_keep hbr HY1.out.1) (cell_keep hbr HY1.out.2))
          clear hbr
          by_cases hlt : k < j.blanks.length
          · have hki : (k : Int) < (j.blanks.length : Int) := by omega
            have v1 : IntKind.i64.wrap ((k : Int) + 1) = (k : Int) + 1 := IntWalk.i64_in _ (by omega)
            obtain ⟨gl, off', hal, hcl⟩ := blank_row (HBV.out.keep HBB.out) hlt
            have HTK := Lib.hid (show j.blanks.take (k + 1) = j.blanks.take k ++ [j.blanks[k]] from List.take_succ_eq_append_getElem hlt)
            have HMEM := Lib.hid (List.getElem_mem hlt)
            have hwant := HJ.out.want _ (List.getElem_mem hlt)
            subst hal
            obtain ⟨t0, t1, t2, t3, t4, t5⟩ := hcl
            obtain ⟨q0, q1, q2, q3, q4⟩ := HCO.out
            obtain ⟨x, hx⟩ : ∃ x, j.blanks[k] = x := ⟨_, rfl⟩
            rw [hx] at t0 t1 t2 t3 t4 t5 HTK HMEM hwant
            clear hx
            have hrg := roomTo_rng HJ.out x.species j.stock.length (Nat.le_refl _)
            have HRM := Lib.hid (fun w9 hs => room_any j a1 c1 (some ⟨gl, off', none⟩) c2 x.species w9 hs HJ.out)
            have HFP := Lib.hid (show fitsP j x ↔ x.length ≤ (roomM j x.species).1 ∧ x.width ≤ (roomM j x.species).2 from Iff.rfl)
            have HRA := Lib.hid (show rmA j x = ((roomM j x.species).1 + j.trim.kerf).toNat ∧ rmB j x = ((roomM j x.species).2 + j.trim.kerf).toNat from ⟨rfl, rfl⟩)
            have hrg : (0 ≤ (roomM j x.species).1 ∧ (roomM j x.species).1 ≤ 600000) ∧ (0 ≤ (roomM j x.species).2 ∧ (roomM j x.species).2 ≤ 600000) := hrg
            obtain ⟨q, hq⟩ : ∃ q, roomM j x.species = q := ⟨_, rfl⟩
            rw [hq] at HRM HFP HRA hrg
            obtain ⟨la, lb⟩ := q
            simp only at HRM HFP HRA hrg
            clear hq
            go_upto_region 11 with fail
            refine gen_world (fun W1 => CellsB W1 wo.heap.size 0 x ∧ Below wo.heap.size wo W1) ⟨⟨by simp [go_sem], by simp [go_sem], by simp [go_sem], by simp [go_sem], by simp [go_sem], by simp [go_sem]⟩, by repeat (first | (with_reducible assumption) | exact Below.refl _ _ | (refine Below.setCell ?_ (by first | omega | (simp; omega) | (simp; done)) _) | (refine Below.alloc ?_ (by first | omega | (simp; omega) | (simp; done)) _) | (refine Below.drew ?_))⟩ ?_
            rintro W1 ⟨hcx, hb1⟩
            obtain ⟨g10, hg10⟩ : ∃ g, g = wo.heap.size := ⟨_, rfl⟩
            rw [← hg10] at hcx ⊢
            have HB1' := Lib.hid (HBB.out.trans (hb1.mono HBB.out.size))
            have HBx := Lib.hid hb1
            have HCX := Lib.hid hcx
            have HCO1 := Lib.hid (HCO.out.keep hb1 hzo)
            obtain ⟨d0, d1, d2, d3, d4, d5⟩ := hcx
            simp only [Nat.zero_add] at d0 d1 d2 d3 d4 d5
            clear t0 t1 t2 t3 t4 t5 hb1 hg10 q0 q1 q2 q3 q4
            obtain ⟨q0, q1, q2, q3, q4⟩ := HCO1.out
            go_upto_region 12 with (go_at_call 26; refine (HRM.out _ (HSV.out.keep HB1'.out)).mono ?_; rintro e w2 ⟨rfl, hb2⟩; have HB2 := Lib.hid (HBx.out.trans (hb2.mono HBx.out.size)); have HCX2 := Lib.hid (HCX.out.keep2 hb2); clear hb2)
            clear d0 d1 d2 d3 d4 d5 q0 q1 q2 q3 q4
            obtain ⟨d0, d1, d2, d3, d4, d5⟩ := HCX2.out
            simp only [Nat.zero_add] at d0 d1 d2 d3 d4 d5
            have HB2W := Lib.hid (HBO.out.trans (HB2.out.mono HBO.out.size))
            by_cases hf0 : x.length > la
            · have HE := Lib.hid (show weightsE j (n0 : Int) (n1 : Int) = 12 by rw [HWE.out, if_neg (fun h => by have := (HFP.out.1 (h x HMEM.out)).1; omega)])
              go_wp2_with fail
              refine bodyPost_ret (v := .tuple #[.slice none 0 0, .int .i64 12]) (by simp [results, Tryz.results7, go_sem]) rfl ?_
              exact ⟨none, 0, 0, by rw [HE.out], HBW1.out.trans (HB2W.out.mono HBW1.out.size), fun _ => ⟨rfl, rfl, rfl⟩, fun h => by rw [HE.out] at h; cases h⟩
            by_cases hf1 : x.width > lb
            · have HE := Lib.hid (show weightsE j (n0 : Int) (n1 : Int) = 12 by rw [HWE.out, if_neg (fun h => by have := (HFP.out.1 (h x HMEM.out)).2; omega)])
              go_wp2_with fail
              refine bodyPost_ret (v := .tuple #[.slice none 0 0, .int .i64 12]) (by simp [results, Tryz.results7, go_sem]) rfl ?_
              exact ⟨none, 0, 0, by rw [HE.out], HBW1.out.trans (HB2W.out.mono HBW1.out.size), fun _ => ⟨rfl, rfl, rfl⟩, fun h => by rw [HE.out] at h; cases h⟩
            have HFX := Lib.hid (HFP.out.2 ⟨by omega, by omega⟩)
            obtain ⟨A, hA⟩ : ∃ A, szA j x = A := ⟨_, rfl⟩
            obtain ⟨B, hB⟩ : ∃ B, szB j x = B := ⟨_, rfl⟩
            obtain ⟨D, hD⟩ : ∃ D, rmA j x = D := ⟨_, rfl⟩
            obtain ⟨G, hG⟩ : ∃ G, rmB j x = G := ⟨_, rfl⟩
            have eA : (A : Int) = x.length + j.trim.kerf := by rw [← hA]; unfold szA; omega
            have eB : (B : Int) = x.width + j.trim.kerf := by rw [← hB]; unfold szB; omega
            have eD : (D : Int) = la + j.trim.kerf := by rw [← hD, HRA.out.1]; omega
            have eG : (G : Int) = lb + j.trim.kerf := by rw [← hG, HRA.out.2]; omega
            have HWA := Lib.hid (fun w9 => cweight_any n0 A D w9 hn0 (by omega) (by omega) (by omega))
            have HWB := Lib.hid (fun w9 => cweight_any n1 B G w9 hn1 (by omega) (by omega) (by omega))
            obtain ⟨ua, ub, uc⟩ := wu_bds (k := n0) (num := A) (den := D) hn0 (by omega) (by omega) (by omega)
            obtain ⟨va, vb, vc⟩ := wu_bds (k := n1) (num := B) (den := G) hn1 (by omega) (by omega) (by omega)
            have HFR := Lib.hid (show wfr j n0 n1 x = ⟨lowNum (wuN n0 A D * wuN n1 B G) (wuD n0 A D * wuD n1 B G), lowDen (wuN n0 A D * wuN n1 B G) (wuD n0 A D * wuD n1 B G)⟩ by unfold wfr wfN wfD; rw [hA, hB, hD, hG])
            have v5 : IntKind.i64.wrap (x.length + j.trim.kerf) = (A : Int) := by rw [eA]; exact IntWalk.i64_in _ (by omega)
            have v6 : IntKind.i64.wrap (x.width + j.trim.kerf) = (B : Int) := by rw [eB]; exact IntWalk.i64_in _ (by omega)
            have v7 : IntKind.i64.wrap (la + j.trim.kerf) = (D : Int) := by rw [eD]; exact IntWalk.i64_in _ (by omega)
            have v8 : IntKind.i64.wrap (lb + j.trim.kerf) = (G : Int) := by rw [eG]; exact IntWalk.i64_in _ (by omega)
            have hwn : wNum n0 A D = ((wuN n0 A D : Nat) : Int) ∧ wDen n0 A D = ((wuD n0 A D : Nat) : Int) ∧ wNum n1 B G = ((wuN n1 B G : Nat) : Int) ∧ wDen n1 B G = ((wuD n1 B G : Nat) : Int) := ⟨rfl, rfl, rfl, rfl⟩
            rw [hwn.1, hwn.2.1] at HWA
            rw [hwn.2.2.1, hwn.2.2.2] at HWB
            clear hwn eA eB eD eG hA hB hD hG
            generalize wuN n0 A D = un at *
            generalize wuD n0 A D = ud at *
            generalize wuN n1 B G = vn at *
            generalize wuD n1 B G = vd at *
            have HFX2 := HFX
            have y0 := cell_keep HB2.out HYO.out.1
            have y1 := cell_keep HB2.out HYO.out.2
            obtain ⟨W0, hW0⟩ : ∃ W0, W0 = w2 := ⟨_, rfl⟩
            have hmix : Tryz.prog.follows .mixedOrders = true := by kernel_rfl
            go_upto_region 14 with fail
            rw [← hW0]
            rw [← hW0] at d0 d1 d2 d3 d4 d5 y0 y1
            refine wp_cut_slots [13, 14, 57, 58, 59, 60, 61, 62, 63, 64, 65, 66, 67, 68, 69, 70, 71, 72, 73, 74, 75, 76] (WCut W0 (.int .i64 un) (.int .i64 ud) (.int .i64 vn) (.int .i64 vd)) ?_ ?_
            · have kx0 : ∀ y : KW (fun W' => Below W0.heap.size W0 W'), (y.w.cell? ⟨gk, 0, none⟩ = some (.int .i64 n0) ∧ y.w.cell? ⟨gk, 1, none⟩ = some (.int .i64 n1)) ∧ y.w.cell? ⟨g10, 2, none⟩ = some (.int .i64 x.length) ∧ y.w.cell? ⟨g10, 3, none⟩ = some (.int .i64 x.width) := fun y => ⟨⟨cell_keep y.ok y0, cell_keep y.ok y1⟩, cell_keep y.ok d2, cell_keep y.ok d3⟩
              clear d0 d1 d2 d3 d4 d5 y0 y1 hW0
              haveI n1' : Nonempty (KW (fun W' => Below W0.heap.size W0 W')) := ⟨⟨W0, Below.refl _ _⟩⟩
              refine wp_region_tree (fun w' => ∃ y : KW (fun W' => Below W0.heap.size W0 W'), w' = y.w) 22 (.take 0 (.take 1 (.take 2 (.take 3 (.take 4 (.take 5 (.take 6 (.take 7 (.take 8 (.take 10 (.take 11 (.take 12 (.take 13 (.take 14 (.take 15 (.take 16 (.take 17 (.take 18 (.three 9 (.three 19 (.two 20 (.one 21 .done) 21 (.one 20 .done)) 20 (.two 19 (.one 21 .done) 21 (.one 19 .done)) 21 (.two 19 (.one 20 .done) 20 (.one 19 .done))) 20 (.two 9 (.two 19 (.one 21 .done) 21 (.one 19 .done)) 21 (.one 9 (.one 19 .done))) 21 (.two 9 (.two 19 (.one 20 .done) 20 (.one 19 .done)) 20 (.one 9 (.one 19 .done)))))))))))))))))))))) hmix (by kernel_rfl) (KW.mk' (Below.refl _ _).drew) ?_
              have hB0 : Below W0.heap.size W0 W0.drew := (Below.refl _ _).drew
              generalize W0.drew = w0 at *
              have HB0 := Lib.hid hB0
              clear hB0
              repeat (refine wpTree_take ?_; simp only [nthOp]; (first | go_big_quiet_step (fail) | quiet_step (fail)); refine wpQuiet_nil ?_)
              refine wpTree_three ?_ ?_ ?_
              · simp only [nthOp]
                go_wp2_with (go_at_call 27; refine (HWA.out _).mono ?_; rintro e w1 ⟨rfl, hb⟩; have HB1 := Lib.hid (HB0.out.trans (hb.mono HB0.out.size)); clear hb)
                refine One_mk (KW.mk' HB1.out) ?_
                refine wpTree_three ?_ ?_ ?_
                · simp only [nthOp]
                  go_wp2_with (go_at_call 27; refine (HWB.out _).mono ?_; rintro e w2 ⟨rfl, hb⟩; have HB2 := Lib.hid (HB1.out.trans (hb.mono HB1.out.size)); clear hb)
                  refine One_mk (KW.mk' HB2.out) ?_
                  refine wpTree_two ?_ ?_
                  · simp only [nthOp]
                    go_wp2_with fail
                    refine One_mk (KW.mk' (HB2.out.alloc HB2.out.size _)) ?_
                    refine gen_any (G := fun W' => wpTree _ _ _ _ _ _ _ W') (fun W' => FrZ W' w2.heap.size ∧ Below w2.heap.size w2 W' ∧ w2.heap.size < W'.heap.size) ⟨⟨⟨by simp [go_sem], by simp [go_sem]⟩, by simp [go_sem], by simp [go_sem]⟩, (Below.refl _ _).alloc (Nat.le_refl _) _, by simp⟩ ?_
                    rintro w3 ⟨hz, hb, hs⟩
                    obtain ⟨g13, hg⟩ : ∃ g, g = w2.heap.size := ⟨_, rfl⟩
                    rw [← hg] at hz hs ⊢
                    have hg13 : W0.heap.size ≤ g13 := by have := HB2.out.size; omega
                    have HZ133 := Lib.hid hz
                    have HB3 := Lib.hid (HB2.out.trans (hb.mono HB2.out.size))
                    clear hz hb hs hg
                    refine wpTree_one ?_
                    simp only [nthOp]
                    go_wp2_with fail
                    refine One_mk (KW.mk' (HB3.out.alloc HB3.out.size _)) ?_
                    refine gen_any (G := fun W' => wpTree _ _ _ _ _ _ _ W') (fun W' => FrZ W' w3.heap.size ∧ Below w3.heap.size w3 W' ∧ w3.heap.size < W'.heap.size) ⟨⟨⟨by simp [go_sem], by simp [go_sem]⟩, by simp [go_sem], by simp [go_sem]⟩, (Below.refl _ _).alloc (Nat.le_refl _) _, by simp⟩ ?_
                    rintro w4 ⟨hz, hb, hs⟩
                    obtain ⟨g14, hg⟩ : ∃ g, g = w3.heap.size := ⟨_, rfl⟩
                    rw [← hg] at hz hs ⊢
                    have hg14 : W0.heap.size ≤ g14 := by have := HB3.out.size; omega
                    have HZ144 := Lib.hid hz
                    have hne : g13 < g14 := by have := HZ133.out.lt; omega
                    have HZ134 := Lib.hid (HZ133.out.keep hb)
                    have HB4 := Lib.hid (HB3.out.trans (hb.mono HB3.out.size))
                    clear hz hb hs hg
                    refine wpTree_done ?_
                    simp only [List.drop_succ_cons, List.drop_zero]
                    obtain ⟨⟨z130, z131⟩, f130, f131⟩ := HZ134.out
                    obtain ⟨⟨z140, z141⟩, f140, f141⟩ := HZ144.out
                    go_wp2_with fail
                    refine NP_mk ?_
                    exact cut_meet (by simp [forget]) (WCut.mk (g5 := g13) (g6 := g14) rfl rfl (two_set z130 z131 z140 z141 (by omega)) ((((HB4.out.setCell hg13 _).setCell hg13 _).setCell hg14 _).setCell hg14 _))
                  · simp only [nthOp]
                    go_wp2_with fail
                    refine One_mk (KW.mk' (HB2.out.alloc HB2.out.size _)) ?_
                    refine gen_any (G := fun W' => wpTree _ _ _ _ _ _ _ W') (fun W' => FrZ W' w2.heap.size ∧ Below w2.heap.size w2 W' ∧ w2.heap.size < W'.heap.size) ⟨⟨⟨by simp [go_sem], by simp [go_sem]⟩, by simp [go_sem], by simp [go_sem]⟩, (Below.refl _ _).alloc (Nat.le_refl _) _, by simp⟩ ?_
                    rintro w3 ⟨hz, hb, hs⟩
                    obtain ⟨g14, hg⟩ : ∃ g, g = w2.heap.size := ⟨_, rfl⟩
                    rw [← hg] at hz hs ⊢
                    have hg14 : W0.heap.size ≤ g14 := by have := HB2.out.size; omega
                    have HZ143 := Lib.hid hz
                    have HB3 := Lib.hid (HB2.out.trans (hb.mono HB2.out.size))
                    clear hz hb hs hg
                    refine wpTree_one ?_
                    simp only [nthOp]
                    go_wp2_with fail
                    refine One_mk (KW.mk' (HB3.out.alloc HB3.out.size _)) ?_
                    refine gen_any (G := fun W' => wpTree _ _ _ _ _ _ _ W') (fun W' => FrZ W' w3.heap.size ∧ Below w3.heap.size w3 W' ∧ w3.heap.size < W'.heap.size) ⟨⟨⟨by simp [go_sem], by simp [go_sem]⟩, by simp [go_sem], by simp [go_sem]⟩, (Below.refl _ _).alloc (Nat.le_refl _) _, by simp⟩ ?_
                    rintro w4 ⟨hz, hb, hs⟩
                    obtain ⟨g13, hg⟩ : ∃ g, g = w3.heap.size := ⟨_, rfl⟩
                    rw [← hg] at hz hs ⊢
                    have hg13 : W0.heap.size ≤ g13 := by have := HB3.out.size; omega
                    have HZ134 := Lib.hid hz
                    have hne : g14 < g13 := by have := HZ143.out.lt; omega
                    have HZ144 := Lib.hid (HZ143.out.keep hb)
                    have HB4 := Lib.hid (HB3.out.trans (hb.mono HB3.out.size))
                    clear hz hb hs hg
                    refine wpTree_done ?_
                    simp only [List.drop_succ_cons, List.drop_zero]
                    obtain ⟨⟨z130, z131⟩, f130, f131⟩ := HZ134.out
                    obtain ⟨⟨z140, z141⟩, f140, f141⟩ := HZ144.out
                    go_wp2_with fail
                    refine NP_mk ?_
                    exact cut_meet (by simp [forget]) (WCut.mk (g5 := g13) (g6 := g14) rfl rfl (two_set z130 z131 z140 z141 (by omega)) ((((HB4.out.setCell hg13 _).setCell hg13 _).setCell hg14 _).setCell hg14 _))
                · simp only [nthOp]
                  go_wp2_with fail
                  refine One_mk (KW.mk' (HB1.out.alloc HB1.out.size _)) ?_
                  refine gen_any (G := fun W' => wpTree _ _ _ _ _ _ _ W') (fun W' => FrZ W' w1.heap.size ∧ Below w1.heap.size w1 W' ∧ w1.heap.size < W'.heap.size) ⟨⟨⟨by simp [go_sem], by simp [go_sem]⟩, by simp [go_sem], by simp [go_sem]⟩, (Below.refl _ _).alloc (Nat.le_refl _) _, by simp⟩ ?_
                  rintro w2 ⟨hz, hb, hs⟩
                  obtain ⟨g13, hg⟩ : ∃ g, g = w1.heap.size := ⟨_, rfl⟩
                  rw [← hg] at hz hs ⊢
                  have hg13 : W0.heap.size ≤ g13 := by have := HB1.out.size; omega
                  have HZ132 := Lib.hid hz
                  have HB2 := Lib.hid (HB1.out.trans (hb.mono HB1.out.size))
                  clear hz hb hs hg
                  refine wpTree_two ?_ ?_
                  · simp only [nthOp]
                    go_wp2_with (go_at_call 27; refine (HWB.out _).mono ?_; rintro e w3 ⟨rfl, hb⟩; have HB3 := Lib.hid (HB2.out.trans (hb.mono HB2.out.size)); have HZ133 := Lib.hid (HZ132.out.keep hb); clear hb)
                    refine One_mk (KW.mk' HB3.out) ?_
                    refine wpTree_one ?_
                    simp only [nthOp]
                    go_wp2_with fail
                    refine One_mk (KW.mk' (HB3.out.alloc HB3.out.size _)) ?_
                    refine gen_any (G := fun W' => wpTree _ _ _ _ _ _ _ W') (fun W' => FrZ W' w3.heap.size ∧ Below w3.heap.size w3 W' ∧ w3.heap.size < W'.heap.size) ⟨⟨⟨by simp [go_sem], by simp [go_sem]⟩, by simp [go_sem], by simp [go_sem]⟩, (Below.refl _ _).alloc (Nat.le_refl _) _, by simp⟩ ?_
                    rintro w4 ⟨hz, hb, hs⟩
                    obtain ⟨g14, hg⟩ : ∃ g, g = w3.heap.size := ⟨_, rfl⟩
                    rw [← hg] at hz hs ⊢
                    have hg14 : W0.heap.size ≤ g14 := by have := HB3.out.size; omega
                    have HZ144 := Lib.hid hz
                    have hne : g13 < g14 := by have := HZ133.out.lt; omega
                    have HZ134 := Lib.hid (HZ133.out.keep hb)
                    have HB4 := Lib.hid (HB3.out.trans (hb.mono HB3.out.size))
                    clear hz hb hs hg
                    refine wpTree_done ?_
                    simp only [List.drop_succ_cons, List.drop_zero]
                    obtain ⟨⟨z130, z131⟩, f130, f131⟩ := HZ134.out
                    obtain ⟨⟨z140, z141⟩, f140, f141⟩ := HZ144.out
                    go_wp2_with fail
                    refine NP_mk ?_
                    exact cut_meet (by simp [forget]) (WCut.mk (g5 := g13) (g6 := g14) rfl rfl (two_set z130 z131 z140 z141 (by omega)) ((((HB4.out.setCell hg13 _).setCell hg13 _).setCell hg14 _).setCell hg14 _))
                  · simp only [nthOp]
                    go_wp2_with fail
                    refine One_mk (KW.mk' (HB2.out.alloc HB2.out.size _)) ?_
                    refine gen_any (G := fun W' => wpTree _ _ _ _ _ _ _ W') (fun W' => FrZ W' w2.heap.size ∧ Below w2.heap.size w2 W' ∧ w2.heap.size < W'.heap.size) ⟨⟨⟨by simp [go_sem], by simp [go_sem]⟩, by simp [go_sem], by simp [go_sem]⟩, (Below.refl _ _).alloc (Nat.le_refl _) _, by simp⟩ ?_
                    rintro w3 ⟨hz, hb, hs⟩
                    obtain ⟨g14, hg⟩ : ∃ g, g = w2.heap.size := ⟨_, rfl⟩
                    rw [← hg] at hz hs ⊢
                    have hg14 : W0.heap.size ≤ g14 := by have := HB2.out.size; omega
                    have HZ143 := Lib.hid hz
                    have hne : g13 < g14 := by have := HZ132.out.lt; omega
                    have HZ133 := Lib.hid (HZ132.out.keep hb)
                    have HB3 := Lib.hid (HB2.out.trans (hb.mono HB2.out.size))
                    clear hz hb hs hg
                    refine wpTree_one ?_
                    simp only [nthOp]
                    go_wp2_with (go_at_call 27; refine (HWB.out _).mono ?_; rintro e w4 ⟨rfl, hb⟩; have HB4 := Lib.hid (HB3.out.trans (hb.mono HB3.out.size)); have HZ134 := Lib.hid (HZ133.out.keep hb); have HZ144 := Lib.hid (HZ143.out.keep hb); clear hb)
                    refine One_mk (KW.mk' HB4.out) ?_
                    refine wpTree_done ?_
                    simp only [List.drop_succ_cons, List.drop_zero]
                    obtain ⟨⟨z130, z131⟩, f130, f131⟩ := HZ134.out
                    obtain ⟨⟨z140, z141⟩, f140, f141⟩ := HZ144.out
                    go_wp2_with fail
                    refine NP_mk ?_
                    exact cut_meet (by simp [forget]) (WCut.mk (g5 := g13) (g6 := g14) rfl rfl (two_set z130 z131 z140 z141 (by omega)) ((((HB4.out.setCell hg13 _).setCell hg13 _).setCell hg14 _).setCell hg14 _))
                · simp only [nthOp]
                  go_wp2_with fail
                  refine One_mk (KW.mk' (HB1.out.alloc HB1.out.size _)) ?_
                  refine gen_any (G := fun W' => wpTree _ _ _ _ _ _ _ W') (fun W' => FrZ W' w1.heap.size ∧ Below w1.heap.size w1 W' ∧ w1.heap.size < W'.heap.size) ⟨⟨⟨by simp [go_sem], by simp [go_sem]⟩, by simp [go_sem], by simp [go_sem]⟩, (Below.refl _ _).alloc (Nat.le_refl _) _, by simp⟩ ?_
                  rintro w2 ⟨hz, hb, hs⟩
                  obtain ⟨g14, hg⟩ : ∃ g, g = w1.heap.size := ⟨_, rfl⟩
                  rw [← hg] at hz hs ⊢
                  have hg14 : W0.heap.size ≤ g14 := by have := HB1.out.size; omega
                  have HZ142 := Lib.hid hz
                  have HB2 := Lib.hid (HB1.out.trans (hb.mono HB1.out.size))
                  clear hz hb hs hg
                  refine wpTree_two ?_ ?_
                  · simp only [nthOp]
                    go_wp2_with (go_at_call 27; refine (HWB.out _).mono ?_; rintro e w3 ⟨rfl, hb⟩; have HB3 := Lib.hid (HB2.out.trans (hb.mono HB2.out.size)); have HZ143 := Lib.hid (HZ142.out.keep hb); clear hb)
                    refine One_mk (KW.mk' HB3.out) ?_
                    refine wpTree_one ?_
                    simp only [nthOp]
                    go_wp2_with fail
                    refine One_mk (KW.mk' (HB3.out.alloc HB3.out.size _)) ?_
                    refine gen_any (G := fun W' => wpTree _ _ _ _ _ _ _ W') (fun W' => FrZ W' w3.heap.size ∧ Below w3.heap.size w3 W' ∧ w3.heap.size < W'.heap.size) ⟨⟨⟨by simp [go_sem], by simp [go_sem]⟩, by simp [go_sem], by simp [go_sem]⟩, (Below.refl _ _).alloc (Nat.le_refl _) _, by simp⟩ ?_
                    rintro w4 ⟨hz, hb, hs⟩
                    obtain ⟨g13, hg⟩ : ∃ g, g = w3.heap.size := ⟨_, rfl⟩
                    rw [← hg] at hz hs ⊢
                    have hg13 : W0.heap.size ≤ g13 := by have := HB3.out.size; omega
                    have HZ134 := Lib.hid hz
                    have hne : g14 < g13 := by have := HZ143.out.lt; omega
                    have HZ144 := Lib.hid (HZ143.out.keep hb)
                    have HB4 := Lib.hid (HB3.out.trans (hb.mono HB3.out.size))
                    clear hz hb hs hg
                    refine wpTree_done ?_
                    simp only [List.drop_succ_cons, List.drop_zero]
                    obtain ⟨⟨z130, z131⟩, f130, f131⟩ := HZ134.out
                    obtain ⟨⟨z140, z141⟩, f140, f141⟩ := HZ144.out
                    go_wp2_with fail
                    refine NP_mk ?_
                    exact cut_meet (by simp [forget]) (WCut.mk (g5 := g13) (g6 := g14) rfl rfl (two_set z130 z131 z140 z141 (by omega)) ((((HB4.out.setCell hg13 _).setCell hg13 _).setCell hg14 _).setCell hg14 _))
                  · simp only [nthOp]
                    go_wp2_with fail
                    refine One_mk (KW.mk' (HB2.out.alloc HB2.out.size _)) ?_
                    refine gen_any (G := fun W' => wpTree _ _ _ _ _ _ _ W') (fun W' => FrZ W' w2.heap.size ∧ Below w2.heap.size w2 W' ∧ w2.heap.size < W'.heap.size) ⟨⟨⟨by simp [go_sem], by simp [go_sem]⟩, by simp [go_sem], by simp [go_sem]⟩, (Below.refl _ _).alloc (Nat.le_refl _) _, by simp⟩ ?_
                    rintro w3 ⟨hz, hb, hs⟩
                    obtain ⟨g13, hg⟩ : ∃ g, g = w2.heap.size := ⟨_, rfl⟩
                    rw [← hg] at hz hs ⊢
                    have hg13 : W0.heap.size ≤ g13 := by have := HB2.out.size; omega
                    have HZ133 := Lib.hid hz
                    have hne : g14 < g13 := by have := HZ142.out.lt; omega
                    have HZ143 := Lib.hid (HZ142.out.keep hb)
                    have HB3 := Lib.hid (HB2.out.trans (hb.mono HB2.out.size))
                    clear hz hb hs hg
                    refine wpTree_one ?_
                    simp only [nthOp]
                    go_wp2_with (go_at_call 27; refine (HWB.out _).mono ?_; rintro e w4 ⟨rfl, hb⟩; have HB4 := Lib.hid (HB3.out.trans (hb.mono HB3.out.size)); have HZ144 := Lib.hid (HZ143.out.keep hb); have HZ134 := Lib.hid (HZ133.out.keep hb); clear hb)
                    refine One_mk (KW.mk' HB4.out) ?_
                    refine wpTree_done ?_
                    simp only [List.drop_succ_cons, List.drop_zero]
                    obtain ⟨⟨z130, z131⟩, f130, f131⟩ := HZ134.out
                    obtain ⟨⟨z140, z141⟩, f140, f141⟩ := HZ144.out
                    go_wp2_with fail
                    refine NP_mk ?_
                    exact cut_meet (by simp [forget]) (WCut.mk (g5 := g13) (g6 := g14) rfl rfl (two_set z130 z131 z140 z141 (by omega)) ((((HB4.out.setCell hg13 _).setCell hg13 _).setCell hg14 _).setCell hg14 _))
              · simp only [nthOp]
                go_wp2_with fail
                refine One_mk (KW.mk' (HB0.out.alloc HB0.out.size _)) ?_
                refine gen_any (G := fun W' => wpTree _ _ _ _ _ _ _ W') (fun W' => FrZ W' w0.heap.size ∧ Below w0.heap.size w0 W' ∧ w0.heap.size < W'.heap.size) ⟨⟨⟨by simp [go_sem], by simp [go_sem]⟩, by simp [go_sem], by simp [go_sem]⟩, (Below.refl _ _).alloc (Nat.le_refl _) _, by simp⟩ ?_
                rintro w1 ⟨hz, hb, hs⟩
                obtain ⟨g13, hg⟩ : ∃ g, g = w0.heap.size := ⟨_, rfl⟩
                rw [← hg] at hz hs ⊢
                have hg13 : W0.heap.size ≤ g13 := by have := HB0.out.size; omega
                have HZ131 := Lib.hid hz
                have HB1 := Lib.hid (HB0.out.trans (hb.mono HB0.out.size))
                clear hz hb hs hg
                refine wpTree_two ?_ ?_
                · simp only [nthOp]
                  go_wp2_with (go_at_call 27; refine (HWA.out _).mono ?_; rintro e w2 ⟨rfl, hb⟩; have HB2 := Lib.hid (HB1.out.trans (hb.mono HB1.out.size)); have HZ132 := Lib.hid (HZ131.out.keep hb); clear hb)
                  refine One_mk (KW.mk' HB2.out) ?_
                  refine wpTree_two ?_ ?_
                  · simp only [nthOp]
                    go_wp2_with (go_at_call 27; refine (HWB.out _).mono ?_; rintro e w3 ⟨rfl, hb⟩; have HB3 := Lib.hid (HB2.out.trans (hb.mono HB2.out.size)); have HZ133 := Lib.hid (HZ132.out.keep hb); clear hb)
                    refine One_mk (KW.mk' HB3.out) ?_
                    refine wpTree_one ?_
                    simp only [nthOp]
                    go_wp2_with fail
                    refine One_mk (KW.mk' (HB3.out.alloc HB3.out.size _)) ?_
                    refine gen_any (G := fun W' => wpTree _ _ _ _ _ _ _ W') (fun W' => FrZ W' w3.heap.size ∧ Below w3.heap.size w3 W' ∧ w3.heap.size < W'.heap.size) ⟨⟨⟨by simp [go_sem], by simp [go_sem]⟩, by simp [go_sem], by simp [go_sem]⟩, (Below.refl _ _).alloc (Nat.le_refl _) _, by simp⟩ ?_
                    rintro w4 ⟨hz, hb, hs⟩
                    obtain ⟨g14, hg⟩ : ∃ g, g = w3.heap.size := ⟨_, rfl⟩
                    rw [← hg] at hz hs ⊢
                    have hg14 : W0.heap.size ≤ g14 := by have := HB3.out.size; omega
                    have HZ144 := Lib.hid hz
                    have hne : g13 < g14 := by have := HZ133.out.lt; omega
                    have HZ134 := Lib.hid (HZ133.out.keep hb)
                    have HB4 := Lib.hid (HB3.out.trans (hb.mono HB3.out.size))
                    clear hz hb hs hg
                    refine wpTree_done ?_
                    simp only [List.drop_succ_cons, List.drop_zero]
                    obtain ⟨⟨z130, z131⟩, f130, f131⟩ := HZ134.out
                    obtain ⟨⟨z140, z141⟩, f140, f141⟩ := HZ144.out
                    go_wp2_with fail
                    refine NP_mk ?_
                    exact cut_meet (by simp [forget]) (WCut.mk (g5 := g13) (g6 := g14) rfl rfl (two_set z130 z131 z140 z141 (by omega)) ((((HB4.out.setCell hg13 _).setCell hg13 _).setCell hg14 _).setCell hg14 _))
                  · simp only [nthOp]
                    go_wp2_with fail
                    refine One_mk (KW.mk' (HB2.out.alloc HB2.out.size _)) ?_
                    refine gen_any (G := fun W' => wpTree _ _ _ _ _ _ _ W') (fun W' => FrZ W' w2.heap.size ∧ Below w2.heap.size w2 W' ∧ w2.heap.size < W'.heap.size) ⟨⟨⟨by simp [go_sem], by simp [go_sem]⟩, by simp [go_sem], by simp [go_sem]⟩, (Below.refl _ _).alloc (Nat.le_refl _) _, by simp⟩ ?_
                    rintro w3 ⟨hz, hb, hs⟩
                    obtain ⟨g14, hg⟩ : ∃ g, g = w2.heap.size := ⟨_, rfl⟩
                    rw [← hg] at hz hs ⊢
                    have hg14 : W0.heap.size ≤ g14 := by have := HB2.out.size; omega
                    have HZ143 := Lib.hid hz
                    have hne : g13 < g14 := by have := HZ132.out.lt; omega
                    have HZ133 := Lib.hid (HZ132.out.keep hb)
                    have HB3 := Lib.hid (HB2.out.trans (hb.mono HB2.out.size))
                    clear hz hb hs hg
                    refine wpTree_one ?_
                    simp only [nthOp]
                    go_wp2_with (go_at_call 27; refine (HWB.out _).mono ?_; rintro e w4 ⟨rfl, hb⟩; have HB4 := Lib.hid (HB3.out.trans (hb.mono HB3.out.size)); have HZ134 := Lib.hid (HZ133.out.keep hb); have HZ144 := Lib.hid (HZ143.out.keep hb); clear hb)
                    refine One_mk (KW.mk' HB4.out) ?_
                    refine wpTree_done ?_
                    simp only [List.drop_succ_cons, List.drop_zero]
                    obtain ⟨⟨z130, z131⟩, f130, f131⟩ := HZ134.out
                    obtain ⟨⟨z140, z141⟩, f140, f141⟩ := HZ144.out
                    go_wp2_with fail
                    refine NP_mk ?_
                    exact cut_meet (by simp [forget]) (WCut.mk (g5 := g13) (g6 := g14) rfl rfl (two_set z130 z131 z140 z141 (by omega)) ((((HB4.out.setCell hg13 _).setCell hg13 _).setCell hg14 _).setCell hg14 _))
                · simp only [nthOp]
                  go_wp2_with fail
                  refine One_mk (KW.mk' (HB1.out.alloc HB1.out.size _)) ?_
                  refine gen_any (G := fun W' => wpTree _ _ _ _ _ _ _ W') (fun W' => FrZ W' w1.heap.size ∧ Below w1.heap.size w1 W' ∧ w1.heap.size < W'.heap.size) ⟨⟨⟨by simp [go_sem], by simp [go_sem]⟩, by simp [go_sem], by simp [go_sem]⟩, (Below.refl _ _).alloc (Nat.le_refl _) _, by simp⟩ ?_
                  rintro w2 ⟨hz, hb, hs⟩
                  obtain ⟨g14, hg⟩ : ∃ g, g = w1.heap.size := ⟨_, rfl⟩
                  rw [← hg] at hz hs ⊢
                  have hg14 : W0.heap.size ≤ g14 := by have := HB1.out.size; omega
                  have HZ142 := Lib.hid hz
                  have hne : g13 < g14 := by have := HZ131.out.lt; omega
                  have HZ132 := Lib.hid (HZ131.out.keep hb)
                  have HB2 := Lib.hid (HB1.out.trans (hb.mono HB1.out.size))
                  clear hz hb hs hg
                  refine wpTree_one ?_
                  simp only [nthOp]
                  go_wp2_with (go_at_call 27; refine (HWA.out _).mono ?_; rintro e w3 ⟨rfl, hb⟩; have HB3 := Lib.hid (HB2.out.trans (hb.mono HB2.out.size)); have HZ133 := Lib.hid (HZ132.out.keep hb); have HZ143 := Lib.hid (HZ142.out.keep hb); clear hb)
                  refine One_mk (KW.mk' HB3.out) ?_
                  refine wpTree_one ?_
                  simp only [nthOp]
                  go_wp2_with (go_at_call 27; refine (HWB.out _).mono ?_; rintro e w4 ⟨rfl, hb⟩; have HB4 := Lib.hid (HB3.out.trans (hb.mono HB3.out.size)); have HZ134 := Lib.hid (HZ133.out.keep hb); have HZ144 := Lib.hid (HZ143.out.keep hb); clear hb)
                  refine One_mk (KW.mk' HB4.out) ?_
                  refine wpTree_done ?_
                  simp only [List.drop_succ_cons, List.drop_zero]
                  obtain ⟨⟨z130, z131⟩, f130, f131⟩ := HZ134.out
                  obtain ⟨⟨z140, z141⟩, f140, f141⟩ := HZ144.out
                  go_wp2_with fail
                  refine NP_mk ?_
                  exact cut_meet (by simp [forget]) (WCut.mk (g5 := g13) (g6 := g14) rfl rfl (two_set z130 z131 z140 z141 (by omega)) ((((HB4.out.setCell hg13 _).setCell hg13 _).setCell hg14 _).setCell hg14 _))
              · simp only [nthOp]
                go_wp2_with fail
                refine One_mk (KW.mk' (HB0.out.alloc HB0.out.size _)) ?_
                refine gen_any (G := fun W' => wpTree _ _ _ _ _ _ _ W') (fun W' => FrZ W' w0.heap.size ∧ Below w0.heap.size w0 W' ∧ w0.heap.size < W'.heap.size) ⟨⟨⟨by simp [go_sem], by simp [go_sem]⟩, by simp [go_sem], by simp [go_sem]⟩, (Below.refl _ _).alloc (Nat.le_refl _) _, by simp⟩ ?_
                rintro w1 ⟨hz, hb, hs⟩
                obtain ⟨g14, hg⟩ : ∃ g, g = w0.heap.size := ⟨_, rfl⟩
                rw [← hg] at hz hs ⊢
                have hg14 : W0.heap.size ≤ g14 := by have := HB0.out.size; omega
                have HZ141 := Lib.hid hz
                have HB1 := Lib.hid (HB0.out.trans (hb.mono HB0.out.size))
                clear hz hb hs hg
                refine wpTree_two ?_ ?_
                · simp only [nthOp]
                  go_wp2_with (go_at_call 27; refine (HWA.out _).mono ?_; rintro e w2 ⟨rfl, hb⟩; have HB2 := Lib.hid (HB1.out.trans (hb.mono HB1.out.size)); have HZ142 := Lib.hid (HZ141.out.keep hb); clear hb)
                  refine One_mk (KW.mk' HB2.out) ?_
                  refine wpTree_two ?_ ?_
                  · simp only [nthOp]
                    go_wp2_with (go_at_call 27; refine (HWB.out _).mono ?_; rintro e w3 ⟨rfl, hb⟩; have HB3 := Lib.hid (HB2.out.trans (hb.mono HB2.out.size)); have HZ143 := Lib.hid (HZ142.out.keep hb); clear hb)
                    refine One_mk (KW.mk' HB3.out) ?_
                    refine wpTree_one ?_
                    simp only [nthOp]
                    go_wp2_with fail
                    refine One_mk (KW.mk' (HB3.out.alloc HB3.out.size _)) ?_
                    refine gen_any (G := fun W' => wpTree _ _ _ _ _ _ _ W') (fun W' => FrZ W' w3.heap.size ∧ Below w3.heap.size w3 W' ∧ w3.heap.size < W'.heap.size) ⟨⟨⟨by simp [go_sem], by simp [go_sem]⟩, by simp [go_sem], by simp [go_sem]⟩, (Below.refl _ _).alloc (Nat.le_refl _) _, by simp⟩ ?_
                    rintro w4 ⟨hz, hb, hs⟩
                    obtain ⟨g13, hg⟩ : ∃ g, g = w3.heap.size := ⟨_, rfl⟩
                    rw [← hg] at hz hs ⊢
                    have hg13 : W0.heap.size ≤ g13 := by have := HB3.out.size; omega
                    have HZ134 := Lib.hid hz
                    have hne : g14 < g13 := by have := HZ143.out.lt; omega
                    have HZ144 := Lib.hid (HZ143.out.keep hb)
                    have HB4 := Lib.hid (HB3.out.trans (hb.mono HB3.out.size))
                    clear hz hb hs hg
                    refine wpTree_done ?_
                    simp only [List.drop_succ_cons, List.drop_zero]
                    obtain ⟨⟨z130, z131⟩, f130, f131⟩ := HZ134.out
                    obtain ⟨⟨z140, z141⟩, f140, f141⟩ := HZ144.out
                    go_wp2_with fail
                    refine NP_mk ?_
                    exact cut_meet (by simp [forget]) (WCut.mk (g5 := g13) (g6 := g14) rfl rfl (two_set z130 z131 z140 z141 (by omega)) ((((HB4.out.setCell hg13 _).setCell hg13 _).setCell hg14 _).setCell hg14 _))
                  · simp only [nthOp]
                    go_wp2_with fail
                    refine One_mk (KW.mk' (HB2.out.alloc HB2.out.size _)) ?_
                    refine gen_any (G := fun W' => wpTree _ _ _ _ _ _ _ W') (fun W' => FrZ W' w2.heap.size ∧ Below w2.heap.size w2 W' ∧ w2.heap.size < W'.heap.size) ⟨⟨⟨by simp [go_sem], by simp [go_sem]⟩, by simp [go_sem], by simp [go_sem]⟩, (Below.refl _ _).alloc (Nat.le_refl _) _, by simp⟩ ?_
                    rintro w3 ⟨hz, hb, hs⟩
                    obtain ⟨g13, hg⟩ : ∃ g, g = w2.heap.size := ⟨_, rfl⟩
                    rw [← hg] at hz hs ⊢
                    have hg13 : W0.heap.size ≤ g13 := by have := HB2.out.size; omega
                    have HZ133 := Lib.hid hz
                    have hne : g14 < g13 := by have := HZ142.out.lt; omega
                    have HZ143 := Lib.hid (HZ142.out.keep hb)
                    have HB3 := Lib.hid (HB2.out.trans (hb.mono HB2.out.size))
                    clear hz hb hs hg
                    refine wpTree_one ?_
                    simp only [nthOp]
                    go_wp2_with (go_at_call 27; refine (HWB.out _).mono ?_; rintro e w4 ⟨rfl, hb⟩; have HB4 := Lib.hid (HB3.out.trans (hb.mono HB3.out.size)); have HZ144 := Lib.hid (HZ143.out.keep hb); have HZ134 := Lib.hid (HZ133.out.keep hb); clear hb)
                    refine One_mk (KW.mk' HB4.out) ?_
                    refine wpTree_done ?_
                    simp only [List.drop_succ_cons, List.drop_zero]
                    obtain ⟨⟨z130, z131⟩, f130, f131⟩ := HZ134.out
                    obtain ⟨⟨z140, z141⟩, f140, f141⟩ := HZ144.out
                    go_wp2_with fail
                    refine NP_mk ?_
                    exact cut_meet (by simp [forget]) (WCut.mk (g5 := g13) (g6 := g14) rfl rfl (two_set z130 z131 z140 z141 (by omega)) ((((HB4.out.setCell hg13 _).setCell hg13 _).setCell hg14 _).setCell hg14 _))
                · simp only [nthOp]
                  go_wp2_with fail
                  refine One_mk (KW.mk' (HB1.out.alloc HB1.out.size _)) ?_
                  refine gen_any (G := fun W' => wpTree _ _ _ _ _ _ _ W') (fun W' => FrZ W' w1.heap.size ∧ Below w1.heap.size w1 W' ∧ w1.heap.size < W'.heap.size) ⟨⟨⟨by simp [go_sem], by simp [go_sem]⟩, by simp [go_sem], by simp [go_sem]⟩, (Below.refl _ _).alloc (Nat.le_refl _) _, by simp⟩ ?_
                  rintro w2 ⟨hz, hb, hs⟩
                  obtain ⟨g13, hg⟩ : ∃ g, g = w1.heap.size := ⟨_, rfl⟩
                  rw [← hg] at hz hs ⊢
                  have hg13 : W0.heap.size ≤ g13 := by have := HB1.out.size; omega
                  have HZ132 := Lib.hid hz
                  have hne : g14 < g13 := by have := HZ141.out.lt; omega
                  have HZ142 := Lib.hid (HZ141.out.keep hb)
                  have HB2 := Lib.hid (HB1.out.trans (hb.mono HB1.out.size))
                  clear hz hb hs hg
                  refine wpTree_one ?_
                  simp only [nthOp]
                  go_wp2_with (go_at_call 27; refine (HWA.out _).mono ?_; rintro e w3 ⟨rfl, hb⟩; have HB3 := Lib.hid (HB2.out.trans (hb.mono HB2.out.size)); have HZ143 := Lib.hid (HZ142.out.keep hb); have HZ133 := Lib.hid (HZ132.out.keep hb); clear hb)
                  refine One_mk (KW.mk' HB3.out) ?_
                  refine wpTree_one ?_
                  simp only [nthOp]
                  go_wp2_with (go_at_call 27; refine (HWB.out _).mono ?_; rintro e w4 ⟨rfl, hb⟩; have HB4 := Lib.hid (HB3.out.trans (hb.mono HB3.out.size)); have HZ144 := Lib.hid (HZ143.out.keep hb); have HZ134 := Lib.hid (HZ133.out.keep hb); clear hb)
                  refine One_mk (KW.mk' HB4.out) ?_
                  refine wpTree_done ?_
                  simp only [List.drop_succ_cons, List.drop_zero]
                  obtain ⟨⟨z130, z131⟩, f130, f131⟩ := HZ134.out
                  obtain ⟨⟨z140, z141⟩, f140, f141⟩ := HZ144.out
                  go_wp2_with fail
                  refine NP_mk ?_
                  exact cut_meet (by simp [forget]) (WCut.mk (g5 := g13) (g6 := g14) rfl rfl (two_set z130 z131 z140 z141 (by omega)) ((((HB4.out.setCell hg13 _).setCell hg13 _).setCell hg14 _).setCell hg14 _))
            rintro u W9 ⟨g13, g14, hu5, hu6, ⟨⟨c130, c131⟩, c140, c141⟩, hb9⟩
            simp only [forget, List.foldl_cons, List.foldl_nil, hu5, hu6]
            rw [hW0] at hb9
            have HB9 := Lib.hid (HB2W.out.trans (hb9.mono HB2W.out.size))
            have HB9o := Lib.hid (HB2.out.trans (hb9.mono HB2.out.size))
            obtain ⟨N1, hN1⟩ : ∃ N : Nat, un * vn = N := ⟨_, rfl⟩
            obtain ⟨D1, hD1⟩ : ∃ N : Nat, ud * vd = N := ⟨_, rfl⟩
            have bN : N1 ≤ 1000000000000 := by rw [← hN1]; exact Nat.mul_le_mul ua va
            have bD : D1 ≤ 1000000000000 := by rw [← hD1]; exact Nat.mul_le_mul uc vc
            have bD1 : 1 ≤ D1 := by rw [← hD1]; exact Nat.mul_pos ub vb
            have w1' : IntKind.i64.wrap ((un : Int) * (vn : Int)) = (N1 : Int) := by rw [show (un : Int) * (vn : Int) = ((N1 : Nat) : Int) by rw [← hN1]; push_cast; rfl]; exact IntWalk.i64_in _ (by omega)
            have w2' : IntKind.i64.wrap ((ud : Int) * (vd : Int)) = (D1 : Int) := by rw [show (ud : Int) * (vd : Int) = ((D1 : Nat) : Int) by rw [← hD1]; push_cast; rfl]; exact IntWalk.i64_in _ (by omega)
            rw [hN1, hD1] at HFR
            have HLO := Lib.hid (fun w9 => clowest_any N1 D1 w9 bN bD1 bD)
            obtain ⟨fx, hfx⟩ : ∃ f, wfr j n0 n1 x = f := ⟨_, rfl⟩
            have HFQ := Lib.hid hfx
            rw [hfx] at HFR
            have HLO := Lib.hid (show ∀ w9, Calls Tryz.prog 28 #[.int .i64 (N1 : Int), .int .i64 (D1 : Int)] w9 fun e w' => e = .returned (.agg #[.int .i64 fx.num, .int .i64 fx.den]) ∧ Below w9.heap.size w9 w' by rw [HFR.out]; exact HLO.out)
            clear hN1 hD1 hb9 ua ub uc va vb vc d0 d1 d2 d3 d4 d5 y0 y1 hW0 hfx HWA HWB HFR
            have HOW9 := Lib.hid (own_keep HOW.out HB9o.out)
            have hz9 : w1.heap.size ≤ W9.heap.size := HB9.out.size
            go_wp2_with (first
              | (go_at_call 28; refine (HLO.out _).mono ?_; rintro e wl ⟨rfl, hbl⟩; have HBl := Lib.hid (HB9.out.trans (hbl.mono HB9.out.size)); have HOWl := Lib.hid (own_keep HOW9.out hbl); have hzl := hbl.size; clear hbl)
              | (at_builtin; refine wpList_append_here _ rfl _ _ 31 rfl w1.heap.size 50 i0 (.agg #[.int .i64 0, .int .i64 0]) 2 16 Tryz.underlying31 hi0 hz0 hz1 hz2 rfl (by decide) _ k _ rfl (own_keep HOWl.out ((Below.refl _ _).alloc (Nat.le_refl _) _)) ⟨wl.heap.size, 0, none⟩ 1 1 (cellsFr fx) rfl rfl (news_of (cellsFr fx) _ _ _ rfl) (cellsFr_one _) (by decide) (by simp only [maxLen]; omega) (by omega) (by simp; omega) ?_; intro v9 w9 ho9 hg9 hv9; have HO9 := Lib.hid ho9; have HG9 := Lib.hid hg9; have HV9 := Lib.hid hv9; clear ho9 hg9 hv9))
            go_roundw
            case rel =>
              refine ⟨k + 1, by omega, by go_num, Lib.hid ?_, Lib.hid ?_, ?_⟩
              · rw [HTK.out, List.map_append, List.flatMap_append, List.map_cons, List.map_nil, List.flatMap_singleton, HFQ.out]; exact HO9.out
              · intro y hy
                rw [HTK.out] at hy
                rcases List.mem_append.1 hy with hy | hy
                · exact HFI.out y hy
                · rw [List.mem_singleton.1 hy]; exact HFX2.out
              · exact (HBl.out.alloc HBl.out.size _).grown HG9.out (by have := HBl.out.size; simp; omega) (fun q hq => own_base HOWl.out hq)
            case measure => first | (simp [intOf]; done) | (simp [intOf]; omega)
          · obtain rfl : k = j.blanks.length := by omega
            have hki : ¬ ((j.blanks.length : Nat) : Int) < ((j.blanks.length : Nat) : Int) := by omega
            have HE := Lib.hid (show weightsE j (n0 : Int) (n1 : Int) = 0 by rw [HWE.out, if_pos (fun x hx => HFI.out x (by rw [List.take_length]; exact hx))])
            go_wp2_with fail
            refine bodyPost_ret (v := .tuple #[.slice av j.blanks.length cv, .int .i64 0]) (by simp [results, Tryz.results7, go_sem]) rfl ?_
            have hv := own_frs (l := (j.blanks.take j.blanks.length).map (wfr j n0 n1)) HOW.out
            rw [List.take_length] at hv
            exact ⟨av, j.blanks.length, cv, by rw [HE.out], HBB.out, fun h => absurd HE.out h, fun _ => ⟨by rw [List.length_map], hv⟩⟩
      · have HW1 := Lib.hid (withinB_in hk0)
        have HW2 := Lib.hid (withinB_out hk1)
        have HE := Lib.hid (weightsE_rng (k0 := k0) (k1 := k1) HEJ.out (fun h => hk1 h.2))
        go_wp2_with (go_at_call 25; refine (cwithin_any _ _ _ _).mono ?_; rintro e w' ⟨rfl, rfl⟩; (first | rw [HW1.out] | rw [HW2.out]))
        refine bodyPost_ret (v := .tuple #[.slice none 0 0, .int .i64 2]) (by simp [results, Tryz.results7, go_sem]) rfl ?_
        exact ⟨none, 0, 0, by rw [HE.out], HBW1.out, fun _ => ⟨rfl, rfl, rfl⟩, fun h => by rw [HE.out] at h; cases h⟩
    · have HW1 := Lib.hid (withinB_out hk0)
      have HE := Lib.hid (weightsE_rng (k0 := k0) (k1 := k1) HEJ.out (fun h => hk0 h.1))
      go_wp2_with (go_at_call 25; refine (cwithin_is _ _ _ _ HW1.out).mono ?_; rintro e w' ⟨rfl, rfl⟩)
      refine bodyPost_ret (v := .tuple #[.slice none 0 0, .int .i64 2]) (by simp [results, Tryz.results7, go_sem]) rfl ?_
      exact ⟨none, 0, 0, by rw [HE.out], HBW1.out, fun _ => ⟨rfl, rfl, rfl⟩, fun h => by rw [HE.out] at h; cases h⟩
  · have hne := bne_t5 hE
    have HE := Lib.hid (weightsE_job (k0 := k0) (k1 := k1) HEJ.out hE)
    go_wp2_with fail
    refine bodyPost_ret (v := .tuple #[.slice none 0 0, .int .i64 EJ]) (by simp [results, Tryz.results7, go_sem]) rfl ?_
    exact ⟨none, 0, 0, by rw [HE.out], HBW1.out, fun _ => ⟨rfl, rfl, rfl⟩, fun h => absurd h (by rw [HE.out]; exact hE)⟩
end Go.Proofs.YtpaindkfbgoogaaGreat

set_option linter.unusedVariables false
set_option linter.unusedSimpArgs false
namespace Go.Proofs.YtpaindkfbgoogaaGreat
open Go Go.ChangeShapes Go.WideShapes Go.ChangeAt Go.RowKit

theorem okWide_pair {P : Program} {w : World} {r : Reach} {base : Nat} {t e : TypeId} {n : Nat} {v : Value} (ht : P.underlying t = some (.array n e)) (h : Value.okWide P w r base t v) : ∃ cs, v = .agg cs ∧ cs.size = P.cellsOf t := by
  simp only [Value.okWide, ht] at h
  obtain ⟨cs, h1, h2, _⟩ := h
  exact ⟨cs, h1, h2⟩
theorem pair_open {H : Type} {enc : TypeId × Value → H} {w : World} {spare : Nat → Bool} {held : Bool} {fuel : Nat} {cs : List Value} {y : DataW H × List MemPlace} (h : DataW.trod enc Tryz.prog w 0 spare held fuel 28 cs = some y) :
    ∃ p q : Int, cs = [.int .i64 p, .int .i64 q] ∧ ((-9223372036854775808 ≤ p ∧ p ≤ 9223372036854775807) ∧ (-9223372036854775808 ≤ q ∧ q ≤ 9223372036854775807)) := by
  obtain ⟨xs, m, -, -, hl, hx, hi⟩ := DataW.trod_array Tryz.underlying28 h
  have hl2 : cs.length = 2 := hl.trans (by kernel_rfl)
  have h1 : Tryz.prog.cellsOf 3 = 1 := by kernel_rfl
  rw [h1] at hi
  match cs, hl2, xs, hx with
  | [v0, v1], _, [y0, y1], _ =>
    have t0 := hi 0 (by decide)
    have t1 := hi 1 (by decide)
    simp at t0 t1
    obtain ⟨n0, g0, -, q0⟩ := DataW.trod_int Tryz.underlying3 t0
    obtain ⟨n1, g1, -, q1⟩ := DataW.trod_int Tryz.underlying3 t1
    simp only [List.cons.injEq, and_true] at g0 g1
    exact ⟨n0, n1, by rw [g0, g1], int_wf q0, int_wf q1⟩
theorem low_mul {n d : Nat} (hd : 1 ≤ d) {X Y : Int} (h : (n : Int) * X = (d : Int) * Y) : ((lowP n d : Nat) : Int) * X = ((lowQ n d : Nat) : Int) * Y := by
  have hg : 1 ≤ Nat.gcd n d := Nat.gcd_pos_of_pos_right _ hd
  have h1 : lowP n d * Nat.gcd n d = n := Nat.div_mul_cancel (Nat.gcd_dvd_left n d)
  have h2 : lowQ n d * Nat.gcd n d = d := Nat.div_mul_cancel (Nat.gcd_dvd_right n d)
  generalize lowP n d = a at *
  generalize lowQ n d = b at *
  generalize Nat.gcd n d = g at *
  subst h1 h2
  have hg' : (g : Int) ≠ 0 := by omega
  refine Int.eq_of_mul_eq_mul_left hg' ?_
  rw [Int.natCast_mul, Int.natCast_mul] at h
  calc (g : Int) * ((a : Int) * X) = (a : Int) * g * X := by ac_rfl
    _ = (b : Int) * g * Y := h
    _ = (g : Int) * ((b : Int) * Y) := by ac_rfl
theorem lowB_pos {n d : Nat} (hd : 1 ≤ d) : 1 ≤ lowQ n d := Nat.div_pos (Nat.gcd_le_right _ hd) (Nat.gcd_pos_of_pos_right _ hd)
theorem wt_mul {k a d : Nat} : wtN k a d * (wtK k * d) = wtD k a d * wtF k d a := by
  unfold wtN wtD wtF wtK
  by_cases c : 0 < k ∧ (k + 1) * a % d ≠ 0
  · rw [if_pos c, if_pos c, if_pos c, if_pos c.1]; ac_rfl
  · rw [if_neg c, if_neg c, if_neg c]; ac_rfl
theorem wu_mul {k a d : Nat} (hd : 1 ≤ wtD k a d) : ((wuN k a d : Nat) : Int) * ((wtK k * d : Nat) : Int) = ((wuD k a d : Nat) : Int) * ((wtF k d a : Nat) : Int) :=
  low_mul hd (by rw [← Int.natCast_mul, ← Int.natCast_mul, wt_mul])
theorem wtD_pos {k a d : Nat} (hd : 1 ≤ d) : 1 ≤ wtD k a d := by
  unfold wtD; split
  · rename_i h; exact h.1
  · exact hd
theorem wuD_pos {k a d : Nat} (hd : 1 ≤ d) : 1 ≤ wuD k a d := lowB_pos (wtD_pos hd)

/-! Sums over pieces. -/
def sumQ (f : Placed → Int) : List Placed → Int
  | [] => 0
  | p :: l => f p + sumQ f l
theorem sumQ_app (f : Placed → Int) : ∀ A B : List Placed, sumQ f (A ++ B) = sumQ f A + sumQ f B
  | [], B => by simp [sumQ]
  | p :: A, B => by rw [List.cons_append, sumQ, sumQ_app f A B, sumQ]; omega
theorem sumQ_zero {f : Placed → Int} : ∀ {A : List Placed}, (∀ p ∈ A, f p = 0) → sumQ f A = 0
  | [], _ => rfl
  | p :: A, h => by rw [sumQ, h p List.mem_cons_self, sumQ_zero fun q hq => h q (List.mem_cons_of_mem _ hq)]; rfl
theorem sumQ_pieces {l : Layout} {R : List Rect} {f : Placed → Int} {G : Nat → Int} (hG : ∀ i, 0 ≤ G i) (hf : ∀ i, f ⟨l.board, (l.cuts.getD i default).blank, R.getD i default⟩ ≤ G i) :
    ∀ k, sumQ f (piecesTo l R k) ≤ sumTo k (fun i => if (cutF l.cuts i).low = 0 then G i else 0)
  | 0 => by simp [piecesTo, sumQ, sumTo]
  | k + 1 => by
    have ih := sumQ_pieces hG hf k
    rw [piecesTo, sumQ_app, sumTo]
    by_cases hc : isPieceC (l.cuts.getD k default) = true
    · rw [if_pos hc]
      have hl : (cutF l.cuts k).low = 0 := by
        unfold isPieceC at hc
        simp only [Bool.and_eq_true, decide_eq_true_eq] at hc
        exact hc.1
      rw [if_pos hl]
      simp only [sumQ]
      have := hf k
      omega
    · rw [if_neg hc]
      simp only [sumQ]
      have := hG k
      split <;> omega

/-- A board's denominators. -/
def dA (j : Job) (b : Board) : Nat := max 1 ((roomM j b.species).1 + j.trim.kerf).toNat
def dB (j : Job) (b : Board) : Nat := max 1 ((roomM j b.species).2 + j.trim.kerf).toNat
def DD (j : Job) (k0 k1 : Nat) (b : Board) : Int := ((wtK k0 * dA j b * (wtK k1 * dB j b) : Nat) : Int)
theorem DD_pos {j : Job} {k0 k1 : Nat} {b : Board} : 0 < DD j k0 k1 b := by
  unfold DD
  have h1 : 0 < wtK k0 := by unfold wtK; split <;> omega
  have h2 : 0 < wtK k1 := by unfold wtK; split <;> omega
  have h3 : 0 < dA j b := by unfold dA; omega
  have h4 : 0 < dB j b := by unfold dB; omega
  have := Nat.mul_pos (Nat.mul_pos h1 h3) (Nat.mul_pos h2 h4)
  omega
def fB (j : Job) (k0 k1 : Nat) (i : Int) (b : Board) (p : Placed) : Int := if p.board = i then rectW k0 k1 (dA j b) (dB j b) j.trim.kerf.toNat p.at_ else 0
theorem room_mono {j : Job} {sp : ByteArray} : ∀ {k n : Nat}, k ≤ n → (roomTo j sp k).1 ≤ (roomTo j sp n).1 ∧ (roomTo j sp k).2 ≤ (roomTo j sp n).2
  | k, 0, h => by obtain rfl : k = 0 := by omega
                  exact ⟨Int.le_refl _, Int.le_refl _⟩
  | k, n + 1, h => by
    by_cases e : k = n + 1
    · subst e; exact ⟨Int.le_refl _, Int.le_refl _⟩
    · have ih := room_mono (j := j) (sp := sp) (show k ≤ n by omega)
      rw [show roomTo j sp (n + 1) = if ((j.stock.getD n default).species.toList == sp.toList) = true then (max (roomTo j sp n).1 ((usableR (j.stock.getD n default) j.trim).x2 - (usableR (j.stock.getD n default) j.trim).x1), max (roomTo j sp n).2 ((usableR (j.stock.getD n default) j.trim).y2 - (usableR (j.stock.getD n default) j.trim).y1)) else roomTo j sp n from rfl]
      split
      · simp only; omega
      · exact ih
theorem room_ge {j : Job} {i : Nat} (hi : i < j.stock.length) : (usableR j.stock[i] j.trim).x2 - (usableR j.stock[i] j.trim).x1 ≤ (roomM j j.stock[i].species).1 ∧ (usableR j.stock[i] j.trim).y2 - (usableR j.stock[i] j.trim).y1 ≤ (roomM j j.stock[i].species).2 := by
  have h := room_mono (j := j) (sp := j.stock[i].species) (show i + 1 ≤ j.stock.length from hi)
  rw [roomTo_step hi, if_pos (by simp)] at h
  unfold roomM
  simp only at h
  omega
theorem layout_le {j : Job} {k0 k1 : Nat} {i : Nat} {l : Layout} (hk : 0 ≤ j.trim.kerf) (hi : i < j.stock.length) (hb : l.board = i) (h : (layOf j l).2 = 0) : sumQ (fB j k0 k1 i j.stock[i]) (piecesTo l (layOf j l).1 l.cuts.length) ≤ DD j k0 k1 j.stock[i] := by
  have e : j.stock.getD l.board.toNat default = j.stock[i] := by rw [hb, Int.toNat_natCast, List.getD_eq_getElem?_getD, List.getElem?_eq_getElem hi]; rfl
  have hl : layOf j l = regM (usableR j.stock[i] j.trim) j.trim.kerf l.cuts := by unfold layOf; rw [e]
  have hg := room_ge hi
  have h00 := room_mono (j := j) (sp := j.stock[i].species) (Nat.zero_le j.stock.length)
  have h00 : 0 ≤ (roomM j j.stock[i].species).1 ∧ 0 ≤ (roomM j j.stock[i].species).2 := h00
  have hkn : ((j.trim.kerf.toNat : Nat) : Int) = j.trim.kerf := by omega
  rw [hl] at h ⊢
  have hw := reg_weights (u := usableR j.stock[i] j.trim) (kerf := j.trim.kerf.toNat) (k1 := k0) (k2 := k1) (d1 := dA j j.stock[i]) (d2 := dB j j.stock[i]) (l := l.cuts) (by unfold dA; omega) (by unfold dB; omega) (whole_real _) (by unfold dA; omega) (by unfold dB; omega) (by rw [hkn]; exact h)
  rw [hkn] at hw
  refine Int.le_trans (sumQ_pieces (G := fun m => rectW k0 k1 (dA j j.stock[i]) (dB j j.stock[i]) j.trim.kerf.toNat (rectF (regM (usableR j.stock[i] j.trim) j.trim.kerf l.cuts).1 m)) (fun m => rectW_nn) (fun m => ?_) _) hw
  unfold fB
  simp only
  rw [if_pos hb, getD_rect]
  exact Int.le_refl _
theorem other_zero {j : Job} {k0 k1 : Nat} {i : Int} {b : Board} {l : Layout} {R : List Rect} {k : Nat} (h : l.board ≠ i) : sumQ (fB j k0 k1 i b) (piecesTo l R k) = 0 := sumQ_zero fun p hp => by
  unfold fB; rw [if_neg (by rw [(piecesTo_board hp).1]; exact h)]
theorem places_le {j : Job} {k0 k1 : Nat} {i : Nat} {plan : List Layout} (hk : 0 ≤ j.trim.kerf) (hi : i < j.stock.length) (hb : plan.Pairwise fun a b => a.board ≠ b.board) (hok : PlanOk j plan) :
    ∀ k, k ≤ plan.length → sumQ (fB j k0 k1 i j.stock[i]) (placesTo j plan k) ≤ DD j k0 k1 j.stock[i] ∧ ((∀ m (h : m < plan.length), m < k → plan[m].board ≠ i) → sumQ (fB j k0 k1 i j.stock[i]) (placesTo j plan k) = 0)
  | 0, _ => ⟨by have := DD_pos (j := j) (k0 := k0) (k1 := k1) (b := j.stock[i]); simp only [placesTo, sumQ]; omega, fun _ => rfl⟩
  | k + 1, h => by
    obtain ⟨h1, h2⟩ := places_le (k0 := k0) (k1 := k1) hk hi hb hok k (by omega)
    rw [placesTo_step (by omega : k < plan.length), sumQ_app]
    by_cases e : plan[k].board = i
    · have hz := h2 fun m hm hmk he => List.pairwise_iff_getElem.1 hb m k hm (by omega) hmk (by rw [he, e])
      have hL := layout_le (k0 := k0) (k1 := k1) hk hi e (hok _ (List.getElem_mem _)).2
      exact ⟨by omega, fun hall => absurd e (hall k (by omega) (by omega))⟩
    · have hz : sumQ (fB j k0 k1 i j.stock[i]) (piecesTo plan[k] (layOf j plan[k]).1 plan[k].cuts.length) = 0 := other_zero e
      exact ⟨by omega, fun hall => by rw [h2 fun m hm hmk => hall m hm (by omega), hz]; rfl⟩
/-- What a piece on a board weighs. -/
theorem piece_w {j : Job} {k0 k1 : Nat} {p : Placed} (hJ : JobOk j.stock j.blanks j.trim) (hp : PieceIn j p) (hi : p.board.toNat < j.stock.length) (hl : p.blank.toNat < j.blanks.length) (hf : fitsP j j.blanks[p.blank.toNat]) :
    ((lowP (wfN j k0 k1 j.blanks[p.blank.toNat]) (wfD j k0 k1 j.blanks[p.blank.toNat]) : Nat) : Int) * DD j k0 k1 j.stock[p.board.toNat] = ((lowQ (wfN j k0 k1 j.blanks[p.blank.toNat]) (wfD j k0 k1 j.blanks[p.blank.toNat]) : Nat) : Int) * fB j k0 k1 p.board j.stock[p.board.toNat] p ∧ 1 ≤ wfD j k0 k1 j.blanks[p.blank.toNat] := by
  have hkind := hp.kind
  have hsize := hp.size
  have hin := hp.inside
  have e1 : j.stock.getD p.board.toNat default = j.stock[p.board.toNat] := by rw [List.getD_eq_getElem?_getD, List.getElem?_eq_getElem hi]; rfl
  have e2 : bl j.blanks p.blank.toNat = j.blanks[p.blank.toNat] := by unfold bl; rw [List.getD_eq_getElem?_getD, List.getElem?_eq_getElem hl]; rfl
  rw [e1, e2] at hkind
  rw [e2] at hsize
  have hw := hJ.want _ (List.getElem_mem hl)
  have htr := hJ.trim.1
  generalize j.blanks[p.blank.toNat] = x at *
  generalize hb : j.stock[p.board.toNat] = b at *
  have hsp : b.species.toList = x.species.toList := by
    unfold kindOk at hkind
    rw [Bool.and_eq_true] at hkind
    exact beq_iff_eq.1 hkind.1
  have hroom : ∀ k, roomTo j b.species k = roomTo j x.species k := by
    intro k
    induction k with
    | zero => rfl
    | succ k ih => rw [roomTo, roomTo, ih, hsp]
  have hrm : roomM j b.species = roomM j x.species := hroom _
  unfold fitsP at hf
  have hA : dA j b = rmA j x := by unfold dA rmA; rw [hrm]; omega
  have hB : dB j b = rmB j x := by unfold dB rmB; rw [hrm]; omega
  have hA1 : 1 ≤ rmA j x := by unfold rmA; omega
  have hB1 : 1 ≤ rmB j x := by unfold rmB; omega
  have hd : 1 ≤ wfD j k0 k1 x := Nat.mul_pos (wuD_pos hA1) (wuD_pos hB1)
  refine ⟨low_mul hd ?_, hd⟩
  have m0 := wu_mul (k := k0) (a := szA j x) (d := rmA j x) (wtD_pos hA1)
  have m1 := wu_mul (k := k1) (a := szB j x) (d := rmB j x) (wtD_pos hB1)
  unfold fB rectW
  unfold within at hin
  rw [if_pos rfl, if_pos ⟨hin.2.1, hin.2.2.2.2.1⟩, hsize.1, hsize.2, hA, hB]
  have s0 : x.length.toNat + j.trim.kerf.toNat = szA j x := by unfold szA; omega
  have s1 : x.width.toNat + j.trim.kerf.toNat = szB j x := by unfold szB; omega
  rw [s0, s1]
  unfold DD wfN wfD
  rw [hA, hB]
  rw [Int.natCast_mul (wuN k0 _ _), Int.natCast_mul (wuD k0 _ _), Int.natCast_mul (wtK k0 * rmA j x), Int.natCast_mul (wtF k0 _ _)]
  calc _ = (((wuN k0 (szA j x) (rmA j x) : Nat) : Int) * ((wtK k0 * rmA j x : Nat) : Int)) * (((wuN k1 (szB j x) (rmB j x) : Nat) : Int) * ((wtK k1 * rmB j x : Nat) : Int)) := by ac_rfl
    _ = _ := by rw [m0, m1]; ac_rfl

end Go.Proofs.YtpaindkfbgoogaaGreat

set_option linter.unusedVariables false
set_option linter.unusedSimpArgs false
namespace Go.Proofs.YtpaindkfbgoogaaGreat

theorem getD_setL {α : Type} (l : List α) (i j : Nat) (x d : α) : (l.set i x).getD j d = if i = j ∧ j < l.length then x else l.getD j d := by
  rw [List.getD_eq_getElem?_getD, List.getElem?_set, List.getD_eq_getElem?_getD]
  by_cases h : i = j
  · subst h
    by_cases h2 : i < l.length
    · rw [if_pos rfl, if_pos h2, if_pos ⟨rfl, h2⟩]; rfl
    · rw [if_pos rfl, if_neg h2, if_neg (fun h => h2 h.2), List.getElem?_eq_none (by omega)]
  · rw [if_neg h, if_neg (fun h' => h h'.1)]

structure NodeAt (s : BS) (kerf : Int) (i k : Nat) : Prop where
  low : (cutF s.cuts i).low = ((2 * k + 1 : Nat) : Int)
  high : (cutF s.cuts i).high = ((2 * k + 2 : Nat) : Int)
  up : i < 2 * k + 1
  lt : 2 * k + 2 < s.cuts.length
  blank : (cutF s.cuts i).blank = 0
  at_ : 1 ≤ (cutF s.cuts i).at_ ∧ (cutF s.cuts i).at_ ≤ sizeR (s.r i) (cutF s.cuts i).across - 1
  rlow : s.r (2 * k + 1) = lowR (s.r i) (cutF s.cuts i).across (cutF s.cuts i).at_
  rhigh : s.r (2 * k + 2) = highR (s.r i) (cutF s.cuts i).across (cutF s.cuts i).at_ kerf
structure TreeB (u : Rect) (kerf : Int) (s : BS) : Prop where
  len : s.rects.length = s.cuts.length
  odd : s.cuts.length % 2 = 1
  root : s.r 0 = u
  leaf : ∀ i, i < s.cuts.length → (cutF s.cuts i).low = 0 → ((cutF s.cuts i).across = false ∧ (cutF s.cuts i).at_ = 0 ∧ (cutF s.cuts i).high = 0) ∧ -1 ≤ (cutF s.cuts i).blank ∧ (cutF s.cuts i).blank ≤ 29
  node : ∀ i, i < s.cuts.length → (cutF s.cuts i).low ≠ 0 → ∃ k : Nat, NodeAt s kerf i k
  once : ∀ i i' k : Nat, i < s.cuts.length → i' < s.cuts.length → (cutF s.cuts i).low = ((2 * k + 1 : Nat) : Int) → (cutF s.cuts i').low = ((2 * k + 1 : Nat) : Int) → i = i'
  every : ∀ k : Nat, 2 * k + 1 < s.cuts.length → ∃ i, i < s.cuts.length ∧ (cutF s.cuts i).low = ((2 * k + 1 : Nat) : Int)

section
variable {u : Rect} {kerf : Int} {s : BS}
theorem TreeB.nodeOf (h : TreeB u kerf s) {i k : Nat} (hi : i < s.cuts.length) (hl : (cutF s.cuts i).low = ((2 * k + 1 : Nat) : Int)) : NodeAt s kerf i k := by
  obtain ⟨k', hn⟩ := h.node i hi (by rw [hl]; omega)
  have := hn.low
  rw [hl] at this
  obtain rfl : k = k' := by omega
  exact hn
def Kids (s : BS) (i : Nat) (O : List Bool) : Prop := ∀ k : Nat, 2 * k + 2 < s.cuts.length → ∀ j, (j = 2 * k + 1 ∨ j = 2 * k + 2) → (O.getD j false = true ↔ ∃ i', i' < i ∧ i' < s.cuts.length ∧ (cutF s.cuts i').low = ((2 * k + 1 : Nat) : Int))
theorem tree_own (h : TreeB u kerf s) : ∀ (m i : Nat) (O : List Bool), i + m = s.cuts.length → O.length = s.cuts.length → Kids s i O →
    (ownGo s.cuts.length (s.cuts.drop i) i O).1 = 0 ∧ (ownGo s.cuts.length (s.cuts.drop i) i O).2.length = s.cuts.length ∧ Kids s s.cuts.length (ownGo s.cuts.length (s.cuts.drop i) i O).2
  | 0, i, O, hm, hO, hK => by
    obtain rfl : i = s.cuts.length := by omega
    rw [List.drop_length]
    exact ⟨rfl, hO, hK⟩
  | m + 1, i, O, hm, hO, hK => by
    have hi : i < s.cuts.length := by omega
    rw [List.drop_eq_getElem_cons hi, ← cutF_get hi]
    by_cases h0 : (cutF s.cuts i).low = 0
    · obtain ⟨⟨l1, l2, l3⟩, l4, l5⟩ := h.leaf i hi h0
      have hE : cutErrM (cutF s.cuts i) i s.cuts.length O = 0 := by
        rw [cutErr_good (reg_leaf0 h0 (by rw [l1, l2, l3]; simp) (by unfold withinB; simp; omega))]
        unfold markE; rw [if_pos h0]
      have hM : markC (cutF s.cuts i) O = O := by unfold markC; rw [if_pos h0]
      rw [ownGo, if_neg (by rw [hE]; simp), hM]
      refine tree_own h m (i + 1) O (by omega) hO fun k hk j hj => (hK k hk j hj).trans ⟨fun ⟨i', g1, g2, g3⟩ => ⟨i', by omega, g2, g3⟩, fun ⟨i', g1, g2, g3⟩ => ⟨i', ?_, g2, g3⟩⟩
      by_cases e : i' = i
      · subst e; rw [h0] at g3; omega
      · omega
    · obtain ⟨k0, hn⟩ := h.node i hi h0
      have hnot : ∀ j, (j = 2 * k0 + 1 ∨ j = 2 * k0 + 2) → O.getD j false = false := fun j hj => by
        cases hb : O.getD j false with
        | false => rfl
        | true =>
          obtain ⟨i', g1, g2, g3⟩ := (hK k0 hn.lt j hj).1 hb
          have := h.once i' i k0 g2 hi g3 hn.low
          omega
      have hE : cutErrM (cutF s.cuts i) i s.cuts.length O = 0 := by
        have h1 := hn.low; have h2 := hn.high; have h3 := hn.up; have h4 := hn.lt
        rw [cutErr_good (by unfold regionE; rw [if_neg h0, hn.blank, h1, h2, if_neg (by simp), if_neg (by omega), if_neg (by omega)])]
        unfold markE
        rw [if_neg h0, h1, h2, Int.toNat_natCast, Int.toNat_natCast, if_neg (by rw [hnot _ (.inl rfl)]; simp), if_neg (by rw [hnot _ (.inr rfl)]; simp)]
      have hM : markC (cutF s.cuts i) O = (O.set (2 * k0 + 1) true).set (2 * k0 + 2) true := by unfold markC; rw [if_neg h0, hn.low, hn.high, Int.toNat_natCast, Int.toNat_natCast]
      rw [ownGo, if_neg (by rw [hE]; simp), hM]
      refine tree_own h m (i + 1) _ (by omega) (by simp [hO]) fun k hk j hj => ?_
      rw [getD_setL, getD_setL, List.length_set, hO]
      have hlt := hn.lt
      by_cases e : k = k0
      · subst e
        refine ⟨fun _ => ⟨i, by omega, hi, hn.low⟩, fun _ => ?_⟩
        rcases hj with rfl | rfl
        · rw [if_neg (by omega), if_pos ⟨rfl, by omega⟩]
        · rw [if_pos ⟨rfl, by omega⟩]
      · rw [if_neg (by omega), if_neg (by omega)]
        refine (hK k hk j hj).trans ⟨fun ⟨i', g1, g2, g3⟩ => ⟨i', by omega, g2, g3⟩, fun ⟨i', g1, g2, g3⟩ => ⟨i', ?_, g2, g3⟩⟩
        by_cases e' : i' = i
        · subst e'; rw [hn.low] at g3; omega
        · omega
theorem tree_rect (h : TreeB u kerf s) : ∀ (m i : Nat) (R : List Rect), i + m = s.cuts.length → R.length = s.cuts.length →
    (∀ j, j < s.cuts.length → (j = 0 ∨ ∃ i' k, i' < i ∧ i' < s.cuts.length ∧ (cutF s.cuts i').low = ((2 * k + 1 : Nat) : Int) ∧ (j = 2 * k + 1 ∨ j = 2 * k + 2)) → R.getD j zeroR = s.r j) →
    (rectGo kerf (s.cuts.drop i) i R).2 = 0 ∧ (rectGo kerf (s.cuts.drop i) i R).1.length = s.cuts.length ∧ ∀ j, j < s.cuts.length → (rectGo kerf (s.cuts.drop i) i R).1.getD j zeroR = s.r j
  | 0, i, R, hm, hR, hK => by
    obtain rfl : i = s.cuts.length := by omega
    rw [List.drop_length]
    refine ⟨rfl, hR, fun j hj => hK j hj ?_⟩
    by_cases e : j = 0
    · exact .inl e
    · obtain ⟨i', g1, g2⟩ := h.every ((j - 1) / 2) (by omega)
      exact .inr ⟨i', (j - 1) / 2, g1, g1, g2, by omega⟩
  | m + 1, i, R, hm, hR, hK => by
    have hi : i < s.cuts.length := by omega
    rw [List.drop_eq_getElem_cons hi, ← cutF_get hi]
    by_cases h0 : (cutF s.cuts i).low = 0
    · rw [rectGo, if_pos h0]
      refine tree_rect h m (i + 1) R (by omega) hR fun j hj hc => hK j hj ?_
      rcases hc with hc | ⟨i', k, g1, g2, g3, g4⟩
      · exact .inl hc
      · refine .inr ⟨i', k, ?_, g2, g3, g4⟩
        by_cases e : i' = i
        · subst e; rw [h0] at g3; omega
        · omega
    · obtain ⟨k0, hn⟩ := h.node i hi h0
      have hri : R.getD i zeroR = s.r i := by
        refine hK i hi ?_
        by_cases e : i = 0
        · exact .inl e
        · obtain ⟨i', g1, g2⟩ := h.every ((i - 1) / 2) (by omega)
          have := (h.nodeOf g1 g2).up
          exact .inr ⟨i', (i - 1) / 2, by omega, g1, g2, by omega⟩
      have hri' : R.getD i ⟨0, 0, 0, 0⟩ = s.r i := hri
      have hlt := hn.lt
      rw [rectGo, if_neg h0, hri', if_neg (by unfold withinB; have := hn.at_; simp; omega)]
      refine tree_rect h m (i + 1) _ (by omega) (by rw [stepR_len]; exact hR) fun j hj hc => ?_
      unfold stepR
      rw [hn.low, hn.high, Int.toNat_natCast, Int.toNat_natCast, getD_setL, getD_setL, List.length_set, hR]
      by_cases e1 : j = 2 * k0 + 2
      · rw [if_pos ⟨e1.symm, by omega⟩, e1, hn.rhigh]
      · rw [if_neg (fun e => e1 e.1.symm)]
        by_cases e2 : j = 2 * k0 + 1
        · rw [if_pos ⟨e2.symm, by omega⟩, e2, hn.rlow]
        · rw [if_neg (fun e => e2 e.1.symm)]
          refine hK j hj ?_
          rcases hc with hc | ⟨i', k, g1, g2, g3, g4⟩
          · exact .inl hc
          · refine .inr ⟨i', k, ?_, g2, g3, g4⟩
            by_cases e : i' = i
            · subst e; have := hn.low; rw [g3] at this; omega
            · omega
theorem tree_reg (h : TreeB u kerf s) (h4 : s.cuts.length ≤ 400) : regM u kerf s.cuts = (s.rects, 0) := by
  have hodd := h.odd
  obtain ⟨g1, g2, g3⟩ := tree_own h s.cuts.length 0 (List.replicate s.cuts.length false) (by omega) (by simp) (fun k hk j hj => by
    rw [List.getD_eq_getElem?_getD, List.getElem?_replicate]
    refine ⟨fun e => ?_, fun ⟨i', e, _⟩ => by omega⟩
    split at e <;> simp at e)
  obtain ⟨q1, q2, q3⟩ := tree_rect h s.cuts.length 0 ((List.replicate s.cuts.length ⟨0, 0, 0, 0⟩).set 0 u) (by omega) (by simp) (fun j hj hc => by
    rcases hc with rfl | ⟨i', k, e, _⟩
    · rw [getD_setL, if_pos ⟨rfl, by simpa using hj⟩, h.root]
    · omega)
  rw [List.drop_zero] at g1 g2 g3 q1 q2 q3
  unfold regM
  rw [if_neg (by omega), if_neg (by omega), if_neg (by rw [g1]; simp), if_neg ?_]
  · refine Prod.ext (List.ext_getElem (by rw [q2, h.len]) fun j hj1 hj2 => ?_) q1
    have := q3 j (by rw [← q2]; exact hj1)
    unfold BS.r at this
    rwa [List.getD_eq_getElem?_getD, List.getElem?_eq_getElem hj1, List.getD_eq_getElem?_getD, List.getElem?_eq_getElem hj2] at this
  · rw [Bool.not_eq_false, List.all_eq_true]
    intro x hx
    obtain ⟨j, hj, rfl⟩ := List.mem_iff_getElem.1 hx
    rw [List.length_set, g2] at hj
    by_cases e : j = 0
    · subst e; rw [List.getElem_set_self]; rfl
    · rw [List.getElem_set_ne (by omega)]
      have h1 := (g3 ((j - 1) / 2) (by omega) j (by omega)).2 (by
        obtain ⟨i', e1, e2⟩ := h.every ((j - 1) / 2) (by omega)
        exact ⟨i', e1, e1, e2⟩)
      rwa [List.getD_eq_getElem?_getD, List.getElem?_eq_getElem (by rw [g2]; exact hj)] at h1

/-! How it grows. -/
theorem cutF_cut {region : Nat} {across : Bool} {a : Int} {j : Nat} (hr : region < s.cuts.length) (hj : j < s.cuts.length + 2) :
    cutF (s.cut kerf region across a).cuts j = if j = region then ⟨across, a, s.cuts.length, s.cuts.length + 1, 0⟩ else if j < s.cuts.length then cutF s.cuts j else wasteC := by
  unfold cutF BS.cut
  simp only
  rw [getD_setL]
  by_cases e : j = region
  · subst e; rw [if_pos ⟨rfl, by simp; omega⟩, if_pos rfl]
  · rw [if_neg (fun h => e h.1.symm), if_neg e]
    by_cases e2 : j < s.cuts.length
    · rw [if_pos e2, List.getD_eq_getElem?_getD, List.getElem?_append_left e2, List.getD_eq_getElem?_getD]
    · rw [if_neg e2, List.getD_eq_getElem?_getD, List.getElem?_append_right (by omega)]
      have : j - s.cuts.length = 0 ∨ j - s.cuts.length = 1 := by omega
      rcases this with h | h <;> rw [h] <;> rfl
theorem r_cut {region : Nat} {across : Bool} {a : Int} {j : Nat} (h : s.rects.length = s.cuts.length) (hj : j < s.cuts.length) : (s.cut kerf region across a).r j = s.r j := by
  unfold BS.cut BS.r
  simp only
  rw [List.getD_eq_getElem?_getD, List.getElem?_append_left (by omega), List.getD_eq_getElem?_getD]
theorem tree_cut (h : TreeB u kerf s) {region : Nat} {across : Bool} {a : Int} (hr : region < s.cuts.length) (hl : (cutF s.cuts region).low = 0) (ha : 1 ≤ a ∧ a ≤ sizeR (s.r region) across - 1) : TreeB u kerf (s.cut kerf region across a) := by
  have hodd := h.odd
  have hlen : (s.cut kerf region across a).cuts.length = s.cuts.length + 2 := cut_len
  obtain ⟨K, hK⟩ : ∃ K, s.cuts.length = 2 * K + 1 := ⟨s.cuts.length / 2, by omega⟩
  refine ⟨by rw [hlen, cut_rlen, h.len], by rw [hlen]; omega, by rw [r_cut h.len (by omega)]; exact h.root, fun i hi h0 => ?_, fun i hi h0 => ?_, fun i i' k hi hi' h1 h2 => ?_, fun k hk => ?_⟩
  · rw [hlen] at hi
    rw [cutF_cut hr hi] at h0 ⊢
    split at h0
    · rename_i e; simp only at h0; omega
    · rename_i e
      rw [if_neg e]
      split at h0
      · rename_i e2; rw [if_pos e2]; exact h.leaf i e2 h0
      · rename_i e2; rw [if_neg e2]; exact ⟨⟨rfl, rfl, rfl⟩, by decide, by decide⟩
  · rw [hlen] at hi
    have hc := cutF_cut (kerf := kerf) (across := across) (a := a) hr hi
    rw [hc] at h0
    split at h0
    · rename_i e
      subst e
      rw [if_pos rfl] at hc
      refine ⟨K, ⟨by rw [hc]; simp only; omega, by rw [hc]; simp only; omega, by omega, by rw [hlen]; omega, by rw [hc], by rw [hc, r_cut h.len hr]; exact ha, ?_, ?_⟩⟩
      · rw [hc, r_cut h.len hr, ← hK, cut_low h.len]
      · rw [hc, r_cut h.len hr, show 2 * K + 2 = s.cuts.length + 1 by omega, cut_high h.len]
    · rename_i e
      rw [if_neg e] at hc
      split at h0
      · rename_i e2
        rw [if_pos e2] at hc
        obtain ⟨k, n1, n2, n3, n4, n5, n6, n7, n8⟩ := h.node i e2 h0
        exact ⟨k, ⟨by rw [hc]; exact n1, by rw [hc]; exact n2, n3, by rw [hlen]; omega, by rw [hc]; exact n5, by rw [hc, r_cut h.len e2]; exact n6, by rw [hc, r_cut h.len e2, r_cut h.len (by omega)]; exact n7, by rw [hc, r_cut h.len e2, r_cut h.len (by omega)]; exact n8⟩⟩
      · exact absurd rfl h0
  · rw [hlen] at hi hi'
    rw [cutF_cut hr hi] at h1
    rw [cutF_cut hr hi'] at h2
    have old : ∀ x, x < s.cuts.length → (cutF s.cuts x).low = ((2 * k + 1 : Nat) : Int) → 2 * k + 2 < s.cuts.length := fun x hx hxl => (h.nodeOf hx hxl).lt
    split at h1
    · rename_i e
      split at h2
      · rename_i e2; omega
      · split at h2
        · rename_i e3; have := old _ e3 h2; simp only at h1; omega
        · simp only [wasteC] at h2; omega
    · split at h1
      · rename_i e3
        split at h2
        · have := old _ e3 h1; simp only at h2; omega
        · split at h2
          · rename_i e4; exact h.once i i' k e3 e4 h1 h2
          · simp only [wasteC] at h2; omega
      · simp only [wasteC] at h1; omega
  · rw [hlen] at hk
    by_cases e : 2 * k + 1 < s.cuts.length
    · obtain ⟨i, g1, g2⟩ := h.every k e
      refine ⟨i, by rw [hlen]; omega, ?_⟩
      rw [cutF_cut hr (by omega), if_neg (fun e => by subst e; rw [hl] at g2; omega), if_pos g1]
      exact g2
    · refine ⟨region, by rw [hlen]; omega, ?_⟩
      rw [cutF_cut hr (by omega), if_pos rfl]
      simp only; omega
theorem cutF_set {l : List Cut} {p j : Nat} {c : Cut} (hp : p < l.length) : cutF (l.set p c) j = if j = p then c else cutF l j := by
  unfold cutF
  rw [getD_setL]
  by_cases e : j = p
  · subst e; rw [if_pos ⟨rfl, hp⟩, if_pos rfl]
  · rw [if_neg (fun h => e h.1.symm), if_neg e]
theorem tree_mark (h : TreeB u kerf s) {p : Nat} {number : Int} (hp : p < s.cuts.length) (hl : (cutF s.cuts p).low = 0) (hn : 0 ≤ number ∧ number ≤ 29) : TreeB u kerf (BS.mark (s, p) number) := by
  have hc : ∀ j, cutF (BS.mark (s, p) number).cuts j = if j = p then pieceC number else cutF s.cuts j := fun j => cutF_set hp
  have hlen : (BS.mark (s, p) number).cuts.length = s.cuts.length := by simp [BS.mark]
  have hr : ∀ j, (BS.mark (s, p) number).r j = s.r j := fun j => rfl
  have hlow : ∀ j, (cutF (BS.mark (s, p) number).cuts j).low = (cutF s.cuts j).low := fun j => by
    rw [hc]; split
    · rename_i e; subst e; rw [hl]; rfl
    · rfl
  refine ⟨by rw [hlen]; exact h.len, by rw [hlen]; exact h.odd, by rw [hr]; exact h.root, fun i hi h0 => ?_, fun i hi h0 => ?_, fun i i' k hi hi' h1 h2 => ?_, fun k hk => ?_⟩
  · rw [hlen] at hi
    rw [hlow] at h0
    rw [hc]; split
    · exact ⟨⟨rfl, rfl, rfl⟩, by unfold pieceC; simp only; omega, hn.2⟩
    · exact h.leaf i hi h0
  · rw [hlen] at hi
    rw [hlow] at h0
    obtain ⟨k, n1, n2, n3, n4, n5, n6, n7, n8⟩ := h.node i hi h0
    have e : cutF (BS.mark (s, p) number).cuts i = cutF s.cuts i := by rw [hc, if_neg (fun e => by subst e; exact h0 hl)]
    exact ⟨k, ⟨by rw [e]; exact n1, by rw [e]; exact n2, n3, by rw [hlen]; exact n4, by rw [e]; exact n5, by rw [e, hr]; exact n6, by rw [e, hr, hr]; exact n7, by rw [e, hr, hr]; exact n8⟩⟩
  · rw [hlen] at hi hi'
    rw [hlow] at h1 h2
    exact h.once i i' k hi hi' h1 h2
  · rw [hlen] at hk
    obtain ⟨i, g1, g2⟩ := h.every k hk
    exact ⟨i, by rw [hlen]; exact g1, by rw [hlow]; exact g2⟩
theorem tree_start (u : Rect) (kerf : Int) : TreeB u kerf ⟨[wasteC], [u]⟩ := by
  refine ⟨rfl, rfl, rfl, fun i hi h0 => ?_, fun i hi h0 => ?_, fun i i' k hi hi' h1 h2 => ?_, fun k hk => ?_⟩
  · obtain rfl : i = 0 := by simp at hi; omega
    exact ⟨⟨rfl, rfl, rfl⟩, by simp [cutF, wasteC], by simp [cutF, wasteC]⟩
  · obtain rfl : i = 0 := by simp at hi; omega
    exact absurd rfl h0
  · simp at hi hi'; omega
  · simp at hk
end
end Go.Proofs.YtpaindkfbgoogaaGreat

set_option linter.unusedVariables false
set_option linter.unusedSimpArgs false
namespace Go.Proofs.YtpaindkfbgoogaaGreat

def isP (b : Int) (c : Cut) : Bool := decide (c.low = 0) && decide (c.blank = b)
def cntB (cs : List Cut) (b : Int) : Nat := cs.countP (isP b)
theorem cnt_set {cs : List Cut} {p : Nat} {c : Cut} {b : Int} (hp : p < cs.length) : cntB (cs.set p c) b + (if isP b cs[p] = true then 1 else 0) = cntB cs b + (if isP b c = true then 1 else 0) := by
  unfold cntB
  induction cs generalizing p with
  | nil => simp at hp
  | cons x cs ih =>
    cases p with
    | zero =>
      simp only [List.set_cons_zero, List.countP_cons, List.getElem_cons_zero]
      omega
    | succ p =>
      have := ih (p := p) (by simpa using hp)
      simp only [List.set_cons_succ, List.countP_cons, List.getElem_cons_succ]
      omega
theorem cnt_app (a c : List Cut) (b : Int) : cntB (a ++ c) b = cntB a b + cntB c b := List.countP_append

/-- A board that is being cut. -/
structure FillB (j : Job) (b : Board) (s : BS) : Prop where
  fill : ∀ i, i < s.cuts.length → (cutF s.cuts i).low = 0 → 0 ≤ (cutF s.cuts i).blank → ∃ n : Nat, (cutF s.cuts i).blank = n ∧ n < j.blanks.length ∧ pieceOn b (bl j.blanks n) (s.r i) = 0
structure BoardIn (j : Job) (b : Board) (s : BS) : Prop where
  good : GoodB s
  tree : TreeB (usableR b j.trim) j.trim.kerf s
  fill : FillB j b s
/-- A region on its way to a piece. -/
structure Way (j : Job) (b : Board) (s0 : BS) (s : BS × Nat) (x1 y1 x2 y2 : Int) : Prop where
  good : GoodP s
  tree : TreeB (usableR b j.trim) j.trim.kerf s.1
  fill : FillB j b s.1
  low : (cutF s.1.cuts s.2).low = 0
  waste : (cutF s.1.cuts s.2).blank < 0
  r : s.1.r s.2 = ⟨x1, y1, x2, y2⟩
  cnt : ∀ n : Int, 0 ≤ n → cntB s.1.cuts n = cntB s0.cuts n
section
variable {j : Job} {b : Board} {s0 : BS} {x1 y1 x2 y2 : Int}
theorem cnt_cut {s : BS} {kerf : Int} {region : Nat} {across : Bool} {a n : Int} (hr : region < s.cuts.length) (hw : (cutF s.cuts region).blank < 0) (hn : 0 ≤ n) : cntB (s.cut kerf region across a).cuts n = cntB s.cuts n := by
  have h1 := cnt_set (cs := s.cuts ++ [wasteC, wasteC]) (p := region) (c := ⟨across, a, s.cuts.length, s.cuts.length + 1, 0⟩) (b := n) (by simp; omega)
  have e1 : (s.cuts ++ [wasteC, wasteC])[region]'(by simp; omega) = cutF s.cuts region := by rw [List.getElem_append_left hr, cutF_get hr]
  have e2 : isP n (cutF s.cuts region) = false := by unfold isP; rw [Bool.and_eq_false_iff]; right; simp; omega
  have e3 : isP n ⟨across, a, s.cuts.length, s.cuts.length + 1, 0⟩ = false := by
    unfold isP; rw [Bool.and_eq_false_iff]; left
    simp only [decide_eq_false_iff_not]; omega
  have e4 : cntB [wasteC, wasteC] n = 0 := by
    unfold cntB
    have : isP n wasteC = false := by unfold isP wasteC; rw [Bool.and_eq_false_iff]; right; simp; omega
    simp [List.countP_cons, this]
  rw [e1, e2, e3, cnt_app, e4] at h1
  simpa [BS.cut] using h1
theorem fill_cut {s : BS} {kerf : Int} {region : Nat} {across : Bool} {a : Int} (h : FillB j b s) (hlen : s.rects.length = s.cuts.length) (hr : region < s.cuts.length) : FillB j b (s.cut kerf region across a) := by
  refine ⟨fun i hi h0 hb => ?_⟩
  rw [cut_len] at hi
  rw [cutF_cut hr hi] at h0 hb ⊢
  split at h0
  · rename_i e; simp only at h0; omega
  · rename_i e
    rw [if_neg e] at hb ⊢
    split at h0
    · rename_i e2
      rw [if_pos e2] at hb ⊢
      rw [r_cut hlen e2]
      exact h.fill i e2 h0 hb
    · rename_i e2
      rw [if_neg e2] at hb
      simp [wasteC] at hb
theorem Way.low_ {s : BS × Nat} {a : Int} (h : Way j b s0 s x1 y1 x2 y2) {across : Bool} (hg : GoodP (s.1.cut j.trim.kerf s.2 across a, s.1.cuts.length)) (ha : 1 ≤ a ∧ a ≤ sizeR (s.1.r s.2) across - 1) :
    Way j b s0 (s.1.cut j.trim.kerf s.2 across a, s.1.cuts.length) x1 y1 (if across = true then x1 + a else x2) (if across = true then y2 else y1 + a) := by
  have hlt := h.good.lt
  have hc : cutF (s.1.cut j.trim.kerf s.2 across a).cuts s.1.cuts.length = wasteC := by rw [cutF_cut hlt (by omega), if_neg (by omega), if_neg (by omega)]
  refine ⟨hg, tree_cut h.tree hlt h.low ha, fill_cut h.fill h.tree.len hlt, by simp only; rw [hc]; rfl, by simp only; rw [hc]; decide, ?_, fun n hn => by simp only; rw [cnt_cut hlt h.waste hn]; exact h.cnt n hn⟩
  simp only
  rw [cut_low h.tree.len, h.r]
  unfold lowR
  cases across <;> simp
theorem Way.high_ {s : BS × Nat} {a : Int} (h : Way j b s0 s x1 y1 x2 y2) (hg : GoodP (s.1.cut j.trim.kerf s.2 true a, s.1.cuts.length + 1)) (ha : 1 ≤ a ∧ a ≤ sizeR (s.1.r s.2) true - 1) (hx : x1 + a + j.trim.kerf < x2) (hy : y1 < y2) :
    Way j b s0 (s.1.cut j.trim.kerf s.2 true a, s.1.cuts.length + 1) (x1 + a + j.trim.kerf) y1 x2 y2 := by
  have hlt := h.good.lt
  have hc : cutF (s.1.cut j.trim.kerf s.2 true a).cuts (s.1.cuts.length + 1) = wasteC := by rw [cutF_cut hlt (by omega), if_neg (by omega), if_neg (by omega)]
  refine ⟨hg, tree_cut h.tree hlt h.low ha, fill_cut h.fill h.tree.len hlt, by simp only; rw [hc]; rfl, by simp only; rw [hc]; decide, ?_, fun n hn => by simp only; rw [cnt_cut hlt h.waste hn]; exact h.cnt n hn⟩
  simp only
  rw [cut_high h.tree.len, h.r]
  unfold highR wholeR
  simp only [if_true]
  rw [if_neg (by omega)]
theorem fits_parts {ds : List Rect} {r : Rect} {w : Blank} {o : Int} (h : fitsB ds r w o = true) : r.x1 + o + w.length ≤ r.x2 ∧ r.y1 + w.width ≤ r.y2 ∧ soundB ds (pieceR r w o) = true := by
  unfold fitsB at h
  simp only [Bool.and_eq_true, decide_eq_true_eq] at h
  exact ⟨h.1.1, h.1.2, h.2⟩
theorem place_in {s : BS} {w : Blank} {number k : Nat} {o : Int} (h : BoardIn j b s) (hk : k < s.cuts.length) (hf : 0 ≤ j.trim.kerf) (hw : 0 < w.length) (hw2 : 0 < w.width) (hnum : number < j.blanks.length) (h29 : number ≤ 29) (hbl : bl j.blanks number = w) (hkind : kindB b w = true)
    (hs : s.at_ j.trim.kerf b.defects w k = some o) : BoardIn j b (s.place j.trim.kerf w number k o) ∧ ∀ n : Int, 0 ≤ n → cntB (s.place j.trim.kerf w number k o).cuts n = cntB s.cuts n + if n = number then 1 else 0 := by
  obtain ⟨hg, ho, hx⟩ := at_some h.good hk hf hw hs
  have hfree : freeC (s.cuts.getD k wasteC) (s.r k) = true ∧ fitsB b.defects (s.r k) w o = true := by
    unfold BS.at_ at hs
    split at hs
    · rename_i hfr; exact ⟨hfr, (offset_some hs).2⟩
    · cases hs
  obtain ⟨hfr, hfit⟩ := hfree
  obtain ⟨f1, f2, f3⟩ := fits_parts hfit
  have hck : s.cuts.getD k wasteC = cutF s.cuts k := by unfold cutF; rw [List.getD_eq_getElem?_getD, List.getD_eq_getElem?_getD, List.getElem?_eq_getElem hk]; rfl
  rw [hck] at hfr
  simp only [freeC, Bool.and_eq_true, decide_eq_true_eq] at hfr
  obtain ⟨⟨hl0, hbn⟩, -⟩ := hfr
  obtain ⟨q, hq⟩ : ∃ q, q = s.r k := ⟨_, rfl⟩
  have hpr : proper q := by rw [hq]; exact hg.pr
  rw [← hq] at f1 f2 f3 hx
  have hpr' := hpr
  unfold proper at hpr'
  have W0 : Way j b s (s, k) q.x1 q.y1 q.x2 q.y2 := ⟨hg, h.tree, h.fill, hl0, hbn, hq.symm, fun n hn => rfl⟩
  have W1 : Way j b s (s.cut1 j.trim.kerf k o) (q.x1 + o) q.y1 q.x2 q.y2 := by
    have g1 := good_cut1 hg hf ho (by rw [← hq]; omega)
    by_cases h0 : 0 < o
    · rw [cut1_pos h0] at g1 ⊢
      have ha : 1 ≤ o - j.trim.kerf ∧ o - j.trim.kerf ≤ sizeR (s.r k) true - 1 := by
        rw [← hq]; unfold sizeR; simp only [if_true]; omega
      have := W0.high_ (a := o - j.trim.kerf) g1 ha (by omega) (by omega)
      rw [show q.x1 + (o - j.trim.kerf) + j.trim.kerf = q.x1 + o by omega] at this
      exact this
    · obtain rfl : o = 0 := by omega
      rw [cut1_zero h0, Int.add_zero]; exact W0
  unfold BS.place
  generalize s.cut1 j.trim.kerf k o = t1 at W1 ⊢
  have W2 : Way j b s (BS.cut2 t1 j.trim.kerf w) (q.x1 + o) q.y1 (q.x1 + o + w.length) q.y2 := by
    have g2 := good_cut2 W1.good hf hw
    unfold BS.cut2 at g2 ⊢
    rw [W1.r] at g2 ⊢
    simp only at g2 ⊢
    by_cases h0 : w.length < q.x2 - (q.x1 + o)
    · rw [if_pos h0] at g2 ⊢
      have := W1.low_ (across := true) g2 (by rw [W1.r]; unfold sizeR; simp only [if_true]; omega)
      simpa using this
    · rw [if_neg h0, show q.x1 + o + w.length = q.x2 by omega]; exact W1
  generalize BS.cut2 t1 j.trim.kerf w = t2 at W2 ⊢
  have W3 : Way j b s (BS.cut3 t2 j.trim.kerf w) (q.x1 + o) q.y1 (q.x1 + o + w.length) (q.y1 + w.width) := by
    have g3 := good_cut3 W2.good hf hw2
    unfold BS.cut3 at g3 ⊢
    rw [W2.r] at g3 ⊢
    simp only at g3 ⊢
    by_cases h0 : w.width < q.y2 - q.y1
    · rw [if_pos h0] at g3 ⊢
      have := W2.low_ (across := false) g3 (by rw [W2.r]; unfold sizeR; simp; omega)
      simpa using this
    · rw [if_neg h0, show q.y1 + w.width = q.y2 by omega]; exact W2
  generalize BS.cut3 t2 j.trim.kerf w = t3 at W3 ⊢
  obtain ⟨s3, p3⟩ := t3
  have hlt : p3 < s3.cuts.length := W3.good.lt
  have hlow : (cutF s3.cuts p3).low = 0 := W3.low
  have hr3 : s3.r p3 = ⟨q.x1 + o, q.y1, q.x1 + o + w.length, q.y1 + w.width⟩ := W3.r
  refine ⟨⟨good_mark W3.good.toGoodB, tree_mark W3.tree hlt hlow (by omega), ⟨fun i hi h0 hb => ?_⟩⟩, fun n hn => ?_⟩
  · have hi : i < s3.cuts.length := by simpa [BS.mark] using hi
    have hc : cutF (BS.mark (s3, p3) number).cuts i = if i = p3 then pieceC number else cutF s3.cuts i := cutF_set hlt
    have hrr : (BS.mark (s3, p3) number).r i = s3.r i := rfl
    rw [hc] at h0 hb ⊢
    rw [hrr]
    by_cases e : i = p3
    · subst e
      rw [if_pos rfl]
      refine ⟨number, rfl, hnum, ?_⟩
      rw [hr3, hbl]
      unfold pieceOn
      have hk' : kindOk b w = true := hkind
      have hs' : soundB b.defects ⟨q.x1 + o, q.y1, q.x1 + o + w.length, q.y1 + w.width⟩ = true := f3
      rw [if_neg (by rw [hk']; decide), if_neg (by simp only; omega), if_neg (by rw [hs']; decide)]
    · rw [if_neg e] at h0 hb ⊢
      exact W3.fill.fill i hi h0 hb
  · have h1 := cnt_set (cs := s3.cuts) (p := p3) (c := pieceC number) (b := n) hlt
    have e2 : isP n s3.cuts[p3] = false := by
      have := W3.waste
      simp only at this
      rw [cutF_get hlt] at this
      unfold isP; rw [Bool.and_eq_false_iff]; right; simp; omega
    have e3 : isP n (pieceC number) = decide (n = number) := by
      unfold isP pieceC
      simp only [decide_true, Bool.true_and]
      by_cases e : n = number
      · subst e; simp
      · rw [decide_eq_false e, decide_eq_false (fun e' => e e'.symm)]
    rw [e2, e3] at h1
    have h2 := W3.cnt n hn
    simp only at h2
    show cntB (s3.cuts.set p3 (pieceC number)) n = _
    simp only [decide_eq_true_eq, Bool.false_eq_true, if_false] at h1
    omega
theorem put_in {s s' : BS} {w : Blank} {number : Nat} (h : BoardIn j b s) (hf : 0 ≤ j.trim.kerf) (hw : 0 < w.length) (hw2 : 0 < w.width) (hnum : number < j.blanks.length) (h29 : number ≤ 29) (hbl : bl j.blanks number = w)
    (hs : s.put j.trim.kerf b w number = some s') : BoardIn j b s' ∧ ∀ n : Int, 0 ≤ n → cntB s'.cuts n = cntB s.cuts n + if n = number then 1 else 0 := by
  unfold BS.put at hs
  split at hs
  · rename_i hk
    rw [Option.map_eq_some_iff] at hs
    obtain ⟨x, hx, rfl⟩ := hs
    obtain ⟨_, h2, h3⟩ := scan_some hx
    exact place_in h (by omega) hf hw hw2 hnum h29 hbl hk h3
  · cases hs
end

structure BoardsIn (j : Job) (L : List BS) : Prop where
  len : L.length = j.stock.length
  at_ : ∀ m (h : m < L.length), BoardIn j (j.stock.getD m default) L[m]
def tot (L : List BS) (n : Int) : Nat := (L.map fun s => cntB s.cuts n).sum
theorem tot_set : ∀ {L : List BS} {i : Nat} {s : BS} {n : Int} (hi : i < L.length), tot (L.set i s) n + cntB L[i].cuts n = tot L n + cntB s.cuts n
  | [], _, _, _, hi => by simp at hi
  | x :: L, 0, s, n, hi => by simp only [tot, List.set_cons_zero, List.map_cons, List.sum_cons, List.getElem_cons_zero]; omega
  | x :: L, i + 1, s, n, hi => by
    have := tot_set (L := L) (i := i) (s := s) (n := n) (by simpa using hi)
    simp only [tot, List.set_cons_succ, List.map_cons, List.sum_cons, List.getElem_cons_succ] at this ⊢
    omega
section
variable {j : Job}
theorem putAll_in {L L' : List BS} {number : Nat} (hJ : JobOk j.stock j.blanks j.trim) (hL : BoardsIn j L) (hnum : number < j.blanks.length) (h : putAll j.trim.kerf j.stock (bl j.blanks number) number L = some L') :
    BoardsIn j L' ∧ ∀ n : Int, 0 ≤ n → tot L' n = tot L n + if n = number then 1 else 0 := by
  obtain ⟨i, b, s, hi, hib, hp, rfl⟩ := putAll_some h
  have hiL : i < L.length := by rw [hL.len]; exact hi
  have hb : j.stock.getD i default = b := by rw [List.getD_eq_getElem?_getD, hib]; rfl
  have hs : L.getD i default = L[i] := by rw [List.getD_eq_getElem?_getD, List.getElem?_eq_getElem hiL]; rfl
  have hw := hJ.want (bl j.blanks number) (by unfold bl; rw [List.getD_eq_getElem?_getD, List.getElem?_eq_getElem hnum]; exact List.getElem_mem hnum)
  have hin := hL.at_ i hiL
  rw [hb] at hin
  rw [hs] at hp
  obtain ⟨h1, h2⟩ := put_in hin hJ.trim.1.1 (by omega) (by omega) hnum (by have := hJ.lenB; omega) rfl hp
  refine ⟨⟨by rw [List.length_set]; exact hL.len, fun m hm => ?_⟩, fun n hn => ?_⟩
  · rw [List.length_set] at hm
    rw [List.getElem_set]
    split
    · rename_i e; subst e; rw [hb]; exact h1
    · exact hL.at_ m hm
  · have h3 := tot_set (s := s) (n := n) hiL
    have h4 := h2 n hn
    omega
theorem run_in (hJ : JobOk j.stock j.blanks j.trim) : ∀ {seq : List Nat} {L L' : List BS}, (∀ i ∈ seq, i < j.blanks.length) → BoardsIn j L → runM j.trim.kerf j.stock j.blanks seq L = some L' →
    BoardsIn j L' ∧ ∀ n : Nat, tot L' n = tot L n + seq.count n
  | [], L, L', _, hL, h => by
    rw [runM] at h
    injection h with h
    subst h
    exact ⟨hL, fun n => by simp⟩
  | i :: seq, L, L', hi, hL, h => by
    rw [runM] at h
    split at h
    · rename_i L1 h1
      obtain ⟨g1, g2⟩ := putAll_in hJ hL (hi i (by simp)) h1
      obtain ⟨g3, g4⟩ := run_in hJ (fun x hx => hi x (List.mem_cons_of_mem _ hx)) g1 h
      refine ⟨g3, fun n => ?_⟩
      rw [g4 n, g2 n (by omega), List.count_cons]
      by_cases e : i = n
      · subst e; simp; omega
      · rw [if_neg (by omega), if_neg (by simpa using e)]; omega
    · cases h
theorem start_in (hJ : JobOk j.stock j.blanks j.trim) : BoardsIn j (startM j.stock j.trim) ∧ ∀ n : Nat, tot (startM j.stock j.trim) n = 0 := by
  refine ⟨⟨by simp [startM], fun m hm => ?_⟩, fun n => ?_⟩
  · have hm' : m < j.stock.length := by simpa [startM] using hm
    have hb := hJ.size _ (List.getElem_mem hm')
    have e : (startM j.stock j.trim)[m] = ⟨[wasteC], [usableR j.stock[m] j.trim]⟩ := by simp [startM]
    rw [e, List.getD_eq_getElem?_getD, List.getElem?_eq_getElem hm']
    refine ⟨⟨rfl, fun r hr => ?_⟩, tree_start _ _, ⟨fun i hi h0 hb0 => ?_⟩⟩
    · obtain rfl : r = usableR j.stock[m] j.trim := by simpa using hr
      unfold usableR
      refine okR_whole ?_
      have := hJ.trim
      simp only; omega
    · obtain rfl : i = 0 := by simp at hi; omega
      simp [cutF, wasteC] at hb0
  · unfold tot startM
    rw [List.map_map]
    have : ∀ l : List Board, ((l.map ((fun s : BS => cntB s.cuts n) ∘ fun b => (⟨[wasteC], [usableR b j.trim]⟩ : BS))).sum) = 0 := by
      intro l
      induction l with
      | nil => rfl
      | cons b l ih =>
        rw [List.map_cons, List.sum_cons, ih]
        have e : isP n wasteC = false := by unfold isP wasteC; rw [Bool.and_eq_false_iff]; right; simp
        simp [cntB, List.countP_cons, e]
    exact this _

/-! What comes out. -/
def outL : Nat → List BS → List (Nat × List Cut)
  | _, [] => []
  | i, s :: L => (if usedB s.cuts = true then [(i, s.cuts)] else []) ++ outL (i + 1) L
theorem out_is : ∀ {L : List BS} {i : Nat} {acc r : List (Nat × List Cut)}, outGo i L acc = some r → (∀ s ∈ L, s.cuts.length ≤ 400) ∧ r = acc ++ outL i L
  | [], i, acc, r, h => by
    rw [outGo] at h
    injection h with h
    exact ⟨fun s hs => by simp at hs, by simp [outL, h]⟩
  | s :: L, i, acc, r, h => by
    rw [outGo] at h
    split at h
    · cases h
    · rename_i h4
      obtain ⟨g1, g2⟩ := out_is h
      refine ⟨fun x hx => ?_, ?_⟩
      · rcases List.mem_cons.1 hx with rfl | hx
        · omega
        · exact g1 x hx
      · rw [g2, outL]
        split
        · simp
        · simp
def pcs (j : Job) (l : Layout) : List Placed := piecesTo l (layOf j l).1 l.cuts.length
theorem placesTo_flat {plan : List Layout} : ∀ {k : Nat}, k ≤ plan.length → placesTo j plan k = (plan.take k).flatMap (pcs j)
  | 0, _ => by simp [placesTo]
  | k + 1, hk => by rw [placesTo_step (by omega), placesTo_flat (by omega), List.take_succ_eq_append_getElem (by omega), List.flatMap_append, List.flatMap_singleton]; rfl
theorem placesM_flat {plan : List Layout} : placesM j plan = plan.flatMap (pcs j) := by
  unfold placesM; rw [placesTo_flat (Nat.le_refl _), List.take_length]
def ind (n : Nat) : Nat → Int := fun x => if x = n then 1 else 0
theorem sumP_app (f : Nat → Int) : ∀ A B : List Placed, sumP f (A ++ B) = sumP f A + sumP f B
  | [], B => by simp [sumP]
  | p :: A, B => by rw [List.cons_append, sumP, sumP_app f A B, sumP]; omega
theorem sum_piecesTo {l : Layout} {R : List Rect} {n : Nat} : ∀ {k : Nat}, k ≤ l.cuts.length → sumP (ind n) (piecesTo l R k) = ((l.cuts.take k).countP (isP n) : Nat)
  | 0, _ => by simp [piecesTo, sumP]
  | k + 1, hk => by
    have e1 : l.cuts.getD k default = l.cuts[k] := by rw [List.getD_eq_getElem?_getD, List.getElem?_eq_getElem (by omega)]; rfl
    rw [piecesTo, sumP_app, sum_piecesTo (by omega), List.take_succ_eq_append_getElem (by omega), List.countP_append, e1]
    generalize l.cuts[k] = c
    unfold isPieceC isP
    by_cases h0 : c.low = 0
    · by_cases h1 : 0 ≤ c.blank
      · rw [if_pos (by simp [h0, h1])]
        simp only [sumP, ind, List.countP_cons, List.countP_nil, h0, decide_true, Bool.true_and, decide_eq_true_eq]
        by_cases e : c.blank = n
        · rw [if_pos e, if_pos (by omega)]; omega
        · rw [if_neg e, if_neg (by omega)]; omega
      · rw [if_neg (by simp [h1])]
        simp only [sumP, List.countP_cons, List.countP_nil, h0, decide_true, Bool.true_and, decide_eq_true_eq]
        rw [if_neg (by omega)]; omega
    · rw [if_neg (by simp [h0])]
      simp [sumP, h0]
theorem sum_pcs {l : Layout} {n : Nat} : sumP (ind n) (pcs j l) = (cntB l.cuts n : Nat) := by
  unfold pcs cntB; rw [sum_piecesTo (Nat.le_refl _), List.take_length]
theorem not_used {cs : List Cut} {n : Nat} (h : ¬ usedB cs = true) : cntB cs n = 0 := by
  unfold cntB
  rw [List.countP_eq_zero]
  intro c hc hp
  apply h
  unfold usedB
  rw [List.any_eq_true]
  unfold isP at hp
  simp only [Bool.and_eq_true, decide_eq_true_eq] at hp
  exact ⟨c, hc, by simp only [Bool.and_eq_true, decide_eq_true_eq]; omega⟩
theorem sum_out {n : Nat} : ∀ (L : List BS) (i : Nat), sumP (ind n) ((planL (outL i L)).flatMap (pcs j)) = (tot L n : Nat)
  | [], i => by simp [outL, planL, sumP, tot]
  | s :: L, i => by
    have h1 := sum_out (n := n) L (i + 1)
    have h2 : tot (s :: L) n = cntB s.cuts n + tot L n := by simp [tot]
    rw [outL, h2]
    by_cases hu : usedB s.cuts = true
    · rw [if_pos hu]
      simp only [planL, List.cons_append, List.nil_append, List.map_cons, List.flatMap_cons] at h1 ⊢
      rw [sumP_app, h1, sum_pcs]
      simp
    · rw [if_neg hu, List.nil_append, h1, not_used hu]; simp
theorem lay_in {b : Board} {s : BS} {i : Nat} (h : BoardIn j b s) (hb : j.stock.getD i default = b) (h4 : s.cuts.length ≤ 400) : layOf j ⟨i, s.cuts⟩ = (s.rects, 0) := by
  unfold layOf
  simp only [Int.toNat_natCast]
  rw [hb]
  exact tree_reg h.tree h4
theorem layGo_out : ∀ (L : List BS) (i : Nat) (used : List Int), i + L.length = j.stock.length → (∀ m (h : m < L.length), BoardIn j (j.stock.getD (i + m) default) L[m] ∧ L[m].cuts.length ≤ 400) → (∀ x ∈ used, x < (i : Int)) → layGo j (planL (outL i L)) used = 0
  | [], i, used, _, _, _ => by simp [outL, planL, layGo]
  | s :: L, i, used, hlen, hL, hu => by
    have hrest := fun m (h : m < L.length) => hL (m + 1) (by simpa using h)
    simp only [List.getElem_cons_succ] at hrest
    have h0 := hL 0 (by simp)
    simp only [List.getElem_cons_zero, Nat.add_zero] at h0
    rw [List.length_cons] at hlen
    rw [outL]
    by_cases hus : usedB s.cuts = true
    · rw [if_pos hus]
      have e : planL ([(i, s.cuts)] ++ outL (i + 1) L) = ⟨i, s.cuts⟩ :: planL (outL (i + 1) L) := rfl
      rw [e, layGo, if_neg (by simp only; omega), if_neg (by intro hm; have := hu _ hm; simp only at this; omega), if_neg (by rw [lay_in h0.1 rfl h0.2]; simp)]
      refine layGo_out L (i + 1) _ (by omega) (fun m h => by have := hrest m h; rwa [show i + (m + 1) = i + 1 + m by omega] at this) fun x hx => ?_
      rcases List.mem_append.1 hx with hx | hx
      · have := hu x hx; omega
      · simp only [List.mem_singleton] at hx; omega
    · rw [if_neg hus, List.nil_append]
      exact layGo_out L (i + 1) _ (by omega) (fun m h => by have := hrest m h; rwa [show i + (m + 1) = i + 1 + m by omega] at this) fun x hx => by have := hu x hx; omega
theorem piece_in {b : Board} {s : BS} {i : Nat} (h : BoardIn j b s) (hb : j.stock.getD i default = b) (h4 : s.cuts.length ≤ 400) : ∀ p ∈ pcs j ⟨i, s.cuts⟩, pieceE j p = 0 ∧ 0 ≤ p.blank := by
  intro p hp
  unfold pcs at hp
  rw [lay_in h hb h4] at hp
  obtain ⟨k, hk, hc, rfl⟩ := piecesTo_at hp
  simp only at hk hc
  unfold isPieceC at hc
  simp only [Bool.and_eq_true, decide_eq_true_eq] at hc
  have e : s.cuts.getD k default = cutF s.cuts k := rfl
  rw [e] at hc
  obtain ⟨n, h1, h2, h3⟩ := h.fill.fill k hk hc.1 hc.2
  refine ⟨?_, by simp only; rw [e]; exact hc.2⟩
  unfold pieceE
  simp only
  rw [e, h1, if_neg (by omega), Int.toNat_natCast, Int.toNat_natCast, hb]
  exact h3
theorem pieces_out : ∀ (L : List BS) (i : Nat), (∀ m (h : m < L.length), BoardIn j (j.stock.getD (i + m) default) L[m] ∧ L[m].cuts.length ≤ 400) → ∀ p ∈ (planL (outL i L)).flatMap (pcs j), pieceE j p = 0 ∧ 0 ≤ p.blank
  | [], i, _, p, hp => by simp [outL, planL] at hp
  | s :: L, i, hL, p, hp => by
    have hrest := fun m (h : m < L.length) => hL (m + 1) (by simpa using h)
    simp only [List.getElem_cons_succ] at hrest
    have h0 := hL 0 (by simp)
    simp only [List.getElem_cons_zero, Nat.add_zero] at h0
    rw [outL] at hp
    have hr : ∀ p ∈ (planL (outL (i + 1) L)).flatMap (pcs j), pieceE j p = 0 ∧ 0 ≤ p.blank := pieces_out L (i + 1) fun m h => by have := hrest m h; rwa [show i + (m + 1) = i + 1 + m by omega] at this
    by_cases hus : usedB s.cuts = true
    · rw [if_pos hus] at hp
      have e : planL ([(i, s.cuts)] ++ outL (i + 1) L) = ⟨i, s.cuts⟩ :: planL (outL (i + 1) L) := rfl
      rw [e, List.flatMap_cons, List.mem_append] at hp
      rcases hp with hp | hp
      · exact piece_in h0.1 rfl h0.2 p hp
      · exact hr p hp
    · rw [if_neg hus, List.nil_append] at hp
      exact hr p hp
theorem pieceGo_good : ∀ {P : List Placed} {cs : List Int}, (∀ p ∈ P, pieceE j p = 0) → (pieceGo j P cs).1 = (zeroPl, 0)
  | [], cs, _ => rfl
  | p :: P, cs, h => by
    rw [pieceGo, if_neg (by rw [h p (by simp)]; simp)]
    exact pieceGo_good fun x hx => h x (List.mem_cons_of_mem _ hx)
theorem dot_ind {cs : List Int} {n : Nat} (h : n < cs.length) : dotL cs (ind n) = cs.getD n 0 := by
  unfold dotL ind
  rw [sumTo_congr (g := fun b => if b = n then cs.getD n 0 else 0) (fun b _ => by
    by_cases e : b = n
    · subst e; rw [if_pos rfl, if_pos rfl, Int.mul_one]
    · rw [if_neg e, if_neg e, Int.mul_zero]), sumTo_one, if_pos h]
theorem any_false_of {cs ns : List Int} {q : Int × Int → Bool} (hl : cs.length = ns.length) (h : ∀ i (h1 : i < cs.length) (h2 : i < ns.length), q (cs[i], ns[i]) = false) : (cs.zip ns).any q = false := by
  rw [List.any_eq_false]
  intro x hx
  obtain ⟨i, hi, rfl⟩ := List.mem_iff_getElem.1 hx
  rw [List.getElem_zip]
  have h1 : i < cs.length := by rw [List.length_zip] at hi; omega
  rw [h i h1 (by omega)]; decide
theorem count_good {cs : List Int} (hl : cs.length = j.blanks.length) (h : ∀ b (hb : b < j.blanks.length), cs.getD b 0 = j.blanks[b].count) : countE j cs = 0 := by
  have e : ∀ i (h1 : i < cs.length) (h2 : i < (countsOf j).length), cs[i] = (countsOf j)[i] := fun i h1 h2 => by
    have := h i (by omega)
    rw [List.getD_eq_getElem?_getD, List.getElem?_eq_getElem h1] at this
    simp only [countsOf, List.getElem_map]
    exact this
  have hln : cs.length = (countsOf j).length := by unfold countsOf; rw [List.length_map]; exact hl
  refine count_ok (any_false_of hln fun i h1 h2 => ?_) (any_false_of hln fun i h1 h2 => ?_)
  · rw [e i h1 h2]; simp
  · rw [e i h1 h2]; simp
theorem insOne_perm {l : List Blank} {order : List Nat} {i : Nat} : (insOne l order i).Perm (i :: order) := by
  unfold insOne
  refine List.perm_middle.trans ?_
  rw [List.take_append_drop]
theorem orderGo_perm {l : List Blank} : ∀ {r order : List Nat}, (orderGo l r order).Perm (r ++ order)
  | [], order => by simp [orderGo]
  | i :: r, order => by
    rw [orderGo]
    refine orderGo_perm.trans ?_
    refine ((insOne_perm).append_left r).trans ?_
    rw [List.cons_append]
    exact List.perm_middle
theorem orderM_perm {l : List Blank} : (orderM l).Perm (List.range l.length) := by
  unfold orderM
  have := orderGo_perm (l := l) (r := List.range l.length) (order := [])
  rwa [List.append_nil] at this
theorem count_flat (f : Nat → Nat) (n : Nat) : ∀ L : List Nat, (L.flatMap fun i => List.replicate (f i) i).count n = L.count n * f n
  | [] => by simp
  | i :: L => by
    rw [List.flatMap_cons, List.count_append, count_flat f n L, List.count_cons, List.count_replicate]
    by_cases e : i = n
    · subst e; simp [Nat.add_mul]; omega
    · simp [e]
theorem seq_count {l : List Blank} {n : Nat} (h : n < l.length) : (seqM l).count n = (bl l n).count.toNat := by
  unfold seqM
  rw [count_flat (fun i => (bl l i).count.toNat), orderM_perm.count_eq, show List.count n (List.range l.length) = 1 from ?_, Nat.one_mul]
  rw [List.count_range, if_pos h]
theorem seq_lt {l : List Blank} {i : Nat} (h : i ∈ seqM l) : i < l.length := by
  unfold seqM at h
  obtain ⟨x, hx, hi⟩ := List.mem_flatMap.1 h
  obtain rfl := (List.mem_replicate.1 hi).2
  exact orderM_lt hx
/-- THE GREEDY PLAN IS ACCEPTED. -/
theorem greedy_accepted (hE : jobE j = 0) {r : List (Nat × List Cut)} (hg : greedyM j.stock j.blanks j.trim = (r, 0)) : planE2 j (planL r) = (zeroPl, 0) ∧ r.length ≤ j.stock.length := by
  have hJ := jobOk_of hE
  unfold greedyM at hg
  split at hg
  · injection hg with _ h; simp at h
  · rename_i L hrun
    split at hg
    · injection hg with _ h; simp at h
    · rename_i r' hout
      injection hg with hg _
      subst hg
      obtain ⟨h4, hr⟩ := out_is hout
      rw [List.nil_append] at hr
      subst hr
      obtain ⟨s1, s2⟩ := start_in hJ
      obtain ⟨g1, g2⟩ := run_in hJ (fun i hi => seq_lt hi) s1 hrun
      have hL : ∀ m (h : m < L.length), BoardIn j (j.stock.getD (0 + m) default) L[m] ∧ L[m].cuts.length ≤ 400 := fun m h => by rw [Nat.zero_add]; exact ⟨g1.at_ m h, h4 _ (List.getElem_mem h)⟩
      have hp := pieces_out L 0 hL
      have hlen : ∀ (L : List BS) (i : Nat), (outL i L).length ≤ L.length := by
        intro L
        induction L with
        | nil => intro i; simp [outL]
        | cons s L ih => intro i; have := ih (i + 1); rw [outL]; split <;> simp <;> omega
      refine ⟨?_, by have := hlen L 0; rw [g1.len] at this; exact this⟩
      have hgo := pieceGo_good (j := j) (P := placesM j (planL (outL 0 L))) (cs := List.replicate j.blanks.length 0) (fun p h => (hp p (by rwa [placesM_flat] at h)).1)
      unfold planE2
      rw [if_neg (by rw [hE]; simp)]
      unfold planOf
      rw [if_neg (by rw [layGo_out L 0 [] (by rw [g1.len]; omega) hL (fun x hx => by simp at hx)]; simp), hgo, if_neg (by simp)]
      have hcs := fun n => pieceGo_all (ind n) (j := j) (P := placesM j (planL (outL 0 L))) (cs := List.replicate j.blanks.length 0) (by rw [hgo]) (by simp) (fun p h => (hp p (by rwa [placesM_flat] at h)).2)
      rw [count_good (by rw [(hcs 0).2.1]; simp) fun b hb => ?_]
      have h5 := (hcs b).2.2
      rw [dot_ind (by rw [(hcs 0).2.1]; simpa using hb), dot_ind (by simpa using hb), show sumP (ind b) (placesM j (planL (outL 0 L))) = _ by rw [placesM_flat, sum_out], g2 b, s2 b, seq_count hb] at h5
      rw [h5]
      have hw := hJ.want j.blanks[b] (List.getElem_mem hb)
      have hbb : bl j.blanks b = j.blanks[b] := by unfold bl; rw [List.getD_eq_getElem?_getD, List.getElem?_eq_getElem hb]; rfl
      rw [hbb, List.getD_eq_getElem?_getD, List.getElem?_replicate, if_pos hb]
      simp only [Option.getD_some]
      omega
end
end Go.Proofs.YtpaindkfbgoogaaGreat
