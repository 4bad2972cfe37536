/- What is left of bodies without others. -/
import Derived.Test.YtgjmfdhgeahdcaaGreatQH
set_option linter.unusedVariables false
set_option linter.unusedSimpArgs false
namespace Go.Proofs.YtgjmfdhgeahdcaaGreat
open Go Go.RowKit Go.Sort Go.Lib

def BR.at (w : World) (b o : Nat) (r : BR) : Prop := w.cell? ⟨b, o, none⟩ = some (.slice r.pa r.ps.length r.pc) ∧ w.cell? ⟨b, o + 1, none⟩ = some (.slice r.ca (corn r.ps).length r.cc)
def BRs.V (w : World) (a : Option Addr) (l : List BR) : Prop := RowV 2 BR.at w a l
theorem BRs.V.keep {w w' : World} {a : Option Addr} {l : List BR} (h : BRs.V w a l) (hb : Below w.heap.size w w') : BRs.V w' a l := RowV.keep (fun _ _ _ h => ⟨cell_keep hb h.1, cell_keep hb h.2⟩) h
theorem ownBRV {w : World} {base n c : Nat} {a : Option Addr} {l : List BR} (h : w.ownsRow base 73 2 (.slice a n c) n (l.flatMap cellsBR)) : BRs.V w a l :=
 own_rowV cellsBR_len (by decide) (fun b o x hx h => ⟨h 0 _ rfl, h 1 _ rfl⟩) h
theorem brsNews {w : World} {a : Option Addr} {l : List BR} (h : BRs.V w a l) : l ≠ [] → ∃ ad, a = some ad ∧ ∀ j u, (l.flatMap cellsBR)[j]? = some u → w.cell? (ad.add j) = some u := fun hne => by
 obtain ⟨b, off, rfl, _⟩ := h hne
 refine ⟨_, rfl, row_news cellsBR_len (by decide) (fun _ _ _ h c u hc => ?_) h⟩
 match c, hc with
 | 0, hc => simp [cellsBR] at hc; subst hc; exact h.1
 | 1, hc => simp [cellsBR] at hc; subst hc; exact h.2
 | c + 2, hc => simp [cellsBR] at hc
set_option maxHeartbeats 1000000 in
theorem left1_any (r : BR) (hl : r.ps.length ≤ 1000000) (w : World) :
    Calls Tryz.prog 52 #[.agg #[.slice r.pa r.ps.length r.pc, .slice r.ca (corn r.ps).length r.cc]] w fun e w' => e = .returned (.bool (decide (16 < r.ps.length))) ∧ Below w.heap.size w w' := by
 obtain ⟨rp, ra, rc, rca, rcc⟩ := r
 simp only at *
 generalize corn rp = CR
 go_enter Tryz.func52, Tryz.ntmps52
 go_wp2_with fail
 go_ret
 exact ⟨by simp; omega, by repeat (first | (with_reducible assumption) | exact Below.refl _ _ | (refine Below.setCell ?_ (by first | omega | (simp; omega) | (simp; done)) _) | (refine Below.alloc ?_ (by first | omega | (simp; omega) | (simp; done)) _) | (refine Below.drew ?_))⟩
set_option maxHeartbeats 1000000 in
theorem idx_left1 (a : Option Addr) (l : List BR) (c : Nat) (w : World) (hv : BRs.V w a l) (hl : l.length ≤ 1000000) (hb : ∀ r ∈ l, r.ps.length ≤ 1000000) :
    Calls Tryz.prog 82 #[.slice a l.length c, .func (.func 52) #[] #[]] w fun e w' => e = .returned (.int .i64 (idxOf (fun r => decide (16 < r.ps.length)) l)) ∧ Below w.heap.size w w' := by
 have HBL := Lib.hid hb
 clear hb
 go_enter Tryz.func82, Tryz.ntmps82
 go_wp2
 go_loopw [8] (fun i wr => ∃ k : Nat, k ≤ l.length ∧ i = .int .i64 k ∧ Hid (∀ j (hj : j < l.length), j < k → decide (16 < l[j].ps.length) = false) ∧ Below w.heap.size w wr) (fun i _ => l.length - (intOf i).toNat)
 case atStart => exact ⟨0, Nat.zero_le _, rfl, Lib.hid (fun j _ h => by omega), Below.refl _ _⟩
 case round =>
  obtain ⟨k, hk, rfl, HK, hbw⟩ := hrel
  have hsz := hbw.size
  by_cases hlt : k < l.length
  ·obtain ⟨b, off, rfl, hat⟩ := (hv.keep hbw).at_ hlt
   obtain ⟨c0, c1⟩ := hat
   have HH := Lib.hid (fun h => idxOf_hit (p := fun r : BR => decide (16 < r.ps.length)) hlt HK.out h)
   have HN := Lib.hid (fun h => none_step (p := fun r : BR => decide (16 < r.ps.length)) HK.out hlt h)
   have HF := Lib.hid (left1_any l[k] (HBL.out _ (List.getElem_mem hlt)) wr)
   generalize l[k] = d at *
   cases hq : decide (16 < d.ps.length)
   ·rw [hq] at HF
    go_wp2_with (go_at_call 52; refine HF.out.mono ?_; rintro e w1 ⟨rfl, hb⟩)
    go_round
    case rel => exact ⟨k + 1, by omega, by go_num, Lib.hid (HN.out hq), hbw.trans (hb.mono hsz)⟩
    case measure => simp [intOf]; omega
   ·rw [hq] at HF
    go_wp2_with (go_at_call 52; refine HF.out.mono ?_; rintro e w1 ⟨rfl, hb⟩)
    go_ret
    exact ⟨ret_int (HH.out hq).symm, hbw.trans (hb.mono hsz)⟩
  ·have hm := Lib.hid (idxOf_miss (p := fun r : BR => decide (16 < r.ps.length)) (l := l) (fun j hj => HK.out j hj (by omega)))
   clear HK
   go_wp2
   go_ret
   exact ⟨ret_int hm.out.symm, hbw⟩
theorem has_left1 (a : Option Addr) (l : List BR) (c : Nat) (w : World) (hv : BRs.V w a l) (hl : l.length ≤ 1000000) (hb : ∀ r ∈ l, r.ps.length ≤ 1000000) :
    Calls Tryz.prog 51 #[.slice a l.length c, .func (.func 52) #[] #[]] w fun e w' => e = .returned (.bool (l.any fun r => decide (16 < r.ps.length))) ∧ Below w.heap.size w w' := by
 have hi := Lib.hid (idxOf_bool (fun r : BR => decide (16 < r.ps.length)) l)
 go_enter Tryz.func51, Tryz.ntmps51
 go_wp2_with (go_at_call 82; refine (idx_left1 a l c _ hv hl hb).mono ?_; rintro e w1 ⟨rfl, hb⟩)
 go_ret
 exact ⟨ret_bool (by rw [← hi.out]), hb⟩
/-! The lists. -/
theorem cutK_len (l ds : List Pl) : ∀ n, (cutK l ds n).length ≤ n := by
 intro n
 induction n with
 | zero => simp [cutK]
 | succ n ih =>
  rw [cutK_succ, List.length_append]
  split <;> simp <;> omega
theorem leftM_step {y out : List (List Pl)} {c : List Pl} {x : List (List Pl)} {r : List (List Pl)} (h : piecesM out.length [nf c] y = some r) : leftM y out (c :: x) = leftM y (out ++ r) x := by
 rw [leftM, h]
theorem leftM_none {y out : List (List Pl)} {c : List Pl} {x : List (List Pl)} (h : piecesM out.length [nf c] y = none) : leftM y out (c :: x) = none := by
 rw [leftM, h]
def leftE (x y : List (List Pl)) : Int := match leftM y [] x with | none => 8 | some _ => 0
def LeftP (x y : List (List Pl)) (w w' : World) (v : Value) : Prop :=
 (leftM y [] x = none → v = .slice none 0 0) ∧
 (∀ l, leftM y [] x = some l → ∃ L : List BR, L.map (·.ps) = l ∧ (∀ q ∈ L, BRok w' v q ∧ NG w.heap.size q) ∧ w'.ownsRow w.heap.size 73 2 v L.length (L.flatMap cellsBR))
/-- Bodies that are given: their places, and what can be computed with. -/
structure Bods (w : World) (a : Option Addr) (L : List BR) : Prop where
 v : BRs.V w a L
 b : ∀ r ∈ L, BG w r ∧ r.ps.length ≤ 16
 l : L.length ≤ 100
theorem Bods.keep {w w' : World} {a : Option Addr} {L : List BR} (h : Bods w a L) (hb : Below w.heap.size w w') : Bods w' a L := ⟨h.v.keep hb, fun r hr => ⟨(h.b r hr).1.keep hb, (h.b r hr).2⟩, h.l⟩
/-- The cells of two bodies in boxes. -/
structure K4 (g14 : Nat) (p : BR) (g11 : Nat) (d : BR) (W : World) : Prop where
 a : W.cell? ⟨g14, 0, none⟩ = some (.slice p.pa p.ps.length p.pc)
 b : W.cell? ⟨g14, 1, none⟩ = some (.slice p.ca (corn p.ps).length p.cc)
 c : W.cell? ⟨g11, 0, none⟩ = some (.slice d.pa d.ps.length d.pc)
 d : W.cell? ⟨g11, 1, none⟩ = some (.slice d.ca (corn d.ps).length d.cc)
theorem K4.keep {g14 : Nat} {p : BR} {g11 : Nat} {d : BR} {W W' : World} (h : K4 g14 p g11 d W) (hb : Below W.heap.size W W') : K4 g14 p g11 d W' := ⟨cell_keep hb h.a, cell_keep hb h.b, cell_keep hb h.c, cell_keep hb h.d⟩
theorem K4.grown {g14 : Nat} {p : BR} {g11 : Nat} {d : BR} {W W' : World} {row : Option Nat} (h : K4 g14 p g11 d W) (hg : W.grownBy W' row) (h1 : row ≠ some g14) (h2 : row ≠ some g11) : K4 g14 p g11 d W' := ⟨grown_cell hg h.a h1, grown_cell hg h.b h1, grown_cell hg h.c h2, grown_cell hg h.d h2⟩
theorem BRok.bg {w : World} {v : Value} {z : Nat} {q : BR} (h : BRok w v q) (n : NG z q) : BG w q := ⟨h.pls, h.cos, n.g, n.l⟩
set_option maxRecDepth 100000 in
set_option maxHeartbeats 16000000 in
theorem left_any (xa : Option Addr) (Lx : List BR) (xc : Nat) (ya : Option Addr) (Ly : List BR) (yc : Nat) (w : World) (hx : Bods w xa Lx) (hy : Bods w ya Ly) :
    Calls Tryz.prog 31 #[.slice xa Lx.length xc, .slice ya Ly.length yc] w fun e w' => ∃ v, e = .returned (.tuple #[v, .int .i64 (leftE (Lx.map (·.ps)) (Ly.map (·.ps)))]) ∧ LeftP (Lx.map (·.ps)) (Ly.map (·.ps)) w w' v ∧ Below w.heap.size w w' := by
 obtain ⟨i0, hi0, hz0, hz1, hz2⟩ := info_parts bodyInfo
 have hmix : Tryz.prog.follows .mixedOrders = true := by kernel_rfl
 have HX := Lib.hid hx
 have HY := Lib.hid hy
 have HLX := Lib.hid hx.l
 have HLY := Lib.hid hy.l
 obtain ⟨XS, hXS⟩ : ∃ XS, XS = Lx.map (·.ps) := ⟨_, rfl⟩
 obtain ⟨YS, hYS⟩ : ∃ YS, YS = Ly.map (·.ps) := ⟨_, rfl⟩
 have HXS := Lib.hid hXS
 have HYS := Lib.hid hYS
 rw [← hXS, ← hYS]
 clear hx hy hXS hYS
 have hlx100 := HLX.out
 have hly100 := HLY.out
 go_enter Tryz.func31, Tryz.ntmps31
 go_wp2_with fail
 go_loopw [6, 17] (fun v iv wr => ∃ (i : Nat) (O : List BR), i ≤ Lx.length ∧ iv = .int .i64 (i : Int) ∧ Hid (∀ q ∈ O, BRok wr v q ∧ NG w.heap.size q) ∧ Hid (leftM YS [] XS = leftM YS (O.map (·.ps)) (XS.drop i)) ∧ Hid (O.length ≤ 100 + i) ∧ wr.ownsRow w.heap.size 73 2 v O.length (O.flatMap cellsBR) ∧ Below w.heap.size w wr) (fun _ iv _ => Lx.length - (intOf iv).toNat)
 case atStart => exact ⟨0, [], Nat.zero_le _, rfl, Lib.hid (fun q hq => absurd hq (by simp)), Lib.hid rfl, Lib.hid (by simp), ⟨rfl, .inl ⟨rfl, rfl⟩⟩, Below.refl _ _⟩
 case round =>
  obtain ⟨i, O, hi, rfl, HOK, HLM, HOL, hown, hb⟩ := hrel
  have HB := Lib.hid hb
  have HO := Lib.hid hown
  have HXW := Lib.hid (HX.out.keep hb)
  have hz := hb.size
  obtain ⟨oa, oc, rfl, -, -⟩ := own_slice hown
  clear hown hb
  obtain ⟨W1, rfl⟩ : ∃ W1 : World, W1 = wr := ⟨_, rfl⟩
  by_cases hlt : i < Lx.length
  ·have hki : (i : Int) < (Lx.length : Int) := by omega
   obtain ⟨b, off, rfl, hat⟩ := HXW.out.v.at_ hlt
   obtain ⟨c0, c1⟩ := hat
   have HCB := Lib.hid (HXW.out.b _ (List.getElem_mem hlt))
   have HXD := Lib.hid (show XS.drop i = Lx[i].ps :: XS.drop (i + 1) by rw [HXS.out, List.drop_eq_getElem_cons (by simpa using hlt)]; simp)
   generalize Lx[i] = c at *
   have HST := Lib.hid (fun W (hb : Below W1.heap.size W1 W) => settled_any c W (HCB.out.1.keep hb))
   have HCL := Lib.hid HCB.out.2
   obtain ⟨cp, cpa, cpc, cca, ccc⟩ := c
   simp only at c0 c1 HXD HST HCL
   generalize corn cp = CC at *
   go_upto_region 6 with (go_at_call 48; refine (HST.out _ ((Below.refl _ _).alloc (Nat.le_refl _) _)).mono ?_; rintro e w5 ⟨⟨qp, qa, qc, qca, qcc⟩, hqp, rfl, hn, hb⟩; have HQP := Lib.hid hqp; have HN := Lib.hid (hn.mono (by simp : W1.heap.size ≤ _)); have HB5 := Lib.hid (((Below.refl W1.heap.size W1).alloc (Nat.le_refl _) _).trans (hb.mono (by simp))); clear hqp hn hb; simp only at HQP)
   generalize hcq : corn qp = CQ at *
   have HCQ := Lib.hid hcq
   clear hcq
   refine gen_world (fun W6 => Below w5.heap.size w5 W6 ∧ BRs.V W6 (some ⟨w5.heap.size, 0, none⟩) [⟨qp, qa, qc, qca, qcc⟩]) ⟨(Below.refl _ _).alloc (Nat.le_refl _) _, fun _ => ⟨w5.heap.size, 0, rfl, fun k x hk => by
    match k, hk with
    | 0, hk => simp at hk; subst hk; exact ⟨by simp [go_sem], by simp only [HCQ.out]; simp [go_sem]⟩
    | k + 1, hk => simp at hk⟩⟩ ?_
   rintro W6 ⟨hb6, hpv⟩
   have HPV6 := Lib.hid hpv
   have HB6 := Lib.hid (show Below W1.heap.size W1 W6 from HB5.out.trans (hb6.mono HB5.out.size))
   have HN6 := Lib.hid (HN.out.keep hb6)
   have HBW6 := Lib.hid (show Below w.heap.size w W6 from HB.out.trans (HB6.out.mono hz))
   have HQL := Lib.hid (show qp.length ≤ 16 by rw [HQP.out]; exact Nat.le_trans (nor_len _ _) HCL.out)
   have HP0 := Lib.hid (show ∀ q ∈ [(⟨qp, qa, qc, qca, qcc⟩ : BR)], BRok W6 (.slice none 0 0) q ∧ NG W1.heap.size q ∧ q.ps.length ≤ 16 from fun q hq => by
    simp only [List.mem_singleton] at hq; subst hq
    exact ⟨HN6.out.ok (fun g hg => by simp [Value.ownBlock] at hg), HN6.out.ng (by have := HQL.out; simp only; omega), HQL.out⟩)
   generalize w5.heap.size = g9 at hpv HPV6 ⊢
   have HYW := Lib.hid (HY.out.keep HBW6.out)
   clear hb6 hpv c0 c1
   go_wp2_with fail
   go_loopw [9, 26] (fun pv jv wq => ∃ (j : Nat) (pa : Option Addr) (pc : Nat) (P : List BR), pv = .slice pa P.length pc ∧ j ≤ Ly.length ∧ jv = .int .i64 (j : Int) ∧ BRs.V wq pa P ∧ Hid (∀ q ∈ P, BRok wq (.slice none 0 0) q ∧ NG W1.heap.size q ∧ q.ps.length ≤ 16) ∧ Hid (piecesM O.length [nf cp] YS = piecesM O.length (P.map (·.ps)) (YS.drop j)) ∧ Hid (P.length ≤ 100 ∧ O.length + P.length ≤ 100 + (i + 1)) ∧ Below W6.heap.size W6 wq) (fun _ jv _ => Ly.length - (intOf jv).toNat)
   case atStart => exact ⟨0, _, 1, [⟨qp, qa, qc, qca, qcc⟩], rfl, Nat.zero_le _, rfl, HPV6.out, HP0, Lib.hid (by simp only [List.map_cons, List.map_nil, HQP.out, List.drop_zero]), Lib.hid ⟨by simp, by have := HOL.out; simp; omega⟩, Below.refl _ _⟩
   case round =>
    obtain ⟨j, pa, pc, P, rfl, hj, rfl, hpv, HPO, HPM, HPL, hb⟩ := hrel
    obtain ⟨W7, rfl⟩ : ∃ W7 : World, W7 = wr := ⟨_, rfl⟩
    have hpl100 := HPL.out.1
    have HB7 := Lib.hid hb
    have HPV7 := Lib.hid hpv
    have HBW7 := Lib.hid (HBW6.out.trans (hb.mono HBW6.out.size))
    have HYW7 := Lib.hid (HY.out.keep HBW7.out)
    have hz7 := hb.size
    clear hb hpv
    by_cases hlt2 : j < Ly.length
    ·have hkj : (j : Int) < (Ly.length : Int) := by omega
     obtain ⟨yb, yoff, rfl, hat⟩ := HYW7.out.v.at_ hlt2
     obtain ⟨d0, d1⟩ := hat
     have HDB := Lib.hid (HYW7.out.b _ (List.getElem_mem hlt2))
     have HYD := Lib.hid (show YS.drop j = Ly[j].ps :: YS.drop (j + 1) by rw [HYS.out, List.drop_eq_getElem_cons (by simpa using hlt2)]; simp)
     generalize Ly[j] = d at *
     go_upto_region 10 with fail
     refine gen_world (fun W8 => Below W7.heap.size W7 W8 ∧ W8.cell? ⟨W7.heap.size, 0, none⟩ = some (.slice d.pa d.ps.length d.pc) ∧ W8.cell? ⟨W7.heap.size, 1, none⟩ = some (.slice d.ca (corn d.ps).length d.cc)) ⟨(Below.refl _ _).alloc (Nat.le_refl _) _, by simp [go_sem], by simp [go_sem]⟩ ?_
     rintro W8 ⟨hb8, x0, x1⟩
     have HB8 := Lib.hid hb8
     have HBW8 := Lib.hid (HBW7.out.trans (hb8.mono HBW7.out.size))
     have HDB8 := Lib.hid (HDB.out.1.keep hb8)
     have HDL := Lib.hid HDB.out.2
     have HPV8 := Lib.hid (HPV7.out.keep hb8)
     have HPO8 := Lib.hid (show ∀ q ∈ P, BRok W8 (.slice none 0 0) q ∧ NG W1.heap.size q ∧ q.ps.length ≤ 16 from fun q hq => ⟨(HPO.out q hq).1.keep hb8, (HPO.out q hq).2⟩)
     have HX0 := Lib.hid x0
     have HX1 := Lib.hid x1
     generalize W7.heap.size = g11 at hz7 x0 x1 HX0 HX1 ⊢
     clear d0 d1 hb8
     go_wp2_with fail
     go_loopw [12, 32] (fun rv mv wq => ∃ (m : Nat) (R : List BR), m ≤ P.length ∧ mv = .int .i64 (m : Int) ∧ wq.ownsRow W8.heap.size 73 2 rv R.length (R.flatMap cellsBR) ∧ Hid (R.map (·.ps) = stepM d.ps ((P.map (·.ps)).take m)) ∧ Hid (∀ q ∈ R, BRok wq rv q ∧ NG W1.heap.size q) ∧ Hid (R.length ≤ m * 20) ∧ Below W8.heap.size W8 wq) (fun _ mv _ => P.length - (intOf mv).toNat)
     case atStart => exact ⟨0, [], Nat.zero_le _, rfl, ⟨rfl, .inl ⟨rfl, rfl⟩⟩, Lib.hid rfl, Lib.hid (fun q hq => absurd hq (by simp)), Lib.hid (by simp), Below.refl _ _⟩
     case round =>
      obtain ⟨m, R, hm, rfl, hown, HRM, HRO, HRL, hb⟩ := hrel
      obtain ⟨W9, rfl⟩ : ∃ W9 : World, W9 = wr := ⟨_, rfl⟩
      have HB9 := Lib.hid hb
      have HO9 := Lib.hid hown
      have HX09 := Lib.hid (cell_keep hb HX0.out)
      have HX19 := Lib.hid (cell_keep hb HX1.out)
      have hz9 := hb.size
      obtain ⟨ra, rc, rfl, -, -⟩ := own_slice hown
      clear hown
      by_cases hlt3 : m < P.length
      ·have hkm : (m : Int) < (P.length : Int) := by omega
       obtain ⟨pb, poff, rfl, hat⟩ := (HPV8.out.keep hb).at_ hlt3
       obtain ⟨p0, p1⟩ := hat
       have HPK := Lib.hid (HPO8.out _ (List.getElem_mem hlt3))
       have HSM := Lib.hid (show stepM d.ps ((P.map (·.ps)).take (m + 1)) = stepM d.ps ((P.map (·.ps)).take m) ++ step1 d.ps P[m].ps by rw [stepM_succ (by simpa using hlt3)]; simp)
       generalize P[m] = p at *
       have HPB9 := Lib.hid ((HPK.out.1.keep hb).bg HPK.out.2.1)
       have HDB9 := Lib.hid (HDB8.out.keep hb)
       have HME := Lib.hid (fun W (hw : Below W9.heap.size W9 W) => meets_any p d W (HPB9.out.keep hw) (HDB9.out.keep hw) (by have := HPK.out.2.2; have := HDL.out; omega))
       clear hb
       go_upto_region 13 with fail
       refine gen_world (fun WA => Below W9.heap.size W9 WA ∧ WA.cell? ⟨W9.heap.size, 0, none⟩ = some (.slice p.pa p.ps.length p.pc) ∧ WA.cell? ⟨W9.heap.size, 1, none⟩ = some (.slice p.ca (corn p.ps).length p.cc) ∧ WA.cell? ⟨g11, 0, none⟩ = some (.slice d.pa d.ps.length d.pc) ∧ WA.cell? ⟨g11, 1, none⟩ = some (.slice d.ca (corn d.ps).length d.cc)) ⟨(Below.refl _ _).alloc (Nat.le_refl _) _, by simp [go_sem], by simp [go_sem], cell_keep ((Below.refl _ _).alloc (Nat.le_refl _) _) HX09.out, cell_keep ((Below.refl _ _).alloc (Nat.le_refl _) _) HX19.out⟩ ?_
       rintro WA ⟨hbA, y0, y1, e0, e1⟩
       have HBA := Lib.hid hbA
       have HMEA := Lib.hid (HME.out WA hbA)
       have HY0 := Lib.hid y0
       have HY1 := Lib.hid y1
       have HE0 := Lib.hid e0
       have HE1 := Lib.hid e1
       have HG14 := Lib.hid (Nat.le_refl W9.heap.size)
       generalize hg14 : W9.heap.size = g14 at y0 y1 HY0 HY1 ⊢
       have HG14 := Lib.hid hg14
       clear hg14
       clear hbA p0 p1
       have hgo14 : (Value.slice ra R.length rc).ownBlock ≠ some g14 := fun e => by
        have h1 := (own_lt HO9.out e).2
        have h2 := HG14.out
        omega
       have hgo11 : (Value.slice ra R.length rc).ownBlock ≠ some g11 := fun e => by
        have h1 := (own_lt HO9.out e).1
        have h2 := block_lt_of_cell HX0.out
        simp only at h2
        omega
       have HGO := Lib.hid (And.intro hgo14 hgo11)
       have HOA := Lib.hid (own_keep HO9.out HBA.out)
       have HROA := Lib.hid (show ∀ q ∈ R, BRok WA (.slice ra R.length rc) q ∧ NG W1.heap.size q from fun q hq => ⟨(HRO.out q hq).1.keep HBA.out, (HRO.out q hq).2⟩)
       have HPOA := Lib.hid (show BRok WA (.slice ra R.length rc) p from ((HPK.out.1.keep HB9.out).keep HBA.out).to (fun b e he => by have h1 := (own_lt HO9.out he).1; have h2 := (HPK.out.1.pb b e).1; omega) (fun b e he => by have h1 := (own_lt HO9.out he).1; have h2 := (HPK.out.1.cb b e).1; omega))
       have HB8A := Lib.hid (show Below W8.heap.size W8 WA from HB9.out.trans (HBA.out.mono hz9))
       have HNGP := Lib.hid HPK.out.2.1
       have HP16 := Lib.hid HPK.out.2.2
       clear hgo14 hgo11
       cases hme : meetsM p.ps d.ps with
       | false =>
        rw [hme] at HMEA
        have HS1 := Lib.hid (show step1 d.ps p.ps = [p.ps] by unfold step1; rw [hme]; rfl)
        have HCB := Lib.hid (show cellsBR p = [.slice p.pa p.ps.length p.pc, .slice p.ca (corn p.ps).length p.cc] from rfl)
        go_wp2_with (first
         | (go_at_call 49; refine HMEA.out.mono ?_; rintro e wB ⟨rfl, hb⟩; have HBB := Lib.hid hb; have y0B := cell_keep hb y0; have y1B := cell_keep hb y1; clear hb)
         | (at_builtin; refine wpList_append_here _ rfl _ _ 68 rfl W8.heap.size 73 i0 (.agg #[.slice none 0 0, .slice none 0 0]) 2 48 Tryz.underlying68 hi0 hz0 hz1 hz2 rfl (by decide) (.slice ra R.length rc) R.length (R.flatMap cellsBR) rfl (own_keep (own_keep HOA.out HBB.out) ((Below.refl _ _).alloc (Nat.le_refl _) (.cells #[.slice p.pa p.ps.length p.pc, .slice p.ca (corn p.ps).length p.cc] 73))) ⟨wB.heap.size, 0, none⟩ 1 1 (cellsBR p) rfl rfl (by rw [HCB.out]; exact news_of _ _ _ _ rfl) (cellsBR_one _) (by decide) (by have := HRL.out; have := HPL.out.1; simp only [maxLen]; omega) (by have := HRL.out; have := HPL.out.1; omega) (by have := HB8A.out.size; have := HBB.out.size; simp; omega) ?_; intro v' wD hownD hgrD hatD; have HGD := Lib.hid hgrD; have HAD := Lib.hid hatD; have HOD := Lib.hid hownD; clear hownD hgrD hatD))
        have hkB := (Below.refl wB.heap.size wB).alloc (Nat.le_refl _) (.cells #[.slice p.pa p.ps.length p.pc, .slice p.ca (corn p.ps).length p.cc] 73)
        have HFIN := Lib.hid (show (∀ q ∈ R ++ [p], BRok wD v' q ∧ NG W1.heap.size q) ∧ wD.ownsRow W8.heap.size 73 2 v' (R ++ [p]).length ((R ++ [p]).flatMap cellsBR) ∧ Below W8.heap.size W8 wD from by
         refine ⟨fun q hq => ?_, by rw [List.flatMap_append, List.length_append]; simpa using HOD.out, below_grown (HB8A.out.trans ((HBB.out.trans (hkB.mono HBB.out.size)).mono HB8A.out.size)) HGD.out (by have := HB8A.out.size; have := HBB.out.size; simp; omega) (fun g hg => (own_lt HOA.out hg).1)⟩
         rcases List.mem_append.1 hq with hq | hq
         ·exact ⟨(((HROA.out q hq).1.keep HBB.out).keep hkB).grown HGD.out HAD.out, (HROA.out q hq).2⟩
         ·simp only [List.mem_singleton] at hq; subst hq
          exact ⟨((HPOA.out.keep HBB.out).keep hkB).grown HGD.out HAD.out, HNGP.out⟩)
        go_roundw
        case rel => exact ⟨m + 1, R ++ [p], by omega, by go_num, HFIN.out.2.1, Lib.hid (by rw [List.map_append, HRM.out, HSM.out, HS1.out]; rfl), Lib.hid HFIN.out.1, Lib.hid (by have := HRL.out; simp; omega), HFIN.out.2.2⟩
        case measure => first | (simp [intOf]; done) | (simp [intOf]; omega)
       | true =>
        rw [hme] at HMEA
        have HS1 := Lib.hid (show step1 d.ps p.ps = cutM p.ps (nf d.ps) by unfold step1; rw [hme]; rfl)
        go_upto_region 15 with (go_at_call 49; refine HMEA.out.mono ?_; rintro e wB ⟨rfl, hb⟩; have HBB := Lib.hid hb; clear hb)
        have HK4 := Lib.hid (show K4 g14 p g11 d wB from ⟨cell_keep HBB.out HY0.out, cell_keep HBB.out HY1.out, cell_keep HBB.out HE0.out, cell_keep HBB.out HE1.out⟩)
        have HOB := Lib.hid (own_keep HOA.out HBB.out)
        have HB8B := Lib.hid (show Below W8.heap.size W8 wB from HB8A.out.trans (HBB.out.mono HB8A.out.size))
        have HROB := Lib.hid (show ∀ q ∈ R, BRok wB (.slice ra R.length rc) q ∧ NG W1.heap.size q from fun q hq => ⟨(HROA.out q hq).1.keep HBB.out, (HROA.out q hq).2⟩)
        have HPBB := Lib.hid ((HPB9.out.keep HBA.out).keep HBB.out)
        have HDBB := Lib.hid ((HDB9.out.keep HBA.out).keep HBB.out)
        have HNDL := Lib.hid (show (nf d.ps).length ≤ 16 from Nat.le_trans (nor_len _ _) HDL.out)
        have HNDG := Lib.hid (show Good (nf d.ps) from HDBB.out.g.nor _)
        have kx0 : ∀ y : KW (fun W' => K4 g14 p g11 d W'), (y.w.cell? ⟨g14, 0, none⟩ = some (.slice p.pa p.ps.length p.pc) ∧ y.w.cell? ⟨g14, 1, none⟩ = some (.slice p.ca (corn p.ps).length p.cc)) := fun y => ⟨y.ok.a, y.ok.b⟩
        have kx1 : ∀ y : KW (fun W' => K4 g14 p g11 d W'), (y.w.cell? ⟨g11, 0, none⟩ = some (.slice d.pa d.ps.length d.pc) ∧ y.w.cell? ⟨g11, 1, none⟩ = some (.slice d.ca (corn d.ps).length d.cc)) := fun y => ⟨y.ok.c, y.ok.d⟩
        haveI n1 : Nonempty (KW (fun W' => K4 g14 p g11 d W')) := ⟨⟨wB, HK4.out⟩⟩
        refine wp_region_tree (fun w' => ∃ y : KW (fun W' => K4 g14 p g11 d W'), w' = y.w) 7 (.take 0 (.take 1 (.take 2 (.one 3 (.take 4 (.one 5 (.one 6 .done))))))) hmix (by kernel_rfl) (KW.mk' (HK4.out.keep (Below.refl _ _).drew)) ?_
        have HC0 := Lib.hid (show Below wB.heap.size wB wB.drew from (Below.refl _ _).drew)
        have HKC := Lib.hid (HK4.out.keep HC0.out)
        generalize wB.drew = wC at *
        have hfl := fldCell
        (refine wpTree_take ?_; simp only [nthOp]; (first | go_big_quiet_step (fail) | quiet_step (fail)); refine wpQuiet_nil ?_)
        (refine wpTree_take ?_; simp only [nthOp]; (first | go_big_quiet_step (fail) | quiet_step (fail)); refine wpQuiet_nil ?_)
        (refine wpTree_take ?_; simp only [nthOp]; (first | go_big_quiet_step (fail) | quiet_step (fail)); refine wpQuiet_nil ?_)
        refine wpTree_one ?_
        simp only [nthOp]
        go_wp2_with (go_at_call 37; refine (normalForm_any d.ps d.pa d.pc (corn d.ps) d.ca d.cc _ (HDBB.out.keep HC0.out).g (HDBB.out.keep HC0.out).ci (HDBB.out.keep HC0.out).l (HDBB.out.keep HC0.out).cl (HDBB.out.keep HC0.out).pls (HDBB.out.keep HC0.out).cos).mono ?_; rintro e wE ⟨na, nc, rfl, ho, hb⟩; have HNO := Lib.hid (show wE.ownsRow wC.heap.size 43 4 (.slice na (nf d.ps).length nc) (nf d.ps).length ((nf d.ps).flatMap cellsPl) from ho); have HCE := Lib.hid hb; clear ho hb)
        refine One_mk (KW.mk' (HKC.out.keep HCE.out)) ?_
        rw [show (nor d.ps (corn d.ps)) = nf d.ps from rfl]
        have HCE0 := Lib.hid (HC0.out.trans (HCE.out.mono HC0.out.size))
        generalize hnd : nf d.ps = ND at *
        have HND := Lib.hid hnd
        clear hnd
        (refine wpTree_take ?_; simp only [nthOp]; (first | go_big_quiet_step (fail) | quiet_step (fail)); refine wpQuiet_nil ?_)
        refine wpTree_one ?_
        simp only [nthOp]
        have HWO := Lib.hid (without_any p ND na nc wE (HPBB.out.keep HCE0.out) (by have := HP16.out; have := HNDL.out; omega) (ownPlV (fun x hx => Pl.in_.wf (HNDG.out x hx).1) HNO.out) HNDG.out (own_len_le HNO.out).2)
        go_wp2_with (go_at_call 50; refine HWO.out.mono ?_; rintro e wF ⟨v2, L2, rfl, h2p, h2o, h2w, hb⟩; obtain ⟨v2a, v2c, rfl, -, -⟩ := own_slice h2w; have H2P := Lib.hid h2p; have H2O := Lib.hid h2o; have H2W := Lib.hid h2w; have HEF := Lib.hid hb; clear h2p h2o h2w hb)
        have HBF := Lib.hid (show Below wB.heap.size wB wF from HCE0.out.trans (HEF.out.mono HCE0.out.size))
        refine One_mk (KW.mk' ((HKC.out.keep HCE.out).keep HEF.out)) ?_
        have H2L := Lib.hid (show L2.length ≤ 16 by have h1 := congrArg List.length H2P.out; have h2 := cutK_len p.ps ND ND.length; have h3 := HNDL.out; simp only [List.length_map] at h1; unfold cutM at h1; omega)
        refine wpTree_one ?_
        simp only [nthOp]
        have HOF := Lib.hid (own_keep HOB.out HBF.out)
        at_builtin
        refine wpList_append_rows cellsBR_len cellsBR_one (by decide) rfl _ _ 68 rfl W8.heap.size 73 i0 (.agg #[.slice none 0 0, .slice none 0 0]) 48 Tryz.underlying68 hi0 hz0 hz1 hz2 rfl (by decide) (.slice ra R.length rc) R.length (R.flatMap cellsBR) rfl HOF.out v2a L2 v2c rfl (brsNews (ownBRV H2W.out)) (by have := HRL.out; have := H2L.out; omega) (by have := HB8B.out.size; have := HBF.out.size; omega) ?_
        intro v' wD hownD hgrD hatD
        have HGD := Lib.hid hgrD
        have HFIN := Lib.hid (show (∀ q ∈ R ++ L2, BRok wD v' q ∧ NG W1.heap.size q) ∧ wD.ownsRow W8.heap.size 73 2 v' (R ++ L2).length ((R ++ L2).flatMap cellsBR) ∧ Below W8.heap.size W8 wD from by
         refine ⟨fun q hq => ?_, by rw [List.flatMap_append, List.length_append]; exact hownD, below_grown (HB8B.out.trans (HBF.out.mono HB8B.out.size)) hgrD (by have := HB8B.out.size; have := HBF.out.size; omega) (fun g hg => (own_lt HOB.out hg).1)⟩
         rcases List.mem_append.1 hq with hq | hq
         ·exact ⟨((HROB.out q hq).1.keep HBF.out).grown hgrD hatD, (HROB.out q hq).2⟩
         ·obtain ⟨hq1, hq2⟩ := H2O.out q hq
          exact ⟨(hq1.to (fun b e he => by have h1 := (own_lt HOB.out he).2; have h2 := hq2.p b e; have := HCE0.out.size; omega) (fun b e he => by have h1 := (own_lt HOB.out he).2; have h2 := hq2.c b e; have := HCE0.out.size; omega)).grown hgrD hatD, hq2.mono (by have := HCE0.out.size; have := HB8B.out.size; have := HB8.out.size; have := HB7.out.size; have := HB6.out.size; omega)⟩)
        have HKD := Lib.hid (((HKC.out.keep HCE.out).keep HEF.out).grown hgrD HGO.out.1 HGO.out.2)
        clear hownD hgrD hatD kx0 kx1
        go_wp2_with fail
        refine One_mk (KW.mk' HKD.out) ?_
        refine wpTree_done ?_
        simp only [List.drop_succ_cons, List.drop_zero]
        go_wp2_with fail
        refine NP_mk ?_
        go_wp2_with fail
        go_roundw
        case rel => exact ⟨m + 1, R ++ L2, by omega, by go_num, HFIN.out.2.1, Lib.hid (by rw [List.map_append, HRM.out, HSM.out, HS1.out, H2P.out]), Lib.hid HFIN.out.1, Lib.hid (by have := HRL.out; have := H2L.out; simp; omega), HFIN.out.2.2⟩
        case measure => first | (simp [intOf]; done) | (simp [intOf]; omega)
      ·obtain rfl : m = P.length := by omega
       have hkm : ¬ ((P.length : Nat) : Int) < ((P.length : Nat) : Int) := by omega
       have HRV := Lib.hid (ownBRV HO9.out)
       have HPD := Lib.hid (show piecesM O.length [nf cp] YS = if tooMany O.length (R.map (·.ps)) = true then none else piecesM O.length (R.map (·.ps)) (YS.drop (j + 1)) by
        rw [HPM.out, HYD.out, piecesM, show stepM d.ps (P.map (·.ps)) = R.map (·.ps) by rw [HRM.out, show P.length = (P.map (·.ps)).length by simp, List.take_length]])
       have HTM := Lib.hid (show tooMany O.length (R.map (·.ps)) = (decide (100 < O.length + R.length) || R.any fun r => decide (16 < r.ps.length)) by
        unfold tooMany; rw [List.length_map, List.any_map]; rfl)
       have HBW9 := Lib.hid (show Below w.heap.size w W9 from HBW8.out.trans (HB9.out.mono HBW8.out.size))
       have HR1000 := Lib.hid (show R.length ≤ 1000000 by have := HRL.out; omega)
       have HAN := Lib.hid (has_left1 ra R rc W9 HRV.out HR1000.out (fun r hr => by have := (HRO.out r hr).2.l; omega))
       have hol := HOL.out
       have v1 : IntKind.i64.wrap ((O.length : Int) + (R.length : Int)) = (O.length : Int) + (R.length : Int) := IntWalk.i64_in _ (by have := HRL.out; omega)
       clear hb
       have HBAD := Lib.hid (fun (h : tooMany O.length (R.map (·.ps)) = true) => show leftM YS [] XS = none by
        rw [HLM.out, HXD.out]
        exact leftM_none (by rw [List.length_map, HPD.out, if_pos h]))
       by_cases hc1 : (100 : Int) < (O.length : Int) + (R.length : Int)
       ·have HE := Lib.hid (HBAD.out (by rw [HTM.out, decide_eq_true (by omega)]; rfl))
        have HE0 := Lib.hid (show leftE XS YS = 8 by unfold leftE; rw [HE.out])
        go_wp2_with fail
        exact bodyPost_ret (v := .tuple #[.slice none 0 0, .int .i64 8]) (by simp [results, Tryz.results31, go_sem]) rfl ⟨_, by rw [HE0.out], ⟨fun _ => rfl, fun l h => by have := HE.out.symm.trans h; cases this⟩, HBW9.out⟩
       ·cases han : (R.any fun r => decide (16 < r.ps.length)) with
        | true =>
         rw [han] at HAN
         have HE := Lib.hid (HBAD.out (by rw [HTM.out, han, Bool.or_true]))
         have HE0 := Lib.hid (show leftE XS YS = 8 by unfold leftE; rw [HE.out])
         go_wp2_with (go_at_call 51; refine HAN.out.mono ?_; rintro e wG ⟨rfl, hb⟩; have HBG := Lib.hid (HBW9.out.trans (hb.mono HBW9.out.size)); clear hb)
         exact bodyPost_ret (v := .tuple #[.slice none 0 0, .int .i64 8]) (by simp [results, Tryz.results31, go_sem]) rfl ⟨_, by rw [HE0.out], ⟨fun _ => rfl, fun l h => by have := HE.out.symm.trans h; cases this⟩, HBG.out⟩
        | false =>
         rw [han] at HAN
         have HG := Lib.hid (show piecesM O.length [nf cp] YS = piecesM O.length (R.map (·.ps)) (YS.drop (j + 1)) by rw [HPD.out, HTM.out, han, decide_eq_false (by omega)]; rfl)
         have H16 := Lib.hid (show ∀ q ∈ R, q.ps.length ≤ 16 from fun q hq => by
          rw [List.any_eq_false] at han
          have := han q hq
          simpa using this)
         go_wp2_with (go_at_call 51; refine HAN.out.mono ?_; rintro e wG ⟨rfl, hb⟩; have HBG := Lib.hid hb; clear hb)
         go_roundw
         case rel => exact ⟨j + 1, ra, rc, R, rfl, by omega, by go_num, HRV.out.keep HBG.out, Lib.hid (fun q hq => ⟨((HRO.out q hq).1.keep HBG.out).to (fun b e he => by simp [Value.ownBlock] at he) (fun b e he => by simp [Value.ownBlock] at he), (HRO.out q hq).2, H16.out q hq⟩), HG, Lib.hid ⟨by omega, by omega⟩, (HB7.out.trans (HB8.out.mono HB7.out.size)).trans ((HB9.out.trans (HBG.out.mono HB9.out.size)).mono (by have := HB7.out.size; have := HB8.out.size; omega))⟩
         case measure => first | (simp [intOf]; done) | (simp [intOf]; omega)
    ·obtain rfl : j = Ly.length := by omega
     have hkj : ¬ ((Ly.length : Nat) : Int) < ((Ly.length : Nat) : Int) := by omega
     have HPD := Lib.hid (show piecesM O.length [nf cp] YS = some (P.map (·.ps)) by rw [HPM.out, show YS.drop Ly.length = [] by rw [HYS.out]; simp]; rfl)
     have HLS := Lib.hid (show leftM YS [] XS = leftM YS ((O ++ P).map (·.ps)) (XS.drop (i + 1)) by
      rw [HLM.out, HXD.out, leftM_step (by rw [List.length_map]; exact HPD.out), List.map_append])
     have HB17 := Lib.hid (show Below W1.heap.size W1 W7 from HB6.out.trans (HB7.out.mono HB6.out.size))
     have hol := HOL.out
     have HO7 := Lib.hid (own_keep HO.out HB17.out)
     go_wp2_with (at_builtin; refine wpList_append_rows cellsBR_len cellsBR_one (by decide) rfl _ _ 68 rfl w.heap.size 73 i0 (.agg #[.slice none 0 0, .slice none 0 0]) 48 Tryz.underlying68 hi0 hz0 hz1 hz2 rfl (by decide) (.slice oa O.length oc) O.length (O.flatMap cellsBR) rfl HO7.out pa P pc rfl (brsNews HPV7.out) (by omega) HBW7.out.size ?_; intro v' wD hownD hgrD hatD; have HGD := Lib.hid hgrD; have HAD := Lib.hid hatD; have HOD := Lib.hid hownD; clear hownD hgrD hatD)
     have HFIN := Lib.hid (show (∀ q ∈ O ++ P, BRok wD v' q ∧ NG w.heap.size q) ∧ wD.ownsRow w.heap.size 73 2 v' (O ++ P).length ((O ++ P).flatMap cellsBR) ∧ Below w.heap.size w wD from by
      refine ⟨fun q hq => ?_, by rw [List.flatMap_append, List.length_append]; exact HOD.out, below_grown HBW7.out HGD.out HBW7.out.size (fun g hg => (own_lt HO.out hg).1)⟩
      rcases List.mem_append.1 hq with hq | hq
      ·exact ⟨((HOK.out q hq).1.keep HB17.out).grown HGD.out HAD.out, (HOK.out q hq).2⟩
      ·obtain ⟨hq1, hq2, hq3⟩ := HPO.out q hq
       exact ⟨(hq1.to (fun b e he => by have h1 := (own_lt HO.out he).2; have h2 := hq2.p b e; omega) (fun b e he => by have h1 := (own_lt HO.out he).2; have h2 := hq2.c b e; omega)).grown HGD.out HAD.out, hq2.mono hz⟩)
     go_roundw
     case rel => exact ⟨i + 1, O ++ P, by omega, by go_num, Lib.hid HFIN.out.1, HLS, Lib.hid (by have := HPL.out.2; simp; omega), HFIN.out.2.1, HFIN.out.2.2⟩
     case measure => first | (simp [intOf]; done) | (simp [intOf]; omega)
  ·obtain rfl : i = Lx.length := by omega
   have hki : ¬ ((Lx.length : Nat) : Int) < ((Lx.length : Nat) : Int) := by omega
   have HE := Lib.hid (show leftM YS [] XS = some (O.map (·.ps)) by rw [HLM.out, show XS.drop Lx.length = [] by rw [HXS.out]; simp]; rfl)
   have HE0 := Lib.hid (show leftE XS YS = 0 by unfold leftE; rw [HE.out])
   go_wp2_with fail
   exact bodyPost_ret (v := .tuple #[.slice oa O.length oc, .int .i64 0]) (by simp [results, Tryz.results31, go_sem]) rfl ⟨_, by rw [HE0.out], ⟨fun h => absurd (HE.out.symm.trans h) (by simp), fun l h => by
    have e := HE.out.symm.trans h
    injection e with e
    exact ⟨O, e, HOK.out, HO.out⟩⟩, HB.out⟩
end Go.Proofs.YtgjmfdhgeahdcaaGreat
/- What is left of a solid without another one. -/
set_option linter.unusedVariables false
set_option linter.unusedSimpArgs false
namespace Go.Proofs.YtgjmfdhgeahdcaaGreat
open Go Go.RowKit Go.Sort Go.Lib

def cellsPS (r : BR) : List Value := [.slice r.pa r.ps.length r.pc]
theorem cellsPS_one (r : BR) : ∀ v ∈ cellsPS r, v.oneCell' = true := by
 intro v hv
 simp only [cellsPS, List.mem_cons, List.not_mem_nil, or_false] at hv
 subst hv; rfl
theorem cellInfo : (Tryz.prog.info? 46).map (fun i => (i.zero, i.size, i.bytes)) = some (some (.agg #[.slice none 0 0]), 1, 24) := by kernel_rfl
theorem bods_of {w : World} {cs : List Cell} {a : Option Addr} {n c base : Nat} {L : List BR} (h0 : solE cs = 0) (hL : BsOK w (.slice a n c) (cs.map (·.planes)) L) (ho : w.ownsRow base 73 2 (.slice a n c) L.length (L.flatMap cellsBR)) : n = L.length ∧ Bods w a L := by
 obtain ⟨rfl, -⟩ := own_len_le ho
 have hl : L.length = cs.length := by have := congrArg List.length hL.ps; simpa using this
 have h1 : cs.length ≤ 100 := by
  by_cases h : 100 < cs.length
  ·unfold solE at h0; rw [if_pos h] at h0; cases h0
  ·omega
 have h2 : chkCs cs = 0 := by unfold solE at h0; rw [if_neg (by omega)] at h0; exact h0
 have h3 := chkCs_all.1 h2
 refine ⟨rfl, ownBRV ho, fun r hr => ?_, by omega⟩
 have hm : r.ps ∈ cs.map (·.planes) := by rw [← hL.ps]; exact List.mem_map_of_mem hr
 obtain ⟨c, hc, hce⟩ := List.mem_map.1 hm
 have h4 := readE_zero.1 (h3 c hc)
 rw [hce] at h4
 have hr' := hL.ok r hr
 have h16 : r.ps.length ≤ 16 := h4.1
 exact ⟨⟨hr'.pls, hr'.cos, good_of h4.2.1, by omega⟩, h16⟩
theorem pieces_len {n K : Nat} (hK : 100 ≤ K) : ∀ {y ps r : List (List Pl)}, piecesM n ps y = some r → n + ps.length ≤ K → n + r.length ≤ K := by
 intro y
 induction y with
 | nil => intro ps r h hp; injection h with h; subst h; exact hp
 | cons d y ih =>
  intro ps r h hp
  unfold piecesM at h
  split at h
  ·cases h
  ·rename_i ht
   refine ih h ?_
   unfold tooMany at ht
   simp only [Bool.or_eq_true, decide_eq_true_eq, not_or] at ht
   omega
theorem left_len {y : List (List Pl)} : ∀ {x out l : List (List Pl)} {K : Nat}, 100 ≤ K → leftM y out x = some l → out.length ≤ K → l.length ≤ K + x.length := by
 intro x
 induction x with
 | nil => intro out l K hK h ho; injection h with h; subst h; simpa using ho
 | cons c x ih =>
  intro out l K hK h ho
  unfold leftM at h
  split at h
  ·cases h
  ·rename_i r hr
   have h1 := pieces_len (K := K + 1) (by omega) hr (by simp; omega)
   have h2 := ih (K := K + 1) (by omega) h (by simp; omega)
   simp; omega
def minE (a b : List Cell) : Int := if twoE a b ≠ 0 then twoE a b else leftE (a.map (·.planes)) (b.map (·.planes))
/-- The cells of a new solid, and bodies that have their planes. -/
structure NewS (w w' : World) (v : Value) (l : List (List Pl)) : Prop where
 ex : ∃ L : List BR, L.map (·.ps) = l ∧ (∀ q ∈ L, BRok w' v q ∧ NG w.heap.size q) ∧ w'.ownsRow w.heap.size 46 1 v L.length (L.flatMap cellsPS)
/-- A row of cells in a box, under way. -/
structure MinSt (g : Nat) (w : World) (v : Value) (L : List BR) : Prop where
 c : w.cell? ⟨g, 0, none⟩ = some v
 f : w.frozen? ⟨g, 0, none⟩ = false
 o : w.ownsRow (g + 1) 46 1 v L.length (L.flatMap cellsPS)
 p : ∀ q ∈ L, BRok w v q
theorem MinSt.off {g : Nat} {w : World} {v : Value} {L : List BR} (h : MinSt g w v L) : v.ownBlock ≠ some g := fun e => by have := (own_lt h.o e).1; omega
theorem MinSt.lt {g : Nat} {w : World} {v : Value} {L : List BR} (h : MinSt g w v L) : g < w.heap.size := by have := block_lt_of_cell h.c; simpa using this
theorem MinSt.keep {g : Nat} {w w' : World} {v : Value} {L : List BR} (h : MinSt g w v L) (hb : Below w.heap.size w w') : MinSt g w' v L :=
 ⟨cell_keep hb h.c, frozen_keep hb h.lt h.f, own_keep h.o hb, fun q hq => (h.p q hq).keep hb⟩
theorem MinSt.put {g : Nat} {w w' : World} {v v' : Value} {L : List BR} {q : BR} (h : MinSt g w v L) (hg : w.grownBy w' v.ownBlock) (hv : v'.ownBlock = v.ownBlock ∨ v'.ownBlock = some w.heap.size) (hq : BRok w v q) (hq1 : ∀ b, blk q.pa = some b → b < g) (hq2 : ∀ b, blk q.ca = some b → b < g) (hL : ∀ r ∈ L, (∀ b, blk r.pa = some b → b < g) ∧ ∀ b, blk r.ca = some b → b < g)
    (ho : w'.ownsRow (g + 1) 46 1 v' (L ++ [q]).length ((L ++ [q]).flatMap cellsPS)) : MinSt g (w'.setCell ⟨g, 0, none⟩ v') v' (L ++ [q]) := by
 have h1 := grown_cell hg h.c h.off
 have h2 := h.lt
 have hoff : v'.ownBlock ≠ some g := fun e => by have := (own_lt ho e).1; omega
 refine ⟨cell_set_same (by rw [h1]; rfl), by rw [frozen_set, grown_frozen hg h.c h.off]; exact h.f, ho.kept (grownBy_set (w := w') (a := ⟨g, 0, none⟩)) (.inr hoff), fun r hr => ?_⟩
 have key : ∀ r : BR, BRok w v r → (∀ b, blk r.pa = some b → b < g) → (∀ b, blk r.ca = some b → b < g) → BRok (w'.setCell ⟨g, 0, none⟩ v') v' r := fun r hr ha hc => by
  have hr' := hr.grown hg hv
  have hs : w'.grownBy (w'.setCell ⟨g, 0, none⟩ v') (some g) := grownBy_set (a := ⟨g, 0, none⟩)
  exact ⟨hr'.pls.grown hs fun b e e' => by injection e' with e'; have := ha b e; omega, hr'.cos.grown hs fun b e e' => by injection e' with e'; have := hc b e; omega, hr'.len, fun b e => ⟨by simpa using (hr'.pb b e).1, (hr'.pb b e).2⟩, fun b e => ⟨by simpa using (hr'.cb b e).1, (hr'.cb b e).2⟩⟩
 rcases List.mem_append.1 hr with hr | hr
 ·exact key r (h.p r hr) (hL r hr).1 (hL r hr).2
 ·simp only [List.mem_singleton] at hr; subst hr; exact key _ hq hq1 hq2
set_option maxRecDepth 100000 in
set_option maxHeartbeats 8000000 in
theorem minus_any (ca cb : List Cell) (a : Option Addr) (c : Nat) (b : Option Addr) (d : Nat) (w : World) (hcl : ca.length ≤ 9223372036854775807) (hv : Cells.V w a ca) (hpl : ∀ x ∈ ca, x.planes.length ≤ 1000000)
    (hdl : cb.length ≤ 9223372036854775807) (hu : Cells.V w b cb) (hql : ∀ x ∈ cb, x.planes.length ≤ 1000000) :
    Calls Tryz.prog 10 #[.agg #[.slice a ca.length c], .agg #[.slice b cb.length d]] w fun e w' => ∃ v, e = .returned (.tuple #[.agg #[v], .int .i64 (minE ca cb)]) ∧ Below w.heap.size w w' ∧ (minE ca cb ≠ 0 → v = .slice none 0 0) ∧ (minE ca cb = 0 → ∃ l, leftM (cb.map (·.planes)) [] (ca.map (·.planes)) = some l ∧ NewS w w' v l) := by
 obtain ⟨i0, hi0, hz0, hz1, hz2⟩ := info_parts cellInfo
 have HT := Lib.hid (fun W (h : Below w.heap.size w W) => two_any ca cb a c b d W hcl (hv.keep h) hpl hdl (hu.keep h) hql)
 obtain ⟨M, hM⟩ : ∃ M, M = minE ca cb := ⟨_, rfl⟩
 rw [← hM]
 have HE := Lib.hid (show M = if twoE ca cb ≠ 0 then twoE ca cb else leftE (ca.map (·.planes)) (cb.map (·.planes)) from hM)
 have HZ := Lib.hid (twoE_zero (a := ca) (b := cb))
 clear hv hu hpl hql hcl hdl hM
 obtain ⟨X, hX⟩ : ∃ X, X = ca.map (·.planes) := ⟨_, rfl⟩
 obtain ⟨Y, hY⟩ : ∃ Y, Y = cb.map (·.planes) := ⟨_, rfl⟩
 rw [← hX, ← hY] at HE
 have HX := Lib.hid hX
 have HY := Lib.hid hY
 rw [← hX, ← hY]
 clear hX hY
 go_enter Tryz.func10, Tryz.ntmps10
 go_upto_region 1 with fail
 refine gen_world (fun W => W.cell? ⟨w.heap.size, 0, none⟩ = some (.slice a ca.length c) ∧ W.cell? ⟨w.heap.size + 1, 0, none⟩ = some (.slice b cb.length d) ∧ (W.cell? ⟨w.heap.size + 2, 0, none⟩ = some (.slice none 0 0) ∧ W.frozen? ⟨w.heap.size + 2, 0, none⟩ = false) ∧ Below w.heap.size w W) ⟨by simp [go_sem], by simp [go_sem], ⟨by simp [go_sem], by simp [go_sem]⟩, by repeat (first | (with_reducible assumption) | exact Below.refl _ _ | (refine Below.setCell ?_ (by first | omega | (simp; omega) | (simp; done)) _) | (refine Below.alloc ?_ (by first | omega | (simp; omega) | (simp; done)) _) | (refine Below.drew ?_))⟩ ?_
 rintro W ⟨b0, b1, ⟨r0, rf0⟩, hb⟩
 have HB0 := Lib.hid hb
 have HR0 := Lib.hid r0
 have HRF := Lib.hid rf0
 have hrl := block_lt_of_cell r0
 simp only at hrl
 have HTW := Lib.hid (HT.out W hb)
 clear hb r0 rf0
 go_upto_region 2 with (go_at_call 30; refine HTW.out.mono ?_; rintro e w1 ⟨x, y, rfl, hb, hr⟩; have HB1 := Lib.hid hb; obtain ⟨xa, xn, xc, ya, yn, yc, rfl, rfl⟩ := hr.shape; have HTP := Lib.hid hr; clear hb hr)
 have HBW1 := Lib.hid (HB0.out.trans (HB1.out.mono HB0.out.size))
 have r1 := cell_keep HB1.out HR0.out
 have rf1 := frozen_keep HB1.out hrl HRF.out
 have HR1 := Lib.hid r1
 have HRF1 := Lib.hid rf1
 have hrl1 := block_lt_of_cell r1
 simp only at hrl1
 clear b0 b1
 by_cases h0 : twoE ca cb = 0
 ·obtain ⟨⟨Lx, hx1, hx2⟩, Ly, hy1, hy2⟩ := HTP.out.2 h0
  obtain ⟨e1, hbx⟩ := bods_of (HZ.out.1 h0).1 hx1 hx2
  obtain ⟨e2, hby⟩ := bods_of (HZ.out.1 h0).2 hy1 hy2
  subst e1 e2
  have HLF := Lib.hid (left_any xa Lx xc ya Ly yc w1 hbx hby)
  rw [hx1.ps, hy1.ps, ← HX.out, ← HY.out] at HLF
  have HXL := Lib.hid (show X.length ≤ 100 by rw [HX.out, ← hx1.ps]; simpa using hbx.l)
  have HBX := Lib.hid hbx
  have HE2 := Lib.hid (show M = leftE X Y by rw [HE.out, if_neg (by simpa using h0)])
  rw [h0]
  clear hx1 hx2 hy1 hy2 hbx hby h0 HTP HZ HE HT HTW
  go_upto_region 5 with (go_at_call 31; refine HLF.out.mono ?_; rintro e w4 ⟨v, rfl, hp, hb⟩; have HB4 := Lib.hid hb; have HP := Lib.hid hp; clear hb hp)
  have HBW4 := Lib.hid (HBW1.out.trans (HB4.out.mono HBW1.out.size))
  have HR4 := Lib.hid (cell_keep HB4.out r1)
  have HRF4 := Lib.hid (frozen_keep HB4.out hrl1 rf1)
  clear r1 rf1
  cases hl : leftM Y [] X with
  | none =>
   have HLE := Lib.hid (show leftE X Y = 8 by unfold leftE; rw [hl])
   have HV0 := Lib.hid (HP.out.1 hl)
   have HME := Lib.hid (show M = 8 by rw [HE2.out, HLE.out])
   have HL0 := Lib.hid hl
   clear hl
   have hv0 : v = .slice none 0 0 := HV0.out
   subst hv0
   rw [HLE.out]
   have r4 := HR4.out
   have rf4 := HRF4.out
   go_upto_region 6 with fail
   refine gen_world (fun W => W.cell? ⟨w4.heap.size, 0, none⟩ = some (.slice none 0 0) ∧ W.cell? ⟨w.heap.size + 2, 0, none⟩ = some (.slice none 0 0) ∧ W.frozen? ⟨w.heap.size + 2, 0, none⟩ = false ∧ Below w4.heap.size w4 W) ⟨by simp [go_sem], cell_keep ((Below.refl _ _).alloc (Nat.le_refl _) _) r4, frozen_keep ((Below.refl _ _).alloc (Nat.le_refl _) _) (block_lt_of_cell r4) rf4, by repeat (first | (with_reducible assumption) | exact Below.refl _ _ | (refine Below.setCell ?_ (by first | omega | (simp; omega) | (simp; done)) _) | (refine Below.alloc ?_ (by first | omega | (simp; omega) | (simp; done)) _) | (refine Below.drew ?_))⟩ ?_
   rintro W5 ⟨x0, r5, rf5, hb⟩
   have HB5 := Lib.hid (show Below w.heap.size w W5 from HBW4.out.trans (hb.mono HBW4.out.size))
   have HK := Lib.hid (And.intro x0 (And.intro r5 rf5))
   generalize w4.heap.size = g at *
   clear r4 rf4 hb x0 r5 rf5
   go_wp2_with fail
   go_loopw [32] (fun iv wr => iv = .int .i64 0 ∧ wr = W5) (fun iv _ => 0)
   case atStart => exact ⟨rfl, rfl⟩
   case round =>
    obtain ⟨rfl, rfl⟩ := hrel
    obtain ⟨x0, r5, rf5⟩ := HK.out
    go_wp2_with fail
    refine bodyPost_ret (v := .tuple #[.agg #[.slice none 0 0], .int .i64 8]) ?_ ?_ ?_
    ·simp [results, Tryz.results10, go_sem, got1 r5]
    ·rfl
    ·exact ⟨_, by rw [HME.out], HB5.out.setCell (by show _ ≤ w.heap.size + 1 + 1; omega) _, fun _ => rfl, fun h => absurd (HME.out.symm.trans h) (by decide)⟩
  | some l =>
   have HLE := Lib.hid (show leftE X Y = 0 by unfold leftE; rw [hl])
   obtain ⟨L, hL1, hL2, hL3⟩ := HP.out.2 l hl
   obtain ⟨va, vc, rfl, -, -⟩ := own_slice hL3
   have HME := Lib.hid (show M = 0 by rw [HE2.out, HLE.out])
   have HL1 := Lib.hid hL1
   have HL2 := Lib.hid hL2
   have HL3 := Lib.hid hL3
   have HL0 := Lib.hid hl
   have hl100 : L.length ≤ 100000 := by
    have h1 := left_len (K := 100) (Nat.le_refl _) hl (by simp)
    have h2 : X.length ≤ 100 := HXL.out
    have h3 := congrArg List.length hL1
    simp at h3; omega
   clear hl hL1 hL2 hL3
   rw [HLE.out]
   have r4 := HR4.out
   have rf4 := HRF4.out
   go_upto_region 6 with fail
   refine gen_world (fun W => MinSt w4.heap.size W (.slice none 0 0) [] ∧ Below w4.heap.size w4 W) ⟨⟨by simp [go_sem], by simp [go_sem], ⟨rfl, .inl ⟨rfl, rfl⟩⟩, fun q hq => absurd hq (by simp)⟩, by repeat (first | (with_reducible assumption) | exact Below.refl _ _ | (refine Below.setCell ?_ (by first | omega | (simp; omega) | (simp; done)) _) | (refine Below.alloc ?_ (by first | omega | (simp; omega) | (simp; done)) _) | (refine Below.drew ?_))⟩ ?_
   rintro W5 ⟨hm, hb⟩
   have HM5 := Lib.hid hm
   have HB5 := Lib.hid hb
   obtain ⟨g, hg⟩ : ∃ g, g = w4.heap.size := ⟨_, rfl⟩
   have HG := Lib.hid hg
   have hrg : w.heap.size + 2 < g := by rw [hg]; have := HB4.out.size; omega
   rw [← hg] at HM5 HB5 ⊢
   have HVB := Lib.hid (show ∀ W', Below g w4 W' → BRs.V W' va L from fun W' h => (ownBRV HL3.out).keep (by rw [← hg]; exact h))
   clear hm hb r4 rf4 hg
   go_wp2_with fail
   go_loopw [32] (fun iv wr => ∃ (k : Nat) (v : Value), k ≤ L.length ∧ iv = .int .i64 (k : Int) ∧ MinSt g wr v (L.take k) ∧ Below g w4 wr) (fun iv _ => L.length - (intOf iv).toNat)
   case atStart => exact ⟨0, _, Nat.zero_le _, rfl, HM5.out, HB5.out⟩
   case round =>
    obtain ⟨k, v, hk, rfl, hm, hb⟩ := hrel
    have HM := Lib.hid hm
    have HB := Lib.hid hb
    have hz := hb.size
    have hgz := hm.lt
    have HRW := Lib.hid (show wr.cell? ⟨w.heap.size + 2, 0, none⟩ = some (.slice none 0 0) ∧ wr.frozen? ⟨w.heap.size + 2, 0, none⟩ = false from ⟨(hb.cell (by show _ < g; omega)).trans HR4.out, (hb.frozen (by show _ < g; omega)).trans HRF4.out⟩)
    by_cases hlt : k < L.length
    ·have hki : (k : Int) < (L.length : Int) := by omega
     obtain ⟨b1, off, rfl, hat⟩ := (HVB.out wr hb).at_ hlt
     obtain ⟨c0, c1⟩ := hat
     have HTK := Lib.hid (List.take_succ_eq_append_getElem hlt)
     have HQ := Lib.hid (HL2.out _ (List.getElem_mem hlt))
     have m0 := hm.c
     have mf := hm.f
     generalize L[k] = q at *
     obtain ⟨qp, qa, qc, qca, qcc⟩ := q
     simp only at c0 c1
     clear hm hb
     obtain ⟨P, hP⟩ : ∃ P, P = L.take k := ⟨_, rfl⟩
     have HP0 := Lib.hid hP
     have HPL := Lib.hid (show P.length ≤ 100000 by rw [hP, List.length_take]; omega)
     rw [← hP] at HM HTK
     clear hP
     obtain ⟨ma, mc, rfl, -, -⟩ := own_slice HM.out.o
     have hk5 := (Below.refl wr.heap.size wr).alloc (Nat.le_refl _) (.cells #[.slice qa qp.length qc, .slice qca (corn qp).length qcc] 73)
     have HM6 := Lib.hid (show ∀ T, MinSt g ((wr.alloc (.cells #[.slice qa qp.length qc, .slice qca (corn qp).length qcc] 73)).alloc (.cells #[.slice qa qp.length qc] T)) (.slice ma P.length mc) P from fun T => (HM.out.keep hk5).keep ((Below.refl _ _).alloc (Nat.le_refl _) _))
     have HNW := Lib.hid (show ∀ j u, [Value.slice qa qp.length qc][j]? = some u → ((wr.alloc (.cells #[.slice qa qp.length qc, .slice qca (corn qp).length qcc] 73)).alloc (.cells #[.slice qa qp.length qc] 46)).cell? ((⟨wr.heap.size + 1, 0, none⟩ : Addr).add j) = some u from fun j u hj => by
      have := news_of [.slice qa qp.length qc] 46 (wr.alloc (.cells #[.slice qa qp.length qc, .slice qca (corn qp).length qcc] 73)) (wr.heap.size + 1) (by simp) j u hj
      simpa using this)
     generalize corn qp = CQ at *
     go_wp2_with (at_builtin; refine wpList_append_here _ rfl _ _ 25 rfl (g + 1) 46 i0 (.agg #[.slice none 0 0]) 1 24 Tryz.underlying25 hi0 hz0 hz1 hz2 rfl (by decide) (.slice ma P.length mc) P.length (P.flatMap cellsPS) rfl (HM6.out _).o ⟨wr.heap.size + 1, 0, none⟩ 1 1 [.slice qa qp.length qc] rfl rfl HNW.out (cellsPS_one ⟨qp, qa, qc, qca, qcc⟩) (by decide) (by have := HPL.out; simp only [maxLen]; omega) (by have := HPL.out; omega) (by simp; omega) ?_; intro v' w10 hown10 hgr10 hat10; obtain ⟨va', vc', rfl, -, -⟩ := own_slice hown10; have HG10 := Lib.hid hgr10; have HA10 := Lib.hid hat10; have HO10 := Lib.hid hown10; have n0 := grown_cell hgr10 (HM6.out _).c (HM6.out 46).off; have nf := (grown_frozen hgr10 (HM6.out _).c (HM6.out 46).off).trans (HM6.out _).f; clear hown10 hgr10 hat10)
     have HFIN := Lib.hid (show MinSt g (w10.setCell ⟨g, 0, none⟩ (.slice va' (P.length + 1) vc')) (.slice va' (P.length + 1) vc') (L.take (k + 1)) ∧ Below g w4 (w10.setCell ⟨g, 0, none⟩ (.slice va' (P.length + 1) vc')) from by
      have hk2 : Below wr.heap.size wr ((wr.alloc (.cells #[.slice qa qp.length qc, .slice qca CQ.length qcc] 73)).alloc (.cells #[.slice qa qp.length qc] 46)) := hk5.alloc (by simp) _
      rw [HTK.out]
      have hq := HQ.out
      have hqb : (∀ b, blk qa = some b → b < g) ∧ ∀ b, blk qca = some b → b < g := ⟨fun b e => by rw [HG.out]; exact (hq.1.pb b e).1, fun b e => by rw [HG.out]; exact (hq.1.cb b e).1⟩
      refine ⟨(HM6.out _).put HG10.out HA10.out ?_ hqb.1 hqb.2 (fun r hr => ?_) (by rw [List.flatMap_append, List.length_append]; exact HO10.out), (below_grown (HB.out.trans (hk2.mono (by omega))) HG10.out (by simp; omega) fun j hj => Nat.le_of_succ_le (own_lt (HM6.out 46).o hj).1).setCell (Nat.le_refl _) _⟩
      ·have hb6 : Below w4.heap.size w4 ((wr.alloc (.cells #[.slice qa qp.length qc, .slice qca CQ.length qcc] 73)).alloc (.cells #[.slice qa qp.length qc] 46)) := by rw [← HG.out]; exact HB.out.trans (hk2.mono (by omega))
       have h1 := hq.1.keep hb6
       have h2 := (HM6.out 46).o
       exact h1.to (fun b e e' => by have h3 := (own_lt h2 e').1; have := hqb.1 b e; omega) (fun b e e' => by have h3 := (own_lt h2 e').1; have := hqb.2 b e; omega)
      ·have hr' := (HL2.out r (List.mem_of_mem_take (by rw [← HP0.out]; exact hr))).1
       exact ⟨fun b e => by rw [HG.out]; exact (hr'.pb b e).1, fun b e => by rw [HG.out]; exact (hr'.cb b e).1⟩)
     go_roundw
     case rel => exact ⟨k + 1, _, by omega, by go_num, HFIN.out.1, HFIN.out.2⟩
     case measure => first | (simp [intOf]; done) | (simp [intOf]; omega)
    ·obtain rfl : k = L.length := by omega
     have hki : ¬ ((L.length : Nat) : Int) < ((L.length : Nat) : Int) := by omega
     obtain ⟨r9, rf9⟩ := HRW.out
     have m0 := hm.c
     have HLT := Lib.hid (show L.take L.length = L from List.take_length)
     clear hm hb
     obtain ⟨ma, mc, rfl, -, -⟩ := own_slice HM.out.o
     rw [HLT.out] at HM m0
     go_wp2_with fail
     refine bodyPost_ret (v := .tuple #[.agg #[.slice ma L.length mc], .int .i64 0]) ?_ ?_ ?_
     ·simp [results, Tryz.results10, go_sem, got1 r9, HLT.out]
     ·rfl
     ·refine ⟨_, by rw [HME.out], (HBW4.out.trans (HB.out.mono (by rw [HG.out]; exact HBW4.out.size))).setCell (by show _ ≤ w.heap.size + 1 + 1; omega) _, fun h => absurd HME.out h, fun _ => ⟨l, HL0.out, ⟨L, HL1.out, fun q hq => ?_, ?_⟩⟩⟩
      ·have h5 := (HM.out.p q hq)
       have h6 := (HL2.out q hq).1
       have hs : wr.grownBy (wr.setCell ⟨w.heap.size + 2, 0, none⟩ (.slice ma L.length mc)) (some (w.heap.size + 2)) := grownBy_set (a := ⟨w.heap.size + 2, 0, none⟩)
       have h7 := (HL2.out q hq).2
       have hw1 := HBW1.out.size
       refine ⟨⟨h5.pls.grown hs fun b e e' => ?_, h5.cos.grown hs fun b e e' => ?_, h5.len, fun b e => ⟨by simpa using (h5.pb b e).1, (h5.pb b e).2⟩, fun b e => ⟨by simpa using (h5.cb b e).1, (h5.cb b e).2⟩⟩, h7.mono hw1⟩
       ·injection e' with e'; have := h7.p b e; omega
       ·injection e' with e'; have := h7.c b e; omega
      ·refine own_mono (HM.out.o.kept (grownBy_set (a := ⟨w.heap.size + 2, 0, none⟩)) (.inr fun e => ?_)) (by omega)
       have h1 := (own_lt HM.out.o e).1
       simp only at h1; omega
 ·have HEE := Lib.hid (show M = twoE ca cb by rw [HE.out, if_pos h0])
  have hE1 : (twoE ca cb != 0) = true := by simpa using h0
  have HNE := Lib.hid h0
  clear h0
  generalize twoE ca cb = E at *
  go_wp2_with fail
  refine bodyPost_ret (v := .tuple #[.agg #[.slice none 0 0], .int .i64 E]) ?_ ?_ ?_
  ·simp [results, Tryz.results10, go_sem, got1 r1]
  ·rfl
  ·exact ⟨_, by rw [HEE.out], HBW1.out.setCell (by show _ ≤ w.heap.size + 1 + 1; omega) _, fun _ => rfl, fun h => absurd (HEE.out.symm.trans h) HNE.out⟩
end Go.Proofs.YtgjmfdhgeahdcaaGreat
