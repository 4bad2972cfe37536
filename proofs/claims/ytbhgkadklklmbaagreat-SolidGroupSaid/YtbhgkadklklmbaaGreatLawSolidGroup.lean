/- SolidGroup returns true for every input: turns are a group. No condition. -/
import Derived.Test.YtbhgkadklklmbaaGreatTU5
import Derived.Test.YtbhgkadklklmbaaGreatQM
import Derived.Test.YtbhgkadklklmbaaGreatFactsSolidGroup
set_option linter.unusedVariables false
set_option linter.unusedSimpArgs false
namespace Go.Proofs.YtbhgkadklklmbaaGreat
open Go Go.ChangeShapes Go.WideShapes Go.ChangeAt Go.RowKit Go.Sort Go.Lib

def inT (z : Int) : Bool := withinB z 0 47
set_option maxRecDepth 100000 in
set_option maxHeartbeats 16000000 in
theorem walkSolidGroup (x0 x1 x2 : Int) (y0 y1 y2 : Int) (w : World) (Wx : (-9223372036854775808 ≤ x0 ∧ x0 ≤ 9223372036854775807) ∧ (-9223372036854775808 ≤ x1 ∧ x1 ≤ 9223372036854775807) ∧ (-9223372036854775808 ≤ x2 ∧ x2 ≤ 9223372036854775807)) (Wy : (-9223372036854775808 ≤ y0 ∧ y0 ≤ 9223372036854775807) ∧ (-9223372036854775808 ≤ y1 ∧ y1 ≤ 9223372036854775807) ∧ (-9223372036854775808 ≤ y2 ∧ y2 ≤ 9223372036854775807)) :
    Calls Tryz.prog 15 #[.agg #[.int .i64 x0, .int .i64 x1, .int .i64 x2], .agg #[.int .i64 y0, .int .i64 y1, .int .i64 y2]] w fun e w' => e = .returned (.bool true) ∧ Below w.heap.size w w' := by
 have hmix : Tryz.prog.follows .mixedOrders = true := by kernel_rfl
 have HAW := Lib.hid (fun W => awake_any W)
 have HFA := Lib.hid (fun W => farR_vec ⟨y0, y1, y2⟩ W)
 simp only at HFA
 go_enter Tryz.func15, Tryz.ntmps15
 go_upto_region 1 with fail
 refine gen_world (fun W => ((W.cell? ⟨w.heap.size, 0, none⟩ = some (.int .i64 x0) ∧ W.cell? ⟨w.heap.size, 1, none⟩ = some (.int .i64 x1) ∧ W.cell? ⟨w.heap.size, 2, none⟩ = some (.int .i64 x2)) ∧ (W.cell? ⟨w.heap.size + 1, 0, none⟩ = some (.int .i64 y0) ∧ W.cell? ⟨w.heap.size + 1, 1, none⟩ = some (.int .i64 y1) ∧ W.cell? ⟨w.heap.size + 1, 2, none⟩ = some (.int .i64 y2))) ∧ Below w.heap.size w W) ⟨⟨⟨by simp [go_sem], by simp [go_sem], by simp [go_sem]⟩, by simp [go_sem], by simp [go_sem], by simp [go_sem]⟩, by repeat (first | (with_reducible assumption) | exact Below.refl _ _ | (refine Below.setCell ?_ (by first | omega | (simp; omega) | (simp; done)) _) | (refine Below.alloc ?_ (by first | omega | (simp; omega) | (simp; done)) _) | (refine Below.drew ?_))⟩ ?_
 rintro W ⟨⟨⟨c0, c1, c2⟩, d0, d1, d2⟩, hb⟩
 have HB := Lib.hid hb
 obtain ⟨gw, hgw⟩ : ∃ g, g = w.heap.size := ⟨_, rfl⟩
 have HGW := Lib.hid hgw
 rw [← hgw] at c0 c1 c2 d0 d1 d2
 rw [show w.heap.size = gw from hgw.symm]
 clear hgw hb
 go_upto_region 3 with (have h := HAW.out; clear HAW; go_at_call 18; refine (h _).mono ?_; clear h; rintro e w1 ⟨rfl, hb⟩; have c0 := cell_keep hb c0; have c1 := cell_keep hb c1; have c2 := cell_keep hb c2; have d0 := cell_keep hb d0; have d1 := cell_keep hb d1; have d2 := cell_keep hb d2; have HB := Lib.hid (HB.out.trans (hb.mono HB.out.size)); clear hb)
 have HCX := Lib.hid (And.intro c0 (And.intro c1 c2))
 have HCY := Lib.hid (And.intro d0 (And.intro d1 d2))
 clear c0 c1 c2 d0 d1 d2
 go_wp2_with fail
 go_loopw [5] (fun iv wr => ∃ (i : Nat) (u : Int), i ≤ 3 ∧ u = (i : Int) ∧ iv = .int .i64 u ∧ Hid ((0 < i → inT x0 = true) ∧ (1 < i → inT x1 = true) ∧ (2 < i → inT x2 = true)) ∧ Below w1.heap.size w1 wr) (fun iv _ => 3 - (intOf iv).toNat)
 case atStart => exact ⟨0, 0, Nat.zero_le _, rfl, rfl, Lib.hid ⟨fun h => by omega, fun h => by omega, fun h => by omega⟩, Below.refl _ _⟩
 case round =>
  obtain ⟨i, u, hi, hui, rfl, HIN, hbr⟩ := hrel
  have HB := Lib.hid (HB.out.trans (hbr.mono HB.out.size))
  have HBR := Lib.hid hbr
  have c0 := cell_keep hbr HCX.out.1
  have c1 := cell_keep hbr HCX.out.2.1
  have c2 := cell_keep hbr HCX.out.2.2
  have d0 := cell_keep hbr HCY.out.1
  have d1 := cell_keep hbr HCY.out.2.1
  have d2 := cell_keep hbr HCY.out.2.2
  clear hbr
  have h4 : i = 0 ∨ i = 1 ∨ i = 2 ∨ i = 3 := by omega
  rcases h4 with rfl | rfl | rfl | rfl

  ·obtain rfl : u = 0 := by simpa using hui
   clear hui
   rcases Bool.eq_false_or_eq_true (inT x0) with hq | hq
   ·have HNX := Lib.hid (show (0 < 1 → inT x0 = true) ∧ (1 < 1 → inT x1 = true) ∧ (2 < 1 → inT x2 = true) from ⟨fun _ => hq, fun h => by omega, fun h => by omega⟩)
    have HI := Lib.hid (fun W => isTurnR_any x0 W)
    rw [show withinB x0 0 47 = true from hq] at HI
    clear hq
    go_wp2_with (go_at_call 66; refine (HI.out _).mono ?_; rintro e w2 ⟨rfl, hb⟩; have HB2 := Lib.hid (HBR.out.trans (hb.mono HBR.out.size)); clear hb)
    go_roundw
    case rel => exact ⟨1, 1, by decide, rfl, by first | rfl | go_num, HNX, HB2.out⟩
    case measure => first | (simp [intOf]; done) | (simp [intOf]; omega)
   ·have HI := Lib.hid (fun W => isTurnR_any x0 W)
    rw [show withinB x0 0 47 = false from hq] at HI
    have HC1 := Lib.hid (fun W => both_bad (a := x0) (b := 0) (.inl hq) W)
    have HC2 := Lib.hid (fun W => both_bad (a := 0) (b := x0) (.inr hq) W)
    clear hq
    go_wp2_with (first | (have h := HI.out; clear HI; go_at_call 66; refine (h _).mono ?_; clear h; rintro e w2 ⟨rfl, hb⟩; have c0 := cell_keep hb c0; have c1 := cell_keep hb c1; have c2 := cell_keep hb c2; have d0 := cell_keep hb d0; have d1 := cell_keep hb d1; have d2 := cell_keep hb d2; have HB := Lib.hid (HB.out.trans (hb.mono HB.out.size)); clear hb) | (have h := HC1.out; clear HC1; go_at_call 67; refine (h _).mono ?_; clear h; rintro e w3 ⟨rfl, hb⟩; have c0 := cell_keep hb c0; have c1 := cell_keep hb c1; have c2 := cell_keep hb c2; have d0 := cell_keep hb d0; have d1 := cell_keep hb d1; have d2 := cell_keep hb d2; have HB := Lib.hid (HB.out.trans (hb.mono HB.out.size)); clear hb) | (have h := HC2.out; clear HC2; go_at_call 67; refine (h _).mono ?_; clear h; rintro e w4 ⟨rfl, hb⟩; have c0 := cell_keep hb c0; have c1 := cell_keep hb c1; have c2 := cell_keep hb c2; have d0 := cell_keep hb d0; have d1 := cell_keep hb d1; have d2 := cell_keep hb d2; have HB := Lib.hid (HB.out.trans (hb.mono HB.out.size)); clear hb))
    go_ret
    exact ⟨rfl, HB.out⟩
  ·obtain rfl : u = 1 := by simpa using hui
   clear hui
   rcases Bool.eq_false_or_eq_true (inT x1) with hq | hq
   ·have HNX := Lib.hid (show (0 < 2 → inT x0 = true) ∧ (1 < 2 → inT x1 = true) ∧ (2 < 2 → inT x2 = true) from ⟨fun _ => HIN.out.1 (by decide), fun _ => hq, fun h => by omega⟩)
    have HI := Lib.hid (fun W => isTurnR_any x1 W)
    rw [show withinB x1 0 47 = true from hq] at HI
    clear hq
    go_wp2_with (go_at_call 66; refine (HI.out _).mono ?_; rintro e w2 ⟨rfl, hb⟩; have HB2 := Lib.hid (HBR.out.trans (hb.mono HBR.out.size)); clear hb)
    go_roundw
    case rel => exact ⟨2, 2, by decide, rfl, by first | rfl | go_num, HNX, HB2.out⟩
    case measure => first | (simp [intOf]; done) | (simp [intOf]; omega)
   ·have HI := Lib.hid (fun W => isTurnR_any x1 W)
    rw [show withinB x1 0 47 = false from hq] at HI
    have HC1 := Lib.hid (fun W => both_bad (a := x1) (b := 0) (.inl hq) W)
    have HC2 := Lib.hid (fun W => both_bad (a := 0) (b := x1) (.inr hq) W)
    clear hq
    go_wp2_with (first | (have h := HI.out; clear HI; go_at_call 66; refine (h _).mono ?_; clear h; rintro e w2 ⟨rfl, hb⟩; have c0 := cell_keep hb c0; have c1 := cell_keep hb c1; have c2 := cell_keep hb c2; have d0 := cell_keep hb d0; have d1 := cell_keep hb d1; have d2 := cell_keep hb d2; have HB := Lib.hid (HB.out.trans (hb.mono HB.out.size)); clear hb) | (have h := HC1.out; clear HC1; go_at_call 67; refine (h _).mono ?_; clear h; rintro e w3 ⟨rfl, hb⟩; have c0 := cell_keep hb c0; have c1 := cell_keep hb c1; have c2 := cell_keep hb c2; have d0 := cell_keep hb d0; have d1 := cell_keep hb d1; have d2 := cell_keep hb d2; have HB := Lib.hid (HB.out.trans (hb.mono HB.out.size)); clear hb) | (have h := HC2.out; clear HC2; go_at_call 67; refine (h _).mono ?_; clear h; rintro e w4 ⟨rfl, hb⟩; have c0 := cell_keep hb c0; have c1 := cell_keep hb c1; have c2 := cell_keep hb c2; have d0 := cell_keep hb d0; have d1 := cell_keep hb d1; have d2 := cell_keep hb d2; have HB := Lib.hid (HB.out.trans (hb.mono HB.out.size)); clear hb))
    go_ret
    exact ⟨rfl, HB.out⟩
  ·obtain rfl : u = 2 := by simpa using hui
   clear hui
   rcases Bool.eq_false_or_eq_true (inT x2) with hq | hq
   ·have HNX := Lib.hid (show (0 < 3 → inT x0 = true) ∧ (1 < 3 → inT x1 = true) ∧ (2 < 3 → inT x2 = true) from ⟨fun _ => HIN.out.1 (by decide), fun _ => HIN.out.2.1 (by decide), fun _ => hq⟩)
    have HI := Lib.hid (fun W => isTurnR_any x2 W)
    rw [show withinB x2 0 47 = true from hq] at HI
    clear hq
    go_wp2_with (go_at_call 66; refine (HI.out _).mono ?_; rintro e w2 ⟨rfl, hb⟩; have HB2 := Lib.hid (HBR.out.trans (hb.mono HBR.out.size)); clear hb)
    go_roundw
    case rel => exact ⟨3, 3, by decide, rfl, by first | rfl | go_num, HNX, HB2.out⟩
    case measure => first | (simp [intOf]; done) | (simp [intOf]; omega)
   ·have HI := Lib.hid (fun W => isTurnR_any x2 W)
    rw [show withinB x2 0 47 = false from hq] at HI
    have HC1 := Lib.hid (fun W => both_bad (a := x2) (b := 0) (.inl hq) W)
    have HC2 := Lib.hid (fun W => both_bad (a := 0) (b := x2) (.inr hq) W)
    clear hq
    go_wp2_with (first | (have h := HI.out; clear HI; go_at_call 66; refine (h _).mono ?_; clear h; rintro e w2 ⟨rfl, hb⟩; have c0 := cell_keep hb c0; have c1 := cell_keep hb c1; have c2 := cell_keep hb c2; have d0 := cell_keep hb d0; have d1 := cell_keep hb d1; have d2 := cell_keep hb d2; have HB := Lib.hid (HB.out.trans (hb.mono HB.out.size)); clear hb) | (have h := HC1.out; clear HC1; go_at_call 67; refine (h _).mono ?_; clear h; rintro e w3 ⟨rfl, hb⟩; have c0 := cell_keep hb c0; have c1 := cell_keep hb c1; have c2 := cell_keep hb c2; have d0 := cell_keep hb d0; have d1 := cell_keep hb d1; have d2 := cell_keep hb d2; have HB := Lib.hid (HB.out.trans (hb.mono HB.out.size)); clear hb) | (have h := HC2.out; clear HC2; go_at_call 67; refine (h _).mono ?_; clear h; rintro e w4 ⟨rfl, hb⟩; have c0 := cell_keep hb c0; have c1 := cell_keep hb c1; have c2 := cell_keep hb c2; have d0 := cell_keep hb d0; have d1 := cell_keep hb d1; have d2 := cell_keep hb d2; have HB := Lib.hid (HB.out.trans (hb.mono HB.out.size)); clear hb))
    go_ret
    exact ⟨rfl, HB.out⟩
  ·obtain rfl : u = 3 := by simpa using hui
   clear hui
   have t0' : 0 ≤ x0 ∧ x0 ≤ 47 := withinB_true (HIN.out.1 (by decide))
   have t1' : 0 ≤ x1 ∧ x1 ≤ 47 := withinB_true (HIN.out.2.1 (by decide))
   have t2' : 0 ≤ x2 ∧ x2 ≤ 47 := withinB_true (HIN.out.2.2 (by decide))
   cases hf : farB ⟨y0, y1, y2⟩ with
   | true =>
    rw [hf] at HFA
    clear hf
    go_wp2_with (have h := HFA.out; clear HFA; go_at_call 68; refine (h _).mono ?_; clear h; rintro e w2 ⟨rfl, hb⟩; have c0 := cell_keep hb c0; have c1 := cell_keep hb c1; have c2 := cell_keep hb c2; have d0 := cell_keep hb d0; have d1 := cell_keep hb d1; have d2 := cell_keep hb d2; have HB := Lib.hid (HB.out.trans (hb.mono HB.out.size)); clear hb)
    go_ret
    exact ⟨rfl, HB.out⟩
   | false =>
    rw [hf] at HFA
    obtain ⟨hab, -, hab2⟩ := pair_at t0' t1'
    have hbc := (pair_at t1' t2').1
    obtain ⟨hn0, hm0, hbk⟩ := one_at t0'
    have zero47 : (0 : Int) ≤ 0 ∧ (0 : Int) ≤ 47 := by decide
    have HC1 := Lib.hid (fun W => both_ok t0' t1' W)
    have HC2 := Lib.hid (fun W => both_ok t1' t2' W)
    have HC3 := Lib.hid (fun W => both_ok hab t2' W)
    have HC4 := Lib.hid (fun W => both_ok t0' hbc W)
    rw [← both_assoc t0' t1' t2'] at HC4
    have HC5 := Lib.hid (fun W => both_ok t0' zero47 W)
    rw [hn0] at HC5
    have HC6 := Lib.hid (fun W => both_ok zero47 t0' W)
    rw [hm0] at HC6
    have HI1 := Lib.hid (fun W => isTurnR_any (bothM x0 x1) W)
    have HI2 := Lib.hid (fun W => isTurnR_any (bothM x1 x2) W)
    rw [show withinB (bothM x0 x1) 0 47 = true by unfold withinB; simp [hab.1, hab.2]] at HI1
    rw [show withinB (bothM x1 x2) 0 47 = true by unfold withinB; simp [hbc.1, hbc.2]] at HI2
    have HLP := Lib.hid (fun (k : Nat) (hk : k < 48) W => both_ok (a := x0) (b := (k : Int)) t0' (by omega) W)
    have hfp : farB (ofT (trnN x0) ⟨y0, y1, y2⟩) = false := farB_in.2 (ofT_in (trnN_wf t0') (farB_in.1 hf))
    have HT1 := Lib.hid (fun W => turned_ok t0' hf W)
    have HT2 := Lib.hid (fun W => turned_ok t1' hfp W)
    have HT3 := Lib.hid (fun W => turned_ok hab hf W)
    rw [both_of t0' t1'] at HT3
    simp only at HT1 HT3
    have HBN := Lib.hid (show backN x0 48 = 1 from hbk)
    obtain ⟨P, hP⟩ : ∃ P, P = ofT (trnN x0) ⟨y0, y1, y2⟩ := ⟨_, rfl⟩
    rw [← hP] at HT1 HT2 HT3
    obtain ⟨Q, hQ⟩ : ∃ Q, Q = ofT (trnN x1) P := ⟨_, rfl⟩
    rw [← hQ] at HT2 HT3
    obtain ⟨AB, hAB⟩ : ∃ b, b = bothM x0 x1 := ⟨_, rfl⟩
    rw [← hAB] at HC1 HC3 HI1 HT3 hab2
    obtain ⟨BC, hBC⟩ : ∃ b, b = bothM x1 x2 := ⟨_, rfl⟩
    rw [← hBC] at HC2 HC4 HI2
    rw [← hAB] at HC4
    obtain ⟨Z, hZ⟩ : ∃ b, b = bothM AB x2 := ⟨_, rfl⟩
    rw [← hZ] at HC3 HC4
    have hab3 : (!decide (AB < 24) == (decide (x0 < 24) == decide (x1 < 24))) = false := by rw [hab2]; cases (decide (x0 < 24) == decide (x1 < 24)) <;> rfl
    clear hP hQ hAB hBC hZ hf hfp hab hbc hn0 hm0 hbk hab2 zero47
    go_upto_region 12 with (have h := HFA.out; clear HFA; go_at_call 68; refine (h _).mono ?_; clear h; rintro e w2 ⟨rfl, hb⟩; have c0 := cell_keep hb c0; have c1 := cell_keep hb c1; have c2 := cell_keep hb c2; have d0 := cell_keep hb d0; have d1 := cell_keep hb d1; have d2 := cell_keep hb d2; have HB := Lib.hid (HB.out.trans (hb.mono HB.out.size)); clear hb)
    go_upto_region 14 with (first | (have h := HC1.out; clear HC1; go_at_call 67; refine (h _).mono ?_; clear h; rintro e w3 ⟨rfl, hb⟩; have c0 := cell_keep hb c0; have c1 := cell_keep hb c1; have c2 := cell_keep hb c2; have d0 := cell_keep hb d0; have d1 := cell_keep hb d1; have d2 := cell_keep hb d2; have HB := Lib.hid (HB.out.trans (hb.mono HB.out.size)); clear hb) | (have h := HC2.out; clear HC2; go_at_call 67; refine (h _).mono ?_; clear h; rintro e w4 ⟨rfl, hb⟩; have c0 := cell_keep hb c0; have c1 := cell_keep hb c1; have c2 := cell_keep hb c2; have d0 := cell_keep hb d0; have d1 := cell_keep hb d1; have d2 := cell_keep hb d2; have HB := Lib.hid (HB.out.trans (hb.mono HB.out.size)); clear hb))
    go_upto_region 16 with (first | (have h := HI1.out; clear HI1; go_at_call 66; refine (h _).mono ?_; clear h; rintro e w5 ⟨rfl, hb⟩; have c0 := cell_keep hb c0; have c1 := cell_keep hb c1; have c2 := cell_keep hb c2; have d0 := cell_keep hb d0; have d1 := cell_keep hb d1; have d2 := cell_keep hb d2; have HB := Lib.hid (HB.out.trans (hb.mono HB.out.size)); clear hb) | (have h := HI2.out; clear HI2; go_at_call 66; refine (h _).mono ?_; clear h; rintro e w6 ⟨rfl, hb⟩; have c0 := cell_keep hb c0; have c1 := cell_keep hb c1; have c2 := cell_keep hb c2; have d0 := cell_keep hb d0; have d1 := cell_keep hb d1; have d2 := cell_keep hb d2; have HB := Lib.hid (HB.out.trans (hb.mono HB.out.size)); clear hb))
    go_upto_region 18 with (first | (have h := HC3.out; clear HC3; go_at_call 67; refine (h _).mono ?_; clear h; rintro e w7 ⟨rfl, hb⟩; have c0 := cell_keep hb c0; have c1 := cell_keep hb c1; have c2 := cell_keep hb c2; have d0 := cell_keep hb d0; have d1 := cell_keep hb d1; have d2 := cell_keep hb d2; have HB := Lib.hid (HB.out.trans (hb.mono HB.out.size)); clear hb) | (have h := HC4.out; clear HC4; go_at_call 67; refine (h _).mono ?_; clear h; rintro e w8 ⟨rfl, hb⟩; have c0 := cell_keep hb c0; have c1 := cell_keep hb c1; have c2 := cell_keep hb c2; have d0 := cell_keep hb d0; have d1 := cell_keep hb d1; have d2 := cell_keep hb d2; have HB := Lib.hid (HB.out.trans (hb.mono HB.out.size)); clear hb))
    go_upto_region 20 with (first | (have h := HC5.out; clear HC5; go_at_call 67; refine (h _).mono ?_; clear h; rintro e w9 ⟨rfl, hb⟩; have c0 := cell_keep hb c0; have c1 := cell_keep hb c1; have c2 := cell_keep hb c2; have d0 := cell_keep hb d0; have d1 := cell_keep hb d1; have d2 := cell_keep hb d2; have HB := Lib.hid (HB.out.trans (hb.mono HB.out.size)); clear hb) | (have h := HC6.out; clear HC6; go_at_call 67; refine (h _).mono ?_; clear h; rintro e w10 ⟨rfl, hb⟩; have c0 := cell_keep hb c0; have c1 := cell_keep hb c1; have c2 := cell_keep hb c2; have d0 := cell_keep hb d0; have d1 := cell_keep hb d1; have d2 := cell_keep hb d2; have HB := Lib.hid (HB.out.trans (hb.mono HB.out.size)); clear hb))
    have HBB := Lib.hid HB.out
    clear HB
    have HCX2 := Lib.hid (And.intro c0 (And.intro c1 c2))
    have HCY2 := Lib.hid (And.intro d0 (And.intro d1 d2))
    go_upto_region 22 with fail
    clear c0 c1 c2 d0 d1 d2 hab3
    go_wp2_with fail
    obtain ⟨wo, rfl⟩ : ∃ wo : World, wo = w10 := ⟨_, rfl⟩
    go_loopw [22, 23] (fun bv iv wr => ∃ k : Nat, k ≤ 48 ∧ iv = .int .i64 (k : Int) ∧ bv = .int .i64 (backN x0 k : Int) ∧ Below wo.heap.size wo wr) (fun _ iv _ => 48 - (intOf iv).toNat)
    case atStart => exact ⟨0, Nat.zero_le _, rfl, rfl, Below.refl _ _⟩
    case round =>
     obtain ⟨k, hk, rfl, rfl, hbr⟩ := hrel
     have HB := Lib.hid (HBB.out.trans (hbr.mono HBB.out.size))
     have HBR := Lib.hid hbr
     have c0 := cell_keep hbr HCX2.out.1
     have c1 := cell_keep hbr HCX2.out.2.1
     have d0 := cell_keep hbr HCY2.out.1
     have d1 := cell_keep hbr HCY2.out.2.1
     have d2 := cell_keep hbr HCY2.out.2.2
     clear hbr
     by_cases hlt : k < 48
     ·have hki : (k : Int) < 48 := by omega
      have HLC := Lib.hid (fun W => HLP.out k hlt W)
      have hbl := backN_le x0 k
      have HSU := Lib.hid (backN_succ x0 k)
      obtain ⟨z, hz⟩ : ∃ z, z = bothM x0 (k : Int) := ⟨_, rfl⟩
      rw [← hz] at HLC HSU
      obtain ⟨b, hbn⟩ : ∃ b, b = backN x0 k := ⟨_, rfl⟩
      rw [← hbn] at hbl HSU ⊢
      clear hz hbn
      have v1 : IntKind.i64.wrap ((k : Int) + 1) = (k : Int) + 1 := IntWalk.i64_in _ (by omega)
      have v2 : IntKind.i64.wrap ((b : Int) + 1) = (b : Int) + 1 := IntWalk.i64_in _ (by omega)
      by_cases hz0 : z = 0
      ·have HSV := Lib.hid (show backN x0 (k + 1) = b + 1 by rw [HSU.out, if_pos hz0])
       subst hz0
       go_wp2_with (go_at_call 67; refine (HLC.out _).mono ?_; rintro e w2 ⟨rfl, hb⟩; have HB2 := Lib.hid (HBR.out.trans (hb.mono HBR.out.size)); clear hb)
       go_roundw
       case rel => exact ⟨k + 1, by omega, by go_num, by rw [HSV.out]; go_num, HB2.out⟩
       case measure => first | (simp [intOf]; done) | (simp [intOf]; omega)
      ·have HSV := Lib.hid (show backN x0 (k + 1) = b by rw [HSU.out, if_neg hz0]; rfl)
       have hz1 : (z == 0) = false := by simpa using hz0
       go_wp2_with (go_at_call 67; refine (HLC.out _).mono ?_; rintro e w2 ⟨rfl, hb⟩; have HB2 := Lib.hid (HBR.out.trans (hb.mono HBR.out.size)); clear hb)
       go_roundw
       case rel => exact ⟨k + 1, by omega, by go_num, by rw [HSV.out], HB2.out⟩
       case measure => first | (simp [intOf]; done) | (simp [intOf]; omega)
     ·obtain rfl : k = 48 := by omega
      have hki : ¬ ((48 : Nat) : Int) < 48 := by omega
      rw [HBN.out]
      have hE := Arr_eql Q Q
      simp only [decide_true] at hE
      go_upto_region 32 with (have h := HT1.out; clear HT1; go_at_call 69; refine (h _).mono ?_; clear h; rintro e w2 ⟨rfl, hb⟩; have d0 := cell_keep hb d0; have d1 := cell_keep hb d1; have d2 := cell_keep hb d2; have c1 := cell_keep hb c1; have HB := Lib.hid (HB.out.trans (hb.mono HB.out.size)); skip; clear hb)
      refine gen_world (fun W => (W.cell? ⟨w2.heap.size, 0, none⟩ = some (.int .i64 P.x) ∧ W.cell? ⟨w2.heap.size, 1, none⟩ = some (.int .i64 P.y) ∧ W.cell? ⟨w2.heap.size, 2, none⟩ = some (.int .i64 P.z)) ∧ Below w2.heap.size w2 W) ⟨⟨by simp [go_sem], by simp [go_sem], by simp [go_sem]⟩, by repeat (first | (with_reducible assumption) | exact Below.refl _ _ | (refine Below.setCell ?_ (by first | omega | (simp; omega) | (simp; done)) _) | (refine Below.alloc ?_ (by first | omega | (simp; omega) | (simp; done)) _) | (refine Below.drew ?_))⟩ ?_
      rintro W3 ⟨⟨p0, p1, p2⟩, hb⟩
      have d0 := cell_keep hb d0; have d1 := cell_keep hb d1; have d2 := cell_keep hb d2; have c1 := cell_keep hb c1; have HB := Lib.hid (HB.out.trans (hb.mono HB.out.size))
      skip
      obtain ⟨gp, hgp⟩ : ∃ g, g = w2.heap.size := ⟨_, rfl⟩
      rw [← hgp] at p0 p1 p2 ⊢
      clear hgp hb
      go_upto_region 33 with (have h := HT2.out; clear HT2; go_at_call 69; refine (h _).mono ?_; clear h; rintro e w4 ⟨rfl, hb⟩; have d0 := cell_keep hb d0; have d1 := cell_keep hb d1; have d2 := cell_keep hb d2; have c1 := cell_keep hb c1; have HB := Lib.hid (HB.out.trans (hb.mono HB.out.size)); have p0 := cell_keep hb p0; have p1 := cell_keep hb p1; have p2 := cell_keep hb p2; clear hb)
      refine gen_world (fun W => (W.cell? ⟨w4.heap.size, 0, none⟩ = some (.int .i64 Q.x) ∧ W.cell? ⟨w4.heap.size, 1, none⟩ = some (.int .i64 Q.y) ∧ W.cell? ⟨w4.heap.size, 2, none⟩ = some (.int .i64 Q.z)) ∧ Below w4.heap.size w4 W) ⟨⟨by simp [go_sem], by simp [go_sem], by simp [go_sem]⟩, by repeat (first | (with_reducible assumption) | exact Below.refl _ _ | (refine Below.setCell ?_ (by first | omega | (simp; omega) | (simp; done)) _) | (refine Below.alloc ?_ (by first | omega | (simp; omega) | (simp; done)) _) | (refine Below.drew ?_))⟩ ?_
      rintro W5 ⟨⟨q0, q1, q2⟩, hb⟩
      have d0 := cell_keep hb d0; have d1 := cell_keep hb d1; have d2 := cell_keep hb d2; have c1 := cell_keep hb c1; have HB := Lib.hid (HB.out.trans (hb.mono HB.out.size))
      clear p0 p1 p2
      obtain ⟨gq, hgq⟩ : ∃ g, g = w4.heap.size := ⟨_, rfl⟩
      rw [← hgq] at q0 q1 q2 ⊢
      clear hgq hb
      go_upto_region 34 with (have h := HT3.out; clear HT3; go_at_call 69; refine (h _).mono ?_; clear h; rintro e w6 ⟨rfl, hb⟩; have d0 := cell_keep hb d0; have d1 := cell_keep hb d1; have d2 := cell_keep hb d2; have c1 := cell_keep hb c1; have HB := Lib.hid (HB.out.trans (hb.mono HB.out.size)); have q0 := cell_keep hb q0; have q1 := cell_keep hb q1; have q2 := cell_keep hb q2; clear hb)
      refine gen_world (fun W => (W.cell? ⟨w6.heap.size, 0, none⟩ = some (.int .i64 Q.x) ∧ W.cell? ⟨w6.heap.size, 1, none⟩ = some (.int .i64 Q.y) ∧ W.cell? ⟨w6.heap.size, 2, none⟩ = some (.int .i64 Q.z)) ∧ Below w6.heap.size w6 W) ⟨⟨by simp [go_sem], by simp [go_sem], by simp [go_sem]⟩, by repeat (first | (with_reducible assumption) | exact Below.refl _ _ | (refine Below.setCell ?_ (by first | omega | (simp; omega) | (simp; done)) _) | (refine Below.alloc ?_ (by first | omega | (simp; omega) | (simp; done)) _) | (refine Below.drew ?_))⟩ ?_
      rintro W7 ⟨⟨r0, r1, r2⟩, hb⟩
      have d0 := cell_keep hb d0; have d1 := cell_keep hb d1; have d2 := cell_keep hb d2; have c1 := cell_keep hb c1; have HB := Lib.hid (HB.out.trans (hb.mono HB.out.size))
      have q0 := cell_keep hb q0; have q1 := cell_keep hb q1; have q2 := cell_keep hb q2
      obtain ⟨gr, hgr⟩ : ∃ g, g = w6.heap.size := ⟨_, rfl⟩
      rw [← hgr] at r0 r1 r2 ⊢
      clear hgr hb
      go_wp2_with fail
      go_ret
      exact ⟨rfl, HB.out⟩
set_option maxRecDepth 100000 in
theorem solidGroup_walks : Walks 15 Tryz.f15 := by
 intro H enc W base args ds p hval hA hlt
 rw [Tryz.params15] at hA hval
 obtain ⟨v0, vs0, d0, ds0, p0, q0, hargs, rfl, rfl, ⟨fu0, hf0⟩, r0⟩ := trodAll_cons hA
 obtain ⟨v1, vs1, d1, ds1, p1, q1, rfl, rfl, rfl, ⟨fu1, hf1⟩, r1⟩ := trodAll_cons r0
 obtain ⟨rfl, rfl, rfl⟩ := trodAll_nil r1
 obtain rfl : args = #[v0, v1] := by cases args; simp_all
 obtain ⟨cs0, rfl, -⟩ := okWide_arr Tryz.underlying105 (hval 0 105 v0 rfl rfl)
 obtain ⟨p0, q0, o0, hc0, W0⟩ := triple_open hf0
 have hd0 : cs0 = #[.int .i64 p0, .int .i64 q0, .int .i64 o0] := by
  cases cs0; simpa [Value.cells] using hc0
 subst hd0
 obtain ⟨cs1, rfl, -⟩ := okWide_arr Tryz.underlying105 (hval 1 105 v1 rfl rfl)
 obtain ⟨p1, q1, o1, hc1, W1⟩ := triple_open hf1
 have hd1 : cs1 = #[.int .i64 p1, .int .i64 q1, .int .i64 o1] := by
  cases cs1; simpa [Value.cells] using hc1
 subst hd1
 exact walkSolidGroup p0 q0 o0 p1 q1 o1 W W0 W1

set_option maxRecDepth 100000 in
theorem solidGroup_holds : Rows.SolidGroupSaid :=
 law_holds (s := Rows.solidGroupSpec) (c := Rows.solidGroupRow) 15 Tryz.f15 rfl
  (fun H ds h => by match ds, h with | [_, _], _ => rfl) (by kernel_rfl) (by kernel_rfl)
  rfl rfl rfl rfl rfl rfl rfl ⟨rfl, rfl, rfl, rfl, rfl⟩ rfl rfl rfl rfl rfl rfl rfl rfl rfl rfl (fun _ _ => rfl) (by kernel_rfl) Tryz.func15
  solidGroup_closed (of_decide_eq_true (by kernel_rfl)) (by unfold Func.isWrapper; first | (rw [if_pos (by decide +kernel)]; kernel_rfl) | (rw [if_neg (by decide +kernel)]; exact ⟨rfl, rfl⟩)) (by kernel_rfl)
  (fun H enc os => ChangeSpec.witness6 (enc := enc) (C := Tryz.checked) false ⟨#[], #[.agg #[.int .i64 0, .int .i64 0, .int .i64 0], .agg #[.int .i64 0, .int .i64 0, .int .i64 0]], []⟩ 8 (by kernel_rfl) (by kernel_rfl) (by kernel_rfl) (by kernel_rfl))
  solidGroup_walks
end Go.Proofs.YtbhgkadklklmbaaGreat
