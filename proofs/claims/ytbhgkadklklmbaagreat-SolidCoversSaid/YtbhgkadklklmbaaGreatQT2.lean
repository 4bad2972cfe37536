/- Whether a solid covers another one, and whether they are the same, as the program says it. -/
import Derived.Test.YtbhgkadklklmbaaGreatQI
import Derived.Test.YtbhgkadklklmbaaGreatQU
set_option linter.unusedVariables false
set_option linter.unusedSimpArgs false
namespace Go.Proofs.YtbhgkadklklmbaaGreat
open Go Go.RowKit Go.Sort Go.Lib

def covE (A B : List Cell) : Int := if twoE A B ≠ 0 then twoE A B else leftE (B.map (·.planes)) (A.map (·.planes))
def covV (A B : List Cell) : Bool := decide (twoE A B = 0) && decide (leftM (A.map (·.planes)) [] (B.map (·.planes)) = some [])
set_option maxRecDepth 100000 in
set_option maxHeartbeats 8000000 in
theorem covers_any (ca cb : List Cell) (a : Option Addr) (c : Nat) (b : Option Addr) (d : Nat) (w : World) (hcl : ca.length ≤ 9223372036854775807) (hv : Cells.V w a ca) (hpl : ∀ x ∈ ca, x.planes.length ≤ 1000000)
    (hdl : cb.length ≤ 9223372036854775807) (hu : Cells.V w b cb) (hql : ∀ x ∈ cb, x.planes.length ≤ 1000000) :
    Calls Tryz.prog 33 #[.agg #[.slice a ca.length c], .agg #[.slice b cb.length d]] w fun e w' => e = .returned (.tuple #[.bool (covV ca cb), .int .i64 (covE ca cb)]) ∧ Below w.heap.size w w' := by
 have HT := Lib.hid (fun W (h : Below w.heap.size w W) => two_any ca cb a c b d W hcl (hv.keep h) hpl hdl (hu.keep h) hql)
 obtain ⟨M, hM⟩ : ∃ M, M = covE ca cb := ⟨_, rfl⟩
 obtain ⟨V, hV⟩ : ∃ V, V = covV ca cb := ⟨_, rfl⟩
 rw [← hM, ← hV]
 have HM := Lib.hid (show M = if twoE ca cb ≠ 0 then twoE ca cb else leftE (cb.map (·.planes)) (ca.map (·.planes)) from hM)
 have HV := Lib.hid (show V = (decide (twoE ca cb = 0) && decide (leftM (ca.map (·.planes)) [] (cb.map (·.planes)) = some [])) from hV)
 have HZ := Lib.hid (twoE_zero (a := ca) (b := cb))
 clear hv hu hpl hql hcl hdl hM hV
 obtain ⟨X, hX⟩ : ∃ X, X = ca.map (·.planes) := ⟨_, rfl⟩
 obtain ⟨Y, hY⟩ : ∃ Y, Y = cb.map (·.planes) := ⟨_, rfl⟩
 rw [← hX, ← hY] at HM HV
 have HX := Lib.hid hX
 have HY := Lib.hid hY
 clear hX hY
 go_enter Tryz.func33, Tryz.ntmps33
 go_upto_region 1 with fail
 refine gen_world (fun W => W.cell? ⟨w.heap.size, 0, none⟩ = some (.slice a ca.length c) ∧ W.cell? ⟨w.heap.size + 1, 0, none⟩ = some (.slice b cb.length d) ∧ Below w.heap.size w W) ⟨by simp [go_sem], by simp [go_sem], by repeat (first | (with_reducible assumption) | exact Below.refl _ _ | (refine Below.setCell ?_ (by first | omega | (simp; omega) | (simp; done)) _) | (refine Below.alloc ?_ (by first | omega | (simp; omega) | (simp; done)) _) | (refine Below.drew ?_))⟩ ?_
 rintro W ⟨b0, b1, hb⟩
 have HB0 := Lib.hid hb
 have HTW := Lib.hid (HT.out W hb)
 clear hb
 go_upto_region 2 with (go_at_call 89; refine HTW.out.mono ?_; rintro e w1 ⟨x, y, rfl, hb, hr⟩; have HB1 := Lib.hid hb; obtain ⟨xa, xn, xc, ya, yn, yc, rfl, rfl⟩ := hr.shape; have HTP := Lib.hid hr; clear hb hr)
 have HBW1 := Lib.hid (HB0.out.trans (HB1.out.mono HB0.out.size))
 clear b0 b1
 by_cases h0 : twoE ca cb = 0
 ·obtain ⟨⟨Lx, hx1, hx2⟩, Ly, hy1, hy2⟩ := HTP.out.2 h0
  obtain ⟨e1, hbx⟩ := bods_of (HZ.out.1 h0).1 hx1 hx2
  obtain ⟨e2, hby⟩ := bods_of (HZ.out.1 h0).2 hy1 hy2
  subst e1 e2
  have HLF := Lib.hid (left_any ya Ly yc xa Lx xc w1 hby hbx)
  rw [hx1.ps, hy1.ps, ← HX.out, ← HY.out] at HLF
  have HM2 := Lib.hid (show M = leftE Y X by rw [HM.out, if_neg (by simpa using h0)])
  have HV2 := Lib.hid (show V = decide (leftM X [] Y = some []) by rw [HV.out, h0]; simp)
  rw [h0]
  clear hx1 hx2 hy1 hy2 hbx hby h0 HTP HZ HM HV HT HTW
  go_upto_region 5 with (go_at_call 90; refine HLF.out.mono ?_; rintro e w4 ⟨v, rfl, hp, hb⟩; have HB4 := Lib.hid (HBW1.out.trans (hb.mono HBW1.out.size)); have HP := Lib.hid hp; clear hb hp)
  cases hl : leftM X [] Y with
  | none =>
   have HLE := Lib.hid (show leftE Y X = 8 by unfold leftE; rw [hl])
   have hv0 : v = .slice none 0 0 := HP.out.1 hl
   subst hv0
   rw [HLE.out]
   have HM3 := Lib.hid (show M = 8 by rw [HM2.out, HLE.out])
   have HV3 := Lib.hid (show V = false by rw [HV2.out, hl]; rfl)
   clear hl
   go_wp2_with fail
   refine bodyPost_ret (v := .tuple #[.bool false, .int .i64 8]) (by simp [results, Tryz.results33, go_sem]) rfl ⟨by rw [HM3.out, HV3.out], HB4.out⟩
  | some l =>
   have HLE := Lib.hid (show leftE Y X = 0 by unfold leftE; rw [hl])
   obtain ⟨L, hL1, hL2, hL3⟩ := HP.out.2 l hl
   obtain ⟨va, vc, rfl, -, -⟩ := own_slice hL3
   rw [HLE.out]
   have HM3 := Lib.hid (show M = 0 by rw [HM2.out, HLE.out])
   have HV3 := Lib.hid (show V = decide ((L.length : Int) = 0) by
    rw [HV2.out, hl, ← hL1]
    cases L <;> simp <;> omega)
   clear hl hL1 hL2 hL3
   by_cases hn : (L.length : Int) = 0
   ·have HV4 := Lib.hid (show V = true by rw [HV3.out]; exact decide_eq_true hn)
    rw [hn] at HV3
    go_wp2_with fail
    refine bodyPost_ret (v := .tuple #[.bool true, .int .i64 0]) (by simp [results, Tryz.results33, go_sem, hn]) rfl ⟨by rw [HM3.out, HV4.out], HB4.out⟩
   ·have HV4 := Lib.hid (show V = false by rw [HV3.out]; exact decide_eq_false hn)
    have hn2 : ((L.length : Int) == 0) = false := by simpa using hn
    have hn3 : ¬ L = [] := fun e => hn (by rw [e]; rfl)
    go_wp2_with fail
    refine bodyPost_ret (v := .tuple #[.bool false, .int .i64 0]) (by simp [results, Tryz.results33, go_sem, hn, hn2, hn3]) rfl ⟨by rw [HM3.out, HV4.out], HB4.out⟩
 ·have HM3 := Lib.hid (show M = twoE ca cb by rw [HM.out, if_pos h0])
  have HV3 := Lib.hid (show V = false by rw [HV.out]; simp [h0])
  have hE1 : (twoE ca cb != 0) = true := by simpa using h0
  clear h0
  generalize twoE ca cb = E at *
  go_wp2_with fail
  refine bodyPost_ret (v := .tuple #[.bool false, .int .i64 E]) (by simp [results, Tryz.results33, go_sem]) rfl ⟨by rw [HM3.out, HV3.out], HBW1.out⟩
def sameE (A B : List Cell) : Int := if covE A B ≠ 0 then covE A B else covE B A
def sameV (A B : List Cell) : Bool := decide (covE A B = 0) && (covV A B && covV B A)
set_option maxRecDepth 100000 in
set_option maxHeartbeats 8000000 in
theorem same_any (ca cb : List Cell) (a : Option Addr) (c : Nat) (b : Option Addr) (d : Nat) (w : World) (hcl : ca.length ≤ 9223372036854775807) (hv : Cells.V w a ca) (hpl : ∀ x ∈ ca, x.planes.length ≤ 1000000)
    (hdl : cb.length ≤ 9223372036854775807) (hu : Cells.V w b cb) (hql : ∀ x ∈ cb, x.planes.length ≤ 1000000) :
    Calls Tryz.prog 35 #[.agg #[.slice a ca.length c], .agg #[.slice b cb.length d]] w fun e w' => e = .returned (.tuple #[.bool (sameV ca cb), .int .i64 (sameE ca cb)]) ∧ Below w.heap.size w w' := by
 have HC1 := Lib.hid (fun W (h : Below w.heap.size w W) => covers_any ca cb a c b d W hcl (hv.keep h) hpl hdl (hu.keep h) hql)
 have HC2 := Lib.hid (fun W (h : Below w.heap.size w W) => covers_any cb ca b d a c W hdl (hu.keep h) hql hcl (hv.keep h) hpl)
 have HM := Lib.hid (show sameE ca cb = if covE ca cb ≠ 0 then covE ca cb else covE cb ca from rfl)
 have HV := Lib.hid (show sameV ca cb = (decide (covE ca cb = 0) && (covV ca cb && covV cb ca)) from rfl)
 generalize sameE ca cb = M at *
 generalize sameV ca cb = V at *
 generalize covE ca cb = E1 at *
 generalize covE cb ca = E2 at *
 generalize covV ca cb = V1 at *
 generalize covV cb ca = V2 at *
 clear hv hu hpl hql hcl hdl
 go_enter Tryz.func35, Tryz.ntmps35
 go_upto_region 1 with fail
 refine gen_world (fun W => W.cell? ⟨w.heap.size, 0, none⟩ = some (.slice a ca.length c) ∧ W.cell? ⟨w.heap.size + 1, 0, none⟩ = some (.slice b cb.length d) ∧ Below w.heap.size w W) ⟨by simp [go_sem], by simp [go_sem], by repeat (first | (with_reducible assumption) | exact Below.refl _ _ | (refine Below.setCell ?_ (by first | omega | (simp; omega) | (simp; done)) _) | (refine Below.alloc ?_ (by first | omega | (simp; omega) | (simp; done)) _) | (refine Below.drew ?_))⟩ ?_
 rintro W ⟨b0, b1, hb⟩
 have HB0 := Lib.hid hb
 have HCW := Lib.hid (HC1.out W hb)
 clear hb
 go_upto_region 2 with (go_at_call 33; refine HCW.out.mono ?_; rintro e w1 ⟨rfl, hb⟩; have b0 := cell_keep hb b0; have b1 := cell_keep hb b1; have HB1 := Lib.hid (HB0.out.trans (hb.mono HB0.out.size)); clear hb)
 have HCX := Lib.hid (HC2.out w1 HB1.out)
 by_cases h0 : E1 = 0
 ·subst h0
  have HM3 := Lib.hid (show M = E2 by rw [HM.out]; simp)
  have HV3 := Lib.hid (show V = (V1 && V2) by rw [HV.out]; simp)
  cases V1 with
  | true =>
   go_wp2_with (go_at_call 33; refine HCX.out.mono ?_; rintro e w2 ⟨rfl, hb⟩; have HB2 := Lib.hid (HB1.out.trans (hb.mono HB1.out.size)); clear hb)
   refine bodyPost_ret (v := .tuple #[.bool V2, .int .i64 E2]) (by simp [results, Tryz.results35, go_sem]) rfl ⟨by rw [HM3.out, HV3.out]; rfl, HB2.out⟩
  | false =>
   go_wp2_with (go_at_call 33; refine HCX.out.mono ?_; rintro e w2 ⟨rfl, hb⟩; have HB2 := Lib.hid (HB1.out.trans (hb.mono HB1.out.size)); clear hb)
   refine bodyPost_ret (v := .tuple #[.bool false, .int .i64 E2]) (by simp [results, Tryz.results35, go_sem]) rfl ⟨by rw [HM3.out, HV3.out]; rfl, HB2.out⟩
 ·have HM3 := Lib.hid (show M = E1 by rw [HM.out, if_pos h0])
  have HV3 := Lib.hid (show V = false by rw [HV.out]; simp [h0])
  have hE1 : (E1 != 0) = true := by simpa using h0
  clear h0
  go_wp2_with fail
  refine bodyPost_ret (v := .tuple #[.bool false, .int .i64 E1]) (by simp [results, Tryz.results35, go_sem]) rfl ⟨by rw [HM3.out, HV3.out], HB1.out⟩
end Go.Proofs.YtbhgkadklklmbaaGreat
/- What is left and what is common are the whole: what the calls of the law answer (plain). -/
set_option linter.unusedVariables false
set_option linter.unusedSimpArgs false
namespace Go.Proofs.YtbhgkadklklmbaaGreat

theorem solE_zero {l : List Cell} : solE l = 0 ↔ l.length ≤ 100 ∧ ∀ c ∈ l, readE c.planes = 0 := by
 unfold solE
 split
 ·rename_i h; simp; omega
 ·rename_i h; rw [chkCs_all]; simp; omega
theorem readX {A : List Cell} (h : solE A = 0) : ∀ c ∈ A.map (·.planes), readE c = 0 := fun c hc => by
 obtain ⟨x, hx, rfl⟩ := List.mem_map.1 hc
 exact (solE_zero.1 h).2 x hx
theorem solX {A : List Cell} (h : solE A = 0) : ∀ c ∈ A.map (·.planes), Sol c := fun c hc => sol_of (readX h c hc)
end Go.Proofs.YtbhgkadklklmbaaGreat
