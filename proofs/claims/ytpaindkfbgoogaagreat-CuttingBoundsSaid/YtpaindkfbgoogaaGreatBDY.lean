/- The area of a rectangle that defects cover, of the program. -/
import Derived.Test.YtpaindkfbgoogaaGreatSX
import Derived.Test.YtpaindkfbgoogaaGreatTDX
import Derived.Test.YtpaindkfbgoogaaGreatBDX
import Derived.Test.YtpaindkfbgoogaaGreatQU
set_option linter.unusedVariables false
set_option linter.unusedSimpArgs false
namespace Go.Proofs.YtpaindkfbgoogaaGreat
open Go Go.RowKit Go.Sort Go.Lib

/-- Rows apart. -/
def Apart (v u : Value) : Prop := ∀ g, v.ownBlock = some g → u.ownBlock ≠ some g
theorem Apart.symm {v u : Value} (h : Apart v u) : Apart u v := fun g h1 h2 => h g h2 h1
theorem Apart.hne {v u : Value} (h : Apart v u) : v.ownBlock = none ∨ v.ownBlock ≠ u.ownBlock := by
  cases hv : v.ownBlock with
  | none => exact .inl rfl
  | some g => exact .inr fun e => h g hv e.symm
theorem Apart.put {v u u' : Value} {w : World} {base e k n : Nat} {xs : List Value} (h : Apart v u) (ho : w.ownsRow base e k v n xs) (hu : u'.ownBlock = u.ownBlock ∨ u'.ownBlock = some w.heap.size) : Apart v u' := fun g hg hu' => by
  rcases hu with hu | hu
  · exact h g hg (hu ▸ hu')
  · rw [hu] at hu'
    injection hu' with hu'
    have := own_block_lt ho hg
    omega
theorem covgrown {B : Nat} {a b c : World} {row : Option Nat} (h : Below B a b) (hg : b.grownBy c row) (hB : B ≤ b.heap.size) (hr : ∀ k, row = some k → B ≤ k) : Below B a c := h.grown hg hB hr
/-- The two rows under way. -/
structure CovSt (N : Nat) (w0 w : World) (vp vx : Value) (ps : List Rect) (xs : List Int) : Prop where
  op : w.ownsRow N 57 4 vp ps.length (ps.flatMap cellsR)
  ox : w.ownsRow N 3 1 vx xs.length (xs.map (Value.int .i64))
  px : Apart vp vx
  b : Below N w0 w
  n : N ≤ w.heap.size
theorem CovSt.keep {N : Nat} {w0 w w' : World} {vp vx : Value} {ps : List Rect} {xs : List Int} (h : CovSt N w0 w vp vx ps xs) (hb : Below w.heap.size w w') : CovSt N w0 w' vp vx ps xs :=
  ⟨own_keep h.op hb, own_keep h.ox hb, h.px, h.b.trans (hb.mono h.n), Nat.le_trans h.n hb.size⟩
theorem CovSt.putP {N : Nat} {w0 w w' : World} {vp vx vp' : Value} {ps ps' : List Rect} {xs : List Int} (h : CovSt N w0 w vp vx ps xs) (ho : w'.ownsRow N 57 4 vp' ps'.length (ps'.flatMap cellsR)) (hg : w.grownBy w' vp.ownBlock) (hv : vp'.ownBlock = vp.ownBlock ∨ vp'.ownBlock = some w.heap.size) : CovSt N w0 w' vp' vx ps' xs :=
  ⟨ho, h.ox.kept hg h.px.symm.hne, (h.px.symm.put h.ox hv).symm, covgrown h.b hg h.n fun k hk => own_base h.op hk, Nat.le_trans h.n hg.size⟩
theorem CovSt.putX {N : Nat} {w0 w w' : World} {vp vx vx' : Value} {ps : List Rect} {xs xs' : List Int} (h : CovSt N w0 w vp vx ps xs) (ho : w'.ownsRow N 3 1 vx' xs'.length (xs'.map (Value.int .i64))) (hg : w.grownBy w' vx.ownBlock) (hv : vx'.ownBlock = vx.ownBlock ∨ vx'.ownBlock = some w.heap.size) : CovSt N w0 w' vp vx' ps xs' :=
  ⟨h.op.kept hg h.px.hne, ho, h.px.put h.op hv, covgrown h.b hg h.n fun k hk => own_base h.ox hk, Nat.le_trans h.n hg.size⟩
theorem covcell {W W' : World} {row : Option Nat} (h : W.grownBy W' row) {a : Addr} {u : Value} (hc : W.cell? a = some u) (hr : row ≠ some a.block) : W'.cell? a = some u := h.cell hc (fun e => hr e.symm)
theorem partsP_snoc {ds : List Rect} {r : Rect} {k : Nat} (hk : k < ds.length) : partsP (ds.take (k + 1)) r = if nz (wholeR (interR ds[k] r)) = true then partsP (ds.take k) r ++ [wholeR (interR ds[k] r)] else partsP (ds.take k) r := by
  unfold partsP
  rw [List.take_succ_eq_append_getElem hk, List.map_append, List.filter_append, List.map_cons, List.map_nil, List.filter_cons, List.filter_nil]
  split <;> simp_all
theorem nz_eq (q : Rect) : (!decide (q = ⟨0, 0, 0, 0⟩)) = nz q := by rw [rect_dec]; rfl
def sidesX (ps : List Rect) : List Int := ps.flatMap fun d => [d.x1, d.x2]
theorem sidesX_snoc (ps : List Rect) (q : Rect) : sidesX (ps ++ [q]) = sidesX ps ++ [q.x1, q.x2] := by unfold sidesX; rw [List.flatMap_append]; simp
theorem sidesX_len (ps : List Rect) : (sidesX ps).length = 2 * ps.length := by
  unfold sidesX
  induction ps with
  | nil => rfl
  | cons a l ih => rw [List.flatMap_cons, List.length_append, ih]; simp; omega
theorem partsP_len {ds : List Rect} {r : Rect} : (partsP ds r).length ≤ ds.length := by
  unfold partsP
  exact Nat.le_trans (List.length_filter_le _ _) (by simp)
/-- Bounds of the parts. -/
theorem partsP_bd {ds : List Rect} {r : Rect} (hr : (0 ≤ r.x1 ∧ r.x2 ≤ 600000) ∧ (0 ≤ r.y1 ∧ r.y2 ≤ 600000)) : ∀ q ∈ partsP ds r, (0 ≤ q.x1 ∧ q.x1 < q.x2 ∧ q.x2 ≤ 600000) ∧ (0 ≤ q.y1 ∧ q.y1 < q.y2 ∧ q.y2 ≤ 600000) := by
  intro q hq
  obtain ⟨d, hd, rfl, h1, h2⟩ := partsP_mem.1 hq
  unfold interR at h1 h2 ⊢
  simp only at h1 h2 ⊢
  omega
set_option maxRecDepth 100000 in
set_option maxHeartbeats 16000000 in
theorem covered_any (r : Rect) (ds : List Rect) (a : Option Addr) (c : Nat) (w : World) (hv : Rects.V w a ds) (hl : ds.length ≤ 60) (hr : (0 ≤ r.x1 ∧ r.x1 ≤ r.x2 ∧ r.x2 ≤ 600000) ∧ (0 ≤ r.y1 ∧ r.y1 ≤ r.y2 ∧ r.y2 ≤ 600000)) :
    Calls Tryz.prog 57 #[.agg #[.int .i64 r.x1, .int .i64 r.y1, .int .i64 r.x2, .int .i64 r.y2], .slice a ds.length c] w fun e w' => e = .returned (.int .i64 (covA ds r)) ∧ Below w.heap.size w w' := by
  obtain ⟨i0, hi0, hz0, hz1, hz2⟩ := info_parts rect_info
  obtain ⟨j0, hj0, hy0, hy1, hy2⟩ := info_parts int_info
  have HV := Lib.hid hv
  have HR := Lib.hid hr
  have HCM := Lib.hid (fun d w9 => common_is d r (wholeR (interR d r)) w9 rfl)
  have HPS := Lib.hid (fun k (hk : k < ds.length) => partsP_snoc (r := r) hk)
  have HPL := Lib.hid (fun k => show (partsP (ds.take k) r).length ≤ 60 from Nat.le_trans partsP_len (by have := List.length_take_le' k ds; omega))
  obtain ⟨CV, hCV⟩ : ∃ CV, CV = covA ds r := ⟨_, rfl⟩
  have HCV := Lib.hid hCV
  rw [← hCV]
  clear hv hCV
  go_enter Tryz.func57, Tryz.ntmps57
  go_upto_region 1 with fail
  refine gen_world (fun W => RectC W w.heap.size r ∧ Below w.heap.size w W) ⟨⟨by simp [go_sem], by simp [go_sem], by simp [go_sem], by simp [go_sem]⟩, by repeat (first | (with_reducible assumption) | exact Below.refl _ _ | (refine Below.setCell ?_ (by first | omega | (simp; omega) | (simp; done)) _) | (refine Below.alloc ?_ (by first | omega | (simp; omega) | (simp; done)) _) | (refine Below.drew ?_))⟩ ?_
  rintro W ⟨hrc, hb⟩
  have HB0 := Lib.hid hb
  have HRC := Lib.hid hrc
  obtain ⟨gw, hgw⟩ : ∃ g, g = w.heap.size := ⟨_, rfl⟩
  have hgl : gw < W.heap.size := by have := block_lt_of_cell hrc.c0; simp only at this; omega
  rw [← hgw] at HRC ⊢
  clear hb hrc hgw
  have HVW := Lib.hid (HV.out.keep HB0.out)
  go_wp2_with fail
  go_loopw [5, 6, 18] (fun vp vx iv wr => ∃ k : Nat, k ≤ ds.length ∧ iv = .int .i64 k ∧ Hid (CovSt W.heap.size W wr vp vx (partsP (ds.take k) r) (sidesX (partsP (ds.take k) r)))) (fun _ _ iv _ => ds.length - (intOf iv).toNat)
  case atStart => exact ⟨0, Nat.zero_le _, rfl, Lib.hid ⟨World.ownsRow_nil _ _ _ _, World.ownsRow_nil _ _ _ _, (fun g hg => by cases hg), Below.refl _ _, Nat.le_refl _⟩⟩
  case round =>
    obtain ⟨k, hk, rfl, HS⟩ := hrel
    obtain ⟨wo, rfl⟩ : ∃ wo : World, wo = wr := ⟨_, rfl⟩
    obtain ⟨ap, cp, rfl, -, -⟩ := own_slice HS.out.op
    obtain ⟨ax, cx, rfl, -, -⟩ := own_slice HS.out.ox
    by_cases hlt : k < ds.length
    · have hki : (k : Int) < (ds.length : Int) := by omega
      obtain ⟨lb, lo, rfl, s0, s1, s2, s3⟩ := (HVW.out.keep HS.out.b).at_ hlt
      have HRK := Lib.hid (HRC.out.keep HS.out.b)
      have HP1 := Lib.hid (HPS.out k hlt)
      have hpl := HPL.out k
      have HSL := Lib.hid (sidesX_len (partsP (ds.take k) r))
      obtain ⟨P, hP⟩ : ∃ P, P = partsP (ds.take k) r := ⟨_, rfl⟩
      rw [← hP] at HS HP1 hpl HSL ⊢
      clear hP
      have HCO := Lib.hid (HCM.out ds[k])
      generalize ds[k] = d at *
      obtain ⟨q, hq⟩ : ∃ q, q = wholeR (interR d r) := ⟨_, rfl⟩
      rw [← hq] at HCO HP1
      clear hq
      go_upto_region 6 with fail
      refine gen_world (fun W1 => RectC W1 wo.heap.size d ∧ Below wo.heap.size wo W1) ⟨⟨by simp [go_sem], by simp [go_sem], by simp [go_sem], by simp [go_sem]⟩, by repeat (first | (with_reducible assumption) | exact Below.refl _ _ | (refine Below.setCell ?_ (by first | omega | (simp; omega) | (simp; done)) _) | (refine Below.alloc ?_ (by first | omega | (simp; omega) | (simp; done)) _) | (refine Below.drew ?_))⟩ ?_
      rintro W1 ⟨⟨d0, d1, d2, d3⟩, hb1⟩
      have HS1 := Lib.hid (HS.out.keep hb1)
      obtain ⟨r0, r1, r2, r3⟩ := HRK.out.keep hb1
      obtain ⟨g8, hg8⟩ : ∃ g, g = wo.heap.size := ⟨_, rfl⟩
      rw [← hg8] at d0 d1 d2 d3 ⊢
      clear s0 s1 s2 s3 hb1 hg8
      go_upto_region 7 with (go_at_call 94; refine (HCO.out _).mono ?_; rintro e w2 ⟨rfl, hb2⟩; have HS2 := Lib.hid (HS1.out.keep hb2); clear hb2)
      refine gen_world (fun W3 => RectC W3 w2.heap.size q ∧ W3.frozen? ⟨w2.heap.size, 0, none⟩ = false ∧ Below w2.heap.size w2 W3) ⟨⟨by simp [go_sem], by simp [go_sem], by simp [go_sem], by simp [go_sem]⟩, by simp [go_sem], by repeat (first | (with_reducible assumption) | exact Below.refl _ _ | (refine Below.setCell ?_ (by first | omega | (simp; omega) | (simp; done)) _) | (refine Below.alloc ?_ (by first | omega | (simp; omega) | (simp; done)) _) | (refine Below.drew ?_))⟩ ?_
      rintro W3 ⟨hq3, -, hb3⟩
      have HS3 := Lib.hid (HS2.out.keep hb3)
      have HQ3 := Lib.hid hq3
      have HPG := Lib.hid (show (Value.slice ap P.length cp).ownBlock ≠ some w2.heap.size from fun e => Nat.lt_irrefl _ (own_block_lt HS2.out.op e))
      have HXG := Lib.hid (show (Value.slice ax (sidesX P).length cx).ownBlock ≠ some w2.heap.size from fun e => Nat.lt_irrefl _ (own_block_lt HS2.out.ox e))
      obtain ⟨q0, q1, q2, q3⟩ := hq3
      obtain ⟨g9, hg9⟩ : ∃ g, g = w2.heap.size := ⟨_, rfl⟩
      rw [← hg9] at q0 q1 q2 q3 HQ3 HPG HXG ⊢
      have hgl9 := block_lt_of_cell q0
      simp only at hgl9
      clear r0 r1 r2 r3 d0 d1 d2 d3 hb3 hg9
      have hn := rect_neq0 q
      rw [nz_eq] at hn
      have hn := fun w => (rect_neq0 q w).trans (by rw [nz_eq])
      cases hnz : nz q
      · have HP2 := Lib.hid (show partsP (ds.take (k + 1)) r = P by rw [HP1.out, if_neg (by simp [hnz])])
        go_wp2_with fail
        go_roundw
        case rel => exact ⟨k + 1, by omega, by go_num, by rw [HP2.out]; exact HS3⟩
        case measure => first | (simp [intOf]; done) | (simp [intOf]; omega)
      · have HP2 := Lib.hid (show partsP (ds.take (k + 1)) r = P ++ [q] by rw [HP1.out, if_pos hnz])
        have HP3 := Lib.hid (show (P ++ [q]).length = P.length + 1 ∧ (P ++ [q]).flatMap cellsR = P.flatMap cellsR ++ cellsR q from ⟨by simp, by simp⟩)
        have HX3 := Lib.hid (show (sidesX (P ++ [q])).length = (sidesX P).length + 2 ∧ (sidesX (P ++ [q])).map (Value.int .i64) = (sidesX P).map (Value.int .i64) ++ [.int .i64 q.x1, .int .i64 q.x2] from by rw [sidesX_snoc]; exact ⟨by simp, by simp⟩)
        have HAL := Lib.hid (fun cs T => (Below.refl W3.heap.size W3).alloc (Nat.le_refl _) (.cells cs T))
        have hn3 := HS3.out.n
        obtain ⟨sl, hsl⟩ : ∃ sl, sl = (sidesX P).length := ⟨_, rfl⟩
        have HSL2 := Lib.hid (show sl ≤ 120 by rw [hsl, HSL.out]; omega)
        rw [← hsl] at HX3 HXG ⊢
        have HS3 := Lib.hid (show CovSt W.heap.size W W3 (.slice ap P.length cp) (.slice ax sl cx) P (sidesX P) from by rw [hsl]; exact HS3.out)
        have HSQ := Lib.hid hsl
        clear hsl
        go_upto_region 9 with (at_builtin; refine wpList_append_here _ rfl _ _ 71 rfl W.heap.size 57 i0 (.agg #[.int .i64 0, .int .i64 0, .int .i64 0, .int .i64 0]) 4 32 Tryz.underlying71 hi0 hz0 hz1 hz2 rfl (by decide) (.slice ap P.length cp) P.length (P.flatMap cellsR) rfl (own_keep HS3.out.op (HAL.out _ _)) ⟨W3.heap.size, 0, none⟩ 1 1 (cellsR q) rfl rfl (news_of (cellsR q) _ _ _ rfl) (cellsR_one q) (by decide) (by simp only [maxLen]; omega) (by omega) (by simp; omega) ?_; intro v8 w8 ho8 hg8 hv8; have HS8 := Lib.hid ((HS3.out.keep (HAL.out _ _)).putP (ps' := P ++ [q]) (by rw [HP3.out.1, HP3.out.2]; exact ho8) hg8 hv8); have HO8 := Lib.hid ho8; have q0 := covcell hg8 (cell_keep (HAL.out _ _) q0) HPG.out; have q1 := covcell hg8 (cell_keep (HAL.out _ _) q1) HPG.out; have q2 := covcell hg8 (cell_keep (HAL.out _ _) q2) HPG.out; have q3 := covcell hg8 (cell_keep (HAL.out _ _) q3) HPG.out; clear ho8 hg8 hv8)
        obtain ⟨ap8, cp8, rfl, -, -⟩ := own_slice HO8.out
        have hn8 := HS8.out.n
        have HAL8 := Lib.hid (fun cs T => (Below.refl w8.heap.size w8).alloc (Nat.le_refl _) (.cells cs T))
        have hsl2 := HSL2.out
        have HOXK := Lib.hid (show w8.ownsRow W.heap.size 3 1 (.slice ax sl cx) sl ((sidesX P).map (Value.int .i64)) from by have h := HS8.out.ox; rw [← HSQ.out] at h; exact h)
        go_wp2_with (at_builtin; refine wpList_append_here _ rfl _ _ 68 rfl W.heap.size 3 j0 (.int .i64 0) 1 8 Tryz.underlying68 hj0 hy0 hy1 hy2 rfl (by decide) (.slice ax sl cx) sl ((sidesX P).map (Value.int .i64)) rfl (own_keep HOXK.out (HAL8.out _ _)) ⟨w8.heap.size, 0, none⟩ 2 2 [.int .i64 q.x1, .int .i64 q.x2] rfl rfl (news_of [.int .i64 q.x1, .int .i64 q.x2] _ _ _ rfl) (by intro u hu; simp only [List.mem_cons, List.not_mem_nil, or_false] at hu; rcases hu with rfl | rfl <;> rfl) (by decide) (by simp only [maxLen]; omega) (by omega) (by simp; omega) ?_; intro v9 w9 ho9 hg9 hv9; have HS9 := Lib.hid ((HS8.out.keep (HAL8.out _ _)).putX (xs' := sidesX (P ++ [q])) (by rw [HX3.out.1, HX3.out.2]; exact ho9) hg9 hv9); clear ho9 hg9 hv9)
        go_roundw
        case rel => exact ⟨k + 1, by omega, by go_num, by rw [HP2.out]; exact HS9⟩
        case measure => first | (simp [intOf]; done) | (simp [intOf]; omega)
    · obtain rfl : k = ds.length := by omega
      have hki : ¬ ((ds.length : Nat) : Int) < ((ds.length : Nat) : Int) := by omega
      have HPD := Lib.hid (partsP_bd (ds := ds) (r := r) (by have := HR.out; omega))
      have HPL2 := Lib.hid (show (partsP ds r).length ≤ 60 from Nat.le_trans partsP_len hl)
      have HIS := Lib.hid (fun ps xs h1 h2 h3 h4 => show CV = covP ps xs from by rw [HCV.out]; exact (covP_is (ds := ds) (r := r) (ps := ps) (xs := xs) (by have := HR.out; omega) h1 h2 h3 h4).symm)
      have HS := Lib.hid (show CovSt W.heap.size W wo (.slice ap (partsP ds r).length cp) (.slice ax (sidesX (partsP ds r)).length cx) (partsP ds r) (sidesX (partsP ds r)) from by have h := HS.out; rw [List.take_length] at h; exact h)
      rw [List.take_length]
      have HSX := Lib.hid (show sidesX (partsP ds r) = (partsP ds r).flatMap fun d => [d.x1, d.x2] from rfl)
      rw [← HSX.out] at HIS
      have HSB := Lib.hid (show ∀ z ∈ sidesX (partsP ds r), 0 ≤ z ∧ z ≤ 600000 from fun z hz => by
        unfold sidesX at hz
        obtain ⟨d, hd, h⟩ := List.mem_flatMap.1 hz
        have := HPD.out d hd
        simp only [List.mem_cons, List.not_mem_nil, or_false] at h
        omega)
      have HSL := Lib.hid (sidesX_len (partsP ds r))
      obtain ⟨P, hP⟩ : ∃ P, P = partsP ds r := ⟨_, rfl⟩
      rw [← hP] at HS HPD HPL2 HIS HSX HSB HSL ⊢
      obtain ⟨X0, hX0⟩ : ∃ X, X = sidesX P := ⟨_, rfl⟩
      rw [← hX0] at HS HIS HSB HSL ⊢
      clear hP hX0 HSX HPS HPL HV HVW HRC HCM
      have hl60 := HPL2.out
      have HXL := Lib.hid (show X0.length ≤ 120 by have := HSL.out; omega)
      obtain ⟨sl, hsl⟩ : ∃ sl, sl = X0.length := ⟨_, rfl⟩
      obtain ⟨pl, hpl⟩ : ∃ pl, pl = P.length := ⟨_, rfl⟩
      rw [← hsl, ← hpl] at HS ⊢
      have HSLE := Lib.hid hsl
      have HPLE := Lib.hid hpl
      clear hsl hpl
      go_upto_region 12 with (go_at_call 95; refine (sortRc_any W.heap.size _ pl P _ (by have h := HS.out.op; rw [← HPLE.out] at h; exact h) (by omega) HS.out.n).mono ?_; rintro e w2 ⟨rfl, ps, hp, hs, ho, hb, hg⟩; have HPP := Lib.hid hp; have HPSo := Lib.hid hs; have HSP := Lib.hid (HS.out.putP (ps' := ps) (by rw [hp.length_eq, ← HPLE.out]; exact ho) hg (.inl rfl)); clear hp hs ho hb hg)
      go_upto_region 13 with (go_at_call 97; refine (sortInts_any W.heap.size _ sl X0 _ (by have h := HSP.out.ox; rw [← HSLE.out] at h; exact h) (by have := HXL.out; omega)).mono ?_; rintro e w3 ⟨rfl, xs, hp, hs, ho, hg⟩; have HXP := Lib.hid hp; have HXS := Lib.hid hs; have HSQ := Lib.hid (HSP.out.putX (xs' := xs) (by rw [hp.length_eq, ← HSLE.out]; exact ho) hg (.inl rfl)); clear hp hs ho hg)
      have HCVP := Lib.hid (show CV = 0 + chain (fun x x' => hgtS ps x x' * (x' - x)) (xs.drop 0) by rw [HIS.out ps xs HPP.out HPSo.out HXP.out HXS.out]; unfold covP; simp)
      have HPB := Lib.hid (fun q (hq : q ∈ ps) => HPD.out q (HPP.out.mem_iff.1 hq))
      have HXB := Lib.hid (fun z (hz : z ∈ xs) => HSB.out z (HXP.out.mem_iff.1 hz))
      have hxl : xs.length = sl := by rw [HXP.out.length_eq, HSLE.out]
      have hpl : ps.length = pl := by rw [HPP.out.length_eq, HPLE.out]
      have hsl120 : sl ≤ 120 := by rw [HSLE.out]; exact HXL.out
      have hpl60 : pl ≤ 60 := by rw [HPLE.out]; exact hl60
      have HRV := Lib.hid (show Rects.V w3 ap ps from own_rowV cellsR_len (by decide) (fun b o x hx h => ⟨h 0 _ rfl, h 1 _ rfl, h 2 _ rfl, h 3 _ rfl, by have := HPB.out x hx; unfold Rect.wf; omega⟩) (by have h := HSQ.out.op; rw [hpl] at h; exact h))
      have HXV := Lib.hid (show IntsV w3 ax xs from by
        obtain ⟨a', c', e, h⟩ := own_ints' HSQ.out.ox
        injection e with e1 e2 e3
        rw [e1]; exact h)
      have HB3 := Lib.hid (show Below w.heap.size w w3 from HB0.out.trans (HSQ.out.b.mono HB0.out.size))
      have HXOK := Lib.hid HXS.out
      clear HSP HSQ HS HIS HPP HXP HXS HPSo HPD HSB HSL HPL2 HXL HSLE HPLE hl60 hki hgl
      subst hxl hpl
      go_upto_region 15 with fail
      go_wp2_with fail
      go_loopw [10, 11] (fun sv iv wr => ∃ (k : Nat) (S : Int), iv = .int .i64 ((k : Int) + 1) ∧ sv = .int .i64 S ∧ k ≤ xs.length ∧ (0 ≤ S ∧ S ≤ 100000000000000 * (k : Int)) ∧ Hid (CV = S + chain (fun x x' => hgtS ps x x' * (x' - x)) (xs.drop k)) ∧ Below w3.heap.size w3 wr) (fun _ iv _ => xs.length + 1 - (intOf iv).toNat)
      case atStart => exact ⟨0, 0, rfl, rfl, Nat.zero_le _, by simp, HCVP, Below.refl _ _⟩
      case round =>
        clear HCVP
        obtain ⟨k, S, rfl, rfl, hk, hS, HPA, hbr⟩ := hrel
        have HBR := Lib.hid hbr
        obtain ⟨wq, rfl⟩ : ∃ wq : World, wq = wr := ⟨_, rfl⟩
        by_cases hlt : k + 1 < xs.length
        · have hlt0 : k < xs.length := by omega
          obtain ⟨bx, ox, hax, hbx, cx0⟩ := (HXV.out.keep hbr).at' hlt0
          have cx1 := (by have h := HXV.out; rw [hax] at h; exact (h.keep hbr).cell hlt : wq.cell? ⟨bx, ox + (k + 1), none⟩ = some (.int .i64 xs[k + 1]))
          subst hax
          have hxb0 := HXB.out _ (List.getElem_mem hlt0)
          have hxb1 := HXB.out _ (List.getElem_mem hlt)
          have hxle : xs[k] ≤ xs[k + 1] := List.pairwise_iff_getElem.1 HXOK.out _ _ _ _ (by omega)
          have HN := Lib.hid (chain_step hlt HPA.out)
          clear HPA
          generalize xs[k] = x at *
          generalize xs[k + 1] = x' at *
          have hki : (k : Int) + 1 < (xs.length : Int) := by omega
          have hki0 : (k : Int) < (xs.length : Int) := by omega
          have hkn : ((k : Int) + 1).toNat = k + 1 := by omega
          have hkw : IntKind.i64.wrap ((k : Int) + 1) = (k : Int) + 1 := IntWalk.i64_in _ (by omega)
          have hkm : IntKind.i64.wrap ((k : Int) + 1 - 1) = (k : Int) := by rw [Int.add_sub_cancel]; exact IntWalk.i64_in _ (by omega)
          have hkm' : IntKind.i64.wrap (k : Int) = (k : Int) := IntWalk.i64_in _ (by omega)
          have hkp : IntKind.i64.wrap ((k : Int) + 1 + 1) = (k : Int) + 1 + 1 := IntWalk.i64_in _ (by omega)
          have hk0 : (0 : Int) ≤ (k : Int) + 1 := by omega
          have hk00 : (0 : Int) ≤ (k : Int) := by omega
          have HC0 := Lib.hid (And.intro cx0 cx1)
          have HHG := Lib.hid (show hgtS ps x x' = ((ps.drop 0).foldl (hStep x x') (0, 0)).1 from rfl)
          obtain ⟨HG, hHG⟩ : ∃ HG, HG = hgtS ps x x' := ⟨_, rfl⟩
          have HHQ := Lib.hid hHG
          rw [← hHG] at HHG
          have HN2 := Lib.hid (show CV = (S + HG * (x' - x)) + chain (fun x x' => hgtS ps x x' * (x' - x)) (xs.drop (k + 1)) by rw [hHG]; exact HN.out)
          clear hHG HN cx0 cx1 hbr
          have HRQ := Lib.hid (HRV.out.keep HBR.out)
          go_upto_region 19 with fail
          go_wp2_with fail
          go_loopw [12, 13, 52] (fun hv tv iv wr => ∃ (m : Nat) (h t : Int), m ≤ ps.length ∧ iv = .int .i64 m ∧ hv = .int .i64 h ∧ tv = .int .i64 t ∧ (0 ≤ h ∧ h ≤ 600000 * (m : Int)) ∧ (0 ≤ t ∧ t ≤ 600000) ∧ Hid (HG = ((ps.drop m).foldl (hStep x x') (h, t)).1) ∧ Below wq.heap.size wq wr) (fun _ _ iv _ => ps.length - (intOf iv).toNat)
          case atStart => exact ⟨0, 0, 0, Nat.zero_le _, rfl, rfl, rfl, by simp, by simp, HHG, Below.refl _ _⟩
          case round =>
            clear HHG
            obtain ⟨m, h, t, hm, rfl, rfl, rfl, hhb, htb, HHG, hbi⟩ := hrel
            obtain ⟨wi, rfl⟩ : ∃ wi : World, wi = wr := ⟨_, rfl⟩
            have HBI := Lib.hid hbi
            by_cases hmt : m < ps.length
            · have hmi : (m : Int) < (ps.length : Int) := by omega
              obtain ⟨rb, ro, rfl, s0, s1, s2, s3⟩ := (HRQ.out.keep hbi).at_ hmt
              have hpb := HPB.out _ (List.getElem_mem hmt)
              have HST := Lib.hid (show HG = ((ps.drop (m + 1)).foldl (hStep x x') (hStep x x' (h, t) ps[m])).1 by rw [HHG.out, List.drop_eq_getElem_cons hmt, List.foldl_cons])
              have cx0 := cell_keep hbi HC0.out.1
              have cx1 := cell_keep hbi HC0.out.2
              generalize ps[m] = p at *
              clear HHG
              go_upto_region 21 with fail
              refine gen_world (fun W1 => RectC W1 wi.heap.size p ∧ Below wi.heap.size wi W1) ⟨⟨by simp [go_sem], by simp [go_sem], by simp [go_sem], by simp [go_sem]⟩, by repeat (first | (with_reducible assumption) | exact Below.refl _ _ | (refine Below.setCell ?_ (by first | omega | (simp; omega) | (simp; done)) _) | (refine Below.alloc ?_ (by first | omega | (simp; omega) | (simp; done)) _) | (refine Below.drew ?_))⟩ ?_
              rintro W1 ⟨⟨p0, p1, p2, p3⟩, hb1⟩
              have cx0 := cell_keep hb1 cx0
              have cx1 := cell_keep hb1 cx1
              have HBX := Lib.hid (HBI.out.trans (hb1.mono HBI.out.size))
              obtain ⟨g15, hg15⟩ : ∃ g, g = wi.heap.size := ⟨_, rfl⟩
              rw [← hg15] at p0 p1 p2 p3 ⊢
              have hpl1 := block_lt_of_cell p0
              have hxl1 := block_lt_of_cell cx0
              simp only at hpl1 hxl1
              clear s0 s1 s2 s3 hb1 hg15 hbi
              obtain ⟨M1, hM1⟩ : ∃ M, M = max t p.y1 := ⟨_, rfl⟩
              obtain ⟨M2, hM2⟩ : ∃ M, M = max 0 (p.y2 - max t p.y1) := ⟨_, rfl⟩
              obtain ⟨M3, hM3⟩ : ∃ M, M = max t p.y2 := ⟨_, rfl⟩
              have b1 : 0 ≤ M1 ∧ M1 ≤ 600000 := by omega
              have b2 : 0 ≤ M2 ∧ M2 ≤ 600000 := by omega
              have b3 : 0 ≤ M3 ∧ M3 ≤ 600000 := by omega
              have w1 : IntKind.i64.wrap (p.y2 - max t p.y1) = p.y2 - max t p.y1 := IntWalk.i64_in _ (by omega)
              have w2' : IntKind.i64.wrap (h + max 0 (p.y2 - max t p.y1)) = h + max 0 (p.y2 - max t p.y1) := IntWalk.i64_in _ (by omega)
              by_cases h1 : p.x1 < x'
              · by_cases h2 : x < p.x2
                · have HS2 := Lib.hid (show HG = ((ps.drop (m + 1)).foldl (hStep x x') (h + max 0 (p.y2 - max t p.y1), max t p.y2)).1 by rw [HST.out]; unfold hStep; rw [if_pos ⟨h1, h2⟩])
                  go_quiet (fail)
                  rename_i nq
                  go_wp2_with fail
                  go_roundw
                  case rel => exact ⟨m + 1, _, _, by omega, by go_num, rfl, rfl, by rw [← hM2]; omega, by rw [← hM3]; omega, HS2, below_drewN HBX.out nq⟩
                  case measure => first | (simp [intOf]; done) | (simp [intOf]; omega)
                · have HS2 := Lib.hid (show HG = ((ps.drop (m + 1)).foldl (hStep x x') (h, t)).1 by rw [HST.out]; unfold hStep; rw [if_neg (fun e => h2 e.2)])
                  go_quiet (fail)
                  rename_i nq
                  go_wp2_with fail
                  go_roundw
                  case rel => exact ⟨m + 1, h, t, by omega, by go_num, rfl, rfl, by omega, by omega, HS2, below_drewN HBX.out nq⟩
                  case measure => first | (simp [intOf]; done) | (simp [intOf]; omega)
              · have HS2 := Lib.hid (show HG = ((ps.drop (m + 1)).foldl (hStep x x') (h, t)).1 by rw [HST.out]; unfold hStep; rw [if_neg (fun e => h1 e.1)])
                go_quiet (fail)
                rename_i nq
                go_wp2_with fail
                go_roundw
                case rel => exact ⟨m + 1, h, t, by omega, by go_num, rfl, rfl, by omega, by omega, HS2, below_drewN HBX.out nq⟩
                case measure => first | (simp [intOf]; done) | (simp [intOf]; omega)
            · obtain rfl : m = ps.length := by omega
              have hmi : ¬ ((ps.length : Nat) : Int) < ((ps.length : Nat) : Int) := by omega
              have HGE := Lib.hid (show HG = h by rw [HHG.out]; simp)
              have cx0 := cell_keep hbi HC0.out.1
              have cx1 := cell_keep hbi HC0.out.2
              have HBZ := Lib.hid (HBR.out.trans (hbi.mono HBR.out.size))
              have hh : h ≤ 600000 * 60 := by omega
              have hxx : 0 ≤ x' - x ∧ x' - x ≤ 600000 := by omega
              have hm1 : 0 ≤ h * (x' - x) ∧ h * (x' - x) ≤ 600000 * 60 * 600000 := ⟨Int.mul_nonneg hhb.1 hxx.1, Int.mul_le_mul hh hxx.2 hxx.1 (by decide)⟩
              have w1 : IntKind.i64.wrap (x' - x) = x' - x := IntWalk.i64_in _ (by omega)
              have HN3 := Lib.hid (show CV = (S + h * (x' - x)) + chain (fun x x' => hgtS ps x x' * (x' - x)) (xs.drop (k + 1)) by rw [← HGE.out]; exact HN2.out)
              clear HHG HGE
              obtain ⟨PR, hPR⟩ : ∃ PR, PR = h * (x' - x) := ⟨_, rfl⟩
              rw [← hPR] at HN3 hm1
              have w2' : IntKind.i64.wrap (h * (x' - x)) = PR := by rw [← hPR]; exact IntWalk.i64_in _ (by omega)
              clear hPR
              have w3' : IntKind.i64.wrap (S + PR) = S + PR := IntWalk.i64_in _ (by omega)
              clear hbi
              go_upto_region 25 with fail
              go_quiet (fail)
              rename_i nq
              go_wp2_with fail
              go_roundw
              case rel => exact ⟨k + 1, S + PR, by go_num, rfl, by omega, by omega, HN3, below_drewN HBZ.out nq⟩
              case measure => first | (simp [intOf]; done) | (simp [intOf]; omega)
        · have hki : ¬ (k : Int) + 1 < (xs.length : Int) := by omega
          have HE := Lib.hid (show CV = S from chain_end (by omega) HPA.out)
          have HBZ := Lib.hid (HB3.out.trans (hbr.mono HB3.out.size))
          go_wp2_with fail
          go_ret
          exact ⟨by rw [HE.out]; rfl, HBZ.out⟩
end Go.Proofs.YtpaindkfbgoogaaGreat
/- The area bound, of the program. -/
set_option linter.unusedVariables false
set_option linter.unusedSimpArgs false
namespace Go.Proofs.YtpaindkfbgoogaaGreat
open Go Go.RowKit Go.Sort Go.Lib

def areaR (r : Rect) : Int := (r.x2 - r.x1) * (r.y2 - r.y1)
theorem sumN_le {g g' : Int → Int} {a : Int} : ∀ {n : Nat}, (∀ p, a ≤ p → p < a + n → g p ≤ g' p) → sumN g a n ≤ sumN g' a n
  | 0, _ => Int.le_refl _
  | n + 1, h => by
    have := sumN_le (g := g) (g' := g') (a := a) (n := n) fun p h1 h2 => h p h1 (by omega)
    have := h (a + n) (by omega) (by omega)
    rw [sumN, sumN]
    omega
theorem sumR_le {g g' : Int → Int} {a b : Int} (h : ∀ p, a ≤ p → p < b → g p ≤ g' p) : sumR g a b ≤ sumR g' a b := by
  unfold sumR
  exact sumN_le fun p h1 h2 => h p h1 (by omega)
theorem indB_bd (b : Bool) : 0 ≤ indB b ∧ indB b ≤ 1 := by cases b <;> decide
theorem covA_bd {ds : List Rect} {r : Rect} (hx : r.x1 ≤ r.x2) (hy : r.y1 ≤ r.y2) : 0 ≤ covA ds r ∧ covA ds r ≤ areaR r := by
  have h0 : ∀ x, 0 ≤ sumR (fun y => indB (covC ds x y)) r.y1 r.y2 ∧ sumR (fun y => indB (covC ds x y)) r.y1 r.y2 ≤ r.y2 - r.y1 := fun x => by
    constructor
    · have := sumR_le (g := fun _ => 0) (g' := fun y => indB (covC ds x y)) (a := r.y1) (b := r.y2) fun p _ _ => (indB_bd _).1
      rw [sumR_zero hy (fun _ _ _ => rfl)] at this
      exact this
    · have := sumR_le (g := fun y => indB (covC ds x y)) (g' := fun _ => 1) (a := r.y1) (b := r.y2) fun p _ _ => (indB_bd _).2
      rw [sumR_const (c := 1) hy (fun _ _ _ => rfl)] at this
      omega
  unfold covA areaR
  constructor
  · have := sumR_le (g := fun _ => 0) (g' := fun x => sumR (fun y => indB (covC ds x y)) r.y1 r.y2) (a := r.x1) (b := r.x2) fun p _ _ => (h0 p).1
    rw [sumR_zero hx (fun _ _ _ => rfl)] at this
    exact this
  · have := sumR_le (g := fun x => sumR (fun y => indB (covC ds x y)) r.y1 r.y2) (g' := fun _ => r.y2 - r.y1) (a := r.x1) (b := r.x2) fun p _ _ => (h0 p).2
    rw [sumR_const (c := r.y2 - r.y1) hx (fun _ _ _ => rfl)] at this
    exact this
/-- A board's sound area. -/
def soundAr (b : Board) (t : Trim) : Int := areaR (usableR b t) - covA b.defects (usableR b t)
theorem usable_in {j : Job} (hJ : JobOk j.stock j.blanks j.trim) {b : Board} (hb : b ∈ j.stock) : (0 ≤ (usableR b j.trim).x1 ∧ (usableR b j.trim).x1 ≤ (usableR b j.trim).x2 ∧ (usableR b j.trim).x2 ≤ 600000) ∧ (0 ≤ (usableR b j.trim).y1 ∧ (usableR b j.trim).y1 ≤ (usableR b j.trim).y2 ∧ (usableR b j.trim).y2 ≤ 100000) := by
  have h1 := hJ.size b hb
  have h2 := hJ.trim
  unfold usableR wholeR
  split
  · simp
  · rename_i hx; simp only at hx ⊢; omega
theorem areaR_bd {r : Rect} (h : (0 ≤ r.x1 ∧ r.x1 ≤ r.x2 ∧ r.x2 ≤ 600000) ∧ (0 ≤ r.y1 ∧ r.y1 ≤ r.y2 ∧ r.y2 ≤ 600000)) : 0 ≤ areaR r ∧ areaR r ≤ 360000000000 := by
  unfold areaR
  exact ⟨Int.mul_nonneg (by omega) (by omega), Int.mul_le_mul (c := 600000) (d := 600000) (by omega) (by omega) (by omega) (by decide)⟩
theorem soundAr_bd {j : Job} (hJ : JobOk j.stock j.blanks j.trim) {b : Board} (hb : b ∈ j.stock) : 0 ≤ soundAr b j.trim ∧ soundAr b j.trim ≤ 360000000000 := by
  have h1 := usable_in hJ hb
  have h2 := covA_bd (ds := b.defects) h1.1.2.1 h1.2.2.1
  have h3 := areaR_bd (r := usableR b j.trim) (by omega)
  unfold soundAr
  omega
def boardIs (sp : ByteArray) (b : Board) : Bool := b.species.toList == sp.toList
def sizesTo (j : Job) (sp : ByteArray) (k : Nat) : List Int := ((j.stock.take k).filter (boardIs sp)).map fun b => soundAr b j.trim
def sizesL (j : Job) (sp : ByteArray) : List Int := sizesTo j sp j.stock.length
def blankA (x : Blank) : Int := x.length * x.width * x.count
def needTo (j : Job) (sp : ByteArray) (k : Nat) : Int := (((j.blanks.take k).filter (kindIs sp)).map blankA).sum
def needL (j : Job) (sp : ByteArray) : Int := needTo j sp j.blanks.length
theorem sizesTo_yes {j : Job} {sp : ByteArray} {k : Nat} (hk : k < j.stock.length) (h : (j.stock[k].species.toList == sp.toList) = true) : sizesTo j sp (k + 1) = sizesTo j sp k ++ [soundAr j.stock[k] j.trim] := by
  unfold sizesTo
  rw [List.take_succ_eq_append_getElem hk, List.filter_append, List.map_append]
  congr 1
  rw [List.filter_cons, if_pos (show boardIs sp j.stock[k] = true from h)]
  rfl
theorem sizesTo_no {j : Job} {sp : ByteArray} {k : Nat} (hk : k < j.stock.length) (h : (j.stock[k].species.toList == sp.toList) = false) : sizesTo j sp (k + 1) = sizesTo j sp k := by
  unfold sizesTo
  rw [List.take_succ_eq_append_getElem hk, List.filter_append, List.filter_cons, if_neg (by unfold boardIs; simp [h]), List.filter_nil, List.append_nil]
theorem sizesTo_bd {j : Job} (hJ : JobOk j.stock j.blanks j.trim) (sp : ByteArray) (k : Nat) : (∀ x ∈ sizesTo j sp k, 0 ≤ x ∧ x ≤ 1000000000000) ∧ (sizesTo j sp k).length ≤ 100 := by
  unfold sizesTo
  constructor
  · intro x hx
    obtain ⟨b, hb, rfl⟩ := List.mem_map.1 hx
    have := soundAr_bd hJ (List.mem_of_mem_take (List.mem_filter.1 hb).1)
    omega
  · rw [List.length_map]
    have h1 := List.length_filter_le (boardIs sp) (j.stock.take k)
    have h3 := List.length_take_le' k j.stock
    have := hJ.lenS
    omega
theorem needTo_yes {j : Job} {sp : ByteArray} {k : Nat} (hk : k < j.blanks.length) (h : (j.blanks[k].species.toList == sp.toList) = true) : needTo j sp (k + 1) = needTo j sp k + blankA j.blanks[k] := by
  unfold needTo
  rw [List.take_succ_eq_append_getElem hk, List.filter_append, List.map_append, List.sum_append]
  congr 1
  rw [List.filter_cons, if_pos (show kindIs sp j.blanks[k] = true from h)]
  simp
theorem needTo_no {j : Job} {sp : ByteArray} {k : Nat} (hk : k < j.blanks.length) (h : (j.blanks[k].species.toList == sp.toList) = false) : needTo j sp (k + 1) = needTo j sp k := by
  unfold needTo
  rw [List.take_succ_eq_append_getElem hk, List.filter_append, List.filter_cons, if_neg (by unfold kindIs; simp [h]), List.filter_nil, List.append_nil]
theorem blankA_bd {j : Job} (hJ : JobOk j.stock j.blanks j.trim) {x : Blank} (hx : x ∈ j.blanks) : (0 ≤ x.length * x.width ∧ x.length * x.width ≤ 360000000000) ∧ (0 ≤ blankA x ∧ blankA x ≤ 72000000000000) := by
  have h := hJ.want x hx
  have h1 : 0 ≤ x.length * x.width ∧ x.length * x.width ≤ 360000000000 := ⟨Int.mul_nonneg (by omega) (by omega), Int.mul_le_mul (c := 600000) (d := 600000) (by omega) (by omega) (by omega) (by decide)⟩
  refine ⟨h1, ?_⟩
  unfold blankA
  exact ⟨Int.mul_nonneg h1.1 (by omega), Int.mul_le_mul (c := 360000000000) (d := 200) h1.2 (by omega) (by omega) (by decide)⟩
theorem needTo_bd {j : Job} (hJ : JobOk j.stock j.blanks j.trim) (sp : ByteArray) : ∀ k, k ≤ j.blanks.length → 0 ≤ needTo j sp k ∧ needTo j sp k ≤ 72000000000000 * k
  | 0, _ => by unfold needTo; simp
  | k + 1, hk => by
    have h := needTo_bd hJ sp k (by omega)
    have hb := blankA_bd hJ (List.getElem_mem (show k < j.blanks.length by omega))
    cases hc : (j.blanks[k].species.toList == sp.toList)
    · rw [needTo_no (by omega) hc]; omega
    · rw [needTo_yes (by omega) hc]; omega
/-- The numbers of boards of a species that are needed; none: all are too few. -/
def fallM (l : List Int) : List Int := l.mergeSort fun a b => decide (b ≤ a)
theorem fallM_of (l : List Int) : FallOf l (fallM l) := ⟨List.mergeSort_perm _ _, (List.pairwise_mergeSort (le := fun a b : Int => decide (b ≤ a)) (fun a b c h1 h2 => by simp at *; omega) (fun a b => by simp; omega) l).imp fun {a b} h => by simpa using h⟩
def areaSp (j : Job) (sp : ByteArray) : Option Nat := enoughM (fallM (sizesL j sp)) (needL j sp) 0
def areaAll (j : Job) (l : List ByteArray) : Bool := l.all fun s => (areaSp j s).isSome
def areaSum (j : Job) (l : List ByteArray) : Nat := (l.map fun s => (areaSp j s).getD 0).sum
def areaE (j : Job) : Int := if areaAll j (kindsM j.blanks) = true then 0 else 12
def areaV (j : Job) : Int := if areaAll j (kindsM j.blanks) = true then ((areaSum j (kindsM j.blanks) : Nat) : Int) else 0
theorem areaAll_app {j : Job} {l : List ByteArray} {s : ByteArray} : areaAll j (l ++ [s]) = (areaAll j l && (areaSp j s).isSome) := by unfold areaAll; rw [List.all_append]; simp
theorem areaSum_app {j : Job} {l : List ByteArray} {s : ByteArray} : areaSum j (l ++ [s]) = areaSum j l + (areaSp j s).getD 0 := by unfold areaSum; rw [List.map_append, List.sum_append]; simp
theorem areaAll_no {j : Job} {l : List ByteArray} {s : ByteArray} (hs : s ∈ l) (h : areaSp j s = none) : areaAll j l = false := by
  unfold areaAll
  rw [List.all_eq_false]
  exact ⟨s, hs, by simp [h]⟩
theorem enough_len : ∀ {l : List Int} {s : Int} {n m : Nat}, enoughM l s n = some m → m ≤ n + l.length
  | [], s, n, m, h => by
    rw [enoughM] at h
    split at h
    · cases h
    · injection h with h; subst h; simp
  | x :: l, s, n, m, h => by
    rw [enoughM] at h
    split at h
    · have := enough_len h; simp; omega
    · injection h with h; subst h; simp
theorem areaSp_bd {j : Job} (hJ : JobOk j.stock j.blanks j.trim) (sp : ByteArray) : (areaSp j sp).getD 0 ≤ 100 := by
  cases h : areaSp j sp with
  | none => simp
  | some m =>
    have h1 := enough_len h
    rw [(fallM_of (sizesL j sp)).1.length_eq] at h1
    have := (sizesTo_bd hJ sp j.stock.length).2
    unfold sizesL at h1
    simp; omega
theorem areaSum_bd {j : Job} (hJ : JobOk j.stock j.blanks j.trim) : ∀ l : List ByteArray, areaSum j l ≤ 100 * l.length
  | [] => by simp [areaSum]
  | s :: l => by
    have h1 := areaSum_bd hJ l
    have h2 := areaSp_bd hJ s
    unfold areaSum at h1 ⊢
    rw [List.map_cons, List.sum_cons, List.length_cons]
    omega
theorem areaV_ok {r : Rect} {q : Int} (h : (0 ≤ r.x1 ∧ r.x1 ≤ r.x2 ∧ r.x2 ≤ 600000) ∧ (0 ≤ r.y1 ∧ r.y1 ≤ r.y2 ∧ r.y2 ≤ 600000)) (hq : areaR r = q) : IntKind.i64.wrap ((r.x2 - r.x1) * (r.y2 - r.y1)) = q ∧ IntKind.i64.wrap (r.x2 - r.x1) = r.x2 - r.x1 ∧ IntKind.i64.wrap (r.y2 - r.y1) = r.y2 - r.y1 := by
  have h1 := areaR_bd h
  refine ⟨?_, IntWalk.i64_in _ (by omega), IntWalk.i64_in _ (by omega)⟩
  rw [show (r.x2 - r.x1) * (r.y2 - r.y1) = q from hq]
  exact IntWalk.i64_in _ (by omega)
theorem areaP_any (r : Rect) (q : Int) (w : World) (h : (0 ≤ r.x1 ∧ r.x1 ≤ r.x2 ∧ r.x2 ≤ 600000) ∧ (0 ≤ r.y1 ∧ r.y1 ≤ r.y2 ∧ r.y2 ≤ 600000)) (hq : areaR r = q) : Calls Tryz.prog 56 #[.agg #[.int .i64 r.x1, .int .i64 r.y1, .int .i64 r.x2, .int .i64 r.y2]] w fun e w' => e = .returned (.int .i64 q) ∧ Below w.heap.size w w' := by
  obtain ⟨v1, v2, v3⟩ := areaV_ok h hq
  clear h hq
  go_enter Tryz.func56, Tryz.ntmps56
  go_wp2_with fail
  go_ret
  exact ⟨rfl, (Below.refl _ _).alloc (Nat.le_refl _) _⟩
theorem areaRf_any (r : Rect) (q : Int) (w : World) (h : (0 ≤ r.x1 ∧ r.x1 ≤ r.x2 ∧ r.x2 ≤ 600000) ∧ (0 ≤ r.y1 ∧ r.y1 ≤ r.y2 ∧ r.y2 ≤ 600000)) (hq : areaR r = q) : Calls Tryz.prog 69 #[.agg #[.int .i64 r.x1, .int .i64 r.y1, .int .i64 r.x2, .int .i64 r.y2]] w fun e w' => e = .returned (.int .i64 q) ∧ Below w.heap.size w w' := by
  obtain ⟨v1, v2, v3⟩ := areaV_ok h hq
  clear h hq
  go_enter Tryz.func69, Tryz.ntmps69
  go_wp2_with fail
  go_ret
  exact ⟨rfl, (Below.refl _ _).alloc (Nat.le_refl _) _⟩
end Go.Proofs.YtpaindkfbgoogaaGreat
/- The area bound, of the program: the walk. -/
set_option linter.unusedVariables false
set_option linter.unusedSimpArgs false
namespace Go.Proofs.YtpaindkfbgoogaaGreat
open Go Go.RowKit Go.Sort Go.Lib

set_option maxRecDepth 100000 in
set_option maxHeartbeats 16000000 in
theorem areaBound_any (j : Job) (a1 : Option Addr) (c1 : Nat) (a2 : Option Addr) (c2 : Nat) (w : World) (hs : Boards.V w a1 j.stock) (hb : Blanks.V w a2 j.blanks) (hJ : JobOk j.stock j.blanks j.trim) (hds : ∀ b ∈ j.stock, b.defects.length ≤ 60) :
    Calls Tryz.prog 31 #[.agg #[.slice a1 j.stock.length c1, .slice a2 j.blanks.length c2, .int .i64 j.trim.kerf, .int .i64 j.trim.ends, .int .i64 j.trim.sides]] w fun e w' => e = .returned (.tuple #[.int .i64 (areaV j), .int .i64 (areaE j)]) ∧ Below w.heap.size w w' := by
  have hmix : Tryz.prog.follows .mixedOrders = true := by kernel_rfl
  obtain ⟨i0, hi0, hz0, hz1, hz2⟩ := info_parts int_info
  obtain ⟨AD, CD, hSC⟩ := stock_ch hs
  have HSC := Lib.hid hSC
  have HJ := Lib.hid hJ
  have HDS := Lib.hid hds
  have HVB := Lib.hid hb
  have hN := hJ.lenS
  have hNB := hJ.lenB
  have HKD := Lib.hid (fun w9 h => kindsP_any a2 j.blanks c2 w9 h (by omega))
  have HVE := Lib.hid (show (areaV j = if areaAll j (kindsM j.blanks) = true then ((areaSum j (kindsM j.blanks) : Nat) : Int) else 0) ∧ areaE j = if areaAll j (kindsM j.blanks) = true then 0 else 12 from ⟨rfl, rfl⟩)
  have HKL := Lib.hid (kindsTo_len j.blanks j.blanks.length)
  have hkl : (kindsM j.blanks).length ≤ 30 := by have := HKL.out; unfold kindsM; omega
  generalize areaV j = AV at *
  generalize areaE j = AE at *
  generalize kindsM j.blanks = K at *
  clear hs hSC hJ hds hb HKL
  go_enter Tryz.func31, Tryz.ntmps31
  go_upto_region 1 with fail
  refine gen_world (fun W => JB W w.heap.size j a1 c1 a2 c2 ∧ Below w.heap.size w W ∧ w.heap.size < W.heap.size) ⟨⟨by simp [go_sem], by simp [go_sem], by simp [go_sem], by simp [go_sem], by simp [go_sem]⟩, by repeat (first | (with_reducible assumption) | exact Below.refl _ _ | (refine Below.setCell ?_ (by first | omega | (simp; omega) | (simp; done)) _) | (refine Below.alloc ?_ (by first | omega | (simp; omega) | (simp; done)) _) | (refine Below.drew ?_)), by simp⟩ ?_
  rintro W ⟨hC, hbW, hz⟩
  obtain ⟨gj, hgj⟩ : ∃ g, g = w.heap.size := ⟨_, rfl⟩
  have hzj : gj < W.heap.size := by omega
  rw [← hgj] at hC ⊢
  have HC := Lib.hid hC
  have HBW := Lib.hid (show Below w.heap.size w W by first | exact hbW | (rw [hgj] at hbW; exact hbW))
  obtain ⟨q0, q1, q2, q3, q4⟩ := hC
  clear hbW hz hgj
  go_upto_region 3 with (go_at_call 29; refine (HKD.out _ (HVB.out.keep HBW.out)).mono ?_; rintro e w2 ⟨av, cv, rfl, hkv, hb⟩; have HKV := Lib.hid hkv; have HB2 := Lib.hid (HBW.out.trans (hb.mono HBW.out.size)); have HC2 := Lib.hid (HC.out.keep hb hzj); have hz2' := hb.size; clear hb hkv)
  clear q0 q1 q2 q3 q4 HC HBW HKD
  have hzg : gj < w2.heap.size := by omega
  clear hz2' hzj
  go_wp2_with fail
  go_loopw [4, 19] (fun sv iv wr => ∃ m : Nat, m ≤ K.length ∧ iv = .int .i64 m ∧ sv = .int .i64 ((areaSum j (K.take m) : Nat) : Int) ∧ Hid (areaAll j (K.take m) = true) ∧ Below w2.heap.size w2 wr) (fun _ iv _ => K.length - (intOf iv).toNat)
  case atStart => exact ⟨0, Nat.zero_le _, rfl, rfl, Lib.hid rfl, Below.refl _ _⟩
  case round =>
    obtain ⟨m, hm, rfl, rfl, HAL, hbr⟩ := hrel
    obtain ⟨wo, rfl⟩ : ∃ wo : World, wo = wr := ⟨_, rfl⟩
    have HBO := Lib.hid hbr
    have HBB := Lib.hid (HB2.out.trans (hbr.mono HB2.out.size))
    have HCO := Lib.hid (HC2.out.keep hbr hzg)
    have hzo : gj < wo.heap.size := Nat.lt_of_lt_of_le hzg hbr.size
    by_cases hlt : m < K.length
    · have hki : (m : Int) < (K.length : Int) := by omega
      obtain ⟨kb, ko, rfl, kc⟩ := (txV_keep HKV.out hbr).at_ hlt
      have HSA := Lib.hid (show areaSum j (K.take (m + 1)) = areaSum j (K.take m) + (areaSp j K[m]).getD 0 ∧ areaAll j (K.take (m + 1)) = (areaAll j (K.take m) && (areaSp j K[m]).isSome) from by rw [List.take_succ_eq_append_getElem hlt, areaSum_app, areaAll_app]; exact ⟨rfl, rfl⟩)
      have HNO := Lib.hid (fun h : areaSp j K[m] = none => areaAll_no (List.getElem_mem hlt) h)
      have hsb := areaSum_bd HJ.out (K.take m)
      have htl := List.length_take_le' m K
      generalize K[m] = sp at *
      have HND := Lib.hid (needTo_bd HJ.out sp)
      have HSZ := Lib.hid (sizesTo_bd HJ.out sp)
      have HSP := Lib.hid (show areaSp j sp = enoughM (fallM (sizesL j sp)) (needL j sp) 0 from rfl)
      obtain ⟨S0, hS0⟩ : ∃ S, S = areaSum j (K.take m) := ⟨_, rfl⟩
      rw [← hS0] at HSA hsb ⊢
      clear hS0 hbr
      have HVBo := Lib.hid (HVB.out.keep HBB.out)
      obtain ⟨q0, q1, q2, q3, q4⟩ := HCO.out
      go_upto_region 7 with fail
      clear q0 q1 q2 q3 q4 kc
      go_wp2_with fail
      go_loopw [7, 26] (fun dv iv wr => ∃ k : Nat, k ≤ j.blanks.length ∧ iv = .int .i64 k ∧ dv = .int .i64 (needTo j sp k) ∧ Below wo.heap.size wo wr) (fun _ iv _ => j.blanks.length - (intOf iv).toNat)
      case atStart => exact ⟨0, Nat.zero_le _, rfl, rfl, Below.refl _ _⟩
      case round =>
        obtain ⟨k, hk, rfl, rfl, hbi⟩ := hrel
        have HBI := Lib.hid hbi
        obtain ⟨wi, rfl⟩ : ∃ wi : World, wi = wr := ⟨_, rfl⟩
        by_cases hlt2 : k < j.blanks.length
        · have hki2 : (k : Int) < (j.blanks.length : Int) := by omega
          obtain ⟨bb, bo, rfl, bx⟩ := (HVBo.out.keep hbi).at_ hlt2
          obtain ⟨s0, s1, s2, s3, s4, s5, -⟩ := bx
          have HYS := Lib.hid (fun h => needTo_yes (sp := sp) hlt2 h)
          have HNN := Lib.hid (fun h => needTo_no (sp := sp) hlt2 h)
          have hnd := HND.out k hk
          obtain ⟨ha1, ha2⟩ := blankA_bd HJ.out (List.getElem_mem hlt2)
          have HBA := Lib.hid (show blankA j.blanks[k] = j.blanks[k].length * j.blanks[k].width * j.blanks[k].count from rfl)
          generalize j.blanks[k] = x at *
          go_upto_region 9 with fail
          refine gen_world (fun W1 => (W1.cell? ⟨wi.heap.size, 1, none⟩ = some (.string x.species) ∧ W1.cell? ⟨wi.heap.size, 2, none⟩ = some (.int .i64 x.length) ∧ W1.cell? ⟨wi.heap.size, 3, none⟩ = some (.int .i64 x.width) ∧ W1.cell? ⟨wi.heap.size, 5, none⟩ = some (.int .i64 x.count)) ∧ Below wi.heap.size wi W1) ⟨⟨by simp [go_sem], by simp [go_sem], by simp [go_sem], by simp [go_sem]⟩, by repeat (first | (with_reducible assumption) | exact Below.refl _ _ | (refine Below.setCell ?_ (by first | omega | (simp; omega) | (simp; done)) _) | (refine Below.alloc ?_ (by first | omega | (simp; omega) | (simp; done)) _) | (refine Below.drew ?_))⟩ ?_
          rintro W1 ⟨⟨t1, t2, t3, t5⟩, hb1⟩
          have HBX := Lib.hid (HBI.out.trans (hb1.mono HBI.out.size))
          obtain ⟨g9, hg9⟩ : ∃ g, g = wi.heap.size := ⟨_, rfl⟩
          rw [← hg9] at t1 t2 t3 t5 ⊢
          clear s0 s1 s2 s3 s4 s5 hb1 hg9 hbi
          cases hsp : (x.species.toList == sp.toList)
          · have HS2 := Lib.hid (HNN.out hsp)
            go_wp2_with fail
            go_roundw
            case rel => exact ⟨k + 1, by omega, by go_num, by rw [HS2.out], HBX.out⟩
            case measure => first | (simp [intOf]; done) | (simp [intOf]; omega)
          · have HS2 := Lib.hid (HYS.out hsp)
            obtain ⟨P1, hP1⟩ : ∃ P, P = x.length * x.width := ⟨_, rfl⟩
            have HBA2 := Lib.hid (show blankA x = P1 * x.count by rw [HBA.out, hP1])
            rw [← hP1] at ha1
            obtain ⟨P2, hP2⟩ : ∃ P, P = blankA x := ⟨_, rfl⟩
            rw [← hP2] at ha2 HS2 HBA2
            have w1 : IntKind.i64.wrap (x.length * x.width) = P1 := by rw [← hP1]; exact IntWalk.i64_in _ (by omega)
            have w2' : IntKind.i64.wrap (P1 * x.count) = P2 := by rw [← HBA2.out]; exact IntWalk.i64_in _ (by omega)
            clear hP1 hP2 HBA
            generalize needTo j sp k = N0 at *
            have w3 : IntKind.i64.wrap (N0 + P2) = N0 + P2 := IntWalk.i64_in _ (by omega)
            go_wp2_with fail
            go_roundw
            case rel => exact ⟨k + 1, by omega, by go_num, by rw [HS2.out], HBX.out⟩
            case measure => first | (simp [intOf]; done) | (simp [intOf]; omega)
        · obtain rfl : k = j.blanks.length := by omega
          have hki2 : ¬ ((j.blanks.length : Nat) : Int) < ((j.blanks.length : Nat) : Int) := by omega
          have hnd := HND.out j.blanks.length (Nat.le_refl _)
          have HNL := Lib.hid (show needTo j sp j.blanks.length = needL j sp from rfl)
          rw [HNL.out] at hnd ⊢
          have HCI := Lib.hid (HCO.out.keep hbi hzo)
          have hzi : gj < wi.heap.size := Nat.lt_of_lt_of_le hzo hbi.size
          have HBI2 := Lib.hid (HBB.out.trans (hbi.mono HBB.out.size))
          have HBOI := Lib.hid (HBO.out.trans (hbi.mono HBO.out.size))
          have HSL := Lib.hid (show sizesTo j sp j.stock.length = sizesL j sp from rfl)
          generalize needL j sp = ND at *
          clear HVBo HND HNL hbi HBI
          obtain ⟨q0, q1, q2, q3, q4⟩ := HCI.out
          go_upto_region 14 with fail
          clear q0 q1 q2 q3 q4
          go_wp2_with fail
          go_loopw [10, 48] (fun zv iv wr => ∃ k : Nat, k ≤ j.stock.length ∧ iv = .int .i64 k ∧ Hid (wr.ownsRow wi.heap.size 3 1 zv (sizesTo j sp k).length ((sizesTo j sp k).map (Value.int .i64))) ∧ Below wi.heap.size wi wr) (fun _ iv _ => j.stock.length - (intOf iv).toNat)
          case atStart => exact ⟨0, Nat.zero_le _, rfl, Lib.hid (World.ownsRow_nil _ _ _ _), Below.refl _ _⟩
          case round =>
            obtain ⟨k, hk2, rfl, HO, hbn⟩ := hrel
            obtain ⟨wn, rfl⟩ : ∃ wn : World, wn = wr := ⟨_, rfl⟩
            obtain ⟨az, cz, rfl, -, -⟩ := own_slice HO.out
            have HBN := Lib.hid hbn
            have HBN2 := Lib.hid (HBI2.out.trans (hbn.mono HBI2.out.size))
            have HCN := Lib.hid (HCI.out.keep hbn hzi)
            have hzn : gj < wn.heap.size := Nat.lt_of_lt_of_le hzi hbn.size
            clear hbn
            by_cases hlt3 : k < j.stock.length
            · have hki3 : (k : Int) < (j.stock.length : Int) := by omega
              obtain ⟨⟨gs, off, has, hcb⟩, hrv, -⟩ := HSC.out.ch k _ (List.getElem?_eq_getElem hlt3)
              subst has
              obtain ⟨s0, s1, s2, s3, s4, s5, s6, s7⟩ := hcb.keep HBN2.out
              have HRV := Lib.hid (hrv.keep HBN2.out)
              have HYS := Lib.hid (fun h => sizesTo_yes (sp := sp) hlt3 h)
              have HNN := Lib.hid (fun h => sizesTo_no (sp := sp) hlt3 h)
              have hszl := (HSZ.out k).2
              have hmb := List.getElem_mem hlt3
              have hui := usable_in HJ.out hmb
              have hsd := soundAr_bd HJ.out hmb
              have hbd := HJ.out.size _ hmb
              have htr := HJ.out.trim
              have hd60 := HDS.out _ hmb
              have HSE := Lib.hid (show soundAr j.stock[k] j.trim = areaR (usableR j.stock[k] j.trim) - covA j.stock[k].defects (usableR j.stock[k] j.trim) from rfl)
              clear hmb
              generalize AD k = ad at *
              generalize CD k = cd at *
              generalize j.stock[k] = b at *
              obtain ⟨Z, hZ⟩ : ∃ Z, Z = sizesTo j sp k := ⟨_, rfl⟩
              rw [← hZ] at HO HYS HNN hszl ⊢
              clear hZ
              obtain ⟨r, hr⟩ : ∃ r, usableR b j.trim = r := ⟨_, rfl⟩
              have HUS := Lib.hid (fun w9 => usable_is b j.trim r ad cd w9 hr (by omega) (by omega))
              rw [hr] at hui HSE
              obtain ⟨AR, hAR⟩ : ∃ A, areaR r = A := ⟨_, rfl⟩
              have HAR := Lib.hid (fun w9 => areaP_any r AR w9 (by omega) hAR)
              have HCVR := Lib.hid (fun w9 h => covered_any r b.defects ad cd w9 h hd60 (by omega))
              have hcb2 := covA_bd (ds := b.defects) hui.1.2.1 hui.2.2.1
              have hab := areaR_bd (r := r) (by omega)
              rw [hAR] at hcb2 hab HSE
              obtain ⟨CVA, hCVA⟩ : ∃ C, C = covA b.defects r := ⟨_, rfl⟩
              rw [← hCVA] at HCVR hcb2 HSE
              clear hcb hrv hr hbd htr hAR hCVA hd60
              go_upto_region 16 with fail
              refine gen_world (fun W1 => CellsBd W1 wn.heap.size 0 b ad cd ∧ Below wn.heap.size wn W1) ⟨⟨by simp [go_sem], by simp [go_sem], by simp [go_sem], by simp [go_sem], by simp [go_sem], by simp [go_sem], by simp [go_sem], by simp [go_sem]⟩, by repeat (first | (with_reducible assumption) | exact Below.refl _ _ | (refine Below.setCell ?_ (by first | omega | (simp; omega) | (simp; done)) _) | (refine Below.alloc ?_ (by first | omega | (simp; omega) | (simp; done)) _) | (refine Below.drew ?_))⟩ ?_
              rintro W1 ⟨⟨d0, d1, d2, d3, d4, d5, d6, d7⟩, hb1⟩
              simp only [Nat.zero_add] at d0 d1 d2 d3 d4 d5 d6 d7
              obtain ⟨g12, hg12⟩ : ∃ g, g = wn.heap.size := ⟨_, rfl⟩
              rw [← hg12] at d0 d1 d2 d3 d4 d5 d6 d7 ⊢
              have HB1 := Lib.hid (HBN.out.trans (hb1.mono HBN.out.size))
              have HO1 := Lib.hid (own_keep HO.out hb1)
              have HRV1 := Lib.hid (HRV.out.keep hb1)
              obtain ⟨-, -, k2, k3, k4⟩ := HCN.out.keep hb1 hzn
              clear s0 s1 s2 s3 s4 s5 s6 s7 hb1 hg12
              cases hsp : (b.species.toList == sp.toList)
              · have HS2 := Lib.hid (HNN.out hsp)
                go_wp2_with fail
                go_roundw
                case rel => exact ⟨k + 1, by omega, by go_num, by rw [HS2.out]; exact HO1, HB1.out⟩
                case measure => first | (simp [intOf]; done) | (simp [intOf]; omega)
              · have HS2 := Lib.hid (HYS.out hsp)
                have HD7 := Lib.hid d7
                go_upto_region 18 with (go_at_call 53; refine (HUS.out _).mono ?_; rintro e w3 ⟨rfl, hb3⟩; have HB3 := Lib.hid (HB1.out.trans (hb3.mono HB1.out.size)); have HO3 := Lib.hid (own_keep HO1.out hb3); have HRV3 := Lib.hid (HRV1.out.keep hb3); have HD73 := Lib.hid (cell_keep hb3 HD7.out); clear hb3)
                refine gen_world (fun W4 => RectC W4 w3.heap.size r ∧ Below w3.heap.size w3 W4) ⟨⟨by simp [go_sem], by simp [go_sem], by simp [go_sem], by simp [go_sem]⟩, by repeat (first | (with_reducible assumption) | exact Below.refl _ _ | (refine Below.setCell ?_ (by first | omega | (simp; omega) | (simp; done)) _) | (refine Below.alloc ?_ (by first | omega | (simp; omega) | (simp; done)) _) | (refine Below.drew ?_))⟩ ?_
                rintro W4 ⟨hrc, hb4⟩
                have HRC := Lib.hid hrc
                have HB4 := Lib.hid (HB3.out.trans (hb4.mono HB3.out.size))
                have HO4 := Lib.hid (own_keep HO3.out hb4)
                have HRV4 := Lib.hid (HRV3.out.keep hb4)
                have d7 := cell_keep hb4 HD73.out
                obtain ⟨g13, hg13⟩ : ∃ g, g = w3.heap.size := ⟨_, rfl⟩
                rw [← hg13] at hrc HRC ⊢
                clear hb4 hg13 d0 d1 d2 d3 d4 d5 d6 k2 k3 k4 hrc
                obtain ⟨r0, r1, r2, r3⟩ := HRC.out
                have kx0 : ∀ u : KW (fun W' => Below W4.heap.size W4 W'), (u.w.cell? ⟨g13, 0, none⟩ = some (.int .i64 r.x1) ∧ u.w.cell? ⟨g13, 1, none⟩ = some (.int .i64 r.y1) ∧ u.w.cell? ⟨g13, 2, none⟩ = some (.int .i64 r.x2) ∧ u.w.cell? ⟨g13, 3, none⟩ = some (.int .i64 r.y2)) ∧ u.w.cell? ⟨g12, 7, none⟩ = some (.slice ad b.defects.length cd) := fun u => ⟨⟨cell_keep u.ok r0, cell_keep u.ok r1, cell_keep u.ok r2, cell_keep u.ok r3⟩, cell_keep u.ok d7⟩
                haveI nn1 : Nonempty (KW (fun W' => Below W4.heap.size W4 W')) := ⟨⟨W4, Below.refl _ _⟩⟩
                have w1 : IntKind.i64.wrap (AR - CVA) = AR - CVA := IntWalk.i64_in _ (by omega)
                clear hui hcb2 hab
                refine wp_region_tree (fun w' => ∃ u : KW (fun W' => Below W4.heap.size W4 W'), w' = u.w) 9 (.take 0 (.take 1 (.take 3 (.take 4 (.take 5 (.one 2 (.one 6 (.take 7 (.one 8 .done))))))))) hmix (by kernel_rfl) (KW.mk' (Below.refl _ _).drew) ?_
                have HCz := Lib.hid (show Below W4.heap.size W4 W4.drew from (Below.refl _ _).drew)
                generalize W4.drew = wz at *
                repeat (refine wpTree_take ?_; simp only [nthOp]; (first | go_big_quiet_step (fail) | quiet_step (fail)); refine wpQuiet_nil ?_)
                refine wpTree_one ?_
                simp only [nthOp]
                go_wp2_with (go_at_call 56; refine (HAR.out _).mono ?_; rintro e wa ⟨rfl, hb⟩; have HCa := Lib.hid (HCz.out.trans (hb.mono HCz.out.size)); clear hb)
                refine One_mk (KW.mk' HCa.out) ?_
                refine wpTree_one ?_
                simp only [nthOp]
                go_wp2_with (go_at_call 57; refine (HCVR.out _ (HRV4.out.keep HCa.out)).mono ?_; rintro e wb ⟨rfl, hb⟩; have HCb := Lib.hid (HCa.out.trans (hb.mono HCa.out.size)); clear hb)
                refine One_mk (KW.mk' HCb.out) ?_
                repeat (refine wpTree_take ?_; simp only [nthOp]; (first | go_big_quiet_step (fail) | quiet_step (fail)); refine wpQuiet_nil ?_)
                refine wpTree_one ?_
                simp only [nthOp]
                go_wp2_with fail
                refine One_mk (KW.mk' (HCb.out.alloc HCb.out.size _)) ?_
                refine wpTree_done ?_
                simp only [List.drop_succ_cons, List.drop_zero]
                have HBb := Lib.hid (HB4.out.trans (HCb.out.mono HB4.out.size))
                have HOb := Lib.hid (own_keep HO4.out HCb.out)
                have hsz := HBb.out.size
                clear kx0 nn1 r0 r1 r2 r3 d7
                obtain ⟨zl, hzl⟩ : ∃ z, z = Z.length := ⟨_, rfl⟩
                rw [← hzl] at HOb hszl ⊢
                have HZL := Lib.hid hzl
                clear hzl
                go_wp2_with (at_builtin; refine wpList_append_here _ rfl _ _ 68 rfl wi.heap.size 3 i0 (.int .i64 0) 1 8 Tryz.underlying68 hi0 hz0 hz1 hz2 rfl (by decide) (.slice az zl cz) zl (Z.map (Value.int .i64)) rfl (own_keep HOb.out ((Below.refl _ _).alloc (Nat.le_refl _) _)) ⟨wb.heap.size, 0, none⟩ 1 1 [.int .i64 (AR - CVA)] rfl rfl (news_of [.int .i64 (AR - CVA)] _ _ _ rfl) (by intro u hu; rw [List.mem_singleton.1 hu]; rfl) (by decide) (by simp only [maxLen]; omega) (by omega) (by simp; omega) ?_; intro v9 w9 ho9 hg9 hv9; have HO9 := Lib.hid ho9; have HG9 := Lib.hid hg9; clear ho9 hg9 hv9)
                refine NP_mk ?_
                go_wp2_with fail
                go_roundw
                case rel =>
                  refine ⟨k + 1, by omega, by go_num, Lib.hid ?_, ?_⟩
                  · rw [HS2.out, HSE.out, List.length_append, List.map_append, ← HZL.out]; exact HO9.out
                  · exact (HBb.out.alloc HBb.out.size _).grown HG9.out (by simp; omega) (fun q hq => own_base HOb.out hq)
                case measure => first | (simp [intOf]; done) | (simp [intOf]; omega)
            · obtain rfl : k = j.stock.length := by omega
              have hki3 : ¬ ((j.stock.length : Nat) : Int) < ((j.stock.length : Nat) : Int) := by omega
              have HZB := Lib.hid (HSZ.out j.stock.length)
              rw [HSL.out] at HO HZB ⊢
              have HFA := Lib.hid (fallM_of (sizesL j sp))
              obtain ⟨Z, hZ⟩ : ∃ Z, Z = sizesL j sp := ⟨_, rfl⟩
              rw [← hZ] at HO HZB HFA HSP ⊢
              clear hZ HSL
              obtain ⟨zl, hzl⟩ : ∃ z, z = Z.length := ⟨_, rfl⟩
              rw [← hzl] at HO ⊢
              have HZL := Lib.hid hzl
              clear hzl
              go_upto_region 21 with (go_at_call 58; refine (sortIn_any wi.heap.size _ zl Z _ HO.out (by have := HZB.out.2; omega)).mono ?_; rintro e w5 ⟨rfl, F, hf, ho, hg⟩; have HFO := Lib.hid hf; have HO5 := Lib.hid ho; have HB5 := Lib.hid (HBN.out.grown hg HBN.out.size (fun q hq => own_base HO.out hq)); clear hf ho hg)
              have HSP2 := Lib.hid (show areaSp j sp = enoughM F ND 0 by rw [HSP.out, fall_one HFO.out HFA.out])
              have HFB := Lib.hid (show ∀ x ∈ F, 0 ≤ x ∧ x ≤ 1000000000000 from fun x hx => HZB.out.1 x (HFO.out.1.mem_iff.1 hx))
              have hfz : F.length = zl := by rw [HFO.out.1.length_eq, HZL.out]
              have hz100 : F.length ≤ 100 := by rw [HFO.out.1.length_eq]; exact HZB.out.2
              rw [← hfz] at HO5 ⊢
              clear hfz HFO HFA HZB HZL HSP HO
              have HE0 := Lib.hid (show enoughM F ND 0 = enoughM (F.drop 0) ND 0 from rfl)
              go_wp2_with fail
              go_loopw [7, 14] (fun sv nv wr => ∃ (t : Int) (n : Nat), n ≤ F.length ∧ sv = .int .i64 t ∧ nv = .int .i64 n ∧ (-4000000000000000 ≤ t ∧ t ≤ 4000000000000000) ∧ Hid (enoughM F ND 0 = enoughM (F.drop n) t n) ∧ Below w5.heap.size w5 wr) (fun _ nv _ => F.length - (intOf nv).toNat)
              case atStart => exact ⟨ND, 0, Nat.zero_le _, rfl, rfl, by omega, HE0, Below.refl _ _⟩
              case round =>
                obtain ⟨t, n, hn, rfl, rfl, ht, HE1, hbe⟩ := hrel
                have HBE := Lib.hid hbe
                clear hbe HE0
                have HWW := Lib.hid (HBI2.out.trans ((HB5.out.trans (HBE.out.mono HB5.out.size)).mono HBI2.out.size))
                by_cases h1 : t > 0
                · by_cases hlt4 : n < F.length
                  · have hii : (n : Int) < (F.length : Int) := by omega
                    have hne : ¬ (n : Int) = (F.length : Int) := by omega
                    have v1 : IntKind.i64.wrap ((n : Int) + 1) = (n : Int) + 1 := IntWalk.i64_in _ (by omega)
                    have hx := HFB.out _ (List.getElem_mem hlt4)
                    have HEN := Lib.hid (show enoughM F ND 0 = enoughM (F.drop (n + 1)) (t - F[n]) (n + 1) by rw [HE1.out, List.drop_eq_getElem_cons hlt4, enoughM, if_pos h1])
                    obtain ⟨g, cp, hgv, hg1, hg2⟩ := own_some8 HO5.out (by omega)
                    injection hgv with e1 _ e3
                    subst e1; subst e3
                    have hc := cell_keep HBE.out (own_int_cell HO5.out hlt4).1
                    generalize F[n] = x at *
                    have v2 : IntKind.i64.wrap (t - x) = t - x := IntWalk.i64_in _ (by omega)
                    go_wp2_with fail
                    go_roundw
                    case rel => exact ⟨t - x, n + 1, by omega, rfl, by go_num, by omega, HEN, HBE.out⟩
                    case measure => first | (simp [intOf]; done) | (simp [intOf]; omega)
                  · obtain rfl : n = F.length := by omega
                    have HN := Lib.hid (show areaAll j K = false from HNO.out (by rw [HSP2.out, HE1.out, List.drop_length, enoughM, if_pos h1]))
                    have HVF := Lib.hid (show AV = 0 ∧ AE = 12 by rw [HVE.out.1, HVE.out.2, HN.out]; exact ⟨rfl, rfl⟩)
                    go_wp2_with fail
                    go_ret2
                    exact ⟨by rw [HVF.out.1, HVF.out.2]; rfl, HWW.out⟩
                · have HN := Lib.hid (show areaSp j sp = some n by rw [HSP2.out, HE1.out]; cases F.drop n <;> (rw [enoughM, if_neg h1]))
                  have HS3 := Lib.hid (show areaSum j (K.take (m + 1)) = S0 + n ∧ areaAll j (K.take (m + 1)) = true by rw [HSA.out.1, HSA.out.2, HAL.out, HN.out]; exact ⟨rfl, rfl⟩)
                  have HWO := Lib.hid (HBOI.out.trans ((HB5.out.trans (HBE.out.mono HB5.out.size)).mono HBOI.out.size))
                  go_wp2_with fail
                  go_roundw
                  case rel => exact ⟨m + 1, by omega, by go_num, by rw [HS3.out.1]; push_cast; rfl, Lib.hid HS3.out.2, HWO.out⟩
                  case measure => first | (simp [intOf]; done) | (simp [intOf]; omega)
    · obtain rfl : m = K.length := by omega
      have hki : ¬ ((K.length : Nat) : Int) < ((K.length : Nat) : Int) := by omega
      have HVT := Lib.hid (show AV = ((areaSum j K : Nat) : Int) ∧ AE = 0 by have h := HAL.out; rw [List.take_length] at h; rw [HVE.out.1, HVE.out.2, h]; exact ⟨rfl, rfl⟩)
      go_wp2_with fail
      go_ret2
      exact ⟨by rw [HVT.out.1, HVT.out.2]; rfl, HBB.out⟩
end Go.Proofs.YtpaindkfbgoogaaGreat
/- The area bound and the best bound, of the program. -/
set_option linter.unusedVariables false
set_option linter.unusedSimpArgs false
namespace Go.Proofs.YtpaindkfbgoogaaGreat
open Go Go.RowKit Go.Sort Go.Lib

def areaBE (j : Job) : Int := if jobE j = 0 then areaE j else jobE j
def areaBV (j : Job) : Int := if jobE j = 0 then areaV j else 0
theorem jobE_few {j : Job} (h : jobE j = 0) : ∀ b ∈ j.stock, b.defects.length ≤ 60 := fun b hb => by
  obtain ⟨h1, h2, h3, h4, -⟩ := jobE_parts h
  exact (boardErr_ok (h2 b hb)).2.2.1
set_option maxRecDepth 100000 in
set_option maxHeartbeats 4000000 in
theorem areaBoundP_any (j : Job) (a1 : Option Addr) (c1 : Nat) (a2 : Option Addr) (c2 : Nat) (w : World) (hs : Boards.V w a1 j.stock) (hsl : j.stock.length ≤ 9223372036854775807) (hb : Blanks.V w a2 j.blanks) (hbl : j.blanks.length ≤ 9223372036854775807) :
    Calls Tryz.prog 9 #[.agg #[.slice a1 j.stock.length c1, .slice a2 j.blanks.length c2, .int .i64 j.trim.kerf, .int .i64 j.trim.ends, .int .i64 j.trim.sides]] w fun e w' => e = .returned (.tuple #[.int .i64 (areaBV j), .int .i64 (areaBE j)]) ∧ Below w.heap.size w w' := by
  have HVS := Lib.hid hs
  have HVB := Lib.hid hb
  have HCJ := Lib.hid (fun w9 hs hb => checkJobP_any j a1 c1 a2 c2 w9 hs hsl hb hbl)
  have HAB := Lib.hid (fun w9 hs hb (h : jobE j = 0) => areaBound_any j a1 c1 a2 c2 w9 hs hb (jobOk_of h) (jobE_few h))
  have HE := Lib.hid (show areaBE j = (if jobE j = 0 then areaE j else jobE j) ∧ areaBV j = if jobE j = 0 then areaV j else 0 from ⟨rfl, rfl⟩)
  generalize areaBE j = BE at *
  generalize areaBV j = BV at *
  obtain ⟨E, hE⟩ : ∃ E, jobE j = E := ⟨_, rfl⟩
  rw [hE] at HCJ HAB HE
  clear hE hs hb
  go_enter Tryz.func9, Tryz.ntmps9
  go_upto_region 1 with fail
  refine gen_world (fun W => JB W w.heap.size j a1 c1 a2 c2 ∧ Below w.heap.size w W ∧ w.heap.size < W.heap.size) ⟨⟨by simp [go_sem], by simp [go_sem], by simp [go_sem], by simp [go_sem], by simp [go_sem]⟩, by repeat (first | (with_reducible assumption) | exact Below.refl _ _ | (refine Below.setCell ?_ (by first | omega | (simp; omega) | (simp; done)) _) | (refine Below.alloc ?_ (by first | omega | (simp; omega) | (simp; done)) _) | (refine Below.drew ?_)), by simp⟩ ?_
  rintro W ⟨hC, hbW, hz⟩
  obtain ⟨gj, hgj⟩ : ∃ g, g = w.heap.size := ⟨_, rfl⟩
  have hzj : gj < W.heap.size := by omega
  rw [← hgj] at hC ⊢
  have HC := Lib.hid hC
  have HBW := Lib.hid (show Below w.heap.size w W by first | exact hbW | (rw [hgj] at hbW; exact hbW))
  obtain ⟨q0, q1, q2, q3, q4⟩ := hC
  clear hbW hz hgj
  by_cases hE : E = 0
  · subst hE
    have HE2 := Lib.hid (show BE = areaE j ∧ BV = areaV j by rw [HE.out.1, HE.out.2, if_pos rfl, if_pos rfl]; exact ⟨rfl, rfl⟩)
    generalize areaE j = AE at *
    generalize areaV j = AV at *
    go_upto_region 4 with (go_at_call 24; refine (HCJ.out _ (HVS.out.keep HBW.out) (HVB.out.keep HBW.out)).mono ?_; rintro e w1 ⟨rfl, hb⟩; have HB1 := Lib.hid (HBW.out.trans (hb.mono HBW.out.size)); have HC1 := Lib.hid (HC.out.keep hb hzj); clear hb)
    clear q0 q1 q2 q3 q4
    obtain ⟨q0, q1, q2, q3, q4⟩ := HC1.out
    go_wp2_with (go_at_call 31; refine (HAB.out _ (HVS.out.keep HB1.out) (HVB.out.keep HB1.out) (by first | trivial | rfl)).mono ?_; rintro e w2 ⟨rfl, hb⟩; have HB2 := Lib.hid (HB1.out.trans (hb.mono HB1.out.size)); clear hb)
    go_ret2
    exact ⟨by rw [HE2.out.1, HE2.out.2]; rfl, HB2.out⟩
  · have HE2 := Lib.hid (show BE = E ∧ BV = 0 by rw [HE.out.1, HE.out.2, if_neg hE, if_neg hE]; exact ⟨rfl, rfl⟩)
    have hne := bne_t5 hE
    go_wp2_with (go_at_call 24; refine (HCJ.out _ (HVS.out.keep HBW.out) (HVB.out.keep HBW.out)).mono ?_; rintro e w1 ⟨rfl, hb⟩; have HB1 := Lib.hid (HBW.out.trans (hb.mono HBW.out.size)); clear hb)
    go_ret2
    exact ⟨by rw [HE2.out.1, HE2.out.2]; rfl, HB1.out⟩
/-! The best bound. -/
def bbStep (j : Job) (a b : Nat) (s : Int × Nat × Nat) : Int × Nat × Nat := if ((bndM j a b : Nat) : Int) > s.1 then (((bndM j a b : Nat) : Int), a, b) else s
def bbRow (j : Job) (a : Nat) : Nat → Int × Nat × Nat → Int × Nat × Nat
  | 0, s => s
  | n + 1, s => bbStep j a n (bbRow j a n s)
def bbAll (j : Job) : Nat → Int × Nat × Nat
  | 0 => (-1, 0, 0)
  | n + 1 => bbRow j n 6 (bbAll j n)
def bestM (j : Job) : Int × Nat × Nat := bbAll j 6
def bestE (j : Job) : Int := if weightsE j 0 0 = 0 then areaE j else weightsE j 0 0
theorem weightsE_const {j : Job} {a b : Nat} (ha : a ≤ 20) (hb : b ≤ 20) : weightsE j (a : Int) (b : Int) = weightsE j 0 0 := by
  unfold weightsE
  rw [if_neg (c := ¬ ((0 ≤ (a : Int) ∧ (a : Int) ≤ 20) ∧ (0 ≤ (b : Int) ∧ (b : Int) ≤ 20))) (by omega), if_neg (c := ¬ ((0 ≤ (0 : Int) ∧ (0 : Int) ≤ 20) ∧ (0 ≤ (0 : Int) ∧ (0 : Int) ≤ 20))) (by omega)]
theorem bbRow_bd {j : Job} {a : Nat} {s : Int × Nat × Nat} {B : Int} (hB : ∀ b, b ≤ 20 → ((bndM j a b : Nat) : Int) ≤ B) (hs : -1 ≤ s.1 ∧ s.1 ≤ B) : ∀ n, n ≤ 20 → -1 ≤ (bbRow j a n s).1 ∧ (bbRow j a n s).1 ≤ B
  | 0, _ => hs
  | n + 1, hn => by
    have h := bbRow_bd hB hs n (by omega)
    have := hB n (by omega)
    rw [bbRow]
    unfold bbStep
    split
    · simp only; omega
    · exact h
theorem bbAll_bd {j : Job} {B : Int} (h0 : 0 ≤ B) (hB : ∀ a b, a ≤ 20 → b ≤ 20 → ((bndM j a b : Nat) : Int) ≤ B) : ∀ n, n ≤ 20 → -1 ≤ (bbAll j n).1 ∧ (bbAll j n).1 ≤ B
  | 0, _ => by rw [bbAll]; simp only; omega
  | n + 1, hn => by rw [bbAll]; exact bbRow_bd (fun b hb => hB n b (by omega) hb) (bbAll_bd h0 hB n (by omega)) 6 (by omega)
/-- A pair of numbers in a box. -/
structure PrO (W : World) (g : Nat) (n d : Int) : Prop where
  c0 : W.cell? ⟨g, 0, none⟩ = some (.int .i64 n)
  c1 : W.cell? ⟨g, 1, none⟩ = some (.int .i64 d)
  f0 : W.frozen? ⟨g, 0, none⟩ = false
  f1 : W.frozen? ⟨g, 1, none⟩ = false
theorem PrO.lt {W : World} {g : Nat} {n d : Int} (h : PrO W g n d) : g < W.heap.size := by have := block_lt_of_cell h.c0; simpa using this
theorem PrO.keep {W W' : World} {g : Nat} {n d : Int} (h : PrO W g n d) (hb : Below W.heap.size W W') : PrO W' g n d := ⟨cell_keep hb h.c0, cell_keep hb h.c1, frozen_keep hb h.lt h.f0, frozen_keep hb h.lt h.f1⟩
theorem set_cell {W : World} {p q : Addr} {u v : Value} (h : W.cell? q = some v) : (W.setCell p u).cell? q = some (if p = q then u else v) := by
  by_cases e : p = q
  · subst e; rw [if_pos rfl]; exact World.cell?_setCell_same _ _ _ h
  · rw [if_neg e, World.cell?_setCell_other (h := e)]; exact h
theorem PrO.set {W : World} {g : Nat} {n d : Int} (h : PrO W g n d) {n' d' : Int} : PrO ((W.setCell ⟨g, 0, none⟩ (.int .i64 n')).setCell ⟨g, 1, none⟩ (.int .i64 d')) g n' d' :=
  ⟨(set_cell (set_cell h.c0)).trans (by simp), (set_cell (set_cell h.c1)).trans (by simp), by rw [frozen_set, frozen_set]; exact h.f0, by rw [frozen_set, frozen_set]; exact h.f1⟩
theorem PrO.off {W : World} {g k : Nat} {n d : Int} (h : PrO W g n d) (hk : k ≠ g) {u v : Value} : PrO ((W.setCell ⟨k, 0, none⟩ u).setCell ⟨k, 1, none⟩ v) g n d :=
  ⟨(set_cell (set_cell h.c0)).trans (by simp [hk]), (set_cell (set_cell h.c1)).trans (by simp [hk]), by rw [frozen_set, frozen_set]; exact h.f0, by rw [frozen_set, frozen_set]; exact h.f1⟩
theorem JB.off {W : World} {g k : Nat} {j : Job} {a1 : Option Addr} {c1 : Nat} {a2 : Option Addr} {c2 : Nat} (h : JB W g j a1 c1 a2 c2) (hk : k ≠ g) {u v : Value} : JB ((W.setCell ⟨k, 0, none⟩ u).setCell ⟨k, 1, none⟩ v) g j a1 c1 a2 c2 :=
  ⟨(set_cell (set_cell h.s)).trans (by simp [hk]), (set_cell (set_cell h.b)).trans (by simp [hk]), (set_cell (set_cell h.k)).trans (by simp [hk]), (set_cell (set_cell h.e)).trans (by simp [hk]), (set_cell (set_cell h.d)).trans (by simp [hk])⟩
/-- BestBound's boxes. -/
structure BBox (w0 W : World) (gj g3 g6 : Nat) (j : Job) (a1 : Option Addr) (c1 : Nat) (a2 : Option Addr) (c2 : Nat) (p q : Int) : Prop where
  job : JB W gj j a1 c1 a2 c2
  z : PrO W g3 0 0
  n : PrO W g6 p q
  b : Below w0.heap.size w0 W
theorem BBox.keep {w0 W W' : World} {gj g3 g6 : Nat} {j : Job} {a1 : Option Addr} {c1 : Nat} {a2 : Option Addr} {c2 : Nat} {p q : Int} (h : BBox w0 W gj g3 g6 j a1 c1 a2 c2 p q) (hb : Below W.heap.size W W') : BBox w0 W' gj g3 g6 j a1 c1 a2 c2 p q :=
  ⟨h.job.keep hb (by have := block_lt_of_cell h.job.s; simpa using this), h.z.keep hb, h.n.keep hb, h.b.trans (hb.mono h.b.size)⟩
theorem BBox.put {w0 W : World} {gj g3 g6 : Nat} {j : Job} {a1 : Option Addr} {c1 : Nat} {a2 : Option Addr} {c2 : Nat} {p q : Int} (h : BBox w0 W gj g3 g6 j a1 c1 a2 c2 p q) (h1 : g6 ≠ gj) (h2 : g6 ≠ g3) (h3 : w0.heap.size ≤ g6) {p' q' : Int} : BBox w0 ((W.setCell ⟨g6, 0, none⟩ (.int .i64 p')).setCell ⟨g6, 1, none⟩ (.int .i64 q')) gj g3 g6 j a1 c1 a2 c2 p' q' :=
  ⟨h.job.off h1, h.z.off h2, h.n.set, (h.b.setCell h3 _).setCell h3 _⟩
set_option maxRecDepth 100000 in
set_option maxHeartbeats 16000000 in
theorem bestP_any (j : Job) (a1 : Option Addr) (c1 : Nat) (a2 : Option Addr) (c2 : Nat) (w : World) (hs : Boards.V w a1 j.stock) (hsl : j.stock.length ≤ 9223372036854775807) (hb : Blanks.V w a2 j.blanks) (hbl : j.blanks.length ≤ 9223372036854775807) :
    Calls Tryz.prog 10 #[.agg #[.slice a1 j.stock.length c1, .slice a2 j.blanks.length c2, .int .i64 j.trim.kerf, .int .i64 j.trim.ends, .int .i64 j.trim.sides]] w fun e w' => e = .returned (.tuple #[.int .i64 (if bestE j = 0 then max (areaV j) (bestM j).1 else 0), .agg #[.int .i64 (if bestE j = 0 then (((bestM j).2.1 : Nat) : Int) else 0), .int .i64 (if bestE j = 0 then (((bestM j).2.2 : Nat) : Int) else 0)], .int .i64 (bestE j)]) ∧ Below w.heap.size w w' := by
  obtain ⟨R0, hR0⟩ : ∃ R, R = (if bestE j = 0 then max (areaV j) (bestM j).1 else 0) := ⟨_, rfl⟩
  obtain ⟨R1, hR1⟩ : ∃ R, R = (if bestE j = 0 then (((bestM j).2.1 : Nat) : Int) else 0) := ⟨_, rfl⟩
  obtain ⟨R2, hR2⟩ : ∃ R, R = (if bestE j = 0 then (((bestM j).2.2 : Nat) : Int) else 0) := ⟨_, rfl⟩
  rw [← hR0, ← hR1, ← hR2]
  have HR := Lib.hid (And.intro hR0 (And.intro hR1 hR2))
  have HVS := Lib.hid hs
  have HVB := Lib.hid hb
  have HBP := Lib.hid (fun (a b : Nat) w9 hs hb => boundP_any j a1 c1 a2 c2 (a : Int) (b : Int) w9 hs hsl hb hbl)
  have HWC := Lib.hid (fun (a b : Nat) (ha : a ≤ 20) (hb : b ≤ 20) => weightsE_const (j := j) ha hb)
  have HBV := Lib.hid (fun (a b : Nat) => show bndV j (a : Int) (b : Int) = if weightsE j (a : Int) (b : Int) = 0 then ((bndM j a b : Nat) : Int) else 0 from rfl)
  have HBE := Lib.hid (show bestE j = if weightsE j 0 0 = 0 then areaE j else weightsE j 0 0 from rfl)
  have HWA := Lib.hid (fun h => weightsE_all (j := j) (k0 := 0) (k1 := 0) h)
  have HAB := Lib.hid (fun w9 hs hb (h : jobE j = 0) => areaBound_any j a1 c1 a2 c2 w9 hs hb (jobOk_of h) (jobE_few h))
  obtain ⟨EW, hEW⟩ : ∃ E, weightsE j 0 0 = E := ⟨_, rfl⟩
  rw [hEW] at HWC HBE HWA
  obtain ⟨BE, hBE⟩ : ∃ E, bestE j = E := ⟨_, rfl⟩
  rw [hBE] at HBE HR ⊢
  clear hs hb hR0 hR1 hR2 hEW hBE
  go_enter Tryz.func10, Tryz.ntmps10
  go_upto_region 2 with fail
  refine gen_world (fun W => BBox w W w.heap.size (w.heap.size + 1) (w.heap.size + 2) j a1 c1 a2 c2 0 0) ⟨⟨by simp [go_sem], by simp [go_sem], by simp [go_sem], by simp [go_sem], by simp [go_sem]⟩, ⟨by simp [go_sem], by simp [go_sem], by simp [go_sem], by simp [go_sem]⟩, ⟨by simp [go_sem], by simp [go_sem], by simp [go_sem], by simp [go_sem]⟩, by repeat (first | (with_reducible assumption) | exact Below.refl _ _ | (refine Below.setCell ?_ (by first | omega | (simp; omega) | (simp; done)) _) | (refine Below.alloc ?_ (by first | omega | (simp; omega) | (simp; done)) _) | (refine Below.drew ?_))⟩ ?_
  rintro W hBX
  obtain ⟨gj, hgj⟩ : ∃ g, g = w.heap.size := ⟨_, rfl⟩
  obtain ⟨g3, hg3⟩ : ∃ g, g = w.heap.size + 1 := ⟨_, rfl⟩
  obtain ⟨g6, hg6⟩ : ∃ g, g = w.heap.size + 2 := ⟨_, rfl⟩
  have HN := Lib.hid (show g6 ≠ gj ∧ g6 ≠ g3 ∧ w.heap.size ≤ g6 ∧ w.heap.size ≤ g3 by omega)
  rw [← hg6, ← hg3, ← hgj] at hBX
  simp only [Nat.add_assoc, Nat.reduceAdd]
  rw [← hg6, ← hg3, ← hgj]
  have HBX := Lib.hid hBX
  clear hBX hgj hg3 hg6
  have HBD := Lib.hid (fun (h : EW = 0) (a b : Nat) (ha : a ≤ 20) (hb : b ≤ 20) => show ((bndM j a b : Nat) : Int) ≤ 180000 from by
    obtain ⟨hej, -, hfit⟩ := HWA.out h
    have hJ := jobOk_of hej
    have h1 := bndTo_bd hJ hfit ha hb (kindsM j.blanks)
    have h2 := kindsTo_len j.blanks j.blanks.length
    have h3 := hJ.lenB
    unfold kindsM at h1
    unfold bndM kindsM
    omega)
  go_wp2_with fail
  go_loopw [5, 14] (fun bv iv wr => ∃ a : Nat, a ≤ 6 ∧ iv = .int .i64 a ∧ bv = .int .i64 (bbAll j a).1 ∧ Hid (a = 0 ∨ EW = 0) ∧ Hid (BBox w wr gj g3 g6 j a1 c1 a2 c2 (((bbAll j a).2.1 : Nat) : Int) (((bbAll j a).2.2 : Nat) : Int))) (fun _ iv _ => 6 - (intOf iv).toNat)
  case atStart => exact ⟨0, Nat.zero_le _, rfl, rfl, Lib.hid (.inl rfl), HBX⟩
  case round =>
    obtain ⟨a, ha, rfl, rfl, HA, HB⟩ := hrel
    obtain ⟨wo, rfl⟩ : ∃ wo : World, wo = wr := ⟨_, rfl⟩
    by_cases hlt : a < 6
    · have hki : (a : Int) < 6 := by omega
      have HAR := Lib.hid (show bbAll j (a + 1) = bbRow j a 6 (bbAll j a) from rfl)
      have HS0 := Lib.hid (show bbAll j a = bbRow j a 0 (bbAll j a) from rfl)
      have HAB2 := Lib.hid (fun h : EW = 0 => bbAll_bd (j := j) (B := 180000) (by decide) (fun a b h1 h2 => HBD.out h a b h1 h2) a (by omega))
      obtain ⟨s0, hs0⟩ : ∃ s, s = bbAll j a := ⟨_, rfl⟩
      rw [← hs0] at HB HAR HS0 HAB2 ⊢
      clear hs0
      go_upto_region 6 with fail
      go_wp2_with fail
      go_loopw [5, 17] (fun bv iv wr => ∃ b : Nat, b ≤ 6 ∧ iv = .int .i64 b ∧ bv = .int .i64 (bbRow j a b s0).1 ∧ Hid (b = 0 ∨ EW = 0) ∧ Hid (BBox w wr gj g3 g6 j a1 c1 a2 c2 (((bbRow j a b s0).2.1 : Nat) : Int) (((bbRow j a b s0).2.2 : Nat) : Int))) (fun _ iv _ => 6 - (intOf iv).toNat)
      case atStart => exact ⟨0, Nat.zero_le _, rfl, by rw [HS0.out]; rfl, Lib.hid (.inl rfl), HB⟩
      case round =>
        obtain ⟨b, hb, rfl, rfl, HA3, HB3⟩ := hrel
        obtain ⟨wi, rfl⟩ : ∃ wi : World, wi = wr := ⟨_, rfl⟩
        by_cases hlt2 : b < 6
        · have hki2 : (b : Int) < 6 := by omega
          have HCL := Lib.hid (HBP.out a b)
          rw [HBV.out a b, HWC.out a b (by omega) (by omega)] at HCL
          obtain ⟨q0, q1, q2, q3, q4⟩ := HB3.out.job
          have HVS3 := Lib.hid (HVS.out.keep HB3.out.b)
          have HVB3 := Lib.hid (HVB.out.keep HB3.out.b)
          by_cases hW : EW = 0
          · subst hW
            have HST := Lib.hid (show bbRow j a (b + 1) s0 = if ((bndM j a b : Nat) : Int) > (bbRow j a b s0).1 then (((bndM j a b : Nat) : Int), a, b) else bbRow j a b s0 from rfl)
            have HCL := Lib.hid (fun w9 h1 h2 => by have h := HCL.out w9 h1 h2; rw [if_pos rfl] at h; exact h)
            obtain ⟨s1, hs1⟩ : ∃ s, s = bbRow j a b s0 := ⟨_, rfl⟩
            rw [← hs1] at HB3 HST ⊢
            clear hs1
            generalize bndM j a b = BM at *
            go_upto_region 11 with (go_at_call 8; refine (HCL.out _ HVS3.out HVB3.out).mono ?_; rintro e w4 ⟨rfl, hb4⟩; have HB4 := Lib.hid (HB3.out.keep hb4); clear hb4)
            clear q0 q1 q2 q3 q4
            by_cases hgt : ((BM : Nat) : Int) > s1.1
            · have HS2 := Lib.hid (show bbRow j a (b + 1) s0 = (((BM : Nat) : Int), a, b) by rw [HST.out, if_pos hgt])
              obtain ⟨n0, n1, m0, m1⟩ := HB4.out.n
              go_wp2_with fail
              go_roundw
              case rel => exact ⟨b + 1, by omega, by go_num, by rw [HS2.out], Lib.hid (.inr (by first | trivial | rfl)), by rw [HS2.out]; exact Lib.hid (HB4.out.put HN.out.1 HN.out.2.1 HN.out.2.2.1)⟩
              case measure => first | (simp [intOf]; done) | (simp [intOf]; omega)
            · have HS2 := Lib.hid (show bbRow j a (b + 1) s0 = s1 by rw [HST.out, if_neg hgt])
              go_wp2_with fail
              go_roundw
              case rel => exact ⟨b + 1, by omega, by go_num, by rw [HS2.out], Lib.hid (.inr (by first | trivial | rfl)), by rw [HS2.out]; exact HB4⟩
              case measure => first | (simp [intOf]; done) | (simp [intOf]; omega)
          · have HE2 := Lib.hid (show BE = EW by rw [HBE.out, if_neg hW])
            have HR2 := Lib.hid (show R0 = 0 ∧ R1 = 0 ∧ R2 = 0 by
              have h1 : ¬ BE = 0 := by rw [HE2.out]; exact hW
              rw [HR.out.1, HR.out.2.1, HR.out.2.2, if_neg h1, if_neg h1, if_neg h1]; exact ⟨rfl, rfl, rfl⟩)
            have HCL := Lib.hid (fun w9 h1 h2 => by have h := HCL.out w9 h1 h2; rw [if_neg hW] at h; exact h)
            have hne := bne_t5 hW
            go_upto_region 10 with (go_at_call 8; refine (HCL.out _ HVS3.out HVB3.out).mono ?_; rintro e w4 ⟨rfl, hb4⟩; have HB4 := Lib.hid (HB3.out.keep hb4); clear hb4)
            clear q0 q1 q2 q3 q4
            obtain ⟨z0, z1, y0, y1⟩ := HB4.out.z
            go_wp2_with fail
            have hz := HB4.out.z.set (n' := 0) (d' := 0)
            have hbz := (HB4.out.b.setCell (p := ⟨g3, 0, none⟩) HN.out.2.2.2 (.int .i64 0)).setCell (p := ⟨g3, 1, none⟩) HN.out.2.2.2 (.int .i64 0)
            generalize ((w4.setCell ⟨g3, 0, none⟩ (.int .i64 0)).setCell ⟨g3, 1, none⟩ (.int .i64 0)) = WZ at *
            obtain ⟨x0, x1, -, -⟩ := hz
            refine bodyPost_ret (v := .tuple #[.int .i64 0, .agg #[.int .i64 0, .int .i64 0], .int .i64 EW]) ?_ ?_ ?_
            · simp [results, Tryz.results10, go_sem, x0, x1]
            · rfl
            · exact ⟨by rw [HE2.out, HR2.out.1, HR2.out.2.1, HR2.out.2.2], hbz⟩
        · obtain rfl : b = 6 := by omega
          have HEW := Lib.hid (show EW = 0 from HA3.out.resolve_left (by decide))
          go_wp2_with fail
          go_roundw
          case rel => exact ⟨a + 1, by omega, by go_num, by rw [HAR.out], Lib.hid (.inr HEW.out), by rw [HAR.out]; exact HB3⟩
          case measure => first | (simp [intOf]; done) | (simp [intOf]; omega)
    · obtain rfl : a = 6 := by omega
      have hEW : EW = 0 := HA.out.resolve_left (by decide)
      subst hEW
      have hej := (HWA.out (by first | trivial | rfl)).1
      have HE2 := Lib.hid (show BE = areaE j by rw [HBE.out, if_pos rfl])
      have HBM := Lib.hid (show bestM j = bbAll j 6 from rfl)
      have HRX := Lib.hid (show R0 = (if areaE j = 0 then max (areaV j) (bbAll j 6).1 else 0) ∧ R1 = (if areaE j = 0 then (((bbAll j 6).2.1 : Nat) : Int) else 0) ∧ R2 = if areaE j = 0 then (((bbAll j 6).2.2 : Nat) : Int) else 0 by have h := HR.out; rw [HE2.out, HBM.out] at h; exact h)
      have HABJ := Lib.hid (fun w9 hs hb => HAB.out w9 hs hb hej)
      have HVS3 := Lib.hid (HVS.out.keep HB.out.b)
      have HVB3 := Lib.hid (HVB.out.keep HB.out.b)
      obtain ⟨s0, hs0⟩ : ∃ s, s = bbAll j 6 := ⟨_, rfl⟩
      rw [← hs0] at HB HRX ⊢
      clear hs0 hej HAB HR HBM
      generalize areaE j = AE at *
      generalize areaV j = AV at *
      obtain ⟨q0, q1, q2, q3, q4⟩ := HB.out.job
      go_upto_region 16 with (go_at_call 31; refine (HABJ.out _ HVS3.out HVB3.out).mono ?_; rintro e w4 ⟨rfl, hb4⟩; have HB4 := Lib.hid (HB.out.keep hb4); clear hb4)
      clear q0 q1 q2 q3 q4
      by_cases hA : AE = 0
      · subst hA
        have HR3 := Lib.hid (show R0 = max AV s0.1 ∧ R1 = ((s0.2.1 : Nat) : Int) ∧ R2 = ((s0.2.2 : Nat) : Int) by have h := HRX.out; rw [if_pos rfl, if_pos rfl, if_pos rfl] at h; exact h)
        clear HRX
        go_upto_region 18 with fail
        obtain ⟨n0, n1, m0, m1⟩ := HB4.out.n
        obtain ⟨z0, z1, y0, y1⟩ := HB4.out.z
        have HQ := Lib.hid (And.intro n0 n1)
        have HZ := Lib.hid (And.intro z0 z1)
        go_region
        have hz := HB4.out.z.set (n' := ((s0.2.1 : Nat) : Int)) (d' := ((s0.2.2 : Nat) : Int))
        have hbz := (HB4.out.b.setCell (p := ⟨g3, 0, none⟩) HN.out.2.2.2 (.int .i64 ((s0.2.1 : Nat) : Int))).setCell (p := ⟨g3, 1, none⟩) HN.out.2.2.2 (.int .i64 ((s0.2.2 : Nat) : Int))
        generalize ((w4.setCell ⟨g3, 0, none⟩ (.int .i64 ((s0.2.1 : Nat) : Int))).setCell ⟨g3, 1, none⟩ (.int .i64 ((s0.2.2 : Nat) : Int))) = WZ at *
        have hbd := hbz.drew
        have x0 : WZ.drew.cell? ⟨g3, 0, none⟩ = some (.int .i64 ((s0.2.1 : Nat) : Int)) := hz.c0
        have x1 : WZ.drew.cell? ⟨g3, 1, none⟩ = some (.int .i64 ((s0.2.2 : Nat) : Int)) := hz.c1
        clear hz hbz HQ HZ n0 n1 z0 z1
        generalize WZ.drew = WD at *
        go_wp2_with fail
        refine bodyPost_ret (v := .tuple #[.int .i64 (max AV s0.1), .agg #[.int .i64 ((s0.2.1 : Nat) : Int), .int .i64 ((s0.2.2 : Nat) : Int)], .int .i64 0]) ?_ ?_ ?_
        · simp [results, Tryz.results10, go_sem, x0, x1]
        · rfl
        · exact ⟨by rw [HE2.out, HR3.out.1, HR3.out.2.1, HR3.out.2.2], hbd⟩
      · have HR3 := Lib.hid (show R0 = 0 ∧ R1 = 0 ∧ R2 = 0 by have h := HRX.out; rw [if_neg hA, if_neg hA, if_neg hA] at h; exact h)
        have hne := bne_t5 hA
        clear HRX
        go_upto_region 17 with fail
        obtain ⟨z0, z1, y0, y1⟩ := HB4.out.z
        go_wp2_with fail
        have hz := HB4.out.z.set (n' := 0) (d' := 0)
        have hbz := (HB4.out.b.setCell (p := ⟨g3, 0, none⟩) HN.out.2.2.2 (.int .i64 0)).setCell (p := ⟨g3, 1, none⟩) HN.out.2.2.2 (.int .i64 0)
        generalize ((w4.setCell ⟨g3, 0, none⟩ (.int .i64 0)).setCell ⟨g3, 1, none⟩ (.int .i64 0)) = WZ at *
        obtain ⟨x0, x1, -, -⟩ := hz
        refine bodyPost_ret (v := .tuple #[.int .i64 0, .agg #[.int .i64 0, .int .i64 0], .int .i64 AE]) ?_ ?_ ?_
        · simp [results, Tryz.results10, go_sem, x0, x1]
        · rfl
        · exact ⟨by rw [HE2.out, HR3.out.1, HR3.out.2.1, HR3.out.2.2], hbz⟩
end Go.Proofs.YtpaindkfbgoogaaGreat
