/- The solid of one cube. -/
import Derived.Test.YtgjmfdhgeahdcaaGreatQJ
import Derived.Test.YtgjmfdhgeahdcaaGreatQL
import Derived.Test.YtgjmfdhgeahdcaaGreatQK
set_option linter.unusedVariables false
set_option linter.unusedSimpArgs false
namespace Go.Proofs.YtgjmfdhgeahdcaaGreat
open Go Go.RowKit Go.Sort Go.Lib

def cubeP (l h : Int) : List Pl := [⟨-1, 0, 0, -l⟩, ⟨0, -1, 0, -l⟩, ⟨0, 0, -1, -l⟩, ⟨0, 0, 1, h⟩, ⟨0, 1, 0, h⟩, ⟨1, 0, 0, h⟩]
set_option maxRecDepth 100000 in
set_option maxHeartbeats 4000000 in
theorem cube_any (l h : Int) (hl : -1000 ≤ l ∧ l ≤ 1000) (hh : -1000 ≤ h ∧ h ≤ 1000) (w : World) :
    Calls Tryz.prog 9 #[.int .i64 l, .int .i64 h] w fun e w' => ∃ g, e = .returned (.agg #[.slice (some ⟨g, 0, none⟩) 1 1]) ∧ Cells.V w' (some ⟨g, 0, none⟩) [⟨cubeP l h⟩] ∧ Below w.heap.size w w' := by
 have v0 : IntKind.i64.wrap (-l) = -l := IntWalk.i64_in _ (by omega)
 go_enter Tryz.func9, Tryz.ntmps9
 go_wp2_with fail
 refine bodyPost_ret (v := .agg #[.slice (some ⟨w.heap.size + 1 + 1, 0, none⟩) 1 1]) ?_ ?_ ?_
 ·simp [results, Tryz.results9, go_sem]
 ·rfl
 ·refine ⟨w.heap.size + 1 + 1, rfl, fun _ => ⟨w.heap.size + 1 + 1, 0, rfl, fun k x hk => ?_⟩, by repeat (first | (with_reducible assumption) | exact Below.refl _ _ | (refine Below.setCell ?_ (by first | omega | (simp; omega) | (simp; done)) _) | (refine Below.alloc ?_ (by first | omega | (simp; omega) | (simp; done)) _) | (refine Below.drew ?_))⟩
  match k, hk with
  | 0, hk =>
   simp only [List.getElem?_cons_zero, Option.some.injEq] at hk
   subst hk
   refine ⟨some ⟨w.heap.size + 1, 0, none⟩, 6, by simp [go_sem, cubeP], fun _ => ⟨w.heap.size + 1, 0, rfl, fun j y hj => ?_⟩, by simp [cubeP], by decide, trivial⟩
   match j, hj with
   | 0, hj | 1, hj | 2, hj | 3, hj | 4, hj | 5, hj =>
    simp [cubeP] at hj
    subst hj
    exact ⟨by simp [go_sem], by simp [go_sem], by simp [go_sem], by simp [go_sem], by unfold Pl.wf; simp only; omega⟩
   | j + 6, hj => simp [cubeP] at hj
  | k + 1, hk => simp at hk
end Go.Proofs.YtgjmfdhgeahdcaaGreat
/- The marks of numbers; the rows under way in Volume. -/
set_option linter.unusedVariables false
set_option linter.unusedSimpArgs false
namespace Go.Proofs.YtgjmfdhgeahdcaaGreat
open Go Go.RowKit Go.Sort Go.Lib

theorem intInfo : (Tryz.prog.info? 3).map (fun i => (i.zero, i.size, i.bytes)) = some (some (.int .i64 0), 1, 8) := by kernel_rfl
theorem marks_any (base : Nat) (a : Option Addr) (c : Nat) (zs : List Int) (w : World) (hown : w.ownsRow base 3 1 (.slice a zs.length c) zs.length (zs.map (Value.int .i64))) (hl : zs.length < 1000000) :
    Calls Tryz.prog 28 #[.slice a zs.length c] w fun e w' => e = .returned (.slice a (uniq zs).length c) ∧ IntsV w' a (uniq zs) ∧ w.grownBy w' (Value.slice a zs.length c).ownBlock := by
 by_cases h0 : zs = []
 ·subst h0
  have h0 : uniq [] = [] := List.eq_nil_iff_forall_not_mem.2 fun x hx => by simpa using uniq_mem.1 hx
  rw [h0]
  refine (marks_none a c w).mono ?_
  rintro e w' ⟨rfl, rfl⟩
  exact ⟨rfl, fun h => absurd rfl h, grown_refl _ _⟩
 ·obtain ⟨g, cap, he, -, -⟩ := own_some hown (List.length_pos_iff.2 h0)
  injection he with e1 e2 e3
  subst e1 e3
  refine (marks_some base g c zs w hown hl).mono ?_
  rintro e w' ⟨rfl, ho, hg⟩
  exact ⟨rfl, own_ints ho, hg⟩
theorem IntsV.keep {w w' : World} {a : Option Addr} {l : List Int} (h : IntsV w a l) (hb : Below w.heap.size w w') : IntsV w' a l := fun hne => by
 obtain ⟨b, off, e, hx⟩ := h hne
 exact ⟨b, off, e, fun k x hk => cell_keep hb (hx k x hk)⟩
theorem IntsV.grown2 {w w' : World} {a : Option Addr} {n c : Nat} {l : List Int} {row : Option Nat} (h : IntsV w a l) (hg : w.grownBy w' row) (hr : (Value.slice a n c).ownBlock = none ∨ (Value.slice a n c).ownBlock ≠ row) : IntsV w' a l := fun hne => by
 obtain ⟨b, off, rfl, hx⟩ := h hne
 refine ⟨_, _, rfl, fun k x hk => grown_cell hg (hx k x hk) ?_⟩
 rcases hr with hr | hr
 ·cases hr
 ·exact fun e => hr (by rw [e]; rfl)
/-- Rows apart. -/
def Apart (v u : Value) : Prop := ∀ g, v.ownBlock = some g → u.ownBlock ≠ some g
theorem Apart.symm {v u : Value} (h : Apart v u) : Apart u v := fun g h1 h2 => h g h2 h1
theorem Apart.hne {v u : Value} (h : Apart v u) : v.ownBlock = none ∨ v.ownBlock ≠ u.ownBlock := by
 cases hv : v.ownBlock with
 | none => exact .inl rfl
 | some g => exact .inr fun e => h g hv e.symm
theorem Apart.put {v u u' : Value} {w : World} {base e k n : Nat} {xs : List Value} (h : Apart v u) (ho : w.ownsRow base e k v n xs) (hu : u'.ownBlock = u.ownBlock ∨ u'.ownBlock = some w.heap.size) : Apart v u' := fun g hg hu' => by
 rcases hu with hu | hu
 ·exact h g hg (hu ▸ hu')
 ·rw [hu] at hu'
  injection hu' with hu'
  have := own_block_lt ho hg
  omega
/-- The three rows of Volume under way. -/
structure VolSt (N : Nat) (w0 w : World) (vb vx vy : Value) (bs : List Box6) (xs ys : List Int) : Prop where
 ob : w.ownsRow N 75 6 vb bs.length (bs.flatMap cellsBx)
 ox : w.ownsRow N 3 1 vx xs.length (xs.map (Value.int .i64))
 oy : w.ownsRow N 3 1 vy ys.length (ys.map (Value.int .i64))
 bx : Apart vb vx
 bY : Apart vb vy
 xy : Apart vx vy
 b : Below N w0 w
 n : N ≤ w.heap.size
theorem VolSt.keep {N : Nat} {w0 w w' : World} {vb vx vy : Value} {bs : List Box6} {xs ys : List Int} (h : VolSt N w0 w vb vx vy bs xs ys) (hb : Below w.heap.size w w') : VolSt N w0 w' vb vx vy bs xs ys :=
 ⟨own_keep h.ob hb, own_keep h.ox hb, own_keep h.oy hb, h.bx, h.bY, h.xy, h.b.trans (hb.mono h.n), Nat.le_trans h.n hb.size⟩
theorem VolSt.putB {N : Nat} {w0 w w' : World} {vb vx vy vb' : Value} {bs bs' : List Box6} {xs ys : List Int} (h : VolSt N w0 w vb vx vy bs xs ys) (ho : w'.ownsRow N 75 6 vb' bs'.length (bs'.flatMap cellsBx)) (hg : w.grownBy w' vb.ownBlock) (hv : vb'.ownBlock = vb.ownBlock ∨ vb'.ownBlock = some w.heap.size) : VolSt N w0 w' vb' vx vy bs' xs ys :=
 ⟨ho, h.ox.kept hg h.bx.symm.hne, h.oy.kept hg h.bY.symm.hne, (h.bx.symm.put h.ox hv).symm, (h.bY.symm.put h.oy hv).symm, h.xy, below_grown h.b hg h.n fun k hk => (own_lt h.ob hk).1, Nat.le_trans h.n hg.size⟩
theorem VolSt.putX {N : Nat} {w0 w w' : World} {vb vx vy vx' : Value} {bs : List Box6} {xs xs' ys : List Int} (h : VolSt N w0 w vb vx vy bs xs ys) (ho : w'.ownsRow N 3 1 vx' xs'.length (xs'.map (Value.int .i64))) (hg : w.grownBy w' vx.ownBlock) (hv : vx'.ownBlock = vx.ownBlock ∨ vx'.ownBlock = some w.heap.size) : VolSt N w0 w' vb vx' vy bs xs' ys :=
 ⟨h.ob.kept hg h.bx.hne, ho, h.oy.kept hg h.xy.symm.hne, h.bx.put h.ob hv, h.bY, (h.xy.symm.put h.oy hv).symm, below_grown h.b hg h.n fun k hk => (own_lt h.ox hk).1, Nat.le_trans h.n hg.size⟩
theorem VolSt.putY {N : Nat} {w0 w w' : World} {vb vx vy vy' : Value} {bs : List Box6} {xs ys ys' : List Int} (h : VolSt N w0 w vb vx vy bs xs ys) (ho : w'.ownsRow N 3 1 vy' ys'.length (ys'.map (Value.int .i64))) (hg : w.grownBy w' vy.ownBlock) (hv : vy'.ownBlock = vy.ownBlock ∨ vy'.ownBlock = some w.heap.size) : VolSt N w0 w' vb vx vy' bs xs ys' :=
 ⟨h.ob.kept hg h.bY.hne, h.ox.kept hg h.xy.hne, ho, h.bx, h.bY.put h.ob hv, h.xy.put h.ox hv, below_grown h.b hg h.n fun k hk => (own_lt h.oy hk).1, Nat.le_trans h.n hg.size⟩
/-- A box's cells beside the three rows. -/
structure VolG (N : Nat) (w0 w : World) (vb vx vy : Value) (bs : List Box6) (xs ys : List Int) (g : Nat) (B : Box6) : Prop where
 v : VolSt N w0 w vb vx vy bs xs ys
 c : BxC w g B.at_
 ob : vb.ownBlock ≠ some g
 ox : vx.ownBlock ≠ some g
 oy : vy.ownBlock ≠ some g
theorem BxC.grown {w w' : World} {g : Nat} {f : Nat → Int} {row : Option Nat} (h : BxC w g f) (hg : w.grownBy w' row) (hr : row ≠ some g) : BxC w' g f := fun t ht => ⟨grown_cell hg (h t ht).1 hr, (grown_frozen hg (h t ht).1 hr).trans (h t ht).2⟩
theorem VolG.keep {N : Nat} {w0 w w' : World} {vb vx vy : Value} {bs : List Box6} {xs ys : List Int} {g : Nat} {B : Box6} (h : VolG N w0 w vb vx vy bs xs ys g B) (hb : Below w.heap.size w w') : VolG N w0 w' vb vx vy bs xs ys g B :=
 ⟨h.v.keep hb, h.c.keep hb, h.ob, h.ox, h.oy⟩
theorem VolG.putB {N : Nat} {w0 w w' : World} {vb vx vy vb' : Value} {bs bs' : List Box6} {xs ys : List Int} {g : Nat} {B : Box6} (h : VolG N w0 w vb vx vy bs xs ys g B) (ho : w'.ownsRow N 75 6 vb' bs'.length (bs'.flatMap cellsBx)) (hg : w.grownBy w' vb.ownBlock) (hv : vb'.ownBlock = vb.ownBlock ∨ vb'.ownBlock = some w.heap.size) : VolG N w0 w' vb' vx vy bs' xs ys g B :=
 ⟨h.v.putB ho hg hv, h.c.grown hg h.ob, fun e => by have := h.c.lt; rcases hv with hv | hv <;> rw [hv] at e <;> first | exact h.ob e | (injection e with e; omega), h.ox, h.oy⟩
theorem VolG.putX {N : Nat} {w0 w w' : World} {vb vx vy vx' : Value} {bs : List Box6} {xs xs' ys : List Int} {g : Nat} {B : Box6} (h : VolG N w0 w vb vx vy bs xs ys g B) (ho : w'.ownsRow N 3 1 vx' xs'.length (xs'.map (Value.int .i64))) (hg : w.grownBy w' vx.ownBlock) (hv : vx'.ownBlock = vx.ownBlock ∨ vx'.ownBlock = some w.heap.size) : VolG N w0 w' vb vx' vy bs xs' ys g B :=
 ⟨h.v.putX ho hg hv, h.c.grown hg h.ox, h.ob, fun e => by have := h.c.lt; rcases hv with hv | hv <;> rw [hv] at e <;> first | exact h.ox e | (injection e with e; omega), h.oy⟩
/-- A pair of numbers in new memory. -/
def Two (w : World) (g : Nat) (p q : Int) : Prop := ∀ j u, [Value.int .i64 p, .int .i64 q][j]? = some u → w.cell? ((⟨g, 0, none⟩ : Addr).add j) = some u
theorem Two.new (w : World) (p q : Int) (T : TypeId) : Two (w.alloc (.cells #[.int .i64 p, .int .i64 q] T)) w.heap.size p q := news_of _ T w _ rfl
theorem Two.keep {w w' : World} {g : Nat} {p q : Int} (h : Two w g p q) (hb : Below w.heap.size w w') : Two w' g p q := fun j u hj => cell_keep hb (h j u hj)
theorem Two.grown {w w' : World} {g : Nat} {p q : Int} {row : Option Nat} (h : Two w g p q) (hg : w.grownBy w' row) (hr : row ≠ some g) : Two w' g p q := fun j u hj => by
 have := h j u hj
 rw [addr_add] at this ⊢
 exact grown_cell hg this hr
theorem two_one (p q : Int) : ∀ v ∈ [Value.int .i64 p, .int .i64 q], v.oneCell' = true := by intro v hv; simp only [List.mem_cons, List.not_mem_nil, or_false] at hv; rcases hv with rfl | rfl <;> rfl
/-- The error and the volume. -/
def volE (cs : List Cell) : Int := if solE cs ≠ 0 then solE cs else if (cs.map (·.planes)).all (fun l => (boxO l).isSome) = true then 0 else 17
def volV (cs : List Cell) : Int := if volE cs = 0 then volB ((cs.map (·.planes)).map boxV) else 0
theorem boxE_some {l : List Pl} (h : boxE l = 0) : (boxO l).isSome = true := by unfold boxE at h; split at h <;> simp_all
theorem boxE_none {l : List Pl} (h : boxE l ≠ 0) : boxE l = 17 ∧ (boxO l).isSome = false := by unfold boxE at *; split at h <;> simp_all
theorem marksX_append (l m : List Box6) : marksX (l ++ m) = marksX l ++ marksX m := by unfold marksX; rw [List.flatMap_append]
theorem marksY_append (l m : List Box6) : marksY (l ++ m) = marksY l ++ marksY m := by unfold marksY; rw [List.flatMap_append]
theorem marksX_len (l : List Box6) : (marksX l).length = 2 * l.length := by unfold marksX; induction l with | nil => rfl | cons a l ih => rw [List.flatMap_cons, List.length_append, ih]; simp; omega
theorem marksY_len (l : List Box6) : (marksY l).length = 2 * l.length := by unfold marksY; induction l with | nil => rfl | cons a l ih => rw [List.flatMap_cons, List.length_append, ih]; simp; omega
end Go.Proofs.YtgjmfdhgeahdcaaGreat
/- The volume of a solid of boxes, as the program says it. -/
set_option linter.unusedVariables false
set_option linter.unusedSimpArgs false
namespace Go.Proofs.YtgjmfdhgeahdcaaGreat
open Go Go.RowKit Go.Sort Go.Lib

theorem ints_two (xs : List Int) (p q : Int) : (xs ++ [p, q]).map (Value.int .i64) = xs.map (Value.int .i64) ++ [.int .i64 p, .int .i64 q] := by simp
def VolCut (N : Nat) (w1 : World) (vb : Value) (bs : List Box6) (xs ys : List Int) (u : Nat → Value) (W : World) : Prop := ∃ vx vy, u 7 = vx ∧ u 8 = vy ∧ VolSt N w1 W vb vx vy bs xs ys
set_option maxRecDepth 100000 in
set_option maxHeartbeats 16000000 in
theorem volume_any (cells : List Cell) (a : Option Addr) (c : Nat) (w : World) (hcl : cells.length ≤ 9223372036854775807) (hv : Cells.V w a cells) (hpl : ∀ x ∈ cells, x.planes.length ≤ 1000000) :
    Calls Tryz.prog 8 #[.agg #[.slice a cells.length c]] w fun e w' => e = .returned (.tuple #[.int .i64 (volV cells), .int .i64 (volE cells)]) ∧ Below w.heap.size w w' := by
 have hmix : Tryz.prog.follows .mixedOrders = true := by kernel_rfl
 obtain ⟨i0, hi0, hz0, hz1, hz2⟩ := info_parts boxInfo
 obtain ⟨i1, hi1, hy0, hy1, hy2⟩ := info_parts intInfo
 have HT := Lib.hid (fun W (h : Below w.heap.size w W) => bodies_any cells a c W hcl (hv.keep h) hpl)
 obtain ⟨M, hM⟩ : ∃ M, M = volE cells := ⟨_, rfl⟩
 obtain ⟨T, hT⟩ : ∃ T, T = volV cells := ⟨_, rfl⟩
 rw [← hM, ← hT]
 have HM := Lib.hid (show M = if solE cells ≠ 0 then solE cells else if (cells.map (·.planes)).all (fun l => (boxO l).isSome) = true then 0 else 17 from hM)
 have HTV := Lib.hid (show T = if M = 0 then volB ((cells.map (·.planes)).map boxV) else 0 by rw [hT, hM]; rfl)
 have HCA := Lib.hid (chkCs_all (l := cells))
 have HSO := Lib.hid (show solE cells = 0 → chkCs cells = 0 from fun h => by unfold solE at h; split at h <;> first | exact h | omega)
 clear hv hpl hcl hM hT
 go_enter Tryz.func8, Tryz.ntmps8
 go_upto_region 1 with fail
 refine gen_world (fun W => W.cell? ⟨w.heap.size, 0, none⟩ = some (.slice a cells.length c) ∧ Below w.heap.size w W) ⟨by simp [go_sem], by repeat (first | (with_reducible assumption) | exact Below.refl _ _ | (refine Below.setCell ?_ (by first | omega | (simp; omega) | (simp; done)) _) | (refine Below.alloc ?_ (by first | omega | (simp; omega) | (simp; done)) _) | (refine Below.drew ?_))⟩ ?_
 rintro W ⟨b0, hb⟩
 have HB0 := Lib.hid hb
 have HTW := Lib.hid (HT.out W hb)
 clear hb
 go_upto_region 2 with (go_at_call 26; refine HTW.out.mono ?_; rintro e w1 ⟨v, rfl, hb, hr⟩; have HB1 := Lib.hid hb; obtain ⟨va, vn, vc, rfl⟩ := hr.shape; have HP := Lib.hid hr; clear hb hr)
 have HBW1 := Lib.hid (HB0.out.trans (HB1.out.mono HB0.out.size))
 clear b0
 by_cases h0 : solE cells = 0
 ·obtain ⟨L, hL1, hL2⟩ := HP.out.2 h0
  obtain ⟨e1, hbx⟩ := bods_of h0 hL1 hL2
  subst e1
  have HX := Lib.hid (show L.map (·.ps) = cells.map (·.planes) from hL1.ps)
  have HRE := Lib.hid (show ∀ r ∈ L, readE r.ps = 0 from fun r hr => by
   have : r.ps ∈ cells.map (·.planes) := by rw [← HX.out]; exact List.mem_map.2 ⟨r, hr, rfl⟩
   obtain ⟨x, hx, e⟩ := List.mem_map.1 this
   rw [← e]; exact HCA.out.1 (HSO.out h0) x hx)
  have HBX := Lib.hid hbx
  have hll := hbx.l
  have HM2 := Lib.hid (show M = if L.all (fun r => (boxO r.ps).isSome) = true then 0 else 17 by
   rw [HM.out, if_neg (by simpa using h0), ← HX.out, List.all_map]; rfl)
  have HTV2 := Lib.hid (show T = if M = 0 then volB (L.map fun r => boxV r.ps) else 0 by rw [HTV.out, ← HX.out, List.map_map]; rfl)
  rw [h0]
  clear hL1 hL2 h0 HP HT HTW HM HTV HCA HSO hbx
  go_wp2_with fail
  go_loopw [6, 7, 8, 26] (fun vb vx vy iv wr => ∃ (k : Nat) (bs : List Box6), k ≤ L.length ∧ iv = .int .i64 (k : Int) ∧ VolSt w1.heap.size w1 wr vb vx vy bs (marksX bs) (marksY bs) ∧ Hid (bs = (L.take k).map fun r => boxV r.ps) ∧ Hid ((L.take k).all (fun r => (boxO r.ps).isSome) = true)) (fun _ _ _ iv _ => L.length - (intOf iv).toNat)
  case atStart => exact ⟨0, [], Nat.zero_le _, rfl, ⟨⟨rfl, .inl ⟨rfl, rfl⟩⟩, ⟨rfl, .inl ⟨rfl, rfl⟩⟩, ⟨rfl, .inl ⟨rfl, rfl⟩⟩, (fun g h => by cases h), (fun g h => by cases h), (fun g h => by cases h), Below.refl _ _, Nat.le_refl _⟩, Lib.hid rfl, Lib.hid rfl⟩
  case round =>
   obtain ⟨k, bs, hk, rfl, hst, HBS, HAL⟩ := hrel
   have HST := Lib.hid hst
   obtain ⟨ba, bc, rfl, -, -⟩ := own_slice hst.ob
   obtain ⟨xa, xc, rfl, -, -⟩ := own_slice hst.ox
   obtain ⟨ya, yc, rfl, -, -⟩ := own_slice hst.oy
   have HN := Lib.hid hst.n
   have HBL := Lib.hid (show bs.length ≤ 100 by rw [HBS.out, List.length_map, List.length_take]; omega)
   by_cases hlt : k < L.length
   ·have hki : (k : Int) < (L.length : Int) := by omega
    obtain ⟨b1, off, rfl, hat⟩ := (HBX.out.v.keep (hst.b.mono (Nat.le_refl _))).at_ hlt
    have HBG := Lib.hid ((HBX.out.b _ (List.getElem_mem hlt)).1.keep hst.b)
    have HTK := Lib.hid (show (L.take (k + 1)) = L.take k ++ [L[k]] from List.take_succ_eq_append_getElem hlt)
    have HMEM := Lib.hid (show L[k] ∈ L from List.getElem_mem hlt)
    generalize L[k] = r at *
    obtain ⟨c0, c1⟩ := hat
    clear hst
    go_upto_region 9 with fail
    refine gen_world (fun W2 => W2.cell? ⟨wr.heap.size, 0, none⟩ = some (.slice r.pa r.ps.length r.pc) ∧ W2.cell? ⟨wr.heap.size, 1, none⟩ = some (.slice r.ca (corn r.ps).length r.cc) ∧ Below wr.heap.size wr W2) ⟨by simp [go_sem], by simp [go_sem], by repeat (first | (with_reducible assumption) | exact Below.refl _ _ | (refine Below.setCell ?_ (by first | omega | (simp; omega) | (simp; done)) _) | (refine Below.alloc ?_ (by first | omega | (simp; omega) | (simp; done)) _) | (refine Below.drew ?_))⟩ ?_
    rintro W2 ⟨x0, x1, hb2⟩
    have HB2 := Lib.hid hb2
    have HOF := Lib.hid (boxOf_any r W2 (HBG.out.keep hb2))
    obtain ⟨B, hB⟩ : ∃ B, B = boxV r.ps := ⟨_, rfl⟩
    have HBV := Lib.hid hB
    rw [← hB] at HOF
    clear hb2 hB c0 c1
    obtain ⟨g2, hg2⟩ : ∃ g, g = wr.heap.size := ⟨_, rfl⟩
    have HG2 := Lib.hid hg2
    rw [← hg2] at x0 x1 ⊢
    clear hg2
    go_upto_region 10 with (go_at_call 27; refine HOF.out.mono ?_; rintro e w3 ⟨rfl, hb⟩; have HB3 := Lib.hid hb; clear hb)
    have HBW3 := Lib.hid (HB2.out.trans (HB3.out.mono HB2.out.size))
    refine gen_world (fun W4 => BxC W4 w3.heap.size B.at_ ∧ Below w3.heap.size w3 W4) ⟨?_, by repeat (first | (with_reducible assumption) | exact Below.refl _ _ | (refine Below.setCell ?_ (by first | omega | (simp; omega) | (simp; done)) _) | (refine Below.alloc ?_ (by first | omega | (simp; omega) | (simp; done)) _) | (refine Below.drew ?_))⟩ ?_
    ·intro t ht
     match t, ht with
     | 0, _ => exact ⟨by simp [go_sem, Box6.at_], by simp [go_sem]⟩
     | 1, _ => exact ⟨by simp [go_sem, Box6.at_], by simp [go_sem]⟩
     | 2, _ => exact ⟨by simp [go_sem, Box6.at_], by simp [go_sem]⟩
     | 3, _ => exact ⟨by simp [go_sem, Box6.at_], by simp [go_sem]⟩
     | 4, _ => exact ⟨by simp [go_sem, Box6.at_], by simp [go_sem]⟩
     | 5, _ => exact ⟨by simp [go_sem, Box6.at_], by simp [go_sem]⟩
    rintro W4 ⟨hbx4, hb4⟩
    have HB4 := Lib.hid (show Below wr.heap.size wr W4 from HBW3.out.trans (hb4.mono HBW3.out.size))
    have HSG := Lib.hid (show VolG w1.heap.size w1 W4 (.slice ba bs.length bc) (.slice xa (marksX bs).length xc) (.slice ya (marksY bs).length yc) bs (marksX bs) (marksY bs) w3.heap.size B from
     ⟨HST.out.keep HB4.out, hbx4, fun e => by have := (own_lt HST.out.ob e).2; have := HBW3.out.size; omega, fun e => by have := (own_lt HST.out.ox e).2; have := HBW3.out.size; omega, fun e => by have := (own_lt HST.out.oy e).2; have := HBW3.out.size; omega⟩)
    have HBW1' := Lib.hid HST.out.b
    clear hbx4 hb4 x0 x1
    obtain ⟨g11, hg11⟩ : ∃ g, g = w3.heap.size := ⟨_, rfl⟩
    rw [← hg11] at HSG ⊢
    have HG11 := Lib.hid hg11
    clear hg11
    by_cases hE : boxE r.ps = 0
    ·rw [hE]
     have HOS := Lib.hid (boxE_some hE)
     clear hE
     go_upto_region 12 with fail
     have HSA := Lib.hid (HSG.out.keep ((Below.refl W4.heap.size W4).alloc (Nat.le_refl _) (.cells #[.int .i64 B.x1, .int .i64 B.y1, .int .i64 B.z1, .int .i64 B.x2, .int .i64 B.y2, .int .i64 B.z2] 75)))
     have HNW := Lib.hid (show ∀ j u, (cellsBx B)[j]? = some u → (W4.alloc (.cells #[.int .i64 B.x1, .int .i64 B.y1, .int .i64 B.z1, .int .i64 B.x2, .int .i64 B.y2, .int .i64 B.z2] 75)).cell? ((⟨W4.heap.size, 0, none⟩ : Addr).add j) = some u from news_of (cellsBx B) 75 W4 _ rfl)
     obtain ⟨q0, q1, q2, q3, q4, q5⟩ : (W4.cell? ⟨g11, 0, none⟩ = some (.int .i64 B.x1) ∧ W4.cell? ⟨g11, 1, none⟩ = some (.int .i64 B.y1) ∧ W4.cell? ⟨g11, 2, none⟩ = some (.int .i64 B.z1) ∧ W4.cell? ⟨g11, 3, none⟩ = some (.int .i64 B.x2) ∧ W4.cell? ⟨g11, 4, none⟩ = some (.int .i64 B.y2) ∧ W4.cell? ⟨g11, 5, none⟩ = some (.int .i64 B.z2)) := ⟨(HSG.out.c 0 (by decide)).1, (HSG.out.c 1 (by decide)).1, (HSG.out.c 2 (by decide)).1, (HSG.out.c 3 (by decide)).1, (HSG.out.c 4 (by decide)).1, (HSG.out.c 5 (by decide)).1⟩
     go_upto_region 13 with (at_builtin; refine wpList_append_here _ rfl _ _ 71 rfl w1.heap.size 75 i0 (.agg #[.int .i64 0, .int .i64 0, .int .i64 0, .int .i64 0, .int .i64 0, .int .i64 0]) 6 48 Tryz.underlying71 hi0 hz0 hz1 hz2 rfl (by decide) (.slice ba bs.length bc) bs.length (bs.flatMap cellsBx) rfl HSA.out.v.ob ⟨W4.heap.size, 0, none⟩ 1 1 (cellsBx B) rfl rfl HNW.out (cellsBx_one B) (by decide) (by have := HBL.out; simp only [maxLen]; omega) (by have := HBL.out; omega) HSA.out.v.n ?_; intro v' w5 ho hg hat; obtain ⟨ba', bc', rfl, -, -⟩ := own_slice ho; have HSB := Lib.hid (HSA.out.putB (bs' := bs ++ [B]) (by rw [List.flatMap_append, List.length_append]; simpa using ho) hg hat); clear ho hg hat)
     have HXL := Lib.hid (show (marksX bs).length ≤ 200 by have := HBL.out; rw [marksX_len]; omega)
     have HYL := Lib.hid (show (marksY bs).length ≤ 200 by have := HBL.out; rw [marksY_len]; omega)
     refine wp_cut_slots [42, 43, 44, 45, 46, 47, 48, 49, 50, 51, 52, 53, 54, 55, 7, 8] (VolCut w1.heap.size w1 (.slice ba' (bs.length + 1) bc') (bs ++ [B]) (marksX bs ++ [B.x1, B.x2]) (marksY bs ++ [B.y1, B.y2])) ?_ ?_
     ·have kx0 : ∀ y : KW (fun W' => BxC W' g11 B.at_), (y.w.cell? ⟨g11, 0, none⟩ = some (.int .i64 B.x1) ∧ y.w.cell? ⟨g11, 1, none⟩ = some (.int .i64 B.y1) ∧ y.w.cell? ⟨g11, 3, none⟩ = some (.int .i64 B.x2) ∧ y.w.cell? ⟨g11, 4, none⟩ = some (.int .i64 B.y2)) := fun y => ⟨(y.ok 0 (by decide)).1, (y.ok 1 (by decide)).1, (y.ok 3 (by decide)).1, (y.ok 4 (by decide)).1⟩
      haveI n1 : Nonempty (KW (fun W' => BxC W' g11 B.at_)) := ⟨⟨w5, HSB.out.c⟩⟩
      refine wp_region_tree (fun w' => ∃ y : KW (fun W' => BxC W' g11 B.at_), w' = y.w) 13 (.take 0 (.take 1 (.take 2 (.take 3 (.take 4 (.take 7 (.take 8 (.take 9 (.take 10 (.take 11 (.two 5 (.two 6 (.one 12 .done) 12 (.one 6 .done)) 12 (.one 5 (.one 6 .done))))))))))))) hmix (by kernel_rfl) (KW.mk' (HSB.out.keep (Below.refl _ _).drew).c) ?_
      have HS0 := Lib.hid (HSB.out.keep (Below.refl _ _).drew)
      clear q0 q1 q2 q3 q4 q5
      generalize w5.drew = ww0 at *
      repeat (refine wpTree_take ?_; simp only [nthOp]; (first | go_big_quiet_step (fail) | quiet_step (fail)); refine wpQuiet_nil ?_)
      refine wpTree_two ?_ ?_
      ·skip
       simp only [nthOp]
       go_wp2_with fail
       have HS1 := Lib.hid (HS0.out.keep ((Below.refl ww0.heap.size ww0).alloc (Nat.le_refl _) (.cells #[.int .i64 B.x1, .int .i64 B.x2] 3)))
       have HT1 := Lib.hid (Two.new ww0 B.x1 B.x2 3)
       refine One_mk (KW.mk' HS1.out.c) ?_
       generalize (ww0.alloc (.cells #[.int .i64 B.x1, .int .i64 B.x2] 3)) = ww1 at *
       generalize ww0.heap.size = gx at *
       refine wpTree_two ?_ ?_
       ·skip
        simp only [nthOp]
        go_wp2_with (at_builtin; refine wpList_append_here _ rfl _ _ 63 rfl w1.heap.size 3 i1 (.int .i64 0) 1 8 Tryz.underlying63 hi1 hy0 hy1 hy2 rfl (by decide) (.slice xa (marksX bs).length xc) (marksX bs).length ((marksX bs).map (Value.int .i64)) rfl HS1.out.v.ox ⟨gx, 0, none⟩ 2 2 [.int .i64 B.x1, .int .i64 B.x2] rfl rfl HT1.out (two_one _ _) (by decide) (by have := HXL.out; simp only [maxLen]; omega) (by have := HXL.out; omega) HS1.out.v.n ?_; intro v' ww2 ho hg hat; obtain ⟨xa', xc', rfl, -, -⟩ := own_slice ho; have HS2 := Lib.hid (HS1.out.putX (xs' := marksX bs ++ [B.x1, B.x2]) (by rw [ints_two, List.length_append]; exact ho) hg hat); clear ho hg hat)
        refine One_mk (KW.mk' HS2.out.c) ?_
        refine wpTree_one ?_
        simp only [nthOp]
        go_wp2_with fail
        have HS3 := Lib.hid (HS2.out.keep ((Below.refl ww2.heap.size ww2).alloc (Nat.le_refl _) (.cells #[.int .i64 B.y1, .int .i64 B.y2] 3)))
        have HT3 := Lib.hid (Two.new ww2 B.y1 B.y2 3)
        have HO3 := Lib.hid (show (Value.slice xa' ((marksX bs).length + 2) xc').ownBlock ≠ some ww2.heap.size from fun e => Nat.lt_irrefl _ (own_lt HS2.out.v.ox e).2)
        refine One_mk (KW.mk' HS3.out.c) ?_
        generalize (ww2.alloc (.cells #[.int .i64 B.y1, .int .i64 B.y2] 3)) = ww3 at *
        generalize ww2.heap.size = gy at *
        refine wpTree_done ?_
        simp only [List.drop_succ_cons, List.drop_zero]
        go_wp2_with (at_builtin; refine wpList_append_here _ rfl _ _ 63 rfl w1.heap.size 3 i1 (.int .i64 0) 1 8 Tryz.underlying63 hi1 hy0 hy1 hy2 rfl (by decide) (.slice ya (marksY bs).length yc) (marksY bs).length ((marksY bs).map (Value.int .i64)) rfl HS3.out.v.oy ⟨gy, 0, none⟩ 2 2 [.int .i64 B.y1, .int .i64 B.y2] rfl rfl HT3.out (two_one _ _) (by decide) (by have := HYL.out; simp only [maxLen]; omega) (by have := HYL.out; omega) HS3.out.v.n ?_; intro v' ww4 ho hg hat; have HS4 := Lib.hid (HS3.out.v.putY (ys' := marksY bs ++ [B.y1, B.y2]) (by rw [ints_two, List.length_append]; exact ho) hg hat); clear ho hg hat)
        refine NP_mk ?_
        exact cut_meet (by simp [forget]) ⟨_, _, rfl, rfl, HS4.out⟩
       ·skip
        simp only [nthOp]
        go_wp2_with fail
        have HS5 := Lib.hid (HS1.out.keep ((Below.refl ww1.heap.size ww1).alloc (Nat.le_refl _) (.cells #[.int .i64 B.y1, .int .i64 B.y2] 3)))
        have HT5 := Lib.hid (Two.new ww1 B.y1 B.y2 3)
        have HO5 := Lib.hid (show (Value.slice xa (marksX bs).length xc).ownBlock ≠ some ww1.heap.size from fun e => Nat.lt_irrefl _ (own_lt HS1.out.v.ox e).2)
        have HU5 := Lib.hid (HT1.out.keep ((Below.refl ww1.heap.size ww1).alloc (Nat.le_refl _) (.cells #[.int .i64 B.y1, .int .i64 B.y2] 3)))
        refine One_mk (KW.mk' HS5.out.c) ?_
        generalize (ww1.alloc (.cells #[.int .i64 B.y1, .int .i64 B.y2] 3)) = ww5 at *
        generalize ww1.heap.size = gy at *
        refine wpTree_one ?_
        simp only [nthOp]
        go_wp2_with (at_builtin; refine wpList_append_here _ rfl _ _ 63 rfl w1.heap.size 3 i1 (.int .i64 0) 1 8 Tryz.underlying63 hi1 hy0 hy1 hy2 rfl (by decide) (.slice xa (marksX bs).length xc) (marksX bs).length ((marksX bs).map (Value.int .i64)) rfl HS5.out.v.ox ⟨gx, 0, none⟩ 2 2 [.int .i64 B.x1, .int .i64 B.x2] rfl rfl HU5.out (two_one _ _) (by decide) (by have := HXL.out; simp only [maxLen]; omega) (by have := HXL.out; omega) HS5.out.v.n ?_; intro v' ww6 ho hg hat; obtain ⟨xa', xc', rfl, -, -⟩ := own_slice ho; have HS6 := Lib.hid (HS5.out.putX (xs' := marksX bs ++ [B.x1, B.x2]) (by rw [ints_two, List.length_append]; exact ho) hg hat); have HU6 := Lib.hid (HT5.out.grown hg HO5.out); clear ho hg hat)
        refine One_mk (KW.mk' HS6.out.c) ?_
        refine wpTree_done ?_
        simp only [List.drop_succ_cons, List.drop_zero]
        go_wp2_with (at_builtin; refine wpList_append_here _ rfl _ _ 63 rfl w1.heap.size 3 i1 (.int .i64 0) 1 8 Tryz.underlying63 hi1 hy0 hy1 hy2 rfl (by decide) (.slice ya (marksY bs).length yc) (marksY bs).length ((marksY bs).map (Value.int .i64)) rfl HS6.out.v.oy ⟨gy, 0, none⟩ 2 2 [.int .i64 B.y1, .int .i64 B.y2] rfl rfl HU6.out (two_one _ _) (by decide) (by have := HYL.out; simp only [maxLen]; omega) (by have := HYL.out; omega) HS6.out.v.n ?_; intro v' ww7 ho hg hat; have HS7 := Lib.hid (HS6.out.v.putY (ys' := marksY bs ++ [B.y1, B.y2]) (by rw [ints_two, List.length_append]; exact ho) hg hat); clear ho hg hat)
        refine NP_mk ?_
        exact cut_meet (by simp [forget]) ⟨_, _, rfl, rfl, HS7.out⟩
      ·skip
       simp only [nthOp]
       go_wp2_with fail
       have HS8 := Lib.hid (HS0.out.keep ((Below.refl ww0.heap.size ww0).alloc (Nat.le_refl _) (.cells #[.int .i64 B.y1, .int .i64 B.y2] 3)))
       have HT8 := Lib.hid (Two.new ww0 B.y1 B.y2 3)
       have HO8 := Lib.hid (show (Value.slice xa (marksX bs).length xc).ownBlock ≠ some ww0.heap.size from fun e => Nat.lt_irrefl _ (own_lt HS0.out.v.ox e).2)
       refine One_mk (KW.mk' HS8.out.c) ?_
       generalize (ww0.alloc (.cells #[.int .i64 B.y1, .int .i64 B.y2] 3)) = ww8 at *
       generalize ww0.heap.size = gy at *
       refine wpTree_one ?_
       simp only [nthOp]
       go_wp2_with fail
       have HS9 := Lib.hid (HS8.out.keep ((Below.refl ww8.heap.size ww8).alloc (Nat.le_refl _) (.cells #[.int .i64 B.x1, .int .i64 B.x2] 3)))
       have HT9 := Lib.hid (Two.new ww8 B.x1 B.x2 3)
       have HU9 := Lib.hid (HT8.out.keep ((Below.refl ww8.heap.size ww8).alloc (Nat.le_refl _) (.cells #[.int .i64 B.x1, .int .i64 B.x2] 3)))
       refine One_mk (KW.mk' HS9.out.c) ?_
       generalize (ww8.alloc (.cells #[.int .i64 B.x1, .int .i64 B.x2] 3)) = ww9 at *
       generalize ww8.heap.size = gx at *
       refine wpTree_one ?_
       simp only [nthOp]
       go_wp2_with (at_builtin; refine wpList_append_here _ rfl _ _ 63 rfl w1.heap.size 3 i1 (.int .i64 0) 1 8 Tryz.underlying63 hi1 hy0 hy1 hy2 rfl (by decide) (.slice xa (marksX bs).length xc) (marksX bs).length ((marksX bs).map (Value.int .i64)) rfl HS9.out.v.ox ⟨gx, 0, none⟩ 2 2 [.int .i64 B.x1, .int .i64 B.x2] rfl rfl HT9.out (two_one _ _) (by decide) (by have := HXL.out; simp only [maxLen]; omega) (by have := HXL.out; omega) HS9.out.v.n ?_; intro v' ww10 ho hg hat; obtain ⟨xa', xc', rfl, -, -⟩ := own_slice ho; have HS10 := Lib.hid (HS9.out.putX (xs' := marksX bs ++ [B.x1, B.x2]) (by rw [ints_two, List.length_append]; exact ho) hg hat); have HU10 := Lib.hid (HU9.out.grown hg HO8.out); clear ho hg hat)
       refine One_mk (KW.mk' HS10.out.c) ?_
       refine wpTree_done ?_
       simp only [List.drop_succ_cons, List.drop_zero]
       go_wp2_with (at_builtin; refine wpList_append_here _ rfl _ _ 63 rfl w1.heap.size 3 i1 (.int .i64 0) 1 8 Tryz.underlying63 hi1 hy0 hy1 hy2 rfl (by decide) (.slice ya (marksY bs).length yc) (marksY bs).length ((marksY bs).map (Value.int .i64)) rfl HS10.out.v.oy ⟨gy, 0, none⟩ 2 2 [.int .i64 B.y1, .int .i64 B.y2] rfl rfl HU10.out (two_one _ _) (by decide) (by have := HYL.out; simp only [maxLen]; omega) (by have := HYL.out; omega) HS10.out.v.n ?_; intro v' ww11 ho hg hat; have HS11 := Lib.hid (HS10.out.v.putY (ys' := marksY bs ++ [B.y1, B.y2]) (by rw [ints_two, List.length_append]; exact ho) hg hat); clear ho hg hat)
       refine NP_mk ?_
       exact cut_meet (by simp [forget]) ⟨_, _, rfl, rfl, HS11.out⟩
     rintro u W ⟨vx, vy, hu7, hu8, hst⟩
     have HSN := Lib.hid hst
     simp only [forget, List.foldl_cons, List.foldl_nil, hu7, hu8]
     clear hu7 hu8 hst
     have HBS2 := Lib.hid (show bs ++ [B] = (L.take (k + 1)).map fun r => boxV r.ps by rw [HTK.out, List.map_append, ← HBS.out, HBV.out]; rfl)
     have HAL2 := Lib.hid (show (L.take (k + 1)).all (fun r => (boxO r.ps).isSome) = true by rw [HTK.out, List.all_append, HAL.out]; simp [HOS.out])
     go_wp2_with fail
     go_roundw
     case rel => exact ⟨k + 1, bs ++ [B], by omega, by go_num, by rw [marksX_append, marksY_append]; exact HSN.out, HBS2, HAL2⟩
     case measure => first | (simp [intOf]; done) | (simp [intOf]; omega)
    ·obtain ⟨hE1, hE2⟩ := boxE_none hE
     have HOS := Lib.hid hE2
     rw [hE1]
     clear hE hE1 hE2
     have HME := Lib.hid (show M = 17 by
      rw [HM2.out, if_neg]
      rw [List.all_eq_true]
      intro h
      have := h _ HMEM.out
      rw [HOS.out] at this
      cases this)
     have HTE := Lib.hid (show T = 0 by rw [HTV2.out, if_neg (by rw [HME.out]; decide)])
     go_wp2_with fail
     refine bodyPost_ret (v := .tuple #[.int .i64 0, .int .i64 17]) (by simp [results, Tryz.results8, go_sem]) rfl ⟨by rw [HME.out, HTE.out], HBW1.out.trans ((HBW1'.out.trans (HB4.out.mono HST.out.n)).mono HBW1.out.size)⟩
   ·obtain rfl : k = L.length := by omega
    have hki : ¬ ((L.length : Nat) : Int) < ((L.length : Nat) : Int) := by omega
    have HBSL := Lib.hid (show bs = L.map fun r => boxV r.ps by rw [HBS.out, List.take_length])
    have HALL := Lib.hid (show L.all (fun r => (boxO r.ps).isSome) = true by have := HAL.out; rwa [List.take_length] at this)
    have HME := Lib.hid (show M = 0 by rw [HM2.out, if_pos HALL.out])
    have HTE := Lib.hid (show T = volB bs by rw [HTV2.out, if_pos HME.out, HBSL.out])
    have HXL := Lib.hid (show (marksX bs).length < 1000000 by have := HBL.out; rw [marksX_len]; omega)
    have HYL := Lib.hid (show (marksY bs).length < 1000000 by have := HBL.out; rw [marksY_len]; omega)
    have HOK := Lib.hid (show ∀ b ∈ bs, b.ok from fun b hb => by
     rw [HBSL.out] at hb
     obtain ⟨r, hr, rfl⟩ := List.mem_map.1 hb
     have h1 := List.all_eq_true.1 HALL.out r hr
     obtain ⟨B, hB⟩ := Option.isSome_iff_exists.1 h1
     have : boxV r.ps = B := by unfold boxV; rw [hB]; rfl
     rw [this]
     exact (box_of (HRE.out r hr) hB).2.ok)
    clear hst HBS HAL
    have HMX := Lib.hid (marks_any w1.heap.size xa xc (marksX bs) wr HST.out.ox HXL.out)
    go_upto_region 16 with (first
     | (have h := HMX.out; clear HMX; go_at_call 28; refine h.mono ?_; clear h; rintro e w6 ⟨rfl, hmv, hmg⟩; have HMV := Lib.hid hmv; have HOY := Lib.hid (HST.out.oy.kept hmg HST.out.xy.symm.hne); have HOB := Lib.hid (HST.out.ob.kept hmg HST.out.bx.hne); have HBW6 := Lib.hid (below_grown HST.out.b hmg HST.out.n fun k hk => (own_lt HST.out.ox hk).1); have HZ6 := Lib.hid (Nat.le_trans HST.out.n hmg.size); clear hmv hmg; have HMY := Lib.hid (marks_any w1.heap.size ya yc (marksY bs) w6 HOY.out HYL.out))
     | (have h := HMY.out; clear HMY; go_at_call 28; refine h.mono ?_; clear h; rintro e w7 ⟨rfl, hnv, hng⟩; have HNV := Lib.hid hnv; have HOB7 := Lib.hid (HOB.out.kept hng HST.out.bY.hne); have HBW7 := Lib.hid (below_grown HBW6.out hng HZ6.out fun k hk => (own_lt HOY.out hk).1); have HMV7 := Lib.hid (HMV.out.grown2 hng HST.out.xy.hne); clear hnv hng))
    have HBX7 := Lib.hid (ownBxV HOB7.out)
    have HBWA := Lib.hid (HBW1.out.trans (HBW7.out.mono HBW1.out.size))
    obtain ⟨X, hX⟩ : ∃ X, X = uniq (marksX bs) := ⟨_, rfl⟩
    obtain ⟨Y, hY⟩ : ∃ Y, Y = uniq (marksY bs) := ⟨_, rfl⟩
    have HXA := Lib.hid (show X.Pairwise (· < ·) by rw [hX]; exact uniq_asc _)
    have HYA := Lib.hid (show Y.Pairwise (· < ·) by rw [hY]; exact uniq_asc _)
    have HXM := Lib.hid (show ∀ z, z ∈ X ↔ z ∈ marksX bs from fun z => by rw [hX]; exact uniq_mem)
    have HYM := Lib.hid (show ∀ z, z ∈ Y ↔ z ∈ marksY bs from fun z => by rw [hY]; exact uniq_mem)
    rw [← hX] at HMV7 ⊢
    rw [← hY] at HNV ⊢
    have HXE := Lib.hid (show X.length ≤ 1000000 by rw [hX]; have := uniq_length (marksX bs); have := HXL.out; omega)
    have HYE := Lib.hid (show Y.length ≤ 1000000 by rw [hY]; have := uniq_length (marksY bs); have := HYL.out; omega)
    have HXB := Lib.hid (show ∀ z ∈ X, -300000 ≤ z ∧ z ≤ 300000 from fun z hz => (marks_bd HOK.out).1 z ((HXM.out z).1 hz))
    have HYB := Lib.hid (show ∀ z ∈ Y, -300000 ≤ z ∧ z ≤ 300000 from fun z hz => (marks_bd HOK.out).2.1 z ((HYM.out z).1 hz))
    have HHB := Lib.hid (show ∀ x y, 0 ≤ hAt bs x y ∧ hAt bs x y ≤ 600000 from fun x y => hgt_bd _)
    have HVOL := Lib.hid (show volI X Y (hAt bs) (X.length - 1) = volB bs from volI_vol HOK.out HXA.out HXM.out HYA.out HYM.out)
    have HYP := Lib.hid (show X ≠ [] → 1 ≤ Y.length from fun hne => by
     obtain ⟨z, hz⟩ := List.exists_mem_of_ne_nil _ hne
     obtain ⟨b, hb, -⟩ := List.mem_flatMap.1 ((HXM.out z).1 hz)
     exact List.length_pos_iff.2 (List.ne_nil_of_mem ((HYM.out b.y1).2 (List.mem_flatMap.2 ⟨b, hb, by simp⟩))))
    have HHE := Lib.hid (fun (x y : Int) W (h : Below w7.heap.size w7 W) => heights_any bs ba bc x y W (HBX7.out.keep h) (by have := HBL.out; omega) (fun b hb => (HOK.out b hb).z))
    clear hX hY
    go_wp2_with fail
    go_loopw [13, 14] (fun sv iv wr => ∃ (i : Nat), iv = .int .i64 (i : Int) ∧ sv = .int .i64 (volI X Y (hAt bs) i) ∧ Hid (i = 0 ∨ i + 1 ≤ X.length) ∧ Below w7.heap.size w7 wr) (fun _ iv _ => X.length - (intOf iv).toNat)
    case atStart => exact ⟨0, rfl, rfl, Lib.hid (.inl rfl), Below.refl _ _⟩
    case round =>
     obtain ⟨i, rfl, rfl, HIL, hb⟩ := hrel
     have HBI := Lib.hid hb
     have hxe := HXE.out
     have v1 : IntKind.i64.wrap ((i : Int) + 1) = ((i + 1 : Nat) : Int) := by
      have := HIL.out
      rw [show (i : Int) + 1 = ((i + 1 : Nat) : Int) by omega]; exact IntWalk.i64_in _ (by omega)
     by_cases hlt : i + 1 < X.length
     ·have hki : ((i + 1 : Nat) : Int) < (X.length : Int) := by omega
      obtain ⟨wo, hwo⟩ : ∃ wo : World, wo = wr := ⟨_, rfl⟩
      subst hwo
      clear hb
      have HSI := Lib.hid (show 0 ≤ volI X Y (hAt bs) i ∧ volI X Y (hAt bs) i ≤ 216000000000000000 from volI_le HXA.out HXB.out HYA.out HYB.out (HYP.out (List.ne_nil_of_length_pos (by omega))) HHB.out (by omega))
      have HSS := Lib.hid (show volI X Y (hAt bs) (i + 1) = volI X Y (hAt bs) i + volK Y (X.getD (i + 1) 0 - X.getD i 0) (hAt bs (X.getD i 0)) (Y.length - 1) from rfl)
      have HX1 := Lib.hid (getD_bd HXB.out i)
      have HX2 := Lib.hid (getD_bd HXB.out (i + 1))
      have HXLT := Lib.hid (next_lt HXA.out hlt)
      obtain ⟨xb, xo, rfl, hxc⟩ := HMV7.out (List.ne_nil_of_length_pos (by omega))
      have cx0 := hxc i _ (List.getElem?_eq_getElem (by omega))
      have cx1 := hxc (i + 1) _ (List.getElem?_eq_getElem hlt)
      rw [show X[i] = X.getD i 0 by simp [List.getD, (show i < X.length by omega)]] at cx0
      rw [show X[i + 1] = X.getD (i + 1) 0 by simp [List.getD, hlt]] at cx1
      have HCX0 := Lib.hid cx0
      have HCX1 := Lib.hid cx1
      clear hxc cx0 cx1
      generalize volI X Y (hAt bs) i = SI at *
      generalize X.getD (i + 1) 0 = x2 at *
      generalize X.getD i 0 = x1 at *
      go_wp2_with fail
      go_loopw [13, 15] (fun sv kv wr => ∃ (k : Nat), kv = .int .i64 (k : Int) ∧ sv = .int .i64 (SI + volK Y (x2 - x1) (hAt bs x1) k) ∧ Hid (k = 0 ∨ k + 1 ≤ Y.length) ∧ Below wo.heap.size wo wr) (fun _ kv _ => Y.length - (intOf kv).toNat)
      case atStart => exact ⟨0, rfl, by simp [volK], Lib.hid (.inl rfl), Below.refl _ _⟩
      case round =>
       obtain ⟨k, rfl, rfl, HKL, hb⟩ := hrel
       have HBK := Lib.hid hb
       have HBWK := Lib.hid (HBI.out.trans (hb.mono HBI.out.size))
       have hye := HYE.out
       have v2 : IntKind.i64.wrap ((k : Int) + 1) = ((k + 1 : Nat) : Int) := by
        have := HKL.out
        rw [show (k : Int) + 1 = ((k + 1 : Nat) : Int) by omega]; exact IntWalk.i64_in _ (by omega)
       by_cases hlt2 : k + 1 < Y.length
       ·have hkk : ((k + 1 : Nat) : Int) < (Y.length : Int) := by omega
        have HY1 := Lib.hid (getD_bd HYB.out k)
        have HY2 := Lib.hid (getD_bd HYB.out (k + 1))
        have HYLT := Lib.hid (next_lt HYA.out hlt2)
        obtain ⟨yb, yo, rfl, hyc⟩ := HNV.out (List.ne_nil_of_length_pos (by omega))
        have cy0 := hyc k _ (List.getElem?_eq_getElem (by omega))
        have cy1 := hyc (k + 1) _ (List.getElem?_eq_getElem hlt2)
        rw [show Y[k] = Y.getD k 0 by simp [List.getD, (show k < Y.length by omega)]] at cy0
        rw [show Y[k + 1] = Y.getD (k + 1) 0 by simp [List.getD, hlt2]] at cy1
        have dy0 := cell_keep HBWK.out cy0
        have dy1 := cell_keep HBWK.out cy1
        have dx0 := cell_keep HBWK.out HCX0.out
        have dx1 := cell_keep HBWK.out HCX1.out
        have HVK := Lib.hid (volK_le HYA.out HYB.out (dx := x2 - x1) (by have := HXLT.out; omega) (HHB.out x1) (k := k) (by omega))
        have HVS := Lib.hid (show volK Y (x2 - x1) (hAt bs x1) (k + 1) = volK Y (x2 - x1) (hAt bs x1) k + (x2 - x1) * (Y.getD (k + 1) 0 - Y.getD k 0) * hAt bs x1 (Y.getD k 0) from rfl)
        have HHT := Lib.hid (HHE.out x1 (Y.getD k 0))
        have HH0 := Lib.hid (HHB.out x1 (Y.getD k 0))
        rw [show hgt (bs.filter (atB x1 (Y.getD k 0))) = hAt bs x1 (Y.getD k 0) from rfl] at HHT
        clear hyc cy0 cy1 hb
        generalize hAt bs x1 (Y.getD k 0) = H at *
        generalize volK Y (x2 - x1) (hAt bs x1) k = VK at *
        generalize Y.getD (k + 1) 0 = y2 at *
        generalize Y.getD k 0 = y1 at *
        obtain ⟨D1, hD1⟩ : ∃ D, D = x2 - x1 := ⟨_, rfl⟩
        obtain ⟨D2, hD2⟩ : ∃ D, D = y2 - y1 := ⟨_, rfl⟩
        have bx1 := HX1.out
        have bx2 := HX2.out
        have by1 := HY1.out
        have by2 := HY2.out
        have bxl := HXLT.out
        have byl := HYLT.out
        have bh := HH0.out
        have bv := HVK.out
        have bs1 := HSI.out
        have d1 : IntKind.i64.wrap (x2 - x1) = D1 := by rw [hD1]; exact IntWalk.i64_in _ (by omega)
        have d2 : IntKind.i64.wrap (y2 - y1) = D2 := by rw [hD2]; exact IntWalk.i64_in _ (by omega)
        have m1 := mul_le (a := D1) (b := D2) (A := 600000) (B := 600000) (by omega) (by omega) (by omega) (by omega)
        obtain ⟨P1, hP1⟩ : ∃ P, P = D1 * D2 := ⟨_, rfl⟩
        rw [← hP1] at m1
        have p1 : IntKind.i64.wrap (D1 * D2) = P1 := by rw [← hP1]; exact IntWalk.i64_in _ (by omega)
        have m2 := mul_le (a := P1) (b := H) (A := 360000000000) (B := 600000) m1.1 bh.1 (by omega) bh.2
        obtain ⟨P2, hP2⟩ : ∃ P, P = P1 * H := ⟨_, rfl⟩
        rw [← hP2] at m2
        have p2 : IntKind.i64.wrap (P1 * H) = P2 := by rw [← hP2]; exact IntWalk.i64_in _ (by omega)
        have p3 : IntKind.i64.wrap (SI + VK + P2) = SI + VK + P2 := IntWalk.i64_in _ (by omega)
        have HEND := Lib.hid (show SI + VK + P2 = SI + volK Y (x2 - x1) (hAt bs x1) (k + 1) by rw [HVS.out, hP2, hP1, hD1, hD2]; omega)
        have hl0 := block_lt_of_cell dx0
        have hl1 := block_lt_of_cell dy0
        simp only at hl0 hl1
        clear hD1 hD2 hP1 hP2 m1 m2 bx1 bx2 by1 by2 bxl byl bh bv bs1
        go_upto_region 23 with fail
        refine wp_region_grew (by kernel_rfl) (by kernel_rfl) ?_
        repeat (first
         | go_big_quiet_step ((go_at_call 29; exact grew_of (HHT.out _ (grewB HBWK.out HBWK.out.size _))))
         | quiet_step ((go_at_call 29; exact grew_of (HHT.out _ (grewB HBWK.out HBWK.out.size _)))))
        refine wpQuiet_nil ?_
        rintro _ ⟨gg, rfl⟩
        have HFB := Lib.hid (show Below wo.heap.size wo (grew wr gg) from grewB HBK.out HBK.out.size _)
        go_wp2_with fail
        go_roundw
        case rel => exact ⟨k + 1, by first | rfl | go_num, by rw [HEND.out], Lib.hid (.inr (by omega)), HFB.out⟩
        case measure => first | (simp [intOf]; done) | (simp [intOf]; omega)
       ·have hkk : ¬ ((k + 1 : Nat) : Int) < (Y.length : Int) := by omega
        have HKE := Lib.hid (show k = Y.length - 1 by have := HKL.out; omega)
        have HSE := Lib.hid (show SI + volK Y (x2 - x1) (hAt bs x1) k = volI X Y (hAt bs) (i + 1) by rw [HSS.out, HKE.out])
        clear hb
        go_wp2_with fail
        go_roundw
        case rel => exact ⟨i + 1, by first | rfl | go_num, by rw [HSE.out], Lib.hid (.inr (by omega)), HBWK.out⟩
        case measure => first | (simp [intOf]; done) | (simp [intOf]; omega)
     ·have hki : ¬ ((i + 1 : Nat) : Int) < (X.length : Int) := by omega
      have HIE := Lib.hid (show i = X.length - 1 by have := HIL.out; omega)
      have HTE2 := Lib.hid (show T = volI X Y (hAt bs) i by rw [HTE.out, HIE.out, HVOL.out])
      clear hb
      go_wp2_with fail
      refine bodyPost_ret (v := .tuple #[.int .i64 (volI X Y (hAt bs) i), .int .i64 0]) (by simp [results, Tryz.results8, go_sem]) rfl ⟨by rw [HME.out, HTE2.out], HBWA.out.trans (HBI.out.mono HBWA.out.size)⟩
 ·have HME := Lib.hid (show M = solE cells by rw [HM.out, if_pos (by simpa using h0)])
  have HTE := Lib.hid (show T = 0 by rw [HTV.out, if_neg (by rw [HME.out]; exact h0)])
  obtain ⟨rfl, rfl, rfl⟩ : va = none ∧ vn = 0 ∧ vc = 0 := by have := HP.out.1 h0; injection this with e1 e2 e3; exact ⟨e1, e2, e3⟩
  generalize solE cells = E at *
  go_wp2_with fail
  refine bodyPost_ret (v := .tuple #[.int .i64 0, .int .i64 E]) (by simp [results, Tryz.results8, go_sem]) rfl ⟨by rw [HME.out, HTE.out], HBW1.out⟩
end Go.Proofs.YtgjmfdhgeahdcaaGreat
/- Three examples of the document: awake. -/
set_option linter.unusedVariables false
set_option linter.unusedSimpArgs false
namespace Go.Proofs.YtgjmfdhgeahdcaaGreat
open Go Go.RowKit Go.Sort Go.Lib

def exP : List Pl := [⟨-1, 0, 0, 0⟩, ⟨0, -1, 0, 0⟩, ⟨0, 0, -1, 0⟩, ⟨0, 0, 1, 4⟩, ⟨0, 1, 0, 3⟩, ⟨1, 0, 0, 2⟩]
theorem ex_box : boxO (cubeP 0 2) = some ⟨0, 0, 0, 2, 2, 2⟩ := by decide +kernel
theorem ex_volE : volE [⟨cubeP 0 2⟩] = 0 := by decide +kernel
theorem ex_volV : volV [⟨cubeP 0 2⟩] = 8 := by
 unfold volV
 rw [if_pos ex_volE]
 show volB [boxV (cubeP 0 2)] = 8
 have : boxV (cubeP 0 2) = ⟨0, 0, 0, 2, 2, 2⟩ := by unfold boxV; rw [ex_box]; rfl
 rw [this, volB_one ⟨by decide, by decide, by unfold Box6.zok; decide⟩ (by decide) (by decide)]
 rfl
theorem ex_minE : minE [⟨cubeP 0 2⟩] [⟨cubeP 1 3⟩] = 0 := by decide +kernel
theorem ex_left : (leftM [cubeP 1 3] [] [cubeP 0 2]).map List.length = some 3 := by decide +kernel
theorem ex_len {l : List (List Pl)} {L : List BR} (h1 : leftM [cubeP 1 3] [] [cubeP 0 2] = some l) (h2 : L.map (·.ps) = l) : L.length = 3 := by
 have h3 := ex_left
 rw [h1] at h3
 injection h3 with h3
 rw [← h2, List.length_map] at h3
 exact h3
theorem ex_read : readE exP = 0 := by decide +kernel
theorem ex_corn : (cornE exP).length = 8 := by decide +kernel
theorem ex_last : (cornE exP)[7]? = some ⟨2, 3, 4, 1⟩ := by decide +kernel
theorem ex_pls (w : World) : Pls.V (w.alloc (.cells #[.int .i64 (-1), .int .i64 0, .int .i64 0, .int .i64 0, .int .i64 0, .int .i64 (-1), .int .i64 0, .int .i64 0, .int .i64 0, .int .i64 0, .int .i64 (-1), .int .i64 0, .int .i64 0, .int .i64 0, .int .i64 1, .int .i64 4, .int .i64 0, .int .i64 1, .int .i64 0, .int .i64 3, .int .i64 1, .int .i64 0, .int .i64 0, .int .i64 2] 43)) (some ⟨w.heap.size, 0, none⟩) exP := fun _ => ⟨w.heap.size, 0, rfl, fun j y hj => by
 match j, hj with
 | 0, hj | 1, hj | 2, hj | 3, hj | 4, hj | 5, hj =>
  simp [exP] at hj
  subst hj
  exact ⟨by simp [go_sem], by simp [go_sem], by simp [go_sem], by simp [go_sem], by unfold Pl.wf; simp only; omega⟩
 | j + 6, hj => simp [exP] at hj⟩
set_option maxRecDepth 100000 in
set_option maxHeartbeats 8000000 in
theorem awake_any (w : World) : Calls Tryz.prog 4 #[] w fun e w' => e = .returned (.bool true) ∧ Below w.heap.size w w' := by
 have HC1 := Lib.hid (fun W => cube_any 0 2 (by decide) (by decide) W)
 have HC2 := Lib.hid (fun W => cube_any 0 2 (by decide) (by decide) W)
 have HC3 := Lib.hid (fun W => cube_any 1 3 (by decide) (by decide) W)
 go_enter Tryz.func4, Tryz.ntmps4
 go_upto_region 2 with (first
  | (have h := HC1.out; clear HC1; go_at_call 9; refine (h _).mono ?_; clear h; rintro e w1 ⟨g1, rfl, hv1, hb1⟩; have HB1 := Lib.hid hb1; have HVO := Lib.hid (show Calls Tryz.prog 8 #[.agg #[.slice (some ⟨g1, 0, none⟩) 1 1]] w1 _ from volume_any [⟨cubeP 0 2⟩] (some ⟨g1, 0, none⟩) 1 w1 (by decide) hv1 (by intro x hx; simp only [List.mem_singleton] at hx; subst hx; decide)); rw [ex_volE, ex_volV] at HVO; clear hv1 hb1)
  | (have h := HVO.out; clear HVO; go_at_call 8; refine h.mono ?_; clear h; rintro e w2 ⟨rfl, hb2⟩; have HB2 := Lib.hid (HB1.out.trans (hb2.mono HB1.out.size)); clear hb2))
 go_upto_region 3 with (first
  | (have h := HC2.out; clear HC2; go_at_call 9; refine (h _).mono ?_; clear h; rintro e w3 ⟨g3, rfl, hv3, hb3⟩; have HV3 := Lib.hid hv3; have HB3 := Lib.hid (HB2.out.trans (hb3.mono HB2.out.size)); clear hv3 hb3)
  | (have h := HC3.out; clear HC3; go_at_call 9; refine (h _).mono ?_; clear h; rintro e w4 ⟨g4, rfl, hv4, hb4⟩; have HB4 := Lib.hid (HB3.out.trans (hb4.mono HB3.out.size)); have HMI := Lib.hid (show Calls Tryz.prog 10 #[.agg #[.slice (some ⟨g3, 0, none⟩) 1 1], .agg #[.slice (some ⟨g4, 0, none⟩) 1 1]] w4 _ from minus_any [⟨cubeP 0 2⟩] [⟨cubeP 1 3⟩] (some ⟨g3, 0, none⟩) 1 (some ⟨g4, 0, none⟩) 1 w4 (by decide) (HV3.out.keep hb4) (by intro x hx; simp only [List.mem_singleton] at hx; subst hx; decide) (by decide) hv4 (by intro x hx; simp only [List.mem_singleton] at hx; subst hx; decide)); rw [ex_minE] at HMI; clear hv4 hb4)
  | (have h := HMI.out; clear HMI; go_at_call 10; refine h.mono ?_; clear h; rintro e w5 ⟨v, rfl, hb5, -, hn⟩; obtain ⟨l, hl1, ⟨L, hl2, -, hl3⟩⟩ := hn (by first | rfl | trivial); have hl4 := ex_len hl1 hl2; obtain ⟨va, vc, rfl, -, -⟩ := own_slice hl3; rw [hl4]; have HB5 := Lib.hid (HB4.out.trans (hb5.mono HB4.out.size)); clear hb5 hn hl1 hl2 hl3 hl4))
 refine gen_world (fun W => W.cell? ⟨w5.heap.size, 0, none⟩ = some (.slice va 3 vc) ∧ Below w5.heap.size w5 W) ⟨by simp [go_sem], by repeat (first | (with_reducible assumption) | exact Below.refl _ _ | (refine Below.setCell ?_ (by first | omega | (simp; omega) | (simp; done)) _) | (refine Below.alloc ?_ (by first | omega | (simp; omega) | (simp; done)) _) | (refine Below.drew ?_))⟩ ?_
 rintro W ⟨x0, hb⟩
 have HBW := Lib.hid (HB5.out.trans (hb.mono HB5.out.size))
 have HX0 := Lib.hid x0
 have HCO := Lib.hid (show Calls Tryz.prog 11 #[.agg #[.slice (some ⟨W.heap.size, 0, none⟩) 6 6]] (W.alloc (.cells #[.int .i64 (-1), .int .i64 0, .int .i64 0, .int .i64 0, .int .i64 0, .int .i64 (-1), .int .i64 0, .int .i64 0, .int .i64 0, .int .i64 0, .int .i64 (-1), .int .i64 0, .int .i64 0, .int .i64 0, .int .i64 1, .int .i64 4, .int .i64 0, .int .i64 1, .int .i64 0, .int .i64 3, .int .i64 1, .int .i64 0, .int .i64 0, .int .i64 2] 43)) _ from corners_any exP (some ⟨W.heap.size, 0, none⟩) 6 _ (by decide) (ex_pls W) (by decide))
 rw [ex_read] at HCO
 clear hb x0
 generalize w5.heap.size = g5 at *
 go_upto_region 4 with (go_at_call 11; refine HCO.out.mono ?_; rintro e w6 ⟨ca, cc, rfl, ho, hb6⟩; have HO := Lib.hid ho; have HB6 := Lib.hid hb6; clear ho hb6)
 have hx := cell_keep (HB6.out.mono (by simp)) (cell_keep ((Below.refl W.heap.size W).alloc (Nat.le_refl _) (.cells #[.int .i64 (-1), .int .i64 0, .int .i64 0, .int .i64 0, .int .i64 0, .int .i64 (-1), .int .i64 0, .int .i64 0, .int .i64 0, .int .i64 0, .int .i64 (-1), .int .i64 0, .int .i64 0, .int .i64 0, .int .i64 1, .int .i64 4, .int .i64 0, .int .i64 1, .int .i64 0, .int .i64 3, .int .i64 1, .int .i64 0, .int .i64 0, .int .i64 2] 43)) HX0.out)
 have HBE := Lib.hid (HBW.out.trans ((((Below.refl W.heap.size W).alloc (Nat.le_refl _) (.cells #[.int .i64 (-1), .int .i64 0, .int .i64 0, .int .i64 0, .int .i64 0, .int .i64 (-1), .int .i64 0, .int .i64 0, .int .i64 0, .int .i64 0, .int .i64 (-1), .int .i64 0, .int .i64 0, .int .i64 0, .int .i64 1, .int .i64 4, .int .i64 0, .int .i64 1, .int .i64 0, .int .i64 3, .int .i64 1, .int .i64 0, .int .i64 0, .int .i64 2] 43)).trans (HB6.out.mono (by simp))).mono HBW.out.size))
 obtain ⟨g, cap, he, -, -, -, -, -, hc⟩ := own_cells cellsCo_len HO.out (by intro e; have := ex_corn; rw [e] at this; cases this) (by decide)
 have hn8 := ex_corn
 have hl7 := ex_last
 rw [List.getElem?_eq_getElem (by omega)] at hl7
 injection hl7 with hl7
 have hz7 := hc 7 (by omega)
 rw [hl7] at hz7
 have z0 := (hz7 0 (by decide)).1
 have z1 := (hz7 1 (by decide)).1
 have z2 := (hz7 2 (by decide)).1
 have z3 := (hz7 3 (by decide)).1
 injection he with e1 e2 e3
 subst e1 e3
 rw [hn8]
 simp only [cellsCo, List.getElem?_cons_zero, List.getElem?_cons_succ, Nat.reduceMul, Nat.reduceAdd] at z0 z1 z2 z3
 clear hz7 hl7 hc hn8 e2
 go_wp2_with fail
 go_ret
 exact ⟨rfl, HBE.out⟩
end Go.Proofs.YtgjmfdhgeahdcaaGreat
