/- Prisms (plain). -/
import Derived.Test.YtgjmfdhgeahdcaaGreatQD
import Derived.Test.YtgjmfdhgeahdcaaGreatO1
import Derived.Test.YtgjmfdhgeahdcaaGreatQN
import Derived.Test.YtgjmfdhgeahdcaaGreatQH
import Derived.Test.YtgjmfdhgeahdcaaGreatQB
import Derived.Test.YtgjmfdhgeahdcaaGreatQX
set_option linter.unusedVariables false
set_option linter.unusedSimpArgs false
namespace Go.Proofs.YtgjmfdhgeahdcaaGreat

def pt0 : Pt := ⟨0, 0⟩
def nxt (l : List Pt) (i : Nat) : Pt := l.getD ((i + 1) % l.length) pt0
def crsP (p q r : Pt) : Int := (q.x - p.x) * (r.y - p.y) - (q.y - p.y) * (r.x - p.x)
def leftB (l : List Pt) (i k : Nat) : Bool := decide (k = i) || (decide (k = (i + 1) % l.length) || decide (0 < crsP (l.getD i pt0) (nxt l i) (l.getD k pt0)))
def cvxI (l : List Pt) (i n : Nat) : Bool := (List.range n).all fun k => leftB l i k
def cvxN (l : List Pt) (n : Nat) : Bool := (List.range n).all fun i => cvxI l i l.length
def cvxB (l : List Pt) : Bool := cvxN l l.length
theorem cvxI_succ (l : List Pt) (i n : Nat) : cvxI l i (n + 1) = (cvxI l i n && leftB l i n) := by unfold cvxI; rw [List.range_succ, List.all_append]; simp
theorem cvxN_succ (l : List Pt) (n : Nat) : cvxN l (n + 1) = (cvxN l n && cvxI l n l.length) := by unfold cvxN; rw [List.range_succ, List.all_append]; simp
theorem cvxI_false {l : List Pt} {i k : Nat} (hk : k < l.length) (h : leftB l i k = false) : cvxI l i l.length = false := by
 unfold cvxI
 rw [List.all_eq_false]
 exact ⟨k, List.mem_range.2 hk, by simp [h]⟩
theorem cvxB_false {l : List Pt} {i : Nat} (hi : i < l.length) (h : cvxI l i l.length = false) : cvxB l = false := by
 unfold cvxB cvxN
 rw [List.all_eq_false]
 exact ⟨i, List.mem_range.2 hi, by simp [h]⟩
def sgP (p q : Pt) : Nat := Nat.gcd (q.x - p.x).natAbs (q.y - p.y).natAbs
def snx (p q : Pt) : Int := (q.x - p.x).tdiv (sgP p q : Int)
def sny (p q : Pt) : Int := (q.y - p.y).tdiv (sgP p q : Int)
def bigB (p q : Pt) : Bool := !(withinB (snx p q) (-8) 8 && withinB (sny p q) (-8) 8)
def alg (axis : Nat) (u v c d : Int) : Pl := if axis = 0 then ⟨c, u, v, d⟩ else if axis = 1 then ⟨v, c, u, d⟩ else ⟨u, v, c, d⟩
def sideP (axis : Nat) (p q : Pt) : Pl := alg axis (sny p q) (-(snx p q)) 0 (sny p q * p.x - snx p q * p.y)
def capsP (axis : Nat) (e0 e1 : Int) : List Pl := [alg axis 0 0 (-1) (-e0), alg axis 0 0 1 e1]
def sidesP (axis : Nat) (l : List Pt) (n : Nat) : List Pl := (List.range n).map fun i => sideP axis (l.getD i pt0) (nxt l i)
theorem sidesP_succ (axis : Nat) (l : List Pt) (n : Nat) : sidesP axis l (n + 1) = sidesP axis l n ++ [sideP axis (l.getD n pt0) (nxt l n)] := by unfold sidesP; rw [List.range_succ, List.map_append]; rfl
def prP (axis : Nat) (l : List Pt) (e0 e1 : Int) : List Pl := capsP axis e0 e1 ++ sidesP axis l l.length
def outP (p : Pt) : Bool := outW p.x || outW p.y
def bigN (l : List Pt) (n : Nat) : Bool := (List.range n).any fun i => bigB (l.getD i pt0) (nxt l i)
theorem bigN_succ (l : List Pt) (n : Nat) : bigN l (n + 1) = (bigN l n || bigB (l.getD n pt0) (nxt l n)) := by unfold bigN; rw [List.range_succ, List.any_append]; simp
theorem bigN_true {l : List Pt} {i : Nat} (hi : i < l.length) (h : bigB (l.getD i pt0) (nxt l i) = true) : bigN l l.length = true := by
 unfold bigN
 exact List.any_eq_true.2 ⟨i, List.mem_range.2 hi, h⟩
def prE (axis : Int) (l : List Pt) (e0 e1 : Int) : Int :=
 if axis < 0 ∨ 2 < axis then 2 else if l.length < 3 ∨ 14 < l.length then 10 else if (outW e0 || outW e1 || l.any outP) = true then 2 else if e1 ≤ e0 ∨ cvxB l = false then 3 else if bigN l l.length = true then 2 else 0
def prV (axis : Int) (l : List Pt) (e0 e1 : Int) : List Cell := if prE axis l e0 e1 = 0 then [⟨nf (prP axis.toNat l e0 e1)⟩] else []
theorem outW_not {z : Int} (h : outW z = false) : -300000 ≤ z ∧ z ≤ 300000 := by
 unfold outW at h
 simp at h
 omega
theorem sg_dvd (p q : Pt) : snx p q * (sgP p q : Int) = q.x - p.x ∧ sny p q * (sgP p q : Int) = q.y - p.y := by
 unfold snx sny sgP
 refine ⟨Int.tdiv_mul_cancel ?_, Int.tdiv_mul_cancel ?_⟩
 ·exact Int.ofNat_dvd_left.2 (Nat.gcd_dvd_left _ _)
 ·exact Int.ofNat_dvd_left.2 (Nat.gcd_dvd_right _ _)
theorem alg_nrm {axis : Nat} {u v c d : Int} (h : u ≠ 0 ∨ v ≠ 0 ∨ c ≠ 0) : nrm (alg axis u v c d) ≠ v0 := by
 unfold alg nrm v0
 intro e
 split at e
 ·simp only [Vec.mk.injEq] at e; omega
 ·split at e <;> (simp only [Vec.mk.injEq] at e; omega)
theorem alg_in {axis : Nat} {u v c d : Int} (hu : -8 ≤ u ∧ u ≤ 8) (hv : -8 ≤ v ∧ v ≤ 8) (hc : -8 ≤ c ∧ c ≤ 8) (hd : -10000000 ≤ d ∧ d ≤ 10000000) : (alg axis u v c d).in_ := by
 unfold alg Pl.in_ nrm Vec.in_
 split
 ·exact ⟨⟨hc, hu, hv⟩, hd⟩
 ·split
  ·exact ⟨⟨hv, hc, hu⟩, hd⟩
  ·exact ⟨⟨hu, hv, hc⟩, hd⟩
theorem side_nz {l : List Pt} {i : Nat} (h3 : 3 ≤ l.length) (h : cvxI l i l.length = true) : (nxt l i).x - (l.getD i pt0).x ≠ 0 ∨ (nxt l i).y - (l.getD i pt0).y ≠ 0 := by
 obtain ⟨k, hk, h1, h2⟩ : ∃ k < l.length, k ≠ i ∧ k ≠ (i + 1) % l.length := by
  generalize (i + 1) % l.length = m
  by_cases e0 : 0 ≠ i ∧ 0 ≠ m
  ·exact ⟨0, by omega, e0⟩
  ·by_cases e1 : 1 ≠ i ∧ 1 ≠ m
   ·exact ⟨1, by omega, e1⟩
   ·exact ⟨2, by omega, by omega, by omega⟩
 unfold cvxI at h
 have h4 := List.all_eq_true.1 h k (List.mem_range.2 hk)
 unfold leftB at h4
 simp only [h1, h2, decide_false, Bool.false_or, decide_eq_true_eq] at h4
 unfold crsP at h4
 by_cases e : (nxt l i).x - (l.getD i pt0).x = 0
 ·right
  intro e2
  rw [e, e2] at h4
  simp at h4
 ·exact .inl e
theorem side_good {axis : Nat} {l : List Pt} {i : Nat} (hi : i < l.length) (h3 : 3 ≤ l.length) (ho : l.any outP = false) (hc : cvxB l = true) (hb : bigB (l.getD i pt0) (nxt l i) = false) : (sideP axis (l.getD i pt0) (nxt l i)).in_ ∧ nrm (sideP axis (l.getD i pt0) (nxt l i)) ≠ v0 := by
 have hp : ∀ p ∈ l, outP p = false := fun p hp => by simpa using List.any_eq_false.1 ho p hp
 have h1 := hp _ (show l.getD i pt0 ∈ l by rw [show l.getD i pt0 = l[i] by simp [List.getD, hi]]; exact List.getElem_mem hi)
 have hs := side_nz (i := i) h3 (by
  unfold cvxB cvxN at hc
  exact List.all_eq_true.1 hc i (List.mem_range.2 hi))
 obtain ⟨d1, d2⟩ := sg_dvd (l.getD i pt0) (nxt l i)
 generalize nxt l i = q at *
 generalize l.getD i pt0 = p at *
 unfold outP at h1
 rw [Bool.or_eq_false_iff] at h1
 have b1 := outW_not h1.1
 have b2 := outW_not h1.2
 unfold bigB at hb
 simp only [Bool.not_eq_false', Bool.and_eq_true] at hb
 have w1 := withinB_true hb.1
 have w2 := withinB_true hb.2
 unfold sideP
 have m1 := mul_in (A := 8) (B := 300000) (a := sny p q) (b := p.x) (by omega) (by omega)
 have m2 := mul_in (A := 8) (B := 300000) (a := snx p q) (b := p.y) (by omega) (by omega)
 refine ⟨alg_in (by omega) (by omega) (by omega) (by omega), alg_nrm ?_⟩
 by_cases e1 : sny p q = 0
 ·by_cases e2 : snx p q = 0
  ·rw [e2] at d1; rw [e1] at d2; simp at d1 d2; omega
  ·right; left; omega
 ·exact .inl e1
theorem bigN_not {l : List Pt} (h : bigN l l.length = false) {i : Nat} (hi : i < l.length) : bigB (l.getD i pt0) (nxt l i) = false := by
 cases hb : bigB (l.getD i pt0) (nxt l i) with
 | false => rfl
 | true => rw [bigN_true hi hb] at h; cases h
theorem pr_good {axis : Nat} {l : List Pt} {e0 e1 : Int} (h3 : 3 ≤ l.length) (h14 : l.length ≤ 14) (h0 : outW e0 = false) (h1 : outW e1 = false) (ho : l.any outP = false) (hc : cvxB l = true) (hb : bigN l l.length = false) : Good (prP axis l e0 e1) ∧ (prP axis l e0 e1).length ≤ 16 := by
 have a0 := outW_not h0
 have a1 := outW_not h1
 refine ⟨fun p hp => ?_, by unfold prP capsP sidesP; simp; omega⟩
 unfold prP at hp
 rcases List.mem_append.1 hp with hp | hp
 ·unfold capsP at hp
  simp only [List.mem_cons, List.not_mem_nil, or_false] at hp
  rcases hp with rfl | rfl
  ·exact ⟨alg_in (by omega) (by omega) (by omega) (by omega), alg_nrm (.inr (.inr (by decide)))⟩
  ·exact ⟨alg_in (by omega) (by omega) (by omega) (by omega), alg_nrm (.inr (.inr (by decide)))⟩
 ·unfold sidesP at hp
  obtain ⟨i, hi, rfl⟩ := List.mem_map.1 hp
  have hi := List.mem_range.1 hi
  exact side_good hi h3 ho hc (bigN_not hb hi)
end Go.Proofs.YtgjmfdhgeahdcaaGreat
/- What the prisms want of other texts: a plane from a vector, rooms of the document. -/
set_option linter.unusedVariables false
set_option linter.unusedSimpArgs false
namespace Go.Proofs.YtgjmfdhgeahdcaaGreat
open Go Go.RowKit Go.Sort Go.Lib

theorem any_take {α : Type} {l : List α} {f : α → Bool} {k : Nat} (h : k < l.length) : (l.take (k + 1)).any f = ((l.take k).any f || f l[k]) := by
 rw [List.take_succ_eq_append_getElem h, List.any_append]
 simp
theorem outW_within (z : Int) : withinB z (-300000) 300000 = !outW z := by
 unfold withinB outW
 rw [Bool.eq_iff_iff]
 simp
set_option maxRecDepth 100000 in
set_option maxHeartbeats 2000000 in
theorem roomR_any (a : Option Addr) (l : List Int) (c : Nat) (w : World) (hv : IntsV w a l) (hl : l.length ≤ 1000000) :
    Calls Tryz.prog 21 #[.slice a l.length c] w fun e w' => e = .returned (.bool (!l.any outW)) ∧ Below w.heap.size w w' := by
 have HW := Lib.hid (fun z W => baseWithin_any z (-300000) 300000 W)
 go_enter Tryz.func21, Tryz.ntmps21
 go_wp2_with fail
 go_loopw [3] (fun i wr => ∃ k : Nat, k ≤ l.length ∧ i = .int .i64 k ∧ Hid (∀ j (hj : j < l.length), j < k → outW l[j] = false) ∧ Below w.heap.size w wr) (fun i _ => l.length - (intOf i).toNat)
 case atStart => exact ⟨0, Nat.zero_le _, rfl, Lib.hid (fun j _ h => by omega), Below.refl _ _⟩
 case round =>
  obtain ⟨k, hk, rfl, HK, hbw⟩ := hrel
  have hsz := hbw.size
  by_cases hlt : k < l.length
  ·obtain ⟨b, off, rfl, hat⟩ := (hv.keep hbw) (fun e => by rw [e] at hlt; simp at hlt)
   have c0 := hat k l[k] (List.getElem?_eq_getElem hlt)
   clear hat
   have HN := Lib.hid (fun h => none_step (p := outW) HK.out hlt h)
   have HY := Lib.hid (show outW l[k] = true → l.any outW = true from fun h => List.any_eq_true.2 ⟨l[k], List.getElem_mem hlt, h⟩)
   have HF := Lib.hid (HW.out l[k] wr)
   rw [outW_within] at HF
   generalize l[k] = d at *
   cases hq : outW d
   ·rw [hq] at HF
    go_wp2_with (go_at_call 20; refine HF.out.mono ?_; rintro e w1 ⟨rfl, rfl⟩)
    go_round
    case rel => exact ⟨k + 1, by omega, by go_num, Lib.hid (HN.out hq), hbw⟩
    case measure => simp [intOf]; omega
   ·rw [hq] at HF
    have hA := HY.out hq
    go_wp2_with (go_at_call 20; refine HF.out.mono ?_; rintro e w1 ⟨rfl, rfl⟩)
    go_ret
    exact ⟨ret_bool (by rw [hA]; rfl), hbw⟩
  ·have hm := Lib.hid (show l.any outW = false from List.any_eq_false.2 fun x hx => by obtain ⟨j, hj, rfl⟩ := List.mem_iff_getElem.1 hx; rw [HK.out j hj (by omega)]; simp)
   clear HK
   go_wp2_with fail
   go_ret
   exact ⟨ret_bool (by rw [hm.out]; rfl), hbw⟩
def put4 (w : World) (g c : Nat) (q : Pl) : World := (((w.setCell ⟨g, c * 4, none⟩ (.int .i64 q.a)).setCell ⟨g, c * 4 + 1, none⟩ (.int .i64 q.b)).setCell ⟨g, c * 4 + 2, none⟩ (.int .i64 q.c)).setCell ⟨g, c * 4 + 3, none⟩ (.int .i64 q.d)
theorem zPl_put {w : World} {g : Nat} (p : Pl) (h : (w.cell? ⟨g, 0, none⟩ = some (.int .i64 0) ∧ w.cell? ⟨g, 1, none⟩ = some (.int .i64 0) ∧ w.cell? ⟨g, 2, none⟩ = some (.int .i64 0) ∧ w.cell? ⟨g, 3, none⟩ = some (.int .i64 0))) :
    ((put4 w g 0 p).cell? ⟨g, 0, none⟩ = some (.int .i64 p.a) ∧ (put4 w g 0 p).cell? ⟨g, 1, none⟩ = some (.int .i64 p.b) ∧ (put4 w g 0 p).cell? ⟨g, 2, none⟩ = some (.int .i64 p.c) ∧ (put4 w g 0 p).cell? ⟨g, 3, none⟩ = some (.int .i64 p.d)) := by
 have s : ∀ {W : World} {a b : Addr} {u x : Value}, a ≠ b → a.spot = none → b.spot = none → W.cell? b = some x → (W.setCell a u).cell? b = some x := fun h1 h2 h3 h4 => by rw [cell_set_ne h1 h2 h3]; exact h4
 unfold put4
 refine ⟨?_, ?_, ?_, ?_⟩
 ·exact s (by simp) rfl rfl (s (by simp) rfl rfl (s (by simp) rfl rfl (cell_set_same (by rw [show (0 : Nat) * 4 = 0 from rfl, h.1]; rfl))))
 ·exact s (by simp) rfl rfl (s (by simp) rfl rfl (cell_set_same (by rw [show (0 : Nat) * 4 + 1 = 1 from rfl, s (by simp) rfl rfl h.2.1]; rfl)))
 ·exact s (by simp) rfl rfl (cell_set_same (by rw [show (0 : Nat) * 4 + 2 = 2 from rfl, s (by simp) rfl rfl (s (by simp) rfl rfl h.2.2.1)]; rfl))
 ·exact cell_set_same (by rw [show (0 : Nat) * 4 + 3 = 3 from rfl, s (by simp) rfl rfl (s (by simp) rfl rfl (s (by simp) rfl rfl h.2.2.2))]; rfl)
set_option maxRecDepth 100000 in
set_option maxHeartbeats 2000000 in
theorem plane_any (v : Vec) (d : Int) (w : World) : Calls Tryz.prog 16 #[.agg #[.int .i64 v.x, .int .i64 v.y, .int .i64 v.z], .int .i64 d] w fun e w' => e = .returned (.agg #[.int .i64 v.x, .int .i64 v.y, .int .i64 v.z, .int .i64 d]) ∧ Below w.heap.size w w' := by
 go_enter Tryz.func16, Tryz.ntmps16
 go_upto_region 1 with fail
 refine gen_world (fun W => (W.cell? ⟨w.heap.size, 0, none⟩ = some (.int .i64 v.x) ∧ W.cell? ⟨w.heap.size, 1, none⟩ = some (.int .i64 v.y) ∧ W.cell? ⟨w.heap.size, 2, none⟩ = some (.int .i64 v.z)) ∧ (W.cell? ⟨w.heap.size + 1, 0, none⟩ = some (.int .i64 0) ∧ W.cell? ⟨w.heap.size + 1, 1, none⟩ = some (.int .i64 0) ∧ W.cell? ⟨w.heap.size + 1, 2, none⟩ = some (.int .i64 0) ∧ W.cell? ⟨w.heap.size + 1, 3, none⟩ = some (.int .i64 0)) ∧ (W.frozen? ⟨w.heap.size + 1, 0, none⟩ = false ∧ W.frozen? ⟨w.heap.size + 1, 1, none⟩ = false ∧ W.frozen? ⟨w.heap.size + 1, 2, none⟩ = false ∧ W.frozen? ⟨w.heap.size + 1, 3, none⟩ = false) ∧ Below w.heap.size w W) ⟨⟨by simp [go_sem], by simp [go_sem], by simp [go_sem]⟩, ⟨by simp [go_sem], by simp [go_sem], by simp [go_sem], by simp [go_sem]⟩, ⟨by simp [go_sem], by simp [go_sem], by simp [go_sem], by simp [go_sem]⟩, by repeat (first | (with_reducible assumption) | exact Below.refl _ _ | (refine Below.setCell ?_ (by first | omega | (simp; omega) | (simp; done)) _) | (refine Below.alloc ?_ (by first | omega | (simp; omega) | (simp; done)) _) | (refine Below.drew ?_))⟩ ?_
 rintro W ⟨⟨c0, c1, c2⟩, hz, ⟨f0, f1, f2, f3⟩, hb⟩
 have HZP := Lib.hid (zPl_put ⟨v.x, v.y, v.z, d⟩ hz)
 obtain ⟨z0, z1, z2, z3⟩ := hz
 have HB0 := Lib.hid hb
 obtain ⟨gp, hgp⟩ : ∃ g, g = w.heap.size := ⟨_, rfl⟩
 have HGP := Lib.hid hgp
 rw [← hgp] at c0 c1 c2 z0 z1 z2 z3 f0 f1 f2 f3 HZP
 rw [show w.heap.size = gp from hgp.symm]
 have HBX := Lib.hid (show Below w.heap.size w (put4 W (gp + 1) 0 ⟨v.x, v.y, v.z, d⟩) from (((hb.setCell (by simp only; omega) _).setCell (by simp only; omega) _).setCell (by simp only; omega) _).setCell (by simp only; omega) _)
 clear hb hgp
 unfold put4 at HZP HBX
 simp only [Nat.zero_mul, Nat.zero_add] at HZP HBX
 try simp only [Nat.add_assoc, Nat.reduceAdd]
 go_wp2_with fail
 generalize ((((W.setCell ⟨gp + 1, 0, none⟩ (.int .i64 v.x)).setCell ⟨gp + 1, 1, none⟩ (.int .i64 v.y)).setCell ⟨gp + 1, 2, none⟩ (.int .i64 v.z)).setCell ⟨gp + 1, 3, none⟩ (.int .i64 d)) = WZ at *
 obtain ⟨k0, k1, k2, k3⟩ := HZP.out
 exact bodyPost_ret (v := .agg #[.int .i64 v.x, .int .i64 v.y, .int .i64 v.z, .int .i64 d]) (by simp [results, Tryz.results16, go_sem, k0, k1, k2, k3]) rfl ⟨rfl, HBX.out⟩
end Go.Proofs.YtgjmfdhgeahdcaaGreat
/- The program's helpers for prisms. -/
set_option linter.unusedVariables false
set_option linter.unusedSimpArgs false
namespace Go.Proofs.YtgjmfdhgeahdcaaGreat
open Go Go.RowKit Go.Sort Go.Lib

set_option maxRecDepth 100000 in
set_option maxHeartbeats 2000000 in
theorem next_any (a : Option Addr) (l : List Pt) (c i : Nat) (w : World) (hv : Pts.V w a l) (hi : i < l.length) (hl : l.length ≤ 1000000) :
    Calls Tryz.prog 17 #[.slice a l.length c, .int .i64 (i : Int)] w fun e w' => e = .returned (.agg #[.int .i64 (nxt l i).x, .int .i64 (nxt l i).y]) ∧ Below w.heap.size w w' := by
 have hm : (i + 1) % l.length < l.length := Nat.mod_lt _ (by omega)
 have HX := Lib.hid (show nxt l i = l[(i + 1) % l.length] by unfold nxt; simp [List.getD, hm])
 have hr0 : ((i : Int) + 1).tmod (l.length : Int) = (((i + 1) % l.length : Nat) : Int) := tmod_nat (i + 1) l.length
 obtain ⟨b, off, rfl, hat⟩ := hv.at_ hm
 rw [HX.out]
 obtain ⟨p, hp⟩ : ∃ p, p = l[(i + 1) % l.length] := ⟨_, rfl⟩
 rw [← hp] at hat ⊢
 clear HX hp
 obtain ⟨m, hmm⟩ : ∃ m, m = (i + 1) % l.length := ⟨_, rfl⟩
 rw [← hmm] at hm hr0 hat
 obtain ⟨c0, c1, -⟩ := hat
 have hl1 := block_lt_of_cell c0
 simp only at hl1
 clear hmm
 go_enter Tryz.func17, Tryz.ntmps17
 go_wp2_with fail
 exact bodyPost_ret (v := .agg #[.int .i64 p.x, .int .i64 p.y]) (by simp [results, Tryz.results17, go_sem]) rfl ⟨rfl, by repeat (first | (with_reducible assumption) | exact Below.refl _ _ | (refine Below.setCell ?_ (by first | omega | (simp; omega) | (simp; done)) _) | (refine Below.alloc ?_ (by first | omega | (simp; omega) | (simp; done)) _) | (refine Below.drew ?_))⟩
set_option maxRecDepth 100000 in
set_option maxHeartbeats 2000000 in
theorem pri1_any (p : Pt) (w : World) : Calls Tryz.prog 14 #[.agg #[.int .i64 p.x, .int .i64 p.y]] w fun e w' => e = .returned (.bool (outP p)) ∧ Below w.heap.size w w' := by
 obtain ⟨px, py⟩ := p
 have HO := Lib.hid (show (!([px, py].any outW)) = !outP ⟨px, py⟩ by simp [outP])
 generalize outP ⟨px, py⟩ = S at *
 simp only
 go_enter Tryz.func14, Tryz.ntmps14
 go_upto_region 1 with fail
 refine gen_world (fun W => W.cell? ⟨w.heap.size, 0, none⟩ = some (.int .i64 px) ∧ W.cell? ⟨w.heap.size, 1, none⟩ = some (.int .i64 py) ∧ Below w.heap.size w W) ⟨by simp [go_sem], by simp [go_sem], by repeat (first | (with_reducible assumption) | exact Below.refl _ _ | (refine Below.setCell ?_ (by first | omega | (simp; omega) | (simp; done)) _) | (refine Below.alloc ?_ (by first | omega | (simp; omega) | (simp; done)) _) | (refine Below.drew ?_))⟩ ?_
 rintro W ⟨c0, c1, hb0⟩
 have HB0 := Lib.hid hb0
 have HAL := Lib.hid (fun T => (Below.refl W.heap.size W).alloc (Nat.le_refl _) (.cells #[.int .i64 px, .int .i64 py] T))
 clear hb0
 obtain ⟨gp, hgp⟩ : ∃ g, g = w.heap.size := ⟨_, rfl⟩
 rw [← hgp] at c0 c1 ⊢
 clear hgp
 go_wp2_with (go_at_call 12; refine (within_any _ [px, py] _ _ (ints_alloc _ _ _) (by simp)).mono ?_; rintro e w1 ⟨rfl, hb⟩; rw [HO.out]; have HB1 := Lib.hid (HB0.out.trans (((HAL.out _).trans (hb.mono (HAL.out _).size)).mono HB0.out.size)); clear hb)
 go_ret
 exact ⟨by simp, HB1.out⟩
set_option maxHeartbeats 1000000 in
theorem idx_pri1 (a : Option Addr) (l : List Pt) (c : Nat) (w : World) (hv : Pts.V w a l) (hl : l.length ≤ 1000000) :
    Calls Tryz.prog 35 #[.slice a l.length c, .func (.func 14) #[] #[]] w fun e w' => e = .returned (.int .i64 (idxOf outP l)) ∧ Below w.heap.size w w' := by
 go_enter Tryz.func35, Tryz.ntmps35
 go_wp2
 go_loopw [8] (fun i wr => ∃ k : Nat, k ≤ l.length ∧ i = .int .i64 k ∧ Hid (∀ j (hj : j < l.length), j < k → outP l[j] = false) ∧ Below w.heap.size w wr) (fun i _ => l.length - (intOf i).toNat)
 case atStart => exact ⟨0, Nat.zero_le _, rfl, Lib.hid (fun j _ h => by omega), Below.refl _ _⟩
 case round =>
  obtain ⟨k, hk, rfl, HK, hbw⟩ := hrel
  have hsz := hbw.size
  by_cases hlt : k < l.length
  ·obtain ⟨b, off, rfl, hat⟩ := (hv.keep hbw).at_ hlt
   obtain ⟨c0, c1, -⟩ := hat
   have HH := Lib.hid (fun h => idxOf_hit (p := outP) hlt HK.out h)
   have HN := Lib.hid (fun h => none_step (p := outP) HK.out hlt h)
   have HF := Lib.hid (pri1_any l[k] wr)
   generalize l[k] = d at *
   cases hq : outP d
   ·rw [hq] at HF
    go_wp2_with (go_at_call 14; refine HF.out.mono ?_; rintro e w1 ⟨rfl, hb⟩)
    go_round
    case rel => exact ⟨k + 1, by omega, by go_num, Lib.hid (HN.out hq), hbw.trans (hb.mono hsz)⟩
    case measure => simp [intOf]; omega
   ·rw [hq] at HF
    go_wp2_with (go_at_call 14; refine HF.out.mono ?_; rintro e w1 ⟨rfl, hb⟩)
    go_ret
    exact ⟨ret_int (HH.out hq).symm, hbw.trans (hb.mono hsz)⟩
  ·have hm := Lib.hid (idxOf_miss (p := outP) (l := l) (fun j hj => HK.out j hj (by omega)))
   clear HK
   go_wp2
   go_ret
   exact ⟨ret_int hm.out.symm, hbw⟩
theorem has_pri1 (a : Option Addr) (l : List Pt) (c : Nat) (w : World) (hv : Pts.V w a l) (hl : l.length ≤ 1000000) :
    Calls Tryz.prog 13 #[.slice a l.length c, .func (.func 14) #[] #[]] w fun e w' => e = .returned (.bool (l.any outP)) ∧ Below w.heap.size w w' := by
 have hi := Lib.hid (idxOf_bool outP l)
 go_enter Tryz.func13, Tryz.ntmps13
 go_wp2_with (go_at_call 35; refine (idx_pri1 a l c _ hv hl).mono ?_; rintro e w1 ⟨rfl, hb⟩)
 go_ret
 exact ⟨ret_bool (by rw [← hi.out]), hb⟩
def Pt.small (p : Pt) : Prop := (-300000 ≤ p.x ∧ p.x ≤ 300000) ∧ (-300000 ≤ p.y ∧ p.y ≤ 300000)
/-- The cross product is formed without overflow. -/
structure CrsOk (p q r : Pt) : Prop where
 a : IntKind.i64.wrap (q.x - p.x) = q.x - p.x
 b : IntKind.i64.wrap (r.y - p.y) = r.y - p.y
 c : IntKind.i64.wrap (q.y - p.y) = q.y - p.y
 d : IntKind.i64.wrap (r.x - p.x) = r.x - p.x
 e : IntKind.i64.wrap ((q.x - p.x) * (r.y - p.y)) = (q.x - p.x) * (r.y - p.y)
 f : IntKind.i64.wrap ((q.y - p.y) * (r.x - p.x)) = (q.y - p.y) * (r.x - p.x)
 g : IntKind.i64.wrap ((q.x - p.x) * (r.y - p.y) - (q.y - p.y) * (r.x - p.x)) = (q.x - p.x) * (r.y - p.y) - (q.y - p.y) * (r.x - p.x)
theorem crsOk {p q r : Pt} (hp : p.small) (hq : q.small) (hr : r.small) : CrsOk p q r := by
 unfold Pt.small at hp hq hr
 have m1 := mul_in (A := 600000) (B := 600000) (a := q.x - p.x) (b := r.y - p.y) (by omega) (by omega)
 have m2 := mul_in (A := 600000) (B := 600000) (a := q.y - p.y) (b := r.x - p.x) (by omega) (by omega)
 exact ⟨IntWalk.i64_in _ (by omega), IntWalk.i64_in _ (by omega), IntWalk.i64_in _ (by omega), IntWalk.i64_in _ (by omega), IntWalk.i64_in _ (by omega), IntWalk.i64_in _ (by omega), IntWalk.i64_in _ (by omega)⟩
theorem nxt_mem {l : List Pt} {i : Nat} (hi : i < l.length) : nxt l i ∈ l := by
 have hm : (i + 1) % l.length < l.length := Nat.mod_lt _ (by omega)
 unfold nxt
 rw [show l.getD ((i + 1) % l.length) pt0 = l[(i + 1) % l.length] by simp [List.getD, hm]]
 exact List.getElem_mem hm
set_option maxRecDepth 100000 in
set_option maxHeartbeats 8000000 in
theorem convex_any (a : Option Addr) (l : List Pt) (c : Nat) (w : World) (hv : Pts.V w a l) (hl : l.length ≤ 1000) (hs : ∀ p ∈ l, p.small) :
    Calls Tryz.prog 15 #[.slice a l.length c] w fun e w' => e = .returned (.bool (cvxB l)) ∧ Below w.heap.size w w' := by
 obtain ⟨S, hS⟩ : ∃ S, S = cvxB l := ⟨_, rfl⟩
 rw [← hS]
 have HS := Lib.hid hS
 have HV := Lib.hid hv
 have HSM := Lib.hid hs
 clear hS hv hs
 go_enter Tryz.func15, Tryz.ntmps15
 go_wp2_with fail
 go_loopw [10] (fun iv wr => ∃ i : Nat, i ≤ l.length ∧ iv = .int .i64 (i : Int) ∧ Hid (cvxN l i = true) ∧ Below w.heap.size w wr) (fun iv _ => l.length - (intOf iv).toNat)
 case atStart => exact ⟨0, Nat.zero_le _, rfl, Lib.hid rfl, Below.refl _ _⟩
 case round =>
  obtain ⟨i, hi, rfl, HC, hb⟩ := hrel
  obtain ⟨W1, rfl⟩ : ∃ W1 : World, W1 = wr := ⟨_, rfl⟩
  have HB1 := Lib.hid hb
  have HV1 := Lib.hid (HV.out.keep hb)
  by_cases hlt : i < l.length
  ·have hki : (i : Int) < (l.length : Int) := by omega
   obtain ⟨pb, po, rfl, hat⟩ := HV1.out.at_ hlt
   have HP := Lib.hid (show l.getD i pt0 = l[i] by simp [List.getD, hlt])
   have HPS := Lib.hid (HSM.out _ (List.getElem_mem hlt))
   have HQS := Lib.hid (HSM.out _ (nxt_mem hlt))
   have HNX := Lib.hid (fun W (h : Below W1.heap.size W1 W) => next_any _ l c i W (HV1.out.keep h) hlt (by omega))
   have HLB := Lib.hid (show ∀ k, leftB l i k = (decide (k = i) || (decide (k = (i + 1) % l.length) || decide (0 < crsP (l.getD i pt0) (nxt l i) (l.getD k pt0)))) from fun k => rfl)
   rw [HP.out] at HLB
   obtain ⟨c0, c1, -⟩ := hat
   generalize l[i] = p at *
   generalize nxt l i = q at *
   go_upto_region 4 with fail
   refine gen_world (fun W => W.cell? ⟨W1.heap.size, 0, none⟩ = some (.int .i64 p.x) ∧ W.cell? ⟨W1.heap.size, 1, none⟩ = some (.int .i64 p.y) ∧ Below W1.heap.size W1 W) ⟨by simp [go_sem], by simp [go_sem], by repeat (first | (with_reducible assumption) | exact Below.refl _ _ | (refine Below.setCell ?_ (by first | omega | (simp; omega) | (simp; done)) _) | (refine Below.alloc ?_ (by first | omega | (simp; omega) | (simp; done)) _) | (refine Below.drew ?_))⟩ ?_
   rintro W2 ⟨p0, p1, hb2⟩
   have HB2 := Lib.hid hb2
   have HNX2 := Lib.hid (HNX.out W2 hb2)
   have HPC := Lib.hid (And.intro p0 p1)
   obtain ⟨gp, hgp⟩ : ∃ g, g = W1.heap.size := ⟨_, rfl⟩
   rw [← hgp] at HPC p0 p1 ⊢
   clear hb hb2 hgp c0 c1
   go_upto_region 5 with (go_at_call 17; refine HNX2.out.mono ?_; rintro e w3 ⟨rfl, hb⟩; have HB3 := Lib.hid (HB2.out.trans (hb.mono HB2.out.size)); have p0 := cell_keep hb p0; have p1 := cell_keep hb p1; clear hb)
   refine gen_world (fun W => (W.cell? ⟨w3.heap.size, 0, none⟩ = some (.int .i64 q.x) ∧ W.cell? ⟨w3.heap.size, 1, none⟩ = some (.int .i64 q.y)) ∧ (W.cell? ⟨gp, 0, none⟩ = some (.int .i64 p.x) ∧ W.cell? ⟨gp, 1, none⟩ = some (.int .i64 p.y)) ∧ Below w3.heap.size w3 W) ⟨⟨by simp [go_sem], by simp [go_sem]⟩, ⟨cell_keep ((Below.refl _ _).alloc (Nat.le_refl _) _) p0, cell_keep ((Below.refl _ _).alloc (Nat.le_refl _) _) p1⟩, by repeat (first | (with_reducible assumption) | exact Below.refl _ _ | (refine Below.setCell ?_ (by first | omega | (simp; omega) | (simp; done)) _) | (refine Below.alloc ?_ (by first | omega | (simp; omega) | (simp; done)) _) | (refine Below.drew ?_))⟩ ?_
   rintro W4 ⟨hq, hp, hb4⟩
   have HQ4 := Lib.hid hq
   have HP4 := Lib.hid hp
   have HB4 := Lib.hid (HB3.out.trans (hb4.mono HB3.out.size))
   have HV4 := Lib.hid (HV1.out.keep HB4.out)
   obtain ⟨gq, hgq⟩ : ∃ g, g = w3.heap.size := ⟨_, rfl⟩
   rw [← hgq] at HQ4 hq ⊢
   clear hq hp hb4 hgq p0 p1
   go_wp2_with fail
   go_loopw [20] (fun kv wq => ∃ k : Nat, k ≤ l.length ∧ kv = .int .i64 (k : Int) ∧ Hid (cvxI l i k = true) ∧ Below W4.heap.size W4 wq) (fun kv _ => l.length - (intOf kv).toNat)
   case atStart => exact ⟨0, Nat.zero_le _, rfl, Lib.hid rfl, Below.refl _ _⟩
   case round =>
    obtain ⟨k, hk, rfl, HK, hb⟩ := hrel
    obtain ⟨W5, rfl⟩ : ∃ W5 : World, W5 = wr := ⟨_, rfl⟩
    have HB5 := Lib.hid hb
    have HBF := Lib.hid (HB1.out.trans ((HB4.out.trans (hb.mono HB4.out.size)).mono HB1.out.size))
    by_cases hlt2 : k < l.length
    ·have hkj : (k : Int) < (l.length : Int) := by omega
     obtain ⟨rb, ro, hre, hat⟩ := (HV4.out.keep hb).at_ hlt2
     have HR := Lib.hid (show l.getD k pt0 = l[k] by simp [List.getD, hlt2])
     have HRS := Lib.hid (HSM.out _ (List.getElem_mem hlt2))
     have HLK := Lib.hid (HLB.out k)
     rw [HR.out] at HLK
     have HFA := Lib.hid (fun h => cvxB_false (l := l) hlt (cvxI_false hlt2 (i := i) h))
     have HSU := Lib.hid (cvxI_succ l i k)
     generalize l[k] = r at *
     obtain ⟨r0, r1, -⟩ := hat
     obtain ⟨rfl, rfl⟩ : pb = rb ∧ po = ro := by injection hre with h; injection h with h1 h2; exact ⟨h1, h2⟩
     go_upto_region 8 with fail
     refine gen_world (fun W => (W.cell? ⟨W5.heap.size, 0, none⟩ = some (.int .i64 r.x) ∧ W.cell? ⟨W5.heap.size, 1, none⟩ = some (.int .i64 r.y)) ∧ Below W5.heap.size W5 W) ⟨⟨by simp [go_sem], by simp [go_sem]⟩, by repeat (first | (with_reducible assumption) | exact Below.refl _ _ | (refine Below.setCell ?_ (by first | omega | (simp; omega) | (simp; done)) _) | (refine Below.alloc ?_ (by first | omega | (simp; omega) | (simp; done)) _) | (refine Below.drew ?_))⟩ ?_
     rintro W6 ⟨⟨u0, u1⟩, hb6⟩
     have HB6 := Lib.hid (HB5.out.trans (hb6.mono HB5.out.size))
     have HBG := Lib.hid (HBF.out.trans (hb6.mono HBF.out.size))
     obtain ⟨s0, s1⟩ := HQ4.out
     obtain ⟨t0, t1⟩ := HP4.out
     have s0 := cell_keep HB6.out s0
     have s1 := cell_keep HB6.out s1
     have t0 := cell_keep HB6.out t0
     have t1 := cell_keep HB6.out t1
     obtain ⟨gr, hgr⟩ : ∃ g, g = W5.heap.size := ⟨_, rfl⟩
     rw [← hgr] at u0 u1 ⊢
     have HCO := Lib.hid (crsOk HPS.out HQS.out HRS.out)
     have hm : (i + 1) % l.length < l.length := Nat.mod_lt _ (by omega)
     have hr0 : ((i : Int) + 1).tmod (l.length : Int) = (((i + 1) % l.length : Nat) : Int) := tmod_nat (i + 1) l.length
     generalize (i + 1) % l.length = m at *
     clear hb hb6 hgr r0 r1 hre
     by_cases h1 : k = i
     ·have HE := Lib.hid (show cvxI l i (k + 1) = true by rw [HSU.out, HK.out, HLK.out]; simp [h1])
      have e1 : (k : Int) = (i : Int) := by omega
      go_wp2_with fail
      go_roundw
      case rel => exact ⟨k + 1, by omega, by go_num, HE, HB6.out⟩
      case measure => first | (simp [intOf]; done) | (simp [intOf]; omega)
     ·have e1 : ¬ (k : Int) = (i : Int) := by omega
      have hn0 : l.length ≠ 0 := by omega
      have hn1 : ¬ (l.length : Int) = 0 := by omega
      by_cases h2 : k = m
      ·have HE := Lib.hid (show cvxI l i (k + 1) = true by rw [HSU.out, HK.out, HLK.out]; simp [h2])
       subst h2
       go_wp2_with fail
       go_roundw
       case rel => exact ⟨k + 1, by omega, by go_num, HE, HB6.out⟩
       case measure => first | (simp [intOf]; done) | (simp [intOf]; omega)
      ·have e2 : ¬ (k : Int) = (m : Int) := by omega
       have nb1 : ((k : Int) != (i : Int)) = true := by simpa using e1
       have nb2 : ((k : Int) != (m : Int)) = true := by simpa using e2
       obtain ⟨wa, wb, wc, wd, we, wf, wg⟩ := HCO.out
       have HCE := Lib.hid (show crsP p q r = (q.x - p.x) * (r.y - p.y) - (q.y - p.y) * (r.x - p.x) from rfl)
       by_cases h3 : (q.x - p.x) * (r.y - p.y) - (q.y - p.y) * (r.x - p.x) ≤ 0
       ·have HE := Lib.hid (show S = false by rw [HS.out]; exact HFA.out (by rw [HLK.out, HCE.out]; simp [h1, h2]; omega))
        go_wp2_with fail
        go_ret
        exact ⟨ret_bool HE.out.symm, HBG.out⟩
       ·have HE := Lib.hid (show cvxI l i (k + 1) = true by rw [HSU.out, HK.out, HLK.out, HCE.out]; simp; right; right; omega)
        go_wp2_with fail
        go_roundw
        case rel => exact ⟨k + 1, by omega, by go_num, HE, HB6.out⟩
        case measure => first | (simp [intOf]; done) | (simp [intOf]; omega)
    ·obtain rfl : k = l.length := by omega
     have hkj : ¬ ((l.length : Nat) : Int) < ((l.length : Nat) : Int) := by omega
     have HE := Lib.hid (show cvxN l (i + 1) = true by rw [cvxN_succ, HC.out, HK.out]; rfl)
     clear hb
     go_wp2_with fail
     go_roundw
     case rel => exact ⟨i + 1, by omega, by go_num, HE, HBF.out⟩
     case measure => first | (simp [intOf]; done) | (simp [intOf]; omega)
  ·obtain rfl : i = l.length := by omega
   have hki : ¬ ((l.length : Nat) : Int) < ((l.length : Nat) : Int) := by omega
   have HE := Lib.hid (show S = true by rw [HS.out]; exact HC.out)
   go_wp2_with fail
   go_ret
   exact ⟨ret_bool HE.out.symm, HB1.out⟩
end Go.Proofs.YtgjmfdhgeahdcaaGreat
/- The program's prism. -/
set_option linter.unusedVariables false
set_option linter.unusedSimpArgs false
namespace Go.Proofs.YtgjmfdhgeahdcaaGreat
open Go Go.RowKit Go.Sort Go.Lib

theorem own_lit {base size n : Nat} {e : TypeId} (w : World) (xs : List Value) (hl : xs.length = n * size) (hb : base ≤ w.heap.size) (hm : n ≤ maxLen) : (w.alloc (.cells xs.toArray e)).ownsRow base e size (.slice (some ⟨w.heap.size, 0, none⟩) n n) n xs :=
 ⟨hl, .inr ⟨w.heap.size, n, xs.toArray, rfl, hb, heap_alloc_new w _, Nat.le_refl _, hm, by simpa using hl, by rw [← hl]; simp⟩⟩
set_option maxRecDepth 100000 in
set_option maxHeartbeats 4000000 in
theorem single2_any (ps : List Pl) (pa : Option Addr) (pc : Nat) (w : World) (hps : Good ps) (hpl : ps.length ≤ 40) (hv : Pls.V w pa ps) (hpc : ps.length ≤ pc) (hpc2 : pc ≤ 9223372036854775807) :
    Calls Tryz.prog 19 #[.slice pa ps.length pc] w fun e w' => ∃ a, e = .returned (.agg #[.slice a 1 1]) ∧ Cells.V w' a [⟨nf ps⟩] ∧ (∀ g, g < w.heap.size → ∀ u, Cells.V (w'.setCell ⟨g, 0, none⟩ u) a [⟨nf ps⟩]) ∧ (∀ g h, g < w.heap.size → h < w.heap.size → ∀ u v, Cells.V ((w'.setCell ⟨g, 0, none⟩ u).setCell ⟨h, 0, none⟩ v) a [⟨nf ps⟩]) ∧ Below w.heap.size w w' := by
 have HB := Lib.hid (fun W (h : Below w.heap.size w W) => bodyOf_any ps pa pc W hps hpl (hv.keep h) hpc)
 have HCI := Lib.hid (corn_in hps)
 have HCL := Lib.hid (show (corn ps).length ≤ 1000000 by have := corn_len hpl; omega)
 have HPV := Lib.hid hv
 have HNC := Lib.hid (show nor ps (corn ps) = nf ps from rfl)
 have HNF := Lib.hid (fun W ca cc (h : Below w.heap.size w W) (hc : Cos.V W ca (corn ps)) => normalForm_any ps pa pc (corn ps) ca cc W hps (corn_in hps) hpl HCL.out (hv.keep h) hc)
 rw [HNC.out] at HNF
 clear HNC
 have HNW := Lib.hid (show ∀ c ∈ nf ps, c.wf from fun c hc => Pl.in_.wf (Good.nor hps (corn ps) c hc).1)
 generalize hNN : nf ps = N at *
 generalize corn ps = C at *
 go_enter Tryz.func19, Tryz.ntmps19
 go_upto_region 1 with fail
 refine gen_world (fun W => W.cell? ⟨w.heap.size, 0, none⟩ = some (.slice none 0 0) ∧ W.frozen? ⟨w.heap.size, 0, none⟩ = false ∧ Below w.heap.size w W) ⟨by simp [go_sem], by simp [go_sem], by repeat (first | (with_reducible assumption) | exact Below.refl _ _ | (refine Below.setCell ?_ (by first | omega | (simp; omega) | (simp; done)) _) | (refine Below.alloc ?_ (by first | omega | (simp; omega) | (simp; done)) _) | (refine Below.drew ?_))⟩ ?_
 rintro W ⟨z0, zf0, hb⟩
 have HB1 := Lib.hid hb
 clear hb
 obtain ⟨gw, hgw⟩ : ∃ g, g = w.heap.size := ⟨_, rfl⟩
 have HG := Lib.hid (show w.heap.size ≤ gw by omega)
 rw [← hgw] at z0 zf0 ⊢
 clear hgw
 go_wp2_with (first
  | (go_at_call 36; go_loud (refine (HB.out _ HB1.out).mono ?_; rintro e w1 ⟨ca, cc, rfl, ho, hb⟩; have z1 := cell_keep hb z0; have zf1 := frozen_keep hb (block_lt_of_cell z0) zf0; have HCV := Lib.hid (ownCoV (fun c hc => Co.in_.wf (HCI.out c hc)) ho); have HB2 := Lib.hid (HB1.out.trans (hb.mono HB1.out.size)); clear ho hb))
  | (go_at_call 37; refine (HNF.out _ _ _ HB2.out HCV.out).mono ?_; rintro e w2 ⟨na, nc, rfl, ho, hb⟩; have z2 := cell_keep hb z1; have zf2 := frozen_keep hb (block_lt_of_cell z1) zf1; have hal := (Below.refl w2.heap.size w2).alloc (Nat.le_refl _) (.cells #[.slice na N.length nc] 46); have z3 := cell_keep hal z2; have zf3 := frozen_keep hal (block_lt_of_cell z2) zf2; have HAL := Lib.hid hal; clear hal; have HNO := Lib.hid ho; have HB3 := Lib.hid (HB2.out.trans (hb.mono HB2.out.size)); clear ho hb))
 refine bodyPost_ret (v := .agg #[.slice (some ⟨w2.heap.size, 0, none⟩) 1 1]) ?_ ?_ ?_
 ·simp [results, Tryz.results19, go_sem, got1 z3]
 ·rfl
 have hgl : gw < w2.heap.size := block_lt_of_cell z2
 have hg1 : gw < w1.heap.size := block_lt_of_cell z1
 have c0 : (w2.alloc (.cells #[.slice na N.length nc] 46)).cell? ⟨w2.heap.size, 0, none⟩ = some (.slice na N.length nc) := by simp [go_sem]
 have hp := (ownPlV HNW.out HNO.out).keep HAL.out
 have hbl := own_blk_lt HNO.out
 obtain ⟨a', c', e, hn1, hn2⟩ := own_slice HNO.out
 injection e with e1 e2 e3
 subst e1 e3
 have hB := HB3.out.trans (HAL.out.mono HB3.out.size)
 generalize (w2.alloc (.cells #[.slice na N.length nc] 46)) = W3 at *
 have hsz : w.heap.size ≤ w1.heap.size := HB2.out.size
 have hwz : w.heap.size ≤ w2.heap.size := HB3.out.size
 have key : ∀ (W4 : World) (g : Nat) (u : Value), g ≠ w2.heap.size → (∀ b, blk na = some b → b ≠ g) → (W4.cell? ⟨w2.heap.size, 0, none⟩ = some (.slice na N.length nc) ∧ Pls.V W4 na N) → ((W4.setCell ⟨g, 0, none⟩ u).cell? ⟨w2.heap.size, 0, none⟩ = some (.slice na N.length nc) ∧ Pls.V (W4.setCell ⟨g, 0, none⟩ u) na N) := fun W4 g u h1 h2 h3 => by
  refine ⟨?_, h3.2.grown (grownBy_set (a := ⟨g, 0, none⟩)) fun b e e' => by injection e' with e'; exact h2 b e e'.symm⟩
  rw [cell_set_ne (fun e => by injection e with e; exact h1 e) rfl rfl]
  exact h3.1
 have toV : ∀ W4 : World, (W4.cell? ⟨w2.heap.size, 0, none⟩ = some (.slice na N.length nc) ∧ Pls.V W4 na N) → Cells.V W4 (some ⟨w2.heap.size, 0, none⟩) [⟨N⟩] := fun W4 h3 _ => ⟨w2.heap.size, 0, rfl, fun k x hk => by
  have hk0 : k = 0 := by
   cases k with
   | zero => rfl
   | succ k => simp at hk
  subst hk0
  simp at hk
  subst hk
  exact ⟨na, nc, h3.1, h3.2, hn1, hn2, trivial⟩⟩
 have k1 := fun u => key W3 gw u (by omega) (fun b e => by have := (hbl b e).1; omega) ⟨c0, hp⟩
 exact ⟨_, rfl, toV _ (k1 _), fun g hg u => toV _ (key _ g u (by omega) (fun b e => by have := (hbl b e).1; omega) (k1 _)), fun g h hg hh u v => toV _ (key _ h v (by omega) (fun b e => by have := (hbl b e).1; omega) (key _ g u (by omega) (fun b e => by have := (hbl b e).1; omega) (k1 _))), hB.setCell HG.out _⟩
def mx2 (x y : Int) : Int := if y > x then y else x
def mx4 (a b c d : Int) : Int := mx2 (mx2 (mx2 a b) c) d
theorem max4_run (a b c d : Int) (T : Array TypeId) (t : TypeId) (W : World) : (Builtin.max_ T t #[.int .i64 a, .int .i64 b, .int .i64 c, .int .i64 d]).run Tryz.prog W = .ok (.int .i64 (mx4 a b c d)) W := rfl
theorem mx4_lt {a b c d k : Int} : k < mx4 a b c d ↔ k < a ∨ k < b ∨ k < c ∨ k < d := by
 have h : ∀ {x y k : Int}, k < mx2 x y ↔ k < x ∨ k < y := fun {x y k} => by unfold mx2; split <;> omega
 unfold mx4
 rw [h, h, h]
 omega
theorem small_of {l : List Pt} (h : l.any outP = false) : ∀ p ∈ l, p.small := fun p hp => by
 have h1 : outP p = false := by simpa using List.any_eq_false.1 h p hp
 unfold outP at h1
 rw [Bool.or_eq_false_iff] at h1
 exact ⟨outW_not h1.1, outW_not h1.2⟩
set_option maxRecDepth 100000 in
set_option maxHeartbeats 8000000 in
theorem prism_any (axis : Int) (l : List Pt) (a : Option Addr) (c : Nat) (e0 e1 : Int) (w : World) (hv : Pts.V w a l) (hl : l.length ≤ 1000) :
    Calls Tryz.prog 5 #[.int .i64 axis, .slice a l.length c, .agg #[.int .i64 e0, .int .i64 e1]] w fun e w' => ∃ va vc, e = .returned (.tuple #[.agg #[.slice va (prV axis l e0 e1).length vc], .int .i64 (prE axis l e0 e1)]) ∧ Cells.V w' va (prV axis l e0 e1) ∧ (∀ g, g < w.heap.size → ∀ u, Cells.V (w'.setCell ⟨g, 0, none⟩ u) va (prV axis l e0 e1)) ∧ Below w.heap.size w w' := by
 have hmix : Tryz.prog.follows .mixedOrders = true := by kernel_rfl
 obtain ⟨i0, hi0, hz0, hz1, hzb⟩ := info_parts infoPl
 obtain ⟨E, hE⟩ : ∃ E, E = prE axis l e0 e1 := ⟨_, rfl⟩
 obtain ⟨V, hV⟩ : ∃ V, V = prV axis l e0 e1 := ⟨_, rfl⟩
 rw [← hE, ← hV]
 have HE := Lib.hid hE
 have HV := Lib.hid hV
 have HVL := Lib.hid hv
 have HCF := Lib.hid (fun W (h : Below w.heap.size w W) => has_pri1 a l c W (hv.keep h) (by omega))
 have HO := Lib.hid (show (!([e0, e1].any outW)) = !(outW e0 || outW e1) by simp)
 clear hE hV hv
 go_enter Tryz.func5, Tryz.ntmps5
 go_upto_region 1 with fail
 refine gen_world (fun W => (W.cell? ⟨w.heap.size, 0, none⟩ = some (.int .i64 e0) ∧ W.cell? ⟨w.heap.size, 1, none⟩ = some (.int .i64 e1)) ∧ W.cell? ⟨w.heap.size + 1, 0, none⟩ = some (.slice none 0 0) ∧ W.frozen? ⟨w.heap.size + 1, 0, none⟩ = false ∧ Below w.heap.size w W) ⟨⟨by simp [go_sem], by simp [go_sem]⟩, by simp [go_sem], by simp [go_sem], by repeat (first | (with_reducible assumption) | exact Below.refl _ _ | (refine Below.setCell ?_ (by first | omega | (simp; omega) | (simp; done)) _) | (refine Below.alloc ?_ (by first | omega | (simp; omega) | (simp; done)) _) | (refine Below.drew ?_))⟩ ?_
 rintro W ⟨⟨s0, s1⟩, z0, zf, hb⟩
 have HB1 := Lib.hid hb
 clear hb
 obtain ⟨gw, hgw⟩ : ∃ g, g = w.heap.size := ⟨_, rfl⟩
 have HG := Lib.hid (show w.heap.size ≤ gw + 1 by omega)
 rw [← hgw] at s0 s1 z0 zf ⊢
 clear hgw
 by_cases hax : axis < 0 ∨ 2 < axis
 ·have HE1 := Lib.hid (show E = 2 by rw [HE.out]; unfold prE; rw [if_pos hax])
  rcases hax with h | h
  ·go_wp2_with fail
   have HV0 := Lib.hid (show V = [] by rw [HV.out]; unfold prV; rw [← HE.out, HE1.out]; rfl)
   rw [HE1.out]
   refine bodyPost_ret (v := .tuple #[.agg #[.slice none 0 0], .int .i64 2]) ?_ ?_ ?_
   ·simp [results, Tryz.results5, go_sem, got1 z0]
   ·rfl
   ·first | exact ⟨none, 0, by rw [HV0.out]; rfl, (by rw [HV0.out]; exact fun hn => absurd rfl hn), (fun g hg u => by rw [HV0.out]; exact fun hn => absurd rfl hn), HB1.out.setCell HG.out _⟩ | exact ⟨none, ⟨0, by rw [HV0.out]; rfl⟩, (by rw [HV0.out]; exact fun hn => absurd rfl hn), (fun g hg u => by rw [HV0.out]; exact fun hn => absurd rfl hn), HB1.out.setCell HG.out _⟩
  ·have h' : ¬ axis < 0 := by omega
   go_wp2_with fail
   have HV0 := Lib.hid (show V = [] by rw [HV.out]; unfold prV; rw [← HE.out, HE1.out]; rfl)
   rw [HE1.out]
   refine bodyPost_ret (v := .tuple #[.agg #[.slice none 0 0], .int .i64 2]) ?_ ?_ ?_
   ·simp [results, Tryz.results5, go_sem, got1 z0]
   ·rfl
   ·first | exact ⟨none, 0, by rw [HV0.out]; rfl, (by rw [HV0.out]; exact fun hn => absurd rfl hn), (fun g hg u => by rw [HV0.out]; exact fun hn => absurd rfl hn), HB1.out.setCell HG.out _⟩ | exact ⟨none, ⟨0, by rw [HV0.out]; rfl⟩, (by rw [HV0.out]; exact fun hn => absurd rfl hn), (fun g hg u => by rw [HV0.out]; exact fun hn => absurd rfl hn), HB1.out.setCell HG.out _⟩
 have ha1 : ¬ axis < 0 := by omega
 have ha2 : ¬ 2 < axis := by omega
 by_cases hln : l.length < 3 ∨ 14 < l.length
 ·have HE1 := Lib.hid (show E = 10 by rw [HE.out]; unfold prE; rw [if_neg hax, if_pos hln])
  clear hax
  rcases hln with h | h
  ·have h1 : (l.length : Int) < 3 := by omega
   go_wp2_with fail
   have HV0 := Lib.hid (show V = [] by rw [HV.out]; unfold prV; rw [← HE.out, HE1.out]; rfl)
   rw [HE1.out]
   refine bodyPost_ret (v := .tuple #[.agg #[.slice none 0 0], .int .i64 10]) ?_ ?_ ?_
   ·simp [results, Tryz.results5, go_sem, got1 z0]
   ·rfl
   ·first | exact ⟨none, 0, by rw [HV0.out]; rfl, (by rw [HV0.out]; exact fun hn => absurd rfl hn), (fun g hg u => by rw [HV0.out]; exact fun hn => absurd rfl hn), HB1.out.setCell HG.out _⟩ | exact ⟨none, ⟨0, by rw [HV0.out]; rfl⟩, (by rw [HV0.out]; exact fun hn => absurd rfl hn), (fun g hg u => by rw [HV0.out]; exact fun hn => absurd rfl hn), HB1.out.setCell HG.out _⟩
  ·have h1 : ¬ (l.length : Int) < 3 := by omega
   have h2 : (14 : Int) < (l.length : Int) := by omega
   go_wp2_with fail
   have HV0 := Lib.hid (show V = [] by rw [HV.out]; unfold prV; rw [← HE.out, HE1.out]; rfl)
   rw [HE1.out]
   refine bodyPost_ret (v := .tuple #[.agg #[.slice none 0 0], .int .i64 10]) ?_ ?_ ?_
   ·simp [results, Tryz.results5, go_sem, got1 z0]
   ·rfl
   ·first | exact ⟨none, 0, by rw [HV0.out]; rfl, (by rw [HV0.out]; exact fun hn => absurd rfl hn), (fun g hg u => by rw [HV0.out]; exact fun hn => absurd rfl hn), HB1.out.setCell HG.out _⟩ | exact ⟨none, ⟨0, by rw [HV0.out]; rfl⟩, (by rw [HV0.out]; exact fun hn => absurd rfl hn), (fun g hg u => by rw [HV0.out]; exact fun hn => absurd rfl hn), HB1.out.setCell HG.out _⟩
 have hn1 : ¬ (l.length : Int) < 3 := by omega
 have hn2 : ¬ (14 : Int) < (l.length : Int) := by omega
 by_cases hou : (outW e0 || outW e1 || l.any outP) = true
 ·have HE1 := Lib.hid (show E = 2 by rw [HE.out]; unfold prE; rw [if_neg hax, if_neg hln, if_pos hou])
  clear hax hln
  by_cases h1 : (outW e0 || outW e1) = true
  ·rw [h1] at HO
   clear hou h1
   go_wp2_with (go_at_call 12; refine (within_any _ [e0, e1] _ _ (ints_alloc _ _ _) (by simp)).mono ?_; rintro e w2 ⟨rfl, hb⟩; rw [HO.out]; have hb := ((Below.refl _ _).alloc (Nat.le_refl _) _).trans (hb.mono (by simp)); have s0 := cell_keep hb s0; have s1 := cell_keep hb s1; have zf := frozen_keep hb (block_lt_of_cell z0) zf; have z0 := cell_keep hb z0; have HB2 := Lib.hid (HB1.out.trans (hb.mono HB1.out.size)); have HCF2 := Lib.hid (HCF.out w2 HB2.out); clear hb)
   have HV0 := Lib.hid (show V = [] by rw [HV.out]; unfold prV; rw [← HE.out, HE1.out]; rfl)
   rw [HE1.out]
   refine bodyPost_ret (v := .tuple #[.agg #[.slice none 0 0], .int .i64 2]) ?_ ?_ ?_
   ·simp [results, Tryz.results5, go_sem, got1 z0]
   ·rfl
   ·first | exact ⟨none, 0, by rw [HV0.out]; rfl, (by rw [HV0.out]; exact fun hn => absurd rfl hn), (fun g hg u => by rw [HV0.out]; exact fun hn => absurd rfl hn), HB2.out.setCell HG.out _⟩ | exact ⟨none, ⟨0, by rw [HV0.out]; rfl⟩, (by rw [HV0.out]; exact fun hn => absurd rfl hn), (fun g hg u => by rw [HV0.out]; exact fun hn => absurd rfl hn), HB2.out.setCell HG.out _⟩
  ·have h1' : (outW e0 || outW e1) = false := by simpa using h1
   rw [h1'] at HO hou
   rw [Bool.false_or] at hou
   rw [hou] at HCF
   clear hou h1 h1'
   go_wp2_with (first | (go_at_call 12; refine (within_any _ [e0, e1] _ _ (ints_alloc _ _ _) (by simp)).mono ?_; rintro e w2 ⟨rfl, hb⟩; rw [HO.out]; have hb := ((Below.refl _ _).alloc (Nat.le_refl _) _).trans (hb.mono (by simp)); have s0 := cell_keep hb s0; have s1 := cell_keep hb s1; have zf := frozen_keep hb (block_lt_of_cell z0) zf; have z0 := cell_keep hb z0; have HB2 := Lib.hid (HB1.out.trans (hb.mono HB1.out.size)); have HCF2 := Lib.hid (HCF.out w2 HB2.out); clear hb) | (go_at_call 13; refine HCF2.out.mono ?_; rintro e w3 ⟨rfl, hb⟩; have s0 := cell_keep hb s0; have s1 := cell_keep hb s1; have zf := frozen_keep hb (block_lt_of_cell z0) zf; have z0 := cell_keep hb z0; have HB3 := Lib.hid (HB2.out.trans (hb.mono HB2.out.size)); clear hb))
   have HV0 := Lib.hid (show V = [] by rw [HV.out]; unfold prV; rw [← HE.out, HE1.out]; rfl)
   rw [HE1.out]
   refine bodyPost_ret (v := .tuple #[.agg #[.slice none 0 0], .int .i64 2]) ?_ ?_ ?_
   ·simp [results, Tryz.results5, go_sem, got1 z0]
   ·rfl
   ·first | exact ⟨none, 0, by rw [HV0.out]; rfl, (by rw [HV0.out]; exact fun hn => absurd rfl hn), (fun g hg u => by rw [HV0.out]; exact fun hn => absurd rfl hn), HB3.out.setCell HG.out _⟩ | exact ⟨none, ⟨0, by rw [HV0.out]; rfl⟩, (by rw [HV0.out]; exact fun hn => absurd rfl hn), (fun g hg u => by rw [HV0.out]; exact fun hn => absurd rfl hn), HB3.out.setCell HG.out _⟩
 have hou' : (outW e0 || outW e1 || l.any outP) = false := by simpa using hou
 rw [Bool.or_eq_false_iff] at hou'
 obtain ⟨hoe, hol⟩ := hou'
 rw [hoe] at HO
 rw [hol] at HCF
 have HCX := Lib.hid (fun W (h : Below w.heap.size w W) => convex_any a l c W (HVL.out.keep h) hl (small_of hol))
 have HOE := Lib.hid hoe
 have HOL := Lib.hid hol
 have HE0 := Lib.hid (show E = if e1 ≤ e0 ∨ cvxB l = false then 3 else if bigN l l.length = true then 2 else 0 by rw [HE.out]; unfold prE; rw [if_neg hax, if_neg hln, if_neg hou])
 clear hou hoe hol hax hln
 by_cases h1 : e1 ≤ e0
 ·have HE1 := Lib.hid (show E = 3 by rw [HE0.out, if_pos (.inl h1)])
  go_wp2_with (first | (go_at_call 12; refine (within_any _ [e0, e1] _ _ (ints_alloc _ _ _) (by simp)).mono ?_; rintro e w2 ⟨rfl, hb⟩; rw [HO.out]; have hb := ((Below.refl _ _).alloc (Nat.le_refl _) _).trans (hb.mono (by simp)); have s0 := cell_keep hb s0; have s1 := cell_keep hb s1; have zf := frozen_keep hb (block_lt_of_cell z0) zf; have z0 := cell_keep hb z0; have HB2 := Lib.hid (HB1.out.trans (hb.mono HB1.out.size)); have HCF2 := Lib.hid (HCF.out w2 HB2.out); clear hb) | (go_at_call 13; refine HCF2.out.mono ?_; rintro e w3 ⟨rfl, hb⟩; have s0 := cell_keep hb s0; have s1 := cell_keep hb s1; have zf := frozen_keep hb (block_lt_of_cell z0) zf; have z0 := cell_keep hb z0; have HB3 := Lib.hid (HB2.out.trans (hb.mono HB2.out.size)); clear hb))
  have HV0 := Lib.hid (show V = [] by rw [HV.out]; unfold prV; rw [← HE.out, HE1.out]; rfl)
  rw [HE1.out]
  refine bodyPost_ret (v := .tuple #[.agg #[.slice none 0 0], .int .i64 3]) ?_ ?_ ?_
  ·simp [results, Tryz.results5, go_sem, got1 z0]
  ·rfl
  ·first | exact ⟨none, 0, by rw [HV0.out]; rfl, (by rw [HV0.out]; exact fun hn => absurd rfl hn), (fun g hg u => by rw [HV0.out]; exact fun hn => absurd rfl hn), HB3.out.setCell HG.out _⟩ | exact ⟨none, ⟨0, by rw [HV0.out]; rfl⟩, (by rw [HV0.out]; exact fun hn => absurd rfl hn), (fun g hg u => by rw [HV0.out]; exact fun hn => absurd rfl hn), HB3.out.setCell HG.out _⟩
 by_cases h2 : cvxB l = false
 ·have HE1 := Lib.hid (show E = 3 by rw [HE0.out, if_pos (.inr h2)])
  rw [h2] at HCX
  clear h2
  go_wp2_with (first | (go_at_call 12; refine (within_any _ [e0, e1] _ _ (ints_alloc _ _ _) (by simp)).mono ?_; rintro e w2 ⟨rfl, hb⟩; rw [HO.out]; have hb := ((Below.refl _ _).alloc (Nat.le_refl _) _).trans (hb.mono (by simp)); have s0 := cell_keep hb s0; have s1 := cell_keep hb s1; have zf := frozen_keep hb (block_lt_of_cell z0) zf; have z0 := cell_keep hb z0; have HB2 := Lib.hid (HB1.out.trans (hb.mono HB1.out.size)); have HCF2 := Lib.hid (HCF.out w2 HB2.out); clear hb) | (go_at_call 13; refine HCF2.out.mono ?_; rintro e w3 ⟨rfl, hb⟩; have s0 := cell_keep hb s0; have s1 := cell_keep hb s1; have zf := frozen_keep hb (block_lt_of_cell z0) zf; have z0 := cell_keep hb z0; have HB3 := Lib.hid (HB2.out.trans (hb.mono HB2.out.size)); clear hb) | (go_at_call 15; refine (HCX.out _ HB3.out).mono ?_; rintro e w4 ⟨rfl, hb⟩; have s0 := cell_keep hb s0; have s1 := cell_keep hb s1; have zf := frozen_keep hb (block_lt_of_cell z0) zf; have z0 := cell_keep hb z0; have HB4 := Lib.hid (HB3.out.trans (hb.mono HB3.out.size)); clear hb))
  have HV0 := Lib.hid (show V = [] by rw [HV.out]; unfold prV; rw [← HE.out, HE1.out]; rfl)
  rw [HE1.out]
  refine bodyPost_ret (v := .tuple #[.agg #[.slice none 0 0], .int .i64 3]) ?_ ?_ ?_
  ·simp [results, Tryz.results5, go_sem, got1 z0]
  ·rfl
  ·first | exact ⟨none, 0, by rw [HV0.out]; rfl, (by rw [HV0.out]; exact fun hn => absurd rfl hn), (fun g hg u => by rw [HV0.out]; exact fun hn => absurd rfl hn), HB4.out.setCell HG.out _⟩ | exact ⟨none, ⟨0, by rw [HV0.out]; rfl⟩, (by rw [HV0.out]; exact fun hn => absurd rfl hn), (fun g hg u => by rw [HV0.out]; exact fun hn => absurd rfl hn), HB4.out.setCell HG.out _⟩
 have h2' : cvxB l = true := by simpa using h2
 have HE1 := Lib.hid (show E = if bigN l l.length = true then 2 else 0 by rw [HE0.out, if_neg (by simp [h2']; omega)])
 have HCC := Lib.hid h2'
 rw [h2'] at HCX
 clear h2 h2'
 go_upto_region 9 with (first | (go_at_call 12; refine (within_any _ [e0, e1] _ _ (ints_alloc _ _ _) (by simp)).mono ?_; rintro e w2 ⟨rfl, hb⟩; rw [HO.out]; have hb := ((Below.refl _ _).alloc (Nat.le_refl _) _).trans (hb.mono (by simp)); have s0 := cell_keep hb s0; have s1 := cell_keep hb s1; have zf := frozen_keep hb (block_lt_of_cell z0) zf; have z0 := cell_keep hb z0; have HB2 := Lib.hid (HB1.out.trans (hb.mono HB1.out.size)); have HCF2 := Lib.hid (HCF.out w2 HB2.out); clear hb) | (go_at_call 13; refine HCF2.out.mono ?_; rintro e w3 ⟨rfl, hb⟩; have s0 := cell_keep hb s0; have s1 := cell_keep hb s1; have zf := frozen_keep hb (block_lt_of_cell z0) zf; have z0 := cell_keep hb z0; have HB3 := Lib.hid (HB2.out.trans (hb.mono HB2.out.size)); clear hb) | (go_at_call 15; refine (HCX.out _ HB3.out).mono ?_; rintro e w4 ⟨rfl, hb⟩; have s0 := cell_keep hb s0; have s1 := cell_keep hb s1; have zf := frozen_keep hb (block_lt_of_cell z0) zf; have z0 := cell_keep hb z0; have HB4 := Lib.hid (HB3.out.trans (hb.mono HB3.out.size)); clear hb))
 have HS4 := Lib.hid (And.intro s0 s1)
 have HZ4 := Lib.hid (And.intro z0 zf)
 have HGE := Lib.hid (show w.heap.size ≤ gw + 1 from HG.out)
 have hl3 : 3 ≤ l.length := by omega
 have hl14 : l.length ≤ 14 := by omega
 obtain ⟨W4, hW4⟩ : ∃ W4, W4 = w4 := ⟨_, rfl⟩
 subst hW4
 have HVL4 := Lib.hid (HVL.out.keep HB4.out)
 clear HCF HCX HE0
 have hax3 : axis = 0 ∨ axis = 1 ∨ axis = 2 := by omega
 clear ha1 ha2
 rcases hax3 with rfl | rfl | rfl
 ·go_upto_region 12 with fail
  refine gen_world (fun W => (W.cell? ⟨W4.heap.size, 0, none⟩ = some (.int .i64 (-1)) ∧ W.cell? ⟨W4.heap.size, 1, none⟩ = some (.int .i64 0) ∧ W.cell? ⟨W4.heap.size, 2, none⟩ = some (.int .i64 0)) ∧ (W.cell? ⟨W4.heap.size + 1, 0, none⟩ = some (.int .i64 1) ∧ W.cell? ⟨W4.heap.size + 1, 1, none⟩ = some (.int .i64 0) ∧ W.cell? ⟨W4.heap.size + 1, 2, none⟩ = some (.int .i64 0)) ∧ Below W4.heap.size W4 W) ⟨⟨by simp [go_sem], by simp [go_sem], by simp [go_sem]⟩, ⟨by simp [go_sem], by simp [go_sem], by simp [go_sem]⟩, by repeat (first | (with_reducible assumption) | exact Below.refl _ _ | (refine Below.setCell ?_ (by first | omega | (simp; omega) | (simp; done)) _) | (refine Below.alloc ?_ (by first | omega | (simp; omega) | (simp; done)) _) | (refine Below.drew ?_))⟩ ?_
  rintro W5 ⟨⟨p0, p1, p2⟩, ⟨q0, q1, q2⟩, hb⟩
  have s0 := cell_keep hb HS4.out.1
  have s1 := cell_keep hb HS4.out.2
  have HB5 := Lib.hid (HB4.out.trans (hb.mono HB4.out.size))
  have HZ5 := Lib.hid (And.intro (cell_keep hb HZ4.out.1) (frozen_keep hb (block_lt_of_cell HZ4.out.1) HZ4.out.2))
  have HVL5 := Lib.hid (HVL4.out.keep hb)
  have v1 : IntKind.i64.wrap (-e0) = -e0 := by have := outW_not (Bool.or_eq_false_iff.1 HOE.out).1; exact IntWalk.i64_in _ (by omega)
  obtain ⟨gl, hgl⟩ : ∃ g, g = W4.heap.size := ⟨_, rfl⟩
  rw [← hgl] at p0 p1 p2 q0 q1 q2 ⊢
  have kx0 : ∀ u : KW (fun W' => Below W5.heap.size W5 W'), ((u.w.cell? ⟨gl, 0, none⟩ = some (.int .i64 (-1)) ∧ u.w.cell? ⟨gl, 1, none⟩ = some (.int .i64 0) ∧ u.w.cell? ⟨gl, 2, none⟩ = some (.int .i64 0)) ∧ u.w.cell? ⟨gl + 1, 0, none⟩ = some (.int .i64 1) ∧ u.w.cell? ⟨gl + 1, 1, none⟩ = some (.int .i64 0) ∧ u.w.cell? ⟨gl + 1, 2, none⟩ = some (.int .i64 0)) ∧ u.w.cell? ⟨gw, 0, none⟩ = some (.int .i64 e0) ∧ u.w.cell? ⟨gw, 1, none⟩ = some (.int .i64 e1) := fun u => ⟨⟨⟨cell_keep u.ok p0, cell_keep u.ok p1, cell_keep u.ok p2⟩, cell_keep u.ok q0, cell_keep u.ok q1, cell_keep u.ok q2⟩, cell_keep u.ok s0, cell_keep u.ok s1⟩
  haveI nn1 : Nonempty (KW (fun W' => Below W5.heap.size W5 W')) := ⟨⟨W5, Below.refl _ _⟩⟩
  clear hb hgl
  refine wp_region_tree (fun w' => ∃ u : KW (fun W' => Below W5.heap.size W5 W'), w' = u.w) 8 (.take 0 (.take 1 (.take 2 (.take 3 (.take 5 (.take 6 (.take 7 (.one 4 .done)))))))) hmix (by kernel_rfl) (KW.mk' (Below.refl _ _).drew) ?_
  have HC := Lib.hid (show Below W5.heap.size W5 W5.drew from (Below.refl _ _).drew)
  generalize W5.drew = wz at *
  repeat (refine wpTree_take ?_; simp only [nthOp]; (first | go_big_quiet_step (fail) | quiet_step (fail)); refine wpQuiet_nil ?_)
  refine wpTree_one ?_
  simp only [nthOp]
  go_wp2_with (go_at_call 16; refine (plane_any ⟨-1, 0, 0⟩ (-e0) wz).mono ?_; rintro e wt1 ⟨rfl, hb⟩; have HC := Lib.hid (HC.out.trans (hb.mono HC.out.size)); clear hb)
  refine One_mk (KW.mk' HC.out) ?_
  refine wpTree_done ?_
  simp only [List.drop_succ_cons, List.drop_zero]
  go_wp2_with (go_at_call 16; refine (plane_any ⟨1, 0, 0⟩ e1 wt1).mono ?_; rintro e wt2 ⟨rfl, hb⟩; have HC := Lib.hid (HC.out.trans (hb.mono HC.out.size)); clear hb)
  refine NP_mk ?_
  clear kx0 nn1
  obtain ⟨gb, hgb⟩ : ∃ g, g = W5.heap.size := ⟨_, rfl⟩
  have HGB := Lib.hid hgb
  clear hgb p0 p1 p2 q0 q1 q2 s0 s1 v1
  have HO6 := Lib.hid (show (wt2.alloc (.cells #[.int .i64 (-1), .int .i64 0, .int .i64 0, .int .i64 (-e0), .int .i64 1, .int .i64 0, .int .i64 0, .int .i64 e1] 43)).ownsRow gb 43 4 (.slice (some ⟨wt2.heap.size, 0, none⟩) 2 2) (2 + 0) ((capsP 0 e0 e1 ++ sidesP 0 l 0).flatMap cellsPl) from own_lit (n := 2) wt2 ((capsP 0 e0 e1 ++ sidesP 0 l 0).flatMap cellsPl) rfl (by rw [HGB.out]; exact HC.out.size) (by decide))
  have HB6 := Lib.hid (HC.out.alloc HC.out.size (.cells #[.int .i64 (-1), .int .i64 0, .int .i64 0, .int .i64 (-e0), .int .i64 1, .int .i64 0, .int .i64 0, .int .i64 e1] 43))
  generalize (wt2.alloc (.cells #[.int .i64 (-1), .int .i64 0, .int .i64 0, .int .i64 (-e0), .int .i64 1, .int .i64 0, .int .i64 0, .int .i64 e1] 43)) = W6 at *
  generalize wt2.heap.size = gr at *
  go_wp2_with fail
  go_loopw [12, 85] (fun v iv wr => ∃ i : Nat, i ≤ l.length ∧ iv = .int .i64 (i : Int) ∧ Hid (bigN l i = false) ∧ wr.ownsRow gb 43 4 v (2 + i) ((capsP 0 e0 e1 ++ sidesP 0 l i).flatMap cellsPl) ∧ Below W5.heap.size W5 wr) (fun _ iv _ => l.length - (intOf iv).toNat)
  case atStart => exact ⟨0, Nat.zero_le _, rfl, Lib.hid rfl, HO6.out, HB6.out⟩
  case round =>
   obtain ⟨i, hi, rfl, HBN, hown, hb⟩ := hrel
   obtain ⟨W7, rfl⟩ : ∃ W7 : World, W7 = wr := ⟨_, rfl⟩
   have HO7 := Lib.hid hown
   have HB7 := Lib.hid hb
   obtain ⟨va, vc, rfl, -, -⟩ := own_slice hown
   have HV7 := Lib.hid (HVL5.out.keep hb)
   clear hown hb
   by_cases hlt : i < l.length
   ·have hki : (i : Int) < (l.length : Int) := by omega
    obtain ⟨lb, lo, rfl, hat⟩ := HV7.out.at_ hlt
    have HP := Lib.hid (show l.getD i pt0 = l[i] by simp [List.getD, hlt])
    have HPS := Lib.hid (small_of HOL.out _ (List.getElem_mem hlt))
    have HQS := Lib.hid (small_of HOL.out _ (nxt_mem hlt))
    have HNX := Lib.hid (fun W (h : Below W7.heap.size W7 W) => next_any _ l c i W (HV7.out.keep h) hlt (by omega))
    have HNZ := Lib.hid (side_nz (i := i) hl3 (by have h := HCC.out; unfold cvxB cvxN at h; exact List.all_eq_true.1 h i (List.mem_range.2 hlt)))
    have HBS := Lib.hid (bigN_succ l i)
    have HSS := Lib.hid (sidesP_succ 0 l i)
    have HBT := Lib.hid (bigN_true (l := l) hlt)
    rw [HP.out] at HNZ HBS HSS HBT
    obtain ⟨c0, c1, -⟩ := hat
    generalize l[i] = p at *
    generalize nxt l i = q at *
    go_upto_region 16 with fail
    refine gen_world (fun W => W.cell? ⟨W7.heap.size, 0, none⟩ = some (.int .i64 p.x) ∧ W.cell? ⟨W7.heap.size, 1, none⟩ = some (.int .i64 p.y) ∧ Below W7.heap.size W7 W) ⟨by simp [go_sem], by simp [go_sem], by repeat (first | (with_reducible assumption) | exact Below.refl _ _ | (refine Below.setCell ?_ (by first | omega | (simp; omega) | (simp; done)) _) | (refine Below.alloc ?_ (by first | omega | (simp; omega) | (simp; done)) _) | (refine Below.drew ?_))⟩ ?_
    rintro W8 ⟨p0, p1, hb⟩
    have HB8 := Lib.hid hb
    have HNX8 := Lib.hid (HNX.out W8 hb)
    obtain ⟨gp, hgp⟩ : ∃ g, g = W7.heap.size := ⟨_, rfl⟩
    rw [← hgp] at p0 p1 ⊢
    clear hb hgp c0 c1
    go_upto_region 17 with (go_at_call 17; refine HNX8.out.mono ?_; rintro e w9 ⟨rfl, hb⟩; have HB9 := Lib.hid (HB8.out.trans (hb.mono HB8.out.size)); have p0 := cell_keep hb p0; have p1 := cell_keep hb p1; clear hb)
    refine gen_world (fun W => (W.cell? ⟨w9.heap.size, 0, none⟩ = some (.int .i64 q.x) ∧ W.cell? ⟨w9.heap.size, 1, none⟩ = some (.int .i64 q.y)) ∧ (W.cell? ⟨gp, 0, none⟩ = some (.int .i64 p.x) ∧ W.cell? ⟨gp, 1, none⟩ = some (.int .i64 p.y)) ∧ Below w9.heap.size w9 W) ⟨⟨by simp [go_sem], by simp [go_sem]⟩, ⟨cell_keep ((Below.refl _ _).alloc (Nat.le_refl _) _) p0, cell_keep ((Below.refl _ _).alloc (Nat.le_refl _) _) p1⟩, by repeat (first | (with_reducible assumption) | exact Below.refl _ _ | (refine Below.setCell ?_ (by first | omega | (simp; omega) | (simp; done)) _) | (refine Below.alloc ?_ (by first | omega | (simp; omega) | (simp; done)) _) | (refine Below.drew ?_))⟩ ?_
    rintro WA ⟨⟨q0, q1⟩, ⟨p0, p1⟩, hb⟩
    have HBA := Lib.hid (HB9.out.trans (hb.mono HB9.out.size))
    obtain ⟨gq, hgq⟩ : ∃ g, g = w9.heap.size := ⟨_, rfl⟩
    rw [← hgq] at q0 q1 ⊢
    have hl0 := block_lt_of_cell p0
    have hl1 := block_lt_of_cell q0
    simp only at hl0 hl1
    have HPQ := Lib.hid (And.intro p0 p1)
    clear hb hgq
    have hps := HPS.out
    have hqs := HQS.out
    unfold Pt.small at hps hqs
    have w1 : IntKind.i64.wrap (q.x - p.x) = q.x - p.x := IntWalk.i64_in _ (by omega)
    have w2 : IntKind.i64.wrap (q.y - p.y) = q.y - p.y := IntWalk.i64_in _ (by omega)
    refine wp_region_grew (by kernel_rfl) (by kernel_rfl) ?_
    repeat (first | go_big_quiet_step (fail) | quiet_step (fail))
    refine wpQuiet_nil ?_
    rintro _ ⟨gg, rfl⟩
    have HBB := Lib.hid (show Below W7.heap.size W7 (grew WA gg) from grewB HBA.out HBA.out.size _)
    have p0 := (show (grew WA gg).cell? ⟨gp, 0, none⟩ = some (.int .i64 p.x) from cell_keep (grew_below _ _) HPQ.out.1)
    have p1 := (show (grew WA gg).cell? ⟨gp, 1, none⟩ = some (.int .i64 p.y) from cell_keep (grew_below _ _) HPQ.out.2)
    generalize grew WA gg = WB at *
    clear q0 q1 w1 w2
    have HSG := Lib.hid (show gcdL 0 [q.x - p.x, q.y - p.y] = sgP p q by unfold gcdL sgP; simp)
    have HBD := Lib.hid (show ∀ x ∈ [q.x - p.x, q.y - p.y], -1000000000000 ≤ x ∧ x ≤ 1000000000000 from by intro x hx; simp only [List.mem_cons, List.not_mem_nil, or_false] at hx; rcases hx with rfl | rfl <;> omega)
    have HXY := Lib.hid (show snx p q = (q.x - p.x).tdiv (sgP p q : Int) ∧ sny p q = (q.y - p.y).tdiv (sgP p q : Int) from ⟨rfl, rfl⟩)
    have hg0 : ¬ ((sgP p q : Nat) : Int) = 0 := by
     intro e
     have h1 := Nat.eq_zero_of_gcd_eq_zero_left (show Nat.gcd (q.x - p.x).natAbs (q.y - p.y).natAbs = 0 from by unfold sgP at e; omega)
     have h2 := Nat.eq_zero_of_gcd_eq_zero_right (show Nat.gcd (q.x - p.x).natAbs (q.y - p.y).natAbs = 0 from by unfold sgP at e; omega)
     have := HNZ.out
     omega
    have hx1 : -600000 ≤ q.x - p.x ∧ q.x - p.x ≤ 600000 := by omega
    have hy1 : -600000 ≤ q.y - p.y ∧ q.y - p.y ≤ 600000 := by omega
    generalize sgP p q = G at *
    generalize hXe : q.x - p.x = X at *
    generalize hYe : q.y - p.y = Y at *
    clear hXe hYe
    go_upto_region 19 with (go_at_call 18; refine (gcd_any _ [X, Y] _ _ (ints_alloc _ _ _) (by simp) HBD.out).mono ?_; rintro e wC ⟨rfl, hb⟩; have hb := ((Below.refl _ _).alloc (Nat.le_refl _) _).trans (hb.mono (by simp)); have p0 := cell_keep hb p0; have p1 := cell_keep hb p1; have HBC := Lib.hid (HBB.out.trans (hb.mono HBB.out.size)); rw [HSG.out]; clear hb)
    have hnx := tdiv_in (s := (G : Int)) hx1
    have hny := tdiv_in (s := (G : Int)) hy1
    have wt1' : IntKind.i64.wrap (X.tdiv (G : Int)) = X.tdiv (G : Int) := IntWalk.i64_in _ (by omega)
    have wt2' : IntKind.i64.wrap (Y.tdiv (G : Int)) = Y.tdiv (G : Int) := IntWalk.i64_in _ (by omega)
    have HPC := Lib.hid (And.intro p0 p1)
    refine wp_region_grew (by kernel_rfl) (by kernel_rfl) ?_
    repeat (first | go_big_quiet_step (fail) | quiet_step (fail))
    refine wpQuiet_nil ?_
    rintro _ ⟨gg, rfl⟩
    have HBE := Lib.hid (show Below W7.heap.size W7 (grew wC gg) from grewB HBC.out HBC.out.size _)
    have p0 := (show (grew wC gg).cell? ⟨gp, 0, none⟩ = some (.int .i64 p.x) from cell_keep (grew_below _ _) HPC.out.1)
    have p1 := (show (grew wC gg).cell? ⟨gp, 1, none⟩ = some (.int .i64 p.y) from cell_keep (grew_below _ _) HPC.out.2)
    generalize grew wC gg = WE at *
    rw [← HXY.out.1] at hnx wt1' ⊢
    rw [← HXY.out.2] at hny wt2' ⊢
    have HBG := Lib.hid (show bigB p q = !(withinB (snx p q) (-8) 8 && withinB (sny p q) (-8) 8) from rfl)
    have HSP := Lib.hid (show sideP 0 p q = alg 0 (sny p q) (-(snx p q)) 0 (sny p q * p.x - snx p q * p.y) from rfl)
    generalize snx p q = nx at *
    generalize sny p q = ny at *
    clear wt1' wt2' HXY HSG HBD hg0 hx1 hy1
    have wn1 : IntKind.i64.wrap (-nx) = -nx := IntWalk.i64_in _ (by omega)
    have wn2 : IntKind.i64.wrap (-ny) = -ny := IntWalk.i64_in _ (by omega)
    have hmx := max4_run nx (-nx) ny (-ny) #[3, 3, 3, 3] 3
    have HMX := Lib.hid (mx4_lt (a := nx) (b := -nx) (c := ny) (d := -ny) (k := 8))
    generalize mx4 nx (-nx) ny (-ny) = MX at *
    by_cases hbig : -8 ≤ nx ∧ nx ≤ 8 ∧ -8 ≤ ny ∧ ny ≤ 8
    ·have HBF := Lib.hid (show bigB p q = false by rw [HBG.out]; unfold withinB; simp; omega)
     have hm8 : ¬ 8 < MX := by rw [HMX.out]; omega
     have HPE := Lib.hid (And.intro p0 p1)
     have hps2 := mul_in (A := 8) (B := 300000) (a := ny) (b := p.x) (by omega) (by omega)
     have hps3 := mul_in (A := 8) (B := 300000) (a := nx) (b := p.y) (by omega) (by omega)
     have vp1 : IntKind.i64.wrap (ny * p.x) = ny * p.x := IntWalk.i64_in _ (by omega)
     have vp2 : IntKind.i64.wrap (nx * p.y) = nx * p.y := IntWalk.i64_in _ (by omega)
     have vp3 : IntKind.i64.wrap (ny * p.x - nx * p.y) = ny * p.x - nx * p.y := IntWalk.i64_in _ (by omega)
     have HFL := Lib.hid (show (capsP 0 e0 e1 ++ sidesP 0 l (i + 1)).flatMap cellsPl = (capsP 0 e0 e1 ++ sidesP 0 l i).flatMap cellsPl ++ cellsPl (sideP 0 p q) by rw [HSS.out, ← List.append_assoc, List.flatMap_append]; simp)
     rw [HSP.out] at HFL
     have HBN2 := Lib.hid (show bigN l (i + 1) = false by rw [HBS.out, HBN.out, HBF.out]; rfl)
     clear hps2 hps3 hnx hny
     go_upto_region 24 with fail
     refine gen_world (fun W => (W.cell? ⟨WE.heap.size, 0, none⟩ = some (.int .i64 0) ∧ W.cell? ⟨WE.heap.size, 1, none⟩ = some (.int .i64 ny) ∧ W.cell? ⟨WE.heap.size, 2, none⟩ = some (.int .i64 (-nx))) ∧ (W.cell? ⟨gp, 0, none⟩ = some (.int .i64 p.x) ∧ W.cell? ⟨gp, 1, none⟩ = some (.int .i64 p.y)) ∧ Below WE.heap.size WE W) ⟨⟨by simp [go_sem], by simp [go_sem], by simp [go_sem]⟩, ⟨cell_keep (show Below WE.heap.size WE _ by repeat (first | (with_reducible assumption) | exact Below.refl _ _ | (refine Below.setCell ?_ (by first | omega | (simp; omega) | (simp; done)) _) | (refine Below.alloc ?_ (by first | omega | (simp; omega) | (simp; done)) _) | (refine Below.drew ?_))) HPE.out.1, cell_keep (show Below WE.heap.size WE _ by repeat (first | (with_reducible assumption) | exact Below.refl _ _ | (refine Below.setCell ?_ (by first | omega | (simp; omega) | (simp; done)) _) | (refine Below.alloc ?_ (by first | omega | (simp; omega) | (simp; done)) _) | (refine Below.drew ?_))) HPE.out.2⟩, by repeat (first | (with_reducible assumption) | exact Below.refl _ _ | (refine Below.setCell ?_ (by first | omega | (simp; omega) | (simp; done)) _) | (refine Below.alloc ?_ (by first | omega | (simp; omega) | (simp; done)) _) | (refine Below.drew ?_))⟩ ?_
     rintro WF ⟨⟨t0, t1, t2⟩, ⟨p0, p1⟩, hb⟩
     have HBW := Lib.hid (HBE.out.trans (hb.mono HBE.out.size))
     obtain ⟨gt, hgt⟩ : ∃ g, g = WE.heap.size := ⟨_, rfl⟩
     rw [← hgt] at t0 t1 t2 ⊢
     clear hb hgt
     go_wp2_with (first
      | (go_at_call 16; refine (plane_any ⟨0, ny, (-nx)⟩ (ny * p.x - nx * p.y) WF).mono ?_; rintro e wP ⟨rfl, hb⟩; have HBP := Lib.hid (HBW.out.trans (hb.mono HBW.out.size)); clear hb; have hal := (Below.refl wP.heap.size wP).alloc (Nat.le_refl _) (.cells #[.int .i64 0, .int .i64 ny, .int .i64 (-nx), .int .i64 (ny * p.x - nx * p.y)] 43); have HOX := Lib.hid (own_keep (own_keep HO7.out HBP.out) hal); have HBX := Lib.hid (HB7.out.trans ((HBP.out.trans (hal.mono HBP.out.size)).mono HB7.out.size)); have HNW := Lib.hid (fun j u hj => news_of [.int .i64 0, .int .i64 ny, .int .i64 (-nx), .int .i64 (ny * p.x - nx * p.y)] 43 wP wP.heap.size rfl j u hj); clear hal)
      | (at_builtin; go_loud (refine wpList_append_here _ rfl _ _ 44 rfl gb 43 i0 (.agg #[.int .i64 0, .int .i64 0, .int .i64 0, .int .i64 0]) 4 32 Tryz.underlying44 hi0 hz0 hz1 hzb rfl (by decide) (.slice va (2 + i) vc) (2 + i) ((capsP 0 e0 e1 ++ sidesP 0 l i).flatMap cellsPl) rfl HOX.out ⟨wP.heap.size, 0, none⟩ 1 1 [.int .i64 0, .int .i64 ny, .int .i64 (-nx), .int .i64 (ny * p.x - nx * p.y)] rfl rfl (by have h := HNW.out; intro j u hj; simpa using h j u hj) (cellsPl_one ⟨0, ny, (-nx), ny * p.x - nx * p.y⟩) (by decide) (by simp only [maxLen]; omega) (by omega) (by have := HGB.out; have := HBX.out.size; omega) ?_; intro v' w15 hown hgr hat; obtain ⟨va', vc', rfl, -, -⟩ := own_slice hown; have HG15 := Lib.hid hgr; have HA15 := Lib.hid hat; have HO15 := Lib.hid hown; clear hown hgr hat)))
     go_roundw
     case rel => exact ⟨i + 1, by omega, by go_num, HBN2, by rw [HFL.out]; exact HO15.out, below_grown HBX.out HG15.out (HBX.out.size) fun j hj => by have := (own_lt HOX.out hj).1; have := HGB.out; omega⟩
     case measure => first | (simp [intOf]; done) | (simp [intOf]; omega)
    ·have hm8 : 8 < MX := by rw [HMX.out]; omega
     have HBF := Lib.hid (show bigB p q = true by rw [HBG.out]; unfold withinB; simp; omega)
     have HE1 := Lib.hid (show E = 2 by rw [HE1.out, if_pos (HBT.out HBF.out)])
     have HBK := Lib.hid (HB7.out.trans (HBE.out.mono HB7.out.size))
     have z0 := cell_keep HBK.out HZ5.out.1
     have zf := frozen_keep HBK.out (block_lt_of_cell HZ5.out.1) HZ5.out.2
     have HBZ := Lib.hid (HB5.out.trans (HBK.out.mono HB5.out.size))
     go_wp2_with fail
     have HV0 := Lib.hid (show V = [] by rw [HV.out]; unfold prV; rw [← HE.out, HE1.out]; rfl)
     rw [HE1.out]
     refine bodyPost_ret (v := .tuple #[.agg #[.slice none 0 0], .int .i64 2]) ?_ ?_ ?_
     ·simp [results, Tryz.results5, go_sem, got1 z0]
     ·rfl
     ·first | exact ⟨none, 0, by rw [HV0.out]; rfl, (by rw [HV0.out]; exact fun hn => absurd rfl hn), (fun g hg u => by rw [HV0.out]; exact fun hn => absurd rfl hn), HBZ.out.setCell HG.out _⟩ | exact ⟨none, ⟨0, by rw [HV0.out]; rfl⟩, (by rw [HV0.out]; exact fun hn => absurd rfl hn), (fun g hg u => by rw [HV0.out]; exact fun hn => absurd rfl hn), HBZ.out.setCell HG.out _⟩
   ·obtain rfl : i = l.length := by omega
    have hki : ¬ ((l.length : Nat) : Int) < ((l.length : Nat) : Int) := by omega
    have HE1 := Lib.hid (show E = 0 by rw [HE1.out, HBN.out]; rfl)
    have HV0 := Lib.hid (show V = [⟨nf (prP 0 l e0 e1)⟩] by rw [HV.out]; unfold prV; rw [← HE.out, HE1.out]; rfl)
    obtain ⟨hg1, hg2⟩ := pr_good (axis := 0) hl3 hl14 (Bool.or_eq_false_iff.1 HOE.out).1 (Bool.or_eq_false_iff.1 HOE.out).2 HOL.out HCC.out HBN.out
    have hlen : (prP 0 l e0 e1).length = 2 + l.length := by unfold prP capsP sidesP; simp; omega
    have HPV := Lib.hid (show Pls.V W7 va (prP 0 l e0 e1) from ownPlV (fun q hq => Pl.in_.wf (hg1 q hq).1) HO7.out)
    obtain ⟨a', c', e', hn1, hn2⟩ := own_slice HO7.out
    injection e' with e1' e2' e3'
    subst e1' e3'
    have HSG := Lib.hid (single2_any (prP 0 l e0 e1) va vc W7 hg1 (by omega) HPV.out (by rw [hlen]; exact hn1) (by omega))
    rw [hlen] at HSG
    rw [← HV0.out] at HSG
    have z0 := cell_keep HB7.out HZ5.out.1
    have zf := frozen_keep HB7.out (block_lt_of_cell HZ5.out.1) HZ5.out.2
    have hz7 : gw + 1 < W7.heap.size := block_lt_of_cell z0
    have HBK := Lib.hid (HB5.out.trans (HB7.out.mono HB5.out.size))
    have n1 : V.length = 1 := by rw [HV0.out]; rfl
    clear hg1 hg2 hlen hn1 hn2 e2'
    go_wp2_with (go_at_call 19; refine HSG.out.mono ?_; rintro e w8 ⟨sa, rfl, hcv, hcs, hcs2, hb⟩; have HCS := Lib.hid hcs; have HCS2 := Lib.hid hcs2; have z1 := cell_keep hb z0; have zf1 := frozen_keep hb hz7 zf; have HB8 := Lib.hid (HBK.out.trans (hb.mono HBK.out.size)); clear hb hcv hcs hcs2)
    refine bodyPost_ret (v := .tuple #[.agg #[.slice sa 1 1], .int .i64 0]) ?_ ?_ ?_
    ·simp [results, Tryz.results5, go_sem, got1 z1]
    ·rfl
    ·exact ⟨sa, 1, by rw [HE1.out, n1], HCS.out _ hz7 _, fun g hg u => HCS2.out _ g hz7 (Nat.lt_of_lt_of_le hg HBK.out.size) _ u, HB8.out.setCell HG.out _⟩
 ·go_upto_region 12 with fail
  refine gen_world (fun W => (W.cell? ⟨W4.heap.size, 0, none⟩ = some (.int .i64 0) ∧ W.cell? ⟨W4.heap.size, 1, none⟩ = some (.int .i64 (-1)) ∧ W.cell? ⟨W4.heap.size, 2, none⟩ = some (.int .i64 0)) ∧ (W.cell? ⟨W4.heap.size + 1, 0, none⟩ = some (.int .i64 0) ∧ W.cell? ⟨W4.heap.size + 1, 1, none⟩ = some (.int .i64 1) ∧ W.cell? ⟨W4.heap.size + 1, 2, none⟩ = some (.int .i64 0)) ∧ Below W4.heap.size W4 W) ⟨⟨by simp [go_sem], by simp [go_sem], by simp [go_sem]⟩, ⟨by simp [go_sem], by simp [go_sem], by simp [go_sem]⟩, by repeat (first | (with_reducible assumption) | exact Below.refl _ _ | (refine Below.setCell ?_ (by first | omega | (simp; omega) | (simp; done)) _) | (refine Below.alloc ?_ (by first | omega | (simp; omega) | (simp; done)) _) | (refine Below.drew ?_))⟩ ?_
  rintro W5 ⟨⟨p0, p1, p2⟩, ⟨q0, q1, q2⟩, hb⟩
  have s0 := cell_keep hb HS4.out.1
  have s1 := cell_keep hb HS4.out.2
  have HB5 := Lib.hid (HB4.out.trans (hb.mono HB4.out.size))
  have HZ5 := Lib.hid (And.intro (cell_keep hb HZ4.out.1) (frozen_keep hb (block_lt_of_cell HZ4.out.1) HZ4.out.2))
  have HVL5 := Lib.hid (HVL4.out.keep hb)
  have v1 : IntKind.i64.wrap (-e0) = -e0 := by have := outW_not (Bool.or_eq_false_iff.1 HOE.out).1; exact IntWalk.i64_in _ (by omega)
  obtain ⟨gl, hgl⟩ : ∃ g, g = W4.heap.size := ⟨_, rfl⟩
  rw [← hgl] at p0 p1 p2 q0 q1 q2 ⊢
  have kx0 : ∀ u : KW (fun W' => Below W5.heap.size W5 W'), ((u.w.cell? ⟨gl, 0, none⟩ = some (.int .i64 0) ∧ u.w.cell? ⟨gl, 1, none⟩ = some (.int .i64 (-1)) ∧ u.w.cell? ⟨gl, 2, none⟩ = some (.int .i64 0)) ∧ u.w.cell? ⟨gl + 1, 0, none⟩ = some (.int .i64 0) ∧ u.w.cell? ⟨gl + 1, 1, none⟩ = some (.int .i64 1) ∧ u.w.cell? ⟨gl + 1, 2, none⟩ = some (.int .i64 0)) ∧ u.w.cell? ⟨gw, 0, none⟩ = some (.int .i64 e0) ∧ u.w.cell? ⟨gw, 1, none⟩ = some (.int .i64 e1) := fun u => ⟨⟨⟨cell_keep u.ok p0, cell_keep u.ok p1, cell_keep u.ok p2⟩, cell_keep u.ok q0, cell_keep u.ok q1, cell_keep u.ok q2⟩, cell_keep u.ok s0, cell_keep u.ok s1⟩
  haveI nn1 : Nonempty (KW (fun W' => Below W5.heap.size W5 W')) := ⟨⟨W5, Below.refl _ _⟩⟩
  clear hb hgl
  refine wp_region_tree (fun w' => ∃ u : KW (fun W' => Below W5.heap.size W5 W'), w' = u.w) 8 (.take 0 (.take 1 (.take 2 (.take 3 (.take 5 (.take 6 (.take 7 (.one 4 .done)))))))) hmix (by kernel_rfl) (KW.mk' (Below.refl _ _).drew) ?_
  have HC := Lib.hid (show Below W5.heap.size W5 W5.drew from (Below.refl _ _).drew)
  generalize W5.drew = wz at *
  repeat (refine wpTree_take ?_; simp only [nthOp]; (first | go_big_quiet_step (fail) | quiet_step (fail)); refine wpQuiet_nil ?_)
  refine wpTree_one ?_
  simp only [nthOp]
  go_wp2_with (go_at_call 16; refine (plane_any ⟨0, (-1), 0⟩ (-e0) wz).mono ?_; rintro e wt1 ⟨rfl, hb⟩; have HC := Lib.hid (HC.out.trans (hb.mono HC.out.size)); clear hb)
  refine One_mk (KW.mk' HC.out) ?_
  refine wpTree_done ?_
  simp only [List.drop_succ_cons, List.drop_zero]
  go_wp2_with (go_at_call 16; refine (plane_any ⟨0, 1, 0⟩ e1 wt1).mono ?_; rintro e wt2 ⟨rfl, hb⟩; have HC := Lib.hid (HC.out.trans (hb.mono HC.out.size)); clear hb)
  refine NP_mk ?_
  clear kx0 nn1
  obtain ⟨gb, hgb⟩ : ∃ g, g = W5.heap.size := ⟨_, rfl⟩
  have HGB := Lib.hid hgb
  clear hgb p0 p1 p2 q0 q1 q2 s0 s1 v1
  have HO6 := Lib.hid (show (wt2.alloc (.cells #[.int .i64 0, .int .i64 (-1), .int .i64 0, .int .i64 (-e0), .int .i64 0, .int .i64 1, .int .i64 0, .int .i64 e1] 43)).ownsRow gb 43 4 (.slice (some ⟨wt2.heap.size, 0, none⟩) 2 2) (2 + 0) ((capsP 1 e0 e1 ++ sidesP 1 l 0).flatMap cellsPl) from own_lit (n := 2) wt2 ((capsP 1 e0 e1 ++ sidesP 1 l 0).flatMap cellsPl) rfl (by rw [HGB.out]; exact HC.out.size) (by decide))
  have HB6 := Lib.hid (HC.out.alloc HC.out.size (.cells #[.int .i64 0, .int .i64 (-1), .int .i64 0, .int .i64 (-e0), .int .i64 0, .int .i64 1, .int .i64 0, .int .i64 e1] 43))
  generalize (wt2.alloc (.cells #[.int .i64 0, .int .i64 (-1), .int .i64 0, .int .i64 (-e0), .int .i64 0, .int .i64 1, .int .i64 0, .int .i64 e1] 43)) = W6 at *
  generalize wt2.heap.size = gr at *
  go_wp2_with fail
  go_loopw [12, 85] (fun v iv wr => ∃ i : Nat, i ≤ l.length ∧ iv = .int .i64 (i : Int) ∧ Hid (bigN l i = false) ∧ wr.ownsRow gb 43 4 v (2 + i) ((capsP 1 e0 e1 ++ sidesP 1 l i).flatMap cellsPl) ∧ Below W5.heap.size W5 wr) (fun _ iv _ => l.length - (intOf iv).toNat)
  case atStart => exact ⟨0, Nat.zero_le _, rfl, Lib.hid rfl, HO6.out, HB6.out⟩
  case round =>
   obtain ⟨i, hi, rfl, HBN, hown, hb⟩ := hrel
   obtain ⟨W7, rfl⟩ : ∃ W7 : World, W7 = wr := ⟨_, rfl⟩
   have HO7 := Lib.hid hown
   have HB7 := Lib.hid hb
   obtain ⟨va, vc, rfl, -, -⟩ := own_slice hown
   have HV7 := Lib.hid (HVL5.out.keep hb)
   clear hown hb
   by_cases hlt : i < l.length
   ·have hki : (i : Int) < (l.length : Int) := by omega
    obtain ⟨lb, lo, rfl, hat⟩ := HV7.out.at_ hlt
    have HP := Lib.hid (show l.getD i pt0 = l[i] by simp [List.getD, hlt])
    have HPS := Lib.hid (small_of HOL.out _ (List.getElem_mem hlt))
    have HQS := Lib.hid (small_of HOL.out _ (nxt_mem hlt))
    have HNX := Lib.hid (fun W (h : Below W7.heap.size W7 W) => next_any _ l c i W (HV7.out.keep h) hlt (by omega))
    have HNZ := Lib.hid (side_nz (i := i) hl3 (by have h := HCC.out; unfold cvxB cvxN at h; exact List.all_eq_true.1 h i (List.mem_range.2 hlt)))
    have HBS := Lib.hid (bigN_succ l i)
    have HSS := Lib.hid (sidesP_succ 1 l i)
    have HBT := Lib.hid (bigN_true (l := l) hlt)
    rw [HP.out] at HNZ HBS HSS HBT
    obtain ⟨c0, c1, -⟩ := hat
    generalize l[i] = p at *
    generalize nxt l i = q at *
    go_upto_region 16 with fail
    refine gen_world (fun W => W.cell? ⟨W7.heap.size, 0, none⟩ = some (.int .i64 p.x) ∧ W.cell? ⟨W7.heap.size, 1, none⟩ = some (.int .i64 p.y) ∧ Below W7.heap.size W7 W) ⟨by simp [go_sem], by simp [go_sem], by repeat (first | (with_reducible assumption) | exact Below.refl _ _ | (refine Below.setCell ?_ (by first | omega | (simp; omega) | (simp; done)) _) | (refine Below.alloc ?_ (by first | omega | (simp; omega) | (simp; done)) _) | (refine Below.drew ?_))⟩ ?_
    rintro W8 ⟨p0, p1, hb⟩
    have HB8 := Lib.hid hb
    have HNX8 := Lib.hid (HNX.out W8 hb)
    obtain ⟨gp, hgp⟩ : ∃ g, g = W7.heap.size := ⟨_, rfl⟩
    rw [← hgp] at p0 p1 ⊢
    clear hb hgp c0 c1
    go_upto_region 17 with (go_at_call 17; refine HNX8.out.mono ?_; rintro e w9 ⟨rfl, hb⟩; have HB9 := Lib.hid (HB8.out.trans (hb.mono HB8.out.size)); have p0 := cell_keep hb p0; have p1 := cell_keep hb p1; clear hb)
    refine gen_world (fun W => (W.cell? ⟨w9.heap.size, 0, none⟩ = some (.int .i64 q.x) ∧ W.cell? ⟨w9.heap.size, 1, none⟩ = some (.int .i64 q.y)) ∧ (W.cell? ⟨gp, 0, none⟩ = some (.int .i64 p.x) ∧ W.cell? ⟨gp, 1, none⟩ = some (.int .i64 p.y)) ∧ Below w9.heap.size w9 W) ⟨⟨by simp [go_sem], by simp [go_sem]⟩, ⟨cell_keep ((Below.refl _ _).alloc (Nat.le_refl _) _) p0, cell_keep ((Below.refl _ _).alloc (Nat.le_refl _) _) p1⟩, by repeat (first | (with_reducible assumption) | exact Below.refl _ _ | (refine Below.setCell ?_ (by first | omega | (simp; omega) | (simp; done)) _) | (refine Below.alloc ?_ (by first | omega | (simp; omega) | (simp; done)) _) | (refine Below.drew ?_))⟩ ?_
    rintro WA ⟨⟨q0, q1⟩, ⟨p0, p1⟩, hb⟩
    have HBA := Lib.hid (HB9.out.trans (hb.mono HB9.out.size))
    obtain ⟨gq, hgq⟩ : ∃ g, g = w9.heap.size := ⟨_, rfl⟩
    rw [← hgq] at q0 q1 ⊢
    have hl0 := block_lt_of_cell p0
    have hl1 := block_lt_of_cell q0
    simp only at hl0 hl1
    have HPQ := Lib.hid (And.intro p0 p1)
    clear hb hgq
    have hps := HPS.out
    have hqs := HQS.out
    unfold Pt.small at hps hqs
    have w1 : IntKind.i64.wrap (q.x - p.x) = q.x - p.x := IntWalk.i64_in _ (by omega)
    have w2 : IntKind.i64.wrap (q.y - p.y) = q.y - p.y := IntWalk.i64_in _ (by omega)
    refine wp_region_grew (by kernel_rfl) (by kernel_rfl) ?_
    repeat (first | go_big_quiet_step (fail) | quiet_step (fail))
    refine wpQuiet_nil ?_
    rintro _ ⟨gg, rfl⟩
    have HBB := Lib.hid (show Below W7.heap.size W7 (grew WA gg) from grewB HBA.out HBA.out.size _)
    have p0 := (show (grew WA gg).cell? ⟨gp, 0, none⟩ = some (.int .i64 p.x) from cell_keep (grew_below _ _) HPQ.out.1)
    have p1 := (show (grew WA gg).cell? ⟨gp, 1, none⟩ = some (.int .i64 p.y) from cell_keep (grew_below _ _) HPQ.out.2)
    generalize grew WA gg = WB at *
    clear q0 q1 w1 w2
    have HSG := Lib.hid (show gcdL 0 [q.x - p.x, q.y - p.y] = sgP p q by unfold gcdL sgP; simp)
    have HBD := Lib.hid (show ∀ x ∈ [q.x - p.x, q.y - p.y], -1000000000000 ≤ x ∧ x ≤ 1000000000000 from by intro x hx; simp only [List.mem_cons, List.not_mem_nil, or_false] at hx; rcases hx with rfl | rfl <;> omega)
    have HXY := Lib.hid (show snx p q = (q.x - p.x).tdiv (sgP p q : Int) ∧ sny p q = (q.y - p.y).tdiv (sgP p q : Int) from ⟨rfl, rfl⟩)
    have hg0 : ¬ ((sgP p q : Nat) : Int) = 0 := by
     intro e
     have h1 := Nat.eq_zero_of_gcd_eq_zero_left (show Nat.gcd (q.x - p.x).natAbs (q.y - p.y).natAbs = 0 from by unfold sgP at e; omega)
     have h2 := Nat.eq_zero_of_gcd_eq_zero_right (show Nat.gcd (q.x - p.x).natAbs (q.y - p.y).natAbs = 0 from by unfold sgP at e; omega)
     have := HNZ.out
     omega
    have hx1 : -600000 ≤ q.x - p.x ∧ q.x - p.x ≤ 600000 := by omega
    have hy1 : -600000 ≤ q.y - p.y ∧ q.y - p.y ≤ 600000 := by omega
    generalize sgP p q = G at *
    generalize hXe : q.x - p.x = X at *
    generalize hYe : q.y - p.y = Y at *
    clear hXe hYe
    go_upto_region 19 with (go_at_call 18; refine (gcd_any _ [X, Y] _ _ (ints_alloc _ _ _) (by simp) HBD.out).mono ?_; rintro e wC ⟨rfl, hb⟩; have hb := ((Below.refl _ _).alloc (Nat.le_refl _) _).trans (hb.mono (by simp)); have p0 := cell_keep hb p0; have p1 := cell_keep hb p1; have HBC := Lib.hid (HBB.out.trans (hb.mono HBB.out.size)); rw [HSG.out]; clear hb)
    have hnx := tdiv_in (s := (G : Int)) hx1
    have hny := tdiv_in (s := (G : Int)) hy1
    have wt1' : IntKind.i64.wrap (X.tdiv (G : Int)) = X.tdiv (G : Int) := IntWalk.i64_in _ (by omega)
    have wt2' : IntKind.i64.wrap (Y.tdiv (G : Int)) = Y.tdiv (G : Int) := IntWalk.i64_in _ (by omega)
    have HPC := Lib.hid (And.intro p0 p1)
    refine wp_region_grew (by kernel_rfl) (by kernel_rfl) ?_
    repeat (first | go_big_quiet_step (fail) | quiet_step (fail))
    refine wpQuiet_nil ?_
    rintro _ ⟨gg, rfl⟩
    have HBE := Lib.hid (show Below W7.heap.size W7 (grew wC gg) from grewB HBC.out HBC.out.size _)
    have p0 := (show (grew wC gg).cell? ⟨gp, 0, none⟩ = some (.int .i64 p.x) from cell_keep (grew_below _ _) HPC.out.1)
    have p1 := (show (grew wC gg).cell? ⟨gp, 1, none⟩ = some (.int .i64 p.y) from cell_keep (grew_below _ _) HPC.out.2)
    generalize grew wC gg = WE at *
    rw [← HXY.out.1] at hnx wt1' ⊢
    rw [← HXY.out.2] at hny wt2' ⊢
    have HBG := Lib.hid (show bigB p q = !(withinB (snx p q) (-8) 8 && withinB (sny p q) (-8) 8) from rfl)
    have HSP := Lib.hid (show sideP 1 p q = alg 1 (sny p q) (-(snx p q)) 0 (sny p q * p.x - snx p q * p.y) from rfl)
    generalize snx p q = nx at *
    generalize sny p q = ny at *
    clear wt1' wt2' HXY HSG HBD hg0 hx1 hy1
    have wn1 : IntKind.i64.wrap (-nx) = -nx := IntWalk.i64_in _ (by omega)
    have wn2 : IntKind.i64.wrap (-ny) = -ny := IntWalk.i64_in _ (by omega)
    have hmx := max4_run nx (-nx) ny (-ny) #[3, 3, 3, 3] 3
    have HMX := Lib.hid (mx4_lt (a := nx) (b := -nx) (c := ny) (d := -ny) (k := 8))
    generalize mx4 nx (-nx) ny (-ny) = MX at *
    by_cases hbig : -8 ≤ nx ∧ nx ≤ 8 ∧ -8 ≤ ny ∧ ny ≤ 8
    ·have HBF := Lib.hid (show bigB p q = false by rw [HBG.out]; unfold withinB; simp; omega)
     have hm8 : ¬ 8 < MX := by rw [HMX.out]; omega
     have HPE := Lib.hid (And.intro p0 p1)
     have hps2 := mul_in (A := 8) (B := 300000) (a := ny) (b := p.x) (by omega) (by omega)
     have hps3 := mul_in (A := 8) (B := 300000) (a := nx) (b := p.y) (by omega) (by omega)
     have vp1 : IntKind.i64.wrap (ny * p.x) = ny * p.x := IntWalk.i64_in _ (by omega)
     have vp2 : IntKind.i64.wrap (nx * p.y) = nx * p.y := IntWalk.i64_in _ (by omega)
     have vp3 : IntKind.i64.wrap (ny * p.x - nx * p.y) = ny * p.x - nx * p.y := IntWalk.i64_in _ (by omega)
     have HFL := Lib.hid (show (capsP 1 e0 e1 ++ sidesP 1 l (i + 1)).flatMap cellsPl = (capsP 1 e0 e1 ++ sidesP 1 l i).flatMap cellsPl ++ cellsPl (sideP 1 p q) by rw [HSS.out, ← List.append_assoc, List.flatMap_append]; simp)
     rw [HSP.out] at HFL
     have HBN2 := Lib.hid (show bigN l (i + 1) = false by rw [HBS.out, HBN.out, HBF.out]; rfl)
     clear hps2 hps3 hnx hny
     go_upto_region 24 with fail
     refine gen_world (fun W => (W.cell? ⟨WE.heap.size, 0, none⟩ = some (.int .i64 (-nx)) ∧ W.cell? ⟨WE.heap.size, 1, none⟩ = some (.int .i64 0) ∧ W.cell? ⟨WE.heap.size, 2, none⟩ = some (.int .i64 ny)) ∧ (W.cell? ⟨gp, 0, none⟩ = some (.int .i64 p.x) ∧ W.cell? ⟨gp, 1, none⟩ = some (.int .i64 p.y)) ∧ Below WE.heap.size WE W) ⟨⟨by simp [go_sem], by simp [go_sem], by simp [go_sem]⟩, ⟨cell_keep (show Below WE.heap.size WE _ by repeat (first | (with_reducible assumption) | exact Below.refl _ _ | (refine Below.setCell ?_ (by first | omega | (simp; omega) | (simp; done)) _) | (refine Below.alloc ?_ (by first | omega | (simp; omega) | (simp; done)) _) | (refine Below.drew ?_))) HPE.out.1, cell_keep (show Below WE.heap.size WE _ by repeat (first | (with_reducible assumption) | exact Below.refl _ _ | (refine Below.setCell ?_ (by first | omega | (simp; omega) | (simp; done)) _) | (refine Below.alloc ?_ (by first | omega | (simp; omega) | (simp; done)) _) | (refine Below.drew ?_))) HPE.out.2⟩, by repeat (first | (with_reducible assumption) | exact Below.refl _ _ | (refine Below.setCell ?_ (by first | omega | (simp; omega) | (simp; done)) _) | (refine Below.alloc ?_ (by first | omega | (simp; omega) | (simp; done)) _) | (refine Below.drew ?_))⟩ ?_
     rintro WF ⟨⟨t0, t1, t2⟩, ⟨p0, p1⟩, hb⟩
     have HBW := Lib.hid (HBE.out.trans (hb.mono HBE.out.size))
     obtain ⟨gt, hgt⟩ : ∃ g, g = WE.heap.size := ⟨_, rfl⟩
     rw [← hgt] at t0 t1 t2 ⊢
     clear hb hgt
     go_wp2_with (first
      | (go_at_call 16; refine (plane_any ⟨(-nx), 0, ny⟩ (ny * p.x - nx * p.y) WF).mono ?_; rintro e wP ⟨rfl, hb⟩; have HBP := Lib.hid (HBW.out.trans (hb.mono HBW.out.size)); clear hb; have hal := (Below.refl wP.heap.size wP).alloc (Nat.le_refl _) (.cells #[.int .i64 (-nx), .int .i64 0, .int .i64 ny, .int .i64 (ny * p.x - nx * p.y)] 43); have HOX := Lib.hid (own_keep (own_keep HO7.out HBP.out) hal); have HBX := Lib.hid (HB7.out.trans ((HBP.out.trans (hal.mono HBP.out.size)).mono HB7.out.size)); have HNW := Lib.hid (fun j u hj => news_of [.int .i64 (-nx), .int .i64 0, .int .i64 ny, .int .i64 (ny * p.x - nx * p.y)] 43 wP wP.heap.size rfl j u hj); clear hal)
      | (at_builtin; go_loud (refine wpList_append_here _ rfl _ _ 44 rfl gb 43 i0 (.agg #[.int .i64 0, .int .i64 0, .int .i64 0, .int .i64 0]) 4 32 Tryz.underlying44 hi0 hz0 hz1 hzb rfl (by decide) (.slice va (2 + i) vc) (2 + i) ((capsP 1 e0 e1 ++ sidesP 1 l i).flatMap cellsPl) rfl HOX.out ⟨wP.heap.size, 0, none⟩ 1 1 [.int .i64 (-nx), .int .i64 0, .int .i64 ny, .int .i64 (ny * p.x - nx * p.y)] rfl rfl (by have h := HNW.out; intro j u hj; simpa using h j u hj) (cellsPl_one ⟨(-nx), 0, ny, ny * p.x - nx * p.y⟩) (by decide) (by simp only [maxLen]; omega) (by omega) (by have := HGB.out; have := HBX.out.size; omega) ?_; intro v' w15 hown hgr hat; obtain ⟨va', vc', rfl, -, -⟩ := own_slice hown; have HG15 := Lib.hid hgr; have HA15 := Lib.hid hat; have HO15 := Lib.hid hown; clear hown hgr hat)))
     go_roundw
     case rel => exact ⟨i + 1, by omega, by go_num, HBN2, by rw [HFL.out]; exact HO15.out, below_grown HBX.out HG15.out (HBX.out.size) fun j hj => by have := (own_lt HOX.out hj).1; have := HGB.out; omega⟩
     case measure => first | (simp [intOf]; done) | (simp [intOf]; omega)
    ·have hm8 : 8 < MX := by rw [HMX.out]; omega
     have HBF := Lib.hid (show bigB p q = true by rw [HBG.out]; unfold withinB; simp; omega)
     have HE1 := Lib.hid (show E = 2 by rw [HE1.out, if_pos (HBT.out HBF.out)])
     have HBK := Lib.hid (HB7.out.trans (HBE.out.mono HB7.out.size))
     have z0 := cell_keep HBK.out HZ5.out.1
     have zf := frozen_keep HBK.out (block_lt_of_cell HZ5.out.1) HZ5.out.2
     have HBZ := Lib.hid (HB5.out.trans (HBK.out.mono HB5.out.size))
     go_wp2_with fail
     have HV0 := Lib.hid (show V = [] by rw [HV.out]; unfold prV; rw [← HE.out, HE1.out]; rfl)
     rw [HE1.out]
     refine bodyPost_ret (v := .tuple #[.agg #[.slice none 0 0], .int .i64 2]) ?_ ?_ ?_
     ·simp [results, Tryz.results5, go_sem, got1 z0]
     ·rfl
     ·first | exact ⟨none, 0, by rw [HV0.out]; rfl, (by rw [HV0.out]; exact fun hn => absurd rfl hn), (fun g hg u => by rw [HV0.out]; exact fun hn => absurd rfl hn), HBZ.out.setCell HG.out _⟩ | exact ⟨none, ⟨0, by rw [HV0.out]; rfl⟩, (by rw [HV0.out]; exact fun hn => absurd rfl hn), (fun g hg u => by rw [HV0.out]; exact fun hn => absurd rfl hn), HBZ.out.setCell HG.out _⟩
   ·obtain rfl : i = l.length := by omega
    have hki : ¬ ((l.length : Nat) : Int) < ((l.length : Nat) : Int) := by omega
    have HE1 := Lib.hid (show E = 0 by rw [HE1.out, HBN.out]; rfl)
    have HV0 := Lib.hid (show V = [⟨nf (prP 1 l e0 e1)⟩] by rw [HV.out]; unfold prV; rw [← HE.out, HE1.out]; rfl)
    obtain ⟨hg1, hg2⟩ := pr_good (axis := 1) hl3 hl14 (Bool.or_eq_false_iff.1 HOE.out).1 (Bool.or_eq_false_iff.1 HOE.out).2 HOL.out HCC.out HBN.out
    have hlen : (prP 1 l e0 e1).length = 2 + l.length := by unfold prP capsP sidesP; simp; omega
    have HPV := Lib.hid (show Pls.V W7 va (prP 1 l e0 e1) from ownPlV (fun q hq => Pl.in_.wf (hg1 q hq).1) HO7.out)
    obtain ⟨a', c', e', hn1, hn2⟩ := own_slice HO7.out
    injection e' with e1' e2' e3'
    subst e1' e3'
    have HSG := Lib.hid (single2_any (prP 1 l e0 e1) va vc W7 hg1 (by omega) HPV.out (by rw [hlen]; exact hn1) (by omega))
    rw [hlen] at HSG
    rw [← HV0.out] at HSG
    have z0 := cell_keep HB7.out HZ5.out.1
    have zf := frozen_keep HB7.out (block_lt_of_cell HZ5.out.1) HZ5.out.2
    have hz7 : gw + 1 < W7.heap.size := block_lt_of_cell z0
    have HBK := Lib.hid (HB5.out.trans (HB7.out.mono HB5.out.size))
    have n1 : V.length = 1 := by rw [HV0.out]; rfl
    clear hg1 hg2 hlen hn1 hn2 e2'
    go_wp2_with (go_at_call 19; refine HSG.out.mono ?_; rintro e w8 ⟨sa, rfl, hcv, hcs, hcs2, hb⟩; have HCS := Lib.hid hcs; have HCS2 := Lib.hid hcs2; have z1 := cell_keep hb z0; have zf1 := frozen_keep hb hz7 zf; have HB8 := Lib.hid (HBK.out.trans (hb.mono HBK.out.size)); clear hb hcv hcs hcs2)
    refine bodyPost_ret (v := .tuple #[.agg #[.slice sa 1 1], .int .i64 0]) ?_ ?_ ?_
    ·simp [results, Tryz.results5, go_sem, got1 z1]
    ·rfl
    ·exact ⟨sa, 1, by rw [HE1.out, n1], HCS.out _ hz7 _, fun g hg u => HCS2.out _ g hz7 (Nat.lt_of_lt_of_le hg HBK.out.size) _ u, HB8.out.setCell HG.out _⟩
 ·go_upto_region 12 with fail
  refine gen_world (fun W => (W.cell? ⟨W4.heap.size, 0, none⟩ = some (.int .i64 0) ∧ W.cell? ⟨W4.heap.size, 1, none⟩ = some (.int .i64 0) ∧ W.cell? ⟨W4.heap.size, 2, none⟩ = some (.int .i64 (-1))) ∧ (W.cell? ⟨W4.heap.size + 1, 0, none⟩ = some (.int .i64 0) ∧ W.cell? ⟨W4.heap.size + 1, 1, none⟩ = some (.int .i64 0) ∧ W.cell? ⟨W4.heap.size + 1, 2, none⟩ = some (.int .i64 1)) ∧ Below W4.heap.size W4 W) ⟨⟨by simp [go_sem], by simp [go_sem], by simp [go_sem]⟩, ⟨by simp [go_sem], by simp [go_sem], by simp [go_sem]⟩, by repeat (first | (with_reducible assumption) | exact Below.refl _ _ | (refine Below.setCell ?_ (by first | omega | (simp; omega) | (simp; done)) _) | (refine Below.alloc ?_ (by first | omega | (simp; omega) | (simp; done)) _) | (refine Below.drew ?_))⟩ ?_
  rintro W5 ⟨⟨p0, p1, p2⟩, ⟨q0, q1, q2⟩, hb⟩
  have s0 := cell_keep hb HS4.out.1
  have s1 := cell_keep hb HS4.out.2
  have HB5 := Lib.hid (HB4.out.trans (hb.mono HB4.out.size))
  have HZ5 := Lib.hid (And.intro (cell_keep hb HZ4.out.1) (frozen_keep hb (block_lt_of_cell HZ4.out.1) HZ4.out.2))
  have HVL5 := Lib.hid (HVL4.out.keep hb)
  have v1 : IntKind.i64.wrap (-e0) = -e0 := by have := outW_not (Bool.or_eq_false_iff.1 HOE.out).1; exact IntWalk.i64_in _ (by omega)
  obtain ⟨gl, hgl⟩ : ∃ g, g = W4.heap.size := ⟨_, rfl⟩
  rw [← hgl] at p0 p1 p2 q0 q1 q2 ⊢
  have kx0 : ∀ u : KW (fun W' => Below W5.heap.size W5 W'), ((u.w.cell? ⟨gl, 0, none⟩ = some (.int .i64 0) ∧ u.w.cell? ⟨gl, 1, none⟩ = some (.int .i64 0) ∧ u.w.cell? ⟨gl, 2, none⟩ = some (.int .i64 (-1))) ∧ u.w.cell? ⟨gl + 1, 0, none⟩ = some (.int .i64 0) ∧ u.w.cell? ⟨gl + 1, 1, none⟩ = some (.int .i64 0) ∧ u.w.cell? ⟨gl + 1, 2, none⟩ = some (.int .i64 1)) ∧ u.w.cell? ⟨gw, 0, none⟩ = some (.int .i64 e0) ∧ u.w.cell? ⟨gw, 1, none⟩ = some (.int .i64 e1) := fun u => ⟨⟨⟨cell_keep u.ok p0, cell_keep u.ok p1, cell_keep u.ok p2⟩, cell_keep u.ok q0, cell_keep u.ok q1, cell_keep u.ok q2⟩, cell_keep u.ok s0, cell_keep u.ok s1⟩
  haveI nn1 : Nonempty (KW (fun W' => Below W5.heap.size W5 W')) := ⟨⟨W5, Below.refl _ _⟩⟩
  clear hb hgl
  refine wp_region_tree (fun w' => ∃ u : KW (fun W' => Below W5.heap.size W5 W'), w' = u.w) 8 (.take 0 (.take 1 (.take 2 (.take 3 (.take 5 (.take 6 (.take 7 (.one 4 .done)))))))) hmix (by kernel_rfl) (KW.mk' (Below.refl _ _).drew) ?_
  have HC := Lib.hid (show Below W5.heap.size W5 W5.drew from (Below.refl _ _).drew)
  generalize W5.drew = wz at *
  repeat (refine wpTree_take ?_; simp only [nthOp]; (first | go_big_quiet_step (fail) | quiet_step (fail)); refine wpQuiet_nil ?_)
  refine wpTree_one ?_
  simp only [nthOp]
  go_wp2_with (go_at_call 16; refine (plane_any ⟨0, 0, (-1)⟩ (-e0) wz).mono ?_; rintro e wt1 ⟨rfl, hb⟩; have HC := Lib.hid (HC.out.trans (hb.mono HC.out.size)); clear hb)
  refine One_mk (KW.mk' HC.out) ?_
  refine wpTree_done ?_
  simp only [List.drop_succ_cons, List.drop_zero]
  go_wp2_with (go_at_call 16; refine (plane_any ⟨0, 0, 1⟩ e1 wt1).mono ?_; rintro e wt2 ⟨rfl, hb⟩; have HC := Lib.hid (HC.out.trans (hb.mono HC.out.size)); clear hb)
  refine NP_mk ?_
  clear kx0 nn1
  obtain ⟨gb, hgb⟩ : ∃ g, g = W5.heap.size := ⟨_, rfl⟩
  have HGB := Lib.hid hgb
  clear hgb p0 p1 p2 q0 q1 q2 s0 s1 v1
  have HO6 := Lib.hid (show (wt2.alloc (.cells #[.int .i64 0, .int .i64 0, .int .i64 (-1), .int .i64 (-e0), .int .i64 0, .int .i64 0, .int .i64 1, .int .i64 e1] 43)).ownsRow gb 43 4 (.slice (some ⟨wt2.heap.size, 0, none⟩) 2 2) (2 + 0) ((capsP 2 e0 e1 ++ sidesP 2 l 0).flatMap cellsPl) from own_lit (n := 2) wt2 ((capsP 2 e0 e1 ++ sidesP 2 l 0).flatMap cellsPl) rfl (by rw [HGB.out]; exact HC.out.size) (by decide))
  have HB6 := Lib.hid (HC.out.alloc HC.out.size (.cells #[.int .i64 0, .int .i64 0, .int .i64 (-1), .int .i64 (-e0), .int .i64 0, .int .i64 0, .int .i64 1, .int .i64 e1] 43))
  generalize (wt2.alloc (.cells #[.int .i64 0, .int .i64 0, .int .i64 (-1), .int .i64 (-e0), .int .i64 0, .int .i64 0, .int .i64 1, .int .i64 e1] 43)) = W6 at *
  generalize wt2.heap.size = gr at *
  go_wp2_with fail
  go_loopw [12, 85] (fun v iv wr => ∃ i : Nat, i ≤ l.length ∧ iv = .int .i64 (i : Int) ∧ Hid (bigN l i = false) ∧ wr.ownsRow gb 43 4 v (2 + i) ((capsP 2 e0 e1 ++ sidesP 2 l i).flatMap cellsPl) ∧ Below W5.heap.size W5 wr) (fun _ iv _ => l.length - (intOf iv).toNat)
  case atStart => exact ⟨0, Nat.zero_le _, rfl, Lib.hid rfl, HO6.out, HB6.out⟩
  case round =>
   obtain ⟨i, hi, rfl, HBN, hown, hb⟩ := hrel
   obtain ⟨W7, rfl⟩ : ∃ W7 : World, W7 = wr := ⟨_, rfl⟩
   have HO7 := Lib.hid hown
   have HB7 := Lib.hid hb
   obtain ⟨va, vc, rfl, -, -⟩ := own_slice hown
   have HV7 := Lib.hid (HVL5.out.keep hb)
   clear hown hb
   by_cases hlt : i < l.length
   ·have hki : (i : Int) < (l.length : Int) := by omega
    obtain ⟨lb, lo, rfl, hat⟩ := HV7.out.at_ hlt
    have HP := Lib.hid (show l.getD i pt0 = l[i] by simp [List.getD, hlt])
    have HPS := Lib.hid (small_of HOL.out _ (List.getElem_mem hlt))
    have HQS := Lib.hid (small_of HOL.out _ (nxt_mem hlt))
    have HNX := Lib.hid (fun W (h : Below W7.heap.size W7 W) => next_any _ l c i W (HV7.out.keep h) hlt (by omega))
    have HNZ := Lib.hid (side_nz (i := i) hl3 (by have h := HCC.out; unfold cvxB cvxN at h; exact List.all_eq_true.1 h i (List.mem_range.2 hlt)))
    have HBS := Lib.hid (bigN_succ l i)
    have HSS := Lib.hid (sidesP_succ 2 l i)
    have HBT := Lib.hid (bigN_true (l := l) hlt)
    rw [HP.out] at HNZ HBS HSS HBT
    obtain ⟨c0, c1, -⟩ := hat
    generalize l[i] = p at *
    generalize nxt l i = q at *
    go_upto_region 16 with fail
    refine gen_world (fun W => W.cell? ⟨W7.heap.size, 0, none⟩ = some (.int .i64 p.x) ∧ W.cell? ⟨W7.heap.size, 1, none⟩ = some (.int .i64 p.y) ∧ Below W7.heap.size W7 W) ⟨by simp [go_sem], by simp [go_sem], by repeat (first | (with_reducible assumption) | exact Below.refl _ _ | (refine Below.setCell ?_ (by first | omega | (simp; omega) | (simp; done)) _) | (refine Below.alloc ?_ (by first | omega | (simp; omega) | (simp; done)) _) | (refine Below.drew ?_))⟩ ?_
    rintro W8 ⟨p0, p1, hb⟩
    have HB8 := Lib.hid hb
    have HNX8 := Lib.hid (HNX.out W8 hb)
    obtain ⟨gp, hgp⟩ : ∃ g, g = W7.heap.size := ⟨_, rfl⟩
    rw [← hgp] at p0 p1 ⊢
    clear hb hgp c0 c1
    go_upto_region 17 with (go_at_call 17; refine HNX8.out.mono ?_; rintro e w9 ⟨rfl, hb⟩; have HB9 := Lib.hid (HB8.out.trans (hb.mono HB8.out.size)); have p0 := cell_keep hb p0; have p1 := cell_keep hb p1; clear hb)
    refine gen_world (fun W => (W.cell? ⟨w9.heap.size, 0, none⟩ = some (.int .i64 q.x) ∧ W.cell? ⟨w9.heap.size, 1, none⟩ = some (.int .i64 q.y)) ∧ (W.cell? ⟨gp, 0, none⟩ = some (.int .i64 p.x) ∧ W.cell? ⟨gp, 1, none⟩ = some (.int .i64 p.y)) ∧ Below w9.heap.size w9 W) ⟨⟨by simp [go_sem], by simp [go_sem]⟩, ⟨cell_keep ((Below.refl _ _).alloc (Nat.le_refl _) _) p0, cell_keep ((Below.refl _ _).alloc (Nat.le_refl _) _) p1⟩, by repeat (first | (with_reducible assumption) | exact Below.refl _ _ | (refine Below.setCell ?_ (by first | omega | (simp; omega) | (simp; done)) _) | (refine Below.alloc ?_ (by first | omega | (simp; omega) | (simp; done)) _) | (refine Below.drew ?_))⟩ ?_
    rintro WA ⟨⟨q0, q1⟩, ⟨p0, p1⟩, hb⟩
    have HBA := Lib.hid (HB9.out.trans (hb.mono HB9.out.size))
    obtain ⟨gq, hgq⟩ : ∃ g, g = w9.heap.size := ⟨_, rfl⟩
    rw [← hgq] at q0 q1 ⊢
    have hl0 := block_lt_of_cell p0
    have hl1 := block_lt_of_cell q0
    simp only at hl0 hl1
    have HPQ := Lib.hid (And.intro p0 p1)
    clear hb hgq
    have hps := HPS.out
    have hqs := HQS.out
    unfold Pt.small at hps hqs
    have w1 : IntKind.i64.wrap (q.x - p.x) = q.x - p.x := IntWalk.i64_in _ (by omega)
    have w2 : IntKind.i64.wrap (q.y - p.y) = q.y - p.y := IntWalk.i64_in _ (by omega)
    refine wp_region_grew (by kernel_rfl) (by kernel_rfl) ?_
    repeat (first | go_big_quiet_step (fail) | quiet_step (fail))
    refine wpQuiet_nil ?_
    rintro _ ⟨gg, rfl⟩
    have HBB := Lib.hid (show Below W7.heap.size W7 (grew WA gg) from grewB HBA.out HBA.out.size _)
    have p0 := (show (grew WA gg).cell? ⟨gp, 0, none⟩ = some (.int .i64 p.x) from cell_keep (grew_below _ _) HPQ.out.1)
    have p1 := (show (grew WA gg).cell? ⟨gp, 1, none⟩ = some (.int .i64 p.y) from cell_keep (grew_below _ _) HPQ.out.2)
    generalize grew WA gg = WB at *
    clear q0 q1 w1 w2
    have HSG := Lib.hid (show gcdL 0 [q.x - p.x, q.y - p.y] = sgP p q by unfold gcdL sgP; simp)
    have HBD := Lib.hid (show ∀ x ∈ [q.x - p.x, q.y - p.y], -1000000000000 ≤ x ∧ x ≤ 1000000000000 from by intro x hx; simp only [List.mem_cons, List.not_mem_nil, or_false] at hx; rcases hx with rfl | rfl <;> omega)
    have HXY := Lib.hid (show snx p q = (q.x - p.x).tdiv (sgP p q : Int) ∧ sny p q = (q.y - p.y).tdiv (sgP p q : Int) from ⟨rfl, rfl⟩)
    have hg0 : ¬ ((sgP p q : Nat) : Int) = 0 := by
     intro e
     have h1 := Nat.eq_zero_of_gcd_eq_zero_left (show Nat.gcd (q.x - p.x).natAbs (q.y - p.y).natAbs = 0 from by unfold sgP at e; omega)
     have h2 := Nat.eq_zero_of_gcd_eq_zero_right (show Nat.gcd (q.x - p.x).natAbs (q.y - p.y).natAbs = 0 from by unfold sgP at e; omega)
     have := HNZ.out
     omega
    have hx1 : -600000 ≤ q.x - p.x ∧ q.x - p.x ≤ 600000 := by omega
    have hy1 : -600000 ≤ q.y - p.y ∧ q.y - p.y ≤ 600000 := by omega
    generalize sgP p q = G at *
    generalize hXe : q.x - p.x = X at *
    generalize hYe : q.y - p.y = Y at *
    clear hXe hYe
    go_upto_region 19 with (go_at_call 18; refine (gcd_any _ [X, Y] _ _ (ints_alloc _ _ _) (by simp) HBD.out).mono ?_; rintro e wC ⟨rfl, hb⟩; have hb := ((Below.refl _ _).alloc (Nat.le_refl _) _).trans (hb.mono (by simp)); have p0 := cell_keep hb p0; have p1 := cell_keep hb p1; have HBC := Lib.hid (HBB.out.trans (hb.mono HBB.out.size)); rw [HSG.out]; clear hb)
    have hnx := tdiv_in (s := (G : Int)) hx1
    have hny := tdiv_in (s := (G : Int)) hy1
    have wt1' : IntKind.i64.wrap (X.tdiv (G : Int)) = X.tdiv (G : Int) := IntWalk.i64_in _ (by omega)
    have wt2' : IntKind.i64.wrap (Y.tdiv (G : Int)) = Y.tdiv (G : Int) := IntWalk.i64_in _ (by omega)
    have HPC := Lib.hid (And.intro p0 p1)
    refine wp_region_grew (by kernel_rfl) (by kernel_rfl) ?_
    repeat (first | go_big_quiet_step (fail) | quiet_step (fail))
    refine wpQuiet_nil ?_
    rintro _ ⟨gg, rfl⟩
    have HBE := Lib.hid (show Below W7.heap.size W7 (grew wC gg) from grewB HBC.out HBC.out.size _)
    have p0 := (show (grew wC gg).cell? ⟨gp, 0, none⟩ = some (.int .i64 p.x) from cell_keep (grew_below _ _) HPC.out.1)
    have p1 := (show (grew wC gg).cell? ⟨gp, 1, none⟩ = some (.int .i64 p.y) from cell_keep (grew_below _ _) HPC.out.2)
    generalize grew wC gg = WE at *
    rw [← HXY.out.1] at hnx wt1' ⊢
    rw [← HXY.out.2] at hny wt2' ⊢
    have HBG := Lib.hid (show bigB p q = !(withinB (snx p q) (-8) 8 && withinB (sny p q) (-8) 8) from rfl)
    have HSP := Lib.hid (show sideP 2 p q = alg 2 (sny p q) (-(snx p q)) 0 (sny p q * p.x - snx p q * p.y) from rfl)
    generalize snx p q = nx at *
    generalize sny p q = ny at *
    clear wt1' wt2' HXY HSG HBD hg0 hx1 hy1
    have wn1 : IntKind.i64.wrap (-nx) = -nx := IntWalk.i64_in _ (by omega)
    have wn2 : IntKind.i64.wrap (-ny) = -ny := IntWalk.i64_in _ (by omega)
    have hmx := max4_run nx (-nx) ny (-ny) #[3, 3, 3, 3] 3
    have HMX := Lib.hid (mx4_lt (a := nx) (b := -nx) (c := ny) (d := -ny) (k := 8))
    generalize mx4 nx (-nx) ny (-ny) = MX at *
    by_cases hbig : -8 ≤ nx ∧ nx ≤ 8 ∧ -8 ≤ ny ∧ ny ≤ 8
    ·have HBF := Lib.hid (show bigB p q = false by rw [HBG.out]; unfold withinB; simp; omega)
     have hm8 : ¬ 8 < MX := by rw [HMX.out]; omega
     have HPE := Lib.hid (And.intro p0 p1)
     have hps2 := mul_in (A := 8) (B := 300000) (a := ny) (b := p.x) (by omega) (by omega)
     have hps3 := mul_in (A := 8) (B := 300000) (a := nx) (b := p.y) (by omega) (by omega)
     have vp1 : IntKind.i64.wrap (ny * p.x) = ny * p.x := IntWalk.i64_in _ (by omega)
     have vp2 : IntKind.i64.wrap (nx * p.y) = nx * p.y := IntWalk.i64_in _ (by omega)
     have vp3 : IntKind.i64.wrap (ny * p.x - nx * p.y) = ny * p.x - nx * p.y := IntWalk.i64_in _ (by omega)
     have HFL := Lib.hid (show (capsP 2 e0 e1 ++ sidesP 2 l (i + 1)).flatMap cellsPl = (capsP 2 e0 e1 ++ sidesP 2 l i).flatMap cellsPl ++ cellsPl (sideP 2 p q) by rw [HSS.out, ← List.append_assoc, List.flatMap_append]; simp)
     rw [HSP.out] at HFL
     have HBN2 := Lib.hid (show bigN l (i + 1) = false by rw [HBS.out, HBN.out, HBF.out]; rfl)
     clear hps2 hps3 hnx hny
     go_upto_region 24 with fail
     refine gen_world (fun W => (W.cell? ⟨WE.heap.size, 0, none⟩ = some (.int .i64 ny) ∧ W.cell? ⟨WE.heap.size, 1, none⟩ = some (.int .i64 (-nx)) ∧ W.cell? ⟨WE.heap.size, 2, none⟩ = some (.int .i64 0)) ∧ (W.cell? ⟨gp, 0, none⟩ = some (.int .i64 p.x) ∧ W.cell? ⟨gp, 1, none⟩ = some (.int .i64 p.y)) ∧ Below WE.heap.size WE W) ⟨⟨by simp [go_sem], by simp [go_sem], by simp [go_sem]⟩, ⟨cell_keep (show Below WE.heap.size WE _ by repeat (first | (with_reducible assumption) | exact Below.refl _ _ | (refine Below.setCell ?_ (by first | omega | (simp; omega) | (simp; done)) _) | (refine Below.alloc ?_ (by first | omega | (simp; omega) | (simp; done)) _) | (refine Below.drew ?_))) HPE.out.1, cell_keep (show Below WE.heap.size WE _ by repeat (first | (with_reducible assumption) | exact Below.refl _ _ | (refine Below.setCell ?_ (by first | omega | (simp; omega) | (simp; done)) _) | (refine Below.alloc ?_ (by first | omega | (simp; omega) | (simp; done)) _) | (refine Below.drew ?_))) HPE.out.2⟩, by repeat (first | (with_reducible assumption) | exact Below.refl _ _ | (refine Below.setCell ?_ (by first | omega | (simp; omega) | (simp; done)) _) | (refine Below.alloc ?_ (by first | omega | (simp; omega) | (simp; done)) _) | (refine Below.drew ?_))⟩ ?_
     rintro WF ⟨⟨t0, t1, t2⟩, ⟨p0, p1⟩, hb⟩
     have HBW := Lib.hid (HBE.out.trans (hb.mono HBE.out.size))
     obtain ⟨gt, hgt⟩ : ∃ g, g = WE.heap.size := ⟨_, rfl⟩
     rw [← hgt] at t0 t1 t2 ⊢
     clear hb hgt
     go_wp2_with (first
      | (go_at_call 16; refine (plane_any ⟨ny, (-nx), 0⟩ (ny * p.x - nx * p.y) WF).mono ?_; rintro e wP ⟨rfl, hb⟩; have HBP := Lib.hid (HBW.out.trans (hb.mono HBW.out.size)); clear hb; have hal := (Below.refl wP.heap.size wP).alloc (Nat.le_refl _) (.cells #[.int .i64 ny, .int .i64 (-nx), .int .i64 0, .int .i64 (ny * p.x - nx * p.y)] 43); have HOX := Lib.hid (own_keep (own_keep HO7.out HBP.out) hal); have HBX := Lib.hid (HB7.out.trans ((HBP.out.trans (hal.mono HBP.out.size)).mono HB7.out.size)); have HNW := Lib.hid (fun j u hj => news_of [.int .i64 ny, .int .i64 (-nx), .int .i64 0, .int .i64 (ny * p.x - nx * p.y)] 43 wP wP.heap.size rfl j u hj); clear hal)
      | (at_builtin; go_loud (refine wpList_append_here _ rfl _ _ 44 rfl gb 43 i0 (.agg #[.int .i64 0, .int .i64 0, .int .i64 0, .int .i64 0]) 4 32 Tryz.underlying44 hi0 hz0 hz1 hzb rfl (by decide) (.slice va (2 + i) vc) (2 + i) ((capsP 2 e0 e1 ++ sidesP 2 l i).flatMap cellsPl) rfl HOX.out ⟨wP.heap.size, 0, none⟩ 1 1 [.int .i64 ny, .int .i64 (-nx), .int .i64 0, .int .i64 (ny * p.x - nx * p.y)] rfl rfl (by have h := HNW.out; intro j u hj; simpa using h j u hj) (cellsPl_one ⟨ny, (-nx), 0, ny * p.x - nx * p.y⟩) (by decide) (by simp only [maxLen]; omega) (by omega) (by have := HGB.out; have := HBX.out.size; omega) ?_; intro v' w15 hown hgr hat; obtain ⟨va', vc', rfl, -, -⟩ := own_slice hown; have HG15 := Lib.hid hgr; have HA15 := Lib.hid hat; have HO15 := Lib.hid hown; clear hown hgr hat)))
     go_roundw
     case rel => exact ⟨i + 1, by omega, by go_num, HBN2, by rw [HFL.out]; exact HO15.out, below_grown HBX.out HG15.out (HBX.out.size) fun j hj => by have := (own_lt HOX.out hj).1; have := HGB.out; omega⟩
     case measure => first | (simp [intOf]; done) | (simp [intOf]; omega)
    ·have hm8 : 8 < MX := by rw [HMX.out]; omega
     have HBF := Lib.hid (show bigB p q = true by rw [HBG.out]; unfold withinB; simp; omega)
     have HE1 := Lib.hid (show E = 2 by rw [HE1.out, if_pos (HBT.out HBF.out)])
     have HBK := Lib.hid (HB7.out.trans (HBE.out.mono HB7.out.size))
     have z0 := cell_keep HBK.out HZ5.out.1
     have zf := frozen_keep HBK.out (block_lt_of_cell HZ5.out.1) HZ5.out.2
     have HBZ := Lib.hid (HB5.out.trans (HBK.out.mono HB5.out.size))
     go_wp2_with fail
     have HV0 := Lib.hid (show V = [] by rw [HV.out]; unfold prV; rw [← HE.out, HE1.out]; rfl)
     rw [HE1.out]
     refine bodyPost_ret (v := .tuple #[.agg #[.slice none 0 0], .int .i64 2]) ?_ ?_ ?_
     ·simp [results, Tryz.results5, go_sem, got1 z0]
     ·rfl
     ·first | exact ⟨none, 0, by rw [HV0.out]; rfl, (by rw [HV0.out]; exact fun hn => absurd rfl hn), (fun g hg u => by rw [HV0.out]; exact fun hn => absurd rfl hn), HBZ.out.setCell HG.out _⟩ | exact ⟨none, ⟨0, by rw [HV0.out]; rfl⟩, (by rw [HV0.out]; exact fun hn => absurd rfl hn), (fun g hg u => by rw [HV0.out]; exact fun hn => absurd rfl hn), HBZ.out.setCell HG.out _⟩
   ·obtain rfl : i = l.length := by omega
    have hki : ¬ ((l.length : Nat) : Int) < ((l.length : Nat) : Int) := by omega
    have HE1 := Lib.hid (show E = 0 by rw [HE1.out, HBN.out]; rfl)
    have HV0 := Lib.hid (show V = [⟨nf (prP 2 l e0 e1)⟩] by rw [HV.out]; unfold prV; rw [← HE.out, HE1.out]; rfl)
    obtain ⟨hg1, hg2⟩ := pr_good (axis := 2) hl3 hl14 (Bool.or_eq_false_iff.1 HOE.out).1 (Bool.or_eq_false_iff.1 HOE.out).2 HOL.out HCC.out HBN.out
    have hlen : (prP 2 l e0 e1).length = 2 + l.length := by unfold prP capsP sidesP; simp; omega
    have HPV := Lib.hid (show Pls.V W7 va (prP 2 l e0 e1) from ownPlV (fun q hq => Pl.in_.wf (hg1 q hq).1) HO7.out)
    obtain ⟨a', c', e', hn1, hn2⟩ := own_slice HO7.out
    injection e' with e1' e2' e3'
    subst e1' e3'
    have HSG := Lib.hid (single2_any (prP 2 l e0 e1) va vc W7 hg1 (by omega) HPV.out (by rw [hlen]; exact hn1) (by omega))
    rw [hlen] at HSG
    rw [← HV0.out] at HSG
    have z0 := cell_keep HB7.out HZ5.out.1
    have zf := frozen_keep HB7.out (block_lt_of_cell HZ5.out.1) HZ5.out.2
    have hz7 : gw + 1 < W7.heap.size := block_lt_of_cell z0
    have HBK := Lib.hid (HB5.out.trans (HB7.out.mono HB5.out.size))
    have n1 : V.length = 1 := by rw [HV0.out]; rfl
    clear hg1 hg2 hlen hn1 hn2 e2'
    go_wp2_with (go_at_call 19; refine HSG.out.mono ?_; rintro e w8 ⟨sa, rfl, hcv, hcs, hcs2, hb⟩; have HCS := Lib.hid hcs; have HCS2 := Lib.hid hcs2; have z1 := cell_keep hb z0; have zf1 := frozen_keep hb hz7 zf; have HB8 := Lib.hid (HBK.out.trans (hb.mono HBK.out.size)); clear hb hcv hcs hcs2)
    refine bodyPost_ret (v := .tuple #[.agg #[.slice sa 1 1], .int .i64 0]) ?_ ?_ ?_
    ·simp [results, Tryz.results5, go_sem, got1 z1]
    ·rfl
    ·exact ⟨sa, 1, by rw [HE1.out, n1], HCS.out _ hz7 _, fun g hg u => HCS2.out _ g hz7 (Nat.lt_of_lt_of_le hg HBK.out.size) _ u, HB8.out.setCell HG.out _⟩
end Go.Proofs.YtgjmfdhgeahdcaaGreat
/- The document's prism. -/
set_option linter.unusedVariables false
set_option linter.unusedSimpArgs false
namespace Go.Proofs.YtgjmfdhgeahdcaaGreat
open Go Go.RowKit Go.Sort Go.Lib

set_option maxRecDepth 100000 in
set_option maxHeartbeats 4000000 in
theorem along_any (n : Nat) (hn : n ≤ 2) (u v c d : Int) (w : World) : Calls Tryz.prog 22 #[.int .i64 (n : Int), .int .i64 u, .int .i64 v, .int .i64 c, .int .i64 d] w fun e w' => e = .returned (.agg #[.int .i64 (alg n u v c d).a, .int .i64 (alg n u v c d).b, .int .i64 (alg n u v c d).c, .int .i64 (alg n u v c d).d]) ∧ Below w.heap.size w w' := by
 have h3 : n = 0 ∨ n = 1 ∨ n = 2 := by omega
 rcases h3 with rfl | rfl | rfl
 ·go_enter Tryz.func22, Tryz.ntmps22
  go_wp2_with fail
  exact bodyPost_ret (v := .agg #[.int .i64 c, .int .i64 u, .int .i64 v, .int .i64 d]) (by simp [results, Tryz.results22, go_sem]) rfl ⟨rfl, by repeat (first | (with_reducible assumption) | exact Below.refl _ _ | (refine Below.setCell ?_ (by first | omega | (simp; omega) | (simp; done)) _) | (refine Below.alloc ?_ (by first | omega | (simp; omega) | (simp; done)) _) | (refine Below.drew ?_))⟩
 ·go_enter Tryz.func22, Tryz.ntmps22
  go_wp2_with fail
  exact bodyPost_ret (v := .agg #[.int .i64 v, .int .i64 c, .int .i64 u, .int .i64 d]) (by simp [results, Tryz.results22, go_sem]) rfl ⟨rfl, by repeat (first | (with_reducible assumption) | exact Below.refl _ _ | (refine Below.setCell ?_ (by first | omega | (simp; omega) | (simp; done)) _) | (refine Below.alloc ?_ (by first | omega | (simp; omega) | (simp; done)) _) | (refine Below.drew ?_))⟩
 ·go_enter Tryz.func22, Tryz.ntmps22
  go_wp2_with fail
  exact bodyPost_ret (v := .agg #[.int .i64 u, .int .i64 v, .int .i64 c, .int .i64 d]) (by simp [results, Tryz.results22, go_sem]) rfl ⟨rfl, by repeat (first | (with_reducible assumption) | exact Below.refl _ _ | (refine Below.setCell ?_ (by first | omega | (simp; omega) | (simp; done)) _) | (refine Below.alloc ?_ (by first | omega | (simp; omega) | (simp; done)) _) | (refine Below.drew ?_))⟩
/-- Two corners of a polygon in two boxes. -/
def TwoPt (W : World) (p q : Pt) (s t : Nat) (u : Nat → Value) (W' : World) : Prop :=
 ∃ g h : Nat, u s = .pointer (some ⟨g, 0, none⟩) ∧ u t = .pointer (some ⟨h, 0, none⟩) ∧ (W'.cell? ⟨g, 0, none⟩ = some (.int .i64 p.x) ∧ W'.cell? ⟨g, 1, none⟩ = some (.int .i64 p.y)) ∧ (W'.cell? ⟨h, 0, none⟩ = some (.int .i64 q.x) ∧ W'.cell? ⟨h, 1, none⟩ = some (.int .i64 q.y)) ∧ Below W.heap.size W W'
set_option maxRecDepth 100000 in
set_option maxHeartbeats 8000000 in
theorem prismR_any (axis : Int) (l : List Pt) (a : Option Addr) (c : Nat) (e0 e1 : Int) (w : World) (hv : Pts.V w a l) (hl : l.length ≤ 1000) :
    Calls Tryz.prog 6 #[.int .i64 axis, .slice a l.length c, .agg #[.int .i64 e0, .int .i64 e1]] w fun e w' => ∃ va vc, e = .returned (.tuple #[.agg #[.slice va (prV axis l e0 e1).length vc], .int .i64 (prE axis l e0 e1)]) ∧ Cells.V w' va (prV axis l e0 e1) ∧ Below w.heap.size w w' := by
 have hmix : Tryz.prog.follows .mixedOrders = true := by kernel_rfl
 obtain ⟨i0, hi0, hz0, hz1, hzb⟩ := info_parts infoPl
 obtain ⟨E, hE⟩ : ∃ E, E = prE axis l e0 e1 := ⟨_, rfl⟩
 obtain ⟨V, hV⟩ : ∃ V, V = prV axis l e0 e1 := ⟨_, rfl⟩
 rw [← hE, ← hV]
 have HE := Lib.hid hE
 have HV := Lib.hid hV
 have HVL := Lib.hid hv
 have HO := Lib.hid (show (!([e0, e1].any outW)) = !(outW e0 || outW e1) by simp)
 have HW1 := Lib.hid (fun W => withinR_any axis 0 2 W)
 have HW2 := Lib.hid (fun W => withinR_any (l.length : Int) 3 14 W)
 clear hE hV hv
 go_enter Tryz.func6, Tryz.ntmps6
 go_upto_region 1 with fail
 refine gen_world (fun W => (W.cell? ⟨w.heap.size, 0, none⟩ = some (.int .i64 e0) ∧ W.cell? ⟨w.heap.size, 1, none⟩ = some (.int .i64 e1)) ∧ W.cell? ⟨w.heap.size + 1, 0, none⟩ = some (.slice none 0 0) ∧ W.frozen? ⟨w.heap.size + 1, 0, none⟩ = false ∧ Below w.heap.size w W) ⟨⟨by simp [go_sem], by simp [go_sem]⟩, by simp [go_sem], by simp [go_sem], by repeat (first | (with_reducible assumption) | exact Below.refl _ _ | (refine Below.setCell ?_ (by first | omega | (simp; omega) | (simp; done)) _) | (refine Below.alloc ?_ (by first | omega | (simp; omega) | (simp; done)) _) | (refine Below.drew ?_))⟩ ?_
 rintro W ⟨⟨s0, s1⟩, z0, zf, hb⟩
 have HB1 := Lib.hid hb
 clear hb
 obtain ⟨gw, hgw⟩ : ∃ g, g = w.heap.size := ⟨_, rfl⟩
 have HG := Lib.hid (show w.heap.size ≤ gw + 1 by omega)
 rw [← hgw] at s0 s1 z0 zf ⊢
 clear hgw
 by_cases hax : axis < 0 ∨ 2 < axis
 ·have HE1 := Lib.hid (show E = 2 by rw [HE.out]; unfold prE; rw [if_pos hax])
  have hwb : withinB axis 0 2 = false := by unfold withinB; simp; omega
  rw [hwb] at HW1
  clear hwb hax
  go_wp2_with (go_at_call 20; refine (HW1.out _).mono ?_; rintro e w1 ⟨rfl, rfl⟩)
  have HV0 := Lib.hid (show V = [] by rw [HV.out]; unfold prV; rw [← HE.out, HE1.out]; rfl)
  rw [HE1.out]
  refine bodyPost_ret (v := .tuple #[.agg #[.slice none 0 0], .int .i64 2]) ?_ ?_ ?_
  ·simp [results, Tryz.results6, go_sem, got1 z0]
  ·rfl
  ·first | exact ⟨none, 0, by rw [HV0.out]; rfl, by rw [HV0.out]; exact fun hn => absurd rfl hn, HB1.out.setCell HG.out _⟩ | exact ⟨none, ⟨0, by rw [HV0.out]; rfl⟩, by rw [HV0.out]; exact fun hn => absurd rfl hn, HB1.out.setCell HG.out _⟩
 have hwb : withinB axis 0 2 = true := by unfold withinB; simp; omega
 rw [hwb] at HW1
 by_cases hln : l.length < 3 ∨ 14 < l.length
 ·have HE1 := Lib.hid (show E = 10 by rw [HE.out]; unfold prE; rw [if_neg hax, if_pos hln])
  have hwb2 : withinB (l.length : Int) 3 14 = false := by unfold withinB; simp; omega
  rw [hwb2] at HW2
  clear hax hln hwb hwb2
  have tok1 : True := trivial
  go_wp2_with (first
   | (go_at_call 20; have _t := tok1; refine (HW1.out _).mono ?_; rintro e w1 ⟨rfl, rfl⟩; clear tok1 _t)
   | (go_at_call 20; refine (HW2.out _).mono ?_; rintro e w2 ⟨rfl, rfl⟩))
  have HV0 := Lib.hid (show V = [] by rw [HV.out]; unfold prV; rw [← HE.out, HE1.out]; rfl)
  rw [HE1.out]
  refine bodyPost_ret (v := .tuple #[.agg #[.slice none 0 0], .int .i64 10]) ?_ ?_ ?_
  ·simp [results, Tryz.results6, go_sem, got1 z0]
  ·rfl
  ·first | exact ⟨none, 0, by rw [HV0.out]; rfl, by rw [HV0.out]; exact fun hn => absurd rfl hn, HB1.out.setCell HG.out _⟩ | exact ⟨none, ⟨0, by rw [HV0.out]; rfl⟩, by rw [HV0.out]; exact fun hn => absurd rfl hn, HB1.out.setCell HG.out _⟩
 have hwb2 : withinB (l.length : Int) 3 14 = true := by unfold withinB; simp; omega
 rw [hwb2] at HW2
 have hl3 : 3 ≤ l.length := by omega
 have hl14 : l.length ≤ 14 := by omega
 have HE0 := Lib.hid (show E = if (outW e0 || outW e1 || l.any outP) = true then 2 else if e1 ≤ e0 ∨ cvxB l = false then 3 else if bigN l l.length = true then 2 else 0 by rw [HE.out]; unfold prE; rw [if_neg hax, if_neg hln])
 have hax3 : axis = 0 ∨ axis = 1 ∨ axis = 2 := by omega
 have HAX := Lib.hid hax3
 clear hwb hwb2 hax hln hax3
 have tok1 : True := trivial
 go_upto_region 5 with (first
  | (go_at_call 20; have _t := tok1; refine (HW1.out _).mono ?_; rintro e w1 ⟨rfl, rfl⟩; clear tok1 _t)
  | (go_at_call 20; refine (HW2.out _).mono ?_; rintro e w2 ⟨rfl, rfl⟩))
 have HS1 := Lib.hid (And.intro s0 s1)
 have HZ1 := Lib.hid (And.intro z0 zf)
 have HVW := Lib.hid (HVL.out.keep HB1.out)
 clear s0 s1 z0 zf
 go_wp2_with fail
 go_loopw [8] (fun iv wr => ∃ i : Nat, i ≤ l.length ∧ iv = .int .i64 (i : Int) ∧ Hid ((l.take i).any outP = false) ∧ Below W.heap.size W wr) (fun iv _ => l.length - (intOf iv).toNat)
 case atStart => exact ⟨0, Nat.zero_le _, rfl, Lib.hid rfl, Below.refl _ _⟩
 case round =>
  obtain ⟨i, hi, rfl, HA, hb⟩ := hrel
  obtain ⟨W2, rfl⟩ : ∃ W2 : World, W2 = wr := ⟨_, rfl⟩
  have HB2' := Lib.hid hb
  have HV2 := Lib.hid (HVW.out.keep hb)
  by_cases hlt : i < l.length
  ·have hki : (i : Int) < (l.length : Int) := by omega
   have n1' : (0 : Int) ≤ (i : Int) := by omega
   obtain ⟨lb, lo, rfl, hat⟩ := HV2.out.at_ hlt
   have HTK := Lib.hid (any_take (f := outP) hlt)
   have HAN := Lib.hid (fun h : outP l[i] = true => show l.any outP = true from List.any_eq_true.2 ⟨_, List.getElem_mem hlt, h⟩)
   have HRO := Lib.hid (show (!([l[i].x, l[i].y].any outW)) = !outP l[i] by simp [outP])
   obtain ⟨c0, c1, -⟩ := hat
   generalize l[i] = p at *
   have z0 := cell_keep hb HZ1.out.1
   have zf := frozen_keep hb (block_lt_of_cell HZ1.out.1) HZ1.out.2
   have HBL := Lib.hid (HB1.out.trans (hb.mono HB1.out.size))
   go_upto_region 8 with fail
   have kx0 : ∀ u : KW (fun W' => Below W2.heap.size W2 W'), u.w.cell? ⟨lb, lo + i * 2, none⟩ = some (.int .i64 p.x) ∧ u.w.cell? ⟨lb, lo + i * 2 + 1, none⟩ = some (.int .i64 p.y) := fun u => ⟨cell_keep u.ok c0, cell_keep u.ok c1⟩
   haveI nn1 : Nonempty (KW (fun W' => Below W2.heap.size W2 W')) := ⟨⟨W2, Below.refl _ _⟩⟩
   refine wp_region_tree (fun w' => ∃ u : KW (fun W' => Below W2.heap.size W2 W'), w' = u.w) 10 (.take 0 (.take 1 (.take 2 (.take 3 (.take 4 (.take 5 (.take 6 (.take 7 (.take 8 (.take 9 .done)))))))))) hmix (by kernel_rfl) (KW.mk' (Below.refl _ _).drew) ?_
   have HC := Lib.hid (show Below W2.heap.size W2 W2.drew from (Below.refl _ _).drew)
   generalize W2.drew = wz at *
   repeat (refine wpTree_take ?_; simp only [nthOp]; (first | go_big_quiet_step (fail) | quiet_step (fail)); refine wpQuiet_nil ?_)
   refine wpTree_done ?_
   simp only [List.drop_succ_cons, List.drop_zero]
   clear kx0 nn1 c0 c1
   go_wp2_with (go_at_call 21; refine (roomR_any _ [p.x, p.y] _ _ (ints_alloc _ _ _) (by simp)).mono ?_; rintro e w4 ⟨rfl, hbq⟩; rw [HRO.out]; have hbq := HC.out.trans ((((Below.refl _ _).alloc (Nat.le_refl _) _).trans (hbq.mono (by simp))).mono HC.out.size); have zf := frozen_keep hbq (block_lt_of_cell z0) zf; have z0 := cell_keep hbq z0; have HBL := Lib.hid (HBL.out.trans (hbq.mono HBL.out.size)); have HB2' := Lib.hid (HB2'.out.trans (hbq.mono HB2'.out.size)); clear hbq)
   refine NP_mk ?_
   clear hb
   cases hop : outP p with
   | true =>
    rw [hop] at HAN
    have HE1 := Lib.hid (show E = 2 by rw [HE0.out, if_pos (by rw [HAN.out rfl]; simp)])
    go_wp2_with fail
    have HV0 := Lib.hid (show V = [] by rw [HV.out]; unfold prV; rw [← HE.out, HE1.out]; rfl)
    rw [HE1.out]
    refine bodyPost_ret (v := .tuple #[.agg #[.slice none 0 0], .int .i64 2]) ?_ ?_ ?_
    ·simp [results, Tryz.results6, go_sem, got1 z0]
    ·rfl
    ·first | exact ⟨none, 0, by rw [HV0.out]; rfl, by rw [HV0.out]; exact fun hn => absurd rfl hn, HBL.out.setCell HG.out _⟩ | exact ⟨none, ⟨0, by rw [HV0.out]; rfl⟩, by rw [HV0.out]; exact fun hn => absurd rfl hn, HBL.out.setCell HG.out _⟩
   | false =>
    have HA2 := Lib.hid (show (l.take (i + 1)).any outP = false by rw [HTK.out, HA.out, hop]; rfl)
    go_wp2_with fail
    go_roundw
    case rel => exact ⟨i + 1, by omega, by go_num, HA2, HB2'.out⟩
    case measure => first | (simp [intOf]; done) | (simp [intOf]; omega)
  ·obtain rfl : i = l.length := by omega
   have hki : ¬ ((l.length : Nat) : Int) < ((l.length : Nat) : Int) := by omega
   have HAO := Lib.hid (show l.any outP = false by have h := HA.out; rw [List.take_length] at h; exact h)
   have s0 := cell_keep hb HS1.out.1
   have s1 := cell_keep hb HS1.out.2
   have z0 := cell_keep hb HZ1.out.1
   have zf := frozen_keep hb (block_lt_of_cell HZ1.out.1) HZ1.out.2
   have HB2 := Lib.hid (HB1.out.trans (hb.mono HB1.out.size))
   have HE0 := Lib.hid (show E = if (outW e0 || outW e1) = true then 2 else if e1 ≤ e0 ∨ cvxB l = false then 3 else if bigN l l.length = true then 2 else 0 by rw [HE0.out, HAO.out, Bool.or_false])
   have HRM := Lib.hid (roomR_any (some ⟨gw, 0, none⟩) [e0, e1] 2 W2 (fun _ => ⟨gw, 0, rfl, fun k x hk => by
    match k, hk with
    | 0, hk => simp at hk; subst hk; exact s0
    | 1, hk => simp at hk; subst hk; exact s1
    | k + 2, hk => simp at hk⟩) (by simp))
   rw [HO.out] at HRM
   clear hb HW1 HW2
   by_cases hoe : (outW e0 || outW e1) = true
   ·have HE1 := Lib.hid (show E = 2 by rw [HE0.out, if_pos hoe])
    rw [hoe] at HRM
    clear hoe
    go_wp2_with (go_at_call 21; refine HRM.out.mono ?_; rintro e w5 ⟨rfl, hbq⟩; have zf := frozen_keep hbq (block_lt_of_cell z0) zf; have z0 := cell_keep hbq z0; have HBL := Lib.hid (HB2.out.trans (hbq.mono HB2.out.size)); clear hbq)
    have HV0 := Lib.hid (show V = [] by rw [HV.out]; unfold prV; rw [← HE.out, HE1.out]; rfl)
    rw [HE1.out]
    refine bodyPost_ret (v := .tuple #[.agg #[.slice none 0 0], .int .i64 2]) ?_ ?_ ?_
    ·simp [results, Tryz.results6, go_sem, got1 z0]
    ·rfl
    ·first | exact ⟨none, 0, by rw [HV0.out]; rfl, by rw [HV0.out]; exact fun hn => absurd rfl hn, HBL.out.setCell HG.out _⟩ | exact ⟨none, ⟨0, by rw [HV0.out]; rfl⟩, by rw [HV0.out]; exact fun hn => absurd rfl hn, HBL.out.setCell HG.out _⟩
   have hoe' : (outW e0 || outW e1) = false := by simpa using hoe
   rw [hoe'] at HRM
   have HOE := Lib.hid hoe'
   have HE0 := Lib.hid (show E = if e1 ≤ e0 ∨ cvxB l = false then 3 else if bigN l l.length = true then 2 else 0 by rw [HE0.out, if_neg hoe])
   clear hoe hoe'
   by_cases h1 : e1 ≤ e0
   ·have HE1 := Lib.hid (show E = 3 by rw [HE0.out, if_pos (.inl h1)])
    go_wp2_with (go_at_call 21; refine HRM.out.mono ?_; rintro e w5 ⟨rfl, hbq⟩; have s0 := cell_keep hbq s0; have s1 := cell_keep hbq s1; have zf := frozen_keep hbq (block_lt_of_cell z0) zf; have z0 := cell_keep hbq z0; have HBL := Lib.hid (HB2.out.trans (hbq.mono HB2.out.size)); clear hbq)
    have HV0 := Lib.hid (show V = [] by rw [HV.out]; unfold prV; rw [← HE.out, HE1.out]; rfl)
    rw [HE1.out]
    refine bodyPost_ret (v := .tuple #[.agg #[.slice none 0 0], .int .i64 3]) ?_ ?_ ?_
    ·simp [results, Tryz.results6, go_sem, got1 z0]
    ·rfl
    ·first | exact ⟨none, 0, by rw [HV0.out]; rfl, by rw [HV0.out]; exact fun hn => absurd rfl hn, HBL.out.setCell HG.out _⟩ | exact ⟨none, ⟨0, by rw [HV0.out]; rfl⟩, by rw [HV0.out]; exact fun hn => absurd rfl hn, HBL.out.setCell HG.out _⟩
   go_upto_region 14 with (go_at_call 21; refine HRM.out.mono ?_; rintro e w5 ⟨rfl, hbq⟩; have s0 := cell_keep hbq s0; have s1 := cell_keep hbq s1; have zf := frozen_keep hbq (block_lt_of_cell z0) zf; have z0 := cell_keep hbq z0; have HB5 := Lib.hid (HB2.out.trans (hbq.mono HB2.out.size)); clear hbq)
   have HS5 := Lib.hid (And.intro s0 s1)
   have HZ5 := Lib.hid (And.intro z0 zf)
   have HV5 := Lib.hid (HVL.out.keep HB5.out)
   have HSM := Lib.hid (small_of HAO.out)
   have HE0 := Lib.hid (show E = if cvxB l = false then 3 else if bigN l l.length = true then 2 else 0 by have h1' : ¬ e1 ≤ e0 := (by omega); rw [HE0.out]; simp only [h1', false_or])
   clear s0 s1 z0 zf HRM HB2' HV2
   go_wp2_with fail
   go_loopw [9] (fun iv wr => ∃ i : Nat, i ≤ l.length ∧ iv = .int .i64 (i : Int) ∧ Hid (cvxN l i = true) ∧ Below w5.heap.size w5 wr) (fun iv _ => l.length - (intOf iv).toNat)
   case atStart => exact ⟨0, Nat.zero_le _, rfl, Lib.hid rfl, Below.refl _ _⟩
   case round =>
    obtain ⟨i, hi, rfl, HC, hb⟩ := hrel
    obtain ⟨W6, rfl⟩ : ∃ W6 : World, W6 = wr := ⟨_, rfl⟩
    have HB6 := Lib.hid hb
    have HV6 := Lib.hid (HV5.out.keep hb)
    by_cases hlt : i < l.length
    ·have hki : (i : Int) < (l.length : Int) := by omega
     have n1' : (0 : Int) ≤ (i : Int) := by omega
     have hm : (i + 1) % l.length < l.length := Nat.mod_lt _ (by omega)
     have hr0 : ((i : Int) + 1).tmod (l.length : Int) = (((i + 1) % l.length : Nat) : Int) := tmod_nat (i + 1) l.length
     obtain ⟨lb, lo, rfl, hat⟩ := HV6.out.at_ hlt
     obtain ⟨lb', lo', hle, hatm⟩ := HV6.out.at_ hm
     obtain ⟨rfl, rfl⟩ : lb = lb' ∧ lo = lo' := by injection hle with h; injection h with h1 h2; exact ⟨h1, h2⟩
     have HP := Lib.hid (show l.getD i pt0 = l[i] by simp [List.getD, hlt])
     have HQ := Lib.hid (show nxt l i = l[(i + 1) % l.length] by unfold nxt; simp [List.getD, hm])
     have HPS := Lib.hid (HSM.out _ (List.getElem_mem hlt))
     have HQS := Lib.hid (HSM.out _ (nxt_mem hlt))
     have HLB := Lib.hid (show ∀ k, leftB l i k = (decide (k = i) || (decide (k = (i + 1) % l.length) || decide (0 < crsP (l.getD i pt0) (nxt l i) (l.getD k pt0)))) from fun k => rfl)
     rw [HP.out, HQ.out] at HLB
     rw [HQ.out] at HQS
     obtain ⟨c0, c1, -⟩ := hat
     obtain ⟨d0, d1, -⟩ := hatm
     obtain ⟨p, hp⟩ : ∃ p, p = l[i] := ⟨_, rfl⟩
     obtain ⟨q, hq⟩ : ∃ q, q = l[(i + 1) % l.length] := ⟨_, rfl⟩
     rw [← hp] at c0 c1 HPS HLB
     rw [← hq] at d0 d1 HQS HLB
     obtain ⟨m, hmm⟩ : ∃ m, m = (i + 1) % l.length := ⟨_, rfl⟩
     rw [← hmm] at d0 d1 hm hr0 HLB
     clear HP HQ hp hq hmm hb hle
     have hn0 : l.length ≠ 0 := by omega
     have hn1 : ¬ (l.length : Int) = 0 := by omega
     have n2' : (0 : Int) ≤ (m : Int) := by omega
     have hmi : (m : Int) < (l.length : Int) := by omega
     go_upto_region 17 with fail
     have kx0 : ∀ u : KW (fun W' => Below W6.heap.size W6 W'), (u.w.cell? ⟨lb, lo + i * 2, none⟩ = some (.int .i64 p.x) ∧ u.w.cell? ⟨lb, lo + i * 2 + 1, none⟩ = some (.int .i64 p.y)) ∧ u.w.cell? ⟨lb, lo + m * 2, none⟩ = some (.int .i64 q.x) ∧ u.w.cell? ⟨lb, lo + m * 2 + 1, none⟩ = some (.int .i64 q.y) := fun u => ⟨⟨cell_keep u.ok c0, cell_keep u.ok c1⟩, cell_keep u.ok d0, cell_keep u.ok d1⟩
     haveI nn1 : Nonempty (KW (fun W' => Below W6.heap.size W6 W')) := ⟨⟨W6, Below.refl _ _⟩⟩
     refine wp_cut_slots [65, 66, 67, 68, 69, 70, 71, 72, 73, 74, 75, 76, 10, 11] (TwoPt W6 p q 10 11) ?_ ?_
     ·refine wp_region_tree (fun w' => ∃ u : KW (fun W' => Below W6.heap.size W6 W'), w' = u.w) 15 (.take 0 (.take 1 (.take 2 (.take 3 (.take 4 (.take 5 (.take 6 (.take 7 (.take 8 (.take 9 (.take 10 (.take 11 (.two 12 (.one 13 (.one 14 .done)) 13 (.one 12 (.one 14 .done))))))))))))))) hmix (by kernel_rfl) (KW.mk' (Below.refl _ _).drew) ?_
      have HC := Lib.hid (show Below W6.heap.size W6 W6.drew from (Below.refl _ _).drew)
      generalize W6.drew = wz at *
      repeat (refine wpTree_take ?_; simp only [nthOp]; (first | go_big_quiet_step (fail) | quiet_step (fail)); refine wpQuiet_nil ?_)
      have halG : ∀ A B : Array Value, Below W6.heap.size W6 ((wz.alloc (.cells A 52)).alloc (.cells B 52)) := fun A B => (HC.out.alloc HC.out.size _).alloc (HC.out.alloc HC.out.size (.cells A 52)).size _
      refine wpTree_two ?_ ?_
      ·simp only [nthOp]
       go_wp2_with fail
       have hal := HC.out.alloc HC.out.size (.cells #[.int .i64 0, .int .i64 0] 52)
       refine One_mk (KW.mk' hal) ?_
       refine wpTree_one ?_
       simp only [nthOp]
       go_wp2_with fail
       have hal2 := hal.alloc hal.size (.cells #[.int .i64 0, .int .i64 0] 52)
       refine One_mk (KW.mk' hal2) ?_
       refine wpTree_one ?_
       simp only [nthOp]
       go_wp2_with fail
       refine One_mk (KW.mk' (halG _ _)) ?_
       refine wpTree_done ?_
       simp only [List.drop_succ_cons, List.drop_zero]
       go_wp2_with fail
       refine NP_mk ?_
       exact cut_meet (by simp [forget]) ⟨_, _, rfl, rfl, ⟨by simp [go_sem], by simp [go_sem]⟩, ⟨by simp [go_sem], by simp [go_sem]⟩, halG _ _⟩
      ·simp only [nthOp]
       go_wp2_with fail
       have hal := HC.out.alloc HC.out.size (.cells #[.int .i64 0, .int .i64 0] 52)
       refine One_mk (KW.mk' hal) ?_
       refine wpTree_one ?_
       simp only [nthOp]
       go_wp2_with fail
       have hal2 := hal.alloc hal.size (.cells #[.int .i64 0, .int .i64 0] 52)
       refine One_mk (KW.mk' hal2) ?_
       refine wpTree_one ?_
       simp only [nthOp]
       go_wp2_with fail
       refine One_mk (KW.mk' (halG _ _)) ?_
       refine wpTree_done ?_
       simp only [List.drop_succ_cons, List.drop_zero]
       go_wp2_with fail
       refine NP_mk ?_
       exact cut_meet (by simp [forget]) ⟨_, _, rfl, rfl, ⟨by simp [go_sem], by simp [go_sem]⟩, ⟨by simp [go_sem], by simp [go_sem]⟩, halG _ _⟩
     clear kx0 nn1
     rintro u W7 ⟨g, h, hu10, hu11, ⟨p0, p1⟩, ⟨q0, q1⟩, hb⟩
     simp only [forget, List.foldl_cons, List.foldl_nil, hu10, hu11, List.setIfInBounds_toArray, List.set_cons_succ, List.set_cons_zero]
     clear hu10 hu11
     have HPC := Lib.hid (And.intro p0 p1)
     have HQC := Lib.hid (And.intro q0 q1)
     have HB7 := Lib.hid (HB6.out.trans (hb.mono HB6.out.size))
     have HV7 := Lib.hid (HV6.out.keep hb)
     clear hb p0 p1 q0 q1 c0 c1 d0 d1
     go_wp2_with fail
     go_loopw [12] (fun kv wq => ∃ k : Nat, k ≤ l.length ∧ kv = .int .i64 (k : Int) ∧ Hid (cvxI l i k = true) ∧ Below W7.heap.size W7 wq) (fun kv _ => l.length - (intOf kv).toNat)
     case atStart => exact ⟨0, Nat.zero_le _, rfl, Lib.hid rfl, Below.refl _ _⟩
     case round =>
      obtain ⟨k, hk, rfl, HK, hb⟩ := hrel
      obtain ⟨W8, rfl⟩ : ∃ W8 : World, W8 = wr := ⟨_, rfl⟩
      have HB8 := Lib.hid hb
      have HBF := Lib.hid (HB7.out.trans (hb.mono HB7.out.size))
      by_cases hlt2 : k < l.length
      ·have hkj : (k : Int) < (l.length : Int) := by omega
       have n3' : (0 : Int) ≤ (k : Int) := by omega
       obtain ⟨rb, ro, hre, hat⟩ := (HV7.out.keep hb).at_ hlt2
       obtain ⟨rfl, rfl⟩ : lb = rb ∧ lo = ro := by injection hre with h; injection h with h1 h2; exact ⟨h1, h2⟩
       have HR := Lib.hid (show l.getD k pt0 = l[k] by simp [List.getD, hlt2])
       have HRS := Lib.hid (HSM.out _ (List.getElem_mem hlt2))
       have HLK := Lib.hid (HLB.out k)
       rw [HR.out] at HLK
       have HFA := Lib.hid (fun h => cvxB_false (l := l) hlt (cvxI_false hlt2 (i := i) h))
       have HSU := Lib.hid (cvxI_succ l i k)
       generalize l[k] = r at *
       obtain ⟨r0, r1, -⟩ := hat
       have p0 := cell_keep hb HPC.out.1
       have p1 := cell_keep hb HPC.out.2
       have q0 := cell_keep hb HQC.out.1
       have q1 := cell_keep hb HQC.out.2
       have hl1 := block_lt_of_cell p0
       have hl2 := block_lt_of_cell q0
       have hl4 := block_lt_of_cell r0
       simp only at hl1 hl2 hl4
       have HCO := Lib.hid (crsOk HPS.out HQS.out HRS.out)
       have z0 := cell_keep HBF.out HZ5.out.1
       have zf := frozen_keep HBF.out (block_lt_of_cell HZ5.out.1) HZ5.out.2
       have HBL := Lib.hid (HB5.out.trans (HBF.out.mono HB5.out.size))
       clear hb hre
       by_cases h1 : k = i
       ·have HE := Lib.hid (show cvxI l i (k + 1) = true by rw [HSU.out, HK.out, HLK.out]; simp [h1])
        have e1 : (k : Int) = (i : Int) := by omega
        go_wp2_with fail
        go_roundw
        case rel => exact ⟨k + 1, by omega, by go_num, HE, HB8.out⟩
        case measure => first | (simp [intOf]; done) | (simp [intOf]; omega)
       ·have e1' : ¬ (k : Int) = (i : Int) := by omega
        by_cases h2 : k = m
        ·have HE := Lib.hid (show cvxI l i (k + 1) = true by rw [HSU.out, HK.out, HLK.out]; simp [h2])
         subst h2
         go_wp2_with fail
         go_roundw
         case rel => exact ⟨k + 1, by omega, by go_num, HE, HB8.out⟩
         case measure => first | (simp [intOf]; done) | (simp [intOf]; omega)
        ·have e2' : ¬ (k : Int) = (m : Int) := by omega
         have nb1 : ((k : Int) == (i : Int)) = false := by simpa using e1'
         have nb2 : ((k : Int) == (m : Int)) = false := by simpa using e2'
         obtain ⟨wa, wb, wc, wd, we, wf, wg⟩ := HCO.out
         have HCE := Lib.hid (show crsP p q r = (q.x - p.x) * (r.y - p.y) - (q.y - p.y) * (r.x - p.x) from rfl)
         go_upto_region 22 with fail
         refine wp_region_grew (by kernel_rfl) (by kernel_rfl) ?_
         repeat (first | go_big_quiet_step (fail) | quiet_step (fail))
         refine wpQuiet_nil ?_
         rintro _ ⟨gg, rfl⟩
         have HBG := Lib.hid (show Below W7.heap.size W7 (grew W8 gg) from grewB HB8.out HB8.out.size _)
         have z0 := cell_keep (grew_below W8 gg) z0
         have zf := frozen_keep (grew_below W8 gg) (by have := block_lt_of_cell HZ5.out.1; have := HBF.out.size; simp only at *; omega) zf
         have HBL := Lib.hid (HBL.out.trans ((grew_below W8 gg).mono HBL.out.size))
         generalize grew W8 gg = W9 at *
         clear p0 p1 q0 q1 r0 r1 hl1 hl2 hl4
         by_cases h3 : (q.x - p.x) * (r.y - p.y) - (q.y - p.y) * (r.x - p.x) ≤ 0
         ·have HE1 := Lib.hid (show E = 3 by rw [HE0.out, if_pos (HFA.out (by rw [HLK.out, HCE.out]; simp [h1, h2]; omega))])
          go_wp2_with fail
          have HV0 := Lib.hid (show V = [] by rw [HV.out]; unfold prV; rw [← HE.out, HE1.out]; rfl)
          rw [HE1.out]
          refine bodyPost_ret (v := .tuple #[.agg #[.slice none 0 0], .int .i64 3]) ?_ ?_ ?_
          ·simp [results, Tryz.results6, go_sem, got1 z0]
          ·rfl
          ·first | exact ⟨none, 0, by rw [HV0.out]; rfl, by rw [HV0.out]; exact fun hn => absurd rfl hn, HBL.out.setCell HG.out _⟩ | exact ⟨none, ⟨0, by rw [HV0.out]; rfl⟩, by rw [HV0.out]; exact fun hn => absurd rfl hn, HBL.out.setCell HG.out _⟩
         ·have HE := Lib.hid (show cvxI l i (k + 1) = true by rw [HSU.out, HK.out, HLK.out, HCE.out]; simp; right; right; omega)
          go_wp2_with fail
          go_roundw
          case rel => exact ⟨k + 1, by omega, by go_num, HE, HBG.out⟩
          case measure => first | (simp [intOf]; done) | (simp [intOf]; omega)
      ·obtain rfl : k = l.length := by omega
       have hkj : ¬ ((l.length : Nat) : Int) < ((l.length : Nat) : Int) := by omega
       have HE := Lib.hid (show cvxN l (i + 1) = true by rw [cvxN_succ, HC.out, HK.out]; rfl)
       clear hb
       go_wp2_with fail
       go_roundw
       case rel => exact ⟨i + 1, by omega, by go_num, HE, HBF.out⟩
       case measure => first | (simp [intOf]; done) | (simp [intOf]; omega)
    ·obtain rfl : i = l.length := by omega
     have hki : ¬ ((l.length : Nat) : Int) < ((l.length : Nat) : Int) := by omega
     have HCC := Lib.hid (show cvxB l = true from HC.out)
     have HE0 := Lib.hid (show E = if bigN l l.length = true then 2 else 0 by rw [HE0.out, HCC.out]; simp)
     obtain ⟨n, hn2, han⟩ : ∃ n : Nat, n ≤ 2 ∧ axis = (n : Int) := by
      rcases HAX.out with h | h | h
      ·exact ⟨0, by omega, h⟩
      ·exact ⟨1, by omega, h⟩
      ·exact ⟨2, by omega, h⟩
     subst han
     have s0 := cell_keep hb HS5.out.1
     have s1 := cell_keep hb HS5.out.2
     have HZ6 := Lib.hid (And.intro (cell_keep hb HZ5.out.1) (frozen_keep hb (block_lt_of_cell HZ5.out.1) HZ5.out.2))
     have HB66 := Lib.hid (HB5.out.trans (hb.mono HB5.out.size))
     have v1 : IntKind.i64.wrap (-e0) = -e0 := by have := outW_not (Bool.or_eq_false_iff.1 HOE.out).1; exact IntWalk.i64_in _ (by omega)
     have HA1 := Lib.hid (fun W => along_any n hn2 0 0 (-1) (-e0) W)
     have HA2 := Lib.hid (fun W => along_any n hn2 0 0 1 e1 W)
     have HCP := Lib.hid (show capsP n e0 e1 = [alg n 0 0 (-1) (-e0), alg n 0 0 1 e1] from rfl)
     generalize alg n 0 0 (-1) (-e0) = P1 at *
     generalize alg n 0 0 1 e1 = P2 at *
     clear hb HC
     go_upto_region 24 with fail
     have kx0 : ∀ u : KW (fun W' => Below W6.heap.size W6 W'), u.w.cell? ⟨gw, 0, none⟩ = some (.int .i64 e0) ∧ u.w.cell? ⟨gw, 1, none⟩ = some (.int .i64 e1) := fun u => ⟨cell_keep u.ok s0, cell_keep u.ok s1⟩
     haveI nn1 : Nonempty (KW (fun W' => Below W6.heap.size W6 W')) := ⟨⟨W6, Below.refl _ _⟩⟩
     refine wp_region_tree (fun w' => ∃ u : KW (fun W' => Below W6.heap.size W6 W'), w' = u.w) 8 (.take 0 (.take 1 (.take 2 (.take 3 (.take 5 (.take 6 (.take 7 (.one 4 .done)))))))) hmix (by kernel_rfl) (KW.mk' (Below.refl _ _).drew) ?_
     have HC := Lib.hid (show Below W6.heap.size W6 W6.drew from (Below.refl _ _).drew)
     generalize W6.drew = wz at *
     repeat (refine wpTree_take ?_; simp only [nthOp]; (first | go_big_quiet_step (fail) | quiet_step (fail)); refine wpQuiet_nil ?_)
     refine wpTree_one ?_
     simp only [nthOp]
     go_wp2_with (go_at_call 22; refine (HA1.out wz).mono ?_; rintro e wt1 ⟨rfl, hb⟩; have HC := Lib.hid (HC.out.trans (hb.mono HC.out.size)); clear hb)
     refine One_mk (KW.mk' HC.out) ?_
     refine wpTree_done ?_
     simp only [List.drop_succ_cons, List.drop_zero]
     go_wp2_with (go_at_call 22; refine (HA2.out wt1).mono ?_; rintro e wt2 ⟨rfl, hb⟩; have HC := Lib.hid (HC.out.trans (hb.mono HC.out.size)); clear hb)
     refine NP_mk ?_
     clear kx0 nn1
     obtain ⟨gb, hgb⟩ : ∃ g, g = W6.heap.size := ⟨_, rfl⟩
     have HGB := Lib.hid hgb
     clear hgb s0 s1 v1
     have HO6 := Lib.hid (show (wt2.alloc (.cells #[.int .i64 P1.a, .int .i64 P1.b, .int .i64 P1.c, .int .i64 P1.d, .int .i64 P2.a, .int .i64 P2.b, .int .i64 P2.c, .int .i64 P2.d] 43)).ownsRow gb 43 4 (.slice (some ⟨wt2.heap.size, 0, none⟩) 2 2) (2 + 0) (([P1, P2] ++ sidesP n l 0).flatMap cellsPl) from own_lit (n := 2) wt2 (([P1, P2] ++ sidesP n l 0).flatMap cellsPl) rfl (by rw [HGB.out]; exact HC.out.size) (by decide))
     rw [← HCP.out] at HO6
     have HB7 := Lib.hid (HC.out.alloc HC.out.size (.cells #[.int .i64 P1.a, .int .i64 P1.b, .int .i64 P1.c, .int .i64 P1.d, .int .i64 P2.a, .int .i64 P2.b, .int .i64 P2.c, .int .i64 P2.d] 43))
     generalize (wt2.alloc (.cells #[.int .i64 P1.a, .int .i64 P1.b, .int .i64 P1.c, .int .i64 P1.d, .int .i64 P2.a, .int .i64 P2.b, .int .i64 P2.c, .int .i64 P2.d] 43)) = W7 at *
     generalize wt2.heap.size = gr at *
     go_wp2_with fail
     go_loopw [13, 14] (fun v iv wr => ∃ i : Nat, i ≤ l.length ∧ iv = .int .i64 (i : Int) ∧ Hid (bigN l i = false) ∧ wr.ownsRow gb 43 4 v (2 + i) ((capsP n e0 e1 ++ sidesP n l i).flatMap cellsPl) ∧ Below W6.heap.size W6 wr) (fun _ iv _ => l.length - (intOf iv).toNat)
     case atStart => exact ⟨0, Nat.zero_le _, rfl, Lib.hid rfl, HO6.out, HB7.out⟩
     case round =>
      obtain ⟨i, hi, rfl, HBN, hown, hb⟩ := hrel
      obtain ⟨W8, rfl⟩ : ∃ W8 : World, W8 = wr := ⟨_, rfl⟩
      have HO8 := Lib.hid hown
      have HB8 := Lib.hid hb
      obtain ⟨va, vc, rfl, -, -⟩ := own_slice hown
      have HV8 := Lib.hid (HVL.out.keep (HB66.out.trans (hb.mono HB66.out.size)))
      by_cases hlt : i < l.length
      ·have hki : (i : Int) < (l.length : Int) := by omega
       have n1' : (0 : Int) ≤ (i : Int) := by omega
       have hm : (i + 1) % l.length < l.length := Nat.mod_lt _ (by omega)
       have hr0 : ((i : Int) + 1).tmod (l.length : Int) = (((i + 1) % l.length : Nat) : Int) := tmod_nat (i + 1) l.length
       obtain ⟨lb, lo, rfl, hat⟩ := HV8.out.at_ hlt
       obtain ⟨lb', lo', hle, hatm⟩ := HV8.out.at_ hm
       obtain ⟨rfl, rfl⟩ : lb = lb' ∧ lo = lo' := by injection hle with h; injection h with h1 h2; exact ⟨h1, h2⟩
       have HP := Lib.hid (show l.getD i pt0 = l[i] by simp [List.getD, hlt])
       have HQ := Lib.hid (show nxt l i = l[(i + 1) % l.length] by unfold nxt; simp [List.getD, hm])
       have HPS := Lib.hid (HSM.out _ (List.getElem_mem hlt))
       have HQS := Lib.hid (HSM.out _ (nxt_mem hlt))
       have HNZ := Lib.hid (side_nz (i := i) hl3 (by have h := HCC.out; unfold cvxB cvxN at h; exact List.all_eq_true.1 h i (List.mem_range.2 hlt)))
       have HBS := Lib.hid (bigN_succ l i)
       have HSS := Lib.hid (sidesP_succ n l i)
       have HBT := Lib.hid (bigN_true (l := l) hlt)
       rw [HP.out, HQ.out] at HNZ HBS HSS HBT
       rw [HQ.out] at HQS
       obtain ⟨c0, c1, -⟩ := hat
       obtain ⟨d0, d1, -⟩ := hatm
       obtain ⟨p, hp⟩ : ∃ p, p = l[i] := ⟨_, rfl⟩
       obtain ⟨q, hq⟩ : ∃ q, q = l[(i + 1) % l.length] := ⟨_, rfl⟩
       rw [← hp] at c0 c1 HPS HNZ HBS HSS HBT
       rw [← hq] at d0 d1 HQS HNZ HBS HSS HBT
       obtain ⟨m, hmm⟩ : ∃ m, m = (i + 1) % l.length := ⟨_, rfl⟩
       rw [← hmm] at d0 d1 hm hr0
       clear HP HQ hp hq hmm hb hle
       have hn0 : l.length ≠ 0 := by omega
       have hn1 : ¬ (l.length : Int) = 0 := by omega
       have n2' : (0 : Int) ≤ (m : Int) := by omega
       have hmi : (m : Int) < (l.length : Int) := by omega
       go_upto_region 28 with fail
       have kx0 : ∀ u : KW (fun W' => Below W8.heap.size W8 W'), (u.w.cell? ⟨lb, lo + i * 2, none⟩ = some (.int .i64 p.x) ∧ u.w.cell? ⟨lb, lo + i * 2 + 1, none⟩ = some (.int .i64 p.y)) ∧ u.w.cell? ⟨lb, lo + m * 2, none⟩ = some (.int .i64 q.x) ∧ u.w.cell? ⟨lb, lo + m * 2 + 1, none⟩ = some (.int .i64 q.y) := fun u => ⟨⟨cell_keep u.ok c0, cell_keep u.ok c1⟩, cell_keep u.ok d0, cell_keep u.ok d1⟩
       haveI nn1 : Nonempty (KW (fun W' => Below W8.heap.size W8 W')) := ⟨⟨W8, Below.refl _ _⟩⟩
       refine wp_cut_slots [142, 143, 144, 145, 146, 147, 148, 149, 150, 151, 152, 153, 15, 16] (TwoPt W8 p q 15 16) ?_ ?_
       ·refine wp_region_tree (fun w' => ∃ u : KW (fun W' => Below W8.heap.size W8 W'), w' = u.w) 15 (.take 0 (.take 1 (.take 2 (.take 3 (.take 4 (.take 5 (.take 6 (.take 7 (.take 8 (.take 9 (.take 10 (.take 11 (.two 12 (.one 13 (.one 14 .done)) 13 (.one 12 (.one 14 .done))))))))))))))) hmix (by kernel_rfl) (KW.mk' (Below.refl _ _).drew) ?_
        have HC := Lib.hid (show Below W8.heap.size W8 W8.drew from (Below.refl _ _).drew)
        generalize W8.drew = wz at *
        repeat (refine wpTree_take ?_; simp only [nthOp]; (first | go_big_quiet_step (fail) | quiet_step (fail)); refine wpQuiet_nil ?_)
        have halG : ∀ A B : Array Value, Below W8.heap.size W8 ((wz.alloc (.cells A 52)).alloc (.cells B 52)) := fun A B => (HC.out.alloc HC.out.size _).alloc (HC.out.alloc HC.out.size (.cells A 52)).size _
        refine wpTree_two ?_ ?_
        ·simp only [nthOp]
         go_wp2_with fail
         have hal := HC.out.alloc HC.out.size (.cells #[.int .i64 0, .int .i64 0] 52)
         refine One_mk (KW.mk' hal) ?_
         refine wpTree_one ?_
         simp only [nthOp]
         go_wp2_with fail
         have hal2 := hal.alloc hal.size (.cells #[.int .i64 0, .int .i64 0] 52)
         refine One_mk (KW.mk' hal2) ?_
         refine wpTree_one ?_
         simp only [nthOp]
         go_wp2_with fail
         refine One_mk (KW.mk' (halG _ _)) ?_
         refine wpTree_done ?_
         simp only [List.drop_succ_cons, List.drop_zero]
         go_wp2_with fail
         refine NP_mk ?_
         exact cut_meet (by simp [forget]) ⟨_, _, rfl, rfl, ⟨by simp [go_sem], by simp [go_sem]⟩, ⟨by simp [go_sem], by simp [go_sem]⟩, halG _ _⟩
        ·simp only [nthOp]
         go_wp2_with fail
         have hal := HC.out.alloc HC.out.size (.cells #[.int .i64 0, .int .i64 0] 52)
         refine One_mk (KW.mk' hal) ?_
         refine wpTree_one ?_
         simp only [nthOp]
         go_wp2_with fail
         have hal2 := hal.alloc hal.size (.cells #[.int .i64 0, .int .i64 0] 52)
         refine One_mk (KW.mk' hal2) ?_
         refine wpTree_one ?_
         simp only [nthOp]
         go_wp2_with fail
         refine One_mk (KW.mk' (halG _ _)) ?_
         refine wpTree_done ?_
         simp only [List.drop_succ_cons, List.drop_zero]
         go_wp2_with fail
         refine NP_mk ?_
         exact cut_meet (by simp [forget]) ⟨_, _, rfl, rfl, ⟨by simp [go_sem], by simp [go_sem]⟩, ⟨by simp [go_sem], by simp [go_sem]⟩, halG _ _⟩
       clear kx0 nn1
       rintro u W9 ⟨g, h, hu10, hu11, ⟨p0, p1⟩, ⟨q0, q1⟩, hb⟩
       simp only [forget, List.foldl_cons, List.foldl_nil, hu10, hu11, List.setIfInBounds_toArray, List.set_cons_succ, List.set_cons_zero]
       clear hu10 hu11
       have HBW := Lib.hid hb
       have HPC := Lib.hid (And.intro p0 p1)
       have HQC := Lib.hid (And.intro q0 q1)
       clear hb c0 c1 d0 d1
       have hps := HPS.out
       have hqs := HQS.out
       unfold Pt.small at hps hqs
       have w1 : IntKind.i64.wrap (q.x - p.x) = q.x - p.x := IntWalk.i64_in _ (by omega)
       have w2 : IntKind.i64.wrap (q.y - p.y) = q.y - p.y := IntWalk.i64_in _ (by omega)
       have HGC := Lib.hid (fun W => gcdR_any (q.x - p.x) (q.y - p.y) (by omega) (by omega) W)
       have HXY := Lib.hid (show snx p q = (q.x - p.x).tdiv (sgP p q : Int) ∧ sny p q = (q.y - p.y).tdiv (sgP p q : Int) from ⟨rfl, rfl⟩)
       rw [show Nat.gcd (q.x - p.x).natAbs (q.y - p.y).natAbs = sgP p q from rfl] at HGC
       have hg0 : ¬ ((sgP p q : Nat) : Int) = 0 := by
        intro e
        have h1 := Nat.eq_zero_of_gcd_eq_zero_left (show Nat.gcd (q.x - p.x).natAbs (q.y - p.y).natAbs = 0 from by unfold sgP at e; omega)
        have h2 := Nat.eq_zero_of_gcd_eq_zero_right (show Nat.gcd (q.x - p.x).natAbs (q.y - p.y).natAbs = 0 from by unfold sgP at e; omega)
        have := HNZ.out
        omega
       generalize sgP p q = G at *
       go_upto_region 30 with (go_at_call 23; refine (HGC.out _).mono ?_; rintro e wA ⟨rfl, hb⟩; have HBA := Lib.hid (HBW.out.trans (hb.mono HBW.out.size)); have p0 := cell_keep hb p0; have p1 := cell_keep hb p1; have q0 := cell_keep hb q0; have q1 := cell_keep hb q1; clear hb)
       have hl1 := block_lt_of_cell p0
       have hl2 := block_lt_of_cell q0
       simp only at hl1 hl2
       have hnx := tdiv_in (s := (G : Int)) (show -600000 ≤ q.x - p.x ∧ q.x - p.x ≤ 600000 by omega)
       have hny := tdiv_in (s := (G : Int)) (show -600000 ≤ q.y - p.y ∧ q.y - p.y ≤ 600000 by omega)
       have wt1' : IntKind.i64.wrap ((q.x - p.x).tdiv (G : Int)) = (q.x - p.x).tdiv (G : Int) := IntWalk.i64_in _ (by omega)
       have wt2' : IntKind.i64.wrap ((q.y - p.y).tdiv (G : Int)) = (q.y - p.y).tdiv (G : Int) := IntWalk.i64_in _ (by omega)
       have HPA := Lib.hid (And.intro p0 p1)
       refine wp_region_grew (by kernel_rfl) (by kernel_rfl) ?_
       repeat (first | go_big_quiet_step (fail) | quiet_step (fail))
       refine wpQuiet_nil ?_
       rintro _ ⟨gg, rfl⟩
       have HBE := Lib.hid (show Below W8.heap.size W8 (grew wA gg) from grewB HBA.out HBA.out.size _)
       have p0 := (show (grew wA gg).cell? ⟨g, 0, none⟩ = some (.int .i64 p.x) from cell_keep (grew_below _ _) HPA.out.1)
       have p1 := (show (grew wA gg).cell? ⟨g, 1, none⟩ = some (.int .i64 p.y) from cell_keep (grew_below _ _) HPA.out.2)
       generalize grew wA gg = WE at *
       rw [← HXY.out.1, ← HXY.out.2]
       rw [← HXY.out.1] at hnx
       rw [← HXY.out.2] at hny
       clear wt1' wt2' w1 w2 q0 q1
       have HBG := Lib.hid (show bigB p q = !(withinB (snx p q) (-8) 8 && withinB (sny p q) (-8) 8) from rfl)
       have HSP := Lib.hid (show sideP n p q = alg n (sny p q) (-(snx p q)) 0 (sny p q * p.x - snx p q * p.y) from rfl)
       generalize snx p q = nx at *
       generalize sny p q = ny at *
       have HWX := Lib.hid (fun W => withinR_any nx (-8) 8 W)
       have HWY := Lib.hid (fun W => withinR_any ny (-8) 8 W)
       have HBZ := Lib.hid (HB8.out.trans (HBE.out.mono HB8.out.size))
       have HBL := Lib.hid (HB66.out.trans (HBZ.out.mono HB66.out.size))
       cases hwx : withinB nx (-8) 8 with
       | false =>
        rw [hwx] at HWX HBG
        have HE1 := Lib.hid (show E = 2 by rw [HE0.out, if_pos (HBT.out (by rw [HBG.out]; rfl))])
        have z0 := cell_keep HBZ.out HZ6.out.1
        have zf := frozen_keep HBZ.out (block_lt_of_cell HZ6.out.1) HZ6.out.2
        go_wp2_with (go_at_call 20; refine (HWX.out _).mono ?_; rintro e w9 ⟨rfl, rfl⟩)
        have HV0 := Lib.hid (show V = [] by rw [HV.out]; unfold prV; rw [← HE.out, HE1.out]; rfl)
        rw [HE1.out]
        refine bodyPost_ret (v := .tuple #[.agg #[.slice none 0 0], .int .i64 2]) ?_ ?_ ?_
        ·simp [results, Tryz.results6, go_sem, got1 z0]
        ·rfl
        ·first | exact ⟨none, 0, by rw [HV0.out]; rfl, by rw [HV0.out]; exact fun hn => absurd rfl hn, HBL.out.setCell HG.out _⟩ | exact ⟨none, ⟨0, by rw [HV0.out]; rfl⟩, by rw [HV0.out]; exact fun hn => absurd rfl hn, HBL.out.setCell HG.out _⟩
       | true =>
        rw [hwx] at HWX HBG
        have tok1 : True := trivial
        cases hwy : withinB ny (-8) 8 with
        | false =>
         rw [hwy] at HWY HBG
         have HE1 := Lib.hid (show E = 2 by rw [HE0.out, if_pos (HBT.out (by rw [HBG.out]; rfl))])
         have z0 := cell_keep HBZ.out HZ6.out.1
         have zf := frozen_keep HBZ.out (block_lt_of_cell HZ6.out.1) HZ6.out.2
         go_wp2_with (first
          | (go_at_call 20; have _t := tok1; refine (HWX.out _).mono ?_; rintro e w9 ⟨rfl, rfl⟩; clear tok1 _t)
          | (go_at_call 20; refine (HWY.out _).mono ?_; rintro e w10 ⟨rfl, rfl⟩))
         have HV0 := Lib.hid (show V = [] by rw [HV.out]; unfold prV; rw [← HE.out, HE1.out]; rfl)
         rw [HE1.out]
         refine bodyPost_ret (v := .tuple #[.agg #[.slice none 0 0], .int .i64 2]) ?_ ?_ ?_
         ·simp [results, Tryz.results6, go_sem, got1 z0]
         ·rfl
         ·first | exact ⟨none, 0, by rw [HV0.out]; rfl, by rw [HV0.out]; exact fun hn => absurd rfl hn, HBL.out.setCell HG.out _⟩ | exact ⟨none, ⟨0, by rw [HV0.out]; rfl⟩, by rw [HV0.out]; exact fun hn => absurd rfl hn, HBL.out.setCell HG.out _⟩
        | true =>
         rw [hwy] at HWY HBG
         have HBF := Lib.hid (show bigB p q = false by rw [HBG.out]; rfl)
         have hbx := withinB_true hwx
         have hby := withinB_true hwy
         have HBN2 := Lib.hid (show bigN l (i + 1) = false by rw [HBS.out, HBN.out, HBF.out]; rfl)
         clear hwx hwy
         go_upto_region 33 with (first
          | (go_at_call 20; have _t := tok1; refine (HWX.out _).mono ?_; rintro e w9 ⟨rfl, rfl⟩; clear tok1 _t)
          | (go_at_call 20; refine (HWY.out _).mono ?_; rintro e w10 ⟨rfl, rfl⟩))
         have hps2 := mul_in (A := 8) (B := 300000) (a := ny) (b := p.x) (by omega) (by omega)
         have hps3 := mul_in (A := 8) (B := 300000) (a := nx) (b := p.y) (by omega) (by omega)
         have vn : IntKind.i64.wrap (-nx) = -nx := IntWalk.i64_in _ (by omega)
         have vp1 : IntKind.i64.wrap (ny * p.x) = ny * p.x := IntWalk.i64_in _ (by omega)
         have vp2 : IntKind.i64.wrap (nx * p.y) = nx * p.y := IntWalk.i64_in _ (by omega)
         have vp3 : IntKind.i64.wrap (ny * p.x - nx * p.y) = ny * p.x - nx * p.y := IntWalk.i64_in _ (by omega)
         have HFL := Lib.hid (show (capsP n e0 e1 ++ sidesP n l (i + 1)).flatMap cellsPl = (capsP n e0 e1 ++ sidesP n l i).flatMap cellsPl ++ cellsPl (sideP n p q) by rw [HSS.out, ← List.append_assoc, List.flatMap_append]; simp)
         rw [HSP.out] at HFL
         have HAL := Lib.hid (fun W => along_any n hn2 ny (-nx) 0 (ny * p.x - nx * p.y) W)
         generalize alg n ny (-nx) 0 (ny * p.x - nx * p.y) = PX at *
         clear hps2 hps3
         go_wp2_with (first
          | (go_at_call 22; refine (HAL.out WE).mono ?_; rintro e wP ⟨rfl, hb⟩; have HBP := Lib.hid (HBE.out.trans (hb.mono HBE.out.size)); clear hb; have hal := (Below.refl wP.heap.size wP).alloc (Nat.le_refl _) (.cells #[.int .i64 PX.a, .int .i64 PX.b, .int .i64 PX.c, .int .i64 PX.d] 43); have HOX := Lib.hid (own_keep (own_keep HO8.out HBP.out) hal); have HBX := Lib.hid (HB8.out.trans ((HBP.out.trans (hal.mono HBP.out.size)).mono HB8.out.size)); have HNW := Lib.hid (fun j u hj => news_of (cellsPl PX) 43 wP wP.heap.size rfl j u hj); clear hal)
          | (at_builtin; go_loud (refine wpList_append_here _ rfl _ _ 44 rfl gb 43 i0 (.agg #[.int .i64 0, .int .i64 0, .int .i64 0, .int .i64 0]) 4 32 Tryz.underlying44 hi0 hz0 hz1 hzb rfl (by decide) (.slice va (2 + i) vc) (2 + i) ((capsP n e0 e1 ++ sidesP n l i).flatMap cellsPl) rfl HOX.out ⟨wP.heap.size, 0, none⟩ 1 1 (cellsPl PX) rfl rfl (by have h := HNW.out; intro j u hj; simpa [cellsPl] using h j u hj) (cellsPl_one PX) (by decide) (by simp only [maxLen]; omega) (by omega) (by have := HGB.out; have := HBX.out.size; omega) ?_; intro v' w15 hown2 hgr hat; obtain ⟨va', vc', rfl, -, -⟩ := own_slice hown2; have HG15 := Lib.hid hgr; have HA15 := Lib.hid hat; have HO15 := Lib.hid hown2; clear hown2 hgr hat)))
         go_roundw
         case rel => exact ⟨i + 1, by omega, by go_num, HBN2, by rw [HFL.out]; exact HO15.out, below_grown HBX.out HG15.out (HBX.out.size) fun j hj => by have := (own_lt HOX.out hj).1; have := HGB.out; omega⟩
         case measure => first | (simp [intOf]; done) | (simp [intOf]; omega)
      ·obtain rfl : i = l.length := by omega
       have hki : ¬ ((l.length : Nat) : Int) < ((l.length : Nat) : Int) := by omega
       have HE1 := Lib.hid (show E = 0 by rw [HE0.out, HBN.out]; rfl)
       have HV0 := Lib.hid (show V = [⟨nf (prP n l e0 e1)⟩] by rw [HV.out]; unfold prV; rw [← HE.out, HE1.out]; rfl)
       obtain ⟨hg1, hg2⟩ := pr_good (axis := n) hl3 hl14 (Bool.or_eq_false_iff.1 HOE.out).1 (Bool.or_eq_false_iff.1 HOE.out).2 HAO.out HCC.out HBN.out
       have hlen : (prP n l e0 e1).length = 2 + l.length := by unfold prP capsP sidesP; simp; omega
       have HNM := Lib.hid (normalR2_any (prP n l e0 e1) va vc W8 hg1 (by omega) (ownPlV (fun q hq => Pl.in_.wf (hg1 q hq).1) HO8.out))
       rw [hlen] at HNM
       have z0 := cell_keep hb HZ6.out.1
       have zf := frozen_keep hb (block_lt_of_cell HZ6.out.1) HZ6.out.2
       have HNW := Lib.hid (show ∀ c ∈ nf (prP n l e0 e1), c.wf from fun c hc => Pl.in_.wf (Good.nor hg1 (corn (prP n l e0 e1)) c hc).1)
       have HBK := Lib.hid (HB66.out.trans (hb.mono HB66.out.size))
       clear hg1 hg2 hlen
       have HNN := Lib.hid (Eq.refl (nf (prP n l e0 e1)))
       generalize nf (prP n l e0 e1) = N at *
       have hz8 : gw + 1 < W8.heap.size := block_lt_of_cell z0
       go_wp2_with (go_at_call 24; refine HNM.out.mono ?_; rintro e w9 ⟨na, nc, rfl, ho, hbn⟩; have HNO := Lib.hid ho; have HAL := Lib.hid ((Below.refl w9.heap.size w9).alloc (Nat.le_refl _) (.cells #[.slice na N.length nc] 46)); have z1 := cell_keep HAL.out (cell_keep hbn z0); have zf1 := frozen_keep HAL.out (Nat.lt_of_lt_of_le hz8 hbn.size) (frozen_keep hbn hz8 zf); have HB9 := Lib.hid (HBK.out.trans (hbn.mono HBK.out.size)); have HSZ := Lib.hid hbn.size; clear ho hbn)
       refine bodyPost_ret (v := .tuple #[.agg #[.slice (some ⟨w9.heap.size, 0, none⟩) 1 1], .int .i64 0]) ?_ ?_ ?_
       ·simp [results, Tryz.results6, go_sem, got1 z1]
       ·rfl
       have c0 : (w9.alloc (.cells #[.slice na N.length nc] 46)).cell? ⟨w9.heap.size, 0, none⟩ = some (.slice na N.length nc) := by simp [go_sem]
       have hp := (ownPlV HNW.out HNO.out).keep HAL.out
       have hbl := own_blk_lt HNO.out
       obtain ⟨a', c', e, hn1, hn2'⟩ := own_slice HNO.out
       injection e with e1' e2' e3'
       subst e1' e3'
       have hB := HB9.out.trans (HAL.out.mono HB9.out.size)
       have hsz := HSZ.out
       generalize (w9.alloc (.cells #[.slice na N.length nc] 46)) = W10 at *
       refine ⟨some ⟨w9.heap.size, 0, none⟩, 1, by rw [HE1.out, HV0.out]; rfl, by
        rw [HV0.out]
        intro _
        refine ⟨w9.heap.size, 0, rfl, fun k x hk => ?_⟩
        have hk0 : k = 0 := by
         cases k with
         | zero => rfl
         | succ k => simp at hk
        subst hk0
        simp at hk
        subst hk
        refine ⟨na, nc, ?_, hp.grown (grownBy_set (a := ⟨gw + 1, 0, none⟩)) fun b e e' => by injection e' with e'; have := (hbl b e).1; simp only at e'; omega, hn1, hn2', trivial⟩
        show (W10.setCell ⟨gw + 1, 0, none⟩ _).cell? ⟨w9.heap.size, 0 + 0 * 1, none⟩ = _
        rw [cell_set_ne (fun e => by injection e with e; omega) rfl rfl]
        exact c0, hB.setCell HG.out _⟩
end Go.Proofs.YtgjmfdhgeahdcaaGreat
