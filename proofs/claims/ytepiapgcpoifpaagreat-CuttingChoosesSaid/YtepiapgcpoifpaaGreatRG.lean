/- The reference's order of blanks: earlier. A region of a board is cut, by the reference. Place of the reference: a piece of a blank is put into a region. Where a blank fits into a region, by the reference. Put of the reference: the first region of the first board where a blank goes. Rows of rows that the call itself makes: while they grow, and when they are whole. Sequence of the reference: the blanks of all pieces, in the order in which the greedy plan takes them. The greedy plan of the reference. Equal plans. -/
import Derived.Test.YtepiapgcpoifpaaGreatVG
import Derived.Test.YtepiapgcpoifpaaGreatGreedyM
import Derived.Test.YtepiapgcpoifpaaGreatG5
import Derived.Test.YtepiapgcpoifpaaGreatRR
import Derived.Test.YtepiapgcpoifpaaGreatG7
import Derived.Test.YtepiapgcpoifpaaGreatG6
import Derived.Test.YtepiapgcpoifpaaGreatG13
import Derived.Test.YtepiapgcpoifpaaGreatL1
import Derived.Deep.CutBlock
import Derived.Test.YtepiapgcpoifpaaGreatG14
import Derived.Test.YtepiapgcpoifpaaGreatA8
set_option linter.unusedVariables false
set_option linter.unusedSimpArgs false
namespace Go.Proofs.YtepiapgcpoifpaaGreat
open Go Go.RowKit

set_option maxHeartbeats 2000000 in
theorem earlier_is (a b : Blank) (w : World) {q : Bool} (hq : earlierB a b = q) (ha : (1 ≤ a.length ∧ a.length ≤ 600000) ∧ (1 ≤ a.width ∧ a.width ≤ 600000)) (hb : (1 ≤ b.length ∧ b.length ≤ 600000) ∧ (1 ≤ b.width ∧ b.width ≤ 600000)) :
    Calls Tryz.prog 128 #[.agg #[.string a.name, .string a.species, .int .i64 a.length, .int .i64 a.width, .int .i64 a.thick, .int .i64 a.count], .agg #[.string b.name, .string b.species, .int .i64 b.length, .int .i64 b.width, .int .i64 b.thick, .int .i64 b.count]] w fun e w' => e = .returned (.bool q) ∧ Below w.heap.size w w' := by
  have HQ := Lib.hid (show q = earlierB a b from hq.symm)
  clear hq
  have hp1 : a.length * a.width ≤ 600000 * 600000 := Int.mul_le_mul ha.1.2 ha.2.2 (by omega) (by omega)
  have hp2 : b.length * b.width ≤ 600000 * 600000 := Int.mul_le_mul hb.1.2 hb.2.2 (by omega) (by omega)
  have hp3 : 0 ≤ a.length * a.width := Int.mul_nonneg (by omega) (by omega)
  have hp4 : 0 ≤ b.length * b.width := Int.mul_nonneg (by omega) (by omega)
  have v1 : IntKind.i64.wrap (a.length * a.width) = a.length * a.width := IntWalk.i64_in _ (by omega)
  have v2 : IntKind.i64.wrap (b.length * b.width) = b.length * b.width := IntWalk.i64_in _ (by omega)
  unfold earlierB at HQ
  go_enter Tryz.func128, Tryz.ntmps128
  go_upto_region 1 with fail
  refine gen_world (fun W => (W.cell? ⟨w.heap.size, 2, none⟩ = some (.int .i64 a.length) ∧ W.cell? ⟨w.heap.size, 3, none⟩ = some (.int .i64 a.width) ∧ W.cell? ⟨w.heap.size + 1, 2, none⟩ = some (.int .i64 b.length) ∧ W.cell? ⟨w.heap.size + 1, 3, none⟩ = some (.int .i64 b.width)) ∧ Below w.heap.size w W) ⟨⟨by simp [go_sem], by simp [go_sem], by simp [go_sem], by simp [go_sem]⟩, ((Below.refl _ _).alloc (Nat.le_refl _) _).alloc (by simp) _⟩ ?_
  rintro W ⟨⟨k0, k1, k2, k3⟩, hbW⟩
  have hz0 := block_lt_of_cell k0
  have hz1 := block_lt_of_cell k2
  simp only at hz0 hz1
  have HB := Lib.hid hbW
  clear hbW hp1 hp2 hp3 hp4
  go_quiet (fail)
  rename_i nq
  generalize a.length * a.width = P at *
  generalize b.length * b.width = Q at *
  by_cases h1 : P > Q
  · have HR := Lib.hid (show q = true by rw [HQ.out, decide_eq_true (show Q < P from h1)]; rfl)
    clear HQ
    go_wp2_with fail
    go_ret
    exact ⟨ret_bool HR.out.symm, below_drewN HB.out nq⟩
  · have hn1 : decide (Q < P) = false := decide_eq_false (by omega)
    by_cases h2 : P = Q
    · have e2 := beq_t h2
      by_cases h3 : a.length > b.length
      · have HR := Lib.hid (show q = true by rw [HQ.out, hn1, decide_eq_true h2, decide_eq_true (show b.length < a.length from h3)]; rfl)
        clear HQ hn1 h2
        go_wp2_with fail
        go_ret
        exact ⟨ret_bool HR.out.symm, below_drewN HB.out nq⟩
      · have HR := Lib.hid (show q = false by rw [HQ.out, hn1, decide_eq_true h2, decide_eq_false (show ¬ b.length < a.length from h3)]; rfl)
        clear HQ hn1 h2
        go_wp2_with fail
        go_ret
        exact ⟨ret_bool HR.out.symm, below_drewN HB.out nq⟩
    · have e2 := beq_f h2
      have HR := Lib.hid (show q = false by rw [HQ.out, hn1, decide_eq_false h2]; rfl)
      clear HQ hn1 h2
      go_wp2_with fail
      go_ret
      exact ⟨ret_bool HR.out.symm, below_drewN HB.out nq⟩
end Go.Proofs.YtepiapgcpoifpaaGreat

set_option linter.unusedVariables false
set_option linter.unusedSimpArgs false
namespace Go.Proofs.YtepiapgcpoifpaaGreat
open Go Go.RowKit

theorem CutR.of {n m : Nat} {w : World} {low high : Rect} {u : Nat → Value} {W2 : World} {gx gy : Nat} (h1 : u n = .pointer (some ⟨gx, 0, none⟩)) (h2 : u m = .pointer (some ⟨gy, 0, none⟩)) (h3 : BoxR W2 gx low) (h4 : BoxR W2 gy high) (h5 : w.heap.size ≤ gx) (h6 : w.heap.size ≤ gy) (h7 : Below w.heap.size w W2) : CutR n m w low high u W2 :=
  ⟨gx, gy, h1, h2, h3, h4, h5, h6, h7⟩
theorem CutB.st {W : World} {g : Nat} {c : Cut} (h : CutB W g c) : ∀ a v, newSt g (cellsC c) a v → W.cell? a = some v := by
  rintro a v ⟨j, rfl, hj⟩
  match j, hj with
  | 0, hj => simp [cellsC] at hj; subst hj; exact h.a
  | 1, hj => simp [cellsC] at hj; subst hj; exact h.t
  | 2, hj => simp [cellsC] at hj; subst hj; exact h.l
  | 3, hj => simp [cellsC] at hj; subst hj; exact h.h
  | 4, hj => simp [cellsC] at hj; subst hj; exact h.k
  | j + 5, hj => simp [cellsC] at hj
theorem Desk.append2 {w w1 : World} {base i m : Nat} {L : List Slot} {St : Addr → Value → Prop} {s : Slot} {a : Addr} {v v' : Value} {news : List Value} (h : Desk w base L St) (hi : L[i]? = some s) (ha : s.a = some a) (hv : w.cell? a = some v)
    (ho : w1.ownsRow base s.e s.k v' m (s.xs ++ news)) (hg : w.grownBy w1 v.ownBlock) (hv' : v'.ownBlock = v.ownBlock ∨ v'.ownBlock = some w.heap.size) : ∀ b u, St b u → w1.cell? b = some u := by
  obtain ⟨V, g1, g2⟩ := h.ex
  have hvi := g2 i s a hi ha
  rw [hv] at hvi
  injection hvi with hvi
  subst hvi
  exact fun b u hb => ((g1.append hi ho hg hv').1.st b u hb).2.1
/-- The reference's desk: a job and two rows of rows. -/
structure RefSt (St : Addr → Value → Prop) (gd gC gR n cC cR : Nat) (kerf : Int) : Prop where
  k : St ⟨gd, 2, none⟩ (.int .i64 kerf)
  c : 0 < n → St ⟨gd, 5, none⟩ (.slice (some ⟨gC, 0, none⟩) n cC)
  r : 0 < n → St ⟨gd, 6, none⟩ (.slice (some ⟨gR, 0, none⟩) n cR)
theorem RefSt.mono {St St' : Addr → Value → Prop} {gd gC gR n cC cR : Nat} {kerf : Int} (h : RefSt St gd gC gR n cC cR kerf) (hs : ∀ a v, St a v → St' a v) : RefSt St' gd gC gR n cC cR kerf := ⟨hs _ _ h.k, fun hn => hs _ _ (h.c hn), fun hn => hs _ _ (h.r hn)⟩
theorem setB_app (L : List Slot) (i : Nat) (ac ar : Addr) (cs : List Cut) (rs : List Rect) (x : List Cut) (y : List Rect) (hA : AtB L i ac ar ⟨cs, rs⟩) :
    (L.set i { slotC ac cs with xs := (slotC ac cs).xs ++ x.flatMap cellsC }) = setB L i ac ar ⟨cs ++ x, rs⟩ := by
  rw [slotC_app]
  unfold setB
  have h2 : (L.set i (slotC ac (cs ++ x)))[i + 1]? = some (slotR ar rs) := by rw [List.getElem?_set_ne (by omega)]; exact hA.r
  obtain ⟨l2, e2⟩ := List.getElem?_eq_some_iff.1 h2
  rw [← e2, List.set_getElem_self]
theorem setB_appR (L : List Slot) (i : Nat) (ac ar : Addr) (cs : List Cut) (rs : List Rect) (y : List Rect) (hA : AtB L i ac ar ⟨cs, rs⟩) :
    (L.set (i + 1) { slotR ar rs with xs := (slotR ar rs).xs ++ y.flatMap cellsR }) = setB L i ac ar ⟨cs, rs ++ y⟩ := by
  rw [slotR_app]
  unfold setB
  obtain ⟨l2, e2⟩ := List.getElem?_eq_some_iff.1 hA.c
  rw [← e2, List.set_getElem_self]
def two2 : List Value := cellsC wasteC ++ cellsC wasteC
theorem two2_one : ∀ u ∈ two2, u.oneCell' = true := fun u hu => (List.mem_append.1 hu).elim (cellsC_one _ u) (cellsC_one _ u)
theorem two_one {p q : Rect} : ∀ u ∈ cellsR p ++ cellsR q, u.oneCell' = true := fun u hu => (List.mem_append.1 hu).elim (cellsR_one _ u) (cellsR_one _ u)
theorem Desk.ownC {w : World} {base : Nat} {L : List Slot} {St : Addr → Value → Prop} {i : Nat} {ac ar : Addr} {s : BS} {v : Value} (h : Desk w base L St) (hA : AtB L i ac ar s) (hc : w.cell? ac = some v) : w.ownsRow base 121 5 v s.cuts.length (s.cuts.flatMap cellsC) := by
  obtain ⟨v', n, h1, h2, h3, h4⟩ := h.row hA.c rfl
  rw [hc] at h1
  injection h1 with h1
  subst h1
  exact own_len' cellsC_len (by decide) h3
theorem Desk.ownR {w : World} {base : Nat} {L : List Slot} {St : Addr → Value → Prop} {i : Nat} {ac ar : Addr} {s : BS} {v : Value} (h : Desk w base L St) (hA : AtB L i ac ar s) (hc : w.cell? ar = some v) : w.ownsRow base 41 4 v s.rects.length (s.rects.flatMap cellsR) := by
  obtain ⟨v', n, h1, h2, h3, h4⟩ := h.row hA.r rfl
  rw [hc] at h1
  injection h1 with h1
  subst h1
  exact own_len' cellsR_len (by decide) h3
theorem desk_news {W : World} {base : Nat} {L : List Slot} {St : Addr → Value → Prop} {g : Nat} {cs : List Value} (h : Desk W base L St) (hs : ∀ a v, newSt g cs a v → St a v) : ∀ j u, cs[j]? = some u → W.cell? ((⟨g, 0, none⟩ : Addr).add j) = some u := by
  intro j u hj
  rw [addr_add, Nat.zero_add]
  exact h.cell (hs _ _ (newSt_at hj))
set_option maxRecDepth 100000 in
set_option maxHeartbeats 16000000 in
theorem rcut_any (gd gC gR n cC cR base k : Nat) (L : List Slot) (i : Nat) (s : BS) (St : Addr → Value → Prop) (region : Nat) (across : Bool) (a kerf : Int) (w : World) (hD : Desk w base L St) (hA : AtB L i ⟨gC, k, none⟩ ⟨gR, k, none⟩ s) (hst : RefSt St gd gC gR n cC cR kerf) (hk : k < n)
    (hl : s.cuts.length ≤ 90000) (hl2 : s.rects.length = s.cuts.length) (hreg : region < s.cuts.length) (hq : okR (s.r region)) (ha : 0 ≤ a ∧ a ≤ 600000) (hkf : 0 ≤ kerf ∧ kerf ≤ 10000) :
    Calls Tryz.prog 159 #[.pointer (some ⟨gd, 0, none⟩), .int .i64 k, .int .i64 region, .int .i64 a, .bool across] w fun e w' => e = .returned (.tuple #[.int .i64 s.cuts.length, .int .i64 ((s.cuts.length : Int) + 1)]) ∧ Desk w' base (setB L i ⟨gC, k, none⟩ ⟨gR, k, none⟩ (s.cut kerf region across a)) St ∧ Below base w w' := by
  have hstc := hst.c (by omega)
  have hstr := hst.r (by omega)
  obtain ⟨i0, hi0, hz0, hz1, hz2⟩ := info_parts cut_info
  obtain ⟨j0, hj0, hy0, hy1, hy2⟩ := info_parts rect_info
  have hsz := hD.size hA
  have hr2 : region < s.rects.length := by omega
  have hregi : (region : Int) < (s.rects.length : Int) := by omega
  have hregi2 : (region : Int) < (s.cuts.length : Int) := by omega
  have hki : (k : Int) < (n : Int) := by omega
  have v1 : IntKind.i64.wrap ((s.cuts.length : Int) + 1) = (s.cuts.length : Int) + 1 := IntWalk.i64_in _ (by omega)
  obtain ⟨g, cap, k1, k2, k3, k4, k5, k6, k7⟩ := hD.rowR hA (by rintro h; rw [h] at hr2; simp at hr2)
  obtain ⟨gc, capc, l1, l2, l3, l4, l5, l6, l7⟩ := hD.rowC hA (by rintro h; rw [h] at hreg; simp at hreg)
  obtain ⟨q, hqq⟩ : ∃ q, q = s.r region := ⟨_, rfl⟩
  have hqe : s.rects[region] = q := by rw [hqq]; unfold BS.r; rw [List.getD_eq_getElem?_getD, List.getElem?_eq_getElem hr2]; rfl
  have e0 := (k7 region hr2 0 (by decide)).1
  have e1 := (k7 region hr2 1 (by decide)).1
  have e2 := (k7 region hr2 2 (by decide)).1
  have e3 := (k7 region hr2 3 (by decide)).1
  rw [hqe] at e0 e1 e2 e3
  simp only [cellsR, List.getElem?_cons_zero, List.getElem?_cons_succ, Nat.add_zero] at e0 e1 e2 e3
  have HQ : 0 ≤ q.x1 ∧ q.x1 ≤ 600000 ∧ 0 ≤ q.y1 ∧ q.y1 ≤ 600000 := by
    rw [← hqq] at hq
    rcases hq with rfl | hq
    · decide
    · unfold proper at hq; omega
  obtain ⟨low, hlow⟩ : ∃ low, lowR q across a = low := ⟨_, rfl⟩
  obtain ⟨high, hhigh⟩ : ∃ high, highR q across a kerf = high := ⟨_, rfl⟩
  have HLOW := Lib.hid hlow
  have HHIGH := Lib.hid hhigh
  have HCUT := Lib.hid (show s.cut kerf region across a = ⟨s.cuts.set region ⟨across, a, s.cuts.length, s.cuts.length + 1, 0⟩ ++ [wasteC, wasteC], s.rects ++ [low, high]⟩ by unfold BS.cut; rw [← hqq, hlow, hhigh, List.set_append_left _ _ hreg])
  have hc5 := hD.cell hstc
  have hc6 := hD.cell hstr
  have hc2 := hD.cell hst.k
  have HDH := Lib.hid hD
  clear hlow hhigh hqq hq hqe k7 l7 k2 l2 hD
  go_enter Tryz.func159, Tryz.ntmps159
  go_upto_region 3 with fail
  refine gen_world (fun W => CutB W w.heap.size ⟨across, a, s.cuts.length, s.cuts.length + 1, 0⟩ ∧ Below w.heap.size w W ∧ w.heap.size < W.heap.size) ⟨⟨by simp [go_sem], by simp [go_sem], by simp [go_sem], by simp [go_sem], by simp [go_sem]⟩, by repeat (first | exact (Below.refl _ _).alloc (Nat.le_refl _) _ | (refine Below.setCell ?_ (by simp) _)), by simp⟩ ?_
  rintro W1 ⟨hcb, hbW, hzW⟩
  obtain ⟨b13, hb13⟩ : ∃ b, b = w.heap.size := ⟨_, rfl⟩
  have hD1 := HDH.out.more (St' := newSt b13 (cellsC ⟨across, a, s.cuts.length, s.cuts.length + 1, 0⟩)) hbW (fun a v h => by
    rw [hb13] at h
    exact ⟨by obtain ⟨j, rfl, _⟩ := h; rfl, by obtain ⟨j, rfl, _⟩ := h; exact Nat.le_refl _, hcb.st a v h⟩)
  rw [← hb13] at hcb ⊢
  have HBW := Lib.hid (hbW.mono hsz.1)
  have hbz := Nat.le_trans hsz.1 hbW.size
  have HD1 := Lib.hid hD1
  have hbx : base ≤ b13 := by rw [hb13]; exact hsz.1
  have HC5 := Lib.hid (cell_keep hbW hc5)
  have HC6 := Lib.hid (cell_keep hbW hc6)
  have HC2 := Lib.hid (cell_keep hbW hc2)
  have HK1 := Lib.hid (cell_keep hbW k1)
  have HE0 := Lib.hid (cell_keep hbW e0)
  have HE1 := Lib.hid (cell_keep hbW e1)
  have HE2 := Lib.hid (cell_keep hbW e2)
  have HE3 := Lib.hid (cell_keep hbW e3)
  have HCB := Lib.hid hcb
  clear hcb hbW hzW hb13 hc5 hc6 hc2 k1 e0 e1 e2 e3 hD1 l1
  refine wp_cut_slots [14, 15, 30, 31, 32, 33, 34, 35, 36, 37, 38, 39, 40, 41, 42, 43, 44, 45, 46, 47, 48, 49, 50] (CutR 14 15 W1 low high) ?_ ?_
  · have kx6 : ∀ y : KW (fun W => Below W1.heap.size W1 W), y.w.cell? ⟨gd, 6, none⟩ = some (.slice (some ⟨gR, 0, none⟩) n cR) := fun y => cell_keep y.ok HC6.out
    have kx2 : ∀ y : KW (fun W => Below W1.heap.size W1 W), y.w.cell? ⟨gd, 2, none⟩ = some (.int .i64 kerf) := fun y => cell_keep y.ok HC2.out
    have kxr : ∀ y : KW (fun W => Below W1.heap.size W1 W), y.w.cell? ⟨gR, k, none⟩ = some (.slice (some ⟨g, 0, none⟩) s.rects.length cap) := fun y => cell_keep y.ok HK1.out
    have kxe : ∀ y : KW (fun W => Below W1.heap.size W1 W), (y.w.cell? ⟨g, region * 4, none⟩ = some (.int .i64 q.x1) ∧ y.w.cell? ⟨g, region * 4 + 1, none⟩ = some (.int .i64 q.y1)) ∧ y.w.cell? ⟨g, region * 4 + 2, none⟩ = some (.int .i64 q.x2) ∧ y.w.cell? ⟨g, region * 4 + 3, none⟩ = some (.int .i64 q.y2) := fun y => ⟨⟨cell_keep y.ok HE0.out, cell_keep y.ok HE1.out⟩, cell_keep y.ok HE2.out, cell_keep y.ok HE3.out⟩
    have kxb : ∀ y : KW (fun W => Below W1.heap.size W1 W), (y.w.cell? ⟨b13, 0, none⟩ = some (.bool across) ∧ y.w.cell? ⟨b13, 1, none⟩ = some (.int .i64 a)) ∧ (y.w.cell? ⟨b13, 2, none⟩ = some (.int .i64 s.cuts.length) ∧ y.w.cell? ⟨b13, 3, none⟩ = some (.int .i64 (s.cuts.length + 1))) ∧ y.w.cell? ⟨b13, 4, none⟩ = some (.int .i64 0) := fun y => ⟨⟨cell_keep y.ok HCB.out.a, cell_keep y.ok HCB.out.t⟩, ⟨cell_keep y.ok HCB.out.l, cell_keep y.ok HCB.out.h⟩, cell_keep y.ok HCB.out.k⟩
    haveI n1 : Nonempty (KW (fun W => Below W1.heap.size W1 W)) := ⟨⟨W1, Below.refl _ _⟩⟩
    refine wp_region_tree (fun w' => ∃ y : KW (fun W => Below W1.heap.size W1 W), w' = y.w) 24 (.take 0 (.take 1 (.take 2 (.take 3 (.take 4 (.take 5 (.take 6 (.take 7 (.take 8 (.take 9 (.take 10 (.take 11 (.take 12 (.take 13 (.take 14 (.take 15 (.take 16 (.three 17 (.take 18 (.take 19 (.take 20 (.two 21 (.one 22 (.one 23 .done)) 22 (.one 21 (.one 23 .done)))))) 21 (.two 17 (.take 18 (.take 19 (.take 20 (.one 22 (.one 23 .done))))) 22 (.one 17 (.take 18 (.take 19 (.take 20 (.one 23 .done)))))) 22 (.two 17 (.take 18 (.take 19 (.take 20 (.one 21 (.one 23 .done))))) 21 (.one 17 (.take 18 (.take 19 (.take 20 (.one 23 .done)))))))))))))))))))))))) (by kernel_rfl) (by kernel_rfl) (KW.mk' (Below.refl _ _).drew) ?_
    have HB0 : Hid (Below W1.heap.size W1 W1.drew) := Lib.hid (Below.refl _ _).drew
    generalize W1.drew = w0 at *
    repeat (refine wpTree_take ?_; simp only [nthOp]; (first | go_big_quiet_step (fail) | quiet_step (fail)); refine wpQuiet_nil ?_)
    refine wpTree_three ?_ ?_ ?_
    · simp only [nthOp]
      go_wp2_with (go_at_call 100; refine (parts_is q low high ⟨across, a, s.cuts.length, s.cuts.length + 1, 0⟩ kerf _ HLOW.out HHIGH.out (by omega) (by simp only; omega) (by omega)).mono ?_; rintro e w1 ⟨rfl, hbn⟩; have HBN := Lib.hid hbn; clear hbn)
      have HB1 := Lib.hid (HB0.out.trans (HBN.out.mono HB0.out.size))
      clear HBN
      refine One_mk (KW.mk' HB1.out) ?_
      repeat (refine wpTree_take ?_; simp only [nthOp]; (first | go_big_quiet_step (fail) | quiet_step (fail)); refine wpQuiet_nil ?_)
      refine wpTree_two ?_ ?_
      · simp only [nthOp]
        go_wp2_with fail
        obtain ⟨gx, hgx⟩ : ∃ g, g = w1.heap.size := ⟨_, rfl⟩
        rw [← hgx]
        have HZgx := Lib.hid (show W1.heap.size ≤ gx by rw [hgx]; exact HB1.out.size)
        refine gen_any (G := fun W' => One _ _ _ _ W') (fun W' => Below W1.heap.size W1 W' ∧ BoxR W' gx ⟨0, 0, 0, 0⟩) ?_ ?_
        · exact ⟨HB1.out.alloc HB1.out.size _, by rw [hgx]; exact box_new _ _ ⟨0, 0, 0, 0⟩⟩
        rintro w2 ⟨hb, hn⟩
        have HB2 := Lib.hid hb
        have Hgx2 := Lib.hid hn
        clear hgx hb hn
        refine One_mk (KW.mk' HB2.out) ?_
        refine wpTree_one ?_
        simp only [nthOp]
        go_wp2_with fail
        obtain ⟨gy, hgy⟩ : ∃ g, g = w2.heap.size := ⟨_, rfl⟩
        rw [← hgy]
        have HZgy := Lib.hid (show W1.heap.size ≤ gy by rw [hgy]; exact HB2.out.size)
        have HDgxgy := Lib.hid (show gx < gy by rw [hgy]; exact Hgx2.out.lt)
        refine gen_any (G := fun W' => One _ _ _ _ W') (fun W' => Below W1.heap.size W1 W' ∧ BoxR W' gy ⟨0, 0, 0, 0⟩ ∧ BoxR W' gx ⟨0, 0, 0, 0⟩) ?_ ?_
        · exact ⟨HB2.out.alloc HB2.out.size _, by rw [hgy]; exact box_new _ _ ⟨0, 0, 0, 0⟩, Hgx2.out.keep ((Below.refl _ _).alloc (Nat.le_refl _) _)⟩
        rintro w3 ⟨hb, hn, hgx⟩
        have HB3 := Lib.hid hb
        have Hgy3 := Lib.hid hn
        have Hgx3 := Lib.hid hgx
        clear hgy hb hn hgx
        refine One_mk (KW.mk' HB3.out) ?_
        have hdd := HDgxgy.out
        obtain ⟨d0, d1, d2, d3, f0, f1, f2, f3⟩ := Hgx3.out
        obtain ⟨e0, e1, e2, e3, g0, g1, g2, g3⟩ := Hgy3.out
        have hzx := HZgx.out
        have hzy := HZgy.out
        refine wpTree_one ?_
        simp only [nthOp]
        go_wp2_with fail
        refine One_mk (KW.mk' (by (repeat (first | (with_reducible exact HB3.out) | (with_reducible refine Below.setCell ?_ (by first | (simp; done) | (simp; omega)) _))))) (wpTree_done ?_)
        simp only [List.drop_succ_cons, List.drop_zero]
        go_wp2_with fail
        refine NP_mk ?_
        refine cut_meet (by simp [forget]) (CutR.of rfl rfl ?_ ?_ HZgx.out HZgy.out ?_)
        · exact ⟨by simp [go_sem, *], by simp [go_sem, *], by simp [go_sem, *], by simp [go_sem, *], by simp [go_sem, *], by simp [go_sem, *], by simp [go_sem, *], by simp [go_sem, *]⟩
        · exact ⟨by simp [go_sem, *], by simp [go_sem, *], by simp [go_sem, *], by simp [go_sem, *], by simp [go_sem, *], by simp [go_sem, *], by simp [go_sem, *], by simp [go_sem, *]⟩
        · (repeat (first | (with_reducible exact HB3.out) | (with_reducible refine Below.setCell ?_ (by first | (simp; done) | (simp; omega)) _)))
      · simp only [nthOp]
        go_wp2_with fail
        obtain ⟨gy, hgy⟩ : ∃ g, g = w1.heap.size := ⟨_, rfl⟩
        rw [← hgy]
        have HZgy := Lib.hid (show W1.heap.size ≤ gy by rw [hgy]; exact HB1.out.size)
        refine gen_any (G := fun W' => One _ _ _ _ W') (fun W' => Below W1.heap.size W1 W' ∧ BoxR W' gy ⟨0, 0, 0, 0⟩) ?_ ?_
        · exact ⟨HB1.out.alloc HB1.out.size _, by rw [hgy]; exact box_new _ _ ⟨0, 0, 0, 0⟩⟩
        rintro w2 ⟨hb, hn⟩
        have HB2 := Lib.hid hb
        have Hgy2 := Lib.hid hn
        clear hgy hb hn
        refine One_mk (KW.mk' HB2.out) ?_
        refine wpTree_one ?_
        simp only [nthOp]
        go_wp2_with fail
        obtain ⟨gx, hgx⟩ : ∃ g, g = w2.heap.size := ⟨_, rfl⟩
        rw [← hgx]
        have HZgx := Lib.hid (show W1.heap.size ≤ gx by rw [hgx]; exact HB2.out.size)
        have HDgygx := Lib.hid (show gy < gx by rw [hgx]; exact Hgy2.out.lt)
        refine gen_any (G := fun W' => One _ _ _ _ W') (fun W' => Below W1.heap.size W1 W' ∧ BoxR W' gx ⟨0, 0, 0, 0⟩ ∧ BoxR W' gy ⟨0, 0, 0, 0⟩) ?_ ?_
        · exact ⟨HB2.out.alloc HB2.out.size _, by rw [hgx]; exact box_new _ _ ⟨0, 0, 0, 0⟩, Hgy2.out.keep ((Below.refl _ _).alloc (Nat.le_refl _) _)⟩
        rintro w3 ⟨hb, hn, hgy⟩
        have HB3 := Lib.hid hb
        have Hgx3 := Lib.hid hn
        have Hgy3 := Lib.hid hgy
        clear hgx hb hn hgy
        refine One_mk (KW.mk' HB3.out) ?_
        have hdd := HDgygx.out
        obtain ⟨d0, d1, d2, d3, f0, f1, f2, f3⟩ := Hgx3.out
        obtain ⟨e0, e1, e2, e3, g0, g1, g2, g3⟩ := Hgy3.out
        have hzx := HZgx.out
        have hzy := HZgy.out
        refine wpTree_one ?_
        simp only [nthOp]
        go_wp2_with fail
        refine One_mk (KW.mk' (by (repeat (first | (with_reducible exact HB3.out) | (with_reducible refine Below.setCell ?_ (by first | (simp; done) | (simp; omega)) _))))) (wpTree_done ?_)
        simp only [List.drop_succ_cons, List.drop_zero]
        go_wp2_with fail
        refine NP_mk ?_
        refine cut_meet (by simp [forget]) (CutR.of rfl rfl ?_ ?_ HZgx.out HZgy.out ?_)
        · exact ⟨by simp [go_sem, *], by simp [go_sem, *], by simp [go_sem, *], by simp [go_sem, *], by simp [go_sem, *], by simp [go_sem, *], by simp [go_sem, *], by simp [go_sem, *]⟩
        · exact ⟨by simp [go_sem, *], by simp [go_sem, *], by simp [go_sem, *], by simp [go_sem, *], by simp [go_sem, *], by simp [go_sem, *], by simp [go_sem, *], by simp [go_sem, *]⟩
        · (repeat (first | (with_reducible exact HB3.out) | (with_reducible refine Below.setCell ?_ (by first | (simp; done) | (simp; omega)) _)))
    · simp only [nthOp]
      go_wp2_with fail
      obtain ⟨gx, hgx⟩ : ∃ g, g = w0.heap.size := ⟨_, rfl⟩
      rw [← hgx]
      have HZgx := Lib.hid (show W1.heap.size ≤ gx by rw [hgx]; exact HB0.out.size)
      refine gen_any (G := fun W' => One _ _ _ _ W') (fun W' => Below W1.heap.size W1 W' ∧ BoxR W' gx ⟨0, 0, 0, 0⟩) ?_ ?_
      · exact ⟨HB0.out.alloc HB0.out.size _, by rw [hgx]; exact box_new _ _ ⟨0, 0, 0, 0⟩⟩
      rintro w1 ⟨hb, hn⟩
      have HB1 := Lib.hid hb
      have Hgx1 := Lib.hid hn
      clear hgx hb hn
      refine One_mk (KW.mk' HB1.out) ?_
      refine wpTree_two ?_ ?_
      · simp only [nthOp]
        go_wp2_with (go_at_call 100; refine (parts_is q low high ⟨across, a, s.cuts.length, s.cuts.length + 1, 0⟩ kerf _ HLOW.out HHIGH.out (by omega) (by simp only; omega) (by omega)).mono ?_; rintro e w2 ⟨rfl, hbn⟩; have HBN := Lib.hid hbn; clear hbn)
        have HB2 := Lib.hid (HB1.out.trans (HBN.out.mono HB1.out.size))
        have Hgx2 := Lib.hid (Hgx1.out.keep HBN.out)
        clear HBN
        refine One_mk (KW.mk' HB2.out) ?_
        repeat (refine wpTree_take ?_; simp only [nthOp]; (first | go_big_quiet_step (fail) | quiet_step (fail)); refine wpQuiet_nil ?_)
        refine wpTree_one ?_
        simp only [nthOp]
        go_wp2_with fail
        obtain ⟨gy, hgy⟩ : ∃ g, g = w2.heap.size := ⟨_, rfl⟩
        rw [← hgy]
        have HZgy := Lib.hid (show W1.heap.size ≤ gy by rw [hgy]; exact HB2.out.size)
        have HDgxgy := Lib.hid (show gx < gy by rw [hgy]; exact Hgx2.out.lt)
        refine gen_any (G := fun W' => One _ _ _ _ W') (fun W' => Below W1.heap.size W1 W' ∧ BoxR W' gy ⟨0, 0, 0, 0⟩ ∧ BoxR W' gx ⟨0, 0, 0, 0⟩) ?_ ?_
        · exact ⟨HB2.out.alloc HB2.out.size _, by rw [hgy]; exact box_new _ _ ⟨0, 0, 0, 0⟩, Hgx2.out.keep ((Below.refl _ _).alloc (Nat.le_refl _) _)⟩
        rintro w3 ⟨hb, hn, hgx⟩
        have HB3 := Lib.hid hb
        have Hgy3 := Lib.hid hn
        have Hgx3 := Lib.hid hgx
        clear hgy hb hn hgx
        refine One_mk (KW.mk' HB3.out) ?_
        have hdd := HDgxgy.out
        obtain ⟨d0, d1, d2, d3, f0, f1, f2, f3⟩ := Hgx3.out
        obtain ⟨e0, e1, e2, e3, g0, g1, g2, g3⟩ := Hgy3.out
        have hzx := HZgx.out
        have hzy := HZgy.out
        refine wpTree_one ?_
        simp only [nthOp]
        go_wp2_with fail
        refine One_mk (KW.mk' (by (repeat (first | (with_reducible exact HB3.out) | (with_reducible refine Below.setCell ?_ (by first | (simp; done) | (simp; omega)) _))))) (wpTree_done ?_)
        simp only [List.drop_succ_cons, List.drop_zero]
        go_wp2_with fail
        refine NP_mk ?_
        refine cut_meet (by simp [forget]) (CutR.of rfl rfl ?_ ?_ HZgx.out HZgy.out ?_)
        · exact ⟨by simp [go_sem, *], by simp [go_sem, *], by simp [go_sem, *], by simp [go_sem, *], by simp [go_sem, *], by simp [go_sem, *], by simp [go_sem, *], by simp [go_sem, *]⟩
        · exact ⟨by simp [go_sem, *], by simp [go_sem, *], by simp [go_sem, *], by simp [go_sem, *], by simp [go_sem, *], by simp [go_sem, *], by simp [go_sem, *], by simp [go_sem, *]⟩
        · (repeat (first | (with_reducible exact HB3.out) | (with_reducible refine Below.setCell ?_ (by first | (simp; done) | (simp; omega)) _)))
      · simp only [nthOp]
        go_wp2_with fail
        obtain ⟨gy, hgy⟩ : ∃ g, g = w1.heap.size := ⟨_, rfl⟩
        rw [← hgy]
        have HZgy := Lib.hid (show W1.heap.size ≤ gy by rw [hgy]; exact HB1.out.size)
        have HDgxgy := Lib.hid (show gx < gy by rw [hgy]; exact Hgx1.out.lt)
        refine gen_any (G := fun W' => One _ _ _ _ W') (fun W' => Below W1.heap.size W1 W' ∧ BoxR W' gy ⟨0, 0, 0, 0⟩ ∧ BoxR W' gx ⟨0, 0, 0, 0⟩) ?_ ?_
        · exact ⟨HB1.out.alloc HB1.out.size _, by rw [hgy]; exact box_new _ _ ⟨0, 0, 0, 0⟩, Hgx1.out.keep ((Below.refl _ _).alloc (Nat.le_refl _) _)⟩
        rintro w2 ⟨hb, hn, hgx⟩
        have HB2 := Lib.hid hb
        have Hgy2 := Lib.hid hn
        have Hgx2 := Lib.hid hgx
        clear hgy hb hn hgx
        refine One_mk (KW.mk' HB2.out) ?_
        refine wpTree_one ?_
        simp only [nthOp]
        go_wp2_with (go_at_call 100; refine (parts_is q low high ⟨across, a, s.cuts.length, s.cuts.length + 1, 0⟩ kerf _ HLOW.out HHIGH.out (by omega) (by simp only; omega) (by omega)).mono ?_; rintro e w3 ⟨rfl, hbn⟩; have HBN := Lib.hid hbn; clear hbn)
        have HB3 := Lib.hid (HB2.out.trans (HBN.out.mono HB2.out.size))
        have Hgx3 := Lib.hid (Hgx2.out.keep HBN.out)
        have Hgy3 := Lib.hid (Hgy2.out.keep HBN.out)
        clear HBN
        refine One_mk (KW.mk' HB3.out) ?_
        repeat (refine wpTree_take ?_; simp only [nthOp]; (first | go_big_quiet_step (fail) | quiet_step (fail)); refine wpQuiet_nil ?_)
        have hdd := HDgxgy.out
        obtain ⟨d0, d1, d2, d3, f0, f1, f2, f3⟩ := Hgx3.out
        obtain ⟨e0, e1, e2, e3, g0, g1, g2, g3⟩ := Hgy3.out
        have hzx := HZgx.out
        have hzy := HZgy.out
        refine wpTree_one ?_
        simp only [nthOp]
        go_wp2_with fail
        refine One_mk (KW.mk' (by (repeat (first | (with_reducible exact HB3.out) | (with_reducible refine Below.setCell ?_ (by first | (simp; done) | (simp; omega)) _))))) (wpTree_done ?_)
        simp only [List.drop_succ_cons, List.drop_zero]
        go_wp2_with fail
        refine NP_mk ?_
        refine cut_meet (by simp [forget]) (CutR.of rfl rfl ?_ ?_ HZgx.out HZgy.out ?_)
        · exact ⟨by simp [go_sem, *], by simp [go_sem, *], by simp [go_sem, *], by simp [go_sem, *], by simp [go_sem, *], by simp [go_sem, *], by simp [go_sem, *], by simp [go_sem, *]⟩
        · exact ⟨by simp [go_sem, *], by simp [go_sem, *], by simp [go_sem, *], by simp [go_sem, *], by simp [go_sem, *], by simp [go_sem, *], by simp [go_sem, *], by simp [go_sem, *]⟩
        · (repeat (first | (with_reducible exact HB3.out) | (with_reducible refine Below.setCell ?_ (by first | (simp; done) | (simp; omega)) _)))
    · simp only [nthOp]
      go_wp2_with fail
      obtain ⟨gy, hgy⟩ : ∃ g, g = w0.heap.size := ⟨_, rfl⟩
      rw [← hgy]
      have HZgy := Lib.hid (show W1.heap.size ≤ gy by rw [hgy]; exact HB0.out.size)
      refine gen_any (G := fun W' => One _ _ _ _ W') (fun W' => Below W1.heap.size W1 W' ∧ BoxR W' gy ⟨0, 0, 0, 0⟩) ?_ ?_
      · exact ⟨HB0.out.alloc HB0.out.size _, by rw [hgy]; exact box_new _ _ ⟨0, 0, 0, 0⟩⟩
      rintro w1 ⟨hb, hn⟩
      have HB1 := Lib.hid hb
      have Hgy1 := Lib.hid hn
      clear hgy hb hn
      refine One_mk (KW.mk' HB1.out) ?_
      refine wpTree_two ?_ ?_
      · simp only [nthOp]
        go_wp2_with (go_at_call 100; refine (parts_is q low high ⟨across, a, s.cuts.length, s.cuts.length + 1, 0⟩ kerf _ HLOW.out HHIGH.out (by omega) (by simp only; omega) (by omega)).mono ?_; rintro e w2 ⟨rfl, hbn⟩; have HBN := Lib.hid hbn; clear hbn)
        have HB2 := Lib.hid (HB1.out.trans (HBN.out.mono HB1.out.size))
        have Hgy2 := Lib.hid (Hgy1.out.keep HBN.out)
        clear HBN
        refine One_mk (KW.mk' HB2.out) ?_
        repeat (refine wpTree_take ?_; simp only [nthOp]; (first | go_big_quiet_step (fail) | quiet_step (fail)); refine wpQuiet_nil ?_)
        refine wpTree_one ?_
        simp only [nthOp]
        go_wp2_with fail
        obtain ⟨gx, hgx⟩ : ∃ g, g = w2.heap.size := ⟨_, rfl⟩
        rw [← hgx]
        have HZgx := Lib.hid (show W1.heap.size ≤ gx by rw [hgx]; exact HB2.out.size)
        have HDgygx := Lib.hid (show gy < gx by rw [hgx]; exact Hgy2.out.lt)
        refine gen_any (G := fun W' => One _ _ _ _ W') (fun W' => Below W1.heap.size W1 W' ∧ BoxR W' gx ⟨0, 0, 0, 0⟩ ∧ BoxR W' gy ⟨0, 0, 0, 0⟩) ?_ ?_
        · exact ⟨HB2.out.alloc HB2.out.size _, by rw [hgx]; exact box_new _ _ ⟨0, 0, 0, 0⟩, Hgy2.out.keep ((Below.refl _ _).alloc (Nat.le_refl _) _)⟩
        rintro w3 ⟨hb, hn, hgy⟩
        have HB3 := Lib.hid hb
        have Hgx3 := Lib.hid hn
        have Hgy3 := Lib.hid hgy
        clear hgx hb hn hgy
        refine One_mk (KW.mk' HB3.out) ?_
        have hdd := HDgygx.out
        obtain ⟨d0, d1, d2, d3, f0, f1, f2, f3⟩ := Hgx3.out
        obtain ⟨e0, e1, e2, e3, g0, g1, g2, g3⟩ := Hgy3.out
        have hzx := HZgx.out
        have hzy := HZgy.out
        refine wpTree_one ?_
        simp only [nthOp]
        go_wp2_with fail
        refine One_mk (KW.mk' (by (repeat (first | (with_reducible exact HB3.out) | (with_reducible refine Below.setCell ?_ (by first | (simp; done) | (simp; omega)) _))))) (wpTree_done ?_)
        simp only [List.drop_succ_cons, List.drop_zero]
        go_wp2_with fail
        refine NP_mk ?_
        refine cut_meet (by simp [forget]) (CutR.of rfl rfl ?_ ?_ HZgx.out HZgy.out ?_)
        · exact ⟨by simp [go_sem, *], by simp [go_sem, *], by simp [go_sem, *], by simp [go_sem, *], by simp [go_sem, *], by simp [go_sem, *], by simp [go_sem, *], by simp [go_sem, *]⟩
        · exact ⟨by simp [go_sem, *], by simp [go_sem, *], by simp [go_sem, *], by simp [go_sem, *], by simp [go_sem, *], by simp [go_sem, *], by simp [go_sem, *], by simp [go_sem, *]⟩
        · (repeat (first | (with_reducible exact HB3.out) | (with_reducible refine Below.setCell ?_ (by first | (simp; done) | (simp; omega)) _)))
      · simp only [nthOp]
        go_wp2_with fail
        obtain ⟨gx, hgx⟩ : ∃ g, g = w1.heap.size := ⟨_, rfl⟩
        rw [← hgx]
        have HZgx := Lib.hid (show W1.heap.size ≤ gx by rw [hgx]; exact HB1.out.size)
        have HDgygx := Lib.hid (show gy < gx by rw [hgx]; exact Hgy1.out.lt)
        refine gen_any (G := fun W' => One _ _ _ _ W') (fun W' => Below W1.heap.size W1 W' ∧ BoxR W' gx ⟨0, 0, 0, 0⟩ ∧ BoxR W' gy ⟨0, 0, 0, 0⟩) ?_ ?_
        · exact ⟨HB1.out.alloc HB1.out.size _, by rw [hgx]; exact box_new _ _ ⟨0, 0, 0, 0⟩, Hgy1.out.keep ((Below.refl _ _).alloc (Nat.le_refl _) _)⟩
        rintro w2 ⟨hb, hn, hgy⟩
        have HB2 := Lib.hid hb
        have Hgx2 := Lib.hid hn
        have Hgy2 := Lib.hid hgy
        clear hgx hb hn hgy
        refine One_mk (KW.mk' HB2.out) ?_
        refine wpTree_one ?_
        simp only [nthOp]
        go_wp2_with (go_at_call 100; refine (parts_is q low high ⟨across, a, s.cuts.length, s.cuts.length + 1, 0⟩ kerf _ HLOW.out HHIGH.out (by omega) (by simp only; omega) (by omega)).mono ?_; rintro e w3 ⟨rfl, hbn⟩; have HBN := Lib.hid hbn; clear hbn)
        have HB3 := Lib.hid (HB2.out.trans (HBN.out.mono HB2.out.size))
        have Hgy3 := Lib.hid (Hgy2.out.keep HBN.out)
        have Hgx3 := Lib.hid (Hgx2.out.keep HBN.out)
        clear HBN
        refine One_mk (KW.mk' HB3.out) ?_
        repeat (refine wpTree_take ?_; simp only [nthOp]; (first | go_big_quiet_step (fail) | quiet_step (fail)); refine wpQuiet_nil ?_)
        have hdd := HDgygx.out
        obtain ⟨d0, d1, d2, d3, f0, f1, f2, f3⟩ := Hgx3.out
        obtain ⟨e0, e1, e2, e3, g0, g1, g2, g3⟩ := Hgy3.out
        have hzx := HZgx.out
        have hzy := HZgy.out
        refine wpTree_one ?_
        simp only [nthOp]
        go_wp2_with fail
        refine One_mk (KW.mk' (by (repeat (first | (with_reducible exact HB3.out) | (with_reducible refine Below.setCell ?_ (by first | (simp; done) | (simp; omega)) _))))) (wpTree_done ?_)
        simp only [List.drop_succ_cons, List.drop_zero]
        go_wp2_with fail
        refine NP_mk ?_
        refine cut_meet (by simp [forget]) (CutR.of rfl rfl ?_ ?_ HZgx.out HZgy.out ?_)
        · exact ⟨by simp [go_sem, *], by simp [go_sem, *], by simp [go_sem, *], by simp [go_sem, *], by simp [go_sem, *], by simp [go_sem, *], by simp [go_sem, *], by simp [go_sem, *]⟩
        · exact ⟨by simp [go_sem, *], by simp [go_sem, *], by simp [go_sem, *], by simp [go_sem, *], by simp [go_sem, *], by simp [go_sem, *], by simp [go_sem, *], by simp [go_sem, *]⟩
        · (repeat (first | (with_reducible exact HB3.out) | (with_reducible refine Below.setCell ?_ (by first | (simp; done) | (simp; omega)) _)))
  · rintro u W2 ⟨gx, gy, ux, uy, hbx2, hby2, hgx, hgy, hb2⟩
    have hD2 := HD1.out.more (St' := fun a v => newSt gx (cellsR low) a v ∨ newSt gy (cellsR high) a v) hb2 (fun a v h => by
      rcases h with h | h
      · exact ⟨by obtain ⟨j, rfl, _⟩ := h; rfl, by obtain ⟨j, rfl, _⟩ := h; exact hgx, box_st hbx2 a v h⟩
      · exact ⟨by obtain ⟨j, rfl, _⟩ := h; rfl, by obtain ⟨j, rfl, _⟩ := h; exact hgy, box_st hby2 a v h⟩)
    have hbb : Below base w W2 := HBW.out.trans (hb2.mono hbz)
    clear HC5 HC6 HC2 HK1 HE0 HE1 HE2 HE3 HCB HD1 HBW hbx2 hby2 hb2 HDH
    simp only [forget, List.foldl_cons, List.foldl_nil]
    simp only [ux, uy]
    go_upto_region 4 with fail
    have hc5 := hD2.cell (.inl (.inl hstc))
    obtain ⟨gc, capc, l1, l2, l3, l4, l5, l6, l7⟩ := hD2.rowC hA (by rintro h; rw [h] at hreg; simp at hreg)
    have hq0 := hD2.cell (.inl (.inr (newSt_at (j := 0) rfl)))
    have hq1 := hD2.cell (.inl (.inr (newSt_at (j := 1) rfl)))
    have hq2 := hD2.cell (.inl (.inr (newSt_at (j := 2) rfl)))
    have hq3 := hD2.cell (.inl (.inr (newSt_at (j := 3) rfl)))
    have hq4 := hD2.cell (.inl (.inr (newSt_at (j := 4) rfl)))
    have kx5 : ∀ y : KW (fun W => Below W2.heap.size W2 W), y.w.cell? ⟨gd, 5, none⟩ = some (.slice (some ⟨gC, 0, none⟩) n cC) := fun y => cell_keep y.ok hc5
    have kxc : ∀ y : KW (fun W => Below W2.heap.size W2 W), y.w.cell? ⟨gC, k, none⟩ = some (.slice (some ⟨gc, 0, none⟩) s.cuts.length capc) := fun y => cell_keep y.ok l1
    have kxb : ∀ y : KW (fun W => Below W2.heap.size W2 W), (y.w.cell? ⟨b13, 0, none⟩ = some (.bool across) ∧ y.w.cell? ⟨b13, 1, none⟩ = some (.int .i64 a)) ∧ (y.w.cell? ⟨b13, 2, none⟩ = some (.int .i64 s.cuts.length) ∧ y.w.cell? ⟨b13, 3, none⟩ = some (.int .i64 (s.cuts.length + 1))) ∧ y.w.cell? ⟨b13, 4, none⟩ = some (.int .i64 0) := fun y => ⟨⟨cell_keep y.ok hq0, cell_keep y.ok hq1⟩, ⟨cell_keep y.ok hq2, cell_keep y.ok hq3⟩, cell_keep y.ok hq4⟩
    haveI n1 : Nonempty (KW (fun W => Below W2.heap.size W2 W)) := ⟨⟨W2, Below.refl _ _⟩⟩
    refine wp_region_tree (fun w' => ∃ y : KW (fun W => Below W2.heap.size W2 W), w' = y.w) 9 (.take 0 (.take 1 (.take 2 (.take 3 (.take 4 (.take 5 (.take 6 (.take 7 (.take 8 .done))))))))) (by kernel_rfl) (by kernel_rfl) (KW.mk' (Below.refl _ _).drew) ?_
    have hbd : Below W2.heap.size W2 W2.drew := (Below.refl _ _).drew
    have hD3 := hD2.keep hbd
    have hb3 : Below base w W2.drew := hbb.drew
    have hgc := l4
    have ee := fun j hj => l7 region hreg j hj
    have e0 := ee 0 (by decide)
    have e1 := ee 1 (by decide)
    have e2 := ee 2 (by decide)
    have e3 := ee 3 (by decide)
    have e4 := ee 4 (by decide)
    generalize s.cuts[region] = cc at e0 e1 e2 e3 e4
    simp only [cellsC, List.getElem?_cons_zero, List.getElem?_cons_succ, Nat.add_zero] at e0 e1 e2 e3 e4
    have d0 := cell_keep hbd e0.1
    have d1 := cell_keep hbd e1.1
    have d2 := cell_keep hbd e2.1
    have d3 := cell_keep hbd e3.1
    have d4 := cell_keep hbd e4.1
    have f0 := frozen_keep hbd hgc e0.2
    have f1 := frozen_keep hbd hgc e1.2
    have f2 := frozen_keep hbd hgc e2.2
    have f3 := frozen_keep hbd hgc e3.2
    have f4 := frozen_keep hbd hgc e4.2
    have l1d := cell_keep hbd l1
    have HS := Lib.hid (Desk.setCut hD3 hA hreg l1d ⟨across, a, s.cuts.length, s.cuts.length + 1, 0⟩)
    have HG := Lib.hid l3
    have HB3 := Lib.hid hb3
    repeat (refine wpTree_take ?_; simp only [nthOp]; (first | go_big_quiet_step (fail) | quiet_step (fail)); refine wpQuiet_nil ?_)
    refine wpTree_done ?_
    simp only [List.drop_succ_cons, List.drop_zero]
    clear hc5 l1 l2 l3 l4 l5 l6 l7 hq0 hq1 hq2 hq3 hq4 hD2 hbb ee e0 e1 e2 e3 e4 kx5 kxc kxb n1 hbd hD3 hb3 l1d
    generalize W2.drew = W3 at *
    go_wp2_with fail
    refine NP_mk ?_
    refine gen_any (G := fun W => _) (fun W => Desk W base (setB L i ⟨gC, k, none⟩ ⟨gR, k, none⟩ ⟨s.cuts.set region ⟨across, a, s.cuts.length, s.cuts.length + 1, 0⟩, s.rects⟩) (fun a v => St a v ∨ newSt gx (cellsR low) a v ∨ newSt gy (cellsR high) a v) ∧ Below base w W) ⟨HS.out.weak (fun a v h => by
      rcases h with h | h
      · exact .inl (.inl h)
      · exact .inr h), by
      have hg := HG.out
      exact ((((HB3.out.setCell (by simpa using hg) _).setCell (by simpa using hg) _).setCell (by simpa using hg) _).setCell (by simpa using hg) _).setCell (by simpa using hg) _⟩ ?_
    clear HS HG HB3 d0 d1 d2 d3 d4 f0 f1 f2 f3 f4 hgc
    rintro W4 ⟨hD4, hb4⟩
    obtain ⟨cs1, hcs1⟩ : ∃ x, x = s.cuts.set region ⟨across, a, s.cuts.length, s.cuts.length + 1, 0⟩ := ⟨_, rfl⟩
    rw [← hcs1] at HCUT hD4
    have hcl : cs1.length = s.cuts.length := by rw [hcs1, List.length_set]
    have HCL := Lib.hid hcl
    have hA4 := hA.set ⟨cs1, s.rects⟩
    clear hcs1
    go_upto_region 5 with fail
    -- two regions of waste more
    have hc5 := hD4.cell (.inl hstc)
    obtain ⟨gc, capc, l1, l2, l3, l4, l5, l6, l7⟩ := hD4.rowC hA4 (by intro h; simp only at h; rw [h] at hcl; simp at hcl; omega)
    simp only [hcl] at l1
    clear l2 l3 l4 l5 l6 l7 hcl
    have hbz4 := Nat.le_trans hsz.1 hb4.size
    have kx5 : ∀ y : KW (fun W => W.cell? ⟨gd, 5, none⟩ = some (.slice (some ⟨gC, 0, none⟩) n cC) ∧ W.cell? ⟨gC, k, none⟩ = some (.slice (some ⟨gc, 0, none⟩) s.cuts.length capc)), y.w.cell? ⟨gd, 5, none⟩ = some (.slice (some ⟨gC, 0, none⟩) n cC) := fun y => y.ok.1
    have kxc : ∀ y : KW (fun W => W.cell? ⟨gd, 5, none⟩ = some (.slice (some ⟨gC, 0, none⟩) n cC) ∧ W.cell? ⟨gC, k, none⟩ = some (.slice (some ⟨gc, 0, none⟩) s.cuts.length capc)), y.w.cell? ⟨gC, k, none⟩ = some (.slice (some ⟨gc, 0, none⟩) s.cuts.length capc) := fun y => y.ok.2
    haveI n1 : Nonempty (KW (fun W => W.cell? ⟨gd, 5, none⟩ = some (.slice (some ⟨gC, 0, none⟩) n cC) ∧ W.cell? ⟨gC, k, none⟩ = some (.slice (some ⟨gc, 0, none⟩) s.cuts.length capc))) := ⟨⟨W4, hc5, l1⟩⟩
    refine wp_region_tree (fun w' => ∃ y : KW (fun W => W.cell? ⟨gd, 5, none⟩ = some (.slice (some ⟨gC, 0, none⟩) n cC) ∧ W.cell? ⟨gC, k, none⟩ = some (.slice (some ⟨gc, 0, none⟩) s.cuts.length capc)), w' = y.w) 16 (.take 0 (.take 1 (.take 2 (.take 3 (.take 4 (.take 5 (.take 6 (.take 7 (.take 8 (.take 9 (.take 10 (.take 11 (.take 12 (.take 13 (.one 14 (.one 15 .done)))))))))))))))) (by kernel_rfl) (by kernel_rfl) (KW.mk' ⟨hc5, l1⟩) ?_
    have HD5 := Lib.hid (hD4.keep (w' := W4.drew) (Below.refl _ _).drew)
    have HB5 := Lib.hid hb4.drew
    have HL1 := Lib.hid (show W4.drew.cell? ⟨gC, k, none⟩ = some (.slice (some ⟨gc, 0, none⟩) s.cuts.length capc) from l1)
    have hbz5 : base ≤ W4.drew.heap.size := hbz4
    clear hD4 hb4 l1 hc5 hbz4
    generalize W4.drew = W5 at *
    repeat (refine wpTree_take ?_; simp only [nthOp]; (first | go_big_quiet_step (fail) | quiet_step (fail)); refine wpQuiet_nil ?_)
    refine wpTree_one ?_
    simp only [nthOp]
    go_wp2_with fail
    obtain ⟨gn, hgn⟩ : ∃ g, g = W5.heap.size := ⟨_, rfl⟩
    rw [← hgn]
    refine gen_any (G := fun W' => One _ _ _ _ W') (fun W' => Desk W' base (setB L i ⟨gC, k, none⟩ ⟨gR, k, none⟩ ⟨cs1, s.rects⟩) (fun a v => (fun a v => St a v ∨ newSt gx (cellsR low) a v ∨ newSt gy (cellsR high) a v) a v ∨ newSt gn two2 a v) ∧ W'.cell? ⟨gC, k, none⟩ = some (.slice (some ⟨gc, 0, none⟩) s.cuts.length capc) ∧ Below base w W') ⟨by
      have h := HD5.out.new two2 121
      rw [← hgn] at h
      exact h, cell_keep ((Below.refl _ _).alloc (Nat.le_refl _) _) HL1.out, HB5.out.alloc hbz5 _⟩ ?_
    clear HD5 HB5 HL1 hbz5 hgn
    rintro W6 ⟨hD6, l1, hb6⟩
    have hbz6 := Nat.le_trans hsz.1 hb6.size
    have hown := hD6.ownC hA4 l1
    simp only [HCL.out] at hown
    have hnewC := desk_news (g := gn) (cs := two2) hD6 (fun a v h => .inr h)
    have h15 := hD6.cell (.inl (.inl hstc))
    refine One_mk (KW.mk' ⟨h15, l1⟩) (wpTree_one ?_)
    simp only [nthOp]
    go_wp2_with (at_builtin; refine wpList_append_here _ rfl _ _ 108 rfl base 121 i0 (.agg #[.bool false, .int .i64 0, .int .i64 0, .int .i64 0, .int .i64 0]) 5 40 Tryz.underlying108 hi0 hz0 hz1 hz2 rfl (by decide) _ s.cuts.length _ rfl hown ⟨gn, 0, none⟩ 2 2 two2 rfl rfl hnewC two2_one (by decide) (by simp only [maxLen]; omega) (by omega) hbz6 ?_; intro vc wC ho3 hg3 hv3; have HO3 := Lib.hid ho3; have HG3 := Lib.hid hg3; have HV3 := Lib.hid hv3; clear ho3 hg3 hv3)
    have hap := hD6.append1 hA4.c rfl l1 HO3.out HG3.out HV3.out
    have hs2 := hD6.append2 hA4.c rfl l1 HO3.out HG3.out HV3.out _ _ (.inl (.inl hstc))
    rw [show two2 = [wasteC, wasteC].flatMap cellsC from rfl, setB_app _ _ _ _ _ _ _ [] hA4, setB_setB] at hap
    obtain ⟨l1', f1, hD7⟩ := hap
    have ho4 : wC.ownsRow base 121 5 vc (s.cuts.length + 2) ((cs1 ++ [wasteC, wasteC]).flatMap cellsC) := by
      rw [List.flatMap_append]; exact HO3.out
    obtain ⟨g1, cap1, hvc, -⟩ := own_cells cellsC_len ho4 (by simp) (by decide)
    subst hvc
    have HD7 := Lib.hid (hD7.weak (St' := fun a v => St a v ∨ newSt gx (cellsR low) a v ∨ newSt gy (cellsR high) a v) (fun a v h => .inl h))
    have HB7 := Lib.hid ((hb6.grown HG3.out hbz6 (fun q hq => own_base hown hq)).setCell (p := ⟨gC, k, none⟩) (by simpa using hsz.2.1) (.slice (some ⟨g1, 0, none⟩) (s.cuts.length + 2) cap1))
    clear HO3 HG3 HV3 hown hnewC hD7 ho4 hD6 l1 hb6 hbz6 h15
    refine One_mk (KW.mk' ⟨hs2, l1'⟩) (wpTree_done ?_)
    simp only [List.drop_succ_cons, List.drop_zero]
    go_wp2_with fail
    refine NP_mk ?_
    refine gen_any (G := fun W => _) (fun W => Desk W base (setB L i ⟨gC, k, none⟩ ⟨gR, k, none⟩ ⟨cs1 ++ [wasteC, wasteC], s.rects⟩) (fun a v => St a v ∨ newSt gx (cellsR low) a v ∨ newSt gy (cellsR high) a v) ∧ Below base w W) ⟨HD7.out, HB7.out⟩ ?_
    clear HD7 HB7 l1' f1 hs2 kx5 kxc n1
    rintro W8 ⟨hD8, hb8⟩
    have hA8 := hA.set ⟨cs1 ++ [wasteC, wasteC], s.rects⟩
    have hlr : s.rects.length ≤ 90000 := by omega
    clear hl2
    go_upto_region 6 with fail
    -- two rectangles more
    have hc6 := hD8.cell (.inl hstr)
    obtain ⟨gr, capr, l1, l2, l3, l4, l5, l6, l7⟩ := hD8.rowR hA8 (by intro h; simp only at h; rw [h] at hr2; simp at hr2)
    simp only at l1
    clear l2 l3 l4 l5 l6 l7
    have hX4 := desk_box (r := low) (g := gx) hD8 (fun a v h => .inr (.inl h))
    have hY4 := desk_box (r := high) (g := gy) hD8 (fun a v h => .inr (.inr h))
    have hbz8 := Nat.le_trans hsz.1 hb8.size
    have kx6 : ∀ y : KW (fun W => W.cell? ⟨gd, 6, none⟩ = some (.slice (some ⟨gR, 0, none⟩) n cR) ∧ W.cell? ⟨gR, k, none⟩ = some (.slice (some ⟨gr, 0, none⟩) s.rects.length capr) ∧ Cells4 W gx low ∧ Cells4 W gy high), y.w.cell? ⟨gd, 6, none⟩ = some (.slice (some ⟨gR, 0, none⟩) n cR) := fun y => y.ok.1
    have kxr : ∀ y : KW (fun W => W.cell? ⟨gd, 6, none⟩ = some (.slice (some ⟨gR, 0, none⟩) n cR) ∧ W.cell? ⟨gR, k, none⟩ = some (.slice (some ⟨gr, 0, none⟩) s.rects.length capr) ∧ Cells4 W gx low ∧ Cells4 W gy high), y.w.cell? ⟨gR, k, none⟩ = some (.slice (some ⟨gr, 0, none⟩) s.rects.length capr) := fun y => y.ok.2.1
    have kxx : ∀ y : KW (fun W => W.cell? ⟨gd, 6, none⟩ = some (.slice (some ⟨gR, 0, none⟩) n cR) ∧ W.cell? ⟨gR, k, none⟩ = some (.slice (some ⟨gr, 0, none⟩) s.rects.length capr) ∧ Cells4 W gx low ∧ Cells4 W gy high), (y.w.cell? ⟨gx, 0, none⟩ = some (.int .i64 low.x1) ∧ y.w.cell? ⟨gx, 1, none⟩ = some (.int .i64 low.y1)) ∧ y.w.cell? ⟨gx, 2, none⟩ = some (.int .i64 low.x2) ∧ y.w.cell? ⟨gx, 3, none⟩ = some (.int .i64 low.y2) := fun y => ⟨⟨y.ok.2.2.1.c0, y.ok.2.2.1.c1⟩, y.ok.2.2.1.c2, y.ok.2.2.1.c3⟩
    have kxy : ∀ y : KW (fun W => W.cell? ⟨gd, 6, none⟩ = some (.slice (some ⟨gR, 0, none⟩) n cR) ∧ W.cell? ⟨gR, k, none⟩ = some (.slice (some ⟨gr, 0, none⟩) s.rects.length capr) ∧ Cells4 W gx low ∧ Cells4 W gy high), (y.w.cell? ⟨gy, 0, none⟩ = some (.int .i64 high.x1) ∧ y.w.cell? ⟨gy, 1, none⟩ = some (.int .i64 high.y1)) ∧ y.w.cell? ⟨gy, 2, none⟩ = some (.int .i64 high.x2) ∧ y.w.cell? ⟨gy, 3, none⟩ = some (.int .i64 high.y2) := fun y => ⟨⟨y.ok.2.2.2.c0, y.ok.2.2.2.c1⟩, y.ok.2.2.2.c2, y.ok.2.2.2.c3⟩
    haveI n1 : Nonempty (KW (fun W => W.cell? ⟨gd, 6, none⟩ = some (.slice (some ⟨gR, 0, none⟩) n cR) ∧ W.cell? ⟨gR, k, none⟩ = some (.slice (some ⟨gr, 0, none⟩) s.rects.length capr) ∧ Cells4 W gx low ∧ Cells4 W gy high)) := ⟨⟨W8, hc6, l1, hX4, hY4⟩⟩
    refine wp_region_tree (fun w' => ∃ y : KW (fun W => W.cell? ⟨gd, 6, none⟩ = some (.slice (some ⟨gR, 0, none⟩) n cR) ∧ W.cell? ⟨gR, k, none⟩ = some (.slice (some ⟨gr, 0, none⟩) s.rects.length capr) ∧ Cells4 W gx low ∧ Cells4 W gy high), w' = y.w) 16 (.take 0 (.take 1 (.take 2 (.take 3 (.take 4 (.take 5 (.take 6 (.take 7 (.take 8 (.take 9 (.take 10 (.take 11 (.take 12 (.take 13 (.one 14 (.one 15 .done)))))))))))))))) (by kernel_rfl) (by kernel_rfl) (KW.mk' ⟨hc6, l1, ⟨hX4.c0, hX4.c1, hX4.c2, hX4.c3⟩, ⟨hY4.c0, hY4.c1, hY4.c2, hY4.c3⟩⟩) ?_
    have HD5 := Lib.hid (hD8.keep (w' := W8.drew) (Below.refl _ _).drew)
    have HB5 := Lib.hid hb8.drew
    have HL1 := Lib.hid (show W8.drew.cell? ⟨gR, k, none⟩ = some (.slice (some ⟨gr, 0, none⟩) s.rects.length capr) from l1)
    have hbz5 : base ≤ W8.drew.heap.size := hbz8
    clear hD8 hb8 l1 hc6 hbz8 hX4 hY4
    generalize W8.drew = W5 at *
    repeat (refine wpTree_take ?_; simp only [nthOp]; (first | go_big_quiet_step (fail) | quiet_step (fail)); refine wpQuiet_nil ?_)
    refine wpTree_one ?_
    simp only [nthOp]
    go_wp2_with fail
    obtain ⟨gn, hgn⟩ : ∃ g, g = W5.heap.size := ⟨_, rfl⟩
    rw [← hgn]
    refine gen_any (G := fun W' => One _ _ _ _ W') (fun W' => Desk W' base (setB L i ⟨gC, k, none⟩ ⟨gR, k, none⟩ ⟨cs1 ++ [wasteC, wasteC], s.rects⟩) (fun a v => (fun a v => St a v ∨ newSt gx (cellsR low) a v ∨ newSt gy (cellsR high) a v) a v ∨ newSt gn (cellsR low ++ cellsR high) a v) ∧ W'.cell? ⟨gR, k, none⟩ = some (.slice (some ⟨gr, 0, none⟩) s.rects.length capr) ∧ Below base w W') ⟨by
      have h := HD5.out.new (cellsR low ++ cellsR high) 41
      rw [← hgn] at h
      exact h, cell_keep ((Below.refl _ _).alloc (Nat.le_refl _) _) HL1.out, HB5.out.alloc hbz5 _⟩ ?_
    clear HD5 HB5 HL1 hbz5 hgn
    rintro W6 ⟨hD6, l1, hb6⟩
    have hbz6 := Nat.le_trans hsz.1 hb6.size
    have hown := hD6.ownR hA8 l1
    simp only at hown
    have hnewR := desk_news (g := gn) (cs := cellsR low ++ cellsR high) hD6 (fun a v h => .inr h)
    have h16 := hD6.cell (.inl (.inl hstr))
    have hX4 := desk_box (r := low) (g := gx) hD6 (fun a v h => .inl (.inr (.inl h)))
    have hY4 := desk_box (r := high) (g := gy) hD6 (fun a v h => .inl (.inr (.inr h)))
    refine One_mk (KW.mk' ⟨h16, l1, hX4, hY4⟩) (wpTree_one ?_)
    simp only [nthOp]
    go_wp2_with (at_builtin; refine wpList_append_here _ rfl _ _ 84 rfl base 41 j0 (.agg #[.int .i64 0, .int .i64 0, .int .i64 0, .int .i64 0]) 4 32 Tryz.underlying84 hj0 hy0 hy1 hy2 rfl (by decide) _ s.rects.length _ rfl hown ⟨gn, 0, none⟩ 2 2 (cellsR low ++ cellsR high) rfl rfl hnewR two_one (by decide) (by simp only [maxLen]; omega) (by omega) hbz6 ?_; intro vr wR ho3 hg3 hv3; have HO3 := Lib.hid ho3; have HG3 := Lib.hid hg3; have HV3 := Lib.hid hv3; clear ho3 hg3 hv3)
    have hap := hD6.append1 hA8.r rfl l1 HO3.out HG3.out HV3.out
    have hss := hD6.append2 hA8.r rfl l1 HO3.out HG3.out HV3.out
    have hs2 := hss _ _ (.inl (.inl hstr))
    have hX5 : Cells4 wR gx low := ⟨hss _ _ (.inl (.inr (.inl (newSt_at rfl)))), hss _ _ (.inl (.inr (.inl (newSt_at rfl)))), hss _ _ (.inl (.inr (.inl (newSt_at rfl)))), hss _ _ (.inl (.inr (.inl (newSt_at rfl))))⟩
    have hY5 : Cells4 wR gy high := ⟨hss _ _ (.inl (.inr (.inr (newSt_at rfl)))), hss _ _ (.inl (.inr (.inr (newSt_at rfl)))), hss _ _ (.inl (.inr (.inr (newSt_at rfl)))), hss _ _ (.inl (.inr (.inr (newSt_at rfl))))⟩
    rw [show cellsR low ++ cellsR high = [low, high].flatMap cellsR from by simp, setB_appR _ _ _ _ _ _ _ hA8, setB_setB] at hap
    obtain ⟨l1', f1, hD7⟩ := hap
    have ho4 : wR.ownsRow base 41 4 vr (s.rects.length + 2) ((s.rects ++ [low, high]).flatMap cellsR) := by
      rw [List.flatMap_append]
      have h := HO3.out
      rw [show cellsR low ++ cellsR high = [low, high].flatMap cellsR from by simp] at h
      exact h
    obtain ⟨g1, cap1, hvc, -⟩ := own_cells cellsR_len ho4 (by simp) (by decide)
    subst hvc
    have HD7 := Lib.hid (hD7.weak (St' := St) (fun a v h => .inl (.inl h)))
    have HB7 := Lib.hid ((hb6.grown HG3.out hbz6 (fun q hq => own_base hown hq)).setCell (p := ⟨gR, k, none⟩) (by simpa using hsz.2.2.2.1) (.slice (some ⟨g1, 0, none⟩) (s.rects.length + 2) cap1))
    clear HO3 HG3 HV3 hown hnewR hD7 ho4 hD6 l1 hb6 hbz6 h16 hX4 hY4 hss
    refine One_mk (KW.mk' ⟨hs2, l1', hX5, hY5⟩) (wpTree_done ?_)
    simp only [List.drop_succ_cons, List.drop_zero]
    go_wp2_with fail
    refine NP_mk ?_
    go_wp2_with fail
    go_ret2
    exact ⟨rfl, by rw [HCUT.out]; exact HD7.out, HB7.out⟩
end Go.Proofs.YtepiapgcpoifpaaGreat

set_option linter.unusedVariables false
set_option linter.unusedSimpArgs false
namespace Go.Proofs.YtepiapgcpoifpaaGreat
open Go Go.RowKit

/-- Where a step of Place leaves the board: the region it goes on with, and the board. -/
def StepP (base : Nat) (w : World) (L : List Slot) (i : Nat) (ac ar : Addr) (St : Addr → Value → Prop) (p : BS × Nat) (u : Nat → Value) (W : World) : Prop := u 2 = .int .i64 (p.2 : Int) ∧ Desk W base (setB L i ac ar p.1) St ∧ Below base w W
theorem StepP.mk {base : Nat} {w : World} {L : List Slot} {i : Nat} {ac ar : Addr} {St : Addr → Value → Prop} {p : BS × Nat} {u : Nat → Value} {W : World} {s : BS} {m : Nat} {v : Int} (hp : p = (s, m)) (hv : v = (m : Int)) (hu : u 2 = .int .i64 v) (hD : Desk W base (setB L i ac ar s) St) (hb : Below base w W) : StepP base w L i ac ar St p u W := by
  subst hp; subst hv; exact ⟨hu, hD, hb⟩
theorem succ_cast (n : Nat) : (n : Int) + 1 = ((n + 1 : Nat) : Int) := by omega
set_option maxRecDepth 100000 in
set_option maxHeartbeats 16000000 in
theorem rplace_any (gd gC gR n cC cR base k : Nat) (L : List Slot) (i : Nat) (s : BS) (St : Addr → Value → Prop) (region : Nat) (o : Int) (number : Nat) (bl : List Blank) (ab : Option Addr) (cb : Nat) (want : Blank) (kerf : Int) (w : World) (hD : Desk w base L St) (hA : AtB L i ⟨gC, k, none⟩ ⟨gR, k, none⟩ s) (hst : RefSt St gd gC gR n cC cR kerf)
    (hsb : St ⟨gd, 1, none⟩ (.slice ab bl.length cb)) (hbv : Blanks.V w ab bl) (hnum : number < bl.length) (hwant : bl[number] = want) (hk : k < n) (hl : s.cuts.length ≤ 80000) (hgp : GoodP (s, region)) (ho : o = 0 ∨ kerf < o) (hx : (s.r region).x1 + o < (s.r region).x2)
    (hkf : 0 ≤ kerf ∧ kerf ≤ 10000) (hw : (1 ≤ want.length ∧ want.length ≤ 600000) ∧ (1 ≤ want.width ∧ want.width ≤ 600000)) :
    Calls Tryz.prog 130 #[.pointer (some ⟨gd, 0, none⟩), .int .i64 k, .int .i64 region, .int .i64 o, .int .i64 number] w fun e w' => e = .returned (.tuple #[]) ∧ Desk w' base (setB L i ⟨gC, k, none⟩ ⟨gR, k, none⟩ (s.place kerf want number region o)) St ∧ Below base w w' := by
  have hsz := hD.size hA
  obtain ⟨bb, bo, hab, m0, m1, m2, m3, m4, m5, -⟩ := hbv.at_ hnum
  subst hab
  rw [hwant] at m0 m1 m2 m3 m4 m5
  have hg1 := hD.cell hsb
  have hni : (number : Int) < (bl.length : Int) := by omega
  have hki : (k : Int) < (n : Int) := by omega
  have HD0 := Lib.hid hD
  obtain ⟨p1, hp1⟩ : ∃ p, p = s.cut1 kerf region o := ⟨_, rfl⟩
  have HG1 := Lib.hid (show GoodP p1 by rw [hp1]; exact good_cut1 hgp hkf.1 ho hx)
  have HL1 := Lib.hid (show p1.1.cuts.length ≤ 80002 by rw [hp1]; have := len_cut1 (s := s) (kerf := kerf) (o := o) (region := region); omega)
  obtain ⟨p2, hp2⟩ : ∃ p, p = BS.cut2 p1 kerf want := ⟨_, rfl⟩
  have HG2 := Lib.hid (show GoodP p2 by rw [hp2]; exact good_cut2 HG1.out hkf.1 (by omega))
  have HL2 := Lib.hid (show p2.1.cuts.length ≤ 80004 by rw [hp2]; have := len_cut2 (s := p1) (kerf := kerf) (w := want); have := HL1.out; omega)
  obtain ⟨p3, hp3⟩ : ∃ p, p = BS.cut3 p2 kerf want := ⟨_, rfl⟩
  have HG3 := Lib.hid (show GoodP p3 by rw [hp3]; exact good_cut3 HG2.out hkf.1 (by omega))
  have HL3 := Lib.hid (show p3.1.cuts.length ≤ 80006 by rw [hp3]; have := len_cut3 (s := p2) (kerf := kerf) (w := want); have := HL2.out; omega)
  have HPL := Lib.hid (show s.place kerf want number region o = BS.mark p3 number by rw [hp3, hp2, hp1]; rfl)
  have HP1 := Lib.hid hp1
  have HP2 := Lib.hid hp2
  have HP3 := Lib.hid hp3
  have hlt0 : region < s.cuts.length := hgp.lt
  have hln0 : s.rects.length = s.cuts.length := hgp.len
  have HPR0 := Lib.hid (show proper (s.r region) from hgp.pr)
  clear hp1 hp2 hp3 hwant hbv hD
  go_enter Tryz.func130, Tryz.ntmps130
  go_upto_region 1 with fail
  refine gen_world (fun W => CellsW W w.heap.size want ∧ Below w.heap.size w W) ?_ ?_
  · exact ⟨⟨by simp [go_sem], by simp [go_sem], by simp [go_sem], by simp [go_sem], by simp [go_sem], by simp [go_sem]⟩, by repeat (first | exact (Below.refl _ _).alloc (Nat.le_refl _) _ | (refine Below.setCell ?_ (by simp) _))⟩
  rintro W ⟨hcw, hbW⟩
  have HDW := Lib.hid (desk_plus HD0.out hbW hcw)
  have HST1 := Lib.hid (show RefSt (plusSt St w.heap.size want) gd gC gR n cC cR kerf from hst.mono (fun a v h => .inl h))
  have HBW := Lib.hid (hbW.mono hsz.1)
  obtain ⟨g10, hg10⟩ : ∃ g, g = w.heap.size := ⟨_, rfl⟩
  rw [← hg10] at HDW HST1 ⊢
  clear hcw hbW m0 m1 m2 m3 m4 m5 hg1 hg10 HD0
  have hc2 := HDW.out.cell HST1.out.k
  -- the first cut
  go_upto_if 22 with fail
  refine wp_cut_slots [2, 22, 23, 24, 25, 26, 27, 28, 29, 30, 31, 32, 33, 34, 35, 36, 37] (StepP base w L i ⟨gC, k, none⟩ ⟨gR, k, none⟩ (plusSt St g10 want) p1) ?_ ?_
  · by_cases hop : 0 < o
    · have hop' : o > 0 := hop
      have hoo : 0 ≤ o - kerf ∧ o - kerf ≤ 600000 := by
        have h3 := HPR0.out
        unfold proper at h3
        omega
      have v1 : IntKind.i64.wrap (o - kerf) = o - kerf := IntWalk.i64_in _ (by omega)
      have HE := Lib.hid (HP1.out.trans (cut1_pos hop))
      have hl9 : s.cuts.length ≤ 90000 := by omega
      clear hop
      go_wp2_with (go_at_call 159; refine (rcut_any gd gC gR n cC cR base k L i s _ region true (o - kerf) kerf _ HDW.out hA HST1.out hk hl9 hln0 hlt0 (.inr HPR0.out) hoo hkf).mono ?_; rintro e w2 ⟨rfl, hD2, hb2⟩; have HD2 := Lib.hid hD2; have HB2 := Lib.hid (HBW.out.trans hb2); clear hD2 hb2)
      exact cut_meet (by simp [forget]) (StepP.mk HE.out (succ_cast _) (by first | rfl | simp) HD2.out HB2.out)
    · have hop' : ¬ o > 0 := hop
      have HE := Lib.hid (HP1.out.trans (cut1_zero hop))
      clear hop
      go_wp2_with fail
      exact cut_meet (by simp [forget]) (StepP.mk HE.out rfl (by first | rfl | simp) (by rw [setB_same hA]; exact HDW.out) HBW.out)
  rintro u wc ⟨u2, hDc, hbc⟩
  simp only [forget, List.foldl_cons, List.foldl_nil, u2]
  clear u2 hc2 HDW HBW HPR0 hlt0 hln0 HP1
  obtain ⟨s1, a1⟩ := p1
  have hA1 := hA.set s1
  have hst1 := HST1.out
  have HG := Lib.hid HG1.out
  have HLN := Lib.hid (show s1.cuts.length ≤ 90000 by have := HL1.out; simp only at this; omega)
  clear HG1 HL1
  simp only at hDc
  have hHBC := Lib.hid hbc
  obtain ⟨gr, capr, m1, -, m3, m4, -, -, m7⟩ := hDc.rowR hA1 (by intro h; have h2 := HG.out.len; have h3 := HG.out.lt; simp only at h h2 h3; rw [h] at h2; simp at h2; omega)
  have hr2 : a1 < s1.rects.length := by have h2 := HG.out.len; have h3 := HG.out.lt; simp only at h2 h3; omega
  have hri : (a1 : Int) < (s1.rects.length : Int) := by omega
  have hr0 : s1.r a1 = s1.rects[a1] := by unfold BS.r; rw [List.getD_eq_getElem?_getD, List.getElem?_eq_getElem hr2]; rfl
  have q0 := (m7 a1 hr2 0 (by decide)).1
  have q1 := (m7 a1 hr2 1 (by decide)).1
  have q2 := (m7 a1 hr2 2 (by decide)).1
  have q3 := (m7 a1 hr2 3 (by decide)).1
  rw [← hr0] at q0 q1 q2 q3
  have hpr : proper (s1.r a1) := HG.out.pr
  obtain ⟨r1, hr1⟩ : ∃ r, r = s1.r a1 := ⟨_, rfl⟩
  rw [← hr1] at q0 q1 q2 q3 hpr
  simp only [cellsR, List.getElem?_cons_zero, List.getElem?_cons_succ, Nat.add_zero] at q0 q1 q2 q3
  have HPR := Lib.hid (show proper (s1.r a1) from HG.out.pr)
  have HR1 := Lib.hid hr1
  have hc6 := hDc.cell (hst1.r (by omega))
  have hlen1 : s1.cuts.length ≤ 90000 := HLN.out
  have hlen2 : s1.rects.length = s1.cuts.length := HG.out.len
  have hlt1 : a1 < s1.cuts.length := HG.out.lt
  have HBOX := Lib.hid (show 0 ≤ r1.x1 ∧ r1.x1 < r1.x2 ∧ r1.x2 ≤ 600000 ∧ 0 ≤ r1.y1 ∧ r1.y1 < r1.y2 ∧ r1.y2 ≤ 600000 from hpr)
  clear m7 m3 m4 hr0 hr1 hpr
  go_upto_region 4 with fail
  refine gen_world (fun W => BoxR W wc.heap.size r1 ∧ Below wc.heap.size wc W) ⟨⟨by simp [go_sem], by simp [go_sem], by simp [go_sem], by simp [go_sem], by simp [go_sem], by simp [go_sem], by simp [go_sem], by simp [go_sem]⟩, by repeat (first | exact (Below.refl _ _).alloc (Nat.le_refl _) _ | (refine Below.setCell ?_ (by simp) _))⟩ ?_
  rintro W3 ⟨hbx, hb3⟩
  have HD3 := Lib.hid (hDc.keep hb3)
  have HB3 := Lib.hid (hbc.trans (hb3.mono (Nat.le_trans hsz.1 hbc.size)))
  obtain ⟨x0, x1, x2, x3, -, -, -, -⟩ := hbx
  obtain ⟨-, -, w2, w3, -, -⟩ := desk_want HD3.out
  have HA1 := Lib.hid hA1
  have HS1 := Lib.hid hst1
  have HKN := Lib.hid (And.intro hlen1 (And.intro hlen2 hlt1))
  have b0 := HBOX.out
  clear m1 q0 q1 q2 q3 hc6 hDc hbc hb3 hlen1 hlen2 hlt1 hr2 hri hst1 hA1
  have v1 : IntKind.i64.wrap (r1.x2 - r1.x1) = r1.x2 - r1.x1 := IntWalk.i64_in _ (by omega)
  go_upto_if 55 with fail
  refine wp_cut_slots [2, 55, 56, 57, 58, 59, 60, 61, 62, 63, 64] (StepP base w L i ⟨gC, k, none⟩ ⟨gR, k, none⟩ (plusSt St g10 want) p2) ?_ ?_
  · by_cases hop : want.length < r1.x2 - r1.x1
    · have hop' : r1.x2 - r1.x1 > want.length := hop
      have HE := Lib.hid (HP2.out.trans (cut2_yes (by rw [← HR1.out]; exact hop)))
      have hwl : 0 ≤ want.length ∧ want.length ≤ 600000 := by omega
      clear hop
      go_wp2_with (go_at_call 159; refine (rcut_any gd gC gR n cC cR base k _ i s1 _ a1 true want.length kerf _ HD3.out HA1.out HS1.out hk HKN.out.1 HKN.out.2.1 HKN.out.2.2 (.inr HPR.out) hwl hkf).mono ?_; rintro e w2' ⟨rfl, hD2, hb2⟩; have HD2 := Lib.hid hD2; have HB2 := Lib.hid (HB3.out.trans hb2); clear hD2 hb2)
      exact cut_meet (by simp [forget]) (StepP.mk HE.out rfl (by first | rfl | simp) (by have h := HD2.out; rw [setB_setB] at h; exact h) HB2.out)
    · have hop' : ¬ r1.x2 - r1.x1 > want.length := hop
      have HE := Lib.hid (HP2.out.trans (cut2_no (by rw [← HR1.out]; exact hop)))
      clear hop
      go_wp2_with fail
      exact cut_meet (by simp [forget]) (StepP.mk HE.out rfl (by first | rfl | simp) HD3.out HB3.out)
  clear HD3 HB3 HP2 HA1 HS1 HKN HPR HR1 HBOX x0 x1 x2 x3 w2 w3 v1 b0 HG HLN hHBC
  rintro u wc ⟨u2, hDc, hbc⟩
  simp only [forget, List.foldl_cons, List.foldl_nil, u2]
  clear u2
  obtain ⟨s1, a1⟩ := p2
  have hA1 := hA.set s1
  have hst1 := HST1.out
  have HG := Lib.hid HG2.out
  have HLN := Lib.hid (show s1.cuts.length ≤ 90000 by have := HL2.out; simp only at this; omega)
  clear HG2 HL2
  simp only at hDc
  have hHBC := Lib.hid hbc
  obtain ⟨gr, capr, m1, -, m3, m4, -, -, m7⟩ := hDc.rowR hA1 (by intro h; have h2 := HG.out.len; have h3 := HG.out.lt; simp only at h h2 h3; rw [h] at h2; simp at h2; omega)
  have hr2 : a1 < s1.rects.length := by have h2 := HG.out.len; have h3 := HG.out.lt; simp only at h2 h3; omega
  have hri : (a1 : Int) < (s1.rects.length : Int) := by omega
  have hr0 : s1.r a1 = s1.rects[a1] := by unfold BS.r; rw [List.getD_eq_getElem?_getD, List.getElem?_eq_getElem hr2]; rfl
  have q0 := (m7 a1 hr2 0 (by decide)).1
  have q1 := (m7 a1 hr2 1 (by decide)).1
  have q2 := (m7 a1 hr2 2 (by decide)).1
  have q3 := (m7 a1 hr2 3 (by decide)).1
  rw [← hr0] at q0 q1 q2 q3
  have hpr : proper (s1.r a1) := HG.out.pr
  obtain ⟨r1, hr1⟩ : ∃ r, r = s1.r a1 := ⟨_, rfl⟩
  rw [← hr1] at q0 q1 q2 q3 hpr
  simp only [cellsR, List.getElem?_cons_zero, List.getElem?_cons_succ, Nat.add_zero] at q0 q1 q2 q3
  have HPR := Lib.hid (show proper (s1.r a1) from HG.out.pr)
  have HR1 := Lib.hid hr1
  have hc6 := hDc.cell (hst1.r (by omega))
  have hlen1 : s1.cuts.length ≤ 90000 := HLN.out
  have hlen2 : s1.rects.length = s1.cuts.length := HG.out.len
  have hlt1 : a1 < s1.cuts.length := HG.out.lt
  have HBOX := Lib.hid (show 0 ≤ r1.x1 ∧ r1.x1 < r1.x2 ∧ r1.x2 ≤ 600000 ∧ 0 ≤ r1.y1 ∧ r1.y1 < r1.y2 ∧ r1.y2 ≤ 600000 from hpr)
  clear m7 m3 m4 hr0 hr1 hpr
  go_upto_region 7 with fail
  refine gen_world (fun W => BoxR W wc.heap.size r1 ∧ Below wc.heap.size wc W) ⟨⟨by simp [go_sem], by simp [go_sem], by simp [go_sem], by simp [go_sem], by simp [go_sem], by simp [go_sem], by simp [go_sem], by simp [go_sem]⟩, by repeat (first | exact (Below.refl _ _).alloc (Nat.le_refl _) _ | (refine Below.setCell ?_ (by simp) _))⟩ ?_
  rintro W3 ⟨hbx, hb3⟩
  have HD3 := Lib.hid (hDc.keep hb3)
  have HB3 := Lib.hid (hbc.trans (hb3.mono (Nat.le_trans hsz.1 hbc.size)))
  obtain ⟨x0, x1, x2, x3, -, -, -, -⟩ := hbx
  obtain ⟨-, -, w2, w3, -, -⟩ := desk_want HD3.out
  have HA1 := Lib.hid hA1
  have HS1 := Lib.hid hst1
  have HKN := Lib.hid (And.intro hlen1 (And.intro hlen2 hlt1))
  have b0 := HBOX.out
  clear m1 q0 q1 q2 q3 hc6 hDc hbc hb3 hlen1 hlen2 hlt1 hr2 hri hst1 hA1
  have v1 : IntKind.i64.wrap (r1.y2 - r1.y1) = r1.y2 - r1.y1 := IntWalk.i64_in _ (by omega)
  go_upto_if 82 with fail
  refine wp_cut_slots [2, 82, 83, 84, 85, 86, 87, 88, 89, 90, 91] (StepP base w L i ⟨gC, k, none⟩ ⟨gR, k, none⟩ (plusSt St g10 want) p3) ?_ ?_
  · by_cases hop : want.width < r1.y2 - r1.y1
    · have hop' : r1.y2 - r1.y1 > want.width := hop
      have HE := Lib.hid (HP3.out.trans (cut3_yes (by rw [← HR1.out]; exact hop)))
      have hwl : 0 ≤ want.width ∧ want.width ≤ 600000 := by omega
      clear hop
      go_wp2_with (go_at_call 159; refine (rcut_any gd gC gR n cC cR base k _ i s1 _ a1 false want.width kerf _ HD3.out HA1.out HS1.out hk HKN.out.1 HKN.out.2.1 HKN.out.2.2 (.inr HPR.out) hwl hkf).mono ?_; rintro e w2' ⟨rfl, hD2, hb2⟩; have HD2 := Lib.hid hD2; have HB2 := Lib.hid (HB3.out.trans hb2); clear hD2 hb2)
      exact cut_meet (by simp [forget]) (StepP.mk HE.out rfl (by first | rfl | simp) (by have h := HD2.out; rw [setB_setB] at h; exact h) HB2.out)
    · have hop' : ¬ r1.y2 - r1.y1 > want.width := hop
      have HE := Lib.hid (HP3.out.trans (cut3_no (by rw [← HR1.out]; exact hop)))
      clear hop
      go_wp2_with fail
      exact cut_meet (by simp [forget]) (StepP.mk HE.out rfl (by first | rfl | simp) HD3.out HB3.out)
  clear HD3 HB3 HP3 HA1 HS1 HKN HPR HR1 HBOX x0 x1 x2 x3 w2 w3 v1 b0 HG HLN hHBC
  rintro u wc ⟨u2, hDc, hbc⟩
  simp only [forget, List.foldl_cons, List.foldl_nil, u2]
  clear u2
  obtain ⟨s1, a1⟩ := p3
  have hA1 := hA.set s1
  have hst1 := HST1.out
  have hlt1 : a1 < s1.cuts.length := HG3.out.lt
  have hlti : (a1 : Int) < (s1.cuts.length : Int) := by omega
  simp only at hDc
  have hc5 := hDc.cell (hst1.c (by omega))
  obtain ⟨gc, capc, l1, l2, l3, l4, l5, l6, l7⟩ := hDc.rowC hA1 (by intro h; rw [h] at hlt1; simp at hlt1)
  have e0 := l7 a1 hlt1 0 (by decide)
  have e1 := l7 a1 hlt1 1 (by decide)
  have e2 := l7 a1 hlt1 2 (by decide)
  have e3 := l7 a1 hlt1 3 (by decide)
  have e4 := l7 a1 hlt1 4 (by decide)
  have HS := Lib.hid (Desk.setCut hDc hA1 hlt1 l1 (pieceC number))
  have HB := Lib.hid hbc
  have HG := Lib.hid l3
  generalize s1.cuts[a1] = cc at e0 e1 e2 e3 e4
  simp only [cellsC, List.getElem?_cons_zero, List.getElem?_cons_succ, Nat.add_zero] at e0 e1 e2 e3 e4
  obtain ⟨e0, f0⟩ := e0
  obtain ⟨e1, f1⟩ := e1
  obtain ⟨e2, f2⟩ := e2
  obtain ⟨e3, f3⟩ := e3
  obtain ⟨e4, f4⟩ := e4
  clear l2 l3 l4 l5 l6 l7 hDc hbc hst1 hA1 hlt1 HG3 HL3
  go_wp2_with fail
  refine bodyPost_end (v := .tuple #[]) (by simp [results, Tryz.results130, go_sem]) rfl ⟨rfl, ?_, ?_⟩
  · have hs := HS.out
    rw [setB_setB] at hs
    rw [HPL.out]
    exact desk_plain hs
  · have hg := HG.out
    exact ((((HB.out.setCell (by simpa using hg) _).setCell (by simpa using hg) _).setCell (by simpa using hg) _).setCell (by simpa using hg) _).setCell (by simpa using hg) _
end Go.Proofs.YtepiapgcpoifpaaGreat

set_option linter.unusedVariables false
set_option linter.unusedSimpArgs false
namespace Go.Proofs.YtepiapgcpoifpaaGreat
open Go Go.RowKit

def AccR (a : Option Int) (m : Int) (f : Bool) : Prop := a = if f = true then some m else none
def OffPost (a : Option Int) (w : World) (e : Ending) (w' : World) : Prop := ∃ (m : Int) (f : Bool), e = .returned (.tuple #[.int .i64 m, .bool f]) ∧ AccR a m f ∧ Below w.heap.size w w'
structure OffW (W : World) (g : Nat) (kerf : Int) (b : Board) (ad : Option Addr) (cd : Nat) (r : Rect) (want : Blank) : Prop where
  k : W.cell? ⟨g, 2, none⟩ = some (.int .i64 kerf)
  b : CellsBd W (g + 1) 0 b ad cd
  r : Cells4 W (g + 2) r
  w : CellsW W (g + 3) want
theorem Cells4.keep {W W' : World} {g : Nat} {r : Rect} (h : Cells4 W g r) (hb : Below W.heap.size W W') : Cells4 W' g r := ⟨cell_keep hb h.c0, cell_keep hb h.c1, cell_keep hb h.c2, cell_keep hb h.c3⟩
theorem OffW.keep {W W' : World} {g : Nat} {kerf : Int} {b : Board} {ad : Option Addr} {cd : Nat} {r : Rect} {want : Blank} (h : OffW W g kerf b ad cd r want) (hb : Below W.heap.size W W') : OffW W' g kerf b ad cd r want := ⟨cell_keep hb h.k, h.b.keep hb, h.r.keep hb, h.w.keep hb⟩
theorem fits_in {ds : List Rect} {r : Rect} {w : Blank} {o : Int} (h : 0 ≤ o) : fitsB ds r w o = (insideB (pieceR r w o) r && soundB ds (pieceR r w o)) := by
  unfold fitsB insideB pieceR
  rw [decide_eq_true (show r.x1 ≤ r.x1 + o by omega), decide_eq_true (show r.y1 ≤ r.y1 by omega), Bool.true_and, Bool.and_true]
theorem fold_take {ds : List Rect} {r : Rect} {w : Blank} {l : List Int} {k : Nat} (hk : k < l.length) : (l.take (k + 1)).foldl (offStep ds r w) none = offStep ds r w ((l.take k).foldl (offStep ds r w) none) l[k] := by
  rw [List.take_succ_eq_append_getElem hk, List.foldl_append]; rfl
theorem step_no {ds : List Rect} {r : Rect} {w : Blank} {o : Int} {a : Option Int} (h : fitsB ds r w o = false) : offStep ds r w a o = a := by unfold offStep; rw [if_neg (by rw [h]; decide)]
theorem step_none {ds : List Rect} {r : Rect} {w : Blank} {o : Int} (h : fitsB ds r w o = true) : offStep ds r w none o = some o := by unfold offStep; rw [if_pos h]
theorem step_less {ds : List Rect} {r : Rect} {w : Blank} {o m : Int} (h : fitsB ds r w o = true) (hm : o < m) : offStep ds r w (some m) o = some o := by unfold offStep; rw [if_pos h]; simp only [if_pos hm]
theorem step_more {ds : List Rect} {r : Rect} {w : Blank} {o m : Int} (hm : ¬ o < m) : offStep ds r w (some m) o = some m := by
  unfold offStep
  split
  · simp only [if_neg hm]
  · rfl
set_option maxRecDepth 100000 in
set_option maxHeartbeats 8000000 in
theorem roffset_any (a1 a2 : Option Addr) (n1 c1 n2 c2 : Nat) (kerf e1 e2 : Int) (b : Board) (ad : Option Addr) (cd : Nat) (r : Rect) (want : Blank) (w : World) (hv : Rects.V w ad b.defects) (hdf : DefsOk b.defects) (hq : proper r)
    (hkf : 0 ≤ kerf ∧ kerf ≤ 10000) (hw : (1 ≤ want.length ∧ want.length ≤ 600000) ∧ (1 ≤ want.width ∧ want.width ≤ 600000)) :
    Calls Tryz.prog 129 #[.agg #[.slice a1 n1 c1, .slice a2 n2 c2, .int .i64 kerf, .int .i64 e1, .int .i64 e2], .agg #[.string b.name, .string b.species, .int .i64 b.length, .int .i64 b.width, .int .i64 b.thick, .int .i64 b.cut, .int .i64 b.moisture, .slice ad b.defects.length cd], .agg #[.int .i64 r.x1, .int .i64 r.y1, .int .i64 r.x2, .int .i64 r.y2], .agg #[.string want.name, .string want.species, .int .i64 want.length, .int .i64 want.width, .int .i64 want.thick, .int .i64 want.count]] w (OffPost (offset kerf b.defects r want) w) := by
  obtain ⟨i0, hi0, hz0, hz1, hz2⟩ := info_parts int_info
  have hq' := hq
  unfold proper at hq'
  have HQ := Lib.hid hq'
  clear hq
  have v2 : IntKind.i64.wrap (kerf + 1) = kerf + 1 := IntWalk.i64_in _ (by omega)
  go_enter Tryz.func129, Tryz.ntmps129
  go_upto_region 1 with fail
  refine gen_world (fun W => OffW W w.heap.size kerf b ad cd r want ∧ Below w.heap.size w W) ⟨⟨by simp [go_sem], ⟨by simp [go_sem], by simp [go_sem], by simp [go_sem], by simp [go_sem], by simp [go_sem], by simp [go_sem], by simp [go_sem], by simp [go_sem]⟩, ⟨by simp [go_sem], by simp [go_sem], by simp [go_sem], by simp [go_sem]⟩, ⟨by simp [go_sem], by simp [go_sem], by simp [go_sem], by simp [go_sem], by simp [go_sem], by simp [go_sem]⟩⟩, ((((Below.refl _ _).alloc (Nat.le_refl _) _).alloc (by simp) _).alloc (by simp; omega) _).alloc (by simp; omega) _⟩ ?_
  rintro W ⟨hC, hbW⟩
  have HC := Lib.hid hC
  have hvW := hv.keep hbW
  have HBW := Lib.hid hbW
  have ck := hC.k
  have c7 := hC.b.c7
  have r0 := hC.r.c0
  simp only [Nat.zero_add] at c7
  have hgW : w.heap.size + 3 < W.heap.size := by have := block_lt_of_cell hC.w.c0; simpa using this
  clear hC hbW hv
  go_wp2_with fail
  have hown0 : (W.alloc (.cells #[.int .i64 0, .int .i64 (kerf + 1)] 3)).ownsRow W.heap.size 3 1 (.slice (some ⟨W.heap.size, 0, none⟩) 2 2) 2 [.int .i64 0, .int .i64 (kerf + 1)] := World.ownsRow_lit W #[.int .i64 0, .int .i64 (kerf + 1)] 2 (Nat.le_refl _) (by decide) rfl
  have hb0 := (Below.refl W.heap.size W).alloc (Nat.le_refl _) (.cells #[.int .i64 0, .int .i64 (kerf + 1)] 3)
  go_loopw [10, 11] (fun v iv wr => ∃ k n : Nat, k ≤ b.defects.length ∧ iv = .int .i64 k ∧ n = (startsK kerf b.defects r k).length ∧ wr.ownsRow W.heap.size 3 1 v n ((startsK kerf b.defects r k).map (Value.int .i64)) ∧ Below W.heap.size W wr ∧ W.heap.size < wr.heap.size) (fun _ iv _ => b.defects.length - (intOf iv).toNat)
  case atStart => exact ⟨0, 2, Nat.zero_le _, rfl, rfl, hown0, hb0, by simp⟩
  case round =>
    clear hown0 hb0 v2
    obtain ⟨k, n, hk, rfl, hn, hown, hbr, hzr⟩ := hrel
    have hsl := startsK_len kerf b.defects r k
    have hdl := hdf.len
    by_cases hlt : k < b.defects.length
    · obtain ⟨bk, off, rfl, hat⟩ := (hvW.keep hbr).at_ hlt
      obtain ⟨d0, d1, d2, d3, -⟩ := hat
      have q0 := cell_keep hbr r0
      have qk := cell_keep hbr ck
      have q7 := cell_keep hbr c7
      have hdd := hdf.ok _ (List.getElem_mem hlt)
      have HY := Lib.hid (startsK_yes (kerf := kerf) (r := r) hlt)
      have HN := Lib.hid (startsK_no (kerf := kerf) (r := r) hlt)
      generalize b.defects[k] = d at *
      have hqb := HQ.out
      have v3 : IntKind.i64.wrap (d.x2 - r.x1) = d.x2 - r.x1 := IntWalk.i64_in _ (by omega)
      have HOWN := Lib.hid hown
      have HBB := Lib.hid hbr
      have hki : (k : Int) < (b.defects.length : Int) := by omega
      clear hown
      by_cases hc : kerf < d.x2 - r.x1
      · have hc' : d.x2 - r.x1 > kerf := hc
        go_upto_region 5 with fail
        go_quiet (fail)
        rename_i nq
        have HOWN := Lib.hid (own_keep HOWN.out (below_drewN (Below.refl _ _) nq))
        have HBB := Lib.hid (below_drewN HBB.out nq)
        have qk : (wr.drewN nq).cell? ⟨w.heap.size, 2, none⟩ = some (.int .i64 kerf) := qk
        have hzq : W.heap.size < (wr.drewN nq).heap.size := hzr
        generalize wr.drewN nq = wq at *
        go_wp2_with (at_builtin; refine wpList_append_own _ rfl _ _ 30 rfl W.heap.size 3 i0 (.int .i64 0) 1 8 Tryz.underlying30 hi0 hz0 hz1 hz2 rfl (by decide) _ n _ rfl (HOWN.out.alloc _) ⟨wq.heap.size, 0, none⟩ 1 1 [.int .i64 (d.x2 - r.x1)] rfl rfl (news_of _ _ _ _ (by simp)) (by simp [Value.oneCell']) (by simp only [maxLen]; omega) (by omega) (by simp; omega) ?_; intro v' w5 ho5 hgr5 hnil5; have HO5 := Lib.hid ho5; have HGR := Lib.hid hgr5; clear ho5 hgr5 hnil5)
        have hb5 : Below W.heap.size W w5 := (HBB.out.alloc (by omega) _).grown HGR.out (by simp; omega) (fun j hj => own_base HOWN.out hj)
        have hz5 := hb5.size
        have hz6 := HGR.out.size
        go_roundw
        case rel => exact ⟨k + 1, n + 1, by omega, by go_num, by rw [HY.out hc]; simp [hn], by rw [HY.out hc, List.map_append]; exact HO5.out, hb5, by simp at hz6; omega⟩
        case measure => simp [intOf]; omega
      · have hc' : ¬ d.x2 - r.x1 > kerf := hc
        go_upto_region 5 with fail
        go_quiet (fail)
        rename_i nq
        have HOWN := Lib.hid (own_keep HOWN.out (below_drewN (Below.refl _ _) nq))
        have HBB := Lib.hid (below_drewN HBB.out nq)
        have qk : (wr.drewN nq).cell? ⟨w.heap.size, 2, none⟩ = some (.int .i64 kerf) := qk
        have hzq : W.heap.size < (wr.drewN nq).heap.size := hzr
        generalize wr.drewN nq = wq at *
        go_wp2_with fail
        go_roundw
        case rel => exact ⟨k + 1, n, by omega, by go_num, by rw [HN.out hc]; exact hn, by rw [HN.out hc]; exact HOWN.out, HBB.out, hzq⟩
        case measure => simp [intOf]; omega
    · obtain rfl : k = b.defects.length := by omega
      rw [startsK_all] at hown hn hsl
      have HSB := Lib.hid (fun o h => starts_bd (o := o) hkf (fun d hd => (hdf.ok d hd).2.2.1) (show 0 ≤ r.x1 from HQ.out.1) h)
      have HOF := Lib.hid (show offset kerf b.defects r want = (starts kerf b.defects r).foldl (offStep b.defects r want) none from rfl)
      generalize starts kerf b.defects r = sl at *
      obtain ⟨gt, ct, hvt, hgt, hgl⟩ : ∃ gt ct, _ = Value.slice (some ⟨gt, 0, none⟩) n ct ∧ W.heap.size ≤ gt ∧ gt < wr.heap.size := by
        rcases hown.2 with ⟨_, h0⟩ | ⟨gt, ct, cur, h1, h2, h3, -⟩
        · omega
        · exact ⟨gt, ct, h1, h2, (Array.getElem?_eq_some_iff.1 h3).1⟩
      subst hvt
      subst hn
      obtain ⟨wo, rfl⟩ : ∃ wo : World, wo = wr := ⟨_, rfl⟩
      have HBO := Lib.hid hbr
      have HOWN := Lib.hid hown
      have hki : ¬ (b.defects.length : Int) < (b.defects.length : Int) := by omega
      have q7 := cell_keep hbr c7
      generalize offset kerf b.defects r want = res at *
      clear hown hbr
      go_wp2_with fail
      go_loopw [13, 14, 15] (fun mv fv iv wr => ∃ (k : Nat) (m : Int) (f : Bool), k ≤ sl.length ∧ iv = .int .i64 k ∧ mv = .int .i64 m ∧ fv = .bool f ∧ Hid (AccR ((sl.take k).foldl (offStep b.defects r want) none) m f) ∧ Below wo.heap.size wo wr) (fun _ _ iv _ => sl.length - (intOf iv).toNat)
      case atStart => exact ⟨0, 0, false, Nat.zero_le _, rfl, rfl, rfl, Lib.hid rfl, Below.refl _ _⟩
      case round =>
        obtain ⟨k, m, f, hk2, rfl, rfl, rfl, HA, hbr⟩ := hrel
        have HBR := Lib.hid (HBO.out.trans (hbr.mono HBO.out.size))
        have HBR0 := Lib.hid hbr
        clear hk hki q7
        by_cases hlt : k < sl.length
        · have hki : (k : Int) < (sl.length : Int) := by omega
          have HFT := Lib.hid (fold_take (ds := b.defects) (r := r) (w := want) hlt)
          have hob := HSB.out _ (List.getElem_mem hlt)
          have hcell : wr.cell? ⟨gt, k, none⟩ = some (.int .i64 sl[k]) := by
            have h := HOWN.out.cells (g := gt) rfl k (.int .i64 sl[k]) (by rw [List.getElem?_map, List.getElem?_eq_getElem hlt]; rfl)
            rw [addr_add, Nat.zero_add] at h
            exact cell_keep hbr h
          have HST := Lib.hid (fits_in (ds := b.defects) (r := r) (w := want) hob.1)
          clear hbr
          generalize sl[k] = o at *
          have hqb := HQ.out
          have v4 : IntKind.i64.wrap (r.x1 + o) = r.x1 + o := IntWalk.i64_in _ (by omega)
          have v5 : IntKind.i64.wrap (r.x1 + o + want.length) = r.x1 + o + want.length := IntWalk.i64_in _ (by omega)
          have v6 : IntKind.i64.wrap (r.y1 + want.width) = r.y1 + want.width := IntWalk.i64_in _ (by omega)
          have HOW := Lib.hid (HC.out.keep HBR.out)
          obtain ⟨x0, x1, x2, x3⟩ := HOW.out.r
          have w2 := HOW.out.w.c2
          have w3 := HOW.out.w.c3
          go_upto_region 14 with fail
          refine gen_world (fun W9 => Cells4 W9 wr.heap.size (pieceR r want o) ∧ Below wr.heap.size wr W9) ⟨⟨by simp [go_sem, pieceR], by simp [go_sem, pieceR], by simp [go_sem, pieceR], by simp [go_sem, pieceR]⟩, by repeat (first | exact (Below.refl _ _).alloc (Nat.le_refl _) _ | (refine Below.setCell ?_ (by simp) _))⟩ ?_
          rintro W9 ⟨hbx, hb9⟩
          have HBX := Lib.hid hbx
          have HB9 := Lib.hid (HBR.out.trans (hb9.mono HBR.out.size))
          have HB90 := Lib.hid (HBR0.out.trans (hb9.mono HBR0.out.size))
          have HOW9 := Lib.hid (HOW.out.keep hb9)
          have hz9 := HBR0.out.size
          clear hb9 x0 x1 x2 x3 w2 w3 hcell v4 v5 v6
          obtain ⟨y0, y1, y2, y3⟩ := hbx
          obtain ⟨x0, x1, x2, x3⟩ := HOW9.out.r
          obtain ⟨c0', c1', c2', c3', c4', c5', c6', c7'⟩ := HOW9.out.b
          simp only [Nat.zero_add] at c0' c1' c2' c3' c4' c5' c6' c7'
          have HIN := Lib.hid (fun w => inside_any (pieceR r want o) r w)
          have HSO := Lib.hid (fun w hv => isSound_any b (pieceR r want o) ad cd w hv (by omega))
          obtain ⟨i1, hi1⟩ : ∃ i, insideB (pieceR r want o) r = i := ⟨_, rfl⟩
          obtain ⟨i2, hi2⟩ : ∃ i, soundB b.defects (pieceR r want o) = i := ⟨_, rfl⟩
          rw [hi1] at HIN HST
          rw [hi2] at HSO HST
          clear hi1 hi2
          cases i1
          · have HF := Lib.hid (show fitsB b.defects r want o = false by rw [HST.out, Bool.false_and])
            go_wp2_with (go_at_call 91; refine (HIN.out _).mono ?_; rintro e w1 ⟨rfl, hb⟩; have HB1 := Lib.hid (HB90.out.trans (hb.mono HB90.out.size)); obtain ⟨y0, y1, y2, y3⟩ := (show Cells4 W9 wr.heap.size (pieceR r want o) from HBX.out).keep hb; obtain ⟨c0, c1, c2, c3, c4, c5, c6, c7⟩ := (HOW9.out.keep hb).b; clear hb; simp only [Nat.zero_add] at c0 c1 c2 c3 c4 c5 c6 c7)
            go_roundw
            case rel => exact ⟨k + 1, m, f, by omega, by go_num, rfl, rfl, Lib.hid (by rw [HFT.out, step_no HF.out]; exact HA.out), HB1.out⟩
            case measure => simp [intOf]; omega
          · cases i2
            · have HF := Lib.hid (show fitsB b.defects r want o = false by rw [HST.out, Bool.and_false])
              go_wp2_with (first
                | (go_at_call 91; refine (HIN.out _).mono ?_; rintro e w1 ⟨rfl, hb⟩; have HB1 := Lib.hid (HB90.out.trans (hb.mono HB90.out.size)); obtain ⟨y0, y1, y2, y3⟩ := (show Cells4 W9 wr.heap.size (pieceR r want o) from HBX.out).keep hb; obtain ⟨c0, c1, c2, c3, c4, c5, c6, c7⟩ := (HOW9.out.keep hb).b; clear hb; simp only [Nat.zero_add] at c0 c1 c2 c3 c4 c5 c6 c7)
                | (go_at_call 101; refine (HSO.out _ (hvW.keep (HBO.out.trans (HB1.out.mono HBO.out.size)))).mono ?_; rintro e w2 ⟨rfl, hb⟩; have HB2 := Lib.hid (HB1.out.trans (hb.mono HB1.out.size)); clear hb))
              go_roundw
              case rel => exact ⟨k + 1, m, f, by omega, by go_num, rfl, rfl, Lib.hid (by rw [HFT.out, step_no HF.out]; exact HA.out), HB2.out⟩
              case measure => simp [intOf]; omega
            · have HF := Lib.hid (show fitsB b.defects r want o = true by rw [HST.out]; rfl)
              cases f
              · go_wp2_with (first
                  | (go_at_call 91; refine (HIN.out _).mono ?_; rintro e w1 ⟨rfl, hb⟩; have HB1 := Lib.hid (HB90.out.trans (hb.mono HB90.out.size)); obtain ⟨y0, y1, y2, y3⟩ := (show Cells4 W9 wr.heap.size (pieceR r want o) from HBX.out).keep hb; obtain ⟨c0, c1, c2, c3, c4, c5, c6, c7⟩ := (HOW9.out.keep hb).b; clear hb; simp only [Nat.zero_add] at c0 c1 c2 c3 c4 c5 c6 c7)
                  | (go_at_call 101; refine (HSO.out _ (hvW.keep (HBO.out.trans (HB1.out.mono HBO.out.size)))).mono ?_; rintro e w2 ⟨rfl, hb⟩; have HB2 := Lib.hid (HB1.out.trans (hb.mono HB1.out.size)); clear hb))
                go_roundw
                case rel => exact ⟨k + 1, o, true, by omega, by go_num, rfl, rfl, Lib.hid (by rw [HFT.out, (show (sl.take k).foldl (offStep b.defects r want) none = none from HA.out), step_none HF.out]; rfl), HB2.out⟩
                case measure => simp [intOf]; omega
              · by_cases hom : o < m
                · go_wp2_with (first
                    | (go_at_call 91; refine (HIN.out _).mono ?_; rintro e w1 ⟨rfl, hb⟩; have HB1 := Lib.hid (HB90.out.trans (hb.mono HB90.out.size)); obtain ⟨y0, y1, y2, y3⟩ := (show Cells4 W9 wr.heap.size (pieceR r want o) from HBX.out).keep hb; obtain ⟨c0, c1, c2, c3, c4, c5, c6, c7⟩ := (HOW9.out.keep hb).b; clear hb; simp only [Nat.zero_add] at c0 c1 c2 c3 c4 c5 c6 c7)
                    | (go_at_call 101; refine (HSO.out _ (hvW.keep (HBO.out.trans (HB1.out.mono HBO.out.size)))).mono ?_; rintro e w2 ⟨rfl, hb⟩; have HB2 := Lib.hid (HB1.out.trans (hb.mono HB1.out.size)); clear hb))
                  go_roundw
                  case rel => exact ⟨k + 1, o, true, by omega, by go_num, rfl, rfl, Lib.hid (by rw [HFT.out, (show (sl.take k).foldl (offStep b.defects r want) none = some m from HA.out), step_less HF.out hom]; rfl), HB2.out⟩
                  case measure => simp [intOf]; omega
                · go_wp2_with (first
                    | (go_at_call 91; refine (HIN.out _).mono ?_; rintro e w1 ⟨rfl, hb⟩; have HB1 := Lib.hid (HB90.out.trans (hb.mono HB90.out.size)); obtain ⟨y0, y1, y2, y3⟩ := (show Cells4 W9 wr.heap.size (pieceR r want o) from HBX.out).keep hb; obtain ⟨c0, c1, c2, c3, c4, c5, c6, c7⟩ := (HOW9.out.keep hb).b; clear hb; simp only [Nat.zero_add] at c0 c1 c2 c3 c4 c5 c6 c7)
                    | (go_at_call 101; refine (HSO.out _ (hvW.keep (HBO.out.trans (HB1.out.mono HBO.out.size)))).mono ?_; rintro e w2 ⟨rfl, hb⟩; have HB2 := Lib.hid (HB1.out.trans (hb.mono HB1.out.size)); clear hb))
                  go_roundw
                  case rel => exact ⟨k + 1, m, true, by omega, by go_num, rfl, rfl, Lib.hid (by rw [HFT.out, (show (sl.take k).foldl (offStep b.defects r want) none = some m from HA.out), step_more (Int.not_lt.2 (by first | exact hom | omega))]; rfl), HB2.out⟩
                  case measure => simp [intOf]; omega
        · have hki : ¬ (k : Int) < (sl.length : Int) := by omega
          have HR := Lib.hid (show AccR res m f by rw [HOF.out]; have h := HA.out; rw [List.take_of_length_le (by omega)] at h; exact h)
          clear hbr
          go_wp2_with fail
          go_ret2
          exact ⟨m, f, rfl, HR.out, HBW.out.trans (HBR.out.mono HBW.out.size)⟩
end Go.Proofs.YtepiapgcpoifpaaGreat

set_option linter.unusedVariables false
set_option linter.unusedSimpArgs false
namespace Go.Proofs.YtepiapgcpoifpaaGreat
open Go Go.RowKit

/-- The rows of the boards, each in its cell of the two rows of rows. -/
def rSlots (gC gR : Nat) : Nat → List BS → List Slot
  | _, [] => []
  | k, s :: r => slotC ⟨gC, k, none⟩ s.cuts :: slotR ⟨gR, k, none⟩ s.rects :: rSlots gC gR (k + 1) r
theorem rSlots_len {gC gR : Nat} : ∀ {L : List BS} {j : Nat}, (rSlots gC gR j L).length = 2 * L.length
  | [], _ => rfl
  | s :: r, j => by simp only [rSlots, List.length_cons, rSlots_len (L := r)]; omega
theorem rSlots_get {gC gR : Nat} : ∀ {L : List BS} {j k : Nat} {s : BS}, L[k]? = some s → (rSlots gC gR j L)[2 * k]? = some (slotC ⟨gC, j + k, none⟩ s.cuts) ∧ (rSlots gC gR j L)[2 * k + 1]? = some (slotR ⟨gR, j + k, none⟩ s.rects)
  | [], _, _, _, h => by simp at h
  | x :: r, j, 0, s, h => by
    simp only [List.getElem?_cons_zero, Option.some.injEq] at h
    subst h
    exact ⟨rfl, rfl⟩
  | x :: r, j, k + 1, s, h => by
    have h' : r[k]? = some s := by simpa using h
    have := rSlots_get (gC := gC) (gR := gR) (j := j + 1) h'
    rw [show j + 1 + k = j + (k + 1) by omega] at this
    rw [show 2 * (k + 1) = 2 * k + 1 + 1 by omega]
    simp only [rSlots, List.getElem?_cons_succ]
    exact this
theorem rSlots_at {gC gR : Nat} {L : List BS} {k : Nat} {s : BS} (h : L[k]? = some s) : AtB (rSlots gC gR 0 L) (2 * k) ⟨gC, k, none⟩ ⟨gR, k, none⟩ s := by
  have := rSlots_get (gC := gC) (gR := gR) (j := 0) h
  rw [Nat.zero_add] at this
  exact ⟨this.1, this.2⟩
theorem rSlots_set {gC gR : Nat} {s' : BS} : ∀ {L : List BS} {j k : Nat}, k < L.length → setB (rSlots gC gR j L) (2 * k) ⟨gC, j + k, none⟩ ⟨gR, j + k, none⟩ s' = rSlots gC gR j (L.set k s')
  | [], _, _, h => by simp at h
  | x :: r, j, 0, h => rfl
  | x :: r, j, k + 1, h => by
    have h' : k < r.length := by simpa using h
    have := rSlots_set (gC := gC) (gR := gR) (s' := s') (j := j + 1) h'
    rw [show j + 1 + k = j + (k + 1) by omega] at this
    unfold setB at this ⊢
    rw [show 2 * (k + 1) = 2 * k + 1 + 1 by omega, show 2 * k + 1 + 1 + 1 = (2 * k + 1) + 1 + 1 by omega]
    simp only [rSlots, List.set_cons_succ, this]
/-- The job, as the desk holds it. -/
structure RefJ (St : Addr → Value → Prop) (gd : Nat) (j : Job) (a1 : Option Addr) (c1 : Nat) (a2 : Option Addr) (c2 : Nat) : Prop where
  s : St ⟨gd, 0, none⟩ (.slice a1 j.stock.length c1)
  b : St ⟨gd, 1, none⟩ (.slice a2 j.blanks.length c2)
  e : St ⟨gd, 3, none⟩ (.int .i64 j.trim.ends)
  d : St ⟨gd, 4, none⟩ (.int .i64 j.trim.sides)
def RPut (base : Nat) (w : World) (gC gR : Nat) (St : Addr → Value → Prop) (Ls : List BS) (q : Option (List BS)) (e : Ending) (w' : World) : Prop :=
  e = .returned (.bool q.isSome) ∧ Desk w' base (rSlots gC gR 0 (q.getD Ls)) St ∧ Below base w w'
theorem RPut.no {base : Nat} {w : World} {gC gR : Nat} {St : Addr → Value → Prop} {Ls : List BS} {q : Option (List BS)} {w' : World} (hq : q = none) (hD : Desk w' base (rSlots gC gR 0 Ls) St) (hb : Below base w w') : RPut base w gC gR St Ls q (.returned (.bool false)) w' := by
  subst hq; exact ⟨rfl, hD, hb⟩
theorem RPut.yes {base : Nat} {w : World} {gC gR : Nat} {St : Addr → Value → Prop} {Ls L' : List BS} {q : Option (List BS)} {w' : World} (hq : q = some L') (hD : Desk w' base (rSlots gC gR 0 L') St) (hb : Below base w w') : RPut base w gC gR St Ls q (.returned (.bool true)) w' := by
  subst hq; exact ⟨rfl, hD, hb⟩
theorem rectErr_zero {r : Rect} (h : r = ⟨0, 0, 0, 0⟩) : rectErr r = 3 := by subst h; rfl
theorem rectErr_proper {r : Rect} (h : proper r) : rectErr r = 0 := by unfold rectErr; unfold proper at h; rw [if_neg (by omega)]
def rputF (kerf : Int) (stock : List Board) (want : Blank) (number : Int) (Ls : List BS) (i : Nat) : Option BS := match stock[i]? with | some b => (Ls.getD i default).put kerf b want number | none => none
theorem putAll_F {kerf : Int} {stock : List Board} {want : Blank} {number : Int} {Ls : List BS} : putAll kerf stock want number Ls = (scan (rputF kerf stock want number Ls) stock.length 0).map fun x => Ls.set x.1 x.2 := rfl
theorem rputF_at {kerf : Int} {stock : List Board} {want : Blank} {number : Int} {Ls : List BS} {i : Nat} (hi : i < stock.length) (hl : i < Ls.length) : rputF kerf stock want number Ls i = (Ls[i]).put kerf stock[i] want number := by
  unfold rputF
  rw [List.getElem?_eq_getElem hi, List.getD_eq_getElem?_getD, List.getElem?_eq_getElem hl]; rfl
set_option maxRecDepth 100000 in
set_option maxHeartbeats 16000000 in
theorem rput_any (gd gC gR cC cR base B : Nat) (Ls : List BS) (St : Addr → Value → Prop) (j : Job) (a1 : Option Addr) (c1 : Nat) (a2 : Option Addr) (c2 : Nat) (number : Nat) (want : Blank) (w : World) (hD : Desk w base (rSlots gC gR 0 Ls) St) (hst : RefSt St gd gC gR Ls.length cC cR j.trim.kerf) (hj : RefJ St gd j a1 c1 a2 c2)
    (hlen : Ls.length = j.stock.length) (hsv : Boards.V w a1 j.stock) (hbv : Blanks.V w a2 j.blanks) (hbase : base ≤ w.heap.size) (hnum : number < j.blanks.length) (hwant : j.blanks[number] = want) (hG : GoodAll B Ls) (hB : B ≤ 70000) (hJ : JobOk j.stock j.blanks j.trim) :
    Calls Tryz.prog 95 #[.pointer (some ⟨gd, 0, none⟩), .int .i64 number] w (RPut base w gC gR St Ls (putAll j.trim.kerf j.stock want number Ls)) := by
  have hwb := (hJ.want _ (List.getElem_mem hnum)).1
  rw [hwant] at hwb
  have hkf := hJ.trim.1
  have hsl := hJ.lenS
  obtain ⟨bb, bo, hab, m0, m1, m2, m3, m4, m5, -⟩ := hbv.at_ hnum
  rw [hwant] at m0 m1 m2 m3 m4 m5
  subst hab
  have HQ0 := Lib.hid (putAll_F (kerf := j.trim.kerf) (stock := j.stock) (want := want) (number := (number : Int)) (Ls := Ls))
  have HNO := Lib.hid (fun w' h1 h2 h3 => RPut.no (base := base) (w := w) (gC := gC) (gR := gR) (St := St) (Ls := Ls) (q := putAll j.trim.kerf j.stock want number Ls) (w' := w') h1 h2 h3)
  have HYES := Lib.hid (fun w' L' h1 h2 h3 => RPut.yes (base := base) (w := w) (gC := gC) (gR := gR) (St := St) (Ls := Ls) (L' := L') (q := putAll j.trim.kerf j.stock want number Ls) (w' := w') h1 h2 h3)
  have hg1 := hD.cell hj.b
  have hni : (number : Int) < (j.blanks.length : Int) := by omega
  have HD0 := Lib.hid hD
  have HLEN := Lib.hid hlen
  have HWT := Lib.hid hwant
  clear hD hlen hwant
  go_enter Tryz.func95, Tryz.ntmps95
  go_upto_region 2 with fail
  refine gen_world (fun W => CellsW W w.heap.size want ∧ Below w.heap.size w W) ?_ ?_
  · exact ⟨⟨by simp [go_sem], by simp [go_sem], by simp [go_sem], by simp [go_sem], by simp [go_sem], by simp [go_sem]⟩, by repeat (first | exact (Below.refl _ _).alloc (Nat.le_refl _) _ | (refine Below.setCell ?_ (by simp) _))⟩
  rintro W ⟨hcw, hbW⟩
  have HDW := Lib.hid (HD0.out.keep hbW)
  have HBW := Lib.hid (hbW.mono hbase)
  have HBWW := Lib.hid hbW
  have hzW := Nat.le_trans hbase hbW.size
  have HCW := Lib.hid hcw
  obtain ⟨g5, hg5⟩ : ∃ g, g = w.heap.size := ⟨_, rfl⟩
  rw [← hg5] at HCW ⊢
  have h0 := HDW.out.cell hj.s
  clear hcw hbW m0 m1 m2 m3 m4 m5 hg1 hg5 HD0 hni
  go_wp2_with fail
  go_loopw [6] (fun iv wo => ∃ i : Nat, i ≤ j.stock.length ∧ iv = .int .i64 i ∧ Hid (putAll j.trim.kerf j.stock want number Ls = (scan (rputF j.trim.kerf j.stock want number Ls) (j.stock.length - i) i).map fun x => Ls.set x.1 x.2) ∧ Below W.heap.size W wo) (fun iv _ => j.stock.length - (intOf iv).toNat)
  case atStart => exact ⟨0, Nat.zero_le _, rfl, HQ0, Below.refl _ _⟩
  case round =>
    clear HQ0 h0
    obtain ⟨i, hi, rfl, HQ, hbo⟩ := hrel
    obtain ⟨wo, rfl⟩ : ∃ wo : World, wo = wr := ⟨_, rfl⟩
    have HDO := Lib.hid (HDW.out.keep hbo)
    have h0 := HDO.out.cell hj.s
    by_cases hlt : i < j.stock.length
    · have hii : (i : Int) < (j.stock.length : Int) := by omega
      have hltL : i < Ls.length := by have := HLEN.out; omega
      obtain ⟨bs, os, ad, cd, hal, ⟨n0, n1, n2, n3, n4, n5, n6, n7⟩, hrv, hdl, hwf⟩ := (hsv.keep (HBWW.out.trans (hbo.mono HBWW.out.size))).at' hlt
      subst hal
      have hdf := hJ.defs _ (List.getElem_mem hlt)
      have HPF := Lib.hid (rputF_at (kerf := j.trim.kerf) (want := want) (number := (number : Int)) hlt hltL)
      obtain ⟨⟨hgd, hlf⟩, hne, hcl⟩ := hG.get hltL
      rw [List.getD_eq_getElem?_getD, List.getElem?_eq_getElem hltL, Option.getD_some] at hgd hlf hne hcl
      have hA := rSlots_at (gC := gC) (gR := gR) (List.getElem?_eq_getElem hltL)
      have HSET := Lib.hid (fun s' => rSlots_set (gC := gC) (gR := gR) (s' := s') (j := 0) hltL)
      simp only [Nat.zero_add] at HSET
      generalize j.stock[i] = b at *
      generalize hs : Ls[i] = s at *
      clear hs
      go_upto_region 6 with fail
      refine gen_world (fun W2 => CellsBd W2 wo.heap.size 0 b ad cd ∧ Below wo.heap.size wo W2) ⟨⟨by simp [go_sem], by simp [go_sem], by simp [go_sem], by simp [go_sem], by simp [go_sem], by simp [go_sem], by simp [go_sem], by simp [go_sem]⟩, by repeat (first | exact (Below.refl _ _).alloc (Nat.le_refl _) _ | (refine Below.setCell ?_ (by simp) _))⟩ ?_
      rintro W2 ⟨hcb, hb2⟩
      have HCB := Lib.hid hcb
      have HBW2 := Lib.hid (hbo.trans (hb2.mono hbo.size))
      have HD2 := Lib.hid (HDO.out.keep hb2)
      have HCW2 := Lib.hid (HCW.out.keep HBW2.out)
      have HRV := Lib.hid (hrv.keep hb2)
      obtain ⟨g7, hg7⟩ : ∃ g, g = wo.heap.size := ⟨_, rfl⟩
      rw [← hg7] at HCB ⊢
      clear hcb hb2 hg7 n0 n1 n2 n3 n4 n5 n6 n7 hrv hbo h0 HDO
      obtain ⟨c0, c1', c2', c3, c4, c5, c6, c7⟩ := HCB.out
      simp only [Nat.zero_add] at c0 c1' c2' c3 c4 c5 c6 c7
      obtain ⟨w0, w1, w2, w3, w4, w5⟩ := HCW2.out
      by_cases hk1 : (b.species.toList == want.species.toList) = true
      · by_cases hk2 : b.thick < want.thick
        · have HF := Lib.hid (HPF.out.trans (put_kind (s := s) (kerf := j.trim.kerf) (number := number) (show kindB b want = false by unfold kindB; rw [hk1, Bool.true_and, decide_eq_false_iff_not]; omega)))
          go_wp2_with fail
          go_roundw
          case rel => exact ⟨i + 1, by omega, by go_num, Lib.hid (scan_no hlt HQ.out HF.out), HBW2.out⟩
          case measure => simp [intOf]; omega
        · have hk3 : decide (b.thick < want.thick) = false := decide_eq_false hk2
          have HP0 := Lib.hid (put_scan (s := s) (kerf := j.trim.kerf) (number := number) (show kindB b want = true by unfold kindB; rw [hk1, Bool.true_and, decide_eq_true_eq]; omega))
          have l5 := HD2.out.cell (hst.c (by omega))
          obtain ⟨gc, capc, l1, -, -, -, -, -, -⟩ := HD2.out.rowC hA hne
          have hiL : (i : Int) < (Ls.length : Int) := by omega
          go_wp2_with fail
          clear l5 l1 hk1 hk2 hk3 c0 c1' c2' c3 c4 c5 c6 c7 w0 w1 w2 w3 w4 w5
          go_loopw [8] (fun kv wr => ∃ k : Nat, k ≤ s.cuts.length ∧ kv = .int .i64 k ∧ Hid (s.put j.trim.kerf b want number = (scan (s.at_ j.trim.kerf b.defects want) (s.cuts.length - k) k).map fun x => s.place j.trim.kerf want number x.1 x.2) ∧ Below W2.heap.size W2 wr) (fun kv _ => s.cuts.length - (intOf kv).toNat)
          case atStart => exact ⟨0, Nat.zero_le _, rfl, HP0, Below.refl _ _⟩
          case round =>
            clear HP0
            obtain ⟨k, hk, rfl, HP, hbr⟩ := hrel
            have HDR := Lib.hid (HD2.out.keep hbr)
            have l5 := HDR.out.cell (hst.c (by omega))
            obtain ⟨gc, capc, l1, -, -, -, -, -, l7⟩ := HDR.out.rowC hA hne
            by_cases hltk : k < s.cuts.length
            · have hki : (k : Int) < (s.cuts.length : Int) := by omega
              have hr2 : k < s.rects.length := by rw [hgd.len]; exact hltk
              have l6 := HDR.out.cell (hst.r (by omega))
              obtain ⟨gr, capr, r1, -, -, -, -, -, r7⟩ := HDR.out.rowR hA (by intro h; rw [h] at hr2; simp at hr2)
              have hc0 : s.cuts.getD k wasteC = s.cuts[k] := by rw [List.getD_eq_getElem?_getD, List.getElem?_eq_getElem hltk]; rfl
              have hr0 : s.r k = s.rects[k] := by unfold BS.r; rw [List.getD_eq_getElem?_getD, List.getElem?_eq_getElem hr2]; rfl
              have e2 := (l7 k hltk 2 (by decide)).1
              have e4 := (l7 k hltk 4 (by decide)).1
              have q0 := (r7 k hr2 0 (by decide)).1
              have q1 := (r7 k hr2 1 (by decide)).1
              have q2 := (r7 k hr2 2 (by decide)).1
              have q3 := (r7 k hr2 3 (by decide)).1
              have HGK := Lib.hid (hgd.get hr2)
              have hkr : (k : Int) < (s.rects.length : Int) := by omega
              have HLK := Lib.hid (And.intro hltk hr2)
              clear l7 r7
              have HC0 := Lib.hid hc0
              have HR0 := Lib.hid hr0
              clear hc0 hr0
              rw [HR0.out] at HGK
              generalize s.cuts[k] = c at *
              generalize s.rects[k] = r at *
              simp only [cellsC, cellsR, List.getElem?_cons_zero, List.getElem?_cons_succ, Nat.add_zero] at e2 e4 q0 q1 q2 q3
              by_cases hlow : c.low = 0
              · have HLOW := Lib.hid hlow
                rw [hlow] at e2
                clear hlow
                by_cases hbl : 0 ≤ c.blank
                · have hbl' : c.blank ≥ 0 := hbl
                  have HF := Lib.hid (at_none (kerf := j.trim.kerf) (ds := b.defects) (w := want) (show freeC (s.cuts.getD k wasteC) (s.r k) = false by rw [HC0.out]; unfold freeC; rw [decide_eq_false (by omega : ¬ c.blank < 0), Bool.and_false]; rfl))
                  go_wp2_with fail
                  go_roundw
                  case rel => exact ⟨k + 1, by omega, by go_num, Lib.hid (scan_no HLK.out.1 HP.out HF.out), hbr⟩
                  case measure => simp [intOf]; omega
                · have hbl' : ¬ c.blank ≥ 0 := hbl
                  have HRE := Lib.hid (fun w => rectErr_any r w)
                  by_cases hzr0 : r = ⟨0, 0, 0, 0⟩
                  · have HF := Lib.hid (at_none (kerf := j.trim.kerf) (ds := b.defects) (w := want) (show freeC (s.cuts.getD k wasteC) (s.r k) = false by rw [HC0.out, HR0.out]; unfold freeC; rw [decide_eq_false (show ¬ r ≠ ⟨0, 0, 0, 0⟩ from fun h => h hzr0), Bool.and_false]))
                    rw [rectErr_zero hzr0] at HRE
                    clear hzr0
                    go_wp2_with (go_at_call 35; refine (HRE.out _).mono ?_; rintro e w4 ⟨rfl, hb4⟩; have HB4 := Lib.hid hb4; clear hb4)
                    go_roundw
                    case rel => exact ⟨k + 1, by omega, by go_num, Lib.hid (scan_no HLK.out.1 HP.out HF.out), hbr.trans (HB4.out.mono hbr.size)⟩
                    case measure => simp [intOf]; omega
                  · have hpr : proper r := by
                      rcases HGK.out with h | h
                      · exact absurd h hzr0
                      · exact h
                    rw [rectErr_proper hpr] at HRE
                    have HAT := Lib.hid (at_free (kerf := j.trim.kerf) (ds := b.defects) (w := want) (show freeC (s.cuts.getD k wasteC) (s.r k) = true by rw [HC0.out, HR0.out]; unfold freeC; rw [decide_eq_true HLOW.out, decide_eq_true (by omega : c.blank < 0), decide_eq_true hzr0]; rfl))
                    rw [HR0.out] at HAT
                    clear hzr0
                    go_upto_region 11 with (go_at_call 35; refine (HRE.out _).mono ?_; rintro e w4 ⟨rfl, hb4⟩; have HB4 := Lib.hid hb4; clear hb4)
                    have HBR4 := Lib.hid (hbr.trans (HB4.out.mono hbr.size))
                    have HD4 := Lib.hid (HD2.out.keep HBR4.out)
                    have HRV4 := Lib.hid (HRV.out.keep HBR4.out)
                    have HQ4 := Lib.hid (show Cells4 w4 0 r → True from fun _ => trivial)
                    obtain ⟨c0, c1', c2', c3, c4, c5, c6, c7⟩ := HCB.out.keep HBR4.out
                    simp only [Nat.zero_add] at c0 c1' c2' c3 c4 c5 c6 c7
                    obtain ⟨w0, w1, w2, w3, w4', w5⟩ := HCW2.out.keep HBR4.out
                    have j0 := HD4.out.cell hj.s
                    have j1 := HD4.out.cell hj.b
                    have j2 := HD4.out.cell hst.k
                    have j3 := HD4.out.cell hj.e
                    have j4 := HD4.out.cell hj.d
                    have j6 := HD4.out.cell (hst.r (by omega))
                    have p0 := cell_keep HB4.out q0
                    have p1 := cell_keep HB4.out q1
                    have p2 := cell_keep HB4.out q2
                    have p3 := cell_keep HB4.out q3
                    have pr := cell_keep HB4.out r1
                    clear e2 e4 q0 q1 q2 q3 r1 l1 l5 l6 hbr
                    obtain ⟨wr, rfl⟩ : ∃ x : World, x = w4 := ⟨_, rfl⟩
                    have kj : ∀ y : KW (fun W => Below wr.heap.size wr W), ((y.w.cell? ⟨gd, 0, none⟩ = some (.slice (some ⟨bs, os, none⟩) j.stock.length c1) ∧ y.w.cell? ⟨gd, 1, none⟩ = some (.slice (some ⟨bb, bo, none⟩) j.blanks.length c2)) ∧ (y.w.cell? ⟨gd, 2, none⟩ = some (.int .i64 j.trim.kerf) ∧ y.w.cell? ⟨gd, 3, none⟩ = some (.int .i64 j.trim.ends))) ∧ (y.w.cell? ⟨gd, 4, none⟩ = some (.int .i64 j.trim.sides) ∧ y.w.cell? ⟨gd, 6, none⟩ = some (.slice (some ⟨gR, 0, none⟩) Ls.length cR)) := fun y => ⟨⟨⟨cell_keep y.ok j0, cell_keep y.ok j1⟩, cell_keep y.ok j2, cell_keep y.ok j3⟩, cell_keep y.ok j4, cell_keep y.ok j6⟩
                    have kb : ∀ y : KW (fun W => Below wr.heap.size wr W), ((y.w.cell? ⟨g7, 0, none⟩ = some (.string b.name) ∧ y.w.cell? ⟨g7, 1, none⟩ = some (.string b.species)) ∧ (y.w.cell? ⟨g7, 2, none⟩ = some (.int .i64 b.length) ∧ y.w.cell? ⟨g7, 3, none⟩ = some (.int .i64 b.width))) ∧ ((y.w.cell? ⟨g7, 4, none⟩ = some (.int .i64 b.thick) ∧ y.w.cell? ⟨g7, 5, none⟩ = some (.int .i64 b.cut)) ∧ y.w.cell? ⟨g7, 6, none⟩ = some (.int .i64 b.moisture) ∧ y.w.cell? ⟨g7, 7, none⟩ = some (.slice ad b.defects.length cd)) := fun y => ⟨⟨⟨cell_keep y.ok c0, cell_keep y.ok c1'⟩, cell_keep y.ok c2', cell_keep y.ok c3⟩, ⟨cell_keep y.ok c4, cell_keep y.ok c5⟩, cell_keep y.ok c6, cell_keep y.ok c7⟩
                    have kw : ∀ y : KW (fun W => Below wr.heap.size wr W), ((y.w.cell? ⟨g5, 0, none⟩ = some (.string want.name) ∧ y.w.cell? ⟨g5, 1, none⟩ = some (.string want.species)) ∧ (y.w.cell? ⟨g5, 2, none⟩ = some (.int .i64 want.length) ∧ y.w.cell? ⟨g5, 3, none⟩ = some (.int .i64 want.width))) ∧ (y.w.cell? ⟨g5, 4, none⟩ = some (.int .i64 want.thick) ∧ y.w.cell? ⟨g5, 5, none⟩ = some (.int .i64 want.count)) := fun y => ⟨⟨⟨cell_keep y.ok w0, cell_keep y.ok w1⟩, cell_keep y.ok w2, cell_keep y.ok w3⟩, cell_keep y.ok w4', cell_keep y.ok w5⟩
                    have kr : ∀ y : KW (fun W => Below wr.heap.size wr W), ((y.w.cell? ⟨gr, k * 4, none⟩ = some (.int .i64 r.x1) ∧ y.w.cell? ⟨gr, k * 4 + 1, none⟩ = some (.int .i64 r.y1)) ∧ y.w.cell? ⟨gr, k * 4 + 2, none⟩ = some (.int .i64 r.x2) ∧ y.w.cell? ⟨gr, k * 4 + 3, none⟩ = some (.int .i64 r.y2)) ∧ y.w.cell? ⟨gR, i, none⟩ = some (.slice (some ⟨gr, 0, none⟩) s.rects.length capr) := fun y => ⟨⟨⟨cell_keep y.ok p0, cell_keep y.ok p1⟩, cell_keep y.ok p2, cell_keep y.ok p3⟩, cell_keep y.ok pr⟩
                    haveI n1 : Nonempty (KW (fun W => Below wr.heap.size wr W)) := ⟨⟨wr, Below.refl _ _⟩⟩
                    refine wp_region_tree (fun w' => ∃ y : KW (fun W => Below wr.heap.size wr W), w' = y.w) 21 (.take 0 (.take 1 (.take 2 (.take 3 (.take 4 (.take 5 (.take 6 (.take 7 (.take 8 (.take 9 (.take 10 (.take 11 (.take 12 (.take 13 (.take 14 (.take 15 (.one 16 (.take 17 (.take 18 (.take 19 (.take 20 .done))))))))))))))))))))) (by kernel_rfl) (by kernel_rfl) (KW.mk' (Below.refl _ _).drew) ?_
                    have HB0 : Hid (Below wr.heap.size wr wr.drew) := Lib.hid (Below.refl _ _).drew
                    clear j0 j1 j2 j3 j4 j6 p0 p1 p2 p3 pr c0 c1' c2' c3 c4 c5 c6 c7 w0 w1 w2 w3 w4' w5
                    generalize wr.drew = w5 at *
                    repeat (refine wpTree_take ?_; simp only [nthOp]; (first | go_big_quiet_step (fail) | quiet_step (fail)); refine wpQuiet_nil ?_)
                    refine wpTree_one ?_
                    simp only [nthOp]
                    go_wp2_with (go_at_call 129; refine (roffset_any _ _ _ _ _ _ j.trim.kerf j.trim.ends j.trim.sides b ad cd r want _ (HRV4.out.keep HB0.out) hdf hpr hkf hwb).mono ?_; rintro e w6 ⟨m, f, rfl, hacc, hb6⟩; have HACC := Lib.hid hacc; have HB6 := Lib.hid (HB0.out.trans (hb6.mono HB0.out.size)); clear hacc hb6)
                    refine One_mk (KW.mk' HB6.out) ?_
                    repeat (refine wpTree_take ?_; simp only [nthOp]; (first | go_big_quiet_step (fail) | quiet_step (fail)); refine wpQuiet_nil ?_)
                    refine wpTree_done ?_
                    simp only [List.drop_succ_cons, List.drop_zero]
                    go_wp2_with fail
                    refine NP_mk ?_
                    clear kj kb kw kr n1
                    have HBR6 := Lib.hid (HBR4.out.trans (HB6.out.mono HBR4.out.size))
                    cases f
                    · have HF := Lib.hid (HAT.out.trans HACC.out)
                      go_wp2_with fail
                      go_roundw
                      case rel => exact ⟨k + 1, by omega, by go_num, Lib.hid (scan_no HLK.out.1 HP.out HF.out), HBR6.out⟩
                      case measure => simp [intOf]; omega
                    · have hat := HAT.out.trans HACC.out
                      have HPY := Lib.hid (HPF.out.trans (scan_yes HLK.out.1 HP.out hat))
                      obtain ⟨hgp, ho, hx⟩ := at_some hgd HLK.out.1 hkf.1 (by omega) hat
                      have HQY := Lib.hid (scan_yes hlt HQ.out HPY.out)
                      have HDX := Lib.hid (HD2.out.keep HBR6.out)
                      have HBX := Lib.hid (HBWW.out.trans ((HBW2.out.trans (HBR6.out.mono HBW2.out.size)).mono HBWW.out.size))
                      go_wp2_with (go_at_call 130; refine (rplace_any gd gC gR Ls.length cC cR base i _ (2 * i) s St k m number j.blanks (some ⟨bb, bo, none⟩) c2 want j.trim.kerf _ HDX.out hA hst hj.b (hbv.keep HBX.out) hnum HWT.out hltL (by omega) hgp ho (by omega) hkf hwb).mono ?_; rintro e w7 ⟨rfl, hD7, hb7⟩; have HD7 := Lib.hid hD7; have HB7 := Lib.hid ((HBX.out.mono hbase).trans hb7); clear hD7 hb7)
                      go_ret
                      exact HYES.out _ _ HQY.out (by rw [← HSET.out]; exact HD7.out) HB7.out
              · have hlow' := bne_t5 hlow
                have HF := Lib.hid (at_none (kerf := j.trim.kerf) (ds := b.defects) (w := want) (show freeC (s.cuts.getD k wasteC) (s.r k) = false by rw [HC0.out]; unfold freeC; rw [decide_eq_false hlow]; rfl))
                clear hlow
                go_wp2_with fail
                go_roundw
                case rel => exact ⟨k + 1, by omega, by go_num, Lib.hid (scan_no HLK.out.1 HP.out HF.out), hbr⟩
                case measure => simp [intOf]; omega
            · have hki : ¬ (k : Int) < (s.cuts.length : Int) := by omega
              have HF := Lib.hid (HPF.out.trans (scan_end (by omega) HP.out))
              have HBI := Lib.hid (HBW2.out.trans (hbr.mono HBW2.out.size))
              go_wp2_with fail
              go_roundw
              case rel => exact ⟨i + 1, by omega, by go_num, Lib.hid (scan_no hlt HQ.out HF.out), HBI.out⟩
              case measure => simp [intOf]; omega
      · have HF := Lib.hid (HPF.out.trans (put_kind (s := s) (kerf := j.trim.kerf) (number := number) (show kindB b want = false by unfold kindB; simp only [Bool.not_eq_true] at hk1; rw [hk1, Bool.false_and])))
        simp only [Bool.not_eq_true] at hk1
        go_wp2_with fail
        go_roundw
        case rel => exact ⟨i + 1, by omega, by go_num, Lib.hid (scan_no hlt HQ.out HF.out), HBW2.out⟩
        case measure => simp [intOf]; omega
    · have hii : ¬ (i : Int) < (j.stock.length : Int) := by omega
      have HN := Lib.hid (scan_end (by omega) HQ.out)
      have HBF := Lib.hid (HBW.out.trans (hbo.mono hzW))
      go_wp2_with fail
      go_ret
      exact HNO.out _ HN.out HDO.out HBF.out
end Go.Proofs.YtepiapgcpoifpaaGreat

set_option linter.unusedVariables false
set_option linter.unusedSimpArgs false
namespace Go.Proofs.YtepiapgcpoifpaaGreat
open Go Go.RowKit

theorem cutss_info : (Tryz.prog.info? 108).map (fun i => (i.zero, i.size, i.bytes)) = some (some (.slice none 0 0), 1, 24) := by kernel_rfl
theorem rectss_info : (Tryz.prog.info? 84).map (fun i => (i.zero, i.size, i.bytes)) = some (some (.slice none 0 0), 1, 24) := by kernel_rfl
structure Build (w : World) (base gd : Nat) (H : List Slot) (vC vR : List Value) (St : Addr → Value → Prop) (V : Nat → Value) : Prop where
  own : Owned w base (⟨some ⟨gd, 5, none⟩, 108, 1, vC⟩ :: ⟨some ⟨gd, 6, none⟩, 84, 1, vR⟩ :: H) V St
  c5 : w.cell? ⟨gd, 5, none⟩ = some (V 0)
  c6 : w.cell? ⟨gd, 6, none⟩ = some (V 1)
section
variable {w w1 w' : World} {base gd : Nat} {H : List Slot} {vC vR : List Value} {St : Addr → Value → Prop} {V : Nat → Value}
theorem Build.keep (h : Build w base gd H vC vR St V) (hb : Below w.heap.size w w') : Build w' base gd H vC vR St V := ⟨h.own.keep hb, cell_keep hb h.c5, cell_keep hb h.c6⟩
theorem Build.st (h : Build w base gd H vC vR St V) {a : Addr} {u : Value} (hs : St a u) : w.cell? a = some u := (h.own.st a u hs).2.1
theorem Build.hand (h : Build w base gd H vC vR St V) {s : Slot} {v : Value} {n : Nat} (hs : s.a = none) (hb : Below w.heap.size w w') (ho : w'.ownsRow base s.e s.k v n s.xs) (hv : ∀ g, v.ownBlock = some g → w.heap.size ≤ g) :
    Build w' base gd (H ++ [s]) vC vR St (upd V (H.length + 1 + 1) v) := by
  have h1 := h.own.slot_more (St' := fun _ _ => False) hb ho hv (fun a ha => by rw [hs] at ha; cases ha) (fun a u hu => hu.elim)
  have h2 := h1.weak (St' := St) (fun a v hv => .inl hv)
  refine ⟨h2, ?_, ?_⟩
  · rw [upd_ne _ _ (by omega)]; exact cell_keep hb h.c5
  · rw [upd_ne _ _ (by omega)]; exact cell_keep hb h.c6
theorem Build.appC (h : Build w base gd H vC vR St V) {x v' : Value} {m : Nat} (ho : w1.ownsRow base 108 1 v' m (vC ++ [x])) (hg : w.grownBy w1 (V 0).ownBlock) (hv : v'.ownBlock = (V 0).ownBlock ∨ v'.ownBlock = some w.heap.size) :
    (w1.cell? ⟨gd, 5, none⟩ = some (V 0) ∧ w1.frozen? ⟨gd, 5, none⟩ = false) ∧ (∀ b u, St b u → w1.cell? b = some u) ∧ Build (w1.setCell ⟨gd, 5, none⟩ v') base gd H (vC ++ [x]) vR St (upd V 0 v') := by
  obtain ⟨q1, q2⟩ := h.own.append (i := 0) rfl ho hg hv
  simp only [List.set_cons_zero] at q1
  have e5 := q2 0 _ ⟨gd, 5, none⟩ rfl rfl
  have e6 := q2 1 _ ⟨gd, 6, none⟩ rfl rfl
  obtain ⟨k1, k2, k3⟩ := q1.store (i := 0) (a := ⟨gd, 5, none⟩) rfl rfl v'
  refine ⟨⟨by rw [e5]; exact h.c5, (q1.slot 0 _ ⟨gd, 5, none⟩ rfl rfl).2.2.1⟩, fun b u hb => (q1.st b u hb).2.1, ⟨k1, by rw [k2, upd_same], ?_⟩⟩
  rw [k3 1 _ ⟨gd, 6, none⟩ rfl (by decide) rfl, e6, upd_ne _ _ (by decide)]; exact h.c6
theorem Build.appR (h : Build w base gd H vC vR St V) {x v' : Value} {m : Nat} (ho : w1.ownsRow base 84 1 v' m (vR ++ [x])) (hg : w.grownBy w1 (V 1).ownBlock) (hv : v'.ownBlock = (V 1).ownBlock ∨ v'.ownBlock = some w.heap.size) :
    (w1.cell? ⟨gd, 6, none⟩ = some (V 1) ∧ w1.frozen? ⟨gd, 6, none⟩ = false) ∧ (∀ b u, St b u → w1.cell? b = some u) ∧ Build (w1.setCell ⟨gd, 6, none⟩ v') base gd H vC (vR ++ [x]) St (upd V 1 v') := by
  obtain ⟨q1, q2⟩ := h.own.append (i := 1) rfl ho hg hv
  simp only [List.set_cons_succ, List.set_cons_zero] at q1
  have e5 := q2 0 _ ⟨gd, 5, none⟩ rfl rfl
  have e6 := q2 1 _ ⟨gd, 6, none⟩ rfl rfl
  obtain ⟨k1, k2, k3⟩ := q1.store (i := 1) (a := ⟨gd, 6, none⟩) rfl rfl v'
  refine ⟨⟨by rw [e6]; exact h.c6, (q1.slot 1 _ ⟨gd, 6, none⟩ rfl rfl).2.2.1⟩, fun b u hb => (q1.st b u hb).2.1, ⟨k1, ?_, by rw [k2, upd_same]⟩⟩
  rw [k3 0 _ ⟨gd, 5, none⟩ rfl (by decide) rfl, e5, upd_ne _ _ (by decide)]; exact h.c5
theorem Build.ownC (h : Build w base gd H vC vR St V) : w.ownsRow base 108 1 (V 0) vC.length vC := by
  obtain ⟨n, hn⟩ := h.own.own 0 _ rfl
  have : n = vC.length := by have := hn.1; simp only at this; omega
  subst this; exact hn
theorem Build.ownR (h : Build w base gd H vC vR St V) : w.ownsRow base 84 1 (V 1) vR.length vR := by
  obtain ⟨n, hn⟩ := h.own.own 1 _ rfl
  have : n = vR.length := by have := hn.1; simp only at this; omega
  subst this; exact hn
end
abbrev handC (cs : List Cut) : Slot := ⟨none, 121, 5, cs.flatMap cellsC⟩
abbrev handR (rs : List Rect) : Slot := ⟨none, 41, 4, rs.flatMap cellsR⟩
def handsOf : List BS → List Slot
  | [] => []
  | s :: r => handC s.cuts :: handR s.rects :: handsOf r
theorem handsOf_snoc (s : BS) : ∀ S : List BS, handsOf (S ++ [s]) = handsOf S ++ [handC s.cuts] ++ [handR s.rects]
  | [] => rfl
  | x :: r => by simp only [List.cons_append, handsOf, handsOf_snoc s r, List.append_assoc]
theorem handsOf_len : ∀ S : List BS, (handsOf S).length = 2 * S.length
  | [] => rfl
  | x :: r => by simp only [handsOf, List.length_cons, handsOf_len r]; omega
def rowVals (V : Nat → Value) (o n : Nat) : List Value := (List.range n).map fun i => V (2 + 2 * i + o)
theorem rowVals_len (V : Nat → Value) (o n : Nat) : (rowVals V o n).length = n := by simp [rowVals]
theorem rowVals_succ (V : Nat → Value) (o n : Nat) : rowVals V o (n + 1) = rowVals V o n ++ [V (2 + 2 * n + o)] := by simp [rowVals, List.range_succ]
theorem rowVals_upd {V : Nat → Value} {o n j : Nat} {v : Value} (h : ∀ i, i < n → j ≠ 2 + 2 * i + o) : rowVals (upd V j v) o n = rowVals V o n := by
  unfold rowVals
  apply List.map_congr_left
  intro i hi
  exact upd_ne _ _ (fun e => h i (by simpa using hi) e.symm)
theorem rowVals_get {V : Nat → Value} {o n k : Nat} (hk : k < n) : (rowVals V o n)[k]? = some (V (2 + 2 * k + o)) := by
  unfold rowVals
  rw [List.getElem?_map, List.getElem?_range hk]; rfl
theorem rSlots_hand {gC gR : Nat} : ∀ {S : List BS} {j i : Nat} {s : Slot}, (rSlots gC gR j S)[i]? = some s →
    (handsOf S)[i]? = some ⟨none, s.e, s.k, s.xs⟩ ∧ ∃ k, k < S.length ∧ ((i = 2 * k ∧ s.a = some ⟨gC, j + k, none⟩) ∨ (i = 2 * k + 1 ∧ s.a = some ⟨gR, j + k, none⟩))
  | [], j, i, s, h => by simp [rSlots] at h
  | x :: r, j, 0, s, h => by
    simp only [rSlots, List.getElem?_cons_zero, Option.some.injEq] at h
    subst h
    exact ⟨rfl, 0, by simp, .inl ⟨rfl, rfl⟩⟩
  | x :: r, j, 1, s, h => by
    simp only [rSlots, List.getElem?_cons_succ, List.getElem?_cons_zero, Option.some.injEq] at h
    subst h
    exact ⟨rfl, 0, by simp, .inr ⟨rfl, rfl⟩⟩
  | x :: r, j, i + 2, s, h => by
    simp only [rSlots, List.getElem?_cons_succ] at h
    obtain ⟨h1, k, hk, h2⟩ := rSlots_hand h
    refine ⟨h1, k + 1, by simpa using hk, ?_⟩
    rw [show j + 1 + k = j + (k + 1) by omega] at h2
    rcases h2 with ⟨h2, h3⟩ | ⟨h2, h3⟩
    · exact .inl ⟨by omega, h3⟩
    · exact .inr ⟨by omega, h3⟩
theorem own_vals {w : World} {base e n : Nat} {v : Value} {xs : List Value} (h : w.ownsRow base e 1 v n xs) (hne : xs ≠ []) :
    ∃ g cap, v = .slice (some ⟨g, 0, none⟩) xs.length cap ∧ base ≤ g ∧ ∀ i u, xs[i]? = some u → w.cell? ⟨g, i, none⟩ = some u ∧ w.frozen? ⟨g, i, none⟩ = false := by
  have h' : w.ownsRow base e 1 v n (xs.flatMap fun u => [u]) := by
    rw [show (xs.flatMap fun u => [u]) = xs by induction xs <;> simp_all]; exact h
  obtain ⟨g, cap, hv, hb, _, hn, _, _, hc⟩ := own_cells (enc := fun u : Value => [u]) (fun _ => rfl) h' hne (by decide)
  subst hn
  refine ⟨g, cap, hv, hb, fun i u hu => ?_⟩
  obtain ⟨hi, rfl⟩ := List.getElem?_eq_some_iff.1 hu
  have := hc i hi 0 (by decide)
  simpa using this
theorem build_mid {W : World} {base gd k : Nat} {S : List BS} {cs : List Cut} {St : Addr → Value → Prop} {V : Nat → Value} {v vc : Value} (h : Build W base gd (handsOf S ++ [handC cs]) (rowVals V 0 k ++ [v]) (rowVals V 1 k) St (upd (upd V ((handsOf S).length + 1 + 1) v) 0 vc)) (hl : S.length = k) :
    ∃ V1, Build W base gd (handsOf S ++ [handC cs]) (rowVals V1 0 (k + 1)) (rowVals V1 1 k) St V1 := by
  refine ⟨upd (upd V ((handsOf S).length + 1 + 1) v) 0 vc, ?_⟩
  have hn : (handsOf S).length + 1 + 1 = 2 + 2 * k := by rw [handsOf_len, hl]; omega
  rw [hn] at h ⊢
  have e0 : rowVals (upd (upd V (2 + 2 * k) v) 0 vc) 0 (k + 1) = rowVals V 0 k ++ [v] := by
    rw [rowVals_succ, rowVals_upd (fun i _ => by omega), rowVals_upd (fun i hi => by omega), upd_ne _ _ (by omega)]
    rw [show 2 + 2 * k + 0 = 2 + 2 * k from rfl, upd_same]
  have e1 : rowVals (upd (upd V (2 + 2 * k) v) 0 vc) 1 k = rowVals V 1 k := by
    rw [rowVals_upd (fun i _ => by omega), rowVals_upd (fun i hi => by omega)]
  rw [e0, e1]; exact h
theorem build_end {W : World} {base gd k : Nat} {S : List BS} {cs : List Cut} {rs : List Rect} {St : Addr → Value → Prop} {V : Nat → Value} {v vr : Value} (h : Build W base gd (handsOf S ++ [handC cs] ++ [handR rs]) (rowVals V 0 (k + 1)) (rowVals V 1 k ++ [v]) St (upd (upd V ((handsOf S ++ [handC cs]).length + 1 + 1) v) 1 vr)) (hl : S.length = k) :
    ∃ V1, Build W base gd (handsOf (S ++ [⟨cs, rs⟩])) (rowVals V1 0 (k + 1)) (rowVals V1 1 (k + 1)) St V1 := by
  refine ⟨upd (upd V ((handsOf S ++ [handC cs]).length + 1 + 1) v) 1 vr, ?_⟩
  have hn : (handsOf S ++ [handC cs]).length + 1 + 1 = 2 + 2 * k + 1 := by rw [List.length_append, handsOf_len, hl]; simp; omega
  rw [hn] at h ⊢
  have e0 : rowVals (upd (upd V (2 + 2 * k + 1) v) 1 vr) 0 (k + 1) = rowVals V 0 (k + 1) := by
    rw [rowVals_upd (fun i _ => by omega), rowVals_upd (fun i hi => by omega)]
  have e1 : rowVals (upd (upd V (2 + 2 * k + 1) v) 1 vr) 1 (k + 1) = rowVals V 1 k ++ [v] := by
    rw [rowVals_succ, rowVals_upd (fun i _ => by omega), rowVals_upd (fun i hi => by omega), upd_ne _ _ (by omega), upd_same]
  rw [e0, e1, handsOf_snoc]; exact h
/-- The rows are whole: each inner row lies in its cell. -/
theorem Build.desk {w : World} {base gd : Nat} {S : List BS} {St : Addr → Value → Prop} {V : Nat → Value} (h : Build w base gd (handsOf S) (rowVals V 0 S.length) (rowVals V 1 S.length) St V) (hS : S ≠ []) :
    ∃ gC gR cC cR, Desk w base (rSlots gC gR 0 S) (fun a u => St a u ∨ (a = ⟨gd, 5, none⟩ ∧ u = .slice (some ⟨gC, 0, none⟩) S.length cC) ∨ (a = ⟨gd, 6, none⟩ ∧ u = .slice (some ⟨gR, 0, none⟩) S.length cR)) := by
  have hl : 0 < S.length := List.length_pos_iff.2 hS
  obtain ⟨gC, cC, v0, b0, x0⟩ := own_vals h.ownC (fun e => by have := rowVals_len V 0 S.length; rw [e] at this; simp at this; omega)
  obtain ⟨gR, cR, v1, b1, x1⟩ := own_vals h.ownR (fun e => by have := rowVals_len V 1 S.length; rw [e] at this; simp at this; omega)
  rw [rowVals_len] at v0 v1
  have o0 : (V 0).ownBlock = some gC := by rw [v0]; rfl
  have o1 : (V 1).ownBlock = some gR := by rw [v1]; rfl
  have hCR : gC ≠ gR := fun e => h.own.rows 0 1 _ _ gC rfl rfl (by decide) o0 (by rw [e]; exact o1)
  have hcell : ∀ {i : Nat} {s : Slot} {a : Addr}, (rSlots gC gR 0 S)[i]? = some s → s.a = some a → a.spot = none ∧ base ≤ a.block ∧ w.frozen? a = false ∧ w.cell? a = some (V (2 + i)) ∧ (a.block = gC ∨ a.block = gR) := by
    intro i s a hi ha
    obtain ⟨_, k, hk, h2 | h2⟩ := rSlots_hand hi
    · obtain ⟨h2, h3⟩ := h2
      rw [h3] at ha
      injection ha with ha
      subst ha
      obtain ⟨c1, c2⟩ := x0 k _ (rowVals_get hk)
      rw [Nat.zero_add]
      exact ⟨rfl, b0, c2, by rw [c1, h2]; rfl, .inl rfl⟩
    · obtain ⟨h2, h3⟩ := h2
      rw [h3] at ha
      injection ha with ha
      subst ha
      obtain ⟨c1, c2⟩ := x1 k _ (rowVals_get hk)
      rw [Nat.zero_add]
      exact ⟨rfl, b1, c2, by rw [c1, h2]; rfl, .inr rfl⟩
  have hrow : ∀ {i : Nat} {s : Slot}, (rSlots gC gR 0 S)[i]? = some s → (V (2 + i)).ownBlock ≠ some gC ∧ (V (2 + i)).ownBlock ≠ some gR ∧ (V (2 + i)).ownBlock ≠ some gd := by
    intro i s hi
    obtain ⟨h1, _⟩ := rSlots_hand hi
    have hL : ((⟨some ⟨gd, 5, none⟩, 108, 1, rowVals V 0 S.length⟩ : Slot) :: ⟨some ⟨gd, 6, none⟩, 84, 1, rowVals V 1 S.length⟩ :: handsOf S)[2 + i]? = some ⟨none, s.e, s.k, s.xs⟩ := by rw [Nat.add_comm]; exact h1
    exact ⟨fun e => h.own.rows (2 + i) 0 _ _ gC hL rfl (by omega) e o0, fun e => h.own.rows (2 + i) 1 _ _ gR hL rfl (by omega) e o1, h.own.off (2 + i) 0 _ _ ⟨gd, 5, none⟩ hL rfl rfl⟩
  have hd0 : gC ≠ gd := fun e => h.own.off 0 0 _ _ ⟨gd, 5, none⟩ rfl rfl rfl (by rw [o0, e])
  have hd1 : gR ≠ gd := fun e => h.own.off 1 0 _ _ ⟨gd, 5, none⟩ rfl rfl rfl (by rw [o1, e])
  refine ⟨gC, gR, cC, cR, fun i => V (2 + i), ⟨fun i s hi => ?_, fun i s a hi ha => ?_, fun i j s t a hi hj hij ha => ?_, fun i j s t g hi hj hij hg => ?_, fun i j s t a hi hj ha => ?_, fun a v hst => ?_⟩, fun i s a hi ha => (hcell hi ha).2.2.2.1⟩
  · obtain ⟨h1, _⟩ := rSlots_hand hi
    exact h.own.own (2 + i) ⟨none, s.e, s.k, s.xs⟩ (by rw [Nat.add_comm]; exact h1)
  · obtain ⟨c1, c2, c3, c4, _⟩ := hcell hi ha
    exact ⟨c1, c2, c3, by rw [c4]; rfl⟩
  · intro e
    obtain ⟨_, k, hk, h2⟩ := rSlots_hand hi
    obtain ⟨_, k', hk', h3⟩ := rSlots_hand hj
    rcases h2 with ⟨h2, h4⟩ | ⟨h2, h4⟩ <;> rcases h3 with ⟨h3, h5⟩ | ⟨h3, h5⟩ <;> rw [h4] at ha <;> rw [h5] at e <;> rw [← ha] at e <;> injection e with e <;> injection e with e1 e2
    · omega
    · exact hCR e1.symm
    · exact hCR e1
    · omega
  · obtain ⟨h1, _⟩ := rSlots_hand hi
    obtain ⟨h2, _⟩ := rSlots_hand hj
    exact h.own.rows (2 + i) (2 + j) _ _ g (by rw [Nat.add_comm]; exact h1) (by rw [Nat.add_comm]; exact h2) (by omega) hg
  · rcases (hcell hj ha).2.2.2.2 with e | e <;> rw [e]
    · exact (hrow hi).1
    · exact (hrow hi).2.1
  · rcases hst with hst | ⟨rfl, rfl⟩ | ⟨rfl, rfl⟩
    · obtain ⟨s1, s2, s3⟩ := h.own.st a v hst
      refine ⟨s1, s2, fun i s hi => ⟨fun ha => ?_, ?_⟩⟩
      · rcases (hcell hi ha).2.2.2.2 with e | e
        · exact (s3 0 _ rfl).2 (by rw [o0, e])
        · exact (s3 1 _ rfl).2 (by rw [o1, e])
      · obtain ⟨h1, _⟩ := rSlots_hand hi
        exact (s3 (2 + i) ⟨none, s.e, s.k, s.xs⟩ (by rw [Nat.add_comm]; exact h1)).2
    · refine ⟨rfl, by rw [h.c5, v0], fun i s hi => ⟨fun ha => ?_, (hrow hi).2.2⟩⟩
      rcases (hcell hi ha).2.2.2.2 with e | e
      · exact hd0 e.symm
      · exact hd1 e.symm
    · refine ⟨rfl, by rw [h.c6, v1], fun i s hi => ⟨fun ha => ?_, (hrow hi).2.2⟩⟩
      rcases (hcell hi ha).2.2.2.2 with e | e
      · exact hd0 e.symm
      · exact hd1 e.symm
theorem Build.desk' {w : World} {base gd : Nat} {S : List BS} {St : Addr → Value → Prop} {V : Nat → Value} (h : Build w base gd (handsOf S) (rowVals V 0 S.length) (rowVals V 1 S.length) St V) :
    ∃ gC gR cC cR, Desk w base (rSlots gC gR 0 S) (fun a u => St a u ∨ (0 < S.length ∧ ((a = ⟨gd, 5, none⟩ ∧ u = .slice (some ⟨gC, 0, none⟩) S.length cC) ∨ (a = ⟨gd, 6, none⟩ ∧ u = .slice (some ⟨gR, 0, none⟩) S.length cR)))) := by
  by_cases hS : S = []
  · subst hS
    refine ⟨0, 0, 0, 0, V, ⟨fun i s hi => by simp [rSlots] at hi, fun i s a hi => by simp [rSlots] at hi, fun i j s t a hi => by simp [rSlots] at hi, fun i j s t g hi => by simp [rSlots] at hi, fun i j s t a hi => by simp [rSlots] at hi, fun a v hst => ?_⟩, fun i s a hi => by simp [rSlots] at hi⟩
    rcases hst with hst | ⟨h0, _⟩
    · obtain ⟨s1, s2, s3⟩ := h.own.st a v hst
      exact ⟨s1, s2, fun i s hi => by simp [rSlots] at hi⟩
    · simp at h0
  · obtain ⟨gC, gR, cC, cR, hd⟩ := h.desk hS
    refine ⟨gC, gR, cC, cR, hd.weak fun a v hv => ?_⟩
    rcases hv with hv | ⟨_, hv⟩
    · exact .inl hv
    · exact .inr hv
theorem build_fresh {w : World} {base gd : Nat} {St : Addr → Value → Prop} (hx : base ≤ gd) (c5 : w.cell? ⟨gd, 5, none⟩ = some (.slice none 0 0)) (c6 : w.cell? ⟨gd, 6, none⟩ = some (.slice none 0 0)) (f5 : w.frozen? ⟨gd, 5, none⟩ = false) (f6 : w.frozen? ⟨gd, 6, none⟩ = false)
    (hst : ∀ a u, St a u → a.spot = none ∧ w.cell? a = some u ∧ a ≠ ⟨gd, 5, none⟩ ∧ a ≠ ⟨gd, 6, none⟩) : Build w base gd [] [] [] St (fun _ => .slice none 0 0) := by
  have g : ∀ {i : Nat} {t : Slot}, ((⟨some ⟨gd, 5, none⟩, 108, 1, []⟩ : Slot) :: ⟨some ⟨gd, 6, none⟩, 84, 1, []⟩ :: [])[i]? = some t → (i = 0 ∧ t = ⟨some ⟨gd, 5, none⟩, 108, 1, []⟩) ∨ (i = 1 ∧ t = ⟨some ⟨gd, 6, none⟩, 84, 1, []⟩) := by
    intro i t hi
    match i, hi with
    | 0, hi => injection hi with hi; exact .inl ⟨rfl, hi.symm⟩
    | 1, hi => injection hi with hi; exact .inr ⟨rfl, hi.symm⟩
  refine ⟨⟨fun i t hi => ?_, fun i t a hi ha => ?_, fun i j t u a hi hj hij ha => ?_, fun i j t u q hi hj hij hg => (by cases hg), fun i j t u a hi hj ha e => (by cases e), fun a u hu => ?_⟩, c5, c6⟩
  · rcases g hi with ⟨rfl, rfl⟩ | ⟨rfl, rfl⟩
    · exact ⟨0, World.ownsRow_nil _ _ _ _⟩
    · exact ⟨0, World.ownsRow_nil _ _ _ _⟩
  · rcases g hi with ⟨rfl, rfl⟩ | ⟨rfl, rfl⟩ <;> (injection ha with ha; subst ha)
    · exact ⟨rfl, hx, f5, by rw [c5]; rfl⟩
    · exact ⟨rfl, hx, f6, by rw [c6]; rfl⟩
  · rcases g hi with ⟨rfl, rfl⟩ | ⟨rfl, rfl⟩ <;> rcases g hj with ⟨rfl, rfl⟩ | ⟨rfl, rfl⟩ <;> (injection ha with ha; subst ha)
    · exact absurd rfl hij
    · intro e; injection e with e; injection e with _ e; cases e
    · intro e; injection e with e; injection e with _ e; cases e
    · exact absurd rfl hij
  · obtain ⟨s1, s2, s3, s4⟩ := hst a u hu
    refine ⟨s1, s2, fun i t hi => ⟨fun e => ?_, fun e => (by cases e)⟩⟩
    rcases g hi with ⟨rfl, rfl⟩ | ⟨rfl, rfl⟩ <;> injection e with e
    · exact s3 e.symm
    · exact s4 e.symm
end Go.Proofs.YtepiapgcpoifpaaGreat

set_option linter.unusedVariables false
set_option linter.unusedSimpArgs false
namespace Go.Proofs.YtepiapgcpoifpaaGreat
open Go Go.RowKit

def encN (x : Nat) : Value := .int .i64 (x : Int)
def SeqPost (w : World) (xs : List Nat) (e : Ending) (w' : World) : Prop := ∃ v, e = .returned v ∧ w'.ownsRow w.heap.size 3 1 v xs.length (xs.map encN) ∧ Below w.heap.size w w'
def PosCut (p : Nat) (w0 : World) (u : Nat → Value) (W : World) : Prop := u 5 = .int .i64 (p : Int) ∧ Below w0.heap.size w0 W
theorem PosCut.mk {p a : Nat} {w0 : World} {u : Nat → Value} {W : World} (hp : p = a) (hu : u 5 = .int .i64 (a : Int)) (hb : Below w0.heap.size w0 W) : PosCut p w0 u W := by subst hp; exact ⟨hu, hb⟩
def SeqCut (W1 : World) (n : Nat) (xs : List Value) (u : Nat → Value) (W : World) : Prop := ∃ v, u 3 = v ∧ W.ownsRow W1.heap.size 3 1 v n xs ∧ Below W1.heap.size W1 W
theorem SeqCut.mk {W1 W : World} {n n' : Nat} {xs ys : List Value} {u : Nat → Value} {v : Value} (hu : u 3 = v) (ho : W.ownsRow W1.heap.size 3 1 v n' ys) (hn : n' = n) (hx : ys = xs) (hb : Below W1.heap.size W1 W) : SeqCut W1 n xs u W := by
  subst hn; subst hx; exact ⟨v, hu, ho, hb⟩
theorem insPos_yes {l : List Blank} {order : List Nat} {i a : Nat} (ha : 1 ≤ a) (hl : a - 1 < order.length) (h : earlierB (bl l i) (bl l order[a - 1]) = true) : insPos l order i a = insPos l order i (a - 1) := by
  obtain ⟨b, rfl⟩ : ∃ b, a = b + 1 := ⟨a - 1, by omega⟩
  simp only [Nat.add_sub_cancel] at h hl ⊢
  rw [insPos, List.getD_eq_getElem?_getD, List.getElem?_eq_getElem hl, Option.getD_some, if_pos h]
theorem insPos_no {l : List Blank} {order : List Nat} {i a : Nat} (ha : 1 ≤ a) (hl : a - 1 < order.length) (h : earlierB (bl l i) (bl l order[a - 1]) = false) : insPos l order i a = a := by
  obtain ⟨b, rfl⟩ : ∃ b, a = b + 1 := ⟨a - 1, by omega⟩
  simp only [Nat.add_sub_cancel] at h hl
  rw [insPos, List.getD_eq_getElem?_getD, List.getElem?_eq_getElem hl, Option.getD_some, if_neg (by rw [h]; decide)]
theorem ints_new1 (W : World) (g : Nat) (x : Int) (T : TypeId) (hg : g = W.heap.size) : IntsV (W.alloc (.cells #[.int .i64 x] T)) (some ⟨g, 0, none⟩) [x] := by
  subst hg
  refine fun _ => ⟨W.heap.size, 0, rfl, fun k z hk => ?_⟩
  match k, hk with
  | 0, hk => injection hk with hk; subst hk; simp [go_sem]
theorem intsV_grown {w w' : World} {b off : Nat} {l : List Int} {r : Option Nat} (h : IntsV w (some ⟨b, off, none⟩) l) (hg : w.grownBy w' r) (hz : b < w.heap.size) (hne : r ≠ some b) : IntsV w' (some ⟨b, off, none⟩) l := by
  intro hl
  obtain ⟨b', off', ha, hx⟩ := h hl
  refine ⟨b', off', ha, fun k x hk => ?_⟩
  injection ha with ha
  injection ha with h1 h2
  subst h1; subst h2
  rw [World.cell?_of_block (a := ⟨b, off + k, none⟩) (hg.block b hz (fun e => hne e.symm))]
  exact hx k x hk
theorem own_ints2 {w : World} {base e n : Nat} {v : Value} {xs : List Nat} (h : w.ownsRow base e 1 v n (xs.map encN)) : ∃ a c, v = .slice a n c ∧ IntsV w a (xs.map fun x : Nat => (x : Int)) := by
  have h' : w.ownsRow base e 1 v n ((xs.map fun x : Nat => (x : Int)).map (Value.int .i64)) := by rw [List.map_map]; exact h
  exact own_ints' h'
theorem own_ne {g0 gi n c : Nat} (h : gi ≠ g0) : (Value.slice (some ⟨g0, 0, none⟩) n c).ownBlock ≠ some gi := by intro e; cases e; exact h rfl
theorem ints_take {w : World} {b : Nat} {xs : List Nat} {a : Nat} (h : IntsV w (some ⟨b, 0, none⟩) (xs.map fun x : Nat => (x : Int))) : IntsV w (some ⟨b, 0, none⟩) ((xs.take a).map fun x : Nat => (x : Int)) := by
  intro hl
  obtain ⟨b', o', e, hx⟩ := h (by intro e; rw [List.map_take, e] at hl; simp at hl)
  refine ⟨b', o', e, fun k x hk => hx k x ?_⟩
  rw [List.map_take, List.getElem?_take] at hk
  split at hk
  · exact hk
  · cases hk
theorem ints_drop {w : World} {b : Nat} {xs : List Nat} {a : Nat} (h : IntsV w (some ⟨b, 0, none⟩) (xs.map fun x : Nat => (x : Int))) : IntsV w (some ⟨b, a, none⟩) ((xs.drop a).map fun x : Nat => (x : Int)) := by
  intro hl
  obtain ⟨b', o', e, hx⟩ := h (by intro e; rw [List.map_drop, e] at hl; simp at hl)
  injection e with e
  injection e with e1 e2
  subst e1 e2
  refine ⟨b, a, rfl, fun k x hk => ?_⟩
  rw [List.map_drop, List.getElem?_drop] at hk
  have := hx (a + k) x hk
  rwa [Nat.zero_add] at this
/-- An append leaves a row in its old block, or in a new one. -/
theorem own_new_ne {w w' : World} {base e k n n' gi : Nat} {v v' : Value} {xs ys : List Value} {r : Option Nat} (h : w.ownsRow base e k v n xs) (hg : w.grownBy w' r) (h' : w'.ownsRow base e k v' n' ys) (hz : gi < w.heap.size) (hne : r ≠ some gi) : True := trivial
def seqTo (l : List Blank) (order : List Nat) (m : Nat) : List Nat := (order.take m).flatMap fun i => List.replicate (bl l i).count.toNat i
theorem seqTo_snoc {l : List Blank} {order : List Nat} {m : Nat} (hm : m < order.length) : seqTo l order (m + 1) = seqTo l order m ++ List.replicate (bl l order[m]).count.toNat order[m] := by
  unfold seqTo
  rw [List.take_succ_eq_append_getElem hm, List.flatMap_append]; simp
theorem seqTo_len {l : List Blank} {order : List Nat} (hc : ∀ x ∈ l, x.count ≤ 200) (ho : ∀ x ∈ order, x < l.length) : ∀ {m : Nat}, (seqTo l order m).length ≤ 200 * m
  | 0 => by simp [seqTo]
  | m + 1 => by
    by_cases hm : m < order.length
    · rw [seqTo_snoc hm, List.length_append, List.length_replicate]
      have := seqTo_len hc ho (m := m)
      have hx := ho _ (List.getElem_mem hm)
      have : (bl l order[m]).count ≤ 200 := by
        unfold bl
        rw [List.getD_eq_getElem?_getD, List.getElem?_eq_getElem hx]
        exact hc _ (List.getElem_mem hx)
      omega
    · have h1 : seqTo l order (m + 1) = seqTo l order m := by unfold seqTo; rw [List.take_of_length_le (by omega), List.take_of_length_le (by omega)]
      rw [h1]
      have := seqTo_len hc ho (m := m)
      omega
theorem own_blocks {w : World} {base e k n : Nat} {v : Value} {xs : List Value} (h : w.ownsRow base e k v n xs) : ∀ g, v.ownBlock = some g → base ≤ g ∧ g < w.heap.size := h.lt
set_option maxRecDepth 100000 in
set_option maxHeartbeats 16000000 in
theorem refSeq_any (l : List Blank) (a1 : Option Addr) (c1 : Nat) (w : World) (hvb : Blanks.V w a1 l) (hll : l.length ≤ 30) (hw : ∀ x ∈ l, ((1 ≤ x.length ∧ x.length ≤ 600000) ∧ (1 ≤ x.width ∧ x.width ≤ 600000)) ∧ (1 ≤ x.count ∧ x.count ≤ 200)) :
    Calls Tryz.prog 94 #[.slice a1 l.length c1] w (SeqPost w (seqM l)) := by
  obtain ⟨i0, hi0, hz0, hz1, hz2⟩ := info_parts int_info
  go_enter Tryz.func94, Tryz.ntmps94
  go_wp2_with fail
  go_loopw [3, 4] (fun v iv wr => ∃ (k : Nat) (order : List Nat), k ≤ l.length ∧ iv = .int .i64 k ∧ order.length = k ∧ Hid (∀ x ∈ order, x < l.length) ∧ Hid (orderM l = orderGo l ((List.range l.length).drop k) order) ∧ wr.ownsRow w.heap.size 3 1 v k (order.map encN) ∧ Below w.heap.size w wr) (fun _ iv _ => l.length - (intOf iv).toNat)
  case atStart => exact ⟨0, [], Nat.zero_le _, rfl, rfl, Lib.hid (fun x hx => by simp at hx), Lib.hid rfl, World.ownsRow_nil _ _ _ _, Below.refl _ _⟩
  case round =>
    obtain ⟨k, order, hk, rfl, hol, HLT, HOR, hown, hbr⟩ := hrel
    obtain ⟨wo, rfl⟩ : ∃ wo : World, wo = wr := ⟨_, rfl⟩
    have HOL := Lib.hid hol
    have HBO := Lib.hid hbr
    have HOWN := Lib.hid hown
    by_cases hlt : k < l.length
    · have HKL := Lib.hid hlt
      have hki : (k : Int) < (l.length : Int) := by omega
      have HNX := Lib.hid (show orderM l = orderGo l ((List.range l.length).drop (k + 1)) (insOne l order k) by
        rw [HOR.out, List.drop_eq_getElem_cons (by simpa using hlt), List.getElem_range, orderGo])
      clear hol hbr
      rcases hown.2 with ⟨rfl, hk0⟩ | ⟨g, cap, cur, rfl, hbg, hgg, hnc, hcm, hcs, htk⟩
      · have HK0 := Lib.hid hk0
        have HON := Lib.hid (show order = [] from List.eq_nil_of_length_eq_zero (HOL.out.trans hk0))
        clear hown hlt
        go_upto_block 2 with fail
        refine wp_cut_slots [5, 17, 18, 19, 20, 21, 22, 23, 24, 25, 26, 27, 28, 29, 30, 31, 32, 33, 34, 35] (PosCut (insPos l order k order.length) wo) ?_ ?_
        · go_wp2_with fail
          go_loopw [5] (fun av wr => ∃ a : Nat, a ≤ k ∧ av = .int .i64 a ∧ Hid (insPos l order k order.length = insPos l order k a) ∧ Below wo.heap.size wo wr) (fun av _ => (intOf av).toNat)
          case atStart => exact ⟨0, Nat.zero_le _, rfl, Lib.hid (by rw [HOL.out, HK0.out]), Below.refl _ _⟩
          case round =>
            obtain ⟨a, ha, rfl, HP, hbr⟩ := hrel
            have HBR := Lib.hid hbr
            by_cases ha0 : a = 0
            · subst ha0
              have HE := Lib.hid (show insPos l order k order.length = 0 by rw [HP.out]; rfl)
              clear ha
              go_upto_region 6 with fail
              go_quiet (fail)
              rename_i nq
              go_wp2_with fail
              exact cut_meet (by simp [forget]) (PosCut.mk HE.out rfl (below_drewN HBR.out nq))
            · exact absurd (show a = 0 by have := HK0.out; omega) ha0
        rintro u W1 ⟨hu, hb1⟩
        simp only [forget, List.foldl_cons, List.foldl_nil, hu]
        obtain ⟨a, hae⟩ : ∃ a, a = insPos l order k order.length := ⟨_, rfl⟩
        have HINS := Lib.hid (show insOne l order k = order.take a ++ k :: order.drop a by unfold insOne; rw [← hae])
        have hal : a ≤ k := by rw [hae]; have := insPos_le l order k order.length; have := HOL.out; omega
        have HBB := Lib.hid (HBO.out.trans (hb1.mono HBO.out.size))
        rw [← hae]
        clear hu hae
        have HOW1 := Lib.hid (own_keep HOWN.out hb1)
        have hai : (a : Int) ≤ (k : Int) := by omega
        have hai0 : (0 : Int) ≤ (a : Int) := by omega
        clear hb1
        go_upto_region 8 with fail
        have hac : (a : Int) ≤ 0 := by omega
        clear hk0
        obtain ⟨A1, C1, HT1, HV1⟩ : ∃ A1 C1, Hid (Value.slice none a 0 = .slice A1 ((order.take a).map fun x : Nat => (x : Int)).length C1) ∧ Hid (IntsV W1 A1 ((order.take a).map fun x : Nat => (x : Int))) := ⟨none, 0, Lib.hid (by
          have := HOL.out
          simp
          omega), Lib.hid (fun h => absurd (by rw [HON.out]; simp) h)⟩
        obtain ⟨A2, C2, HT2, HV2⟩ : ∃ A2 C2, Hid (Value.slice none 0 0 = .slice A2 ((order.drop a).map fun x : Nat => (x : Int)).length C2) ∧ Hid (IntsV W1 A2 ((order.drop a).map fun x : Nat => (x : Int))) := ⟨none, 0, Lib.hid (by
          have := HOL.out
          have := HK0.out
          simp
          omega), Lib.hid (fun h => absurd (by rw [HON.out]; simp) h)⟩
        refine wp_cut_slots [3, 36, 37, 38, 39, 40, 41, 42, 43, 44, 45, 46, 47] (SeqCut W1 (k + 1) ((insOne l order k).map encN)) ?_ ?_
        · haveI n1 : Nonempty (KW (fun _ => True)) := ⟨⟨W1, trivial⟩⟩
          refine wp_region_tree (fun w' => ∃ y : KW (fun _ => True), w' = y.w) 11 (.take 1 (.take 2 (.take 3 (.take 5 (.take 8 (.take 9 (.take 10 (.two 0 (.two 4 (.one 6 (.one 7 .done)) 6 (.one 4 (.one 7 .done))) 6 (.one 0 (.one 4 (.one 7 .done))))))))))) (by kernel_rfl) (by kernel_rfl) (KW.mk' trivial) ?_
          have HB0 : Hid (Below W1.heap.size W1 W1.drew) := Lib.hid (Below.refl _ _).drew
          obtain ⟨i, hik⟩ : ∃ i, i = k := ⟨_, rfl⟩
          rw [← hik] at HINS hal hai ⊢
          (try rw [← hik] at HT2)
          have HIK := Lib.hid hik
          clear hik
          generalize W1.drew = w0 at *
          repeat (refine wpTree_take ?_; simp only [nthOp]; (first | go_big_quiet_step (fail) | quiet_step (fail)); refine wpQuiet_nil ?_)
          refine wpTree_two ?_ ?_
          · simp only [nthOp]
            go_wp2_with fail
            obtain ⟨g0, hg0⟩ : ∃ g, g = w0.heap.size := ⟨_, rfl⟩
            rw [← hg0]
            refine gen_any (G := fun W' => One _ _ _ _ W') (fun W' => Below W1.heap.size W1 W' ∧ W'.ownsRow W1.heap.size 3 1 (.slice (some ⟨g0, 0, none⟩) 0 0) 0 []) ?_ ?_
            · exact ⟨HB0.out.alloc HB0.out.size _, by rw [hg0]; exact World.ownsRow_made w0 #[] 0 HB0.out.size (Nat.zero_le _) rfl⟩
            rintro w1 ⟨hb, ho⟩
            have HB1 := Lib.hid hb
            have HO1 := Lib.hid ho
            clear hb ho hg0
            refine One_mk (KW.mk' trivial) ?_
            refine wpTree_two ?_ ?_
            · simp only [nthOp]
              go_wp2_with (at_builtin; refine wpList_append_ints rfl _ _ rfl W1.heap.size i0 hi0 hz0 hz1 hz2 _ 0 _ rfl HO1.out A1 ((order.take a).map fun x : Nat => (x : Int)) C1 HT1.out (intsV_keep HV1.out HB1.out) (by have h1 := HOL.out; have h2 := HIK.out; have h3 := HKL.out; simp; omega) HB1.out.size ?_; intro va w2 ho hgr; have HOA := Lib.hid ho; have HGR := Lib.hid hgr; clear ho hgr)
              have HO2 := Lib.hid (show w2.ownsRow W1.heap.size 3 1 va (order.take a).length ((order.take a).map fun x : Nat => Value.int .i64 (x : Int)) by have h := HOA.out; rw [List.nil_append, List.map_map, List.length_map, Nat.zero_add] at h; exact h)
              have HB2 := Lib.hid (HB1.out.grown HGR.out HB1.out.size (fun q hq => (HO1.out.lt q hq).1))
              clear HOA HGR
              refine One_mk (KW.mk' trivial) ?_
              refine wpTree_one ?_
              simp only [nthOp]
              go_wp2_with fail
              obtain ⟨gi, hgi⟩ : ∃ g, g = w2.heap.size := ⟨_, rfl⟩
              rw [← hgi]
              refine gen_any (G := fun W' => One _ _ _ _ W') (fun W' => Below W1.heap.size W1 W' ∧ IntsV W' (some ⟨gi, 0, none⟩) [(i : Int)] ∧ gi < W'.heap.size ∧ W'.ownsRow W1.heap.size 3 1 va (order.take a).length ((order.take a).map fun x : Nat => Value.int .i64 (x : Int)) ∧ ∀ q, va.ownBlock = some q → q < gi) ?_ ?_
              · exact ⟨HB2.out.alloc HB2.out.size _, ints_new1 _ _ _ _ hgi, by rw [hgi]; simp, own_keep HO2.out ((Below.refl _ _).alloc (Nat.le_refl _) _), fun q hq => by rw [hgi]; exact (HO2.out.lt q hq).2⟩
              rintro w3 ⟨hb, hi', hz', ho, hne⟩
              have HB3 := Lib.hid hb
              have HI3 := Lib.hid hi'
              have HIZ3 := Lib.hid hz'
              have HO3 := Lib.hid ho
              have HGA := Lib.hid hne
              clear hb hi' hz' hgi ho hne
              refine One_mk (KW.mk' trivial) ?_
              refine wpTree_one ?_
              simp only [nthOp]
              go_wp2_with (at_builtin; refine wpList_append_ints rfl _ _ rfl W1.heap.size i0 hi0 hz0 hz1 hz2 _ _ _ rfl HO3.out (some ⟨gi, 0, none⟩) [(i : Int)] 1 rfl HI3.out (by have h1 := HOL.out; have h2 := HIK.out; have h3 := HKL.out; simp; omega) HB3.out.size ?_; intro vb w4 ho hgr; have HOA := Lib.hid ho; have HGR := Lib.hid hgr; clear ho hgr)
              have HB4 := Lib.hid (HB3.out.grown HGR.out HB3.out.size (fun q hq => (HO3.out.lt q hq).1))
              refine One_mk (KW.mk' trivial) ?_
              refine wpTree_done ?_
              simp only [List.drop_succ_cons, List.drop_zero]
              go_wp2_with (at_builtin; refine wpList_append_ints rfl _ _ rfl W1.heap.size i0 hi0 hz0 hz1 hz2 _ _ _ rfl HOA.out A2 ((order.drop a).map fun x : Nat => (x : Int)) C2 HT2.out (intsV_keep HV2.out HB4.out) (by have h1 := HOL.out; have h2 := HIK.out; have h3 := HKL.out; simp; omega) HB4.out.size ?_; intro vc wz ho hgr; have HOZ := Lib.hid ho; have HGZ := Lib.hid hgr; clear ho hgr)
              have HBZ := Lib.hid (HB4.out.grown HGZ.out HB4.out.size (fun q hq => (HOA.out.lt q hq).1))
              refine NP_mk ?_
              exact cut_meet (by simp [forget]) (SeqCut.mk rfl HOZ.out (by have h1 := HOL.out; have h2 := HIK.out; simp; omega) (by rw [HINS.out]; simp [Function.comp_def]; rfl) HBZ.out)
            · simp only [nthOp]
              go_wp2_with fail
              obtain ⟨gi, hgi⟩ : ∃ g, g = w1.heap.size := ⟨_, rfl⟩
              rw [← hgi]
              refine gen_any (G := fun W' => One _ _ _ _ W') (fun W' => Below W1.heap.size W1 W' ∧ IntsV W' (some ⟨gi, 0, none⟩) [(i : Int)] ∧ gi < W'.heap.size ∧ W'.ownsRow W1.heap.size 3 1 (.slice (some ⟨g0, 0, none⟩) 0 0) 0 [] ∧ g0 < gi) ?_ ?_
              · exact ⟨HB1.out.alloc HB1.out.size _, ints_new1 _ _ _ _ hgi, by rw [hgi]; simp, own_keep HO1.out ((Below.refl _ _).alloc (Nat.le_refl _) _), by rw [hgi]; exact (HO1.out.lt g0 rfl).2⟩
              rintro w2 ⟨hb, hi', hz', ho, hne⟩
              have HB2 := Lib.hid hb
              have HI2 := Lib.hid hi'
              have HIZ2 := Lib.hid hz'
              have HO2 := Lib.hid ho
              have HGG := Lib.hid (Nat.ne_of_gt hne)
              clear hb hi' hz' hgi ho hne
              refine One_mk (KW.mk' trivial) ?_
              refine wpTree_one ?_
              simp only [nthOp]
              go_wp2_with (at_builtin; refine wpList_append_ints rfl _ _ rfl W1.heap.size i0 hi0 hz0 hz1 hz2 _ 0 _ rfl HO2.out A1 ((order.take a).map fun x : Nat => (x : Int)) C1 HT1.out (intsV_keep HV1.out HB2.out) (by have h1 := HOL.out; have h2 := HIK.out; have h3 := HKL.out; simp; omega) HB2.out.size ?_; intro va w3 ho hgr; have HOA := Lib.hid ho; have HGR := Lib.hid hgr; clear ho hgr)
              have HO3 := Lib.hid (show w3.ownsRow W1.heap.size 3 1 va (order.take a).length ((order.take a).map fun x : Nat => Value.int .i64 (x : Int)) by have h := HOA.out; rw [List.nil_append, List.map_map, List.length_map, Nat.zero_add] at h; exact h)
              have HB3 := Lib.hid (HB2.out.grown HGR.out HB2.out.size (fun q hq => (HO2.out.lt q hq).1))
              have HI3 := Lib.hid (intsV_grown HI2.out HGR.out HIZ2.out (own_ne HGG.out))
              have HIZ3 := Lib.hid (Nat.lt_of_lt_of_le HIZ2.out HGR.out.size)
              skip
              clear HOA HGR
              refine One_mk (KW.mk' trivial) ?_
              refine wpTree_one ?_
              simp only [nthOp]
              go_wp2_with (at_builtin; refine wpList_append_ints rfl _ _ rfl W1.heap.size i0 hi0 hz0 hz1 hz2 _ _ _ rfl HO3.out (some ⟨gi, 0, none⟩) [(i : Int)] 1 rfl HI3.out (by have h1 := HOL.out; have h2 := HIK.out; have h3 := HKL.out; simp; omega) HB3.out.size ?_; intro vb w4 ho hgr; have HOA := Lib.hid ho; have HGR := Lib.hid hgr; clear ho hgr)
              have HB4 := Lib.hid (HB3.out.grown HGR.out HB3.out.size (fun q hq => (HO3.out.lt q hq).1))
              refine One_mk (KW.mk' trivial) ?_
              refine wpTree_done ?_
              simp only [List.drop_succ_cons, List.drop_zero]
              go_wp2_with (at_builtin; refine wpList_append_ints rfl _ _ rfl W1.heap.size i0 hi0 hz0 hz1 hz2 _ _ _ rfl HOA.out A2 ((order.drop a).map fun x : Nat => (x : Int)) C2 HT2.out (intsV_keep HV2.out HB4.out) (by have h1 := HOL.out; have h2 := HIK.out; have h3 := HKL.out; simp; omega) HB4.out.size ?_; intro vc wz ho hgr; have HOZ := Lib.hid ho; have HGZ := Lib.hid hgr; clear ho hgr)
              have HBZ := Lib.hid (HB4.out.grown HGZ.out HB4.out.size (fun q hq => (HOA.out.lt q hq).1))
              refine NP_mk ?_
              exact cut_meet (by simp [forget]) (SeqCut.mk rfl HOZ.out (by have h1 := HOL.out; have h2 := HIK.out; simp; omega) (by rw [HINS.out]; simp [Function.comp_def]; rfl) HBZ.out)
          · simp only [nthOp]
            go_wp2_with fail
            obtain ⟨gi, hgi⟩ : ∃ g, g = w0.heap.size := ⟨_, rfl⟩
            rw [← hgi]
            refine gen_any (G := fun W' => One _ _ _ _ W') (fun W' => Below W1.heap.size W1 W' ∧ IntsV W' (some ⟨gi, 0, none⟩) [(i : Int)] ∧ gi < W'.heap.size) ?_ ?_
            · exact ⟨HB0.out.alloc HB0.out.size _, ints_new1 _ _ _ _ hgi, by rw [hgi]; simp⟩
            rintro w1 ⟨hb, hi', hz'⟩
            have HB1 := Lib.hid hb
            have HI1 := Lib.hid hi'
            have HIZ1 := Lib.hid hz'
            clear hb hi' hz' hgi
            refine One_mk (KW.mk' trivial) ?_
            refine wpTree_one ?_
            simp only [nthOp]
            go_wp2_with fail
            obtain ⟨g0, hg0⟩ : ∃ g, g = w1.heap.size := ⟨_, rfl⟩
            rw [← hg0]
            refine gen_any (G := fun W' => One _ _ _ _ W') (fun W' => Below W1.heap.size W1 W' ∧ W'.ownsRow W1.heap.size 3 1 (.slice (some ⟨g0, 0, none⟩) 0 0) 0 [] ∧ IntsV W' (some ⟨gi, 0, none⟩) [(i : Int)] ∧ gi < g0 ∧ gi < W'.heap.size) ?_ ?_
            · exact ⟨HB1.out.alloc HB1.out.size _, by rw [hg0]; exact World.ownsRow_made w1 #[] 0 HB1.out.size (Nat.zero_le _) rfl, intsV_keep HI1.out ((Below.refl _ _).alloc (Nat.le_refl _) _), by rw [hg0]; exact HIZ1.out, by have := HIZ1.out; simp; omega⟩
            rintro w2 ⟨hb, ho, hi', hlt', hz'⟩
            have HB2 := Lib.hid hb
            have HO2 := Lib.hid ho
            have HI2 := Lib.hid hi'
            have HGG := Lib.hid (Nat.ne_of_lt hlt')
            have HIZ2 := Lib.hid hz'
            clear hi' hlt' hz'
            clear hb ho hg0
            refine One_mk (KW.mk' trivial) ?_
            refine wpTree_one ?_
            simp only [nthOp]
            go_wp2_with (at_builtin; refine wpList_append_ints rfl _ _ rfl W1.heap.size i0 hi0 hz0 hz1 hz2 _ 0 _ rfl HO2.out A1 ((order.take a).map fun x : Nat => (x : Int)) C1 HT1.out (intsV_keep HV1.out HB2.out) (by have h1 := HOL.out; have h2 := HIK.out; have h3 := HKL.out; simp; omega) HB2.out.size ?_; intro va w3 ho hgr; have HOA := Lib.hid ho; have HGR := Lib.hid hgr; clear ho hgr)
            have HO3 := Lib.hid (show w3.ownsRow W1.heap.size 3 1 va (order.take a).length ((order.take a).map fun x : Nat => Value.int .i64 (x : Int)) by have h := HOA.out; rw [List.nil_append, List.map_map, List.length_map, Nat.zero_add] at h; exact h)
            have HB3 := Lib.hid (HB2.out.grown HGR.out HB2.out.size (fun q hq => (HO2.out.lt q hq).1))
            have HI3 := Lib.hid (intsV_grown HI2.out HGR.out HIZ2.out (own_ne HGG.out))
            have HIZ3 := Lib.hid (Nat.lt_of_lt_of_le HIZ2.out HGR.out.size)
            skip
            clear HOA HGR
            refine One_mk (KW.mk' trivial) ?_
            refine wpTree_one ?_
            simp only [nthOp]
            go_wp2_with (at_builtin; refine wpList_append_ints rfl _ _ rfl W1.heap.size i0 hi0 hz0 hz1 hz2 _ _ _ rfl HO3.out (some ⟨gi, 0, none⟩) [(i : Int)] 1 rfl HI3.out (by have h1 := HOL.out; have h2 := HIK.out; have h3 := HKL.out; simp; omega) HB3.out.size ?_; intro vb w4 ho hgr; have HOA := Lib.hid ho; have HGR := Lib.hid hgr; clear ho hgr)
            have HB4 := Lib.hid (HB3.out.grown HGR.out HB3.out.size (fun q hq => (HO3.out.lt q hq).1))
            refine One_mk (KW.mk' trivial) ?_
            refine wpTree_done ?_
            simp only [List.drop_succ_cons, List.drop_zero]
            go_wp2_with (at_builtin; refine wpList_append_ints rfl _ _ rfl W1.heap.size i0 hi0 hz0 hz1 hz2 _ _ _ rfl HOA.out A2 ((order.drop a).map fun x : Nat => (x : Int)) C2 HT2.out (intsV_keep HV2.out HB4.out) (by have h1 := HOL.out; have h2 := HIK.out; have h3 := HKL.out; simp; omega) HB4.out.size ?_; intro vc wz ho hgr; have HOZ := Lib.hid ho; have HGZ := Lib.hid hgr; clear ho hgr)
            have HBZ := Lib.hid (HB4.out.grown HGZ.out HB4.out.size (fun q hq => (HOA.out.lt q hq).1))
            refine NP_mk ?_
            exact cut_meet (by simp [forget]) (SeqCut.mk rfl HOZ.out (by have h1 := HOL.out; have h2 := HIK.out; simp; omega) (by rw [HINS.out]; simp [Function.comp_def]; rfl) HBZ.out)
        rintro u2 W2 ⟨v2, hu2, ho2, hb2⟩
        simp only [forget, List.foldl_cons, List.foldl_nil, hu2]
        have HO2 := Lib.hid (own_mono ho2 HBB.out.size)
        have HB2 := Lib.hid (HBB.out.trans (hb2.mono HBB.out.size))
        clear hu2 ho2 hb2 HOW1
        go_wp2_with fail
        go_roundw
        case rel => exact ⟨k + 1, insOne l order k, by omega, by go_num, by rw [insOne_len]; have := HOL.out; omega, Lib.hid (fun x hx => (insOne_mem.1 hx).elim (fun h => by rw [h]; exact HKL.out) (HLT.out x)), HNX, HO2.out, HB2.out⟩
        case measure => have := HKL.out; simp [intOf]; omega
      · have hca : k ≤ cap := hnc
        clear hown hlt hgg hcs htk
        go_upto_block 2 with fail
        refine wp_cut_slots [5, 17, 18, 19, 20, 21, 22, 23, 24, 25, 26, 27, 28, 29, 30, 31, 32, 33, 34, 35] (PosCut (insPos l order k order.length) wo) ?_ ?_
        · go_wp2_with fail
          go_loopw [5] (fun av wr => ∃ a : Nat, a ≤ k ∧ av = .int .i64 a ∧ Hid (insPos l order k order.length = insPos l order k a) ∧ Below wo.heap.size wo wr) (fun av _ => (intOf av).toNat)
          case atStart => exact ⟨k, Nat.le_refl _, rfl, Lib.hid (by rw [HOL.out]), Below.refl _ _⟩
          case round =>
            obtain ⟨a, ha, rfl, HP, hbr⟩ := hrel
            have HBR := Lib.hid hbr
            by_cases ha0 : a = 0
            · subst ha0
              have HE := Lib.hid (show insPos l order k order.length = 0 by rw [HP.out]; rfl)
              clear ha
              go_upto_region 6 with fail
              go_quiet (fail)
              rename_i nq
              go_wp2_with fail
              exact cut_meet (by simp [forget]) (PosCut.mk HE.out rfl (below_drewN HBR.out nq))
            · have hap : 1 ≤ a := by omega
              have hai : (a : Int) > 0 := by omega
              have haN : 0 < a := by omega
              have hal : a - 1 < order.length := by have := HOL.out; omega
              have v1 : IntKind.i64.wrap ((a : Int) - 1) = (a : Int) - 1 := IntWalk.i64_in _ (by omega)
              have v2 : (0 : Int) ≤ (a : Int) - 1 := by omega
              have v3 : ((a : Int) - 1).toNat = a - 1 := by omega
              have v4 : (1 : Int) ≤ (a : Int) := by omega
              have v5 : (a : Int) ≤ (k : Int) := by omega
              have v6 : (a : Int) < (k : Int) + 1 := by omega
              obtain ⟨o, ho⟩ : ∃ o, o = order[a - 1] := ⟨_, rfl⟩
              have hol : o < l.length := by rw [ho]; exact HLT.out _ (List.getElem_mem hal)
              have hoi : (o : Int) < (l.length : Int) := by omega
              have hoc : wr.cell? ⟨g, a - 1, none⟩ = some (.int .i64 (o : Int)) := by
                have h := (own_keep HOWN.out hbr).cells (g := g) rfl (a - 1) (encN o) (by rw [List.getElem?_map, List.getElem?_eq_getElem hal, ← ho]; rfl)
                rw [addr_add, Nat.zero_add] at h
                exact h
              have HNX2 := Lib.hid (fun h => insPos_yes (l := l) (order := order) (i := k) hap hal (by rw [← ho]; exact h))
              have HST := Lib.hid (fun h => insPos_no (l := l) (order := order) (i := k) hap hal (by rw [← ho]; exact h))
              obtain ⟨q, hq⟩ : ∃ q, earlierB (bl l k) (bl l o) = q := ⟨_, rfl⟩
              rw [hq] at HNX2 HST
              have hkl := HKL.out
              have hbk : bl l k = l[k] := by unfold bl; rw [List.getD_eq_getElem?_getD, List.getElem?_eq_getElem hkl]; rfl
              have hbo : bl l o = l[o] := by unfold bl; rw [List.getD_eq_getElem?_getD, List.getElem?_eq_getElem hol]; rfl
              rw [hbk, hbo] at hq
              have hvr := hvb.keep (HBO.out.trans (hbr.mono HBO.out.size))
              obtain ⟨bb, off, hab, m0, m1, m2, m3, m4, m5, -⟩ := hvr.at_ hkl
              subst hab
              obtain ⟨bb', off', hab', p0, p1, p2, p3, p4, p5, -⟩ := hvr.at_ hol
              injection hab' with hab'
              injection hab' with hab1 hab2
              subst hab1 hab2
              have hw1 := (hw _ (List.getElem_mem hkl)).1
              have hw2 := (hw _ (List.getElem_mem hol)).1
              generalize l[k] = x at *
              generalize l[o] = y at *
              have hki : (k : Int) < (l.length : Int) := by omega
              have HE := Lib.hid (fun w => earlier_is x y w hq hw1 hw2)
              clear ho hbk hbo hvr hq hw1 hw2
              have kx : ∀ z : KW (fun W => Below wr.heap.size wr W), ((z.w.cell? ⟨bb, off + k * 6, none⟩ = some (.string x.name) ∧ z.w.cell? ⟨bb, off + k * 6 + 1, none⟩ = some (.string x.species)) ∧ (z.w.cell? ⟨bb, off + k * 6 + 2, none⟩ = some (.int .i64 x.length) ∧ z.w.cell? ⟨bb, off + k * 6 + 3, none⟩ = some (.int .i64 x.width))) ∧ (z.w.cell? ⟨bb, off + k * 6 + 4, none⟩ = some (.int .i64 x.thick) ∧ z.w.cell? ⟨bb, off + k * 6 + 5, none⟩ = some (.int .i64 x.count)) := fun z => ⟨⟨⟨cell_keep z.ok m0, cell_keep z.ok m1⟩, cell_keep z.ok m2, cell_keep z.ok m3⟩, cell_keep z.ok m4, cell_keep z.ok m5⟩
              have ky : ∀ z : KW (fun W => Below wr.heap.size wr W), ((z.w.cell? ⟨bb, off + o * 6, none⟩ = some (.string y.name) ∧ z.w.cell? ⟨bb, off + o * 6 + 1, none⟩ = some (.string y.species)) ∧ (z.w.cell? ⟨bb, off + o * 6 + 2, none⟩ = some (.int .i64 y.length) ∧ z.w.cell? ⟨bb, off + o * 6 + 3, none⟩ = some (.int .i64 y.width))) ∧ (z.w.cell? ⟨bb, off + o * 6 + 4, none⟩ = some (.int .i64 y.thick) ∧ z.w.cell? ⟨bb, off + o * 6 + 5, none⟩ = some (.int .i64 y.count)) := fun z => ⟨⟨⟨cell_keep z.ok p0, cell_keep z.ok p1⟩, cell_keep z.ok p2, cell_keep z.ok p3⟩, cell_keep z.ok p4, cell_keep z.ok p5⟩
              have kz : ∀ z : KW (fun W => Below wr.heap.size wr W), z.w.cell? ⟨g, a - 1, none⟩ = some (.int .i64 (o : Int)) := fun z => cell_keep z.ok hoc
              clear m0 m1 m2 m3 m4 m5 p0 p1 p2 p3 p4 p5 hoc
              haveI n1 : Nonempty (KW (fun W => Below wr.heap.size wr W)) := ⟨⟨wr, Below.refl _ _⟩⟩
              go_upto_region 6 with fail
              refine wp_region_tree (fun w' => ∃ y : KW (fun W => Below wr.heap.size wr W), w' = y.w) 15 (.take 0 (.take 1 (.take 2 (.take 3 (.take 4 (.take 5 (.take 6 (.take 7 (.take 8 (.take 9 (.take 10 (.take 11 (.take 12 (.take 13 (.take 14 .done))))))))))))))) (by kernel_rfl) (by kernel_rfl) (KW.mk' (Below.refl _ _).drew) ?_
              have HB0 : Hid (Below wr.heap.size wr wr.drew) := Lib.hid (Below.refl _ _).drew
              generalize wr.drew = w5 at *
              repeat (refine wpTree_take ?_; simp only [nthOp]; (first | go_big_quiet_step (fail) | quiet_step (fail)); refine wpQuiet_nil ?_)
              refine wpTree_done ?_
              simp only [List.drop_succ_cons, List.drop_zero]
              cases q
              · have HE2 := Lib.hid (HP.out.trans (HST.out rfl))
                go_wp2_with (go_at_call 128; refine (HE.out _).mono ?_; rintro e w6 ⟨rfl, hb6⟩; have HB6 := Lib.hid (HBR.out.trans ((HB0.out.trans (hb6.mono HB0.out.size)).mono HBR.out.size)); clear hb6)
                refine NP_mk ?_
                go_wp2_with fail
                exact cut_meet (by simp [forget]) (PosCut.mk HE2.out rfl HB6.out)
              · have HE2 := Lib.hid (HP.out.trans (HNX2.out rfl))
                go_wp2_with (go_at_call 128; refine (HE.out _).mono ?_; rintro e w6 ⟨rfl, hb6⟩; have HB6 := Lib.hid (HBR.out.trans ((HB0.out.trans (hb6.mono HB0.out.size)).mono HBR.out.size)); clear hb6)
                refine NP_mk ?_
                go_wp2_with fail
                go_roundw
                case rel => exact ⟨a - 1, by omega, by first | rfl | go_num, HE2, HB6.out⟩
                case measure => simp [intOf]; omega
        rintro u W1 ⟨hu, hb1⟩
        simp only [forget, List.foldl_cons, List.foldl_nil, hu]
        obtain ⟨a, hae⟩ : ∃ a, a = insPos l order k order.length := ⟨_, rfl⟩
        have HINS := Lib.hid (show insOne l order k = order.take a ++ k :: order.drop a by unfold insOne; rw [← hae])
        have hal : a ≤ k := by rw [hae]; have := insPos_le l order k order.length; have := HOL.out; omega
        have HBB := Lib.hid (HBO.out.trans (hb1.mono HBO.out.size))
        rw [← hae]
        clear hu hae
        have HOW1 := Lib.hid (own_keep HOWN.out hb1)
        have hai : (a : Int) ≤ (k : Int) := by omega
        have hai0 : (0 : Int) ≤ (a : Int) := by omega
        clear hb1
        go_upto_region 8 with fail
        have hac : (a : Int) ≤ (cap : Int) := by omega
        have hacN : a ≤ cap := by omega
        have hint : IntsV W1 (some ⟨g, 0, none⟩) (order.map fun x : Nat => (x : Int)) := by
          obtain ⟨a', c', e, h⟩ := own_ints2 HOW1.out
          injection e with e1 e2 e3
          rw [e1]; exact h
        obtain ⟨A1, C1, HT1, HV1⟩ : ∃ A1 C1, Hid (Value.slice (some ⟨g, 0, none⟩) a cap = .slice A1 ((order.take a).map fun x : Nat => (x : Int)).length C1) ∧ Hid (IntsV W1 A1 ((order.take a).map fun x : Nat => (x : Int))) := ⟨some ⟨g, 0, none⟩, cap, Lib.hid (by
          have := HOL.out
          simp
          omega), Lib.hid (ints_take hint)⟩
        by_cases hac2 : a < cap
        · obtain ⟨A2, C2, HT2, HV2⟩ : ∃ A2 C2, Hid (Value.slice (some ⟨g, a, none⟩) (k - a) (cap - a) = .slice A2 ((order.drop a).map fun x : Nat => (x : Int)).length C2) ∧ Hid (IntsV W1 A2 ((order.drop a).map fun x : Nat => (x : Int))) := ⟨some ⟨g, a, none⟩, cap - a, Lib.hid (by
            have := HOL.out
            simp
            omega), Lib.hid (ints_drop hint)⟩
          refine wp_cut_slots [3, 36, 37, 38, 39, 40, 41, 42, 43, 44, 45, 46, 47] (SeqCut W1 (k + 1) ((insOne l order k).map encN)) ?_ ?_
          · haveI n1 : Nonempty (KW (fun _ => True)) := ⟨⟨W1, trivial⟩⟩
            refine wp_region_tree (fun w' => ∃ y : KW (fun _ => True), w' = y.w) 11 (.take 1 (.take 2 (.take 3 (.take 5 (.take 8 (.take 9 (.take 10 (.two 0 (.two 4 (.one 6 (.one 7 .done)) 6 (.one 4 (.one 7 .done))) 6 (.one 0 (.one 4 (.one 7 .done))))))))))) (by kernel_rfl) (by kernel_rfl) (KW.mk' trivial) ?_
            have HB0 : Hid (Below W1.heap.size W1 W1.drew) := Lib.hid (Below.refl _ _).drew
            obtain ⟨i, hik⟩ : ∃ i, i = k := ⟨_, rfl⟩
            rw [← hik] at HINS hal hai ⊢
            (try rw [← hik] at HT2)
            have HIK := Lib.hid hik
            clear hik
            generalize W1.drew = w0 at *
            repeat (refine wpTree_take ?_; simp only [nthOp]; (first | go_big_quiet_step (fail) | quiet_step (fail)); refine wpQuiet_nil ?_)
            refine wpTree_two ?_ ?_
            · simp only [nthOp]
              go_wp2_with fail
              obtain ⟨g0, hg0⟩ : ∃ g, g = w0.heap.size := ⟨_, rfl⟩
              rw [← hg0]
              refine gen_any (G := fun W' => One _ _ _ _ W') (fun W' => Below W1.heap.size W1 W' ∧ W'.ownsRow W1.heap.size 3 1 (.slice (some ⟨g0, 0, none⟩) 0 0) 0 []) ?_ ?_
              · exact ⟨HB0.out.alloc HB0.out.size _, by rw [hg0]; exact World.ownsRow_made w0 #[] 0 HB0.out.size (Nat.zero_le _) rfl⟩
              rintro w1 ⟨hb, ho⟩
              have HB1 := Lib.hid hb
              have HO1 := Lib.hid ho
              clear hb ho hg0
              refine One_mk (KW.mk' trivial) ?_
              refine wpTree_two ?_ ?_
              · simp only [nthOp]
                go_wp2_with (at_builtin; refine wpList_append_ints rfl _ _ rfl W1.heap.size i0 hi0 hz0 hz1 hz2 _ 0 _ rfl HO1.out A1 ((order.take a).map fun x : Nat => (x : Int)) C1 HT1.out (intsV_keep HV1.out HB1.out) (by have h1 := HOL.out; have h2 := HIK.out; have h3 := HKL.out; simp; omega) HB1.out.size ?_; intro va w2 ho hgr; have HOA := Lib.hid ho; have HGR := Lib.hid hgr; clear ho hgr)
                have HO2 := Lib.hid (show w2.ownsRow W1.heap.size 3 1 va (order.take a).length ((order.take a).map fun x : Nat => Value.int .i64 (x : Int)) by have h := HOA.out; rw [List.nil_append, List.map_map, List.length_map, Nat.zero_add] at h; exact h)
                have HB2 := Lib.hid (HB1.out.grown HGR.out HB1.out.size (fun q hq => (HO1.out.lt q hq).1))
                clear HOA HGR
                refine One_mk (KW.mk' trivial) ?_
                refine wpTree_one ?_
                simp only [nthOp]
                go_wp2_with fail
                obtain ⟨gi, hgi⟩ : ∃ g, g = w2.heap.size := ⟨_, rfl⟩
                rw [← hgi]
                refine gen_any (G := fun W' => One _ _ _ _ W') (fun W' => Below W1.heap.size W1 W' ∧ IntsV W' (some ⟨gi, 0, none⟩) [(i : Int)] ∧ gi < W'.heap.size ∧ W'.ownsRow W1.heap.size 3 1 va (order.take a).length ((order.take a).map fun x : Nat => Value.int .i64 (x : Int)) ∧ ∀ q, va.ownBlock = some q → q < gi) ?_ ?_
                · exact ⟨HB2.out.alloc HB2.out.size _, ints_new1 _ _ _ _ hgi, by rw [hgi]; simp, own_keep HO2.out ((Below.refl _ _).alloc (Nat.le_refl _) _), fun q hq => by rw [hgi]; exact (HO2.out.lt q hq).2⟩
                rintro w3 ⟨hb, hi', hz', ho, hne⟩
                have HB3 := Lib.hid hb
                have HI3 := Lib.hid hi'
                have HIZ3 := Lib.hid hz'
                have HO3 := Lib.hid ho
                have HGA := Lib.hid hne
                clear hb hi' hz' hgi ho hne
                refine One_mk (KW.mk' trivial) ?_
                refine wpTree_one ?_
                simp only [nthOp]
                go_wp2_with (at_builtin; refine wpList_append_ints rfl _ _ rfl W1.heap.size i0 hi0 hz0 hz1 hz2 _ _ _ rfl HO3.out (some ⟨gi, 0, none⟩) [(i : Int)] 1 rfl HI3.out (by have h1 := HOL.out; have h2 := HIK.out; have h3 := HKL.out; simp; omega) HB3.out.size ?_; intro vb w4 ho hgr; have HOA := Lib.hid ho; have HGR := Lib.hid hgr; clear ho hgr)
                have HB4 := Lib.hid (HB3.out.grown HGR.out HB3.out.size (fun q hq => (HO3.out.lt q hq).1))
                refine One_mk (KW.mk' trivial) ?_
                refine wpTree_done ?_
                simp only [List.drop_succ_cons, List.drop_zero]
                go_wp2_with (at_builtin; refine wpList_append_ints rfl _ _ rfl W1.heap.size i0 hi0 hz0 hz1 hz2 _ _ _ rfl HOA.out A2 ((order.drop a).map fun x : Nat => (x : Int)) C2 HT2.out (intsV_keep HV2.out HB4.out) (by have h1 := HOL.out; have h2 := HIK.out; have h3 := HKL.out; simp; omega) HB4.out.size ?_; intro vc wz ho hgr; have HOZ := Lib.hid ho; have HGZ := Lib.hid hgr; clear ho hgr)
                have HBZ := Lib.hid (HB4.out.grown HGZ.out HB4.out.size (fun q hq => (HOA.out.lt q hq).1))
                refine NP_mk ?_
                exact cut_meet (by simp [forget]) (SeqCut.mk rfl HOZ.out (by have h1 := HOL.out; have h2 := HIK.out; simp; omega) (by rw [HINS.out]; simp [Function.comp_def]; rfl) HBZ.out)
              · simp only [nthOp]
                go_wp2_with fail
                obtain ⟨gi, hgi⟩ : ∃ g, g = w1.heap.size := ⟨_, rfl⟩
                rw [← hgi]
                refine gen_any (G := fun W' => One _ _ _ _ W') (fun W' => Below W1.heap.size W1 W' ∧ IntsV W' (some ⟨gi, 0, none⟩) [(i : Int)] ∧ gi < W'.heap.size ∧ W'.ownsRow W1.heap.size 3 1 (.slice (some ⟨g0, 0, none⟩) 0 0) 0 [] ∧ g0 < gi) ?_ ?_
                · exact ⟨HB1.out.alloc HB1.out.size _, ints_new1 _ _ _ _ hgi, by rw [hgi]; simp, own_keep HO1.out ((Below.refl _ _).alloc (Nat.le_refl _) _), by rw [hgi]; exact (HO1.out.lt g0 rfl).2⟩
                rintro w2 ⟨hb, hi', hz', ho, hne⟩
                have HB2 := Lib.hid hb
                have HI2 := Lib.hid hi'
                have HIZ2 := Lib.hid hz'
                have HO2 := Lib.hid ho
                have HGG := Lib.hid (Nat.ne_of_gt hne)
                clear hb hi' hz' hgi ho hne
                refine One_mk (KW.mk' trivial) ?_
                refine wpTree_one ?_
                simp only [nthOp]
                go_wp2_with (at_builtin; refine wpList_append_ints rfl _ _ rfl W1.heap.size i0 hi0 hz0 hz1 hz2 _ 0 _ rfl HO2.out A1 ((order.take a).map fun x : Nat => (x : Int)) C1 HT1.out (intsV_keep HV1.out HB2.out) (by have h1 := HOL.out; have h2 := HIK.out; have h3 := HKL.out; simp; omega) HB2.out.size ?_; intro va w3 ho hgr; have HOA := Lib.hid ho; have HGR := Lib.hid hgr; clear ho hgr)
                have HO3 := Lib.hid (show w3.ownsRow W1.heap.size 3 1 va (order.take a).length ((order.take a).map fun x : Nat => Value.int .i64 (x : Int)) by have h := HOA.out; rw [List.nil_append, List.map_map, List.length_map, Nat.zero_add] at h; exact h)
                have HB3 := Lib.hid (HB2.out.grown HGR.out HB2.out.size (fun q hq => (HO2.out.lt q hq).1))
                have HI3 := Lib.hid (intsV_grown HI2.out HGR.out HIZ2.out (own_ne HGG.out))
                have HIZ3 := Lib.hid (Nat.lt_of_lt_of_le HIZ2.out HGR.out.size)
                skip
                clear HOA HGR
                refine One_mk (KW.mk' trivial) ?_
                refine wpTree_one ?_
                simp only [nthOp]
                go_wp2_with (at_builtin; refine wpList_append_ints rfl _ _ rfl W1.heap.size i0 hi0 hz0 hz1 hz2 _ _ _ rfl HO3.out (some ⟨gi, 0, none⟩) [(i : Int)] 1 rfl HI3.out (by have h1 := HOL.out; have h2 := HIK.out; have h3 := HKL.out; simp; omega) HB3.out.size ?_; intro vb w4 ho hgr; have HOA := Lib.hid ho; have HGR := Lib.hid hgr; clear ho hgr)
                have HB4 := Lib.hid (HB3.out.grown HGR.out HB3.out.size (fun q hq => (HO3.out.lt q hq).1))
                refine One_mk (KW.mk' trivial) ?_
                refine wpTree_done ?_
                simp only [List.drop_succ_cons, List.drop_zero]
                go_wp2_with (at_builtin; refine wpList_append_ints rfl _ _ rfl W1.heap.size i0 hi0 hz0 hz1 hz2 _ _ _ rfl HOA.out A2 ((order.drop a).map fun x : Nat => (x : Int)) C2 HT2.out (intsV_keep HV2.out HB4.out) (by have h1 := HOL.out; have h2 := HIK.out; have h3 := HKL.out; simp; omega) HB4.out.size ?_; intro vc wz ho hgr; have HOZ := Lib.hid ho; have HGZ := Lib.hid hgr; clear ho hgr)
                have HBZ := Lib.hid (HB4.out.grown HGZ.out HB4.out.size (fun q hq => (HOA.out.lt q hq).1))
                refine NP_mk ?_
                exact cut_meet (by simp [forget]) (SeqCut.mk rfl HOZ.out (by have h1 := HOL.out; have h2 := HIK.out; simp; omega) (by rw [HINS.out]; simp [Function.comp_def]; rfl) HBZ.out)
            · simp only [nthOp]
              go_wp2_with fail
              obtain ⟨gi, hgi⟩ : ∃ g, g = w0.heap.size := ⟨_, rfl⟩
              rw [← hgi]
              refine gen_any (G := fun W' => One _ _ _ _ W') (fun W' => Below W1.heap.size W1 W' ∧ IntsV W' (some ⟨gi, 0, none⟩) [(i : Int)] ∧ gi < W'.heap.size) ?_ ?_
              · exact ⟨HB0.out.alloc HB0.out.size _, ints_new1 _ _ _ _ hgi, by rw [hgi]; simp⟩
              rintro w1 ⟨hb, hi', hz'⟩
              have HB1 := Lib.hid hb
              have HI1 := Lib.hid hi'
              have HIZ1 := Lib.hid hz'
              clear hb hi' hz' hgi
              refine One_mk (KW.mk' trivial) ?_
              refine wpTree_one ?_
              simp only [nthOp]
              go_wp2_with fail
              obtain ⟨g0, hg0⟩ : ∃ g, g = w1.heap.size := ⟨_, rfl⟩
              rw [← hg0]
              refine gen_any (G := fun W' => One _ _ _ _ W') (fun W' => Below W1.heap.size W1 W' ∧ W'.ownsRow W1.heap.size 3 1 (.slice (some ⟨g0, 0, none⟩) 0 0) 0 [] ∧ IntsV W' (some ⟨gi, 0, none⟩) [(i : Int)] ∧ gi < g0 ∧ gi < W'.heap.size) ?_ ?_
              · exact ⟨HB1.out.alloc HB1.out.size _, by rw [hg0]; exact World.ownsRow_made w1 #[] 0 HB1.out.size (Nat.zero_le _) rfl, intsV_keep HI1.out ((Below.refl _ _).alloc (Nat.le_refl _) _), by rw [hg0]; exact HIZ1.out, by have := HIZ1.out; simp; omega⟩
              rintro w2 ⟨hb, ho, hi', hlt', hz'⟩
              have HB2 := Lib.hid hb
              have HO2 := Lib.hid ho
              have HI2 := Lib.hid hi'
              have HGG := Lib.hid (Nat.ne_of_lt hlt')
              have HIZ2 := Lib.hid hz'
              clear hi' hlt' hz'
              clear hb ho hg0
              refine One_mk (KW.mk' trivial) ?_
              refine wpTree_one ?_
              simp only [nthOp]
              go_wp2_with (at_builtin; refine wpList_append_ints rfl _ _ rfl W1.heap.size i0 hi0 hz0 hz1 hz2 _ 0 _ rfl HO2.out A1 ((order.take a).map fun x : Nat => (x : Int)) C1 HT1.out (intsV_keep HV1.out HB2.out) (by have h1 := HOL.out; have h2 := HIK.out; have h3 := HKL.out; simp; omega) HB2.out.size ?_; intro va w3 ho hgr; have HOA := Lib.hid ho; have HGR := Lib.hid hgr; clear ho hgr)
              have HO3 := Lib.hid (show w3.ownsRow W1.heap.size 3 1 va (order.take a).length ((order.take a).map fun x : Nat => Value.int .i64 (x : Int)) by have h := HOA.out; rw [List.nil_append, List.map_map, List.length_map, Nat.zero_add] at h; exact h)
              have HB3 := Lib.hid (HB2.out.grown HGR.out HB2.out.size (fun q hq => (HO2.out.lt q hq).1))
              have HI3 := Lib.hid (intsV_grown HI2.out HGR.out HIZ2.out (own_ne HGG.out))
              have HIZ3 := Lib.hid (Nat.lt_of_lt_of_le HIZ2.out HGR.out.size)
              skip
              clear HOA HGR
              refine One_mk (KW.mk' trivial) ?_
              refine wpTree_one ?_
              simp only [nthOp]
              go_wp2_with (at_builtin; refine wpList_append_ints rfl _ _ rfl W1.heap.size i0 hi0 hz0 hz1 hz2 _ _ _ rfl HO3.out (some ⟨gi, 0, none⟩) [(i : Int)] 1 rfl HI3.out (by have h1 := HOL.out; have h2 := HIK.out; have h3 := HKL.out; simp; omega) HB3.out.size ?_; intro vb w4 ho hgr; have HOA := Lib.hid ho; have HGR := Lib.hid hgr; clear ho hgr)
              have HB4 := Lib.hid (HB3.out.grown HGR.out HB3.out.size (fun q hq => (HO3.out.lt q hq).1))
              refine One_mk (KW.mk' trivial) ?_
              refine wpTree_done ?_
              simp only [List.drop_succ_cons, List.drop_zero]
              go_wp2_with (at_builtin; refine wpList_append_ints rfl _ _ rfl W1.heap.size i0 hi0 hz0 hz1 hz2 _ _ _ rfl HOA.out A2 ((order.drop a).map fun x : Nat => (x : Int)) C2 HT2.out (intsV_keep HV2.out HB4.out) (by have h1 := HOL.out; have h2 := HIK.out; have h3 := HKL.out; simp; omega) HB4.out.size ?_; intro vc wz ho hgr; have HOZ := Lib.hid ho; have HGZ := Lib.hid hgr; clear ho hgr)
              have HBZ := Lib.hid (HB4.out.grown HGZ.out HB4.out.size (fun q hq => (HOA.out.lt q hq).1))
              refine NP_mk ?_
              exact cut_meet (by simp [forget]) (SeqCut.mk rfl HOZ.out (by have h1 := HOL.out; have h2 := HIK.out; simp; omega) (by rw [HINS.out]; simp [Function.comp_def]; rfl) HBZ.out)
          rintro u2 W2 ⟨v2, hu2, ho2, hb2⟩
          simp only [forget, List.foldl_cons, List.foldl_nil, hu2]
          have HO2 := Lib.hid (own_mono ho2 HBB.out.size)
          have HB2 := Lib.hid (HBB.out.trans (hb2.mono HBB.out.size))
          clear hu2 ho2 hb2 HOW1
          go_wp2_with fail
          go_roundw
          case rel => exact ⟨k + 1, insOne l order k, by omega, by go_num, by rw [insOne_len]; have := HOL.out; omega, Lib.hid (fun x hx => (insOne_mem.1 hx).elim (fun h => by rw [h]; exact HKL.out) (HLT.out x)), HNX, HO2.out, HB2.out⟩
          case measure => have := HKL.out; simp [intOf]; omega
        · obtain ⟨A2, C2, HT2, HV2⟩ : ∃ A2 C2, Hid (Value.slice (some ⟨g, 0, none⟩) (k - a) (cap - a) = .slice A2 ((order.drop a).map fun x : Nat => (x : Int)).length C2) ∧ Hid (IntsV W1 A2 ((order.drop a).map fun x : Nat => (x : Int))) := ⟨some ⟨g, 0, none⟩, cap - a, Lib.hid (by
            have := HOL.out
            simp
            omega), Lib.hid (fun h => absurd (by
              have := HOL.out
              rw [List.drop_of_length_le (by omega)]; rfl) h)⟩
          refine wp_cut_slots [3, 36, 37, 38, 39, 40, 41, 42, 43, 44, 45, 46, 47] (SeqCut W1 (k + 1) ((insOne l order k).map encN)) ?_ ?_
          · haveI n1 : Nonempty (KW (fun _ => True)) := ⟨⟨W1, trivial⟩⟩
            refine wp_region_tree (fun w' => ∃ y : KW (fun _ => True), w' = y.w) 11 (.take 1 (.take 2 (.take 3 (.take 5 (.take 8 (.take 9 (.take 10 (.two 0 (.two 4 (.one 6 (.one 7 .done)) 6 (.one 4 (.one 7 .done))) 6 (.one 0 (.one 4 (.one 7 .done))))))))))) (by kernel_rfl) (by kernel_rfl) (KW.mk' trivial) ?_
            have HB0 : Hid (Below W1.heap.size W1 W1.drew) := Lib.hid (Below.refl _ _).drew
            obtain ⟨i, hik⟩ : ∃ i, i = k := ⟨_, rfl⟩
            rw [← hik] at HINS hal hai ⊢
            (try rw [← hik] at HT2)
            have HIK := Lib.hid hik
            clear hik
            generalize W1.drew = w0 at *
            repeat (refine wpTree_take ?_; simp only [nthOp]; (first | go_big_quiet_step (fail) | quiet_step (fail)); refine wpQuiet_nil ?_)
            refine wpTree_two ?_ ?_
            · simp only [nthOp]
              go_wp2_with fail
              obtain ⟨g0, hg0⟩ : ∃ g, g = w0.heap.size := ⟨_, rfl⟩
              rw [← hg0]
              refine gen_any (G := fun W' => One _ _ _ _ W') (fun W' => Below W1.heap.size W1 W' ∧ W'.ownsRow W1.heap.size 3 1 (.slice (some ⟨g0, 0, none⟩) 0 0) 0 []) ?_ ?_
              · exact ⟨HB0.out.alloc HB0.out.size _, by rw [hg0]; exact World.ownsRow_made w0 #[] 0 HB0.out.size (Nat.zero_le _) rfl⟩
              rintro w1 ⟨hb, ho⟩
              have HB1 := Lib.hid hb
              have HO1 := Lib.hid ho
              clear hb ho hg0
              refine One_mk (KW.mk' trivial) ?_
              refine wpTree_two ?_ ?_
              · simp only [nthOp]
                go_wp2_with (at_builtin; refine wpList_append_ints rfl _ _ rfl W1.heap.size i0 hi0 hz0 hz1 hz2 _ 0 _ rfl HO1.out A1 ((order.take a).map fun x : Nat => (x : Int)) C1 HT1.out (intsV_keep HV1.out HB1.out) (by have h1 := HOL.out; have h2 := HIK.out; have h3 := HKL.out; simp; omega) HB1.out.size ?_; intro va w2 ho hgr; have HOA := Lib.hid ho; have HGR := Lib.hid hgr; clear ho hgr)
                have HO2 := Lib.hid (show w2.ownsRow W1.heap.size 3 1 va (order.take a).length ((order.take a).map fun x : Nat => Value.int .i64 (x : Int)) by have h := HOA.out; rw [List.nil_append, List.map_map, List.length_map, Nat.zero_add] at h; exact h)
                have HB2 := Lib.hid (HB1.out.grown HGR.out HB1.out.size (fun q hq => (HO1.out.lt q hq).1))
                clear HOA HGR
                refine One_mk (KW.mk' trivial) ?_
                refine wpTree_one ?_
                simp only [nthOp]
                go_wp2_with fail
                obtain ⟨gi, hgi⟩ : ∃ g, g = w2.heap.size := ⟨_, rfl⟩
                rw [← hgi]
                refine gen_any (G := fun W' => One _ _ _ _ W') (fun W' => Below W1.heap.size W1 W' ∧ IntsV W' (some ⟨gi, 0, none⟩) [(i : Int)] ∧ gi < W'.heap.size ∧ W'.ownsRow W1.heap.size 3 1 va (order.take a).length ((order.take a).map fun x : Nat => Value.int .i64 (x : Int)) ∧ ∀ q, va.ownBlock = some q → q < gi) ?_ ?_
                · exact ⟨HB2.out.alloc HB2.out.size _, ints_new1 _ _ _ _ hgi, by rw [hgi]; simp, own_keep HO2.out ((Below.refl _ _).alloc (Nat.le_refl _) _), fun q hq => by rw [hgi]; exact (HO2.out.lt q hq).2⟩
                rintro w3 ⟨hb, hi', hz', ho, hne⟩
                have HB3 := Lib.hid hb
                have HI3 := Lib.hid hi'
                have HIZ3 := Lib.hid hz'
                have HO3 := Lib.hid ho
                have HGA := Lib.hid hne
                clear hb hi' hz' hgi ho hne
                refine One_mk (KW.mk' trivial) ?_
                refine wpTree_one ?_
                simp only [nthOp]
                go_wp2_with (at_builtin; refine wpList_append_ints rfl _ _ rfl W1.heap.size i0 hi0 hz0 hz1 hz2 _ _ _ rfl HO3.out (some ⟨gi, 0, none⟩) [(i : Int)] 1 rfl HI3.out (by have h1 := HOL.out; have h2 := HIK.out; have h3 := HKL.out; simp; omega) HB3.out.size ?_; intro vb w4 ho hgr; have HOA := Lib.hid ho; have HGR := Lib.hid hgr; clear ho hgr)
                have HB4 := Lib.hid (HB3.out.grown HGR.out HB3.out.size (fun q hq => (HO3.out.lt q hq).1))
                refine One_mk (KW.mk' trivial) ?_
                refine wpTree_done ?_
                simp only [List.drop_succ_cons, List.drop_zero]
                go_wp2_with (at_builtin; refine wpList_append_ints rfl _ _ rfl W1.heap.size i0 hi0 hz0 hz1 hz2 _ _ _ rfl HOA.out A2 ((order.drop a).map fun x : Nat => (x : Int)) C2 HT2.out (intsV_keep HV2.out HB4.out) (by have h1 := HOL.out; have h2 := HIK.out; have h3 := HKL.out; simp; omega) HB4.out.size ?_; intro vc wz ho hgr; have HOZ := Lib.hid ho; have HGZ := Lib.hid hgr; clear ho hgr)
                have HBZ := Lib.hid (HB4.out.grown HGZ.out HB4.out.size (fun q hq => (HOA.out.lt q hq).1))
                refine NP_mk ?_
                exact cut_meet (by simp [forget]) (SeqCut.mk rfl HOZ.out (by have h1 := HOL.out; have h2 := HIK.out; simp; omega) (by rw [HINS.out]; simp [Function.comp_def]; rfl) HBZ.out)
              · simp only [nthOp]
                go_wp2_with fail
                obtain ⟨gi, hgi⟩ : ∃ g, g = w1.heap.size := ⟨_, rfl⟩
                rw [← hgi]
                refine gen_any (G := fun W' => One _ _ _ _ W') (fun W' => Below W1.heap.size W1 W' ∧ IntsV W' (some ⟨gi, 0, none⟩) [(i : Int)] ∧ gi < W'.heap.size ∧ W'.ownsRow W1.heap.size 3 1 (.slice (some ⟨g0, 0, none⟩) 0 0) 0 [] ∧ g0 < gi) ?_ ?_
                · exact ⟨HB1.out.alloc HB1.out.size _, ints_new1 _ _ _ _ hgi, by rw [hgi]; simp, own_keep HO1.out ((Below.refl _ _).alloc (Nat.le_refl _) _), by rw [hgi]; exact (HO1.out.lt g0 rfl).2⟩
                rintro w2 ⟨hb, hi', hz', ho, hne⟩
                have HB2 := Lib.hid hb
                have HI2 := Lib.hid hi'
                have HIZ2 := Lib.hid hz'
                have HO2 := Lib.hid ho
                have HGG := Lib.hid (Nat.ne_of_gt hne)
                clear hb hi' hz' hgi ho hne
                refine One_mk (KW.mk' trivial) ?_
                refine wpTree_one ?_
                simp only [nthOp]
                go_wp2_with (at_builtin; refine wpList_append_ints rfl _ _ rfl W1.heap.size i0 hi0 hz0 hz1 hz2 _ 0 _ rfl HO2.out A1 ((order.take a).map fun x : Nat => (x : Int)) C1 HT1.out (intsV_keep HV1.out HB2.out) (by have h1 := HOL.out; have h2 := HIK.out; have h3 := HKL.out; simp; omega) HB2.out.size ?_; intro va w3 ho hgr; have HOA := Lib.hid ho; have HGR := Lib.hid hgr; clear ho hgr)
                have HO3 := Lib.hid (show w3.ownsRow W1.heap.size 3 1 va (order.take a).length ((order.take a).map fun x : Nat => Value.int .i64 (x : Int)) by have h := HOA.out; rw [List.nil_append, List.map_map, List.length_map, Nat.zero_add] at h; exact h)
                have HB3 := Lib.hid (HB2.out.grown HGR.out HB2.out.size (fun q hq => (HO2.out.lt q hq).1))
                have HI3 := Lib.hid (intsV_grown HI2.out HGR.out HIZ2.out (own_ne HGG.out))
                have HIZ3 := Lib.hid (Nat.lt_of_lt_of_le HIZ2.out HGR.out.size)
                skip
                clear HOA HGR
                refine One_mk (KW.mk' trivial) ?_
                refine wpTree_one ?_
                simp only [nthOp]
                go_wp2_with (at_builtin; refine wpList_append_ints rfl _ _ rfl W1.heap.size i0 hi0 hz0 hz1 hz2 _ _ _ rfl HO3.out (some ⟨gi, 0, none⟩) [(i : Int)] 1 rfl HI3.out (by have h1 := HOL.out; have h2 := HIK.out; have h3 := HKL.out; simp; omega) HB3.out.size ?_; intro vb w4 ho hgr; have HOA := Lib.hid ho; have HGR := Lib.hid hgr; clear ho hgr)
                have HB4 := Lib.hid (HB3.out.grown HGR.out HB3.out.size (fun q hq => (HO3.out.lt q hq).1))
                refine One_mk (KW.mk' trivial) ?_
                refine wpTree_done ?_
                simp only [List.drop_succ_cons, List.drop_zero]
                go_wp2_with (at_builtin; refine wpList_append_ints rfl _ _ rfl W1.heap.size i0 hi0 hz0 hz1 hz2 _ _ _ rfl HOA.out A2 ((order.drop a).map fun x : Nat => (x : Int)) C2 HT2.out (intsV_keep HV2.out HB4.out) (by have h1 := HOL.out; have h2 := HIK.out; have h3 := HKL.out; simp; omega) HB4.out.size ?_; intro vc wz ho hgr; have HOZ := Lib.hid ho; have HGZ := Lib.hid hgr; clear ho hgr)
                have HBZ := Lib.hid (HB4.out.grown HGZ.out HB4.out.size (fun q hq => (HOA.out.lt q hq).1))
                refine NP_mk ?_
                exact cut_meet (by simp [forget]) (SeqCut.mk rfl HOZ.out (by have h1 := HOL.out; have h2 := HIK.out; simp; omega) (by rw [HINS.out]; simp [Function.comp_def]; rfl) HBZ.out)
            · simp only [nthOp]
              go_wp2_with fail
              obtain ⟨gi, hgi⟩ : ∃ g, g = w0.heap.size := ⟨_, rfl⟩
              rw [← hgi]
              refine gen_any (G := fun W' => One _ _ _ _ W') (fun W' => Below W1.heap.size W1 W' ∧ IntsV W' (some ⟨gi, 0, none⟩) [(i : Int)] ∧ gi < W'.heap.size) ?_ ?_
              · exact ⟨HB0.out.alloc HB0.out.size _, ints_new1 _ _ _ _ hgi, by rw [hgi]; simp⟩
              rintro w1 ⟨hb, hi', hz'⟩
              have HB1 := Lib.hid hb
              have HI1 := Lib.hid hi'
              have HIZ1 := Lib.hid hz'
              clear hb hi' hz' hgi
              refine One_mk (KW.mk' trivial) ?_
              refine wpTree_one ?_
              simp only [nthOp]
              go_wp2_with fail
              obtain ⟨g0, hg0⟩ : ∃ g, g = w1.heap.size := ⟨_, rfl⟩
              rw [← hg0]
              refine gen_any (G := fun W' => One _ _ _ _ W') (fun W' => Below W1.heap.size W1 W' ∧ W'.ownsRow W1.heap.size 3 1 (.slice (some ⟨g0, 0, none⟩) 0 0) 0 [] ∧ IntsV W' (some ⟨gi, 0, none⟩) [(i : Int)] ∧ gi < g0 ∧ gi < W'.heap.size) ?_ ?_
              · exact ⟨HB1.out.alloc HB1.out.size _, by rw [hg0]; exact World.ownsRow_made w1 #[] 0 HB1.out.size (Nat.zero_le _) rfl, intsV_keep HI1.out ((Below.refl _ _).alloc (Nat.le_refl _) _), by rw [hg0]; exact HIZ1.out, by have := HIZ1.out; simp; omega⟩
              rintro w2 ⟨hb, ho, hi', hlt', hz'⟩
              have HB2 := Lib.hid hb
              have HO2 := Lib.hid ho
              have HI2 := Lib.hid hi'
              have HGG := Lib.hid (Nat.ne_of_lt hlt')
              have HIZ2 := Lib.hid hz'
              clear hi' hlt' hz'
              clear hb ho hg0
              refine One_mk (KW.mk' trivial) ?_
              refine wpTree_one ?_
              simp only [nthOp]
              go_wp2_with (at_builtin; refine wpList_append_ints rfl _ _ rfl W1.heap.size i0 hi0 hz0 hz1 hz2 _ 0 _ rfl HO2.out A1 ((order.take a).map fun x : Nat => (x : Int)) C1 HT1.out (intsV_keep HV1.out HB2.out) (by have h1 := HOL.out; have h2 := HIK.out; have h3 := HKL.out; simp; omega) HB2.out.size ?_; intro va w3 ho hgr; have HOA := Lib.hid ho; have HGR := Lib.hid hgr; clear ho hgr)
              have HO3 := Lib.hid (show w3.ownsRow W1.heap.size 3 1 va (order.take a).length ((order.take a).map fun x : Nat => Value.int .i64 (x : Int)) by have h := HOA.out; rw [List.nil_append, List.map_map, List.length_map, Nat.zero_add] at h; exact h)
              have HB3 := Lib.hid (HB2.out.grown HGR.out HB2.out.size (fun q hq => (HO2.out.lt q hq).1))
              have HI3 := Lib.hid (intsV_grown HI2.out HGR.out HIZ2.out (own_ne HGG.out))
              have HIZ3 := Lib.hid (Nat.lt_of_lt_of_le HIZ2.out HGR.out.size)
              skip
              clear HOA HGR
              refine One_mk (KW.mk' trivial) ?_
              refine wpTree_one ?_
              simp only [nthOp]
              go_wp2_with (at_builtin; refine wpList_append_ints rfl _ _ rfl W1.heap.size i0 hi0 hz0 hz1 hz2 _ _ _ rfl HO3.out (some ⟨gi, 0, none⟩) [(i : Int)] 1 rfl HI3.out (by have h1 := HOL.out; have h2 := HIK.out; have h3 := HKL.out; simp; omega) HB3.out.size ?_; intro vb w4 ho hgr; have HOA := Lib.hid ho; have HGR := Lib.hid hgr; clear ho hgr)
              have HB4 := Lib.hid (HB3.out.grown HGR.out HB3.out.size (fun q hq => (HO3.out.lt q hq).1))
              refine One_mk (KW.mk' trivial) ?_
              refine wpTree_done ?_
              simp only [List.drop_succ_cons, List.drop_zero]
              go_wp2_with (at_builtin; refine wpList_append_ints rfl _ _ rfl W1.heap.size i0 hi0 hz0 hz1 hz2 _ _ _ rfl HOA.out A2 ((order.drop a).map fun x : Nat => (x : Int)) C2 HT2.out (intsV_keep HV2.out HB4.out) (by have h1 := HOL.out; have h2 := HIK.out; have h3 := HKL.out; simp; omega) HB4.out.size ?_; intro vc wz ho hgr; have HOZ := Lib.hid ho; have HGZ := Lib.hid hgr; clear ho hgr)
              have HBZ := Lib.hid (HB4.out.grown HGZ.out HB4.out.size (fun q hq => (HOA.out.lt q hq).1))
              refine NP_mk ?_
              exact cut_meet (by simp [forget]) (SeqCut.mk rfl HOZ.out (by have h1 := HOL.out; have h2 := HIK.out; simp; omega) (by rw [HINS.out]; simp [Function.comp_def]; rfl) HBZ.out)
          rintro u2 W2 ⟨v2, hu2, ho2, hb2⟩
          simp only [forget, List.foldl_cons, List.foldl_nil, hu2]
          have HO2 := Lib.hid (own_mono ho2 HBB.out.size)
          have HB2 := Lib.hid (HBB.out.trans (hb2.mono HBB.out.size))
          clear hu2 ho2 hb2 HOW1
          go_wp2_with fail
          go_roundw
          case rel => exact ⟨k + 1, insOne l order k, by omega, by go_num, by rw [insOne_len]; have := HOL.out; omega, Lib.hid (fun x hx => (insOne_mem.1 hx).elim (fun h => by rw [h]; exact HKL.out) (HLT.out x)), HNX, HO2.out, HB2.out⟩
          case measure => have := HKL.out; simp [intOf]; omega
    · have hki : ¬ (k : Int) < (l.length : Int) := by omega
      have HORD := Lib.hid (show orderM l = order by
        rw [HOR.out, List.drop_of_length_le (by simp; omega)]; rfl)
      have HOB := Lib.hid (own_blocks hown)
      obtain ⟨ao, co, rfl, hio⟩ := own_ints2 hown
      have HIO := Lib.hid hio
      clear hown hbr hio
      go_wp2_with fail
      go_loopw [6, 7] (fun v mv wr => ∃ (m n : Nat), m ≤ k ∧ mv = .int .i64 m ∧ n = (seqTo l order m).length ∧ wr.ownsRow wo.heap.size 3 1 v n ((seqTo l order m).map encN) ∧ Below wo.heap.size wo wr) (fun _ mv _ => k - (intOf mv).toNat)
      case atStart => exact ⟨0, 0, Nat.zero_le _, rfl, rfl, World.ownsRow_nil _ _ _ _, Below.refl _ _⟩
      case round =>
        obtain ⟨m, n, hm, rfl, hn, hown, hbr⟩ := hrel
        obtain ⟨wq, rfl⟩ : ∃ wq : World, wq = wr := ⟨_, rfl⟩
        have HBQ := Lib.hid hbr
        have HN := Lib.hid hn
        by_cases hlt : m < k
        · have hmi : (m : Int) < (k : Int) := by omega
          have hmo : m < order.length := by rw [HOL.out]; exact hlt
          obtain ⟨o, ho⟩ : ∃ o, o = order[m] := ⟨_, rfl⟩
          have hol2 : o < l.length := by rw [ho]; exact HLT.out _ (List.getElem_mem hmo)
          have hoi : (o : Int) < (l.length : Int) := by omega
          have HSN := Lib.hid (show seqTo l order (m + 1) = seqTo l order m ++ List.replicate (bl l o).count.toNat o by rw [seqTo_snoc hmo, ho])
          have HSL := Lib.hid (seqTo_len (l := l) (order := order) (m := m) (fun x hx => (hw x hx).2.2) HLT.out)
          obtain ⟨gb, go_, hao, hcs⟩ := HIO.out (fun h => by have h2 := congrArg List.length h; rw [List.length_map] at h2; simp only [List.length_nil] at h2; omega)
          subst hao
          have c0 := hcs m (o : Int) (by rw [List.getElem?_map, List.getElem?_eq_getElem hmo, ← ho]; rfl)
          obtain ⟨bb, off, hab, -, -, -, -, -, m5, -⟩ := (hvb.keep HBO.out).at_ hol2
          subst hab
          have hbo : bl l o = l[o] := by unfold bl; rw [List.getD_eq_getElem?_getD, List.getElem?_eq_getElem hol2]; rfl
          rw [hbo] at HSN
          have hcn := (hw _ (List.getElem_mem hol2)).2
          obtain ⟨N, hN⟩ : ∃ N : Nat, l[o].count = N := ⟨l[o].count.toNat, by omega⟩
          rw [hN, Int.toNat_natCast] at HSN
          rw [hN] at m5 hcn
          have hm30 : m ≤ 29 := by have := HOL.out; omega
          have HOQ := Lib.hid hown
          clear hcs ho hbo hN hown hbr hn
          go_wp2_with fail
          go_loopw [6, 8] (fun v jv wr => ∃ (j n' : Nat), j ≤ N ∧ jv = .int .i64 j ∧ n' = n + j ∧ wr.ownsRow wo.heap.size 3 1 v n' ((seqTo l order m ++ List.replicate j o).map encN) ∧ Below wo.heap.size wo wr) (fun _ jv _ => N - (intOf jv).toNat)
          case atStart => exact ⟨0, n, Nat.zero_le _, rfl, rfl, by rw [List.replicate_zero, List.append_nil]; exact HOQ.out, HBQ.out⟩
          case round =>
            clear HOQ
            obtain ⟨j, n', hj, rfl, hn', hown, hbr⟩ := hrel
            have d0 := cell_keep hbr c0
            have d5 := cell_keep (hbr) m5
            by_cases hlj : j < N
            · have hji : (j : Int) < (N : Int) := by omega
              have HOWN2 := Lib.hid hown
              have HBB := Lib.hid hbr
              have hnb : n' ≤ 7000 := by have := HN.out; have := HSL.out; omega
              have hzz := hbr.size
              clear hown hbr
              go_wp2_with (at_builtin; refine wpList_append_own _ rfl _ _ 30 rfl wo.heap.size 3 i0 (.int .i64 0) 1 8 Tryz.underlying30 hi0 hz0 hz1 hz2 rfl (by decide) _ n' _ rfl (HOWN2.out.alloc _) ⟨wr.heap.size, 0, none⟩ 1 1 [.int .i64 (o : Int)] rfl rfl (news_of _ _ _ _ (by simp)) (by simp [Value.oneCell']) (by simp only [maxLen]; omega) (by omega) (by simp; omega) ?_; intro v' w5 ho5 hgr5 hnil5; have HO5 := Lib.hid ho5; have HGR := Lib.hid hgr5; clear ho5 hgr5 hnil5)
              have hb5 : Below wo.heap.size wo w5 := (HBB.out.alloc (by omega) _).grown HGR.out (by simp; omega) (fun j hj => own_base HOWN2.out hj)
              go_roundw
              case rel => exact ⟨j + 1, n' + 1, by omega, by go_num, by omega, by
                have h := HO5.out
                rw [List.replicate_succ', ← List.append_assoc, List.map_append]
                exact h, hb5⟩
              case measure => simp [intOf]; omega
            · obtain rfl : j = N := by omega
              have hji : ¬ (j : Int) < (j : Int) := by omega
              have HOX := Lib.hid hown
              have HBX := Lib.hid hbr
              clear hown hbr
              go_wp2_with fail
              go_roundw
              case rel => exact ⟨m + 1, n', by omega, by go_num, by rw [HSN.out, List.length_append, List.length_replicate, ← HN.out]; exact hn', by rw [HSN.out]; exact HOX.out, HBX.out⟩
              case measure => simp [intOf]; omega
        · have hmi : ¬ (m : Int) < (k : Int) := by omega
          have HSQ := Lib.hid (show seqM l = seqTo l order m by
            unfold seqM seqTo
            rw [HORD.out, List.take_of_length_le (by rw [HOL.out]; omega)])
          have HOX := Lib.hid hown
          clear hown hbr hn
          go_wp2_with fail
          go_ret
          exact ⟨_, rfl, by rw [HSQ.out, ← HN.out]; exact own_mono HOX.out HBO.out.size, HBO.out.trans (HBQ.out.mono HBO.out.size)⟩
end Go.Proofs.YtepiapgcpoifpaaGreat

set_option linter.unusedVariables false
set_option linter.unusedSimpArgs false
namespace Go.Proofs.YtepiapgcpoifpaaGreat
open Go Go.RowKit

def GSt (gj gd : Nat) (j : Job) (a1 : Option Addr) (c1 : Nat) (a2 : Option Addr) (c2 : Nat) : Addr → Value → Prop := fun a u => newSt gj (jobCells j a1 c1 a2 c2) a u ∨ newSt gd (jobCells j a1 c1 a2 c2) a u
structure CutsR (w : World) (gC : Nat) (S : List BS) (CG : Nat → Nat × Nat) : Prop where
  cell : ∀ i, i < S.length → w.cell? ⟨gC, i, none⟩ = some (.slice (some ⟨(CG i).1, 0, none⟩) (S.getD i default).cuts.length (CG i).2)
  row : ∀ i, i < S.length → Cuts.V w (some ⟨(CG i).1, 0, none⟩) (S.getD i default).cuts
  cap : ∀ i, i < S.length → (S.getD i default).cuts.length ≤ (CG i).2 ∧ (CG i).2 ≤ 9223372036854775807
theorem Desk.cutsR {w : World} {base n gC gR : Nat} {S : List BS} {St : Addr → Value → Prop} (h : Desk w base (rSlots gC gR 0 S) St) (hG : AllOk n S) : ∃ CG, CutsR w gC S CG := by
  have hh : ∀ i : Nat, ∃ p : Nat × Nat, i < S.length → w.cell? ⟨gC, i, none⟩ = some (.slice (some ⟨p.1, 0, none⟩) (S.getD i default).cuts.length p.2) ∧ Cuts.V w (some ⟨p.1, 0, none⟩) (S.getD i default).cuts ∧ (S.getD i default).cuts.length ≤ p.2 ∧ p.2 ≤ 9223372036854775807 := by
    intro i
    by_cases hi : i < S.length
    · have hg : S[i]? = some (S.getD i default) := by rw [List.getD_eq_getElem?_getD, List.getElem?_eq_getElem hi]; rfl
      obtain ⟨g, cap, k1, -, -, -, k5, k6, k7⟩ := h.rowC (rSlots_at hg) (hG.good.get hi).2.1
      refine ⟨(g, cap), fun _ => ⟨k1, fun _ => ⟨g, 0, rfl, fun k x hx => ?_⟩, k5, k6⟩⟩
      obtain ⟨hk, rfl⟩ := List.getElem?_eq_some_iff.1 hx
      have hwf : WfB (S.getD i default) := by rw [List.getD_eq_getElem?_getD, List.getElem?_eq_getElem hi]; exact hG.wf _ (List.getElem_mem hi)
      refine cutAt_of (hwf _ (List.getElem_mem hk)) fun c u hc => ?_
      have hc5 : c < 5 := (List.getElem?_eq_some_iff.1 hc).1
      rw [Nat.zero_add, (k7 k hk c hc5).1, hc]
    · exact ⟨(0, 0), fun h => absurd h hi⟩
  exact ⟨fun i => Classical.choose (hh i), ⟨fun i hi => (Classical.choose_spec (hh i) hi).1, fun i hi => (Classical.choose_spec (hh i) hi).2.1, fun i hi => (Classical.choose_spec (hh i) hi).2.2⟩⟩
theorem CutsR.keep {w w' : World} {gC : Nat} {S : List BS} {CG : Nat → Nat × Nat} (h : CutsR w gC S CG) (hb : Below w.heap.size w w') : CutsR w' gC S CG :=
  ⟨fun i hi => cell_keep hb (h.cell i hi), fun i hi => (h.row i hi).keep hb, h.cap⟩
theorem out_layoutsR {w : World} {base n c gC : Nat} {a : Option Addr} {S : List BS} {CG : Nat → Nat × Nat} {m : Nat} {acc : List (Nat × List Cut)} (hC : CutsR w gC S CG) (hO : OutOk S m acc) (hS : S.length ≤ 100) (h : w.ownsRow base 110 2 (.slice a n c) n (acc.flatMap (cellsL CG))) :
    Layouts.V w a (planL acc) := by
  intro hne
  have hne' : acc ≠ [] := by rintro rfl; exact hne rfl
  obtain ⟨g, cap, hv, _, _, _, _, _, hcell⟩ := own_cells (cellsL_len CG) h hne' (by decide)
  injection hv with ha _ _
  refine ⟨g, 0, ha, fun i x hi => ?_⟩
  unfold planL at hi
  rw [List.getElem?_map, Option.map_eq_some_iff] at hi
  obtain ⟨p, hp, rfl⟩ := hi
  obtain ⟨hi', rfl⟩ := List.getElem?_eq_some_iff.1 hp
  obtain ⟨h1, h2⟩ := hO.mem _ (List.getElem_mem hi')
  have e0 := (hcell i hi' 0 (by decide)).1
  have e1 := (hcell i hi' 1 (by decide)).1
  refine ⟨some ⟨(CG acc[i].1).1, 0, none⟩, (CG acc[i].1).2, ?_, ?_, ?_, ?_, ?_, ?_⟩
  · rw [Nat.zero_add]; exact e0
  · rw [Nat.zero_add]; exact e1
  · simp only; rw [h2]; exact hC.row _ h1
  · simp only; rw [h2]; exact (hC.cap _ h1).1
  · have := (hC.cap _ h1).2; unfold maxLen; omega
  · unfold Layout.wf; simp only; omega
theorem seqM_lt {l : List Blank} {x : Nat} (h : x ∈ seqM l) : x < l.length := by
  unfold seqM at h
  rw [List.mem_flatMap] at h
  obtain ⟨i, hi, hx⟩ := h
  rw [List.eq_of_mem_replicate hx]
  exact orderM_lt hi
theorem seqM_len {l : List Blank} (hc : ∀ x ∈ l, x.count ≤ 200) (hl : l.length ≤ 30) : (seqM l).length ≤ 6000 := by
  have h : seqM l = seqTo l (orderM l) (orderM l).length := by unfold seqM seqTo; rw [List.take_length]
  rw [h]
  have := seqTo_len (l := l) (order := orderM l) hc (fun x hx => orderM_lt hx) (m := (orderM l).length)
  have h2 := orderM_len (l := l)
  omega
theorem start_take {stock : List Board} {t : Trim} {k : Nat} (hk : k < stock.length) : (startM stock t).take (k + 1) = (startM stock t).take k ++ [⟨[wasteC], [usableR stock[k] t]⟩] := by
  unfold startM
  rw [List.take_succ_eq_append_getElem (by simpa using hk), List.getElem_map]
theorem any_take {l : List Cut} {k : Nat} (hk : k < l.length) : (l.take (k + 1)).any isPiece = ((l.take k).any isPiece || isPiece l[k]) := by
  rw [List.take_succ_eq_append_getElem hk, List.any_append]; simp
theorem run_stepN {kerf : Int} {stock : List Board} {blanks : List Blank} {l : List Nat} {m : Nat} {S : List BS} {t : Option (List BS)} (hm : m < l.length) (h : t = runM kerf stock blanks (l.drop m) S) : t = runM kerf stock blanks (l[m] :: l.drop (m + 1)) S := by
  rw [h, List.drop_eq_getElem_cons hm]
theorem one_news {w : World} {g : Nat} {u : Value} (h : w.cell? ⟨g, 0, none⟩ = some u) : ∀ j v, [u][j]? = some v → w.cell? ((⟨g, 0, none⟩ : Addr).add j) = some v := by
  intro j v hj
  match j, hj with
  | 0, hj => injection hj with hj; subst hj; rw [addr_add]; exact h
theorem own_some {w : World} {base e k n c : Nat} {a : Option Addr} {xs : List Value} (h : w.ownsRow base e k (.slice a n c) n xs) : 0 < n → ∃ g, a = some ⟨g, 0, none⟩ := by
  intro hn
  rcases h.2 with ⟨e0, h0⟩ | ⟨g, cap, cur, e0, _⟩
  · omega
  · injection e0 with e1; exact ⟨g, e1⟩
set_option maxRecDepth 100000 in
set_option maxHeartbeats 16000000 in
theorem refGreedy_any (j : Job) (a1 : Option Addr) (c1 : Nat) (a2 : Option Addr) (c2 : Nat) (w : World) (hs : Boards.V w a1 j.stock) (hb : Blanks.V w a2 j.blanks) (hJ : JobOk j.stock j.blanks j.trim) :
    Calls Tryz.prog 49 #[.agg #[.slice a1 j.stock.length c1, .slice a2 j.blanks.length c2, .int .i64 j.trim.kerf, .int .i64 j.trim.ends, .int .i64 j.trim.sides]] w (PlanPost w (greedyM j.stock j.blanks j.trim)) := by
  obtain ⟨i0, hi0, hz0, hz1, hz2⟩ := info_parts cutss_info
  obtain ⟨j0, hj0, hy0, hy1, hy2⟩ := info_parts rectss_info
  obtain ⟨l0, hl0, hx0, hx1, hx2⟩ := info_parts layout_info
  have hlS := hJ.lenS
  have hlB := hJ.lenB
  go_enter Tryz.func49, Tryz.ntmps49
  go_upto_region 2 with fail
  refine gen_world (fun W => (∀ a u, GSt w.heap.size (w.heap.size + 1) j a1 c1 a2 c2 a u → W.cell? a = some u) ∧ (W.cell? ⟨w.heap.size + 1, 5, none⟩ = some (.slice none 0 0) ∧ W.cell? ⟨w.heap.size + 1, 6, none⟩ = some (.slice none 0 0) ∧ W.frozen? ⟨w.heap.size + 1, 5, none⟩ = false ∧ W.frozen? ⟨w.heap.size + 1, 6, none⟩ = false) ∧ Below w.heap.size w W) ?_ ?_
  · refine ⟨fun a u h => ?_, ⟨by simp [go_sem], by simp [go_sem], by simp [go_sem], by simp [go_sem]⟩, by repeat (first | exact Below.refl _ _ | (refine Below.setCell ?_ (by first | omega | (simp; omega) | (simp; done)) _) | (refine Below.alloc ?_ (by first | omega | (simp; omega) | (simp; done)) _))⟩
    rcases h with ⟨o, rfl, ho⟩ | ⟨o, rfl, ho⟩ <;> (match o, ho with
      | 0, ho => (injection ho with ho; rw [← ho]; simp [go_sem])
      | 1, ho => (injection ho with ho; rw [← ho]; simp [go_sem])
      | 2, ho => (injection ho with ho; rw [← ho]; simp [go_sem])
      | 3, ho => (injection ho with ho; rw [← ho]; simp [go_sem])
      | 4, ho => (injection ho with ho; rw [← ho]; simp [go_sem]))
  rintro W ⟨hgs, ⟨d5, d6, f5, f6⟩, hbW⟩
  obtain ⟨gj, hgj⟩ : ∃ g, g = w.heap.size := ⟨_, rfl⟩
  obtain ⟨gd, hgd⟩ : ∃ g, g = w.heap.size + 1 := ⟨_, rfl⟩
  have HB0 := Lib.hid (build_fresh (w := W) (base := w.heap.size) (gd := gd) (St := GSt gj gd j a1 c1 a2 c2) (by omega) (by rw [hgd]; exact d5) (by rw [hgd]; exact d6) (by rw [hgd]; exact f5) (by rw [hgd]; exact f6) (fun a u h => by
    rw [← hgd, ← hgj] at hgs
    refine ⟨?_, hgs a u h, ?_, ?_⟩
    · rcases h with ⟨o, rfl, ho⟩ | ⟨o, rfl, ho⟩ <;> rfl
    · rcases h with ⟨o, rfl, ho⟩ | ⟨o, rfl, ho⟩
      · intro e; injection e with e1 e2; omega
      · have hol : o < 5 := (List.getElem?_eq_some_iff.1 ho).1
        intro e; injection e with e1 e2; omega
    · rcases h with ⟨o, rfl, ho⟩ | ⟨o, rfl, ho⟩
      · intro e; injection e with e1 e2; omega
      · have hol : o < 5 := (List.getElem?_eq_some_iff.1 ho).1
        intro e; injection e with e1 e2; omega))
  have HW := Lib.hid hbW
  have hgjw : w.heap.size ≤ gj := by omega
  have hgdw : w.heap.size ≤ gd := by omega
  rw [← hgd, ← hgj]
  clear hgs d5 d6 f5 f6 hbW hgj hgd
  have q0 := HB0.out.st (a := ⟨gj, 0, none⟩) (.inl (newSt_at (j := 0) rfl))
  go_wp2_with fail
  clear q0
  go_loopw [5] (fun iv wr => ∃ (k : Nat) (V : Nat → Value), k ≤ j.stock.length ∧ iv = .int .i64 k ∧ Hid (Build wr w.heap.size gd (handsOf ((startM j.stock j.trim).take k)) (rowVals V 0 k) (rowVals V 1 k) (GSt gj gd j a1 c1 a2 c2) V) ∧ Below w.heap.size w wr) (fun iv _ => j.stock.length - (intOf iv).toNat)
  case atStart => exact ⟨0, _, Nat.zero_le _, rfl, HB0, HW.out⟩
  case round =>
    clear HB0 HW
    obtain ⟨k, V, hk, rfl, HB, hbr⟩ := hrel
    have HBR := Lib.hid hbr
    have q0 := HB.out.st (a := ⟨gj, 0, none⟩) (.inl (newSt_at (j := 0) rfl))
    have hz := hbr.size
    by_cases hlt : k < j.stock.length
    · have hki : (k : Int) < (j.stock.length : Int) := by omega
      have HTK := Lib.hid (start_take (t := j.trim) hlt)
      have HLT := Lib.hid hlt
      have HLEN := Lib.hid (show ((startM j.stock j.trim).take k).length = k by rw [List.length_take]; simp [startM]; omega)
      -- the row of cuts
      have hown1 : (wr.alloc (.cells #[.bool false, .int .i64 0, .int .i64 0, .int .i64 0, .int .i64 (-1)] 121)).ownsRow w.heap.size 121 5 (.slice (some ⟨wr.heap.size, 0, none⟩) 1 1) 1 ([wasteC].flatMap cellsC) := World.ownsRow_lit wr #[.bool false, .int .i64 0, .int .i64 0, .int .i64 0, .int .i64 (-1)] 1 hz (by decide) rfl
      have hB1 := HB.out.hand (s := handC [wasteC]) rfl ((Below.refl wr.heap.size wr).alloc (Nat.le_refl _) (.cells #[.bool false, .int .i64 0, .int .i64 0, .int .i64 0, .int .i64 (-1)] 121)) hown1 (fun g hg => by cases hg; exact Nat.le_refl _)
      have HB1 := Lib.hid (hB1.keep ((Below.refl _ _).alloc (Nat.le_refl _) (.cells #[.slice (some ⟨wr.heap.size, 0, none⟩) 1 1] 108)))
      have HOW := Lib.hid HB1.out.ownC
      have HU0 := Lib.hid (show upd V ((handsOf ((startM j.stock j.trim).take k)).length + 1 + 1) (.slice (some ⟨wr.heap.size, 0, none⟩) 1 1) 0 = V 0 from upd_ne _ _ (by omega))
      rw [rowVals_len, HU0.out] at HOW
      have c5 := HB.out.c5
      clear hown1 hB1 hbr
      go_upto_region 6 with (at_builtin; refine wpList_append_here _ rfl _ _ 157 rfl w.heap.size 108 i0 (.slice none 0 0) 1 24 Tryz.underlying157 hi0 hz0 hz1 hz2 rfl (by decide) _ k _ rfl HOW.out ⟨wr.heap.size + 1, 0, none⟩ 1 1 [.slice (some ⟨wr.heap.size, 0, none⟩) 1 1] rfl rfl (news_of _ _ _ _ (by simp)) (by simp [Value.oneCell']) (by decide) (by simp only [maxLen]; omega) (by omega) (by simp; omega) ?_; intro vc wC ho3 hg3 hv3; obtain ⟨ac3, cc3, rfl, -, -⟩ := own_slice ho3; have HO3 := Lib.hid ho3; have HG3 := Lib.hid hg3; have hap := HB1.out.appC ho3 (by rw [HU0.out]; exact hg3) (by rw [HU0.out]; exact hv3); have hc5 := hap.1.1; have hf5 := hap.1.2; have HAP := Lib.hid hap.2.2; clear ho3 hg3 hv3 hap)
      have HB2 := Lib.hid (((HBR.out.alloc hz _).alloc (by simp; omega) _).grown HG3.out (by simp; omega) (fun q hq => (HOW.out.lt q (by exact hq)).1))
      obtain ⟨V1, hV1⟩ := build_mid HAP.out HLEN.out
      refine gen_world (fun W => Build W w.heap.size gd (handsOf ((startM j.stock j.trim).take k) ++ [handC [wasteC]]) (rowVals V1 0 (k + 1)) (rowVals V1 1 k) (GSt gj gd j a1 c1 a2 c2) V1 ∧ Below w.heap.size w W) ⟨hV1, HB2.out.setCell hgdw _⟩ ?_
      clear HAP HB2 HO3 HG3 hc5 hf5 hV1 HOW HB1 c5 q0 HB HBR HU0
      rintro W1 ⟨hB1, hb1⟩
      have HB := Lib.hid hB1
      have HBW := Lib.hid hb1
      have hz1 := hb1.size
      clear hB1 hb1 hz
      obtain ⟨bs, os, ad, cd, hal, ⟨n0, n1, n2, n3, n4, n5, n6, n7⟩, -, -, -⟩ := hs.at' HLT.out
      have HAL := Lib.hid hal
      clear hal
      have hsz := hJ.size _ (List.getElem_mem HLT.out)
      generalize j.stock[k] = b at *
      obtain ⟨u, hu⟩ : ∃ u, usableR b j.trim = u := ⟨_, rfl⟩
      rw [hu] at HTK
      have HU := Lib.hid hu
      clear hu
      have k6 : ∀ y : KW (fun W => Below w.heap.size w W ∧ W.cell? ⟨gd, 6, none⟩ = some (V1 1) ∧ ∀ a u, GSt gj gd j a1 c1 a2 c2 a u → W.cell? a = some u), y.w.cell? ⟨gd, 6, none⟩ = some (V1 1) := fun y => y.ok.2.1
      have kj : ∀ y : KW (fun W => Below w.heap.size w W ∧ W.cell? ⟨gd, 6, none⟩ = some (V1 1) ∧ ∀ a u, GSt gj gd j a1 c1 a2 c2 a u → W.cell? a = some u), (y.w.cell? ⟨gj, 0, none⟩ = some (.slice (some ⟨bs, os, none⟩) j.stock.length c1) ∧ y.w.cell? ⟨gj, 2, none⟩ = some (.int .i64 j.trim.kerf)) ∧ y.w.cell? ⟨gj, 3, none⟩ = some (.int .i64 j.trim.ends) ∧ y.w.cell? ⟨gj, 4, none⟩ = some (.int .i64 j.trim.sides) := fun y => ⟨⟨(y.ok.2.2 _ _ (.inl (newSt_at (j := 0) rfl))).trans (by rw [HAL.out]), y.ok.2.2 _ _ (.inl (newSt_at (j := 2) rfl))⟩, y.ok.2.2 _ _ (.inl (newSt_at (j := 3) rfl)), y.ok.2.2 _ _ (.inl (newSt_at (j := 4) rfl))⟩
      have kb : ∀ y : KW (fun W => Below w.heap.size w W ∧ W.cell? ⟨gd, 6, none⟩ = some (V1 1) ∧ ∀ a u, GSt gj gd j a1 c1 a2 c2 a u → W.cell? a = some u), ((y.w.cell? ⟨bs, os + k * 8, none⟩ = some (.string b.name) ∧ y.w.cell? ⟨bs, os + k * 8 + 1, none⟩ = some (.string b.species)) ∧ (y.w.cell? ⟨bs, os + k * 8 + 2, none⟩ = some (.int .i64 b.length) ∧ y.w.cell? ⟨bs, os + k * 8 + 3, none⟩ = some (.int .i64 b.width))) ∧ ((y.w.cell? ⟨bs, os + k * 8 + 4, none⟩ = some (.int .i64 b.thick) ∧ y.w.cell? ⟨bs, os + k * 8 + 5, none⟩ = some (.int .i64 b.cut)) ∧ y.w.cell? ⟨bs, os + k * 8 + 6, none⟩ = some (.int .i64 b.moisture) ∧ y.w.cell? ⟨bs, os + k * 8 + 7, none⟩ = some (.slice ad b.defects.length cd)) := fun y => ⟨⟨⟨cell_keep y.ok.1 n0, cell_keep y.ok.1 n1⟩, cell_keep y.ok.1 n2, cell_keep y.ok.1 n3⟩, ⟨cell_keep y.ok.1 n4, cell_keep y.ok.1 n5⟩, cell_keep y.ok.1 n6, cell_keep y.ok.1 n7⟩
      haveI m1 : Nonempty (KW (fun W => Below w.heap.size w W ∧ W.cell? ⟨gd, 6, none⟩ = some (V1 1) ∧ ∀ a u, GSt gj gd j a1 c1 a2 c2 a u → W.cell? a = some u)) := ⟨⟨W1, HBW.out, HB.out.c6, fun a u h => HB.out.st h⟩⟩
      refine wp_region_tree (fun w' => ∃ y : KW (fun W => Below w.heap.size w W ∧ W.cell? ⟨gd, 6, none⟩ = some (V1 1) ∧ ∀ a u, GSt gj gd j a1 c1 a2 c2 a u → W.cell? a = some u), w' = y.w) 16 (.take 0 (.take 1 (.take 2 (.take 3 (.take 4 (.take 5 (.take 6 (.take 7 (.take 8 (.take 9 (.take 10 (.take 11 (.one 12 (.one 13 (.one 14 (.one 15 .done)))))))))))))))) (by kernel_rfl) (by kernel_rfl) (KW.mk' ⟨HBW.out.drew, HB.out.c6, fun a u h => HB.out.st h⟩) ?_
      have HB5 := Lib.hid (HB.out.keep (w' := W1.drew) (Below.refl _ _).drew)
      have HBW5 := Lib.hid HBW.out.drew
      have hz5 : w.heap.size ≤ W1.drew.heap.size := hz1
      clear HB HBW n0 n1 n2 n3 n4 n5 n6 n7
      generalize W1.drew = w5 at *
      repeat (refine wpTree_take ?_; simp only [nthOp]; (first | go_big_quiet_step (fail) | quiet_step (fail)); refine wpQuiet_nil ?_)
      refine wpTree_one ?_
      simp only [nthOp]
      go_wp2_with (go_at_call 34; refine (refUsable_is b j.trim u ad cd _ HU.out (by omega) (by have := hJ.trim; omega)).mono ?_; rintro e w6 ⟨rfl, hb6⟩; have HB6 := Lib.hid (HB5.out.keep hb6); have HBW6 := Lib.hid (HBW5.out.trans (hb6.mono hz5)); clear hb6)
      have hz6 := HBW6.out.size
      refine One_mk (KW.mk' ⟨HBW6.out, HB6.out.c6, fun a u h => HB6.out.st h⟩) (wpTree_one ?_)
      simp only [nthOp]
      go_wp2_with fail
      obtain ⟨g1, hg1⟩ : ∃ g, g = w6.heap.size := ⟨_, rfl⟩
      rw [← hg1]
      refine gen_any (G := fun W' => One _ _ _ _ W') (fun W' => Build W' w.heap.size gd (handsOf ((startM j.stock j.trim).take k) ++ [handC [wasteC]] ++ [handR [u]]) (rowVals V1 0 (k + 1)) (rowVals V1 1 k) (GSt gj gd j a1 c1 a2 c2) (upd V1 ((handsOf ((startM j.stock j.trim).take k) ++ [handC [wasteC]]).length + 1 + 1) (.slice (some ⟨g1, 0, none⟩) 1 1)) ∧ Below w.heap.size w W') ⟨by
        rw [hg1]
        exact HB6.out.hand (s := handR [u]) rfl ((Below.refl w6.heap.size w6).alloc (Nat.le_refl _) _) (World.ownsRow_lit w6 #[.int .i64 u.x1, .int .i64 u.y1, .int .i64 u.x2, .int .i64 u.y2] 1 hz6 (by decide) rfl) (fun g hg => by cases hg; exact Nat.le_refl _), HBW6.out.alloc hz6 _⟩ ?_
      clear hg1 HB6 HBW6 hz6 HB5 HBW5
      rintro w7 ⟨hB7, hb7⟩
      have HB7 := Lib.hid hB7
      have HBW7 := Lib.hid hb7
      have hz7 := hb7.size
      have HV1 := Lib.hid (show (upd V1 ((handsOf ((startM j.stock j.trim).take k) ++ [handC [wasteC]]).length + 1 + 1) (.slice (some ⟨g1, 0, none⟩) 1 1)) 1 = V1 1 from upd_ne _ _ (by omega))
      clear hB7 hb7
      refine One_mk (KW.mk' ⟨HBW7.out, HB7.out.c6.trans (by rw [HV1.out]), fun a u h => HB7.out.st h⟩) (wpTree_one ?_)
      simp only [nthOp]
      go_wp2_with fail
      obtain ⟨g2, hg2⟩ : ∃ g, g = w7.heap.size := ⟨_, rfl⟩
      rw [← hg2]
      refine gen_any (G := fun W' => One _ _ _ _ W') (fun W' => Build W' w.heap.size gd (handsOf ((startM j.stock j.trim).take k) ++ [handC [wasteC]] ++ [handR [u]]) (rowVals V1 0 (k + 1)) (rowVals V1 1 k) (GSt gj gd j a1 c1 a2 c2) (upd V1 ((handsOf ((startM j.stock j.trim).take k) ++ [handC [wasteC]]).length + 1 + 1) (.slice (some ⟨g1, 0, none⟩) 1 1)) ∧ W'.cell? ⟨g2, 0, none⟩ = some (.slice (some ⟨g1, 0, none⟩) 1 1) ∧ Below w.heap.size w W') ⟨HB7.out.keep ((Below.refl _ _).alloc (Nat.le_refl _) _), by rw [hg2]; simp [go_sem], HBW7.out.alloc hz7 _⟩ ?_
      clear hg2 HB7 HBW7 hz7
      rintro w8 ⟨hB8, hc8, hb8⟩
      have HB8 := Lib.hid hB8
      have HBW8 := Lib.hid hb8
      have hz8 := hb8.size
      have HOW8 := Lib.hid hB8.ownR
      rw [rowVals_len, HV1.out] at HOW8
      have HC8 := Lib.hid hc8
      clear hB8 hb8
      refine One_mk (KW.mk' ⟨HBW8.out, HB8.out.c6.trans (by rw [HV1.out]), fun a u h => HB8.out.st h⟩) (wpTree_one ?_)
      simp only [nthOp]
      go_wp2_with (at_builtin; refine wpList_append_here _ rfl _ _ 158 rfl w.heap.size 84 j0 (.slice none 0 0) 1 24 Tryz.underlying158 hj0 hy0 hy1 hy2 rfl (by decide) _ k _ rfl HOW8.out ⟨g2, 0, none⟩ 1 1 [.slice (some ⟨g1, 0, none⟩) 1 1] rfl rfl (one_news hc8) (by simp [Value.oneCell']) (by decide) (by simp only [maxLen]; omega) (by omega) hz8 ?_; intro vr wR ho3 hg3 hv3; obtain ⟨ac3, cc3, rfl, -, -⟩ := own_slice ho3; have HG3 := Lib.hid hg3; have hap := HB8.out.appR ho3 (by rw [HV1.out]; exact hg3) (by rw [HV1.out]; exact hv3); have hc6 := hap.1.1; have hf6 := hap.1.2; have HST := Lib.hid hap.2.1; have HAP := Lib.hid hap.2.2; clear ho3 hg3 hv3 hap)
      have HBW9 := Lib.hid (HBW8.out.grown HG3.out hz8 (fun q hq => (HOW8.out.lt q (by exact hq)).1))
      rw [HV1.out] at hc6
      refine One_mk (KW.mk' ⟨HBW9.out, hc6, HST.out⟩) (wpTree_done ?_)
      simp only [List.drop_succ_cons, List.drop_zero]
      have HEND := Lib.hid (build_end HAP.out HLEN.out)
      clear HAP HB8 HOW8 HG3 HV1 HC8 hc8 HBW8 k6 kj kb m1 HST
      go_wp2_with fail
      refine NP_mk ?_
      go_wp2_with fail
      obtain ⟨V2, hV2⟩ := HEND.out
      go_roundw
      case rel => exact ⟨k + 1, V2, HLT.out, by have := HLT.out; go_num, Lib.hid (by rw [HTK.out]; exact hV2), HBW9.out.setCell hgdw _⟩
      case measure => have := HLT.out; simp [intOf]; omega
    · have hki : ¬ (k : Int) < (j.stock.length : Int) := by omega
      have hkn : k = j.stock.length := by omega
      have hSL : (startM j.stock j.trim).length = j.stock.length := by simp [startM]
      have hB := HB.out
      rw [List.take_of_length_le (by omega), show k = (startM j.stock j.trim).length by omega] at hB
      obtain ⟨gC, gR, cC, cR, hD⟩ := hB.desk'
      have HD := Lib.hid hD
      have HSL := Lib.hid hSL
      have q1 := HB.out.st (a := ⟨gj, 1, none⟩) (.inl (newSt_at (j := 1) rfl))
      clear hB hD hkn hSL hbr
      have HBV := Lib.hid (hb.keep HBR.out)
      go_upto_region 8 with (go_at_call 94; refine (refSeq_any j.blanks a2 c2 _ HBV.out hlB hJ.want).mono ?_; rintro e w3 ⟨v, rfl, hvo, hb3⟩; have HVO := Lib.hid hvo; have HB3 := Lib.hid hb3; clear hvo hb3)
      clear q0 q1
      obtain ⟨St2, hSt2⟩ : ∃ St2 : Addr → Value → Prop, St2 = fun a u => (GSt gj gd j a1 c1 a2 c2 a u ∨ (0 < (startM j.stock j.trim).length ∧ ((a = ⟨gd, 5, none⟩ ∧ u = .slice (some ⟨gC, 0, none⟩) (startM j.stock j.trim).length cC) ∨ (a = ⟨gd, 6, none⟩ ∧ u = .slice (some ⟨gR, 0, none⟩) (startM j.stock j.trim).length cR)))) ∨ ∃ g i, v.ownBlock = some g ∧ a = ⟨g, i, none⟩ ∧ ((seqM j.blanks).map encN)[i]? = some u := ⟨_, rfl⟩
      have HD3 := Lib.hid (show Desk w3 w.heap.size (rSlots gC gR 0 (startM j.stock j.trim)) St2 by
        rw [hSt2]
        refine HD.out.more HB3.out ?_
        rintro a u ⟨g, i, hg, rfl, hx⟩
        have hc := HVO.out.cells hg i u hx
        rw [addr_add, Nat.zero_add] at hc
        exact ⟨rfl, (HVO.out.lt g hg).1, hc⟩)
      have HRS := Lib.hid (show RefSt St2 gd gC gR (startM j.stock j.trim).length cC cR j.trim.kerf by
        rw [hSt2]
        exact ⟨.inl (.inl (.inr (newSt_at (j := 2) rfl))), fun hn => .inl (.inr ⟨hn, .inl ⟨rfl, rfl⟩⟩), fun hn => .inl (.inr ⟨hn, .inr ⟨rfl, rfl⟩⟩)⟩)
      have HRJ := Lib.hid (show RefJ St2 gd j a1 c1 a2 c2 by
        rw [hSt2]
        exact ⟨.inl (.inl (.inr (newSt_at (j := 0) rfl))), .inl (.inl (.inr (newSt_at (j := 1) rfl))), .inl (.inl (.inr (newSt_at (j := 3) rfl))), .inl (.inl (.inr (newSt_at (j := 4) rfl)))⟩)
      have HJ0 := Lib.hid (show St2 ⟨gj, 0, none⟩ (.slice a1 j.stock.length c1) by rw [hSt2]; exact .inl (.inl (.inl (newSt_at (j := 0) rfl))))
      have HSV := Lib.hid (show ∀ g, v.ownBlock = some g → ∀ i u, ((seqM j.blanks).map encN)[i]? = some u → St2 ⟨g, i, none⟩ u by
        rw [hSt2]
        exact fun g hg i u hu => .inr ⟨g, i, hg, rfl, hu⟩)
      have HBW3 := Lib.hid (HBR.out.trans (HB3.out.mono hz))
      have HA0 := Lib.hid (allOk_start hJ)
      have HR0 := Lib.hid (show runM j.trim.kerf j.stock j.blanks (seqM j.blanks) (startM j.stock j.trim) = runM j.trim.kerf j.stock j.blanks ((seqM j.blanks).drop 0) (startM j.stock j.trim) from rfl)
      have HSQL := Lib.hid (seqM_len (l := j.blanks) (fun x hx => (hJ.want x hx).2.2) hlB)
      have HSQM := Lib.hid (fun x (hx : x ∈ seqM j.blanks) => seqM_lt hx)
      have hcw := hJ.want
      obtain ⟨av, cv, rfl, -, -⟩ := own_slice HVO.out
      clear hSt2 HD HBV HB HB3
      obtain ⟨sq, hsq⟩ : ∃ x, x = seqM j.blanks := ⟨_, rfl⟩
      rw [← hsq] at HVO HSV HR0 HSQL HSQM ⊢
      have HSQ := Lib.hid hsq
      clear hsq
      have HVO := Lib.hid (own_some HVO.out)
      go_wp2_with fail
      go_loopw [7] (fun mv wr => ∃ (m : Nat) (S : List BS), m ≤ sq.length ∧ mv = .int .i64 m ∧ Hid (runM j.trim.kerf j.stock j.blanks sq (startM j.stock j.trim) = runM j.trim.kerf j.stock j.blanks (sq.drop m) S) ∧ Hid (AllOk (6 * m + 1) S) ∧ Hid (S.length = j.stock.length) ∧ Hid (Desk wr w.heap.size (rSlots gC gR 0 S) St2) ∧ Below w.heap.size w wr) (fun mv _ => sq.length - (intOf mv).toNat)
      case atStart => exact ⟨0, _, Nat.zero_le _, rfl, HR0, HA0, HSL, HD3, HBW3.out⟩
      case round =>
        clear HR0 HA0 HD3 HBW3
        obtain ⟨m, S, hm, rfl, HRUN, HAS, HSLN, HDS, hbr⟩ := hrel
        have HBM := Lib.hid hbr
        clear hbr
        by_cases hltm : m < sq.length
        · have hmi : (m : Int) < (sq.length : Int) := by omega
          obtain ⟨gs, hgs⟩ := HVO.out (by omega)
          subst hgs
          obtain ⟨i, hi⟩ : ∃ i, i = sq[m] := ⟨_, rfl⟩
          have c0 := HDS.out.cell (HSV.out gs rfl m (encN i) (by rw [List.getElem?_map, List.getElem?_eq_getElem hltm, ← hi]; rfl))
          have hib : i < j.blanks.length := by rw [hi]; exact HSQM.out _ (List.getElem_mem hltm)
          have HSTEP := Lib.hid (run_stepN hltm HRUN.out)
          rw [← hi] at HSTEP
          have hwi := (hcw _ (List.getElem_mem hib))
          obtain ⟨want, hwant⟩ : ∃ b, j.blanks[i] = b := ⟨_, rfl⟩
          rw [hwant] at hwi
          have hbl : bl j.blanks i = want := by unfold bl; rw [List.getD_eq_getElem?_getD, List.getElem?_eq_getElem hib, ← hwant]; rfl
          have hm6 : m ≤ 6000 := by have := HSQL.out; omega
          have HRS2 := Lib.hid (show RefSt St2 gd gC gR S.length cC cR j.trim.kerf by rw [HSLN.out, ← HSL.out]; exact HRS.out)
          have HPUT := Lib.hid (fun x h => HAS.out.put (kerf := j.trim.kerf) (stock := j.stock) (w := bl j.blanks i) (number := (i : Int)) (x := x) (by omega) HSLN.out hJ.trim.1 (by rw [hbl]; omega) (by rw [hbl]; omega) (by omega) h)
          have HPC := Lib.hid (rput_any gd gC gR cC cR w.heap.size (6 * m + 1) S St2 j a1 c1 a2 c2 i want wr HDS.out HRS2.out HRJ.out HSLN.out (hs.keep HBM.out) (hb.keep HBM.out) HBM.out.size hib hwant HAS.out.good (by omega) hJ)
          rw [putAll_scan, ← hbl] at HPC
          have hc0 : wr.cell? ⟨gs, m, none⟩ = some (.int .i64 (i : Int)) := c0
          have HLM := Lib.hid hltm
          clear hi c0 hwant hbl hltm hm
          cases hsc : scan (putF j.trim.kerf j.stock (bl j.blanks i) i S) j.stock.length 0 with
          | none =>
            rw [hsc] at HPC
            have HN := Lib.hid (run_none HSTEP.out hsc)
            clear hsc
            go_wp2_with (go_at_call 95; refine HPC.out.mono ?_; rintro e w6 ⟨rfl, hD6, hb6⟩; have HB6 := Lib.hid hb6; clear hD6 hb6)
            go_ret2
            exact PlanPost.empty (greedyM_none (by rw [← HSQ.out]; exact HN.out)) (HBM.out.trans HB6.out)
          | some x =>
            rw [hsc] at HPC
            have HN := Lib.hid (run_some HSTEP.out hsc)
            have HP := Lib.hid (HPUT.out x hsc)
            clear hsc HPUT
            go_wp2_with (go_at_call 95; refine HPC.out.mono ?_; rintro e w6 ⟨rfl, hD6, hb6⟩; have HD6 := Lib.hid hD6; have HB6 := Lib.hid hb6; clear hD6 hb6)
            go_roundw
            case rel => exact ⟨m + 1, _, HLM.out, by have := HLM.out; go_num, HN, Lib.hid (HP.out.1.mono (by omega)), Lib.hid HP.out.2, HD6, HBM.out.trans HB6.out⟩
            case measure => have := HLM.out; simp [intOf]; omega
        · have hmi : ¬ (m : Int) < (sq.length : Int) := by omega
          have HRR := Lib.hid (show runM j.trim.kerf j.stock j.blanks sq (startM j.stock j.trim) = some S by rw [HRUN.out, List.drop_of_length_le (by omega)]; rfl)
          have hm6 : m ≤ 6000 := by have := HSQL.out; omega
          obtain ⟨CG, hC⟩ := HDS.out.cutsR HAS.out
          have HC := Lib.hid hC
          have HO0 := Lib.hid (show OutOk S 0 [] from ⟨Nat.le_refl _, fun p hp => absurd hp (by simp)⟩)
          have HOUT0 := Lib.hid (show outGo 0 S [] = outGo 0 (S.drop 0) [] from rfl)
          clear hC HRUN hm
          have j0' := HDS.out.cell HJ0.out
          go_wp2_with fail
          clear j0'
          obtain ⟨wo4, rfl⟩ : ∃ wo4 : World, wo4 = wr := ⟨_, rfl⟩
          have HOW0 := Lib.hid (World.ownsRow_nil wo4 wo4.heap.size 110 2)
          go_loopw [8, 9] (fun o iv wr => ∃ (q : Nat) (acc : List (Nat × List Cut)), q ≤ j.stock.length ∧ iv = .int .i64 q ∧ Hid (outGo 0 S [] = outGo q (S.drop q) acc) ∧ Hid (OutOk S q acc) ∧ Hid (wr.ownsRow wo4.heap.size 110 2 o acc.length (acc.flatMap (cellsL CG))) ∧ Below wo4.heap.size wo4 wr) (fun _ iv _ => j.stock.length - (intOf iv).toNat)
          case atStart => exact ⟨0, [], Nat.zero_le _, rfl, HOUT0, HO0, HOW0, Below.refl _ _⟩
          case round =>
            clear HOUT0 HO0 HOW0
            obtain ⟨q, acc, hq, rfl, HOUT, HOK, HOWN, hbr⟩ := hrel
            have HBQ := Lib.hid hbr
            have hzr := hbr.size
            have j0' := cell_keep hbr (HDS.out.cell HJ0.out)
            by_cases hlt5 : q < j.stock.length
            · have hqS : q < S.length := by rw [HSLN.out]; exact hlt5
              have hqi : (q : Int) < (j.stock.length : Int) := by omega
              have l5 := cell_keep hbr (HDS.out.cell (HRS.out.c (by rw [HSL.out]; omega)))
              rw [HSL.out] at l5
              have c2' := cell_keep hbr (HC.out.cell q hqS)
              have HROW := Lib.hid ((HC.out.row q hqS).keep hbr)
              have hcap := HC.out.cap q hqS
              have HBG := Lib.hid (fun h => out_big (acc := acc) hqS HOUT.out h)
              have HUS := Lib.hid (fun h h' => out_used (acc := acc) hqS HOUT.out h h')
              have HFR := Lib.hid (fun h h' => out_free (acc := acc) hqS HOUT.out h h')
              have HADD := Lib.hid (HOK.out.add hqS)
              have HQL := Lib.hid (show q < j.stock.length ∧ j.stock.length ≤ 100 from ⟨hlt5, hlS⟩)
              clear hbr
              obtain ⟨cs, hcs⟩ : ∃ cs, cs = (S.getD q default).cuts := ⟨_, rfl⟩
              rw [← hcs] at c2' hcap HROW HBG HUS HFR HADD
              clear hcs
              by_cases hbig : 400 < cs.length
              · have hbi : (cs.length : Int) > 400 := by omega
                have HN := Lib.hid (HBG.out hbig)
                go_wp2_with fail
                go_ret2
                exact PlanPost.empty (greedyM_big (by rw [← HSQ.out]; exact HRR.out) HN.out) (HBM.out.trans (HBQ.out.mono HBM.out.size))
              · have hbi : ¬ (cs.length : Int) > 400 := by omega
                have HBIG := Lib.hid hbig
                clear hbig
                go_wp2_with fail
                go_loop [10, 11] (fun uv kv => ∃ (k : Nat) (u : Bool), k ≤ cs.length ∧ kv = .int .i64 k ∧ uv = .bool u ∧ Hid (u = (cs.take k).any isPiece)) (fun _ kv => cs.length - (intOf kv).toNat)
                case atStart => exact ⟨0, false, Nat.zero_le _, rfl, rfl, Lib.hid (by simp)⟩
                case round =>
                  obtain ⟨k, u, hk', rfl, rfl, HU⟩ := hrel
                  by_cases hltk : k < cs.length
                  · have hki2 : (k : Int) < (cs.length : Int) := by omega
                    obtain ⟨bk, ok, hak, -, -, e2, -, e4, -⟩ := HROW.out.at_ hltk
                    injection hak with hak
                    injection hak with h1 h2
                    subst h1 h2
                    simp only [Nat.zero_add] at e2 e4
                    have HAT := Lib.hid (any_take hltk)
                    generalize cs[k] = c at *
                    cases u
                    · by_cases hlow : c.low = 0
                      · rw [hlow] at e2
                        by_cases hbl : c.blank ≥ 0
                        · have HN := Lib.hid (show true = (cs.take (k + 1)).any isPiece by rw [HAT.out]; unfold isPiece; rw [decide_eq_true hlow, decide_eq_true (by omega : 0 ≤ c.blank), Bool.true_and, Bool.or_true])
                          clear hlow
                          go_wp2_with fail
                          go_round
                          case rel => exact ⟨k + 1, _, by omega, by go_num, rfl, HN⟩
                          case measure => simp [intOf]; omega
                        · have HN := Lib.hid (show false = (cs.take (k + 1)).any isPiece by rw [HAT.out, ← HU.out]; unfold isPiece; rw [decide_eq_false (by omega : ¬ 0 ≤ c.blank), Bool.and_false]; rfl)
                          clear hlow
                          go_wp2_with fail
                          go_round
                          case rel => exact ⟨k + 1, _, by omega, by go_num, rfl, HN⟩
                          case measure => simp [intOf]; omega
                      · have hl' := beq_f hlow
                        have HN := Lib.hid (show false = (cs.take (k + 1)).any isPiece by rw [HAT.out, ← HU.out]; unfold isPiece; rw [decide_eq_false hlow, Bool.false_and]; rfl)
                        clear hlow
                        go_wp2_with fail
                        go_round
                        case rel => exact ⟨k + 1, _, by omega, by go_num, rfl, HN⟩
                        case measure => simp [intOf]; omega
                    · have HN := Lib.hid (show true = (cs.take (k + 1)).any isPiece by rw [HAT.out, ← HU.out]; rfl)
                      go_wp2_with fail
                      go_round
                      case rel => exact ⟨k + 1, _, by omega, by go_num, rfl, HN⟩
                      case measure => simp [intOf]; omega
                  · have hki2 : ¬ (k : Int) < (cs.length : Int) := by omega
                    have HUU := Lib.hid (show u = cs.any isPiece by
                      have h := HU.out
                      rw [List.take_of_length_le (by omega)] at h
                      exact h)
                    clear HU
                    cases u
                    · have HN := Lib.hid (HFR.out HBIG.out HUU.out.symm)
                      go_wp2_with fail
                      go_roundw
                      case rel => exact ⟨q + 1, acc, HQL.out.1, by have := HQL.out; go_num, HN, Lib.hid HOK.out.skip, HOWN, HBQ.out⟩
                      case measure => have := HQL.out; simp [intOf]; omega
                    · have HN := Lib.hid (HUS.out HBIG.out HUU.out.symm)
                      go_wp2_with (at_builtin; refine wpList_append_here _ rfl _ _ 38 rfl wo4.heap.size 110 l0 (.agg #[.int .i64 0, .slice none 0 0]) 2 32 Tryz.underlying38 hl0 hx0 hx1 hx2 rfl (by decide) _ acc.length _ rfl (HOWN.out.alloc _) ⟨wr.heap.size, 0, none⟩ 1 1 (cellsL CG (q, cs)) rfl rfl (news_of _ _ _ _ rfl) (cellsL_one CG _) (by decide) (by have := HOK.out.len; simp only [maxLen]; omega) (by have := HOK.out.len; omega) (by simp; omega) ?_; intro v7 w7 ho7 hg7 hv7; have HO7 := Lib.hid ho7; have HG7 := Lib.hid hg7; clear ho7 hg7 hv7)
                      go_roundw
                      case rel =>
                        refine ⟨q + 1, acc ++ [(q, cs)], HQL.out.1, by have := HQL.out; go_num, HN, HADD, Lib.hid ?_, (HBQ.out.alloc (by omega) _).grown HG7.out (by simp; omega) (fun k hk => own_base HOWN.out hk)⟩
                        have h := HO7.out
                        rw [List.length_append, List.flatMap_append]
                        simpa using h
                      case measure => have := HQL.out; simp [intOf]; omega
            · have hqi : ¬ (q : Int) < (j.stock.length : Int) := by omega
              have HE := Lib.hid (greedyM_some (by rw [← HSQ.out]; exact HRR.out) (out_end (by rw [HSLN.out]; omega) HOUT.out))
              obtain ⟨ao, co, rfl, hoc, hocm⟩ := own_slice HOWN.out
              have HV := Lib.hid (out_layoutsR (HC.out.keep hbr) HOK.out (by rw [HSLN.out]; exact hlS) HOWN.out)
              clear HOUT
              go_wp2_with fail
              go_ret2
              exact PlanPost.full HE.out HV.out hoc hocm (HBM.out.trans (hbr.mono HBM.out.size))
end Go.Proofs.YtepiapgcpoifpaaGreat

set_option linter.unusedVariables false
set_option linter.unusedSimpArgs false
namespace Go.Proofs.YtepiapgcpoifpaaGreat
open Go Go.RowKit

theorem cut_neq_same (x : Cut) (w : World) : (binOp .neq 121 (.agg #[.bool x.across, .int .i64 x.at_, .int .i64 x.low, .int .i64 x.high, .int .i64 x.blank]) (.agg #[.bool x.across, .int .i64 x.at_, .int .i64 x.low, .int .i64 x.high, .int .i64 x.blank])).run Tryz.prog w = .ok (.bool false) w := by
  simp [go_sem]
theorem int_neq_same (n : Int) : (n != n) = false := by simp
end Go.Proofs.YtepiapgcpoifpaaGreat
