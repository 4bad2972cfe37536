/- CheckPlan and Places of the program. -/
import Derived.Laws.EntriesVeiled
import Derived.RangeFuncLeaves
import Derived.Shelf.Abstract
import Derived.WalkKit
import Derived.OwnWalkIn
import Derived.TacticsInMore
import Derived.LoopNIn
import Derived.LoopIn
import Derived.Test.YtoelfalmmaddlaaGreatPL7
import Derived.Test.YtoelfalmmaddlaaGreatQG
set_option linter.unusedVariables false
set_option linter.unusedSimpArgs false
namespace Go.Proofs.YtoelfalmmaddlaaGreat
open Go Go.RowKit Go.Maps Go.Shelf
attribute [local go_sem] Oper.semAt_some

theorem checkedPost_out {w w' : World} {j : Job} {plan : List Layout} {pb pl x1 y1 x2 y2 E : Int} {e : Ending} (h : CheckedPost w j plan (⟨pb, pl, ⟨x1, y1, x2, y2⟩⟩, E) e w') :
    ∃ (av : Option Addr) (n cv : Nat), e = .returned (.tuple #[.slice av n cv, .agg #[.int .i64 pb, .int .i64 pl, .int .i64 x1, .int .i64 y1, .int .i64 x2, .int .i64 y2], .int .i64 E]) ∧ Below w.heap.size w w' ∧ (E ≠ 0 → av = none ∧ n = 0 ∧ cv = 0) ∧
     (E = 0 → n = plan.length ∧ ∃ xs : List LaidC, xs.map LaidC.lay = plan ∧ Laids.V w' av xs ∧ ∀ x ∈ xs, LaidR j w' x) := h

/-! Gathering the pieces. -/
theorem KeepsB.append {g : Nat} {A A' : World} {v v' : Value} (hc : A.cell? ⟨g, 0, none⟩ = some v) (hne : v.ownBlock ≠ some g) (hg : A.grownBy A' v.ownBlock) (hv : v'.ownBlock = v.ownBlock ∨ v'.ownBlock = some A.heap.size) (hlt : ∀ k, v'.ownBlock = some k → k < A'.heap.size) : KeepsB g A (A'.setCell ⟨g, 0, none⟩ v') := fun hval => by
 have hz := block_lt_of_cell hc
 simp only at hz
 have hcA : A'.cell? ⟨g, 0, none⟩ = some v := hg.cell hc (fun e => hne e.symm)
 have ho : ownAt g A = v.ownBlock := by unfold ownAt; rw [hc]; rfl
 have ho' : ownAt g (A'.setCell ⟨g, 0, none⟩ v') = v'.ownBlock := by unfold ownAt; rw [World.cell?_setCell_same _ _ _ hcA]; rfl
 have hs : ∀ k, k ≠ g → (A'.setCell ⟨g, 0, none⟩ v').heap[k]? = A'.heap[k]? := fun k hk => by
  show (A'.heap.modify g _)[k]? = _
  rw [Array.getElem?_modify, if_neg (fun e => hk e.symm)]
 refine ⟨⟨by rw [World.size_setCell]; exact Nat.lt_of_lt_of_le hz hg.size, fun k e => by rw [ho'] at e; rw [World.size_setCell]; exact hlt k e⟩, by rw [World.size_setCell]; exact hg.size, fun k o h1 h2 h3 h4 => ?_, fun k e => ?_⟩
 ·rw [hs k h3, hg.block k (Array.getElem?_eq_some_iff.1 h1).1 (fun e => h4 (by rw [ho]; exact e.symm))]; exact h1
 ·rw [ho'] at e
  rw [ho]
  rcases hv with h | h
  ·rw [h] at e; exact .inl e
  ·rw [h] at e; injection e with e; exact .inr (by omega)
theorem own_cellsBlock {w : World} {base e k n : Nat} {v : Value} {xs : List Value} (h : w.ownsRow base e k v n xs) : ∀ r, v.ownBlock = some r → ∃ o : Obj, w.heap[r]? = some o ∧ o.isCells = true := fun r hr => by
 rcases h.2 with ⟨rfl, _⟩ | ⟨g, cap, cur, rfl, hb, hgg, _⟩
 ·cases hr
 ·have e : g = r := by simpa [Value.ownBlock] using hr
  subst e
  exact ⟨_, hgg, rfl⟩
theorem keepsFrom_grown {B : Nat} {W W' : World} {row : Option Nat} (hg : W.grownBy W' row) (hr : ∀ r, row = some r → ∃ o : Obj, W.heap[r]? = some o ∧ o.isCells = true) : KeepsFrom B W W' :=
 ⟨hg.size, fun k o _ hk hc => (hg.block k (Array.getElem?_eq_some_iff.1 hk).1 fun e => by
  obtain ⟨o', h1, h2⟩ := hr k e.symm
  rw [hk] at h1; cases h1; rw [h2] at hc; cases hc).trans hk⟩
theorem own_keptC {w w' : World} {base e k n : Nat} {v : Value} {xs : List Value} {row : Option Nat} (h : w.ownsRow base e k v n xs) (hg : w.grownBy w' row) (hr : ∀ r, row = some r → ∃ o : Obj, w.heap[r]? = some o ∧ o.isCells = false) : w'.ownsRow base e k v n xs :=
 h.kept hg (by
  cases hv : v.ownBlock with
  | none => exact .inl rfl
  | some g =>
   refine .inr fun e => ?_
   obtain ⟨o, h1, h2⟩ := own_cellsBlock h g hv
   obtain ⟨o', h3, h4⟩ := hr g e.symm
   rw [h1] at h3; cases h3; rw [h2] at h4; cases h4)
structure Gath (Wb : World) (gq B : Nat) (ds : List Deferred) (A : List Placed) (W : World) : Prop where
 row : ∃ v, W.cell? ⟨gq, 0, none⟩ = some v ∧ W.frozen? ⟨gq, 0, none⟩ = false ∧ W.ownsRow (gq + 1) 41 6 v A.length (A.flatMap cellsPl)
 below : Below Wb.heap.size Wb W
 marks : Marks B ds W
theorem Gath.keep {Wb : World} {gq B : Nat} {ds : List Deferred} {A : List Placed} {W W' : World} (h : Gath Wb gq B ds A W) (hb : Below W.heap.size W W') : Gath Wb gq B ds A W' := by
 obtain ⟨⟨v, h1, h2, h3⟩, h4, h5⟩ := h
 exact ⟨⟨v, cell_keep hb h1, frozen_keep hb (block_lt_of_cell h1) h2, own_keep h3 hb⟩, h4.trans (hb.mono h4.size), h5.below hb⟩
theorem Gath.own {Wb : World} {gq B base : Nat} {ds : List Deferred} {A : List Placed} {W W' : World} {row : Option Nat} (h : Gath Wb gq B ds A W) (hb : Wb.heap.size ≤ base) (hd : ∀ d ∈ ds, ∃ D, d.target = .collected D ∧ D < base)
    (hg : W.grownBy W' row) (hr : ∀ r, row = some r → base ≤ r ∧ ∃ o : Obj, W.heap[r]? = some o ∧ o.isCells = false) : Gath Wb gq B ds A W' := by
 obtain ⟨⟨v, h1, h2, h3⟩, h4, h5⟩ := h
 have hr' := fun r e => (hr r e).2
 have hn := not_row h1 hr'
 exact ⟨⟨v, hg.cell h1 hn, (World.frozen?_of_block (a := ⟨gq, 0, none⟩) (hg.block gq (block_lt_of_cell h1) hn)).trans h2, own_keptC h3 hg hr'⟩, h4.grown hg h4.size (fun r e => by have := (hr r e).1; omega), h5.grown hg (fun r e => (hr r e).1) hd⟩
section
variable {F : Fence} {N : Nat} {P : Program}
theorem wpListIn_append_here (w : World) {ops : Array Oper} {rest : List Oper} {o : Oper} {a : Act} {Q : Exit → Act → World → Prop} (hgd : o.guard = none) (s x : Operand) (t : TypeId)
    (hop : o.op = .call { callee := .builtin .append, args := #[s, x], argTypes := #[t, t] })
    (base : Nat) (e : TypeId) (i : TypeInfo) (z : Value) (size bytes : Nat) (ht : P.underlying t = some (.slice e)) (hi : P.info? e = some i) (hz : i.zero = some z)
    (hsize : i.size = size) (hby : i.bytes = bytes) (hzs : z.cells.size = size) (hsz : 0 < size)
    (v : Value) (n : Nat) (xs : List Value) (hs : a.eval s = v) (hown : w.ownsRow base e size v n xs)
    (ad : Addr) (m c : Nat) (news : List Value) (hx : a.eval x = .slice (some ad) m c) (hl : news.length = m * size) (hnews : ∀ j u, news[j]? = some u → w.cell? (ad.add j) = some u) (h1 : ∀ u ∈ news, u.oneCell' = true) (hm : 0 < m)
    (h63 : n + m ≤ maxLen) (hbytes : (n + m) * bytes ≤ 140737488355328) (hbase : base ≤ w.heap.size)
    (h : ∀ v' w', w'.ownsRow base e size v' (n + m) (xs ++ news) → w.grownBy w' v.ownBlock → (v'.ownBlock = v.ownBlock ∨ v'.ownBlock = some w.heap.size) → wpListIn F N P ops Q rest (a.put o.dst v') w') : wpListIn F N P ops Q (o :: rest) a w := by
 refine wpListIn_plain hgd fun K hK' => ?_
 obtain ⟨v', w', hr, h2, h3, h4⟩ := run_append_here (P := P) w base t o.type e i z size bytes ht hi hz hsize hby hzs hsz v n xs hown ad m c news hl hnews h1 hm h63 hbytes hbase
 unfold Oper.wpIn
 refine ⟨?_, ?_⟩
 ·simp [Oper.about, hop, resolve, Target.leads, Sem.run_pure]
 ·rw [Oper.semAt_plain F _ _ (by rw [hop]; intro c hc'; cases hc')]
  simp [execOp, hop, resolve, invoke, builtin, hs, hx, hr, Result.andThen]
  exact hK' _ _ (h v' w' h2 h3 h4)
end
theorem Placeds.V.above {w w' : World} {a : Option Addr} {l : List Placed} (h : Placeds.V w a l) (hk : KeepsAbove 0 w w') : Placeds.V w' a l := fun hl => by
 obtain ⟨b, off, ha, hx⟩ := h hl
 refine ⟨b, off, ha, fun k x hkx => ?_⟩
 obtain ⟨⟨c0, c1⟩, ⟨c2, c3⟩, c4, c5⟩ := hx k x hkx
 exact ⟨⟨hk _ _ _ (Nat.zero_le _) c0, hk _ _ _ (Nat.zero_le _) c1⟩, ⟨hk _ _ _ (Nat.zero_le _) c2, hk _ _ _ (Nat.zero_le _) c3⟩, hk _ _ _ (Nat.zero_le _) c4, hk _ _ _ (Nat.zero_le _) c5⟩
end Go.Proofs.YtoelfalmmaddlaaGreat
/- Places of the program, with where the pieces lie. -/
set_option linter.unusedVariables false
set_option linter.unusedSimpArgs false
namespace Go.Proofs.YtoelfalmmaddlaaGreat
open Go Go.RowKit Go.Maps Go.Shelf
attribute [local go_sem] Oper.semAt_some

def PlacesR (w : World) (l : List Placed) (E : Int) (e : Ending) (w' : World) : Prop :=
 ∃ (a : Option Addr) (n c : Nat), e = .returned (.tuple #[.slice a n c, .int .i64 E]) ∧ Below w.heap.size w w' ∧ (E ≠ 0 → a = none ∧ n = 0 ∧ c = 0) ∧ (E = 0 → n = l.length ∧ Placeds.V w' a l) ∧ (∀ g o : Nat, a = some ⟨g, o, none⟩ → w.heap.size ≤ g)

set_option maxRecDepth 100000 in
set_option maxHeartbeats 8000000 in
theorem placesR_any (j : Job) (plan : List Layout) (a1 : Option Addr) (c1 : Nat) (a2 : Option Addr) (c2 : Nat) (ap : Option Addr) (cp : Nat) (w : World) (hs : Boards.V w a1 j.stock) (hsl : j.stock.length ≤ 9223372036854775807) (hb : Blanks.V w a2 j.blanks) (hbl : j.blanks.length ≤ 9223372036854775807) (hp : Layouts.V w ap plan) (hpl : plan.length ≤ 1000) (hcuts : ∀ l ∈ plan, l.cuts.length ≤ 100000) :
    Calls Tryz.prog 13 #[.agg #[.slice a1 j.stock.length c1, .slice a2 j.blanks.length c2, .int .i64 j.trim.kerf, .int .i64 j.trim.ends, .int .i64 j.trim.sides], .slice ap plan.length cp] w (PlacesR w (placesM j plan) (planE2 j plan).2) := by
 have HCK := Lib.hid (fun w' hs hb hp => checked_any j plan a1 c1 a2 c2 ap cp w' hs hsl hb hbl hp hpl hcuts)
 have HPV := Lib.hid hp
 have HSV := Lib.hid hs
 have HBV := Lib.hid hb
 obtain ⟨i0, hi0, hz0, hz1, hz2⟩ := info_parts placed_info
 obtain ⟨q, hq⟩ : ∃ q, planE2 j plan = q := ⟨_, rfl⟩
 have HQ := Lib.hid hq
 rw [hq] at HCK ⊢
 obtain ⟨⟨pb, pl, ⟨x1, y1, x2, y2⟩⟩, E⟩ := q
 clear hq hp hs hb hcuts
 refine callsIn_wide.1 (callsIn_of_wp_marks (F := Fence.wide) (n := 3) Tryz.func13 rfl trivial ?_ rfl)
 refine wpIn_wide.2 ?_
 simp only [Tryz.ntmps13, List.size_toArray, List.length_cons, List.length_nil, Nat.reduceAdd, Nat.reduceSub, Array.replicate_succ, Array.replicate_zero, List.push_toArray, List.append_toArray, List.nil_append, List.cons_append]
 go_upto_region 1 with fail
 refine gen_world (fun W => JB W w.heap.size j a1 c1 a2 c2 ∧ Below w.heap.size w W) ⟨⟨by simp [go_sem], by simp [go_sem], by simp [go_sem], by simp [go_sem], by simp [go_sem]⟩, by repeat (first | (with_reducible assumption) | exact Below.refl _ _ | (refine Below.setCell ?_ (by first | omega | (simp; omega) | (simp; done)) _) | (refine Below.alloc ?_ (by first | omega | (simp; omega) | (simp; done)) _) | (refine Below.drew ?_))⟩ ?_
 rintro W ⟨hC, hb⟩
 have HB := Lib.hid hb
 obtain ⟨gj, hgj⟩ : ∃ g, g = w.heap.size := ⟨_, rfl⟩
 rw [← hgj] at hC ⊢
 obtain ⟨k0, k1, k2, k3, k4⟩ := hC
 clear hb hgj
 go_upto_region 2 with (go_at_call 28; refine (HCK.out _ (HSV.out.keep HB.out) (HBV.out.keep HB.out) (HPV.out.keep HB.out)).mono ?_; rintro e w1 hcp; obtain ⟨av, n, cv, rfl, hb1, -, hok⟩ := checkedPost_out hcp; clear hcp; have HB1 := Lib.hid hb1; have HOK := Lib.hid hok; clear hb1 hok)
 refine gen_world (fun W2 => Below w1.heap.size w1 W2) (by repeat (first | (with_reducible assumption) | exact Below.refl _ _ | (refine Below.setCell ?_ (by first | omega | (simp; omega) | (simp; done)) _) | (refine Below.alloc ?_ (by first | omega | (simp; omega) | (simp; done)) _) | (refine Below.drew ?_))) ?_
 rintro W2 hb2
 have HB2 := Lib.hid hb2
 have HBW := Lib.hid (HB.out.trans ((HB1.out.trans (hb2.mono HB1.out.size)).mono HB.out.size))
 clear k0 k1 k2 k3 k4 hb2
 by_cases hE : E = 0
 ·subst hE
  obtain ⟨hn, xs, hxm, hlv, hxo⟩ := HOK.out rfl
  subst hn
  have hpz : (planE2 j plan).2 = 0 := by rw [HQ.out]
  obtain ⟨hej, hlay, -⟩ := plan_parts hpz
  have HEJ := Lib.hid hej
  have HPK := Lib.hid (layGo_ok hlay)
  have HXM0 := Lib.hid hxm
  have HXO := Lib.hid hxo
  have HPOK := Lib.hid (fun k hk p hp => placesTo_ok HEJ.out HPK.out k hk p hp)
  have HPLN := Lib.hid (fun k hk => placesTo_len HEJ.out HPK.out k hk)
  have HLV := Lib.hid (hlv.keep HB2.out)
  clear hpz hej hlay hxm hxo hlv HOK
  go_upto_region 5 with fail
  obtain ⟨gq, hgq⟩ : ∃ g, g = W2.heap.size := ⟨_, rfl⟩
  rw [← hgq]
  refine gen_world (fun W4 => Gath W2 gq w.heap.size [] (placesTo j plan 0) W4) ⟨⟨.slice none 0 0, by rw [hgq]; simp [go_sem], by rw [hgq]; simp [go_sem], World.ownsRow_nil _ _ _ _⟩, (Below.refl _ _).alloc (Nat.le_refl _) _, trivial⟩ ?_
  rintro W4 hct
  have HCT0 := Lib.hid hct
  have HGQ := Lib.hid hgq
  clear hct hgq
  go_wp2_with fail
  refine wp_loop_at [11, 25, 26, 27, 28, 29, 30, 36] (fun u ds wr => ∃ m : Nat, m ≤ plan.length ∧ u 25 = .int .i64 m ∧ Hid (Gath W2 gq w.heap.size ds (placesTo j plan m) wr)) (fun T => plan.length - (intOf (T.getD 25 undef)).toNat) (by simp [forget]) ⟨0, Nat.zero_le _, rfl, HCT0⟩ ?_
  rintro u ds wr K ⟨m, hm, hu, HCT⟩ hK
  have HK := Lib.hid hK
  clear hK HCT0
  simp only [forget, List.foldl_cons, List.foldl_nil, List.setIfInBounds_toArray, List.set_cons_succ, List.set_cons_zero, hu]
  have HCTB := Lib.hid HCT.out.below
  by_cases hlt : m < plan.length
  ·have hmi : (m : Int) < (plan.length : Int) := by omega
   have v2 : IntKind.i64.wrap ((m : Int) + 1) = (m : Int) + 1 := IntWalk.i64_in _ (by omega)
   have hmx : m < xs.length := by have := congrArg List.length HXM0.out; rw [List.length_map] at this; omega
   have hlay : xs[m].lay = plan[m] := by
    have h := List.getElem_of_eq HXM0.out (i := m) (by rw [List.length_map]; exact hmx)
    rwa [List.getElem_map] at h
   obtain ⟨ga, offa, haa, q0, q1, q2⟩ := (HLV.out.keep HCTB.out).at_ hmx
   have HXO1 := Lib.hid (HXO.out xs[m] (List.getElem_mem hmx))
   subst haa
   have HST := Lib.hid (placesTo_step (j := j) hlt)
   obtain ⟨x, hx⟩ : ∃ x, xs[m] = x := ⟨_, rfl⟩
   rw [hx] at q0 q1 q2 HXO1 hlay
   have HLAY := Lib.hid hlay
   clear hx hlay
   obtain ⟨⟨lb, cuts⟩, rs, al, cl, ar, cr⟩ := x
   obtain ⟨g1, g2, -⟩ := lay_okR HEJ.out HXO1.out.bd HXO1.out.ok
   have hrs : rs.length = cuts.length := by have := HXO1.out.rs; simp only at this; rw [this]; exact g1
   have hne0 : rs ≠ [] := lay_some (j := j) (l := ⟨lb, cuts⟩) (rs := rs) (Prod.ext (by simp only; exact HXO1.out.rs.symm) HXO1.out.ok)
   simp only at q0 q1 q2 g2
   rw [hrs] at q2
   have hcv : Cuts.V w1 al cuts := HXO1.out.cv
   have hrv : Rects.V w1 ar rs := HXO1.out.rv
   have hcne : cuts ≠ [] := fun e => hne0 (List.eq_nil_of_length_eq_zero (by rw [hrs, e]; rfl))
   obtain ⟨gl, ol, hal, hcx⟩ := hcv hcne
   obtain ⟨gr, or_, har, hrx⟩ := hrv hne0
   subst hal
   subst har
   have hgl0 : gl < w1.heap.size := by
    obtain ⟨c0, -⟩ := hcx 0 _ (List.getElem?_eq_getElem (List.length_pos_iff.2 hcne))
    have := block_lt_of_cell c0
    simpa using this
   have hgr0 : gr < w1.heap.size := by
    obtain ⟨c0, -⟩ := hrx 0 _ (List.getElem?_eq_getElem (List.length_pos_iff.2 hne0))
    have := block_lt_of_cell c0
    simpa using this
   have HST2 := Lib.hid (show placesTo j plan (m + 1) = placesTo j plan m ++ piecesTo ⟨lb, cuts⟩ rs cuts.length by
    rw [HST.out, ← HLAY.out]
    have := HXO1.out.rs
    simp only at this
    rw [← this])
   have HSUB := Lib.hid (show ∀ k, k ≤ cuts.length → ∀ p ∈ piecesTo ⟨lb, cuts⟩ rs k, PieceOk j p from fun k hk p hp => HPOK.out (m + 1) hlt p (by
    obtain ⟨r2, hr2⟩ := piecesTo_pre (l := ⟨lb, cuts⟩) (R := rs) hk
    rw [HST2.out]
    rw [hr2]
    exact List.mem_append_right _ (List.mem_append_left _ hp)))
   have HCX := Lib.hid hcx
   have HRX := Lib.hid hrx
   have HLN := Lib.hid (HPLN.out m hm)
   have HGL := Lib.hid (And.intro hgl0 hgr0)
   have HNE := Lib.hid (And.intro hcne hrs)
   clear hcv hrv hcx hrx hgl0 hgr0 hcne hne0 g1 HST HXO1
   go_wp2_with fail
   refine gen_world (fun W5 => Gath W2 gq w.heap.size ds (placesTo j plan m) W5) (HCT.out.keep (by repeat (first | (with_reducible assumption) | exact Below.refl _ _ | (refine Below.setCell ?_ (by first | omega | (simp; omega) | (simp; done)) _) | (refine Below.alloc ?_ (by first | omega | (simp; omega) | (simp; done)) _) | (refine Below.drew ?_)))) ?_
   rintro W5 hct5
   have HC5 := Lib.hid hct5
   clear hct5 q0 q1 q2
   obtain ⟨v5, hbx5, hfx5, hrow5⟩ := HC5.out.row
   have hgq5 : gq < W5.heap.size := by have := block_lt_of_cell hbx5; simpa using this
   have hw25 : W2.heap.size ≤ W5.heap.size := HC5.out.below.size
   have hw12 : w1.heap.size ≤ W2.heap.size := HB2.out.size
   have hw5 : w.heap.size ≤ W5.heap.size := Nat.le_trans HBW.out.size hw25
   have hb15 : Below w1.heap.size w1 W5 := HB2.out.trans (HC5.out.below.mono HB2.out.size)
   have hown5 : ownAt gq W5 = v5.ownBlock := by unfold ownAt; rw [hbx5]; rfl
   have hd5 := HC5.out.marks.lt
   refine (wpIn_wide (n := 3)).1 (wpIn_rangeBox rfl (by decide) (gf := 29) rfl trivial (enters_of Tryz.func29 (by kernel_rfl) rfl)
    (pieces_gives j gq 2 (by decide) lb cuts rs gl ol cl gr or_ cr W5 HNE.out.2 g2 (fun k h => (HCX.out k _ (List.getElem?_eq_getElem h)).keep hb15) (fun k h => (HRX.out k _ (List.getElem?_eq_getElem h)).keep hb15)
     ⟨by have := HGL.out; have := HGQ.out; omega, fun e => by rw [hown5] at e; have := own_base hrow5 e; have := HGL.out; have := HGQ.out; omega⟩
     ⟨by have := HGL.out; have := HGQ.out; omega, fun e => by rw [hown5] at e; have := own_base hrow5 e; have := HGL.out; have := HGQ.out; omega⟩
     ⟨hgq5, fun k e => by rw [hown5] at e; exact (hrow5.lt k e).2⟩ HSUB.out)
    (fun h k => h.trans k) (fun W l o o' _ h1 h2 h3 _ => KeepsB.putObj h1 h2 h3) (Below.refl _ _) (fun _ => rfl)
    (fun pre W => Gath W2 gq w.heap.size ds (placesTo j plan m ++ pre.map (·.1)) W) (fun _ _ => False)
    (fun pre A B row h hg hr => h.own hw25 hd5 hg hr) (fun pre A B row h hg hr => h) (by rw [List.map_nil, List.append_nil]; exact HC5.out) 12 (fun x g W => PlBox gq x.1 g W) (fun x g => PlBox.own) ?assign ?body ?done ?stop)
   case assign =>
    rintro l pre x W K2 hi hK2
    have HI := Lib.hid hi
    have HK2 := Lib.hid hK2
    clear hi hK2
    unfold encPiece
    gi_wp2
    obtain ⟨v6, hbx6, -⟩ := HI.out.row
    have hk3 := HK2.out W.heap.size _ ((KeepsOthers.alloc _ _).from _) (KeepsB.of_below ((Below.refl _ _).alloc (Nat.le_refl _) _)) (HI.out.keep ((Below.refl _ _).alloc (Nat.le_refl _) _)) (plBox_new (T := 41) x.1 (by have := block_lt_of_cell hbx6; simpa using this))
    simpa [encPiece] using hk3
   case body =>
    rintro l pre ⟨p, hp⟩ gP W hi ⟨⟨⟨p0, p1⟩, ⟨p2, p3⟩, p4, p5⟩, hgP⟩ hpre
    obtain ⟨v6, hbx6, hfx6, hrow6⟩ := hi.row
    have HI := Lib.hid hi
    have HROW := Lib.hid hrow6
    have hlen : (placesTo j plan m ++ pre.map (·.1)).length ≤ 900000 := by
     have h1 := HLN.out
     rw [List.length_append, List.length_map]
     omega
    obtain ⟨N0, hN0⟩ : ∃ N0, (placesTo j plan m ++ pre.map (·.1)).length = N0 := ⟨_, rfl⟩
    rw [hN0] at HROW hlen
    have HN0 := Lib.hid hN0
    obtain ⟨av6, cv6, rfl, -, -⟩ := own_slice HROW.out
    have hgqW : gq < W.heap.size := by have := block_lt_of_cell hbx6; simpa using this
    have HLT := Lib.hid (fun k e => HROW.out.lt k e)
    have HBX := Lib.hid (And.intro hbx6 hfx6)
    clear hi hrow6 hpre hN0
    unfold encPiece
    obtain ⟨pb', pl', r⟩ := p
    simp only at p0 p1 p2 p3 p4 p5
    gi_wp2_with (gi_at_builtin; refine wpListIn_append_here _ rfl _ _ 54 rfl (gq + 1) 41 i0 (.agg #[.int .i64 0, .int .i64 0, .int .i64 0, .int .i64 0, .int .i64 0, .int .i64 0]) 6 48 Tryz.underlying54 hi0 hz0 hz1 hz2 rfl (by decide) _ N0 _ rfl (own_keep HROW.out ((Below.refl _ _).alloc (Nat.le_refl _) _)) ⟨W.heap.size, 0, none⟩ 1 1 (cellsPl ⟨pb', pl', r⟩) rfl rfl (news_of (cellsPl ⟨pb', pl', r⟩) _ _ _ rfl) (cellsPl_one _) (by decide) (by simp only [maxLen]; omega) (by omega) (by simp; omega) ?_; intro v9 w9 ho9 hg9 hv9; obtain ⟨a9, c9, rfl, -, -⟩ := own_slice ho9; have HO9 := Lib.hid ho9; have HG9 := Lib.hid hg9; have HV9 := Lib.hid hv9; have hbx9 := hg9.cell (cell_keep ((Below.refl _ _).alloc (Nat.le_refl _) _) HBX.out.1) (fun e => by have := (HLT.out _ e.symm).1; simp only at this; omega); have hfx9 := (World.frozen?_of_block (a := ⟨gq, 0, none⟩) (hg9.block gq (by simp; omega) (fun e => by have := (HLT.out _ e.symm).1; omega))).trans (frozen_keep ((Below.refl _ _).alloc (Nat.le_refl _) _) hgqW HBX.out.2); clear ho9 hg9 hv9)
    have hal := cell_keep ((Below.refl _ _).alloc (Nat.le_refl _) (.cells #[.int .i64 pb', .int .i64 pl', .int .i64 r.x1, .int .i64 r.y1, .int .i64 r.x2, .int .i64 r.y2] 41)) HBX.out.1
    have hkf : ∀ B, KeepsFrom B W (w9.setCell ⟨gq, 0, none⟩ (.slice a9 (N0 + 1) c9)) := fun B => keepsFrom_set ((keepsFrom_below ((Below.refl _ _).alloc (Nat.le_refl _) _)).trans (keepsFrom_grown HG9.out (own_cellsBlock (own_keep HROW.out ((Below.refl _ _).alloc (Nat.le_refl _) _))))) _ _
    refine ⟨hkf _,
     (KeepsB.of_below ((Below.refl _ _).alloc (Nat.le_refl _) _)).trans (KeepsB.append hal (fun e => by have := (HLT.out _ e).1; omega) HG9.out HV9.out (fun k e => (HO9.out.lt k e).2)),
     ⟨⟨_, World.cell?_setCell_same _ _ _ hbx9, by rw [frozen_set]; exact hfx9, own_off1 ?_ (Nat.lt_succ_self _)⟩, ?_, ?_⟩⟩
    ·have h := HO9.out
     rw [List.map_append, ← List.append_assoc, List.length_append, HN0.out, List.flatMap_append]
     exact h
    ·have hbb : Below W2.heap.size W2 w9 := (HI.out.below.alloc HI.out.below.size _).grown HG9.out (by have := HI.out.below.size; simp; omega) (fun q hq => by have := (HLT.out _ hq).1; have := HGQ.out; omega)
     exact hbb.setCell (by have := HGQ.out; simp only; omega) _
    ·exact HI.out.marks.keep fun D hB hl _ => (hkf w.heap.size).same _ _ hB hl rfl
   case done =>
    rintro D zs W hD hS hI hl
    have HI := Lib.hid hI
    have HD := Lib.hid (And.intro hD hl)
    have HS := Lib.hid hS
    clear hI hD hl hS
    go_wp2_with fail
    refine HK.out _ _ ⟨fun i => _, _, cut_arr (by simp [forget]), ⟨m + 1, by omega, by go_num, Lib.hid ?_⟩, ?_⟩
    ·have e : placesTo j plan m ++ zs.map (·.1) = placesTo j plan (m + 1) := by rw [HST2.out, HS.out]
     have h := HI.out
     rw [e] at h
     exact ⟨h.row, h.below, Marks.cons h.marks HC5.out.marks (Nat.le_trans hw5 HD.out.1) HD.out.1 HD.out.2⟩
    ·first | (simp [intOf, forget, hu]; done) | (simp [intOf, forget, hu]; omega)
   case stop =>
    rintro D pre W hD hk hF hl
    exact hF.elim
  ·obtain rfl : m = plan.length := by omega
   have hmi : ¬ ((plan.length : Nat) : Int) < ((plan.length : Nat) : Int) := by omega
   obtain ⟨v6, hbx6, hfx6, hrow6⟩ := HCT.out.row
   obtain ⟨av6, cv6, rfl, -, -⟩ := own_slice hrow6
   have HROW := Lib.hid hrow6
   have HBF := Lib.hid (HBW.out.trans (HCTB.out.mono HBW.out.size))
   have HMF := Lib.hid HCT.out.marks
   clear hrow6 hfx6 HCT HK
   go_wp2_with fail
   refine leave_marks _ _ HMF.out (fun W' hk hb => ⟨.tuple #[.slice av6 (placesTo j plan plan.length).length cv6, .int .i64 0], by simp [results, Tryz.results13, go_sem], av6, _, cv6, rfl, HBF.out.trans hb, fun h => absurd rfl h, fun _ => ⟨rfl, (own_placeds HROW.out).above (keepsAbove_cells hk)⟩, fun g o e => by subst e; have h1 := own_base HROW.out (rfl : _ = some g); have := HGQ.out; have := HBW.out.size; omega⟩)
 ·have hne := bne_t5 hE
  go_wp2_with fail
  refine leave_marks [] _ trivial (fun W' hk hb => ⟨.tuple #[.slice none 0 0, .int .i64 E], by simp [results, Tryz.results13, go_sem], none, 0, 0, rfl, HBW.out.trans hb, fun _ => ⟨rfl, rfl, rfl⟩, fun h => absurd h hE, fun g o e => by cases e⟩)
end Go.Proofs.YtoelfalmmaddlaaGreat
