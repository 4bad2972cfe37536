/- The greatest sides of the usable rectangles of a species. The weights of all blanks, of the program. The weights of the pieces on one board add up to at most 1: plain. The greedy plan is accepted: its cuts are a tree of regions, and its pieces are those that are wanted. The greedy plan is accepted: the pieces. -/
import Derived.Test.YtjmgboipbhddlaaGreatDoorRR
import Derived.Test.YtjmgboipbhddlaaGreatDoorCH1
import Derived.Test.YtjmgboipbhddlaaGreatDoorQL
import Derived.Test.YtjmgboipbhddlaaGreatDoorPLB
import Derived.Test.YtjmgboipbhddlaaGreatDoorQG
import Derived.OpenShut
import Derived.Test.YtjmgboipbhddlaaGreatDoorA8
set_option linter.unusedVariables false
set_option linter.unusedSimpArgs false
namespace Go.Proofs.YtjmgboipbhddlaaGreatDoor
open Go Go.RowKit

def roomTo (j : Job) (sp : ByteArray) : Nat → Int × Int
  | 0 => (0, 0)
  | k + 1 => if ((j.stock.getD k default).species.toList == sp.toList) = true then (max (roomTo j sp k).1 ((usableR (j.stock.getD k default) j.trim).x2 - (usableR (j.stock.getD k default) j.trim).x1), max (roomTo j sp k).2 ((usableR (j.stock.getD k default) j.trim).y2 - (usableR (j.stock.getD k default) j.trim).y1)) else roomTo j sp k
def roomM (j : Job) (sp : ByteArray) : Int × Int := roomTo j sp j.stock.length
theorem roomTo_step {j : Job} {sp : ByteArray} {k : Nat} (hk : k < j.stock.length) : roomTo j sp (k + 1) = if (j.stock[k].species.toList == sp.toList) = true then (max (roomTo j sp k).1 ((usableR j.stock[k] j.trim).x2 - (usableR j.stock[k] j.trim).x1), max (roomTo j sp k).2 ((usableR j.stock[k] j.trim).y2 - (usableR j.stock[k] j.trim).y1)) else roomTo j sp k := by
  have e : j.stock.getD k default = j.stock[k] := by rw [List.getD_eq_getElem?_getD, List.getElem?_eq_getElem hk]; rfl
  rw [roomTo, e]
end Go.Proofs.YtjmgboipbhddlaaGreatDoor

set_option linter.unusedVariables false
set_option linter.unusedSimpArgs false
namespace Go.Proofs.YtjmgboipbhddlaaGreatDoor
open Go Go.RowKit

def fitsP (j : Job) (x : Blank) : Prop := x.length ≤ (roomM j x.species).1 ∧ x.width ≤ (roomM j x.species).2
instance (j : Job) (x : Blank) : Decidable (fitsP j x) := by unfold fitsP; infer_instance
end Go.Proofs.YtjmgboipbhddlaaGreatDoor

set_option linter.unusedVariables false
set_option linter.unusedSimpArgs false
namespace Go.Proofs.YtjmgboipbhddlaaGreatDoor
open Go Go.ChangeShapes Go.WideShapes Go.ChangeAt Go.RowKit

theorem okWide_pair {P : Program} {w : World} {r : Reach} {base : Nat} {t e : TypeId} {n : Nat} {v : Value} (ht : P.underlying t = some (.array n e)) (h : Value.okWide P w r base t v) : ∃ cs, v = .agg cs ∧ cs.size = P.cellsOf t := by
  simp only [Value.okWide, ht] at h
  obtain ⟨cs, h1, h2, _⟩ := h
  exact ⟨cs, h1, h2⟩
theorem pair_open {H : Type} {enc : TypeId × Value → H} {w : World} {spare : Nat → Bool} {held : Bool} {fuel : Nat} {cs : List Value} {y : DataW H × List MemPlace} (h : DataW.trod enc Tryz.prog w 0 spare held fuel 29 cs = some y) :
    ∃ p q : Int, cs = [.int .i64 p, .int .i64 q] ∧ ((-9223372036854775808 ≤ p ∧ p ≤ 9223372036854775807) ∧ (-9223372036854775808 ≤ q ∧ q ≤ 9223372036854775807)) := by
  obtain ⟨xs, m, -, -, hl, hx, hi⟩ := DataW.trod_array Tryz.underlying29 h
  have hl2 : cs.length = 2 := hl.trans (by kernel_rfl)
  have h1 : Tryz.prog.cellsOf 3 = 1 := by kernel_rfl
  rw [h1] at hi
  match cs, hl2, xs, hx with
  | [v0, v1], _, [y0, y1], _ =>
    have t0 := hi 0 (by decide)
    have t1 := hi 1 (by decide)
    simp at t0 t1
    obtain ⟨n0, g0, -, q0⟩ := DataW.trod_int Tryz.underlying3 t0
    obtain ⟨n1, g1, -, q1⟩ := DataW.trod_int Tryz.underlying3 t1
    simp only [List.cons.injEq, and_true] at g0 g1
    exact ⟨n0, n1, by rw [g0, g1], int_wf q0, int_wf q1⟩
/-! Sums over pieces. -/
def sumQ (f : Placed → Int) : List Placed → Int
  | [] => 0
  | p :: l => f p + sumQ f l
theorem sumQ_app (f : Placed → Int) : ∀ A B : List Placed, sumQ f (A ++ B) = sumQ f A + sumQ f B
  | [], B => by simp [sumQ]
  | p :: A, B => by rw [List.cons_append, sumQ, sumQ_app f A B, sumQ]; omega
theorem sumQ_zero {f : Placed → Int} : ∀ {A : List Placed}, (∀ p ∈ A, f p = 0) → sumQ f A = 0
  | [], _ => rfl
  | p :: A, h => by rw [sumQ, h p List.mem_cons_self, sumQ_zero fun q hq => h q (List.mem_cons_of_mem _ hq)]; rfl
theorem sumQ_pieces {l : Layout} {R : List Rect} {f : Placed → Int} {G : Nat → Int} (hG : ∀ i, 0 ≤ G i) (hf : ∀ i, f ⟨l.board, (l.cuts.getD i default).blank, R.getD i default⟩ ≤ G i) :
    ∀ k, sumQ f (piecesTo l R k) ≤ sumTo k (fun i => if (cutF l.cuts i).low = 0 then G i else 0)
  | 0 => by simp [piecesTo, sumQ, sumTo]
  | k + 1 => by
    have ih := sumQ_pieces hG hf k
    rw [piecesTo, sumQ_app, sumTo]
    by_cases hc : isPieceC (l.cuts.getD k default) = true
    · rw [if_pos hc]
      have hl : (cutF l.cuts k).low = 0 := by
        unfold isPieceC at hc
        simp only [Bool.and_eq_true, decide_eq_true_eq] at hc
        exact hc.1
      rw [if_pos hl]
      simp only [sumQ]
      have := hf k
      omega
    · rw [if_neg hc]
      simp only [sumQ]
      have := hG k
      split <;> omega

/-- A board's denominators. -/
def dA (j : Job) (b : Board) : Nat := max 1 ((roomM j b.species).1 + j.trim.kerf).toNat
def dB (j : Job) (b : Board) : Nat := max 1 ((roomM j b.species).2 + j.trim.kerf).toNat
def DD (j : Job) (k0 k1 : Nat) (b : Board) : Int := ((wtK k0 * dA j b * (wtK k1 * dB j b) : Nat) : Int)
theorem DD_pos {j : Job} {k0 k1 : Nat} {b : Board} : 0 < DD j k0 k1 b := by
  unfold DD
  have h1 : 0 < wtK k0 := by unfold wtK; split <;> omega
  have h2 : 0 < wtK k1 := by unfold wtK; split <;> omega
  have h3 : 0 < dA j b := by unfold dA; omega
  have h4 : 0 < dB j b := by unfold dB; omega
  have := Nat.mul_pos (Nat.mul_pos h1 h3) (Nat.mul_pos h2 h4)
  omega
def fB (j : Job) (k0 k1 : Nat) (i : Int) (b : Board) (p : Placed) : Int := if p.board = i then rectW k0 k1 (dA j b) (dB j b) j.trim.kerf.toNat p.at_ else 0
theorem room_mono {j : Job} {sp : ByteArray} : ∀ {k n : Nat}, k ≤ n → (roomTo j sp k).1 ≤ (roomTo j sp n).1 ∧ (roomTo j sp k).2 ≤ (roomTo j sp n).2
  | k, 0, h => by obtain rfl : k = 0 := by omega
                  exact ⟨Int.le_refl _, Int.le_refl _⟩
  | k, n + 1, h => by
    by_cases e : k = n + 1
    · subst e; exact ⟨Int.le_refl _, Int.le_refl _⟩
    · have ih := room_mono (j := j) (sp := sp) (show k ≤ n by omega)
      rw [show roomTo j sp (n + 1) = if ((j.stock.getD n default).species.toList == sp.toList) = true then (max (roomTo j sp n).1 ((usableR (j.stock.getD n default) j.trim).x2 - (usableR (j.stock.getD n default) j.trim).x1), max (roomTo j sp n).2 ((usableR (j.stock.getD n default) j.trim).y2 - (usableR (j.stock.getD n default) j.trim).y1)) else roomTo j sp n from rfl]
      split
      · simp only; omega
      · exact ih
theorem room_ge {j : Job} {i : Nat} (hi : i < j.stock.length) : (usableR j.stock[i] j.trim).x2 - (usableR j.stock[i] j.trim).x1 ≤ (roomM j j.stock[i].species).1 ∧ (usableR j.stock[i] j.trim).y2 - (usableR j.stock[i] j.trim).y1 ≤ (roomM j j.stock[i].species).2 := by
  have h := room_mono (j := j) (sp := j.stock[i].species) (show i + 1 ≤ j.stock.length from hi)
  rw [roomTo_step hi, if_pos (by simp)] at h
  unfold roomM
  simp only at h
  omega
theorem layout_le {j : Job} {k0 k1 : Nat} {i : Nat} {l : Layout} (hk : 0 ≤ j.trim.kerf) (hi : i < j.stock.length) (hb : l.board = i) (h : (layOf j l).2 = 0) : sumQ (fB j k0 k1 i j.stock[i]) (piecesTo l (layOf j l).1 l.cuts.length) ≤ DD j k0 k1 j.stock[i] := by
  have e : j.stock.getD l.board.toNat default = j.stock[i] := by rw [hb, Int.toNat_natCast, List.getD_eq_getElem?_getD, List.getElem?_eq_getElem hi]; rfl
  have hl : layOf j l = regM (usableR j.stock[i] j.trim) j.trim.kerf l.cuts := by unfold layOf; rw [e]
  have hg := room_ge hi
  have h00 := room_mono (j := j) (sp := j.stock[i].species) (Nat.zero_le j.stock.length)
  have h00 : 0 ≤ (roomM j j.stock[i].species).1 ∧ 0 ≤ (roomM j j.stock[i].species).2 := h00
  have hkn : ((j.trim.kerf.toNat : Nat) : Int) = j.trim.kerf := by omega
  rw [hl] at h ⊢
  have hw := reg_weights (u := usableR j.stock[i] j.trim) (kerf := j.trim.kerf.toNat) (k1 := k0) (k2 := k1) (d1 := dA j j.stock[i]) (d2 := dB j j.stock[i]) (l := l.cuts) (by unfold dA; omega) (by unfold dB; omega) (whole_real _) (by unfold dA; omega) (by unfold dB; omega) (by rw [hkn]; exact h)
  rw [hkn] at hw
  refine Int.le_trans (sumQ_pieces (G := fun m => rectW k0 k1 (dA j j.stock[i]) (dB j j.stock[i]) j.trim.kerf.toNat (rectF (regM (usableR j.stock[i] j.trim) j.trim.kerf l.cuts).1 m)) (fun m => rectW_nn) (fun m => ?_) _) hw
  unfold fB
  simp only
  rw [if_pos hb, getD_rect]
  exact Int.le_refl _
theorem other_zero {j : Job} {k0 k1 : Nat} {i : Int} {b : Board} {l : Layout} {R : List Rect} {k : Nat} (h : l.board ≠ i) : sumQ (fB j k0 k1 i b) (piecesTo l R k) = 0 := sumQ_zero fun p hp => by
  unfold fB; rw [if_neg (by rw [(piecesTo_board hp).1]; exact h)]
theorem places_le {j : Job} {k0 k1 : Nat} {i : Nat} {plan : List Layout} (hk : 0 ≤ j.trim.kerf) (hi : i < j.stock.length) (hb : plan.Pairwise fun a b => a.board ≠ b.board) (hok : PlanOk j plan) :
    ∀ k, k ≤ plan.length → sumQ (fB j k0 k1 i j.stock[i]) (placesTo j plan k) ≤ DD j k0 k1 j.stock[i] ∧ ((∀ m (h : m < plan.length), m < k → plan[m].board ≠ i) → sumQ (fB j k0 k1 i j.stock[i]) (placesTo j plan k) = 0)
  | 0, _ => ⟨by have := DD_pos (j := j) (k0 := k0) (k1 := k1) (b := j.stock[i]); simp only [placesTo, sumQ]; omega, fun _ => rfl⟩
  | k + 1, h => by
    obtain ⟨h1, h2⟩ := places_le (k0 := k0) (k1 := k1) hk hi hb hok k (by omega)
    rw [placesTo_step (by omega : k < plan.length), sumQ_app]
    by_cases e : plan[k].board = i
    · have hz := h2 fun m hm hmk he => List.pairwise_iff_getElem.1 hb m k hm (by omega) hmk (by rw [he, e])
      have hL := layout_le (k0 := k0) (k1 := k1) hk hi e (hok _ (List.getElem_mem _)).2
      exact ⟨by omega, fun hall => absurd e (hall k (by omega) (by omega))⟩
    · have hz : sumQ (fB j k0 k1 i j.stock[i]) (piecesTo plan[k] (layOf j plan[k]).1 plan[k].cuts.length) = 0 := other_zero e
      exact ⟨by omega, fun hall => by rw [h2 fun m hm hmk => hall m hm (by omega), hz]; rfl⟩
end Go.Proofs.YtjmgboipbhddlaaGreatDoor

set_option linter.unusedVariables false
set_option linter.unusedSimpArgs false
namespace Go.Proofs.YtjmgboipbhddlaaGreatDoor

theorem getD_setL {α : Type} (l : List α) (i j : Nat) (x d : α) : (l.set i x).getD j d = if i = j ∧ j < l.length then x else l.getD j d := by
  rw [List.getD_eq_getElem?_getD, List.getElem?_set, List.getD_eq_getElem?_getD]
  by_cases h : i = j
  · subst h
    by_cases h2 : i < l.length
    · rw [if_pos rfl, if_pos h2, if_pos ⟨rfl, h2⟩]; rfl
    · rw [if_pos rfl, if_neg h2, if_neg (fun h => h2 h.2), List.getElem?_eq_none (by omega)]
  · rw [if_neg h, if_neg (fun h' => h h'.1)]

structure NodeAt (s : BS) (kerf : Int) (i k : Nat) : Prop where
  low : (cutF s.cuts i).low = ((2 * k + 1 : Nat) : Int)
  high : (cutF s.cuts i).high = ((2 * k + 2 : Nat) : Int)
  up : i < 2 * k + 1
  lt : 2 * k + 2 < s.cuts.length
  blank : (cutF s.cuts i).blank = 0
  at_ : 1 ≤ (cutF s.cuts i).at_ ∧ (cutF s.cuts i).at_ ≤ sizeR (s.r i) (cutF s.cuts i).across - 1
  rlow : s.r (2 * k + 1) = lowR (s.r i) (cutF s.cuts i).across (cutF s.cuts i).at_
  rhigh : s.r (2 * k + 2) = highR (s.r i) (cutF s.cuts i).across (cutF s.cuts i).at_ kerf
structure TreeB (u : Rect) (kerf : Int) (s : BS) : Prop where
  len : s.rects.length = s.cuts.length
  odd : s.cuts.length % 2 = 1
  root : s.r 0 = u
  leaf : ∀ i, i < s.cuts.length → (cutF s.cuts i).low = 0 → ((cutF s.cuts i).across = false ∧ (cutF s.cuts i).at_ = 0 ∧ (cutF s.cuts i).high = 0) ∧ -1 ≤ (cutF s.cuts i).blank ∧ (cutF s.cuts i).blank ≤ 29
  node : ∀ i, i < s.cuts.length → (cutF s.cuts i).low ≠ 0 → ∃ k : Nat, NodeAt s kerf i k
  once : ∀ i i' k : Nat, i < s.cuts.length → i' < s.cuts.length → (cutF s.cuts i).low = ((2 * k + 1 : Nat) : Int) → (cutF s.cuts i').low = ((2 * k + 1 : Nat) : Int) → i = i'
  every : ∀ k : Nat, 2 * k + 1 < s.cuts.length → ∃ i, i < s.cuts.length ∧ (cutF s.cuts i).low = ((2 * k + 1 : Nat) : Int)

section
variable {u : Rect} {kerf : Int} {s : BS}
theorem TreeB.nodeOf (h : TreeB u kerf s) {i k : Nat} (hi : i < s.cuts.length) (hl : (cutF s.cuts i).low = ((2 * k + 1 : Nat) : Int)) : NodeAt s kerf i k := by
  obtain ⟨k', hn⟩ := h.node i hi (by rw [hl]; omega)
  have := hn.low
  rw [hl] at this
  obtain rfl : k = k' := by omega
  exact hn
def Kids (s : BS) (i : Nat) (O : List Bool) : Prop := ∀ k : Nat, 2 * k + 2 < s.cuts.length → ∀ j, (j = 2 * k + 1 ∨ j = 2 * k + 2) → (O.getD j false = true ↔ ∃ i', i' < i ∧ i' < s.cuts.length ∧ (cutF s.cuts i').low = ((2 * k + 1 : Nat) : Int))
theorem tree_own (h : TreeB u kerf s) : ∀ (m i : Nat) (O : List Bool), i + m = s.cuts.length → O.length = s.cuts.length → Kids s i O →
    (ownGo s.cuts.length (s.cuts.drop i) i O).1 = 0 ∧ (ownGo s.cuts.length (s.cuts.drop i) i O).2.length = s.cuts.length ∧ Kids s s.cuts.length (ownGo s.cuts.length (s.cuts.drop i) i O).2
  | 0, i, O, hm, hO, hK => by
    obtain rfl : i = s.cuts.length := by omega
    rw [List.drop_length]
    exact ⟨rfl, hO, hK⟩
  | m + 1, i, O, hm, hO, hK => by
    have hi : i < s.cuts.length := by omega
    rw [List.drop_eq_getElem_cons hi, ← cutF_get hi]
    by_cases h0 : (cutF s.cuts i).low = 0
    · obtain ⟨⟨l1, l2, l3⟩, l4, l5⟩ := h.leaf i hi h0
      have hE : cutErrM (cutF s.cuts i) i s.cuts.length O = 0 := by
        rw [cutErr_good (reg_leaf0 h0 (by rw [l1, l2, l3]; simp) (by unfold withinB; simp; omega))]
        unfold markE; rw [if_pos h0]
      have hM : markC (cutF s.cuts i) O = O := by unfold markC; rw [if_pos h0]
      rw [ownGo, if_neg (by rw [hE]; simp), hM]
      refine tree_own h m (i + 1) O (by omega) hO fun k hk j hj => (hK k hk j hj).trans ⟨fun ⟨i', g1, g2, g3⟩ => ⟨i', by omega, g2, g3⟩, fun ⟨i', g1, g2, g3⟩ => ⟨i', ?_, g2, g3⟩⟩
      by_cases e : i' = i
      · subst e; rw [h0] at g3; omega
      · omega
    · obtain ⟨k0, hn⟩ := h.node i hi h0
      have hnot : ∀ j, (j = 2 * k0 + 1 ∨ j = 2 * k0 + 2) → O.getD j false = false := fun j hj => by
        cases hb : O.getD j false with
        | false => rfl
        | true =>
          obtain ⟨i', g1, g2, g3⟩ := (hK k0 hn.lt j hj).1 hb
          have := h.once i' i k0 g2 hi g3 hn.low
          omega
      have hE : cutErrM (cutF s.cuts i) i s.cuts.length O = 0 := by
        have h1 := hn.low; have h2 := hn.high; have h3 := hn.up; have h4 := hn.lt
        rw [cutErr_good (by unfold regionE; rw [if_neg h0, hn.blank, h1, h2, if_neg (by simp), if_neg (by omega), if_neg (by omega)])]
        unfold markE
        rw [if_neg h0, h1, h2, Int.toNat_natCast, Int.toNat_natCast, if_neg (by rw [hnot _ (.inl rfl)]; simp), if_neg (by rw [hnot _ (.inr rfl)]; simp)]
      have hM : markC (cutF s.cuts i) O = (O.set (2 * k0 + 1) true).set (2 * k0 + 2) true := by unfold markC; rw [if_neg h0, hn.low, hn.high, Int.toNat_natCast, Int.toNat_natCast]
      rw [ownGo, if_neg (by rw [hE]; simp), hM]
      refine tree_own h m (i + 1) _ (by omega) (by simp [hO]) fun k hk j hj => ?_
      rw [getD_setL, getD_setL, List.length_set, hO]
      have hlt := hn.lt
      by_cases e : k = k0
      · subst e
        refine ⟨fun _ => ⟨i, by omega, hi, hn.low⟩, fun _ => ?_⟩
        rcases hj with rfl | rfl
        · rw [if_neg (by omega), if_pos ⟨rfl, by omega⟩]
        · rw [if_pos ⟨rfl, by omega⟩]
      · rw [if_neg (by omega), if_neg (by omega)]
        refine (hK k hk j hj).trans ⟨fun ⟨i', g1, g2, g3⟩ => ⟨i', by omega, g2, g3⟩, fun ⟨i', g1, g2, g3⟩ => ⟨i', ?_, g2, g3⟩⟩
        by_cases e' : i' = i
        · subst e'; rw [hn.low] at g3; omega
        · omega
theorem tree_rect (h : TreeB u kerf s) : ∀ (m i : Nat) (R : List Rect), i + m = s.cuts.length → R.length = s.cuts.length →
    (∀ j, j < s.cuts.length → (j = 0 ∨ ∃ i' k, i' < i ∧ i' < s.cuts.length ∧ (cutF s.cuts i').low = ((2 * k + 1 : Nat) : Int) ∧ (j = 2 * k + 1 ∨ j = 2 * k + 2)) → R.getD j zeroR = s.r j) →
    (rectGo kerf (s.cuts.drop i) i R).2 = 0 ∧ (rectGo kerf (s.cuts.drop i) i R).1.length = s.cuts.length ∧ ∀ j, j < s.cuts.length → (rectGo kerf (s.cuts.drop i) i R).1.getD j zeroR = s.r j
  | 0, i, R, hm, hR, hK => by
    obtain rfl : i = s.cuts.length := by omega
    rw [List.drop_length]
    refine ⟨rfl, hR, fun j hj => hK j hj ?_⟩
    by_cases e : j = 0
    · exact .inl e
    · obtain ⟨i', g1, g2⟩ := h.every ((j - 1) / 2) (by omega)
      exact .inr ⟨i', (j - 1) / 2, g1, g1, g2, by omega⟩
  | m + 1, i, R, hm, hR, hK => by
    have hi : i < s.cuts.length := by omega
    rw [List.drop_eq_getElem_cons hi, ← cutF_get hi]
    by_cases h0 : (cutF s.cuts i).low = 0
    · rw [rectGo, if_pos h0]
      refine tree_rect h m (i + 1) R (by omega) hR fun j hj hc => hK j hj ?_
      rcases hc with hc | ⟨i', k, g1, g2, g3, g4⟩
      · exact .inl hc
      · refine .inr ⟨i', k, ?_, g2, g3, g4⟩
        by_cases e : i' = i
        · subst e; rw [h0] at g3; omega
        · omega
    · obtain ⟨k0, hn⟩ := h.node i hi h0
      have hri : R.getD i zeroR = s.r i := by
        refine hK i hi ?_
        by_cases e : i = 0
        · exact .inl e
        · obtain ⟨i', g1, g2⟩ := h.every ((i - 1) / 2) (by omega)
          have := (h.nodeOf g1 g2).up
          exact .inr ⟨i', (i - 1) / 2, by omega, g1, g2, by omega⟩
      have hri' : R.getD i ⟨0, 0, 0, 0⟩ = s.r i := hri
      have hlt := hn.lt
      rw [rectGo, if_neg h0, hri', if_neg (by unfold withinB; have := hn.at_; simp; omega)]
      refine tree_rect h m (i + 1) _ (by omega) (by rw [stepR_len]; exact hR) fun j hj hc => ?_
      unfold stepR
      rw [hn.low, hn.high, Int.toNat_natCast, Int.toNat_natCast, getD_setL, getD_setL, List.length_set, hR]
      by_cases e1 : j = 2 * k0 + 2
      · rw [if_pos ⟨e1.symm, by omega⟩, e1, hn.rhigh]
      · rw [if_neg (fun e => e1 e.1.symm)]
        by_cases e2 : j = 2 * k0 + 1
        · rw [if_pos ⟨e2.symm, by omega⟩, e2, hn.rlow]
        · rw [if_neg (fun e => e2 e.1.symm)]
          refine hK j hj ?_
          rcases hc with hc | ⟨i', k, g1, g2, g3, g4⟩
          · exact .inl hc
          · refine .inr ⟨i', k, ?_, g2, g3, g4⟩
            by_cases e : i' = i
            · subst e; have := hn.low; rw [g3] at this; omega
            · omega
theorem tree_reg (h : TreeB u kerf s) (h4 : s.cuts.length ≤ 400) : regM u kerf s.cuts = (s.rects, 0) := by
  have hodd := h.odd
  obtain ⟨g1, g2, g3⟩ := tree_own h s.cuts.length 0 (List.replicate s.cuts.length false) (by omega) (by simp) (fun k hk j hj => by
    rw [List.getD_eq_getElem?_getD, List.getElem?_replicate]
    refine ⟨fun e => ?_, fun ⟨i', e, _⟩ => by omega⟩
    split at e <;> simp at e)
  obtain ⟨q1, q2, q3⟩ := tree_rect h s.cuts.length 0 ((List.replicate s.cuts.length ⟨0, 0, 0, 0⟩).set 0 u) (by omega) (by simp) (fun j hj hc => by
    rcases hc with rfl | ⟨i', k, e, _⟩
    · rw [getD_setL, if_pos ⟨rfl, by simpa using hj⟩, h.root]
    · omega)
  rw [List.drop_zero] at g1 g2 g3 q1 q2 q3
  unfold regM
  rw [if_neg (by omega), if_neg (by omega), if_neg (by rw [g1]; simp), if_neg ?_]
  · refine Prod.ext (List.ext_getElem (by rw [q2, h.len]) fun j hj1 hj2 => ?_) q1
    have := q3 j (by rw [← q2]; exact hj1)
    unfold BS.r at this
    rwa [List.getD_eq_getElem?_getD, List.getElem?_eq_getElem hj1, List.getD_eq_getElem?_getD, List.getElem?_eq_getElem hj2] at this
  · rw [Bool.not_eq_false, List.all_eq_true]
    intro x hx
    obtain ⟨j, hj, rfl⟩ := List.mem_iff_getElem.1 hx
    rw [List.length_set, g2] at hj
    by_cases e : j = 0
    · subst e; rw [List.getElem_set_self]; rfl
    · rw [List.getElem_set_ne (by omega)]
      have h1 := (g3 ((j - 1) / 2) (by omega) j (by omega)).2 (by
        obtain ⟨i', e1, e2⟩ := h.every ((j - 1) / 2) (by omega)
        exact ⟨i', e1, e1, e2⟩)
      rwa [List.getD_eq_getElem?_getD, List.getElem?_eq_getElem (by rw [g2]; exact hj)] at h1

/-! How it grows. -/
theorem cutF_cut {region : Nat} {across : Bool} {a : Int} {j : Nat} (hr : region < s.cuts.length) (hj : j < s.cuts.length + 2) :
    cutF (s.cut kerf region across a).cuts j = if j = region then ⟨across, a, s.cuts.length, s.cuts.length + 1, 0⟩ else if j < s.cuts.length then cutF s.cuts j else wasteC := by
  unfold cutF BS.cut
  simp only
  rw [getD_setL]
  by_cases e : j = region
  · subst e; rw [if_pos ⟨rfl, by simp; omega⟩, if_pos rfl]
  · rw [if_neg (fun h => e h.1.symm), if_neg e]
    by_cases e2 : j < s.cuts.length
    · rw [if_pos e2, List.getD_eq_getElem?_getD, List.getElem?_append_left e2, List.getD_eq_getElem?_getD]
    · rw [if_neg e2, List.getD_eq_getElem?_getD, List.getElem?_append_right (by omega)]
      have : j - s.cuts.length = 0 ∨ j - s.cuts.length = 1 := by omega
      rcases this with h | h <;> rw [h] <;> rfl
theorem r_cut {region : Nat} {across : Bool} {a : Int} {j : Nat} (h : s.rects.length = s.cuts.length) (hj : j < s.cuts.length) : (s.cut kerf region across a).r j = s.r j := by
  unfold BS.cut BS.r
  simp only
  rw [List.getD_eq_getElem?_getD, List.getElem?_append_left (by omega), List.getD_eq_getElem?_getD]
theorem tree_cut (h : TreeB u kerf s) {region : Nat} {across : Bool} {a : Int} (hr : region < s.cuts.length) (hl : (cutF s.cuts region).low = 0) (ha : 1 ≤ a ∧ a ≤ sizeR (s.r region) across - 1) : TreeB u kerf (s.cut kerf region across a) := by
  have hodd := h.odd
  have hlen : (s.cut kerf region across a).cuts.length = s.cuts.length + 2 := cut_len
  obtain ⟨K, hK⟩ : ∃ K, s.cuts.length = 2 * K + 1 := ⟨s.cuts.length / 2, by omega⟩
  refine ⟨by rw [hlen, cut_rlen, h.len], by rw [hlen]; omega, by rw [r_cut h.len (by omega)]; exact h.root, fun i hi h0 => ?_, fun i hi h0 => ?_, fun i i' k hi hi' h1 h2 => ?_, fun k hk => ?_⟩
  · rw [hlen] at hi
    rw [cutF_cut hr hi] at h0 ⊢
    split at h0
    · rename_i e; simp only at h0; omega
    · rename_i e
      rw [if_neg e]
      split at h0
      · rename_i e2; rw [if_pos e2]; exact h.leaf i e2 h0
      · rename_i e2; rw [if_neg e2]; exact ⟨⟨rfl, rfl, rfl⟩, by decide, by decide⟩
  · rw [hlen] at hi
    have hc := cutF_cut (kerf := kerf) (across := across) (a := a) hr hi
    rw [hc] at h0
    split at h0
    · rename_i e
      subst e
      rw [if_pos rfl] at hc
      refine ⟨K, ⟨by rw [hc]; simp only; omega, by rw [hc]; simp only; omega, by omega, by rw [hlen]; omega, by rw [hc], by rw [hc, r_cut h.len hr]; exact ha, ?_, ?_⟩⟩
      · rw [hc, r_cut h.len hr, ← hK, cut_low h.len]
      · rw [hc, r_cut h.len hr, show 2 * K + 2 = s.cuts.length + 1 by omega, cut_high h.len]
    · rename_i e
      rw [if_neg e] at hc
      split at h0
      · rename_i e2
        rw [if_pos e2] at hc
        obtain ⟨k, n1, n2, n3, n4, n5, n6, n7, n8⟩ := h.node i e2 h0
        exact ⟨k, ⟨by rw [hc]; exact n1, by rw [hc]; exact n2, n3, by rw [hlen]; omega, by rw [hc]; exact n5, by rw [hc, r_cut h.len e2]; exact n6, by rw [hc, r_cut h.len e2, r_cut h.len (by omega)]; exact n7, by rw [hc, r_cut h.len e2, r_cut h.len (by omega)]; exact n8⟩⟩
      · exact absurd rfl h0
  · rw [hlen] at hi hi'
    rw [cutF_cut hr hi] at h1
    rw [cutF_cut hr hi'] at h2
    have old : ∀ x, x < s.cuts.length → (cutF s.cuts x).low = ((2 * k + 1 : Nat) : Int) → 2 * k + 2 < s.cuts.length := fun x hx hxl => (h.nodeOf hx hxl).lt
    split at h1
    · rename_i e
      split at h2
      · rename_i e2; omega
      · split at h2
        · rename_i e3; have := old _ e3 h2; simp only at h1; omega
        · simp only [wasteC] at h2; omega
    · split at h1
      · rename_i e3
        split at h2
        · have := old _ e3 h1; simp only at h2; omega
        · split at h2
          · rename_i e4; exact h.once i i' k e3 e4 h1 h2
          · simp only [wasteC] at h2; omega
      · simp only [wasteC] at h1; omega
  · rw [hlen] at hk
    by_cases e : 2 * k + 1 < s.cuts.length
    · obtain ⟨i, g1, g2⟩ := h.every k e
      refine ⟨i, by rw [hlen]; omega, ?_⟩
      rw [cutF_cut hr (by omega), if_neg (fun e => by subst e; rw [hl] at g2; omega), if_pos g1]
      exact g2
    · refine ⟨region, by rw [hlen]; omega, ?_⟩
      rw [cutF_cut hr (by omega), if_pos rfl]
      simp only; omega
theorem cutF_set {l : List Cut} {p j : Nat} {c : Cut} (hp : p < l.length) : cutF (l.set p c) j = if j = p then c else cutF l j := by
  unfold cutF
  rw [getD_setL]
  by_cases e : j = p
  · subst e; rw [if_pos ⟨rfl, hp⟩, if_pos rfl]
  · rw [if_neg (fun h => e h.1.symm), if_neg e]
theorem tree_mark (h : TreeB u kerf s) {p : Nat} {number : Int} (hp : p < s.cuts.length) (hl : (cutF s.cuts p).low = 0) (hn : 0 ≤ number ∧ number ≤ 29) : TreeB u kerf (BS.mark (s, p) number) := by
  have hc : ∀ j, cutF (BS.mark (s, p) number).cuts j = if j = p then pieceC number else cutF s.cuts j := fun j => cutF_set hp
  have hlen : (BS.mark (s, p) number).cuts.length = s.cuts.length := by simp [BS.mark]
  have hr : ∀ j, (BS.mark (s, p) number).r j = s.r j := fun j => rfl
  have hlow : ∀ j, (cutF (BS.mark (s, p) number).cuts j).low = (cutF s.cuts j).low := fun j => by
    rw [hc]; split
    · rename_i e; subst e; rw [hl]; rfl
    · rfl
  refine ⟨by rw [hlen]; exact h.len, by rw [hlen]; exact h.odd, by rw [hr]; exact h.root, fun i hi h0 => ?_, fun i hi h0 => ?_, fun i i' k hi hi' h1 h2 => ?_, fun k hk => ?_⟩
  · rw [hlen] at hi
    rw [hlow] at h0
    rw [hc]; split
    · exact ⟨⟨rfl, rfl, rfl⟩, by unfold pieceC; simp only; omega, hn.2⟩
    · exact h.leaf i hi h0
  · rw [hlen] at hi
    rw [hlow] at h0
    obtain ⟨k, n1, n2, n3, n4, n5, n6, n7, n8⟩ := h.node i hi h0
    have e : cutF (BS.mark (s, p) number).cuts i = cutF s.cuts i := by rw [hc, if_neg (fun e => by subst e; exact h0 hl)]
    exact ⟨k, ⟨by rw [e]; exact n1, by rw [e]; exact n2, n3, by rw [hlen]; exact n4, by rw [e]; exact n5, by rw [e, hr]; exact n6, by rw [e, hr, hr]; exact n7, by rw [e, hr, hr]; exact n8⟩⟩
  · rw [hlen] at hi hi'
    rw [hlow] at h1 h2
    exact h.once i i' k hi hi' h1 h2
  · rw [hlen] at hk
    obtain ⟨i, g1, g2⟩ := h.every k hk
    exact ⟨i, by rw [hlen]; exact g1, by rw [hlow]; exact g2⟩
theorem tree_start (u : Rect) (kerf : Int) : TreeB u kerf ⟨[wasteC], [u]⟩ := by
  refine ⟨rfl, rfl, rfl, fun i hi h0 => ?_, fun i hi h0 => ?_, fun i i' k hi hi' h1 h2 => ?_, fun k hk => ?_⟩
  · obtain rfl : i = 0 := by simp at hi; omega
    exact ⟨⟨rfl, rfl, rfl⟩, by simp [cutF, wasteC], by simp [cutF, wasteC]⟩
  · obtain rfl : i = 0 := by simp at hi; omega
    exact absurd rfl h0
  · simp at hi hi'; omega
  · simp at hk
end
end Go.Proofs.YtjmgboipbhddlaaGreatDoor

set_option linter.unusedVariables false
set_option linter.unusedSimpArgs false
namespace Go.Proofs.YtjmgboipbhddlaaGreatDoor

def isP (b : Int) (c : Cut) : Bool := decide (c.low = 0) && decide (c.blank = b)
def cntB (cs : List Cut) (b : Int) : Nat := cs.countP (isP b)
theorem cnt_set {cs : List Cut} {p : Nat} {c : Cut} {b : Int} (hp : p < cs.length) : cntB (cs.set p c) b + (if isP b cs[p] = true then 1 else 0) = cntB cs b + (if isP b c = true then 1 else 0) := by
  unfold cntB
  induction cs generalizing p with
  | nil => simp at hp
  | cons x cs ih =>
    cases p with
    | zero =>
      simp only [List.set_cons_zero, List.countP_cons, List.getElem_cons_zero]
      omega
    | succ p =>
      have := ih (p := p) (by simpa using hp)
      simp only [List.set_cons_succ, List.countP_cons, List.getElem_cons_succ]
      omega
theorem cnt_app (a c : List Cut) (b : Int) : cntB (a ++ c) b = cntB a b + cntB c b := List.countP_append

/-- A board that is being cut. -/
structure FillB (j : Job) (b : Board) (s : BS) : Prop where
  fill : ∀ i, i < s.cuts.length → (cutF s.cuts i).low = 0 → 0 ≤ (cutF s.cuts i).blank → ∃ n : Nat, (cutF s.cuts i).blank = n ∧ n < j.blanks.length ∧ pieceOn b (bl j.blanks n) (s.r i) = 0
structure BoardIn (j : Job) (b : Board) (s : BS) : Prop where
  good : GoodB s
  tree : TreeB (usableR b j.trim) j.trim.kerf s
  fill : FillB j b s
/-- A region on its way to a piece. -/
structure Way (j : Job) (b : Board) (s0 : BS) (s : BS × Nat) (x1 y1 x2 y2 : Int) : Prop where
  good : GoodP s
  tree : TreeB (usableR b j.trim) j.trim.kerf s.1
  fill : FillB j b s.1
  low : (cutF s.1.cuts s.2).low = 0
  waste : (cutF s.1.cuts s.2).blank < 0
  r : s.1.r s.2 = ⟨x1, y1, x2, y2⟩
  cnt : ∀ n : Int, 0 ≤ n → cntB s.1.cuts n = cntB s0.cuts n
section
variable {j : Job} {b : Board} {s0 : BS} {x1 y1 x2 y2 : Int}
theorem cnt_cut {s : BS} {kerf : Int} {region : Nat} {across : Bool} {a n : Int} (hr : region < s.cuts.length) (hw : (cutF s.cuts region).blank < 0) (hn : 0 ≤ n) : cntB (s.cut kerf region across a).cuts n = cntB s.cuts n := by
  have h1 := cnt_set (cs := s.cuts ++ [wasteC, wasteC]) (p := region) (c := ⟨across, a, s.cuts.length, s.cuts.length + 1, 0⟩) (b := n) (by simp; omega)
  have e1 : (s.cuts ++ [wasteC, wasteC])[region]'(by simp; omega) = cutF s.cuts region := by rw [List.getElem_append_left hr, cutF_get hr]
  have e2 : isP n (cutF s.cuts region) = false := by unfold isP; rw [Bool.and_eq_false_iff]; right; simp; omega
  have e3 : isP n ⟨across, a, s.cuts.length, s.cuts.length + 1, 0⟩ = false := by
    unfold isP; rw [Bool.and_eq_false_iff]; left
    simp only [decide_eq_false_iff_not]; omega
  have e4 : cntB [wasteC, wasteC] n = 0 := by
    unfold cntB
    have : isP n wasteC = false := by unfold isP wasteC; rw [Bool.and_eq_false_iff]; right; simp; omega
    simp [List.countP_cons, this]
  rw [e1, e2, e3, cnt_app, e4] at h1
  simpa [BS.cut] using h1
theorem fill_cut {s : BS} {kerf : Int} {region : Nat} {across : Bool} {a : Int} (h : FillB j b s) (hlen : s.rects.length = s.cuts.length) (hr : region < s.cuts.length) : FillB j b (s.cut kerf region across a) := by
  refine ⟨fun i hi h0 hb => ?_⟩
  rw [cut_len] at hi
  rw [cutF_cut hr hi] at h0 hb ⊢
  split at h0
  · rename_i e; simp only at h0; omega
  · rename_i e
    rw [if_neg e] at hb ⊢
    split at h0
    · rename_i e2
      rw [if_pos e2] at hb ⊢
      rw [r_cut hlen e2]
      exact h.fill i e2 h0 hb
    · rename_i e2
      rw [if_neg e2] at hb
      simp [wasteC] at hb
theorem Way.low_ {s : BS × Nat} {a : Int} (h : Way j b s0 s x1 y1 x2 y2) {across : Bool} (hg : GoodP (s.1.cut j.trim.kerf s.2 across a, s.1.cuts.length)) (ha : 1 ≤ a ∧ a ≤ sizeR (s.1.r s.2) across - 1) :
    Way j b s0 (s.1.cut j.trim.kerf s.2 across a, s.1.cuts.length) x1 y1 (if across = true then x1 + a else x2) (if across = true then y2 else y1 + a) := by
  have hlt := h.good.lt
  have hc : cutF (s.1.cut j.trim.kerf s.2 across a).cuts s.1.cuts.length = wasteC := by rw [cutF_cut hlt (by omega), if_neg (by omega), if_neg (by omega)]
  refine ⟨hg, tree_cut h.tree hlt h.low ha, fill_cut h.fill h.tree.len hlt, by simp only; rw [hc]; rfl, by simp only; rw [hc]; decide, ?_, fun n hn => by simp only; rw [cnt_cut hlt h.waste hn]; exact h.cnt n hn⟩
  simp only
  rw [cut_low h.tree.len, h.r]
  unfold lowR
  cases across <;> simp
theorem Way.high_ {s : BS × Nat} {a : Int} (h : Way j b s0 s x1 y1 x2 y2) (hg : GoodP (s.1.cut j.trim.kerf s.2 true a, s.1.cuts.length + 1)) (ha : 1 ≤ a ∧ a ≤ sizeR (s.1.r s.2) true - 1) (hx : x1 + a + j.trim.kerf < x2) (hy : y1 < y2) :
    Way j b s0 (s.1.cut j.trim.kerf s.2 true a, s.1.cuts.length + 1) (x1 + a + j.trim.kerf) y1 x2 y2 := by
  have hlt := h.good.lt
  have hc : cutF (s.1.cut j.trim.kerf s.2 true a).cuts (s.1.cuts.length + 1) = wasteC := by rw [cutF_cut hlt (by omega), if_neg (by omega), if_neg (by omega)]
  refine ⟨hg, tree_cut h.tree hlt h.low ha, fill_cut h.fill h.tree.len hlt, by simp only; rw [hc]; rfl, by simp only; rw [hc]; decide, ?_, fun n hn => by simp only; rw [cnt_cut hlt h.waste hn]; exact h.cnt n hn⟩
  simp only
  rw [cut_high h.tree.len, h.r]
  unfold highR wholeR
  simp only [if_true]
  rw [if_neg (by omega)]
theorem fits_parts {ds : List Rect} {r : Rect} {w : Blank} {o : Int} (h : fitsB ds r w o = true) : r.x1 + o + w.length ≤ r.x2 ∧ r.y1 + w.width ≤ r.y2 ∧ soundB ds (pieceR r w o) = true := by
  unfold fitsB at h
  simp only [Bool.and_eq_true, decide_eq_true_eq] at h
  exact ⟨h.1.1, h.1.2, h.2⟩
theorem place_in {s : BS} {w : Blank} {number k : Nat} {o : Int} (h : BoardIn j b s) (hk : k < s.cuts.length) (hf : 0 ≤ j.trim.kerf) (hw : 0 < w.length) (hw2 : 0 < w.width) (hnum : number < j.blanks.length) (h29 : number ≤ 29) (hbl : bl j.blanks number = w) (hkind : kindB b w = true)
    (hs : s.at_ j.trim.kerf b.defects w k = some o) : BoardIn j b (s.place j.trim.kerf w number k o) ∧ ∀ n : Int, 0 ≤ n → cntB (s.place j.trim.kerf w number k o).cuts n = cntB s.cuts n + if n = number then 1 else 0 := by
  obtain ⟨hg, ho, hx⟩ := at_some h.good hk hf hw hs
  have hfree : freeC (s.cuts.getD k wasteC) (s.r k) = true ∧ fitsB b.defects (s.r k) w o = true := by
    unfold BS.at_ at hs
    split at hs
    · rename_i hfr; exact ⟨hfr, (offset_some hs).2⟩
    · cases hs
  obtain ⟨hfr, hfit⟩ := hfree
  obtain ⟨f1, f2, f3⟩ := fits_parts hfit
  have hck : s.cuts.getD k wasteC = cutF s.cuts k := by unfold cutF; rw [List.getD_eq_getElem?_getD, List.getD_eq_getElem?_getD, List.getElem?_eq_getElem hk]; rfl
  rw [hck] at hfr
  simp only [freeC, Bool.and_eq_true, decide_eq_true_eq] at hfr
  obtain ⟨⟨hl0, hbn⟩, -⟩ := hfr
  obtain ⟨q, hq⟩ : ∃ q, q = s.r k := ⟨_, rfl⟩
  have hpr : proper q := by rw [hq]; exact hg.pr
  rw [← hq] at f1 f2 f3 hx
  have hpr' := hpr
  unfold proper at hpr'
  have W0 : Way j b s (s, k) q.x1 q.y1 q.x2 q.y2 := ⟨hg, h.tree, h.fill, hl0, hbn, hq.symm, fun n hn => rfl⟩
  have W1 : Way j b s (s.cut1 j.trim.kerf k o) (q.x1 + o) q.y1 q.x2 q.y2 := by
    have g1 := good_cut1 hg hf ho (by rw [← hq]; omega)
    by_cases h0 : 0 < o
    · rw [cut1_pos h0] at g1 ⊢
      have ha : 1 ≤ o - j.trim.kerf ∧ o - j.trim.kerf ≤ sizeR (s.r k) true - 1 := by
        rw [← hq]; unfold sizeR; simp only [if_true]; omega
      have := W0.high_ (a := o - j.trim.kerf) g1 ha (by omega) (by omega)
      rw [show q.x1 + (o - j.trim.kerf) + j.trim.kerf = q.x1 + o by omega] at this
      exact this
    · obtain rfl : o = 0 := by omega
      rw [cut1_zero h0, Int.add_zero]; exact W0
  unfold BS.place
  generalize s.cut1 j.trim.kerf k o = t1 at W1 ⊢
  have W2 : Way j b s (BS.cut2 t1 j.trim.kerf w) (q.x1 + o) q.y1 (q.x1 + o + w.length) q.y2 := by
    have g2 := good_cut2 W1.good hf hw
    unfold BS.cut2 at g2 ⊢
    rw [W1.r] at g2 ⊢
    simp only at g2 ⊢
    by_cases h0 : w.length < q.x2 - (q.x1 + o)
    · rw [if_pos h0] at g2 ⊢
      have := W1.low_ (across := true) g2 (by rw [W1.r]; unfold sizeR; simp only [if_true]; omega)
      simpa using this
    · rw [if_neg h0, show q.x1 + o + w.length = q.x2 by omega]; exact W1
  generalize BS.cut2 t1 j.trim.kerf w = t2 at W2 ⊢
  have W3 : Way j b s (BS.cut3 t2 j.trim.kerf w) (q.x1 + o) q.y1 (q.x1 + o + w.length) (q.y1 + w.width) := by
    have g3 := good_cut3 W2.good hf hw2
    unfold BS.cut3 at g3 ⊢
    rw [W2.r] at g3 ⊢
    simp only at g3 ⊢
    by_cases h0 : w.width < q.y2 - q.y1
    · rw [if_pos h0] at g3 ⊢
      have := W2.low_ (across := false) g3 (by rw [W2.r]; unfold sizeR; simp; omega)
      simpa using this
    · rw [if_neg h0, show q.y1 + w.width = q.y2 by omega]; exact W2
  generalize BS.cut3 t2 j.trim.kerf w = t3 at W3 ⊢
  obtain ⟨s3, p3⟩ := t3
  have hlt : p3 < s3.cuts.length := W3.good.lt
  have hlow : (cutF s3.cuts p3).low = 0 := W3.low
  have hr3 : s3.r p3 = ⟨q.x1 + o, q.y1, q.x1 + o + w.length, q.y1 + w.width⟩ := W3.r
  refine ⟨⟨good_mark W3.good.toGoodB, tree_mark W3.tree hlt hlow (by omega), ⟨fun i hi h0 hb => ?_⟩⟩, fun n hn => ?_⟩
  · have hi : i < s3.cuts.length := by simpa [BS.mark] using hi
    have hc : cutF (BS.mark (s3, p3) number).cuts i = if i = p3 then pieceC number else cutF s3.cuts i := cutF_set hlt
    have hrr : (BS.mark (s3, p3) number).r i = s3.r i := rfl
    rw [hc] at h0 hb ⊢
    rw [hrr]
    by_cases e : i = p3
    · subst e
      rw [if_pos rfl]
      refine ⟨number, rfl, hnum, ?_⟩
      rw [hr3, hbl]
      unfold pieceOn
      have hk' : kindOk b w = true := hkind
      have hs' : soundB b.defects ⟨q.x1 + o, q.y1, q.x1 + o + w.length, q.y1 + w.width⟩ = true := f3
      rw [if_neg (by rw [hk']; decide), if_neg (by simp only; omega), if_neg (by rw [hs']; decide)]
    · rw [if_neg e] at h0 hb ⊢
      exact W3.fill.fill i hi h0 hb
  · have h1 := cnt_set (cs := s3.cuts) (p := p3) (c := pieceC number) (b := n) hlt
    have e2 : isP n s3.cuts[p3] = false := by
      have := W3.waste
      simp only at this
      rw [cutF_get hlt] at this
      unfold isP; rw [Bool.and_eq_false_iff]; right; simp; omega
    have e3 : isP n (pieceC number) = decide (n = number) := by
      unfold isP pieceC
      simp only [decide_true, Bool.true_and]
      by_cases e : n = number
      · subst e; simp
      · rw [decide_eq_false e, decide_eq_false (fun e' => e e'.symm)]
    rw [e2, e3] at h1
    have h2 := W3.cnt n hn
    simp only at h2
    show cntB (s3.cuts.set p3 (pieceC number)) n = _
    simp only [decide_eq_true_eq, Bool.false_eq_true, if_false] at h1
    omega
theorem put_in {s s' : BS} {w : Blank} {number : Nat} (h : BoardIn j b s) (hf : 0 ≤ j.trim.kerf) (hw : 0 < w.length) (hw2 : 0 < w.width) (hnum : number < j.blanks.length) (h29 : number ≤ 29) (hbl : bl j.blanks number = w)
    (hs : s.put j.trim.kerf b w number = some s') : BoardIn j b s' ∧ ∀ n : Int, 0 ≤ n → cntB s'.cuts n = cntB s.cuts n + if n = number then 1 else 0 := by
  unfold BS.put at hs
  split at hs
  · rename_i hk
    rw [Option.map_eq_some_iff] at hs
    obtain ⟨x, hx, rfl⟩ := hs
    obtain ⟨_, h2, h3⟩ := scan_some hx
    exact place_in h (by omega) hf hw hw2 hnum h29 hbl hk h3
  · cases hs
end

structure BoardsIn (j : Job) (L : List BS) : Prop where
  len : L.length = j.stock.length
  at_ : ∀ m (h : m < L.length), BoardIn j (j.stock.getD m default) L[m]
def tot (L : List BS) (n : Int) : Nat := (L.map fun s => cntB s.cuts n).sum
theorem tot_set : ∀ {L : List BS} {i : Nat} {s : BS} {n : Int} (hi : i < L.length), tot (L.set i s) n + cntB L[i].cuts n = tot L n + cntB s.cuts n
  | [], _, _, _, hi => by simp at hi
  | x :: L, 0, s, n, hi => by simp only [tot, List.set_cons_zero, List.map_cons, List.sum_cons, List.getElem_cons_zero]; omega
  | x :: L, i + 1, s, n, hi => by
    have := tot_set (L := L) (i := i) (s := s) (n := n) (by simpa using hi)
    simp only [tot, List.set_cons_succ, List.map_cons, List.sum_cons, List.getElem_cons_succ] at this ⊢
    omega
section
variable {j : Job}
theorem putAll_in {L L' : List BS} {number : Nat} (hJ : JobOk j.stock j.blanks j.trim) (hL : BoardsIn j L) (hnum : number < j.blanks.length) (h : putAll j.trim.kerf j.stock (bl j.blanks number) number L = some L') :
    BoardsIn j L' ∧ ∀ n : Int, 0 ≤ n → tot L' n = tot L n + if n = number then 1 else 0 := by
  obtain ⟨i, b, s, hi, hib, hp, rfl⟩ := putAll_some h
  have hiL : i < L.length := by rw [hL.len]; exact hi
  have hb : j.stock.getD i default = b := by rw [List.getD_eq_getElem?_getD, hib]; rfl
  have hs : L.getD i default = L[i] := by rw [List.getD_eq_getElem?_getD, List.getElem?_eq_getElem hiL]; rfl
  have hw := hJ.want (bl j.blanks number) (by unfold bl; rw [List.getD_eq_getElem?_getD, List.getElem?_eq_getElem hnum]; exact List.getElem_mem hnum)
  have hin := hL.at_ i hiL
  rw [hb] at hin
  rw [hs] at hp
  obtain ⟨h1, h2⟩ := put_in hin hJ.trim.1.1 (by omega) (by omega) hnum (by have := hJ.lenB; omega) rfl hp
  refine ⟨⟨by rw [List.length_set]; exact hL.len, fun m hm => ?_⟩, fun n hn => ?_⟩
  · rw [List.length_set] at hm
    rw [List.getElem_set]
    split
    · rename_i e; subst e; rw [hb]; exact h1
    · exact hL.at_ m hm
  · have h3 := tot_set (s := s) (n := n) hiL
    have h4 := h2 n hn
    omega
theorem run_in (hJ : JobOk j.stock j.blanks j.trim) : ∀ {seq : List Nat} {L L' : List BS}, (∀ i ∈ seq, i < j.blanks.length) → BoardsIn j L → runM j.trim.kerf j.stock j.blanks seq L = some L' →
    BoardsIn j L' ∧ ∀ n : Nat, tot L' n = tot L n + seq.count n
  | [], L, L', _, hL, h => by
    rw [runM] at h
    injection h with h
    subst h
    exact ⟨hL, fun n => by simp⟩
  | i :: seq, L, L', hi, hL, h => by
    rw [runM] at h
    split at h
    · rename_i L1 h1
      obtain ⟨g1, g2⟩ := putAll_in hJ hL (hi i (by simp)) h1
      obtain ⟨g3, g4⟩ := run_in hJ (fun x hx => hi x (List.mem_cons_of_mem _ hx)) g1 h
      refine ⟨g3, fun n => ?_⟩
      rw [g4 n, g2 n (by omega), List.count_cons]
      by_cases e : i = n
      · subst e; simp; omega
      · rw [if_neg (by omega), if_neg (by simpa using e)]; omega
    · cases h
theorem start_in (hJ : JobOk j.stock j.blanks j.trim) : BoardsIn j (startM j.stock j.trim) ∧ ∀ n : Nat, tot (startM j.stock j.trim) n = 0 := by
  refine ⟨⟨by simp [startM], fun m hm => ?_⟩, fun n => ?_⟩
  · have hm' : m < j.stock.length := by simpa [startM] using hm
    have hb := hJ.size _ (List.getElem_mem hm')
    have e : (startM j.stock j.trim)[m] = ⟨[wasteC], [usableR j.stock[m] j.trim]⟩ := by simp [startM]
    rw [e, List.getD_eq_getElem?_getD, List.getElem?_eq_getElem hm']
    refine ⟨⟨rfl, fun r hr => ?_⟩, tree_start _ _, ⟨fun i hi h0 hb0 => ?_⟩⟩
    · obtain rfl : r = usableR j.stock[m] j.trim := by simpa using hr
      unfold usableR
      refine okR_whole ?_
      have := hJ.trim
      simp only; omega
    · obtain rfl : i = 0 := by simp at hi; omega
      simp [cutF, wasteC] at hb0
  · unfold tot startM
    rw [List.map_map]
    have : ∀ l : List Board, ((l.map ((fun s : BS => cntB s.cuts n) ∘ fun b => (⟨[wasteC], [usableR b j.trim]⟩ : BS))).sum) = 0 := by
      intro l
      induction l with
      | nil => rfl
      | cons b l ih =>
        rw [List.map_cons, List.sum_cons, ih]
        have e : isP n wasteC = false := by unfold isP wasteC; rw [Bool.and_eq_false_iff]; right; simp
        simp [cntB, List.countP_cons, e]
    exact this _

/-! What comes out. -/
def outL : Nat → List BS → List (Nat × List Cut)
  | _, [] => []
  | i, s :: L => (if usedB s.cuts = true then [(i, s.cuts)] else []) ++ outL (i + 1) L
theorem out_is : ∀ {L : List BS} {i : Nat} {acc r : List (Nat × List Cut)}, outGo i L acc = some r → (∀ s ∈ L, s.cuts.length ≤ 400) ∧ r = acc ++ outL i L
  | [], i, acc, r, h => by
    rw [outGo] at h
    injection h with h
    exact ⟨fun s hs => by simp at hs, by simp [outL, h]⟩
  | s :: L, i, acc, r, h => by
    rw [outGo] at h
    split at h
    · cases h
    · rename_i h4
      obtain ⟨g1, g2⟩ := out_is h
      refine ⟨fun x hx => ?_, ?_⟩
      · rcases List.mem_cons.1 hx with rfl | hx
        · omega
        · exact g1 x hx
      · rw [g2, outL]
        split
        · simp
        · simp
def pcs (j : Job) (l : Layout) : List Placed := piecesTo l (layOf j l).1 l.cuts.length
theorem placesTo_flat {plan : List Layout} : ∀ {k : Nat}, k ≤ plan.length → placesTo j plan k = (plan.take k).flatMap (pcs j)
  | 0, _ => by simp [placesTo]
  | k + 1, hk => by rw [placesTo_step (by omega), placesTo_flat (by omega), List.take_succ_eq_append_getElem (by omega), List.flatMap_append, List.flatMap_singleton]; rfl
theorem placesM_flat {plan : List Layout} : placesM j plan = plan.flatMap (pcs j) := by
  unfold placesM; rw [placesTo_flat (Nat.le_refl _), List.take_length]
def ind (n : Nat) : Nat → Int := fun x => if x = n then 1 else 0
theorem sumP_app (f : Nat → Int) : ∀ A B : List Placed, sumP f (A ++ B) = sumP f A + sumP f B
  | [], B => by simp [sumP]
  | p :: A, B => by rw [List.cons_append, sumP, sumP_app f A B, sumP]; omega
theorem sum_piecesTo {l : Layout} {R : List Rect} {n : Nat} : ∀ {k : Nat}, k ≤ l.cuts.length → sumP (ind n) (piecesTo l R k) = ((l.cuts.take k).countP (isP n) : Nat)
  | 0, _ => by simp [piecesTo, sumP]
  | k + 1, hk => by
    have e1 : l.cuts.getD k default = l.cuts[k] := by rw [List.getD_eq_getElem?_getD, List.getElem?_eq_getElem (by omega)]; rfl
    rw [piecesTo, sumP_app, sum_piecesTo (by omega), List.take_succ_eq_append_getElem (by omega), List.countP_append, e1]
    generalize l.cuts[k] = c
    unfold isPieceC isP
    by_cases h0 : c.low = 0
    · by_cases h1 : 0 ≤ c.blank
      · rw [if_pos (by simp [h0, h1])]
        simp only [sumP, ind, List.countP_cons, List.countP_nil, h0, decide_true, Bool.true_and, decide_eq_true_eq]
        by_cases e : c.blank = n
        · rw [if_pos e, if_pos (by omega)]; omega
        · rw [if_neg e, if_neg (by omega)]; omega
      · rw [if_neg (by simp [h1])]
        simp only [sumP, List.countP_cons, List.countP_nil, h0, decide_true, Bool.true_and, decide_eq_true_eq]
        rw [if_neg (by omega)]; omega
    · rw [if_neg (by simp [h0])]
      simp [sumP, h0]
theorem sum_pcs {l : Layout} {n : Nat} : sumP (ind n) (pcs j l) = (cntB l.cuts n : Nat) := by
  unfold pcs cntB; rw [sum_piecesTo (Nat.le_refl _), List.take_length]
theorem not_used {cs : List Cut} {n : Nat} (h : ¬ usedB cs = true) : cntB cs n = 0 := by
  unfold cntB
  rw [List.countP_eq_zero]
  intro c hc hp
  apply h
  unfold usedB
  rw [List.any_eq_true]
  unfold isP at hp
  simp only [Bool.and_eq_true, decide_eq_true_eq] at hp
  exact ⟨c, hc, by simp only [Bool.and_eq_true, decide_eq_true_eq]; omega⟩
theorem sum_out {n : Nat} : ∀ (L : List BS) (i : Nat), sumP (ind n) ((planL (outL i L)).flatMap (pcs j)) = (tot L n : Nat)
  | [], i => by simp [outL, planL, sumP, tot]
  | s :: L, i => by
    have h1 := sum_out (n := n) L (i + 1)
    have h2 : tot (s :: L) n = cntB s.cuts n + tot L n := by simp [tot]
    rw [outL, h2]
    by_cases hu : usedB s.cuts = true
    · rw [if_pos hu]
      simp only [planL, List.cons_append, List.nil_append, List.map_cons, List.flatMap_cons] at h1 ⊢
      rw [sumP_app, h1, sum_pcs]
      simp
    · rw [if_neg hu, List.nil_append, h1, not_used hu]; simp
theorem lay_in {b : Board} {s : BS} {i : Nat} (h : BoardIn j b s) (hb : j.stock.getD i default = b) (h4 : s.cuts.length ≤ 400) : layOf j ⟨i, s.cuts⟩ = (s.rects, 0) := by
  unfold layOf
  simp only [Int.toNat_natCast]
  rw [hb]
  exact tree_reg h.tree h4
theorem layGo_out : ∀ (L : List BS) (i : Nat) (used : List Int), i + L.length = j.stock.length → (∀ m (h : m < L.length), BoardIn j (j.stock.getD (i + m) default) L[m] ∧ L[m].cuts.length ≤ 400) → (∀ x ∈ used, x < (i : Int)) → layGo j (planL (outL i L)) used = 0
  | [], i, used, _, _, _ => by simp [outL, planL, layGo]
  | s :: L, i, used, hlen, hL, hu => by
    have hrest := fun m (h : m < L.length) => hL (m + 1) (by simpa using h)
    simp only [List.getElem_cons_succ] at hrest
    have h0 := hL 0 (by simp)
    simp only [List.getElem_cons_zero, Nat.add_zero] at h0
    rw [List.length_cons] at hlen
    rw [outL]
    by_cases hus : usedB s.cuts = true
    · rw [if_pos hus]
      have e : planL ([(i, s.cuts)] ++ outL (i + 1) L) = ⟨i, s.cuts⟩ :: planL (outL (i + 1) L) := rfl
      rw [e, layGo, if_neg (by simp only; omega), if_neg (by intro hm; have := hu _ hm; simp only at this; omega), if_neg (by rw [lay_in h0.1 rfl h0.2]; simp)]
      refine layGo_out L (i + 1) _ (by omega) (fun m h => by have := hrest m h; rwa [show i + (m + 1) = i + 1 + m by omega] at this) fun x hx => ?_
      rcases List.mem_append.1 hx with hx | hx
      · have := hu x hx; omega
      · simp only [List.mem_singleton] at hx; omega
    · rw [if_neg hus, List.nil_append]
      exact layGo_out L (i + 1) _ (by omega) (fun m h => by have := hrest m h; rwa [show i + (m + 1) = i + 1 + m by omega] at this) fun x hx => by have := hu x hx; omega
theorem piece_in {b : Board} {s : BS} {i : Nat} (h : BoardIn j b s) (hb : j.stock.getD i default = b) (h4 : s.cuts.length ≤ 400) : ∀ p ∈ pcs j ⟨i, s.cuts⟩, pieceE j p = 0 ∧ 0 ≤ p.blank := by
  intro p hp
  unfold pcs at hp
  rw [lay_in h hb h4] at hp
  obtain ⟨k, hk, hc, rfl⟩ := piecesTo_at hp
  simp only at hk hc
  unfold isPieceC at hc
  simp only [Bool.and_eq_true, decide_eq_true_eq] at hc
  have e : s.cuts.getD k default = cutF s.cuts k := rfl
  rw [e] at hc
  obtain ⟨n, h1, h2, h3⟩ := h.fill.fill k hk hc.1 hc.2
  refine ⟨?_, by simp only; rw [e]; exact hc.2⟩
  unfold pieceE
  simp only
  rw [e, h1, if_neg (by omega), Int.toNat_natCast, Int.toNat_natCast, hb]
  exact h3
theorem pieces_out : ∀ (L : List BS) (i : Nat), (∀ m (h : m < L.length), BoardIn j (j.stock.getD (i + m) default) L[m] ∧ L[m].cuts.length ≤ 400) → ∀ p ∈ (planL (outL i L)).flatMap (pcs j), pieceE j p = 0 ∧ 0 ≤ p.blank
  | [], i, _, p, hp => by simp [outL, planL] at hp
  | s :: L, i, hL, p, hp => by
    have hrest := fun m (h : m < L.length) => hL (m + 1) (by simpa using h)
    simp only [List.getElem_cons_succ] at hrest
    have h0 := hL 0 (by simp)
    simp only [List.getElem_cons_zero, Nat.add_zero] at h0
    rw [outL] at hp
    have hr : ∀ p ∈ (planL (outL (i + 1) L)).flatMap (pcs j), pieceE j p = 0 ∧ 0 ≤ p.blank := pieces_out L (i + 1) fun m h => by have := hrest m h; rwa [show i + (m + 1) = i + 1 + m by omega] at this
    by_cases hus : usedB s.cuts = true
    · rw [if_pos hus] at hp
      have e : planL ([(i, s.cuts)] ++ outL (i + 1) L) = ⟨i, s.cuts⟩ :: planL (outL (i + 1) L) := rfl
      rw [e, List.flatMap_cons, List.mem_append] at hp
      rcases hp with hp | hp
      · exact piece_in h0.1 rfl h0.2 p hp
      · exact hr p hp
    · rw [if_neg hus, List.nil_append] at hp
      exact hr p hp
theorem pieceGo_good : ∀ {P : List Placed} {cs : List Int}, (∀ p ∈ P, pieceE j p = 0) → (pieceGo j P cs).1 = (zeroPl, 0)
  | [], cs, _ => rfl
  | p :: P, cs, h => by
    rw [pieceGo, if_neg (by rw [h p (by simp)]; simp)]
    exact pieceGo_good fun x hx => h x (List.mem_cons_of_mem _ hx)
theorem dot_ind {cs : List Int} {n : Nat} (h : n < cs.length) : dotL cs (ind n) = cs.getD n 0 := by
  unfold dotL ind
  rw [sumTo_congr (g := fun b => if b = n then cs.getD n 0 else 0) (fun b _ => by
    by_cases e : b = n
    · subst e; rw [if_pos rfl, if_pos rfl, Int.mul_one]
    · rw [if_neg e, if_neg e, Int.mul_zero]), sumTo_one, if_pos h]
theorem any_false_of {cs ns : List Int} {q : Int × Int → Bool} (hl : cs.length = ns.length) (h : ∀ i (h1 : i < cs.length) (h2 : i < ns.length), q (cs[i], ns[i]) = false) : (cs.zip ns).any q = false := by
  rw [List.any_eq_false]
  intro x hx
  obtain ⟨i, hi, rfl⟩ := List.mem_iff_getElem.1 hx
  rw [List.getElem_zip]
  have h1 : i < cs.length := by rw [List.length_zip] at hi; omega
  rw [h i h1 (by omega)]; decide
theorem count_good {cs : List Int} (hl : cs.length = j.blanks.length) (h : ∀ b (hb : b < j.blanks.length), cs.getD b 0 = j.blanks[b].count) : countE j cs = 0 := by
  have e : ∀ i (h1 : i < cs.length) (h2 : i < (countsOf j).length), cs[i] = (countsOf j)[i] := fun i h1 h2 => by
    have := h i (by omega)
    rw [List.getD_eq_getElem?_getD, List.getElem?_eq_getElem h1] at this
    simp only [countsOf, List.getElem_map]
    exact this
  have hln : cs.length = (countsOf j).length := by unfold countsOf; rw [List.length_map]; exact hl
  refine count_ok (any_false_of hln fun i h1 h2 => ?_) (any_false_of hln fun i h1 h2 => ?_)
  · rw [e i h1 h2]; simp
  · rw [e i h1 h2]; simp
theorem insOne_perm {l : List Blank} {order : List Nat} {i : Nat} : (insOne l order i).Perm (i :: order) := by
  unfold insOne
  refine List.perm_middle.trans ?_
  rw [List.take_append_drop]
theorem orderGo_perm {l : List Blank} : ∀ {r order : List Nat}, (orderGo l r order).Perm (r ++ order)
  | [], order => by simp [orderGo]
  | i :: r, order => by
    rw [orderGo]
    refine orderGo_perm.trans ?_
    refine ((insOne_perm).append_left r).trans ?_
    rw [List.cons_append]
    exact List.perm_middle
theorem orderM_perm {l : List Blank} : (orderM l).Perm (List.range l.length) := by
  unfold orderM
  have := orderGo_perm (l := l) (r := List.range l.length) (order := [])
  rwa [List.append_nil] at this
theorem count_flat (f : Nat → Nat) (n : Nat) : ∀ L : List Nat, (L.flatMap fun i => List.replicate (f i) i).count n = L.count n * f n
  | [] => by simp
  | i :: L => by
    rw [List.flatMap_cons, List.count_append, count_flat f n L, List.count_cons, List.count_replicate]
    by_cases e : i = n
    · subst e; simp [Nat.add_mul]; omega
    · simp [e]
theorem seq_count {l : List Blank} {n : Nat} (h : n < l.length) : (seqM l).count n = (bl l n).count.toNat := by
  unfold seqM
  rw [count_flat (fun i => (bl l i).count.toNat), orderM_perm.count_eq, show List.count n (List.range l.length) = 1 from ?_, Nat.one_mul]
  rw [List.count_range, if_pos h]
theorem seq_lt {l : List Blank} {i : Nat} (h : i ∈ seqM l) : i < l.length := by
  unfold seqM at h
  obtain ⟨x, hx, hi⟩ := List.mem_flatMap.1 h
  obtain rfl := (List.mem_replicate.1 hi).2
  exact orderM_lt hx
/-- THE GREEDY PLAN IS ACCEPTED. -/
theorem greedy_accepted (hE : jobE j = 0) {r : List (Nat × List Cut)} (hg : greedyM j.stock j.blanks j.trim = (r, 0)) : planE2 j (planL r) = (zeroPl, 0) ∧ r.length ≤ j.stock.length := by
  have hJ := jobOk_of hE
  unfold greedyM at hg
  split at hg
  · injection hg with _ h; simp at h
  · rename_i L hrun
    split at hg
    · injection hg with _ h; simp at h
    · rename_i r' hout
      injection hg with hg _
      subst hg
      obtain ⟨h4, hr⟩ := out_is hout
      rw [List.nil_append] at hr
      subst hr
      obtain ⟨s1, s2⟩ := start_in hJ
      obtain ⟨g1, g2⟩ := run_in hJ (fun i hi => seq_lt hi) s1 hrun
      have hL : ∀ m (h : m < L.length), BoardIn j (j.stock.getD (0 + m) default) L[m] ∧ L[m].cuts.length ≤ 400 := fun m h => by rw [Nat.zero_add]; exact ⟨g1.at_ m h, h4 _ (List.getElem_mem h)⟩
      have hp := pieces_out L 0 hL
      have hlen : ∀ (L : List BS) (i : Nat), (outL i L).length ≤ L.length := by
        intro L
        induction L with
        | nil => intro i; simp [outL]
        | cons s L ih => intro i; have := ih (i + 1); rw [outL]; split <;> simp <;> omega
      refine ⟨?_, by have := hlen L 0; rw [g1.len] at this; exact this⟩
      have hgo := pieceGo_good (j := j) (P := placesM j (planL (outL 0 L))) (cs := List.replicate j.blanks.length 0) (fun p h => (hp p (by rwa [placesM_flat] at h)).1)
      unfold planE2
      rw [if_neg (by rw [hE]; simp)]
      unfold planOf
      rw [if_neg (by rw [layGo_out L 0 [] (by rw [g1.len]; omega) hL (fun x hx => by simp at hx)]; simp), hgo, if_neg (by simp)]
      have hcs := fun n => pieceGo_all (ind n) (j := j) (P := placesM j (planL (outL 0 L))) (cs := List.replicate j.blanks.length 0) (by rw [hgo]) (by simp) (fun p h => (hp p (by rwa [placesM_flat] at h)).2)
      rw [count_good (by rw [(hcs 0).2.1]; simp) fun b hb => ?_]
      have h5 := (hcs b).2.2
      rw [dot_ind (by rw [(hcs 0).2.1]; simpa using hb), dot_ind (by simpa using hb), show sumP (ind b) (placesM j (planL (outL 0 L))) = _ by rw [placesM_flat, sum_out], g2 b, s2 b, seq_count hb] at h5
      rw [h5]
      have hw := hJ.want j.blanks[b] (List.getElem_mem hb)
      have hbb : bl j.blanks b = j.blanks[b] := by unfold bl; rw [List.getD_eq_getElem?_getD, List.getElem?_eq_getElem hb]; rfl
      rw [hbb, List.getD_eq_getElem?_getD, List.getElem?_replicate, if_pos hb]
      simp only [Option.getD_some]
      omega
end
end Go.Proofs.YtjmgboipbhddlaaGreatDoor
