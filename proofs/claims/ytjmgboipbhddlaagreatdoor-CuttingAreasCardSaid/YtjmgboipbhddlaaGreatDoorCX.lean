import Derived.Test.YtjmgboipbhddlaaGreatDoorCB
import Derived.Test.YtjmgboipbhddlaaGreatDoorSlots
import Derived.Deep.RegionHeld
import Derived.Test.YtjmgboipbhddlaaGreatDoorShelf
import Derived.Sort.OwnSortedInts
import Derived.Lib.OwnBridge
import Derived.Lib.RowBridge
set_option linter.unusedVariables false
set_option linter.unusedSimpArgs false
namespace Go.Proofs.YtjmgboipbhddlaaGreatDoor
open Go Go.RowKit Go.Maps Go.WideMaps

section
variable {α : Type} {enc : α → List Value} {k : Nat}
theorem flat_len (hk : ∀ x, (enc x).length = k) : ∀ l : List α, (l.flatMap enc).length = l.length * k
 | [] => by simp
 | a :: l => by rw [List.flatMap_cons, List.length_append, hk, flat_len hk l, List.length_cons, Nat.add_mul]; omega
theorem flat_get (hk : ∀ x, (enc x).length = k) : ∀ {l : List α} {i c : Nat} (hi : i < l.length), c < k → (l.flatMap enc)[i * k + c]? = (enc l[i])[c]?
 | [], _, _, hi, _ => absurd hi (by simp)
 | a :: l, 0, c, _, hc => by
  rw [List.flatMap_cons, Nat.zero_mul, Nat.zero_add, List.getElem?_append_left (by rw [hk]; exact hc)]; rfl
 | a :: l, i + 1, c, hi, hc => by
  have hi' : i < l.length := by simpa using hi
  rw [List.flatMap_cons, List.getElem?_append_right (by rw [hk, Nat.add_mul]; omega), hk, show (i + 1) * k + c - k = i * k + c by rw [Nat.add_mul]; omega, flat_get hk hi' hc]
  rfl
theorem own_cells {w : World} {base e n : Nat} {v : Value} {l : List α} (hk : ∀ x, (enc x).length = k) (h : w.ownsRow base e k v n (l.flatMap enc)) (hne : l ≠ []) (hk0 : 0 < k) :
    ∃ g cap, v = .slice (some ⟨g, 0, none⟩) n cap ∧ base ≤ g ∧ g < w.heap.size ∧ n = l.length ∧ n ≤ cap ∧ cap ≤ 9223372036854775807 ∧
     ∀ i (hi : i < l.length) c, c < k → w.cell? ⟨g, i * k + c, none⟩ = (enc l[i])[c]? ∧ w.frozen? ⟨g, i * k + c, none⟩ = false := by
 obtain ⟨hlen, h2⟩ := h
 rw [flat_len hk] at hlen
 have hn : l.length = n := Nat.eq_of_mul_eq_mul_right hk0 hlen
 rcases h2 with ⟨_, h0⟩ | ⟨g, cap, cur, rfl, hb, hblk, h1, h2, hs, ht⟩
 ·exact absurd (List.length_eq_zero_iff.1 (hn.trans h0)) hne
 ·refine ⟨g, cap, rfl, hb, (Array.getElem?_eq_some_iff.1 hblk).1, hn.symm, h1, h2, fun i hi c hc => ⟨?_, by simp [World.frozen?, hblk]⟩⟩
  have hlt : i * k + c < n * k := by
   have : i * k + k ≤ n * k := by have := Nat.mul_le_mul_right k (show i + 1 ≤ n by omega); rwa [Nat.add_mul, Nat.one_mul] at this
   omega
  have e1 : (cur.toList.take (n * k))[i * k + c]? = (l.flatMap enc)[i * k + c]? := by rw [ht]
  rw [List.getElem?_take, if_pos hlt, Array.getElem?_toList, flat_get hk hi hc] at e1
  simp only [World.cell?, hblk, Option.isSome_none, Bool.false_eq_true, if_false]
  exact e1
theorem own_rowV {R : World → Nat → Nat → α → Prop} {w : World} {base e n c : Nat} {a : Option Addr} {l : List α} (hk : ∀ x, (enc x).length = k) (hk0 : 0 < k)
    (hR : ∀ b o x, x ∈ l → (∀ j u, (enc x)[j]? = some u → w.cell? ⟨b, o + j, none⟩ = some u) → R w b o x) (h : w.ownsRow base e k (.slice a n c) n (l.flatMap enc)) : RowV k R w a l := by
 intro hne
 obtain ⟨g, cap, hv, _, _, _, _, _, hcell⟩ := own_cells hk h hne hk0
 injection hv with ha _ _
 refine ⟨g, 0, ha, fun i x hi => ?_⟩
 obtain ⟨hi', rfl⟩ := List.getElem?_eq_some_iff.1 hi
 refine hR _ _ _ (List.getElem_mem hi') fun j u hj => ?_
 have hjk : j < k := by rw [← hk l[i]]; exact (List.getElem?_eq_some_iff.1 hj).1
 rw [Nat.zero_add, (hcell i hi' j hjk).1, hj]
theorem own_len {w : World} {base e n : Nat} {v : Value} {l : List α} (hk : ∀ x, (enc x).length = k) (hk0 : 0 < k) (h : w.ownsRow base e k v n (l.flatMap enc)) : n = l.length := by
 have := h.1; rw [flat_len hk] at this; exact (Nat.eq_of_mul_eq_mul_right hk0 this).symm
theorem flat_set (hk : ∀ x, (enc x).length = k) : ∀ {l : List α} {i c : Nat} {x' : α} {u : Value} (hi : i < l.length), c < k → enc x' = (enc l[i]).set c u → (l.set i x').flatMap enc = (l.flatMap enc).set (i * k + c) u
 | [], _, _, _, _, hi, _, _ => absurd hi (by simp)
 | a :: l, 0, c, x', u, _, hc, hx => by
  simp only [List.set_cons_zero, List.flatMap_cons, Nat.zero_mul, Nat.zero_add]
  rw [List.set_append_left _ _ (by rw [hk]; exact hc), hx]; rfl
 | a :: l, i + 1, c, x', u, hi, hc, hx => by
  have hi' : i < l.length := by simpa using hi
  simp only [List.set_cons_succ, List.flatMap_cons]
  rw [List.set_append_right _ _ (by rw [hk, Nat.add_mul]; omega), hk, show (i + 1) * k + c - k = i * k + c by rw [Nat.add_mul]; omega, flat_set hk hi' hc (by simpa using hx)]
end
theorem rect_info : (Tryz.prog.info? 41).map (fun i => (i.zero, i.size, i.bytes)) = some (some (.agg #[.int .i64 0, .int .i64 0, .int .i64 0, .int .i64 0]), 4, 32) := by kernel_rfl
def cellsR (x : Rect) : List Value := [.int .i64 x.x1, .int .i64 x.y1, .int .i64 x.x2, .int .i64 x.y2]
theorem cellsR_len (x : Rect) : (cellsR x).length = 4 := rfl
theorem cellsR_one (x : Rect) : ∀ v ∈ cellsR x, v.oneCell' = true := by
 intro v hv
 simp only [cellsR, List.mem_cons, List.not_mem_nil, or_false] at hv
 rcases hv with rfl | rfl | rfl | rfl <;> rfl
theorem own_slice {w : World} {base e k n : Nat} {v : Value} {xs : List Value} (h : w.ownsRow base e k v n xs) : ∃ a c, v = .slice a n c ∧ n ≤ c ∧ c ≤ 9223372036854775807 := by
 rcases h.2 with ⟨rfl, rfl⟩ | ⟨g, cap, cur, rfl, _, _, h1, h2, _⟩
 ·exact ⟨none, 0, rfl, Nat.le_refl _, by omega⟩
 ·exact ⟨_, cap, rfl, h1, h2⟩
theorem own_mono {w : World} {base base' e k n : Nat} {v : Value} {xs : List Value} (h : w.ownsRow base e k v n xs) (hb : base' ≤ base) : w.ownsRow base' e k v n xs := by
 refine ⟨h.1, ?_⟩
 rcases h.2 with h0 | ⟨g, cap, cur, e1, h1, h2⟩
 ·exact .inl h0
 ·exact .inr ⟨g, cap, cur, e1, by omega, h2⟩

def cellsC (x : Cut) : List Value := [.bool x.across, .int .i64 x.at_, .int .i64 x.low, .int .i64 x.high, .int .i64 x.blank]
theorem cellsC_len (x : Cut) : (cellsC x).length = 5 := rfl
theorem cellsC_one (x : Cut) : ∀ v ∈ cellsC x, v.oneCell' = true := by
 intro v hv
 simp only [cellsC, List.mem_cons, List.not_mem_nil, or_false] at hv
 rcases hv with rfl | rfl | rfl | rfl | rfl <;> rfl
theorem cut_info : (Tryz.prog.info? 86).map (fun i => (i.zero, i.size, i.bytes)) = some (some (.agg #[.bool false, .int .i64 0, .int .i64 0, .int .i64 0, .int .i64 0]), 5, 40) := by kernel_rfl
theorem int_info : (Tryz.prog.info? 3).map (fun i => (i.zero, i.size, i.bytes)) = some (some (.int .i64 0), 1, 8) := by kernel_rfl

end Go.Proofs.YtjmgboipbhddlaaGreatDoor
set_option linter.unusedVariables false
set_option linter.unusedSimpArgs false
namespace Go.Proofs.YtjmgboipbhddlaaGreatDoor
open Go Go.RowKit Go.Sort Go.Lib

theorem sort_n (g cap : Nat) (zs : List Int) (w : World) (base : Nat) (hown : w.ownsRow base 3 1 (.slice (some ⟨g, 0, none⟩) zs.length cap) zs.length (zs.map (Value.int .i64))) (hl : zs.length < 1000000) :
    Calls Tryz.prog 111 #[.slice (some ⟨g, 0, none⟩) zs.length cap] w fun e w' => e = .returned (.tuple #[]) ∧
     w'.ownsRow base 3 1 (.slice (some ⟨g, 0, none⟩) zs.length cap) zs.length ((zs.mergeSort fun x y => decide (x ≤ y)).map (Value.int .i64)) ∧ w.grownBy w' (some g) := by
 rcases hown.2 with ⟨h0, _⟩ | ⟨g', cap', cur, hv, hbase, hb, h1, h2, h3, h4⟩
 ·cases h0
 ·injection hv with hv1 _ hv2
  injection hv1 with hv1
  injection hv1 with hv1
  subst hv1 hv2
  have hgl : g < w.heap.size := (Array.getElem?_eq_some_iff.1 hb).1
  have hH : Holds (Value.int .i64) w g 0 zs.toArray := holds_of_blockI hb (by simpa using h4)
  refine (Tryz.slices_Sort_int g 0 cap zs w hH hgl (by omega)).mono ?_
  rintro e w1 ⟨he, n1, os, rfl⟩
  exact ⟨he, ownsRow_sortedI (List.length_mergeSort _) hbase hb h1 h2 h3, grownBy_sortedI _⟩
end Go.Proofs.YtjmgboipbhddlaaGreatDoor
