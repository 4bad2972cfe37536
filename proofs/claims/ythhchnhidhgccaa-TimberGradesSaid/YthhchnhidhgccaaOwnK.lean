/- Rows of structs that the call itself owns: their cells, a store into an element, the sort. -/
import Derived.Test.YthhchnhidhgccaaData
import Derived.Shelf.SlSortCmp.WholeK
set_option linter.unusedVariables false
set_option linter.unusedSimpArgs false
namespace Go.Proofs.Ythhchnhidhgccaa
open Go Go.RowKit

section
variable {α : Type} {enc : α → List Value} {k : Nat}
theorem flat_len (hk : ∀ x, (enc x).length = k) : ∀ l : List α, (l.flatMap enc).length = l.length * k
  | [] => by simp
  | a :: l => by rw [List.flatMap_cons, List.length_append, hk, flat_len hk l, List.length_cons, Nat.add_mul]; omega
theorem flat_get (hk : ∀ x, (enc x).length = k) : ∀ {l : List α} {i c : Nat} (hi : i < l.length), c < k → (l.flatMap enc)[i * k + c]? = (enc l[i])[c]?
  | [], _, _, hi, _ => absurd hi (by simp)
  | a :: l, 0, c, _, hc => by
    rw [List.flatMap_cons, Nat.zero_mul, Nat.zero_add, List.getElem?_append_left (by rw [hk]; exact hc)]; rfl
  | a :: l, i + 1, c, hi, hc => by
    have hi' : i < l.length := by simpa using hi
    rw [List.flatMap_cons, List.getElem?_append_right (by rw [hk, Nat.add_mul]; omega), hk, show (i + 1) * k + c - k = i * k + c by rw [Nat.add_mul]; omega, flat_get hk hi' hc]
    rfl
theorem own_cells {w : World} {base e n : Nat} {v : Value} {l : List α} (hk : ∀ x, (enc x).length = k) (h : w.ownsRow base e k v n (l.flatMap enc)) (hne : l ≠ []) (hk0 : 0 < k) :
    ∃ g cap, v = .slice (some ⟨g, 0, none⟩) n cap ∧ base ≤ g ∧ g < w.heap.size ∧ n = l.length ∧ n ≤ cap ∧ cap ≤ 9223372036854775807 ∧
      ∀ i (hi : i < l.length) c, c < k → w.cell? ⟨g, i * k + c, none⟩ = (enc l[i])[c]? ∧ w.frozen? ⟨g, i * k + c, none⟩ = false := by
  obtain ⟨hlen, h2⟩ := h
  rw [flat_len hk] at hlen
  have hn : l.length = n := Nat.eq_of_mul_eq_mul_right hk0 hlen
  rcases h2 with ⟨_, h0⟩ | ⟨g, cap, cur, rfl, hb, hblk, h1, h2, hs, ht⟩
  · exact absurd (List.length_eq_zero_iff.1 (hn.trans h0)) hne
  · refine ⟨g, cap, rfl, hb, (Array.getElem?_eq_some_iff.1 hblk).1, hn.symm, h1, h2, fun i hi c hc => ⟨?_, by simp [World.frozen?, hblk]⟩⟩
    have hlt : i * k + c < n * k := by
      have : i * k + k ≤ n * k := by have := Nat.mul_le_mul_right k (show i + 1 ≤ n by omega); rwa [Nat.add_mul, Nat.one_mul] at this
      omega
    have e1 : (cur.toList.take (n * k))[i * k + c]? = (l.flatMap enc)[i * k + c]? := by rw [ht]
    rw [List.getElem?_take, if_pos hlt, Array.getElem?_toList, flat_get hk hi hc] at e1
    simp only [World.cell?, hblk, Option.isSome_none, Bool.false_eq_true, if_false]
    exact e1
theorem own_rowV {R : World → Nat → Nat → α → Prop} {w : World} {base e n c : Nat} {a : Option Addr} {l : List α} (hk : ∀ x, (enc x).length = k) (hk0 : 0 < k)
    (hR : ∀ b o x, x ∈ l → (∀ j u, (enc x)[j]? = some u → w.cell? ⟨b, o + j, none⟩ = some u) → R w b o x) (h : w.ownsRow base e k (.slice a n c) n (l.flatMap enc)) : RowV k R w a l := by
  intro hne
  obtain ⟨g, cap, hv, _, _, _, _, _, hcell⟩ := own_cells hk h hne hk0
  injection hv with ha _ _
  refine ⟨g, 0, ha, fun i x hi => ?_⟩
  obtain ⟨hi', rfl⟩ := List.getElem?_eq_some_iff.1 hi
  refine hR _ _ _ (List.getElem_mem hi') fun j u hj => ?_
  have hjk : j < k := by rw [← hk l[i]]; exact (List.getElem?_eq_some_iff.1 hj).1
  rw [Nat.zero_add, (hcell i hi' j hjk).1, hj]
theorem own_len {w : World} {base e n : Nat} {v : Value} {l : List α} (hk : ∀ x, (enc x).length = k) (hk0 : 0 < k) (h : w.ownsRow base e k v n (l.flatMap enc)) : n = l.length := by
  have := h.1; rw [flat_len hk] at this; exact (Nat.eq_of_mul_eq_mul_right hk0 this).symm
variable [Inhabited α]
theorem holdsK_of_own {w : World} {base e n : Nat} {v : Value} {l : List α} (hk : ∀ x, (enc x).length = k) (h : w.ownsRow base e k v n (l.flatMap enc)) (hne : l ≠ []) (hk0 : 0 < k) :
    ∃ g cap, v = .slice (some ⟨g, 0, none⟩) n cap ∧ base ≤ g ∧ g < w.heap.size ∧ n = l.length ∧ Go.Sort.HoldsK enc k w g 0 l.toArray := by
  obtain ⟨g, cap, rfl, hb, hg, hn, _, _, hc⟩ := own_cells hk h hne hk0
  refine ⟨g, cap, rfl, hb, hg, hn, fun t ht => ?_⟩
  have ht' : t < l.length * k := by simpa using ht
  have h1 : t / k < l.length := Nat.div_lt_of_lt_mul (by rwa [Nat.mul_comm])
  have h2 : t % k < k := Nat.mod_lt _ hk0
  have e1 : t / k * k + t % k = t := by rw [Nat.mul_comm]; exact Nat.div_add_mod t k
  have := hc (t / k) h1 (t % k) h2
  rw [e1] at this
  rw [Go.Sort.get_flatK _ _ _ _ (by simpa using ht'), Nat.zero_add]
  refine ⟨?_, this.2⟩
  rw [this.1]
  simp [getElem!_pos, h1, hk, h2]
theorem flatK_toList (hk : ∀ x, (enc x).length = k) (hk0 : 0 < k) (d : Array α) : (Go.Sort.flatK enc k d).toList = d.toList.flatMap enc := by
  apply List.ext_getElem?
  intro t
  by_cases ht : t < d.size * k
  · have h1 : t / k < d.toList.length := by simpa using Nat.div_lt_of_lt_mul (by rwa [Nat.mul_comm] at ht)
    have h2 : t % k < k := Nat.mod_lt _ hk0
    have e1 : t / k * k + t % k = t := by rw [Nat.mul_comm]; exact Nat.div_add_mod t k
    have e2 := flat_get hk h1 h2
    rw [e1] at e2
    rw [e2, Array.getElem?_toList, Array.getElem?_eq_getElem (by simpa using ht)]
    have e3 := Go.Sort.get_flatK enc k d t ht
    rw [getElem!_pos _ _ (by simpa using ht)] at e3
    rw [e3]
    have h1' : t / k < d.size := by simpa using h1
    simp [getElem!_pos, h1', hk, h2]
  · rw [List.getElem?_eq_none (by simpa using ht), List.getElem?_eq_none (by rw [flat_len hk]; simpa using ht)]
theorem own_sorted {w : World} {base e n m g cap : Nat} {l : List α} {d : Array α} {os : Array Obj} (hk : ∀ x, (enc x).length = k) (hk0 : 0 < k) (h : w.ownsRow base e k (.slice (some ⟨g, 0, none⟩) n cap) n (l.flatMap enc)) (hd : d.size = n) :
    (Go.Proofs.sortWorldK enc k w g 0 m d os).ownsRow base e k (.slice (some ⟨g, 0, none⟩) n cap) n (d.toList.flatMap enc) := by
  refine ⟨by rw [flat_len hk]; simp [hd], ?_⟩
  rcases h.2 with ⟨e0, _⟩ | ⟨g', cap', cur, e0, hb, hg, hn, hm, hs, ht⟩
  · cases e0
  · injection e0 with e1 _ e3
    injection e1 with e1
    injection e1 with e1
    subst e1; subst e3
    have hlt : g < w.heap.size := (Array.getElem?_eq_some_iff.1 hg).1
    refine .inr ⟨g, cap, Go.Sort.putCells id 0 (Go.Sort.flatK enc k d) cur, rfl, hb, ?_, hn, hm, by simpa [Go.Sort.putCells] using hs, ?_⟩
    · unfold Go.Proofs.sortWorldK Go.Sort.putRowK Go.Sort.putRow
      rw [Go.Sort.heap_grow_old _ _ (by simpa [Go.Sort.mapBlock, Go.Sort.ahead] using hlt)]
      simp [Go.Sort.mapBlock, Go.Sort.ahead, Array.getElem?_modify, hg, Go.Sort.onCells]
    · rw [← flatK_toList hk hk0]
      have hnk : n * k ≤ cur.size := by rw [hs]; exact Nat.mul_le_mul_right _ hn
      apply List.ext_getElem?
      intro j
      rw [List.getElem?_take]
      by_cases hj : j < n * k
      · have hjc : j < cur.size := by omega
        rw [if_pos hj, Array.getElem?_toList, Array.getElem?_toList, Array.getElem?_eq_getElem (show j < (Go.Sort.flatK enc k d).size by simp [hd]; exact hj)]
        simp only [Go.Sort.putCells, Array.getElem?_mapIdx, Array.getElem?_eq_getElem hjc, Option.map_some]
        rw [if_pos (by simp [hd]; exact hj)]
        simp [getElem!_pos, hd, hj]
      · rw [if_neg hj, List.getElem?_eq_none (by simp [hd]; omega)]
theorem below_sorted {B : Nat} {w0 w : World} {g m : Nat} {d : Array α} {os : Array Obj} (h : Below B w0 w) (hg : B ≤ g) (hlt : g < w.heap.size) (hB : B ≤ w.heap.size) : Below B w0 (Go.Proofs.sortWorldK enc k w g 0 m d os) := by
  refine ⟨h.os, h.tape, h.output, ?_, fun j hj => ?_⟩
  · have := h.size
    simp [Go.Proofs.sortWorldK, Go.Sort.putRowK, Go.Sort.putRow, Go.Sort.mapBlock, Go.Sort.ahead]; omega
  · rw [← h.block j hj]
    unfold Go.Proofs.sortWorldK Go.Sort.putRowK Go.Sort.putRow
    rw [Go.Sort.heap_grow_old _ _ (by simp [Go.Sort.mapBlock, Go.Sort.ahead]; omega)]
    simp [Go.Sort.mapBlock, Go.Sort.ahead, Array.getElem?_modify, show g ≠ j by omega]
theorem perm_of_permIn {d d' : Array α} (h : Go.Sort.PermIn 0 d.size d d') : d'.size = d.size ∧ d'.toList.Perm d.toList := by
  obtain ⟨h1, _, h3⟩ := h
  refine ⟨h1, ?_⟩
  have e1 : d.extract 0 d.size = d := by simp
  have e2 : d'.extract 0 d.size = d' := by rw [← h1]; simp
  rw [e1, e2] at h3
  exact h3
theorem pairwise_of_sorted {lt : α → α → Bool} {d : Array α} {n : Nat} (hn : n = d.size) (h : Go.Sort.SortedIn lt 0 n d) : d.toList.Pairwise (fun x y => lt y x = false) := by
  rw [List.pairwise_iff_getElem]
  intro i j hi hj hij
  have hi' : i < d.size := by simpa using hi
  have hj' : j < d.size := by simpa using hj
  have := h i j (Nat.zero_le _) hij (by omega)
  rw [getElem!_pos d i hi', getElem!_pos d j hj'] at this
  simpa using this
end
end Go.Proofs.Ythhchnhidhgccaa
