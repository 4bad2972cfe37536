/- slices.SortFunc at rows that the call itself owns: rectangles by their lower side, numbers falling. -/
import Derived.Test.YtpaindkfbgoogaaGreatG11
import Derived.Test.YtpaindkfbgoogaaGreatShelf2
import Derived.Test.YtpaindkfbgoogaaGreatBDX
import Derived.BigRegion
import Derived.Shelf.SlSortCmp.Whole1
set_option linter.unusedVariables false
set_option linter.unusedSimpArgs false
namespace Go.Proofs.YtpaindkfbgoogaaGreat
open Go Go.RowKit Go.Sort Go.Lib

section
variable {α : Type} {enc : α → List Value} {k : Nat} [Inhabited α]
theorem holdsK_of_own {w : World} {base e n : Nat} {v : Value} {l : List α} (hk : ∀ x, (enc x).length = k) (h : w.ownsRow base e k v n (l.flatMap enc)) (hne : l ≠ []) (hk0 : 0 < k) :
    ∃ g cap, v = .slice (some ⟨g, 0, none⟩) n cap ∧ base ≤ g ∧ g < w.heap.size ∧ n = l.length ∧ Go.Sort.HoldsK enc k w g 0 l.toArray := by
  obtain ⟨g, cap, rfl, hb, hg, hn, _, _, hc⟩ := own_cells hk h hne hk0
  refine ⟨g, cap, rfl, hb, hg, hn, fun t ht => ?_⟩
  have ht' : t < l.length * k := by simpa using ht
  have h1 : t / k < l.length := Nat.div_lt_of_lt_mul (by rwa [Nat.mul_comm])
  have h2 : t % k < k := Nat.mod_lt _ hk0
  have e1 : t / k * k + t % k = t := by rw [Nat.mul_comm]; exact Nat.div_add_mod t k
  have := hc (t / k) h1 (t % k) h2
  rw [e1] at this
  rw [Go.Sort.get_flatK _ _ _ _ (by simpa using ht'), Nat.zero_add]
  refine ⟨?_, this.2⟩
  rw [this.1]
  simp [getElem!_pos, h1, hk, h2]
theorem flatK_toList (hk : ∀ x, (enc x).length = k) (hk0 : 0 < k) (d : Array α) : (Go.Sort.flatK enc k d).toList = d.toList.flatMap enc := by
  apply List.ext_getElem?
  intro t
  by_cases ht : t < d.size * k
  · have h1 : t / k < d.toList.length := by simpa using Nat.div_lt_of_lt_mul (by rwa [Nat.mul_comm] at ht)
    have h2 : t % k < k := Nat.mod_lt _ hk0
    have e1 : t / k * k + t % k = t := by rw [Nat.mul_comm]; exact Nat.div_add_mod t k
    have e2 := flat_get hk h1 h2
    rw [e1] at e2
    rw [e2, Array.getElem?_toList, Array.getElem?_eq_getElem (by simpa using ht)]
    have e3 := Go.Sort.get_flatK enc k d t ht
    rw [getElem!_pos _ _ (by simpa using ht)] at e3
    rw [e3]
    have h1' : t / k < d.size := by simpa using h1
    simp [getElem!_pos, h1', hk, h2]
  · rw [List.getElem?_eq_none (by simpa using ht), List.getElem?_eq_none (by rw [flat_len hk]; simpa using ht)]
theorem own_sorted {w : World} {base e n m g cap : Nat} {l : List α} {d : Array α} {os : Array Obj} (hk : ∀ x, (enc x).length = k) (hk0 : 0 < k) (h : w.ownsRow base e k (.slice (some ⟨g, 0, none⟩) n cap) n (l.flatMap enc)) (hd : d.size = n) :
    (Go.Proofs.sortWorldK enc k w g 0 m d os).ownsRow base e k (.slice (some ⟨g, 0, none⟩) n cap) n (d.toList.flatMap enc) := by
  refine ⟨by rw [flat_len hk]; simp [hd], ?_⟩
  rcases h.2 with ⟨e0, _⟩ | ⟨g', cap', cur, e0, hb, hg, hn, hm, hs, ht⟩
  · cases e0
  · injection e0 with e1 _ e3
    injection e1 with e1
    injection e1 with e1
    subst e1; subst e3
    have hlt : g < w.heap.size := (Array.getElem?_eq_some_iff.1 hg).1
    refine .inr ⟨g, cap, Go.Sort.putCells id 0 (Go.Sort.flatK enc k d) cur, rfl, hb, ?_, hn, hm, by simpa [Go.Sort.putCells] using hs, ?_⟩
    · unfold Go.Proofs.sortWorldK Go.Sort.putRowK Go.Sort.putRow
      rw [Go.Sort.heap_grow_old _ _ (by simpa [Go.Sort.mapBlock, Go.Sort.ahead] using hlt)]
      simp [Go.Sort.mapBlock, Go.Sort.ahead, Array.getElem?_modify, hg, Go.Sort.onCells]
    · rw [← flatK_toList hk hk0]
      have hnk : n * k ≤ cur.size := by rw [hs]; exact Nat.mul_le_mul_right _ hn
      apply List.ext_getElem?
      intro j
      rw [List.getElem?_take]
      by_cases hj : j < n * k
      · have hjc : j < cur.size := by omega
        rw [if_pos hj, Array.getElem?_toList, Array.getElem?_toList, Array.getElem?_eq_getElem (show j < (Go.Sort.flatK enc k d).size by simp [hd]; exact hj)]
        simp only [Go.Sort.putCells, Array.getElem?_mapIdx, Array.getElem?_eq_getElem hjc, Option.map_some]
        rw [if_pos (by simp [hd]; exact hj)]
        simp [getElem!_pos, hd, hj]
      · rw [if_neg hj, List.getElem?_eq_none (by simp [hd]; omega)]
theorem below_sorted {B : Nat} {w0 w : World} {g m : Nat} {d : Array α} {os : Array Obj} (h : Below B w0 w) (hg : B ≤ g) (hlt : g < w.heap.size) (hB : B ≤ w.heap.size) : Below B w0 (Go.Proofs.sortWorldK enc k w g 0 m d os) := by
  refine ⟨h.os, h.tape, h.output, ?_, fun j hj => ?_⟩
  · have := h.size
    simp [Go.Proofs.sortWorldK, Go.Sort.putRowK, Go.Sort.putRow, Go.Sort.mapBlock, Go.Sort.ahead]; omega
  · rw [← h.block j hj]
    unfold Go.Proofs.sortWorldK Go.Sort.putRowK Go.Sort.putRow
    rw [Go.Sort.heap_grow_old _ _ (by simp [Go.Sort.mapBlock, Go.Sort.ahead]; omega)]
    simp [Go.Sort.mapBlock, Go.Sort.ahead, Array.getElem?_modify, show g ≠ j by omega]
theorem grown_sorted {w : World} {g m : Nat} {d : Array α} {os : Array Obj} (hlt : g < w.heap.size) : w.grownBy (Go.Proofs.sortWorldK enc k w g 0 m d os) (some g) :=
  ⟨rfl, rfl, rfl, by simp [Go.Proofs.sortWorldK, Go.Sort.putRowK, Go.Sort.putRow, Go.Sort.mapBlock, Go.Sort.ahead], fun j hj hne => by
    unfold Go.Proofs.sortWorldK Go.Sort.putRowK Go.Sort.putRow
    rw [Go.Sort.heap_grow_old _ _ (by simp [Go.Sort.mapBlock, Go.Sort.ahead]; omega)]
    simp [Go.Sort.mapBlock, Go.Sort.ahead, Array.getElem?_modify, show g ≠ j from fun e => hne (by rw [e])]⟩
theorem perm_of_permIn {d d' : Array α} (h : Go.Sort.PermIn 0 d.size d d') : d'.size = d.size ∧ d'.toList.Perm d.toList := by
  obtain ⟨h1, _, h3⟩ := h
  refine ⟨h1, ?_⟩
  have e1 : d.extract 0 d.size = d := by simp
  have e2 : d'.extract 0 d.size = d' := by rw [← h1]; simp
  rw [e1, e2] at h3
  exact h3
theorem pairwise_of_sorted {lt : α → α → Bool} {d : Array α} {n : Nat} (hn : n = d.size) (h : Go.Sort.SortedIn lt 0 n d) : d.toList.Pairwise (fun x y => lt y x = false) := by
  rw [List.pairwise_iff_getElem]
  intro i j hi hj hij
  have hi' : i < d.size := by simpa using hi
  have hj' : j < d.size := by simpa using hj
  have := h i j (Nat.zero_le _) hij (by omega)
  rw [getElem!_pos d i hi', getElem!_pos d j hj'] at this
  simpa using this
end
theorem ltOf_iff {α : Type} (c : α → α → Int) (x y : α) : ltOf c x y = decide (c x y < 0) := by unfold ltOf; rfl
set_option maxHeartbeats 1000000 in
theorem insNoneRc (a : Option Addr) (c : Nat) (f : Value) (w : World) : Calls Tryz.prog 138 #[.slice a 0 c, .int .i64 0, .int .i64 0, f] w fun e w' => e = .returned (.tuple #[]) ∧ w' = w := by
  go_enter Tryz.func138, Tryz.ntmps138
  go_wp2_with fail
  go_loopw [8] (fun iv wr => iv = .int .i64 1 ∧ wr = w) (fun _ _ => 0)
  case atStart => exact ⟨rfl, rfl⟩
  case round =>
    obtain ⟨rfl, rfl⟩ := hrel
    go_wp2_with fail
    exact bodyPost_end (v := .tuple #[]) (by simp [results, Tryz.results138, go_sem]) rfl ⟨rfl, rfl⟩
set_option maxHeartbeats 1000000 in
theorem pdqNoneRc (a : Option Addr) (c : Nat) (l : Int) (f : Value) (w : World) : Calls Tryz.prog 118 #[.slice a 0 c, .int .i64 0, .int .i64 0, .int .i64 l, f] w fun e w' => e = .returned (.tuple #[]) ∧ w' = w := by
  go_enter Tryz.func118, Tryz.ntmps118
  go_wp2_with fail
  go_loopw [1, 2] (fun av bv wr => av = .int .i64 0 ∧ bv = .int .i64 0 ∧ wr = w) (fun _ _ _ => 0)
  case atStart => exact ⟨rfl, rfl, rfl⟩
  case round =>
    obtain ⟨rfl, rfl, rfl⟩ := hrel
    go_wp2_with (go_at_call 138; refine (insNoneRc _ _ _ _).mono ?_; rintro e w1 ⟨rfl, rfl⟩)
    exact bodyPost_ret (v := .tuple #[]) (by simp [results, Tryz.results118, go_sem]) rfl ⟨rfl, rfl⟩
set_option maxHeartbeats 1000000 in
theorem sortNoneRc (a : Option Addr) (c : Nat) (f : Value) (w : World) : Calls Tryz.prog 95 #[.slice a 0 c, f] w fun e w' => e = .returned (.tuple #[]) ∧ w' = w := by
  go_enter Tryz.func95, Tryz.ntmps95
  go_wp2_with (first
    | (go_at_call 99; refine (Tryz.bits_Len 0 _ (by decide) (by decide)).mono ?_; rintro e w1 ⟨rfl, rfl⟩)
    | (go_at_call 118; refine (pdqNoneRc _ _ _ _ _).mono ?_; rintro e w1 ⟨rfl, rfl⟩))
  exact bodyPost_end (v := .tuple #[]) (by simp [results, Tryz.results95, go_sem]) rfl ⟨rfl, rfl⟩
set_option maxHeartbeats 1000000 in
theorem insNoneIn (a : Option Addr) (c : Nat) (f : Value) (w : World) : Calls Tryz.prog 120 #[.slice a 0 c, .int .i64 0, .int .i64 0, f] w fun e w' => e = .returned (.tuple #[]) ∧ w' = w := by
  go_enter Tryz.func120, Tryz.ntmps120
  go_wp2_with fail
  go_loopw [8] (fun iv wr => iv = .int .i64 1 ∧ wr = w) (fun _ _ => 0)
  case atStart => exact ⟨rfl, rfl⟩
  case round =>
    obtain ⟨rfl, rfl⟩ := hrel
    go_wp2_with fail
    exact bodyPost_end (v := .tuple #[]) (by simp [results, Tryz.results120, go_sem]) rfl ⟨rfl, rfl⟩
set_option maxHeartbeats 1000000 in
theorem pdqNoneIn (a : Option Addr) (c : Nat) (l : Int) (f : Value) (w : World) : Calls Tryz.prog 98 #[.slice a 0 c, .int .i64 0, .int .i64 0, .int .i64 l, f] w fun e w' => e = .returned (.tuple #[]) ∧ w' = w := by
  go_enter Tryz.func98, Tryz.ntmps98
  go_wp2_with fail
  go_loopw [1, 2] (fun av bv wr => av = .int .i64 0 ∧ bv = .int .i64 0 ∧ wr = w) (fun _ _ _ => 0)
  case atStart => exact ⟨rfl, rfl, rfl⟩
  case round =>
    obtain ⟨rfl, rfl, rfl⟩ := hrel
    go_wp2_with (go_at_call 120; refine (insNoneIn _ _ _ _).mono ?_; rintro e w1 ⟨rfl, rfl⟩)
    exact bodyPost_ret (v := .tuple #[]) (by simp [results, Tryz.results98, go_sem]) rfl ⟨rfl, rfl⟩
set_option maxHeartbeats 1000000 in
theorem sortNoneIn (a : Option Addr) (c : Nat) (f : Value) (w : World) : Calls Tryz.prog 58 #[.slice a 0 c, f] w fun e w' => e = .returned (.tuple #[]) ∧ w' = w := by
  go_enter Tryz.func58, Tryz.ntmps58
  go_wp2_with (first
    | (go_at_call 99; refine (Tryz.bits_Len 0 _ (by decide) (by decide)).mono ?_; rintro e w1 ⟨rfl, rfl⟩)
    | (go_at_call 98; refine (pdqNoneIn _ _ _ _ _).mono ?_; rintro e w1 ⟨rfl, rfl⟩))
  exact bodyPost_end (v := .tuple #[]) (by simp [results, Tryz.results58, go_sem]) rfl ⟨rfl, rfl⟩

/-! Rectangles. -/
set_option maxHeartbeats 1000000 in
theorem cov1_any (x y : Rect) (w : World) : Calls Tryz.prog 96 #[.agg #[.int .i64 x.x1, .int .i64 x.y1, .int .i64 x.x2, .int .i64 x.y2], .agg #[.int .i64 y.x1, .int .i64 y.y1, .int .i64 y.x2, .int .i64 y.y2]] w fun e w' => e = .returned (.int .i64 (cmpI x.y1 y.y1)) ∧ ∃ q os', w' = Go.Sort.grow (w.drewN q) os' := by
  go_enter Tryz.func96, Tryz.ntmps96
  go_wp2_with (go_at_call 60; refine (compare_any _ _ _).mono ?_; rintro e w' ⟨rfl, rfl⟩)
  go_ret
  exact ⟨rfl, 0, _, by rw [Go.Sort.alloc_eq_grow, Go.Sort.alloc_eq_grow, Go.Sort.grow_grow]; rfl⟩
theorem cmpI_neg (x y : Int) : cmpI x y < 0 ↔ x < y := by
  unfold cmpI
  split
  · simp; omega
  · split <;> simp <;> omega
instance : Inhabited Rect := ⟨zeroR⟩
def cmpRc (x y : Rect) : Int := cmpI x.y1 y.y1
theorem ltRc (x y : Rect) : ltOf cmpRc x y = decide (x.y1 < y.y1) := by
  rw [ltOf_iff]; unfold cmpRc; congr 1; apply propext; exact cmpI_neg _ _
theorem swoRc : Go.Sort.SWO (ltOf cmpRc) where
  irrefl x := by rw [ltRc]; simp
  trans x y z h1 h2 := by rw [ltRc] at *; simp at *; omega
  ntrans x y z h1 h2 := by rw [ltRc] at *; simp at *; omega
theorem cmpLaysRc (blk off size : Nat) (w : World) : CmpLays Tryz.prog 96 #[] cellsR 4 cmpRc blk off size w := fun _ _ _ _ x y => by
  exact cov1_any x y _
theorem sortRc_any (base : Nat) (v : Value) (n : Nat) (l : List Rect) (w : World) (h : w.ownsRow base 57 4 v n (l.flatMap cellsR)) (hl : l.length ≤ 1000000) (hbase : base ≤ w.heap.size) :
    Calls Tryz.prog 95 #[v, .func (.func 96) #[] #[]] w fun e w' => e = .returned (.tuple #[]) ∧ ∃ r : List Rect, r.Perm l ∧ r.Pairwise (fun x y => x.y1 ≤ y.y1) ∧ w'.ownsRow base 57 4 v n (r.flatMap cellsR) ∧ Below base w w' ∧ w.grownBy w' v.ownBlock := by
  by_cases hne : l = []
  · subst hne
    have hn := own_len cellsR_len (by decide) h
    obtain ⟨a, c, rfl, _, _⟩ := own_slice h
    simp only [List.length_nil] at hn
    subst hn
    refine (sortNoneRc a c _ w).mono ?_
    rintro e w' ⟨rfl, rfl⟩
    exact ⟨rfl, [], List.Perm.refl _, List.Pairwise.nil, h, Below.refl _ _, grownBy_below (Below.refl _ _) _⟩
  · have eg : ∀ args w, (callFunc 96 args).run Tryz.prog w = .ok (.enter 96 args) w := enters_of Tryz.func96 (by kernel_rfl) rfl
    obtain ⟨g, cap, rfl, hbg, hg, hnl, hH⟩ := holdsK_of_own (enc := cellsR) cellsR_len h hne (by decide)
    have hcon := AnyQ.slices_SortFunc Tryz.sortRc 4 Tryz.isAgg57 Tryz.sizeOf57 cellsR cellsR_len cellsR_one cmpRc swoRc 96 #[] g 0 cap l.toArray w eg (cmpLaysRc g 0 l.toArray.size w) hH hg (by simp at hl ⊢; omega)
    have hnl' : l.toArray.size = n := by simp [hnl]
    rw [hnl'] at hcon
    refine hcon.mono fun e w' ⟨he, d', m, os, hp, hs, hw⟩ => ?_
    rw [← hnl'] at hp hs
    obtain ⟨hd, hperm⟩ := perm_of_permIn hp
    have hsrt := pairwise_of_sorted (by simpa using hd.symm) hs
    refine ⟨he, d'.toList, by simpa using hperm, ?_, ?_, ?_, ?_⟩
    · exact hsrt.imp fun {x y} hxy => by rw [ltRc] at hxy; simpa using hxy
    · rw [hw]
      exact own_sorted (enc := cellsR) cellsR_len (by decide) h (by rw [hd, hnl'])
    · rw [hw]
      exact below_sorted (Below.refl _ _) hbg hg hbase
    · rw [hw]
      exact grown_sorted hg
/-! slices.Sort at numbers. -/
set_option maxHeartbeats 1000000 in
theorem insNoneO (a : Option Addr) (c : Nat) (w : World) : Calls Tryz.prog 146 #[.slice a 0 c, .int .i64 0, .int .i64 0] w fun e w' => e = .returned (.tuple #[]) ∧ w' = w := by
  go_enter Tryz.func146, Tryz.ntmps146
  go_wp2_with fail
  go_loopw [6] (fun iv wr => iv = .int .i64 1 ∧ wr = w) (fun _ _ => 0)
  case atStart => exact ⟨rfl, rfl⟩
  case round =>
    obtain ⟨rfl, rfl⟩ := hrel
    go_wp2_with fail
    exact bodyPost_end (v := .tuple #[]) (by simp [results, Tryz.results146, go_sem]) rfl ⟨rfl, rfl⟩
set_option maxHeartbeats 1000000 in
theorem pdqNoneO (a : Option Addr) (c : Nat) (l : Int) (w : World) : Calls Tryz.prog 119 #[.slice a 0 c, .int .i64 0, .int .i64 0, .int .i64 l] w fun e w' => e = .returned (.tuple #[]) ∧ w' = w := by
  go_enter Tryz.func119, Tryz.ntmps119
  go_wp2_with fail
  go_loopw [1, 2] (fun av bv wr => av = .int .i64 0 ∧ bv = .int .i64 0 ∧ wr = w) (fun _ _ _ => 0)
  case atStart => exact ⟨rfl, rfl, rfl⟩
  case round =>
    obtain ⟨rfl, rfl, rfl⟩ := hrel
    go_wp2_with (go_at_call 146; refine (insNoneO _ _ _).mono ?_; rintro e w1 ⟨rfl, rfl⟩)
    exact bodyPost_ret (v := .tuple #[]) (by simp [results, Tryz.results119, go_sem]) rfl ⟨rfl, rfl⟩
set_option maxHeartbeats 1000000 in
theorem sortNoneO (a : Option Addr) (c : Nat) (w : World) : Calls Tryz.prog 97 #[.slice a 0 c] w fun e w' => e = .returned (.tuple #[]) ∧ w' = w := by
  go_enter Tryz.func97, Tryz.ntmps97
  go_wp2_with (first
    | (go_at_call 99; refine (Tryz.bits_Len 0 _ (by decide) (by decide)).mono ?_; rintro e w1 ⟨rfl, rfl⟩)
    | (go_at_call 119; refine (pdqNoneO _ _ _ _).mono ?_; rintro e w1 ⟨rfl, rfl⟩))
  exact bodyPost_end (v := .tuple #[]) (by simp [results, Tryz.results97, go_sem]) rfl ⟨rfl, rfl⟩
theorem sortInts_any (base : Nat) (v : Value) (n : Nat) (xs : List Int) (w : World) (h : w.ownsRow base 3 1 v n (xs.map (Value.int .i64))) (hl : xs.length < 1000000) :
    Calls Tryz.prog 97 #[v] w fun e w' => e = .returned (.tuple #[]) ∧ ∃ r : List Int, r.Perm xs ∧ r.Pairwise (· ≤ ·) ∧ w'.ownsRow base 3 1 v n (r.map (Value.int .i64)) ∧ w.grownBy w' v.ownBlock := by
  have hn : xs.length = n := by have := h.1; simpa using this
  subst hn
  by_cases hne : xs = []
  · subst hne
    obtain ⟨a, c, rfl, _, _⟩ := own_slice h
    refine (sortNoneO a c w).mono ?_
    rintro e w' ⟨rfl, rfl⟩
    exact ⟨rfl, [], List.Perm.refl _, List.Pairwise.nil, h, grownBy_below (Below.refl _ _) _⟩
  · obtain ⟨g, cap, rfl, _, _⟩ := own_some8 h (List.length_pos_iff.2 hne)
    refine (sort_n g cap xs w base h hl).mono ?_
    rintro e w' ⟨rfl, ho, hg⟩
    refine ⟨rfl, _, List.mergeSort_perm _ _, ?_, ho, hg⟩
    have := List.pairwise_mergeSort (le := fun x y : Int => decide (x ≤ y)) (fun a b c h1 h2 => by simp at *; omega) (fun a b => by simp; omega) xs
    exact this.imp fun {a b} h => by simpa using h
end Go.Proofs.YtpaindkfbgoogaaGreat
/- Numbers in falling order; how many of them are enough. -/
set_option linter.unusedVariables false
set_option linter.unusedSimpArgs false
namespace Go.Proofs.YtpaindkfbgoogaaGreat
open Go Go.RowKit Go.Sort Go.Lib
set_option maxRecDepth 100000 in
set_option maxHeartbeats 2000000 in
theorem copyInts_any (a : Option Addr) (l : List Int) (c : Nat) (w : World) (hv : IntsV w a l) (hl : l.length ≤ 1000) : Calls Tryz.prog 103 #[.slice a l.length c] w (RowPost w l) := by
  obtain ⟨i0, hi, hz0, hz1, hz2⟩ := info_parts int_info
  have hown : (w.alloc (.cells #[] 3)).ownsRow w.heap.size 3 1 (.slice (some ⟨w.heap.size, 0, none⟩) 0 0) 0 [] := by
    have h := made_own (w := w) (base := w.heap.size) (n := 0) (T := 3) (z := .int .i64 0) (Nat.le_refl _) (by unfold maxLen; omega)
    rw [show madeCells #[Value.int .i64 0] 0 = #[] from Array.eq_empty_of_size_eq_zero (by simp [size_madeCells])] at h
    exact h
  go_enter Tryz.func103, Tryz.ntmps103
  go_wp2_with (at_builtin; go_loud (refine wpList_append_ints rfl _ _ rfl w.heap.size i0 hi hz0 hz1 hz2 _ 0 [] rfl hown a l c rfl (intsV_keep hv ((Below.refl _ _).alloc (Nat.le_refl _) _)) (by omega) (by simp) ?_); intro v9 w9 ho9 hg9; have HO9 := Lib.hid ho9; have HG9 := Lib.hid hg9; clear ho9 hg9)
  go_ret
  refine ⟨_, rfl, ?_, ?_⟩
  · have h := HO9.out
    rw [Nat.zero_add, List.nil_append] at h
    exact h
  · exact ((Below.refl _ _).alloc (Nat.le_refl _) _).grown HG9.out (by simp) (fun q hq => own_base hown hq)
theorem own_some {w : World} {base e k n : Nat} {v : Value} {xs : List Value} (h : w.ownsRow base e k v n xs) (hn : 0 < n) : ∃ g cap, v = .slice (some ⟨g, 0, none⟩) n cap ∧ base ≤ g ∧ g < w.heap.size := by
  rcases h.2 with ⟨rfl, h0⟩ | ⟨g, cap, cur, rfl, hb, hg, _⟩
  · omega
  · exact ⟨g, cap, rfl, hb, (Array.getElem?_eq_some_iff.1 hg).1⟩
/-- The same numbers, none before a greater one. -/
def FallOf (l r : List Int) : Prop := r.Perm l ∧ r.Pairwise fun a b => b ≤ a
theorem fall_in {A B : List Int} {x : Int} (h : (A ++ B).Pairwise fun a b => b ≤ a) (hA : A = [] ∨ ∃ y, A.getLast? = some y ∧ x ≤ y) (hB : ∀ b ∈ B, b < x) : (A ++ x :: B).Pairwise fun a b : Int => b ≤ a := by
  rw [List.pairwise_append] at h ⊢
  obtain ⟨h1, h2, h3⟩ := h
  refine ⟨h1, List.pairwise_cons.2 ⟨fun b hb => by have := hB b hb; omega, h2⟩, fun a ha b hb => ?_⟩
  rcases List.mem_cons.1 hb with rfl | hb
  · rcases hA with rfl | ⟨y, hy, hxy⟩
    · simp at ha
    · obtain ⟨A', rfl⟩ := List.getLast?_eq_some_iff.1 hy
      rcases List.mem_append.1 ha with ha | ha
      · rw [List.pairwise_append] at h1
        have := h1.2.2 a ha y (by simp)
        omega
      · rw [List.mem_singleton.1 ha]; exact hxy
  · exact h3 a ha b hb
theorem fall_take {A B R : List Int} {x : Int} {i : Nat} (h : A.length + B.length = i) (hp : (A ++ x :: B).Pairwise fun a b : Int => b ≤ a) : ((A ++ x :: B ++ R).take (i + 1)).Pairwise fun a b : Int => b ≤ a := by
  rw [List.take_left' (by simp; omega)]; exact hp
theorem swap_perm {A B R l : List Int} {x y : Int} (h : (A ++ y :: (x :: B) ++ R).Perm l) : (A ++ x :: (y :: B) ++ R).Perm l := by
  refine List.Perm.trans ?_ h
  simp only [List.append_assoc, List.cons_append]
  exact (List.Perm.swap _ _ _).append_left A
def FallPost (w : World) (l : List Int) (e : Ending) (w' : World) : Prop := ∃ v r, e = .returned v ∧ FallOf l r ∧ w'.ownsRow w.heap.size 3 1 v l.length (r.map (Value.int .i64)) ∧ Below w.heap.size w w'
set_option maxRecDepth 100000 in
set_option maxHeartbeats 8000000 in
theorem falling_any (a : Option Addr) (l : List Int) (c : Nat) (w : World) (hv : IntsV w a l) (hl : l.length ≤ 1000) :
    Calls Tryz.prog 71 #[.slice a l.length c] w (FallPost w l) := by
  have HV := Lib.hid hv
  clear hv
  go_enter Tryz.func71, Tryz.ntmps71
  go_upto_region 2 with (go_at_call 103; refine (copyInts_any _ l c _ HV.out hl).mono ?_; rintro e w1 ⟨v, rfl, ho, hb⟩; have HO1 := Lib.hid ho; have HB1 := Lib.hid hb; clear ho hb)
  obtain ⟨av, cv, rfl, -, -⟩ := own_slice HO1.out
  obtain ⟨N, hN⟩ : ∃ N, N = l.length := ⟨_, rfl⟩
  have HN := Lib.hid hN
  rw [← hN] at HO1 hl ⊢
  clear hN
  go_wp2_with fail
  go_loopw [3] (fun iv wr => ∃ (i : Nat) (r : List Int), i ≤ N ∧ iv = .int .i64 i ∧ Hid (r.Perm l) ∧ Hid ((r.take i).Pairwise fun a b => b ≤ a) ∧ Hid (wr.ownsRow w.heap.size 3 1 (.slice av N cv) N (r.map (Value.int .i64))) ∧ Below w.heap.size w wr) (fun iv _ => N - (intOf iv).toNat)
  case atStart => exact ⟨0, l, Nat.zero_le _, rfl, Lib.hid (List.Perm.refl _), Lib.hid (by simp), HO1, HB1.out⟩
  case round =>
    obtain ⟨i, r, hi, rfl, HP, HS, HO, hbr⟩ := hrel
    have HBR := Lib.hid hbr
    clear hbr
    by_cases hlt : i < N
    · have hii : (i : Int) < (N : Int) := by omega
      have v1 : IntKind.i64.wrap ((i : Int) + 1) = (i : Int) + 1 := IntWalk.i64_in _ (by omega)
      obtain ⟨g, cp, hgv, hg1, hg2⟩ := own_some HO.out (by omega)
      injection hgv with e1 _ e3
      subst e1; subst e3
      have hrl : r.length = N := by rw [HP.out.length_eq, ← HN.out]
      obtain ⟨x, hx⟩ : ∃ x, x = r[i] := ⟨_, rfl⟩
      have hsp : r.take i ++ x :: [] ++ r.drop (i + 1) = r := by
        rw [List.append_assoc, List.singleton_append, hx, ← List.drop_eq_getElem_cons (by omega), List.take_append_drop]
      have HSP := Lib.hid (show (r.take i ++ x :: ([] : List Int) ++ r.drop (i + 1)).Perm l by rw [hsp]; exact HP.out)
      have HS2 := Lib.hid (show (r.take i ++ ([] : List Int)).Pairwise (fun a b => b ≤ a) by rw [List.append_nil]; exact HS.out)
      have HO2 := Lib.hid (show wr.ownsRow w.heap.size 3 1 (.slice (some ⟨g, 0, none⟩) N cv) N ((r.take i ++ x :: ([] : List Int) ++ r.drop (i + 1)).map (Value.int .i64)) by rw [hsp]; exact HO.out)
      have HTL := Lib.hid (show (r.take i).length = i by rw [List.length_take]; omega)
      have HTD := Lib.hid (show (r.drop (i + 1)).length + i + 1 = N by rw [List.length_drop]; omega)
      generalize r.take i = A0 at *
      generalize r.drop (i + 1) = R at *
      clear hsp hx HP HS HO hrl
      go_wp2_with fail
      go_loopw [4] (fun kv wk => ∃ (k : Nat) (A B : List Int), k ≤ i ∧ kv = .int .i64 k ∧ Hid (A.length = k) ∧ Hid (A.length + B.length = i) ∧ Hid ((A ++ x :: B ++ R).Perm l) ∧ Hid ((A ++ B).Pairwise fun a b => b ≤ a) ∧ Hid (∀ b ∈ B, b < x) ∧ Hid (wk.ownsRow w.heap.size 3 1 (.slice (some ⟨g, 0, none⟩) N cv) N ((A ++ x :: B ++ R).map (Value.int .i64))) ∧ Below w.heap.size w wk) (fun kv _ => (intOf kv).toNat)
      case atStart => exact ⟨i, A0, [], Nat.le_refl _, rfl, HTL, Lib.hid (by rw [HTL.out]; rfl), HSP, HS2, Lib.hid (fun b hb => by simp at hb), HO2, HBR.out⟩
      case round =>
        obtain ⟨k, A, B, hk, rfl, HA, HAB, HP, HS, HB, HO, hbk⟩ := hrel
        have HBK := Lib.hid hbk
        clear hbk
        have hzz := HBK.out.size
        have hll : (A ++ x :: B ++ R).length = N := by simp; have := HTD.out; have := HAB.out; omega
        have hcx : wr.cell? ⟨g, k, none⟩ = some (.int .i64 x) ∧ wr.frozen? ⟨g, k, none⟩ = false := by
          have h := own_int_cell HO.out (i := k) (by omega)
          have hx : (A ++ x :: B ++ R)[k]'(by omega) = x := by have hA := HA.out; subst hA; simp
          rwa [hx] at h
        obtain ⟨hc1, hf1⟩ := hcx
        have hkN : (k : Int) < (N : Int) := by omega
        rcases List.eq_nil_or_concat A with rfl | ⟨A', y, hA'⟩
        · obtain rfl : k = 0 := by have := HA.out; simpa using this.symm
          have HF := Lib.hid (fall_in HS.out (.inl rfl) HB.out)
          clear HA HS HB hll
          go_upto_region 6 with fail
          go_quiet (fail)
          rename_i nq
          go_wp2_with fail
          go_roundw
          case rel => exact ⟨i + 1, _, by omega, by go_num, HP, Lib.hid (fall_take HAB.out HF.out), Lib.hid (own_keep HO.out (below_drewN (Below.refl _ _) nq)), below_drewN HBK.out nq⟩
          case measure => first | (simp [intOf]; done) | (simp [intOf]; omega)
        · have hA' : A = A' ++ [y] := by rw [hA', List.concat_eq_append]
          obtain ⟨k', rfl⟩ : ∃ k', k = k' + 1 := ⟨A'.length, by have := HA.out; rw [hA'] at this; simpa using this.symm⟩
          have hAl : A'.length = k' := by have := HA.out; rw [hA'] at this; simpa using this
          have hcy : wr.cell? ⟨g, k', none⟩ = some (.int .i64 y) ∧ wr.frozen? ⟨g, k', none⟩ = false := by
            have h := own_int_cell HO.out (i := k') (by omega)
            have hx : (A ++ x :: B ++ R)[k']'(by omega) = y := by subst hAl; subst hA'; simp
            rwa [hx] at h
          obtain ⟨hc2, hf2⟩ := hcy
          have v2 : IntKind.i64.wrap (((k' + 1 : Nat) : Int) - 1) = (k' : Int) := by rw [show ((k' + 1 : Nat) : Int) - 1 = (k' : Int) by omega]; exact IntWalk.i64_in _ (by omega)
          have hkp : ((k' + 1 : Nat) : Int) > 0 := by omega
          have hkN2 : (k' : Int) < (N : Int) := by omega
          by_cases hyx : x > y
          · have HNW := Lib.hid (show (A' ++ x :: (y :: B) ++ R).Perm l ∧ (A' ++ y :: B).Pairwise (fun a b => b ≤ a) ∧ (∀ b ∈ y :: B, b < x) ∧ A'.length + (y :: B).length = i from ⟨swap_perm (by have h := HP.out; rw [hA'] at h; simp only [List.append_assoc, List.cons_append, List.nil_append] at h ⊢; exact h), by have h := HS.out; rw [hA'] at h; simp only [List.append_assoc, List.cons_append, List.nil_append] at h ⊢; exact h, by intro b hb; rcases List.mem_cons.1 hb with rfl | hb; exact hyx; exact HB.out b hb, by have := HAB.out; rw [hA'] at this; simp at this ⊢; omega⟩)
            have HCE := Lib.hid (show ∀ W : World, W.ownsRow w.heap.size 3 1 (.slice (some ⟨g, 0, none⟩) N cv) N ((A ++ x :: B ++ R).map (Value.int .i64)) → (W.cell? ⟨g, k' + 1, none⟩ = some (.int .i64 x) ∧ W.frozen? ⟨g, k' + 1, none⟩ = false) ∧ (W.cell? ⟨g, k', none⟩ = some (.int .i64 y) ∧ W.frozen? ⟨g, k', none⟩ = false) by
              intro W ho
              have h1 := own_int_cell ho (i := k' + 1) (by omega)
              have h2 := own_int_cell ho (i := k') (by omega)
              have e1 : (A ++ x :: B ++ R)[k' + 1]'(by omega) = x := by subst hAl; subst hA'; simp
              have e2 : (A ++ x :: B ++ R)[k']'(by omega) = y := by subst hAl; subst hA'; simp
              rw [e1] at h1; rw [e2] at h2
              exact ⟨h1, h2⟩)
            have HLS := Lib.hid (show ((A ++ x :: B ++ R).set (k' + 1) y).set k' x = A' ++ x :: (y :: B) ++ R by subst hAl; subst hA'; simp [List.set_append])
            have HAL := Lib.hid hAl
            have HLL := Lib.hid hll
            clear HA HS HB HP hll hA' hAl HAB
            go_upto_region 6 with fail
            go_quiet (fail)
            rename_i nq
            go_upto_region 8 with fail
            refine gen_world (fun W8 => W8.ownsRow w.heap.size 3 1 (.slice (some ⟨g, 0, none⟩) N cv) N ((A ++ x :: B ++ R).map (Value.int .i64)) ∧ Below w.heap.size w W8) ⟨own_keep HO.out (below_drewN (Below.refl _ _) nq), below_drewN HBK.out nq⟩ ?_
            rintro W8 ⟨ho8, hb8⟩
            clear hc1 hf1 hc2 hf2
            obtain ⟨⟨hc1, hf1⟩, hc2, hf2⟩ := HCE.out W8 ho8
            have HO8 := Lib.hid ho8
            have HB8 := Lib.hid hb8
            clear ho8 hb8
            go_region
            go_wp2_with fail
            go_roundw
            case rel =>
              refine ⟨k', A', y :: B, by omega, by go_num, HAL, Lib.hid HNW.out.2.2.2, Lib.hid HNW.out.1, Lib.hid HNW.out.2.1, Lib.hid HNW.out.2.2.1, Lib.hid ?_, ((HB8.out.setCell hg1 _).setCell hg1 _).drew⟩
              rw [← HLS.out]
              exact own_keep (own_set1 (own_set1 HO8.out (by rw [HLL.out]; omega)) (by rw [List.length_set, HLL.out]; omega)) ((Below.refl _ _).drew)
            case measure => first | (simp [intOf]; done) | (simp [intOf]; omega)
          · have HF := Lib.hid (fall_in (x := x) HS.out (.inr ⟨y, by rw [hA']; simp, by omega⟩) HB.out)
            clear HA HS HB hll hA' hAl
            go_upto_region 6 with fail
            go_quiet (fail)
            rename_i nq
            go_wp2_with fail
            go_roundw
            case rel => exact ⟨i + 1, _, by omega, by go_num, HP, Lib.hid (fall_take HAB.out HF.out), Lib.hid (own_keep HO.out (below_drewN (Below.refl _ _) nq)), below_drewN HBK.out nq⟩
            case measure => first | (simp [intOf]; done) | (simp [intOf]; omega)
    · obtain rfl : i = N := by omega
      have hii : ¬ (i : Int) < (i : Int) := by omega
      have hrl : r.length = i := by rw [HP.out.length_eq, ← HN.out]
      go_wp2_with fail
      go_ret
      refine ⟨_, r, rfl, ⟨HP.out, ?_⟩, by rw [← HN.out]; exact HO.out, HBR.out⟩
      have h := HS.out
      rw [← hrl, List.take_length] at h
      exact h
/-- How many of a row's first numbers reach a sum; none: all are too few. -/
def enoughM : List Int → Int → Nat → Option Nat
  | l, s, n => if s > 0 then match l with
    | [] => none
    | x :: l => enoughM l (s - x) (n + 1)
  else some n
def enoughV (l : List Int) (s : Int) : Value := match enoughM l s 0 with
  | none => .tuple #[.int .i64 0, .bool false]
  | some n => .tuple #[.int .i64 n, .bool true]
def EnoughPost (w : World) (l : List Int) (s : Int) (e : Ending) (w' : World) : Prop := ∃ r, e = .returned (enoughV r s) ∧ FallOf l r ∧ Below w.heap.size w w'
set_option maxRecDepth 100000 in
set_option maxHeartbeats 8000000 in
theorem enough_any (a : Option Addr) (l : List Int) (c : Nat) (s : Int) (w : World) (hv : IntsV w a l) (hl : l.length ≤ 1000) (hs : 0 ≤ s ∧ s ≤ 4000000000000000) (hb : ∀ x ∈ l, 0 ≤ x ∧ x ≤ 1000000000000) :
    Calls Tryz.prog 38 #[.slice a l.length c, .int .i64 s] w (EnoughPost w l s) := by
  have HV := Lib.hid hv
  clear hv
  go_enter Tryz.func38, Tryz.ntmps38
  go_upto_region 2 with (go_at_call 71; refine (falling_any _ l c _ HV.out hl).mono ?_; rintro e w1 ⟨v, r, rfl, hf, ho, hb⟩; have HF := Lib.hid hf; have HO1 := Lib.hid ho; have HB1 := Lib.hid hb; clear ho hb hf)
  obtain ⟨av, cv, rfl, -, -⟩ := own_slice HO1.out
  have HR := Lib.hid (show ∀ x ∈ r, 0 ≤ x ∧ x ≤ 1000000000000 from fun x hx => hb x (HF.out.1.mem_iff.1 hx))
  obtain ⟨N, hN⟩ : ∃ N, N = l.length := ⟨_, rfl⟩
  have hrN : r.length = N := by rw [HF.out.1.length_eq, hN]
  rw [← hN] at HO1 hl ⊢
  clear hN hb
  subst hrN
  obtain ⟨s0, hs0⟩ : ∃ s0, s0 = s := ⟨_, rfl⟩
  have HE := Lib.hid (show enoughM r s 0 = enoughM (r.drop 0) s 0 from rfl)
  go_wp2_with fail
  go_loopw [1, 6] (fun sv nv wr => ∃ (t : Int) (n : Nat), n ≤ r.length ∧ sv = .int .i64 t ∧ nv = .int .i64 n ∧ (-4000000000000000 ≤ t ∧ t ≤ 4000000000000000) ∧ Hid (enoughM r s 0 = enoughM (r.drop n) t n) ∧ Below w1.heap.size w1 wr) (fun _ nv _ => r.length - (intOf nv).toNat)
  case atStart => exact ⟨s, 0, Nat.zero_le _, rfl, rfl, by omega, HE, Below.refl _ _⟩
  case round =>
    obtain ⟨t, n, hn, rfl, rfl, ht, HE1, hbr⟩ := hrel
    have HBR := Lib.hid hbr
    clear hbr
    have HWW := Lib.hid (HB1.out.trans (HBR.out.mono HB1.out.size))
    by_cases h1 : t > 0
    · by_cases hlt : n < r.length
      · have hii : (n : Int) < (r.length : Int) := by omega
        have hne : ¬ (n : Int) = (r.length : Int) := by omega
        have v1 : IntKind.i64.wrap ((n : Int) + 1) = (n : Int) + 1 := IntWalk.i64_in _ (by omega)
        have hx := HR.out _ (List.getElem_mem hlt)
        have HEN := Lib.hid (show enoughM r s 0 = enoughM (r.drop (n + 1)) (t - r[n]) (n + 1) by rw [HE1.out, List.drop_eq_getElem_cons hlt, enoughM, if_pos h1])
        obtain ⟨g, cp, hgv, hg1, hg2⟩ := own_some HO1.out (by omega)
        injection hgv with e1 _ e3
        subst e1; subst e3
        have hc := cell_keep HBR.out (own_int_cell HO1.out hlt).1
        generalize r[n] = x at *
        have v2 : IntKind.i64.wrap (t - x) = t - x := IntWalk.i64_in _ (by omega)
        go_wp2_with fail
        go_roundw
        case rel => exact ⟨t - x, n + 1, by omega, rfl, by go_num, by omega, HEN, HBR.out⟩
        case measure => first | (simp [intOf]; done) | (simp [intOf]; omega)
      · obtain rfl : n = r.length := by omega
        have HN := Lib.hid (show enoughM r s 0 = none by rw [HE1.out, List.drop_length, enoughM, if_pos h1])
        go_wp2_with fail
        go_ret2
        exact ⟨r, by unfold enoughV; rw [HN.out]; rfl, HF.out, HWW.out⟩
    · have HN := Lib.hid (show enoughM r s 0 = some n by rw [HE1.out]; cases r.drop n <;> (rw [enoughM, if_neg h1]))
      go_wp2_with fail
      go_ret2
      exact ⟨r, by unfold enoughV; rw [HN.out]; rfl, HF.out, HWW.out⟩
theorem fall_one {l r s : List Int} (h : FallOf l r) (h' : FallOf l s) : r = s :=
  List.Perm.eq_of_pairwise (le := fun a b : Int => b ≤ a) (fun a b _ _ h1 h2 => by omega) h.2 h'.2 (h.1.trans h'.1.symm)
end Go.Proofs.YtpaindkfbgoogaaGreat
/- slices.SortFunc at numbers, falling. -/
set_option linter.unusedVariables false
set_option linter.unusedSimpArgs false
namespace Go.Proofs.YtpaindkfbgoogaaGreat
open Go Go.RowKit Go.Sort Go.Lib

set_option maxHeartbeats 1000000 in
theorem ab1_any (x y : Int) (w : World) : Calls Tryz.prog 59 #[.int .i64 x, .int .i64 y] w fun e w' => e = .returned (.int .i64 (cmpI y x)) ∧ w' = w := by
  go_enter Tryz.func59, Tryz.ntmps59
  go_wp2_with (go_at_call 60; refine (compare_any _ _ _).mono ?_; rintro e w' ⟨rfl, rfl⟩)
  go_ret
  exact ⟨rfl, rfl⟩
def cmpIn (x y : Int) : Int := cmpI y x
theorem ltIn (x y : Int) : ltOf cmpIn x y = decide (y < x) := by
  rw [ltOf_iff]; unfold cmpIn; congr 1; apply propext; exact cmpI_neg _ _
theorem swoIn : Go.Sort.SWO (ltOf cmpIn) where
  irrefl x := by rw [ltIn]; simp
  trans x y z h1 h2 := by rw [ltIn] at *; simp at *; omega
  ntrans x y z h1 h2 := by rw [ltIn] at *; simp at *; omega
theorem cmpLaysIn (blk off size : Nat) (w : World) : CmpLays1 Tryz.prog 59 #[] (Value.int .i64) cmpIn blk off size w := fun m os dk _ x y => by
  refine (ab1_any x y _).mono ?_
  rintro e w' ⟨rfl, rfl⟩
  exact ⟨rfl, 0, #[], by rw [Go.Sort.grow_empty]; rfl⟩
theorem sortIn_any (base : Nat) (v : Value) (n : Nat) (xs : List Int) (w : World) (h : w.ownsRow base 3 1 v n (xs.map (Value.int .i64))) (hl : xs.length < 1000000) :
    Calls Tryz.prog 58 #[v, .func (.func 59) #[] #[]] w fun e w' => e = .returned (.tuple #[]) ∧ ∃ r : List Int, FallOf xs r ∧ w'.ownsRow base 3 1 v n (r.map (Value.int .i64)) ∧ w.grownBy w' v.ownBlock := by
  have hn : xs.length = n := by have := h.1; simpa using this
  subst hn
  by_cases hne : xs = []
  · subst hne
    obtain ⟨a, c, rfl, _, _⟩ := own_slice h
    refine (sortNoneIn a c _ w).mono ?_
    rintro e w' ⟨rfl, rfl⟩
    exact ⟨rfl, [], ⟨List.Perm.refl _, List.Pairwise.nil⟩, h, grownBy_below (Below.refl _ _) _⟩
  · have eg : ∀ args w, (callFunc 59 args).run Tryz.prog w = .ok (.enter 59 args) w := enters_of Tryz.func59 (by kernel_rfl) rfl
    rcases h.2 with ⟨h0, h1⟩ | ⟨g, cap, cur, hv, hbase, hb, h1, h2, h3, h4⟩
    · exact absurd (List.length_eq_zero_iff.1 h1) hne
    · subst hv
      have hgl : g < w.heap.size := (Array.getElem?_eq_some_iff.1 hb).1
      have hH : Holds (Value.int .i64) w g 0 xs.toArray := holds_of_blockI hb (by simpa using h4)
      have hcon := Any.slices_SortFunc Tryz.sortIn (Value.int .i64) (fun _ => rfl) cmpIn swoIn 59 #[] g 0 cap xs.toArray w eg (cmpLaysIn g 0 xs.toArray.size w) hH hgl (by simp; omega)
      rw [show xs.toArray.size = xs.length by simp] at hcon
      refine hcon.mono fun e w' ⟨he, d', m, os, hp, hs, hw⟩ => ?_
      rw [show xs.length = xs.toArray.size by simp] at hp hs
      obtain ⟨hd, hperm⟩ := perm_of_permIn hp
      have hsrt := pairwise_of_sorted (by simpa using hd.symm) hs
      refine ⟨he, d'.toList, ⟨by simpa using hperm, hsrt.imp fun {x y} hxy => by rw [ltIn] at hxy; simpa using hxy⟩, ?_, ?_⟩
      · rw [hw]
        have ho := ownsRow_sortedI (n := m) (os := os) (ss := xs) (ts := d'.toList) (by simpa using hd) hbase hb h1 h2 h3
        simpa [Go.Proofs.sortWorld] using ho
      · rw [hw]
        exact grownBy_sortedI _
end Go.Proofs.YtpaindkfbgoogaaGreat
