/- slices.SortFunc at rows that the call itself owns: rectangles by their lower side, numbers falling. -/
import Derived.Test.YtpaindkfbgoogaaGreatG11
import Derived.Test.YtpaindkfbgoogaaGreatShelf2
import Derived.Test.YtpaindkfbgoogaaGreatBDX
import Derived.BigRegion
import Derived.Shelf.SlSortCmp.Whole1
set_option linter.unusedVariables false
set_option linter.unusedSimpArgs false
namespace Go.Proofs.YtpaindkfbgoogaaGreat
open Go Go.RowKit Go.Sort Go.Lib

section
variable {α : Type} {enc : α → List Value} {k : Nat} [Inhabited α]
theorem holdsK_of_own {w : World} {base e n : Nat} {v : Value} {l : List α} (hk : ∀ x, (enc x).length = k) (h : w.ownsRow base e k v n (l.flatMap enc)) (hne : l ≠ []) (hk0 : 0 < k) :
    ∃ g cap, v = .slice (some ⟨g, 0, none⟩) n cap ∧ base ≤ g ∧ g < w.heap.size ∧ n = l.length ∧ Go.Sort.HoldsK enc k w g 0 l.toArray := by
  obtain ⟨g, cap, rfl, hb, hg, hn, _, _, hc⟩ := own_cells hk h hne hk0
  refine ⟨g, cap, rfl, hb, hg, hn, fun t ht => ?_⟩
  have ht' : t < l.length * k := by simpa using ht
  have h1 : t / k < l.length := Nat.div_lt_of_lt_mul (by rwa [Nat.mul_comm])
  have h2 : t % k < k := Nat.mod_lt _ hk0
  have e1 : t / k * k + t % k = t := by rw [Nat.mul_comm]; exact Nat.div_add_mod t k
  have := hc (t / k) h1 (t % k) h2
  rw [e1] at this
  rw [Go.Sort.get_flatK _ _ _ _ (by simpa using ht'), Nat.zero_add]
  refine ⟨?_, this.2⟩
  rw [this.1]
  simp [getElem!_pos, h1, hk, h2]
theorem flatK_toList (hk : ∀ x, (enc x).length = k) (hk0 : 0 < k) (d : Array α) : (Go.Sort.flatK enc k d).toList = d.toList.flatMap enc := by
  apply List.ext_getElem?
  intro t
  by_cases ht : t < d.size * k
  · have h1 : t / k < d.toList.length := by simpa using Nat.div_lt_of_lt_mul (by rwa [Nat.mul_comm] at ht)
    have h2 : t % k < k := Nat.mod_lt _ hk0
    have e1 : t / k * k + t % k = t := by rw [Nat.mul_comm]; exact Nat.div_add_mod t k
    have e2 := flat_get hk h1 h2
    rw [e1] at e2
    rw [e2, Array.getElem?_toList, Array.getElem?_eq_getElem (by simpa using ht)]
    have e3 := Go.Sort.get_flatK enc k d t ht
    rw [getElem!_pos _ _ (by simpa using ht)] at e3
    rw [e3]
    have h1' : t / k < d.size := by simpa using h1
    simp [getElem!_pos, h1', hk, h2]
  · rw [List.getElem?_eq_none (by simpa using ht), List.getElem?_eq_none (by rw [flat_len hk]; simpa using ht)]
theorem own_sorted {w : World} {base e n m g cap : Nat} {l : List α} {d : Array α} {os : Array Obj} (hk : ∀ x, (enc x).length = k) (hk0 : 0 < k) (h : w.ownsRow base e k (.slice (some ⟨g, 0, none⟩) n cap) n (l.flatMap enc)) (hd : d.size = n) :
    (Go.Proofs.sortWorldK enc k w g 0 m d os).ownsRow base e k (.slice (some ⟨g, 0, none⟩) n cap) n (d.toList.flatMap enc) := by
  refine ⟨by rw [flat_len hk]; simp [hd], ?_⟩
  rcases h.2 with ⟨e0, _⟩ | ⟨g', cap', cur, e0, hb, hg, hn, hm, hs, ht⟩
  · cases e0
  · injection e0 with e1 _ e3
    injection e1 with e1
    injection e1 with e1
    subst e1; subst e3
    have hlt : g < w.heap.size := (Array.getElem?_eq_some_iff.1 hg).1
    refine .inr ⟨g, cap, Go.Sort.putCells id 0 (Go.Sort.flatK enc k d) cur, rfl, hb, ?_, hn, hm, by simpa [Go.Sort.putCells] using hs, ?_⟩
    · unfold Go.Proofs.sortWorldK Go.Sort.putRowK Go.Sort.putRow
      rw [Go.Sort.heap_grow_old _ _ (by simpa [Go.Sort.mapBlock, Go.Sort.ahead] using hlt)]
      simp [Go.Sort.mapBlock, Go.Sort.ahead, Array.getElem?_modify, hg, Go.Sort.onCells]
    · rw [← flatK_toList hk hk0]
      have hnk : n * k ≤ cur.size := by rw [hs]; exact Nat.mul_le_mul_right _ hn
      apply List.ext_getElem?
      intro j
      rw [List.getElem?_take]
      by_cases hj : j < n * k
      · have hjc : j < cur.size := by omega
        rw [if_pos hj, Array.getElem?_toList, Array.getElem?_toList, Array.getElem?_eq_getElem (show j < (Go.Sort.flatK enc k d).size by simp [hd]; exact hj)]
        simp only [Go.Sort.putCells, Array.getElem?_mapIdx, Array.getElem?_eq_getElem hjc, Option.map_some]
        rw [if_pos (by simp [hd]; exact hj)]
        simp [getElem!_pos, hd, hj]
      · rw [if_neg hj, List.getElem?_eq_none (by simp [hd]; omega)]
theorem below_sorted {B : Nat} {w0 w : World} {g m : Nat} {d : Array α} {os : Array Obj} (h : Below B w0 w) (hg : B ≤ g) (hlt : g < w.heap.size) (hB : B ≤ w.heap.size) : Below B w0 (Go.Proofs.sortWorldK enc k w g 0 m d os) := by
  refine ⟨h.os, h.tape, h.output, ?_, fun j hj => ?_⟩
  · have := h.size
    simp [Go.Proofs.sortWorldK, Go.Sort.putRowK, Go.Sort.putRow, Go.Sort.mapBlock, Go.Sort.ahead]; omega
  · rw [← h.block j hj]
    unfold Go.Proofs.sortWorldK Go.Sort.putRowK Go.Sort.putRow
    rw [Go.Sort.heap_grow_old _ _ (by simp [Go.Sort.mapBlock, Go.Sort.ahead]; omega)]
    simp [Go.Sort.mapBlock, Go.Sort.ahead, Array.getElem?_modify, show g ≠ j by omega]
theorem grown_sorted {w : World} {g m : Nat} {d : Array α} {os : Array Obj} (hlt : g < w.heap.size) : w.grownBy (Go.Proofs.sortWorldK enc k w g 0 m d os) (some g) :=
  ⟨rfl, rfl, rfl, by simp [Go.Proofs.sortWorldK, Go.Sort.putRowK, Go.Sort.putRow, Go.Sort.mapBlock, Go.Sort.ahead], fun j hj hne => by
    unfold Go.Proofs.sortWorldK Go.Sort.putRowK Go.Sort.putRow
    rw [Go.Sort.heap_grow_old _ _ (by simp [Go.Sort.mapBlock, Go.Sort.ahead]; omega)]
    simp [Go.Sort.mapBlock, Go.Sort.ahead, Array.getElem?_modify, show g ≠ j from fun e => hne (by rw [e])]⟩
theorem perm_of_permIn {d d' : Array α} (h : Go.Sort.PermIn 0 d.size d d') : d'.size = d.size ∧ d'.toList.Perm d.toList := by
  obtain ⟨h1, _, h3⟩ := h
  refine ⟨h1, ?_⟩
  have e1 : d.extract 0 d.size = d := by simp
  have e2 : d'.extract 0 d.size = d' := by rw [← h1]; simp
  rw [e1, e2] at h3
  exact h3
theorem pairwise_of_sorted {lt : α → α → Bool} {d : Array α} {n : Nat} (hn : n = d.size) (h : Go.Sort.SortedIn lt 0 n d) : d.toList.Pairwise (fun x y => lt y x = false) := by
  rw [List.pairwise_iff_getElem]
  intro i j hi hj hij
  have hi' : i < d.size := by simpa using hi
  have hj' : j < d.size := by simpa using hj
  have := h i j (Nat.zero_le _) hij (by omega)
  rw [getElem!_pos d i hi', getElem!_pos d j hj'] at this
  simpa using this
end
theorem ltOf_iff {α : Type} (c : α → α → Int) (x y : α) : ltOf c x y = decide (c x y < 0) := by unfold ltOf; rfl
set_option maxHeartbeats 1000000 in
theorem insNoneRc (a : Option Addr) (c : Nat) (f : Value) (w : World) : Calls Tryz.prog 138 #[.slice a 0 c, .int .i64 0, .int .i64 0, f] w fun e w' => e = .returned (.tuple #[]) ∧ w' = w := by
  go_enter Tryz.func138, Tryz.ntmps138
  go_wp2_with fail
  go_loopw [8] (fun iv wr => iv = .int .i64 1 ∧ wr = w) (fun _ _ => 0)
  case atStart => exact ⟨rfl, rfl⟩
  case round =>
    obtain ⟨rfl, rfl⟩ := hrel
    go_wp2_with fail
    exact bodyPost_end (v := .tuple #[]) (by simp [results, Tryz.results138, go_sem]) rfl ⟨rfl, rfl⟩
set_option maxHeartbeats 1000000 in
theorem pdqNoneRc (a : Option Addr) (c : Nat) (l : Int) (f : Value) (w : World) : Calls Tryz.prog 118 #[.slice a 0 c, .int .i64 0, .int .i64 0, .int .i64 l, f] w fun e w' => e = .returned (.tuple #[]) ∧ w' = w := by
  go_enter Tryz.func118, Tryz.ntmps118
  go_wp2_with fail
  go_loopw [1, 2] (fun av bv wr => av = .int .i64 0 ∧ bv = .int .i64 0 ∧ wr = w) (fun _ _ _ => 0)
  case atStart => exact ⟨rfl, rfl, rfl⟩
  case round =>
    obtain ⟨rfl, rfl, rfl⟩ := hrel
    go_wp2_with (go_at_call 138; refine (insNoneRc _ _ _ _).mono ?_; rintro e w1 ⟨rfl, rfl⟩)
    exact bodyPost_ret (v := .tuple #[]) (by simp [results, Tryz.results118, go_sem]) rfl ⟨rfl, rfl⟩
set_option maxHeartbeats 1000000 in
theorem sortNoneRc (a : Option Addr) (c : Nat) (f : Value) (w : World) : Calls Tryz.prog 95 #[.slice a 0 c, f] w fun e w' => e = .returned (.tuple #[]) ∧ w' = w := by
  go_enter Tryz.func95, Tryz.ntmps95
  go_wp2_with (first
    | (go_at_call 99; refine (Tryz.bits_Len 0 _ (by decide) (by decide)).mono ?_; rintro e w1 ⟨rfl, rfl⟩)
    | (go_at_call 118; refine (pdqNoneRc _ _ _ _ _).mono ?_; rintro e w1 ⟨rfl, rfl⟩))
  exact bodyPost_end (v := .tuple #[]) (by simp [results, Tryz.results95, go_sem]) rfl ⟨rfl, rfl⟩
set_option maxHeartbeats 1000000 in
theorem insNoneIn (a : Option Addr) (c : Nat) (f : Value) (w : World) : Calls Tryz.prog 120 #[.slice a 0 c, .int .i64 0, .int .i64 0, f] w fun e w' => e = .returned (.tuple #[]) ∧ w' = w := by
  go_enter Tryz.func120, Tryz.ntmps120
  go_wp2_with fail
  go_loopw [8] (fun iv wr => iv = .int .i64 1 ∧ wr = w) (fun _ _ => 0)
  case atStart => exact ⟨rfl, rfl⟩
  case round =>
    obtain ⟨rfl, rfl⟩ := hrel
    go_wp2_with fail
    exact bodyPost_end (v := .tuple #[]) (by simp [results, Tryz.results120, go_sem]) rfl ⟨rfl, rfl⟩
set_option maxHeartbeats 1000000 in
theorem pdqNoneIn (a : Option Addr) (c : Nat) (l : Int) (f : Value) (w : World) : Calls Tryz.prog 98 #[.slice a 0 c, .int .i64 0, .int .i64 0, .int .i64 l, f] w fun e w' => e = .returned (.tuple #[]) ∧ w' = w := by
  go_enter Tryz.func98, Tryz.ntmps98
  go_wp2_with fail
  go_loopw [1, 2] (fun av bv wr => av = .int .i64 0 ∧ bv = .int .i64 0 ∧ wr = w) (fun _ _ _ => 0)
  case atStart => exact ⟨rfl, rfl, rfl⟩
  case round =>
    obtain ⟨rfl, rfl, rfl⟩ := hrel
    go_wp2_with (go_at_call 120; refine (insNoneIn _ _ _ _).mono ?_; rintro e w1 ⟨rfl, rfl⟩)
    exact bodyPost_ret (v := .tuple #[]) (by simp [results, Tryz.results98, go_sem]) rfl ⟨rfl, rfl⟩
set_option maxHeartbeats 1000000 in
theorem sortNoneIn (a : Option Addr) (c : Nat) (f : Value) (w : World) : Calls Tryz.prog 58 #[.slice a 0 c, f] w fun e w' => e = .returned (.tuple #[]) ∧ w' = w := by
  go_enter Tryz.func58, Tryz.ntmps58
  go_wp2_with (first
    | (go_at_call 99; refine (Tryz.bits_Len 0 _ (by decide) (by decide)).mono ?_; rintro e w1 ⟨rfl, rfl⟩)
    | (go_at_call 98; refine (pdqNoneIn _ _ _ _ _).mono ?_; rintro e w1 ⟨rfl, rfl⟩))
  exact bodyPost_end (v := .tuple #[]) (by simp [results, Tryz.results58, go_sem]) rfl ⟨rfl, rfl⟩

/-! Rectangles. -/
set_option maxHeartbeats 1000000 in
theorem cov1_any (x y : Rect) (w : World) : Calls Tryz.prog 96 #[.agg #[.int .i64 x.x1, .int .i64 x.y1, .int .i64 x.x2, .int .i64 x.y2], .agg #[.int .i64 y.x1, .int .i64 y.y1, .int .i64 y.x2, .int .i64 y.y2]] w fun e w' => e = .returned (.int .i64 (cmpI x.y1 y.y1)) ∧ ∃ q os', w' = Go.Sort.grow (w.drewN q) os' := by
  go_enter Tryz.func96, Tryz.ntmps96
  go_wp2_with (go_at_call 60; refine (compare_any _ _ _).mono ?_; rintro e w' ⟨rfl, rfl⟩)
  go_ret
  exact ⟨rfl, 0, _, by rw [Go.Sort.alloc_eq_grow, Go.Sort.alloc_eq_grow, Go.Sort.grow_grow]; rfl⟩
theorem cmpI_neg (x y : Int) : cmpI x y < 0 ↔ x < y := by
  unfold cmpI
  split
  · simp; omega
  · split <;> simp <;> omega
instance : Inhabited Rect := ⟨zeroR⟩
def cmpRc (x y : Rect) : Int := cmpI x.y1 y.y1
theorem ltRc (x y : Rect) : ltOf cmpRc x y = decide (x.y1 < y.y1) := by
  rw [ltOf_iff]; unfold cmpRc; congr 1; apply propext; exact cmpI_neg _ _
theorem swoRc : Go.Sort.SWO (ltOf cmpRc) where
  irrefl x := by rw [ltRc]; simp
  trans x y z h1 h2 := by rw [ltRc] at *; simp at *; omega
  ntrans x y z h1 h2 := by rw [ltRc] at *; simp at *; omega
theorem cmpLaysRc (blk off size : Nat) (w : World) : CmpLays Tryz.prog 96 #[] cellsR 4 cmpRc blk off size w := fun _ _ _ _ x y => by
  exact cov1_any x y _
theorem sortRc_any (base : Nat) (v : Value) (n : Nat) (l : List Rect) (w : World) (h : w.ownsRow base 57 4 v n (l.flatMap cellsR)) (hl : l.length ≤ 1000000) (hbase : base ≤ w.heap.size) :
    Calls Tryz.prog 95 #[v, .func (.func 96) #[] #[]] w fun e w' => e = .returned (.tuple #[]) ∧ ∃ r : List Rect, r.Perm l ∧ r.Pairwise (fun x y => x.y1 ≤ y.y1) ∧ w'.ownsRow base 57 4 v n (r.flatMap cellsR) ∧ Below base w w' ∧ w.grownBy w' v.ownBlock := by
  by_cases hne : l = []
  · subst hne
    have hn := own_len cellsR_len (by decide) h
    obtain ⟨a, c, rfl, _, _⟩ := own_slice h
    simp only [List.length_nil] at hn
    subst hn
    refine (sortNoneRc a c _ w).mono ?_
    rintro e w' ⟨rfl, rfl⟩
    exact ⟨rfl, [], List.Perm.refl _, List.Pairwise.nil, h, Below.refl _ _, grownBy_below (Below.refl _ _) _⟩
  · have eg : ∀ args w, (callFunc 96 args).run Tryz.prog w = .ok (.enter 96 args) w := enters_of Tryz.func96 (by kernel_rfl) rfl
    obtain ⟨g, cap, rfl, hbg, hg, hnl, hH⟩ := holdsK_of_own (enc := cellsR) cellsR_len h hne (by decide)
    have hcon := AnyQ.slices_SortFunc Tryz.sortRc 4 Tryz.isAgg57 Tryz.sizeOf57 cellsR cellsR_len cellsR_one cmpRc swoRc 96 #[] g 0 cap l.toArray w eg (cmpLaysRc g 0 l.toArray.size w) hH hg (by simp at hl ⊢; omega)
    have hnl' : l.toArray.size = n := by simp [hnl]
    rw [hnl'] at hcon
    refine hcon.mono fun e w' ⟨he, d', m, os, hp, hs, hw⟩ => ?_
    rw [← hnl'] at hp hs
    obtain ⟨hd, hperm⟩ := perm_of_permIn hp
    have hsrt := pairwise_of_sorted (by simpa using hd.symm) hs
    refine ⟨he, d'.toList, by simpa using hperm, ?_, ?_, ?_, ?_⟩
    · exact hsrt.imp fun {x y} hxy => by rw [ltRc] at hxy; simpa using hxy
    · rw [hw]
      exact own_sorted (enc := cellsR) cellsR_len (by decide) h (by rw [hd, hnl'])
    · rw [hw]
      exact below_sorted (Below.refl _ _) hbg hg hbase
    · rw [hw]
      exact grown_sorted hg
/-! slices.Sort at numbers. -/
set_option maxHeartbeats 1000000 in
theorem insNoneO (a : Option Addr) (c : Nat) (w : World) : Calls Tryz.prog 146 #[.slice a 0 c, .int .i64 0, .int .i64 0] w fun e w' => e = .returned (.tuple #[]) ∧ w' = w := by
  go_enter Tryz.func146, Tryz.ntmps146
  go_wp2_with fail
  go_loopw [6] (fun iv wr => iv = .int .i64 1 ∧ wr = w) (fun _ _ => 0)
  case atStart => exact ⟨rfl, rfl⟩
  case round =>
    obtain ⟨rfl, rfl⟩ := hrel
    go_wp2_with fail
    exact bodyPost_end (v := .tuple #[]) (by simp [results, Tryz.results146, go_sem]) rfl ⟨rfl, rfl⟩
set_option maxHeartbeats 1000000 in
theorem pdqNoneO (a : Option Addr) (c : Nat) (l : Int) (w : World) : Calls Tryz.prog 119 #[.slice a 0 c, .int .i64 0, .int .i64 0, .int .i64 l] w fun e w' => e = .returned (.tuple #[]) ∧ w' = w := by
  go_enter Tryz.func119, Tryz.ntmps119
  go_wp2_with fail
  go_loopw [1, 2] (fun av bv wr => av = .int .i64 0 ∧ bv = .int .i64 0 ∧ wr = w) (fun _ _ _ => 0)
  case atStart => exact ⟨rfl, rfl, rfl⟩
  case round =>
    obtain ⟨rfl, rfl, rfl⟩ := hrel
    go_wp2_with (go_at_call 146; refine (insNoneO _ _ _).mono ?_; rintro e w1 ⟨rfl, rfl⟩)
    exact bodyPost_ret (v := .tuple #[]) (by simp [results, Tryz.results119, go_sem]) rfl ⟨rfl, rfl⟩
set_option maxHeartbeats 1000000 in
theorem sortNoneO (a : Option Addr) (c : Nat) (w : World) : Calls Tryz.prog 97 #[.slice a 0 c] w fun e w' => e = .returned (.tuple #[]) ∧ w' = w := by
  go_enter Tryz.func97, Tryz.ntmps97
  go_wp2_with (first
    | (go_at_call 99; refine (Tryz.bits_Len 0 _ (by decide) (by decide)).mono ?_; rintro e w1 ⟨rfl, rfl⟩)
    | (go_at_call 119; refine (pdqNoneO _ _ _ _).mono ?_; rintro e w1 ⟨rfl, rfl⟩))
  exact bodyPost_end (v := .tuple #[]) (by simp [results, Tryz.results97, go_sem]) rfl ⟨rfl, rfl⟩
theorem sortInts_any (base : Nat) (v : Value) (n : Nat) (xs : List Int) (w : World) (h : w.ownsRow base 3 1 v n (xs.map (Value.int .i64))) (hl : xs.length < 1000000) :
    Calls Tryz.prog 97 #[v] w fun e w' => e = .returned (.tuple #[]) ∧ ∃ r : List Int, r.Perm xs ∧ r.Pairwise (· ≤ ·) ∧ w'.ownsRow base 3 1 v n (r.map (Value.int .i64)) ∧ w.grownBy w' v.ownBlock := by
  have hn : xs.length = n := by have := h.1; simpa using this
  subst hn
  by_cases hne : xs = []
  · subst hne
    obtain ⟨a, c, rfl, _, _⟩ := own_slice h
    refine (sortNoneO a c w).mono ?_
    rintro e w' ⟨rfl, rfl⟩
    exact ⟨rfl, [], List.Perm.refl _, List.Pairwise.nil, h, grownBy_below (Below.refl _ _) _⟩
  · obtain ⟨g, cap, rfl, _, _⟩ := own_some8 h (List.length_pos_iff.2 hne)
    refine (sort_n g cap xs w base h hl).mono ?_
    rintro e w' ⟨rfl, ho, hg⟩
    refine ⟨rfl, _, List.mergeSort_perm _ _, ?_, ho, hg⟩
    have := List.pairwise_mergeSort (le := fun x y : Int => decide (x ≤ y)) (fun a b c h1 h2 => by simp at *; omega) (fun a b => by simp; omega) xs
    exact this.imp fun {a b} h => by simpa using h
end Go.Proofs.YtpaindkfbgoogaaGreat
/- Numbers in falling order; how many of them are enough. -/
set_option linter.unusedVariables false
set_option linter.unusedSimpArgs false
namespace Go.Proofs.YtpaindkfbgoogaaGreat
open Go Go.RowKit Go.Sort Go.Lib
/-- The same numbers, none before a greater one. -/
def FallOf (l r : List Int) : Prop := r.Perm l ∧ r.Pairwise fun a b => b ≤ a
/-- How many of a row's first numbers reach a sum; none: all are too few. -/
def enoughM : List Int → Int → Nat → Option Nat
  | l, s, n => if s > 0 then match l with
    | [] => none
    | x :: l => enoughM l (s - x) (n + 1)
  else some n
theorem fall_one {l r s : List Int} (h : FallOf l r) (h' : FallOf l s) : r = s :=
  List.Perm.eq_of_pairwise (le := fun a b : Int => b ≤ a) (fun a b _ _ h1 h2 => by omega) h.2 h'.2 (h.1.trans h'.1.symm)
theorem enough_le : ∀ (r : List Int) (s : Int) (n k : Nat), s ≤ (r.take k).sum → ∃ m, enoughM r s n = some m ∧ m ≤ n + k
  | [], s, n, k, h => by
    rw [enoughM]
    have : ¬ s > 0 := by simp at h; omega
    rw [if_neg this]; exact ⟨n, rfl, by omega⟩
  | x :: r, s, n, k, h => by
    rw [enoughM]
    by_cases hs : s > 0
    · rw [if_pos hs]
      cases k with
      | zero => simp at h; omega
      | succ k =>
        rw [List.take_succ_cons, List.sum_cons] at h
        obtain ⟨m, h1, h2⟩ := enough_le r (s - x) (n + 1) k (by omega)
        exact ⟨m, h1, by omega⟩
    · rw [if_neg hs]; exact ⟨n, rfl, by omega⟩
theorem sub_sum : ∀ {s r : List Int}, s.Sublist r → r.Pairwise (fun a b => b ≤ a) → s.sum ≤ (r.take s.length).sum
  | _, _, .slnil, _ => by simp
  | s, _, .cons y (l₂ := r) h, hp => by
    obtain ⟨h1, h2⟩ := List.pairwise_cons.1 hp
    have ih := sub_sum h h2
    cases hs : s.length with
    | zero => obtain rfl := List.length_eq_zero_iff.1 hs; simp
    | succ k =>
      rw [hs] at ih
      have hk : k < r.length := by have := h.length_le; omega
      rw [List.take_succ_eq_append_getElem hk, List.sum_append] at ih
      rw [List.take_succ_cons, List.sum_cons]
      have := h1 _ (List.getElem_mem hk)
      simp only [List.sum_cons, List.sum_nil] at ih
      omega
  | _, _, .cons_cons x (l₁ := s) h, hp => by
    obtain ⟨h1, h2⟩ := List.pairwise_cons.1 hp
    have ih := sub_sum h h2
    simp only [List.length_cons, List.take_succ_cons, List.sum_cons]
    omega
end Go.Proofs.YtpaindkfbgoogaaGreat
/- slices.SortFunc at numbers, falling. -/
set_option linter.unusedVariables false
set_option linter.unusedSimpArgs false
namespace Go.Proofs.YtpaindkfbgoogaaGreat
open Go Go.RowKit Go.Sort Go.Lib

set_option maxHeartbeats 1000000 in
theorem ab1_any (x y : Int) (w : World) : Calls Tryz.prog 59 #[.int .i64 x, .int .i64 y] w fun e w' => e = .returned (.int .i64 (cmpI y x)) ∧ w' = w := by
  go_enter Tryz.func59, Tryz.ntmps59
  go_wp2_with (go_at_call 60; refine (compare_any _ _ _).mono ?_; rintro e w' ⟨rfl, rfl⟩)
  go_ret
  exact ⟨rfl, rfl⟩
def cmpIn (x y : Int) : Int := cmpI y x
theorem ltIn (x y : Int) : ltOf cmpIn x y = decide (y < x) := by
  rw [ltOf_iff]; unfold cmpIn; congr 1; apply propext; exact cmpI_neg _ _
theorem swoIn : Go.Sort.SWO (ltOf cmpIn) where
  irrefl x := by rw [ltIn]; simp
  trans x y z h1 h2 := by rw [ltIn] at *; simp at *; omega
  ntrans x y z h1 h2 := by rw [ltIn] at *; simp at *; omega
theorem cmpLaysIn (blk off size : Nat) (w : World) : CmpLays1 Tryz.prog 59 #[] (Value.int .i64) cmpIn blk off size w := fun m os dk _ x y => by
  refine (ab1_any x y _).mono ?_
  rintro e w' ⟨rfl, rfl⟩
  exact ⟨rfl, 0, #[], by rw [Go.Sort.grow_empty]; rfl⟩
theorem sortIn_any (base : Nat) (v : Value) (n : Nat) (xs : List Int) (w : World) (h : w.ownsRow base 3 1 v n (xs.map (Value.int .i64))) (hl : xs.length < 1000000) :
    Calls Tryz.prog 58 #[v, .func (.func 59) #[] #[]] w fun e w' => e = .returned (.tuple #[]) ∧ ∃ r : List Int, FallOf xs r ∧ w'.ownsRow base 3 1 v n (r.map (Value.int .i64)) ∧ w.grownBy w' v.ownBlock := by
  have hn : xs.length = n := by have := h.1; simpa using this
  subst hn
  by_cases hne : xs = []
  · subst hne
    obtain ⟨a, c, rfl, _, _⟩ := own_slice h
    refine (sortNoneIn a c _ w).mono ?_
    rintro e w' ⟨rfl, rfl⟩
    exact ⟨rfl, [], ⟨List.Perm.refl _, List.Pairwise.nil⟩, h, grownBy_below (Below.refl _ _) _⟩
  · have eg : ∀ args w, (callFunc 59 args).run Tryz.prog w = .ok (.enter 59 args) w := enters_of Tryz.func59 (by kernel_rfl) rfl
    rcases h.2 with ⟨h0, h1⟩ | ⟨g, cap, cur, hv, hbase, hb, h1, h2, h3, h4⟩
    · exact absurd (List.length_eq_zero_iff.1 h1) hne
    · subst hv
      have hgl : g < w.heap.size := (Array.getElem?_eq_some_iff.1 hb).1
      have hH : Holds (Value.int .i64) w g 0 xs.toArray := holds_of_blockI hb (by simpa using h4)
      have hcon := Any.slices_SortFunc Tryz.sortIn (Value.int .i64) (fun _ => rfl) cmpIn swoIn 59 #[] g 0 cap xs.toArray w eg (cmpLaysIn g 0 xs.toArray.size w) hH hgl (by simp; omega)
      rw [show xs.toArray.size = xs.length by simp] at hcon
      refine hcon.mono fun e w' ⟨he, d', m, os, hp, hs, hw⟩ => ?_
      rw [show xs.length = xs.toArray.size by simp] at hp hs
      obtain ⟨hd, hperm⟩ := perm_of_permIn hp
      have hsrt := pairwise_of_sorted (by simpa using hd.symm) hs
      refine ⟨he, d'.toList, ⟨by simpa using hperm, hsrt.imp fun {x y} hxy => by rw [ltIn] at hxy; simpa using hxy⟩, ?_, ?_⟩
      · rw [hw]
        have ho := ownsRow_sortedI (n := m) (os := os) (ss := xs) (ts := d'.toList) (by simpa using hd) hbase hb h1 h2 h3
        simpa [Go.Proofs.sortWorld] using ho
      · rw [hw]
        exact grownBy_sortedI _
end Go.Proofs.YtpaindkfbgoogaaGreat
