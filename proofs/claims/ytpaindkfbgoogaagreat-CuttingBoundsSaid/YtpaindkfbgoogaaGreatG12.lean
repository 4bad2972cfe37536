/- The order of the blanks that the program sorts is that of the model. -/
import Derived.Test.YtpaindkfbgoogaaGreatG11
import Derived.Test.YtpaindkfbgoogaaGreatC8d
set_option linter.unusedVariables false
set_option linter.unusedSimpArgs false
namespace Go.Proofs.YtpaindkfbgoogaaGreat
open Go Go.RowKit Go.Sort Go.Lib

section
variable {blanks : List Blank}
theorem lt_earlier (x y : Ix blanks.length) : ltOf (cfI blanks) x y = earlierB (bl blanks x.1) (bl blanks y.1) := by
  have e : ∀ z : Ix blanks.length, bl blanks z.1 = blanks[z.1] := fun z => by
    unfold bl; rw [List.getD_eq_getElem?_getD, List.getElem?_eq_getElem z.2]; rfl
  unfold ltOf cfI
  rw [cmpB_lt, e, e]
variable [Inhabited (Ix blanks.length)]
theorem posL_ins (pre : List (Ix blanks.length)) (x : Ix blanks.length) : ∀ k, k ≤ pre.length → posL (ltOf (cfI blanks)) pre x k = insPos blanks (pre.map (·.1)) x.1 k
  | 0, _ => rfl
  | k + 1, h => by
    have e : (pre.map (·.1)).getD k 0 = (pre.getD k default).1 := by
      simp only [List.getD_eq_getElem?_getD]
      rw [List.getElem?_map, List.getElem?_eq_getElem (by omega : k < pre.length)]; rfl
    unfold posL insPos
    rw [lt_earlier, e, posL_ins pre x k (by omega)]
theorem insL_map (pre : List (Ix blanks.length)) (x : Ix blanks.length) : (insL (ltOf (cfI blanks)) pre x).map (·.1) = insOne blanks (pre.map (·.1)) x.1 := by
  unfold insL insOne
  rw [posL_ins pre x _ (Nat.le_refl _)]
  simp [List.map_take, List.map_drop]
theorem sortL_map : ∀ (r acc : List (Ix blanks.length)), (sortL (ltOf (cfI blanks)) r acc).map (·.1) = orderGo blanks (r.map (·.1)) (acc.map (·.1))
  | [], _ => rfl
  | x :: r, acc => by
    rw [sortL, sortL_map, insL_map]; rfl
theorem sortL_len {α : Type} [Inhabited α] (lt : α → α → Bool) : ∀ (r acc : List α), (sortL lt r acc).length = r.length + acc.length
  | [], _ => by simp [sortL]
  | x :: r, acc => by rw [sortL, sortL_len, insL_len]; simp; omega
end
def ixs (n : Nat) : List (Ix n) := (List.range n).pmap (fun i h => (⟨i, h⟩ : Ix n)) (fun i h => List.mem_range.1 h)
theorem ixs_val (n : Nat) : (ixs n).map (·.1) = List.range n := by
  unfold ixs
  rw [List.map_pmap, List.pmap_eq_map, List.map_id']
theorem ixs_len (n : Nat) : (ixs n).length = n := by simp [ixs]
theorem insertionSort_all {α : Type} [Inhabited α] (lt : α → α → Bool) (l : List α) (hne : l ≠ []) : Sort.insertionSort lt l.toArray 0 l.length = (sortL lt l []).toArray := by
  cases l with
  | nil => exact absurd rfl hne
  | cons x r => exact insertionSort_list lt x r
theorem sort_ixs {blanks : List Blank} [Inhabited (Ix blanks.length)] (hne : blanks ≠ []) :
    ((Sort.insertionSort (ltOf (cfI blanks)) (ixs blanks.length).toArray 0 blanks.length).toList.map (·.1)) = orderM blanks ∧ (Sort.insertionSort (ltOf (cfI blanks)) (ixs blanks.length).toArray 0 blanks.length).size = blanks.length := by
  have hl := ixs_len blanks.length
  have h := insertionSort_all (ltOf (cfI blanks)) (ixs blanks.length) (by
    intro e
    rw [e] at hl
    exact hne (List.length_eq_zero_iff.1 hl.symm))
  rw [hl] at h
  rw [h]
  constructor
  · simp only [List.toList_toArray]
    rw [sortL_map, ixs_val]; rfl
  · simp only [List.size_toArray]
    rw [sortL_len, hl]; simp

theorem sw_int {n : Nat} [Inhabited (Ix n)] {w w' : World} {blk : Nat} {dk : Array (Ix n)} (h : Go.Proofs.SW (encI n) w blk 0 dk w') : ∃ m os, w' = Go.Sort.grow (Go.Sort.putRow (Value.int .i64) (Go.Sort.ahead w m) blk 0 (dk.toList.map fun x => (x.1 : Int)).toArray) os := by
  obtain ⟨m, os, rfl⟩ := h
  refine ⟨m, os, ?_⟩
  unfold Go.Proofs.sortWorld Go.Sort.putRow
  congr 2
  funext c
  unfold Go.Sort.putCells
  congr 1
  funext k x
  have e : (dk.toList.map fun x => (x.1 : Int)).toArray.size = dk.size := by simp
  rw [e]
  split
  · rename_i hk
    have h1 : k - 0 < dk.size := by omega
    rw [getElem!_pos dk _ h1, getElem!_pos _ _ (by rw [e]; exact h1)]
    simp [encI]
  · rfl

theorem holds_ixs {n : Nat} [Inhabited (Ix n)] {w : World} {blk : Nat} (h : Go.Sort.Holds (Value.int .i64) w blk 0 ((List.range n).map fun i : Nat => (i : Int)).toArray) : Go.Sort.Holds (encI n) w blk 0 (ixs n).toArray := by
  intro j hj
  have hj' : j < n := by simpa [ixs_len] using hj
  obtain ⟨h1, h2⟩ := h j (by simpa using hj')
  refine ⟨?_, h2⟩
  rw [h1, getElem!_pos ((List.range n).map fun i : Nat => (i : Int)).toArray j (by simpa using hj'), getElem!_pos (ixs n).toArray j hj]
  simp [ixs, encI]

set_option maxRecDepth 100000 in
set_option maxHeartbeats 400000 in
theorem sortNone_any (f : FuncId) (caps : Array Value) (blk cap : Nat) (w : World) :
    Calls Tryz.prog 75 #[.slice (some ⟨blk, 0, none⟩) 0 cap, .func (.func f) #[] caps] w fun e w' => e = .returned (.tuple #[]) ∧ w = w' := by
  have HI : Hid (∀ w, Calls Tryz.prog 120 #[.slice (some ⟨blk, 0, none⟩) 0 cap, .int .i64 0, .int .i64 0, .func (.func f) #[] caps] w fun e w' => e = .returned (.tuple #[]) ∧ w = w') := Lib.hid (fun w => by
    go_enter Tryz.func120, Tryz.ntmps120
    go_wp2_with (first
      | (with_reducible refine rounds_step ?_)
      | (with_reducible refine wp_loop_rounds 1 ?_))
    exact bodyPost_end (v := .tuple #[]) (by simp [results, Tryz.results120, go_sem]) rfl ⟨rfl, rfl⟩)
  have HB : Hid (∀ w, Calls Tryz.prog 106 #[.slice (some ⟨blk, 0, none⟩) 0 cap, .int .i64 0, .func (.func f) #[] caps] w fun e w' => e = .returned (.tuple #[]) ∧ w = w') := Lib.hid (fun w => by
    go_enter Tryz.func106, Tryz.ntmps106
    go_wp2_with (first
      | (go_at_call 120; refine (HI.out _).mono ?_; rintro e w1 ⟨rfl, rfl⟩)
      | (with_reducible refine rounds_step ?_)
      | (with_reducible refine wp_loop_rounds 1 ?_))
    exact bodyPost_end (v := .tuple #[]) (by simp [results, Tryz.results106, go_sem]) rfl ⟨rfl, rfl⟩)
  clear HI
  go_enter Tryz.func75, Tryz.ntmps75
  go_wp2_with (go_at_call 106; refine (HB.out _).mono ?_; rintro e w1 ⟨rfl, rfl⟩)
  exact bodyPost_end (v := .tuple #[]) (by simp [results, Tryz.results75, go_sem]) rfl ⟨rfl, rfl⟩
/-- The order of the blanks, sorted. -/
theorem sortOrder_any (gj : Nat) (blanks : List Blank) (ab : Option Addr) (cb blk cap base : Nat) (W0 w : World) (hb : Below W0.heap.size W0 w) (hj : W0.cell? ⟨gj, 1, none⟩ = some (.slice ab blanks.length cb)) (hv : Blanks.V W0 ab blanks) (hl : blanks.length < 20)
    (hsz : ∀ x ∈ blanks, (1 ≤ x.length ∧ x.length ≤ 600000) ∧ (1 ≤ x.width ∧ x.width ≤ 600000)) (hblk : W0.heap.size ≤ blk)
    (hown : w.ownsRow base 3 1 (.slice (some ⟨blk, 0, none⟩) blanks.length cap) blanks.length (((List.range blanks.length).map fun i : Nat => (i : Int)).map (Value.int .i64))) :
    Calls Tryz.prog 75 #[.slice (some ⟨blk, 0, none⟩) blanks.length cap, .func (.func 76) #[] #[.pointer (some ⟨gj, 0, none⟩)]] w
      fun e w' => e = .returned (.tuple #[]) ∧ w'.ownsRow base 3 1 (.slice (some ⟨blk, 0, none⟩) blanks.length cap) blanks.length (((orderM blanks).map fun i : Nat => (i : Int)).map (Value.int .i64)) ∧ w.grownBy w' (some blk) := by
  by_cases hne : blanks = []
  · subst hne
    refine (sortNone_any _ _ blk cap w).mono ?_
    rintro e w' ⟨he, rfl⟩
    exact ⟨he, hown, grownBy_below (Below.refl _ _) _⟩
  · have hpos : 0 < blanks.length := by
      cases hbk : blanks with
      | nil => exact absurd hbk hne
      | cons _ _ => simp
    haveI : Inhabited (Ix blanks.length) := ⟨⟨0, hpos⟩⟩
    rcases hown.2 with ⟨h0, _⟩ | ⟨g', cap', cur, hv', hbase, hbk, h1, h2, h3, h4⟩
    · cases h0
    · injection hv' with hv1 _ hv2
      injection hv1 with hv1
      injection hv1 with hv1
      subst hv1 hv2
      have hgl : blk < w.heap.size := (Array.getElem?_eq_some_iff.1 hbk).1
      have hH0 : Holds (Value.int .i64) w blk 0 ((List.range blanks.length).map fun i : Nat => (i : Int)).toArray := holds_of_blockI hbk (by simpa using h4)
      have hsz0 : (ixs blanks.length).toArray.size = blanks.length := by simp [ixs_len]
      have hc := sortBlanks_any gj blanks ab cb blk cap (ixs blanks.length).toArray W0 w hb hj hv hl hsz hblk hgl (holds_ixs hH0) hsz0
      rw [hsz0] at hc
      refine hc.mono ?_
      rintro e w1 ⟨he, hs⟩
      refine ⟨he, ?_⟩
      obtain ⟨m, os, rfl⟩ := sw_int hs
      obtain ⟨e1, e2⟩ := sort_ixs hne
      have e3 : ((Sort.insertionSort (ltOf (cfI blanks)) (ixs blanks.length).toArray 0 blanks.length).toList.map fun x => (x.1 : Int)) = (orderM blanks).map fun i : Nat => (i : Int) := by
        rw [← e1, List.map_map]; rfl
      rw [e3]
      refine ⟨?_, grownBy_sortedI _⟩
      have := ownsRow_sortedI (n := m) (os := os) (ss := (List.range blanks.length).map fun i : Nat => (i : Int)) (ts := (orderM blanks).map fun i : Nat => (i : Int)) (by simp [orderM_len]) hbase hbk (by simpa using h1) h2 h3
      simpa using this
end Go.Proofs.YtpaindkfbgoogaaGreat
