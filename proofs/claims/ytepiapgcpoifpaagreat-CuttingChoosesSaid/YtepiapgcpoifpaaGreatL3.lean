/- The bars from the longest on; the least number of bars. -/
import Derived.Test.YtepiapgcpoifpaaGreatL2
import Derived.Deep.QuietTactic
import Derived.BigQuiet
set_option linter.unusedVariables false
set_option linter.unusedSimpArgs false
namespace Go.Proofs.YtepiapgcpoifpaaGreat
open Go Go.RowKit Go.Sort Go.Lib

set_option maxRecDepth 100000 in
set_option maxHeartbeats 2000000 in
theorem longest1_any (g1 : Nat) (st : List Int) (a1 : Option Addr) (c1 a b : Nat) (w : World) (hc : w.cell? ⟨g1, 0, none⟩ = some (.slice a1 st.length c1)) (hv : IntsV w a1 st) (hl : st.length ≤ 100000) (ha : a < st.length) (hb : b < st.length) :
    Calls Tryz.prog 116 #[.int .i64 a, .int .i64 b, .pointer (some ⟨g1, 0, none⟩)] w fun e w' => e = .returned (.int .i64 (cmpI st[b] st[a])) ∧ (Below w.heap.size w w' ∧ w.drawn ≤ w'.drawn) := by
  obtain ⟨g, off, rfl, hx⟩ := hv (by rintro rfl; simp at ha)
  have k0 := hx a st[a] (List.getElem?_eq_getElem ha)
  have k1 := hx b st[b] (List.getElem?_eq_getElem hb)
  have hai : (a : Int) < (st.length : Int) := by omega
  have hbi : (b : Int) < (st.length : Int) := by omega
  clear hx hv
  generalize st[a] = x at *
  generalize st[b] = y at *
  clear ha hb
  generalize st.length = n at *
  go_enter Tryz.func116, Tryz.ntmps116
  go_wp2_with fail
  go_quiet ((go_at_call 83; exact quiet_left (compare_any _ _ _)))
  rename_i nq
  go_wp2_with fail
  go_ret
  exact ⟨rfl, below_drewN (Below.refl _ _) nq, by simp [World.drewN]⟩
def cfL (st : List Int) (x y : Ix st.length) : Int := cmpI st[y.1] st[x.1]
theorem cmpLaysL (g1 : Nat) (st : List Int) [Inhabited (Ix st.length)] (a1 : Option Addr) (c1 blk size : Nat) (W0 w : World) (hb : Below W0.heap.size W0 w) (hc : W0.cell? ⟨g1, 0, none⟩ = some (.slice a1 st.length c1)) (hv : IntsV W0 a1 st) (hl : st.length ≤ 100000) (hblk : W0.heap.size ≤ blk) :
    CmpLays1 Tryz.prog 116 #[.pointer (some ⟨g1, 0, none⟩)] (encI st.length) (cfL st) blk 0 size w := fun m os dk _ x y => by
  have hS : Below W0.heap.size W0 (Go.Proofs.sortWorld (encI st.length) w blk 0 m dk os) := below_sortW hb hblk hb.size
  exact (longest1_any g1 st a1 c1 x.1 y.1 _ (cell_keep hS hc) (intsV_keep hv hS) hl x.2 y.2).mono fun e w' ⟨he, hb', hd⟩ => ⟨he, grow_of hb' hd⟩
theorem cmpI_lt (x y : Int) : decide (cmpI x y < 0) = decide (x < y) := by
  unfold cmpI
  rw [Bool.eq_iff_iff]
  simp only [decide_eq_true_eq]
  split
  · omega
  · split <;> omega
/-- Places of bars, the longest first. -/
def fallB (st : List Int) (x y : Nat) : Bool := decide (st.getD y 0 < st.getD x 0)
def longM (st : List Int) : List Nat := sortL (fallB st) (List.range st.length) []
def fallL (st : List Int) : List Int := sortL (fun a b => decide (b < a)) st []
theorem longM_len (st : List Int) : (longM st).length = st.length := by unfold longM; rw [sortL_len]; simp
theorem longM_vals (st : List Int) : (longM st).map (fun i => st.getD i 0) = fallL st := by
  have h := sortL_mapf (fun i : Nat => st.getD i 0) (fun a b : Int => decide (b < a)) (List.range st.length) []
  have e : (List.range st.length).map (fun i : Nat => st.getD i 0) = st := by
    apply List.ext_getElem (by simp)
    intro i h1 h2
    simp [List.getD_eq_getElem?_getD, List.getElem?_eq_getElem h2]
  rw [e] at h
  exact h
theorem mem_insL {α : Type} [Inhabited α] {lt : α → α → Bool} {pre : List α} {x y : α} : y ∈ insL lt pre x ↔ y = x ∨ y ∈ pre := by
  unfold insL
  rw [List.mem_append, List.mem_cons]
  constructor
  · rintro (h | h | h)
    · exact .inr (List.mem_of_mem_take h)
    · exact .inl h
    · exact .inr (List.mem_of_mem_drop h)
  · rintro (h | h)
    · exact .inr (.inl h)
    · rw [← List.take_append_drop (posL lt pre x pre.length) pre, List.mem_append] at h
      rcases h with h | h
      · exact .inl h
      · exact .inr (.inr h)
theorem mem_sortL {α : Type} [Inhabited α] {lt : α → α → Bool} {y : α} : ∀ {r acc : List α}, y ∈ sortL lt r acc ↔ y ∈ r ∨ y ∈ acc
  | [], acc => by simp [sortL]
  | x :: r, acc => by
    rw [sortL, mem_sortL, mem_insL, List.mem_cons]
    constructor
    · rintro (h | h | h)
      · exact .inl (.inr h)
      · exact .inl (.inl h)
      · exact .inr h
    · rintro ((h | h) | h)
      · exact .inr (.inl h)
      · exact .inl h
      · exact .inr (.inr h)
theorem longM_lt {st : List Int} {i : Nat} (h : i ∈ longM st) : i < st.length := by
  unfold longM at h
  rw [mem_sortL] at h
  simpa using h
theorem sort_long {st : List Int} [Inhabited (Ix st.length)] (hne : st ≠ []) :
    ((Sort.insertionSort (ltOf (cfL st)) (ixs st.length).toArray 0 st.length).toList.map (·.1)) = longM st ∧ (Sort.insertionSort (ltOf (cfL st)) (ixs st.length).toArray 0 st.length).size = st.length := by
  have hl := ixs_len st.length
  have h := insertionSort_all (ltOf (cfL st)) (ixs st.length) (by
    intro e
    rw [e] at hl
    exact hne (List.length_eq_zero_iff.1 hl.symm))
  rw [hl] at h
  rw [h]
  have hlt : ltOf (cfL st) = fun a b : Ix st.length => fallB st a.1 b.1 := by
    funext a b
    unfold ltOf cfL fallB
    rw [cmpI_lt]
    rw [show st.getD b.1 0 = st[b.1] by rw [List.getD_eq_getElem?_getD, List.getElem?_eq_getElem b.2]; rfl, show st.getD a.1 0 = st[a.1] by rw [List.getD_eq_getElem?_getD, List.getElem?_eq_getElem a.2]; rfl]
  constructor
  · simp only [List.toList_toArray]
    rw [hlt, sortL_mapf (fun i : Ix st.length => i.1) (fallB st), ixs_val]; rfl
  · simp only [List.size_toArray]
    rw [sortL_len, hl]; simp
theorem sortLong_any (g1 : Nat) (st : List Int) (a1 : Option Addr) (c1 blk cap base : Nat) (W0 w : World) (hb : Below W0.heap.size W0 w) (hc : W0.cell? ⟨g1, 0, none⟩ = some (.slice a1 st.length c1)) (hv : IntsV W0 a1 st) (hl : st.length < 20) (hblk : W0.heap.size ≤ blk)
    (hown : w.ownsRow base 3 1 (.slice (some ⟨blk, 0, none⟩) st.length cap) st.length (((List.range st.length).map fun i : Nat => (i : Int)).map (Value.int .i64))) :
    Calls Tryz.prog 80 #[.slice (some ⟨blk, 0, none⟩) st.length cap, .func (.func 116) #[] #[.pointer (some ⟨g1, 0, none⟩)]] w
      fun e w' => e = .returned (.tuple #[]) ∧ w'.ownsRow base 3 1 (.slice (some ⟨blk, 0, none⟩) st.length cap) st.length (((longM st).map fun i : Nat => (i : Int)).map (Value.int .i64)) ∧ w.grownBy w' (some blk) := by
  by_cases hne : st = []
  · subst hne
    refine (sortNone_any _ _ blk cap w).mono ?_
    rintro e w' ⟨he, rfl⟩
    exact ⟨he, hown, grownBy_below (Below.refl _ _) _⟩
  · have hpos : 0 < st.length := by
      cases hbk : st with
      | nil => exact absurd hbk hne
      | cons _ _ => simp
    haveI : Inhabited (Ix st.length) := ⟨⟨0, hpos⟩⟩
    rcases hown.2 with ⟨h0, _⟩ | ⟨g', cap', cur, hv', hbase, hbk, h1, h2, h3, h4⟩
    · cases h0
    · injection hv' with hv1 _ hv2
      injection hv1 with hv1
      injection hv1 with hv1
      subst hv1 hv2
      have hgl : blk < w.heap.size := (Array.getElem?_eq_some_iff.1 hbk).1
      have hH0 : Holds (Value.int .i64) w blk 0 ((List.range st.length).map fun i : Nat => (i : Int)).toArray := holds_of_blockI hbk (by simpa using h4)
      have hsz0 : (ixs st.length).toArray.size = st.length := by simp [ixs_len]
      have hs := sortStable_any 116 #[.pointer (some ⟨g1, 0, none⟩)] st.length (cfL st) blk cap (ixs st.length).toArray w (enters_of Tryz.func116 (by kernel_rfl) rfl)
        (cmpLaysL g1 st a1 c1 blk _ W0 w hb hc hv (by omega) hblk) hgl (holds_ixs hH0) (by rw [hsz0]; exact hl)
      rw [hsz0] at hs
      refine hs.mono ?_
      rintro e w1 ⟨he, hs⟩
      refine ⟨he, ?_⟩
      obtain ⟨m, os, rfl⟩ := sw_int hs
      obtain ⟨e1, e2⟩ := sort_long hne
      have e3 : ((Sort.insertionSort (ltOf (cfL st)) (ixs st.length).toArray 0 st.length).toList.map fun x => (x.1 : Int)) = (longM st).map fun i : Nat => (i : Int) := by
        rw [← e1, List.map_map]; rfl
      rw [e3]
      refine ⟨?_, grownBy_sortedI _⟩
      have := ownsRow_sortedI (n := m) (os := os) (ss := (List.range st.length).map fun i : Nat => (i : Int)) (ts := (longM st).map fun i : Nat => (i : Int)) (by simp [longM_len]) hbase hbk (by simpa using h1) h2 h3
      simpa using this

theorem make_run (n : Nat) (hn : n ≤ 1000000) (W : World) : (Instr.makeSlice 30 (.int .i64 (n : Int)) (.int .i64 (n : Int))).run Tryz.prog W = .ok (.slice (some ⟨W.heap.size, 0, none⟩) n n) (W.alloc (.cells (madeCells #[.int .i64 0] n) 3)) := by
  obtain ⟨n0, hn0, hx0, hx1, hx2⟩ := info_parts int_info
  have := run_make (P := Tryz.prog) W 30 3 n0 (.int .i64 0) Tryz.underlying30 hn0 hx0 .i64 .i64 (n : Int) (n : Int) (by omega) (Int.le_refl _) (by rw [hx2]; omega) (by omega)
  rw [this]
  simp [hx1, Value.cells]
set_option maxRecDepth 100000 in
set_option maxHeartbeats 4000000 in
theorem longest_any (a1 : Option Addr) (st : List Int) (c1 : Nat) (w : World) (hv : IntsV w a1 st) (hl : st.length < 20) :
    Calls Tryz.prog 73 #[.slice a1 st.length c1] w (RowPost w ((longM st).map fun i : Nat => (i : Int))) := by
  have hmk := make_run st.length (by omega)
  go_enter Tryz.func73, Tryz.ntmps73
  go_upto_region 1 with fail
  refine gen_world (fun W => W.cell? ⟨w.heap.size, 0, none⟩ = some (.slice a1 st.length c1) ∧ Below w.heap.size w W ∧ w.heap.size < W.heap.size) ⟨by simp, (Below.refl _ _).alloc (Nat.le_refl _) _, by simp⟩ ?_
  rintro wo ⟨j0, hbW, hzW⟩
  have HJ0 := Lib.hid j0
  have HBW := Lib.hid hbW
  obtain ⟨gj, hgj⟩ : ∃ g, g = w.heap.size := ⟨_, rfl⟩
  rw [← hgj] at j0 HJ0 hzW ⊢
  have HGJ := Lib.hid hgj
  clear hbW hgj
  go_wp2_with fail
  clear j0 hmk
  obtain ⟨B2, hB2⟩ : ∃ B, B = wo.heap.size := ⟨_, rfl⟩
  have HB2 := Lib.hid hB2
  rw [← hB2] at hzW ⊢
  clear hB2
  go_loopw [10] (fun iv wr => ∃ m : Nat, m ≤ st.length ∧ iv = .int .i64 m ∧ Hid (wr.ownsRow B2 3 1 (.slice (some ⟨B2, 0, none⟩) st.length st.length) st.length ((ordI st.length m).map (Value.int .i64))) ∧ Below B2 wo wr) (fun iv _ => st.length - (intOf iv).toNat)
  case atStart =>
    refine ⟨0, Nat.zero_le _, rfl, Lib.hid ?_, ?_⟩
    · have h := made_own (w := wo) (base := B2) (n := st.length) (T := 3) (z := .int .i64 0) (by rw [HB2.out]; exact Nat.le_refl _) (by unfold maxLen; omega)
      rw [ordI_zero, List.map_replicate]
      rw [← HB2.out] at h
      exact h
    · exact (Below.refl _ _).alloc (by rw [HB2.out]; exact Nat.le_refl _) _
  case round =>
    obtain ⟨m, hm, rfl, HO, hbw⟩ := hrel
    have hzB := own_blk HO.out
    by_cases hlt : m < st.length
    · obtain ⟨x, c0, f0⟩ : ∃ x, wr.cell? ⟨B2, m, none⟩ = some (.int .i64 x) ∧ wr.frozen? ⟨B2, m, none⟩ = false := ⟨_, own_int_cell HO.out (by rw [ordI_len hm]; exact hlt)⟩
      have hmi : (m : Int) < (st.length : Int) := by omega
      go_wp2_with fail
      go_roundw
      case rel =>
        refine ⟨m + 1, by omega, by go_num, Lib.hid ?_, hbw.setCell (by simp) _⟩
        have h := own_set1 (x := (m : Int)) HO.out (by rw [ordI_len hm]; exact hlt)
        rw [ordI_step hlt] at h
        exact h
      case measure => simp [intOf]; omega
    · obtain rfl : m = st.length := by omega
      have HO2 := HO.out
      rw [ordI_all] at HO2
      have HO3 := Lib.hid HO2
      have HBW2 := Lib.hid hbw
      clear HO HO2 hbw
      go_wp2_with (go_at_call 80; refine (sortLong_any gj st a1 c1 B2 st.length B2 wo _ (by rw [← HB2.out]; exact HBW2.out) HJ0.out (intsV_keep hv HBW.out) hl (by rw [← HB2.out]; exact Nat.le_refl _) HO3.out).mono ?_; rintro e w3 ⟨rfl, ho3, hg3⟩; have HO4 := Lib.hid ho3; have HG3 := Lib.hid hg3; clear ho3 hg3)
      go_ret
      refine ⟨_, rfl, ?_, ?_⟩
      · have h := own_mono HO4.out (base' := w.heap.size) (by have := HGJ.out; omega)
        simpa [longM_len] using h
      · have h1 : Below B2 wo w3 := HBW2.out.grown HG3.out (by have := HBW2.out.size; rw [HB2.out]; exact this) (fun k hk => by injection hk with hk; omega)
        exact HBW.out.trans (h1.mono (by have := HGJ.out; omega))
end Go.Proofs.YtepiapgcpoifpaaGreat
