import Derived.Test.YtjmgboipbhddlaaGreatDoorSortM
import Derived.Test.YtjmgboipbhddlaaGreatDoorShelf
import Derived.Test.YtjmgboipbhddlaaGreatDoorCX
set_option linter.unusedVariables false
set_option linter.unusedSimpArgs false
namespace Go.Proofs.YtjmgboipbhddlaaGreatDoor
open Go Go.RowKit Go.Sort Go.Lib

abbrev Ix (n : Nat) := { i : Nat // i < n }
def encI (n : Nat) (i : Ix n) : Value := .int .i64 (i.1 : Int)
def cfI (blanks : List Blank) (x y : Ix blanks.length) : Int := cmpB blanks[x.1] blanks[y.1]
section
variable {α : Type} [Inhabited α] {enc : α → Value}
theorem below_sortW {B : Nat} {w0 w : World} {g m : Nat} {d : Array α} {os : Array Obj} (h : Below B w0 w) (hg : B ≤ g) (hB : B ≤ w.heap.size) : Below B w0 (Go.Proofs.sortWorld enc w g 0 m d os) := by
 refine ⟨h.os, h.tape, h.output, ?_, fun j hj => ?_⟩
 ·have := h.size
  simp [Go.Proofs.sortWorld, Go.Sort.putRow, Go.Sort.mapBlock, Go.Sort.ahead]; omega
 ·rw [← h.block j hj]
  unfold Go.Proofs.sortWorld Go.Sort.putRow
  rw [Go.Sort.heap_grow_old _ _ (by simp [Go.Sort.mapBlock, Go.Sort.ahead]; omega)]
  simp [Go.Sort.mapBlock, Go.Sort.ahead, Array.getElem?_modify, show g ≠ j by omega]
end
theorem cmpLaysB (gj : Nat) (blanks : List Blank) [Inhabited (Ix blanks.length)] (ab : Option Addr) (cb blk size : Nat) (W0 w : World) (hb : Below W0.heap.size W0 w) (hj : W0.cell? ⟨gj, 1, none⟩ = some (.slice ab blanks.length cb)) (hv : Blanks.V W0 ab blanks) (hl : blanks.length ≤ 30)
    (hsz : ∀ x ∈ blanks, (1 ≤ x.length ∧ x.length ≤ 600000) ∧ (1 ≤ x.width ∧ x.width ≤ 600000)) (hblk : W0.heap.size ≤ blk) :
    CmpLays1 Tryz.prog 77 #[.pointer (some ⟨gj, 0, none⟩)] (encI blanks.length) (cfI blanks) blk 0 size w := fun m os dk _ x y => by
 have hS : Below W0.heap.size W0 (Go.Proofs.sortWorld (encI blanks.length) w blk 0 m dk os) := below_sortW hb hblk hb.size
 exact (greedy1_any gj blanks ab cb x.1 y.1 _ (cell_keep hS hj) (hv.keep hS) hl x.2 y.2 hsz).mono fun e w' ⟨he, hb', hd⟩ => ⟨he, grow_of hb' hd⟩

set_option maxRecDepth 100000 in
set_option maxHeartbeats 400000 in
theorem sortBlanks_any (gj : Nat) (blanks : List Blank) [Inhabited (Ix blanks.length)] (ab : Option Addr) (cb blk cap : Nat) (d : Array (Ix blanks.length)) (W0 w : World) (hb : Below W0.heap.size W0 w) (hj : W0.cell? ⟨gj, 1, none⟩ = some (.slice ab blanks.length cb)) (hv : Blanks.V W0 ab blanks) (hl : blanks.length < 20)
    (hsz : ∀ x ∈ blanks, (1 ≤ x.length ∧ x.length ≤ 600000) ∧ (1 ≤ x.width ∧ x.width ≤ 600000)) (hblk : W0.heap.size ≤ blk) (hlt : blk < w.heap.size) (hH : Holds (encI blanks.length) w blk 0 d) (hd : d.size = blanks.length) :
    Calls Tryz.prog 76 #[.slice (some ⟨blk, 0, none⟩) d.size cap, .func (.func 77) #[] #[.pointer (some ⟨gj, 0, none⟩)]] w
     fun e w' => e = .returned (.tuple #[]) ∧ SW (encI blanks.length) w blk 0 (Sort.insertionSort (ltOf (cfI blanks)) d 0 d.size) w' := by
 have eg : ∀ args w, (callFunc 77 args).run Tryz.prog w = .ok (.enter 77 args) w := enters_of Tryz.func77 (by kernel_rfl) rfl
 have hS : SW (encI blanks.length) w blk 0 d w := SW.start hH
 have HC : Hid (Calls Tryz.prog 121 #[.slice (some ⟨blk, 0, none⟩) d.size cap, .int .i64 0, .int .i64 d.size, .func (.func 77) #[] #[.pointer (some ⟨gj, 0, none⟩)]] w fun e w' => e = .returned (.tuple #[]) ∧ SW (encI blanks.length) w blk 0 (Sort.insertionSort (ltOf (cfI blanks)) d 0 d.size) w') :=
  Lib.hid (Tryz.insertionSortCmpFunc_s (encI blanks.length) (cfI blanks) 77 #[.pointer (some ⟨gj, 0, none⟩)] blk 0 cap 0 d.size d d w w eg (cmpLaysB gj blanks ab cb blk d.size W0 w hb hj hv (by omega) hsz hblk) ⟨fun _ => rfl, hH, hlt⟩ rfl hS (Nat.zero_le _) (Nat.le_refl _) (by omega))
 have hn : (d.size : Int) < 20 := by omega
 clear hH hS hsz hv hj hd
 generalize SW (encI blanks.length) w blk 0 (Sort.insertionSort (ltOf (cfI blanks)) d 0 d.size) = S at *
 generalize d.size = n at *
 have HB : Calls Tryz.prog 103 #[.slice (some ⟨blk, 0, none⟩) n cap, .int .i64 n, .func (.func 77) #[] #[.pointer (some ⟨gj, 0, none⟩)]] w fun e w' => e = .returned (.tuple #[]) ∧ S w' := by
  go_enter Tryz.func103, Tryz.ntmps103
  go_wp2_with (first
   | (go_at_call 121; refine HC.out.mono ?_; rintro e w1 ⟨rfl, hs1⟩; have HS1 := Lib.hid hs1; clear hs1)
   | (with_reducible refine rounds_step ?_)
   | (with_reducible refine wp_loop_rounds 1 ?_))
  exact bodyPost_end (v := .tuple #[]) (by simp [results, Tryz.results103, go_sem]) rfl ⟨rfl, HS1.out⟩
 have HB := Lib.hid HB
 clear HC
 go_enter Tryz.func76, Tryz.ntmps76
 go_wp2_with (go_at_call 103; refine HB.out.mono ?_; rintro e w1 ⟨rfl, hs1⟩; have HS1 := Lib.hid hs1; clear hs1)
 exact bodyPost_end (v := .tuple #[]) (by simp [results, Tryz.results76, go_sem]) rfl ⟨rfl, HS1.out⟩
end Go.Proofs.YtjmgboipbhddlaaGreatDoor
set_option linter.unusedVariables false
set_option linter.unusedSimpArgs false
namespace Go.Proofs.YtjmgboipbhddlaaGreatDoor
open Go Go.RowKit Go.Sort Go.Lib

section
variable {blanks : List Blank}
theorem lt_earlier (x y : Ix blanks.length) : ltOf (cfI blanks) x y = earlierB (bl blanks x.1) (bl blanks y.1) := by
 have e : ∀ z : Ix blanks.length, bl blanks z.1 = blanks[z.1] := fun z => by
  unfold bl; rw [List.getD_eq_getElem?_getD, List.getElem?_eq_getElem z.2]; rfl
 unfold ltOf cfI
 rw [cmpB_lt, e, e]
variable [Inhabited (Ix blanks.length)]
theorem posL_ins (pre : List (Ix blanks.length)) (x : Ix blanks.length) : ∀ k, k ≤ pre.length → posL (ltOf (cfI blanks)) pre x k = insPos blanks (pre.map (·.1)) x.1 k
 | 0, _ => rfl
 | k + 1, h => by
  have e : (pre.map (·.1)).getD k 0 = (pre.getD k default).1 := by
   simp only [List.getD_eq_getElem?_getD]
   rw [List.getElem?_map, List.getElem?_eq_getElem (by omega : k < pre.length)]; rfl
  unfold posL insPos
  rw [lt_earlier, e, posL_ins pre x k (by omega)]
theorem insL_map (pre : List (Ix blanks.length)) (x : Ix blanks.length) : (insL (ltOf (cfI blanks)) pre x).map (·.1) = insOne blanks (pre.map (·.1)) x.1 := by
 unfold insL insOne
 rw [posL_ins pre x _ (Nat.le_refl _)]
 simp [List.map_take, List.map_drop]
theorem sortL_map : ∀ (r acc : List (Ix blanks.length)), (sortL (ltOf (cfI blanks)) r acc).map (·.1) = orderGo blanks (r.map (·.1)) (acc.map (·.1))
 | [], _ => rfl
 | x :: r, acc => by
  rw [sortL, sortL_map, insL_map]; rfl
theorem sortL_len {α : Type} [Inhabited α] (lt : α → α → Bool) : ∀ (r acc : List α), (sortL lt r acc).length = r.length + acc.length
 | [], _ => by simp [sortL]
 | x :: r, acc => by rw [sortL, sortL_len, insL_len]; simp; omega
end
def ixs (n : Nat) : List (Ix n) := (List.range n).pmap (fun i h => (⟨i, h⟩ : Ix n)) (fun i h => List.mem_range.1 h)
theorem ixs_val (n : Nat) : (ixs n).map (·.1) = List.range n := by
 unfold ixs
 rw [List.map_pmap, List.pmap_eq_map, List.map_id']
theorem ixs_len (n : Nat) : (ixs n).length = n := by simp [ixs]
theorem insertionSort_all {α : Type} [Inhabited α] (lt : α → α → Bool) (l : List α) (hne : l ≠ []) : Sort.insertionSort lt l.toArray 0 l.length = (sortL lt l []).toArray := by
 cases l with
 | nil => exact absurd rfl hne
 | cons x r => exact insertionSort_list lt x r
theorem sort_ixs {blanks : List Blank} [Inhabited (Ix blanks.length)] (hne : blanks ≠ []) :
    ((Sort.insertionSort (ltOf (cfI blanks)) (ixs blanks.length).toArray 0 blanks.length).toList.map (·.1)) = orderM blanks ∧ (Sort.insertionSort (ltOf (cfI blanks)) (ixs blanks.length).toArray 0 blanks.length).size = blanks.length := by
 have hl := ixs_len blanks.length
 have h := insertionSort_all (ltOf (cfI blanks)) (ixs blanks.length) (by
  intro e
  rw [e] at hl
  exact hne (List.length_eq_zero_iff.1 hl.symm))
 rw [hl] at h
 rw [h]
 constructor
 ·simp only [List.toList_toArray]
  rw [sortL_map, ixs_val]; rfl
 ·simp only [List.size_toArray]
  rw [sortL_len, hl]; simp

theorem sw_int {n : Nat} [Inhabited (Ix n)] {w w' : World} {blk : Nat} {dk : Array (Ix n)} (h : Go.Proofs.SW (encI n) w blk 0 dk w') : ∃ m os, w' = Go.Sort.grow (Go.Sort.putRow (Value.int .i64) (Go.Sort.ahead w m) blk 0 (dk.toList.map fun x => (x.1 : Int)).toArray) os := by
 obtain ⟨m, os, rfl⟩ := h
 refine ⟨m, os, ?_⟩
 unfold Go.Proofs.sortWorld Go.Sort.putRow
 congr 2
 funext c
 unfold Go.Sort.putCells
 congr 1
 funext k x
 have e : (dk.toList.map fun x => (x.1 : Int)).toArray.size = dk.size := by simp
 rw [e]
 split
 ·rename_i hk
  have h1 : k - 0 < dk.size := by omega
  rw [getElem!_pos dk _ h1, getElem!_pos _ _ (by rw [e]; exact h1)]
  simp [encI]
 ·rfl

theorem holds_ixs {n : Nat} [Inhabited (Ix n)] {w : World} {blk : Nat} (h : Go.Sort.Holds (Value.int .i64) w blk 0 ((List.range n).map fun i : Nat => (i : Int)).toArray) : Go.Sort.Holds (encI n) w blk 0 (ixs n).toArray := by
 intro j hj
 have hj' : j < n := by simpa [ixs_len] using hj
 obtain ⟨h1, h2⟩ := h j (by simpa using hj')
 refine ⟨?_, h2⟩
 rw [h1, getElem!_pos ((List.range n).map fun i : Nat => (i : Int)).toArray j (by simpa using hj'), getElem!_pos (ixs n).toArray j hj]
 simp [ixs, encI]

set_option maxRecDepth 100000 in
set_option maxHeartbeats 400000 in
theorem sortNone_any (f : FuncId) (caps : Array Value) (blk cap : Nat) (w : World) :
    Calls Tryz.prog 76 #[.slice (some ⟨blk, 0, none⟩) 0 cap, .func (.func f) #[] caps] w fun e w' => e = .returned (.tuple #[]) ∧ w = w' := by
 have HI : Hid (∀ w, Calls Tryz.prog 121 #[.slice (some ⟨blk, 0, none⟩) 0 cap, .int .i64 0, .int .i64 0, .func (.func f) #[] caps] w fun e w' => e = .returned (.tuple #[]) ∧ w = w') := Lib.hid (fun w => by
  go_enter Tryz.func121, Tryz.ntmps121
  go_wp2_with (first
   | (with_reducible refine rounds_step ?_)
   | (with_reducible refine wp_loop_rounds 1 ?_))
  exact bodyPost_end (v := .tuple #[]) (by simp [results, Tryz.results121, go_sem]) rfl ⟨rfl, rfl⟩)
 have HB : Hid (∀ w, Calls Tryz.prog 103 #[.slice (some ⟨blk, 0, none⟩) 0 cap, .int .i64 0, .func (.func f) #[] caps] w fun e w' => e = .returned (.tuple #[]) ∧ w = w') := Lib.hid (fun w => by
  go_enter Tryz.func103, Tryz.ntmps103
  go_wp2_with (first
   | (go_at_call 121; refine (HI.out _).mono ?_; rintro e w1 ⟨rfl, rfl⟩)
   | (with_reducible refine rounds_step ?_)
   | (with_reducible refine wp_loop_rounds 1 ?_))
  exact bodyPost_end (v := .tuple #[]) (by simp [results, Tryz.results103, go_sem]) rfl ⟨rfl, rfl⟩)
 clear HI
 go_enter Tryz.func76, Tryz.ntmps76
 go_wp2_with (go_at_call 103; refine (HB.out _).mono ?_; rintro e w1 ⟨rfl, rfl⟩)
 exact bodyPost_end (v := .tuple #[]) (by simp [results, Tryz.results76, go_sem]) rfl ⟨rfl, rfl⟩
theorem sortOrder_any (gj : Nat) (blanks : List Blank) (ab : Option Addr) (cb blk cap base : Nat) (W0 w : World) (hb : Below W0.heap.size W0 w) (hj : W0.cell? ⟨gj, 1, none⟩ = some (.slice ab blanks.length cb)) (hv : Blanks.V W0 ab blanks) (hl : blanks.length < 20)
    (hsz : ∀ x ∈ blanks, (1 ≤ x.length ∧ x.length ≤ 600000) ∧ (1 ≤ x.width ∧ x.width ≤ 600000)) (hblk : W0.heap.size ≤ blk)
    (hown : w.ownsRow base 3 1 (.slice (some ⟨blk, 0, none⟩) blanks.length cap) blanks.length (((List.range blanks.length).map fun i : Nat => (i : Int)).map (Value.int .i64))) :
    Calls Tryz.prog 76 #[.slice (some ⟨blk, 0, none⟩) blanks.length cap, .func (.func 77) #[] #[.pointer (some ⟨gj, 0, none⟩)]] w
     fun e w' => e = .returned (.tuple #[]) ∧ w'.ownsRow base 3 1 (.slice (some ⟨blk, 0, none⟩) blanks.length cap) blanks.length (((orderM blanks).map fun i : Nat => (i : Int)).map (Value.int .i64)) ∧ w.grownBy w' (some blk) := by
 by_cases hne : blanks = []
 ·subst hne
  refine (sortNone_any _ _ blk cap w).mono ?_
  rintro e w' ⟨he, rfl⟩
  exact ⟨he, hown, grownBy_below (Below.refl _ _) _⟩
 ·have hpos : 0 < blanks.length := by
    cases hbk : blanks with
    | nil => exact absurd hbk hne
    | cons _ _ => simp
  haveI : Inhabited (Ix blanks.length) := ⟨⟨0, hpos⟩⟩
  rcases hown.2 with ⟨h0, _⟩ | ⟨g', cap', cur, hv', hbase, hbk, h1, h2, h3, h4⟩
  ·cases h0
  ·injection hv' with hv1 _ hv2
   injection hv1 with hv1
   injection hv1 with hv1
   subst hv1 hv2
   have hgl : blk < w.heap.size := (Array.getElem?_eq_some_iff.1 hbk).1
   have hH0 : Holds (Value.int .i64) w blk 0 ((List.range blanks.length).map fun i : Nat => (i : Int)).toArray := holds_of_blockI hbk (by simpa using h4)
   have hsz0 : (ixs blanks.length).toArray.size = blanks.length := by simp [ixs_len]
   have hc := sortBlanks_any gj blanks ab cb blk cap (ixs blanks.length).toArray W0 w hb hj hv hl hsz hblk hgl (holds_ixs hH0) hsz0
   rw [hsz0] at hc
   refine hc.mono ?_
   rintro e w1 ⟨he, hs⟩
   refine ⟨he, ?_⟩
   obtain ⟨m, os, rfl⟩ := sw_int hs
   obtain ⟨e1, e2⟩ := sort_ixs hne
   have e3 : ((Sort.insertionSort (ltOf (cfI blanks)) (ixs blanks.length).toArray 0 blanks.length).toList.map fun x => (x.1 : Int)) = (orderM blanks).map fun i : Nat => (i : Int) := by
    rw [← e1, List.map_map]; rfl
   rw [e3]
   refine ⟨?_, grownBy_sortedI _⟩
   have := ownsRow_sortedI (n := m) (os := os) (ss := (List.range blanks.length).map fun i : Nat => (i : Int)) (ts := (orderM blanks).map fun i : Nat => (i : Int)) (by simp [orderM_len]) hbase hbk (by simpa using h1) h2 h3
   simpa using this
end Go.Proofs.YtjmgboipbhddlaaGreatDoor
set_option linter.unusedVariables false
set_option linter.unusedSimpArgs false
namespace Go.Proofs.YtjmgboipbhddlaaGreatDoor
open Go Go.RowKit

section
variable {w w1 : World} {base : Nat} {L L' : List Slot} {V V' : Nat → Value} {St St' : Addr → Value → Prop}
theorem app_get {L L' : List Slot} {j : Nat} {t : Slot} (hj : (L ++ L')[j]? = some t) : (j < L.length ∧ L[j]? = some t) ∨ (L.length ≤ j ∧ L'[j - L.length]? = some t) := by
 rcases Nat.lt_or_ge j L.length with h | h
 ·rw [List.getElem?_append_left h] at hj; exact .inl ⟨h, hj⟩
 ·rw [List.getElem?_append_right h] at hj; exact .inr ⟨h, hj⟩
def joinV (n : Nat) (V V' : Nat → Value) : Nat → Value := fun i => if i < n then V i else V' (i - n)
theorem joinV_l {n i : Nat} (h : i < n) : joinV n V V' i = V i := by unfold joinV; rw [if_pos h]
theorem joinV_r {n i : Nat} (h : n ≤ i) : joinV n V V' i = V' (i - n) := by unfold joinV; rw [if_neg (by omega)]
theorem Owned.join (h : Owned w base L V St) (hb : Below w.heap.size w w1) (h' : Owned w1 w.heap.size L' V' St') (hbase : base ≤ w.heap.size) (hst : ∀ a v, St' a v → w.heap.size ≤ a.block) :
    Owned w1 base (L ++ L') (joinV L.length V V') (fun a v => St a v ∨ St' a v) := by
 have hk := h.keep hb
 have hlo := h.bound
 have hhi : ∀ (i : Nat) (s : Slot), L'[i]? = some s → (∀ a, s.a = some a → w.heap.size ≤ a.block) ∧ ∀ g, (V' i).ownBlock = some g → w.heap.size ≤ g := fun i s hs => ⟨fun a ha => (h'.slot i s a hs ha).2.1, fun g hg => (h'.lt hs g hg).1⟩
 refine ⟨fun i s hs => ?_, fun i s a hs ha => ?_, fun i j s t a hi hj hij ha => ?_, fun i j s t g hi hj hij hg => ?_, fun i j s t a hi hj ha => ?_, fun a v hv => ?_⟩
 ·rcases app_get hs with ⟨h1, h2⟩ | ⟨h1, h2⟩
  ·rw [joinV_l h1]; exact hk.own i s h2
  ·rw [joinV_r h1]
   obtain ⟨n, hn⟩ := h'.own _ s h2
   exact ⟨n, own_mono hn hbase⟩
 ·rcases app_get hs with ⟨h1, h2⟩ | ⟨h1, h2⟩
  ·exact hk.slot i s a h2 ha
  ·obtain ⟨q1, q2, q3, q4⟩ := h'.slot _ s a h2 ha
   exact ⟨q1, Nat.le_trans hbase q2, q3, q4⟩
 ·rcases app_get hi with ⟨h1, h2⟩ | ⟨h1, h2⟩ <;> rcases app_get hj with ⟨k1, k2⟩ | ⟨k1, k2⟩
  ·exact h.slots i j s t a h2 k2 hij ha
  ·intro e
   have := (hlo i s h2).1 a ha
   have := (hhi _ t k2).1 a e
   omega
  ·intro e
   have := (hlo j t k2).1 a e
   have := (hhi _ s h2).1 a ha
   omega
  ·exact h'.slots _ _ s t a h2 k2 (by omega) ha
 ·rcases app_get hi with ⟨h1, h2⟩ | ⟨h1, h2⟩ <;> rcases app_get hj with ⟨k1, k2⟩ | ⟨k1, k2⟩
  ·rw [joinV_l h1] at hg
   rw [joinV_l k1]; exact h.rows i j s t g h2 k2 hij hg
  ·rw [joinV_l h1] at hg
   rw [joinV_r k1]
   intro e
   have := (hlo i s h2).2 g hg
   have := (hhi _ t k2).2 g e
   omega
  ·rw [joinV_r h1] at hg
   rw [joinV_l k1]
   intro e
   have := (hlo j t k2).2 g e
   have := (hhi _ s h2).2 g hg
   omega
  ·rw [joinV_r h1] at hg
   rw [joinV_r k1]; exact h'.rows _ _ s t g h2 k2 (by omega) hg
 ·rcases app_get hi with ⟨h1, h2⟩ | ⟨h1, h2⟩ <;> rcases app_get hj with ⟨k1, k2⟩ | ⟨k1, k2⟩
  ·rw [joinV_l h1]; exact h.off i j s t a h2 k2 ha
  ·rw [joinV_l h1]
   intro e
   have := (hlo i s h2).2 _ e
   have := (hhi _ t k2).1 a ha
   omega
  ·rw [joinV_r h1]
   intro e
   have := (hlo j t k2).1 a ha
   have := (hhi _ s h2).2 _ e
   omega
  ·rw [joinV_r h1]; exact h'.off _ _ s t a h2 k2 ha
 ·rcases hv with hv | hv
  ·obtain ⟨h1, h2, h3⟩ := hk.st a v hv
   have hlt := block_lt_of_cell (h.st a v hv).2.1
   refine ⟨h1, h2, fun i s hi => ?_⟩
   rcases app_get hi with ⟨k1, k2⟩ | ⟨k1, k2⟩
   ·rw [joinV_l k1]; exact h3 i s k2
   ·rw [joinV_r k1]
    refine ⟨fun e => ?_, fun e => ?_⟩
    ·have := (hhi _ s k2).1 a e; omega
    ·have := (hhi _ s k2).2 _ e; omega
  ·obtain ⟨h1, h2, h3⟩ := h'.st a v hv
   have hge := hst a v hv
   refine ⟨h1, h2, fun i s hi => ?_⟩
   rcases app_get hi with ⟨k1, k2⟩ | ⟨k1, k2⟩
   ·rw [joinV_l k1]
    refine ⟨fun e => ?_, fun e => ?_⟩
    ·have := (hlo i s k2).1 a e; omega
    ·have := (hlo i s k2).2 _ e; omega
   ·rw [joinV_r k1]; exact h3 _ s k2
theorem Owned.old (h : Owned w base L V St) (hn : ∀ a v, St' a v → a.spot = none ∧ a.block < base ∧ w.cell? a = some v) : Owned w base L V (fun a v => St a v ∨ St' a v) := by
 refine ⟨h.own, h.slot, h.slots, h.rows, h.off, fun a v hv => ?_⟩
 rcases hv with hv | hv
 ·exact h.st a v hv
 ·obtain ⟨h1, h2, h3⟩ := hn a v hv
  refine ⟨h1, h3, fun i s hs => ⟨fun e => ?_, fun e => ?_⟩⟩
  ·have := (h.slot i s a hs e).2.1; omega
  ·have := (h.lt hs _ e).1; omega
end

structure Held (w : World) (base : Nat) (s : Slot) (L : List Slot) (St : Addr → Value → Prop) (v : Value) : Prop where
 hand : s.a = none
 ex : ∃ V, Owned w base (s :: L) V St ∧ V 0 = v ∧ ∀ (i : Nat) (t : Slot) (a : Addr), (s :: L)[i]? = some t → t.a = some a → w.cell? a = some (V i)
section
variable {w w1 : World} {base : Nat} {s : Slot} {L L' : List Slot} {St St' : Addr → Value → Prop} {v : Value}
theorem Held.start (w : World) (base : Nat) (e : TypeId) (k : Nat) (St : Addr → Value → Prop) (hn : ∀ a v, St a v → a.spot = none ∧ a.block < base ∧ w.cell? a = some v) : Held w base ⟨none, e, k, []⟩ [] St (.slice none 0 0) := by
 have h := (Owned.nil w base (fun _ => .slice none 0 0)).slot_more (s := ⟨none, e, k, []⟩) (v := .slice none 0 0) (n := 0) (St' := fun _ _ => False) (Below.refl _ _) (World.ownsRow_nil _ _ _ _) (fun g hg => by cases hg) (fun a ha => by cases ha) (fun a u hu => hu.elim)
 have h2 := h.old (St' := St) hn
 refine ⟨rfl, _, h2.weak (fun a u hu => .inr hu), rfl, fun i t a hi ha => ?_⟩
 match i, hi with
 | 0, hi => injection hi with hi; subst hi; cases ha
theorem Held.keep (h : Held w base s L St v) (hb : Below w.heap.size w w1) : Held w1 base s L St v := by
 obtain ⟨hh, V, h1, h2, h3⟩ := h
 refine ⟨hh, V, h1.keep hb, h2, fun i t a hi ha => ?_⟩
 have := h3 i t a hi ha
 rw [hb.cell (block_lt_of_cell this)]; exact this
theorem Held.weak (h : Held w base s L St v) (hs : ∀ a v, St' a v → St a v) : Held w base s L St' v := by
 obtain ⟨hh, V, h1, h2, h3⟩ := h
 exact ⟨hh, V, h1.weak hs, h2, h3⟩
theorem Held.own (h : Held w base s L St v) : ∃ n, w.ownsRow base s.e s.k v n s.xs := by
 obtain ⟨hh, V, h1, h2, h3⟩ := h
 have := h1.own 0 s rfl
 rw [h2] at this; exact this
theorem Held.cell (h : Held w base s L St v) {a : Addr} {u : Value} (hs : St a u) : w.cell? a = some u := by
 obtain ⟨hh, V, h1, h2, h3⟩ := h
 exact (h1.st a u hs).2.1
theorem Held.join (h : Held w base s L St v) (hb : Below w.heap.size w w1) (h' : Desk w1 w.heap.size L' St') (hbase : base ≤ w.heap.size) (hst : ∀ a v, St' a v → w.heap.size ≤ a.block) :
    Held w1 base s (L ++ L') (fun a v => St a v ∨ St' a v) v := by
 obtain ⟨hh, V, h1, h2, h3⟩ := h
 obtain ⟨V', g1, g2⟩ := h'.ex
 refine ⟨hh, _, h1.join hb g1 hbase hst, by rw [joinV_l (by simp)]; exact h2, fun i t a hi ha => ?_⟩
 rcases app_get (L := s :: L) (L' := L') hi with ⟨k1, k2⟩ | ⟨k1, k2⟩
 ·rw [joinV_l k1]
  have := h3 i t a k2 ha
  rw [hb.cell (block_lt_of_cell this)]; exact this
 ·rw [joinV_r k1]; exact g2 _ t a k2 ha
theorem Held.append {v' : Value} {news : List Value} {m : Nat} (h : Held w base s L St v) (ho : w1.ownsRow base s.e s.k v' m (s.xs ++ news)) (hg : w.grownBy w1 v.ownBlock) (hv : v'.ownBlock = v.ownBlock ∨ v'.ownBlock = some w.heap.size) :
    Held w1 base { s with xs := s.xs ++ news } L St v' := by
 obtain ⟨hh, V, h1, h2, h3⟩ := h
 subst h2
 obtain ⟨q1, q2⟩ := h1.append (i := 0) (s := s) rfl ho hg hv
 refine ⟨hh, _, q1, upd_same _ _ _, fun i t a hi ha => ?_⟩
 match i, hi with
 | 0, hi =>
  simp only [List.set_cons_zero, List.getElem?_cons_zero, Option.some.injEq] at hi
  subst hi
  rw [hh] at ha; cases ha
 | i + 1, hi =>
  have hi' : (s :: L)[i + 1]? = some t := hi
  rw [upd_ne _ _ (by omega), q2 _ t a hi' ha]
  exact h3 _ t a hi' ha
theorem Held.drop (h : Held w base s L St v) : Desk w base L (fun a u => St a u ∨ ∃ g j, v.ownBlock = some g ∧ a = ⟨g, j, none⟩ ∧ s.xs[j]? = some u) := by
 obtain ⟨hh, V, h1, h2, h3⟩ := h
 refine ⟨fun i => V (i + 1), ⟨fun i t hi => h1.own (i + 1) t hi, fun i t a hi ha => h1.slot (i + 1) t a hi ha, fun i j t u a hi hj hij ha => h1.slots (i + 1) (j + 1) t u a hi hj (by omega) ha, fun i j t u g hi hj hij hg => h1.rows (i + 1) (j + 1) t u g hi hj (by omega) hg,
  fun i j t u a hi hj ha => h1.off (i + 1) (j + 1) t u a hi hj ha, fun a u hu => ?_⟩, fun i t a hi ha => h3 (i + 1) t a hi ha⟩
 rcases hu with hu | ⟨g, j, hg, rfl, hx⟩
 ·obtain ⟨q1, q2, q3⟩ := h1.st a u hu
  exact ⟨q1, q2, fun i t hi => q3 (i + 1) t hi⟩
 ·obtain ⟨n, hn⟩ := h1.own 0 s rfl
  rw [← h2] at hg
  have hc := hn.cells hg j u hx
  rw [addr_add, Nat.zero_add] at hc
  refine ⟨rfl, hc, fun i t hi => ⟨fun e => ?_, fun e => ?_⟩⟩
  ·exact h1.off 0 (i + 1) s t _ rfl hi e hg
  ·exact h1.rows 0 (i + 1) s t g rfl hi (by omega) hg e
theorem desk_fresh {x : Nat} {cs : List Value} (hx : base ≤ x) (h11 : w.cell? ⟨x, 11, none⟩ = some (.slice none 0 0)) (h12 : w.cell? ⟨x, 12, none⟩ = some (.slice none 0 0)) (f11 : w.frozen? ⟨x, 11, none⟩ = false) (f12 : w.frozen? ⟨x, 12, none⟩ = false)
    (hl : cs.length ≤ 11) (hcs : ∀ o u, cs[o]? = some u → w.cell? ⟨x, o, none⟩ = some u) : Desk w base [slotC ⟨x, 11, none⟩ [], slotR ⟨x, 12, none⟩ []] (newSt x cs) := by
 have g : ∀ {i : Nat} {t : Slot}, [slotC ⟨x, 11, none⟩ [], slotR ⟨x, 12, none⟩ []][i]? = some t → (i = 0 ∧ t = slotC ⟨x, 11, none⟩ []) ∨ (i = 1 ∧ t = slotR ⟨x, 12, none⟩ []) := by
  intro i t hi
  match i, hi with
  | 0, hi => injection hi with hi; exact .inl ⟨rfl, hi.symm⟩
  | 1, hi => injection hi with hi; exact .inr ⟨rfl, hi.symm⟩
 refine ⟨fun _ => .slice none 0 0, ⟨fun i t hi => ?_, fun i t a hi ha => ?_, fun i j t u a hi hj hij ha => ?_, fun i j t u q hi hj hij hg => (by cases hg), fun i j t u a hi hj ha e => (by cases e), fun a u hu => ?_⟩, fun i t a hi ha => ?_⟩
 ·rcases g hi with ⟨rfl, rfl⟩ | ⟨rfl, rfl⟩
  ·exact ⟨0, World.ownsRow_nil _ _ _ _⟩
  ·exact ⟨0, World.ownsRow_nil _ _ _ _⟩
 ·rcases g hi with ⟨rfl, rfl⟩ | ⟨rfl, rfl⟩ <;> (injection ha with ha; subst ha)
  ·exact ⟨rfl, hx, f11, by rw [h11]; rfl⟩
  ·exact ⟨rfl, hx, f12, by rw [h12]; rfl⟩
 ·rcases g hi with ⟨rfl, rfl⟩ | ⟨rfl, rfl⟩ <;> rcases g hj with ⟨rfl, rfl⟩ | ⟨rfl, rfl⟩ <;> (injection ha with ha; subst ha)
  ·exact absurd rfl hij
  ·intro e; injection e with e; injection e with _ e; cases e
  ·intro e; injection e with e; injection e with _ e; cases e
  ·exact absurd rfl hij
 ·obtain ⟨o, rfl, ho⟩ := hu
  have hol := (List.getElem?_eq_some_iff.1 ho).1
  refine ⟨rfl, hcs o u ho, fun i t hi => ⟨fun e => ?_, fun e => (by cases e)⟩⟩
  rcases g hi with ⟨rfl, rfl⟩ | ⟨rfl, rfl⟩ <;> (injection e with e; injection e with _ e; omega)
 ·rcases g hi with ⟨rfl, rfl⟩ | ⟨rfl, rfl⟩ <;> (injection ha with ha; subst ha)
  ·exact h11
  ·exact h12
theorem fresh_at (x : Nat) : AtB [slotC ⟨x, 11, none⟩ [], slotR ⟨x, 12, none⟩ []] 0 ⟨x, 11, none⟩ ⟨x, 12, none⟩ ⟨[], []⟩ := ⟨rfl, rfl⟩
end
end Go.Proofs.YtjmgboipbhddlaaGreatDoor
