/- slices.SortFunc at rows of planes and of points that the call itself owns. -/
import Derived.Test.YtgjmfdhgeahdcaaGreatQE
import Derived.Test.YtgjmfdhgeahdcaaGreatShelf2
import Derived.Test.YtgjmfdhgeahdcaaGreatShelf
import Derived.Test.YtgjmfdhgeahdcaaGreatQD
set_option linter.unusedVariables false
set_option linter.unusedSimpArgs false
namespace Go.Proofs.YtgjmfdhgeahdcaaGreat
open Go Go.RowKit Go.Sort Go.Lib

section
variable {α : Type} {enc : α → List Value} {k : Nat} [Inhabited α]
theorem holdsK_of_own {w : World} {base e n : Nat} {v : Value} {l : List α} (hk : ∀ x, (enc x).length = k) (h : w.ownsRow base e k v n (l.flatMap enc)) (hne : l ≠ []) (hk0 : 0 < k) :
    ∃ g cap, v = .slice (some ⟨g, 0, none⟩) n cap ∧ base ≤ g ∧ g < w.heap.size ∧ n = l.length ∧ Go.Sort.HoldsK enc k w g 0 l.toArray := by
 obtain ⟨g, cap, rfl, hb, hg, hn, _, _, hc⟩ := own_cells hk h hne hk0
 refine ⟨g, cap, rfl, hb, hg, hn, fun t ht => ?_⟩
 have ht' : t < l.length * k := by simpa using ht
 have h1 : t / k < l.length := Nat.div_lt_of_lt_mul (by rwa [Nat.mul_comm])
 have h2 : t % k < k := Nat.mod_lt _ hk0
 have e1 : t / k * k + t % k = t := by rw [Nat.mul_comm]; exact Nat.div_add_mod t k
 have := hc (t / k) h1 (t % k) h2
 rw [e1] at this
 rw [Go.Sort.get_flatK _ _ _ _ (by simpa using ht'), Nat.zero_add]
 refine ⟨?_, this.2⟩
 rw [this.1]
 simp [getElem!_pos, h1, hk, h2]
theorem flatK_toList (hk : ∀ x, (enc x).length = k) (hk0 : 0 < k) (d : Array α) : (Go.Sort.flatK enc k d).toList = d.toList.flatMap enc := by
 apply List.ext_getElem?
 intro t
 by_cases ht : t < d.size * k
 ·have h1 : t / k < d.toList.length := by simpa using Nat.div_lt_of_lt_mul (by rwa [Nat.mul_comm] at ht)
  have h2 : t % k < k := Nat.mod_lt _ hk0
  have e1 : t / k * k + t % k = t := by rw [Nat.mul_comm]; exact Nat.div_add_mod t k
  have e2 := flat_get hk h1 h2
  rw [e1] at e2
  rw [e2, Array.getElem?_toList, Array.getElem?_eq_getElem (by simpa using ht)]
  have e3 := Go.Sort.get_flatK enc k d t ht
  rw [getElem!_pos _ _ (by simpa using ht)] at e3
  rw [e3]
  have h1' : t / k < d.size := by simpa using h1
  simp [getElem!_pos, h1', hk, h2]
 ·rw [List.getElem?_eq_none (by simpa using ht), List.getElem?_eq_none (by rw [flat_len hk]; simpa using ht)]
theorem own_sorted {w : World} {base e n m g cap : Nat} {l : List α} {d : Array α} {os : Array Obj} (hk : ∀ x, (enc x).length = k) (hk0 : 0 < k) (h : w.ownsRow base e k (.slice (some ⟨g, 0, none⟩) n cap) n (l.flatMap enc)) (hd : d.size = n) :
    (Go.Proofs.sortWorldK enc k w g 0 m d os).ownsRow base e k (.slice (some ⟨g, 0, none⟩) n cap) n (d.toList.flatMap enc) := by
 refine ⟨by rw [flat_len hk]; simp [hd], ?_⟩
 rcases h.2 with ⟨e0, _⟩ | ⟨g', cap', cur, e0, hb, hg, hn, hm, hs, ht⟩
 ·cases e0
 ·injection e0 with e1 _ e3
  injection e1 with e1
  injection e1 with e1
  subst e1; subst e3
  have hlt : g < w.heap.size := (Array.getElem?_eq_some_iff.1 hg).1
  refine .inr ⟨g, cap, Go.Sort.putCells id 0 (Go.Sort.flatK enc k d) cur, rfl, hb, ?_, hn, hm, by simpa [Go.Sort.putCells] using hs, ?_⟩
  ·unfold Go.Proofs.sortWorldK Go.Sort.putRowK Go.Sort.putRow
   rw [Go.Sort.heap_grow_old _ _ (by simpa [Go.Sort.mapBlock, Go.Sort.ahead] using hlt)]
   simp [Go.Sort.mapBlock, Go.Sort.ahead, Array.getElem?_modify, hg, Go.Sort.onCells]
  ·rw [← flatK_toList hk hk0]
   have hnk : n * k ≤ cur.size := by rw [hs]; exact Nat.mul_le_mul_right _ hn
   apply List.ext_getElem?
   intro j
   rw [List.getElem?_take]
   by_cases hj : j < n * k
   ·have hjc : j < cur.size := by omega
    rw [if_pos hj, Array.getElem?_toList, Array.getElem?_toList, Array.getElem?_eq_getElem (show j < (Go.Sort.flatK enc k d).size by simp [hd]; exact hj)]
    simp only [Go.Sort.putCells, Array.getElem?_mapIdx, Array.getElem?_eq_getElem hjc, Option.map_some]
    rw [if_pos (by simp [hd]; exact hj)]
    simp [getElem!_pos, hd, hj]
   ·rw [if_neg hj, List.getElem?_eq_none (by simp [hd]; omega)]
theorem below_sorted {B : Nat} {w0 w : World} {g m : Nat} {d : Array α} {os : Array Obj} (h : Below B w0 w) (hg : B ≤ g) (hlt : g < w.heap.size) (hB : B ≤ w.heap.size) : Below B w0 (Go.Proofs.sortWorldK enc k w g 0 m d os) := by
 refine ⟨h.os, h.tape, h.output, ?_, fun j hj => ?_⟩
 ·have := h.size
  simp [Go.Proofs.sortWorldK, Go.Sort.putRowK, Go.Sort.putRow, Go.Sort.mapBlock, Go.Sort.ahead]; omega
 ·rw [← h.block j hj]
  unfold Go.Proofs.sortWorldK Go.Sort.putRowK Go.Sort.putRow
  rw [Go.Sort.heap_grow_old _ _ (by simp [Go.Sort.mapBlock, Go.Sort.ahead]; omega)]
  simp [Go.Sort.mapBlock, Go.Sort.ahead, Array.getElem?_modify, show g ≠ j by omega]
theorem grown_sorted {w : World} {g m : Nat} {d : Array α} {os : Array Obj} (hlt : g < w.heap.size) : w.grownBy (Go.Proofs.sortWorldK enc k w g 0 m d os) (some g) :=
 ⟨rfl, rfl, rfl, by simp [Go.Proofs.sortWorldK, Go.Sort.putRowK, Go.Sort.putRow, Go.Sort.mapBlock, Go.Sort.ahead], fun j hj hne => by
  unfold Go.Proofs.sortWorldK Go.Sort.putRowK Go.Sort.putRow
  rw [Go.Sort.heap_grow_old _ _ (by simp [Go.Sort.mapBlock, Go.Sort.ahead]; omega)]
  simp [Go.Sort.mapBlock, Go.Sort.ahead, Array.getElem?_modify, show g ≠ j from fun e => hne (by rw [e])]⟩
theorem perm_of_permIn {d d' : Array α} (h : Go.Sort.PermIn 0 d.size d d') : d'.size = d.size ∧ d'.toList.Perm d.toList := by
 obtain ⟨h1, _, h3⟩ := h
 refine ⟨h1, ?_⟩
 have e1 : d.extract 0 d.size = d := by simp
 have e2 : d'.extract 0 d.size = d' := by rw [← h1]; simp
 rw [e1, e2] at h3
 exact h3
theorem pairwise_of_sorted {lt : α → α → Bool} {d : Array α} {n : Nat} (hn : n = d.size) (h : Go.Sort.SortedIn lt 0 n d) : d.toList.Pairwise (fun x y => lt y x = false) := by
 rw [List.pairwise_iff_getElem]
 intro i j hi hj hij
 have hi' : i < d.size := by simpa using hi
 have hj' : j < d.size := by simpa using hj
 have := h i j (Nat.zero_le _) hij (by omega)
 rw [getElem!_pos d i hi', getElem!_pos d j hj'] at this
 simpa using this
end
theorem lift_sub {α : Type} {p : α → Prop} {l : List α} (h : ∀ x ∈ l, p x) : ∃ L : List {x // p x}, L.map (·.1) = l :=
 ⟨l.pmap Subtype.mk h, by rw [List.map_pmap]; simp⟩
theorem flat_sub {α : Type} {p : α → Prop} {enc : α → List Value} (L : List {x // p x}) : L.flatMap (fun x => enc x.1) = (L.map (·.1)).flatMap enc := by rw [List.flatMap_map]
theorem ltOf_iff {α : Type} (c : α → α → Int) (x y : α) : ltOf c x y = decide (c x y < 0) := by unfold ltOf; rfl
/-! Points. -/
abbrev BC : Type := {c : Co // c.in_ ∧ Low c}
instance : Inhabited BC := ⟨⟨⟨0, 0, 0, 1⟩, ⟨by unfold Co.in_ Vec.in_ vec; decide, ⟨by decide, by decide⟩⟩⟩⟩
def encBC (x : BC) : List Value := cellsCo x.1
def cmpBC (x y : BC) : Int := cmpP x.1 y.1
theorem ltBC (x y : BC) : ltOf cmpBC x y = ltPb x.1 y.1 := by
 rw [ltOf_iff]; unfold cmpBC ltPb; simp only [cmpP_neg]
theorem swoBC : Go.Sort.SWO (ltOf cmpBC) where
 irrefl x := by rw [ltBC]; exact ordP.irr _ x.2.2
 trans x y z h1 h2 := by rw [ltBC] at *; exact ordP.tr _ _ _ x.2.2 y.2.2 z.2.2 h1 h2
 ntrans x y z h1 h2 := by
  rw [ltBC] at *
  cases h : ltPb x.1 z.1 with
  | false => rfl
  | true =>
   rcases ordP.tot _ _ y.2.2 z.2.2 with h3 | h3 | h3
   ·rw [h3] at h2; cases h2
   ·rw [h3, h] at h1; cases h1
   ·have := ordP.tr _ _ _ x.2.2 z.2.2 y.2.2 h h3
    rw [h1] at this; cases this
theorem cmpLaysBC (blk off size : Nat) (w : World) : CmpLays Tryz.prog 65 #[] encBC 4 cmpBC blk off size w := fun _ _ _ _ x y => by
 refine (comparePoints_any x.1 y.1 x.2.1 y.2.1 _).mono ?_
 rintro e w' ⟨rfl, hb⟩
 exact ⟨rfl, hb.grow⟩
theorem sortCo_any (base : Nat) (v : Value) (n : Nat) (l : List Co) (w : World) (h : w.ownsRow base 48 4 v n (l.flatMap cellsCo)) (hb : ∀ c ∈ l, c.in_ ∧ Low c) (hne : l ≠ []) (hl : l.length ≤ 1000000) (hbase : base ≤ w.heap.size) :
    Calls Tryz.prog 64 #[v, .func (.func 65) #[] #[]] w fun e w' => e = .returned (.tuple #[]) ∧ ∃ r : List Co, r.Perm l ∧ r.Pairwise (fun x y => ltPb y x = false) ∧ w'.ownsRow base 48 4 v n (r.flatMap cellsCo) ∧ Below base w w' ∧ w.grownBy w' v.ownBlock := by
 have eg : ∀ args w, (callFunc 65 args).run Tryz.prog w = .ok (.enter 65 args) w := enters_of Tryz.func65 (by kernel_rfl) rfl
 obtain ⟨L, rfl⟩ := lift_sub hb
 have hL : L ≠ [] := by rintro rfl; simp at hne
 have h' : w.ownsRow base 48 4 v n (L.flatMap encBC) := by rw [show L.flatMap encBC = (L.map (·.1)).flatMap cellsCo from flat_sub L]; exact h
 obtain ⟨g, cap, rfl, hbg, hg, hnl, hH⟩ := holdsK_of_own (enc := encBC) (fun x => rfl) h' hL (by decide)
 have hcon := AnyQ.slices_SortFunc Tryz.sortCo 4 Tryz.isAgg48 Tryz.sizeOf48 encBC (fun _ => rfl) (fun x v hv => cellsCo_one x.1 v hv) cmpBC swoBC 65 #[] g 0 cap L.toArray w eg (cmpLaysBC g 0 L.toArray.size w) hH hg (by simp at hl ⊢; omega)
 have hnl' : L.toArray.size = n := by simp [hnl]
 rw [hnl'] at hcon
 refine hcon.mono fun e w' ⟨he, d', m, os, hp, hs, hw⟩ => ?_
 rw [← hnl'] at hp hs
 obtain ⟨hd, hperm⟩ := perm_of_permIn hp
 have hsrt := pairwise_of_sorted (by simpa using hd.symm) hs
 refine ⟨he, d'.toList.map (·.1), ?_, ?_, ?_, ?_, ?_⟩
 ·have := hperm.map (·.1); simpa using this
 ·rw [List.pairwise_map]
  exact hsrt.imp fun {x y} hxy => by rw [ltBC] at hxy; exact hxy
 ·rw [← flat_sub, hw]
  exact own_sorted (enc := encBC) (fun _ => rfl) (by decide) h' (by rw [hd, hnl'])
 ·rw [hw]
  exact below_sorted (Below.refl _ _) hbg hg hbase
 ·rw [hw]
  exact grown_sorted hg
/-! Planes. -/
theorem cmpL_neg (p q : Pl) : cmpL p q < 0 ↔ ltL p q = true := by
 rw [ltL_iff]
 unfold cmpL
 have z1 := cmpI_zero (x := p.a) (y := q.a)
 have z2 := cmpI_zero (x := p.b) (y := q.b)
 have z3 := cmpI_zero (x := p.c) (y := q.c)
 have z4 := cmpI_zero (x := p.d) (y := q.d)
 have n1 := cmpI_neg (x := p.a) (y := q.a)
 have n2 := cmpI_neg (x := p.b) (y := q.b)
 have n3 := cmpI_neg (x := p.c) (y := q.c)
 have n4 := cmpI_neg (x := p.d) (y := q.d)
 simp only [orL]
 generalize cmpI p.a q.a = a at *
 generalize cmpI p.b q.b = b at *
 generalize cmpI p.c q.c = c at *
 generalize cmpI p.d q.d = d at *
 split
 ·omega
 ·split
  ·omega
  ·split
   ·omega
   ·split <;> omega
theorem ltPl (x y : Pl) : ltOf cmpL x y = ltL x y := by
 rw [ltOf_iff]
 cases h : ltL x y with
 | true => rw [decide_eq_true_eq, cmpL_neg]; exact h
 | false => rw [decide_eq_false_iff_not, cmpL_neg, h]; simp
theorem swoPl : Go.Sort.SWO (ltOf cmpL) where
 irrefl x := by rw [ltPl]; exact ordL.irr _ trivial
 trans x y z h1 h2 := by rw [ltPl] at *; exact ordL.tr _ _ _ trivial trivial trivial h1 h2
 ntrans x y z h1 h2 := by
  rw [ltPl] at *
  cases h : ltL x z with
  | false => rfl
  | true =>
   rcases ordL.tot y z trivial trivial with h3 | h3 | h3
   ·rw [h3] at h2; cases h2
   ·rw [h3, h] at h1; cases h1
   ·have := ordL.tr x z y trivial trivial trivial h h3
    rw [h1] at this; cases this
theorem cmpLaysPl (blk off size : Nat) (w : World) : CmpLays Tryz.prog 70 #[] cellsPl 4 cmpL blk off size w := fun _ _ _ _ x y => by
 refine (comparePlanes_any x y _).mono ?_
 rintro e w' ⟨rfl, hb⟩
 exact ⟨rfl, hb.grow⟩
theorem sortPl_any (base : Nat) (v : Value) (n : Nat) (l : List Pl) (w : World) (h : w.ownsRow base 43 4 v n (l.flatMap cellsPl)) (hne : l ≠ []) (hl : l.length ≤ 1000000) (hbase : base ≤ w.heap.size) :
    Calls Tryz.prog 69 #[v, .func (.func 70) #[] #[]] w fun e w' => e = .returned (.tuple #[]) ∧ ∃ r : List Pl, r.Perm l ∧ r.Pairwise (fun x y => ltL y x = false) ∧ w'.ownsRow base 43 4 v n (r.flatMap cellsPl) ∧ Below base w w' ∧ w.grownBy w' v.ownBlock := by
 have eg : ∀ args w, (callFunc 70 args).run Tryz.prog w = .ok (.enter 70 args) w := enters_of Tryz.func70 (by kernel_rfl) rfl
 obtain ⟨g, cap, rfl, hbg, hg, hnl, hH⟩ := holdsK_of_own (enc := cellsPl) (fun x => rfl) h hne (by decide)
 have hcon := AnyQ.slices_SortFunc Tryz.sortPl 4 Tryz.isAgg43 Tryz.sizeOf43 cellsPl (fun _ => rfl) (fun x v hv => cellsPl_one x v hv) cmpL swoPl 70 #[] g 0 cap l.toArray w eg (cmpLaysPl g 0 l.toArray.size w) hH hg (by simp; omega)
 have hnl' : l.toArray.size = n := by simp [hnl]
 rw [hnl'] at hcon
 refine hcon.mono fun e w' ⟨he, d', m, os, hp, hs, hw⟩ => ?_
 rw [← hnl'] at hp hs
 obtain ⟨hd, hperm⟩ := perm_of_permIn hp
 have hsrt := pairwise_of_sorted (by simpa using hd.symm) hs
 refine ⟨he, d'.toList, by simpa using hperm, hsrt.imp fun {x y} hxy => by rw [ltPl] at hxy; exact hxy, ?_, ?_, ?_⟩
 ·rw [hw]
  exact own_sorted (enc := cellsPl) (fun _ => rfl) (by decide) h (by rw [hd, hnl'])
 ·rw [hw]
  exact below_sorted (Below.refl _ _) hbg hg hbase
 ·rw [hw]
  exact grown_sorted hg
/-! Sort and Compact. -/
theorem sort_comp_co {l r : List Co} (hl : ∀ c ∈ l, Low c) (hp : r.Perm l) (hs : r.Pairwise (fun x y => ltPb y x = false)) : dedup r = srt ltPb l := dedup_srt ordP hl hp hs
theorem sort_comp_pl {l r : List Pl} (hp : r.Perm l) (hs : r.Pairwise (fun x y => ltL y x = false)) : dedup r = srt ltL l := dedup_srt ordL (fun _ _ => trivial) hp hs
end Go.Proofs.YtgjmfdhgeahdcaaGreat
/- Sorting nothing; compacting one or none. -/
set_option linter.unusedVariables false
set_option linter.unusedSimpArgs false
namespace Go.Proofs.YtgjmfdhgeahdcaaGreat
open Go Go.RowKit Go.Sort Go.Lib

set_option maxHeartbeats 1000000 in
theorem insNoneCo (a : Option Addr) (c : Nat) (f : Value) (w : World) : Calls Tryz.prog 119 #[.slice a 0 c, .int .i64 0, .int .i64 0, f] w fun e w' => e = .returned (.tuple #[]) ∧ w' = w := by
 go_enter Tryz.func119, Tryz.ntmps119
 go_wp2_with fail
 go_loopw [8] (fun iv wr => iv = .int .i64 1 ∧ wr = w) (fun _ _ => 0)
 case atStart => exact ⟨rfl, rfl⟩
 case round =>
  obtain ⟨rfl, rfl⟩ := hrel
  go_wp2_with fail
  exact bodyPost_end (v := .tuple #[]) (by simp [results, Tryz.results119, go_sem]) rfl ⟨rfl, rfl⟩
set_option maxHeartbeats 1000000 in
theorem pdqNoneCo (a : Option Addr) (c : Nat) (l : Int) (f : Value) (w : World) : Calls Tryz.prog 88 #[.slice a 0 c, .int .i64 0, .int .i64 0, .int .i64 l, f] w fun e w' => e = .returned (.tuple #[]) ∧ w' = w := by
 go_enter Tryz.func88, Tryz.ntmps88
 go_wp2_with fail
 go_loopw [1, 2] (fun av bv wr => av = .int .i64 0 ∧ bv = .int .i64 0 ∧ wr = w) (fun _ _ _ => 0)
 case atStart => exact ⟨rfl, rfl, rfl⟩
 case round =>
  obtain ⟨rfl, rfl, rfl⟩ := hrel
  go_wp2_with (go_at_call 119; refine (insNoneCo _ _ _ _).mono ?_; rintro e w1 ⟨rfl, rfl⟩)
  exact bodyPost_ret (v := .tuple #[]) (by simp [results, Tryz.results88, go_sem]) rfl ⟨rfl, rfl⟩
set_option maxHeartbeats 1000000 in
theorem sortNoneCo (a : Option Addr) (c : Nat) (f : Value) (w : World) : Calls Tryz.prog 64 #[.slice a 0 c, f] w fun e w' => e = .returned (.tuple #[]) ∧ w' = w := by
 go_enter Tryz.func64, Tryz.ntmps64
 go_wp2_with (first
  | (go_at_call 76; refine (Tryz.bits_Len 0 _ (by decide) (by decide)).mono ?_; rintro e w1 ⟨rfl, rfl⟩)
  | (go_at_call 88; refine (pdqNoneCo _ _ _ _ _).mono ?_; rintro e w1 ⟨rfl, rfl⟩))
 exact bodyPost_end (v := .tuple #[]) (by simp [results, Tryz.results64, go_sem]) rfl ⟨rfl, rfl⟩
set_option maxHeartbeats 1000000 in
/-- Compact of a row of fewer than two: as it is. -/
theorem compFewCo (a : Option Addr) (n c : Nat) (hn : n < 2) (w : World) : Calls Tryz.prog 66 #[.slice a n c] w fun e w' => e = .returned (.slice a n c) ∧ w' = w := by
 have h2 : (n : Int) < 2 := by omega
 go_enter Tryz.func66, Tryz.ntmps66
 go_wp2_with fail
 go_ret
 exact ⟨rfl, rfl⟩
set_option maxHeartbeats 1000000 in
theorem insNonePl (a : Option Addr) (c : Nat) (f : Value) (w : World) : Calls Tryz.prog 128 #[.slice a 0 c, .int .i64 0, .int .i64 0, f] w fun e w' => e = .returned (.tuple #[]) ∧ w' = w := by
 go_enter Tryz.func128, Tryz.ntmps128
 go_wp2_with fail
 go_loopw [8] (fun iv wr => iv = .int .i64 1 ∧ wr = w) (fun _ _ => 0)
 case atStart => exact ⟨rfl, rfl⟩
 case round =>
  obtain ⟨rfl, rfl⟩ := hrel
  go_wp2_with fail
  exact bodyPost_end (v := .tuple #[]) (by simp [results, Tryz.results128, go_sem]) rfl ⟨rfl, rfl⟩
set_option maxHeartbeats 1000000 in
theorem pdqNonePl (a : Option Addr) (c : Nat) (l : Int) (f : Value) (w : World) : Calls Tryz.prog 91 #[.slice a 0 c, .int .i64 0, .int .i64 0, .int .i64 l, f] w fun e w' => e = .returned (.tuple #[]) ∧ w' = w := by
 go_enter Tryz.func91, Tryz.ntmps91
 go_wp2_with fail
 go_loopw [1, 2] (fun av bv wr => av = .int .i64 0 ∧ bv = .int .i64 0 ∧ wr = w) (fun _ _ _ => 0)
 case atStart => exact ⟨rfl, rfl, rfl⟩
 case round =>
  obtain ⟨rfl, rfl, rfl⟩ := hrel
  go_wp2_with (go_at_call 128; refine (insNonePl _ _ _ _).mono ?_; rintro e w1 ⟨rfl, rfl⟩)
  exact bodyPost_ret (v := .tuple #[]) (by simp [results, Tryz.results91, go_sem]) rfl ⟨rfl, rfl⟩
set_option maxHeartbeats 1000000 in
theorem sortNonePl (a : Option Addr) (c : Nat) (f : Value) (w : World) : Calls Tryz.prog 69 #[.slice a 0 c, f] w fun e w' => e = .returned (.tuple #[]) ∧ w' = w := by
 go_enter Tryz.func69, Tryz.ntmps69
 go_wp2_with (first
  | (go_at_call 76; refine (Tryz.bits_Len 0 _ (by decide) (by decide)).mono ?_; rintro e w1 ⟨rfl, rfl⟩)
  | (go_at_call 91; refine (pdqNonePl _ _ _ _ _).mono ?_; rintro e w1 ⟨rfl, rfl⟩))
 exact bodyPost_end (v := .tuple #[]) (by simp [results, Tryz.results69, go_sem]) rfl ⟨rfl, rfl⟩
set_option maxHeartbeats 1000000 in
/-- Compact of a row of fewer than two: as it is. -/
theorem compFewPl (a : Option Addr) (n c : Nat) (hn : n < 2) (w : World) : Calls Tryz.prog 71 #[.slice a n c] w fun e w' => e = .returned (.slice a n c) ∧ w' = w := by
 have h2 : (n : Int) < 2 := by omega
 go_enter Tryz.func71, Tryz.ntmps71
 go_wp2_with fail
 go_ret
 exact ⟨rfl, rfl⟩
set_option maxHeartbeats 1000000 in
theorem insNoneBx (a : Option Addr) (c : Nat) (f : Value) (w : World) : Calls Tryz.prog 106 #[.slice a 0 c, .int .i64 0, .int .i64 0, f] w fun e w' => e = .returned (.tuple #[]) ∧ w' = w := by
 go_enter Tryz.func106, Tryz.ntmps106
 go_wp2_with fail
 go_loopw [8] (fun iv wr => iv = .int .i64 1 ∧ wr = w) (fun _ _ => 0)
 case atStart => exact ⟨rfl, rfl⟩
 case round =>
  obtain ⟨rfl, rfl⟩ := hrel
  go_wp2_with fail
  exact bodyPost_end (v := .tuple #[]) (by simp [results, Tryz.results106, go_sem]) rfl ⟨rfl, rfl⟩
set_option maxHeartbeats 1000000 in
theorem pdqNoneBx (a : Option Addr) (c : Nat) (l : Int) (f : Value) (w : World) : Calls Tryz.prog 77 #[.slice a 0 c, .int .i64 0, .int .i64 0, .int .i64 l, f] w fun e w' => e = .returned (.tuple #[]) ∧ w' = w := by
 go_enter Tryz.func77, Tryz.ntmps77
 go_wp2_with fail
 go_loopw [1, 2] (fun av bv wr => av = .int .i64 0 ∧ bv = .int .i64 0 ∧ wr = w) (fun _ _ _ => 0)
 case atStart => exact ⟨rfl, rfl, rfl⟩
 case round =>
  obtain ⟨rfl, rfl, rfl⟩ := hrel
  go_wp2_with (go_at_call 106; refine (insNoneBx _ _ _ _).mono ?_; rintro e w1 ⟨rfl, rfl⟩)
  exact bodyPost_ret (v := .tuple #[]) (by simp [results, Tryz.results77, go_sem]) rfl ⟨rfl, rfl⟩
set_option maxHeartbeats 1000000 in
theorem sortNoneBx (a : Option Addr) (c : Nat) (f : Value) (w : World) : Calls Tryz.prog 46 #[.slice a 0 c, f] w fun e w' => e = .returned (.tuple #[]) ∧ w' = w := by
 go_enter Tryz.func46, Tryz.ntmps46
 go_wp2_with (first
  | (go_at_call 76; refine (Tryz.bits_Len 0 _ (by decide) (by decide)).mono ?_; rintro e w1 ⟨rfl, rfl⟩)
  | (go_at_call 77; refine (pdqNoneBx _ _ _ _ _).mono ?_; rintro e w1 ⟨rfl, rfl⟩))
 exact bodyPost_end (v := .tuple #[]) (by simp [results, Tryz.results46, go_sem]) rfl ⟨rfl, rfl⟩
theorem dedup_few {α : Type} [DecidableEq α] {l : List α} (h : l.length < 2) : dedup l = l := by
 match l, h with
 | [], _ => rfl
 | [x], _ => rfl
theorem sortAllCo (base : Nat) (v : Value) (n : Nat) (l : List Co) (w : World) (h : w.ownsRow base 48 4 v n (l.flatMap cellsCo)) (hb : ∀ c ∈ l, c.in_ ∧ Low c) (hl : l.length ≤ 1000000) (hbase : base ≤ w.heap.size) :
    Calls Tryz.prog 64 #[v, .func (.func 65) #[] #[]] w fun e w' => e = .returned (.tuple #[]) ∧ ∃ r : List Co, r.Perm l ∧ r.Pairwise (fun x y => ltPb y x = false) ∧ w'.ownsRow base 48 4 v n (r.flatMap cellsCo) ∧ w.grownBy w' v.ownBlock := by
 by_cases hne : l = []
 ·subst hne
  have hn := own_len cellsCo_len (by decide) h
  obtain ⟨a, c, rfl, _, _⟩ := own_slice h
  simp only [List.length_nil] at hn
  subst hn
  refine (sortNoneCo a c _ w).mono ?_
  rintro e w' ⟨rfl, rfl⟩
  exact ⟨rfl, [], List.Perm.refl _, List.Pairwise.nil, h, grown_refl _ _⟩
 ·refine (sortCo_any base v n l w h hb hne hl hbase).mono ?_
  rintro e w' ⟨rfl, r, h1, h2, h3, h4, h5⟩
  exact ⟨rfl, r, h1, h2, h3, h5⟩
theorem compAllCo (base : Nat) (v : Value) (n : Nat) (l : List Co) (w : World) (h : w.ownsRow base 48 4 v n (l.flatMap cellsCo)) (hl : l.length ≤ 1000000) :
    Calls Tryz.prog 66 #[v] w fun e w' => ∃ v', e = .returned v' ∧ w'.ownsRow base 48 4 v' (dedup l).length ((dedup l).flatMap cellsCo) ∧ v'.ownBlock = v.ownBlock ∧ w.grownBy w' v.ownBlock := by
 have hn := own_len cellsCo_len (by decide) h
 by_cases h2 : n < 2
 ·obtain ⟨a, c, rfl, _, _⟩ := own_slice h
  refine (compFewCo a n c h2 w).mono ?_
  rintro e w' ⟨rfl, rfl⟩
  have hd : dedup l = l := dedup_few (by omega)
  exact ⟨_, rfl, by rw [hd, ← hn]; exact h, rfl, grown_refl _ _⟩
 ·obtain ⟨g, cap, rfl, hbg, hg⟩ := own_some h (by omega)
  refine (compactCo_any base g n cap l w h hl (by omega)).mono ?_
  rintro e w' ⟨m, rfl, h3, h4⟩
  have hm := own_len cellsCo_len (by decide) h3
  subst hm
  exact ⟨_, rfl, h3, rfl, h4⟩
theorem sortAllPl (base : Nat) (v : Value) (n : Nat) (l : List Pl) (w : World) (h : w.ownsRow base 43 4 v n (l.flatMap cellsPl)) (hl : l.length ≤ 1000000) (hbase : base ≤ w.heap.size) :
    Calls Tryz.prog 69 #[v, .func (.func 70) #[] #[]] w fun e w' => e = .returned (.tuple #[]) ∧ ∃ r : List Pl, r.Perm l ∧ r.Pairwise (fun x y => ltL y x = false) ∧ w'.ownsRow base 43 4 v n (r.flatMap cellsPl) ∧ w.grownBy w' v.ownBlock := by
 by_cases hne : l = []
 ·subst hne
  have hn := own_len cellsPl_len (by decide) h
  obtain ⟨a, c, rfl, _, _⟩ := own_slice h
  simp only [List.length_nil] at hn
  subst hn
  refine (sortNonePl a c _ w).mono ?_
  rintro e w' ⟨rfl, rfl⟩
  exact ⟨rfl, [], List.Perm.refl _, List.Pairwise.nil, h, grown_refl _ _⟩
 ·refine (sortPl_any base v n l w h hne hl hbase).mono ?_
  rintro e w' ⟨rfl, r, h1, h2, h3, h4, h5⟩
  exact ⟨rfl, r, h1, h2, h3, h5⟩
theorem compAllPl (base : Nat) (v : Value) (n : Nat) (l : List Pl) (w : World) (h : w.ownsRow base 43 4 v n (l.flatMap cellsPl)) (hl : l.length ≤ 1000000) :
    Calls Tryz.prog 71 #[v] w fun e w' => ∃ v', e = .returned v' ∧ w'.ownsRow base 43 4 v' (dedup l).length ((dedup l).flatMap cellsPl) ∧ v'.ownBlock = v.ownBlock ∧ w.grownBy w' v.ownBlock := by
 have hn := own_len cellsPl_len (by decide) h
 by_cases h2 : n < 2
 ·obtain ⟨a, c, rfl, _, _⟩ := own_slice h
  refine (compFewPl a n c h2 w).mono ?_
  rintro e w' ⟨rfl, rfl⟩
  have hd : dedup l = l := dedup_few (by omega)
  exact ⟨_, rfl, by rw [hd, ← hn]; exact h, rfl, grown_refl _ _⟩
 ·obtain ⟨g, cap, rfl, hbg, hg⟩ := own_some h (by omega)
  refine (compactPl_any base g n cap l w h hl (by omega)).mono ?_
  rintro e w' ⟨m, rfl, h3, h4⟩
  have hm := own_len cellsPl_len (by decide) h3
  subst hm
  exact ⟨_, rfl, h3, rfl, h4⟩
end Go.Proofs.YtgjmfdhgeahdcaaGreat
/- A point added to a body, if it is beyond no plane. -/
set_option linter.unusedVariables false
set_option linter.unusedSimpArgs false
namespace Go.Proofs.YtgjmfdhgeahdcaaGreat
open Go Go.RowKit Go.Sort Go.Lib

def addL (ps : List Pl) (c : Co) (l : List Co) : List Co := if alw ps c = true then l ++ [c] else l
theorem addL_true {ps : List Pl} {c : Co} {l : List Co} (h : alw ps c = true) : addL ps c l = l ++ [c] := by unfold addL; rw [if_pos h]
theorem addL_false {ps : List Pl} {c : Co} {l : List Co} (h : alw ps c = false) : addL ps c l = l := by unfold addL; rw [h]; rfl
/-- A body under way: its planes and its corners so far, in the block gb. -/
structure AddSt (base gb : Nat) (pv : Value) (l : List Co) (w : World) (v : Value) : Prop where
 c0 : w.cell? ⟨gb, 0, none⟩ = some pv
 c1 : w.cell? ⟨gb, 1, none⟩ = some v
 f1 : w.frozen? ⟨gb, 1, none⟩ = false
 own : w.ownsRow base 48 4 v l.length (l.flatMap cellsCo)
 off : v.ownBlock ≠ some gb
 lt : base ≤ gb
/-- What lies elsewhere stays, and apart from the row. -/
def KeptBut (gb : Nat) (w w' : World) (v v' : Value) : Prop := ∀ (a : Addr) (u : Value), a.block ≠ gb → v.ownBlock ≠ some a.block → w.cell? a = some u → w'.cell? a = some u ∧ w'.frozen? a = w.frozen? a ∧ v'.ownBlock ≠ some a.block
theorem KeptBut.below {gb : Nat} {w w' : World} {v : Value} (h : Below w.heap.size w w') : KeptBut gb w w' v v := fun a u h1 h2 h3 => ⟨cell_keep h h3, h.frozen (block_lt_of_cell h3), h2⟩
theorem own_lt {w : World} {base e k n : Nat} {v : Value} {xs : List Value} (h : w.ownsRow base e k v n xs) {g : Nat} (hg : v.ownBlock = some g) : base ≤ g ∧ g < w.heap.size := h.lt g hg
theorem AddSt.keep {base gb : Nat} {pv : Value} {l : List Co} {w w' : World} {v : Value} (h : AddSt base gb pv l w v) (hb : Below w.heap.size w w') : AddSt base gb pv l w' v :=
 ⟨cell_keep hb h.c0, cell_keep hb h.c1, by rw [hb.frozen (block_lt_of_cell h.c1)]; exact h.f1, own_keep h.own hb, h.off, h.lt⟩
theorem any_alw (ps : List Pl) (c : Co) : (ps.any fun p => decide (0 < sd p c)) = !alw ps c := by
 unfold alw
 rw [List.not_all_eq_any_not]
 congr 1
 funext p
 rw [Bool.eq_iff_iff]; simp
/-- What is read while the corner is added. -/
structure AddK (gb gw : Nat) (v : Value) (c : Co) (W : World) : Prop where
 c1 : W.cell? ⟨gb, 1, none⟩ = some v
 b0 : W.cell? ⟨gw, 0, none⟩ = some (.int .i64 c.x)
 b1 : W.cell? ⟨gw, 1, none⟩ = some (.int .i64 c.y)
 b2 : W.cell? ⟨gw, 2, none⟩ = some (.int .i64 c.z)
 b3 : W.cell? ⟨gw, 3, none⟩ = some (.int .i64 c.n)
theorem AddK.keep {gb gw : Nat} {v : Value} {c : Co} {W W' : World} (h : AddK gb gw v c W) (hb : Below W.heap.size W W') : AddK gb gw v c W' :=
 ⟨cell_keep hb h.c1, cell_keep hb h.b0, cell_keep hb h.b1, cell_keep hb h.b2, cell_keep hb h.b3⟩
theorem grown_cell {W W' : World} {row : Option Nat} (h : W.grownBy W' row) {a : Addr} {u : Value} (hc : W.cell? a = some u) (hr : row ≠ some a.block) : W'.cell? a = some u := by
 exact h.cell hc (fun e => hr e.symm)
theorem grown_frozen {W W' : World} {row : Option Nat} (h : W.grownBy W' row) {a : Addr} {u : Value} (hc : W.cell? a = some u) (hr : row ≠ some a.block) : W'.frozen? a = W.frozen? a := by
 have := h.block a.block (block_lt_of_cell hc) (fun e => hr e.symm)
 unfold World.frozen?; rw [this]
theorem cell_set_other {w : World} {a b : Addr} {u : Value} (h : a.block ≠ b.block) : (w.setCell a u).cell? b = w.cell? b := by
 unfold World.cell? World.setCell
 simp only [Array.getElem?_modify, if_neg h]
theorem below_grown {B : Nat} {a b c : World} {row : Option Nat} (h : Below B a b) (hg : b.grownBy c row) (hB : B ≤ b.heap.size) (hr : ∀ k, row = some k → B ≤ k) : Below B a c := h.grown hg hB hr
theorem AddK.grown {gb gw : Nat} {v : Value} {c : Co} {W W' : World} {row : Option Nat} (h : AddK gb gw v c W) (hg : W.grownBy W' row) (h1 : row ≠ some gb) (h2 : row ≠ some gw) : AddK gb gw v c W' :=
 ⟨grown_cell hg h.c1 h1, grown_cell hg h.b0 h2, grown_cell hg h.b1 h2, grown_cell hg h.b2 h2, grown_cell hg h.b3 h2⟩
set_option maxRecDepth 100000 in
set_option maxHeartbeats 4000000 in
theorem add_any (base gb : Nat) (c : Co) (ps : List Pl) (pa : Option Addr) (pc : Nat) (v : Value) (l : List Co) (w : World) (hc : c.in_) (hps : Good ps) (hpl : ps.length ≤ 1000) (hv : Pls.V w pa ps) (hbase : base ≤ w.heap.size)
    (hs : AddSt base gb (.slice pa ps.length pc) l w v) (hl : l.length ≤ 100000) :
    Calls Tryz.prog 62 #[.pointer (some ⟨gb, 0, none⟩), .agg #[.int .i64 c.x, .int .i64 c.y, .int .i64 c.z, .int .i64 c.n]] w fun e w' => e = .returned (.tuple #[]) ∧ ∃ v', AddSt base gb (.slice pa ps.length pc) (addL ps c l) w' v' ∧ Below base w w' ∧ KeptBut gb w w' v v' := by
 obtain ⟨i0, hi0, hz0, hz1, hz2⟩ := info_parts infoCo
 have hgl := block_lt_of_cell hs.c0
 simp only at hgl
 have HS := Lib.hid hs
 have hany := any_alw ps c
 have hmix : Tryz.prog.follows .mixedOrders = true := by kernel_rfl
 have c0 := hs.c0
 have HANY := Lib.hid hany
 clear hany hs
 go_enter Tryz.func62, Tryz.ntmps62
 cases hal : alw ps c with
 | false =>
  have HADD := Lib.hid (addL_false (l := l) hal)
  rw [HADD.out]
  go_wp2_with (go_at_call 85; refine (has_add1 (fun p => decide (0 < sd p c)) pa ps pc (.pointer (some ⟨w.heap.size, 0, none⟩)) _ (hv.keep ((Below.refl _ _).alloc (Nat.le_refl _) _)) (by omega) (fun x hx w1 hb1 => add1_any x c (hps x hx).1 hc _ w1 (cell_keep hb1 (by simp [go_sem])) (cell_keep hb1 (by simp [go_sem])) (cell_keep hb1 (by simp [go_sem])) (cell_keep hb1 (by simp [go_sem])))).mono ?_; rw [HANY.out, hal]; rintro e w1 ⟨rfl, hb⟩; have HB1 := Lib.hid hb; clear hb)
  have HBW := Lib.hid (((Below.refl w.heap.size w).alloc (Nat.le_refl _) _).trans (HB1.out.mono (by simp)))
  refine bodyPost_end (v := .tuple #[]) ?_ ?_ ?_
  ·simp [results, Tryz.results62, go_sem]
  ·rfl
  exact ⟨rfl, v, HS.out.keep HBW.out, HBW.out.mono hbase, KeptBut.below HBW.out⟩
 | true =>
  have HADD := Lib.hid (addL_true (l := l) hal)
  rw [HADD.out]
  go_upto_region 2 with (go_at_call 85; refine (has_add1 (fun p => decide (0 < sd p c)) pa ps pc (.pointer (some ⟨w.heap.size, 0, none⟩)) _ (hv.keep ((Below.refl _ _).alloc (Nat.le_refl _) _)) (by omega) (fun x hx w1 hb1 => add1_any x c (hps x hx).1 hc _ w1 (cell_keep hb1 (by simp [go_sem])) (cell_keep hb1 (by simp [go_sem])) (cell_keep hb1 (by simp [go_sem])) (cell_keep hb1 (by simp [go_sem])))).mono ?_; rw [HANY.out, hal]; rintro e w1 ⟨rfl, hb⟩; have HB1 := Lib.hid hb; clear hb)
  have HBW := Lib.hid (((Below.refl w.heap.size w).alloc (Nat.le_refl _) _).trans (HB1.out.mono (by simp)))
  have HS1 := Lib.hid (HS.out.keep HBW.out)
  have HK1 := Lib.hid (show AddK gb w.heap.size v c w1 from ⟨HS1.out.c1, cell_keep HB1.out (by simp [go_sem]), cell_keep HB1.out (by simp [go_sem]), cell_keep HB1.out (by simp [go_sem]), cell_keep HB1.out (by simp [go_sem])⟩)
  have hwl : w.heap.size < w1.heap.size := by have := HB1.out.size; simp at this; omega
  have hgn : w.heap.size ≠ gb := by omega
  have hoffw : v.ownBlock ≠ some w.heap.size := fun e => by have := (own_lt HS.out.own e).2; omega
  obtain ⟨gw, hgw⟩ : ∃ g, g = w.heap.size := ⟨_, rfl⟩
  have HGW := Lib.hid hgw
  rw [← hgw] at HK1 hwl hgn hoffw
  rw [show w.heap.size = gw from hgw.symm]
  clear hgw
  have kx0 : ∀ y : KW (fun W' => AddK gb gw v c W'), (y.w.cell? ⟨gb, 1, none⟩ = some v ∧ y.w.cell? ⟨gw, 0, none⟩ = some (.int .i64 c.x) ∧ y.w.cell? ⟨gw, 1, none⟩ = some (.int .i64 c.y) ∧ y.w.cell? ⟨gw, 2, none⟩ = some (.int .i64 c.z) ∧ y.w.cell? ⟨gw, 3, none⟩ = some (.int .i64 c.n)) := fun y => ⟨y.ok.c1, y.ok.b0, y.ok.b1, y.ok.b2, y.ok.b3⟩
  haveI n1 : Nonempty (KW (fun W' => AddK gb gw v c W')) := ⟨⟨w1, HK1.out⟩⟩
  obtain ⟨sa, sc, rfl, hsc1, hsc2⟩ := own_slice HS.out.own
  refine wp_region_tree (fun w' => ∃ y : KW (fun W' => AddK gb gw (.slice sa l.length sc) c W'), w' = y.w) 8 (.take 0 (.take 1 (.take 2 (.take 3 (.take 4 (.take 5 (.one 6 (.one 7 .done)))))))) hmix (by kernel_rfl) (KW.mk' (HK1.out.keep (Below.refl _ _).drew)) ?_
  have HK2 := Lib.hid (HK1.out.keep (Below.refl _ _).drew)
  have HS2 := Lib.hid (HS1.out.keep (Below.refl _ _).drew)
  have HBW2 := Lib.hid (show Below w1.heap.size w1 w1.drew from (Below.refl _ _).drew)
  generalize w1.drew = w2 at *
  have hzz2 := HBW2.out.size
  repeat (refine wpTree_take ?_; simp only [nthOp]; (first | go_big_quiet_step (fail) | quiet_step (fail)); refine wpQuiet_nil ?_)
  refine wpTree_one ?_
  simp only [nthOp]
  go_wp2_with fail
  have HBW3 := Lib.hid (((Below.refl w2.heap.size w2).alloc (Nat.le_refl _) (.cells #[.int .i64 c.x, .int .i64 c.y, .int .i64 c.z, .int .i64 c.n] 48)))
  refine One_mk (KW.mk' (HK2.out.keep HBW3.out)) ?_
  refine wpTree_one ?_
  simp only [nthOp]
  have HO3 := Lib.hid (own_keep HS2.out.own HBW3.out)
  at_builtin
  refine wpList_append_here _ rfl _ _ 39 rfl base 48 i0 (.agg #[.int .i64 0, .int .i64 0, .int .i64 0, .int .i64 0]) 4 32 Tryz.underlying39 hi0 hz0 hz1 hz2 rfl (by decide) (.slice sa l.length sc) l.length (l.flatMap cellsCo) rfl HO3.out ⟨w2.heap.size, 0, none⟩ 1 1 (cellsCo c) rfl rfl (news_of (cellsCo c) _ _ _ rfl) (cellsCo_one c) (by decide) (by simp only [maxLen]; omega) (by omega) (by have := HBW.out.size; simp; omega) ?_
  intro v' w4 hown4 hgr4 hat4
  have hz3 : w2.heap.size < (w2.alloc (.cells #[.int .i64 c.x, .int .i64 c.y, .int .i64 c.z, .int .i64 c.n] 48)).heap.size := by simp
  have HSZ := Lib.hid (show w2.heap.size ≤ w4.heap.size by have := hgr4.size; omega)
  have h41 := grown_cell hgr4 (HS2.out.keep HBW3.out).c1 HS.out.off
  have h40 := grown_cell hgr4 (HS2.out.keep HBW3.out).c0 HS.out.off
  have h4f : w4.frozen? ⟨gb, 1, none⟩ = false := by rw [grown_frozen hgr4 (HS2.out.keep HBW3.out).c1 HS.out.off]; exact (HS2.out.keep HBW3.out).f1
  have hoff4 : v'.ownBlock ≠ some gb := by
   rcases hat4 with e | e
   ·rw [e]; exact HS.out.off
   ·rw [e]; intro h; injection h with h; have := block_lt_of_cell HS2.out.c0; simp at this h; omega
  have HAT := Lib.hid hat4
  have HG4 := Lib.hid hgr4
  have HO4 := Lib.hid hown4
  obtain ⟨va, vc, rfl, -, -⟩ := own_slice hown4
  have HKD := Lib.hid (AddK.grown (HK2.out.keep HBW3.out) hgr4 HS.out.off hoffw)
  clear hat4 hgr4 hown4 kx0
  go_wp2_with fail
  refine One_mk (KW.mk' HKD.out) ?_
  refine wpTree_done ?_
  simp only [List.drop_succ_cons, List.drop_zero]
  go_wp2_with fail
  refine NP_mk ?_
  go_wp2_with fail
  refine bodyPost_end (v := .tuple #[]) ?_ ?_ ?_
  ·simp [results, Tryz.results62, go_sem]
  ·rfl
  have hb4 : Below base w w4 := ((HBW.out.mono hbase).trans (HBW2.out.mono (by have := HBW.out.size; omega))).trans (below_grown (HBW3.out.mono (by have := HBW.out.size; omega)) HG4.out (by have := HBW.out.size; simp; omega) (fun k hk => (own_lt HO3.out hk).1))
  refine ⟨rfl, _, ⟨?_, cell_set_same (by rw [h41]; rfl), by rw [frozen_set]; exact h4f, ?_, hoff4, HS.out.lt⟩, hb4.setCell HS.out.lt _, fun a u h1 h2 h3 => ?_⟩
  ·rw [cell_set_ne (by simp) rfl rfl]; exact h40
  ·rw [List.length_append, List.flatMap_append]
   simp only [List.flatMap_cons, List.flatMap_nil, List.append_nil, List.length_cons, List.length_nil]
   exact HO4.out.kept (grownBy_set (w := w4) (a := ⟨gb, 1, none⟩)) (.inr hoff4)
  ·have h4 := cell_keep HBW3.out (cell_keep HBW2.out (cell_keep HBW.out h3))
   have hal := block_lt_of_cell (cell_keep HBW2.out (cell_keep HBW.out h3))
   refine ⟨?_, ?_, ?_⟩
   ·rw [cell_set_other (fun e => h1 e.symm)]
    exact grown_cell HG4.out h4 h2
   ·rw [frozen_set, grown_frozen HG4.out h4 h2, HBW3.out.frozen hal, HBW2.out.frozen (block_lt_of_cell (cell_keep HBW.out h3)), HBW.out.frozen (block_lt_of_cell h3)]
   ·rcases HAT.out with e | e
    ·rw [e]; exact h2
    ·rw [e]; intro h; injection h with h; omega
end Go.Proofs.YtgjmfdhgeahdcaaGreat
/- The corners of planes, as the program finds them. -/
set_option linter.unusedVariables false
set_option linter.unusedSimpArgs false
namespace Go.Proofs.YtgjmfdhgeahdcaaGreat
open Go Go.RowKit Go.Sort Go.Lib

theorem Vec_dec (q r : Vec) : decide (q = r) = (decide (q.x = r.x) && (decide (q.y = r.y) && decide (q.z = r.z))) := by
 obtain ⟨a, b, c⟩ := q
 obtain ⟨a', b', c'⟩ := r
 simp [Bool.eq_iff_iff]
theorem Vec_eql0 (q : Vec) (w : World) : (binOp .eql 56 (.agg #[.int .i64 q.x, .int .i64 q.y, .int .i64 q.z]) (.agg #[.int .i64 0, .int .i64 0, .int .i64 0])).run Tryz.prog w = .ok (.bool (decide (q = v0))) w := by
 rw [Vec_dec]
 obtain ⟨x, y, z⟩ := q
 rcases x with (_ | n) | n
 ·rcases y with (_ | n) | n
  ·rcases z with (_ | n) | n
   ·kernel_rfl
   ·kernel_rfl
   ·kernel_rfl
  ·kernel_rfl
  ·kernel_rfl
 ·kernel_rfl
 ·kernel_rfl
/-- What the walk keeps beside the body: the result's cells. -/
structure ResC (gr : Nat) (w : World) (v : Value) : Prop where
 r0 : ∃ u, w.cell? ⟨gr, 0, none⟩ = some u ∧ w.frozen? ⟨gr, 0, none⟩ = false
 r1 : ∃ u, w.cell? ⟨gr, 1, none⟩ = some u ∧ w.frozen? ⟨gr, 1, none⟩ = false
 off : v.ownBlock ≠ some gr
theorem ResC.keep {gr : Nat} {w w' : World} {v : Value} (h : ResC gr w v) (hb : Below w.heap.size w w') : ResC gr w' v := by
 obtain ⟨⟨u, h1, h2⟩, ⟨u', h3, h4⟩, h5⟩ := h
 exact ⟨⟨u, cell_keep hb h1, by rw [hb.frozen (block_lt_of_cell h1)]; exact h2⟩, ⟨u', cell_keep hb h3, by rw [hb.frozen (block_lt_of_cell h3)]; exact h4⟩, h5⟩
theorem ResC.but {gr gb : Nat} {w w' : World} {v v' : Value} (h : ResC gr w v) (hk : KeptBut gb w w' v v') (hg : gr ≠ gb) : ResC gr w' v' := by
 obtain ⟨⟨u, h1, h2⟩, ⟨u', h3, h4⟩, h5⟩ := h
 obtain ⟨a1, a2, a3⟩ := hk _ _ hg h5 h1
 obtain ⟨b1, b2, b3⟩ := hk _ _ hg h5 h3
 exact ⟨⟨u, a1, a2.trans h2⟩, ⟨u', b1, b2.trans h4⟩, a3⟩
/-- A plane in a box of its own. -/
structure PlBx (w : World) (g : Nat) (p : Pl) : Prop where
 a : w.cell? ⟨g, 0, none⟩ = some (.int .i64 p.a)
 b : w.cell? ⟨g, 1, none⟩ = some (.int .i64 p.b)
 c : w.cell? ⟨g, 2, none⟩ = some (.int .i64 p.c)
 d : w.cell? ⟨g, 3, none⟩ = some (.int .i64 p.d)
theorem PlBx.keep {w w' : World} {g : Nat} {p : Pl} (h : PlBx w g p) (hb : Below w.heap.size w w') : PlBx w' g p := ⟨cell_keep hb h.a, cell_keep hb h.b, cell_keep hb h.c, cell_keep hb h.d⟩
theorem PlBx.lt {w : World} {g : Nat} {p : Pl} (h : PlBx w g p) : g < w.heap.size := by have := block_lt_of_cell h.a; simpa using this
theorem PlBx.but {gb g : Nat} {w w' : World} {v v' : Value} {p : Pl} (h : PlBx w g p) (hk : KeptBut gb w w' v v') (hg : g ≠ gb) (hv : v.ownBlock ≠ some g) : PlBx w' g p ∧ v'.ownBlock ≠ some g :=
 ⟨⟨(hk _ _ hg hv h.a).1, (hk _ _ hg hv h.b).1, (hk _ _ hg hv h.c).1, (hk _ _ hg hv h.d).1⟩, (hk _ _ hg hv h.a).2.2⟩
/-- A vector in a box of its own. -/
structure VcBx (w : World) (g : Nat) (p : Vec) : Prop where
 a : w.cell? ⟨g, 0, none⟩ = some (.int .i64 p.x)
 b : w.cell? ⟨g, 1, none⟩ = some (.int .i64 p.y)
 c : w.cell? ⟨g, 2, none⟩ = some (.int .i64 p.z)
theorem VcBx.keep {w w' : World} {g : Nat} {p : Vec} (h : VcBx w g p) (hb : Below w.heap.size w w') : VcBx w' g p := ⟨cell_keep hb h.a, cell_keep hb h.b, cell_keep hb h.c⟩
theorem VcBx.lt {w : World} {g : Nat} {p : Vec} (h : VcBx w g p) : g < w.heap.size := by have := block_lt_of_cell h.a; simpa using this
theorem VcBx.but {gb g : Nat} {w w' : World} {v v' : Value} {p : Vec} (h : VcBx w g p) (hk : KeptBut gb w w' v v') (hg : g ≠ gb) (hv : v.ownBlock ≠ some g) : VcBx w' g p ∧ v'.ownBlock ≠ some g :=
 ⟨⟨(hk _ _ hg hv h.a).1, (hk _ _ hg hv h.b).1, (hk _ _ hg hv h.c).1⟩, (hk _ _ hg hv h.a).2.2⟩
/-- A new vector's box. -/
structure ZBx (w : World) (g : Nat) : Prop where
 a : w.cell? ⟨g, 0, none⟩ = some (.int .i64 0) ∧ w.frozen? ⟨g, 0, none⟩ = false
 b : w.cell? ⟨g, 1, none⟩ = some (.int .i64 0) ∧ w.frozen? ⟨g, 1, none⟩ = false
 c : w.cell? ⟨g, 2, none⟩ = some (.int .i64 0) ∧ w.frozen? ⟨g, 2, none⟩ = false
theorem ZBx.new (w : World) (T : TypeId) : ZBx (w.alloc (.cells #[.int .i64 0, .int .i64 0, .int .i64 0] T)) w.heap.size := ⟨⟨by simp [go_sem], by simp [go_sem]⟩, ⟨by simp [go_sem], by simp [go_sem]⟩, by simp [go_sem], by simp [go_sem]⟩
theorem ZBx.keep {w w' : World} {g : Nat} (h : ZBx w g) (hb : Below w.heap.size w w') : ZBx w' g :=
 ⟨⟨cell_keep hb h.a.1, by rw [hb.frozen (block_lt_of_cell h.a.1)]; exact h.a.2⟩, ⟨cell_keep hb h.b.1, by rw [hb.frozen (block_lt_of_cell h.b.1)]; exact h.b.2⟩, cell_keep hb h.c.1, by rw [hb.frozen (block_lt_of_cell h.c.1)]; exact h.c.2⟩
theorem ZBx.put {w : World} {g : Nat} (h : ZBx w g) (L : Vec) : VcBx (((w.setCell ⟨g, 0, none⟩ (.int .i64 L.x)).setCell ⟨g, 1, none⟩ (.int .i64 L.y)).setCell ⟨g, 2, none⟩ (.int .i64 L.z)) g L := by
 have s : ∀ {W : World} {a b : Addr} {u x : Value}, a ≠ b → a.spot = none → b.spot = none → W.cell? b = some x → (W.setCell a u).cell? b = some x := fun h1 h2 h3 h4 => by rw [cell_set_ne h1 h2 h3]; exact h4
 refine ⟨?_, ?_, ?_⟩
 ·exact s (by simp) rfl rfl (s (by simp) rfl rfl (cell_set_same (by rw [h.a.1]; rfl)))
 ·exact s (by simp) rfl rfl (cell_set_same (by rw [s (by simp) rfl rfl h.b.1]; rfl))
 ·exact cell_set_same (by rw [s (by simp) rfl rfl (s (by simp) rfl rfl h.c.1)]; rfl)
theorem rawR_zero {l : List Pl} {p q : Pl} (h : crs (nrm p) (nrm q) = v0) (k : Nat) : rawR l p q k = [] := by
 unfold rawR
 rw [List.flatMap_eq_nil_iff]
 intro r _
 unfold ptsR
 rw [if_neg]
 rintro ⟨h1, _⟩
 exact h1 (crs_zero_det r h)
/-- The body under way, with all that the walk keeps beside it. -/
structure Way (gr : Nat) (pv : Value) (w0 : World) (l : List Co) (w : World) (v : Value) : Prop where
 s : AddSt gr (gr + 1) pv l w v
 r : ResC gr w v
 b : Below gr w0 w
theorem Way.keep {gr : Nat} {pv : Value} {w0 : World} {l : List Co} {w w' : World} {v : Value} (h : Way gr pv w0 l w v) (hb : Below w.heap.size w w') : Way gr pv w0 l w' v :=
 ⟨h.s.keep hb, h.r.keep hb, h.b.trans (hb.mono (by have := block_lt_of_cell h.s.c0; simp at this; omega))⟩
theorem Way.lt {gr : Nat} {pv : Value} {w0 : World} {l : List Co} {w : World} {v : Value} (h : Way gr pv w0 l w v) : gr + 1 < w.heap.size := by have := block_lt_of_cell h.s.c0; simpa using this
theorem Way.fresh {gr : Nat} {pv : Value} {w0 : World} {l : List Co} {w : World} {v : Value} (h : Way gr pv w0 l w v) : v.ownBlock ≠ some w.heap.size := fun e => by have := (own_lt h.s.own e).2; omega
theorem ResC.grown {gr : Nat} {w w' : World} {v v' : Value} (h : ResC gr w v) (hg : w.grownBy w' v.ownBlock) (hv : v'.ownBlock = v.ownBlock) : ResC gr w' v' := by
 obtain ⟨⟨u, h1, h2⟩, ⟨u', h3, h4⟩, h5⟩ := h
 exact ⟨⟨u, grown_cell hg h1 h5, by rw [grown_frozen hg h1 h5]; exact h2⟩, ⟨u', grown_cell hg h3 h5, by rw [grown_frozen hg h3 h5]; exact h4⟩, by rw [hv]; exact h5⟩
theorem Way.grown {gr : Nat} {pv : Value} {w0 : World} {l l' : List Co} {w w' : World} {v : Value} (h : Way gr pv w0 l w v) (hg : w.grownBy w' v.ownBlock) (ho : w'.ownsRow gr 48 4 v l'.length (l'.flatMap cellsCo)) : Way gr pv w0 l' w' v :=
 ⟨⟨grown_cell hg h.s.c0 h.s.off, grown_cell hg h.s.c1 h.s.off, by rw [grown_frozen hg h.s.c1 h.s.off]; exact h.s.f1, ho, h.s.off, h.s.lt⟩, h.r.grown hg rfl, below_grown h.b hg (by have := h.lt; omega) fun k hk => (own_lt h.s.own hk).1⟩
theorem Way.put {gr : Nat} {pv : Value} {w0 : World} {l l' : List Co} {w w' : World} {v v' : Value} (h : Way gr pv w0 l w v) (hg : w.grownBy w' v.ownBlock) (hv : v'.ownBlock = v.ownBlock) (ho : w'.ownsRow gr 48 4 v' l'.length (l'.flatMap cellsCo)) : Way gr pv w0 l' (w'.setCell ⟨gr + 1, 1, none⟩ v') v' := by
 have h1 := grown_cell hg h.s.c1 h.s.off
 have h0 := grown_cell hg h.s.c0 h.s.off
 have hr := h.r.grown hg hv
 refine ⟨⟨by rw [cell_set_ne (by simp) rfl rfl]; exact h0, cell_set_same (by rw [h1]; rfl), by rw [frozen_set, grown_frozen hg h.s.c1 h.s.off]; exact h.s.f1, ho.kept (grownBy_set (w := w') (a := ⟨gr + 1, 1, none⟩)) (.inr (by rw [hv]; exact h.s.off)), by rw [hv]; exact h.s.off, h.s.lt⟩, ?_, (below_grown h.b hg (by have := h.lt; omega) fun k hk => (own_lt h.s.own hk).1).setCell (Nat.le_succ _) _⟩
 obtain ⟨⟨u, a1, a2⟩, ⟨u', a3, a4⟩, a5⟩ := hr
 exact ⟨⟨u, by rw [cell_set_other (by simp)]; exact a1, by rw [frozen_set]; exact a2⟩, ⟨u', by rw [cell_set_other (by simp)]; exact a3, by rw [frozen_set]; exact a4⟩, a5⟩
set_option maxRecDepth 100000 in
set_option maxHeartbeats 8000000 in
theorem bodyOf_any (ps : List Pl) (pa : Option Addr) (pc : Nat) (w : World) (hps : Good ps) (hpl : ps.length ≤ 40) (hv : Pls.V w pa ps) (hpc : ps.length ≤ pc) :
    Calls Tryz.prog 36 #[.slice pa ps.length pc] w fun e w' => ∃ ca cc, e = .returned (.agg #[.slice pa ps.length pc, .slice ca (corn ps).length cc]) ∧
     w'.ownsRow w.heap.size 48 4 (.slice ca (corn ps).length cc) (corn ps).length ((corn ps).flatMap cellsCo) ∧ Below w.heap.size w w' := by
 have hmix : Tryz.prog.follows .mixedOrders = true := by kernel_rfl
 have HG := Lib.hid hps
 go_enter Tryz.func36, Tryz.ntmps36
 go_upto_region 2 with fail
 refine gen_world (fun W => AddSt w.heap.size (w.heap.size + 1) (.slice pa ps.length pc) [] W (.slice none 0 0) ∧ ResC w.heap.size W (.slice none 0 0) ∧ Below w.heap.size w W) ⟨⟨by simp [go_sem], by simp [go_sem], by simp [go_sem], ⟨rfl, .inl ⟨rfl, rfl⟩⟩, by simp [Value.ownBlock], Nat.le_succ _⟩, ⟨⟨.slice none 0 0, by simp [go_sem], by simp [go_sem]⟩, ⟨.slice none 0 0, by simp [go_sem], by simp [go_sem]⟩, by simp [Value.ownBlock]⟩, by repeat (first | (with_reducible assumption) | exact Below.refl _ _ | (refine Below.setCell ?_ (by first | omega | (simp; omega) | (simp; done)) _) | (refine Below.alloc ?_ (by first | omega | (simp; omega) | (simp; done)) _) | (refine Below.drew ?_))⟩ ?_
 rintro W ⟨hs, hr, hb⟩
 obtain ⟨gr, hgr⟩ : ∃ g, g = w.heap.size := ⟨_, rfl⟩
 have HGR := Lib.hid hgr
 rw [← hgr] at hs hr hb
 rw [show w.heap.size = gr from hgr.symm]
 have HS0 := Lib.hid hs
 have HR0 := Lib.hid hr
 have HB0 := Lib.hid hb
 have HVG := Lib.hid hv
 have HVK : Hid (∀ W', Below gr w W' → Pls.V W' pa ps) := Lib.hid fun W' h => hv.keep (by rw [← hgr]; exact h)
 clear hs hr hb hps hv hgr
 go_wp2_with fail
 go_loopw [16] (fun iv wr => ∃ (i : Nat) (v : Value), i ≤ ps.length ∧ iv = .int .i64 (i : Int) ∧ Way gr (.slice pa ps.length pc) w (rawI ps i) wr v) (fun iv _ => ps.length - (intOf iv).toNat)
 case atStart => exact ⟨0, _, Nat.zero_le _, rfl, ⟨HS0.out, HR0.out, HB0.out⟩⟩
 case round =>
  obtain ⟨i, v, hi, rfl, hw⟩ := hrel
  have HW1 := Lib.hid hw
  have HB1 := Lib.hid hw.b
  clear hw
  have hz1 := HB1.out.size
  by_cases hlt : i < ps.length
  ·have hki : (i : Int) < (ps.length : Int) := by omega
   obtain ⟨b, off, ha, hat⟩ := (HVK.out wr HB1.out).at_ hlt
   have HGD := Lib.hid (getD_at hlt)
   have HPI := Lib.hid (HG.out _ (List.getElem_mem hlt)).1
   obtain ⟨c0, c1, c2, c3, -⟩ := hat
   have HRS := Lib.hid (rawI_succ ps i)
   rw [HGD.out] at HRS
   generalize ps[i] = p at *
   subst ha
   go_upto_region 5 with fail
   refine gen_world (fun W2 => Way gr (.slice (some ⟨b, off, none⟩) ps.length pc) w (rawI ps i) W2 v ∧ PlBx W2 wr.heap.size p ∧ v.ownBlock ≠ some wr.heap.size ∧ gr + 1 < wr.heap.size) ⟨HW1.out.keep ((Below.refl _ _).alloc (Nat.le_refl _) _), ⟨by simp [go_sem], by simp [go_sem], by simp [go_sem], by simp [go_sem]⟩, HW1.out.fresh, HW1.out.lt⟩ ?_
   rintro W2 ⟨hw2, hp2, hf2, hg2⟩
   generalize wr.heap.size = g5 at *
   have HW2 := Lib.hid hw2
   have HP2 := Lib.hid hp2
   have HF2 := Lib.hid hf2
   have HG2 := Lib.hid hg2
   clear hw2 hp2 hf2 hg2 c0 c1 c2 c3
   go_wp2_with fail
   go_loopw [25] (fun kv wr => ∃ (k : Nat) (v : Value), k ≤ i ∧ kv = .int .i64 (k : Int) ∧ Way gr (.slice (some ⟨b, off, none⟩) ps.length pc) w (rawI ps i ++ rawK ps p k) wr v ∧ PlBx wr g5 p ∧ Hid (v.ownBlock ≠ some g5)) (fun kv _ => i - (intOf kv).toNat)
   case atStart => exact ⟨0, _, Nat.zero_le _, rfl, by simpa [rawK] using HW2.out, HP2.out, HF2⟩
   case round =>
    obtain ⟨k, v, hk, rfl, hw, hp, HF⟩ := hrel
    have HW3 := Lib.hid hw
    have HP3 := Lib.hid hp
    have HB3 := Lib.hid hw.b
    clear hw
    by_cases hlt2 : k < i
    ·have hki2 : (k : Int) < (i : Int) := by omega
     have hkl : k < ps.length := by omega
     obtain ⟨b', off', ha, hat⟩ := (HVK.out wr HB3.out).at_ hkl
     obtain ⟨rfl, rfl⟩ : b = b' ∧ off = off' := by injection ha with h; injection h with h1 h2; exact ⟨h1, h2⟩
     clear ha
     have HGD2 := Lib.hid (getD_at hkl)
     have HQI := Lib.hid (HG.out _ (List.getElem_mem hkl)).1
     obtain ⟨c0, c1, c2, c3, -⟩ := hat
     have HRS2 := Lib.hid (rawK_succ ps p k)
     rw [HGD2.out] at HRS2
     generalize ps[k] = q at *
     go_upto_region 8 with fail
     refine gen_world (fun W3 => Way gr (.slice (some ⟨b, off, none⟩) ps.length pc) w (rawI ps i ++ rawK ps p k) W3 v ∧ PlBx W3 g5 p ∧ PlBx W3 wr.heap.size q ∧ v.ownBlock ≠ some wr.heap.size ∧ gr + 1 < wr.heap.size) ⟨HW3.out.keep ((Below.refl _ _).alloc (Nat.le_refl _) _), hp.keep ((Below.refl _ _).alloc (Nat.le_refl _) _), ⟨by simp [go_sem], by simp [go_sem], by simp [go_sem], by simp [go_sem]⟩, HW3.out.fresh, HW3.out.lt⟩ ?_
     rintro W3 ⟨hw4, hp4, hq4, hf4, hg4⟩
     generalize wr.heap.size = g7 at *
     have HW4 := Lib.hid hw4
     have HP4 := Lib.hid hp4
     have HQ4 := Lib.hid hq4
     have HF4 := Lib.hid hf4
     have HG4 := Lib.hid hg4
     obtain ⟨pc0, pc1, pc2, pc3⟩ := hp4
     obtain ⟨qc0, qc1, qc2, qc3⟩ := hq4
     have hz5 := HP4.out.lt
     have hz7 := HQ4.out.lt
     have HCR := Lib.hid (cross_any (nrm p) (nrm q) (Vec.in_.mono HPI.out.1 (by decide)) (Vec.in_.mono HQI.out.1 (by decide)))
     obtain ⟨L, hL⟩ : ∃ L, L = crs (nrm p) (nrm q) := ⟨_, rfl⟩
     have HLV := Lib.hid hL
     rw [← hL] at HCR
     clear hL
     clear hw4 hf4 hg4 c0 c1 c2 c3 hp
     refine wp_cut_slots [30, 31, 32, 33, 34, 8] (fun u W5 => ∃ g8, u 8 = .pointer (some ⟨g8, 0, none⟩) ∧ W3.heap.size ≤ g8 ∧ VcBx W5 g8 L ∧ Below W3.heap.size W3 W5) ?_ ?_
     ·have kx0 : ∀ y : KW (fun W' => Below W3.heap.size W3 W'), (y.w.cell? ⟨g5, 0, none⟩ = some (.int .i64 p.a) ∧ y.w.cell? ⟨g5, 1, none⟩ = some (.int .i64 p.b) ∧ y.w.cell? ⟨g5, 2, none⟩ = some (.int .i64 p.c) ∧ y.w.cell? ⟨g5, 3, none⟩ = some (.int .i64 p.d)) := fun y => ⟨cell_keep y.ok HP4.out.a, cell_keep y.ok HP4.out.b, cell_keep y.ok HP4.out.c, cell_keep y.ok HP4.out.d⟩
      have kx1 : ∀ y : KW (fun W' => Below W3.heap.size W3 W'), (y.w.cell? ⟨g7, 0, none⟩ = some (.int .i64 q.a) ∧ y.w.cell? ⟨g7, 1, none⟩ = some (.int .i64 q.b) ∧ y.w.cell? ⟨g7, 2, none⟩ = some (.int .i64 q.c) ∧ y.w.cell? ⟨g7, 3, none⟩ = some (.int .i64 q.d)) := fun y => ⟨cell_keep y.ok HQ4.out.a, cell_keep y.ok HQ4.out.b, cell_keep y.ok HQ4.out.c, cell_keep y.ok HQ4.out.d⟩
      haveI n1 : Nonempty (KW (fun W' => Below W3.heap.size W3 W')) := ⟨⟨W3, Below.refl _ _⟩⟩
      refine wp_region_tree (fun w' => ∃ y : KW (fun W' => Below W3.heap.size W3 W'), w' = y.w) 6 (.take 0 (.take 2 (.two 1 (.two 3 (.two 4 (.one 5 .done) 5 (.one 4 .done)) 5 (.one 3 (.one 4 .done))) 5 (.one 1 (.one 3 (.one 4 .done)))))) hmix (by kernel_rfl) (KW.mk' (Below.refl _ _).drew) ?_
      have HC0 := Lib.hid (show Below W3.heap.size W3 W3.drew from (Below.refl _ _).drew)
      generalize W3.drew = ww0 at *
      (refine wpTree_take ?_; simp only [nthOp]; (first | go_big_quiet_step (fail) | quiet_step (fail)); refine wpQuiet_nil ?_)
      (refine wpTree_take ?_; simp only [nthOp]; (first | go_big_quiet_step (fail) | quiet_step (fail)); refine wpQuiet_nil ?_)
      refine wpTree_two ?_ ?_
      ·simp only [nthOp]
       go_wp2_with (go_at_call 43; refine (normal_any p _).mono ?_; rintro e ww1 ⟨rfl, hb⟩; have HB1 := Lib.hid hb; clear hb)
       have HC1 := Lib.hid (HC0.out.trans (HB1.out.mono HC0.out.size))
       refine One_mk (KW.mk' HC1.out) ?_
       refine wpTree_two ?_ ?_
       ·simp only [nthOp]
        go_wp2_with (go_at_call 43; refine (normal_any q _).mono ?_; rintro e ww2 ⟨rfl, hb⟩; have HB2 := Lib.hid hb; clear hb)
        have HC2 := Lib.hid (HC1.out.trans (HB2.out.mono HC1.out.size))
        refine One_mk (KW.mk' HC2.out) ?_
        refine wpTree_two ?_ ?_
        ·simp only [nthOp]
         go_wp2_with (go_at_call 60; refine (HCR.out _).mono ?_; rintro e ww3 ⟨rfl, hb⟩; have HB3 := Lib.hid hb; clear hb)
         have HC3 := Lib.hid (HC2.out.trans (HB3.out.mono HC2.out.size))
         refine One_mk (KW.mk' HC3.out) ?_
         refine wpTree_one ?_
         simp only [nthOp]
         go_wp2_with fail
         have HC4 := Lib.hid (HC3.out.alloc HC3.out.size (.cells #[.int .i64 0, .int .i64 0, .int .i64 0] 56))
         have HZ4 := Lib.hid (ZBx.new ww3 56)
         have HG4 := Lib.hid HC3.out.size
         refine One_mk (KW.mk' HC4.out) ?_
         generalize (ww3.alloc (.cells #[.int .i64 0, .int .i64 0, .int .i64 0] 56)) = ww4 at *
         generalize ww3.heap.size = g8 at *
         obtain ⟨⟨z0, f0⟩, ⟨z1, f1⟩, z2, f2⟩ := HZ4.out
         refine wpTree_done ?_
         simp only [List.drop_succ_cons, List.drop_zero]
         go_wp2_with fail
         refine NP_mk ?_
         exact cut_meet (by simp [forget]) ⟨_, rfl, HG4.out, ZBx.put HZ4.out L, ((HC4.out.setCell HG4.out _).setCell HG4.out _).setCell HG4.out _⟩
        ·simp only [nthOp]
         go_wp2_with fail
         have HC5 := Lib.hid (HC2.out.alloc HC2.out.size (.cells #[.int .i64 0, .int .i64 0, .int .i64 0] 56))
         have HZ5 := Lib.hid (ZBx.new ww2 56)
         have HG5 := Lib.hid HC2.out.size
         refine One_mk (KW.mk' HC5.out) ?_
         generalize (ww2.alloc (.cells #[.int .i64 0, .int .i64 0, .int .i64 0] 56)) = ww5 at *
         generalize ww2.heap.size = g8 at *
         refine wpTree_one ?_
         simp only [nthOp]
         go_wp2_with (go_at_call 60; refine (HCR.out _).mono ?_; rintro e ww6 ⟨rfl, hb⟩; have HB6 := Lib.hid hb; clear hb)
         have HC6 := Lib.hid (HC5.out.trans (HB6.out.mono HC5.out.size))
         have HZ6 := Lib.hid (HZ5.out.keep HB6.out)
         refine One_mk (KW.mk' HC6.out) ?_
         obtain ⟨⟨z0, f0⟩, ⟨z1, f1⟩, z2, f2⟩ := HZ6.out
         refine wpTree_done ?_
         simp only [List.drop_succ_cons, List.drop_zero]
         go_wp2_with fail
         refine NP_mk ?_
         exact cut_meet (by simp [forget]) ⟨_, rfl, HG5.out, ZBx.put HZ6.out L, ((HC6.out.setCell HG5.out _).setCell HG5.out _).setCell HG5.out _⟩
       ·simp only [nthOp]
        go_wp2_with fail
        have HC7 := Lib.hid (HC1.out.alloc HC1.out.size (.cells #[.int .i64 0, .int .i64 0, .int .i64 0] 56))
        have HZ7 := Lib.hid (ZBx.new ww1 56)
        have HG7 := Lib.hid HC1.out.size
        refine One_mk (KW.mk' HC7.out) ?_
        generalize (ww1.alloc (.cells #[.int .i64 0, .int .i64 0, .int .i64 0] 56)) = ww7 at *
        generalize ww1.heap.size = g8 at *
        refine wpTree_one ?_
        simp only [nthOp]
        go_wp2_with (go_at_call 43; refine (normal_any q _).mono ?_; rintro e ww8 ⟨rfl, hb⟩; have HB8 := Lib.hid hb; clear hb)
        have HC8 := Lib.hid (HC7.out.trans (HB8.out.mono HC7.out.size))
        have HZ8 := Lib.hid (HZ7.out.keep HB8.out)
        refine One_mk (KW.mk' HC8.out) ?_
        refine wpTree_one ?_
        simp only [nthOp]
        go_wp2_with (go_at_call 60; refine (HCR.out _).mono ?_; rintro e ww9 ⟨rfl, hb⟩; have HB9 := Lib.hid hb; clear hb)
        have HC9 := Lib.hid (HC8.out.trans (HB9.out.mono HC8.out.size))
        have HZ9 := Lib.hid (HZ8.out.keep HB9.out)
        refine One_mk (KW.mk' HC9.out) ?_
        obtain ⟨⟨z0, f0⟩, ⟨z1, f1⟩, z2, f2⟩ := HZ9.out
        refine wpTree_done ?_
        simp only [List.drop_succ_cons, List.drop_zero]
        go_wp2_with fail
        refine NP_mk ?_
        exact cut_meet (by simp [forget]) ⟨_, rfl, HG7.out, ZBx.put HZ9.out L, ((HC9.out.setCell HG7.out _).setCell HG7.out _).setCell HG7.out _⟩
      ·simp only [nthOp]
       go_wp2_with fail
       have HC10 := Lib.hid (HC0.out.alloc HC0.out.size (.cells #[.int .i64 0, .int .i64 0, .int .i64 0] 56))
       have HZ10 := Lib.hid (ZBx.new ww0 56)
       have HG10 := Lib.hid HC0.out.size
       refine One_mk (KW.mk' HC10.out) ?_
       generalize (ww0.alloc (.cells #[.int .i64 0, .int .i64 0, .int .i64 0] 56)) = ww10 at *
       generalize ww0.heap.size = g8 at *
       refine wpTree_one ?_
       simp only [nthOp]
       go_wp2_with (go_at_call 43; refine (normal_any p _).mono ?_; rintro e ww11 ⟨rfl, hb⟩; have HB11 := Lib.hid hb; clear hb)
       have HC11 := Lib.hid (HC10.out.trans (HB11.out.mono HC10.out.size))
       have HZ11 := Lib.hid (HZ10.out.keep HB11.out)
       refine One_mk (KW.mk' HC11.out) ?_
       refine wpTree_one ?_
       simp only [nthOp]
       go_wp2_with (go_at_call 43; refine (normal_any q _).mono ?_; rintro e ww12 ⟨rfl, hb⟩; have HB12 := Lib.hid hb; clear hb)
       have HC12 := Lib.hid (HC11.out.trans (HB12.out.mono HC11.out.size))
       have HZ12 := Lib.hid (HZ11.out.keep HB12.out)
       refine One_mk (KW.mk' HC12.out) ?_
       refine wpTree_one ?_
       simp only [nthOp]
       go_wp2_with (go_at_call 60; refine (HCR.out _).mono ?_; rintro e ww13 ⟨rfl, hb⟩; have HB13 := Lib.hid hb; clear hb)
       have HC13 := Lib.hid (HC12.out.trans (HB13.out.mono HC12.out.size))
       have HZ13 := Lib.hid (HZ12.out.keep HB13.out)
       refine One_mk (KW.mk' HC13.out) ?_
       obtain ⟨⟨z0, f0⟩, ⟨z1, f1⟩, z2, f2⟩ := HZ13.out
       refine wpTree_done ?_
       simp only [List.drop_succ_cons, List.drop_zero]
       go_wp2_with fail
       refine NP_mk ?_
       exact cut_meet (by simp [forget]) ⟨_, rfl, HG10.out, ZBx.put HZ13.out L, ((HC13.out.setCell HG10.out _).setCell HG10.out _).setCell HG10.out _⟩
     rintro u W5 ⟨g8, hu8, hg8, hv6, hb6⟩
     have HB6 := Lib.hid hb6
     have HW6 := Lib.hid (HW4.out.keep HB6.out)
     have HP6 := Lib.hid (HP4.out.keep HB6.out)
     have HQ6 := Lib.hid (HQ4.out.keep HB6.out)
     have HV6 := Lib.hid hv6
     have HF6 : Hid (v.ownBlock ≠ some g8) := Lib.hid fun e => by have := (own_lt HW4.out.s.own e).2; omega
     have HG6 : Hid (gr + 1 < g8) := Lib.hid (by have := HW4.out.lt; omega)
     simp only [forget, List.foldl_cons, List.foldl_nil, hu8]
     clear hu8 hb6
     obtain ⟨vc0, vc1, vc2⟩ := hv6
     have hz8 := HV6.out.lt
     clear pc0 pc1 pc2 pc3 qc0 qc1 qc2 qc3
     have heq := Vec_eql0 L
     by_cases hl0 : L = v0
     ·have HRZ := Lib.hid (rawR_zero (l := ps) (HLV.out.symm.trans hl0) k)
      have hd0 : decide (L = v0) = true := decide_eq_true hl0
      clear hl0
      go_wp2_with fail
      go_roundw
      case rel => exact ⟨k + 1, v, by omega, by go_num, by rw [HRS2.out, HRZ.out, List.append_nil]; exact HW6.out, HP6.out, HF⟩
      case measure => first | (simp [intOf]; done) | (simp [intOf]; omega)
     ·have hd0 : decide (L = v0) = false := decide_eq_false hl0
      clear hl0
      go_wp2_with fail
      go_loopw [42] (fun mv wr => ∃ (m : Nat) (v : Value), m ≤ k ∧ mv = .int .i64 (m : Int) ∧ Way gr (.slice (some ⟨b, off, none⟩) ps.length pc) w (rawI ps i ++ rawK ps p k ++ rawR ps p q m) wr v ∧ PlBx wr g5 p ∧ PlBx wr g7 q ∧ VcBx wr g8 L ∧ Hid (v.ownBlock ≠ some g5 ∧ v.ownBlock ≠ some g7 ∧ v.ownBlock ≠ some g8)) (fun mv _ => k - (intOf mv).toNat)
      case atStart => exact ⟨0, _, Nat.zero_le _, rfl, by simpa [rawR] using HW6.out, HP6.out, HQ6.out, HV6.out, Lib.hid ⟨HF.out, HF4.out, HF6.out⟩⟩
      case round =>
       obtain ⟨m, v, hm, rfl, hw, hp, hq, hvb, HFF⟩ := hrel
       have HW7 := Lib.hid hw
       have HP7 := Lib.hid hp
       have HQ7 := Lib.hid hq
       have HV7 := Lib.hid hvb
       have HB7 := Lib.hid hw.b
       clear hw
       by_cases hlt3 : m < k
       ·have hki3 : (m : Int) < (k : Int) := by omega
        have hml : m < ps.length := by omega
        obtain ⟨b', off', ha, hat⟩ := (HVK.out wr HB7.out).at_ hml
        obtain ⟨rfl, rfl⟩ : b = b' ∧ off = off' := by injection ha with h; injection h with h1 h2; exact ⟨h1, h2⟩
        clear ha
        have HRI := Lib.hid (HG.out _ (List.getElem_mem hml)).1
        obtain ⟨c0, c1, c2, c3, -⟩ := hat
        have HRS3 := Lib.hid (rawR_succ (p := p) (q := q) hml)
        generalize ps[m] = r at *
        go_upto_region 13 with fail
        refine gen_world (fun W8 => Way gr (.slice (some ⟨b, off, none⟩) ps.length pc) w (rawI ps i ++ rawK ps p k ++ rawR ps p q m) W8 v ∧ PlBx W8 g5 p ∧ PlBx W8 g7 q ∧ VcBx W8 g8 L ∧ PlBx W8 wr.heap.size r ∧ v.ownBlock ≠ some wr.heap.size ∧ gr + 1 < wr.heap.size) ?_ ?_
        ·have hk := (Below.refl wr.heap.size wr).alloc (Nat.le_refl _) (.cells #[.int .i64 r.a, .int .i64 r.b, .int .i64 r.c, .int .i64 r.d] 43)
         exact ⟨HW7.out.keep hk, hp.keep hk, hq.keep hk, hvb.keep hk, ⟨by simp [go_sem], by simp [go_sem], by simp [go_sem], by simp [go_sem]⟩, HW7.out.fresh, HW7.out.lt⟩
        rintro W8 ⟨hw8, hp8, hq8, hv8, hr8, hf8, hg8⟩
        generalize wr.heap.size = g10 at *
        have HW8 := Lib.hid hw8
        have HP8 := Lib.hid hp8
        have HQ8 := Lib.hid hq8
        have HV8 := Lib.hid hv8
        have HR8 := Lib.hid hr8
        have HF8 := Lib.hid hf8
        have HG8 := Lib.hid hg8
        have hz10 := HR8.out.lt
        have hz8' := HV8.out.lt
        obtain ⟨w0, w1, w2⟩ := hv8
        obtain ⟨r0, r1, r2, r3⟩ := hr8
        have HDT := Lib.hid (dot_any L (nrm r) 128 8 (by rw [HLV.out]; exact crs_in HPI.out.1 HQI.out.1) HRI.out.1 (by decide))
        obtain ⟨D, hD⟩ : ∃ D, D = dt L (nrm r) := ⟨_, rfl⟩
        have HD := Lib.hid (show D = det p q r by rw [hD, HLV.out]; rfl)
        have HDI := Lib.hid (show -5000 ≤ D ∧ D ≤ 5000 by rw [HD.out]; exact det_in HPI.out HQI.out HRI.out)
        rw [← hD] at HDT
        clear hw8 hp8 hq8 hf8 hg8 hp hq hvb hD c0 c1 c2 c3
        refine wp_region_grew (by kernel_rfl) (by kernel_rfl) ?_
        repeat (first | go_big_quiet_step (fail) | quiet_step (fail))
        (first | go_big_quiet_step ((go_at_call 43; exact grew_of (normal_any r _))) | quiet_step ((go_at_call 43; exact grew_of (normal_any r _))))
        repeat (first | go_big_quiet_step (fail) | quiet_step (fail))
        (first | go_big_quiet_step ((go_at_call 61; exact grew_of (HDT.out _))) | quiet_step ((go_at_call 61; exact grew_of (HDT.out _))))
        repeat (first | go_big_quiet_step (fail) | quiet_step (fail))
        refine wpQuiet_nil ?_
        rintro _ ⟨gg, rfl⟩
        have HB9 := Lib.hid (grewB (Below.refl W8.heap.size W8) (Nat.le_refl _) gg)
        generalize grew W8 gg = W9 at *
        have HW9 := Lib.hid (HW8.out.keep HB9.out)
        have HP9 := Lib.hid (HP8.out.keep HB9.out)
        have HQ9 := Lib.hid (HQ8.out.keep HB9.out)
        have HV9 := Lib.hid (HV8.out.keep HB9.out)
        have HR9 := Lib.hid (HR8.out.keep HB9.out)
        clear w0 w1 w2 r0 r1 r2 r3
        by_cases hd1 : D = 0
        ·have HN := Lib.hid (show ptsR ps p q r = [] by unfold ptsR; rw [if_neg]; rintro ⟨h1, _⟩; exact h1 (by rw [← HD.out]; exact hd1))
         have hd2 : (D != 0) = false := by rw [hd1]; rfl
         subst hd1
         go_wp2_with fail
         go_roundw
         case rel => exact ⟨m + 1, v, by omega, by go_num, by rw [HRS3.out, HN.out, List.append_nil]; exact HW9.out, HP9.out, HQ9.out, HV9.out, HFF⟩
         case measure => first | (simp [intOf]; done) | (simp [intOf]; omega)
        ·have hd2 : (D != 0) = true := by simpa using hd1
         have HMT := Lib.hid (show pnt (mtv p q r) D = mt p q r by rw [HD.out]; rfl)
         have HNE := Lib.hid hd1
         have HME := Lib.hid (fun w => meeting_any p q r HPI.out HQI.out HRI.out D HDI.out hd1 w)
         rw [HMT.out] at HME
         have HMI := Lib.hid (mt_in HPI.out HQI.out HRI.out)
         have HADL := Lib.hid (show addL ps (mt p q r) (rawI ps i ++ rawK ps p k ++ rawR ps p q m) = rawI ps i ++ rawK ps p k ++ rawR ps p q (m + 1) by
          rw [HRS3.out]; unfold addL ptsR
          have hdne : det p q r ≠ 0 := by rw [← HD.out]; exact HNE.out
          by_cases ha : alw ps (mt p q r) = true
          ·rw [if_pos ha, if_pos ⟨hdne, ha⟩, ← List.append_assoc]
          ·rw [if_neg ha, if_neg (fun h => ha h.2), List.append_nil])
         have HLL := Lib.hid (show (rawI ps i ++ rawK ps p k ++ rawR ps p q m).length ≤ 100000 by
          have h1 := rawI_len ps 40 i (by omega)
          have h2 := rawK_len ps p 40 k (by omega)
          have h3 := rawR_len ps p q m
          have h4 : i * (40 * 40) ≤ 40 * 1600 := by omega
          have h5 : k * 40 ≤ 40 * 40 := by omega
          simp only [List.length_append]
          omega)
         generalize mt p q r = c at *
         obtain ⟨p1, p2, p3, p4⟩ := HP9.out
         obtain ⟨q1, q2, q3, q4⟩ := HQ9.out
         obtain ⟨r1, r2, r3, r4⟩ := HR9.out
         go_wp2_with (first
          | (go_at_call 63; refine (HME.out _).mono ?_; rintro e w10 ⟨rfl, hb⟩; have HB10 := Lib.hid hb; clear hb)
          | (go_at_call 62; refine (add_any gr (gr + 1) c ps _ pc v _ _ HMI.out HG.out (by omega) (HVK.out _ (HW9.out.keep HB10.out).b) (by have := (HW9.out.keep HB10.out).lt; omega) (HW9.out.keep HB10.out).s HLL.out).mono ?_; rintro e w11 ⟨rfl, hv11⟩; have HV11 := Lib.hid hv11; clear hv11))
         obtain ⟨v', hs11, hb11, hk11⟩ := HV11.out
         rw [HADL.out] at hs11
         have hW10 := HW9.out.keep HB10.out
         have F5 := (HP9.out.keep HB10.out).but hk11 (by have := HG2.out; omega) HFF.out.1
         have F7 := (HQ9.out.keep HB10.out).but hk11 (by have := HG4.out; omega) HFF.out.2.1
         have F8 := (HV9.out.keep HB10.out).but hk11 (by have := HG6.out; omega) HFF.out.2.2
         have HFIN := Lib.hid (And.intro (show Way gr (.slice (some ⟨b, off, none⟩) ps.length pc) w (rawI ps i ++ rawK ps p k ++ rawR ps p q (m + 1)) w11 v' from ⟨hs11, hW10.r.but hk11 (by omega), hW10.b.trans hb11⟩) (And.intro F5 (And.intro F7 F8)))
         clear hs11 hb11 hk11 hW10 F5 F7 F8 p1 p2 p3 p4 q1 q2 q3 q4 r1 r2 r3 r4
         go_wp2_with fail
         go_roundw
         case rel => exact ⟨m + 1, v', by omega, by go_num, HFIN.out.1, HFIN.out.2.1.1, HFIN.out.2.2.1.1, HFIN.out.2.2.2.1, Lib.hid ⟨HFIN.out.2.1.2, HFIN.out.2.2.1.2, HFIN.out.2.2.2.2⟩⟩
         case measure => first | (simp [intOf]; done) | (simp [intOf]; omega)
       ·obtain rfl : m = k := by omega
        have hki3 : ¬ ((m : Nat) : Int) < ((m : Nat) : Int) := by omega
        clear hp hq hvb
        go_wp2_with fail
        go_roundw
        case rel => exact ⟨m + 1, v, by omega, by go_num, by rw [HRS2.out, ← List.append_assoc]; exact HW7.out, HP7.out, Lib.hid HFF.out.1⟩
        case measure => first | (simp [intOf]; done) | (simp [intOf]; omega)
    ·obtain rfl : k = i := by omega
     have hki2 : ¬ ((k : Nat) : Int) < ((k : Nat) : Int) := by omega
     clear hp
     go_wp2_with fail
     go_roundw
     case rel => exact ⟨k + 1, v, by omega, by go_num, by rw [HRS.out]; exact HW3.out⟩
     case measure => first | (simp [intOf]; done) | (simp [intOf]; omega)
  ·obtain rfl : i = ps.length := by omega
   have hki : ¬ ((ps.length : Nat) : Int) < ((ps.length : Nat) : Int) := by omega
   have HRL := Lib.hid (show (raw ps).length ≤ 1000000 from by have := raw_len hpl; omega)
   have HRC := Lib.hid (show ∀ c ∈ raw ps, c.in_ ∧ Low c from fun c hc => ⟨raw_in HG.out c hc, raw_low c hc⟩)
   have HWR := Lib.hid (show Way gr (.slice pa ps.length pc) w (raw ps) wr v from HW1.out)
   clear HW1
   have c1 := HWR.out.s.c1
   obtain ⟨a1, k1, rfl, -, -⟩ := own_slice HWR.out.s.own
   go_upto_region 20 with (go_at_call 64; refine (sortAllCo gr _ _ (raw ps) _ HWR.out.s.own HRC.out HRL.out (by have := HWR.out.lt; omega)).mono ?_; rintro e w2 ⟨rfl, r, hr1, hr2, hr3, hr4⟩; have HR1 := Lib.hid (And.intro hr1 (And.intro hr2 (And.intro hr3 hr4))); clear hr1 hr2 hr3 hr4)
   have hrl : r.length = (raw ps).length := HR1.out.1.length_eq
   have HW2 := Lib.hid (HWR.out.grown HR1.out.2.2.2 (l' := r) (by rw [hrl]; exact HR1.out.2.2.1))
   have HDR := Lib.hid (show dedup r = corn ps from sort_comp_co (fun c hc => (HRC.out c hc).2) HR1.out.1 HR1.out.2.1)
   have c2 := HW2.out.s.c1
   have f2 := HW2.out.s.f1
   clear c1
   go_upto_region 21 with (go_at_call 66; refine (compAllCo gr _ _ r _ HR1.out.2.2.1 (by have := HRL.out; omega)).mono ?_; rintro e w3 ⟨v3, rfl, hv1, hv2, hv3⟩; obtain ⟨a3, k3, rfl, -, -⟩ := own_slice hv1; have HV3 := Lib.hid (And.intro hv1 (And.intro hv2 hv3)); have c3 := grown_cell hv3 HW2.out.s.c1 HW2.out.s.off; have f3 : w3.frozen? ⟨gr + 1, 1, none⟩ = false := (grown_frozen hv3 HW2.out.s.c1 HW2.out.s.off).trans HW2.out.s.f1; clear hv1 hv2 hv3)
   have HW3 := Lib.hid (HW2.out.put HV3.out.2.2 HV3.out.2.1 HV3.out.1)
   refine gen_world (fun W4 => Way gr (.slice pa ps.length pc) w (dedup r) W4 (.slice a3 (dedup r).length k3)) HW3.out ?_
   intro W4 hw4
   have HW4 := Lib.hid hw4
   rw [HDR.out] at HW4
   obtain ⟨⟨u0, r0, rf0⟩, ⟨u1, r1, rf1⟩, roff⟩ := hw4.r
   have c40 := hw4.s.c0
   have c41 := hw4.s.c1
   have hgn : gr ≠ gr + 1 := by omega
   have hgn2 : ¬ gr + 1 = gr := by omega
   clear hw4 c2 f2 c3 f3
   obtain ⟨CS, hCS⟩ : ∃ CS, CS = corn ps := ⟨_, rfl⟩
   rw [← hCS] at HDR HW4
   rw [HDR.out] at c41 roff
   rw [HDR.out]
   have HCS := Lib.hid hCS
   clear hCS
   go_wp2_with fail
   have z0 : ((W4.setCell ⟨gr, 0, none⟩ (.slice pa ps.length pc)).setCell ⟨gr, 1, none⟩ (.slice a3 CS.length k3)).cell? ⟨gr, 0, none⟩ = some (.slice pa ps.length pc) := by
    rw [cell_set_ne (by simp) rfl rfl]; exact cell_set_same (by rw [r0]; rfl)
   have z1 : ((W4.setCell ⟨gr, 0, none⟩ (.slice pa ps.length pc)).setCell ⟨gr, 1, none⟩ (.slice a3 CS.length k3)).cell? ⟨gr, 1, none⟩ = some (.slice a3 CS.length k3) :=
    cell_set_same (by rw [cell_set_ne (by simp) rfl rfl, r1]; rfl)
   refine bodyPost_ret (v := .agg #[.slice pa ps.length pc, .slice a3 CS.length k3]) ?_ ?_ ?_
   ·simp [results, Tryz.results36, go_sem, z0, z1]
   ·rfl
   ·rw [show w.heap.size = gr from HGR.out.symm, ← HCS.out]
    refine ⟨a3, k3, rfl, (HW4.out.s.own.kept (grownBy_set (w := W4) (a := ⟨gr, 0, none⟩)) (.inr roff)).kept (grownBy_set (a := ⟨gr, 1, none⟩)) (.inr roff), (HW4.out.b.setCell (Nat.le_refl _) _).setCell (Nat.le_refl _) _⟩
end Go.Proofs.YtgjmfdhgeahdcaaGreat
/- Whether a body has inside; where a point is in the room; whether a plane is valid. -/
set_option linter.unusedVariables false
set_option linter.unusedSimpArgs false
namespace Go.Proofs.YtgjmfdhgeahdcaaGreat
open Go Go.RowKit Go.Sort Go.Lib

def solB (ps : List Pl) (cs : List Co) : Bool := insid ps cs && decide (ps ≠ [])
theorem insid_step {ps : List Pl} {cs : List Co} {k : Nat} (hk : k < ps.length) : insid (ps.take (k + 1)) cs = (insid (ps.take k) cs && cs.any fun c => decide (sd ps[k] c < 0)) := by
 unfold insid; rw [List.take_succ_eq_append_getElem hk, List.all_append]; simp
theorem insid_false {ps : List Pl} {cs : List Co} {k : Nat} (hk : k < ps.length) (h : (cs.any fun c => decide (sd ps[k] c < 0)) = false) : insid ps cs = false := by
 cases hi : insid ps cs with
 | false => rfl
 | true =>
  unfold insid at hi
  rw [List.all_eq_true] at hi
  have := hi _ (List.getElem_mem hk)
  rw [h] at this; cases this
set_option maxRecDepth 100000 in
set_option maxHeartbeats 4000000 in
theorem solidly_any (ps : List Pl) (pa : Option Addr) (pc : Nat) (cs : List Co) (ca : Option Addr) (cc : Nat) (w : World) (hps : Good ps) (hcs : ∀ c ∈ cs, c.in_) (hpl : ps.length ≤ 1000) (hcl : cs.length ≤ 1000000) (hv : Pls.V w pa ps) (hc : Cos.V w ca cs) :
    Calls Tryz.prog 55 #[.agg #[.slice pa ps.length pc, .slice ca cs.length cc]] w fun e w' => e = .returned (.bool (solB ps cs)) ∧ Below w.heap.size w w' := by
 have HG := Lib.hid hps
 have HCI := Lib.hid hcs
 have HV := Lib.hid hv
 have HCV := Lib.hid hc
 clear hv hc hps hcs
 go_enter Tryz.func55, Tryz.ntmps55
 go_wp2_with fail
 go_loopw [8] (fun iv wr => ∃ k : Nat, k ≤ ps.length ∧ iv = .int .i64 (k : Int) ∧ Hid (insid (ps.take k) cs = true) ∧ wr.cell? ⟨w.heap.size, 0, none⟩ = some (.slice pa ps.length pc) ∧ wr.cell? ⟨w.heap.size, 1, none⟩ = some (.slice ca cs.length cc) ∧ Below w.heap.size w wr) (fun iv _ => ps.length - (intOf iv).toNat)
 case atStart => exact ⟨0, Nat.zero_le _, rfl, Lib.hid rfl, by simp [go_sem], by simp [go_sem], by repeat (first | (with_reducible assumption) | exact Below.refl _ _ | (refine Below.setCell ?_ (by first | omega | (simp; omega) | (simp; done)) _) | (refine Below.alloc ?_ (by first | omega | (simp; omega) | (simp; done)) _) | (refine Below.drew ?_))⟩
 case round =>
  obtain ⟨k, hk, rfl, HI, b0, b1, hb⟩ := hrel
  have HB := Lib.hid hb
  have HVR := Lib.hid (HV.out.keep hb)
  have HCR := Lib.hid (HCV.out.keep hb)
  have hz := hb.size
  clear hb
  have hgl := block_lt_of_cell b0
  simp only at hgl
  by_cases hlt : k < ps.length
  ·have hki : (k : Int) < (ps.length : Int) := by omega
   obtain ⟨b, off, rfl, hat⟩ := HVR.out.at_ hlt
   obtain ⟨c0, c1, c2, c3, -⟩ := hat
   have HST := Lib.hid (insid_step (cs := cs) hlt)
   have HFA := Lib.hid (insid_false (cs := cs) hlt)
   have HPI := Lib.hid (HG.out _ (List.getElem_mem hlt)).1
   generalize ps[k] = p at *
   have HCALL := Lib.hid (fun (W : World) (hb : Below wr.heap.size wr W) (h0 : W.cell? ⟨wr.heap.size, 0, none⟩ = some (.int .i64 p.a)) (h1 : W.cell? ⟨wr.heap.size, 1, none⟩ = some (.int .i64 p.b)) (h2 : W.cell? ⟨wr.heap.size, 2, none⟩ = some (.int .i64 p.c)) (h3 : W.cell? ⟨wr.heap.size, 3, none⟩ = some (.int .i64 p.d)) =>
    has_sol1 (fun c => decide (sd p c < 0)) ca cs cc (.pointer (some ⟨wr.heap.size, 0, none⟩)) W (HCR.out.keep hb) (by omega) (fun x hx w1 hb1 => sol1_any x p HPI.out (HCI.out x hx) _ w1 (cell_keep hb1 h0) (cell_keep hb1 h1) (cell_keep hb1 h2) (cell_keep hb1 h3)))
   cases hq : (cs.any fun c => decide (sd p c < 0)) with
   | true =>
    rw [hq] at HCALL
    go_wp2_with (go_at_call 56; refine (HCALL.out _ ((Below.refl _ _).alloc (Nat.le_refl _) _) (by simp [go_sem]) (by simp [go_sem]) (by simp [go_sem]) (by simp [go_sem])).mono ?_; rintro e w1 ⟨rfl, hb⟩; have HB1 := Lib.hid (((Below.refl wr.heap.size wr).alloc (Nat.le_refl _) _).trans (hb.mono (by simp))); clear hb)
    go_roundw
    case rel => exact ⟨k + 1, by omega, by go_num, Lib.hid (by rw [HST.out, HI.out, hq]; rfl), cell_keep HB1.out b0, cell_keep HB1.out b1, HB.out.trans (HB1.out.mono hz)⟩
    case measure => first | (simp [intOf]; done) | (simp [intOf]; omega)
   | false =>
    have HFF := Lib.hid (HFA.out hq)
    rw [hq] at HCALL
    go_wp2_with (go_at_call 56; refine (HCALL.out _ ((Below.refl _ _).alloc (Nat.le_refl _) _) (by simp [go_sem]) (by simp [go_sem]) (by simp [go_sem]) (by simp [go_sem])).mono ?_; rintro e w1 ⟨rfl, hb⟩; have HB1 := Lib.hid (((Below.refl wr.heap.size wr).alloc (Nat.le_refl _) _).trans (hb.mono (by simp))); clear hb)
    go_ret
    exact ⟨ret_bool (by unfold solB; rw [HFF.out]; rfl), HB.out.trans (HB1.out.mono hz)⟩
  ·obtain rfl : k = ps.length := by omega
   have hki : ¬ ((ps.length : Nat) : Int) < ((ps.length : Nat) : Int) := by omega
   have HE := Lib.hid (show solB ps cs = decide (0 < ps.length) by
    have h := HI.out
    rw [List.take_length] at h
    unfold solB; rw [h, Bool.true_and]
    cases ps with
    | nil => rfl
    | cons p l => simp)
   go_wp2_with fail
   go_ret
   exact ⟨ret_bool HE.out.symm, HB.out⟩
/-! Planes. -/
theorem rng3 (x B : Int) : (¬ x < -B ∧ ¬ B < x) ∨ x < -B ∨ (¬ x < -B ∧ B < x) := by omega
theorem chkP_bad {p : Pl} (h : p.a < -8 ∨ 8 < p.a ∨ p.b < -8 ∨ 8 < p.b ∨ p.c < -8 ∨ 8 < p.c ∨ p.d < -10000000 ∨ 10000000 < p.d) : chkP p = 2 := by
 unfold chkP withinB
 rw [if_neg]
 simp only [Bool.and_eq_true, decide_eq_true_eq]
 omega
theorem chkP_rest {p : Pl} (h : ¬ (p.a < -8 ∨ 8 < p.a ∨ p.b < -8 ∨ 8 < p.b ∨ p.c < -8 ∨ 8 < p.c ∨ p.d < -10000000 ∨ 10000000 < p.d)) : chkP p = if nrm p = v0 then 11 else 0 := by
 unfold chkP withinB
 rw [if_pos]
 simp only [Bool.and_eq_true, decide_eq_true_eq]
 omega
set_option maxRecDepth 100000 in
set_option maxHeartbeats 4000000 in
theorem checkPlane_any (p : Pl) (w : World) : Calls Tryz.prog 53 #[.agg #[.int .i64 p.a, .int .i64 p.b, .int .i64 p.c, .int .i64 p.d]] w fun e w' => e = .returned (.int .i64 (chkP p)) ∧ Below w.heap.size w w' := by
 go_enter Tryz.func53, Tryz.ntmps53
 go_wp2_with fail
 go_loopw [12] (fun iv wr => ∃ i : Nat, i ≤ 3 ∧ iv = .int .i64 (i : Int) ∧ Hid ((0 < i → ¬ p.a < -8 ∧ ¬ 8 < p.a) ∧ (1 < i → ¬ p.b < -8 ∧ ¬ 8 < p.b) ∧ (2 < i → ¬ p.c < -8 ∧ ¬ 8 < p.c)) ∧ wr.cell? ⟨w.heap.size, 0, none⟩ = some (.int .i64 p.a) ∧ wr.cell? ⟨w.heap.size, 1, none⟩ = some (.int .i64 p.b) ∧ wr.cell? ⟨w.heap.size, 2, none⟩ = some (.int .i64 p.c) ∧ wr.cell? ⟨w.heap.size, 3, none⟩ = some (.int .i64 p.d) ∧ Below w.heap.size w wr) (fun iv _ => 3 - (intOf iv).toNat)
 case atStart => exact ⟨0, by omega, rfl, Lib.hid ⟨fun h => by omega, fun h => by omega, fun h => by omega⟩, by simp [go_sem], by simp [go_sem], by simp [go_sem], by simp [go_sem], by repeat (first | (with_reducible assumption) | exact Below.refl _ _ | (refine Below.setCell ?_ (by first | omega | (simp; omega) | (simp; done)) _) | (refine Below.alloc ?_ (by first | omega | (simp; omega) | (simp; done)) _) | (refine Below.drew ?_))⟩
 case round =>
  obtain ⟨i, hi, rfl, HR, b0, b1, b2, b3, hb⟩ := hrel
  have HB := Lib.hid hb
  clear hb
  have h4 : i = 0 ∨ i = 1 ∨ i = 2 ∨ i = 3 := by omega
  rcases h4 with rfl | rfl | rfl | rfl
  ·-- number 0
   have hx := idxI0 p.a p.b p.c
   have hii : (0 : Int) < 3 := by decide
   rcases rng3 p.a 8 with ⟨r1, r2⟩ | r1 | ⟨r1, r2⟩
   ·go_wp2_with fail
    go_roundw
    case rel => exact ⟨1, by omega, by go_num, Lib.hid (by have := HR.out; simp only [Nat.reduceLT, Nat.reduceLeDiff] at this ⊢; simp_all), b0, b1, b2, b3, HB.out⟩
    case measure => first | (simp [intOf]; done) | (simp [intOf]; omega)
   ·have HBAD := Lib.hid (show chkP p = 2 from chkP_bad (by have := r1; omega))
    clear HR
    go_wp2_with fail
    go_ret
    exact ⟨ret_int (by rw [HBAD.out]), HB.out⟩
   ·have HBAD := Lib.hid (show chkP p = 2 from chkP_bad (by have := r2; omega))
    clear HR
    go_wp2_with fail
    go_ret
    exact ⟨ret_int (by rw [HBAD.out]), HB.out⟩
  ·-- number 1
   have hx := idxI1 p.a p.b p.c
   have hii : (1 : Int) < 3 := by decide
   rcases rng3 p.b 8 with ⟨r1, r2⟩ | r1 | ⟨r1, r2⟩
   ·go_wp2_with fail
    go_roundw
    case rel => exact ⟨2, by omega, by go_num, Lib.hid (by have := HR.out; simp only [Nat.reduceLT, Nat.reduceLeDiff] at this ⊢; simp_all), b0, b1, b2, b3, HB.out⟩
    case measure => first | (simp [intOf]; done) | (simp [intOf]; omega)
   ·have HBAD := Lib.hid (show chkP p = 2 from chkP_bad (by have := r1; omega))
    clear HR
    go_wp2_with fail
    go_ret
    exact ⟨ret_int (by rw [HBAD.out]), HB.out⟩
   ·have HBAD := Lib.hid (show chkP p = 2 from chkP_bad (by have := r2; omega))
    clear HR
    go_wp2_with fail
    go_ret
    exact ⟨ret_int (by rw [HBAD.out]), HB.out⟩
  ·-- number 2
   have hx := idxI2 p.a p.b p.c
   have hii : (2 : Int) < 3 := by decide
   rcases rng3 p.c 8 with ⟨r1, r2⟩ | r1 | ⟨r1, r2⟩
   ·go_wp2_with fail
    go_roundw
    case rel => exact ⟨3, by omega, by go_num, Lib.hid (by have := HR.out; simp only [Nat.reduceLT, Nat.reduceLeDiff] at this ⊢; simp_all), b0, b1, b2, b3, HB.out⟩
    case measure => first | (simp [intOf]; done) | (simp [intOf]; omega)
   ·have HBAD := Lib.hid (show chkP p = 2 from chkP_bad (by have := r1; omega))
    clear HR
    go_wp2_with fail
    go_ret
    exact ⟨ret_int (by rw [HBAD.out]), HB.out⟩
   ·have HBAD := Lib.hid (show chkP p = 2 from chkP_bad (by have := r2; omega))
    clear HR
    go_wp2_with fail
    go_ret
    exact ⟨ret_int (by rw [HBAD.out]), HB.out⟩
  ·have hii : ¬ (3 : Int) < 3 := by decide
   obtain ⟨k1, k2, k3⟩ := HR.out
   have k1 := k1 (by omega)
   have k2 := k2 (by omega)
   have k3 := k3 (by omega)
   have HK := Lib.hid (And.intro k1 (And.intro k2 k3))
   clear k1 k2 k3 HR
   rcases rng3 p.d 10000000 with ⟨r1, r2⟩ | r1 | ⟨r1, r2⟩
   ·have HC := Lib.hid (chkP_rest (p := p) (by have := HK.out; omega))
    obtain ⟨N, hN⟩ : ∃ N, N = nrm p := ⟨_, rfl⟩
    have HN := Lib.hid hN
    have HNM := Lib.hid (fun w => normal_any p w)
    rw [← hN] at HNM
    have heq := Vec_eql0 N
    clear hN
    by_cases hn : nrm p = v0
    ·have heqv : decide (N = v0) = true := decide_eq_true (by rw [HN.out]; exact hn)
     have HBAD := Lib.hid (show chkP p = 11 by rw [HC.out, if_pos hn])
     clear hn
     go_wp2_with (go_at_call 43; refine (HNM.out _).mono ?_; rintro e w1 ⟨rfl, hb⟩; have HB1 := Lib.hid (HB.out.trans (hb.mono HB.out.size)); clear hb)
     go_ret
     exact ⟨ret_int (by rw [HBAD.out]), HB1.out⟩
    ·have heqv : decide (N = v0) = false := decide_eq_false (by rw [HN.out]; exact hn)
     have HBAD := Lib.hid (show chkP p = 0 by rw [HC.out, if_neg hn])
     clear hn
     go_wp2_with (go_at_call 43; refine (HNM.out _).mono ?_; rintro e w1 ⟨rfl, hb⟩; have HB1 := Lib.hid (HB.out.trans (hb.mono HB.out.size)); clear hb)
     go_ret
     exact ⟨ret_int (by rw [HBAD.out]), HB1.out⟩
   ·have HBAD := Lib.hid (show chkP p = 2 from chkP_bad (by have := r1; omega))
    go_wp2_with fail
    go_ret
    exact ⟨ret_int (by rw [HBAD.out]), HB.out⟩
   ·have HBAD := Lib.hid (show chkP p = 2 from chkP_bad (by have := r2; omega))
    go_wp2_with fail
    go_ret
    exact ⟨ret_int (by rw [HBAD.out]), HB.out⟩
end Go.Proofs.YtgjmfdhgeahdcaaGreat
