/- What is wanted of chapter 2 here: stocks, sound wood, the widest rectangle, the boards that fit (the timber seat's texts, picked by name). -/
import Derived.Test.YtjmgboipbhddlaaGreatDoorQU
import Derived.Test.YtjmgboipbhddlaaGreatDoorOX
import Derived.Test.YtjmgboipbhddlaaGreatDoorShelf2
import Derived.Test.YtjmgboipbhddlaaGreatDoorShelf
import Derived.LoopN
import Derived.Maps.Own
import Derived.Maps.OwnOps
import Derived.Maps.Views
import Derived.Deep.CutRange
import Derived.Deep.RegionHeld3
import Derived.OwnWalk
import Derived.Lib.OwnBridge
import Derived.Shelf.SlSortCmp.WholeK
import Derived.Shelf.SlSortCmp.NoneTotal
import Derived.Sort.OwnSortedInts
set_option linter.unusedVariables false
set_option linter.unusedSimpArgs false
namespace Go.Proofs.YtjmgboipbhddlaaGreatDoor
open Go Go.RowKit Go.Maps Go.WideMaps
def speciesErr (s : Species) : Int :=
  if nameB s.name = false then 4 else if withinB s.along 0 2000 = false ∨ withinB s.across 0 2000 = false ∨ withinB s.radial 0 2000 = false ∨
    withinB s.density 1 2000 = false ∨ withinB s.stiffness 1 100000 = false ∨ withinB s.strength 1 1000 = false then 2 else 0
set_option maxHeartbeats 2000000 in
theorem checkOne_any (s : Species) (w : World) (hs : s.name.size ≤ 9223372036854775807) :
    Calls Tryz.prog 85 #[.agg #[.string s.name, .int .i64 s.along, .int .i64 s.across, .int .i64 s.radial, .int .i64 s.density, .int .i64 s.stiffness, .int .i64 s.strength]] w
      fun e w' => e = .returned (.int .i64 (speciesErr s)) ∧ Below w.heap.size w w' := by
  have i0 : ∀ w, (Instr.index 158 (.agg #[.int .i64 s.along, .int .i64 s.across, .int .i64 s.radial]) (.int .i64 0)).run Tryz.prog w = .ok (.int .i64 s.along) w := fun _ => by kernel_rfl
  have i1 : ∀ w, (Instr.index 158 (.agg #[.int .i64 s.along, .int .i64 s.across, .int .i64 s.radial]) (.int .i64 1)).run Tryz.prog w = .ok (.int .i64 s.across) w := fun _ => by kernel_rfl
  have i2 : ∀ w, (Instr.index 158 (.agg #[.int .i64 s.along, .int .i64 s.across, .int .i64 s.radial]) (.int .i64 2)).run Tryz.prog w = .ok (.int .i64 s.radial) w := fun _ => by kernel_rfl
  go_enter Tryz.func85, Tryz.ntmps85
  go_wp2_with (first
    | (go_at_call 87; refine (isName_any _ _ hs).mono ?_; rintro e w' ⟨rfl, rfl⟩)
    | (go_at_call 88; refine (within_any _ _ _ _).mono ?_; rintro e w' ⟨rfl, rfl⟩)
    | (with_reducible refine rounds_step ?_)
    | (with_reducible refine wp_loop_rounds 4 ?_))
  all_goals (go_ret; exact ⟨ret_int (by go_tidy; (try simp only [Bool.not_eq_eq_eq_not, Bool.not_true, Bool.not_false, Bool.not_eq_true', Bool.not_eq_false', decide_eq_false_iff_not, decide_eq_true_eq, beq_iff_eq, beq_eq_false_iff_ne, bne_iff_ne, ne_eq, bne_eq_false_iff_eq, Bool.and_eq_true, Bool.or_eq_true, Bool.and_eq_false_iff, Bool.or_eq_false_iff, not_true_eq_false, not_false_eq_true, false_and, and_false, or_false, false_or, true_and, and_true, true_or, or_true] at *) <;> simp [speciesErr, *]), (Below.refl _ _).alloc (Nat.le_refl _) _⟩)
def nameIs (nm : ByteArray) (s : Species) : Bool := s.name.toList == nm.toList
set_option maxHeartbeats 1000000 in
theorem refFind_any (a : Option Addr) (l : List Species) (c : Nat) (nm : ByteArray) (w : World) (hv : Speciess.V w a l) (hl : l.length ≤ 9223372036854775807) :
    Calls Tryz.prog 48 #[.slice a l.length c, .string nm] w fun e w' => e = .returned (.int .i64 (idxOf (nameIs nm) l)) ∧ w = w' := by
  go_enter Tryz.func48, Tryz.ntmps48
  go_wp2
  go_loop [5] (fun i => ∃ k : Nat, k ≤ l.length ∧ i = .int .i64 k ∧ Hid (∀ j (hj : j < l.length), j < k → nameIs nm l[j] = false)) (fun i => l.length - (intOf i).toNat)
  case atStart => exact ⟨0, Nat.zero_le _, rfl, Lib.hid (fun j _ h => by omega)⟩
  case round =>
    obtain ⟨k, hk, rfl, HK⟩ := hrel
    by_cases hlt : k < l.length
    · obtain ⟨b, off, rfl, hat⟩ := hv.at_ hlt
      obtain ⟨c0, c1, c2, c3, c4, c5, c6, -⟩ := hat
      cases hq : (l[k].name.toList == nm.toList)
      · go_wp2
        go_round
        case rel => exact ⟨k + 1, by omega, by go_num, Lib.hid (none_step HK.out hlt hq)⟩
        case measure => simp [intOf]; omega
      · go_wp2
        go_ret
        exact ⟨ret_int (idxOf_hit hlt HK.out hq).symm, rfl⟩
    · have hm := Lib.hid (idxOf_miss (p := nameIs nm) (l := l) (fun j hj => HK.out j hj (by omega)))
      clear HK
      go_wp2
      go_ret
      exact ⟨ret_int hm.out.symm, rfl⟩
theorem find1_any (s : Species) (g : Nat) (nm : ByteArray) (w : World) (hg : w.cell? ⟨g, 0, none⟩ = some (.string nm)) (hgl : g < w.heap.size) :
    Calls Tryz.prog 110 #[.agg #[.string s.name, .int .i64 s.along, .int .i64 s.across, .int .i64 s.radial, .int .i64 s.density, .int .i64 s.stiffness, .int .i64 s.strength], .pointer (some ⟨g, 0, none⟩)] w
      fun e w' => e = .returned (.bool (nameIs nm s)) ∧ Below w.heap.size w w' := by
  go_enter Tryz.func110, Tryz.ntmps110
  go_wp2
  go_ret
  exact ⟨rfl, (Below.refl _ _).alloc (Nat.le_refl _) _⟩
set_option maxHeartbeats 1000000 in
theorem indexSpecies_any (a : Option Addr) (l : List Species) (c g : Nat) (nm : ByteArray) (w : World) (hv : Speciess.V w a l) (hl : l.length ≤ 9223372036854775807)
    (hg : w.cell? ⟨g, 0, none⟩ = some (.string nm)) (hgl : g < w.heap.size) :
    Calls Tryz.prog 109 #[.slice a l.length c, .func (.func 110) #[] #[.pointer (some ⟨g, 0, none⟩)]] w
      fun e w' => e = .returned (.int .i64 (idxOf (nameIs nm) l)) ∧ Below w.heap.size w w' := by
  go_enter Tryz.func109, Tryz.ntmps109
  go_wp2
  go_loopw [8] (fun i wr => ∃ k : Nat, k ≤ l.length ∧ i = .int .i64 k ∧ Hid (∀ j (hj : j < l.length), j < k → nameIs nm l[j] = false) ∧ Below w.heap.size w wr) (fun i _ => l.length - (intOf i).toNat)
  case atStart => exact ⟨0, Nat.zero_le _, rfl, Lib.hid (fun j _ h => by omega), Below.refl _ _⟩
  case round =>
    obtain ⟨k, hk, rfl, HK, hbw⟩ := hrel
    by_cases hlt : k < l.length
    · obtain ⟨b, off, rfl, hat⟩ := (hv.keep hbw).at_ hlt
      obtain ⟨c0, c1, c2, c3, c4, c5, c6, -⟩ := hat
      have hgr := cell_keep hbw hg
      have hsz := hbw.size
      cases hq : nameIs nm l[k]
      · go_wp2_with (go_at_call 110; refine (find1_any l[k] _ _ _ hgr (by omega)).mono ?_; rintro e w1 ⟨rfl, hb⟩)
        go_round
        case rel => exact ⟨k + 1, by omega, by go_num, Lib.hid (none_step HK.out hlt hq), hbw.trans (hb.mono hsz)⟩
        case measure => simp [intOf]; omega
      · go_wp2_with (go_at_call 110; refine (find1_any l[k] _ _ _ hgr (by omega)).mono ?_; rintro e w1 ⟨rfl, hb⟩)
        go_ret
        exact ⟨ret_int (idxOf_hit hlt HK.out hq).symm, hbw.trans (hb.mono hsz)⟩
    · have hm := Lib.hid (idxOf_miss (p := nameIs nm) (l := l) (fun j hj => HK.out j hj (by omega)))
      clear HK
      go_wp2
      go_ret
      exact ⟨ret_int hm.out.symm, hbw⟩
theorem find_any (a : Option Addr) (l : List Species) (c : Nat) (nm : ByteArray) (w : World) (hv : Speciess.V w a l) (hl : l.length ≤ 9223372036854775807) :
    Calls Tryz.prog 86 #[.slice a l.length c, .string nm] w fun e w' => e = .returned (.int .i64 (idxOf (nameIs nm) l)) ∧ Below w.heap.size w w' := by
  go_enter Tryz.func86, Tryz.ntmps86
  go_wp2_with (go_at_call 109; refine (indexSpecies_any _ l _ w.heap.size nm _ (hv.keep ((Below.refl _ _).alloc (Nat.le_refl _) _)) hl (by simp) (by simp)).mono ?_; rintro e w1 ⟨rfl, hb⟩)
  go_ret
  exact ⟨rfl, ((Below.refl _ _).alloc (Nat.le_refl _) _).trans (hb.mono (by simp))⟩
def spGo (pre : List ByteArray) : List Species → Int
  | [] => 0
  | s :: r => if speciesErr s ≠ 0 then speciesErr s else if (pre.any fun t => s.name.toList == t.toList) then 5 else spGo (pre ++ [s.name]) r
def checkSpecies (l : List Species) : Int := if 40 < l.length then 8 else spGo [] l
theorem spGo_err {l : List Species} {k : Nat} {e : Int} (hk : k < l.length) (h : e = spGo ((l.map (·.name)).take k) (l.drop k)) (h1 : (speciesErr l[k] != 0) = true) : e = speciesErr l[k] := by
  rw [h, List.drop_eq_getElem_cons hk, spGo, if_pos (by simpa using h1)]
theorem spGo_dup {l : List Species} {k : Nat} {e : Int} (hk : k < l.length) (h : e = spGo ((l.map (·.name)).take k) (l.drop k)) (h1 : (speciesErr l[k] != 0) = false)
    (h2 : (((l.map (·.name)).take k).any fun t => l[k].name.toList == t.toList) = true) : e = 5 := by
  rw [h, List.drop_eq_getElem_cons hk, spGo, if_neg (by simpa using h1), if_pos h2]
theorem spGo_next {l : List Species} {k : Nat} {e : Int} (hk : k < l.length) (h : e = spGo ((l.map (·.name)).take k) (l.drop k)) (h1 : (speciesErr l[k] != 0) = false)
    (h2 : (((l.map (·.name)).take k).any fun t => l[k].name.toList == t.toList) = false) : e = spGo ((l.map (·.name)).take (k + 1)) (l.drop (k + 1)) := by
  rw [h, List.drop_eq_getElem_cons hk, spGo, if_neg (by simpa using h1), if_neg (by simp [h2]), take_map_step _ hk]
theorem spGo_end {l : List Species} {k : Nat} {e : Int} (hk : l.length ≤ k) (h : e = spGo ((l.map (·.name)).take k) (l.drop k)) : e = 0 := by
  rw [h, List.drop_eq_nil_of_le hk]; rfl
set_option maxRecDepth 100000 in
set_option maxHeartbeats 1000000 in
theorem checkSpecies_any (a : Option Addr) (l : List Species) (c : Nat) (w : World) (hv : Speciess.V w a l) (hl : l.length ≤ 9223372036854775807) :
    Calls Tryz.prog 46 #[.slice a l.length c] w fun e w' => e = .returned (.int .i64 (checkSpecies l)) ∧ Below w.heap.size w w' := by
  by_cases hbig : 40 < l.length
  · go_enter Tryz.func46, Tryz.ntmps46
    go_wp2_with fail
    go_ret
    exact ⟨ret_int (by simp [checkSpecies, hbig]), Below.refl _ _⟩
  have hmm := @run_makeMap Tryz.prog
  have HF := Lib.hid (show checkSpecies l = spGo ((l.map (·.name)).take 0) (l.drop 0) by simp [checkSpecies, hbig])
  go_enter Tryz.func46, Tryz.ntmps46
  go_wp2_with fail
  go_loopw [13] (fun i wr => ∃ k : Nat, k ≤ l.length ∧ i = .int .i64 k ∧ Hid (checkSpecies l = spGo ((l.map (·.name)).take k) (l.drop k)) ∧ Hid (Seen wr w.heap.size k ((l.map (·.name)).take k)) ∧ Below w.heap.size w wr) (fun i _ => l.length - (intOf i).toNat)
  case atStart => exact ⟨0, Nat.zero_le _, rfl, HF, Lib.hid (Seen.made w), (Below.refl _ _).alloc (Nat.le_refl _) _⟩
  case round =>
    clear HF
    obtain ⟨k, hk, rfl, HF, HS, hbw⟩ := hrel
    by_cases hlt : k < l.length
    · obtain ⟨b, off, rfl, hat⟩ := (hv.keep hbw).at_ hlt
      obtain ⟨c0, c1, c2, c3, c4, c5, c6, hwf⟩ := hat
      have hns := hwf.1
      clear hwf
      have hsz := hbw.size
      go_wp2_with (first
        | (go_at_call 85; refine (checkOne_any l[k] _ hns).mono ?_; rintro e w1 ⟨rfl, hb⟩; obtain ⟨hc, hf⟩ := bcell hb; have hz := hb.size; have HS1 := Lib.hid (((show Seen wr _ _ _ from HS.out).below ((Below.refl _ _).alloc (Nat.le_refl _) _)).below hb); have hlk := Seen.run HS1.out l[k].name hns)
        | (at_mapUpdate; refine wpList_seen rfl _ _ _ rfl w.heap.size k _ l[k].name hns (by omega) rfl rfl rfl HS1.out ?_; intro w2 hS2 hg2; have HS2 := Lib.hid hS2; clear hS2))
      · go_ret
        exact ⟨ret_int (spGo_err hlt HF.out (by assumption)).symm, (hbw.alloc (by omega) _).trans (hb.mono (by simp; omega))⟩
      · go_ret
        exact ⟨ret_int (spGo_dup hlt HF.out (by assumption) (by assumption)).symm, (hbw.alloc (by omega) _).trans (hb.mono (by simp; omega))⟩
      · have hS2 := HS2.out
        rw [← take_map_step _ hlt] at hS2
        go_roundw
        case rel => exact ⟨k + 1, by omega, by go_num, Lib.hid (spGo_next hlt HF.out (by assumption) (by assumption)), Lib.hid hS2, ((hbw.alloc (by omega) _).trans (hb.mono (by simp; omega))).grown hg2 (by simp at hz; omega) (fun j hj => by cases hj; omega)⟩
        case measure => simp [intOf]; omega
    · have hm := Lib.hid (spGo_end (by omega) HF.out)
      clear HF
      go_wp2_with fail
      go_ret
      exact ⟨ret_int hm.out.symm, hbw⟩
theorem refFind_n (a : Option Addr) (l : List Species) (n c : Nat) (nm : ByteArray) (w : World) (hn : n = l.length) (hv : Speciess.V w a l) (hl : l.length ≤ 9223372036854775807) :
    Calls Tryz.prog 48 #[.slice a n c, .string nm] w fun e w' => e = .returned (.int .i64 (idxOf (nameIs nm) l)) ∧ w = w' := by
  subst hn; exact refFind_any a l c nm w hv hl
theorem idxOf_nonneg {α : Type} (p : α → Bool) (l : List α) : (0 ≤ idxOf p l) ↔ l.any p = true := by
  unfold idxOf
  cases h : l.findIdx? p with
  | none =>
    rw [List.findIdx?_eq_none_iff] at h
    simp only [List.any_eq_true]
    constructor
    · intro h'; omega
    · rintro ⟨x, hx, hp⟩; rw [h x hx] at hp; cases hp
  | some i =>
    rw [List.findIdx?_eq_some_iff_getElem] at h
    obtain ⟨hi, hp, -⟩ := h
    simp only [List.any_eq_true]
    exact ⟨fun _ => ⟨_, List.getElem_mem hi, hp⟩, fun _ => by omega⟩
def listedE (l : List Species) (b : Board) : Int := if boardErr b ≠ 0 then boardErr b else if idxOf (nameIs b.species) l < 0 then 6 else 0
set_option maxHeartbeats 1000000 in
theorem listed_any (sa : Option Addr) (l : List Species) (sc : Nat) (b : Board) (a : Option Addr) (c : Nat) (w : World) (hs : Speciess.V w sa l) (hsl : l.length ≤ 9223372036854775807)
    (hv : Rects.V w a b.defects) (hl : b.defects.length ≤ 9223372036854775807) (hw : b.wf) :
    Calls Tryz.prog 47 #[.slice sa l.length sc, .agg #[.string b.name, .string b.species, .int .i64 b.length, .int .i64 b.width, .int .i64 b.thick, .int .i64 b.cut, .int .i64 b.moisture, .slice a b.defects.length c]] w fun e w' => e = .returned (.int .i64 (listedE l b)) ∧ Below w.heap.size w w' := by
  go_enter Tryz.func47, Tryz.ntmps47
  go_wp2_with (first
    | (go_at_call 49; refine (checkBoard_any b _ _ _ (hv.keep ((Below.refl _ _).alloc (Nat.le_refl _) _)) hl hw).mono ?_; rintro e w1 ⟨rfl, hb⟩; obtain ⟨hc, hf⟩ := bcell hb; have hz := hb.size; have hb1 := ((Below.refl w.heap.size w).alloc (Nat.le_refl _) _).trans (hb.mono (by simp)))
    | (go_at_call 86; refine (find_any _ l _ _ _ (hs.keep hb1) hsl).mono ?_; rintro e w2 ⟨rfl, hb2⟩; have hb3 := hb1.trans (hb2.mono hb1.size)))
  all_goals first
    | (go_ret; exact ⟨ret_int (by go_tidy; (try simp only [Bool.not_eq_eq_eq_not, Bool.not_true, Bool.not_false, Bool.not_eq_true', Bool.not_eq_false', decide_eq_false_iff_not, decide_eq_true_eq, beq_iff_eq, beq_eq_false_iff_ne, bne_iff_ne, ne_eq, bne_eq_false_iff_eq, Bool.and_eq_true, Bool.or_eq_true, Bool.and_eq_false_iff, Bool.or_eq_false_iff, not_true_eq_false, not_false_eq_true, false_and, and_false, or_false, false_or, true_and, and_true, true_or, or_true] at *) <;> simp [listedE, *]), hb3⟩)
    | (go_ret; exact ⟨ret_int (by go_tidy; (try simp only [Bool.not_eq_eq_eq_not, Bool.not_true, Bool.not_false, Bool.not_eq_true', Bool.not_eq_false', decide_eq_false_iff_not, decide_eq_true_eq, beq_iff_eq, beq_eq_false_iff_ne, bne_iff_ne, ne_eq, bne_eq_false_iff_eq, Bool.and_eq_true, Bool.or_eq_true, Bool.and_eq_false_iff, Bool.or_eq_false_iff, not_true_eq_false, not_false_eq_true, false_and, and_false, or_false, false_or, true_and, and_true, true_or, or_true] at *) <;> simp [listedE, *]), hb1⟩)
open Go.Sort Go.Lib in
theorem compact_n (g cap : Nat) (n : Nat) (l : List Int) (w : World) (base : Nat) (hn : n = l.length) (hown : w.ownsRow base 3 1 (.slice (some ⟨g, 0, none⟩) n cap) n (l.map (Value.int .i64))) (hl : n < 1000000) :
    Calls Tryz.prog 112 #[.slice (some ⟨g, 0, none⟩) n cap] w fun e w' => e = .returned (.slice (some ⟨g, 0, none⟩) (Lib.compact l).length cap) ∧
      w'.ownsRow base 3 1 (.slice (some ⟨g, 0, none⟩) n cap) n ((Lib.compact l ++ List.replicate (n - (Lib.compact l).length) 0).map (Value.int .i64)) ∧ w.grownBy w' (some g) := by
  subst hn
  obtain ⟨g0, cap0, hv, hbase, hgl, hnc, hcm, -, hH⟩ := Lib.holds_of_ownsRow hown (by simp)
  injection hv with hv1 _ hv2
  injection hv1 with hv1
  injection hv1 with hv1
  subst hv1 hv2
  refine (Tryz.slices_Compact_int g 0 cap l w hH (by omega) hnc).mono ?_
  rintro e w1 ⟨he, q, rfl⟩
  have hcl := Lib.compact_length_le l
  have hy : (Lib.compact l ++ List.replicate (l.length - (Lib.compact l).length) 0).length = l.length := by simp; omega
  have ho := Lib.ownsRow_putRow (q := q) (ys := Lib.compact l ++ List.replicate (l.length - (Lib.compact l).length) 0) hown hy (Nat.le_refl _)
  rw [List.take_of_length_le (by omega)] at ho
  refine ⟨he, ho, ⟨rfl, rfl, rfl, by simp [putRow, mapBlock, Sort.ahead], fun k hk hne => ?_⟩⟩
  have : g ≠ k := fun e => hne (by rw [e])
  simp [putRow, mapBlock, Sort.ahead, Array.getElem?_modify, this]
open Go.Sort Go.Lib in
theorem lines_any (base g cap : Nat) (zs : List Int) (w : World) (hown : w.ownsRow base 3 1 (.slice (some ⟨g, 0, none⟩) zs.length cap) zs.length (zs.map (Value.int .i64))) (hl : zs.length < 1000000) :
    Calls Tryz.prog 90 #[.slice (some ⟨g, 0, none⟩) zs.length cap] w fun e w' => e = .returned (.slice (some ⟨g, 0, none⟩) (uniq zs).length cap) ∧
      w'.ownsRow base 3 1 (.slice (some ⟨g, 0, none⟩) zs.length cap) zs.length ((uniq zs ++ List.replicate (zs.length - (uniq zs).length) 0).map (Value.int .i64)) ∧ w.grownBy w' (some g) := by
  have HS := Lib.hid (sort_n g cap zs w base hown hl)
  clear hown
  have HM := Lib.hid (show zs.length = (zs.mergeSort fun x y => decide (x ≤ y)).length from (List.length_mergeSort _).symm)
  go_enter Tryz.func90, Tryz.ntmps90
  go_wp2_with (first
    | (go_at_call 111; refine HS.out.mono ?_; rintro e w1 ⟨rfl, ho1, hg1⟩; have HO1 := Lib.hid ho1; clear ho1)
    | (go_at_call 112; refine (compact_n _ _ _ _ _ base HM.out HO1.out hl).mono ?_; rintro e w2 ⟨rfl, ho2, hg2⟩; have HO2 := Lib.hid ho2; clear ho2))
  go_ret
  exact ⟨rfl, HO2.out, grown_both hg1 hg2⟩
def overlapB (r s : Rect) : Bool := decide (max r.x1 s.x1 < min r.x2 s.x2 ∧ max r.y1 s.y1 < min r.y2 s.y2)
set_option maxHeartbeats 2000000 in
theorem overlap_any (r s : Rect) (w : World) : Calls Tryz.prog 91 #[.agg #[.int .i64 r.x1, .int .i64 r.y1, .int .i64 r.x2, .int .i64 r.y2], .agg #[.int .i64 s.x1, .int .i64 s.y1, .int .i64 s.x2, .int .i64 s.y2]] w fun e w' => e = .returned (.bool (overlapB r s)) ∧ Below w.heap.size w w' := by
  unfold overlapB
  go_enter Tryz.func91, Tryz.ntmps91
  go_wp2
  all_goals (go_ret; exact ⟨ret_bool (by go_tidy; rw [Bool.eq_iff_iff]; simp <;> omega), ((Below.refl _ _).alloc (Nat.le_refl _) _).alloc (by simp) _⟩)
theorem tboardGo_ok {l wd : Int} {ds : List Rect} (h : boardGo l wd ds = 0) : ∀ d ∈ ds, 0 ≤ d.x1 ∧ d.x1 < d.x2 ∧ d.x2 ≤ l ∧ 0 ≤ d.y1 ∧ d.y1 < d.y2 ∧ d.y2 ≤ wd := by
  induction ds with
  | nil => simp
  | cons r rs ih =>
    unfold boardGo at h
    split at h
    · exact absurd h (by assumption)
    · rename_i hr
      intro d hd
      rcases List.mem_cons.1 hd with rfl | hd
      · have hr : rectIn l wd d = 0 := Classical.not_not.1 hr
        unfold rectIn at hr
        split at hr
        · cases hr
        · split at hr
          · cases hr
          · omega
      · exact ih h d hd
structure BoardOk (b : Board) : Prop where
  name : nameB b.name = true
  species : nameB b.species = true
  length : 1 ≤ b.length ∧ b.length ≤ 600000
  width : 1 ≤ b.width ∧ b.width ≤ 100000
  thick : 1 ≤ b.thick ∧ b.thick ≤ 20000
  cut : 0 ≤ b.cut ∧ b.cut ≤ 1
  moisture : 0 ≤ b.moisture ∧ b.moisture ≤ 400
  few : b.defects.length ≤ 60
  inside : ∀ d ∈ b.defects, 0 ≤ d.x1 ∧ d.x1 < d.x2 ∧ d.x2 ≤ b.length ∧ 0 ≤ d.y1 ∧ d.y1 < d.y2 ∧ d.y2 ≤ b.width
theorem tboardErr_ok {b : Board} (h : boardErr b = 0) : BoardOk b := by
  unfold boardErr at h
  split at h
  · cases h
  · rename_i h1
    split at h
    · cases h
    · rename_i h2
      split at h
      · cases h
      · rename_i h3
        have e1 : withinB b.length 1 600000 = true := by cases hq : withinB b.length 1 600000 <;> simp_all
        have e2 : withinB b.width 1 100000 = true := by cases hq : withinB b.width 1 100000 <;> simp_all
        have e3 : withinB b.thick 1 20000 = true := by cases hq : withinB b.thick 1 20000 <;> simp_all
        have e4 : withinB b.cut 0 1 = true := by cases hq : withinB b.cut 0 1 <;> simp_all
        have e5 : withinB b.moisture 0 400 = true := by cases hq : withinB b.moisture 0 400 <;> simp_all
        exact ⟨by cases hq : nameB b.name <;> simp_all, by cases hq : nameB b.species <;> simp_all, withinB_true e1, withinB_true e2, withinB_true e3, withinB_true e4, withinB_true e5, by omega, tboardGo_ok h⟩
def defXs (b : Board) : List Int := uniq (b.defects.flatMap fun d => [d.x1, d.x2])
theorem defXs_mem {b : Board} {z : Int} : z ∈ defXs b ↔ ∃ d ∈ b.defects, z = d.x1 ∨ z = d.x2 := by
  unfold defXs
  rw [uniq_mem]
  simp [List.mem_flatMap]
def progArea (b : Board) : Int := chain (stripA b.defects b.width) (defXs b)
theorem area_same {b : Board} (hb : DefsIn b) : progArea b = refArea b := by
  obtain ⟨t, ht, hl⟩ := lineXs_form hb
  have ha : (lineXs b).Pairwise (· < ·) := uniq_asc _
  have hmem : ∀ d ∈ b.defects, d.x1 ∈ lineXs b ∧ d.x2 ∈ lineXs b := fun d hd => ⟨lineXs_mem.2 (.inr (.inr ⟨d, hd, .inl rfl⟩)), lineXs_mem.2 (.inr (.inr ⟨d, hd, .inr rfl⟩))⟩
  have hw := hb.wid
  have hR : refArea b = sumR (colA b.defects b.width) 0 b.length := by
    unfold refArea
    rw [ht] at ha hl hmem ⊢
    refine (chain_sum ha (fun d hd => ?_) hl).1
    obtain ⟨m1, m2⟩ := hmem d hd
    constructor
    · rcases List.mem_cons.1 m1 with e | m
      · left; omega
      · right; exact m
    · rcases List.mem_cons.1 m2 with e | m
      · left; omega
      · right; exact m
  rw [hR]
  unfold progArea
  have hda : (defXs b).Pairwise (· < ·) := uniq_asc _
  cases hx : defXs b with
  | nil =>
    have hn : ∀ d ∈ b.defects, False := fun d hd => by
      have : d.x1 ∈ defXs b := defXs_mem.2 ⟨d, hd, .inl rfl⟩
      rw [hx] at this; cases this
    rw [sumR_zero (by have := hb.len; omega) fun p _ _ => colA_none (by omega) fun d hd => (hn d hd).elim]
    rfl
  | cons x xs =>
    rw [hx] at hda
    have hm2 : ∀ d ∈ b.defects, d.x1 ∈ x :: xs ∧ d.x2 ∈ x :: xs := fun d hd => by rw [← hx]; exact ⟨defXs_mem.2 ⟨d, hd, .inl rfl⟩, defXs_mem.2 ⟨d, hd, .inr rfl⟩⟩
    have hne : (x :: xs) ≠ [] := by simp
    obtain ⟨L, hL⟩ : ∃ L, (x :: xs).getLast? = some L := ⟨_, List.getLast?_eq_some_getLast hne⟩
    have hLm : L ∈ x :: xs := List.mem_of_getLast? hL
    have hLmax : ∀ v ∈ x :: xs, v ≤ L := by
      intro v hv
      obtain ⟨A, B, he⟩ := List.append_of_mem hLm
      rw [he] at hL hv hda
      cases B with
      | cons c B =>
        exfalso
        have e2 : (A ++ L :: c :: B).getLast? = (c :: B).getLast? := by
          rw [List.getLast?_append, List.getLast?_cons_cons]
          cases h : (c :: B).getLast? with
          | none => simp at h
          | some z => rfl
        rw [e2] at hL
        have := (List.pairwise_cons.1 (List.pairwise_append.1 hda).2.1).1 L (List.mem_of_getLast? hL)
        omega
      | nil =>
        rcases List.mem_append.1 hv with h | h
        · have := (List.pairwise_append.1 hda).2.2 v h L (by simp); omega
        · simp at h; omega
    have hxmin : ∀ v ∈ x :: xs, x ≤ v := fun v hv => by
      rcases List.mem_cons.1 hv with rfl | h
      · exact Int.le_refl _
      · have := (List.pairwise_cons.1 hda).1 v h; omega
    obtain ⟨c1, c2⟩ := chain_sum (ds := b.defects) (wd := b.width) hda (fun d hd => by
      obtain ⟨m1, m2⟩ := hm2 d hd
      constructor
      · rcases List.mem_cons.1 m1 with e | m
        · left; omega
        · right; exact m
      · rcases List.mem_cons.1 m2 with e | m
        · left; omega
        · right; exact m) hL
    have hin : ∀ v ∈ x :: xs, 0 ≤ v ∧ v ≤ b.length := fun v hv => by
      rw [← hx] at hv
      obtain ⟨d, hd, h⟩ := defXs_mem.1 hv
      have := hb.ins d hd; omega
    have h0 := hin x (by simp)
    have h1 := hin L hLm
    rw [c1, sumR_split _ h0.1 (show x ≤ b.length by omega), sumR_split _ c2 h1.2, sumR_zero h0.1 fun p p1 p2 => colA_none (by omega) fun d hd => by have := hxmin _ (hm2 d hd).1; omega,
      sumR_zero h1.2 fun p p1 p2 => colA_none (by omega) fun d hd => by have := hLmax _ (hm2 d hd).2; omega]
    omega
def stGo (l : List Species) (pre : List ByteArray) : List Board → Int
  | [] => 0
  | b :: r => if listedE l b ≠ 0 then listedE l b else if (pre.any fun t => b.name.toList == t.toList) then 5 else stGo l (pre ++ [b.name]) r
def checkStockE (l : List Species) (st : List Board) : Int := if checkSpecies l ≠ 0 then checkSpecies l else if 100 < st.length then 8 else stGo l [] st
theorem stGo_err {l : List Species} {st : List Board} {k : Nat} {e : Int} (hk : k < st.length) (h : e = stGo l ((st.map (·.name)).take k) (st.drop k)) (h1 : (listedE l st[k] != 0) = true) : e = listedE l st[k] := by
  rw [h, List.drop_eq_getElem_cons hk, stGo, if_pos (by simpa using h1)]
theorem stGo_dup {l : List Species} {st : List Board} {k : Nat} {e : Int} (hk : k < st.length) (h : e = stGo l ((st.map (·.name)).take k) (st.drop k)) (h1 : (listedE l st[k] != 0) = false)
    (h2 : (((st.map (·.name)).take k).any fun t => st[k].name.toList == t.toList) = true) : e = 5 := by
  rw [h, List.drop_eq_getElem_cons hk, stGo, if_neg (by simpa using h1), if_pos h2]
theorem stGo_next {l : List Species} {st : List Board} {k : Nat} {e : Int} (hk : k < st.length) (h : e = stGo l ((st.map (·.name)).take k) (st.drop k)) (h1 : (listedE l st[k] != 0) = false)
    (h2 : (((st.map (·.name)).take k).any fun t => st[k].name.toList == t.toList) = false) : e = stGo l ((st.map (·.name)).take (k + 1)) (st.drop (k + 1)) := by
  rw [h, List.drop_eq_getElem_cons hk, stGo, if_neg (by simpa using h1), if_neg (by simp [h2]), take_map_step _ hk]
theorem stGo_end {l : List Species} {st : List Board} {k : Nat} {e : Int} (hk : st.length ≤ k) (h : e = stGo l ((st.map (·.name)).take k) (st.drop k)) : e = 0 := by
  rw [h, List.drop_eq_nil_of_le hk]; rfl
set_option maxRecDepth 100000 in
set_option maxHeartbeats 4000000 in
theorem checkStockP_any (la : Option Addr) (l : List Species) (lc : Nat) (a : Option Addr) (st : List Board) (c : Nat) (w : World) (hs : Speciess.V w la l) (hsl : l.length ≤ 9223372036854775807)
    (hv : Boards.V w a st) (hl : st.length ≤ 9223372036854775807) :
    Calls Tryz.prog 18 #[.slice la l.length lc, .slice a st.length c] w fun e w' => e = .returned (.int .i64 (checkStockE l st)) ∧ Below w.heap.size w w' := by
  by_cases h0 : checkSpecies l = 0
  · by_cases hbig : 100 < st.length
    · have HE := Lib.hid (show checkStockE l st = 8 by simp [checkStockE, h0, hbig])
      have h0' : (checkSpecies l != 0) = false := by simp [h0]
      clear h0
      go_enter Tryz.func18, Tryz.ntmps18
      go_wp2_with (go_at_call 46; refine (checkSpecies_any _ l _ _ hs hsl).mono ?_; rintro e w1 ⟨rfl, hb1⟩)
      go_ret
      exact ⟨ret_int (by go_tidy; rw [HE.out]), hb1⟩
    · have hmm := @run_makeMap Tryz.prog
      have HF := Lib.hid (show checkStockE l st = stGo l ((st.map (·.name)).take 0) (st.drop 0) by simp [checkStockE, h0, hbig])
      have h0' : (checkSpecies l != 0) = false := by simp [h0]
      clear h0
      go_enter Tryz.func18, Tryz.ntmps18
      go_upto_region 6 with (go_at_call 46; refine (checkSpecies_any _ l _ _ hs hsl).mono ?_; rintro e w1 ⟨rfl, hb1⟩)
      go_wp2_with fail
      have hz1 := hb1.size
      have hS0 := Lib.hid (Seen.made w1)
      have hbA : Below w.heap.size w (w1.alloc (.map #[] 0)) := hb1.alloc hz1 _
      go_loopw [21] (fun i wr => ∃ k : Nat, k ≤ st.length ∧ i = .int .i64 k ∧ Hid (checkStockE l st = stGo l ((st.map (·.name)).take k) (st.drop k)) ∧ Hid (Seen wr w1.heap.size k ((st.map (·.name)).take k)) ∧ Below w.heap.size w wr ∧ w1.heap.size < wr.heap.size) (fun i _ => st.length - (intOf i).toNat)
      case atStart => exact ⟨0, Nat.zero_le _, rfl, HF, hS0, hbA, by simp⟩
      case round =>
        clear HF hS0 hbA
        obtain ⟨k, hk, rfl, HF, HS, hbw, hzw⟩ := hrel
        have hsz := hbw.size
        by_cases hlt : k < st.length
        · obtain ⟨b, off, ad, cd, ha, ⟨c0, c1, c2, c3, c4, c5, c6, c7⟩, hr, hrl, hwf⟩ := (hv.keep hbw).at' hlt
          subst ha
          have hns := hwf.1
          have hsK := hs.keep hbw
          have hbk := block_lt_of_cell c0
          simp only at hbk
          have HER := Lib.hid (fun h => stGo_err hlt HF.out h)
          have HDU := Lib.hid (fun h h' => stGo_dup hlt HF.out h h')
          have HNX := Lib.hid (fun h h' => stGo_next hlt HF.out h h')
          have HTK := Lib.hid (show (st.map (·.name)).take (k + 1) = (st.map (·.name)).take k ++ [st[k].name] from take_map_step (·.name) hlt)
          generalize hbd : st[k] = bd at *
          clear hbd HF
          go_wp2_with (first
            | (go_at_call 47; refine (listed_any _ l _ bd _ _ _ (hsK.keep ((Below.refl _ _).alloc (Nat.le_refl _) _)) hsl (hr.keep ((Below.refl _ _).alloc (Nat.le_refl _) _)) hrl hwf).mono ?_; rintro e w2 ⟨rfl, hb⟩; obtain ⟨hc, hf⟩ := bcell hb; have hz := hb.size; have HS1 := Lib.hid (((show Seen wr _ _ _ from HS.out).below ((Below.refl _ _).alloc (Nat.le_refl _) _)).below hb); have hlk := Seen.run HS1.out bd.name hns)
            | (at_mapUpdate; refine wpList_seen rfl _ _ _ rfl w1.heap.size k _ bd.name hns (by omega) rfl rfl rfl HS1.out ?_; intro w3 hS3 hg3; have HS3 := Lib.hid hS3; clear hS3))
          · go_ret
            exact ⟨ret_int (by go_tidy; exact (HER.out (by assumption)).symm), (hbw.alloc (by omega) _).trans (hb.mono (by simp; omega))⟩
          · go_ret
            exact ⟨ret_int (by go_tidy; exact (HDU.out (by assumption) (by assumption)).symm), (hbw.alloc (by omega) _).trans (hb.mono (by simp; omega))⟩
          · have hS3 := HS3.out
            rw [← HTK.out] at hS3
            go_roundw
            case rel => exact ⟨k + 1, by omega, by go_num, Lib.hid (HNX.out (by assumption) (by assumption)), Lib.hid hS3, ((hbw.alloc (by omega) _).trans (hb.mono (by simp; omega))).grown hg3 (by simp at hz; omega) (fun j hj => by cases hj; omega), by have := hg3.size; simp at hz; omega⟩
            case measure => simp [intOf]; omega
        · have hm := Lib.hid (stGo_end (by omega) HF.out)
          clear HF
          go_wp2_with fail
          go_ret
          exact ⟨ret_int hm.out.symm, hbw⟩
  · have h0' : (checkSpecies l != 0) = true := by simp [h0]
    have HE := Lib.hid (show checkStockE l st = checkSpecies l by unfold checkStockE; rw [if_pos h0])
    clear h0
    go_enter Tryz.func18, Tryz.ntmps18
    go_wp2_with (go_at_call 46; refine (checkSpecies_any _ l _ _ hs hsl).mono ?_; rintro e w1 ⟨rfl, hb1⟩)
    go_ret
    exact ⟨ret_int (by go_tidy; rw [HE.out]), hb1⟩
section
variable {α : Type} {enc : α → List Value} {k : Nat}
variable [Inhabited α]
theorem holdsK_of_own {w : World} {base e n : Nat} {v : Value} {l : List α} (hk : ∀ x, (enc x).length = k) (h : w.ownsRow base e k v n (l.flatMap enc)) (hne : l ≠ []) (hk0 : 0 < k) :
    ∃ g cap, v = .slice (some ⟨g, 0, none⟩) n cap ∧ base ≤ g ∧ g < w.heap.size ∧ n = l.length ∧ Go.Sort.HoldsK enc k w g 0 l.toArray := by
  obtain ⟨g, cap, rfl, hb, hg, hn, _, _, hc⟩ := own_cells hk h hne hk0
  refine ⟨g, cap, rfl, hb, hg, hn, fun t ht => ?_⟩
  have ht' : t < l.length * k := by simpa using ht
  have h1 : t / k < l.length := Nat.div_lt_of_lt_mul (by rwa [Nat.mul_comm])
  have h2 : t % k < k := Nat.mod_lt _ hk0
  have e1 : t / k * k + t % k = t := by rw [Nat.mul_comm]; exact Nat.div_add_mod t k
  have := hc (t / k) h1 (t % k) h2
  rw [e1] at this
  rw [Go.Sort.get_flatK _ _ _ _ (by simpa using ht'), Nat.zero_add]
  refine ⟨?_, this.2⟩
  rw [this.1]
  simp [getElem!_pos, h1, hk, h2]
theorem flatK_toList (hk : ∀ x, (enc x).length = k) (hk0 : 0 < k) (d : Array α) : (Go.Sort.flatK enc k d).toList = d.toList.flatMap enc := by
  apply List.ext_getElem?
  intro t
  by_cases ht : t < d.size * k
  · have h1 : t / k < d.toList.length := by simpa using Nat.div_lt_of_lt_mul (by rwa [Nat.mul_comm] at ht)
    have h2 : t % k < k := Nat.mod_lt _ hk0
    have e1 : t / k * k + t % k = t := by rw [Nat.mul_comm]; exact Nat.div_add_mod t k
    have e2 := flat_get hk h1 h2
    rw [e1] at e2
    rw [e2, Array.getElem?_toList, Array.getElem?_eq_getElem (by simpa using ht)]
    have e3 := Go.Sort.get_flatK enc k d t ht
    rw [getElem!_pos _ _ (by simpa using ht)] at e3
    rw [e3]
    have h1' : t / k < d.size := by simpa using h1
    simp [getElem!_pos, h1', hk, h2]
  · rw [List.getElem?_eq_none (by simpa using ht), List.getElem?_eq_none (by rw [flat_len hk]; simpa using ht)]
theorem own_sorted {w : World} {base e n m g cap : Nat} {l : List α} {d : Array α} {os : Array Obj} (hk : ∀ x, (enc x).length = k) (hk0 : 0 < k) (h : w.ownsRow base e k (.slice (some ⟨g, 0, none⟩) n cap) n (l.flatMap enc)) (hd : d.size = n) :
    (Go.Proofs.sortWorldK enc k w g 0 m d os).ownsRow base e k (.slice (some ⟨g, 0, none⟩) n cap) n (d.toList.flatMap enc) := by
  refine ⟨by rw [flat_len hk]; simp [hd], ?_⟩
  rcases h.2 with ⟨e0, _⟩ | ⟨g', cap', cur, e0, hb, hg, hn, hm, hs, ht⟩
  · cases e0
  · injection e0 with e1 _ e3
    injection e1 with e1
    injection e1 with e1
    subst e1; subst e3
    have hlt : g < w.heap.size := (Array.getElem?_eq_some_iff.1 hg).1
    refine .inr ⟨g, cap, Go.Sort.putCells id 0 (Go.Sort.flatK enc k d) cur, rfl, hb, ?_, hn, hm, by simpa [Go.Sort.putCells] using hs, ?_⟩
    · unfold Go.Proofs.sortWorldK Go.Sort.putRowK Go.Sort.putRow
      rw [Go.Sort.heap_grow_old _ _ (by simpa [Go.Sort.mapBlock, Go.Sort.ahead] using hlt)]
      simp [Go.Sort.mapBlock, Go.Sort.ahead, Array.getElem?_modify, hg, Go.Sort.onCells]
    · rw [← flatK_toList hk hk0]
      have hnk : n * k ≤ cur.size := by rw [hs]; exact Nat.mul_le_mul_right _ hn
      apply List.ext_getElem?
      intro j
      rw [List.getElem?_take]
      by_cases hj : j < n * k
      · have hjc : j < cur.size := by omega
        rw [if_pos hj, Array.getElem?_toList, Array.getElem?_toList, Array.getElem?_eq_getElem (show j < (Go.Sort.flatK enc k d).size by simp [hd]; exact hj)]
        simp only [Go.Sort.putCells, Array.getElem?_mapIdx, Array.getElem?_eq_getElem hjc, Option.map_some]
        rw [if_pos (by simp [hd]; exact hj)]
        simp [getElem!_pos, hd, hj]
      · rw [if_neg hj, List.getElem?_eq_none (by simp [hd]; omega)]
theorem below_sorted {B : Nat} {w0 w : World} {g m : Nat} {d : Array α} {os : Array Obj} (h : Below B w0 w) (hg : B ≤ g) (hlt : g < w.heap.size) (hB : B ≤ w.heap.size) : Below B w0 (Go.Proofs.sortWorldK enc k w g 0 m d os) := by
  refine ⟨h.os, h.tape, h.output, ?_, fun j hj => ?_⟩
  · have := h.size
    simp [Go.Proofs.sortWorldK, Go.Sort.putRowK, Go.Sort.putRow, Go.Sort.mapBlock, Go.Sort.ahead]; omega
  · rw [← h.block j hj]
    unfold Go.Proofs.sortWorldK Go.Sort.putRowK Go.Sort.putRow
    rw [Go.Sort.heap_grow_old _ _ (by simp [Go.Sort.mapBlock, Go.Sort.ahead]; omega)]
    simp [Go.Sort.mapBlock, Go.Sort.ahead, Array.getElem?_modify, show g ≠ j by omega]
theorem perm_of_permIn {d d' : Array α} (h : Go.Sort.PermIn 0 d.size d d') : d'.size = d.size ∧ d'.toList.Perm d.toList := by
  obtain ⟨h1, _, h3⟩ := h
  refine ⟨h1, ?_⟩
  have e1 : d.extract 0 d.size = d := by simp
  have e2 : d'.extract 0 d.size = d' := by rw [← h1]; simp
  rw [e1, e2] at h3
  exact h3
theorem pairwise_of_sorted {lt : α → α → Bool} {d : Array α} {n : Nat} (hn : n = d.size) (h : Go.Sort.SortedIn lt 0 n d) : d.toList.Pairwise (fun x y => lt y x = false) := by
  rw [List.pairwise_iff_getElem]
  intro i j hi hj hij
  have hi' : i < d.size := by simpa using hi
  have hj' : j < d.size := by simpa using hj
  have := h i j (Nat.zero_le _) hij (by omega)
  rw [getElem!_pos d i hi', getElem!_pos d j hj'] at this
  simpa using this
end
theorem iv_info : (Tryz.prog.info? 149).map (fun i => (i.zero, i.size, i.bytes)) = some (some (.agg #[.int .i64 0, .int .i64 0]), 2, 16) := by kernel_rfl
def cellsI (x : Iv) : List Value := [.int .i64 x.1, .int .i64 x.2]
theorem cellsI_len (x : Iv) : (cellsI x).length = 2 := rfl
theorem cellsI_one (x : Iv) : ∀ v ∈ cellsI x, v.oneCell' = true := by
  intro v hv
  simp only [cellsI, List.mem_cons, List.not_mem_nil, or_false] at hv
  rcases hv with rfl | rfl <;> rfl
theorem ivAt_of {w : World} {b o : Nat} {x : Iv} (h : ∀ c u, (cellsI x)[c]? = some u → w.cell? ⟨b, o + c, none⟩ = some u) : Iv.at w b o x := ⟨h 0 _ rfl, h 1 _ rfl⟩
theorem lift_sub {α : Type} {p : α → Prop} {l : List α} (h : ∀ x ∈ l, p x) : ∃ L : List {x // p x}, L.map (·.1) = l :=
  ⟨l.pmap Subtype.mk h, by rw [List.map_pmap]; simp⟩
theorem flat_sub {α : Type} {p : α → Prop} {enc : α → List Value} (L : List {x // p x}) : L.flatMap (fun x => enc x.1) = (L.map (·.1)).flatMap enc := by rw [List.flatMap_map]
abbrev BI : Type := {x : Iv // -1000000 ≤ x.1 ∧ x.1 ≤ 1000000}
instance : Inhabited BI := ⟨⟨(0, 0), by decide⟩⟩
def encBI (x : BI) : List Value := cellsI x.1
def cmpBI (x y : BI) : Int := x.1.1 - y.1.1
theorem ltBI (x y : BI) : ltOf cmpBI x y = decide (x.1.1 < y.1.1) := by
  unfold ltOf cmpBI
  by_cases h1 : x.1.1 < y.1.1
  · simp [h1]; omega
  · simp [h1]; omega
theorem swoBI : Go.Sort.SWO (ltOf cmpBI) where
  irrefl x := by rw [ltBI]; simp
  trans x y z h1 h2 := by rw [ltBI] at *; simp at *; omega
  ntrans x y z h1 h2 := by rw [ltBI] at *; simp at *; omega
set_option maxHeartbeats 1000000 in
theorem defective1_any (x y : BI) (w : World) :
    Calls Tryz.prog 93 #[.agg (encBI x).toArray, .agg (encBI y).toArray] w fun e w' => e = .returned (.int .i64 (cmpBI x y)) ∧ ∃ q os', w' = Go.Sort.grow (w.drewN q) os' := by
  obtain ⟨⟨x, x'⟩, hx1, hx2⟩ := x
  obtain ⟨⟨y, y'⟩, hy1, hy2⟩ := y
  simp only at hx1 hx2 hy1 hy2
  show Calls Tryz.prog 93 #[.agg #[.int .i64 x, .int .i64 x'], .agg #[.int .i64 y, .int .i64 y']] w fun e w' => e = .returned (.int .i64 (x - y)) ∧ ∃ q os', w' = Go.Sort.grow (w.drewN q) os'
  go_enter Tryz.func93, Tryz.ntmps93
  go_wp2_with fail
  go_ret
  exact ⟨rfl, 0, _, by rw [Go.Sort.alloc_eq_grow, Go.Sort.alloc_eq_grow, Go.Sort.grow_grow]; rfl⟩
theorem cmpLaysBI (blk off size : Nat) (w : World) : CmpLays Tryz.prog 93 #[] encBI 2 cmpBI blk off size w := fun _ _ _ _ x y => by
  have h := defective1_any x y
  simpa using h _
theorem sortIv_any (base : Nat) (v : Value) (n : Nat) (l : List Iv) (w : World) (h : w.ownsRow base 149 2 v n (l.flatMap cellsI)) (hb : ∀ d ∈ l, -1000000 ≤ d.1 ∧ d.1 ≤ 1000000) (hl : l.length ≤ 1000) (hbase : base ≤ w.heap.size) :
    Calls Tryz.prog 92 #[v, .func (.func 93) #[] #[]] w fun e w' => e = .returned (.tuple #[]) ∧ ∃ r : List Iv, r.Perm l ∧ r.Pairwise (fun c d => c.1 ≤ d.1) ∧ w'.ownsRow base 149 2 v n (r.flatMap cellsI) ∧ Below base w w' := by
  have eg : ∀ args w, (callFunc 93 args).run Tryz.prog w = .ok (.enter 93 args) w := enters_of Tryz.func93 (by kernel_rfl) rfl
  have hn := own_len cellsI_len (by decide) h
  by_cases hne : l = []
  · subst hne
    obtain ⟨a, c, rfl, _, _⟩ := own_slice h
    simp only [List.length_nil] at hn
    subst hn
    exact (AnyF.slices_SortFunc_none Tryz.sortIv a c _ w).mono fun e w' ⟨he, hw⟩ => ⟨he, [], List.Perm.refl _, List.Pairwise.nil, by rw [hw]; exact h, by rw [hw]; exact Below.refl _ _⟩
  · obtain ⟨L, rfl⟩ := lift_sub hb
    have hL : L ≠ [] := by rintro rfl; simp at hne
    have h' : w.ownsRow base 149 2 v n (L.flatMap encBI) := by rw [show L.flatMap encBI = (L.map (·.1)).flatMap cellsI from flat_sub L]; exact h
    obtain ⟨g, cap, rfl, hbg, hg, hnl, hH⟩ := holdsK_of_own (enc := encBI) (fun x => rfl) h' hL (by decide)
    have hcon := AnyQ.slices_SortFunc Tryz.sortIv 2 Tryz.isAgg149 Tryz.sizeOf149 encBI (fun _ => rfl) (fun x v hv => cellsI_one x.1 v hv) cmpBI swoBI 93 #[] g 0 cap L.toArray w eg (cmpLaysBI g 0 L.toArray.size w) hH hg (by simp at hl ⊢; omega)
    have hnl' : L.toArray.size = n := by simp [hnl]
    rw [hnl'] at hcon
    refine hcon.mono fun e w' ⟨he, d', m, os, hp, hs, hw⟩ => ?_
    rw [← hnl'] at hp hs
    obtain ⟨hd, hperm⟩ := perm_of_permIn hp
    have hsrt := pairwise_of_sorted (by simpa using hd.symm) hs
    refine ⟨he, d'.toList.map (·.1), ?_, ?_, ?_, ?_⟩
    · have := hperm.map (·.1); simpa using this
    · rw [List.pairwise_map]
      exact hsrt.imp fun {x y} hxy => by rw [ltBI] at hxy; simpa using hxy
    · rw [← flat_sub, hw]
      exact own_sorted (enc := encBI) (fun _ => rfl) (by decide) h' (by rw [hd, hnl'])
    · rw [hw]
      exact below_sorted (Below.refl _ _) hbg hg hbase
/-- lines of a row of the call's own, nil too. -/
theorem linesV_any (base : Nat) (v : Value) (n : Nat) (zs : List Int) (w : World) (h : w.ownsRow base 3 1 v n (zs.map (Value.int .i64))) (hl : zs.length < 1000000) (hbase : base ≤ w.heap.size) :
    Calls Tryz.prog 90 #[v] w fun e w' => ∃ (a' : Option Addr) (c' : Nat), e = .returned (.slice a' (uniq zs).length c') ∧ IntsV w' a' (uniq zs) ∧ Below base w w' := by
  have hn : n = zs.length := by have := h.1; simp at this; omega
  subst hn
  by_cases hne : zs = []
  · subst hne
    obtain ⟨a, c, rfl, _, _⟩ := own_slice h
    have hu : uniq [] = [] := uniq_eq (by simp) (by simp)
    rw [hu]
    show Calls Tryz.prog 90 #[.slice a 0 c] w fun e w' => ∃ (a' : Option Addr) (c' : Nat), e = .returned (.slice a' 0 c') ∧ IntsV w' a' [] ∧ Below base w w'
    go_enter Tryz.func90, Tryz.ntmps90
    go_wp2_with (first
      | (go_at_call 111; refine (Tryz.slices_Sort_int_none a c _).mono ?_; rintro e w1 ⟨rfl, rfl⟩)
      | (go_at_call 112; refine (Tryz.slices_Compact_int_empty a c _).mono ?_; rintro e w2 ⟨rfl, rfl⟩))
    go_ret
    exact ⟨a, c, rfl, fun h => absurd rfl h, Below.refl _ _⟩
  · rcases h.2 with ⟨_, h0⟩ | ⟨g, cap, cur, rfl, hb, hg, r⟩
    · exact absurd (List.length_eq_zero_iff.1 h0) hne
    · refine (lines_any base g cap zs w h hl).mono ?_
      rintro e w' ⟨he, ho, hgr⟩
      refine ⟨_, cap, he, ?_, (Below.refl _ _).grown hgr hbase (fun j hj => by injection hj with hj; omega)⟩
      exact own_ints ho
def spansK (ds : List Rect) (x x' wd : Int) (k : Nat) : List Iv := ((ds.take k).filter fun d => overlapB d ⟨x, 0, x', wd⟩).map fun d => (d.y1, d.y2)
theorem spansK_yes {ds : List Rect} {x x' wd : Int} {k : Nat} (hk : k < ds.length) (h : overlapB ds[k] ⟨x, 0, x', wd⟩ = true) : spansK ds x x' wd (k + 1) = spansK ds x x' wd k ++ [(ds[k].y1, ds[k].y2)] := by
  unfold spansK
  rw [List.take_succ_eq_append_getElem hk, List.filter_append, List.filter_cons, if_pos h, List.filter_nil, List.map_append]; rfl
theorem spansK_no {ds : List Rect} {x x' wd : Int} {k : Nat} (hk : k < ds.length) (h : overlapB ds[k] ⟨x, 0, x', wd⟩ = false) : spansK ds x x' wd (k + 1) = spansK ds x x' wd k := by
  unfold spansK
  rw [List.take_succ_eq_append_getElem hk, List.filter_append, List.filter_cons, if_neg (by simp [h]), List.filter_nil, List.append_nil]
theorem spansK_len (ds : List Rect) (x x' wd : Int) (k : Nat) : (spansK ds x x' wd k).length ≤ k := by
  unfold spansK
  rw [List.length_map]
  exact Nat.le_trans (List.length_filter_le _ _) (List.length_take_le _ _)
theorem spansK_all {ds : List Rect} {x x' wd : Int} (hx : x < x') (hd : ∀ d ∈ ds, d.x1 < d.x2 ∧ 0 ≤ d.y1 ∧ d.y1 < d.y2 ∧ d.y2 ≤ wd) : spansK ds x x' wd ds.length = overl ds x x' := by
  unfold spansK overl
  rw [List.take_length]
  congr 1
  refine List.filter_congr fun d hd' => ?_
  have := hd d hd'
  unfold overlapB
  simp only
  rw [Bool.eq_iff_iff]
  simp only [decide_eq_true_eq, Bool.and_eq_true]
  omega
theorem spans_sum {w wd s : Int} {r : List Iv} (hp : r.Pairwise fun a b => a.1 ≤ b.1) (hr : ∀ v ∈ r, 0 ≤ v.1 ∧ v.1 < v.2 ∧ v.2 ≤ wd) (hw : 0 ≤ wd) : (r.foldl (spanStep w) (s, 0)).1 = s + w * cover wd r := by
  rw [spans_ok hp hr (Int.le_refl _) hw]; rfl
def defK (b : Board) (k : Nat) : List Int := (b.defects.take k).flatMap fun d => [d.x1, d.x2]
theorem defK_step {b : Board} {k : Nat} (hk : k < b.defects.length) : defK b (k + 1) = defK b k ++ [b.defects[k].x1, b.defects[k].x2] := by
  unfold defK
  rw [List.take_succ_eq_append_getElem hk, List.flatMap_append]; simp
theorem defK_len (b : Board) (k : Nat) (hk : k ≤ b.defects.length) : (defK b k).length = 2 * k := by
  induction k with
  | zero => simp [defK]
  | succ k ih => rw [defK_step hk, List.length_append, ih (by omega)]; simp; omega
set_option maxRecDepth 100000 in
set_option maxHeartbeats 8000000 in
theorem defective_any (b : Board) (a : Option Addr) (c : Nat) (w : World) (hv : Rects.V w a b.defects) (hl : b.defects.length ≤ 60) (hb : DefsIn b) (hb2 : b.length ≤ 600000) (hw2 : b.width ≤ 100000) :
    Calls Tryz.prog 50 #[.agg #[.string b.name, .string b.species, .int .i64 b.length, .int .i64 b.width, .int .i64 b.thick, .int .i64 b.cut, .int .i64 b.moisture, .slice a b.defects.length c]] w fun e w' => e = .returned (.int .i64 (progArea b)) ∧ Below w.heap.size w w' := by
  obtain ⟨i0, hi0, hz0, hz1, hz2⟩ := info_parts int_info
  obtain ⟨j0, hj0, hy0, hy1, hy2⟩ := info_parts iv_info
  have hw1 := hb.wid
  have HIN := Lib.hid hb.ins
  have HDX := Lib.hid (show uniq (defK b b.defects.length) = defXs b by unfold defK defXs; rw [List.take_length])
  have HXB := Lib.hid (show ∀ z ∈ defXs b, 0 ≤ z ∧ z ≤ 600000 from fun z hz => by
    obtain ⟨d, hd, h⟩ := defXs_mem.1 hz
    have := hb.ins d hd; omega)
  have HXA := Lib.hid (show (defXs b).Pairwise (· < ·) from uniq_asc _)
  have HXL := Lib.hid (show (defXs b).length ≤ 120 from by
    unfold defXs
    refine Nat.le_trans (uniq_length _) ?_
    have := defK_len b b.defects.length (Nat.le_refl _)
    unfold defK at this
    rw [List.take_length] at this
    omega)
  have HPA := Lib.hid (show progArea b = 0 + chain (stripA b.defects b.width) ((defXs b).drop 0) by unfold progArea; simp)
  clear hb
  go_enter Tryz.func50, Tryz.ntmps50
  go_upto_region 1 with fail
  refine gen_world (fun W => W.cell? ⟨w.heap.size, 3, none⟩ = some (.int .i64 b.width) ∧ W.cell? ⟨w.heap.size, 7, none⟩ = some (.slice a b.defects.length c) ∧ Below w.heap.size w W ∧ w.heap.size < W.heap.size) ?_ ?_
  · exact ⟨by simp [go_sem], by simp [go_sem], (Below.refl _ _).alloc (Nat.le_refl _) _, by simp⟩
  rintro W ⟨e3, e7, hbW, hzW⟩
  have hvW := hv.keep hbW
  go_wp2_with fail
  go_loopw [3, 19] (fun v i wr => ∃ k : Nat, k ≤ b.defects.length ∧ i = .int .i64 k ∧ wr.ownsRow W.heap.size 3 1 v (2 * k) ((defK b k).map (Value.int .i64)) ∧ Below W.heap.size W wr) (fun _ i _ => b.defects.length - (intOf i).toNat)
  case atStart => exact ⟨0, Nat.zero_le _, rfl, ⟨rfl, .inl ⟨rfl, rfl⟩⟩, Below.refl _ _⟩
  case round =>
    obtain ⟨k, hk, rfl, hown, hbr⟩ := hrel
    have hszr := hbr.size
    by_cases hlt : k < b.defects.length
    · obtain ⟨bk, off, rfl, hat⟩ := (hvW.keep hbr).at_ hlt
      obtain ⟨c0, c1, c2, c3, -⟩ := hat
      have HS := Lib.hid (defK_step hlt)
      generalize hd0 : b.defects[k] = d at *
      clear hd0
      go_wp2_with (at_builtin; refine wpList_append_own _ rfl _ _ 73 rfl W.heap.size 3 i0 (.int .i64 0) 1 8 Tryz.underlying73 hi0 hz0 hz1 hz2 rfl (by decide) _ _ _ rfl ((hown.alloc _).alloc _) ⟨wr.heap.size + 1, 0, none⟩ 2 2 [.int .i64 d.x1, .int .i64 d.x2] rfl rfl (news_of _ _ _ _ (by simp)) (by simp [Value.oneCell']) (by simp only [maxLen]; omega) (by omega) (by simp; omega) ?_; intro v' w5 ho5 hgr5 hnil5; have hgr6 : ((wr.alloc (.cells #[.int .i64 d.x1, .int .i64 d.y1, .int .i64 d.x2, .int .i64 d.y2] 41)).alloc (.cells #[.int .i64 d.x1, .int .i64 d.x2] 3)).grownBy w5 u3.ownBlock := hgr5; clear hgr5; have HGR := Lib.hid hgr6; clear hgr6; have HO5 := Lib.hid ho5; clear ho5 hnil5)
      go_roundw
      case rel => exact ⟨k + 1, by omega, by go_num, by rw [HS.out, List.map_append]; exact HO5.out, ((hbr.alloc (by omega) _).alloc (by simp; omega) _).grown HGR.out (by simp; omega) (fun j hj => own_base hown hj)⟩
      case measure => simp [intOf]; omega
    · obtain rfl : k = b.defects.length := by omega
      have hzl : (defK b b.defects.length).length < 1000000 := by rw [defK_len b _ (Nat.le_refl _)]; omega
      have HLN := Lib.hid (linesV_any W.heap.size u3 (2 * b.defects.length) (defK b b.defects.length) wr hown hzl hszr)
      rw [HDX.out] at HLN
      obtain ⟨X, hX⟩ : ∃ X, X = defXs b := ⟨_, rfl⟩
      rw [← hX] at HLN HXB HXA HXL HPA
      have hXL := HXL.out
      clear hX HXL hown hzl
      go_wp2_with (go_at_call 90; refine HLN.out.mono ?_; rintro e w1 ⟨ax, cx, rfl, hix, hb1⟩)
      have hbW1 : Below W.heap.size W w1 := hbr.trans hb1
      have f3 := cell_keep hbW1 e3
      have f7 := cell_keep hbW1 e7
      have hv1 := hvW.keep hbW1
      have hc1 : Below w.heap.size w w1 := hbW.trans (hbW1.mono (by omega))
      have hz1 : w.heap.size < w1.heap.size := by have := hbW1.size; omega
      clear e3 e7 hvW hbW hzW hbr hszr hb1 hbW1 HLN hlt hk
      go_loopw [6, 7] (fun s i wr => ∃ (k : Nat) (S : Int), i = .int .i64 ((k : Int) + 1) ∧ s = .int .i64 S ∧ k ≤ X.length ∧ (0 ≤ S ∧ S ≤ 60000000000 * (k : Int)) ∧ Hid (progArea b = S + chain (stripA b.defects b.width) (X.drop k)) ∧ Below w1.heap.size w1 wr) (fun _ i _ => X.length + 1 - (intOf i).toNat)
      case atStart => exact ⟨0, 0, rfl, rfl, Nat.zero_le _, by simp, HPA, Below.refl _ _⟩
      case round =>
        clear HPA
        obtain ⟨k, S, rfl, rfl, hk, hS, HPA, hbr⟩ := hrel
        have hszr := hbr.size
        by_cases hlt : k + 1 < X.length
        · have hlt0 : k < X.length := by omega
          obtain ⟨bx, ox, hax, hbx, cx0⟩ := (hix.keep hbr).at' hlt0
          have cx1 := (by rw [hax] at hix; exact (hix.keep hbr).cell hlt : wr.cell? ⟨bx, ox + (k + 1), none⟩ = some (.int .i64 X[k + 1]))
          subst hax
          have hxb0 := HXB.out _ (List.getElem_mem hlt0)
          have hxb1 := HXB.out _ (List.getElem_mem hlt)
          have hxlt : X[k] < X[k + 1] := List.pairwise_iff_getElem.1 HXA.out _ _ _ _ (by omega)
          have HN := Lib.hid (chain_step hlt HPA.out)
          clear HPA
          generalize X[k] = x at *
          generalize X[k + 1] = x' at *
          have g3 := cell_keep hbr f3
          have g7 := cell_keep hbr f7
          have hvr := hv1.keep hbr
          have hzr : w.heap.size < wr.heap.size := by omega
          have hki : (k : Int) + 1 < (X.length : Int) := by omega
          have hki0 : (k : Int) < (X.length : Int) := by omega
          have hkn : ((k : Int) + 1).toNat = k + 1 := by omega
          have hkw : IntKind.i64.wrap ((k : Int) + 1) = (k : Int) + 1 := IntWalk.i64_in _ (by omega)
          have hkm : IntKind.i64.wrap ((k : Int) + 1 - 1) = (k : Int) := by rw [Int.add_sub_cancel]; exact IntWalk.i64_in _ (by omega)
          have hkm' : IntKind.i64.wrap (k : Int) = (k : Int) := IntWalk.i64_in _ (by omega)
          have hk0 : (0 : Int) ≤ (k : Int) + 1 := by omega
          have hk00 : (0 : Int) ≤ (k : Int) := by omega
          go_wp2_with fail
          refine wp_region_mix (fun w' => ∃ g, w' = grew wr g) 13 [(0, true), (1, true), (2, true), (3, true), (4, true), (5, true), (6, true), (7, true), (8, true), (9, true), (10, true), (11, true), (12, false)] (by kernel_rfl) (by kernel_rfl) (grew_drew0 _) ?_
          have hbr8 := hbr.drew
          have hb66 : Below wr.heap.size wr wr.drew := (Below.refl _ _).drew
          generalize wr.drew = w8 at *
          have hz8 := hbr8.size
          simp only [orderOps, nthOp, List.drop_succ_cons, List.drop_zero]
          repeat (refine wpMix_take ?_; (first | go_big_quiet_step (fail) | quiet_step (fail)); refine wpQuiet_nil ?_)
          refine wpMix_gen ?_
          go_wp2_with fail
          refine One_mk (below_grew (hb66.alloc hb66.size _)) (wpMix_end ?_)
          go_wp2_with fail
          refine NP_mk ?_
          go_upto_region 13 with fail
          refine gen_world (fun W2 => (W2.cell? ⟨w8.heap.size, 0, none⟩ = some (.int .i64 x) ∧ W2.cell? ⟨w8.heap.size, 1, none⟩ = some (.int .i64 0) ∧ W2.cell? ⟨w8.heap.size, 2, none⟩ = some (.int .i64 x') ∧ W2.cell? ⟨w8.heap.size, 3, none⟩ = some (.int .i64 b.width)) ∧ w1.heap.size ≤ w8.heap.size ∧ Below wr.heap.size wr W2) ?_ ?_
          · exact ⟨⟨by simp [go_sem], by simp [go_sem], by simp [go_sem], by simp [go_sem]⟩, hz8, hb66.alloc hb66.size _⟩
          generalize w8.heap.size = B at *
          rintro W2 ⟨⟨s0, s1, s2, s3⟩, hBz, hb2W⟩
          have hbr2 : Below w1.heap.size w1 W2 := hbr.trans (hb2W.mono (by omega))
          have cx0 := cell_keep hb2W cx0
          have cx1 := cell_keep hb2W cx1
          have g7 := cell_keep hb2W g7
          have hbx2 : bx < W2.heap.size := by simpa using block_lt_of_cell cx0
          have hv2 := hvr.keep hb2W
          have hz2 := hbr2.size
          have hzr : w.heap.size < W2.heap.size := by omega
          clear hvr hbr8 hb66 hz8 hb2W hbx
          go_wp2_with fail
          go_loopw [9, 54] (fun v i wr => ∃ m : Nat, m ≤ b.defects.length ∧ i = .int .i64 m ∧ wr.ownsRow W2.heap.size 149 2 v (spansK b.defects x x' b.width m).length ((spansK b.defects x x' b.width m).flatMap cellsI) ∧ Below W2.heap.size W2 wr) (fun _ i _ => b.defects.length - (intOf i).toNat)
          case atStart => exact ⟨0, Nat.zero_le _, rfl, ⟨by simp [spansK], .inl ⟨rfl, by simp [spansK]⟩⟩, Below.refl _ _⟩
          case round =>
            obtain ⟨m, hm, rfl, hown, hbq⟩ := hrel
            have hsq := hbq.size
            have hzq : w.heap.size < wr.heap.size := by omega
            by_cases hmt : m < b.defects.length
            · obtain ⟨bd, od, rfl, hat⟩ := (hv2.keep hbq).at_ hmt
              obtain ⟨c0, c1, c2, c3, -⟩ := hat
              have t0 := cell_keep hbq s0
              have t1 := cell_keep hbq s1
              have t2 := cell_keep hbq s2
              have t3 := cell_keep hbq s3
              have hBq : B < wr.heap.size := by have := block_lt_of_cell t0; simpa using this
              cases hov : overlapB b.defects[m] ⟨x, 0, x', b.width⟩
              · have HSP := Lib.hid (spansK_no hmt hov)
                have HOV := Lib.hid hov
                clear hov
                generalize b.defects[m] = d at *
                go_wp2_with (go_at_call 91; refine (overlap_any d ⟨x, 0, x', b.width⟩ _).mono ?_; rw [HOV.out]; rintro e w5 ⟨rfl, hb5⟩; have q1 := cell_keep hb5 (show (wr.alloc (.cells #[.int .i64 d.x1, .int .i64 d.y1, .int .i64 d.x2, .int .i64 d.y2] 41)).cell? ⟨wr.heap.size, 1, none⟩ = some (.int .i64 d.y1) by simp [go_sem]); have q3 := cell_keep hb5 (show (wr.alloc (.cells #[.int .i64 d.x1, .int .i64 d.y1, .int .i64 d.x2, .int .i64 d.y2] 41)).cell? ⟨wr.heap.size, 3, none⟩ = some (.int .i64 d.y2) by simp [go_sem]))
                go_roundw
                case rel => exact ⟨m + 1, by omega, by go_num, by rw [HSP.out]; exact own_keep (hown.alloc _) hb5, (hbq.alloc (by omega) _).trans (hb5.mono (by simp; omega))⟩
                case measure => simp [intOf]; omega
              · have HSP := Lib.hid (spansK_yes hmt hov)
                have HOV := Lib.hid hov
                have hsl := spansK_len b.defects x x' b.width m
                clear hov
                generalize b.defects[m] = d at *
                obtain ⟨F, hF⟩ : ∃ F, F = spansK b.defects x x' b.width m := ⟨_, rfl⟩
                rw [← hF] at hown HSP hsl
                obtain ⟨mm, hmm⟩ : ∃ mm, mm = F.length := ⟨_, rfl⟩
                rw [← hmm] at hown hsl
                have HMM := Lib.hid hmm
                clear hF hmm
                go_wp2_with (first
                  | (go_at_call 91; refine (overlap_any d ⟨x, 0, x', b.width⟩ _).mono ?_; rw [HOV.out]; rintro e w5 ⟨rfl, hb5⟩; have q1 := cell_keep hb5 (show (wr.alloc (.cells #[.int .i64 d.x1, .int .i64 d.y1, .int .i64 d.x2, .int .i64 d.y2] 41)).cell? ⟨wr.heap.size, 1, none⟩ = some (.int .i64 d.y1) by simp [go_sem]); have q3 := cell_keep hb5 (show (wr.alloc (.cells #[.int .i64 d.x1, .int .i64 d.y1, .int .i64 d.x2, .int .i64 d.y2] 41)).cell? ⟨wr.heap.size, 3, none⟩ = some (.int .i64 d.y2) by simp [go_sem]))
                  | (at_builtin; refine wpList_append_own _ rfl _ _ 147 rfl W2.heap.size 149 j0 (.agg #[.int .i64 0, .int .i64 0]) 2 16 Tryz.underlying147 hj0 hy0 hy1 hy2 rfl (by decide) _ mm _ rfl ((own_keep (hown.alloc _) hb5).alloc _) ⟨w5.heap.size, 0, none⟩ 1 1 (cellsI (d.y1, d.y2)) rfl rfl (news_of _ _ _ _ (by simp)) (cellsI_one _) (by simp only [maxLen]; omega) (by omega) (by have := hb5.size; simp at this ⊢; omega) ?_; intro v' w6 ho6 hgr6 hnil6; have hgr7 : (w5.alloc (.cells #[.int .i64 d.y1, .int .i64 d.y2] 149)).grownBy w6 (Value.ownBlock _) := hgr6; have HGR := Lib.hid hgr7; clear hgr6 hgr7; have HO6 := Lib.hid ho6; clear ho6 hnil6))
                go_roundw
                case rel => exact ⟨m + 1, by omega, by go_num, by rw [HSP.out, List.length_append, ← HMM.out, List.flatMap_append]; simpa using HO6.out, ((hbq.alloc (by omega) _).trans (hb5.mono (by simp; omega)) |>.alloc (by have := hb5.size; simp at this; omega) _).grown HGR.out (by have := hb5.size; simp at this ⊢; omega) (fun j hj => own_base hown hj)⟩
                case measure => simp [intOf]; omega
            · obtain rfl : m = b.defects.length := by omega
              rw [spansK_all hxlt (fun d hd => by have := HIN.out d hd; omega)] at hown
              have HOB := Lib.hid (show ∀ z ∈ overl b.defects x x', 0 ≤ z.1 ∧ z.1 < z.2 ∧ z.2 ≤ b.width from fun z hz => by
                obtain ⟨d, hd, _, rfl⟩ := mem_overl.1 hz
                have := HIN.out d hd
                simp only; omega)
              have hol : (overl b.defects x x').length ≤ 60 := by
                unfold overl; rw [List.length_map]
                exact Nat.le_trans (List.length_filter_le _ _) hl
              have HST := Lib.hid (fun (r : List Iv) (hp : r.Perm (overl b.defects x x')) hs => show (r.foldl (spanStep (x' - x)) (S, 0)).1 = S + stripA b.defects b.width x x' by
                rw [spans_sum (wd := b.width) hs (fun v hv => HOB.out v (hp.mem_iff.1 hv)) (by omega)]
                unfold stripA
                rw [cover_congr (fun v => hp.mem_iff)])
              have hsb := stripA_bd (ds := b.defects) hxb0.1 hxlt hxb1.2 (by omega : 0 ≤ b.width) hw2
              generalize overl b.defects x x' = O at *
              generalize stripA b.defects b.width x x' = T at *
              obtain ⟨ao, co, rfl, hoc, hocm⟩ := own_slice hown
              have HOW := Lib.hid hown
              have cx0 := cell_keep hbq cx0
              have cx1 := cell_keep hbq cx1
              clear hown s0 s1 s2 s3 hv2 hmt hm
              go_wp2_with (go_at_call 92; refine (sortIv_any W2.heap.size _ O.length O _ HOW.out (fun d hd => by have := HOB.out d hd; omega) (by omega) hsq).mono ?_; rintro e w5 ⟨rfl, r, hp, hs, ho5, hb5⟩; have HP := Lib.hid hp; have HSO := Lib.hid hs; clear hp hs)
              have hVr : Ivs.V w5 ao r := own_rowV (enc := cellsI) cellsI_len (by decide) (fun b' o x hx h => ivAt_of h) ho5
              have hrl : r.length ≤ O.length := Nat.le_of_eq HP.out.length_eq
              have hrl' : O.length ≤ r.length := Nat.le_of_eq HP.out.length_eq.symm
              have HRB := Lib.hid (show ∀ z ∈ r, 0 ≤ z.1 ∧ z.1 < z.2 ∧ z.2 ≤ b.width from fun z hz => HOB.out z (HP.out.mem_iff.1 hz))
              have HF := Lib.hid (show ((r.drop 0).foldl (spanStep (x' - x)) (S, 0)).1 = S + T from HST.out r HP.out HSO.out)
              have d0 := (hb5.cell (p := ⟨bx, ox + k, none⟩) hbx2).trans cx0
              have d1 := (hb5.cell (p := ⟨bx, ox + (k + 1), none⟩) hbx2).trans cx1
              have hbr5 : Below w1.heap.size w1 w5 := (hbr2.trans (hbq.mono hz2)).trans (hb5.mono hz2)
              have hz5 := hbr5.size
              have hbx5 : bx < w5.heap.size := by simpa using block_lt_of_cell d0
              have hTB : (x' - x) * b.width ≤ 60000000000 := by
                have : (x' - x) * b.width ≤ 600000 * 100000 := Int.mul_le_mul (by omega) (by omega) (by omega) (by omega)
                omega
              clear ho5 HST HOB HOW hb5 hbq hsq hzq cx0 cx1
              go_loopw [6, 12, 74] (fun s e i wr => ∃ (m : Nat) (S' E : Int), m ≤ r.length ∧ i = .int .i64 m ∧ s = .int .i64 S' ∧ e = .int .i64 E ∧ (0 ≤ E ∧ E ≤ b.width) ∧ (0 ≤ S' ∧ S' ≤ S + (x' - x) * E) ∧ Hid (((r.drop m).foldl (spanStep (x' - x)) (S', E)).1 = S + T) ∧ Below w5.heap.size w5 wr) (fun _ _ i _ => r.length - (intOf i).toNat)
              case atStart => exact ⟨0, S, 0, Nat.zero_le _, rfl, rfl, rfl, ⟨Int.le_refl _, by omega⟩, ⟨hS.1, by simp⟩, HF, Below.refl _ _⟩
              case round =>
                clear HF
                obtain ⟨m, S', E, hm, rfl, rfl, rfl, hE, hS', HF, hbu⟩ := hrel
                have hsu := hbu.size
                by_cases hmt : m < r.length
                · obtain ⟨bq, oq, rfl, q0, q1⟩ := (hVr.keep hbu).at_ hmt
                  have hmi : (m : Int) < (O.length : Int) := by omega
                  have hzb := HRB.out _ (List.getElem_mem hmt)
                  have HF2 := Lib.hid (show ((r.drop (m + 1)).foldl (spanStep (x' - x)) (spanStep (x' - x) (S', E) r[m])).1 = S + T by rw [← HF.out, List.drop_eq_getElem_cons hmt]; rfl)
                  have h0 := cell_keep hbu d0
                  have h1 := cell_keep hbu d1
                  have hbxu : bx < wr.heap.size := by omega
                  clear HF
                  generalize r[m] = z at *
                  obtain ⟨lo, hi⟩ := z
                  simp only at hzb q0 q1
                  by_cases hc : max lo E < hi
                  · have HF := Lib.hid (show ((r.drop (m + 1)).foldl (spanStep (x' - x)) (S' + (x' - x) * (hi - max lo E), hi)).1 = S + T by
                      rw [← HF2.out]; unfold spanStep; rw [if_pos hc])
                    have p1 : (x' - x) * (hi - max lo E) ≤ (x' - x) * (hi - E) := Int.mul_le_mul_of_nonneg_left (by omega) (by omega)
                    have p2 : 0 ≤ (x' - x) * (hi - max lo E) := Int.mul_nonneg (by omega) (by omega)
                    have p3 : (x' - x) * hi ≤ (x' - x) * b.width := Int.mul_le_mul_of_nonneg_left (by omega) (by omega)
                    have p4 : (x' - x) * (hi - E) = (x' - x) * hi - (x' - x) * E := Int.mul_sub _ _ _
                    have v1 : IntKind.i64.wrap (x' - x) = x' - x := IntWalk.i64_in _ (by omega)
                    have v2 : IntKind.i64.wrap (hi - max lo E) = hi - max lo E := IntWalk.i64_in _ (by omega)
                    have v3 : IntKind.i64.wrap ((x' - x) * (hi - max lo E)) = (x' - x) * (hi - max lo E) := IntWalk.i64_in _ (by omega)
                    have v4 : IntKind.i64.wrap (S' + (x' - x) * (hi - max lo E)) = S' + (x' - x) * (hi - max lo E) := IntWalk.i64_in _ (by omega)
                    clear HF2
                    go_wp2_with fail
                    refine gen_world (fun W9 => (W9.cell? ⟨wr.heap.size, 0, none⟩ = some (.int .i64 lo) ∧ W9.cell? ⟨wr.heap.size, 1, none⟩ = some (.int .i64 hi)) ∧ (W9.cell? ⟨bx, ox + k, none⟩ = some (.int .i64 x) ∧ W9.cell? ⟨bx, ox + (k + 1), none⟩ = some (.int .i64 x')) ∧ Below w5.heap.size w5 W9) ?_ ?_
                    · exact ⟨⟨by simp [go_sem], by simp [go_sem]⟩, ⟨by simp [go_sem, *], by simp [go_sem, *]⟩, hbu.alloc (by omega) _⟩
                    rintro W9 ⟨⟨r0, r1⟩, ⟨r2, r3⟩, hbu9⟩
                    clear hbu h0 h1 q0 q1
                    have hz9 : wr.heap.size < W9.heap.size := by simpa using block_lt_of_cell r0
                    have hbx9 : bx < W9.heap.size := by omega
                    go_quiet (fail)
                    rename_i nq
                    have r4 : (W9.drewN nq).cell? ⟨wr.heap.size, 1, none⟩ = some (.int .i64 hi) := r1
                    have hbu10 := below_drewN hbu9 nq
                    clear r0 r1 r2 r3 hbu9 v1 v2 v3 v4
                    generalize W9.drewN nq = W10 at *
                    go_wp2_with fail
                    go_roundw
                    case rel => exact ⟨m + 1, S' + (x' - x) * (hi - max lo E), hi, by omega, by go_num, rfl, rfl, by omega, by omega, HF, hbu10⟩
                    case measure => simp [intOf]; omega
                  · have HF := Lib.hid (show ((r.drop (m + 1)).foldl (spanStep (x' - x)) (S', E)).1 = S + T by
                      rw [← HF2.out]; unfold spanStep; rw [if_neg hc])
                    clear HF2
                    go_wp2_with fail
                    go_roundw
                    case rel => exact ⟨m + 1, S', E, by omega, by go_num, rfl, rfl, hE, hS', HF, hbu.alloc (by omega) _⟩
                    case measure => simp [intOf]; omega
                · have HE := Lib.hid (show S' = S + T by rw [← HF.out, List.drop_of_length_le (by omega)]; rfl)
                  have hmi : ¬ (m : Int) < (O.length : Int) := by omega
                  have hbu1 : Below w1.heap.size w1 wr := hbr5.trans (hbu.mono hz5)
                  go_wp2_with fail
                  go_roundw
                  case rel => exact ⟨k + 1, S', by go_num, rfl, by omega, by rw [HE.out]; omega, by rw [HE.out]; exact HN, hbu1⟩
                  case measure => simp [intOf]; omega
        · have HE := Lib.hid (chain_end (by omega) HPA.out)
          have hkn : ¬ (k : Int) + 1 < (X.length : Int) := by omega
          clear HPA
          go_wp2_with fail
          go_ret
          exact ⟨ret_int (by rw [HE.out]), hc1.trans (hbr.mono (by omega))⟩
def areaV (b : Board) : Int := if boardErr b = 0 then b.length * b.width else 0
def defV (b : Board) : Int := if boardErr b = 0 then refArea b else 0
theorem boardOk_defs {b : Board} (h : BoardOk b) : DefsIn b := ⟨h.length.1, h.width.1, h.inside⟩
theorem area_bd {b : Board} (h : BoardOk b) : 0 ≤ b.length * b.width ∧ b.length * b.width ≤ 60000000000 := by
  have h1 := h.length
  have h2 := h.width
  have : b.length * b.width ≤ 600000 * 100000 := Int.mul_le_mul (by omega) (by omega) (by omega) (by omega)
  exact ⟨Int.mul_nonneg (by omega) (by omega), by omega⟩
set_option maxHeartbeats 1000000 in
theorem areaP_any (b : Board) (a : Option Addr) (c : Nat) (w : World) (hv : Rects.V w a b.defects) (hl : b.defects.length ≤ 9223372036854775807) (hw : b.wf) :
    Calls Tryz.prog 20 #[.agg #[.string b.name, .string b.species, .int .i64 b.length, .int .i64 b.width, .int .i64 b.thick, .int .i64 b.cut, .int .i64 b.moisture, .slice a b.defects.length c]] w fun e w' => e = .returned (.tuple #[.int .i64 (areaV b), .int .i64 (boardErr b)]) ∧ Below w.heap.size w w' := by
  by_cases h0 : boardErr b = 0
  · have h0' : (boardErr b != 0) = false := by simp [h0]
    have HA := Lib.hid (show areaV b = b.length * b.width by simp [areaV, h0])
    have HB := area_bd (tboardErr_ok h0)
    have HE := Lib.hid h0
    have hwr : IntKind.i64.wrap (b.length * b.width) = b.length * b.width := IntWalk.i64_in _ (by omega)
    clear h0
    go_enter Tryz.func20, Tryz.ntmps20
    go_wp2_with (go_at_call 49; refine (checkBoard_any b _ _ _ (hv.keep ((Below.refl _ _).alloc (Nat.le_refl _) _)) hl hw).mono ?_; rintro e w1 ⟨rfl, hb1⟩; obtain ⟨hk1, hf1⟩ := bcell hb1; have hc1 := ((Below.refl w.heap.size w).alloc (Nat.le_refl _) _).trans (hb1.mono (by simp)); have hz1 : w.heap.size < w1.heap.size := (by have := hb1.size; simp at this; omega))
    go_ret2
    exact ⟨by rw [HA.out, HE.out]; rfl, hc1⟩
  · have h0' : (boardErr b != 0) = true := by simp [h0]
    have HA := Lib.hid (show areaV b = 0 by simp [areaV, h0])
    clear h0
    go_enter Tryz.func20, Tryz.ntmps20
    go_wp2_with (go_at_call 49; refine (checkBoard_any b _ _ _ (hv.keep ((Below.refl _ _).alloc (Nat.le_refl _) _)) hl hw).mono ?_; rintro e w1 ⟨rfl, hb1⟩; have hc1 := ((Below.refl w.heap.size w).alloc (Nat.le_refl _) _).trans (hb1.mono (by simp)))
    go_ret2
    exact ⟨by rw [HA.out]; rfl, hc1⟩
set_option maxHeartbeats 1000000 in
theorem defectiveP_any (b : Board) (a : Option Addr) (c : Nat) (w : World) (hv : Rects.V w a b.defects) (hl : b.defects.length ≤ 9223372036854775807) (hw : b.wf) :
    Calls Tryz.prog 21 #[.agg #[.string b.name, .string b.species, .int .i64 b.length, .int .i64 b.width, .int .i64 b.thick, .int .i64 b.cut, .int .i64 b.moisture, .slice a b.defects.length c]] w fun e w' => e = .returned (.tuple #[.int .i64 (defV b), .int .i64 (boardErr b)]) ∧ Below w.heap.size w w' := by
  by_cases h0 : boardErr b = 0
  · have h0' : (boardErr b != 0) = false := by simp [h0]
    have HOK := Lib.hid (tboardErr_ok h0)
    have HA := Lib.hid (show defV b = progArea b by simp [defV, h0, area_same (boardOk_defs (tboardErr_ok h0))])
    have HE := Lib.hid h0
    clear h0
    go_enter Tryz.func21, Tryz.ntmps21
    go_wp2_with (first
      | (go_at_call 49; refine (checkBoard_any b _ _ _ (hv.keep ((Below.refl _ _).alloc (Nat.le_refl _) _)) hl hw).mono ?_; rintro e w1 ⟨rfl, hb1⟩; obtain ⟨hk1, hf1⟩ := bcell hb1; have hc1 := ((Below.refl w.heap.size w).alloc (Nat.le_refl _) _).trans (hb1.mono (by simp)); have hz1 : w.heap.size < w1.heap.size := (by have := hb1.size; simp at this; omega))
      | (go_at_call 50; refine (defective_any b a c _ (hv.keep hc1) HOK.out.few (boardOk_defs HOK.out) HOK.out.length.2 HOK.out.width.2).mono ?_; rintro e w2 ⟨rfl, hb2⟩; have hc2 := hc1.trans (hb2.mono hc1.size)))
    go_ret2
    exact ⟨by rw [HA.out, HE.out]; rfl, hc2⟩
  · have h0' : (boardErr b != 0) = true := by simp [h0]
    have HA := Lib.hid (show defV b = 0 by simp [defV, h0])
    clear h0
    go_enter Tryz.func21, Tryz.ntmps21
    go_wp2_with (go_at_call 49; refine (checkBoard_any b _ _ _ (hv.keep ((Below.refl _ _).alloc (Nat.le_refl _) _)) hl hw).mono ?_; rintro e w1 ⟨rfl, hb1⟩; have hc1 := ((Below.refl w.heap.size w).alloc (Nat.le_refl _) _).trans (hb1.mono (by simp)))
    go_ret2
    exact ⟨by rw [HA.out]; rfl, hc1⟩
theorem areaP_is (b : Board) (a : Option Addr) (c : Nat) (w : World) (hv : Rects.V w a b.defects) (hl : b.defects.length ≤ 9223372036854775807) (hw : b.wf) {v e0 : Int} (h1 : areaV b = v) (h2 : boardErr b = e0) :
    Calls Tryz.prog 20 #[.agg #[.string b.name, .string b.species, .int .i64 b.length, .int .i64 b.width, .int .i64 b.thick, .int .i64 b.cut, .int .i64 b.moisture, .slice a b.defects.length c]] w fun e w' => e = .returned (.tuple #[.int .i64 v, .int .i64 e0]) ∧ Below w.heap.size w w' := by
  subst h1 h2; exact areaP_any b a c w hv hl hw
theorem defectiveP_is (b : Board) (a : Option Addr) (c : Nat) (w : World) (hv : Rects.V w a b.defects) (hl : b.defects.length ≤ 9223372036854775807) (hw : b.wf) {v e0 : Int} (h1 : defV b = v) (h2 : boardErr b = e0) :
    Calls Tryz.prog 21 #[.agg #[.string b.name, .string b.species, .int .i64 b.length, .int .i64 b.width, .int .i64 b.thick, .int .i64 b.cut, .int .i64 b.moisture, .slice a b.defects.length c]] w fun e w' => e = .returned (.tuple #[.int .i64 v, .int .i64 e0]) ∧ Below w.heap.size w w' := by
  subst h1 h2; exact defectiveP_any b a c w hv hl hw
def mkSp (n : ByteArray) : Species := ⟨n, 0, 0, 0, 700, 9000, 70⟩
def woodsTo (st : List Board) : Nat → List Species
  | 0 => []
  | k + 1 => if 0 ≤ idxOf (nameIs (st.getD k default).species) (woodsTo st k) then woodsTo st k else woodsTo st k ++ [mkSp (st.getD k default).species]
theorem woods_len (st : List Board) : ∀ k, (woodsTo st k).length ≤ k
  | 0 => Nat.le_refl _
  | k + 1 => by
    have := woods_len st k
    rw [woodsTo]
    split
    · omega
    · rw [List.length_append]; simp; omega
theorem woods_find (st : List Board) : ∀ k i, i < k → 0 ≤ idxOf (nameIs (st.getD i default).species) (woodsTo st k)
  | 0, i, h => by omega
  | k + 1, i, h => by
    rw [woodsTo]
    by_cases e : i = k
    · subst e
      split
      · assumption
      · rw [idxOf_nonneg, List.any_append]
        simp [mkSp, nameIs]
    · have ih := woods_find st k i (by omega)
      split
      · exact ih
      · rw [idxOf_nonneg] at ih ⊢
        rw [List.any_append, ih]; rfl
theorem spGo_snoc {s : Species} (hs : speciesErr s = 0) : ∀ (l : List Species) (pre : List ByteArray), spGo pre l = 0 → ((pre ++ l.map (·.name)).any fun t => s.name.toList == t.toList) = false → spGo pre (l ++ [s]) = 0
  | [], pre, _, h => by
    rw [List.nil_append, spGo, if_neg (by simp [hs]), if_neg (by simpa using h), spGo]
  | x :: l, pre, h0, h => by
    rw [List.cons_append, spGo]
    rw [spGo] at h0
    split at h0
    · rename_i h1; exact absurd h0 h1
    · rename_i h1
      split at h0
      · cases h0
      · rename_i h2
        rw [if_neg h1, if_neg h2]
        refine spGo_snoc hs l _ h0 ?_
        rw [List.map_cons] at h
        rw [List.append_assoc]
        exact h
theorem sp_ok {n : ByteArray} (h : nameB n = true) : speciesErr (mkSp n) = 0 := by
  simp [speciesErr, mkSp, h, withinB]
theorem woods_go {st : List Board} (hn : ∀ b ∈ st, nameB b.species = true) : ∀ k, k ≤ st.length → spGo [] (woodsTo st k) = 0
  | 0, _ => rfl
  | k + 1, hk => by
    have ih := woods_go hn k (by omega)
    rw [woodsTo]
    split
    · exact ih
    · rename_i h
      have hm : st.getD k default ∈ st := by rw [List.getD_eq_getElem?_getD, List.getElem?_eq_getElem (by omega)]; exact List.getElem_mem _
      refine spGo_snoc (sp_ok (hn _ hm)) _ _ ih ?_
      rw [idxOf_nonneg] at h
      rw [List.nil_append, List.any_map]
      simp only [Bool.not_eq_true] at h
      rw [List.any_eq_false] at h ⊢
      intro x hx
      have := h x hx
      simp only [nameIs, Function.comp, mkSp, beq_iff_eq] at this ⊢
      exact fun e => this e.symm
theorem boards_names {b : Board} (h : boardErr b = 0) : nameB b.species = true := by
  unfold boardErr at h
  split at h
  · cases h
  · rename_i h1
    simp only [not_or, Bool.not_eq_false] at h1
    exact h1.2
def cellsSp (s : Species) : List Value := [.string s.name, .int .i64 s.along, .int .i64 s.across, .int .i64 s.radial, .int .i64 s.density, .int .i64 s.stiffness, .int .i64 s.strength]
theorem cellsSp_len (s : Species) : (cellsSp s).length = 7 := rfl
theorem cellsSp_one (s : Species) : ∀ u ∈ cellsSp s, u.oneCell' = true := by
  intro u hu
  simp only [cellsSp, List.mem_cons, List.not_mem_nil, or_false] at hu
  rcases hu with rfl | rfl | rfl | rfl | rfl | rfl | rfl <;> rfl
theorem species_info : (Tryz.prog.info? 108).map (fun i => (i.zero, i.size, i.bytes)) = some (some (.agg #[.string ⟨#[]⟩, .int .i64 0, .int .i64 0, .int .i64 0, .int .i64 0, .int .i64 0, .int .i64 0]), 7, 64) := by kernel_rfl
theorem own_species {w : World} {base e n c : Nat} {a : Option Addr} {l : List Species} (hw : ∀ s ∈ l, s.wf) (h : w.ownsRow base e 7 (.slice a n c) n (l.flatMap cellsSp)) : Speciess.V w a l :=
  own_rowV cellsSp_len (by decide) (fun b o x hx hc => ⟨hc 0 _ rfl, hc 1 _ rfl, hc 2 _ rfl, hc 3 _ rfl, hc 4 _ rfl, hc 5 _ rfl, hc 6 _ rfl, hw x hx⟩) h
theorem woods_mem {st : List Board} : ∀ {k : Nat} {s : Species}, k ≤ st.length → s ∈ woodsTo st k → ∃ b ∈ st, s = mkSp b.species
  | 0, s, _, h => by simp [woodsTo] at h
  | k + 1, s, hk, h => by
    rw [woodsTo] at h
    split at h
    · exact woods_mem (by omega) h
    · rcases List.mem_append.1 h with h | h
      · exact woods_mem (by omega) h
      · exact ⟨st.getD k default, by rw [List.getD_eq_getElem?_getD, List.getElem?_eq_getElem (by omega)]; exact List.getElem_mem _, by simpa using h⟩
theorem woods_wf {st : List Board} (hw : ∀ b ∈ st, b.species.size ≤ 9223372036854775807) {k : Nat} (hk : k ≤ st.length) : ∀ s ∈ woodsTo st k, s.wf := fun s hs => by
  obtain ⟨b, hb, rfl⟩ := woods_mem hk hs
  refine ⟨hw b hb, ?_, ?_, ?_, ?_, ?_, ?_⟩ <;> simp [mkSp]
theorem woods_yes {st : List Board} {k : Nat} (hk : k < st.length) (h : 0 ≤ idxOf (nameIs st[k].species) (woodsTo st k)) : woodsTo st (k + 1) = woodsTo st k := by
  have e : st.getD k default = st[k] := by rw [List.getD_eq_getElem?_getD, List.getElem?_eq_getElem hk]; rfl
  rw [woodsTo, e, if_pos h]
theorem woods_no {st : List Board} {k : Nat} (hk : k < st.length) (h : ¬ 0 ≤ idxOf (nameIs st[k].species) (woodsTo st k)) : woodsTo st (k + 1) = woodsTo st k ++ [mkSp st[k].species] := by
  have e : st.getD k default = st[k] := by rw [List.getD_eq_getElem?_getD, List.getElem?_eq_getElem hk]; rfl
  rw [woodsTo, e, if_neg h]
set_option maxRecDepth 100000 in
set_option maxHeartbeats 4000000 in
theorem woods_any (j : Job) (a1 : Option Addr) (c1 : Nat) (a2 : Option Addr) (c2 : Nat) (w : World) (hs : Boards.V w a1 j.stock) (hN : j.stock.length ≤ 100) :
    Calls Tryz.prog 19 #[.agg #[.slice a1 j.stock.length c1, .slice a2 j.blanks.length c2, .int .i64 j.trim.kerf, .int .i64 j.trim.ends, .int .i64 j.trim.sides]] w fun e w' => ∃ (a : Option Addr) (c : Nat), e = .returned (.slice a (woodsTo j.stock j.stock.length).length c) ∧ Speciess.V w' a (woodsTo j.stock j.stock.length) ∧ Below w.heap.size w w' := by
  obtain ⟨AD, CD, hSC⟩ := stock_ch hs
  have HSC := Lib.hid hSC
  obtain ⟨i0, hi0, hz0, hz1, hz2⟩ := info_parts species_info
  have HWF := Lib.hid (show ∀ b ∈ j.stock, b.species.size ≤ 9223372036854775807 from fun b hb => by
    obtain ⟨i, hi, rfl⟩ := List.getElem_of_mem hb
    exact (hSC.ch i _ (List.getElem?_eq_getElem hi)).2.2.2.2.2.1)
  clear hs hSC
  go_enter Tryz.func19, Tryz.ntmps19
  go_upto_region 1 with fail
  refine gen_world (fun W => JB W w.heap.size j a1 c1 a2 c2 ∧ Below w.heap.size w W ∧ w.heap.size < W.heap.size) ⟨⟨by simp [go_sem], by simp [go_sem], by simp [go_sem], by simp [go_sem], by simp [go_sem]⟩, by repeat (first | (with_reducible assumption) | exact Below.refl _ _ | (refine Below.setCell ?_ (by first | omega | (simp; omega) | (simp; done)) _) | (refine Below.alloc ?_ (by first | omega | (simp; omega) | (simp; done)) _) | (refine Below.drew ?_)), by simp⟩ ?_
  rintro W ⟨hC, hbW, hz⟩
  obtain ⟨gj, hgj⟩ : ∃ g, g = w.heap.size := ⟨_, rfl⟩
  have hzj : gj < W.heap.size := by omega
  rw [← hgj] at hC ⊢
  have HC := Lib.hid hC
  have HBW := Lib.hid hbW
  clear hbW hz hgj hC
  go_wp2_with fail
  go_loopw [3, 4] (fun v iv wr => ∃ k n : Nat, k ≤ j.stock.length ∧ iv = .int .i64 k ∧ Hid (n = (woodsTo j.stock k).length) ∧ Hid (wr.ownsRow W.heap.size 108 7 v n ((woodsTo j.stock k).flatMap cellsSp)) ∧ Below W.heap.size W wr) (fun _ iv _ => j.stock.length - (intOf iv).toNat)
  case atStart => exact ⟨0, 0, Nat.zero_le _, rfl, Lib.hid rfl, Lib.hid (World.ownsRow_nil _ _ _ _), Below.refl _ _⟩
  case round =>
    obtain ⟨k, n, hk, rfl, HN, HOW, hbr⟩ := hrel
    obtain ⟨av, cv, rfl, -, -⟩ := own_slice HOW.out
    obtain ⟨wo, rfl⟩ : ∃ wo : World, wo = wr := ⟨_, rfl⟩
    have HBO := Lib.hid hbr
    have HCO := Lib.hid (HC.out.keep hbr hzj)
    have hbw := HBW.out.trans (hbr.mono HBW.out.size)
    have hzo : W.heap.size ≤ wo.heap.size := hbr.size
    have hnk : n ≤ 100 := by have := woods_len j.stock k; rw [HN.out]; omega
    have HLV := Lib.hid (own_species (woods_wf HWF.out hk) HOW.out)
    clear hbr
    obtain ⟨q0, -, -, -, -⟩ := HCO.out
    by_cases hlt : k < j.stock.length
    · have hki : (k : Int) < (j.stock.length : Int) := by omega
      have v1 : IntKind.i64.wrap ((k : Int) + 1) = (k : Int) + 1 := IntWalk.i64_in _ (by omega)
      obtain ⟨⟨gs, off, has, hcb⟩, -⟩ := HSC.out.ch k _ (List.getElem?_eq_getElem hlt)
      subst has
      have s1 := (hcb.keep hbw).c1
      have HY := Lib.hid (fun h => woods_yes hlt h)
      have HNO := Lib.hid (fun h => woods_no hlt h)
      generalize j.stock[k].species = sp at *
      have HFD := Lib.hid (fun w9 hv => refFind_n av (woodsTo j.stock k) n cv sp w9 HN.out hv (by have := HN.out; omega))
      obtain ⟨f, hf⟩ : ∃ f, idxOf (nameIs sp) (woodsTo j.stock k) = f := ⟨_, rfl⟩
      rw [hf] at HFD HY HNO
      clear hcb hf
      by_cases hf0 : 0 ≤ f
      · have hfl : ¬ f < 0 := by omega
        have HW := Lib.hid (HY.out hf0)
        clear HY HNO
        go_wp2_with (go_at_call 48; refine (HFD.out _ HLV.out).mono ?_; rintro e w' ⟨rfl, rfl⟩)
        go_roundw
        case rel => exact ⟨k + 1, n, by omega, by go_num, Lib.hid (by rw [HW.out]; exact HN.out), Lib.hid (by rw [HW.out]; exact HOW.out), HBO.out⟩
        case measure => first | (simp [intOf]; done) | (simp [intOf]; omega)
      · have hfl : f < 0 := by omega
        have HW := Lib.hid (HNO.out hf0)
        clear HY HNO
        go_wp2_with (first
          | (go_at_call 48; refine (HFD.out _ HLV.out).mono ?_; rintro e w' ⟨rfl, rfl⟩)
          | (at_builtin; refine wpList_append_here _ rfl _ _ 62 rfl W.heap.size 108 i0 (.agg #[.string ⟨#[]⟩, .int .i64 0, .int .i64 0, .int .i64 0, .int .i64 0, .int .i64 0, .int .i64 0]) 7 64 Tryz.underlying62 hi0 hz0 hz1 hz2 rfl (by decide) _ n _ rfl (own_keep HOW.out ((Below.refl _ _).alloc (Nat.le_refl _) _)) ⟨wo.heap.size, 0, none⟩ 1 1 (cellsSp (mkSp sp)) rfl rfl (news_of (cellsSp (mkSp sp)) _ _ _ rfl) (cellsSp_one _) (by decide) (by simp only [maxLen]; omega) (by omega) (by simp; omega) ?_; intro v9 w9 ho9 hg9 hv9; have HO9 := Lib.hid ho9; have HG9 := Lib.hid hg9; clear ho9 hg9 hv9))
        go_roundw
        case rel =>
          refine ⟨k + 1, n + 1, by omega, by go_num, Lib.hid (by rw [HW.out, List.length_append, HN.out]; rfl), Lib.hid ?_, (HBO.out.alloc HBO.out.size _).grown HG9.out (by have := HBO.out.size; simp; omega) (fun q hq => own_base HOW.out hq)⟩
          rw [HW.out, List.flatMap_append, List.flatMap_singleton]; exact HO9.out
        case measure => first | (simp [intOf]; done) | (simp [intOf]; omega)
    · obtain rfl : k = j.stock.length := by omega
      have hki : ¬ ((j.stock.length : Nat) : Int) < ((j.stock.length : Nat) : Int) := by omega
      go_wp2_with fail
      go_ret
      have hn := HN.out
      subst hn
      exact ⟨av, ⟨cv, rfl⟩, HLV.out, hbw⟩
end Go.Proofs.YtjmgboipbhddlaaGreatDoor
