/- What is wanted of chapter 2 here: stocks, sound wood, the widest rectangle, the boards that fit (the timber seat's texts, picked by name). -/
import Derived.Test.YtdmoiepafkbefaaGreatQU
import Derived.Test.YtdmoiepafkbefaaGreatPLA
import Derived.Test.YtdmoiepafkbefaaGreatShelf
import Derived.LoopN
import Derived.Maps.Own
import Derived.Maps.OwnOps
import Derived.Maps.Views
import Derived.Deep.CutRange
import Derived.Deep.RegionHeld3
import Derived.OwnWalk
import Derived.Lib.OwnBridge
import Derived.Deep.AppendLies
import Derived.Deep.DeepCutAuto
import Derived.Lib.RowBridge
import Derived.Sort.OwnSortedInts
set_option linter.unusedVariables false
set_option linter.unusedSimpArgs false
namespace Go.Proofs.YtdmoiepafkbefaaGreat
open Go Go.RowKit Go.Maps Go.WideMaps
def speciesErr (s : Species) : Int :=
  if nameB s.name = false then 4 else if withinB s.along 0 2000 = false ∨ withinB s.across 0 2000 = false ∨ withinB s.radial 0 2000 = false ∨
    withinB s.density 1 2000 = false ∨ withinB s.stiffness 1 100000 = false ∨ withinB s.strength 1 1000 = false then 2 else 0
set_option maxHeartbeats 2000000 in
theorem checkOne_any (s : Species) (w : World) (hs : s.name.size ≤ 9223372036854775807) :
    Calls Tryz.prog 163 #[.agg #[.string s.name, .int .i64 s.along, .int .i64 s.across, .int .i64 s.radial, .int .i64 s.density, .int .i64 s.stiffness, .int .i64 s.strength]] w
      fun e w' => e = .returned (.int .i64 (speciesErr s)) ∧ Below w.heap.size w w' := by
  have i0 : ∀ w, (Instr.index 187 (.agg #[.int .i64 s.along, .int .i64 s.across, .int .i64 s.radial]) (.int .i64 0)).run Tryz.prog w = .ok (.int .i64 s.along) w := fun _ => by kernel_rfl
  have i1 : ∀ w, (Instr.index 187 (.agg #[.int .i64 s.along, .int .i64 s.across, .int .i64 s.radial]) (.int .i64 1)).run Tryz.prog w = .ok (.int .i64 s.across) w := fun _ => by kernel_rfl
  have i2 : ∀ w, (Instr.index 187 (.agg #[.int .i64 s.along, .int .i64 s.across, .int .i64 s.radial]) (.int .i64 2)).run Tryz.prog w = .ok (.int .i64 s.radial) w := fun _ => by kernel_rfl
  go_enter Tryz.func163, Tryz.ntmps163
  go_wp2_with (first
    | (go_at_call 77; refine (isName_any _ _ hs).mono ?_; rintro e w' ⟨rfl, rfl⟩)
    | (go_at_call 78; refine (within_any _ _ _ _).mono ?_; rintro e w' ⟨rfl, rfl⟩)
    | (with_reducible refine rounds_step ?_)
    | (with_reducible refine wp_loop_rounds 4 ?_))
  all_goals (go_ret; exact ⟨ret_int (by go_tidy; (try simp only [Bool.not_eq_eq_eq_not, Bool.not_true, Bool.not_false, Bool.not_eq_true', Bool.not_eq_false', decide_eq_false_iff_not, decide_eq_true_eq, beq_iff_eq, beq_eq_false_iff_ne, bne_iff_ne, ne_eq, bne_eq_false_iff_eq, Bool.and_eq_true, Bool.or_eq_true, Bool.and_eq_false_iff, Bool.or_eq_false_iff, not_true_eq_false, not_false_eq_true, false_and, and_false, or_false, false_or, true_and, and_true, true_or, or_true] at *) <;> simp [speciesErr, *]), (Below.refl _ _).alloc (Nat.le_refl _) _⟩)
def nameIs (nm : ByteArray) (s : Species) : Bool := s.name.toList == nm.toList
set_option maxHeartbeats 1000000 in
theorem refFind_any (a : Option Addr) (l : List Species) (c : Nat) (nm : ByteArray) (w : World) (hv : Speciess.V w a l) (hl : l.length ≤ 9223372036854775807) :
    Calls Tryz.prog 72 #[.slice a l.length c, .string nm] w fun e w' => e = .returned (.int .i64 (idxOf (nameIs nm) l)) ∧ w = w' := by
  go_enter Tryz.func72, Tryz.ntmps72
  go_wp2
  go_loop [5] (fun i => ∃ k : Nat, k ≤ l.length ∧ i = .int .i64 k ∧ Hid (∀ j (hj : j < l.length), j < k → nameIs nm l[j] = false)) (fun i => l.length - (intOf i).toNat)
  case atStart => exact ⟨0, Nat.zero_le _, rfl, Lib.hid (fun j _ h => by omega)⟩
  case round =>
    obtain ⟨k, hk, rfl, HK⟩ := hrel
    by_cases hlt : k < l.length
    · obtain ⟨b, off, rfl, hat⟩ := hv.at_ hlt
      obtain ⟨c0, c1, c2, c3, c4, c5, c6, -⟩ := hat
      cases hq : (l[k].name.toList == nm.toList)
      · go_wp2
        go_round
        case rel => exact ⟨k + 1, by omega, by go_num, Lib.hid (none_step HK.out hlt hq)⟩
        case measure => simp [intOf]; omega
      · go_wp2
        go_ret
        exact ⟨ret_int (idxOf_hit hlt HK.out hq).symm, rfl⟩
    · have hm := Lib.hid (idxOf_miss (p := nameIs nm) (l := l) (fun j hj => HK.out j hj (by omega)))
      clear HK
      go_wp2
      go_ret
      exact ⟨ret_int hm.out.symm, rfl⟩
theorem find1_any (s : Species) (g : Nat) (nm : ByteArray) (w : World) (hg : w.cell? ⟨g, 0, none⟩ = some (.string nm)) (hgl : g < w.heap.size) :
    Calls Tryz.prog 184 #[.agg #[.string s.name, .int .i64 s.along, .int .i64 s.across, .int .i64 s.radial, .int .i64 s.density, .int .i64 s.stiffness, .int .i64 s.strength], .pointer (some ⟨g, 0, none⟩)] w
      fun e w' => e = .returned (.bool (nameIs nm s)) ∧ Below w.heap.size w w' := by
  go_enter Tryz.func184, Tryz.ntmps184
  go_wp2
  go_ret
  exact ⟨rfl, (Below.refl _ _).alloc (Nat.le_refl _) _⟩
set_option maxHeartbeats 1000000 in
theorem indexSpecies_any (a : Option Addr) (l : List Species) (c g : Nat) (nm : ByteArray) (w : World) (hv : Speciess.V w a l) (hl : l.length ≤ 9223372036854775807)
    (hg : w.cell? ⟨g, 0, none⟩ = some (.string nm)) (hgl : g < w.heap.size) :
    Calls Tryz.prog 183 #[.slice a l.length c, .func (.func 184) #[] #[.pointer (some ⟨g, 0, none⟩)]] w
      fun e w' => e = .returned (.int .i64 (idxOf (nameIs nm) l)) ∧ Below w.heap.size w w' := by
  go_enter Tryz.func183, Tryz.ntmps183
  go_wp2
  go_loopw [8] (fun i wr => ∃ k : Nat, k ≤ l.length ∧ i = .int .i64 k ∧ Hid (∀ j (hj : j < l.length), j < k → nameIs nm l[j] = false) ∧ Below w.heap.size w wr) (fun i _ => l.length - (intOf i).toNat)
  case atStart => exact ⟨0, Nat.zero_le _, rfl, Lib.hid (fun j _ h => by omega), Below.refl _ _⟩
  case round =>
    obtain ⟨k, hk, rfl, HK, hbw⟩ := hrel
    by_cases hlt : k < l.length
    · obtain ⟨b, off, rfl, hat⟩ := (hv.keep hbw).at_ hlt
      obtain ⟨c0, c1, c2, c3, c4, c5, c6, -⟩ := hat
      have hgr := cell_keep hbw hg
      have hsz := hbw.size
      cases hq : nameIs nm l[k]
      · go_wp2_with (go_at_call 184; refine (find1_any l[k] _ _ _ hgr (by omega)).mono ?_; rintro e w1 ⟨rfl, hb⟩)
        go_round
        case rel => exact ⟨k + 1, by omega, by go_num, Lib.hid (none_step HK.out hlt hq), hbw.trans (hb.mono hsz)⟩
        case measure => simp [intOf]; omega
      · go_wp2_with (go_at_call 184; refine (find1_any l[k] _ _ _ hgr (by omega)).mono ?_; rintro e w1 ⟨rfl, hb⟩)
        go_ret
        exact ⟨ret_int (idxOf_hit hlt HK.out hq).symm, hbw.trans (hb.mono hsz)⟩
    · have hm := Lib.hid (idxOf_miss (p := nameIs nm) (l := l) (fun j hj => HK.out j hj (by omega)))
      clear HK
      go_wp2
      go_ret
      exact ⟨ret_int hm.out.symm, hbw⟩
theorem find_any (a : Option Addr) (l : List Species) (c : Nat) (nm : ByteArray) (w : World) (hv : Speciess.V w a l) (hl : l.length ≤ 9223372036854775807) :
    Calls Tryz.prog 164 #[.slice a l.length c, .string nm] w fun e w' => e = .returned (.int .i64 (idxOf (nameIs nm) l)) ∧ Below w.heap.size w w' := by
  go_enter Tryz.func164, Tryz.ntmps164
  go_wp2_with (go_at_call 183; refine (indexSpecies_any _ l _ w.heap.size nm _ (hv.keep ((Below.refl _ _).alloc (Nat.le_refl _) _)) hl (by simp) (by simp)).mono ?_; rintro e w1 ⟨rfl, hb⟩)
  go_ret
  exact ⟨rfl, ((Below.refl _ _).alloc (Nat.le_refl _) _).trans (hb.mono (by simp))⟩
def spGo (pre : List ByteArray) : List Species → Int
  | [] => 0
  | s :: r => if speciesErr s ≠ 0 then speciesErr s else if (pre.any fun t => s.name.toList == t.toList) then 5 else spGo (pre ++ [s.name]) r
def checkSpecies (l : List Species) : Int := if 40 < l.length then 8 else spGo [] l
theorem spGo_err {l : List Species} {k : Nat} {e : Int} (hk : k < l.length) (h : e = spGo ((l.map (·.name)).take k) (l.drop k)) (h1 : (speciesErr l[k] != 0) = true) : e = speciesErr l[k] := by
  rw [h, List.drop_eq_getElem_cons hk, spGo, if_pos (by simpa using h1)]
theorem spGo_dup {l : List Species} {k : Nat} {e : Int} (hk : k < l.length) (h : e = spGo ((l.map (·.name)).take k) (l.drop k)) (h1 : (speciesErr l[k] != 0) = false)
    (h2 : (((l.map (·.name)).take k).any fun t => l[k].name.toList == t.toList) = true) : e = 5 := by
  rw [h, List.drop_eq_getElem_cons hk, spGo, if_neg (by simpa using h1), if_pos h2]
theorem spGo_next {l : List Species} {k : Nat} {e : Int} (hk : k < l.length) (h : e = spGo ((l.map (·.name)).take k) (l.drop k)) (h1 : (speciesErr l[k] != 0) = false)
    (h2 : (((l.map (·.name)).take k).any fun t => l[k].name.toList == t.toList) = false) : e = spGo ((l.map (·.name)).take (k + 1)) (l.drop (k + 1)) := by
  rw [h, List.drop_eq_getElem_cons hk, spGo, if_neg (by simpa using h1), if_neg (by simp [h2]), take_map_step _ hk]
theorem spGo_end {l : List Species} {k : Nat} {e : Int} (hk : l.length ≤ k) (h : e = spGo ((l.map (·.name)).take k) (l.drop k)) : e = 0 := by
  rw [h, List.drop_eq_nil_of_le hk]; rfl
set_option maxRecDepth 100000 in
set_option maxHeartbeats 1000000 in
theorem checkSpecies_any (a : Option Addr) (l : List Species) (c : Nat) (w : World) (hv : Speciess.V w a l) (hl : l.length ≤ 9223372036854775807) :
    Calls Tryz.prog 125 #[.slice a l.length c] w fun e w' => e = .returned (.int .i64 (checkSpecies l)) ∧ Below w.heap.size w w' := by
  by_cases hbig : 40 < l.length
  · go_enter Tryz.func125, Tryz.ntmps125
    go_wp2_with fail
    go_ret
    exact ⟨ret_int (by simp [checkSpecies, hbig]), Below.refl _ _⟩
  have hmm := @run_makeMap Tryz.prog
  have HF := Lib.hid (show checkSpecies l = spGo ((l.map (·.name)).take 0) (l.drop 0) by simp [checkSpecies, hbig])
  go_enter Tryz.func125, Tryz.ntmps125
  go_wp2_with fail
  go_loopw [13] (fun i wr => ∃ k : Nat, k ≤ l.length ∧ i = .int .i64 k ∧ Hid (checkSpecies l = spGo ((l.map (·.name)).take k) (l.drop k)) ∧ Hid (Seen wr w.heap.size k ((l.map (·.name)).take k)) ∧ Below w.heap.size w wr) (fun i _ => l.length - (intOf i).toNat)
  case atStart => exact ⟨0, Nat.zero_le _, rfl, HF, Lib.hid (Seen.made w), (Below.refl _ _).alloc (Nat.le_refl _) _⟩
  case round =>
    clear HF
    obtain ⟨k, hk, rfl, HF, HS, hbw⟩ := hrel
    by_cases hlt : k < l.length
    · obtain ⟨b, off, rfl, hat⟩ := (hv.keep hbw).at_ hlt
      obtain ⟨c0, c1, c2, c3, c4, c5, c6, hwf⟩ := hat
      have hns := hwf.1
      clear hwf
      have hsz := hbw.size
      go_wp2_with (first
        | (go_at_call 163; refine (checkOne_any l[k] _ hns).mono ?_; rintro e w1 ⟨rfl, hb⟩; obtain ⟨hc, hf⟩ := bcell hb; have hz := hb.size; have HS1 := Lib.hid (((show Seen wr _ _ _ from HS.out).below ((Below.refl _ _).alloc (Nat.le_refl _) _)).below hb); have hlk := Seen.run HS1.out l[k].name hns)
        | (at_mapUpdate; refine wpList_seen rfl _ _ _ rfl w.heap.size k _ l[k].name hns (by omega) rfl rfl rfl HS1.out ?_; intro w2 hS2 hg2; have HS2 := Lib.hid hS2; clear hS2))
      · go_ret
        exact ⟨ret_int (spGo_err hlt HF.out (by assumption)).symm, (hbw.alloc (by omega) _).trans (hb.mono (by simp; omega))⟩
      · go_ret
        exact ⟨ret_int (spGo_dup hlt HF.out (by assumption) (by assumption)).symm, (hbw.alloc (by omega) _).trans (hb.mono (by simp; omega))⟩
      · have hS2 := HS2.out
        rw [← take_map_step _ hlt] at hS2
        go_roundw
        case rel => exact ⟨k + 1, by omega, by go_num, Lib.hid (spGo_next hlt HF.out (by assumption) (by assumption)), Lib.hid hS2, ((hbw.alloc (by omega) _).trans (hb.mono (by simp; omega))).grown hg2 (by simp at hz; omega) (fun j hj => by cases hj; omega)⟩
        case measure => simp [intOf]; omega
    · have hm := Lib.hid (spGo_end (by omega) HF.out)
      clear HF
      go_wp2_with fail
      go_ret
      exact ⟨ret_int hm.out.symm, hbw⟩
theorem refFind_n (a : Option Addr) (l : List Species) (n c : Nat) (nm : ByteArray) (w : World) (hn : n = l.length) (hv : Speciess.V w a l) (hl : l.length ≤ 9223372036854775807) :
    Calls Tryz.prog 72 #[.slice a n c, .string nm] w fun e w' => e = .returned (.int .i64 (idxOf (nameIs nm) l)) ∧ w = w' := by
  subst hn; exact refFind_any a l c nm w hv hl
theorem idxOf_nonneg {α : Type} (p : α → Bool) (l : List α) : (0 ≤ idxOf p l) ↔ l.any p = true := by
  unfold idxOf
  cases h : l.findIdx? p with
  | none =>
    rw [List.findIdx?_eq_none_iff] at h
    simp only [List.any_eq_true]
    constructor
    · intro h'; omega
    · rintro ⟨x, hx, hp⟩; rw [h x hx] at hp; cases hp
  | some i =>
    rw [List.findIdx?_eq_some_iff_getElem] at h
    obtain ⟨hi, hp, -⟩ := h
    simp only [List.any_eq_true]
    exact ⟨fun _ => ⟨_, List.getElem_mem hi, hp⟩, fun _ => by omega⟩
def listedE (l : List Species) (b : Board) : Int := if boardErr b ≠ 0 then boardErr b else if idxOf (nameIs b.species) l < 0 then 6 else 0
set_option maxHeartbeats 1000000 in
theorem listed_any (sa : Option Addr) (l : List Species) (sc : Nat) (b : Board) (a : Option Addr) (c : Nat) (w : World) (hs : Speciess.V w sa l) (hsl : l.length ≤ 9223372036854775807)
    (hv : Rects.V w a b.defects) (hl : b.defects.length ≤ 9223372036854775807) (hw : b.wf) :
    Calls Tryz.prog 126 #[.slice sa l.length sc, .agg #[.string b.name, .string b.species, .int .i64 b.length, .int .i64 b.width, .int .i64 b.thick, .int .i64 b.cut, .int .i64 b.moisture, .slice a b.defects.length c]] w fun e w' => e = .returned (.int .i64 (listedE l b)) ∧ Below w.heap.size w w' := by
  go_enter Tryz.func126, Tryz.ntmps126
  go_wp2_with (first
    | (go_at_call 73; refine (checkBoard_any b _ _ _ (hv.keep ((Below.refl _ _).alloc (Nat.le_refl _) _)) hl hw).mono ?_; rintro e w1 ⟨rfl, hb⟩; obtain ⟨hc, hf⟩ := bcell hb; have hz := hb.size; have hb1 := ((Below.refl w.heap.size w).alloc (Nat.le_refl _) _).trans (hb.mono (by simp)))
    | (go_at_call 164; refine (find_any _ l _ _ _ (hs.keep hb1) hsl).mono ?_; rintro e w2 ⟨rfl, hb2⟩; have hb3 := hb1.trans (hb2.mono hb1.size)))
  all_goals first
    | (go_ret; exact ⟨ret_int (by go_tidy; (try simp only [Bool.not_eq_eq_eq_not, Bool.not_true, Bool.not_false, Bool.not_eq_true', Bool.not_eq_false', decide_eq_false_iff_not, decide_eq_true_eq, beq_iff_eq, beq_eq_false_iff_ne, bne_iff_ne, ne_eq, bne_eq_false_iff_eq, Bool.and_eq_true, Bool.or_eq_true, Bool.and_eq_false_iff, Bool.or_eq_false_iff, not_true_eq_false, not_false_eq_true, false_and, and_false, or_false, false_or, true_and, and_true, true_or, or_true] at *) <;> simp [listedE, *]), hb3⟩)
    | (go_ret; exact ⟨ret_int (by go_tidy; (try simp only [Bool.not_eq_eq_eq_not, Bool.not_true, Bool.not_false, Bool.not_eq_true', Bool.not_eq_false', decide_eq_false_iff_not, decide_eq_true_eq, beq_iff_eq, beq_eq_false_iff_ne, bne_iff_ne, ne_eq, bne_eq_false_iff_eq, Bool.and_eq_true, Bool.or_eq_true, Bool.and_eq_false_iff, Bool.or_eq_false_iff, not_true_eq_false, not_false_eq_true, false_and, and_false, or_false, false_or, true_and, and_true, true_or, or_true] at *) <;> simp [listedE, *]), hb1⟩)
theorem IntsV.at_ {w : World} {a : Option Addr} {l : List Int} (h : IntsV w a l) {k : Nat} (hk : k < l.length) : ∃ b off, a = some ⟨b, off, none⟩ ∧ w.cell? ⟨b, off + k, none⟩ = some (.int .i64 l[k]) := by
  obtain ⟨b, off, ha, hx⟩ := h (by intro e; subst e; simp at hk)
  exact ⟨b, off, ha, hx k _ (List.getElem?_eq_getElem hk)⟩
theorem IntsV.keep {w w' : World} {a : Option Addr} {l : List Int} (h : IntsV w a l) (hb : Below w.heap.size w w') : IntsV w' a l :=
  fun hl => let ⟨b, off, ha, hx⟩ := h hl; ⟨b, off, ha, fun k x hk => cell_keep hb (hx k x hk)⟩
def uniq (zs : List Int) : List Int := Lib.compact (zs.mergeSort fun x y => decide (x ≤ y))
theorem upTo_mem (d : Array Int) (x : Int) : ∀ m, x ∈ Lib.compactUpTo d m ↔ ∃ j, j < m ∧ d[j]! = x
  | 0 => by simp [Lib.compactUpTo]
  | m + 1 => by
    rw [Lib.compactUpTo_succ, List.mem_append, upTo_mem d x m]
    cases hk : Lib.keeps d m with
    | true =>
      simp only [if_true, List.mem_singleton]
      constructor
      · rintro (⟨j, hj, e⟩ | e)
        · exact ⟨j, by omega, e⟩
        · exact ⟨m, by omega, e.symm⟩
      · rintro ⟨j, hj, e⟩
        rcases Nat.lt_succ_iff_lt_or_eq.1 hj with h | rfl
        · exact .inl ⟨j, h, e⟩
        · exact .inr e.symm
    | false =>
      have hk' : m ≠ 0 ∧ d[m]! = d[m - 1]! := by
        unfold Lib.keeps at hk
        rw [decide_eq_false_iff_not] at hk
        exact ⟨fun h => hk (.inl h), Classical.not_not.1 fun h => hk (.inr h)⟩
      simp only [Bool.false_eq_true, if_false, List.not_mem_nil, or_false]
      constructor
      · rintro ⟨j, hj, e⟩; exact ⟨j, by omega, e⟩
      · rintro ⟨j, hj, e⟩
        rcases Nat.lt_succ_iff_lt_or_eq.1 hj with h | rfl
        · exact ⟨j, h, e⟩
        · exact ⟨j - 1, by omega, by rw [← hk'.2]; exact e⟩
theorem upTo_asc (d : Array Int) (n : Nat) (hs : ∀ i j, i ≤ j → j < n → d[i]! ≤ d[j]!) : ∀ m, m ≤ n → (Lib.compactUpTo d m).Pairwise (· < ·)
  | 0, _ => by simp [Lib.compactUpTo]
  | m + 1, hm => by
    rw [Lib.compactUpTo_succ, List.pairwise_append]
    refine ⟨upTo_asc d n hs m (by omega), by split <;> simp, fun a ha b hb => ?_⟩
    cases hk : Lib.keeps d m with
    | false => rw [hk] at hb; simp at hb
    | true =>
      rw [hk] at hb
      simp only [if_true, List.mem_singleton] at hb
      subst hb
      obtain ⟨j, hj, rfl⟩ := (upTo_mem d a m).1 ha
      unfold Lib.keeps at hk
      have hk := of_decide_eq_true hk
      have h1 := hs j (m - 1) (by omega) (by omega)
      have h2 := hs (m - 1) m (by omega) (by omega)
      rcases hk with h | h
      · omega
      · omega
theorem getBang (l : List Int) (j : Nat) (hj : j < l.length) : l.toArray[j]! = l[j] := by
  rw [getElem!_pos _ _ (by simpa using hj)]; simp
theorem uniq_mem {zs : List Int} {x : Int} : x ∈ uniq zs ↔ x ∈ zs := by
  unfold uniq Lib.compact
  rw [upTo_mem, ← List.mem_mergeSort (le := fun x y => decide (x ≤ y)) (l := zs) (a := x)]
  generalize zs.mergeSort (fun x y => decide (x ≤ y)) = l
  rw [List.mem_iff_getElem]
  constructor
  · rintro ⟨j, hj, e⟩; exact ⟨j, hj, by rw [← getBang _ _ hj]; exact e⟩
  · rintro ⟨j, hj, e⟩; exact ⟨j, hj, by rw [getBang _ _ hj]; exact e⟩
theorem uniq_asc (zs : List Int) : (uniq zs).Pairwise (· < ·) := by
  unfold uniq Lib.compact
  have hs : (zs.mergeSort (fun x y => decide (x ≤ y))).Pairwise (fun a b => decide (a ≤ b) = true) :=
    List.pairwise_mergeSort (le := fun x y : Int => decide (x ≤ y)) (fun a b c h1 h2 => by simp at *; omega) (fun a b => by simp; omega) zs
  generalize zs.mergeSort (fun x y => decide (x ≤ y)) = l at *
  refine upTo_asc _ l.length (fun i j hij hj => ?_) _ (Nat.le_refl _)
  rw [getBang _ _ (by omega), getBang _ _ hj]
  rcases Nat.lt_or_eq_of_le hij with h | rfl
  · have := List.pairwise_iff_getElem.1 hs i j (by omega) hj h
    simpa using this
  · exact Int.le_refl _
/-- Two ascending lists of the same members are one. -/
theorem asc_ext : ∀ {l l' : List Int}, l.Pairwise (· < ·) → l'.Pairwise (· < ·) → (∀ x, x ∈ l ↔ x ∈ l') → l = l'
  | [], [], _, _, _ => rfl
  | [], y :: l', _, _, h => by have := (h y).2 (by simp); cases this
  | x :: l, [], _, _, h => by have := (h x).1 (by simp); cases this
  | x :: l, y :: l', h1, h2, h => by
    obtain ⟨a1, b1⟩ := List.pairwise_cons.1 h1
    obtain ⟨a2, b2⟩ := List.pairwise_cons.1 h2
    have hxy : x = y := by
      rcases List.mem_cons.1 ((h x).1 (by simp)) with e | hm
      · exact e
      · rcases List.mem_cons.1 ((h y).2 (by simp)) with e | hm'
        · exact e.symm
        · have := a1 y hm'; have := a2 x hm; omega
    subst hxy
    congr 1
    refine asc_ext b1 b2 fun z => ?_
    constructor
    · intro hz
      rcases List.mem_cons.1 ((h z).1 (List.mem_cons_of_mem _ hz)) with rfl | h'
      · have := a1 z hz; omega
      · exact h'
    · intro hz
      rcases List.mem_cons.1 ((h z).2 (List.mem_cons_of_mem _ hz)) with rfl | h'
      · have := a2 z hz; omega
      · exact h'
theorem uniq_congr {zs ys : List Int} (h : ∀ x, x ∈ zs ↔ x ∈ ys) : uniq zs = uniq ys :=
  asc_ext (uniq_asc _) (uniq_asc _) fun x => by rw [uniq_mem, uniq_mem, h]
theorem uniq_length (zs : List Int) : (uniq zs).length ≤ zs.length := by
  unfold uniq
  have := Lib.compact_length_le (zs.mergeSort fun x y => decide (x ≤ y))
  simpa using this
open Go.Sort Go.Lib in
theorem compact_n (g cap : Nat) (n : Nat) (l : List Int) (w : World) (base : Nat) (hn : n = l.length) (hown : w.ownsRow base 3 1 (.slice (some ⟨g, 0, none⟩) n cap) n (l.map (Value.int .i64))) (hl : n < 1000000) :
    Calls Tryz.prog 165 #[.slice (some ⟨g, 0, none⟩) n cap] w fun e w' => e = .returned (.slice (some ⟨g, 0, none⟩) (Lib.compact l).length cap) ∧
      w'.ownsRow base 3 1 (.slice (some ⟨g, 0, none⟩) n cap) n ((Lib.compact l ++ List.replicate (n - (Lib.compact l).length) 0).map (Value.int .i64)) ∧ w.grownBy w' (some g) := by
  subst hn
  obtain ⟨g0, cap0, hv, hbase, hgl, hnc, hcm, -, hH⟩ := Lib.holds_of_ownsRow hown (by simp)
  injection hv with hv1 _ hv2
  injection hv1 with hv1
  injection hv1 with hv1
  subst hv1 hv2
  refine (Tryz.slices_Compact_int g 0 cap l w hH (by omega) hnc).mono ?_
  rintro e w1 ⟨he, q, rfl⟩
  have hcl := Lib.compact_length_le l
  have hy : (Lib.compact l ++ List.replicate (l.length - (Lib.compact l).length) 0).length = l.length := by simp; omega
  have ho := Lib.ownsRow_putRow (q := q) (ys := Lib.compact l ++ List.replicate (l.length - (Lib.compact l).length) 0) hown hy (Nat.le_refl _)
  rw [List.take_of_length_le (by omega)] at ho
  refine ⟨he, ho, ⟨rfl, rfl, rfl, by simp [putRow, mapBlock, Sort.ahead], fun k hk hne => ?_⟩⟩
  have : g ≠ k := fun e => hne (by rw [e])
  simp [putRow, mapBlock, Sort.ahead, Array.getElem?_modify, this]
open Go.Sort Go.Lib in
theorem lines_any (base g cap : Nat) (zs : List Int) (w : World) (hown : w.ownsRow base 3 1 (.slice (some ⟨g, 0, none⟩) zs.length cap) zs.length (zs.map (Value.int .i64))) (hl : zs.length < 1000000) :
    Calls Tryz.prog 127 #[.slice (some ⟨g, 0, none⟩) zs.length cap] w fun e w' => e = .returned (.slice (some ⟨g, 0, none⟩) (uniq zs).length cap) ∧
      w'.ownsRow base 3 1 (.slice (some ⟨g, 0, none⟩) zs.length cap) zs.length ((uniq zs ++ List.replicate (zs.length - (uniq zs).length) 0).map (Value.int .i64)) ∧ w.grownBy w' (some g) := by
  have HS := Lib.hid (sort_n g cap zs w base hown hl)
  clear hown
  have HM := Lib.hid (show zs.length = (zs.mergeSort fun x y => decide (x ≤ y)).length from (List.length_mergeSort _).symm)
  go_enter Tryz.func127, Tryz.ntmps127
  go_wp2_with (first
    | (go_at_call 71; refine HS.out.mono ?_; rintro e w1 ⟨rfl, ho1, hg1⟩; have HO1 := Lib.hid ho1; clear ho1)
    | (go_at_call 165; refine (compact_n _ _ _ _ _ base HM.out HO1.out hl).mono ?_; rintro e w2 ⟨rfl, ho2, hg2⟩; have HO2 := Lib.hid ho2; clear ho2))
  go_ret
  exact ⟨rfl, HO2.out, grown_both hg1 hg2⟩
def overlapB (r s : Rect) : Bool := decide (max r.x1 s.x1 < min r.x2 s.x2 ∧ max r.y1 s.y1 < min r.y2 s.y2)
set_option maxHeartbeats 2000000 in
theorem overlap_any (r s : Rect) (w : World) : Calls Tryz.prog 124 #[.agg #[.int .i64 r.x1, .int .i64 r.y1, .int .i64 r.x2, .int .i64 r.y2], .agg #[.int .i64 s.x1, .int .i64 s.y1, .int .i64 s.x2, .int .i64 s.y2]] w fun e w' => e = .returned (.bool (overlapB r s)) ∧ Below w.heap.size w w' := by
  unfold overlapB
  go_enter Tryz.func124, Tryz.ntmps124
  go_wp2
  all_goals (go_ret; exact ⟨ret_bool (by go_tidy; rw [Bool.eq_iff_iff]; simp <;> omega), ((Below.refl _ _).alloc (Nat.le_refl _) _).alloc (by simp) _⟩)
def fY (x xl y : Int) (y2 : Int) (d : Rect) : Int := if overlapB d ⟨x, y, xl, y2⟩ = true then max d.y1 y else y2
def stepY (ds : List Rect) (wd len x : Int) (s : Rect × Bool) (y : Int) : Rect × Bool :=
  if y < ds.foldl (fY x (x + len) y) wd ∧ (s.2 = false ∨ s.1.y2 - s.1.y1 < ds.foldl (fY x (x + len) y) wd - y) then (⟨x, y, x + len, ds.foldl (fY x (x + len) y) wd⟩, true) else s
def widGo (ds : List Rect) (l wd len : Int) (ys : List Int) : List Int → Rect × Bool → Rect × Bool
  | [], s => s
  | x :: xs, s => if l < x + len then s else widGo ds l wd len ys xs (ys.foldl (stepY ds wd len x) s)
def widXs (b : Board) : List Int := 0 :: b.defects.map (·.x2)
def widYs (b : Board) : List Int := 0 :: b.defects.map (·.y2)
def widS (b : Board) (len : Int) : Rect × Bool := widGo b.defects b.length b.width len (uniq (widYs b)) (uniq (widXs b)) (⟨0, 0, 0, 0⟩, false)
theorem lines_n (base g cap n : Nat) (zs : List Int) (w : World) (hn : n = zs.length) (hown : w.ownsRow base 3 1 (.slice (some ⟨g, 0, none⟩) n cap) n (zs.map (Value.int .i64))) (hl : n < 1000000) :
    Calls Tryz.prog 127 #[.slice (some ⟨g, 0, none⟩) n cap] w fun e w' => e = .returned (.slice (some ⟨g, 0, none⟩) (uniq zs).length cap) ∧
      w'.ownsRow base 3 1 (.slice (some ⟨g, 0, none⟩) n cap) n ((uniq zs ++ List.replicate (n - (uniq zs).length) 0).map (Value.int .i64)) ∧ w.grownBy w' (some g) := by
  subst hn; exact lines_any base g cap zs w hown hl
theorem IntsV.grown {w w' : World} {g : Nat} {l : List Int} {row : Option Nat} (h : IntsV w (some ⟨g, 0, none⟩) l) (hg : w.grownBy w' row) (hne : some g ≠ row) : IntsV w' (some ⟨g, 0, none⟩) l := by
  intro hl
  obtain ⟨b, off, ha, hx⟩ := h hl
  injection ha with ha
  injection ha with hb ho
  subst hb ho
  exact ⟨g, 0, rfl, fun k x hk => hg.cell (hx k x hk) hne⟩
/-- A rectangle in a block of the call's own. -/
def RectBlk (w : World) (g : Nat) (r : Rect) : Prop := w.heap[g]? = some (.cells #[.int .i64 r.x1, .int .i64 r.y1, .int .i64 r.x2, .int .i64 r.y2] 33 (0, 0))
theorem RectBlk.lt {w : World} {g : Nat} {r : Rect} (h : RectBlk w g r) : g < w.heap.size := (Array.getElem?_eq_some_iff.1 h).1
theorem RectBlk.cells {w : World} {g : Nat} {r : Rect} (h : RectBlk w g r) : w.cell? ⟨g, 0, none⟩ = some (.int .i64 r.x1) ∧ w.cell? ⟨g, 1, none⟩ = some (.int .i64 r.y1) ∧ w.cell? ⟨g, 2, none⟩ = some (.int .i64 r.x2) ∧ w.cell? ⟨g, 3, none⟩ = some (.int .i64 r.y2) :=
  ⟨cell_of_row w g 0 _ _ _ h, cell_of_row w g 1 _ _ _ h, cell_of_row w g 2 _ _ _ h, cell_of_row w g 3 _ _ _ h⟩
theorem RectBlk.frozen {w : World} {g : Nat} {r : Rect} (h : RectBlk w g r) (j : Nat) : w.frozen? ⟨g, j, none⟩ = false := frozen_of_row w g j _ _ h
theorem RectBlk.keep {w w' : World} {g : Nat} {r : Rect} (hb : Below w.heap.size w w') (h : RectBlk w g r) : RectBlk w' g r := (hb.block g h.lt).trans h
theorem RectBlk.grown {w w' : World} {g : Nat} {r : Rect} {row : Option Nat} (h : RectBlk w g r) (hg : w.grownBy w' row) (hne : some g ≠ row) : RectBlk w' g r := (hg.block g h.lt hne).trans h
theorem RectBlk.new (w : World) (r : Rect) : RectBlk (w.alloc (.cells #[.int .i64 r.x1, .int .i64 r.y1, .int .i64 r.x2, .int .i64 r.y2] 33)) w.heap.size r := heap_alloc_new w _
theorem RectBlk.alloc {w : World} {g : Nat} {r : Rect} (h : RectBlk w g r) (o : Obj) : RectBlk (w.alloc o) g r := (Below.heap_alloc w o g h.lt).trans h
theorem RectBlk.set3 {w : World} {g : Nat} {r : Rect} (h : RectBlk w g r) (v : Int) : RectBlk (w.setCell ⟨g, 3, none⟩ (.int .i64 v)) g ⟨r.x1, r.y1, r.x2, v⟩ := by
  unfold RectBlk at *
  rw [heap_setCell_same w g 3 _ _ _ h]; rfl
theorem RectBlk.setAll {w : World} {g : Nat} {r : Rect} (h : RectBlk w g r) (s : Rect) :
    RectBlk ((((w.setCell ⟨g, 0, none⟩ (.int .i64 s.x1)).setCell ⟨g, 1, none⟩ (.int .i64 s.y1)).setCell ⟨g, 2, none⟩ (.int .i64 s.x2)).setCell ⟨g, 3, none⟩ (.int .i64 s.y2)) g s := by
  unfold RectBlk at *
  have h1 := heap_setCell_same w g 0 _ _ (.int .i64 s.x1) h
  have h2 := heap_setCell_same _ g 1 _ _ (.int .i64 s.y1) h1
  have h3 := heap_setCell_same _ g 2 _ _ (.int .i64 s.x2) h2
  have h4 := heap_setCell_same _ g 3 _ _ (.int .i64 s.y2) h3
  rw [h4]; rfl
theorem own_ne2 {g g' n c n' c' : Nat} (h : g ≠ g') : (Value.slice (some ⟨g, 0, none⟩) n c).ownBlock ≠ (Value.slice (some ⟨g', 0, none⟩) n' c').ownBlock := by simpa [Value.ownBlock] using h
theorem own_ne3 {g0 g g' n c n' c' n0 c0 H : Nat} (hat : (Value.slice (some ⟨g0, 0, none⟩) n0 c0).ownBlock = some g ∨ g = H) (h : g' ≠ g0) (hH : g' < H) : (Value.slice (some ⟨g, 0, none⟩) n c).ownBlock ≠ (Value.slice (some ⟨g', 0, none⟩) n' c').ownBlock := by
  rcases hat with e | e
  · simp [Value.ownBlock] at e; subst e; simpa [Value.ownBlock] using h.symm
  · subst e; simp [Value.ownBlock]; omega
theorem rows_next {α : Type} {f : α → Int} {l : List α} {k : Nat} (hk : k < l.length) {w : World} {base e s n : Nat} {v : Value} (h : w.ownsRow base e s v n ((0 :: (l.map f).take k).map (Value.int .i64) ++ [.int .i64 (f l[k])])) :
    w.ownsRow base e s v n ((0 :: (l.map f).take (k + 1)).map (Value.int .i64)) := by
  rw [take_map_step f hk]
  simpa using h
theorem own_ne {p : Addr} {g n c : Nat} (h : p.block ≠ g) : some p.block ≠ (Value.slice (some ⟨g, 0, none⟩) n c).ownBlock := by simpa [Value.ownBlock] using h
theorem news_one {w : World} {g : Nat} {x : Value} (h : w.cell? ⟨g, 0, none⟩ = some x) : ∀ j u, [x][j]? = some u → w.cell? ((⟨g, 0, none⟩ : Addr).add j) = some u := by
  intro j u hu
  match j, hu with
  | 0, hu => simp at hu; subst hu; exact h
  | j + 1, hu => simp at hu
structure WidW (B : Nat) (W : World) (H gx gy n cy : Nat) (xs : List Int) (best : Rect) (zs : List Int) (wr : World) : Prop where
  best : RectBlk wr H best
  own : wr.ownsRow B 3 1 (.slice (some ⟨gy, 0, none⟩) n cy) n (zs.map (Value.int .i64))
  ints : IntsV wr (some ⟨gx, 0, none⟩) xs
  low : Below B W wr
theorem WidW.keep {B : Nat} {W : World} {H gx gy n cy : Nat} {xs : List Int} {best : Rect} {zs : List Int} {wr w' : World} (h : WidW B W H gx gy n cy xs best zs wr) (hB : B ≤ wr.heap.size) (hb : Below wr.heap.size wr w') : WidW B W H gx gy n cy xs best zs w' :=
  ⟨h.best.keep hb, h.own.kept (row := none) ⟨hb.os, hb.tape, hb.output, hb.size, fun k hk _ => hb.block k hk⟩ (.inr (by simp [Value.ownBlock])), h.ints.keep hb, h.low.trans (hb.mono hB)⟩
theorem WidW.setBest {B : Nat} {W : World} {H gx gy n cy : Nat} {xs : List Int} {best : Rect} {zs : List Int} {wr : World} (h : WidW B W H gx gy n cy xs best zs wr) (hx : gx ≠ H) (hy : gy ≠ H) (hB : B ≤ H) (s : Rect) :
    WidW B W H gx gy n cy xs s zs ((((wr.setCell ⟨H, 0, none⟩ (.int .i64 s.x1)).setCell ⟨H, 1, none⟩ (.int .i64 s.y1)).setCell ⟨H, 2, none⟩ (.int .i64 s.x2)).setCell ⟨H, 3, none⟩ (.int .i64 s.y2)) := by
  have hg : wr.grownBy ((((wr.setCell ⟨H, 0, none⟩ (.int .i64 s.x1)).setCell ⟨H, 1, none⟩ (.int .i64 s.y1)).setCell ⟨H, 2, none⟩ (.int .i64 s.x2)).setCell ⟨H, 3, none⟩ (.int .i64 s.y2)) (some H) := by
    refine ⟨rfl, rfl, rfl, by simp [World.setCell], fun k hk hne => ?_⟩
    have hk' : k ≠ H := fun e => hne (by rw [e])
    rw [heap_setCell_other _ _ _ _ hk', heap_setCell_other _ _ _ _ hk', heap_setCell_other _ _ _ _ hk', heap_setCell_other _ _ _ _ hk']
  refine ⟨h.best.setAll s, h.own.kept hg (.inr (by simpa [Value.ownBlock] using hy)), h.ints.grown hg (by simpa using hx), ?_⟩
  exact (((h.low.setCell hB _).setCell hB _).setCell hB _).setCell hB _
theorem widXs_bd {b : Board} (hin : ∀ d ∈ b.defects, 0 ≤ d.x1 ∧ d.x1 < d.x2 ∧ d.x2 ≤ 600000 ∧ 0 ≤ d.y1 ∧ d.y1 < d.y2 ∧ d.y2 ≤ 600000) {x : Int} (h : x ∈ widXs b) : 0 ≤ x ∧ x ≤ 600000 := by
  simp only [widXs, List.mem_cons, List.mem_map] at h
  rcases h with h0 | ⟨d, hd, h0⟩
  · omega
  · have := hin d hd; omega
theorem widYs_bd {b : Board} (hin : ∀ d ∈ b.defects, 0 ≤ d.x1 ∧ d.x1 < d.x2 ∧ d.x2 ≤ 600000 ∧ 0 ≤ d.y1 ∧ d.y1 < d.y2 ∧ d.y2 ≤ 600000) {x : Int} (h : x ∈ widYs b) : 0 ≤ x ∧ x ≤ 600000 := by
  simp only [widYs, List.mem_cons, List.mem_map] at h
  rcases h with h0 | ⟨d, hd, h0⟩
  · omega
  · have := hin d hd; omega
theorem lines_u (base g cap n : Nat) (zs us : List Int) (w : World) (hn : n = zs.length) (hu : uniq zs = us) (hown : w.ownsRow base 3 1 (.slice (some ⟨g, 0, none⟩) n cap) n (zs.map (Value.int .i64))) (hl : n < 1000000) :
    Calls Tryz.prog 127 #[.slice (some ⟨g, 0, none⟩) n cap] w fun e w' => e = .returned (.slice (some ⟨g, 0, none⟩) us.length cap) ∧
      w'.ownsRow base 3 1 (.slice (some ⟨g, 0, none⟩) n cap) n ((us ++ List.replicate (n - us.length) 0).map (Value.int .i64)) ∧ w.grownBy w' (some g) := by
  subst hu; exact lines_n base g cap n zs w hn hown hl
theorem zs_next {n : Nat} {ys zs : List Int} (h : zs.length = n ∧ ∀ z, z ∈ zs ↔ z ∈ ys) (h0 : 0 ∈ ys) (hn : (uniq ys).length ≤ n) : (uniq ys ++ List.replicate (n - (uniq ys).length) 0).length = n ∧ ∀ z, z ∈ uniq ys ++ List.replicate (n - (uniq ys).length) 0 ↔ z ∈ ys := by
  refine ⟨by simp; omega, fun z => ?_⟩
  rw [List.mem_append, uniq_mem, List.mem_replicate]
  constructor
  · rintro (h | ⟨_, rfl⟩)
    · exact h
    · exact h0
  · exact .inl
theorem fold_step {α β : Type} {f : β → α → β} {l : List α} {k : Nat} {r s : β} (hk : k < l.length) (h : r = (l.drop k).foldl f s) : r = (l.drop (k + 1)).foldl f (f s l[k]) := by
  rw [h, List.drop_eq_getElem_cons hk, List.foldl_cons]
theorem fold_end {α β : Type} {f : β → α → β} {l : List α} {k : Nat} {r s : β} (hk : l.length ≤ k) (h : r = (l.drop k).foldl f s) : r = s := by
  rw [h, List.drop_eq_nil_of_le hk]; rfl
theorem WidW.grownY {B : Nat} {W : World} {H gx gy n cy : Nat} {xs : List Int} {best : Rect} {zs zs' : List Int} {wr w' : World} (h : WidW B W H gx gy n cy xs best zs wr) (hg : wr.grownBy w' (some gy)) (hx : gx ≠ gy) (hH : H ≠ gy) (hB : B ≤ wr.heap.size) (hBy : B ≤ gy)
    (ho : w'.ownsRow B 3 1 (.slice (some ⟨gy, 0, none⟩) n cy) n (zs'.map (Value.int .i64))) : WidW B W H gx gy n cy xs best zs' w' :=
  ⟨h.best.grown hg (by simpa using hH), ho, h.ints.grown hg (by simpa using hx), h.low.grown hg hB (fun j hj => by cases hj; exact hBy)⟩
theorem grown_setCell (w : World) (g j : Nat) (v : Value) : w.grownBy (w.setCell ⟨g, j, none⟩ v) (some g) :=
  ⟨rfl, rfl, rfl, by simp [World.setCell], fun k hk hne => heap_setCell_other _ _ _ _ (fun e => hne (by rw [e]))⟩
theorem WidW.setFar {B : Nat} {W : World} {H gx gy n cy : Nat} {xs : List Int} {best : Rect} {zs : List Int} {wr : World} (h : WidW B W H gx gy n cy xs best zs wr) {g : Nat} (j : Nat) (v : Value) (hH : H ≠ g) (hx : gx ≠ g) (hy : gy ≠ g) (hB : B ≤ g) :
    WidW B W H gx gy n cy xs best zs (wr.setCell ⟨g, j, none⟩ v) :=
  ⟨h.best.grown (grown_setCell wr g j v) (by simpa using hH), h.own.kept (grown_setCell wr g j v) (.inr (by simpa [Value.ownBlock] using hy)), h.ints.grown (grown_setCell wr g j v) (by simpa using hx), h.low.setCell hB _⟩
theorem ownLit (w : World) (base g : Nat) (hb : base ≤ w.heap.size) (hg : g = w.heap.size) (x : Int) : (w.alloc (.cells #[.int .i64 x] 3)).ownsRow base 3 1 (.slice (some ⟨g, 0, none⟩) 1 1) 1 [.int .i64 x] := by
  subst hg; exact World.ownsRow_lit w #[.int .i64 x] 1 hb (by decide) rfl
theorem widGo_end {ds : List Rect} {l wd len : Int} {ys xs : List Int} {s r : Rect × Bool} {i : Nat} (hi : xs.length ≤ i) (h : r = widGo ds l wd len ys (xs.drop i) s) : r = s := by
  rw [h, List.drop_eq_nil_of_le hi]; rfl
theorem widGo_break {ds : List Rect} {l wd len : Int} {ys xs : List Int} {s r : Rect × Bool} {i : Nat} (hi : i < xs.length) (h : r = widGo ds l wd len ys (xs.drop i) s) (hx : l < xs[i] + len) : r = s := by
  rw [h, List.drop_eq_getElem_cons hi, widGo, if_pos hx]
theorem widGo_next {ds : List Rect} {l wd len : Int} {ys xs : List Int} {s r : Rect × Bool} {i : Nat} (hi : i < xs.length) (h : r = widGo ds l wd len ys (xs.drop i) s) (hx : ¬ l < xs[i] + len) : r = widGo ds l wd len ys (xs.drop (i + 1)) (ys.foldl (stepY ds wd len xs[i]) s) := by
  rw [h, List.drop_eq_getElem_cons hi, widGo, if_neg hx]
set_option maxRecDepth 100000 in
set_option maxHeartbeats 4000000 in
theorem widest_any (b : Board) (len : Int) (a : Option Addr) (c : Nat) (w : World) (hv : Rects.V w a b.defects) (hl : b.defects.length ≤ 60)
   (hin : ∀ d ∈ b.defects, 0 ≤ d.x1 ∧ d.x1 < d.x2 ∧ d.x2 ≤ 600000 ∧ 0 ≤ d.y1 ∧ d.y1 < d.y2 ∧ d.y2 ≤ 600000)
   (hb1 : 1 ≤ b.length) (hb2' : b.length ≤ 600000) (hw1 : 1 ≤ b.width) (hw2 : b.width ≤ 600000) (hb3 : 1 ≤ len) (hb4 : len ≤ 600000) :
    Calls Tryz.prog 79 #[.agg #[.string b.name, .string b.species, .int .i64 b.length, .int .i64 b.width, .int .i64 b.thick, .int .i64 b.cut, .int .i64 b.moisture, .slice a b.defects.length c], .int .i64 len] w fun e w' => e = .returned (.tuple #[.agg #[.int .i64 (widS b len).1.x1, .int .i64 (widS b len).1.y1, .int .i64 (widS b len).1.x2, .int .i64 (widS b len).1.y2], .bool (widS b len).2]) ∧ Below w.heap.size w w' := by
  obtain ⟨i0, hi0, hz0, hz1, hz2⟩ := info_parts int_info
  go_enter Tryz.func79, Tryz.ntmps79
  go_wp2_with fail
  refine gen_world (fun W => Below w.heap.size w W ∧ w.heap.size + 3 < W.heap.size ∧ RectBlk W (w.heap.size + 1) ⟨0, 0, 0, 0⟩ ∧ (W.cell? ⟨w.heap.size, 2, none⟩ = some (.int .i64 b.length) ∧ W.cell? ⟨w.heap.size, 3, none⟩ = some (.int .i64 b.width) ∧ W.cell? ⟨w.heap.size, 7, none⟩ = some (.slice a b.defects.length c)) ∧
    W.ownsRow (w.heap.size + 2) 3 1 (.slice (some ⟨w.heap.size + 1 + 1, 0, none⟩) 1 1) 1 [.int .i64 0] ∧ W.ownsRow (w.heap.size + 2) 3 1 (.slice (some ⟨w.heap.size + 1 + 1 + 1, 0, none⟩) 1 1) 1 [.int .i64 0]) ?_ ?_
  · refine ⟨((((Below.refl _ _).alloc (Nat.le_refl _) _).alloc (by simp) _).alloc (by simp; omega) _).alloc (by simp; omega) _, by simp, ?_, ⟨by simp [go_sem], by simp [go_sem], by simp [go_sem]⟩, ?_, ?_⟩
    · have h := RectBlk.new (w.alloc (.cells #[.string b.name, .string b.species, .int .i64 b.length, .int .i64 b.width, .int .i64 b.thick, .int .i64 b.cut, .int .i64 b.moisture, .slice a b.defects.length c] 81)) ⟨0, 0, 0, 0⟩
      simp at h
      exact (h.alloc _).alloc _
    · exact (ownLit _ _ _ (by simp) (by simp) 0).alloc _
    · exact ownLit _ _ _ (by simp) (by simp) 0
  rintro W ⟨hbW, hszW, hres, ⟨e2, e3, e7⟩, hox0, hoy0⟩
  go_loopw [6, 7, 24] (fun vx vy i wr => ∃ k gx cx gy cy : Nat, k ≤ b.defects.length ∧ i = .int .i64 k ∧ vx = .slice (some ⟨gx, 0, none⟩) (k + 1) cx ∧ vy = .slice (some ⟨gy, 0, none⟩) (k + 1) cy ∧ gx ≠ gy ∧
      wr.ownsRow (w.heap.size + 2) 3 1 (.slice (some ⟨gx, 0, none⟩) (k + 1) cx) (k + 1) ((0 :: (b.defects.map (·.x2)).take k).map (Value.int .i64)) ∧
      wr.ownsRow (w.heap.size + 2) 3 1 (.slice (some ⟨gy, 0, none⟩) (k + 1) cy) (k + 1) ((0 :: (b.defects.map (·.y2)).take k).map (Value.int .i64)) ∧ Below (w.heap.size + 2) W wr)
    (fun _ _ i _ => b.defects.length - (intOf i).toNat)
  case atStart => exact ⟨0, _, _, _, _, Nat.zero_le _, rfl, rfl, rfl, by omega, hox0, hoy0, Below.refl _ _⟩
  case round =>
    clear hox0 hoy0
    obtain ⟨k, gx, cx, gy, cy, hk, rfl, rfl, rfl, hne, hox, hoy, hbr⟩ := hrel
    have hbr0 : Below w.heap.size w wr := hbW.trans (hbr.mono (by omega))
    have hszr := hbr.size
    by_cases hlt : k < b.defects.length
    · obtain ⟨bk, off, rfl, hat⟩ := (hv.keep hbr0).at_ hlt
      obtain ⟨c0, c1, c2, c3, -⟩ := hat
      go_upto_region 5 with fail
      have hgxl := hox.lt gx rfl
      have hgyl := hoy.lt gy rfl
      refine wp_cut_slots [6, 7, 28, 29, 30, 31, 32, 33, 34, 35, 36, 37] (fun u wc => ∃ gx' cx' gy' cy' : Nat, u 6 = .slice (some ⟨gx', 0, none⟩) (k + 1 + 1) cx' ∧ u 7 = .slice (some ⟨gy', 0, none⟩) (k + 1 + 1) cy' ∧ gx' ≠ gy' ∧
        wc.ownsRow (w.heap.size + 2) 3 1 (.slice (some ⟨gx', 0, none⟩) (k + 1 + 1) cx') (k + 1 + 1) ((0 :: (b.defects.map (·.x2)).take (k + 1)).map (Value.int .i64)) ∧
        wc.ownsRow (w.heap.size + 2) 3 1 (.slice (some ⟨gy', 0, none⟩) (k + 1 + 1) cy') (k + 1 + 1) ((0 :: (b.defects.map (·.y2)).take (k + 1)).map (Value.int .i64)) ∧ Below (w.heap.size + 2) W wc) ?_ ?_
      · refine gen_world (fun W2 => W2.cell? ⟨wr.heap.size, 2, none⟩ = some (.int .i64 b.defects[k].x2) ∧ W2.cell? ⟨wr.heap.size, 3, none⟩ = some (.int .i64 b.defects[k].y2) ∧
          W2.ownsRow (w.heap.size + 2) 3 1 (.slice (some ⟨gx, 0, none⟩) (k + 1) cx) (k + 1) ((0 :: (b.defects.map (·.x2)).take k).map (Value.int .i64)) ∧
          W2.ownsRow (w.heap.size + 2) 3 1 (.slice (some ⟨gy, 0, none⟩) (k + 1) cy) (k + 1) ((0 :: (b.defects.map (·.y2)).take k).map (Value.int .i64)) ∧ Below (w.heap.size + 2) W W2 ∧ wr.heap.size < W2.heap.size) ?_ ?_
        · exact ⟨by simp [go_sem], by simp [go_sem], hox.alloc _, hoy.alloc _, hbr.alloc (by omega) _, by simp⟩
        rintro W2 ⟨d2, d3, hox2, hoy2, hb2, hzW⟩
        clear hox hoy c0 c1 c2 c3
        go_region_held3 (fun w' => w'.cell? ⟨wr.heap.size, 2, none⟩ = some (.int .i64 b.defects[k].x2) ∧ w'.cell? ⟨wr.heap.size, 3, none⟩ = some (.int .i64 b.defects[k].y2)) (first
            | go_keep
            | exact ⟨hkX _ _ (by simp [go_sem, *]) (by simp; omega), hkX _ _ (by simp [go_sem, *]) (by simp; omega)⟩
            | exact ⟨hkY _ _ (by simp [go_sem, *]) (by simp; omega), hkY _ _ (by simp [go_sem, *]) (by simp; omega)⟩)
          (first
            | (have _tok := hoY; refine step_append_lies _ (by rfl) (.tmp 28) (.tmp 31) _ (by rfl) (w.heap.size + 2) 3 i0 (.int .i64 0) 1 8 Tryz.underlying75 hi0 hz0 hz1 hz2 rfl (by omega) (.slice (some ⟨gx, 0, none⟩) (k + 1) cx) (k + 1) ((0 :: (b.defects.map (·.x2)).take k).map (Value.int .i64)) (by rfl) ?_ ⟨_, 0, none⟩ 1 1 [.int .i64 b.defects[k].x2] (by rfl) (by rfl) ?_ (by simp [Value.oneCell']) (by omega) (by simp only [maxLen]; omega) (by omega) ?_ _ rfl ?_; (focus (repeat (first | assumption | apply World.ownsRow.drew | apply World.ownsRow.alloc))); (focus (first | (refine news_one ?_; simp [go_sem]; done) | (refine news_one ?_; simp [go_sem, hsY]; exact hkY _ _ (by simp [go_sem]) (by simp; omega)) | (refine news_one ?_; exact hkY _ _ (by simp [go_sem]) (by simp; omega)))); (focus (first | (simp; omega) | omega)); intro gX cX wX hoX hgX hatX hltX; have hkX := fun (p : Addr) (v : Value) (hp : _) (hnp : p.block ≠ gx) => World.grownBy.cell (a := p) (v := v) hgX hp (own_ne hnp); have hsX : W2.heap.size ≤ wX.heap.size := (by have hh := hgX.size; (try simp at hh); omega); have hbX : Below (w.heap.size + 2) W wX := Below.grown (by repeat (first | exact hbY | apply Below.drew | (refine Below.alloc ?_ (by first | (simp; omega) | omega) _))) hgX (by first | (simp; omega) | omega) (fun j hj => by simp only [Value.ownBlock, Option.some.injEq] at hj; omega); have hpY := World.ownsRow.kept (v := .slice (some ⟨gY, 0, none⟩) (k + 1 + 1) cY) (by repeat (first | exact hoY | apply World.ownsRow.drew | apply World.ownsRow.alloc)) hgX (.inr (own_ne3 hatY hne (by first | omega | (simp; omega)))))
            | (have _tok := hoX; refine step_append_lies _ (by rfl) (.tmp 33) (.tmp 36) _ (by rfl) (w.heap.size + 2) 3 i0 (.int .i64 0) 1 8 Tryz.underlying75 hi0 hz0 hz1 hz2 rfl (by omega) (.slice (some ⟨gy, 0, none⟩) (k + 1) cy) (k + 1) ((0 :: (b.defects.map (·.y2)).take k).map (Value.int .i64)) (by rfl) ?_ ⟨_, 0, none⟩ 1 1 [.int .i64 b.defects[k].y2] (by rfl) (by rfl) ?_ (by simp [Value.oneCell']) (by omega) (by simp only [maxLen]; omega) (by omega) ?_ _ rfl ?_; (focus (repeat (first | assumption | apply World.ownsRow.drew | apply World.ownsRow.alloc))); (focus (first | (refine news_one ?_; simp [go_sem]; done) | (refine news_one ?_; simp [go_sem, hsX]; exact hkX _ _ (by simp [go_sem]) (by simp; omega)) | (refine news_one ?_; exact hkX _ _ (by simp [go_sem]) (by simp; omega)))); (focus (first | (simp; omega) | omega)); intro gY cY wY hoY hgY hatY hltY; have hkY := fun (p : Addr) (v : Value) (hp : _) (hnp : p.block ≠ gy) => World.grownBy.cell (a := p) (v := v) hgY hp (own_ne hnp); have hsY : W2.heap.size ≤ wY.heap.size := (by have hh := hgY.size; (try simp at hh); omega); have hbY : Below (w.heap.size + 2) W wY := Below.grown (by repeat (first | exact hbX | apply Below.drew | (refine Below.alloc ?_ (by first | (simp; omega) | omega) _))) hgY (by first | (simp; omega) | omega) (fun j hj => by simp only [Value.ownBlock, Option.some.injEq] at hj; omega); have hpX := World.ownsRow.kept (v := .slice (some ⟨gX, 0, none⟩) (k + 1 + 1) cX) (by repeat (first | exact hoX | apply World.ownsRow.drew | apply World.ownsRow.alloc)) hgY (.inr (own_ne3 hatX hne.symm (by first | omega | (simp; omega)))))
            | (refine step_append_lies _ (by rfl) (.tmp 28) (.tmp 31) _ (by rfl) (w.heap.size + 2) 3 i0 (.int .i64 0) 1 8 Tryz.underlying75 hi0 hz0 hz1 hz2 rfl (by omega) (.slice (some ⟨gx, 0, none⟩) (k + 1) cx) (k + 1) ((0 :: (b.defects.map (·.x2)).take k).map (Value.int .i64)) (by rfl) ?_ ⟨_, 0, none⟩ 1 1 [.int .i64 b.defects[k].x2] (by rfl) (by rfl) ?_ (by simp [Value.oneCell']) (by omega) (by simp only [maxLen]; omega) (by omega) ?_ _ rfl ?_; (focus (repeat (first | assumption | apply World.ownsRow.drew | apply World.ownsRow.alloc))); (focus (refine news_one ?_; simp [go_sem]; done)); (focus (first | (simp; omega) | omega)); intro gX cX wX hoX hgX hatX hltX; have hkX := fun (p : Addr) (v : Value) (hp : _) (hnp : p.block ≠ gx) => World.grownBy.cell (a := p) (v := v) hgX hp (own_ne hnp); have hsX : W2.heap.size ≤ wX.heap.size := (by have hh := hgX.size; (try simp at hh); omega); have hbX : Below (w.heap.size + 2) W wX := Below.grown (by repeat (first | exact hb2 | apply Below.drew | (refine Below.alloc ?_ (by first | (simp; omega) | omega) _))) hgX (by first | (simp; omega) | omega) (fun j hj => by simp only [Value.ownBlock, Option.some.injEq] at hj; omega); have hpY := World.ownsRow.kept (v := .slice (some ⟨gy, 0, none⟩) (k + 1) cy) (by repeat (first | exact hoy2 | apply World.ownsRow.drew | apply World.ownsRow.alloc)) hgX (.inr (own_ne2 hne.symm)))
            | (refine step_append_lies _ (by rfl) (.tmp 33) (.tmp 36) _ (by rfl) (w.heap.size + 2) 3 i0 (.int .i64 0) 1 8 Tryz.underlying75 hi0 hz0 hz1 hz2 rfl (by omega) (.slice (some ⟨gy, 0, none⟩) (k + 1) cy) (k + 1) ((0 :: (b.defects.map (·.y2)).take k).map (Value.int .i64)) (by rfl) ?_ ⟨_, 0, none⟩ 1 1 [.int .i64 b.defects[k].y2] (by rfl) (by rfl) ?_ (by simp [Value.oneCell']) (by omega) (by simp only [maxLen]; omega) (by omega) ?_ _ rfl ?_; (focus (repeat (first | assumption | apply World.ownsRow.drew | apply World.ownsRow.alloc))); (focus (refine news_one ?_; simp [go_sem]; done)); (focus (first | (simp; omega) | omega)); intro gY cY wY hoY hgY hatY hltY; have hkY := fun (p : Addr) (v : Value) (hp : _) (hnp : p.block ≠ gy) => World.grownBy.cell (a := p) (v := v) hgY hp (own_ne hnp); have hsY : W2.heap.size ≤ wY.heap.size := (by have hh := hgY.size; (try simp at hh); omega); have hbY : Below (w.heap.size + 2) W wY := Below.grown (by repeat (first | exact hb2 | apply Below.drew | (refine Below.alloc ?_ (by first | (simp; omega) | omega) _))) hgY (by first | (simp; omega) | omega) (fun j hj => by simp only [Value.ownBlock, Option.some.injEq] at hj; omega); have hpX := World.ownsRow.kept (v := .slice (some ⟨gx, 0, none⟩) (k + 1) cx) (by repeat (first | exact hox2 | apply World.ownsRow.drew | apply World.ownsRow.alloc)) hgY (.inr (own_ne2 hne))))
        all_goals
          refine cut_meet (by simp [forget]) ?_
          refine ⟨gX, cX, gY, cY, by simp, by simp, ?_, ?_, ?_, ?_⟩
          · rcases hatX with e | e <;> rcases hatY with e' | e' <;> simp [Value.ownBlock] at e e' <;> omega
          · first | exact rows_next hlt hpX | exact rows_next hlt hoX
          · first | exact rows_next hlt hpY | exact rows_next hlt hoY
          · first | exact hbX | exact hbY
      · rintro u wc ⟨gx', cx', gy', cy', h6, h7, hne', hox', hoy', hbc⟩
        simp only [forget, List.foldl_cons, List.foldl_nil, List.setIfInBounds_toArray, List.set_cons_succ, List.set_cons_zero, h6, h7]
        go_wp2_with fail
        go_roundw
        case rel => exact ⟨k + 1, _, _, _, _, by omega, by go_num, rfl, rfl, hne', hox', hoy', hbc⟩
        case measure => simp [intOf]; omega
    · obtain rfl : k = b.defects.length := by omega
      rw [List.take_of_length_le (by simp)] at hox hoy
      have hgxl := hox.lt gx rfl
      have hgyl := hoy.lt gy rfl
      have HOX := Lib.hid hox
      have HOY := Lib.hid hoy
      clear hox hoy
      go_wp2_with (go_at_call 127; refine (lines_n (w.heap.size + 2) _ _ _ (widXs b) _ (by simp [widXs]) (HOX.out.alloc _) (by omega)).mono ?_; rintro e w1 ⟨rfl, ho1, hg1⟩; have HO1 := Lib.hid ho1; clear ho1)
      have hg1' : (wr.alloc (.cells #[.int .i64 0, .int .i64 0, .int .i64 0, .int .i64 0] 33)).grownBy w1 (some gx) := hg1
      have hlow1 : Below (w.heap.size + 2) W w1 := (hbr.alloc (by omega) _).grown hg1' (by simp; omega) (fun j hj => by cases hj; omega)
      have HW : WidW (w.heap.size + 2) W wr.heap.size gx gy (b.defects.length + 1) cy (uniq (widXs b)) ⟨0, 0, 0, 0⟩ (widYs b) w1 :=
        ⟨(RectBlk.new wr ⟨0, 0, 0, 0⟩).grown hg1' (by simp; omega), (HOY.out.alloc _).kept hg1' (.inr (by simp [Value.ownBlock]; omega)), own_ints HO1.out, hlow1⟩
      have hux : (uniq (widXs b)).length ≤ b.defects.length + 1 := by have := uniq_length (widXs b); simpa [widXs] using this
      have HG := Lib.hid (show widS b len = widGo b.defects b.length b.width len (uniq (widYs b)) ((uniq (widXs b)).drop 0) (⟨0, 0, 0, 0⟩, false) by simp [widS])
      have hsz1 : wr.heap.size < w1.heap.size := by have := hg1'.size; simp at this; omega
      clear HO1 HOX HOY
      obtain ⟨wo, rfl⟩ : ∃ wo : World, wo = wr := ⟨_, rfl⟩
      go_loopw [11, 42] (fun u11 u42 w2 => ∃ (i : Nat) (s : Rect × Bool) (zs : List Int), i ≤ (uniq (widXs b)).length ∧ u42 = .int .i64 i ∧ u11 = .bool s.2 ∧ Hid (widS b len = widGo b.defects b.length b.width len (uniq (widYs b)) ((uniq (widXs b)).drop i) s) ∧
          Hid (zs.length = b.defects.length + 1 ∧ ∀ z, z ∈ zs ↔ z ∈ widYs b) ∧ WidW (w.heap.size + 2) W wo.heap.size gx gy (b.defects.length + 1) cy (uniq (widXs b)) s.1 zs w2 ∧ wo.heap.size < w2.heap.size ∧ (0 ≤ s.1.y1 ∧ s.1.y1 ≤ 600000 ∧ 0 ≤ s.1.y2 ∧ s.1.y2 ≤ 600000)) (fun _ i _ => (uniq (widXs b)).length - (intOf i).toNat)
      case atStart => exact ⟨0, (⟨0, 0, 0, 0⟩, false), widYs b, Nat.zero_le _, rfl, rfl, HG, Lib.hid ⟨by simp [widYs], fun _ => Iff.rfl⟩, HW, hsz1, by simp⟩
      case round =>
        clear HG HW hlow1
        obtain ⟨i, s, zs, hi, rfl, rfl, HG, HZ, HW, hsz2, hsb⟩ := hrel
        have HL2 := HW.low
        have hszW2 := HL2.size
        obtain ⟨hcW, hfW⟩ := bcellB HL2
        have e2' : wr.cell? ⟨w.heap.size, 2, none⟩ = some (.int .i64 b.length) := (hcW _ _ (by omega)).trans e2
        have e3' : wr.cell? ⟨w.heap.size, 3, none⟩ = some (.int .i64 b.width) := (hcW _ _ (by omega)).trans e3
        have e7' : wr.cell? ⟨w.heap.size, 7, none⟩ = some (.slice a b.defects.length c) := (hcW _ _ (by omega)).trans e7
        clear hcW hfW
        by_cases hlt2 : i < (uniq (widXs b)).length
        · obtain ⟨bx, ox, hbx, ci⟩ := HW.ints.at_ hlt2
          injection hbx with hbx
          injection hbx with hb0 ho0
          subst hb0 ho0
          simp only [Nat.zero_add] at ci
          have hxb := widXs_bd hin (uniq_mem.1 (List.getElem_mem hlt2))
          by_cases hbr : b.length < (uniq (widXs b))[i] + len
          · have hs := Lib.hid (widGo_break hlt2 HG.out hbr)
            obtain ⟨b0, b1, b2, b3⟩ := HW.best.cells
            have hr4 : RectBlk wr (w.heap.size + 1) ⟨0, 0, 0, 0⟩ := (HL2.block _ (by omega)).trans hres
            obtain ⟨q0, q1, q2, q3⟩ := hr4.cells
            have p0 := hr4.frozen 0
            have p1 := hr4.frozen 1
            have p2 := hr4.frozen 2
            have p3 := hr4.frozen 3
            have hset := hr4.setAll s.1
            obtain ⟨g0, g1, g2, g3⟩ := hset.cells
            have hbel := ((((hbW.trans (HL2.mono (by omega))).setCell (p := ⟨w.heap.size + 1, 0, none⟩) (by simp) (.int .i64 s.1.x1)).setCell (p := ⟨w.heap.size + 1, 1, none⟩) (by simp) (.int .i64 s.1.y1)).setCell (p := ⟨w.heap.size + 1, 2, none⟩) (by simp) (.int .i64 s.1.x2)).setCell (p := ⟨w.heap.size + 1, 3, none⟩) (by simp) (.int .i64 s.1.y2)
            have HG0 := Lib.hid g0
            have HG1 := Lib.hid g1
            have HG2 := Lib.hid g2
            have HG3 := Lib.hid g3
            clear g0 g1 g2 g3 hset
            go_wp2_with fail
            have g0 := HG0.out
            have g1 := HG1.out
            have g2 := HG2.out
            have g3 := HG3.out
            exact bodyPost_ret (v := .tuple #[.agg #[.int .i64 s.1.x1, .int .i64 s.1.y1, .int .i64 s.1.x2, .int .i64 s.1.y2], .bool s.2]) (by simp [results, Tryz.results79, go_sem, g0, g1, g2, g3]) rfl ⟨by rw [hs.out], hbel⟩
          · have hu0 := Lib.hid (uniq_congr (zs := zs) (ys := widYs b) HZ.out.2)
            have HWO := Lib.hid HW.own
            have hul : (uniq (widYs b)).length ≤ b.defects.length + 1 := by have := uniq_length (widYs b); simpa [widYs] using this
            have HZ' := Lib.hid (zs_next (ys := widYs b) HZ.out (by simp [widYs]) hul)
            have hlen0 := Lib.hid HZ.out.1
            have HG' := Lib.hid (widGo_next hlt2 HG.out hbr)
            go_wp2_with (go_at_call 127; refine (lines_u (w.heap.size + 2) _ _ _ zs (uniq (widYs b)) _ hlen0.out.symm hu0.out HWO.out (by omega)).mono ?_; rintro e w3 ⟨rfl, ho3, hg3⟩; have HO3 := Lib.hid ho3; clear ho3)
            have HW3 := HW.grownY hg3 hne (by omega) (by omega) (by omega) HO3.out
            have HI3 := own_ints HO3.out
            have hsz3 : wo.heap.size < w3.heap.size := by have := hg3.size; omega
            clear HWO HW HO3 HG hlen0 hu0 HZ e2' e3' e7' ci HL2
            obtain ⟨w2, rfl⟩ : ∃ w2 : World, w2 = wr := ⟨_, rfl⟩
            generalize hx0 : (uniq (widXs b))[i] = x at *
            have HX0 := Lib.hid hx0
            clear hx0
            have HXB := Lib.hid hxb
            clear hxb
            obtain ⟨zs', hzs'⟩ : ∃ zs', zs' = uniq (widYs b) ++ List.replicate (b.defects.length + 1 - (uniq (widYs b)).length) 0 := ⟨_, rfl⟩
            rw [← hzs'] at HW3 HZ'
            clear hzs'
            obtain ⟨us, hus⟩ : ∃ us, us = uniq (widYs b) := ⟨_, rfl⟩
            have HUS := Lib.hid hus
            rw [← hus] at HI3 hul
            have HUB := Lib.hid (show ∀ y ∈ us, 0 ≤ y ∧ y ≤ 600000 from fun y hy => widYs_bd hin (uniq_mem.1 (by rw [← HUS.out]; exact hy)))
            go_loopw [11, 55] (fun u11 u55 wr => ∃ (j : Nat) (s' : Rect × Bool), j ≤ (uniq (widYs b)).length ∧ u55 = .int .i64 j ∧ u11 = .bool s'.2 ∧ Hid ((uniq (widYs b)).foldl (stepY b.defects b.width len x) s = ((uniq (widYs b)).drop j).foldl (stepY b.defects b.width len x) s') ∧
                WidW (w.heap.size + 2) W wo.heap.size gx gy (b.defects.length + 1) cy (uniq (widXs b)) s'.1 zs' wr ∧ IntsV wr (some ⟨gy, 0, none⟩) us ∧ wo.heap.size < wr.heap.size ∧ (0 ≤ s'.1.y1 ∧ s'.1.y1 ≤ 600000 ∧ 0 ≤ s'.1.y2 ∧ s'.1.y2 ≤ 600000)) (fun _ j _ => (uniq (widYs b)).length - (intOf j).toNat)
            case atStart => exact ⟨0, s, Nat.zero_le _, rfl, rfl, Lib.hid rfl, HW3, HI3, hsz3, hsb⟩
            case round =>
              clear HW3 HI3 hsb
              obtain ⟨j, s', hj, rfl, rfl, HF, HW, HI, hszr, hsb⟩ := hrel
              by_cases hlt3 : j < (uniq (widYs b)).length
              · have HL3 := HW.low
                have hszW3 := HL3.size
                obtain ⟨hcW, hfW⟩ := bcellB HL3
                have e2' : wr.cell? ⟨w.heap.size, 2, none⟩ = some (.int .i64 b.length) := (hcW _ _ (by omega)).trans e2
                have e3' : wr.cell? ⟨w.heap.size, 3, none⟩ = some (.int .i64 b.width) := (hcW _ _ (by omega)).trans e3
                have e7' : wr.cell? ⟨w.heap.size, 7, none⟩ = some (.slice a b.defects.length c) := (hcW _ _ (by omega)).trans e7
                clear hcW hfW
                have hxb : 0 ≤ x ∧ x ≤ 600000 := HXB.out
                have hyb : 0 ≤ us[j]'(by rw [HUS.out]; exact hlt3) ∧ us[j]'(by rw [HUS.out]; exact hlt3) ≤ 600000 := HUB.out _ (List.getElem_mem _)
                have hlt3' : j < us.length := by rw [HUS.out]; exact hlt3
                obtain ⟨bx, oy, hby, ci⟩ := HI.at_ hlt3'
                injection hby with hby
                injection hby with hb0 ho0
                subst hb0 ho0
                simp only [Nat.zero_add] at ci
                have HF' := Lib.hid (fold_step hlt3 HF.out)
                have hyj : (uniq (widYs b))[j] = us[j] := by simp only [HUS.out]
                rw [hyj] at HF'
                generalize hy0 : us[j] = y at *
                clear hy0 hyj
                obtain ⟨wp, rfl⟩ : ∃ wp : World, wp = wr := ⟨_, rfl⟩
                have hzq : w.heap.size < wp.heap.size := by omega
                go_upto_region 17 with fail
                refine gen_world (fun W3 => RectBlk W3 wp.heap.size ⟨x, y, x + len, b.width⟩ ∧ WidW (w.heap.size + 2) W wo.heap.size gx gy (b.defects.length + 1) cy (uniq (widXs b)) s'.1 zs' W3 ∧ IntsV W3 (some ⟨gy, 0, none⟩) us ∧ wp.heap.size < W3.heap.size ∧ W3.cell? ⟨w.heap.size, 7, none⟩ = some (.slice a b.defects.length c)) ?_ ?_
                · exact ⟨RectBlk.new _ ⟨x, y, x + len, b.width⟩, HW.keep (by omega) ((Below.refl _ _).alloc (Nat.le_refl _) _), HI.keep ((Below.refl _ _).alloc (Nat.le_refl _) _), by simp, (World.cell?_alloc_past _ _ _ (by omega)).trans e7'⟩
                rintro W3 ⟨HR3, HW3, HI3, hsz3', e73⟩
                clear ci HL3 HW HI e2' e3' e7'
                go_wp2_with fail
                go_loopw [70] (fun u70 wr => ∃ (m : Nat) (y2 : Int), m ≤ b.defects.length ∧ u70 = .int .i64 m ∧ Hid (b.defects.foldl (fY x (x + len) y) b.width = (b.defects.drop m).foldl (fY x (x + len) y) y2) ∧ RectBlk wr wp.heap.size ⟨x, y, x + len, y2⟩ ∧
                    WidW (w.heap.size + 2) W wo.heap.size gx gy (b.defects.length + 1) cy (uniq (widXs b)) s'.1 zs' wr ∧ IntsV wr (some ⟨gy, 0, none⟩) us ∧ wp.heap.size < wr.heap.size ∧ (0 ≤ y2 ∧ y2 ≤ 600000)) (fun m _ => b.defects.length - (intOf m).toNat)
                case atStart => exact ⟨0, b.width, Nat.zero_le _, rfl, Lib.hid rfl, HR3, HW3, HI3, hsz3', by omega⟩
                case round =>
                  clear HR3 HW3 HI3 e73
                  have HIN := Lib.hid hin
                  obtain ⟨m, y2, hm, rfl, HY, HR, HW, HI, hszr, hy2b⟩ := hrel
                  have HL4 := HW.low
                  obtain ⟨hcW, hfW⟩ := bcellB HL4
                  have e7' : wr.cell? ⟨w.heap.size, 7, none⟩ = some (.slice a b.defects.length c) := (hcW _ _ (by omega)).trans e7
                  clear hcW hfW
                  by_cases hlt4 : m < b.defects.length
                  · obtain ⟨bk, od, rfl, hat⟩ := (hv.keep (hbW.trans (HL4.mono (by omega)))).at_ hlt4
                    obtain ⟨c0, c1, c2, c3, -⟩ := hat
                    have hdb := HIN.out _ (List.getElem_mem hlt4)
                    have HY' := Lib.hid (fold_step hlt4 HY.out)
                    generalize hd0 : b.defects[m] = d at *
                    clear hd0
                    obtain ⟨p0, p1, p2, p3⟩ := HR.cells
                    have pf := HR.frozen 3
                    go_wp2_with (go_at_call 124; refine (overlap_any d ⟨x, y, x + len, y2⟩ _).mono ?_; rintro e w4 ⟨rfl, hb4⟩; have HB0 : Below wr.heap.size wr w4 := (((Below.refl _ _).alloc (Nat.le_refl _) _).trans (hb4.mono (by simp))); have hR4 := HR.keep HB0; have d1 : w4.cell? ⟨wr.heap.size, 1, none⟩ = some (.int .i64 d.y1) := (cell_keep hb4 (by simp [go_sem])); have pf4 := hR4.frozen 3; obtain ⟨r0, r1, r2, r3⟩ := hR4.cells)
                    · go_roundw
                      case rel =>
                        rename_i hov
                        exact ⟨m + 1, max d.y1 y, by omega, by go_num, Lib.hid (by rw [HY'.out]; simp only [fY, hov, if_true]), hR4.set3 _, (HW.keep (by omega) HB0).setFar 3 _ (by omega) (by omega) (by omega) (by omega), (HI.keep HB0).grown (grown_setCell _ _ _ _) (by simp; omega), by have := HB0.size; simp [World.setCell]; omega, by omega⟩
                      case measure => simp [intOf]; omega
                    · go_roundw
                      case rel =>
                        rename_i hov
                        exact ⟨m + 1, y2, by omega, by go_num, Lib.hid (by rw [HY'.out]; simp only [fY, hov, if_false, Bool.false_eq_true]), hR4, HW.keep (by omega) HB0, HI.keep HB0, by have := HB0.size; omega, hy2b⟩
                      case measure => simp [intOf]; omega
                  · have HYE := Lib.hid (fold_end (by omega) HY.out)
                    obtain ⟨p0, p1, p2, p3⟩ := HR.cells
                    obtain ⟨q0, q1, q2, q3⟩ := HW.best.cells
                    have f0 := HW.best.frozen 0
                    have f1 := HW.best.frozen 1
                    have f2 := HW.best.frozen 2
                    have f3 := HW.best.frozen 3
                    have HWS := Lib.hid (HW.setBest (by omega) (by omega) (by omega) ⟨x, y, x + len, y2⟩)
                    have HST := Lib.hid (show stepY b.defects b.width len x s' y = if y < y2 ∧ (s'.2 = false ∨ s'.1.y2 - s'.1.y1 < y2 - y) then (⟨x, y, x + len, y2⟩, true) else s' by unfold stepY; rw [HYE.out])
                    have HI4 := Lib.hid ((((HI.grown (grown_setCell _ wo.heap.size 0 (.int .i64 x)) (by simp; omega)).grown (grown_setCell _ wo.heap.size 1 (.int .i64 y)) (by simp; omega)).grown (grown_setCell _ wo.heap.size 2 (.int .i64 (x + len))) (by simp; omega)).grown (grown_setCell _ wo.heap.size 3 (.int .i64 y2)) (by simp; omega))
                    go_wp2_with fail
                    all_goals go_roundw
                    case measure => simp [intOf]; omega
                    case measure => simp [intOf]; omega
                    case measure => simp [intOf]; omega
                    case measure => simp [intOf]; omega
                    case rel =>
                      rename_i h1 h2 h3
                      exact ⟨j + 1, (⟨x, y, x + len, y2⟩, true), by omega, by go_num, rfl, Lib.hid (by rw [HF'.out, HST.out, if_pos ⟨h1, .inr h3⟩]), HWS.out, HI4.out, by simp [World.setCell]; omega, by simp only; omega⟩
                    case rel =>
                      rename_i h1 h2 h3
                      exact ⟨j + 1, s', by omega, by go_num, by rw [h2], Lib.hid (by rw [HF'.out, HST.out, if_neg (by rintro ⟨_, h⟩; rw [h2] at h; simp at h; omega)]), HW, HI, by omega, hsb⟩
                    case rel =>
                      rename_i h1 h2
                      exact ⟨j + 1, (⟨x, y, x + len, y2⟩, true), by omega, by go_num, rfl, Lib.hid (by rw [HF'.out, HST.out, if_pos ⟨h1, .inl (by simpa using h2)⟩]), HWS.out, HI4.out, by simp [World.setCell]; omega, by simp only; omega⟩
                    case rel =>
                      rename_i h1
                      exact ⟨j + 1, s', by omega, by go_num, rfl, Lib.hid (by rw [HF'.out, HST.out, if_neg (by rintro ⟨h, _⟩; omega)]), HW, HI, by omega, hsb⟩
              · have HS := Lib.hid (fold_end (by omega) HF.out)
                go_wp2_with fail
                go_roundw
                case rel => exact ⟨i + 1, s', zs', by omega, by go_num, rfl, Lib.hid (by rw [← HS.out]; subst_vars; exact HG'.out), HZ', HW, hszr, hsb⟩
                case measure => simp [intOf]; omega
        · have hs := Lib.hid (widGo_end (by omega) HG.out)
          obtain ⟨b0, b1, b2, b3⟩ := HW.best.cells
          have hr4 : RectBlk wr (w.heap.size + 1) ⟨0, 0, 0, 0⟩ := (HL2.block _ (by omega)).trans hres
          obtain ⟨q0, q1, q2, q3⟩ := hr4.cells
          have p0 := hr4.frozen 0
          have p1 := hr4.frozen 1
          have p2 := hr4.frozen 2
          have p3 := hr4.frozen 3
          have hset := hr4.setAll s.1
          obtain ⟨g0, g1, g2, g3⟩ := hset.cells
          have hbel := ((((hbW.trans (HL2.mono (by omega))).setCell (p := ⟨w.heap.size + 1, 0, none⟩) (by simp) (.int .i64 s.1.x1)).setCell (p := ⟨w.heap.size + 1, 1, none⟩) (by simp) (.int .i64 s.1.y1)).setCell (p := ⟨w.heap.size + 1, 2, none⟩) (by simp) (.int .i64 s.1.x2)).setCell (p := ⟨w.heap.size + 1, 3, none⟩) (by simp) (.int .i64 s.1.y2)
          have HG0 := Lib.hid g0
          have HG1 := Lib.hid g1
          have HG2 := Lib.hid g2
          have HG3 := Lib.hid g3
          clear g0 g1 g2 g3 hset
          go_wp2_with fail
          have g0 := HG0.out
          have g1 := HG1.out
          have g2 := HG2.out
          have g3 := HG3.out
          exact bodyPost_ret (v := .tuple #[.agg #[.int .i64 s.1.x1, .int .i64 s.1.y1, .int .i64 s.1.x2, .int .i64 s.1.y2], .bool s.2]) (by simp [results, Tryz.results79, go_sem, g0, g1, g2, g3]) rfl ⟨by rw [hs.out], hbel⟩
theorem tboardGo_ok {l wd : Int} {ds : List Rect} (h : boardGo l wd ds = 0) : ∀ d ∈ ds, 0 ≤ d.x1 ∧ d.x1 < d.x2 ∧ d.x2 ≤ l ∧ 0 ≤ d.y1 ∧ d.y1 < d.y2 ∧ d.y2 ≤ wd := by
  induction ds with
  | nil => simp
  | cons r rs ih =>
    unfold boardGo at h
    split at h
    · exact absurd h (by assumption)
    · rename_i hr
      intro d hd
      rcases List.mem_cons.1 hd with rfl | hd
      · have hr : rectIn l wd d = 0 := Classical.not_not.1 hr
        unfold rectIn at hr
        split at hr
        · cases hr
        · split at hr
          · cases hr
          · omega
      · exact ih h d hd
structure BoardOk (b : Board) : Prop where
  name : nameB b.name = true
  species : nameB b.species = true
  length : 1 ≤ b.length ∧ b.length ≤ 600000
  width : 1 ≤ b.width ∧ b.width ≤ 100000
  thick : 1 ≤ b.thick ∧ b.thick ≤ 20000
  cut : 0 ≤ b.cut ∧ b.cut ≤ 1
  moisture : 0 ≤ b.moisture ∧ b.moisture ≤ 400
  few : b.defects.length ≤ 60
  inside : ∀ d ∈ b.defects, 0 ≤ d.x1 ∧ d.x1 < d.x2 ∧ d.x2 ≤ b.length ∧ 0 ≤ d.y1 ∧ d.y1 < d.y2 ∧ d.y2 ≤ b.width
theorem tboardErr_ok {b : Board} (h : boardErr b = 0) : BoardOk b := by
  unfold boardErr at h
  split at h
  · cases h
  · rename_i h1
    split at h
    · cases h
    · rename_i h2
      split at h
      · cases h
      · rename_i h3
        have e1 : withinB b.length 1 600000 = true := by cases hq : withinB b.length 1 600000 <;> simp_all
        have e2 : withinB b.width 1 100000 = true := by cases hq : withinB b.width 1 100000 <;> simp_all
        have e3 : withinB b.thick 1 20000 = true := by cases hq : withinB b.thick 1 20000 <;> simp_all
        have e4 : withinB b.cut 0 1 = true := by cases hq : withinB b.cut 0 1 <;> simp_all
        have e5 : withinB b.moisture 0 400 = true := by cases hq : withinB b.moisture 0 400 <;> simp_all
        exact ⟨by cases hq : nameB b.name <;> simp_all, by cases hq : nameB b.species <;> simp_all, withinB_true e1, withinB_true e2, withinB_true e3, withinB_true e4, withinB_true e5, by omega, tboardGo_ok h⟩
section
variable {α : Type} (h : α → Int) (lt : α → α → Prop)
def fbStep (s : Option α) (c : α) : Option α := match s with
  | none => if 0 < h c then some c else none
  | some b => if 0 < h c ∧ h b < h c then some c else some b
def FB (ps : List α) : Option α → Prop
  | none => ∀ c ∈ ps, h c ≤ 0
  | some b => b ∈ ps ∧ 0 < h b ∧ ∀ c ∈ ps, h c ≤ h b ∧ (h c = h b → c = b ∨ lt b c)
end
section
variable {α : Type} (h : α → Int) (lt : α → α → Prop)
variable {h} {lt}
theorem fb_step {pre : List α} {c : α} {s : Option α} (hp : (pre ++ [c]).Pairwise lt) (hs : FB h lt pre s) : FB h lt (pre ++ [c]) (fbStep h s c) := by
  obtain ⟨-, -, hc⟩ := List.pairwise_append.1 hp
  cases s with
  | none =>
    simp only [FB] at hs
    simp only [fbStep]
    split
    · rename_i h0
      refine ⟨by simp, h0, fun d hd => ?_⟩
      rcases List.mem_append.1 hd with hd | hd
      · have := hs d hd
        exact ⟨by omega, fun e => by omega⟩
      · simp at hd; subst hd; exact ⟨Int.le_refl _, fun _ => .inl rfl⟩
    · rename_i h0
      intro d hd
      rcases List.mem_append.1 hd with hd | hd
      · exact hs d hd
      · simp at hd; subst hd; omega
  | some b =>
    obtain ⟨hb, h0, hm⟩ := hs
    simp only [fbStep]
    split
    · rename_i h1
      refine ⟨by simp, h1.1, fun d hd => ?_⟩
      rcases List.mem_append.1 hd with hd | hd
      · have := (hm d hd).1
        exact ⟨by omega, fun e => by omega⟩
      · simp at hd; subst hd; exact ⟨Int.le_refl _, fun _ => .inl rfl⟩
    · rename_i h1
      refine ⟨by simp [hb], h0, fun d hd => ?_⟩
      rcases List.mem_append.1 hd with hd | hd
      · exact hm d hd
      · simp at hd; subst hd
        exact ⟨by omega, fun _ => .inr (hc b hb d (by simp))⟩
theorem fb_fold {ps : List α} : ∀ {pre : List α} {s : Option α}, (pre ++ ps).Pairwise lt → FB h lt pre s → FB h lt (pre ++ ps) (ps.foldl (fbStep h) s) := by
  induction ps with
  | nil => intro pre s _ hs; simpa using hs
  | cons c ps ih =>
    intro pre s hp hs
    have e : pre ++ c :: ps = (pre ++ [c]) ++ ps := by simp
    rw [e] at hp ⊢
    rw [List.foldl_cons]
    exact ih hp (fb_step (List.pairwise_append.1 hp).1 hs)
end
def reach (ds : List Rect) (wd len x y : Int) : Int := ds.foldl (fY x (x + len) y) wd
theorem fY_step {x xl y y2 : Int} {d : Rect} (hd : d.y1 < d.y2) (hy : y ≤ y2) : y ≤ fY x xl y y2 d ∧ fY x xl y y2 d ≤ y2 ∧ ∀ Y, y < Y → (Y ≤ fY x xl y y2 d ↔ Y ≤ y2 ∧ overlapB d ⟨x, y, xl, Y⟩ = false) := by
  unfold fY overlapB
  simp only [decide_eq_true_eq, decide_eq_false_iff_not]
  split <;> refine ⟨by omega, by omega, fun Y hY => ?_⟩ <;> omega
theorem fold_fY {x xl y : Int} {ds : List Rect} (hds : ∀ d ∈ ds, d.y1 < d.y2) : ∀ {y2 : Int}, y ≤ y2 →
    y ≤ ds.foldl (fY x xl y) y2 ∧ ds.foldl (fY x xl y) y2 ≤ y2 ∧ ∀ Y, y < Y → (Y ≤ ds.foldl (fY x xl y) y2 ↔ Y ≤ y2 ∧ ∀ d ∈ ds, overlapB d ⟨x, y, xl, Y⟩ = false) := by
  induction ds with
  | nil => intro y2 hy; exact ⟨hy, Int.le_refl _, fun Y _ => by simp⟩
  | cons d ds ih =>
    intro y2 hy
    obtain ⟨a1, a2, a3⟩ := fY_step (x := x) (xl := xl) (hds d (by simp)) hy
    obtain ⟨b1, b2, b3⟩ := ih (fun e he => hds e (by simp [he])) a1
    rw [List.foldl_cons]
    refine ⟨b1, by omega, fun Y hY => ?_⟩
    rw [b3 Y hY, a3 Y hY]
    simp only [List.mem_cons, forall_eq_or_imp]
    exact ⟨fun ⟨⟨p, q⟩, r⟩ => ⟨p, q, r⟩, fun ⟨p, q, r⟩ => ⟨⟨p, q⟩, r⟩⟩
theorem widGo_fold {ds : List Rect} {l wd len : Int} {ys : List Int} : ∀ {xs : List Int} {s : Rect × Bool}, xs.Pairwise (· < ·) → widGo ds l wd len ys xs s = (xs.filter fun x => decide (x + len ≤ l)).foldl (fun s x => ys.foldl (stepY ds wd len x) s) s
  | [], s, _ => rfl
  | x :: xs, s, h => by
    obtain ⟨h1, h2⟩ := List.pairwise_cons.1 h
    rw [widGo]
    split
    · rename_i hc
      rw [List.filter_eq_nil_iff.2]
      · rfl
      · intro z hz
        rcases List.mem_cons.1 hz with rfl | hz
        · simp; omega
        · have := h1 z hz; simp; omega
    · rename_i hc
      rw [List.filter_cons, if_pos (by simpa using hc), List.foldl_cons]
      exact widGo_fold h2
def pairs (xs ys : List Int) : List (Int × Int) := xs.flatMap fun x => ys.map fun y => (x, y)
def lexLt (p q : Int × Int) : Prop := p.1 < q.1 ∨ (p.1 = q.1 ∧ p.2 < q.2)
def hgt (ds : List Rect) (wd len : Int) (p : Int × Int) : Int := reach ds wd len p.1 p.2 - p.2
def encR (ds : List Rect) (wd len : Int) : Option (Int × Int) → Rect × Bool
  | none => (⟨0, 0, 0, 0⟩, false)
  | some p => (⟨p.1, p.2, p.1 + len, reach ds wd len p.1 p.2⟩, true)
theorem pairs_asc {xs ys : List Int} (h1 : xs.Pairwise (· < ·)) (h2 : ys.Pairwise (· < ·)) : (pairs xs ys).Pairwise lexLt := by
  unfold pairs
  rw [List.pairwise_flatMap]
  refine ⟨fun x _ => ?_, h1.imp fun {a b} hab p hp q hq => ?_⟩
  · rw [List.pairwise_map]
    exact h2.imp fun h => .inr ⟨rfl, h⟩
  · simp only [List.mem_map] at hp hq
    obtain ⟨_, _, rfl⟩ := hp
    obtain ⟨_, _, rfl⟩ := hq
    exact .inl hab
theorem pairs_mem {xs ys : List Int} {p : Int × Int} : p ∈ pairs xs ys ↔ p.1 ∈ xs ∧ p.2 ∈ ys := by
  unfold pairs
  simp only [List.mem_flatMap, List.mem_map]
  constructor
  · rintro ⟨x, hx, y, hy, rfl⟩; exact ⟨hx, hy⟩
  · rintro ⟨hx, hy⟩; exact ⟨p.1, hx, p.2, hy, rfl⟩
theorem encR_step {ds : List Rect} {wd len x y : Int} {s : Option (Int × Int)} : stepY ds wd len x (encR ds wd len s) y = encR ds wd len (fbStep (hgt ds wd len) s (x, y)) := by
  have hstep : ∀ t : Rect × Bool, stepY ds wd len x t y = if y < reach ds wd len x y ∧ (t.2 = false ∨ t.1.y2 - t.1.y1 < reach ds wd len x y - y) then (⟨x, y, x + len, reach ds wd len x y⟩, true) else t := fun _ => rfl
  rw [hstep]
  have e0 : hgt ds wd len (x, y) = reach ds wd len x y - y := rfl
  cases s with
  | none =>
    simp only [encR, fbStep, true_or, and_true]
    by_cases h : y < reach ds wd len x y
    · rw [if_pos h, if_pos (by omega)]
    · rw [if_neg h, if_neg (by omega)]
  | some b =>
    have e1 : hgt ds wd len b = reach ds wd len b.1 b.2 - b.2 := rfl
    simp only [encR, fbStep, Bool.true_eq_false, false_or]
    by_cases h : y < reach ds wd len x y ∧ reach ds wd len b.1 b.2 - b.2 < reach ds wd len x y - y
    · rw [if_pos h, if_pos ⟨by omega, by omega⟩]
    · rw [if_neg h, if_neg (by rintro ⟨p, q⟩; exact h ⟨by omega, by omega⟩)]
theorem foldY_enc {ds : List Rect} {wd len x : Int} : ∀ {ys : List Int} {s : Option (Int × Int)}, ys.foldl (stepY ds wd len x) (encR ds wd len s) = encR ds wd len ((ys.map fun y => (x, y)).foldl (fbStep (hgt ds wd len)) s)
  | [], s => rfl
  | y :: ys, s => by rw [List.foldl_cons, encR_step, List.map_cons, List.foldl_cons]; exact foldY_enc
theorem foldX_enc {ds : List Rect} {wd len : Int} {ys : List Int} : ∀ {xs : List Int} {s : Option (Int × Int)}, xs.foldl (fun s x => ys.foldl (stepY ds wd len x) s) (encR ds wd len s) = encR ds wd len ((pairs xs ys).foldl (fbStep (hgt ds wd len)) s)
  | [], s => rfl
  | x :: xs, s => by
    rw [List.foldl_cons, foldY_enc, foldX_enc]
    unfold pairs
    rw [List.flatMap_cons, List.foldl_append]
theorem max_le {l : List Int} {t z : Int} (hz : z ∈ l) (hzt : z ≤ t) : ∃ x ∈ l, x ≤ t ∧ ∀ v ∈ l, v ≤ t → v ≤ x := by
  induction l generalizing z with
  | nil => cases hz
  | cons a l ih =>
    by_cases h : ∃ z' ∈ l, z' ≤ t
    · obtain ⟨z', h1, h2⟩ := h
      obtain ⟨x, hx, hxt, hm⟩ := ih h1 h2
      by_cases ha : a ≤ t ∧ x < a
      · exact ⟨a, by simp, ha.1, fun v hv hvt => by
          rcases List.mem_cons.1 hv with rfl | hv
          · omega
          · have := hm v hv hvt; omega⟩
      · exact ⟨x, by simp [hx], hxt, fun v hv hvt => by
          rcases List.mem_cons.1 hv with rfl | hv
          · omega
          · exact hm v hv hvt⟩
    · have hza : z = a := by
        rcases List.mem_cons.1 hz with e | hz
        · exact e
        · exact absurd ⟨z, hz, hzt⟩ h
      subst hza
      exact ⟨z, by simp, hzt, fun v hv hvt => by
        rcases List.mem_cons.1 hv with rfl | hv
        · omega
        · exact absurd ⟨v, hv, hvt⟩ h⟩
theorem reach_left {ds : List Rect} {wd len x x' y : Int} (hds : ∀ d ∈ ds, d.x1 < d.x2 ∧ d.y1 < d.y2) (hy : y ≤ wd) (hxx : x ≤ x') (hx : ∀ d ∈ ds, d.x2 ≤ x' → d.x2 ≤ x) : reach ds wd len x' y ≤ reach ds wd len x y := by
  obtain ⟨a1, a2, a3⟩ := fold_fY (x := x) (xl := x + len) (y := y) (ds := ds) (fun d hd => (hds d hd).2) hy
  obtain ⟨b1, b2, b3⟩ := fold_fY (x := x') (xl := x' + len) (y := y) (ds := ds) (fun d hd => (hds d hd).2) hy
  unfold reach
  by_cases h : y < ds.foldl (fY x' (x' + len) y) wd
  · rw [a3 _ h]
    refine ⟨b2, fun d hd => ?_⟩
    have h1 := ((b3 _ h).1 (Int.le_refl _)).2 d hd
    generalize ds.foldl (fY x' (x' + len) y) wd = F at *
    have h2 := hx d hd
    unfold overlapB at h1 ⊢
    simp only [decide_eq_false_iff_not] at h1 ⊢
    omega
  · omega
theorem reach_down {ds : List Rect} {wd len x y y' : Int} (hds : ∀ d ∈ ds, d.x1 < d.x2 ∧ d.y1 < d.y2) (hy : y' ≤ wd) (hyy : y ≤ y') (hx : ∀ d ∈ ds, d.y2 ≤ y' → d.y2 ≤ y) (h : y' < reach ds wd len x y') : reach ds wd len x y' ≤ reach ds wd len x y := by
  obtain ⟨a1, a2, a3⟩ := fold_fY (x := x) (xl := x + len) (y := y) (ds := ds) (fun d hd => (hds d hd).2) (show y ≤ wd by omega)
  obtain ⟨b1, b2, b3⟩ := fold_fY (x := x) (xl := x + len) (y := y') (ds := ds) (fun d hd => (hds d hd).2) hy
  unfold reach at h ⊢
  rw [a3 _ (by omega)]
  refine ⟨b2, fun d hd => ?_⟩
  have h1 := ((b3 _ h).1 (Int.le_refl _)).2 d hd
  generalize ds.foldl (fY x (x + len) y') wd = F at *
  have h2 := hx d hd
  unfold overlapB at h1 ⊢
  simp only [decide_eq_false_iff_not] at h1 ⊢
  omega
structure DefsIn (b : Board) : Prop where
  len : 1 ≤ b.length
  wid : 1 ≤ b.width
  ins : ∀ d ∈ b.defects, 0 ≤ d.x1 ∧ d.x1 < d.x2 ∧ d.x2 ≤ b.length ∧ 0 ≤ d.y1 ∧ d.y1 < d.y2 ∧ d.y2 ≤ b.width
theorem ownedNone (w : World) (B : Nat) : w.ownsRow B 3 1 (.slice none 0 0) 0 [] := ⟨rfl, .inl ⟨rfl, rfl⟩⟩
def psound (ds : List Rect) (r : Rect) : Bool := !ds.any fun d => overlapB d r
theorem tsound1_any (d r : Rect) (g : Nat) (w : World) (hr : RectBlk w g r) :
    Calls Tryz.prog 123 #[.agg #[.int .i64 d.x1, .int .i64 d.y1, .int .i64 d.x2, .int .i64 d.y2], .pointer (some ⟨g, 0, none⟩)] w fun e w' => e = .returned (.bool (overlapB d r)) ∧ Below w.heap.size w w' := by
  obtain ⟨c0, c1, c2, c3⟩ := hr.cells
  have hlt := hr.lt
  go_enter Tryz.func123, Tryz.ntmps123
  go_wp2_with (go_at_call 124; refine (overlap_any d r _).mono ?_; rintro e w1 ⟨rfl, hb⟩)
  go_ret
  exact ⟨rfl, ((Below.refl _ _).alloc (Nat.le_refl _) _).trans (hb.mono (by simp))⟩
set_option maxHeartbeats 1000000 in
theorem indexRect_any (a : Option Addr) (l : List Rect) (c g : Nat) (r : Rect) (w : World) (hv : Rects.V w a l) (hl : l.length ≤ 9223372036854775807) (hg : RectBlk w g r) :
    Calls Tryz.prog 162 #[.slice a l.length c, .func (.func 123) #[] #[.pointer (some ⟨g, 0, none⟩)]] w
      fun e w' => e = .returned (.int .i64 (idxOf (fun d => overlapB d r) l)) ∧ Below w.heap.size w w' := by
  go_enter Tryz.func162, Tryz.ntmps162
  go_wp2
  go_loopw [8] (fun i wr => ∃ k : Nat, k ≤ l.length ∧ i = .int .i64 k ∧ Hid (∀ j (hj : j < l.length), j < k → overlapB l[j] r = false) ∧ Below w.heap.size w wr) (fun i _ => l.length - (intOf i).toNat)
  case atStart => exact ⟨0, Nat.zero_le _, rfl, Lib.hid (fun j _ h => by omega), Below.refl _ _⟩
  case round =>
    obtain ⟨k, hk, rfl, HK, hbw⟩ := hrel
    by_cases hlt : k < l.length
    · obtain ⟨b, off, rfl, hat⟩ := (hv.keep hbw).at_ hlt
      obtain ⟨c0, c1, c2, c3, -⟩ := hat
      have hgr := RectBlk.keep hbw hg
      have hsz := hbw.size
      cases hq : overlapB l[k] r
      · go_wp2_with (go_at_call 123; refine (tsound1_any l[k] r _ _ hgr).mono ?_; rintro e w1 ⟨rfl, hb⟩)
        go_round
        case rel => exact ⟨k + 1, by omega, by go_num, Lib.hid (none_step (p := fun d => overlapB d r) HK.out hlt hq), hbw.trans (hb.mono hsz)⟩
        case measure => simp [intOf]; omega
      · go_wp2_with (go_at_call 123; refine (tsound1_any l[k] r _ _ hgr).mono ?_; rintro e w1 ⟨rfl, hb⟩)
        go_ret
        exact ⟨ret_int (idxOf_hit (p := fun d => overlapB d r) hlt HK.out hq).symm, hbw.trans (hb.mono hsz)⟩
    · have hm := Lib.hid (idxOf_miss (p := fun d => overlapB d r) (l := l) (fun j hj => HK.out j hj (by omega)))
      clear HK
      go_wp2
      go_ret
      exact ⟨ret_int hm.out.symm, hbw⟩
theorem containsRect_any (a : Option Addr) (l : List Rect) (c g : Nat) (r : Rect) (w : World) (hv : Rects.V w a l) (hl : l.length ≤ 9223372036854775807) (hg : RectBlk w g r) :
    Calls Tryz.prog 122 #[.slice a l.length c, .func (.func 123) #[] #[.pointer (some ⟨g, 0, none⟩)]] w
      fun e w' => e = .returned (.bool (l.any fun d => overlapB d r)) ∧ Below w.heap.size w w' := by
  have HA := Lib.hid (idxOf_nonneg (fun d => overlapB d r) l)
  go_enter Tryz.func122, Tryz.ntmps122
  go_wp2_with (go_at_call 162; refine (indexRect_any _ l _ _ r _ hv hl hg).mono ?_; rintro e w1 ⟨rfl, hb⟩)
  go_ret
  exact ⟨ret_bool (by go_tidy; rw [Bool.eq_iff_iff, decide_eq_true_eq]; exact HA.out), hb⟩
theorem soundP_any (b : Board) (r : Rect) (a : Option Addr) (c : Nat) (w : World) (hv : Rects.V w a b.defects) (hl : b.defects.length ≤ 9223372036854775807) :
    Calls Tryz.prog 75 #[.agg #[.string b.name, .string b.species, .int .i64 b.length, .int .i64 b.width, .int .i64 b.thick, .int .i64 b.cut, .int .i64 b.moisture, .slice a b.defects.length c], .agg #[.int .i64 r.x1, .int .i64 r.y1, .int .i64 r.x2, .int .i64 r.y2]] w fun e w' => e = .returned (.bool (psound b.defects r)) ∧ Below w.heap.size w w' := by
  go_enter Tryz.func75, Tryz.ntmps75
  go_wp2_with (go_at_call 122; refine (containsRect_any _ b.defects _ _ r _ (hv.keep (((Below.refl _ _).alloc (Nat.le_refl _) _).alloc (by simp) _)) hl (by have h := RectBlk.new (w.alloc (.cells #[.string b.name, .string b.species, .int .i64 b.length, .int .i64 b.width, .int .i64 b.thick, .int .i64 b.cut, .int .i64 b.moisture, .slice a b.defects.length c] 81)) r; simpa using h)).mono ?_; rintro e w1 ⟨rfl, hb⟩)
  go_ret
  exact ⟨rfl, (((Below.refl _ _).alloc (Nat.le_refl _) _).alloc (by simp) _).trans (hb.mono (by simp; omega))⟩
def soundE (b : Board) (r : Rect) : Int := if boardErr b ≠ 0 then boardErr b else rectIn b.length b.width r
def soundV (b : Board) (r : Rect) : Bool := if soundE b r ≠ 0 then false else psound b.defects r
set_option maxHeartbeats 1000000 in
theorem timberSound_any (b : Board) (r : Rect) (a : Option Addr) (c : Nat) (w : World) (hv : Rects.V w a b.defects) (hl : b.defects.length ≤ 9223372036854775807) (hw : b.wf) :
    Calls Tryz.prog 37 #[.agg #[.string b.name, .string b.species, .int .i64 b.length, .int .i64 b.width, .int .i64 b.thick, .int .i64 b.cut, .int .i64 b.moisture, .slice a b.defects.length c], .agg #[.int .i64 r.x1, .int .i64 r.y1, .int .i64 r.x2, .int .i64 r.y2]] w fun e w' => e = .returned (.tuple #[.bool (soundV b r), .int .i64 (soundE b r)]) ∧ Below w.heap.size w w' := by
  by_cases h0 : boardErr b = 0
  · have h0' : (boardErr b != 0) = false := by simp [h0]
    by_cases h1 : rectIn b.length b.width r = 0
    · have h1' : (rectIn b.length b.width r != 0) = false := by simp [h1]
      have HE := Lib.hid (show soundE b r = 0 ∧ soundV b r = psound b.defects r from ⟨by simp [soundE, h0, h1], by simp [soundV, soundE, h0, h1]⟩)
      clear h0 h1
      go_enter Tryz.func37, Tryz.ntmps37
      go_wp2_with (first
        | (go_at_call 73; refine (checkBoard_any b _ _ _ (hv.keep (((Below.refl _ _).alloc (Nat.le_refl _) _).alloc (by simp) _)) hl hw).mono ?_; rintro e w1 ⟨rfl, hb⟩; obtain ⟨hc, hf⟩ := bcell hb; have hz := hb.size; have hz1 : w.heap.size + 1 < w1.heap.size := (by simp at hz; omega); have hz1' : w.heap.size < w1.heap.size := (by omega); have hb1 := (((Below.refl w.heap.size w).alloc (Nat.le_refl _) _).alloc (by simp) _).trans (hb.mono (by simp; omega)))
        | (go_at_call 74; refine (checkRect_any b r _ _ _).mono ?_; rintro e w2 ⟨rfl, hb2⟩; obtain ⟨hc2, hf2⟩ := bcell hb2; have hz2 := hb2.size; have hz2' : w.heap.size + 1 < w2.heap.size := (by omega); have hb3 := hb1.trans (hb2.mono hb1.size))
        | (go_at_call 75; refine (soundP_any b r _ _ _ (hv.keep hb3) hl).mono ?_; rintro e w3 ⟨rfl, hb4⟩; have hb5 := hb3.trans (hb4.mono hb3.size)))
      go_ret2
      exact ⟨by rw [HE.out.1, HE.out.2]; rfl, hb5⟩
    · have h1' : (rectIn b.length b.width r != 0) = true := by simp [h1]
      have HE := Lib.hid (show soundE b r = rectIn b.length b.width r ∧ soundV b r = false from ⟨by simp [soundE, h0], by simp [soundV, soundE, h0, h1]⟩)
      clear h0 h1
      go_enter Tryz.func37, Tryz.ntmps37
      go_wp2_with (first
        | (go_at_call 73; refine (checkBoard_any b _ _ _ (hv.keep (((Below.refl _ _).alloc (Nat.le_refl _) _).alloc (by simp) _)) hl hw).mono ?_; rintro e w1 ⟨rfl, hb⟩; obtain ⟨hc, hf⟩ := bcell hb; have hz := hb.size; have hz1 : w.heap.size + 1 < w1.heap.size := (by simp at hz; omega); have hz1' : w.heap.size < w1.heap.size := (by omega); have hb1 := (((Below.refl w.heap.size w).alloc (Nat.le_refl _) _).alloc (by simp) _).trans (hb.mono (by simp; omega)))
        | (go_at_call 74; refine (checkRect_any b r _ _ _).mono ?_; rintro e w2 ⟨rfl, hb2⟩; obtain ⟨hc2, hf2⟩ := bcell hb2; have hz2 := hb2.size; have hz2' : w.heap.size + 1 < w2.heap.size := (by omega); have hb3 := hb1.trans (hb2.mono hb1.size))
        | (go_at_call 75; refine (soundP_any b r _ _ _ (hv.keep hb3) hl).mono ?_; rintro e w3 ⟨rfl, hb4⟩; have hb5 := hb3.trans (hb4.mono hb3.size)))
      go_ret2
      exact ⟨by rw [HE.out.1, HE.out.2]; rfl, hb3⟩
  · have h0' : (boardErr b != 0) = true := by simp [h0]
    have HE := Lib.hid (show soundE b r = boardErr b ∧ soundV b r = false from ⟨by simp [soundE, h0], by simp [soundV, soundE, h0]⟩)
    clear h0
    go_enter Tryz.func37, Tryz.ntmps37
    go_wp2_with (first
      | (go_at_call 73; refine (checkBoard_any b _ _ _ (hv.keep (((Below.refl _ _).alloc (Nat.le_refl _) _).alloc (by simp) _)) hl hw).mono ?_; rintro e w1 ⟨rfl, hb⟩; obtain ⟨hc, hf⟩ := bcell hb; have hz := hb.size; have hz1 : w.heap.size + 1 < w1.heap.size := (by simp at hz; omega); have hz1' : w.heap.size < w1.heap.size := (by omega); have hb1 := (((Below.refl w.heap.size w).alloc (Nat.le_refl _) _).alloc (by simp) _).trans (hb.mono (by simp; omega)))
      | (go_at_call 74; refine (checkRect_any b r _ _ _).mono ?_; rintro e w2 ⟨rfl, hb2⟩; obtain ⟨hc2, hf2⟩ := bcell hb2; have hz2 := hb2.size; have hz2' : w.heap.size + 1 < w2.heap.size := (by omega); have hb3 := hb1.trans (hb2.mono hb1.size))
      | (go_at_call 75; refine (soundP_any b r _ _ _ (hv.keep hb3) hl).mono ?_; rintro e w3 ⟨rfl, hb4⟩; have hb5 := hb3.trans (hb4.mono hb3.size)))
    go_ret2
    exact ⟨by rw [HE.out.1, HE.out.2]; rfl, hb1⟩
theorem wid_FB (b : Board) (len : Int) : ∃ r, widS b len = encR b.defects b.width len r ∧ FB (hgt b.defects b.width len) lexLt (pairs ((uniq (widXs b)).filter fun x => decide (x + len ≤ b.length)) (uniq (widYs b))) r := by
  refine ⟨(pairs ((uniq (widXs b)).filter fun x => decide (x + len ≤ b.length)) (uniq (widYs b))).foldl (fbStep (hgt b.defects b.width len)) none, ?_, ?_⟩
  rotate_left
  · have A2 := fb_fold (h := hgt b.defects b.width len) (lt := lexLt) (pre := []) (s := none) (ps := pairs ((uniq (widXs b)).filter fun x => decide (x + len ≤ b.length)) (uniq (widYs b))) (pairs_asc ((uniq_asc _).filter _) (uniq_asc _)) (by simp [FB])
    rw [List.nil_append] at A2
    exact A2
  unfold widS
  rw [widGo_fold (uniq_asc _), show ((⟨0, 0, 0, 0⟩, false) : Rect × Bool) = encR b.defects b.width len none from rfl, foldX_enc]
theorem wid_dom {b : Board} {len x' y' : Int} (hb : DefsIn b) (hx0 : 0 ≤ x') (h2 : x' + len ≤ b.length) (hy0 : 0 ≤ y') (hy1 : y' ≤ b.width) (h0 : 0 < hgt b.defects b.width len (x', y')) :
    ∃ p ∈ pairs ((uniq (widXs b)).filter fun x => decide (x + len ≤ b.length)) (uniq (widYs b)), hgt b.defects b.width len (x', y') ≤ hgt b.defects b.width len p := by
  have hds : ∀ d ∈ b.defects, d.x1 < d.x2 ∧ d.y1 < d.y2 := fun d hd => by have := hb.ins d hd; omega
  obtain ⟨x, hx, hxx, hxm⟩ := max_le (l := uniq (widXs b)) (t := x') (z := 0) (by rw [uniq_mem]; simp [widXs]) hx0
  obtain ⟨y, hy, hyy, hym⟩ := max_le (l := uniq (widYs b)) (t := y') (z := 0) (by rw [uniq_mem]; simp [widYs]) hy0
  have e0 : hgt b.defects b.width len (x', y') = reach b.defects b.width len x' y' - y' := rfl
  have e1 : hgt b.defects b.width len (x, y) = reach b.defects b.width len x y - y := rfl
  have r1 := reach_left (len := len) (wd := b.width) (y := y') hds hy1 hxx (fun d hd hq => hxm _ (by rw [uniq_mem]; simp only [widXs, List.mem_cons, List.mem_map]; exact .inr ⟨d, hd, rfl⟩) hq)
  have r2 := reach_down (len := len) (wd := b.width) (x := x) hds hy1 hyy (fun d hd hq => hym _ (by rw [uniq_mem]; simp only [widYs, List.mem_cons, List.mem_map]; exact .inr ⟨d, hd, rfl⟩) hq) (by omega)
  refine ⟨(x, y), ?_, by omega⟩
  rw [pairs_mem, List.mem_filter]
  exact ⟨⟨hx, by simp only [decide_eq_true_eq]; omega⟩, hy⟩
/-- What is sound is no wider. -/
theorem wid_best {b : Board} {len : Int} {o : Rect} (hb : DefsIn b) (h1 : 0 ≤ o.x1) (h2 : o.x2 ≤ b.length) (h3 : 0 ≤ o.y1) (h4 : o.y1 < o.y2) (h5 : o.y2 ≤ b.width) (h6 : o.x2 - o.x1 = len) (hs : psound b.defects o = true) :
    (widS b len).2 = true ∧ o.y2 - o.y1 ≤ (widS b len).1.y2 - (widS b len).1.y1 := by
  have hds : ∀ d ∈ b.defects, d.x1 < d.x2 ∧ d.y1 < d.y2 := fun d hd => by have := hb.ins d hd; omega
  obtain ⟨-, -, hf⟩ := fold_fY (x := o.x1) (xl := o.x1 + len) (y := o.y1) (ds := b.defects) (fun d hd => (hds d hd).2) (show o.y1 ≤ b.width by omega)
  have hr : o.y2 ≤ reach b.defects b.width len o.x1 o.y1 := by
    refine (hf o.y2 h4).2 ⟨h5, fun d hd => ?_⟩
    unfold psound at hs
    rw [Bool.not_eq_true', List.any_eq_false] at hs
    have e : (⟨o.x1, o.y1, o.x1 + len, o.y2⟩ : Rect) = o := by cases o; simp only [Rect.mk.injEq, true_and, and_true] at h6 ⊢; omega
    rw [e]
    simpa using hs d hd
  have e0 : hgt b.defects b.width len (o.x1, o.y1) = reach b.defects b.width len o.x1 o.y1 - o.y1 := rfl
  obtain ⟨p, hp, hle⟩ := wid_dom hb h1 (show o.x1 + len ≤ b.length by omega) h3 (by omega) (by omega)
  obtain ⟨r, hw, hfb⟩ := wid_FB b len
  rw [hw]
  cases r with
  | none => have := hfb p hp; omega
  | some c =>
    obtain ⟨-, -, hm⟩ := hfb
    have h7 := (hm p hp).1
    have e2 : hgt b.defects b.width len c = reach b.defects b.width len c.1 c.2 - c.2 := rfl
    refine ⟨rfl, ?_⟩
    simp only [encR]
    omega
theorem wid_in {b : Board} {len : Int} (hb : DefsIn b) (h : (widS b len).2 = true) : 0 ≤ (widS b len).1.y1 ∧ (widS b len).1.y1 < (widS b len).1.y2 ∧ (widS b len).1.y2 ≤ b.width := by
  have hds : ∀ d ∈ b.defects, d.x1 < d.x2 ∧ d.y1 < d.y2 := fun d hd => by have := hb.ins d hd; omega
  obtain ⟨r, hw, hfb⟩ := wid_FB b len
  rw [hw] at h ⊢
  cases r with
  | none => cases h
  | some c =>
    obtain ⟨hc, h0, -⟩ := hfb
    have e2 : hgt b.defects b.width len c = reach b.defects b.width len c.1 c.2 - c.2 := rfl
    have hy : 0 ≤ c.2 ∧ c.2 ≤ b.width := by
      have := (pairs_mem.1 hc).2
      rw [uniq_mem] at this
      simp only [widYs, List.mem_cons, List.mem_map] at this
      have := hb.wid
      rcases ‹c.2 = 0 ∨ _› with h' | ⟨d, hd, h'⟩
      · omega
      · have := hb.ins d hd; omega
    obtain ⟨-, h2, -⟩ := fold_fY (x := c.1) (xl := c.1 + len) (y := c.2) (ds := b.defects) (fun d hd => (hds d hd).2) hy.2
    have h3 : reach b.defects b.width len c.1 c.2 ≤ b.width := h2
    simp only [encR]
    omega
theorem boardOk_in {b : Board} (h : BoardOk b) : DefsIn b := ⟨h.length.1, h.width.1, h.inside⟩
def stGo (l : List Species) (pre : List ByteArray) : List Board → Int
  | [] => 0
  | b :: r => if listedE l b ≠ 0 then listedE l b else if (pre.any fun t => b.name.toList == t.toList) then 5 else stGo l (pre ++ [b.name]) r
def checkStockE (l : List Species) (st : List Board) : Int := if checkSpecies l ≠ 0 then checkSpecies l else if 100 < st.length then 8 else stGo l [] st
theorem stGo_err {l : List Species} {st : List Board} {k : Nat} {e : Int} (hk : k < st.length) (h : e = stGo l ((st.map (·.name)).take k) (st.drop k)) (h1 : (listedE l st[k] != 0) = true) : e = listedE l st[k] := by
  rw [h, List.drop_eq_getElem_cons hk, stGo, if_pos (by simpa using h1)]
theorem stGo_dup {l : List Species} {st : List Board} {k : Nat} {e : Int} (hk : k < st.length) (h : e = stGo l ((st.map (·.name)).take k) (st.drop k)) (h1 : (listedE l st[k] != 0) = false)
    (h2 : (((st.map (·.name)).take k).any fun t => st[k].name.toList == t.toList) = true) : e = 5 := by
  rw [h, List.drop_eq_getElem_cons hk, stGo, if_neg (by simpa using h1), if_pos h2]
theorem stGo_next {l : List Species} {st : List Board} {k : Nat} {e : Int} (hk : k < st.length) (h : e = stGo l ((st.map (·.name)).take k) (st.drop k)) (h1 : (listedE l st[k] != 0) = false)
    (h2 : (((st.map (·.name)).take k).any fun t => st[k].name.toList == t.toList) = false) : e = stGo l ((st.map (·.name)).take (k + 1)) (st.drop (k + 1)) := by
  rw [h, List.drop_eq_getElem_cons hk, stGo, if_neg (by simpa using h1), if_neg (by simp [h2]), take_map_step _ hk]
theorem stGo_end {l : List Species} {st : List Board} {k : Nat} {e : Int} (hk : st.length ≤ k) (h : e = stGo l ((st.map (·.name)).take k) (st.drop k)) : e = 0 := by
  rw [h, List.drop_eq_nil_of_le hk]; rfl
set_option maxRecDepth 100000 in
set_option maxHeartbeats 4000000 in
theorem checkStockP_any (la : Option Addr) (l : List Species) (lc : Nat) (a : Option Addr) (st : List Board) (c : Nat) (w : World) (hs : Speciess.V w la l) (hsl : l.length ≤ 9223372036854775807)
    (hv : Boards.V w a st) (hl : st.length ≤ 9223372036854775807) :
    Calls Tryz.prog 76 #[.slice la l.length lc, .slice a st.length c] w fun e w' => e = .returned (.int .i64 (checkStockE l st)) ∧ Below w.heap.size w w' := by
  by_cases h0 : checkSpecies l = 0
  · by_cases hbig : 100 < st.length
    · have HE := Lib.hid (show checkStockE l st = 8 by simp [checkStockE, h0, hbig])
      have h0' : (checkSpecies l != 0) = false := by simp [h0]
      clear h0
      go_enter Tryz.func76, Tryz.ntmps76
      go_wp2_with (go_at_call 125; refine (checkSpecies_any _ l _ _ hs hsl).mono ?_; rintro e w1 ⟨rfl, hb1⟩)
      go_ret
      exact ⟨ret_int (by go_tidy; rw [HE.out]), hb1⟩
    · have hmm := @run_makeMap Tryz.prog
      have HF := Lib.hid (show checkStockE l st = stGo l ((st.map (·.name)).take 0) (st.drop 0) by simp [checkStockE, h0, hbig])
      have h0' : (checkSpecies l != 0) = false := by simp [h0]
      clear h0
      go_enter Tryz.func76, Tryz.ntmps76
      go_upto_region 6 with (go_at_call 125; refine (checkSpecies_any _ l _ _ hs hsl).mono ?_; rintro e w1 ⟨rfl, hb1⟩)
      go_wp2_with fail
      have hz1 := hb1.size
      have hS0 := Lib.hid (Seen.made w1)
      have hbA : Below w.heap.size w (w1.alloc (.map #[] 0)) := hb1.alloc hz1 _
      go_loopw [21] (fun i wr => ∃ k : Nat, k ≤ st.length ∧ i = .int .i64 k ∧ Hid (checkStockE l st = stGo l ((st.map (·.name)).take k) (st.drop k)) ∧ Hid (Seen wr w1.heap.size k ((st.map (·.name)).take k)) ∧ Below w.heap.size w wr ∧ w1.heap.size < wr.heap.size) (fun i _ => st.length - (intOf i).toNat)
      case atStart => exact ⟨0, Nat.zero_le _, rfl, HF, hS0, hbA, by simp⟩
      case round =>
        clear HF hS0 hbA
        obtain ⟨k, hk, rfl, HF, HS, hbw, hzw⟩ := hrel
        have hsz := hbw.size
        by_cases hlt : k < st.length
        · obtain ⟨b, off, ad, cd, ha, ⟨c0, c1, c2, c3, c4, c5, c6, c7⟩, hr, hrl, hwf⟩ := (hv.keep hbw).at' hlt
          subst ha
          have hns := hwf.1
          have hsK := hs.keep hbw
          have hbk := block_lt_of_cell c0
          simp only at hbk
          have HER := Lib.hid (fun h => stGo_err hlt HF.out h)
          have HDU := Lib.hid (fun h h' => stGo_dup hlt HF.out h h')
          have HNX := Lib.hid (fun h h' => stGo_next hlt HF.out h h')
          have HTK := Lib.hid (show (st.map (·.name)).take (k + 1) = (st.map (·.name)).take k ++ [st[k].name] from take_map_step (·.name) hlt)
          generalize hbd : st[k] = bd at *
          clear hbd HF
          go_wp2_with (first
            | (go_at_call 126; refine (listed_any _ l _ bd _ _ _ (hsK.keep ((Below.refl _ _).alloc (Nat.le_refl _) _)) hsl (hr.keep ((Below.refl _ _).alloc (Nat.le_refl _) _)) hrl hwf).mono ?_; rintro e w2 ⟨rfl, hb⟩; obtain ⟨hc, hf⟩ := bcell hb; have hz := hb.size; have HS1 := Lib.hid (((show Seen wr _ _ _ from HS.out).below ((Below.refl _ _).alloc (Nat.le_refl _) _)).below hb); have hlk := Seen.run HS1.out bd.name hns)
            | (at_mapUpdate; refine wpList_seen rfl _ _ _ rfl w1.heap.size k _ bd.name hns (by omega) rfl rfl rfl HS1.out ?_; intro w3 hS3 hg3; have HS3 := Lib.hid hS3; clear hS3))
          · go_ret
            exact ⟨ret_int (by go_tidy; exact (HER.out (by assumption)).symm), (hbw.alloc (by omega) _).trans (hb.mono (by simp; omega))⟩
          · go_ret
            exact ⟨ret_int (by go_tidy; exact (HDU.out (by assumption) (by assumption)).symm), (hbw.alloc (by omega) _).trans (hb.mono (by simp; omega))⟩
          · have hS3 := HS3.out
            rw [← HTK.out] at hS3
            go_roundw
            case rel => exact ⟨k + 1, by omega, by go_num, Lib.hid (HNX.out (by assumption) (by assumption)), Lib.hid hS3, ((hbw.alloc (by omega) _).trans (hb.mono (by simp; omega))).grown hg3 (by simp at hz; omega) (fun j hj => by cases hj; omega), by have := hg3.size; simp at hz; omega⟩
            case measure => simp [intOf]; omega
        · have hm := Lib.hid (stGo_end (by omega) HF.out)
          clear HF
          go_wp2_with fail
          go_ret
          exact ⟨ret_int hm.out.symm, hbw⟩
  · have h0' : (checkSpecies l != 0) = true := by simp [h0]
    have HE := Lib.hid (show checkStockE l st = checkSpecies l by unfold checkStockE; rw [if_pos h0])
    clear h0
    go_enter Tryz.func76, Tryz.ntmps76
    go_wp2_with (go_at_call 125; refine (checkSpecies_any _ l _ _ hs hsl).mono ?_; rintro e w1 ⟨rfl, hb1⟩)
    go_ret
    exact ⟨ret_int (by go_tidy; rw [HE.out]), hb1⟩
theorem own_below {w w' : World} {base e size n : Nat} {v : Value} {xs : List Value} (h : w.ownsRow base e size v n xs) (hb : Below w.heap.size w w') : w'.ownsRow base e size v n xs := by
  refine ⟨h.1, ?_⟩
  rcases h.2 with h0 | ⟨g, cap, cur, rfl, hbg, hblk, r⟩
  · exact .inl h0
  · exact .inr ⟨g, cap, cur, rfl, hbg, (hb.block g (Array.getElem?_eq_some_iff.1 hblk).1).trans hblk, r⟩
def fitOne (x : Blank) (b : Board) : Bool :=
  (b.species.toList == x.species.toList) && decide (x.thick ≤ b.thick) && decide (x.length ≤ b.length) && (widS b x.length).2 && decide (x.width ≤ (widS b x.length).1.y2 - (widS b x.length).1.y1)
def fitK (st : List Board) (x : Blank) : Nat → List Int
  | 0 => []
  | k + 1 => fitK st x k ++ (match st[k]? with | some b => if fitOne x b = true then [(k : Int)] else [] | none => [])
theorem fitK_yes {st : List Board} {x : Blank} {k : Nat} (hk : k < st.length) (h : fitOne x st[k] = true) : fitK st x (k + 1) = fitK st x k ++ [(k : Int)] := by
  rw [fitK, List.getElem?_eq_getElem hk]; simp [h]
theorem fitK_no {st : List Board} {x : Blank} {k : Nat} (hk : k < st.length) (h : fitOne x st[k] = false) : fitK st x (k + 1) = fitK st x k := by
  rw [fitK, List.getElem?_eq_getElem hk]; simp [h]
theorem fitK_len (st : List Board) (x : Blank) : ∀ k, (fitK st x k).length ≤ k
  | 0 => Nat.le_refl _
  | k + 1 => by
    have := fitK_len st x k
    rw [fitK, List.length_append]
    split
    · split <;> simp <;> omega
    · simp; omega
theorem stGo_ok {l : List Species} : ∀ {st : List Board} {pre : List ByteArray}, stGo l pre st = 0 → ∀ b ∈ st, listedE l b = 0
  | [], _, _ => by simp
  | b :: r, pre, h => by
    unfold stGo at h
    split at h
    · exact absurd h (by assumption)
    · rename_i h1
      split at h
      · cases h
      · intro d hd
        rcases List.mem_cons.1 hd with rfl | hd
        · exact Classical.not_not.1 h1
        · exact stGo_ok h d hd
theorem stock_ok {l : List Species} {st : List Board} (h : checkStockE l st = 0) : st.length ≤ 100 ∧ ∀ b ∈ st, boardErr b = 0 := by
  unfold checkStockE at h
  split at h
  · exact absurd h (by assumption)
  · split at h
    · cases h
    · refine ⟨by omega, fun b hb => ?_⟩
      have := stGo_ok h b hb
      unfold listedE at this
      split at this
      · exact absurd this (by assumption)
      · rename_i h1; exact Classical.not_not.1 h1
theorem widest_is (b : Board) (len : Int) (a : Option Addr) (c : Nat) (w : World) {s : Rect × Bool} (hs : widS b len = s) (hv : Rects.V w a b.defects) (hl : b.defects.length ≤ 60) (hb : BoardOk b) (hb3 : 1 ≤ len) (hb4 : len ≤ 600000) :
    Calls Tryz.prog 79 #[.agg #[.string b.name, .string b.species, .int .i64 b.length, .int .i64 b.width, .int .i64 b.thick, .int .i64 b.cut, .int .i64 b.moisture, .slice a b.defects.length c], .int .i64 len] w fun e w' => e = .returned (.tuple #[.agg #[.int .i64 s.1.x1, .int .i64 s.1.y1, .int .i64 s.1.x2, .int .i64 s.1.y2], .bool s.2]) ∧ Below w.heap.size w w' := by
  subst hs
  have h1 := hb.length
  have h2 := hb.width
  exact widest_any b len a c w hv hl (fun d hd => by have := hb.inside d hd; omega) (by omega) (by omega) (by omega) (by omega) hb3 hb4
theorem ret_sl {a : Option Addr} {c n m : Nat} {x y : Int} (h : n = m) (h' : x = y) : Ending.returned (.tuple #[.slice a n c, .int .i64 x]) = .returned (.tuple #[.slice a m c, .int .i64 y]) := by rw [h, h']
def fitE (l : List Species) (st : List Board) (x : Blank) : Int := if checkStockE l st = 0 then blankErr x else checkStockE l st
def fitL (l : List Species) (st : List Board) (x : Blank) : List Int := if fitE l st x = 0 then fitK st x st.length else []
set_option maxRecDepth 100000 in
set_option maxHeartbeats 8000000 in
theorem fitting_any (la : Option Addr) (l : List Species) (lc : Nat) (a : Option Addr) (st : List Board) (c : Nat) (x : Blank) (w : World) (hs : Speciess.V w la l) (hsl : l.length ≤ 9223372036854775807) (hv : Boards.V w a st) (hl : st.length ≤ 9223372036854775807) (hwf : x.wf) :
    Calls Tryz.prog 38 #[.slice la l.length lc, .slice a st.length c, .agg #[.string x.name, .string x.species, .int .i64 x.length, .int .i64 x.width, .int .i64 x.thick, .int .i64 x.count]] w fun e w' => ∃ (a' : Option Addr) (c' : Nat), e = .returned (.tuple #[.slice a' (fitL l st x).length c', .int .i64 (fitE l st x)]) ∧ IntsV w' a' (fitL l st x) ∧ Below w.heap.size w w' := by
  obtain ⟨i0, hi0, hz0, hz1, hz2⟩ := info_parts int_info
  obtain ⟨hn1, hn2, -⟩ := hwf
  by_cases hE : fitE l st x = 0
  · have hC : checkStockE l st = 0 := by
      unfold fitE at hE
      split at hE
      · assumption
      · exact hE
    have hB : blankErr x = 0 := by rw [fitE, if_pos hC] at hE; exact hE
    obtain ⟨⟨hx1, hx2⟩, ⟨hx3, hx4⟩, hx5, hx6⟩ := blankErr_ok hB
    have hnames : nameB x.name = true ∧ nameB x.species = true ∧ withinB x.length 1 600000 = true ∧ withinB x.width 1 600000 = true ∧ withinB x.thick 1 600000 = true ∧ withinB x.count 1 200 = true := by
      unfold blankErr at hB
      split at hB
      · cases hB
      · split at hB
        · cases hB
        · rename_i h1 h2
          simp only [not_or, Bool.not_eq_false] at h1 h2
          exact ⟨h1.1, h1.2, h2.1, h2.2.1, h2.2.2.1, h2.2.2.2⟩
    obtain ⟨q1, q2, q3, q4, q5, q6⟩ := hnames
    have HFE := Lib.hid hE
    have HFL := Lib.hid (show fitL l st x = fitK st x st.length by rw [fitL, if_pos hE])
    have HCS := Lib.hid hC
    have HOKS := Lib.hid (stock_ok hC).2
    have hl100 := (stock_ok hC).1
    clear hE hC hB
    go_enter Tryz.func38, Tryz.ntmps38
    go_upto_region 1 with fail
    refine gen_world (fun W => (W.cell? ⟨w.heap.size, 0, none⟩ = some (.string x.name) ∧ W.cell? ⟨w.heap.size, 1, none⟩ = some (.string x.species) ∧ W.cell? ⟨w.heap.size, 2, none⟩ = some (.int .i64 x.length) ∧ W.cell? ⟨w.heap.size, 3, none⟩ = some (.int .i64 x.width) ∧ W.cell? ⟨w.heap.size, 4, none⟩ = some (.int .i64 x.thick) ∧ W.cell? ⟨w.heap.size, 5, none⟩ = some (.int .i64 x.count)) ∧ w.heap.size < W.heap.size ∧ Below w.heap.size w W) ?_ ?_
    · exact ⟨⟨by simp [go_sem], by simp [go_sem], by simp [go_sem], by simp [go_sem], by simp [go_sem], by simp [go_sem]⟩, by simp, (Below.refl _ _).alloc (Nat.le_refl _) _⟩
    rintro W ⟨⟨d0, d1, d2, d3, d4, d5⟩, hzW, hbW⟩
    go_wp2_with (first | (go_at_call 76; refine (checkStockP_any _ l _ _ st _ _ (hs.keep (hbW)) hsl (hv.keep (hbW)) hl).mono ?_; rw [HCS.out]; rintro e w1 ⟨rfl, hb1⟩; have e0 := cell_keep hb1 d0; have e1 := cell_keep hb1 d1; have e2 := cell_keep hb1 d2; have e3 := cell_keep hb1 d3; have e4 := cell_keep hb1 d4; have e5 := cell_keep hb1 d5; have hc1 := hbW.trans (hb1.mono hbW.size); have hzW1 : w.heap.size < w1.heap.size := (by have := hb1.size; omega)) | (go_at_call 77; refine (isName_any _ _ (by assumption)).mono ?_; rintro e w' ⟨rfl, rfl⟩) | (go_at_call 78; refine (within_any _ _ _ _).mono ?_; rintro e w' ⟨rfl, rfl⟩))
    go_loopw [9, 50] (fun v i wr => ∃ k : Nat, k ≤ st.length ∧ i = .int .i64 k ∧ wr.ownsRow w1.heap.size 3 1 v (fitK st x k).length ((fitK st x k).map (Value.int .i64)) ∧ Below w1.heap.size w1 wr) (fun _ i _ => st.length - (intOf i).toNat)
    case atStart => exact ⟨0, Nat.zero_le _, rfl, ownedNone _ _, Below.refl _ _⟩
    case round =>
      obtain ⟨k, hk, rfl, hown, hbr⟩ := hrel
      have hsz := hbr.size
      have hbr0 := hc1.trans (hbr.mono hc1.size)
      have f1 := cell_keep hbr e1
      have f2 := cell_keep hbr e2
      have f3 := cell_keep hbr e3
      have f4 := cell_keep hbr e4
      by_cases hlt : k < st.length
      · obtain ⟨b, off, ad, cd, ha, ⟨c0, c1, c2, c3, c4, c5, c6, c7⟩, hr, hrl, hwf⟩ := (hv.keep hbr0).at' hlt
        subst ha
        have hki : (k : Int) < (st.length : Int) := by omega
        have hbo := tboardErr_ok (HOKS.out _ (List.getElem_mem hlt))
        have HFY := Lib.hid (fun h => fitK_yes (x := x) hlt h)
        have HFN := Lib.hid (fun h => fitK_no (x := x) hlt h)
        have hbk := block_lt_of_cell c0
        simp only at hbk
        generalize hbd : st[k] = bd at *
        clear hbd
        have HF1 := Lib.hid (show fitOne x bd = ((bd.species.toList == x.species.toList) && decide (x.thick ≤ bd.thick) && decide (x.length ≤ bd.length) && (widS bd x.length).2 && decide (x.width ≤ (widS bd x.length).1.y2 - (widS bd x.length).1.y1)) from rfl)
        have hzk : w.heap.size < wr.heap.size := by omega
        cases hsp : (bd.species.toList == x.species.toList)
        · have hsp' : (bd.species.toList != x.species.toList) = true := by simp [bne, hsp]
          have HN := Lib.hid (HFN.out (by rw [HF1.out, hsp]; rfl))
          go_wp2_with fail
          go_roundw
          case rel => exact ⟨k + 1, by omega, by go_num, by rw [HN.out]; exact hown.alloc _, hbr.alloc (by omega) _⟩
          case measure => simp [intOf]; omega
        · have hsp' : (bd.species.toList != x.species.toList) = false := by simp [bne, hsp]
          by_cases ht : bd.thick < x.thick
          · have HN := Lib.hid (HFN.out (by rw [HF1.out, decide_eq_false (by omega : ¬ x.thick ≤ bd.thick)]; simp))
            go_wp2_with fail
            go_roundw
            case rel => exact ⟨k + 1, by omega, by go_num, by rw [HN.out]; exact hown.alloc _, hbr.alloc (by omega) _⟩
            case measure => simp [intOf]; omega
          by_cases hle : bd.length < x.length
          · have HN := Lib.hid (HFN.out (by rw [HF1.out, decide_eq_false (by omega : ¬ x.length ≤ bd.length)]; simp))
            go_wp2_with fail
            go_roundw
            case rel => exact ⟨k + 1, by omega, by go_num, by rw [HN.out]; exact hown.alloc _, hbr.alloc (by omega) _⟩
            case measure => simp [intOf]; omega
          have hL := hbo.length
          have hWd := hbo.width
          have HW := Lib.hid (rfl : widS bd x.length = widS bd x.length)
          have HBO := Lib.hid hbo
          have hin := fun h => wid_in (b := bd) (len := x.length) (boardOk_in hbo) h
          cases h2 : (widS bd x.length).2
          · have HN := Lib.hid (HFN.out (by rw [HF1.out, h2]; simp))
            obtain ⟨R, hR⟩ : ∃ R, R = (widS bd x.length).1 := ⟨_, rfl⟩
            have HRW := Lib.hid (show widS bd x.length = (R, false) by rw [hR, ← h2])
            clear h2 hR hin
            go_wp2_with (go_at_call 79; refine (widest_is bd x.length _ _ _ HRW.out (hr.keep ((Below.refl _ _).alloc (Nat.le_refl _) _)) HBO.out.few (HBO.out) (by omega) (by omega)).mono ?_; rintro e w2 ⟨rfl, hb2⟩; obtain ⟨hk2, hf2⟩ := bcell hb2; have hs2 := hb2.size; have hown2 := own_below (hown.alloc _) hb2; have hbr2 := (hbr.alloc (by omega) _).trans (hb2.mono (by simp; omega)); have hy2 : w.heap.size < w2.heap.size := (by simp at hs2; omega); have hy2' : wr.heap.size < w2.heap.size := (by simp at hs2; omega))
            go_roundw
            case rel => exact ⟨k + 1, by omega, by go_num, by rw [HN.out]; exact hown2.alloc _, (hbr2.alloc (by omega) _)⟩
            case measure => simp [intOf]; omega
          · obtain ⟨R, hR⟩ : ∃ R, R = (widS bd x.length).1 := ⟨_, rfl⟩
            have HRW := Lib.hid (show widS bd x.length = (R, true) by rw [hR, ← h2])
            have hRin := hin h2
            rw [← hR] at hRin HF1
            by_cases hwd : x.width ≤ R.y2 - R.y1
            · have HY := Lib.hid (HFY.out (by rw [HF1.out, h2, hsp]; simp; omega))
              clear h2 hR hin
              have hfl := fitK_len st x k
              obtain ⟨F, hF⟩ : ∃ F, F = fitK st x k := ⟨_, rfl⟩
              rw [← hF] at hown HY hfl
              obtain ⟨mm, hmm⟩ : ∃ mm, mm = F.length := ⟨_, rfl⟩
              rw [← hmm] at hown hfl
              have HMM := Lib.hid hmm
              clear hF hmm
              go_wp2_with (first
                | (go_at_call 79; refine (widest_is bd x.length _ _ _ HRW.out (hr.keep ((Below.refl _ _).alloc (Nat.le_refl _) _)) HBO.out.few (HBO.out) (by omega) (by omega)).mono ?_; rintro e w2 ⟨rfl, hb2⟩; obtain ⟨hk2, hf2⟩ := bcell hb2; have hs2 := hb2.size; have hown2 := own_below (hown.alloc _) hb2; have hbr2 := (hbr.alloc (by omega) _).trans (hb2.mono (by simp; omega)); have hy2 : w.heap.size < w2.heap.size := (by simp at hs2; omega); have hy2' : wr.heap.size < w2.heap.size := (by simp at hs2; omega))
                | (at_builtin; refine wpList_append_own _ rfl _ _ 75 rfl w1.heap.size 3 i0 (.int .i64 0) 1 8 Tryz.underlying75 hi0 hz0 hz1 hz2 rfl (by decide) _ mm _ rfl ((hown2.alloc _).alloc _) ⟨w2.heap.size + 1, 0, none⟩ 1 1 [.int .i64 (k : Int)] rfl rfl (news_one (by simp [go_sem])) (by simp [Value.oneCell']) (by simp only [maxLen]; omega) (by omega) (by simp; omega) ?_; intro v' w3 hown3 hgr3 hnil3))
              go_roundw
              case rel => exact ⟨k + 1, by omega, by go_num, by rw [HY.out, List.length_append, List.map_append, ← HMM.out]; exact hown3, ((hbr2.alloc (by omega) _).alloc (by simp; omega) _).grown hgr3 (by simp; omega) (fun j hj => own_base hown2 hj)⟩
              case measure => simp [intOf]; omega
            · have HN := Lib.hid (HFN.out (by rw [HF1.out, decide_eq_false hwd]; simp))
              clear h2 hR hin
              go_wp2_with (go_at_call 79; refine (widest_is bd x.length _ _ _ HRW.out (hr.keep ((Below.refl _ _).alloc (Nat.le_refl _) _)) HBO.out.few (HBO.out) (by omega) (by omega)).mono ?_; rintro e w2 ⟨rfl, hb2⟩; obtain ⟨hk2, hf2⟩ := bcell hb2; have hs2 := hb2.size; have hown2 := own_below (hown.alloc _) hb2; have hbr2 := (hbr.alloc (by omega) _).trans (hb2.mono (by simp; omega)); have hy2 : w.heap.size < w2.heap.size := (by simp at hs2; omega); have hy2' : wr.heap.size < w2.heap.size := (by simp at hs2; omega))
              go_roundw
              case rel => exact ⟨k + 1, by omega, by go_num, by rw [HN.out]; exact hown2.alloc _, (hbr2.alloc (by omega) _)⟩
              case measure => simp [intOf]; omega
      · obtain rfl : k = st.length := by omega
        obtain ⟨a', c', rfl, hi⟩ := own_ints' hown
        go_wp2_with fail
        go_ret2
        exact ⟨a', c', ret_sl (by go_tidy; rw [HFL.out]) (by go_tidy; rw [HFE.out]), by rw [HFL.out]; exact hi, hbr0⟩
  · have HFL := Lib.hid (show fitL l st x = [] by rw [fitL, if_neg hE])
    by_cases hC : checkStockE l st = 0
    · have HFE := Lib.hid (show fitE l st x = blankErr x by rw [fitE, if_pos hC])
      have HCS := Lib.hid hC
      have HNB := Lib.hid (show blankErr x ≠ 0 by rw [← HFE.out]; exact hE)
      clear hE hC
      go_enter Tryz.func38, Tryz.ntmps38
      go_upto_region 1 with fail
      refine gen_world (fun W => (W.cell? ⟨w.heap.size, 0, none⟩ = some (.string x.name) ∧ W.cell? ⟨w.heap.size, 1, none⟩ = some (.string x.species) ∧ W.cell? ⟨w.heap.size, 2, none⟩ = some (.int .i64 x.length) ∧ W.cell? ⟨w.heap.size, 3, none⟩ = some (.int .i64 x.width) ∧ W.cell? ⟨w.heap.size, 4, none⟩ = some (.int .i64 x.thick) ∧ W.cell? ⟨w.heap.size, 5, none⟩ = some (.int .i64 x.count)) ∧ w.heap.size < W.heap.size ∧ Below w.heap.size w W) ?_ ?_
      · exact ⟨⟨by simp [go_sem], by simp [go_sem], by simp [go_sem], by simp [go_sem], by simp [go_sem], by simp [go_sem]⟩, by simp, (Below.refl _ _).alloc (Nat.le_refl _) _⟩
      rintro W ⟨⟨d0, d1, d2, d3, d4, d5⟩, hzW, hbW⟩
      cases h1 : nameB x.name
      · go_wp2_with (first | (go_at_call 76; refine (checkStockP_any _ l _ _ st _ _ (hs.keep (hbW)) hsl (hv.keep (hbW)) hl).mono ?_; rw [HCS.out]; rintro e w1 ⟨rfl, hb1⟩; have e0 := cell_keep hb1 d0; have e1 := cell_keep hb1 d1; have e2 := cell_keep hb1 d2; have e3 := cell_keep hb1 d3; have e4 := cell_keep hb1 d4; have e5 := cell_keep hb1 d5; have hc1 := hbW.trans (hb1.mono hbW.size); have hzW1 : w.heap.size < w1.heap.size := (by have := hb1.size; omega)) | (go_at_call 77; refine (isName_any _ _ (by assumption)).mono ?_; rintro e w' ⟨rfl, rfl⟩) | (go_at_call 78; refine (within_any _ _ _ _).mono ?_; rintro e w' ⟨rfl, rfl⟩))
        go_ret2
        exact ⟨none, 0, ret_sl (by go_tidy; rw [HFL.out]; rfl) (by go_tidy; rw [HFE.out]; simp [blankErr, *]), by rw [HFL.out]; exact fun hn => absurd rfl hn, hc1⟩
      cases h2 : nameB x.species
      · go_wp2_with (first | (go_at_call 76; refine (checkStockP_any _ l _ _ st _ _ (hs.keep (hbW)) hsl (hv.keep (hbW)) hl).mono ?_; rw [HCS.out]; rintro e w1 ⟨rfl, hb1⟩; have e0 := cell_keep hb1 d0; have e1 := cell_keep hb1 d1; have e2 := cell_keep hb1 d2; have e3 := cell_keep hb1 d3; have e4 := cell_keep hb1 d4; have e5 := cell_keep hb1 d5; have hc1 := hbW.trans (hb1.mono hbW.size); have hzW1 : w.heap.size < w1.heap.size := (by have := hb1.size; omega)) | (go_at_call 77; refine (isName_any _ _ (by assumption)).mono ?_; rintro e w' ⟨rfl, rfl⟩) | (go_at_call 78; refine (within_any _ _ _ _).mono ?_; rintro e w' ⟨rfl, rfl⟩))
        go_ret2
        exact ⟨none, 0, ret_sl (by go_tidy; rw [HFL.out]; rfl) (by go_tidy; rw [HFE.out]; simp [blankErr, *]), by rw [HFL.out]; exact fun hn => absurd rfl hn, hc1⟩
      cases h3 : withinB x.length 1 600000
      · go_wp2_with (first | (go_at_call 76; refine (checkStockP_any _ l _ _ st _ _ (hs.keep (hbW)) hsl (hv.keep (hbW)) hl).mono ?_; rw [HCS.out]; rintro e w1 ⟨rfl, hb1⟩; have e0 := cell_keep hb1 d0; have e1 := cell_keep hb1 d1; have e2 := cell_keep hb1 d2; have e3 := cell_keep hb1 d3; have e4 := cell_keep hb1 d4; have e5 := cell_keep hb1 d5; have hc1 := hbW.trans (hb1.mono hbW.size); have hzW1 : w.heap.size < w1.heap.size := (by have := hb1.size; omega)) | (go_at_call 77; refine (isName_any _ _ (by assumption)).mono ?_; rintro e w' ⟨rfl, rfl⟩) | (go_at_call 78; refine (within_any _ _ _ _).mono ?_; rintro e w' ⟨rfl, rfl⟩))
        go_ret2
        exact ⟨none, 0, ret_sl (by go_tidy; rw [HFL.out]; rfl) (by go_tidy; rw [HFE.out]; simp [blankErr, *]), by rw [HFL.out]; exact fun hn => absurd rfl hn, hc1⟩
      cases h4 : withinB x.width 1 600000
      · go_wp2_with (first | (go_at_call 76; refine (checkStockP_any _ l _ _ st _ _ (hs.keep (hbW)) hsl (hv.keep (hbW)) hl).mono ?_; rw [HCS.out]; rintro e w1 ⟨rfl, hb1⟩; have e0 := cell_keep hb1 d0; have e1 := cell_keep hb1 d1; have e2 := cell_keep hb1 d2; have e3 := cell_keep hb1 d3; have e4 := cell_keep hb1 d4; have e5 := cell_keep hb1 d5; have hc1 := hbW.trans (hb1.mono hbW.size); have hzW1 : w.heap.size < w1.heap.size := (by have := hb1.size; omega)) | (go_at_call 77; refine (isName_any _ _ (by assumption)).mono ?_; rintro e w' ⟨rfl, rfl⟩) | (go_at_call 78; refine (within_any _ _ _ _).mono ?_; rintro e w' ⟨rfl, rfl⟩))
        go_ret2
        exact ⟨none, 0, ret_sl (by go_tidy; rw [HFL.out]; rfl) (by go_tidy; rw [HFE.out]; simp [blankErr, *]), by rw [HFL.out]; exact fun hn => absurd rfl hn, hc1⟩
      cases h5 : withinB x.thick 1 600000
      · go_wp2_with (first | (go_at_call 76; refine (checkStockP_any _ l _ _ st _ _ (hs.keep (hbW)) hsl (hv.keep (hbW)) hl).mono ?_; rw [HCS.out]; rintro e w1 ⟨rfl, hb1⟩; have e0 := cell_keep hb1 d0; have e1 := cell_keep hb1 d1; have e2 := cell_keep hb1 d2; have e3 := cell_keep hb1 d3; have e4 := cell_keep hb1 d4; have e5 := cell_keep hb1 d5; have hc1 := hbW.trans (hb1.mono hbW.size); have hzW1 : w.heap.size < w1.heap.size := (by have := hb1.size; omega)) | (go_at_call 77; refine (isName_any _ _ (by assumption)).mono ?_; rintro e w' ⟨rfl, rfl⟩) | (go_at_call 78; refine (within_any _ _ _ _).mono ?_; rintro e w' ⟨rfl, rfl⟩))
        go_ret2
        exact ⟨none, 0, ret_sl (by go_tidy; rw [HFL.out]; rfl) (by go_tidy; rw [HFE.out]; simp [blankErr, *]), by rw [HFL.out]; exact fun hn => absurd rfl hn, hc1⟩
      cases h6 : withinB x.count 1 200
      · go_wp2_with (first | (go_at_call 76; refine (checkStockP_any _ l _ _ st _ _ (hs.keep (hbW)) hsl (hv.keep (hbW)) hl).mono ?_; rw [HCS.out]; rintro e w1 ⟨rfl, hb1⟩; have e0 := cell_keep hb1 d0; have e1 := cell_keep hb1 d1; have e2 := cell_keep hb1 d2; have e3 := cell_keep hb1 d3; have e4 := cell_keep hb1 d4; have e5 := cell_keep hb1 d5; have hc1 := hbW.trans (hb1.mono hbW.size); have hzW1 : w.heap.size < w1.heap.size := (by have := hb1.size; omega)) | (go_at_call 77; refine (isName_any _ _ (by assumption)).mono ?_; rintro e w' ⟨rfl, rfl⟩) | (go_at_call 78; refine (within_any _ _ _ _).mono ?_; rintro e w' ⟨rfl, rfl⟩))
        go_ret2
        exact ⟨none, 0, ret_sl (by go_tidy; rw [HFL.out]; rfl) (by go_tidy; rw [HFE.out]; simp [blankErr, *]), by rw [HFL.out]; exact fun hn => absurd rfl hn, hc1⟩
      · exact absurd (by simp [blankErr, *]) HNB.out
    · obtain ⟨E, hEE⟩ : ∃ E, E = checkStockE l st := ⟨_, rfl⟩
      have HFE := Lib.hid (show fitE l st x = E by rw [fitE, if_neg hC, hEE])
      have HCS := Lib.hid hEE.symm
      have hEb : (E != 0) = true := by rw [hEE]; simpa using hC
      clear hE hC hEE
      go_enter Tryz.func38, Tryz.ntmps38
      go_upto_region 1 with fail
      refine gen_world (fun W => (W.cell? ⟨w.heap.size, 0, none⟩ = some (.string x.name) ∧ W.cell? ⟨w.heap.size, 1, none⟩ = some (.string x.species) ∧ W.cell? ⟨w.heap.size, 2, none⟩ = some (.int .i64 x.length) ∧ W.cell? ⟨w.heap.size, 3, none⟩ = some (.int .i64 x.width) ∧ W.cell? ⟨w.heap.size, 4, none⟩ = some (.int .i64 x.thick) ∧ W.cell? ⟨w.heap.size, 5, none⟩ = some (.int .i64 x.count)) ∧ w.heap.size < W.heap.size ∧ Below w.heap.size w W) ?_ ?_
      · exact ⟨⟨by simp [go_sem], by simp [go_sem], by simp [go_sem], by simp [go_sem], by simp [go_sem], by simp [go_sem]⟩, by simp, (Below.refl _ _).alloc (Nat.le_refl _) _⟩
      rintro W ⟨⟨d0, d1, d2, d3, d4, d5⟩, hzW, hbW⟩
      go_wp2_with (first | (go_at_call 76; refine (checkStockP_any _ l _ _ st _ _ (hs.keep (hbW)) hsl (hv.keep (hbW)) hl).mono ?_; rw [HCS.out]; rintro e w1 ⟨rfl, hb1⟩; have e0 := cell_keep hb1 d0; have e1 := cell_keep hb1 d1; have e2 := cell_keep hb1 d2; have e3 := cell_keep hb1 d3; have e4 := cell_keep hb1 d4; have e5 := cell_keep hb1 d5; have hc1 := hbW.trans (hb1.mono hbW.size); have hzW1 : w.heap.size < w1.heap.size := (by have := hb1.size; omega)) | (go_at_call 77; refine (isName_any _ _ (by assumption)).mono ?_; rintro e w' ⟨rfl, rfl⟩) | (go_at_call 78; refine (within_any _ _ _ _).mono ?_; rintro e w' ⟨rfl, rfl⟩))
      go_ret2
      exact ⟨none, 0, ret_sl (by go_tidy; rw [HFL.out]; rfl) (by go_tidy; rw [HFE.out]), by rw [HFL.out]; exact fun hn => absurd rfl hn, hc1⟩
end Go.Proofs.YtdmoiepafkbefaaGreat
