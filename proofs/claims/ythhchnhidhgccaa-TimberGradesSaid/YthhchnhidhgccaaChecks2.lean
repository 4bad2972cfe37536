/- Lists of species: what Find, find and CheckSpecies return, of the program and of the reference; a set of texts kept as a map. -/
import Derived.Test.YthhchnhidhgccaaChecks1
import Derived.Maps.Own
import Derived.Maps.OwnOps
import Derived.Maps.Views
set_option linter.unusedVariables false
set_option linter.unusedSimpArgs false
namespace Go.Proofs.Ythhchnhidhgccaa
open Go Go.RowKit Go.Maps Go.WideMaps

theorem bcell {W w1 : World} (hb : Below W.heap.size W w1) : (∀ b o, b < W.heap.size → w1.cell? ⟨b, o, none⟩ = W.cell? ⟨b, o, none⟩) ∧ (∀ b o, b < W.heap.size → w1.frozen? ⟨b, o, none⟩ = W.frozen? ⟨b, o, none⟩) :=
  ⟨fun b o h => hb.cell (p := ⟨b, o, none⟩) h, fun b o h => hb.frozen (p := ⟨b, o, none⟩) h⟩

/-- The first place at which a list has what is sought, or -1. -/
def idxOf {α : Type} (p : α → Bool) (l : List α) : Int := match l.findIdx? p with | some i => (i : Int) | none => -1
theorem idxOf_hit {α : Type} {p : α → Bool} {l : List α} {k : Nat} (hk : k < l.length) (h : ∀ j (hj : j < l.length), j < k → p l[j] = false) (hp : p l[k] = true) : idxOf p l = k := by
  have : l.findIdx? p = some k := by
    rw [List.findIdx?_eq_some_iff_getElem]
    exact ⟨hk, hp, fun j hj => by rw [h j (by omega) hj]; decide⟩
  unfold idxOf; rw [this]
theorem idxOf_miss {α : Type} {p : α → Bool} {l : List α} (h : ∀ j (hj : j < l.length), p l[j] = false) : idxOf p l = -1 := by
  have : l.findIdx? p = none := by
    rw [List.findIdx?_eq_none_iff]
    intro x hx
    obtain ⟨j, hj, rfl⟩ := List.mem_iff_getElem.1 hx
    exact h j hj
  unfold idxOf; rw [this]
theorem none_step {α : Type} {p : α → Bool} {l : List α} {k : Nat} (h : ∀ j (hj : j < l.length), j < k → p l[j] = false) (hk : k < l.length) (hp : p l[k] = false) : ∀ j (hj : j < l.length), j < k + 1 → p l[j] = false := by
  intro j hj hlt
  rcases Nat.lt_succ_iff_lt_or_eq.1 hlt with h' | rfl
  · exact h j hj h'
  · exact hp

def nameIs (nm : ByteArray) (s : Species) : Bool := s.name.toList == nm.toList

set_option maxHeartbeats 1000000 in
theorem refFind_any (a : Option Addr) (l : List Species) (c : Nat) (nm : ByteArray) (w : World) (hv : Speciess.V w a l) (hl : l.length ≤ 9223372036854775807) :
    Calls Try.prog 24 #[.slice a l.length c, .string nm] w fun e w' => e = .returned (.int .i64 (idxOf (nameIs nm) l)) ∧ w = w' := by
  go_enter Try.func24, Try.ntmps24
  go_wp2
  go_loop [5] (fun i => ∃ k : Nat, k ≤ l.length ∧ i = .int .i64 k ∧ Hid (∀ j (hj : j < l.length), j < k → nameIs nm l[j] = false)) (fun i => l.length - (intOf i).toNat)
  case atStart => exact ⟨0, Nat.zero_le _, rfl, Lib.hid (fun j _ h => by omega)⟩
  case round =>
    obtain ⟨k, hk, rfl, HK⟩ := hrel
    by_cases hlt : k < l.length
    · obtain ⟨b, off, rfl, hat⟩ := hv.at_ hlt
      obtain ⟨c0, c1, c2, c3, c4, c5, c6, -⟩ := hat
      cases hq : (l[k].name.toList == nm.toList)
      · go_wp2
        go_round
        case rel => exact ⟨k + 1, by omega, by go_num, Lib.hid (none_step HK.out hlt hq)⟩
        case measure => simp [intOf]; omega
      · go_wp2
        go_ret
        exact ⟨ret_int (idxOf_hit hlt HK.out hq).symm, rfl⟩
    · have hm := Lib.hid (idxOf_miss (p := nameIs nm) (l := l) (fun j hj => HK.out j hj (by omega)))
      clear HK
      go_wp2
      go_ret
      exact ⟨ret_int hm.out.symm, rfl⟩

theorem find1_any (s : Species) (g : Nat) (nm : ByteArray) (w : World) (hg : w.cell? ⟨g, 0, none⟩ = some (.string nm)) (hgl : g < w.heap.size) :
    Calls Try.prog 109 #[.agg #[.string s.name, .int .i64 s.along, .int .i64 s.across, .int .i64 s.radial, .int .i64 s.density, .int .i64 s.stiffness, .int .i64 s.strength], .pointer (some ⟨g, 0, none⟩)] w
      fun e w' => e = .returned (.bool (nameIs nm s)) ∧ Below w.heap.size w w' := by
  go_enter Try.func109, Try.ntmps109
  go_wp2
  go_ret
  exact ⟨rfl, (Below.refl _ _).alloc (Nat.le_refl _) _⟩

set_option maxHeartbeats 1000000 in
theorem indexSpecies_any (a : Option Addr) (l : List Species) (c g : Nat) (nm : ByteArray) (w : World) (hv : Speciess.V w a l) (hl : l.length ≤ 9223372036854775807)
    (hg : w.cell? ⟨g, 0, none⟩ = some (.string nm)) (hgl : g < w.heap.size) :
    Calls Try.prog 108 #[.slice a l.length c, .func (.func 109) #[] #[.pointer (some ⟨g, 0, none⟩)]] w
      fun e w' => e = .returned (.int .i64 (idxOf (nameIs nm) l)) ∧ Below w.heap.size w w' := by
  go_enter Try.func108, Try.ntmps108
  go_wp2
  go_loopw [8] (fun i wr => ∃ k : Nat, k ≤ l.length ∧ i = .int .i64 k ∧ Hid (∀ j (hj : j < l.length), j < k → nameIs nm l[j] = false) ∧ Below w.heap.size w wr) (fun i _ => l.length - (intOf i).toNat)
  case atStart => exact ⟨0, Nat.zero_le _, rfl, Lib.hid (fun j _ h => by omega), Below.refl _ _⟩
  case round =>
    obtain ⟨k, hk, rfl, HK, hbw⟩ := hrel
    by_cases hlt : k < l.length
    · obtain ⟨b, off, rfl, hat⟩ := (hv.keep hbw).at_ hlt
      obtain ⟨c0, c1, c2, c3, c4, c5, c6, -⟩ := hat
      have hgr := cell_keep hbw hg
      have hsz := hbw.size
      cases hq : nameIs nm l[k]
      · go_wp2_with (go_at_call 109; refine (find1_any l[k] _ _ _ hgr (by omega)).mono ?_; rintro e w1 ⟨rfl, hb⟩)
        go_round
        case rel => exact ⟨k + 1, by omega, by go_num, Lib.hid (none_step HK.out hlt hq), hbw.trans (hb.mono hsz)⟩
        case measure => simp [intOf]; omega
      · go_wp2_with (go_at_call 109; refine (find1_any l[k] _ _ _ hgr (by omega)).mono ?_; rintro e w1 ⟨rfl, hb⟩)
        go_ret
        exact ⟨ret_int (idxOf_hit hlt HK.out hq).symm, hbw.trans (hb.mono hsz)⟩
    · have hm := Lib.hid (idxOf_miss (p := nameIs nm) (l := l) (fun j hj => HK.out j hj (by omega)))
      clear HK
      go_wp2
      go_ret
      exact ⟨ret_int hm.out.symm, hbw⟩

theorem find_any (a : Option Addr) (l : List Species) (c : Nat) (nm : ByteArray) (w : World) (hv : Speciess.V w a l) (hl : l.length ≤ 9223372036854775807) :
    Calls Try.prog 74 #[.slice a l.length c, .string nm] w fun e w' => e = .returned (.int .i64 (idxOf (nameIs nm) l)) ∧ Below w.heap.size w w' := by
  go_enter Try.func74, Try.ntmps74
  go_wp2_with (go_at_call 108; refine (indexSpecies_any _ l _ w.heap.size nm _ (hv.keep ((Below.refl _ _).alloc (Nat.le_refl _) _)) hl (by simp) (by simp)).mono ?_; rintro e w1 ⟨rfl, hb⟩)
  go_ret
  exact ⟨rfl, ((Below.refl _ _).alloc (Nat.le_refl _) _).trans (hb.mono (by simp))⟩

/-! A set of texts, kept as a map of the call's own. -/
def Seen (w : World) (bm n : Nat) (names : List ByteArray) : Prop :=
  ∃ D : DataW Unit, w.ownsMap Try.prog 9 (plainElem Try.prog 4) bm n D ∧ IsMap D ∧
    ∀ s : ByteArray, D.atKey (.string s.data.toList) (.lit (.bool false)) = .lit (.bool (names.any fun t => s.toList == t.toList))

theorem str_keyed : Keyed Try.prog 9 := string_keyed Try.underlying9
theorem zero_bool (w : World) : (zeroValue 4).run Try.prog w = .ok (.bool false) w := by kernel_rfl

theorem Seen.made (w : World) : Seen (w.alloc (.map #[] 0)) w.heap.size 0 [] :=
  ⟨.map [], World.ownsMap_made _ _ _ _, isMap_empty, fun s => rfl⟩
theorem Seen.below {w w' : World} {bm n : Nat} {names : List ByteArray} (h : Seen w bm n names) (hb : Below w.heap.size w w') : Seen w' bm n names := by
  obtain ⟨D, ho, hm, hk⟩ := h
  exact ⟨D, ho.kept (row := none) ⟨hb.os, hb.tape, hb.output, hb.size, fun k hk _ => hb.block k hk⟩ (by simp), hm, hk⟩
theorem plainElem_bool_inv {P : Program} {e : TypeId} (he : P.underlying e = some .bool) {v : Value} {b : Bool} {ps : List MemPlace} (h : plainElem (H := Unit) P e v = some (.lit (.bool b), ps)) : v = .bool b := by
  unfold plainElem at h
  rw [he] at h
  cases v <;> simp at h
  rw [h.1]
theorem Seen.run {w : World} {bm n : Nat} {names : List ByteArray} (h : Seen w bm n names) (s : ByteArray) (hs : s.size ≤ 9223372036854775807) :
    (Instr.lookup 129 (.map (some bm)) (.string s) false).run Try.prog w = .ok (.bool (names.any fun t => s.toList == t.toList)) w := by
  obtain ⟨D, ho, hm, hk⟩ := h
  obtain ⟨v, ps, hr, hv⟩ := ho.lookup str_keyed Try.underlying129 (zero_bool w) (plainElem_bool Try.underlying4 false) (keyOf_string_mk Try.underlying9 hs)
  rw [hk s] at hv
  rw [hr, plainElem_bool_inv Try.underlying4 hv]

theorem wpList_seen {w : World} {ops : Array Oper} {rest : List Oper} {o : Oper} {a : Act} {Q : Exit → Act → World → Prop}
    (hg : o.guard = none) (m x v : Operand) (hop : o.op = Op.mapUpdate 129 m x v) (bm n : Nat) (names : List ByteArray) (s : ByteArray) (hs : s.size ≤ 9223372036854775807) (hn : n < 9223372036854775807)
    (hm : a.eval m = .map (some bm)) (hx : a.eval x = .string s) (hv : a.eval v = .bool true) (h : Seen w bm n names)
    (hK : ∀ w', Seen w' bm (n + 1) (names ++ [s]) → w.grownBy w' (some bm) → wpList Try.prog ops Q rest (a.put o.dst undef) w') :
    wpList Try.prog ops Q (o :: rest) a w := by
  obtain ⟨D, ho, him, hk⟩ := h
  refine wpList_mapUpdate_own w hg m x v _ hop _ _ str_keyed Try.underlying129 _ bm n D hm ho hn _ _ (.string s.data.toList) hx hv (keyOf_string_mk Try.underlying9 hs) (.lit (.bool true)) []
    (plainElem_bool Try.underlying4 true) ?_
  intro w' ho' hgr
  refine hK w' ⟨_, ho', him.put _ _, fun t => ?_⟩ hgr
  by_cases ht : t.data.toList = s.data.toList
  · rw [ht, atKey_put_same him (by simp [WideAt.IsKeyLit])]
    simp [ByteArray.toList_eq, ht]
  · rw [atKey_put_other (by simpa using ht), hk t]
    simp [ByteArray.toList_eq]
    intro h
    exact absurd (by rw [h]) ht

def spGo (pre : List ByteArray) : List Species → Int
  | [] => 0
  | s :: r => if speciesErr s ≠ 0 then speciesErr s else if (pre.any fun t => s.name.toList == t.toList) then 5 else spGo (pre ++ [s.name]) r
def checkSpecies (l : List Species) : Int := if 40 < l.length then 8 else spGo [] l
theorem take_map_step {α β : Type} (f : α → β) {l : List α} {k : Nat} (hk : k < l.length) : (l.map f).take (k + 1) = (l.map f).take k ++ [f l[k]] := by
  rw [List.take_succ_eq_append_getElem (by simpa using hk)]; simp
theorem spGo_err {l : List Species} {k : Nat} {e : Int} (hk : k < l.length) (h : e = spGo ((l.map (·.name)).take k) (l.drop k)) (h1 : (speciesErr l[k] != 0) = true) : e = speciesErr l[k] := by
  rw [h, List.drop_eq_getElem_cons hk, spGo, if_pos (by simpa using h1)]
theorem spGo_dup {l : List Species} {k : Nat} {e : Int} (hk : k < l.length) (h : e = spGo ((l.map (·.name)).take k) (l.drop k)) (h1 : (speciesErr l[k] != 0) = false)
    (h2 : (((l.map (·.name)).take k).any fun t => l[k].name.toList == t.toList) = true) : e = 5 := by
  rw [h, List.drop_eq_getElem_cons hk, spGo, if_neg (by simpa using h1), if_pos h2]
theorem spGo_next {l : List Species} {k : Nat} {e : Int} (hk : k < l.length) (h : e = spGo ((l.map (·.name)).take k) (l.drop k)) (h1 : (speciesErr l[k] != 0) = false)
    (h2 : (((l.map (·.name)).take k).any fun t => l[k].name.toList == t.toList) = false) : e = spGo ((l.map (·.name)).take (k + 1)) (l.drop (k + 1)) := by
  rw [h, List.drop_eq_getElem_cons hk, spGo, if_neg (by simpa using h1), if_neg (by simp [h2]), take_map_step _ hk]
theorem spGo_end {l : List Species} {k : Nat} {e : Int} (hk : l.length ≤ k) (h : e = spGo ((l.map (·.name)).take k) (l.drop k)) : e = 0 := by
  rw [h, List.drop_eq_nil_of_le hk]; rfl

set_option maxRecDepth 100000 in
set_option maxHeartbeats 1000000 in
theorem checkSpecies_any (a : Option Addr) (l : List Species) (c : Nat) (w : World) (hv : Speciess.V w a l) (hl : l.length ≤ 9223372036854775807) :
    Calls Try.prog 32 #[.slice a l.length c] w fun e w' => e = .returned (.int .i64 (checkSpecies l)) ∧ Below w.heap.size w w' := by
  by_cases hbig : 40 < l.length
  · go_enter Try.func32, Try.ntmps32
    go_wp2_with fail
    go_ret
    exact ⟨ret_int (by simp [checkSpecies, hbig]), Below.refl _ _⟩
  have hmm := @run_makeMap Try.prog
  have HF := Lib.hid (show checkSpecies l = spGo ((l.map (·.name)).take 0) (l.drop 0) by simp [checkSpecies, hbig])
  go_enter Try.func32, Try.ntmps32
  go_wp2_with fail
  go_loopw [13] (fun i wr => ∃ k : Nat, k ≤ l.length ∧ i = .int .i64 k ∧ Hid (checkSpecies l = spGo ((l.map (·.name)).take k) (l.drop k)) ∧ Hid (Seen wr w.heap.size k ((l.map (·.name)).take k)) ∧ Below w.heap.size w wr) (fun i _ => l.length - (intOf i).toNat)
  case atStart => exact ⟨0, Nat.zero_le _, rfl, HF, Lib.hid (Seen.made w), (Below.refl _ _).alloc (Nat.le_refl _) _⟩
  case round =>
    clear HF
    obtain ⟨k, hk, rfl, HF, HS, hbw⟩ := hrel
    by_cases hlt : k < l.length
    · obtain ⟨b, off, rfl, hat⟩ := (hv.keep hbw).at_ hlt
      obtain ⟨c0, c1, c2, c3, c4, c5, c6, hwf⟩ := hat
      have hns := hwf.1
      clear hwf
      have hsz := hbw.size
      go_wp2_with (first
        | (go_at_call 81; refine (checkOne_any l[k] _ hns).mono ?_; rintro e w1 ⟨rfl, hb⟩; obtain ⟨hc, hf⟩ := bcell hb; have hz := hb.size; have HS1 := Lib.hid (((show Seen wr _ _ _ from HS.out).below ((Below.refl _ _).alloc (Nat.le_refl _) _)).below hb); have hlk := Seen.run HS1.out l[k].name hns)
        | (at_mapUpdate; refine wpList_seen rfl _ _ _ rfl w.heap.size k _ l[k].name hns (by omega) rfl rfl rfl HS1.out ?_; intro w2 hS2 hg2; have HS2 := Lib.hid hS2; clear hS2))
      · go_ret
        exact ⟨ret_int (spGo_err hlt HF.out (by assumption)).symm, (hbw.alloc (by omega) _).trans (hb.mono (by simp; omega))⟩
      · go_ret
        exact ⟨ret_int (spGo_dup hlt HF.out (by assumption) (by assumption)).symm, (hbw.alloc (by omega) _).trans (hb.mono (by simp; omega))⟩
      · have hS2 := HS2.out
        rw [← take_map_step _ hlt] at hS2
        go_roundw
        case rel => exact ⟨k + 1, by omega, by go_num, Lib.hid (spGo_next hlt HF.out (by assumption) (by assumption)), Lib.hid hS2, ((hbw.alloc (by omega) _).trans (hb.mono (by simp; omega))).grown hg2 (by simp at hz; omega) (fun j hj => by cases hj; omega)⟩
        case measure => simp [intOf]; omega
    · have hm := Lib.hid (spGo_end (by omega) HF.out)
      clear HF
      go_wp2_with fail
      go_ret
      exact ⟨ret_int hm.out.symm, hbw⟩
end Go.Proofs.Ythhchnhidhgccaa
