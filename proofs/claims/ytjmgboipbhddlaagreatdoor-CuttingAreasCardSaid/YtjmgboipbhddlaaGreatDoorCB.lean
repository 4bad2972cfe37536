import Derived.Test.YtjmgboipbhddlaaGreatDoorNames2
import Derived.Test.YtjmgboipbhddlaaGreatDoorData8
import Derived.Test.YtjmgboipbhddlaaGreatDoorGrew
import Derived.LoopN
import Derived.Maps.Own
import Derived.Maps.OwnOps
import Derived.Maps.Views
import Derived.Deep.CutRange
import Derived.Deep.RegionHeld3
import Derived.OwnWalk
set_option linter.unusedVariables false
set_option linter.unusedSimpArgs false
namespace Go.Proofs.YtjmgboipbhddlaaGreatDoor
open Go Go.RowKit Go.Maps Go.WideMaps

theorem rounds_step {P : Program} {c : Code} {Q : Exit → Act → World → Prop} {n : Nat} {a : Act} {w : World} (h : c.wp P (Exit.then (Code.rounds P c Q n) Q) a w) : Code.rounds P c Q (n + 1) a w := h
def withinB (n lo hi : Int) : Bool := decide (lo ≤ n) && decide (n ≤ hi)
theorem ret_int {a b : Int} (h : a = b) : Ending.returned (.int .i64 a) = .returned (.int .i64 b) := by rw [h]
theorem within_any (n lo hi : Int) (w : World) : Calls Tryz.prog 88 #[.int .i64 n, .int .i64 lo, .int .i64 hi] w fun e w' => e = .returned (.bool (withinB n lo hi)) ∧ w = w' := by
 unfold withinB
 go_enter Tryz.func88, Tryz.ntmps88
 go_wp2
 all_goals (go_ret; exact ⟨ret_bool (by rw [Bool.eq_iff_iff]; simp <;> omega), rfl⟩)
theorem baseWithin_any (n lo hi : Int) (w : World) : Calls Tryz.prog 16 #[.int .i64 n, .int .i64 lo, .int .i64 hi] w fun e w' => e = .returned (.bool (withinB n lo hi)) ∧ w = w' := by
 unfold withinB
 go_enter Tryz.func16, Tryz.ntmps16
 go_wp2
 all_goals (go_ret; exact ⟨ret_bool (by rw [Bool.eq_iff_iff]; simp <;> omega), rfl⟩)
theorem cwithin_any (n lo hi : Int) (w : World) : Calls Tryz.prog 30 #[.int .i64 n, .int .i64 lo, .int .i64 hi] w fun e w' => e = .returned (.bool (withinB n lo hi)) ∧ w = w' := by
 unfold withinB
 go_enter Tryz.func30, Tryz.ntmps30
 go_wp2
 all_goals (go_ret; exact ⟨ret_bool (by rw [Bool.eq_iff_iff]; simp <;> omega), rfl⟩)
theorem bcell {W w1 : World} (hb : Below W.heap.size W w1) : (∀ b o, b < W.heap.size → w1.cell? ⟨b, o, none⟩ = W.cell? ⟨b, o, none⟩) ∧ (∀ b o, b < W.heap.size → w1.frozen? ⟨b, o, none⟩ = W.frozen? ⟨b, o, none⟩) :=
 ⟨fun b o h => hb.cell (p := ⟨b, o, none⟩) h, fun b o h => hb.frozen (p := ⟨b, o, none⟩) h⟩
def idxOf {α : Type} (p : α → Bool) (l : List α) : Int := match l.findIdx? p with | some i => (i : Int) | none => -1
theorem idxOf_hit {α : Type} {p : α → Bool} {l : List α} {k : Nat} (hk : k < l.length) (h : ∀ j (hj : j < l.length), j < k → p l[j] = false) (hp : p l[k] = true) : idxOf p l = k := by
 have : l.findIdx? p = some k := by
  rw [List.findIdx?_eq_some_iff_getElem]
  exact ⟨hk, hp, fun j hj => by rw [h j (by omega) hj]; decide⟩
 unfold idxOf; rw [this]
theorem idxOf_miss {α : Type} {p : α → Bool} {l : List α} (h : ∀ j (hj : j < l.length), p l[j] = false) : idxOf p l = -1 := by
 have : l.findIdx? p = none := by
  rw [List.findIdx?_eq_none_iff]
  intro x hx
  obtain ⟨j, hj, rfl⟩ := List.mem_iff_getElem.1 hx
  exact h j hj
 unfold idxOf; rw [this]
theorem none_step {α : Type} {p : α → Bool} {l : List α} {k : Nat} (h : ∀ j (hj : j < l.length), j < k → p l[j] = false) (hk : k < l.length) (hp : p l[k] = false) : ∀ j (hj : j < l.length), j < k + 1 → p l[j] = false := by
 intro j hj hlt
 rcases Nat.lt_succ_iff_lt_or_eq.1 hlt with h' | rfl
 ·exact h j hj h'
 ·exact hp
def Seen (w : World) (bm n : Nat) (names : List ByteArray) : Prop :=
 ∃ D : DataW Unit, w.ownsMap Tryz.prog 9 (plainElem Tryz.prog 4) bm n D ∧ IsMap D ∧
  ∀ s : ByteArray, D.atKey (.string s.data.toList) (.lit (.bool false)) = .lit (.bool (names.any fun t => s.toList == t.toList))
theorem str_keyed : Keyed Tryz.prog 9 := string_keyed Tryz.underlying9
theorem zero_bool (w : World) : (zeroValue 4).run Tryz.prog w = .ok (.bool false) w := by kernel_rfl
theorem Seen.made (w : World) : Seen (w.alloc (.map #[] 0)) w.heap.size 0 [] :=
 ⟨.map [], World.ownsMap_made _ _ _ _, isMap_empty, fun s => rfl⟩
theorem Seen.below {w w' : World} {bm n : Nat} {names : List ByteArray} (h : Seen w bm n names) (hb : Below w.heap.size w w') : Seen w' bm n names := by
 obtain ⟨D, ho, hm, hk⟩ := h
 exact ⟨D, ho.kept (row := none) ⟨hb.os, hb.tape, hb.output, hb.size, fun k hk _ => hb.block k hk⟩ (by simp), hm, hk⟩
theorem plainElem_bool_inv {P : Program} {e : TypeId} (he : P.underlying e = some .bool) {v : Value} {b : Bool} {ps : List MemPlace} (h : plainElem (H := Unit) P e v = some (.lit (.bool b), ps)) : v = .bool b := by
 unfold plainElem at h
 rw [he] at h
 cases v <;> simp at h
 rw [h.1]
theorem Seen.run {w : World} {bm n : Nat} {names : List ByteArray} (h : Seen w bm n names) (s : ByteArray) (hs : s.size ≤ 9223372036854775807) :
    (Instr.lookup 104 (.map (some bm)) (.string s) false).run Tryz.prog w = .ok (.bool (names.any fun t => s.toList == t.toList)) w := by
 obtain ⟨D, ho, hm, hk⟩ := h
 obtain ⟨v, ps, hr, hv⟩ := ho.lookup str_keyed Tryz.underlying104 (zero_bool w) (plainElem_bool Tryz.underlying4 false) (keyOf_string_mk Tryz.underlying9 hs)
 rw [hk s] at hv
 rw [hr, plainElem_bool_inv Tryz.underlying4 hv]
theorem wpList_seen {w : World} {ops : Array Oper} {rest : List Oper} {o : Oper} {a : Act} {Q : Exit → Act → World → Prop}
    (hg : o.guard = none) (m x v : Operand) (hop : o.op = Op.mapUpdate 104 m x v) (bm n : Nat) (names : List ByteArray) (s : ByteArray) (hs : s.size ≤ 9223372036854775807) (hn : n < 9223372036854775807)
    (hm : a.eval m = .map (some bm)) (hx : a.eval x = .string s) (hv : a.eval v = .bool true) (h : Seen w bm n names)
    (hK : ∀ w', Seen w' bm (n + 1) (names ++ [s]) → w.grownBy w' (some bm) → wpList Tryz.prog ops Q rest (a.put o.dst undef) w') :
    wpList Tryz.prog ops Q (o :: rest) a w := by
 obtain ⟨D, ho, him, hk⟩ := h
 refine wpList_mapUpdate_own w hg m x v _ hop _ _ str_keyed Tryz.underlying104 _ bm n D hm ho hn _ _ (.string s.data.toList) hx hv (keyOf_string_mk Tryz.underlying9 hs) (.lit (.bool true)) []
  (plainElem_bool Tryz.underlying4 true) ?_
 intro w' ho' hgr
 refine hK w' ⟨_, ho', him.put _ _, fun t => ?_⟩ hgr
 by_cases ht : t.data.toList = s.data.toList
 ·rw [ht, atKey_put_same him (by simp [WideAt.IsKeyLit])]
  simp [ByteArray.toList_eq, ht]
 ·rw [atKey_put_other (by simpa using ht), hk t]
  simp [ByteArray.toList_eq]
  intro h
  exact absurd (by rw [h]) ht
theorem take_map_step {α β : Type} (f : α → β) {l : List α} {k : Nat} (hk : k < l.length) : (l.map f).take (k + 1) = (l.map f).take k ++ [f l[k]] := by
 rw [List.take_succ_eq_append_getElem (by simpa using hk)]; simp
theorem quiet_left {P : Program} {f : FuncId} {args : Array Value} {w : World} {n : Nat} {v : Value}
    (h : Calls P f args (w.drewN n) fun e w' => e = .returned v ∧ w.drewN n = w') : Calls P f args (w.drewN n) fun e w'' => e = .returned v ∧ ∃ m, w'' = w.drewN m :=
 h.mono fun _ _ ⟨he, hm⟩ => ⟨he, n, hm.symm⟩
theorem below_drewN {B : Nat} {a w : World} (h : Below B a w) (n : Nat) : Below B a (w.drewN n) := ⟨h.os, h.tape, h.output, h.size, h.block⟩
def IntsV (w : World) (a : Option Addr) (l : List Int) : Prop := l ≠ [] → ∃ b off, a = some ⟨b, off, none⟩ ∧ ∀ k x, l[k]? = some x → w.cell? ⟨b, off + k, none⟩ = some (.int .i64 x)
theorem gen_world {P : Program} {c : Code} {Q : Exit → Act → World → Prop} {a : Act} {w : World} (R : World → Prop) (h : R w) (k : ∀ W, R W → c.wp P Q a W) : c.wp P Q a w := k w h
theorem withinB_true {n lo hi : Int} (h : withinB n lo hi = true) : lo ≤ n ∧ n ≤ hi := by simpa [withinB] using h
theorem own_base {w : World} {base e size n : Nat} {v : Value} {xs : List Value} (h : w.ownsRow base e size v n xs) {j : Nat} (hj : v.ownBlock = some j) : base ≤ j := by
 rcases h.2 with ⟨rfl, _⟩ | ⟨g, cap, cur, rfl, hb, _⟩
 ·cases hj
 ·simp only [Value.ownBlock, Option.some.injEq] at hj
  omega
theorem addr_add (b o j : Nat) : (⟨b, o, none⟩ : Addr).add j = ⟨b, o + j, none⟩ := by unfold Addr.add; split <;> simp_all
theorem news_of (cs : List Value) (T : TypeId) (w : World) (g : Nat) (hg : g = w.heap.size) : ∀ j u, cs[j]? = some u → (w.alloc (.cells cs.toArray T)).cell? ((⟨g, 0, none⟩ : Addr).add j) = some u := by
 subst hg
 intro j u hj
 rw [addr_add, Nat.zero_add]
 unfold World.cell?
 rw [show (w.alloc (.cells cs.toArray T)).heap[w.heap.size]? = some (.cells cs.toArray T) from heap_alloc_new w _]
 simpa using hj
theorem own_ints {w : World} {base e g n cap : Nat} {l r : List Int} (h : w.ownsRow base e 1 (.slice (some ⟨g, 0, none⟩) n cap) n ((l ++ r).map (Value.int .i64))) : IntsV w (some ⟨g, 0, none⟩) l := by
 refine fun _ => ⟨g, 0, rfl, fun k x hk => ?_⟩
 have := h.cells (g := g) rfl k (.int .i64 x) (by rw [List.getElem?_map, List.getElem?_append_left (List.getElem?_eq_some_iff.1 hk).1, hk]; rfl)
 have e1 : (⟨g, 0, none⟩ : Addr).add k = ⟨g, 0 + k, none⟩ := by unfold Addr.add; split <;> simp_all
 rw [e1] at this; exact this
theorem own_ints' {w : World} {base e n : Nat} {v : Value} {l : List Int} (h : w.ownsRow base e 1 v n (l.map (Value.int .i64))) : ∃ a' c', v = .slice a' n c' ∧ IntsV w a' l := by
 rcases h.2 with ⟨rfl, h0⟩ | ⟨g, cap, cur, rfl, hb, hblk, r⟩
 ·have hl := h.1
  subst h0
  have : l = [] := by simpa using hl
  subst this
  exact ⟨none, 0, rfl, fun hn => absurd rfl hn⟩
 ·exact ⟨_, _, rfl, own_ints (r := []) (by simpa using h)⟩
theorem own_keep {w w' : World} {base e size n : Nat} {v : Value} {xs : List Value} (h : w.ownsRow base e size v n xs) (hb : Below w.heap.size w w') : w'.ownsRow base e size v n xs := by
 refine ⟨h.1, ?_⟩
 rcases h.2 with h0 | ⟨g, cap, cur, rfl, hbg, hblk, r⟩
 ·exact .inl h0
 ·exact .inr ⟨g, cap, cur, rfl, hbg, (hb.block g (Array.getElem?_eq_some_iff.1 hblk).1).trans hblk, r⟩
end Go.Proofs.YtjmgboipbhddlaaGreatDoor
set_option linter.unusedVariables false
set_option linter.unusedSimpArgs false
namespace Go.Proofs.YtjmgboipbhddlaaGreatDoor
open Go Go.RowKit Go.Maps Go.WideMaps

theorem bcellB {B : Nat} {W w1 : World} (hb : Below B W w1) : (∀ b o, b < B → w1.cell? ⟨b, o, none⟩ = W.cell? ⟨b, o, none⟩) ∧ (∀ b o, b < B → w1.frozen? ⟨b, o, none⟩ = W.frozen? ⟨b, o, none⟩) :=
 ⟨fun b o h => hb.cell (p := ⟨b, o, none⟩) h, fun b o h => hb.frozen (p := ⟨b, o, none⟩) h⟩
def rectErr (r : Rect) : Int := if r.x2 ≤ r.x1 ∨ r.y2 ≤ r.y1 then 3 else 0
def insideB (r q : Rect) : Bool := decide (q.x1 ≤ r.x1) && decide (r.x2 ≤ q.x2) && decide (q.y1 ≤ r.y1) && decide (r.y2 ≤ q.y2)
def rectIn (l wd : Int) (r : Rect) : Int := if r.x2 ≤ r.x1 ∨ r.y2 ≤ r.y1 then 3 else if r.x1 < 0 ∨ l < r.x2 ∨ r.y1 < 0 ∨ wd < r.y2 then 2 else 0
theorem rectErr_any (r : Rect) (w : World) : Calls Tryz.prog 67 #[.agg #[.int .i64 r.x1, .int .i64 r.y1, .int .i64 r.x2, .int .i64 r.y2]] w fun e w' => e = .returned (.int .i64 (rectErr r)) ∧ Below w.heap.size w w' := by
 go_enter Tryz.func67, Tryz.ntmps67
 go_wp2
 all_goals (go_ret; exact ⟨ret_int (by go_tidy; (try simp only [Bool.not_eq_eq_eq_not, Bool.not_true, Bool.not_false, Bool.not_eq_true', Bool.not_eq_false', decide_eq_false_iff_not, decide_eq_true_eq, beq_iff_eq, beq_eq_false_iff_ne, bne_iff_ne, ne_eq, bne_eq_false_iff_eq, Bool.and_eq_true, Bool.or_eq_true, Bool.and_eq_false_iff, Bool.or_eq_false_iff, not_true_eq_false, not_false_eq_true, false_and, and_false, or_false, false_or, true_and, and_true, true_or, or_true] at *) <;> unfold rectErr <;> split <;> omega), (Below.refl _ _).alloc (Nat.le_refl _) _⟩)
set_option maxHeartbeats 1000000 in
theorem inside_any (r q : Rect) (w : World) : Calls Tryz.prog 68 #[.agg #[.int .i64 r.x1, .int .i64 r.y1, .int .i64 r.x2, .int .i64 r.y2], .agg #[.int .i64 q.x1, .int .i64 q.y1, .int .i64 q.x2, .int .i64 q.y2]] w fun e w' => e = .returned (.bool (insideB r q)) ∧ Below w.heap.size w w' := by
 go_enter Tryz.func68, Tryz.ntmps68
 go_wp2
 all_goals (go_ret; exact ⟨ret_bool (by go_tidy; unfold insideB; rw [Bool.eq_iff_iff]; simp <;> omega), ((Below.refl _ _).alloc (Nat.le_refl _) _).alloc (by simp) _⟩)
theorem whole_any (b : Board) (a : Option Addr) (c : Nat) (w : World) : Calls Tryz.prog 69 #[.agg #[.string b.name, .string b.species, .int .i64 b.length, .int .i64 b.width, .int .i64 b.thick, .int .i64 b.cut, .int .i64 b.moisture, .slice a b.defects.length c]] w fun e w' => e = .returned (.agg #[.int .i64 0, .int .i64 0, .int .i64 b.length, .int .i64 b.width]) ∧ Below w.heap.size w w' := by
 go_enter Tryz.func69, Tryz.ntmps69
 go_wp2
 exact bodyPost_ret (v := .agg #[.int .i64 0, .int .i64 0, .int .i64 b.length, .int .i64 b.width]) (by simp [results, Tryz.results69, go_sem]) rfl ⟨rfl, ((Below.refl _ _).alloc (Nat.le_refl _) _).alloc (by simp) _⟩
set_option maxHeartbeats 1000000 in
theorem checkRect_any (b : Board) (r : Rect) (a : Option Addr) (c : Nat) (w : World) :
    Calls Tryz.prog 89 #[.agg #[.string b.name, .string b.species, .int .i64 b.length, .int .i64 b.width, .int .i64 b.thick, .int .i64 b.cut, .int .i64 b.moisture, .slice a b.defects.length c], .agg #[.int .i64 r.x1, .int .i64 r.y1, .int .i64 r.x2, .int .i64 r.y2]] w fun e w' => e = .returned (.int .i64 (rectIn b.length b.width r)) ∧ Below w.heap.size w w' := by
 go_enter Tryz.func89, Tryz.ntmps89
 go_wp2
 all_goals (go_ret; exact ⟨ret_int (by go_tidy; (try simp only [Bool.not_eq_eq_eq_not, Bool.not_true, Bool.not_false, Bool.not_eq_true', Bool.not_eq_false', decide_eq_false_iff_not, decide_eq_true_eq, beq_iff_eq, beq_eq_false_iff_ne, bne_iff_ne, ne_eq, bne_eq_false_iff_eq, Bool.and_eq_true, Bool.or_eq_true, Bool.and_eq_false_iff, Bool.or_eq_false_iff, not_true_eq_false, not_false_eq_true, false_and, and_false, or_false, false_or, true_and, and_true, true_or, or_true] at *) <;> unfold rectIn <;> (repeat' split) <;> omega), ((Below.refl _ _).alloc (Nat.le_refl _) _).alloc (by simp) _⟩)
def boardGo (l wd : Int) : List Rect → Int
 | [] => 0
 | r :: rs => if rectIn l wd r ≠ 0 then rectIn l wd r else boardGo l wd rs
def boardErr (b : Board) : Int :=
 if nameB b.name = false ∨ nameB b.species = false then 4
 else if withinB b.length 1 600000 = false ∨ withinB b.width 1 100000 = false ∨ withinB b.thick 1 20000 = false ∨ withinB b.cut 0 1 = false ∨ withinB b.moisture 0 400 = false then 2
 else if 60 < b.defects.length then 8 else boardGo b.length b.width b.defects
theorem boardGo_err {b : Board} {k : Nat} {e : Int} (hk : k < b.defects.length) (h : e = boardGo b.length b.width (b.defects.drop k)) (h1 : (rectIn b.length b.width b.defects[k] != 0) = true) : e = rectIn b.length b.width b.defects[k] := by
 rw [h, List.drop_eq_getElem_cons hk, boardGo, if_pos (by simpa using h1)]
theorem boardGo_next {b : Board} {k : Nat} {e : Int} (hk : k < b.defects.length) (h : e = boardGo b.length b.width (b.defects.drop k)) (h1 : (rectIn b.length b.width b.defects[k] != 0) = false) : e = boardGo b.length b.width (b.defects.drop (k + 1)) := by
 rw [h, List.drop_eq_getElem_cons hk, boardGo, if_neg (by simpa using h1)]
theorem boardGo_end {b : Board} {k : Nat} {e : Int} (hk : b.defects.length ≤ k) (h : e = boardGo b.length b.width (b.defects.drop k)) : e = 0 := by
 rw [h, List.drop_eq_nil_of_le hk]; rfl
set_option maxRecDepth 100000 in
set_option maxHeartbeats 2000000 in
theorem checkBoard_any (b : Board) (a : Option Addr) (c : Nat) (w : World) (hv : Rects.V w a b.defects) (hl : b.defects.length ≤ 9223372036854775807) (hw : b.wf) :
    Calls Tryz.prog 49 #[.agg #[.string b.name, .string b.species, .int .i64 b.length, .int .i64 b.width, .int .i64 b.thick, .int .i64 b.cut, .int .i64 b.moisture, .slice a b.defects.length c]] w fun e w' => e = .returned (.int .i64 (boardErr b)) ∧ Below w.heap.size w w' := by
 obtain ⟨hn1, hn2, -⟩ := hw
 cases h1 : nameB b.name
 ·go_enter Tryz.func49, Tryz.ntmps49
  go_wp2_with (first
   | (go_at_call 87; refine (isName_any _ _ (by assumption)).mono ?_; rintro e w' ⟨rfl, rfl⟩)
   | (go_at_call 88; refine (within_any _ _ _ _).mono ?_; rintro e w' ⟨rfl, rfl⟩))
  go_ret
  exact ⟨ret_int (by go_tidy; simp [boardErr, *]), (Below.refl _ _).alloc (Nat.le_refl _) _⟩
 cases h2 : nameB b.species
 ·go_enter Tryz.func49, Tryz.ntmps49
  go_wp2_with (first
   | (go_at_call 87; refine (isName_any _ _ (by assumption)).mono ?_; rintro e w' ⟨rfl, rfl⟩)
   | (go_at_call 88; refine (within_any _ _ _ _).mono ?_; rintro e w' ⟨rfl, rfl⟩))
  go_ret
  exact ⟨ret_int (by go_tidy; simp [boardErr, *]), (Below.refl _ _).alloc (Nat.le_refl _) _⟩
 cases h3 : withinB b.length 1 600000
 ·go_enter Tryz.func49, Tryz.ntmps49
  go_wp2_with (first
   | (go_at_call 87; refine (isName_any _ _ (by assumption)).mono ?_; rintro e w' ⟨rfl, rfl⟩)
   | (go_at_call 88; refine (within_any _ _ _ _).mono ?_; rintro e w' ⟨rfl, rfl⟩))
  go_ret
  exact ⟨ret_int (by go_tidy; simp [boardErr, *]), (Below.refl _ _).alloc (Nat.le_refl _) _⟩
 cases h4 : withinB b.width 1 100000
 ·go_enter Tryz.func49, Tryz.ntmps49
  go_wp2_with (first
   | (go_at_call 87; refine (isName_any _ _ (by assumption)).mono ?_; rintro e w' ⟨rfl, rfl⟩)
   | (go_at_call 88; refine (within_any _ _ _ _).mono ?_; rintro e w' ⟨rfl, rfl⟩))
  go_ret
  exact ⟨ret_int (by go_tidy; simp [boardErr, *]), (Below.refl _ _).alloc (Nat.le_refl _) _⟩
 cases h5 : withinB b.thick 1 20000
 ·go_enter Tryz.func49, Tryz.ntmps49
  go_wp2_with (first
   | (go_at_call 87; refine (isName_any _ _ (by assumption)).mono ?_; rintro e w' ⟨rfl, rfl⟩)
   | (go_at_call 88; refine (within_any _ _ _ _).mono ?_; rintro e w' ⟨rfl, rfl⟩))
  go_ret
  exact ⟨ret_int (by go_tidy; simp [boardErr, *]), (Below.refl _ _).alloc (Nat.le_refl _) _⟩
 cases h6 : withinB b.cut 0 1
 ·go_enter Tryz.func49, Tryz.ntmps49
  go_wp2_with (first
   | (go_at_call 87; refine (isName_any _ _ (by assumption)).mono ?_; rintro e w' ⟨rfl, rfl⟩)
   | (go_at_call 88; refine (within_any _ _ _ _).mono ?_; rintro e w' ⟨rfl, rfl⟩))
  go_ret
  exact ⟨ret_int (by go_tidy; simp [boardErr, *]), (Below.refl _ _).alloc (Nat.le_refl _) _⟩
 cases h7 : withinB b.moisture 0 400
 ·go_enter Tryz.func49, Tryz.ntmps49
  go_wp2_with (first
   | (go_at_call 87; refine (isName_any _ _ (by assumption)).mono ?_; rintro e w' ⟨rfl, rfl⟩)
   | (go_at_call 88; refine (within_any _ _ _ _).mono ?_; rintro e w' ⟨rfl, rfl⟩))
  go_ret
  exact ⟨ret_int (by go_tidy; simp [boardErr, *]), (Below.refl _ _).alloc (Nat.le_refl _) _⟩
 by_cases h8 : 60 < b.defects.length
 ·go_enter Tryz.func49, Tryz.ntmps49
  go_wp2_with (first
   | (go_at_call 87; refine (isName_any _ _ (by assumption)).mono ?_; rintro e w' ⟨rfl, rfl⟩)
   | (go_at_call 88; refine (within_any _ _ _ _).mono ?_; rintro e w' ⟨rfl, rfl⟩))
  go_ret
  exact ⟨ret_int (by go_tidy; simp [boardErr, *]), (Below.refl _ _).alloc (Nat.le_refl _) _⟩
 have HF := Lib.hid (show boardErr b = boardGo b.length b.width (b.defects.drop 0) by simp [boardErr, h1, h2, h3, h4, h5, h6, h7, h8])
 go_enter Tryz.func49, Tryz.ntmps49
 go_wp2_with (first
  | (go_at_call 87; refine (isName_any _ _ (by assumption)).mono ?_; rintro e w' ⟨rfl, rfl⟩)
  | (go_at_call 88; refine (within_any _ _ _ _).mono ?_; rintro e w' ⟨rfl, rfl⟩))
 clear h1 h2 h3 h4 h5 h6 h7
 go_loopw [46] (fun i wr => ∃ k : Nat, k ≤ b.defects.length ∧ i = .int .i64 k ∧ Hid (boardErr b = boardGo b.length b.width (b.defects.drop k)) ∧ Below (w.heap.size + 1) (w.alloc (.cells #[.string b.name, .string b.species, .int .i64 b.length, .int .i64 b.width, .int .i64 b.thick, .int .i64 b.cut, .int .i64 b.moisture, .slice a b.defects.length c] 52)) wr) (fun i _ => b.defects.length - (intOf i).toNat)
 case atStart => exact ⟨0, Nat.zero_le _, rfl, HF, Below.refl _ _⟩
 case round =>
  clear HF
  obtain ⟨k, hk, rfl, HF, hbw⟩ := hrel
  have hbw0 := ((Below.refl w.heap.size w).alloc (Nat.le_refl _) _).trans (hbw.mono (Nat.le_succ _))
  by_cases hlt : k < b.defects.length
  ·obtain ⟨bk, off, rfl, hat⟩ := (hv.keep hbw0).at_ hlt
   obtain ⟨c0, c1, c2, c3, hwf⟩ := hat
   obtain ⟨hc, hf⟩ := bcellB hbw
   have hsz := hbw.size
   simp at hsz
   have hsz1 : w.heap.size < wr.heap.size := by omega
   go_wp2_with (go_at_call 89; refine (checkRect_any b b.defects[k] _ _ _).mono ?_; rintro e w1 ⟨rfl, hb⟩)
   ·go_ret
    exact ⟨ret_int (boardGo_err hlt HF.out (by assumption)).symm, (hbw0.alloc (by omega) _).trans (hb.mono (by simp; omega))⟩
   ·go_roundw
    case rel => exact ⟨k + 1, by omega, by go_num, Lib.hid (boardGo_next hlt HF.out (by assumption)), (hbw.alloc (by omega) _).trans (hb.mono (by simp; omega))⟩
    case measure => simp [intOf]; omega
  ·have hm := Lib.hid (boardGo_end (by omega) HF.out)
   clear HF
   go_wp2_with fail
   go_ret
   exact ⟨ret_int hm.out.symm, hbw0⟩
theorem rectIn_form {l wd : Int} {r : Rect} (h : (rectErr r != 0) = true) : rectIn l wd r = rectErr r ∧ (rectIn l wd r != 0) = true := by
 unfold rectErr at h ⊢
 unfold rectIn
 split at h
 ·rename_i hc; rw [if_pos hc, if_pos hc]; exact ⟨rfl, rfl⟩
 ·simp at h
theorem rectIn_out {l wd : Int} {r : Rect} (h : (rectErr r != 0) = false) (h' : insideB r ⟨0, 0, l, wd⟩ = false) : rectIn l wd r = 2 ∧ (rectIn l wd r != 0) = true := by
 unfold rectErr at h
 unfold insideB at h'
 unfold rectIn
 split at h
 ·simp at h
 ·rename_i hc
  rw [if_neg hc]
  simp only [Bool.and_eq_false_iff, decide_eq_false_iff_not] at h'
  rw [if_pos (by omega)]; exact ⟨rfl, rfl⟩
theorem rectIn_in {l wd : Int} {r : Rect} (h : (rectErr r != 0) = false) (h' : insideB r ⟨0, 0, l, wd⟩ = true) : (rectIn l wd r != 0) = false := by
 unfold rectErr at h
 unfold insideB at h'
 unfold rectIn
 split at h
 ·simp at h
 ·rename_i hc
  rw [if_neg hc]
  simp only [Bool.and_eq_true, decide_eq_true_eq] at h'
  rw [if_neg (by omega)]; rfl
set_option maxRecDepth 100000 in
set_option maxHeartbeats 2000000 in
theorem refBoardErr_any (b : Board) (a : Option Addr) (c : Nat) (w : World) (hv : Rects.V w a b.defects) (hl : b.defects.length ≤ 9223372036854775807) (hw : b.wf) :
    Calls Tryz.prog 40 #[.agg #[.string b.name, .string b.species, .int .i64 b.length, .int .i64 b.width, .int .i64 b.thick, .int .i64 b.cut, .int .i64 b.moisture, .slice a b.defects.length c]] w fun e w' => e = .returned (.int .i64 (boardErr b)) ∧ Below w.heap.size w w' := by
 obtain ⟨hn1, hn2, -⟩ := hw
 cases h1 : nameB b.name
 ·go_enter Tryz.func40, Tryz.ntmps40
  go_wp2_with (first
   | (go_at_call 66; refine (baseIsName_any _ _ (by assumption)).mono ?_; rintro e w' ⟨rfl, rfl⟩)
   | (go_at_call 16; refine (baseWithin_any _ _ _ _).mono ?_; rintro e w' ⟨rfl, rfl⟩))
  go_ret
  exact ⟨ret_int (by go_tidy; simp [boardErr, *]), (Below.refl _ _).alloc (Nat.le_refl _) _⟩
 cases h2 : nameB b.species
 ·go_enter Tryz.func40, Tryz.ntmps40
  go_wp2_with (first
   | (go_at_call 66; refine (baseIsName_any _ _ (by assumption)).mono ?_; rintro e w' ⟨rfl, rfl⟩)
   | (go_at_call 16; refine (baseWithin_any _ _ _ _).mono ?_; rintro e w' ⟨rfl, rfl⟩))
  go_ret
  exact ⟨ret_int (by go_tidy; simp [boardErr, *]), (Below.refl _ _).alloc (Nat.le_refl _) _⟩
 cases h3 : withinB b.length 1 600000
 ·go_enter Tryz.func40, Tryz.ntmps40
  go_wp2_with (first
   | (go_at_call 66; refine (baseIsName_any _ _ (by assumption)).mono ?_; rintro e w' ⟨rfl, rfl⟩)
   | (go_at_call 16; refine (baseWithin_any _ _ _ _).mono ?_; rintro e w' ⟨rfl, rfl⟩))
  go_ret
  exact ⟨ret_int (by go_tidy; simp [boardErr, *]), (Below.refl _ _).alloc (Nat.le_refl _) _⟩
 cases h4 : withinB b.width 1 100000
 ·go_enter Tryz.func40, Tryz.ntmps40
  go_wp2_with (first
   | (go_at_call 66; refine (baseIsName_any _ _ (by assumption)).mono ?_; rintro e w' ⟨rfl, rfl⟩)
   | (go_at_call 16; refine (baseWithin_any _ _ _ _).mono ?_; rintro e w' ⟨rfl, rfl⟩))
  go_ret
  exact ⟨ret_int (by go_tidy; simp [boardErr, *]), (Below.refl _ _).alloc (Nat.le_refl _) _⟩
 cases h5 : withinB b.thick 1 20000
 ·go_enter Tryz.func40, Tryz.ntmps40
  go_wp2_with (first
   | (go_at_call 66; refine (baseIsName_any _ _ (by assumption)).mono ?_; rintro e w' ⟨rfl, rfl⟩)
   | (go_at_call 16; refine (baseWithin_any _ _ _ _).mono ?_; rintro e w' ⟨rfl, rfl⟩))
  go_ret
  exact ⟨ret_int (by go_tidy; simp [boardErr, *]), (Below.refl _ _).alloc (Nat.le_refl _) _⟩
 cases h6 : withinB b.cut 0 1
 ·go_enter Tryz.func40, Tryz.ntmps40
  go_wp2_with (first
   | (go_at_call 66; refine (baseIsName_any _ _ (by assumption)).mono ?_; rintro e w' ⟨rfl, rfl⟩)
   | (go_at_call 16; refine (baseWithin_any _ _ _ _).mono ?_; rintro e w' ⟨rfl, rfl⟩))
  go_ret
  exact ⟨ret_int (by go_tidy; simp [boardErr, *]), (Below.refl _ _).alloc (Nat.le_refl _) _⟩
 cases h7 : withinB b.moisture 0 400
 ·go_enter Tryz.func40, Tryz.ntmps40
  go_wp2_with (first
   | (go_at_call 66; refine (baseIsName_any _ _ (by assumption)).mono ?_; rintro e w' ⟨rfl, rfl⟩)
   | (go_at_call 16; refine (baseWithin_any _ _ _ _).mono ?_; rintro e w' ⟨rfl, rfl⟩))
  go_ret
  exact ⟨ret_int (by go_tidy; simp [boardErr, *]), (Below.refl _ _).alloc (Nat.le_refl _) _⟩
 by_cases h8 : 60 < b.defects.length
 ·go_enter Tryz.func40, Tryz.ntmps40
  go_wp2_with (first
   | (go_at_call 66; refine (baseIsName_any _ _ (by assumption)).mono ?_; rintro e w' ⟨rfl, rfl⟩)
   | (go_at_call 16; refine (baseWithin_any _ _ _ _).mono ?_; rintro e w' ⟨rfl, rfl⟩))
  go_ret
  exact ⟨ret_int (by go_tidy; simp [boardErr, *]), (Below.refl _ _).alloc (Nat.le_refl _) _⟩
 have HF := Lib.hid (show boardErr b = boardGo b.length b.width (b.defects.drop 0) by simp [boardErr, h1, h2, h3, h4, h5, h6, h7, h8])
 go_enter Tryz.func40, Tryz.ntmps40
 go_wp2_with (first
  | (go_at_call 66; refine (baseIsName_any _ _ (by assumption)).mono ?_; rintro e w' ⟨rfl, rfl⟩)
  | (go_at_call 16; refine (baseWithin_any _ _ _ _).mono ?_; rintro e w' ⟨rfl, rfl⟩))
 clear h1 h2 h3 h4 h5 h6 h7
 go_loopw [3] (fun i wr => ∃ k : Nat, k ≤ b.defects.length ∧ i = .int .i64 k ∧ Hid (boardErr b = boardGo b.length b.width (b.defects.drop k)) ∧ Below (w.heap.size + 1) (w.alloc (.cells #[.string b.name, .string b.species, .int .i64 b.length, .int .i64 b.width, .int .i64 b.thick, .int .i64 b.cut, .int .i64 b.moisture, .slice a b.defects.length c] 52)) wr) (fun i _ => b.defects.length - (intOf i).toNat)
 case atStart => exact ⟨0, Nat.zero_le _, rfl, HF, Below.refl _ _⟩
 case round =>
  clear HF
  obtain ⟨k, hk, rfl, HF, hbw⟩ := hrel
  have hbw0 := ((Below.refl w.heap.size w).alloc (Nat.le_refl _) _).trans (hbw.mono (Nat.le_succ _))
  obtain ⟨hc, hf⟩ := bcellB hbw
  have hsz := hbw.size
  simp at hsz
  have hsz1 : w.heap.size < wr.heap.size := by omega
  by_cases hlt : k < b.defects.length
  ·obtain ⟨bk, off, rfl, hat⟩ := (hv.keep hbw0).at_ hlt
   have hat0 := Lib.hid hat
   obtain ⟨c0, c1, c2, c3, hwf⟩ := hat
   have hki : (k : Int) < (b.defects.length : Int) := by omega
   go_wp2_with (go_at_call 67; refine (rectErr_any b.defects[k] _).mono ?_; rintro e w1 ⟨rfl, hb⟩; have hb1 : Below wr.heap.size wr w1 := hb; clear hb)
   ·go_ret
    have hh := rectIn_form (l := b.length) (wd := b.width) (r := b.defects[k]) (by assumption)
    exact ⟨ret_int (by rw [← hh.1]; exact (boardGo_err hlt HF.out hh.2).symm), hbw0.trans (hb1.mono (by omega))⟩
   ·have c0' := cell_keep hb1 c0
    have c1' := cell_keep hb1 c1
    have c2' := cell_keep hb1 c2
    have c3' := cell_keep hb1 c3
    have hbk := block_lt_of_cell c0'
    simp only at hbk
    have hbw1 := hbw.trans (hb1.mono (by omega))
    clear hc hf c0 c1 c2 c3
    obtain ⟨hc, hf⟩ := bcellB hbw1
    have hsz2 := hb1.size
    have hsz3 : w.heap.size < w1.heap.size := by omega
    refine wp_region_grew (by kernel_rfl) (by kernel_rfl) ?_
    repeat (first
     | go_big_quiet_step (first
      | (go_at_call 69; exact grew_of (whole_any b _ _ _))
      | (go_at_call 68; exact grew_of (inside_any b.defects[k] ⟨0, 0, b.length, b.width⟩ _)))
     | quiet_step (first
      | (go_at_call 69; exact grew_of (whole_any b _ _ _))
      | (go_at_call 68; exact grew_of (inside_any b.defects[k] ⟨0, 0, b.length, b.width⟩ _))))
    refine wpQuiet_nil ?_
    rintro _ ⟨g, rfl⟩
    cases hq : insideB b.defects[k] ⟨0, 0, b.length, b.width⟩
    ·go_wp2
     go_ret
     have hh := rectIn_out (by assumption) hq
     exact ⟨ret_int (by rw [← hh.1]; exact (boardGo_err hlt HF.out hh.2).symm), grewB (hbw0.trans (hb1.mono (by omega))) (by omega) _⟩
    ·go_wp2
     go_roundw
     case rel => exact ⟨k + 1, by omega, by go_num, Lib.hid (boardGo_next hlt HF.out (rectIn_in (by assumption) hq)), grewB hbw1 (by omega) _⟩
     case measure => simp [intOf]; omega
  ·have hm := Lib.hid (boardGo_end (by omega) HF.out)
   clear HF
   go_wp2_with fail
   go_ret
   exact ⟨ret_int hm.out.symm, hbw0⟩
def overlapsB (a b : Rect) : Bool := decide (a.x1 < b.x2) && decide (b.x1 < a.x2) && decide (a.y1 < b.y2) && decide (b.y1 < a.y2)
def soundB (ds : List Rect) (r : Rect) : Bool := !ds.any fun d => overlapsB d r
set_option maxHeartbeats 2000000 in
theorem refOverlaps_any (r s : Rect) (w : World) : Calls Tryz.prog 37 #[.agg #[.int .i64 r.x1, .int .i64 r.y1, .int .i64 r.x2, .int .i64 r.y2], .agg #[.int .i64 s.x1, .int .i64 s.y1, .int .i64 s.x2, .int .i64 s.y2]] w fun e w' => e = .returned (.bool (overlapsB r s)) ∧ Below w.heap.size w w' := by
 unfold overlapsB
 go_enter Tryz.func37, Tryz.ntmps37
 go_wp2
 all_goals (go_ret; exact ⟨ret_bool (by go_tidy; rw [Bool.eq_iff_iff]; simp <;> omega), ((Below.refl _ _).alloc (Nat.le_refl _) _).alloc (by simp) _⟩)
theorem sound_step {ds : List Rect} {r : Rect} {k : Nat} (hk : k < ds.length) (h : soundB ds r = soundB (ds.drop k) r) (h1 : overlapsB ds[k] r = false) : soundB ds r = soundB (ds.drop (k + 1)) r := by
 rw [h]
 unfold soundB
 rw [List.drop_eq_getElem_cons hk, List.any_cons, h1, Bool.false_or]
theorem sound_no {ds : List Rect} {r : Rect} {k : Nat} (hk : k < ds.length) (h1 : overlapsB ds[k] r = true) : soundB ds r = false := by
 unfold soundB
 rw [Bool.not_eq_false']
 exact List.any_eq_true.2 ⟨_, List.getElem_mem hk, h1⟩
set_option maxRecDepth 100000 in
set_option maxHeartbeats 2000000 in
theorem isSound_any (b : Board) (r : Rect) (a : Option Addr) (c : Nat) (w : World) (hv : Rects.V w a b.defects) (hl : b.defects.length ≤ 9223372036854775807) :
    Calls Tryz.prog 64 #[.agg #[.string b.name, .string b.species, .int .i64 b.length, .int .i64 b.width, .int .i64 b.thick, .int .i64 b.cut, .int .i64 b.moisture, .slice a b.defects.length c], .agg #[.int .i64 r.x1, .int .i64 r.y1, .int .i64 r.x2, .int .i64 r.y2]] w fun e w' => e = .returned (.bool (soundB b.defects r)) ∧ Below w.heap.size w w' := by
 go_enter Tryz.func64, Tryz.ntmps64
 go_upto_region 1 with fail
 refine gen_world (fun W => W.cell? ⟨w.heap.size, 7, none⟩ = some (.slice a b.defects.length c) ∧ W.cell? ⟨w.heap.size + 1, 0, none⟩ = some (.int .i64 r.x1) ∧ W.cell? ⟨w.heap.size + 1, 1, none⟩ = some (.int .i64 r.y1) ∧ W.cell? ⟨w.heap.size + 1, 2, none⟩ = some (.int .i64 r.x2) ∧ W.cell? ⟨w.heap.size + 1, 3, none⟩ = some (.int .i64 r.y2) ∧ Below w.heap.size w W) ?_ ?_
 ·exact ⟨by simp [go_sem], by simp [go_sem], by simp [go_sem], by simp [go_sem], by simp [go_sem], ((Below.refl _ _).alloc (Nat.le_refl _) _).alloc (by simp) _⟩
 rintro W ⟨e7, r0, r1, r2, r3, hbW⟩
 have hz0 := block_lt_of_cell e7
 have hz1 := block_lt_of_cell r0
 simp only at hz0 hz1
 go_wp2_with fail
 go_loopw [5] (fun i wr => ∃ k : Nat, k ≤ b.defects.length ∧ i = .int .i64 k ∧ Hid (soundB b.defects r = soundB (b.defects.drop k) r) ∧ Below W.heap.size W wr) (fun i _ => b.defects.length - (intOf i).toNat)
 case atStart => exact ⟨0, Nat.zero_le _, rfl, Lib.hid (by simp), Below.refl _ _⟩
 case round =>
  obtain ⟨k, hk, rfl, HF, hbw⟩ := hrel
  have hbw0 := hbW.trans (hbw.mono hbW.size)
  have f7 := cell_keep hbw e7
  have q0 := cell_keep hbw r0
  have q1 := cell_keep hbw r1
  have q2 := cell_keep hbw r2
  have q3 := cell_keep hbw r3
  have hsz := hbw.size
  have hz2 : w.heap.size < wr.heap.size := by omega
  have hz3 : w.heap.size + 1 < wr.heap.size := by omega
  by_cases hlt : k < b.defects.length
  ·obtain ⟨bk, off, rfl, hat⟩ := (hv.keep hbw0).at_ hlt
   obtain ⟨c0, c1, c2, c3, -⟩ := hat
   have hbk := block_lt_of_cell c0
   simp only at hbk
   have hki : (k : Int) < (b.defects.length : Int) := by omega
   have HOV := Lib.hid (fun h => sound_step (r := r) hlt HF.out h)
   have HNO := Lib.hid (fun h => sound_no (r := r) hlt h)
   generalize hd0 : b.defects[k] = d at *
   clear hd0 HF
   go_wp2_with fail
   refine wp_region_grew (by kernel_rfl) (by kernel_rfl) ?_
   repeat (first
    | go_big_quiet_step ((go_at_call 37; exact grew_of (refOverlaps_any d r _)))
    | quiet_step ((go_at_call 37; exact grew_of (refOverlaps_any d r _))))
   refine wpQuiet_nil ?_
   rintro _ ⟨g, rfl⟩
   cases hq : overlapsB d r
   ·go_wp2_with fail
    go_roundw
    case rel => exact ⟨k + 1, by omega, by go_num, Lib.hid (HOV.out hq), grewB hbw (by omega) _⟩
    case measure => simp [intOf]; omega
   ·go_wp2_with fail
    go_ret
    exact ⟨ret_bool (by go_tidy; rw [HNO.out hq]), grewB hbw0 (by omega) _⟩
  ·have hm := Lib.hid (show soundB b.defects r = true by rw [HF.out, List.drop_of_length_le (by omega)]; rfl)
   clear HF
   go_wp2_with fail
   go_ret
   exact ⟨ret_bool (by go_tidy; rw [hm.out]), hbw0⟩
def blankErr (x : Blank) : Int :=
 if nameB x.name = false ∨ nameB x.species = false then 4
 else if withinB x.length 1 600000 = false ∨ withinB x.width 1 600000 = false ∨ withinB x.thick 1 600000 = false ∨ withinB x.count 1 200 = false then 2 else 0
set_option maxHeartbeats 2000000 in
theorem blankErr_any (x : Blank) (w : World) (hw : x.wf) :
    Calls Tryz.prog 70 #[.agg #[.string x.name, .string x.species, .int .i64 x.length, .int .i64 x.width, .int .i64 x.thick, .int .i64 x.count]] w fun e w' => e = .returned (.int .i64 (blankErr x)) ∧ Below w.heap.size w w' := by
 obtain ⟨hn1, hn2, -⟩ := hw
 cases h1 : nameB x.name
 ·go_enter Tryz.func70, Tryz.ntmps70
  go_wp2_with (first
   | (go_at_call 66; refine (baseIsName_any _ _ (by assumption)).mono ?_; rintro e w' ⟨rfl, rfl⟩)
   | (go_at_call 16; refine (baseWithin_any _ _ _ _).mono ?_; rintro e w' ⟨rfl, rfl⟩))
  go_ret
  exact ⟨ret_int (by go_tidy; simp [blankErr, *]), (Below.refl _ _).alloc (Nat.le_refl _) _⟩
 cases h2 : nameB x.species
 ·go_enter Tryz.func70, Tryz.ntmps70
  go_wp2_with (first
   | (go_at_call 66; refine (baseIsName_any _ _ (by assumption)).mono ?_; rintro e w' ⟨rfl, rfl⟩)
   | (go_at_call 16; refine (baseWithin_any _ _ _ _).mono ?_; rintro e w' ⟨rfl, rfl⟩))
  go_ret
  exact ⟨ret_int (by go_tidy; simp [blankErr, *]), (Below.refl _ _).alloc (Nat.le_refl _) _⟩
 cases h3 : withinB x.length 1 600000
 ·go_enter Tryz.func70, Tryz.ntmps70
  go_wp2_with (first
   | (go_at_call 66; refine (baseIsName_any _ _ (by assumption)).mono ?_; rintro e w' ⟨rfl, rfl⟩)
   | (go_at_call 16; refine (baseWithin_any _ _ _ _).mono ?_; rintro e w' ⟨rfl, rfl⟩))
  go_ret
  exact ⟨ret_int (by go_tidy; simp [blankErr, *]), (Below.refl _ _).alloc (Nat.le_refl _) _⟩
 cases h4 : withinB x.width 1 600000
 ·go_enter Tryz.func70, Tryz.ntmps70
  go_wp2_with (first
   | (go_at_call 66; refine (baseIsName_any _ _ (by assumption)).mono ?_; rintro e w' ⟨rfl, rfl⟩)
   | (go_at_call 16; refine (baseWithin_any _ _ _ _).mono ?_; rintro e w' ⟨rfl, rfl⟩))
  go_ret
  exact ⟨ret_int (by go_tidy; simp [blankErr, *]), (Below.refl _ _).alloc (Nat.le_refl _) _⟩
 cases h5 : withinB x.thick 1 600000
 ·go_enter Tryz.func70, Tryz.ntmps70
  go_wp2_with (first
   | (go_at_call 66; refine (baseIsName_any _ _ (by assumption)).mono ?_; rintro e w' ⟨rfl, rfl⟩)
   | (go_at_call 16; refine (baseWithin_any _ _ _ _).mono ?_; rintro e w' ⟨rfl, rfl⟩))
  go_ret
  exact ⟨ret_int (by go_tidy; simp [blankErr, *]), (Below.refl _ _).alloc (Nat.le_refl _) _⟩
 cases h6 : withinB x.count 1 200
 ·go_enter Tryz.func70, Tryz.ntmps70
  go_wp2_with (first
   | (go_at_call 66; refine (baseIsName_any _ _ (by assumption)).mono ?_; rintro e w' ⟨rfl, rfl⟩)
   | (go_at_call 16; refine (baseWithin_any _ _ _ _).mono ?_; rintro e w' ⟨rfl, rfl⟩))
  go_ret
  exact ⟨ret_int (by go_tidy; simp [blankErr, *]), (Below.refl _ _).alloc (Nat.le_refl _) _⟩
 ·go_enter Tryz.func70, Tryz.ntmps70
  go_wp2_with (first
   | (go_at_call 66; refine (baseIsName_any _ _ (by assumption)).mono ?_; rintro e w' ⟨rfl, rfl⟩)
   | (go_at_call 16; refine (baseWithin_any _ _ _ _).mono ?_; rintro e w' ⟨rfl, rfl⟩))
  go_ret
  exact ⟨ret_int (by go_tidy; simp [blankErr, *]), (Below.refl _ _).alloc (Nat.le_refl _) _⟩
end Go.Proofs.YtjmgboipbhddlaaGreatDoor
