/- Names, ranges, sets of texts: what chapter 8 shares with chapter 2. -/
import Derived.Test.YtpaindkfbgoogaaGreatNames2
import Derived.Test.YtpaindkfbgoogaaGreatData8
import Derived.Test.YtpaindkfbgoogaaGreatGrew
import Derived.LoopN
import Derived.Maps.Own
import Derived.Maps.OwnOps
import Derived.Maps.Views
set_option linter.unusedVariables false
set_option linter.unusedSimpArgs false
namespace Go.Proofs.YtpaindkfbgoogaaGreat
open Go Go.RowKit Go.Maps Go.WideMaps

theorem rounds_step {P : Program} {c : Code} {Q : Exit → Act → World → Prop} {n : Nat} {a : Act} {w : World} (h : c.wp P (Exit.then (Code.rounds P c Q n) Q) a w) : Code.rounds P c Q (n + 1) a w := h
def withinB (n lo hi : Int) : Bool := decide (lo ≤ n) && decide (n ≤ hi)
theorem ret_int {a b : Int} (h : a = b) : Ending.returned (.int .i64 a) = .returned (.int .i64 b) := by rw [h]
theorem within_any (n lo hi : Int) (w : World) : Calls Tryz.prog 136 #[.int .i64 n, .int .i64 lo, .int .i64 hi] w fun e w' => e = .returned (.bool (withinB n lo hi)) ∧ w = w' := by
  unfold withinB
  go_enter Tryz.func136, Tryz.ntmps136
  go_wp2
  all_goals (go_ret; exact ⟨ret_bool (by rw [Bool.eq_iff_iff]; simp <;> omega), rfl⟩)
theorem baseWithin_any (n lo hi : Int) (w : World) : Calls Tryz.prog 42 #[.int .i64 n, .int .i64 lo, .int .i64 hi] w fun e w' => e = .returned (.bool (withinB n lo hi)) ∧ w = w' := by
  unfold withinB
  go_enter Tryz.func42, Tryz.ntmps42
  go_wp2
  all_goals (go_ret; exact ⟨ret_bool (by rw [Bool.eq_iff_iff]; simp <;> omega), rfl⟩)
theorem cwithin_any (n lo hi : Int) (w : World) : Calls Tryz.prog 25 #[.int .i64 n, .int .i64 lo, .int .i64 hi] w fun e w' => e = .returned (.bool (withinB n lo hi)) ∧ w = w' := by
  unfold withinB
  go_enter Tryz.func25, Tryz.ntmps25
  go_wp2
  all_goals (go_ret; exact ⟨ret_bool (by rw [Bool.eq_iff_iff]; simp <;> omega), rfl⟩)
theorem bcell {W w1 : World} (hb : Below W.heap.size W w1) : (∀ b o, b < W.heap.size → w1.cell? ⟨b, o, none⟩ = W.cell? ⟨b, o, none⟩) ∧ (∀ b o, b < W.heap.size → w1.frozen? ⟨b, o, none⟩ = W.frozen? ⟨b, o, none⟩) :=
  ⟨fun b o h => hb.cell (p := ⟨b, o, none⟩) h, fun b o h => hb.frozen (p := ⟨b, o, none⟩) h⟩
/-- The first place at which a list has what is sought, or -1. -/
def idxOf {α : Type} (p : α → Bool) (l : List α) : Int := match l.findIdx? p with | some i => (i : Int) | none => -1
theorem idxOf_hit {α : Type} {p : α → Bool} {l : List α} {k : Nat} (hk : k < l.length) (h : ∀ j (hj : j < l.length), j < k → p l[j] = false) (hp : p l[k] = true) : idxOf p l = k := by
  have : l.findIdx? p = some k := by
    rw [List.findIdx?_eq_some_iff_getElem]
    exact ⟨hk, hp, fun j hj => by rw [h j (by omega) hj]; decide⟩
  unfold idxOf; rw [this]
theorem idxOf_miss {α : Type} {p : α → Bool} {l : List α} (h : ∀ j (hj : j < l.length), p l[j] = false) : idxOf p l = -1 := by
  have : l.findIdx? p = none := by
    rw [List.findIdx?_eq_none_iff]
    intro x hx
    obtain ⟨j, hj, rfl⟩ := List.mem_iff_getElem.1 hx
    exact h j hj
  unfold idxOf; rw [this]
theorem none_step {α : Type} {p : α → Bool} {l : List α} {k : Nat} (h : ∀ j (hj : j < l.length), j < k → p l[j] = false) (hk : k < l.length) (hp : p l[k] = false) : ∀ j (hj : j < l.length), j < k + 1 → p l[j] = false := by
  intro j hj hlt
  rcases Nat.lt_succ_iff_lt_or_eq.1 hlt with h' | rfl
  · exact h j hj h'
  · exact hp
def Seen (w : World) (bm n : Nat) (names : List ByteArray) : Prop :=
  ∃ D : DataW Unit, w.ownsMap Tryz.prog 9 (plainElem Tryz.prog 4) bm n D ∧ IsMap D ∧
    ∀ s : ByteArray, D.atKey (.string s.data.toList) (.lit (.bool false)) = .lit (.bool (names.any fun t => s.toList == t.toList))
theorem str_keyed : Keyed Tryz.prog 9 := string_keyed Tryz.underlying9
theorem zero_bool (w : World) : (zeroValue 4).run Tryz.prog w = .ok (.bool false) w := by kernel_rfl
theorem Seen.made (w : World) : Seen (w.alloc (.map #[] 0)) w.heap.size 0 [] :=
  ⟨.map [], World.ownsMap_made _ _ _ _, isMap_empty, fun s => rfl⟩
theorem Seen.below {w w' : World} {bm n : Nat} {names : List ByteArray} (h : Seen w bm n names) (hb : Below w.heap.size w w') : Seen w' bm n names := by
  obtain ⟨D, ho, hm, hk⟩ := h
  exact ⟨D, ho.kept (row := none) ⟨hb.os, hb.tape, hb.output, hb.size, fun k hk _ => hb.block k hk⟩ (by simp), hm, hk⟩
theorem plainElem_bool_inv {P : Program} {e : TypeId} (he : P.underlying e = some .bool) {v : Value} {b : Bool} {ps : List MemPlace} (h : plainElem (H := Unit) P e v = some (.lit (.bool b), ps)) : v = .bool b := by
  unfold plainElem at h
  rw [he] at h
  cases v <;> simp at h
  rw [h.1]
theorem Seen.run {w : World} {bm n : Nat} {names : List ByteArray} (h : Seen w bm n names) (s : ByteArray) (hs : s.size ≤ 9223372036854775807) :
    (Instr.lookup 101 (.map (some bm)) (.string s) false).run Tryz.prog w = .ok (.bool (names.any fun t => s.toList == t.toList)) w := by
  obtain ⟨D, ho, hm, hk⟩ := h
  obtain ⟨v, ps, hr, hv⟩ := ho.lookup str_keyed Tryz.underlying101 (zero_bool w) (plainElem_bool Tryz.underlying4 false) (keyOf_string_mk Tryz.underlying9 hs)
  rw [hk s] at hv
  rw [hr, plainElem_bool_inv Tryz.underlying4 hv]
theorem wpList_seen {w : World} {ops : Array Oper} {rest : List Oper} {o : Oper} {a : Act} {Q : Exit → Act → World → Prop}
    (hg : o.guard = none) (m x v : Operand) (hop : o.op = Op.mapUpdate 101 m x v) (bm n : Nat) (names : List ByteArray) (s : ByteArray) (hs : s.size ≤ 9223372036854775807) (hn : n < 9223372036854775807)
    (hm : a.eval m = .map (some bm)) (hx : a.eval x = .string s) (hv : a.eval v = .bool true) (h : Seen w bm n names)
    (hK : ∀ w', Seen w' bm (n + 1) (names ++ [s]) → w.grownBy w' (some bm) → wpList Tryz.prog ops Q rest (a.put o.dst undef) w') :
    wpList Tryz.prog ops Q (o :: rest) a w := by
  obtain ⟨D, ho, him, hk⟩ := h
  refine wpList_mapUpdate_own w hg m x v _ hop _ _ str_keyed Tryz.underlying101 _ bm n D hm ho hn _ _ (.string s.data.toList) hx hv (keyOf_string_mk Tryz.underlying9 hs) (.lit (.bool true)) []
    (plainElem_bool Tryz.underlying4 true) ?_
  intro w' ho' hgr
  refine hK w' ⟨_, ho', him.put _ _, fun t => ?_⟩ hgr
  by_cases ht : t.data.toList = s.data.toList
  · rw [ht, atKey_put_same him (by simp [WideAt.IsKeyLit])]
    simp [ByteArray.toList_eq, ht]
  · rw [atKey_put_other (by simpa using ht), hk t]
    simp [ByteArray.toList_eq]
    intro h
    exact absurd (by rw [h]) ht
theorem take_map_step {α β : Type} (f : α → β) {l : List α} {k : Nat} (hk : k < l.length) : (l.map f).take (k + 1) = (l.map f).take k ++ [f l[k]] := by
  rw [List.take_succ_eq_append_getElem (by simpa using hk)]; simp
theorem quiet_left {P : Program} {f : FuncId} {args : Array Value} {w : World} {n : Nat} {v : Value}
    (h : Calls P f args (w.drewN n) fun e w' => e = .returned v ∧ w.drewN n = w') : Calls P f args (w.drewN n) fun e w'' => e = .returned v ∧ ∃ m, w'' = w.drewN m :=
  h.mono fun _ _ ⟨he, hm⟩ => ⟨he, n, hm.symm⟩
theorem below_drewN {B : Nat} {a w : World} (h : Below B a w) (n : Nat) : Below B a (w.drewN n) := ⟨h.os, h.tape, h.output, h.size, h.block⟩
/-- A slice of numbers, in whatever memory. -/
def IntsV (w : World) (a : Option Addr) (l : List Int) : Prop := l ≠ [] → ∃ b off, a = some ⟨b, off, none⟩ ∧ ∀ k x, l[k]? = some x → w.cell? ⟨b, off + k, none⟩ = some (.int .i64 x)
theorem gen_world {P : Program} {c : Code} {Q : Exit → Act → World → Prop} {a : Act} {w : World} (R : World → Prop) (h : R w) (k : ∀ W, R W → c.wp P Q a W) : c.wp P Q a w := k w h
theorem withinB_true {n lo hi : Int} (h : withinB n lo hi = true) : lo ≤ n ∧ n ≤ hi := by simpa [withinB] using h
theorem own_base {w : World} {base e size n : Nat} {v : Value} {xs : List Value} (h : w.ownsRow base e size v n xs) {j : Nat} (hj : v.ownBlock = some j) : base ≤ j := by
  rcases h.2 with ⟨rfl, _⟩ | ⟨g, cap, cur, rfl, hb, _⟩
  · cases hj
  · simp only [Value.ownBlock, Option.some.injEq] at hj
    omega
theorem addr_add (b o j : Nat) : (⟨b, o, none⟩ : Addr).add j = ⟨b, o + j, none⟩ := by unfold Addr.add; split <;> simp_all
theorem news_of (cs : List Value) (T : TypeId) (w : World) (g : Nat) (hg : g = w.heap.size) : ∀ j u, cs[j]? = some u → (w.alloc (.cells cs.toArray T)).cell? ((⟨g, 0, none⟩ : Addr).add j) = some u := by
  subst hg
  intro j u hj
  rw [addr_add, Nat.zero_add]
  unfold World.cell?
  rw [show (w.alloc (.cells cs.toArray T)).heap[w.heap.size]? = some (.cells cs.toArray T) from heap_alloc_new w _]
  simpa using hj
theorem own_block_lt {w : World} {base e k n : Nat} {v : Value} {xs : List Value} (h : w.ownsRow base e k v n xs) {j : Nat} (hj : v.ownBlock = some j) : j < w.heap.size := (h.lt j hj).2
/-- The first cells of a row of the call's own, as numbers. -/
theorem own_ints {w : World} {base e g n cap : Nat} {l r : List Int} (h : w.ownsRow base e 1 (.slice (some ⟨g, 0, none⟩) n cap) n ((l ++ r).map (Value.int .i64))) : IntsV w (some ⟨g, 0, none⟩) l := by
  refine fun _ => ⟨g, 0, rfl, fun k x hk => ?_⟩
  have := h.cells (g := g) rfl k (.int .i64 x) (by rw [List.getElem?_map, List.getElem?_append_left (List.getElem?_eq_some_iff.1 hk).1, hk]; rfl)
  have e1 : (⟨g, 0, none⟩ : Addr).add k = ⟨g, 0 + k, none⟩ := by unfold Addr.add; split <;> simp_all
  rw [e1] at this; exact this
theorem own_ints' {w : World} {base e n : Nat} {v : Value} {l : List Int} (h : w.ownsRow base e 1 v n (l.map (Value.int .i64))) : ∃ a' c', v = .slice a' n c' ∧ IntsV w a' l := by
  rcases h.2 with ⟨rfl, h0⟩ | ⟨g, cap, cur, rfl, hb, hblk, r⟩
  · have hl := h.1
    subst h0
    have : l = [] := by simpa using hl
    subst this
    exact ⟨none, 0, rfl, fun hn => absurd rfl hn⟩
  · exact ⟨_, _, rfl, own_ints (r := []) (by simpa using h)⟩
theorem own_keep {w w' : World} {base e size n : Nat} {v : Value} {xs : List Value} (h : w.ownsRow base e size v n xs) (hb : Below w.heap.size w w') : w'.ownsRow base e size v n xs := by
  refine ⟨h.1, ?_⟩
  rcases h.2 with h0 | ⟨g, cap, cur, rfl, hbg, hblk, r⟩
  · exact .inl h0
  · exact .inr ⟨g, cap, cur, rfl, hbg, (hb.block g (Array.getElem?_eq_some_iff.1 hblk).1).trans hblk, r⟩
end Go.Proofs.YtpaindkfbgoogaaGreat
