import Derived.WalkKit
import Derived.Below
import Derived.Laws.AppendOwn
import Derived.OwnWalk
set_option linter.unusedVariables false
set_option linter.unusedSimpArgs false
namespace Go.Proofs.YtjmgboipbhddlaaGreatDoor
open Go Go.RowKit

theorem cell_set_ne {w : World} {a b : Addr} {u : Value} (h : a ≠ b) (ha : a.spot = none) (hb : b.spot = none) : (w.setCell a u).cell? b = w.cell? b := by
 obtain ⟨ab, ao, asp⟩ := a
 obtain ⟨bb, bo, bsp⟩ := b
 simp only at ha hb
 subst ha hb
 unfold World.cell? World.setCell
 simp only [Array.getElem?_modify]
 by_cases he : ab = bb
 ·subst he
  have hne : ao ≠ bo := fun e => h (by rw [e])
  rw [if_pos rfl]
  cases hw : w.heap[ab]? with
  | none => simp
  | some o =>
   cases o <;> simp [Array.getElem?_setIfInBounds, hne]
 ·rw [if_neg he]
theorem cell_set_same {w : World} {a : Addr} {u : Value} (h : (w.cell? a).isSome = true) : (w.setCell a u).cell? a = some u := by
 unfold World.cell? at h ⊢
 unfold World.setCell
 simp only [Array.getElem?_modify, if_true]
 cases hw : w.heap[a.block]? with
 | none => simp [hw] at h
 | some o =>
  cases o with
  | cells c t f =>
   simp only [hw] at h
   simp only [Option.map_some]
   split at h
   ·simp at h
   ·rename_i hs
    simp only [hs, if_false, Bool.false_eq_true]
    rw [Array.getElem?_setIfInBounds]
    have : a.off < c.size := by
     rcases Nat.lt_or_ge a.off c.size with h' | h'
     ·exact h'
     ·rw [Array.getElem?_eq_none h'] at h; simp at h
    simp [this]
  | _ => simp [hw] at h
theorem frozen_set {w : World} {a b : Addr} {u : Value} : (w.setCell a u).frozen? b = w.frozen? b := by
 unfold World.frozen? World.setCell
 simp only [Array.getElem?_modify]
 by_cases he : a.block = b.block
 ·rw [if_pos he]
  cases hw : w.heap[b.block]? with
  | none => simp
  | some o => cases o <;> simp
 ·rw [if_neg he]
theorem size_set {w : World} {a : Addr} {u : Value} : (w.setCell a u).heap.size = w.heap.size := by simp [World.setCell]
theorem grownBy_set {w : World} {a : Addr} {u : Value} : w.grownBy (w.setCell a u) (some a.block) :=
 ⟨rfl, rfl, rfl, by rw [size_set]; exact Nat.le_refl _, fun k _ hk => Below.heap_setCell _ _ _ _ (fun e => hk (by rw [e]))⟩
theorem grownBy_below {w w' : World} (h : Below w.heap.size w w') (row : Option Nat) : w.grownBy w' row := ⟨h.os, h.tape, h.output, h.size, fun k hk _ => h.block k hk⟩

section
variable {P : Program} (w : World)
theorem run_append_here (base : Nat) (t ty e : TypeId) (i : TypeInfo) (z : Value) (size bytes : Nat) (ht : P.underlying t = some (.slice e)) (hi : P.info? e = some i) (hz : i.zero = some z)
    (hsize : i.size = size) (hby : i.bytes = bytes) (hzs : z.cells.size = size) (hsz : 0 < size)
    (v : Value) (n : Nat) (xs : List Value) (hown : w.ownsRow base e size v n xs)
    (a : Addr) (m c : Nat) (news : List Value) (hl : news.length = m * size) (hnews : ∀ j u, news[j]? = some u → w.cell? (a.add j) = some u) (h1 : ∀ u ∈ news, u.oneCell' = true) (hm : 0 < m)
    (h63 : n + m ≤ maxLen) (hbytes : (n + m) * bytes ≤ 140737488355328) (hbase : base ≤ w.heap.size) :
    ∃ v' w', (Builtin.append_ #[t, t] ty #[v, .slice (some a) m c]).run P w = .ok v' w' ∧ w'.ownsRow base e size v' (n + m) (xs ++ news) ∧ w.grownBy w' v.ownBlock ∧
     (v'.ownBlock = v.ownBlock ∨ v'.ownBlock = some w.heap.size) := by
 obtain ⟨v', w', hr, h2, h3, h4⟩ := run_append_own (P := P) w base t ty e i z size bytes ht hi hz hsize hby hzs hsz v n xs hown a m c news hl hnews h1 h63 hbytes hbase
 refine ⟨v', w', hr, h2, h3, ?_⟩
 subst hsize
 subst hby
 rcases hown.2 with ⟨rfl, rfl⟩ | ⟨g, cap, cur, rfl, hbg, hg, hnc, hcm, hcs, htake⟩
 ·have hr' := run_append_nil (P := P) w t ty e i z ht hi hz a m c news hl hnews hm (by simp only [maxLen] at h63; omega) (by simp only [Nat.zero_add] at hbytes; omega)
  rw [hr'] at hr
  injection hr with e1 e2
  rw [← e1]; exact .inr rfl
 ·by_cases hroom : n + m ≤ cap
  ·have hfit : n * i.size + news.length ≤ cur.size := by rw [hl, hcs, ← Nat.add_mul]; exact Nat.mul_le_mul_right _ hroom
   have hr' := run_append_room (P := P) w t ty e i ht hi g n cap cur hg a m c news hl hnews h1 hroom hfit
   rw [hr'] at hr
   injection hr with e1 e2
   rw [← e1]; exact .inl rfl
  ·have holds : ∀ j u, xs[j]? = some u → w.cell? ((⟨g, 0, none⟩ : Addr).add j) = some u := hown.cells (g := g) rfl
   have hr' := run_append_grow (P := P) w t ty e i z ht hi hz ⟨g, 0, none⟩ n cap xs hown.1 holds a m c news hl hnews (by omega) (by simp only [maxLen] at h63; omega) (growslice_fits (by omega) hbytes)
   rw [hr'] at hr
   injection hr with e1 e2
   rw [← e1]; exact .inr rfl
theorem wp_append_here {o : Oper} {a : Act} {K : Act → World → Prop} {Q : Exit → Act → World → Prop} (s x : Operand) (t : TypeId)
    (ho : o.op = .call { callee := .builtin .append, args := #[s, x], argTypes := #[t, t] })
    (base : Nat) (e : TypeId) (i : TypeInfo) (z : Value) (size bytes : Nat) (ht : P.underlying t = some (.slice e)) (hi : P.info? e = some i) (hz : i.zero = some z)
    (hsize : i.size = size) (hby : i.bytes = bytes) (hzs : z.cells.size = size) (hsz : 0 < size)
    (v : Value) (n : Nat) (xs : List Value) (hs : a.eval s = v) (hown : w.ownsRow base e size v n xs)
    (ad : Addr) (m c : Nat) (news : List Value) (hx : a.eval x = .slice (some ad) m c) (hl : news.length = m * size) (hnews : ∀ j u, news[j]? = some u → w.cell? (ad.add j) = some u) (h1 : ∀ u ∈ news, u.oneCell' = true) (hm : 0 < m)
    (h63 : n + m ≤ maxLen) (hbytes : (n + m) * bytes ≤ 140737488355328) (hbase : base ≤ w.heap.size)
    (h : ∀ v' w', w'.ownsRow base e size v' (n + m) (xs ++ news) → w.grownBy w' v.ownBlock → (v'.ownBlock = v.ownBlock ∨ v'.ownBlock = some w.heap.size) → K (a.put o.dst v') w') : o.wp P a w K Q := by
 obtain ⟨v', w', hr, h2, h3, h4⟩ := run_append_here (P := P) w base t o.type e i z size bytes ht hi hz hsize hby hzs hsz v n xs hown ad m c news hl hnews h1 hm h63 hbytes hbase
 unfold Oper.wp execOp
 simp only [ho, resolve, invoke, builtin, Sem.run_bind, Sem.run_pure, Result.andThen_ok, List.map_toArray, List.map_cons, List.map_nil, hs, hx, hr]
 exact h v' w' h2 h3 h4
theorem wpList_append_here {ops : Array Oper} {rest : List Oper} {o : Oper} {a : Act} {Q : Exit → Act → World → Prop} (hgd : o.guard = none) (s x : Operand) (t : TypeId)
    (ho : o.op = .call { callee := .builtin .append, args := #[s, x], argTypes := #[t, t] })
    (base : Nat) (e : TypeId) (i : TypeInfo) (z : Value) (size bytes : Nat) (ht : P.underlying t = some (.slice e)) (hi : P.info? e = some i) (hz : i.zero = some z)
    (hsize : i.size = size) (hby : i.bytes = bytes) (hzs : z.cells.size = size) (hsz : 0 < size)
    (v : Value) (n : Nat) (xs : List Value) (hs : a.eval s = v) (hown : w.ownsRow base e size v n xs)
    (ad : Addr) (m c : Nat) (news : List Value) (hx : a.eval x = .slice (some ad) m c) (hl : news.length = m * size) (hnews : ∀ j u, news[j]? = some u → w.cell? (ad.add j) = some u) (h1 : ∀ u ∈ news, u.oneCell' = true) (hm : 0 < m)
    (h63 : n + m ≤ maxLen) (hbytes : (n + m) * bytes ≤ 140737488355328) (hbase : base ≤ w.heap.size)
    (h : ∀ v' w', w'.ownsRow base e size v' (n + m) (xs ++ news) → w.grownBy w' v.ownBlock → (v'.ownBlock = v.ownBlock ∨ v'.ownBlock = some w.heap.size) → wpList P ops Q rest (a.put o.dst v') w') : wpList P ops Q (o :: rest) a w :=
 wpList_plain hgd fun _ hK => wp_append_here w s x t ho base e i z size bytes ht hi hz hsize hby hzs hsz v n xs hs hown ad m c news hx hl hnews h1 hm h63 hbytes hbase fun v' w' h2 h3 h4 => hK _ _ (h v' w' h2 h3 h4)
end

structure Slot where
 a : Option Addr
 e : TypeId
 k : Nat
 xs : List Value

structure Owned (w : World) (base : Nat) (L : List Slot) (V : Nat → Value) (St : Addr → Value → Prop) : Prop where
 own : ∀ (i : Nat) (s : Slot), L[i]? = some s → ∃ n, w.ownsRow base s.e s.k (V i) n s.xs
 slot : ∀ (i : Nat) (s : Slot) (a : Addr), L[i]? = some s → s.a = some a → a.spot = none ∧ base ≤ a.block ∧ w.frozen? a = false ∧ (w.cell? a).isSome = true
 slots : ∀ (i j : Nat) (s t : Slot) (a : Addr), L[i]? = some s → L[j]? = some t → i ≠ j → s.a = some a → t.a ≠ some a
 rows : ∀ (i j : Nat) (s t : Slot) (g : Nat), L[i]? = some s → L[j]? = some t → i ≠ j → (V i).ownBlock = some g → (V j).ownBlock ≠ some g
 off : ∀ (i j : Nat) (s t : Slot) (a : Addr), L[i]? = some s → L[j]? = some t → t.a = some a → (V i).ownBlock ≠ some a.block
 st : ∀ (a : Addr) (v : Value), St a v → a.spot = none ∧ w.cell? a = some v ∧ ∀ (i : Nat) (s : Slot), L[i]? = some s → s.a ≠ some a ∧ (V i).ownBlock ≠ some a.block

def upd (V : Nat → Value) (i : Nat) (v : Value) : Nat → Value := fun j => if j = i then v else V j
theorem upd_same (V : Nat → Value) (i : Nat) (v : Value) : upd V i v i = v := by simp [upd]
theorem upd_ne (V : Nat → Value) {i j : Nat} (v : Value) (h : j ≠ i) : upd V i v j = V j := by simp [upd, h]
theorem set_get {L : List Slot} {i : Nat} {s s' : Slot} (hi : L[i]? = some s) (ha : s'.a = s.a) : ∀ {j : Nat} {t : Slot}, (L.set i s')[j]? = some t → ∃ t0, L[j]? = some t0 ∧ t.a = t0.a ∧ (j = i → t0 = s ∧ t = s') ∧ (j ≠ i → t = t0) := by
 have hil : i < L.length := (List.getElem?_eq_some_iff.1 hi).1
 intro j t hj
 rw [List.getElem?_set] at hj
 split at hj
 ·rename_i he
  subst he
  injection hj with hj
  subst hj
  exact ⟨s, hi, ha, fun _ => ⟨rfl, rfl⟩, fun e => absurd rfl e⟩
 ·rename_i he
  exact ⟨t, hj, rfl, fun e => absurd e.symm he, fun _ => rfl⟩

section
variable {w w' : World} {base : Nat} {L : List Slot} {V : Nat → Value} {St : Addr → Value → Prop}

theorem kept_cell {a : Addr} (hb : Below w.heap.size w w') (ha : (w.cell? a).isSome = true) : w'.cell? a = w.cell? a ∧ w'.frozen? a = w.frozen? a := by
 obtain ⟨u, hu⟩ := Option.isSome_iff_exists.1 ha
 have := block_lt_of_cell hu
 exact ⟨hb.cell this, hb.frozen this⟩
theorem Owned.keep (h : Owned w base L V St) (hb : Below w.heap.size w w') : Owned w' base L V St := by
 refine ⟨fun i s hs => ?_, fun i s a hs ha => ?_, h.slots, h.rows, h.off, fun a v hv => ?_⟩
 ·obtain ⟨n, hn⟩ := h.own i s hs
  refine ⟨n, hn.kept (grownBy_below hb none) ?_⟩
  cases (V i).ownBlock <;> simp
 ·obtain ⟨h1, h2, h3, h4⟩ := h.slot i s a hs ha
  obtain ⟨k1, k2⟩ := kept_cell hb h4
  exact ⟨h1, h2, by rw [k2]; exact h3, by rw [k1]; exact h4⟩
 ·obtain ⟨h1, h2, h3⟩ := h.st a v hv
  exact ⟨h1, by rw [(kept_cell hb (by rw [h2]; rfl)).1]; exact h2, h3⟩
theorem Owned.weak {St' : Addr → Value → Prop} (h : Owned w base L V St) (hs : ∀ a v, St' a v → St a v) : Owned w base L V St' :=
 ⟨h.own, h.slot, h.slots, h.rows, h.off, fun a v hv => h.st a v (hs a v hv)⟩
theorem Owned.lt (h : Owned w base L V St) {i : Nat} {s : Slot} (hi : L[i]? = some s) : ∀ g, (V i).ownBlock = some g → base ≤ g ∧ g < w.heap.size := by
 obtain ⟨n, hn⟩ := h.own i s hi
 exact hn.lt
theorem Owned.bound (h : Owned w base L V St) : ∀ (i : Nat) (s : Slot), L[i]? = some s → (∀ a, s.a = some a → a.block < w.heap.size) ∧ ∀ g, (V i).ownBlock = some g → g < w.heap.size := fun i s hs => by
 refine ⟨fun a ha => ?_, fun g hg => (h.lt hs g hg).2⟩
 obtain ⟨h1, h2, h3, h4⟩ := h.slot i s a hs ha
 obtain ⟨u, hu⟩ := Option.isSome_iff_exists.1 h4
 exact block_lt_of_cell hu
theorem Owned.more {St' : Addr → Value → Prop} (h : Owned w base L V St) (hb : Below w.heap.size w w') (hn : ∀ a v, St' a v → a.spot = none ∧ w.heap.size ≤ a.block ∧ w'.cell? a = some v) : Owned w' base L V (fun a v => St a v ∨ St' a v) := by
 have hk := h.keep hb
 refine ⟨hk.own, hk.slot, hk.slots, hk.rows, hk.off, fun a v hv => ?_⟩
 rcases hv with hv | hv
 ·exact hk.st a v hv
 ·obtain ⟨h1, h2, h3⟩ := hn a v hv
  refine ⟨h1, h3, fun i s hs => ⟨fun e => ?_, fun e => ?_⟩⟩
  ·have := (h.bound i s hs).1 a e
   omega
  ·have := (h.bound i s hs).2 _ e
   omega
theorem append_get {L : List Slot} {s : Slot} : ∀ {j : Nat} {t : Slot}, (L ++ [s])[j]? = some t → (j < L.length ∧ L[j]? = some t) ∨ (j = L.length ∧ t = s) := by
 intro j t hj
 rcases Nat.lt_or_ge j L.length with h | h
 ·rw [List.getElem?_append_left h] at hj; exact .inl ⟨h, hj⟩
 ·rw [List.getElem?_append_right h] at hj
  rcases Nat.eq_zero_or_pos (j - L.length) with h0 | h0
  ·rw [h0] at hj
   simp at hj
   exact .inr ⟨by omega, hj.symm⟩
  ·rw [List.getElem?_eq_none (by simp; omega)] at hj
   cases hj
theorem Owned.slot_more {s : Slot} {v : Value} {n : Nat} {St' : Addr → Value → Prop} (h : Owned w base L V St) (hb : Below w.heap.size w w') (ho : w'.ownsRow base s.e s.k v n s.xs) (hv : ∀ g, v.ownBlock = some g → w.heap.size ≤ g)
    (ha : ∀ a, s.a = some a → a.spot = none ∧ w.heap.size ≤ a.block ∧ base ≤ a.block ∧ w'.frozen? a = false ∧ (w'.cell? a).isSome = true ∧ v.ownBlock ≠ some a.block)
    (hn : ∀ a u, St' a u → a.spot = none ∧ w.heap.size ≤ a.block ∧ w'.cell? a = some u ∧ s.a ≠ some a ∧ v.ownBlock ≠ some a.block) :
    Owned w' base (L ++ [s]) (upd V L.length v) (fun a v => St a v ∨ St' a v) := by
 have hk := h.keep hb
 have hlt : ∀ {j : Nat}, j < L.length → upd V L.length v j = V j := fun hj => upd_ne _ _ (by omega)
 refine ⟨fun i t hi => ?_, fun i t a hi hta => ?_, fun i j t u a hi hj hij hta => ?_, fun i j t u g hi hj hij hg => ?_, fun i j t u a hi hj hua => ?_, fun a u hst => ?_⟩
 ·rcases append_get hi with ⟨h1, h2⟩ | ⟨rfl, rfl⟩
  ·rw [hlt h1]; exact hk.own i t h2
  ·rw [upd_same]; exact ⟨n, ho⟩
 ·rcases append_get hi with ⟨h1, h2⟩ | ⟨rfl, rfl⟩
  ·exact hk.slot i t a h2 hta
  ·obtain ⟨a1, a2, a3, a4, a5, a6⟩ := ha a hta
   exact ⟨a1, a3, a4, a5⟩
 ·rcases append_get hi with ⟨h1, h2⟩ | ⟨rfl, rfl⟩ <;> rcases append_get hj with ⟨k1, k2⟩ | ⟨rfl, rfl⟩
  ·exact hk.slots i j t u a h2 k2 hij hta
  ·intro e
   have := (h.bound i t h2).1 a hta
   have := (ha a e).2.1
   omega
  ·intro e
   have := (h.bound j u k2).1 a e
   have := (ha a hta).2.1
   omega
  ·exact absurd rfl hij
 ·rcases append_get hi with ⟨h1, h2⟩ | ⟨rfl, rfl⟩ <;> rcases append_get hj with ⟨k1, k2⟩ | ⟨rfl, rfl⟩
  ·rw [hlt h1] at hg
   rw [hlt k1]; exact hk.rows i j t u g h2 k2 hij hg
  ·rw [hlt h1] at hg
   rw [upd_same]
   intro e
   have := (h.bound i t h2).2 g hg
   have := hv g e
   omega
  ·rw [upd_same] at hg
   rw [hlt k1]
   intro e
   have := (h.bound j u k2).2 g e
   have := hv g hg
   omega
  ·exact absurd rfl hij
 ·rcases append_get hi with ⟨h1, h2⟩ | ⟨rfl, rfl⟩ <;> rcases append_get hj with ⟨k1, k2⟩ | ⟨rfl, rfl⟩
  ·rw [hlt h1]; exact hk.off i j t u a h2 k2 hua
  ·rw [hlt h1]
   intro e
   have := (h.bound i t h2).2 _ e
   have := (ha a hua).2.1
   omega
  ·rw [upd_same]
   intro e
   have := (h.bound j u k2).1 a hua
   have := hv _ e
   omega
  ·rw [upd_same]; exact (ha a hua).2.2.2.2.2
 ·rcases hst with hst | hst
  ·obtain ⟨h1, h2, h3⟩ := hk.st a u hst
   refine ⟨h1, h2, fun i t hi => ?_⟩
   rcases append_get hi with ⟨k1, k2⟩ | ⟨rfl, rfl⟩
   ·rw [hlt k1]; exact h3 i t k2
   ·rw [upd_same]
    have hlt2 := block_lt_of_cell (h.st a u hst).2.1
    refine ⟨fun e => ?_, fun e => ?_⟩
    ·have := (ha a e).2.1; omega
    ·have := hv _ e; omega
  ·obtain ⟨h1, h2, h3, h4, h5⟩ := hn a u hst
   refine ⟨h1, h3, fun i t hi => ?_⟩
   rcases append_get hi with ⟨k1, k2⟩ | ⟨rfl, rfl⟩
   ·rw [hlt k1]
    refine ⟨fun e => ?_, fun e => ?_⟩
    ·have := (h.bound i t k2).1 a e; omega
    ·have := (h.bound i t k2).2 _ e; omega
   ·rw [upd_same]; exact ⟨h4, h5⟩
theorem Owned.nil (w : World) (base : Nat) (V : Nat → Value) : Owned w base [] V (fun _ _ => False) :=
 ⟨fun i s h => by simp at h, fun i s a h => by simp at h, fun i j s t a h => by simp at h, fun i j s t g h => by simp at h, fun i j s t a h => by simp at h, fun a v h => h.elim⟩

theorem Owned.append (h : Owned w base L V St) {i : Nat} {s : Slot} {v' : Value} {news : List Value} {m : Nat} (hi : L[i]? = some s)
    (ho : w'.ownsRow base s.e s.k v' m (s.xs ++ news)) (hg : w.grownBy w' (V i).ownBlock) (hv : v'.ownBlock = (V i).ownBlock ∨ v'.ownBlock = some w.heap.size) :
    Owned w' base (L.set i { s with xs := s.xs ++ news }) (upd V i v') St ∧ ∀ (j : Nat) (t : Slot) (a : Addr), L[j]? = some t → t.a = some a → w'.cell? a = w.cell? a := by
 have hget := fun {j : Nat} {t : Slot} => set_get (s' := { s with xs := s.xs ++ news }) hi rfl (j := j) (t := t)
 have hnew : ∀ {j : Nat} {t0 : Slot} {g : Nat}, L[j]? = some t0 → (upd V i v' j).ownBlock = some g → (V j).ownBlock = some g ∨ (j = i ∧ g = w.heap.size) := by
  intro j t0 g hj hgj
  by_cases he : j = i
  ·subst he
   rw [upd_same] at hgj
   rcases hv with hv | hv
   ·rw [hv] at hgj; exact .inl hgj
   ·rw [hv] at hgj; injection hgj with hgj; exact .inr ⟨rfl, hgj.symm⟩
  ·rw [upd_ne _ _ he] at hgj; exact .inl hgj
 have hcell : ∀ {a : Addr}, (w.cell? a).isSome = true → (V i).ownBlock ≠ some a.block → w'.cell? a = w.cell? a ∧ w'.frozen? a = w.frozen? a := by
  intro a ha hne
  obtain ⟨u, hu⟩ := Option.isSome_iff_exists.1 ha
  have := hg.block a.block (block_lt_of_cell hu) (fun e => hne e.symm)
  exact ⟨World.cell?_of_block this, World.frozen?_of_block this⟩
 have hb := h.bound
 refine ⟨⟨fun j t hj => ?_, fun j t a hj hta => ?_, fun j k t u a hj hk hjk hta => ?_, fun j k t u g hj hk hjk hgj => ?_, fun j k t u a hj hk hua => ?_, fun a v hst => ?_⟩, fun j t a hj hta => ?_⟩
 ·obtain ⟨t0, h0, _, h2, h3⟩ := hget hj
  by_cases he : j = i
  ·obtain ⟨rfl, rfl⟩ := h2 he
   subst he
   rw [upd_same]
   exact ⟨m, ho⟩
  ·rw [upd_ne _ _ he]
   obtain rfl := h3 he
   obtain ⟨n, hn⟩ := h.own j t h0
   refine ⟨n, hn.kept hg ?_⟩
   cases hgj : (V j).ownBlock with
   | none => exact .inl rfl
   | some g => exact .inr fun e => h.rows j i t s g h0 hi he hgj e.symm
 ·obtain ⟨t0, h0, h1, _, _⟩ := hget hj
  rw [h1] at hta
  obtain ⟨k1, k2, k3, k4⟩ := h.slot j t0 a h0 hta
  obtain ⟨q1, q2⟩ := hcell k4 (h.off i j s t0 a hi h0 hta)
  exact ⟨k1, k2, by rw [q2]; exact k3, by rw [q1]; exact k4⟩
 ·obtain ⟨t0, h0, h1, _, _⟩ := hget hj
  obtain ⟨u0, g0, g1, _, _⟩ := hget hk
  rw [h1] at hta
  rw [g1]
  exact h.slots j k t0 u0 a h0 g0 hjk hta
 ·obtain ⟨t0, h0, h1, _, _⟩ := hget hj
  obtain ⟨u0, g0, g1, _, _⟩ := hget hk
  intro hgk
  rcases hnew h0 hgj with a1 | ⟨a1, a2⟩
  ·rcases hnew g0 hgk with b1 | ⟨b1, b2⟩
   ·exact h.rows j k t0 u0 g h0 g0 hjk a1 b1
   ·have := (hb j t0 h0).2 g a1
    omega
  ·rcases hnew g0 hgk with b1 | ⟨b1, b2⟩
   ·have := (hb k u0 g0).2 g b1
    omega
   ·exact hjk (a1.trans b1.symm)
 ·obtain ⟨t0, h0, h1, _, _⟩ := hget hj
  obtain ⟨u0, g0, g1, _, _⟩ := hget hk
  rw [g1] at hua
  intro hgj
  rcases hnew h0 hgj with a1 | ⟨a1, a2⟩
  ·exact h.off j k t0 u0 a h0 g0 hua a1
  ·have := (hb k u0 g0).1 a hua
   omega
 ·obtain ⟨h1, h2, h3⟩ := h.st a v hst
  refine ⟨h1, by rw [(hcell (by rw [h2]; rfl) (h3 i s hi).2).1]; exact h2, fun j t hj => ?_⟩
  obtain ⟨t0, h0, h4, _, _⟩ := hget hj
  refine ⟨by rw [h4]; exact (h3 j t0 h0).1, fun hgj => ?_⟩
  rcases hnew h0 hgj with a1 | ⟨a1, a2⟩
  ·exact (h3 j t0 h0).2 a1
  ·have := block_lt_of_cell h2
   omega
 ·exact (hcell (h.slot j t a hj hta).2.2.2 (h.off i j s t a hi hj hta)).1
theorem Owned.store (h : Owned w base L V St) {i : Nat} {s : Slot} {a : Addr} (hi : L[i]? = some s) (ha : s.a = some a) (u : Value) :
    Owned (w.setCell a u) base L V St ∧ (w.setCell a u).cell? a = some u ∧ ∀ (j : Nat) (t : Slot) (b : Addr), L[j]? = some t → j ≠ i → t.a = some b → (w.setCell a u).cell? b = w.cell? b := by
 obtain ⟨s1, s2, s3, s4⟩ := h.slot i s a hi ha
 refine ⟨⟨fun j t hj => ?_, fun j t b hj hb => ?_, h.slots, h.rows, h.off, fun b v hst => ?_⟩, cell_set_same s4, fun j t b hj hne hb => cell_set_ne (fun e => h.slots i j s t a hi hj (Ne.symm hne) ha (by rw [e]; exact hb)) s1 (h.slot j t b hj hb).1⟩
 ·obtain ⟨n, hn⟩ := h.own j t hj
  exact ⟨n, hn.kept grownBy_set (.inr (h.off j i t s a hj hi ha))⟩
 ·obtain ⟨t1, t2, t3, t4⟩ := h.slot j t b hj hb
  refine ⟨t1, t2, by rw [frozen_set]; exact t3, ?_⟩
  by_cases he : a = b
  ·rw [← he, cell_set_same s4]; rfl
  ·rw [cell_set_ne he s1 t1]; exact t4
 ·obtain ⟨h1, h2, h3⟩ := h.st b v hst
  exact ⟨h1, by rw [cell_set_ne (fun e => (h3 i s hi).1 (by rw [ha, e])) s1 h1]; exact h2, h3⟩
theorem Owned.elem (h : Owned w base L V St) {i : Nat} {s : Slot} {g c : Nat} (hi : L[i]? = some s) (hg : (V i).ownBlock = some g) (u : Value) :
    Owned (w.setCell ⟨g, c, none⟩ u) base (L.set i { s with xs := s.xs.set c u }) V St ∧ ∀ (j : Nat) (t : Slot) (a : Addr), L[j]? = some t → t.a = some a → (w.setCell ⟨g, c, none⟩ u).cell? a = w.cell? a := by
 have hget := fun {j : Nat} {t : Slot} => set_get (s' := { s with xs := s.xs.set c u }) hi rfl (j := j) (t := t)
 have hne : ∀ {a : Addr}, (V i).ownBlock ≠ some a.block → (⟨g, c, none⟩ : Addr) ≠ a := fun {a} hh e => hh (by rw [← e]; exact hg)
 refine ⟨⟨fun j t hj => ?_, fun j t a hj hta => ?_, fun j k t t' a hj hk hjk hta => ?_, fun j k t t' b hj hk hjk hgj => ?_, fun j k t t' a hj hk hta => ?_, fun a v hst => ?_⟩, fun j t a hj hta => ?_⟩
 ·obtain ⟨t0, h0, _, h2, h3⟩ := hget hj
  by_cases he : j = i
  ·obtain ⟨rfl, rfl⟩ := h2 he
   subst he
   obtain ⟨n, hn⟩ := h.own j t0 h0
   refine ⟨n, by simpa using hn.1, ?_⟩
   rcases hn.2 with ⟨e0, _⟩ | ⟨g', cap, cur, e0, hb, hgg, hnc, hm, hs, ht⟩
   ·rw [e0] at hg; simp [Value.ownBlock] at hg
   ·rw [e0] at hg
    simp only [Value.ownBlock, Option.some.injEq] at hg
    subst hg
    refine .inr ⟨g', cap, cur.setIfInBounds c u, e0, hb, ?_, hnc, hm, by simpa using hs, ?_⟩
    ·simp [World.setCell, Array.getElem?_modify, hgg]
    ·rw [← ht, Array.toList_setIfInBounds, List.take_set]
  ·obtain rfl := h3 he
   obtain ⟨n, hn⟩ := h.own j t h0
   refine ⟨n, hn.kept grownBy_set ?_⟩
   cases hgj : (V j).ownBlock with
   | none => exact .inl rfl
   | some g' =>
    refine .inr fun e => ?_
    simp only [Option.some.injEq] at e
    subst e
    exact h.rows j i t s g' h0 hi he hgj hg
 ·obtain ⟨t0, h0, h1, _, _⟩ := hget hj
  rw [h1] at hta
  obtain ⟨k1, k2, k3, k4⟩ := h.slot j t0 a h0 hta
  exact ⟨k1, k2, by rw [frozen_set]; exact k3, by rw [cell_set_ne (hne (h.off i j s t0 a hi h0 hta)) rfl k1]; exact k4⟩
 ·obtain ⟨t0, h0, h1, _, _⟩ := hget hj
  obtain ⟨u0, g0, g1, _, _⟩ := hget hk
  rw [h1] at hta
  rw [g1]
  exact h.slots j k t0 u0 a h0 g0 hjk hta
 ·obtain ⟨t0, h0, h1, _, _⟩ := hget hj
  obtain ⟨u0, g0, g1, _, _⟩ := hget hk
  exact h.rows j k t0 u0 b h0 g0 hjk hgj
 ·obtain ⟨t0, h0, h1, _, _⟩ := hget hj
  obtain ⟨u0, g0, g1, _, _⟩ := hget hk
  rw [g1] at hta
  exact h.off j k t0 u0 a h0 g0 hta
 ·obtain ⟨h1, h2, h3⟩ := h.st a v hst
  refine ⟨h1, by rw [cell_set_ne (hne (h3 i s hi).2) rfl h1]; exact h2, fun j t hj => ?_⟩
  obtain ⟨t0, h0, h4, _, _⟩ := hget hj
  rw [h4]
  exact h3 j t0 h0
 ·exact cell_set_ne (hne (h.off i j s t a hi hj hta)) rfl (h.slot j t a hj hta).1
end

structure Desk (w : World) (base : Nat) (L : List Slot) (St : Addr → Value → Prop) : Prop where
 ex : ∃ V, Owned w base L V St ∧ ∀ (i : Nat) (s : Slot) (a : Addr), L[i]? = some s → s.a = some a → w.cell? a = some (V i)
section
variable {w w' : World} {base : Nat} {L : List Slot} {St : Addr → Value → Prop}
theorem Desk.keep (h : Desk w base L St) (hb : Below w.heap.size w w') : Desk w' base L St := by
 obtain ⟨V, h1, h2⟩ := h.ex
 refine ⟨V, h1.keep hb, fun i s a hi ha => ?_⟩
 have h3 := h2 i s a hi ha
 rw [hb.cell (block_lt_of_cell h3)]; exact h3
theorem Desk.weak {St' : Addr → Value → Prop} (h : Desk w base L St) (hs : ∀ a v, St' a v → St a v) : Desk w base L St' := by
 obtain ⟨V, h1, h2⟩ := h.ex
 exact ⟨V, h1.weak hs, h2⟩
theorem Desk.cell (h : Desk w base L St) {a : Addr} {v : Value} (hs : St a v) : w.cell? a = some v := by
 obtain ⟨V, h1, h2⟩ := h.ex
 exact (h1.st a v hs).2.1
theorem Desk.more {St' : Addr → Value → Prop} (h : Desk w base L St) (hb : Below w.heap.size w w')
    (hn : ∀ a v, St' a v → a.spot = none ∧ w.heap.size ≤ a.block ∧ w'.cell? a = some v) : Desk w' base L (fun a v => St a v ∨ St' a v) := by
 obtain ⟨V, g1, g2⟩ := h.ex
 refine ⟨V, g1.more hb hn, fun i s a hi ha => ?_⟩
 have h3 := g2 i s a hi ha
 rw [hb.cell (block_lt_of_cell h3)]; exact h3
theorem Desk.row (h : Desk w base L St) {i : Nat} {s : Slot} {a : Addr} (hi : L[i]? = some s) (ha : s.a = some a) :
    ∃ v n, w.cell? a = some v ∧ w.frozen? a = false ∧ w.ownsRow base s.e s.k v n s.xs ∧ base ≤ a.block := by
 obtain ⟨V, g1, g2⟩ := h.ex
 obtain ⟨n, hn⟩ := g1.own i s hi
 obtain ⟨h1, h2, h3, h4⟩ := g1.slot i s a hi ha
 exact ⟨_, n, g2 i s a hi ha, h3, hn, h2⟩
end
end Go.Proofs.YtjmgboipbhddlaaGreatDoor
